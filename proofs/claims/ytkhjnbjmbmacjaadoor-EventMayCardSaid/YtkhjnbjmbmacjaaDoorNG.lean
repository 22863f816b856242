/- event.Encode's texts. -/
import Derived.Test.YtkhjnbjmbmacjaaDoorNF
import Derived.Test.YtkhjnbjmbmacjaaDoorKeep
import Derived.Lib.AppendStr
import Derived.Maps.AppendAt
namespace Go.Proofs.YtkhjnbjmbmacjaaDoor
open Go Go.RowKit Go.Proofs.YtkhjnbjmbmacjaaDoorW.PrintWords

theorem info_u8 : (Tryd.prog.info? 5).map (fun i => (i.zero, i.size, i.bytes)) = some (some (.int .u8 0), 1, 1) := by kernel_rfl
theorem info_of {P : Program} {t : TypeId} {z : Option Value} {s b : Nat} (h : (P.info? t).map (fun i => (i.zero, i.size, i.bytes)) = some (z, s, b)) : ∃ i, P.info? t = some i ∧ i.zero = z ∧ i.size = s ∧ i.bytes = b := by
  cases hi : P.info? t with
  | none => rw [hi] at h; cases h
  | some i => rw [hi] at h; simp at h; exact ⟨i, rfl, h.1, h.2.1, h.2.2⟩
/-- a row of bytes is no block of another type -/
theorem row_type {w : World} {base n g : Nat} {V : Value} {us : List Value} {cs : Array Value} {t : TypeId} {fr : Nat × Nat} (h : w.ownsRow base 5 1 V n us) (hg : w.heap[g]? = some (.cells cs t fr)) (ht : t ≠ 5) : V.ownBlock ≠ some g := by
  intro e
  rcases h.2 with ⟨rfl, _⟩ | ⟨r, c, cur, rfl, _, hr, _⟩
  · cases e
  · have e1 : r = g := Option.some.inj e
    subst e1
    rw [hg] at hr
    injection (Option.some.inj hr) with e2 e3 e4
    exact ht e3
theorem row_slice {w : World} {base n : Nat} {e : TypeId} {V : Value} {us : List Value} (h : w.ownsRow base e 1 V n us) : ∃ A c, V = .slice A n c := by
  rcases h.2 with ⟨rfl, h0⟩ | ⟨g, c, cur, rfl, _⟩
  · subst h0; exact ⟨_, _, rfl⟩
  · exact ⟨_, _, rfl⟩
def By (l : List Int) : List Value := l.map (Value.int .u8)
/-- in w the bytes l lie behind the variable gb -/
def Buf (w : World) (base gb : Nat) (Sv : Value) (us : List Value) : Prop := w.heap[gb]? = some (.cells #[Sv] 28 (0, 0)) ∧ w.ownsRow base 5 1 Sv us.length us
set_option maxHeartbeats 1000000 in
set_option maxRecDepth 100000 in
theorem text_ok (base gb : Nat) (Sv : Value) (us : List Value) (s : ByteArray) (w : World) (hB : Buf w base gb Sv us) (hn : us.length ≤ 100000) (hs : s.size ≤ 255) (hbase : base ≤ w.heap.size) :
    Calls Tryd.prog 43 #[.string s, .pointer (some ⟨gb, 0, none⟩)] w fun e w' => e = .returned (.tuple #[]) ∧ ∃ S', Buf w' base gb S' ((us ++ [.int .u8 s.size]) ++ Lib.strCells s) ∧ Touch (fun j => j = gb ∨ Sv.ownBlock = some j) w w' := by
  obtain ⟨hg, hS⟩ := hB
  have hgl := lt_of_block hg
  obtain ⟨n, hnn⟩ : ∃ n, us.length = n := ⟨_, rfl⟩
  rw [hnn] at hS hn
  have HS := Lib.hid hS
  have hd := Lib.hid (row_type hS hg (by decide))
  have hz : (s.size : Int) % 256 = (s.size : Int) := by omega
  have c0 : w.cell? ⟨gb, 0, none⟩ = some Sv := by simp [World.cell?, hg]
  have GA : Hid (∀ x1 v1 x2, (w.alloc (Obj.cells #[.int .u8 (s.size : Int)] 5 (0, 0))).grownBy x1 Sv.ownBlock → (v1.ownBlock = Sv.ownBlock ∨ v1.ownBlock = some (w.alloc (Obj.cells #[.int .u8 (s.size : Int)] 5 (0, 0))).heap.size) → World.grownBy x1 x2 (Value.ownBlock v1) →
      x2.heap[gb]? = some (.cells #[Sv] 28 (0, 0)) ∧ Touch (fun j => j = gb ∨ Sv.ownBlock = some j) w x2) := by
    intro x1 v1 x2 g1 hat g2
    have hsz : (w.alloc (Obj.cells #[.int .u8 (s.size : Int)] 5 (0, 0))).heap.size = w.heap.size + 1 := by simp
    have hv : v1.ownBlock ≠ some gb := by
      rcases hat with e | e
      · rw [e]; exact hd.out
      · rw [e, hsz]; intro e2; have := Option.some.inj e2; omega
    have h0 := Below.heap_alloc w (Obj.cells #[.int .u8 (s.size : Int)] 5 (0, 0)) gb hgl
    have h1 := g1.block gb (by omega) (fun e => hd.out e.symm)
    have h2 := g2.block gb (by have := g1.size; omega) (fun e => hv e.symm)
    refine ⟨h2.trans (h1.trans (h0.trans hg)), ⟨g2.os.trans g1.os, g2.tape.trans g1.tape, g2.output.trans g1.output, by have := g1.size; have := g2.size; omega, fun k hk hF => ?_⟩⟩
    have f1 : some k ≠ Sv.ownBlock := fun e => hF (.inr e.symm)
    have f2 : some k ≠ v1.ownBlock := by
      rcases hat with e | e
      · rw [e]; exact f1
      · rw [e, hsz]; intro e2; have := Option.some.inj e2; omega
    exact (g2.block k (by have := g1.size; omega) f2).trans ((g1.block k (by omega) f1).trans (Below.heap_alloc w _ k hk))
  have FZ : Hid (∀ x2 : World, x2.heap[gb]? = some (.cells #[Sv] 28 (0, 0)) → x2.frozen? ⟨gb, 0, none⟩ = false) := fun x2 h => by simp [World.frozen?, h]
  have FC : Hid (∀ x2 : World, x2.heap[gb]? = some (.cells #[Sv] 28 (0, 0)) → x2.cell? ⟨gb, 0, none⟩ = some Sv) := fun x2 h => by simp [World.cell?, h]
  obtain ⟨i0, hi, hz0, hz1, hz2⟩ := info_of info_u8
  have D1 : 0 < 1 := by decide
  have M1 : Hid (n + 1 ≤ maxLen ∧ (n + 1) * 1 ≤ 140737488355328 ∧ n + 1 + s.size ≤ maxLen ∧ n + 1 + s.size ≤ 140737488355328) := ⟨by unfold maxLen; omega, by omega, by unfold maxLen; omega, by omega⟩
  have S1 : Hid (base ≤ (w.alloc (Obj.cells #[.int .u8 (s.size : Int)] 5 (0, 0))).heap.size) := by unfold Hid; simp; omega
  have S2 : Hid (∀ x1 r, (w.alloc (Obj.cells #[.int .u8 (s.size : Int)] 5 (0, 0))).grownBy x1 r → base ≤ x1.heap.size) := fun x1 r g => Nat.le_trans S1.out g.size
  have E1 : Hid (∀ x ∈ [Value.int .u8 (s.size : Int)], x.oneCell' = true) := fun x hx => by obtain rfl := List.mem_singleton.1 hx; rfl
  have HU := Lib.hid hnn
  clear hS hg hgl hn hs hbase hnn
  go_enter Tryd.func43, Tryd.ntmps43
  go_wp2_with (first | (at_builtin; refine wpList_append_own_at _ rfl _ _ 28 rfl base 5 i0 (.int .u8 0) 1 1 Tryd.underlying28 hi hz0 hz1 hz2 rfl D1 _ _ _ rfl (HS.out.alloc _) ⟨w.heap.size, 0, none⟩ 1 1 [.int .u8 (s.size : Int)] rfl rfl (cell_one_new _ _ _) E1.out M1.out.1 M1.out.2.1 S1.out ?_; intro v1 x1 hown1 hgrow1 hnil1 hat1) | (at_builtin; refine Lib.wpList_append_own_string _ rfl _ _ 28 9 rfl base 5 i0 Tryd.underlying28 Tryd.underlying9 hi hz0 hz1 hz2 _ _ _ rfl hown1 s rfl M1.out.2.2.1 M1.out.2.2.2 (S2.out _ _ hgrow1) ?_; intro v2 x2 hown2 hgrow2 hnil2; obtain ⟨A2, c2, e2⟩ := row_slice hown2; subst e2; have GG := GA.out _ _ _ hgrow1 hat1 hgrow2; have fz := FZ.out _ GG.1; have fc := FC.out _ GG.1))
  have hl : ((us ++ [Value.int .u8 (s.size : Int)]) ++ Lib.strCells s).length = n + 1 + s.size := by rw [List.length_append, List.length_append, Lib.strCells_length, HU.out, List.length_singleton]
  have hne := row_type hown2 GG.1 (by decide)
  have FIN : Hid (Buf (x2.setCell ⟨gb, 0, none⟩ (.slice A2 (n + 1 + s.size) c2)) base gb (.slice A2 (n + 1 + s.size) c2) ((us ++ [.int .u8 s.size]) ++ Lib.strCells s) ∧ Touch (fun j => j = gb ∨ Sv.ownBlock = some j) w (x2.setCell ⟨gb, 0, none⟩ (.slice A2 (n + 1 + s.size) c2))) := by
    have ht : Touch (fun j => j = gb) x2 (x2.setCell ⟨gb, 0, none⟩ (.slice A2 (n + 1 + s.size) c2)) := ⟨rfl, rfl, rfl, by simp [World.setCell], fun k _ hk => Below.heap_setCell _ _ _ _ hk⟩
    refine ⟨⟨by rw [blk_set GG.1]; rfl, ?_⟩, GG.2.trans (ht.mono fun k _ e => .inl e)⟩
    rw [hl]
    refine ⟨hown2.1, hown2.2.imp id ?_⟩
    rintro ⟨g, c, cur, e, hb, hg, hr⟩
    refine ⟨g, c, cur, e, hb, (ht.block g (lt_of_block hg) (fun e2 => hne (by rw [e, ← e2]; rfl))).trans hg, hr⟩
  clear hl hne hown1 hown2 hgrow1 hgrow2 hnil1 hnil2 hat1 GG
  go_wp2_with fail
  go_end0
  exact ⟨rfl, _, FIN.out⟩
end Go.Proofs.YtkhjnbjmbmacjaaDoor
