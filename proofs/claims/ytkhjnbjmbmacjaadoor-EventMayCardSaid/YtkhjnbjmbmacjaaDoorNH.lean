/- event.groups: a number by seven bits, behind an own row. -/
import Derived.Test.YtkhjnbjmbmacjaaDoorNG
namespace Go.Proofs.YtkhjnbjmbmacjaaDoor
open Go Go.RowKit Go.Proofs.YtkhjnbjmbmacjaaDoorW.PrintWords

def grF (n : Nat) : List Int := if 128 ≤ n then ((n % 128 + 128 : Nat) : Int) :: grF (n / 128) else [(n : Int)]
termination_by n
/-- the row that grew: its block is the old one, or a new one; nothing else has turned -/
def Grew (w w' : World) (Sv S' : Value) : Prop := Touch (fun j => Sv.ownBlock = some j) w w' ∧ (S'.ownBlock = Sv.ownBlock ∨ ∃ j, S'.ownBlock = some j ∧ w.heap.size ≤ j)
theorem Grew.refl (w : World) (S : Value) : Grew w w S S := ⟨Touch.refl _ _, .inl rfl⟩
theorem Grew.step {w w1 w2 : World} {S S1 S2 : Value} {o : Obj} (h : Grew w w1 S S1) (g : (w1.alloc o).grownBy w2 S1.ownBlock) (hat : S2.ownBlock = S1.ownBlock ∨ S2.ownBlock = some (w1.alloc o).heap.size) : Grew w w2 S S2 := by
  have hsz : (w1.alloc o).heap.size = w1.heap.size + 1 := by simp
  have h1 := h.1.size
  refine ⟨⟨g.os.trans h.1.os, g.tape.trans h.1.tape, g.output.trans h.1.output, by have := g.size; omega, fun k hk hF => ?_⟩, ?_⟩
  · have e1 : some k ≠ S1.ownBlock := by
      rcases h.2 with e | ⟨j, e, hj⟩
      · rw [e]; exact fun e2 => hF e2.symm
      · rw [e]; intro e2; have := Option.some.inj e2; omega
    exact (g.block k (by omega) e1).trans ((Below.heap_alloc w1 o k (by omega)).trans (h.1.block k hk hF))
  · rcases hat with e | e
    · rw [e]; exact h.2
    · exact .inr ⟨_, e, by omega⟩
set_option maxHeartbeats 1000000 in
set_option maxRecDepth 100000 in
theorem groups_ok (base : Nat) (Sv : Value) (us : List Value) (n : Nat) (w : World) (hS : w.ownsRow base 5 1 Sv us.length us) (hn : n ≤ 1099511627776) (hl : us.length ≤ 10000) (hbase : base ≤ w.heap.size) :
    Calls Tryd.prog 44 #[Sv, .int .i64 n] w fun e w' => ∃ S', e = .returned S' ∧ w'.ownsRow base 5 1 S' (us ++ By (grF n)).length (us ++ By (grF n)) ∧ Grew w w' Sv S' := by
  obtain ⟨R, hR⟩ : ∃ R, us ++ By (grF n) = R := ⟨_, rfl⟩
  rw [hR]
  have H0 : Hid (w.ownsRow base 5 1 Sv us.length us ∧ us ++ By (grF n) = R ∧ Grew w w Sv Sv ∧ base ≤ w.heap.size) := ⟨hS, hR, Grew.refl _ _, hbase⟩
  clear hR hS hbase
  obtain ⟨i0, hi, hz0, hz1, hz2⟩ := info_of info_u8
  have D1 : 0 < 1 := by decide
  go_enter Tryd.func44, Tryd.ntmps44
  go_wp2_with fail
  go_loopw [0, 1] (fun s0 s1 wr => ∃ (m : Nat) (S : Value) (vs : List Value), vs.length + m ≤ 1099511638000 ∧ s0 = S ∧ s1 = .int .i64 m ∧ Hid (wr.ownsRow base 5 1 S vs.length vs ∧ vs ++ By (grF m) = R ∧ Grew w wr Sv S ∧ base ≤ wr.heap.size)) (fun _ s1 _ => (intOf s1).toNat)
  case atStart => exact ⟨n, Sv, us, by omega, rfl, rfl, H0⟩
  case round =>
    clear H0
    obtain ⟨m, S, vs, hm, rfl, rfl, H⟩ := hrel
    obtain ⟨wo, rfl⟩ : ∃ wo : World, wo = wr := ⟨_, rfl⟩
    obtain ⟨A0, c0, e0⟩ := row_slice H.out.1
    obtain ⟨z, hzl⟩ : ∃ z, vs.length = z := ⟨_, rfl⟩
    have HZ := Lib.hid hzl
    rw [hzl] at hm e0
    subst e0
    by_cases h : 128 ≤ m
    · have h' : (128 : Int) ≤ m := by omega
      obtain ⟨q, hq⟩ : ∃ q : Nat, m / 128 = q := ⟨_, rfl⟩
      obtain ⟨r, hr⟩ : ∃ r : Nat, m % 128 = r := ⟨_, rfl⟩
      have e1 : Int.tdiv (m : Int) 128 = (q : Int) := by rw [← hq]; rfl
      have e2 : Int.tmod (m : Int) 128 = (r : Int) := by rw [← hr]; rfl
      have e3 : ((r : Int) + 128) % 256 = (r : Int) + 128 := by omega
      have hR2 : Hid (By (grF m) = Value.int .u8 ((r : Int) + 128) :: By (grF q)) := by
        unfold Hid
        rw [grF, if_pos h, hq, hr]
        simp [By]
      have HS : Hid (wo.ownsRow base 5 1 (.slice A0 z c0) z vs) := by have := H.out.1; rw [HZ.out] at this; exact this
      have M1 : Hid (z + 1 ≤ maxLen ∧ (z + 1) * 1 ≤ 140737488355328) := ⟨by unfold maxLen; omega, by omega⟩
      have S1 : Hid (base ≤ (wo.alloc (Obj.cells #[Value.int .u8 ((r : Int) + 128)] 5 (0, 0))).heap.size) := by have := H.out.2.2.2; unfold Hid; simp; omega
      have E1 : Hid (∀ x ∈ [Value.int .u8 ((r : Int) + 128)], x.oneCell' = true) := fun x hx => by obtain rfl := List.mem_singleton.1 hx; rfl
      have hql : q < m := by omega
      have hm2 : z + 1 + q ≤ 1099511638000 := by omega
      clear hq hr hzl
      go_wp2_with (at_builtin; refine wpList_append_own_at _ rfl _ _ 28 rfl base 5 i0 (.int .u8 0) 1 1 Tryd.underlying28 hi hz0 hz1 hz2 rfl D1 _ _ _ rfl (HS.out.alloc _) ⟨wo.heap.size, 0, none⟩ 1 1 [Value.int .u8 ((r : Int) + 128)] rfl rfl (cell_one_new _ _ _) E1.out M1.out.1 M1.out.2 S1.out ?_; intro v1 x1 hown1 hgrow1 hnil1 hat1; obtain ⟨A1, c1, e4⟩ := row_slice hown1; subst e4)
      have N : Hid (x1.ownsRow base 5 1 (.slice A1 (z + 1) c1) (vs ++ [Value.int .u8 ((r : Int) + 128)]).length (vs ++ [Value.int .u8 ((r : Int) + 128)]) ∧ (vs ++ [Value.int .u8 ((r : Int) + 128)]) ++ By (grF q) = R ∧ Grew w x1 Sv (.slice A1 (z + 1) c1) ∧ base ≤ x1.heap.size) := by
        refine ⟨?_, ?_, H.out.2.2.1.step hgrow1 hat1, Nat.le_trans S1.out hgrow1.size⟩
        · rw [List.length_append, HZ.out]; exact hown1
        · rw [List.append_assoc, ← H.out.2.1, hR2.out]; rfl
      have NL : (vs ++ [Value.int .u8 ((r : Int) + 128)]).length + q ≤ 1099511638000 := by rw [List.length_append, HZ.out]; exact hm2
      clear hown1 hgrow1 hnil1 hat1 H HS
      go_roundw
      case rel => exact ⟨q, _, _, NL, rfl, rfl, N⟩
      case measure => simp [intOf]; omega
    · have h' : ¬ (128 : Int) ≤ m := by omega
      have e3 : (m : Int) % 256 = (m : Int) := by omega
      have hR2 : Hid (By (grF m) = [Value.int .u8 (m : Int)]) := by
        unfold Hid
        rw [grF, if_neg h]
        simp [By]
      have HS : Hid (wo.ownsRow base 5 1 (.slice A0 z c0) z vs) := by have := H.out.1; rw [HZ.out] at this; exact this
      have M1 : Hid (z + 1 ≤ maxLen ∧ (z + 1) * 1 ≤ 140737488355328) := ⟨by unfold maxLen; omega, by omega⟩
      have S1 : Hid (base ≤ (wo.alloc (Obj.cells #[Value.int .u8 (m : Int)] 5 (0, 0))).heap.size) := by have := H.out.2.2.2; unfold Hid; simp; omega
      have E1 : Hid (∀ x ∈ [Value.int .u8 (m : Int)], x.oneCell' = true) := fun x hx => by obtain rfl := List.mem_singleton.1 hx; rfl
      clear hzl
      go_wp2_with (at_builtin; refine wpList_append_own_at _ rfl _ _ 28 rfl base 5 i0 (.int .u8 0) 1 1 Tryd.underlying28 hi hz0 hz1 hz2 rfl D1 _ _ _ rfl (HS.out.alloc _) ⟨wo.heap.size, 0, none⟩ 1 1 [Value.int .u8 (m : Int)] rfl rfl (cell_one_new _ _ _) E1.out M1.out.1 M1.out.2 S1.out ?_; intro v1 x1 hown1 hgrow1 hnil1 hat1; obtain ⟨A1, c1, e4⟩ := row_slice hown1; subst e4)
      have N : Hid (x1.ownsRow base 5 1 (.slice A1 (z + 1) c1) R.length R ∧ Grew w x1 Sv (.slice A1 (z + 1) c1)) := by
        refine ⟨?_, H.out.2.2.1.step hgrow1 hat1⟩
        rw [← H.out.2.1, hR2.out, List.length_append, HZ.out]; exact hown1
      clear hown1 hgrow1 hnil1 hat1 H HS
      go_ret
      exact ⟨_, rfl, N.out⟩
end Go.Proofs.YtkhjnbjmbmacjaaDoor
