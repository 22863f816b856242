/- The walk of the law of calls. -/
import Derived.Test.YtooapbhjnibaoaaVR
import Derived.Test.YtooapbhjnibaoaaVI
import Derived.Maps.OwnOps
import Derived.Maps.Views
namespace Go.Proofs.Ytooapbhjnibaoaa
open Go.RowKit Go.Maps

theorem wpList_insert_own {H : Type} {P : Program} (w : World) {ops : Array Oper} {rest : List Oper} {o : Oper} {a : Act} {Q : Exit → Act → World → Prop}
    (hg : o.guard = none) (m x v : Operand) (t : TypeId) (hop : o.op = Op.insert t m x v)
    (k e : TypeId) (K : Keyed P k) (ht : P.underlying t = some (.map k e)) (R : Value → Option (DataW H × List MemPlace)) (b n : Nat) (D : DataW H)
    (hm : a.eval m = .map (some b)) (hown : w.ownsMap P k R b n D) (hn : n < maxLen) (key val : Value) (kl : Lit) (hx : a.eval x = key) (hv : a.eval v = val) (hkey : keyOf P k key = some kl)
    (d : DataW H) (ps : List MemPlace) (hval : R val = some (d, ps))
    (hK : ∀ w', w'.ownsMap P k R b (n + 1) (D.put kl d) → w.grownBy w' (some b) → wpList P ops Q rest (a.put o.dst undef) w') :
    wpList P ops Q (o :: rest) a w := by
  refine wpList_plain hg fun K' hK' => ?_
  obtain ⟨w', hrun, r1, r2⟩ := hown.update K ht hn hkey hval
  unfold Oper.wp
  simp [execOp, hop, hm, hx, hv, hrun, Result.andThen]
  exact hK' _ _ (hK w' r1 r2)

theorem callKey : Keyed Try.prog 37 := int_keyed Try.underlying37
theorem zeroCall (w : World) : (zeroValue 37).run Try.prog w = .ok (.int .i64 0) w := by kernel_rfl
theorem key_call (n : Int) (h : (Lit.int .i64 n).wf = true) : keyOf Try.prog 37 (.int .i64 n) = some (.int .i64 n) := keyOf_int_mk Try.underlying37 h
theorem put_key {H : Type} (n : Int) : (plainElem (H := H) Try.prog 37 (.int .i64 n)) = if (Lit.int .i64 n).wf = true then some (.lit (.int .i64 n), []) else none := by
  simp [plainElem, Try.underlying37]

def turnedD : DataW Unit := ((((DataW.map []).put (.int .i64 0) (.lit (.int .i64 0))).put (.int .i64 1) (.lit (.int .i64 2))).put (.int .i64 2) (.lit (.int .i64 1)))
theorem turned_at {V c : Int} (hV : V = 0 ∨ V = 1 ∨ V = 2) (h : turnedD.atKey (.int .i64 V) (.lit (.int .i64 0)) = .lit (.int .i64 c)) : c = turnV V := by
  rcases hV with rfl | rfl | rfl
  · have e : turnedD.atKey (.int .i64 0) (.lit (.int .i64 0)) = .lit (.int .i64 0) := by kernel_rfl
    rw [e] at h; cases h; rfl
  · have e : turnedD.atKey (.int .i64 1) (.lit (.int .i64 0)) = .lit (.int .i64 2) := by kernel_rfl
    rw [e] at h; cases h; rfl
  · have e : turnedD.atKey (.int .i64 2) (.lit (.int .i64 0)) = .lit (.int .i64 1) := by kernel_rfl
    rw [e] at h; cases h; rfl

set_option maxRecDepth 100000 in
set_option maxHeartbeats 2000000 in
theorem calls_walk (s1 s2 : ByteArray) (p1 b1 w1 p2 b2 w2 n d V : Int) (hV : V = 0 ∨ V = 1 ∨ V = 2) (h1 : OfIs s1 s2 p1 b1 w1 p2 b2 w2 n d V) (h2 : OfIs s2 s1 p2 b2 w2 p1 b1 w1 n d (turnV V)) (h3 : RefOfIs s1 s2 p1 b1 w1 p2 b2 w2 n d V) (w : World) :
    Calls Try.prog 7 #[.agg #[.string s1, .int .i64 p1, .int .i64 b1, .int .i64 w1], .agg #[.string s2, .int .i64 p2, .int .i64 b2, .int .i64 w2], .agg #[.int .i64 n, .int .i64 d]] w fun e w' => e = .returned (.bool true) ∧ Below w.heap.size w w' := by
  have H1 := Lib.hid h1
  have H2 := Lib.hid h2
  have H3 := Lib.hid h3
  have HV := Lib.hid hV
  clear h1 h2 h3 hV
  have hmm := @run_makeMap Try.prog
  go_enter Try.func7, Try.ntmps7
  go_wp2_with fail
  have A := blk_old (blk_old (blk_new w (.cells #[.string s1, .int .i64 p1, .int .i64 b1, .int .i64 w1] 36 (0, 0))) (.cells #[.string s2, .int .i64 p2, .int .i64 b2, .int .i64 w2] 36 (0, 0))) (.cells #[.int .i64 n, .int .i64 d] 29 (0, 0))
  have B := blk_old (blk_new_at (w := w.alloc (.cells #[.string s1, .int .i64 p1, .int .i64 b1, .int .i64 w1] 36 (0, 0))) (n := w.heap.size + 1) (.cells #[.string s2, .int .i64 p2, .int .i64 b2, .int .i64 w2] 36 (0, 0)) (by simp)) (.cells #[.int .i64 n, .int .i64 d] 29 (0, 0))
  have L := blk_new_at (w := (w.alloc (.cells #[.string s1, .int .i64 p1, .int .i64 b1, .int .i64 w1] 36 (0, 0))).alloc (.cells #[.string s2, .int .i64 p2, .int .i64 b2, .int .i64 w2] 36 (0, 0))) (n := w.heap.size + 1 + 1) (.cells #[.int .i64 n, .int .i64 d] 29 (0, 0)) (by simp)
  have K := Lib.hid (below_al (below_al (below_al (Below.refl w.heap.size w) (.cells #[.string s1, .int .i64 p1, .int .i64 b1, .int .i64 w1] 36 (0, 0))) (.cells #[.string s2, .int .i64 p2, .int .i64 b2, .int .i64 w2] 36 (0, 0))) (.cells #[.int .i64 n, .int .i64 d] 29 (0, 0)))
  refine region_calms 10 [0, 1, 2, 3, 4, 5, 6, 7, 8, 9] 0 (by kernel_rfl) (by kernel_rfl) ?_ ?_
  · intro _ _ _ _ _ h; exact h
  repeat
    refine wpCalm_ex rfl ?_
    apply Exists.intro
    refine ⟨fun wq hq => ?_, ?_⟩
    · obtain ⟨a0, a1, a2, a3⟩ := all_four (blk_below A hq)
      obtain ⟨c0, c1, c2, c3⟩ := all_four (blk_below B hq)
      obtain ⟨l0, l1, _, _⟩ := two_cells (blk_below L hq)
      go_simp
      first
        | rfl
        | (with_reducible exact H1.out _)
        | (with_reducible exact H2.out _)
    simp only [Act.put, List.setIfInBounds_toArray, List.set_cons_zero, List.set_cons_succ]
  refine wpCalm_nil (wpT_done (by kernel_rfl) fun u2 hb => ?_)
  have A := blk_below A hb
  have B := blk_below B hb
  have L := blk_below L hb
  have K := Lib.hid (below_after K.out hb)
  clear hb
  have M := World.ownsMap_made u2 Try.prog 37 (plainElem (H := Unit) Try.prog 37)
  have WF0 : (Lit.int .i64 0).wf = true := by decide
  have WF1 : (Lit.int .i64 1).wf = true := by decide
  have WF2 : (Lit.int .i64 2).wf = true := by decide
  obtain ⟨m1, r1, M1, g1⟩ := M.update callKey Try.underlying39 (by unfold maxLen; omega) (key_call 0 WF0) (plainElem_int Try.underlying37 WF0)
  obtain ⟨m2, r2, M2, g2⟩ := M1.update callKey Try.underlying39 (by unfold maxLen; omega) (key_call 1 WF1) (plainElem_int Try.underlying37 WF2)
  obtain ⟨m3, r3, M3, g3⟩ := M2.update callKey Try.underlying39 (by unfold maxLen; omega) (key_call 2 WF2) (plainElem_int Try.underlying37 WF1)
  have G := ((World.grownBy_alloc u2 (.map #[] 0) (some u2.heap.size)).trans g1).trans (g2.trans g3)
  have hA := lt_of_block A
  have hB := lt_of_block B
  have hL := lt_of_block L
  have A := (G.block _ hA (by simp; omega)).trans A
  have B := (G.block _ hB (by simp; omega)).trans B
  have L := (G.block _ hL (by simp; omega)).trans L
  have K := Lib.hid (below_grown K.out G K.out.size K.out.size)
  have MM := Lib.hid M3
  clear M M1 M2 M3 g1 g2 g3 G WF0 WF1 WF2 hA hB hL
  obtain ⟨a0, a1, a2, a3⟩ := all_four A
  obtain ⟨c0, c1, c2, c3⟩ := all_four B
  obtain ⟨l0, l1, _, _⟩ := two_cells L
  go_wp2_with fail
  refine (H3.out _).mono ?_
  rintro e u4 ⟨rfl, hb⟩
  have M4 := MM.out.kept (grown_of_below hb) (row := none) (by simp)
  have K := Lib.hid (below_after K.out hb)
  clear hb A B L a0 a1 a2 a3 c0 c1 c2 c3 l0 l1 r1 r2 r3 MM
  have WV : (Lit.int .i64 V).wf = true := by rcases HV.out with rfl | rfl | rfl <;> decide
  obtain ⟨c, hrun, hat, _⟩ := M4.lookup_int callKey Try.underlying39 Try.underlying37 (zeroCall _) (key_call V WV)
  obtain rfl := turned_at HV.out hat
  clear hat WV M4
  go_wp2_with fail
  refine (awake_ok _).mono ?_
  rintro e u5 ⟨rfl, hb⟩
  have K := Lib.hid (below_after K.out hb)
  clear hb hrun
  go_wp2_with fail
  go_ret
  exact ⟨rfl, K.out⟩

theorem calls_law (s1 : ByteArray) (p1 b1 w1 : Int) (s2 : ByteArray) (p2 b2 w2 n d : Int) (hn : (Lit.int .i64 n).wf = true) (hd : (Lit.int .i64 d).wf = true) (w : World) :
    Calls Try.prog 7 #[.agg #[.string s1, .int .i64 p1, .int .i64 b1, .int .i64 w1], .agg #[.string s2, .int .i64 p2, .int .i64 b2, .int .i64 w2], .agg #[.int .i64 n, .int .i64 d]] w fun e w' => e = .returned (.bool true) ∧ Below w.heap.size w w' := by
  obtain ⟨V, hV, h1, h2, h3⟩ := calls_any s1 s2 p1 b1 w1 p2 b2 w2 n d (i64_wf' hn) (i64_wf' hd)
  exact calls_walk s1 s2 p1 b1 w1 p2 b2 w2 n d V hV h1 h2 h3 w
end Go.Proofs.Ytooapbhjnibaoaa
