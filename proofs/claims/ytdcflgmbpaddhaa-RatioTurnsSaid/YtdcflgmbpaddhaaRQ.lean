/- The walk of the law on comparisons. -/
import Derived.Test.YtdcflgmbpaddhaaRO
import Derived.Test.YtdcflgmbpaddhaaRK
namespace Go.Proofs.Ytdcflgmbpaddhaa
open Go.RowKit

set_option maxRecDepth 100000 in
set_option maxHeartbeats 2000000 in
theorem compares_any (a b c d v : Int) (m1 m2 : Bool) (p q : Int × Int) (ha : I64 a) (hb : I64 b) (hc : I64 c) (hd : I64 d) (ep : Hid (ownR (a, b) = p)) (eq : Hid (ownR (c, d) = q)) (ev : Hid (cmpI (p.1 * q.2) (q.1 * p.2) = v))
    (e1 : Hid (decide (0 ≤ a ∧ 1 ≤ b) = m1)) (e2 : Hid (decide (0 ≤ c ∧ 1 ≤ d) = m2)) (w : World) :
    Calls Try.prog 7 #[.agg #[.int .i64 a, .int .i64 b], .agg #[.int .i64 c, .int .i64 d]] w fun e w' => e = .returned (.bool true) ∧ Below w.heap.size w w' := by
  have Ha := Lib.hid ha
  have Hb := Lib.hid hb
  have Hc := Lib.hid hc
  have Hd := Lib.hid hd
  clear ha hb hc hd
  have q1 : (v == v) = true := beq_self_eq_true _
  have q2 : (m1 == m1) = true := beq_self_eq_true _
  have q3 : (m2 == m2) = true := beq_self_eq_true _
  go_enter Try.func7, Try.ntmps7
  go_wp2_with fail
  refine region_calms 25 [0, 1, 2, 3, 4, 5, 6, 7, 8, 9, 10, 11, 12, 13, 14, 15, 16, 17, 18, 19, 20, 21, 22, 23, 24] 0 (by kernel_rfl) (by kernel_rfl) ?_ ?_
  · intro _ _ _ _ _ h; exact h
  repeat
    refine wpCalm_ex rfl ?_
    apply Exists.intro
    refine ⟨fun wq hq => ?_, ?_⟩
    · obtain ⟨b0, b1, _⟩ := compare_start w wq _ _ _ _ hq
      obtain ⟨c0, c1, _, _⟩ := two_cells b0
      obtain ⟨d0, d1, _, _⟩ := two_cells b1
      clear b0 b1
      go_simp
      first
        | rfl
        | (with_reducible exact compare_any _ _ _ _ _ _ _ Ha.out Hb.out Hc.out Hd.out ep eq ev _)
        | (with_reducible exact refCompare_any _ _ _ _ _ _ _ Ha.out Hb.out Hc.out Hd.out ep eq ev _)
        | (with_reducible exact may_any e1.out _)
        | (with_reducible exact may_any e2.out _)
        | (with_reducible exact refMay_any e1.out _)
        | (with_reducible exact refMay_any e2.out _)
        | (with_reducible exact awake_ok _)
    simp only [Act.put, List.setIfInBounds_toArray, List.set_cons_zero, List.set_cons_succ]
  refine wpCalm_nil (wpT_done (by kernel_rfl) fun w1 hq => ?_)
  obtain ⟨_, _, b2⟩ := compare_start w w1 _ _ _ _ hq
  clear hq
  go_wp2
  go_ret
  exact ⟨rfl, b2⟩

theorem compares_law (a b c d : Int) (ha : (Lit.int .i64 a).wf = true) (hb : (Lit.int .i64 b).wf = true) (hc : (Lit.int .i64 c).wf = true) (hd : (Lit.int .i64 d).wf = true) (w : World) :
    Calls Try.prog 7 #[.agg #[.int .i64 a, .int .i64 b], .agg #[.int .i64 c, .int .i64 d]] w fun e w' => e = .returned (.bool true) ∧ Below w.heap.size w w' :=
  compares_any a b c d _ _ _ _ _ (i64_wf ha) (i64_wf hb) (i64_wf hc) (i64_wf hd) rfl rfl rfl rfl rfl w
end Go.Proofs.Ytdcflgmbpaddhaa
