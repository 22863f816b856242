/- The walk of the examples that each law of this layer ends with. -/
import Derived.Test.YtooapbhjnibaoaaVD
namespace Go.Proofs.Ytooapbhjnibaoaa
open Go.RowKit

theorem i64_small {n : Int} (h : -9223372036854775808 ≤ n) (h1 : n ≤ 9223372036854775807) : I64 n := ⟨h, h1⟩

set_option maxRecDepth 100000 in
set_option maxHeartbeats 1000000 in
theorem awake_ok (w : World) :
    Calls Try.prog 12 #[] w fun e w' => e = .returned (.bool true) ∧ Below w.heap.size w w' := by
  go_enter Try.func12, Try.ntmps12
  go_wp2_with fail
  refine (choose_in 5 2 (by decide) (by decide) _).mono ?_
  rw [show ch 5 2 = 10 by decide]
  rintro e w1 ⟨rfl, hb⟩
  have K1 := Lib.hid (below_after (Below.refl _ _) hb)
  clear hb
  go_wp2_with fail
  refine (tail_ok 3 2 (by decide) _).mono ?_
  rw [show part (tailF 3 2) 63 = 4 by decide, show 2 ^ 3 = 8 by decide]
  rintro e w2 ⟨rfl, hb⟩
  have T2 := blk_new w2 (.cells #[.int .i64 4, .int .i64 8] 29 (0, 0))
  have K2 := Lib.hid (below_al (below_after K1.out hb) (.cells #[.int .i64 4, .int .i64 8] 29 (0, 0)))
  clear hb K1
  go_wp2_with fail
  refine (sign_any 5 0 (by decide) 1 32 (by unfold Hid; decide) (by unfold Hid; decide) _).mono ?_
  rw [show min (2 * 1) 32 = 2 by decide]
  rintro e w3 ⟨rfl, hb⟩
  have T3 := blk_old (blk_below T2 hb) (.cells #[.int .i64 2, .int .i64 32] 29 (0, 0))
  have S3 := blk_new w3 (.cells #[.int .i64 2, .int .i64 32] 29 (0, 0))
  have K3 := Lib.hid (below_al (below_after K2.out hb) (.cells #[.int .i64 2, .int .i64 32] 29 (0, 0)))
  clear hb K2 T2
  obtain ⟨t0, t1, _, _⟩ := two_cells T3
  obtain ⟨s0, s1, _, _⟩ := two_cells S3
  go_wp2_with fail
  have HS : ∀ w, Calls Try.prog 16 #[.int .i64 9, .int .i64 1] w fun e w' => e = .returned (.tuple #[.agg #[.int .i64 22, .int .i64 1024], .bool true]) ∧ Below w.heap.size w w' := fun w =>
    sign_any 9 1 (by decide) 11 1024 (by unfold Hid; decide) (by unfold Hid; decide) w
  have HC : ∀ w, Calls Try.prog 20 #[.agg #[.int .i64 22, .int .i64 1024], .agg #[.int .i64 1, .int .i64 20]] w fun e w' => e = .returned (.int .i64 (-1)) ∧ Below w.heap.size w w' := fun w =>
    compare_any 22 1024 1 20 (-1) (22, 1024) (1, 20) (i64_small (by decide) (by decide)) (i64_small (by decide) (by decide)) (i64_small (by decide) (by decide)) (i64_small (by decide) (by decide)) (by unfold Hid; decide) (by unfold Hid; decide) (by unfold Hid; decide) w
  refine (of_yes _ _ 20 9 0 1 0 1 20 22 1024 (-1) (by decide) HS HC 1 (by unfold Hid; decide) _).mono ?_
  rintro e w4 ⟨rfl, hb⟩
  have K4 := Lib.hid (below_after K3.out hb)
  clear hb K3 T3 S3 t0 t1 s0 s1 HS HC
  go_wp2
  go_ret
  exact ⟨rfl, K4.out⟩
end Go.Proofs.Ytooapbhjnibaoaa
