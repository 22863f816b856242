/- The walk of the examples that each law of this layer ends with. -/
import Derived.Test.YtdcflgmbpaddhaaRI
namespace Go.Proofs.Ytdcflgmbpaddhaa
open Go.RowKit

theorem ratRow_two {w : World} {b : Nat} {t : TypeId} {x y z u : Int} (h : w.heap[b]? = some (.cells #[.int .i64 x, .int .i64 y, .int .i64 z, .int .i64 u] t (0, 0))) : RatRow w b 0 [(x, y), (z, u)] := by
  intro j hj
  have : j = 0 ∨ j = 1 := by simp at hj; omega
  rcases this with rfl | rfl <;> simp [World.cell?, h]

theorem awake_fold : ratFold (0, 1) [(1, 6), (1, 3)] = some (1, 2) := by decide

theorem i64_small {n : Int} (h : -9223372036854775808 ≤ n) (h1 : n ≤ 9223372036854775807) : I64 n := ⟨h, h1⟩

theorem awake_may : ∀ x ∈ [((1 : Int), (6 : Int)), (1, 3)], RatMay x := by
  intro x hx
  simp only [List.mem_cons, List.not_mem_nil, or_false] at hx
  rcases hx with rfl | rfl <;> exact ⟨by decide, by decide, by unfold I64; decide, by unfold I64; decide⟩

set_option maxRecDepth 100000 in
set_option maxHeartbeats 1000000 in
theorem awake_ok (w : World) :
    Calls Try.prog 13 #[] w fun e w' => e = .returned (.bool true) ∧ Below w.heap.size w w' := by
  go_enter Try.func13, Try.ntmps13
  go_wp2_with fail
  refine (product_any 1099511627776 1099511627776 1099511627776 1099511627776 (i64_small (by decide) (by decide)) (i64_small (by decide) (by decide)) (by unfold Hid; decide) (by unfold Hid; decide) _).mono ?_
  rw [show hi (1099511627776 * 1099511627776) = 65536 by decide, show lo (1099511627776 * 1099511627776) = 0 by decide]
  rintro e w1 ⟨rfl, hb⟩
  have K1 := Lib.hid (below_after (Below.refl _ _) hb)
  clear hb
  go_wp2_with fail
  refine (scale_yes 10 7 3 (i64_small (by decide) (by decide)) (i64_small (by decide) (by decide)) (i64_small (by decide) (by decide)) (by decide) (by decide) (by decide) (by decide) _).mono ?_
  rw [show (10 * 7 / 3 : Int) = 23 by decide]
  rintro e w2 ⟨rfl, hb⟩
  have K2 := Lib.hid (below_after K1.out hb)
  clear hb K1
  go_wp2_with fail
  refine (sum_some _ 0 2 [(1, 6), (1, 3)] (1, 2) awake_may awake_fold (by decide) _ (ratRow_two (blk_new w2 (.cells #[.int .i64 1, .int .i64 6, .int .i64 1, .int .i64 3] 37 (0, 0))))).mono ?_
  rintro e w3 ⟨rfl, hb⟩
  have K3 := Lib.hid (below_after (below_al K2.out _) hb)
  clear hb K2
  go_wp2
  go_ret
  exact ⟨rfl, below_al K3.out _⟩
end Go.Proofs.Ytdcflgmbpaddhaa
