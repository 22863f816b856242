/- The walk of the law of sums. -/
import Derived.Test.YtdcflgmbpaddhaaRY
import Derived.Test.YtdcflgmbpaddhaaRJ
namespace Go.Proofs.Ytdcflgmbpaddhaa
open Go.RowKit

set_option maxRecDepth 100000 in
theorem sums_long (a : Option Addr) (n cap : Nat) (h : 12 < n) (w : World) :
    Calls Try.prog 6 #[.slice a n cap] w fun e w' => e = .returned (.bool true) ∧ Below w.heap.size w w' := by
  have h' : (12 : Int) < n := by omega
  go_enter Try.func6, Try.ntmps6
  go_wp2_with fail
  refine (awake_ok _).mono ?_
  rintro e w1 ⟨rfl, hb⟩
  have K := Lib.hid hb
  clear hb
  go_wp2
  go_ret
  exact ⟨rfl, below_after (Below.refl _ _) K.out⟩

set_option maxRecDepth 100000 in
set_option maxHeartbeats 1000000 in
theorem sums_short (a : Option Addr) (n cap : Nat) (h : n ≤ 12) (r : Int × Int) (ok : Bool) (w : World)
    (hP : ∀ w', Below w.heap.size w w' → SumOf 18 w' a n cap r ok) (hR : ∀ w', Below w.heap.size w w' → SumOf 19 w' a n cap r ok) :
    Calls Try.prog 6 #[.slice a n cap] w fun e w' => e = .returned (.bool true) ∧ Below w.heap.size w w' := by
  have h' : ¬ (12 : Int) < n := by omega
  have HP := Lib.hid hP
  have HR := Lib.hid hR
  clear hP hR
  obtain ⟨x, y⟩ := r
  go_enter Try.func6, Try.ntmps6
  go_wp2_with fail
  refine Calls.mono (HP.out _ (Below.refl _ _)) ?_
  rintro e w1 ⟨rfl, hb⟩
  have K1 := Lib.hid hb
  clear hb
  go_wp2_with fail
  refine Calls.mono (HR.out _ (below_al K1.out _)) ?_
  rintro e w2 ⟨rfl, hb⟩
  have b0 := blk_old (blk_below (blk_new w1 (.cells #[.int .i64 x, .int .i64 y] 37 (0, 0))) hb) (.cells #[.int .i64 x, .int .i64 y] 37 (0, 0))
  have b1 := blk_new w2 (.cells #[.int .i64 x, .int .i64 y] 37 (0, 0))
  have K2 := Lib.hid (below_al (below_after (below_al K1.out _) hb) (.cells #[.int .i64 x, .int .i64 y] 37 (0, 0)))
  clear hb K1
  obtain ⟨c0, c1, _, _⟩ := two_cells b0
  obtain ⟨d0, d1, _, _⟩ := two_cells b1
  go_wp2_with fail
  refine (awake_ok _).mono ?_
  rintro e w3 ⟨rfl, hb⟩
  have K3 := Lib.hid (below_after K2.out hb)
  clear hb K2 b0 b1 c0 c1 d0 d1
  go_wp2
  go_ret
  exact ⟨rfl, K3.out⟩

theorem sums_law (a : Option Addr) (n cap : Nat) (xs : List (Int × Int)) (hn : xs.length = n) (hI : ∀ x ∈ xs, I64 x.1 ∧ I64 x.2) (w : World) (hr : RatRowA w a xs) :
    Calls Try.prog 6 #[.slice a n cap] w fun e w' => e = .returned (.bool true) ∧ Below w.heap.size w w' := by
  subst hn
  by_cases h : 12 < xs.length
  · exact sums_long a _ cap h w
  · obtain ⟨r, ok, hP, hR⟩ := sum_both xs hI (by omega)
    exact sums_short a _ cap (by omega) r ok w (fun w' hb => hP w' a cap (hr.later hb)) (fun w' hb => hR w' a cap (hr.later hb))
end Go.Proofs.Ytdcflgmbpaddhaa
