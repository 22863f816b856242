/- The walk of the law of choices. -/
import Derived.Test.YtooapbhjnibaoaaVI
namespace Go.Proofs.Ytooapbhjnibaoaa
open Go.RowKit

set_option maxHeartbeats 1000000 in
theorem chooses_yes (n k : Int) (C : Nat) (hC : C ≤ 4611686018427387904) (h1 : ∀ w, Calls Try.prog 10 #[.int .i64 n, .int .i64 k] w fun e w' => e = .returned (.tuple #[.int .u64 (C : Nat), .bool true]) ∧ Below w.heap.size w w')
    (h2 : ∀ w, Calls Try.prog 11 #[.int .i64 n, .int .i64 k] w fun e w' => e = .returned (.int .i64 (C : Nat)) ∧ Below w.heap.size w w') (w : World) :
    Calls Try.prog 3 #[.int .i64 n, .int .i64 k] w fun e w' => e = .returned (.bool true) ∧ Below w.heap.size w w' := by
  have H1 := Lib.hid h1
  have H2 := Lib.hid h2
  clear h1 h2
  have hC0 : (0 : Int) ≤ (C : Nat) := by omega
  have hCw : IntKind.u64.wrap ((C : Nat) : Int) = (C : Nat) := by rw [IntKind.wrap_u64]; omega
  go_enter Try.func3, Try.ntmps3
  go_wp2_with fail
  refine (H1.out _).mono ?_
  rintro e w1 ⟨rfl, hb⟩
  have K := Lib.hid hb
  clear hb
  go_wp2_with fail
  refine (H2.out _).mono ?_
  rintro e w2 ⟨rfl, hb⟩
  have K := Lib.hid (below_after K.out hb)
  clear hb
  go_wp2_with fail
  refine (awake_ok _).mono ?_
  rintro e w3 ⟨rfl, hb⟩
  have K := Lib.hid (below_after K.out hb)
  clear hb
  go_wp2
  go_ret
  exact ⟨rfl, K.out⟩
set_option maxHeartbeats 1000000 in
theorem chooses_no (n k : Int) (h1 : ∀ w, Calls Try.prog 10 #[.int .i64 n, .int .i64 k] w fun e w' => e = .returned (.tuple #[.int .u64 0, .bool false]) ∧ Below w.heap.size w w')
    (h2 : ∀ w, Calls Try.prog 11 #[.int .i64 n, .int .i64 k] w fun e w' => e = .returned (.int .i64 (-1)) ∧ Below w.heap.size w w') (w : World) :
    Calls Try.prog 3 #[.int .i64 n, .int .i64 k] w fun e w' => e = .returned (.bool true) ∧ Below w.heap.size w w' := by
  have H1 := Lib.hid h1
  have H2 := Lib.hid h2
  clear h1 h2
  go_enter Try.func3, Try.ntmps3
  go_wp2_with fail
  refine (H1.out _).mono ?_
  rintro e w1 ⟨rfl, hb⟩
  have K := Lib.hid hb
  clear hb
  go_wp2_with fail
  refine (H2.out _).mono ?_
  rintro e w2 ⟨rfl, hb⟩
  have K := Lib.hid (below_after K.out hb)
  clear hb
  go_wp2_with fail
  refine (awake_ok _).mono ?_
  rintro e w3 ⟨rfl, hb⟩
  have K := Lib.hid (below_after K.out hb)
  clear hb
  go_wp2
  go_ret
  exact ⟨rfl, K.out⟩

theorem chooses_law (n k : Int) (hn : (Lit.int .i64 n).wf = true) (hk : (Lit.int .i64 k).wf = true) (w : World) :
    Calls Try.prog 3 #[.int .i64 n, .int .i64 k] w fun e w' => e = .returned (.bool true) ∧ Below w.heap.size w w' := by
  by_cases h : 0 ≤ n ∧ n ≤ 62
  · by_cases h2 : 0 ≤ k ∧ k ≤ n
    · obtain ⟨a, rfl⟩ := Int.eq_ofNat_of_zero_le h.1
      obtain ⟨b, rfl⟩ := Int.eq_ofNat_of_zero_le h2.1
      have b1 := ch_le a b
      have b2 := pow_le62 (show a ≤ 62 by omega)
      exact chooses_yes a b (ch a b) (by omega) (fun w => choose_in a b (by omega) (by omega) w) (fun w => refChoose_in a b (by omega) (by omega) w) w
    · exact chooses_yes n k 0 (by decide) (fun w => choose_out n k h.1 h.2 h2 w) (fun w => refChoose_out n k h.1 h.2 h2 w) w
  · exact chooses_no n k (fun w => choose_no n k h w) (fun w => refChoose_no n k h w) w
end Go.Proofs.Ytooapbhjnibaoaa
