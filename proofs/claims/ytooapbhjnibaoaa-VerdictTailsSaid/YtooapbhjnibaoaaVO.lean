/- The law of tails. -/
import Derived.Test.YtooapbhjnibaoaaVN
namespace Go.Proofs.Ytooapbhjnibaoaa
open Go.RowKit

theorem tails_law (n k x y : Int) (_ : (Lit.int .i64 n).wf = true) (_ : (Lit.int .i64 k).wf = true) (_ : (Lit.int .i64 x).wf = true) (_ : (Lit.int .i64 y).wf = true) (w : World) :
    Calls Try.prog 4 #[.int .i64 n, .int .i64 k, .int .i64 x, .int .i64 y] w fun e w' => e = .returned (.bool true) ∧ Below w.heap.size w w' := by
  by_cases h : 0 ≤ n ∧ n ≤ 62
  · obtain ⟨a, rfl⟩ := Int.eq_ofNat_of_zero_le h.1
    have ha : a ≤ 62 := by omega
    by_cases h2 : 0 ≤ x ∧ 0 ≤ y ∧ x + y ≤ 62
    · obtain ⟨b, rfl⟩ := Int.eq_ofNat_of_zero_le h2.1
      obtain ⟨c, rfl⟩ := Int.eq_ofNat_of_zero_le h2.2.1
      have hbc : b + c ≤ 62 := by omega
      exact tails_yy a k b c _ _ _ _ (Int.natCast_nonneg _) (Int.natCast_nonneg _) (by omega) h2.2.2 (fun w => tail_ok a k ha w) (fun w => refTail_ok a k ha w) (fun w => sign_any b c hbc _ _ rfl rfl w) (fun w => refSign_any b c hbc _ _ rfl rfl w) (fun w => power_ok a ha w) (fun w => power_any (b + c) hbc _ rfl _ (by omega) w) w
    · exact tails_yn a k x y _ _ (Int.natCast_nonneg _) (fun w => tail_ok a k ha w) (fun w => refTail_ok a k ha w) (fun w => sign_no x y h2 w) (fun w => refSign_no x y h2 w) (fun w => power_ok a ha w) w
  · by_cases h2 : 0 ≤ x ∧ 0 ≤ y ∧ x + y ≤ 62
    · obtain ⟨b, rfl⟩ := Int.eq_ofNat_of_zero_le h2.1
      obtain ⟨c, rfl⟩ := Int.eq_ofNat_of_zero_le h2.2.1
      have hbc : b + c ≤ 62 := by omega
      exact tails_ny n k b c _ _ (Int.natCast_nonneg _) (by omega) h2.2.2 (fun w => tail_no n k h w) (fun w => refTail_no n k h w) (fun w => sign_any b c hbc _ _ rfl rfl w) (fun w => refSign_any b c hbc _ _ rfl rfl w) (fun w => power_any (b + c) hbc _ rfl _ (by omega) w) w
    · exact tails_nn n k x y (fun w => tail_no n k h w) (fun w => refTail_no n k h w) (fun w => sign_no x y h2 w) (fun w => refSign_no x y h2 w) w
end Go.Proofs.Ytooapbhjnibaoaa
