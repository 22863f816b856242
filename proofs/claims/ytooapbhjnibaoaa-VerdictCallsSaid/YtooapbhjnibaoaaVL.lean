/- The walk of the reference's sign test. -/
import Derived.Test.YtooapbhjnibaoaaVK
namespace Go.Proofs.Ytooapbhjnibaoaa
open Go.RowKit

theorem refSign_no (x y : Int) (h : ¬ (0 ≤ x ∧ 0 ≤ y ∧ x + y ≤ 62)) (w : World) :
    Calls Try.prog 17 #[.int .i64 x, .int .i64 y] w fun e w' => e = .returned (.int .i64 (-1)) ∧ Below w.heap.size w w' := by
  have hs : x < 0 ∨ (0 ≤ x ∧ y < 0) ∨ (0 ≤ x ∧ 0 ≤ y ∧ 62 < x) ∨ (0 ≤ x ∧ 0 ≤ y ∧ x ≤ 62 ∧ 62 < y) ∨ (0 ≤ x ∧ 0 ≤ y ∧ x ≤ 62 ∧ y ≤ 62 ∧ 62 < x + y) := by omega
  clear h
  rcases hs with h1 | ⟨h1, h2⟩ | ⟨h1, h2, h3⟩ | ⟨h1, h2, h3, h4⟩ | ⟨h1, h2, h3, h4, h5⟩
  all_goals
    go_enter Try.func17, Try.ntmps17
    go_wp2
    all_goals
      go_ret
      exact ⟨rfl, Below.refl _ _⟩

theorem refTail_any (a b : Nat) (h : a + b ≤ 62) (T : Nat) (eT : part (tailF (a + b) (max a b : Nat)) 63 = T) (N K : Int) (hN : N = (a : Int) + b) (hK : K = max (a : Int) b) (w : World) :
    Calls Try.prog 14 #[.int .i64 N, .int .i64 K] w fun e w' => e = .returned (.int .i64 (T : Nat)) ∧ Below w.heap.size w w' := by
  subst eT hN hK
  have := refTail_ok (a + b) (max a b : Nat) h w
  rw [show ((a + b : Nat) : Int) = (a : Int) + b by omega, show ((max a b : Nat) : Int) = max (a : Int) b by omega] at this
  rw [show ((max a b : Nat) : Int) = max (a : Int) b by omega]
  exact this
theorem power_any (n : Nat) (h : n ≤ 62) (D : Nat) (eD : 2 ^ n = D) (N : Int) (hN : N = n) (w : World) :
    Calls Try.prog 15 #[.int .i64 N] w fun e w' => e = .returned (.int .i64 (D : Nat)) ∧ Below w.heap.size w w' := by
  subst eD hN; exact power_ok n h w

theorem ret_i64 {a b : Int} (h : a = b) : Ending.returned (.int .i64 a) = .returned (.int .i64 b) := by rw [h]

set_option maxHeartbeats 1000000 in
theorem refSign_any (a b : Nat) (h : a + b ≤ 62) (T D : Nat) (eT : Hid (part (tailF (a + b) (max a b : Nat)) 63 = T)) (eD : Hid (2 ^ (a + b) = D)) (w : World) :
    Calls Try.prog 17 #[.int .i64 a, .int .i64 b] w fun e w' => e = .returned (.int .i64 (min (2 * T) D : Nat)) ∧ Below w.heap.size w w' := by
  have hT : Hid (T ≤ D ∧ D ≤ 4611686018427387904) := by
    rw [← eT.out, ← eD.out]
    exact ⟨tail_le _ _ _, pow_le62 h⟩
  have HAB := Lib.hid h
  have h' : (a : Int) + b ≤ 62 := by omega
  have hD0 : (0 : Int) ≤ D := by omega
  have hD1 : (D : Int) ≤ 4611686018427387904 := by have := hT.out; omega
  clear h
  have hc : ((a : Int) < b ∧ max (a : Int) b = b) ∨ (¬ (a : Int) < b ∧ max (a : Int) b = a) := by omega
  rcases hc with ⟨hc, hm⟩ | ⟨hc, hm⟩
  all_goals
    have HM := Lib.hid hm
    clear hm
    go_enter Try.func17, Try.ntmps17
    go_wp2_with fail
    refine (refTail_any a b HAB.out T eT.out _ _ rfl HM.out.symm _).mono ?_
    rintro e w1 ⟨rfl, hb⟩
    have K := Lib.hid hb
    clear hb
    go_wp2_with fail
    refine (power_any (a + b) HAB.out D eD.out ((a : Int) + b) (by omega) _).mono ?_
    rintro e w2 ⟨rfl, hb⟩
    have K := Lib.hid (below_after K.out hb)
    clear hb
    go_wp2
    all_goals
      go_ret
      refine ⟨ret_i64 ?_, K.out⟩
      have := hT.out
      first | omega | (simp only [Int.tdiv_eq_ediv_of_nonneg hD0] at *; omega) | (simp only [wrap64, Int.tdiv_eq_ediv_of_nonneg hD0] at *; omega) | (simp only [wrap64] at *; omega)
end Go.Proofs.Ytooapbhjnibaoaa
