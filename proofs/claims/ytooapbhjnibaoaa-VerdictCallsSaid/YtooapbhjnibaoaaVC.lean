/- The walk of Sign. -/
import Derived.Test.YtooapbhjnibaoaaVB
namespace Go.Proofs.Ytooapbhjnibaoaa
open Go.RowKit

theorem sign_no (x y : Int) (h : ¬ (0 ≤ x ∧ 0 ≤ y ∧ x + y ≤ 62)) (w : World) :
    Calls Try.prog 16 #[.int .i64 x, .int .i64 y] w fun e w' => e = .returned (.tuple #[.agg #[.int .i64 0, .int .i64 1], .bool false]) ∧ Below w.heap.size w w' := by
  have hs : (x ≤ y ∧ x < 0) ∨ (y < x ∧ y < 0) ∨ (x ≤ y ∧ 0 ≤ x ∧ 62 < y) ∨ (y < x ∧ 0 ≤ y ∧ 62 < x) ∨ (x ≤ y ∧ 0 ≤ x ∧ y ≤ 62 ∧ 62 < x + y) ∨ (y < x ∧ 0 ≤ y ∧ x ≤ 62 ∧ 62 < x + y) := by omega
  clear h
  rcases hs with ⟨h1, h2⟩ | ⟨h1, h2⟩ | ⟨h1, h2, h3⟩ | ⟨h1, h2, h3⟩ | ⟨h1, h2, h3, h4⟩ | ⟨h1, h2, h3, h4⟩
  all_goals
    go_enter Try.func16, Try.ntmps16
    go_wp2
    all_goals exact bodyPost_ret (res_ct rfl (InRow.mk' _ (blk_new _ _) Try.underlying29 rfl (by kernel_rfl))) rfl ⟨rfl, below_al (Below.refl _ _) _⟩

def signN (a b : Nat) : Nat := min (2 * part (tailF (a + b) (max a b : Nat)) 63) (2 ^ (a + b))

theorem ret_sign {x y : Int} {D : Value} (h : x = y) : Ending.returned (.tuple #[.agg #[.int .i64 x, D], .bool true]) = .returned (.tuple #[.agg #[.int .i64 y, D], .bool true]) := by rw [h]
theorem tail_any (a b : Nat) (h : a + b ≤ 62) (T D : Nat) (eT : part (tailF (a + b) (max a b : Nat)) 63 = T) (eD : 2 ^ (a + b) = D) (N K : Int) (hN : N = (a : Int) + b) (hK : K = max (a : Int) b) (w : World) :
    Calls Try.prog 13 #[.int .i64 N, .int .i64 K] w fun e w' => e = .returned (.tuple #[.agg #[.int .i64 (T : Nat), .int .i64 (D : Nat)], .bool true]) ∧ Below w.heap.size w w' := by
  subst eT eD hN hK
  have := tail_ok (a + b) (max a b : Nat) h w
  rw [show ((a + b : Nat) : Int) = (a : Int) + b by omega, show ((max a b : Nat) : Int) = max (a : Int) b by omega] at this
  rw [show ((max a b : Nat) : Int) = max (a : Int) b by omega]
  exact this

set_option maxHeartbeats 1000000 in
theorem sign_any (a b : Nat) (h : a + b ≤ 62) (T D : Nat) (eT : Hid (part (tailF (a + b) (max a b : Nat)) 63 = T)) (eD : Hid (2 ^ (a + b) = D)) (w : World) :
    Calls Try.prog 16 #[.int .i64 a, .int .i64 b] w fun e w' => e = .returned (.tuple #[.agg #[.int .i64 (min (2 * T) D : Nat), .int .i64 (D : Nat)], .bool true]) ∧ Below w.heap.size w w' := by
  have hT : Hid (T ≤ D ∧ D ≤ 4611686018427387904) := by
    rw [← eT.out, ← eD.out]
    exact ⟨tail_le _ _ _, pow_le62 h⟩
  have HAB := Lib.hid h
  have h' : (a : Int) + b ≤ 62 := by omega
  clear h
  have hc : ((a : Int) < b ∧ max (a : Int) b = b) ∨ ((b : Int) < a ∧ max (a : Int) b = a) ∨ (a = b ∧ max (a : Int) b = a) := by omega
  rcases hc with ⟨hc, hm⟩ | ⟨hc, hm⟩ | ⟨hc, hm⟩
  · have HM := Lib.hid hm
    clear hm
    go_enter Try.func16, Try.ntmps16
    go_wp2_with fail
    refine (tail_any a b HAB.out T D eT.out eD.out _ _ rfl HM.out.symm _).mono ?_
    rintro e w1 ⟨rfl, hb⟩
    have B := blk_old (blk_below (blk_new w (.cells #[.int .i64 0, .int .i64 0] 29 (0, 0))) hb) (.cells #[.int .i64 (T : Nat), .int .i64 (D : Nat)] 29 (0, 0))
    have N := blk_new w1 (.cells #[.int .i64 (T : Nat), .int .i64 (D : Nat)] 29 (0, 0))
    have K := Lib.hid (below_al (below_after (below_al (Below.refl _ _) _) hb) (.cells #[.int .i64 (T : Nat), .int .i64 (D : Nat)] 29 (0, 0)))
    clear hb
    obtain ⟨b0, b1, b2, b3⟩ := two_cells B
    obtain ⟨n0, n1, n2, n3⟩ := two_cells N
    go_wp2_with fail
    all_goals
      refine bodyPost_ret (res_ct rfl (InRow.mk' _ (two_set1 (two_set0 B _) _) Try.underlying29 rfl (by kernel_rfl))) rfl ⟨ret_sign ?_, below_set (below_set K.out (by omega) _) (by omega) _⟩
      have hT' := hT.out
      clear b0 b1 b2 b3 n0 n1 n2 n3
      simp only [IntKind.wrap_u64] at *
      unfold wrap64
      omega
  · have HM := Lib.hid hm
    clear hm
    go_enter Try.func16, Try.ntmps16
    go_wp2_with fail
    refine (tail_any a b HAB.out T D eT.out eD.out _ _ rfl HM.out.symm _).mono ?_
    rintro e w1 ⟨rfl, hb⟩
    have B := blk_old (blk_below (blk_new w (.cells #[.int .i64 0, .int .i64 0] 29 (0, 0))) hb) (.cells #[.int .i64 (T : Nat), .int .i64 (D : Nat)] 29 (0, 0))
    have N := blk_new w1 (.cells #[.int .i64 (T : Nat), .int .i64 (D : Nat)] 29 (0, 0))
    have K := Lib.hid (below_al (below_after (below_al (Below.refl _ _) _) hb) (.cells #[.int .i64 (T : Nat), .int .i64 (D : Nat)] 29 (0, 0)))
    clear hb
    obtain ⟨b0, b1, b2, b3⟩ := two_cells B
    obtain ⟨n0, n1, n2, n3⟩ := two_cells N
    go_wp2_with fail
    all_goals
      refine bodyPost_ret (res_ct rfl (InRow.mk' _ (two_set1 (two_set0 B _) _) Try.underlying29 rfl (by kernel_rfl))) rfl ⟨ret_sign ?_, below_set (below_set K.out (by omega) _) (by omega) _⟩
      have hT' := hT.out
      clear b0 b1 b2 b3 n0 n1 n2 n3
      simp only [IntKind.wrap_u64] at *
      unfold wrap64
      omega
  · subst hc
    have HM := Lib.hid hm
    clear hm
    go_enter Try.func16, Try.ntmps16
    go_wp2_with fail
    refine (tail_any a a HAB.out T D eT.out eD.out _ _ rfl HM.out.symm _).mono ?_
    rintro e w1 ⟨rfl, hb⟩
    have B := blk_old (blk_below (blk_new w (.cells #[.int .i64 0, .int .i64 0] 29 (0, 0))) hb) (.cells #[.int .i64 (T : Nat), .int .i64 (D : Nat)] 29 (0, 0))
    have N := blk_new w1 (.cells #[.int .i64 (T : Nat), .int .i64 (D : Nat)] 29 (0, 0))
    have K := Lib.hid (below_al (below_after (below_al (Below.refl _ _) _) hb) (.cells #[.int .i64 (T : Nat), .int .i64 (D : Nat)] 29 (0, 0)))
    clear hb
    obtain ⟨b0, b1, b2, b3⟩ := two_cells B
    obtain ⟨n0, n1, n2, n3⟩ := two_cells N
    go_wp2_with fail
    all_goals
      refine bodyPost_ret (res_ct rfl (InRow.mk' _ (two_set1 (two_set0 B _) _) Try.underlying29 rfl (by kernel_rfl))) rfl ⟨ret_sign ?_, below_set (below_set K.out (by omega) _) (by omega) _⟩
      have hT' := hT.out
      clear b0 b1 b2 b3 n0 n1 n2 n3
      simp only [IntKind.wrap_u64] at *
      unfold wrap64
      omega

theorem sign_ok (a b : Nat) (h : a + b ≤ 62) (w : World) :
    Calls Try.prog 16 #[.int .i64 a, .int .i64 b] w fun e w' => e = .returned (.tuple #[.agg #[.int .i64 (signN a b : Nat), .int .i64 (2 ^ (a + b) : Nat)], .bool true]) ∧ Below w.heap.size w w' :=
  sign_any a b h _ _ rfl rfl w
end Go.Proofs.Ytooapbhjnibaoaa
