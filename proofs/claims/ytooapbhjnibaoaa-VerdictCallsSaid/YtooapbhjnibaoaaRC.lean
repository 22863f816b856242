/- The walks of the reference's product, quotient and divisor. -/
import Derived.Test.YtooapbhjnibaoaaRB
namespace Go.Proofs.Ytooapbhjnibaoaa
open Go.RowKit

theorem times_step {b : Int} (i : Nat) (h : b / 2 ^ i % 2 = 1) : b % 2 ^ (i + 1) = b % 2 ^ i + 2 ^ i := by
  have e1 := Int.emod_add_mul_ediv b (2 ^ i)
  have e2 := Int.emod_add_mul_ediv b (2 ^ (i + 1))
  have e3 : b / 2 ^ (i + 1) = b / 2 ^ i / 2 := by rw [Int.pow_succ, ← Int.ediv_ediv_of_nonneg (Int.le_of_lt (Int.pow_pos (by decide)))]
  have e4 : b / 2 ^ i = 2 * (b / 2 ^ i / 2) + 1 := by omega
  rw [e3, Int.pow_succ] at e2
  rw [e4] at e1
  grind
theorem times_skip {b : Int} (i : Nat) (h : b / 2 ^ i % 2 = 0) : b % 2 ^ (i + 1) = b % 2 ^ i := by
  have e1 := Int.emod_add_mul_ediv b (2 ^ i)
  have e2 := Int.emod_add_mul_ediv b (2 ^ (i + 1))
  have e3 : b / 2 ^ (i + 1) = b / 2 ^ i / 2 := by rw [Int.pow_succ, ← Int.ediv_ediv_of_nonneg (Int.le_of_lt (Int.pow_pos (by decide)))]
  have e4 : b / 2 ^ i = 2 * (b / 2 ^ i / 2) := by omega
  rw [e3, Int.pow_succ] at e2
  rw [e4] at e1
  grind
theorem times_half (b : Int) (i : Nat) : b / 2 ^ i / 2 = b / 2 ^ (i + 1) := by rw [Int.pow_succ, ← Int.ediv_ediv_of_nonneg (Int.le_of_lt (Int.pow_pos (by decide)))]

def tX (a : Int) (i : Nat) : Int := a * 2 ^ i
def tO (a b : Int) (i : Nat) : Int := a * (b % 2 ^ i)
def tY (b : Int) (i : Nat) : Int := b / 2 ^ i

theorem tX_succ (a : Int) (i : Nat) : tX a i + tX a i = tX a (i + 1) := by unfold tX; rw [Int.pow_succ]; grind
theorem tO_step (a : Int) {b : Int} (i : Nat) (h : tY b i % 2 = 1) : tO a b i + tX a i = tO a b (i + 1) := by unfold tO tX; rw [times_step i h]; grind
theorem tO_skip (a : Int) {b : Int} (i : Nat) (h : tY b i % 2 = 0) : tO a b (i + 1) = tO a b i := by unfold tO; rw [times_skip i h]
theorem tY_succ (b : Int) (i : Nat) : tY b i / 2 = tY b (i + 1) := times_half b i
theorem tY_nonneg {b : Int} (h : U64 b) (i : Nat) : 0 ≤ tY b i := Int.ediv_nonneg h.1 (Int.le_of_lt (Int.pow_pos (by decide)))
theorem tY_wrap {b : Int} (h : U64 b) (i : Nat) : IntKind.u64.wrap ((tY b i).tdiv 2) = tY b (i + 1) := by
  have h1 := tY_nonneg h i
  have h2 : tY b i ≤ b := Int.ediv_le_self _ h.1
  have := h.2
  rw [Int.tdiv_eq_ediv_of_nonneg h1, tY_succ, ← tY_succ, IntKind.wrap_u64]
  omega
theorem tX_nonneg {a : Int} (h : U64 a) (i : Nat) : 0 ≤ tX a i := Int.mul_nonneg h.1 (Int.le_of_lt (Int.pow_pos (by decide)))
theorem tO_nonneg {a : Int} (h : U64 a) (b : Int) (i : Nat) : 0 ≤ tO a b i := Int.mul_nonneg h.1 (Int.emod_nonneg _ (Int.ne_of_gt (Int.pow_pos (by decide))))
theorem tI_lt {b : Int} (h : U64 b) (i : Nat) (h0 : 0 < tY b i) : i < 64 := by
  apply Classical.byContradiction
  intro hn
  have : (2 : Int) ^ 64 ≤ 2 ^ i := by exact_mod_cast Nat.pow_le_pow_right (by decide) (by omega)
  have hz : tY b i = 0 := Int.ediv_eq_zero_of_lt h.1 (by have := h.2; omega)
  omega
theorem tX_bd {a : Int} (h : U64 a) (i : Nat) (hi : i ≤ 64) : tX a i < 340282366920938463463374607431768211456 := by
  have h1 : (2 : Int) ^ i ≤ 2 ^ 64 := by exact_mod_cast Nat.pow_le_pow_right (by decide) hi
  have h2 : a ≤ 18446744073709551615 := by have := h.2; omega
  have := Int.mul_le_mul h2 h1 (Int.le_of_lt (Int.pow_pos (by decide))) (by decide)
  unfold tX
  omega
theorem tO_bd {a b : Int} (h : U64 a) (hb : U64 b) (i : Nat) : tO a b i < 340282366920938463463374607431768211456 := by
  have h1 : b % 2 ^ i ≤ b := by
    have := Int.emod_add_mul_ediv b (2 ^ i)
    have := Int.mul_nonneg (Int.le_of_lt (show (0 : Int) < 2 ^ i from Int.pow_pos (by decide))) (tY_nonneg hb i)
    unfold tY at this
    omega
  have h2 : a ≤ 18446744073709551615 := by have := h.2; omega
  have h3 : b % 2 ^ i ≤ 18446744073709551615 := by have := hb.2; omega
  have := Int.mul_le_mul h2 h3 (Int.emod_nonneg _ (Int.ne_of_gt (Int.pow_pos (by decide)))) (by decide)
  unfold tO
  omega

set_option maxHeartbeats 1000000 in
theorem refTimes_ok (a b : Int) (ha : U64 a) (hb : U64 b) (w : World) :
    Calls Try.prog 39 #[.int .u64 a, .int .u64 b] w fun e w' => e = .returned (.agg #[.int .u64 (hi (a * b)), .int .u64 (lo (a * b))]) ∧ Below w.heap.size w w' := by
  have Ha := Lib.hid ha
  have Hb := Lib.hid hb
  clear ha hb
  go_enter Try.func39, Try.ntmps39
  go_wp2_with fail
  go_loopw [1] (fun y wr => ∃ i : Nat, y = .int .u64 (tY b i) ∧
    wr.heap[w.heap.size]? = some (.cells #[.int .u64 0, .int .u64 0] 68 (0, 0)) ∧
    wr.heap[w.heap.size + 1]? = some (.cells #[.int .u64 (hi (tO a b i)), .int .u64 (lo (tO a b i))] 68 (0, 0)) ∧
    wr.heap[w.heap.size + 1 + 1]? = some (.cells #[.int .u64 (hi (tX a i)), .int .u64 (lo (tX a i))] 68 (0, 0)) ∧ Hid (Below w.heap.size w wr)) (fun y _ => (intOf y).toNat)
  case atStart =>
    have e0 : tO a b 0 = 0 := by unfold tO; simp
    have e1 : tX a 0 = a := by unfold tX; simp
    have e2 : tY b 0 = b := by unfold tY; simp
    refine ⟨0, by rw [e2], ?_, ?_, ?_, below_al (below_al (below_al (Below.refl _ _) _) _) _⟩
    · exact blk_old (blk_old (blk_new _ _) _) _
    · have := blk_old (blk_new (w.alloc (.cells #[.int .u64 0, .int .u64 0] 68 (0, 0))) (.cells #[.int .u64 0, .int .u64 0] 68 (0, 0))) (.cells #[.int .u64 0, .int .u64 a] 68 (0, 0))
      rw [e0]
      simpa [hi, lo] using this
    · have := blk_new ((w.alloc (.cells #[.int .u64 0, .int .u64 0] 68 (0, 0))).alloc (.cells #[.int .u64 0, .int .u64 0] 68 (0, 0))) (.cells #[.int .u64 0, .int .u64 a] 68 (0, 0))
      rw [e1]
      have h1 : hi a = 0 := by have := Ha.out; unfold U64 at this; unfold hi; omega
      have h2 : lo a = a := by have := Ha.out; unfold U64 at this; unfold lo; omega
      rw [h1, h2]
      simpa using this
  case round =>
    obtain ⟨i, rfl, hb0, hb1, hb2, HW⟩ := hrel
    obtain ⟨ho0, ho1, hg0, hg1⟩ := two_cells hb1
    obtain ⟨hx0, hx1, hj0, hj1⟩ := two_cells hb2
    have Hb0 := Lib.hid hb0
    have Hb1 := Lib.hid hb1
    have Hb2 := Lib.hid hb2
    clear hb0 hb1 hb2
    have hy := tY_nonneg Hb.out i
    by_cases h0 : 0 < tY b i
    · have Hi := Lib.hid (tI_lt Hb.out i h0)
      have HX := Lib.hid (tX_succ a i)
      have HY := Lib.hid (tY_wrap Hb.out i)
      have HM := Lib.hid (show 0 ≤ tY b (i + 1) ∧ tY b (i + 1) < tY b i by rw [← tY_succ]; omega)
      by_cases h1 : tY b i % 2 = 1
      · have HO := Lib.hid (tO_step a i h1)
        have h1 : (tY b i % 2 == 1) = true := beq_iff_eq.2 h1
        go_wp2_with fail
        refine (refPlus_ok _ _ (tO_nonneg Ha.out b i) (tX_nonneg Ha.out i) (by rw [HO.out]; exact ⟨tO_nonneg Ha.out b _, tO_bd Ha.out Hb.out _⟩) _).mono ?_
        rintro e w1 ⟨rfl, hb1⟩
        rw [HO.out]
        obtain ⟨a0, a1, a2, a3⟩ := two_cells (blk_below Hb1.out hb1)
        obtain ⟨c0, c1, c2, c3⟩ := two_cells (blk_below Hb2.out hb1)
        have K1 := Lib.hid hb1
        clear hb1 ho0 ho1 hg0 hg1 hx0 hx1 hj0 hj1
        go_wp2_with fail
        refine (refPlus_ok _ _ (tX_nonneg Ha.out i) (tX_nonneg Ha.out i) (by rw [HX.out]; exact ⟨tX_nonneg Ha.out _, tX_bd Ha.out _ (by have := Hi.out; omega)⟩) _).mono ?_
        rintro e w2 ⟨rfl, hb2⟩
        rw [HX.out]
        have X0 := blk_below (blk_far (blk_far (blk_below Hb0.out K1.out) (by omega) (.int .u64 (hi (tO a b (i + 1))))) (by omega) (.int .u64 (lo (tO a b (i + 1))))) hb2
        have X1 := blk_below (two_set1 (two_set0 (blk_below Hb1.out K1.out) (.int .u64 (hi (tO a b (i + 1))))) (.int .u64 (lo (tO a b (i + 1))))) hb2
        have X2 := blk_below (blk_far (blk_far (blk_below Hb2.out K1.out) (by omega) (.int .u64 (hi (tO a b (i + 1))))) (by omega) (.int .u64 (lo (tO a b (i + 1))))) hb2
        obtain ⟨d0, d1, d2, d3⟩ := two_cells X2
        have Y0 := Lib.hid X0
        have Y1 := Lib.hid X1
        have Y2 := Lib.hid X2
        have K2 := Lib.hid hb2
        clear hb2 X0 X1 X2 a0 a1 a2 a3 c0 c1 c2 c3
        go_wp2
        rw [HY.out]
        refine ⟨⟨i + 1, rfl, blk_far (blk_far Y0.out (by omega) _) (by omega) _, blk_far (blk_far Y1.out (by omega) _) (by omega) _, two_set1 (two_set0 Y2.out _) _, ?_⟩, ?_⟩
        · exact below_set (below_set (below_after (below_set (below_set (below_after HW.out K1.out) (by omega) _) (by omega) _) K2.out) (by omega) _) (by omega) _
        · have := HM.out
          simp [intOf]; omega
      · have HO := Lib.hid (tO_skip a i (show tY b i % 2 = 0 by omega))
        have h1 : (tY b i % 2 == 1) = false := beq_eq_false_iff_ne.2 h1
        go_wp2_with fail
        refine (refPlus_ok _ _ (tX_nonneg Ha.out i) (tX_nonneg Ha.out i) (by rw [HX.out]; exact ⟨tX_nonneg Ha.out _, tX_bd Ha.out _ (by have := Hi.out; omega)⟩) _).mono ?_
        rintro e w2 ⟨rfl, hb2⟩
        rw [HX.out]
        obtain ⟨d0, d1, d2, d3⟩ := two_cells (blk_below Hb2.out hb2)
        have K2 := Lib.hid hb2
        clear hb2
        go_wp2
        rw [HY.out]
        refine ⟨⟨i + 1, rfl, blk_far (blk_far (blk_below Hb0.out K2.out) (by omega) _) (by omega) _, ?_, two_set1 (two_set0 (blk_below Hb2.out K2.out) _) _, ?_⟩, ?_⟩
        · rw [HO.out]; exact blk_far (blk_far (blk_below Hb1.out K2.out) (by omega) _) (by omega) _
        · exact below_set (below_set (below_after HW.out K2.out) (by omega) _) (by omega) _
        · have := HM.out
          simp [intOf]; omega
    · obtain ⟨hr0, hr1, hh0, hh1⟩ := two_cells Hb0.out
      go_wp2
      have e : tO a b i = a * b := by
        have := Int.emod_add_mul_ediv b (2 ^ i)
        unfold tY at h0 hy
        have hz : b / 2 ^ i = 0 := by omega
        rw [hz] at this
        unfold tO
        rw [show b % 2 ^ i = b by omega]
      rw [← e]
      exact bodyPost_ret (res_c rfl (InRow.mk' _ (two_set1 (two_set0 Hb0.out _) _) Try.underlying68 rfl (by kernel_rfl))) rfl ⟨rfl, below_set (below_set HW.out (by omega) _) (by omega) _⟩
end Go.Proofs.Ytooapbhjnibaoaa
