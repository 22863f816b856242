/- The walk of the law on what is left of a scale. -/
import Derived.Test.YtdcflgmbpaddhaaRK
namespace Go.Proofs.Ytdcflgmbpaddhaa
open Go.RowKit

theorem left_no (x n d : Int) (h1 : ∀ w, Calls Try.prog 14 #[.int .i64 x, .int .i64 n, .int .i64 d] w fun e w' => e = .returned (.tuple #[.int .i64 0, .bool false]) ∧ Below w.heap.size w w') (w : World) :
    Calls Try.prog 5 #[.int .i64 x, .int .i64 n, .int .i64 d] w fun e w' => e = .returned (.bool true) ∧ Below w.heap.size w w' := by
  have H1 := Lib.hid h1
  clear h1
  go_enter Try.func5, Try.ntmps5
  go_wp2_with fail
  refine (H1.out _).mono ?_
  rintro e w1 ⟨rfl, hb⟩
  have K1 := Lib.hid hb
  clear hb
  go_wp2_with fail
  refine (awake_ok _).mono ?_
  rintro e w3 ⟨rfl, hb⟩
  have K3 := Lib.hid (below_after K1.out hb)
  clear hb
  go_wp2
  go_ret
  exact ⟨rfl, K3.out⟩

theorem left_facts {x n d : Int} (h0 : 0 ≤ x) (h1 : 0 ≤ n) (h2 : 1 ≤ d) : ¬ x * n < x * n / d * d ∧ x * n / d * d ≤ x * n ∧ 0 ≤ x * n / d * d ∧ 0 ≤ x * n - x * n / d * d ∧ x * n - x * n / d * d < d := by
  have p := Int.mul_nonneg h0 h1
  have e := Int.emod_add_mul_ediv (x * n) d
  have m0 := Int.emod_nonneg (x * n) (show d ≠ 0 by omega)
  have m1 := Int.emod_lt_of_pos (x * n) (show 0 < d by omega)
  have q := Int.mul_nonneg (Int.ediv_nonneg p (show 0 ≤ d by omega)) (show 0 ≤ d by omega)
  rw [Int.mul_comm d] at e
  generalize x * n / d * d = k at *
  generalize x * n % d = r at *
  omega

set_option maxRecDepth 100000 in
set_option maxHeartbeats 1000000 in
theorem left_yes (x n d : Int) (hx : I64 x) (hn : I64 n) (hd : I64 d) (h0 : 0 ≤ x) (h1 : 0 ≤ n) (h2 : 1 ≤ d) (h3 : x * n / d ≤ 9223372036854775807) (w : World) :
    Calls Try.prog 5 #[.int .i64 x, .int .i64 n, .int .i64 d] w fun e w' => e = .returned (.bool true) ∧ Below w.heap.size w w' := by
  have Hx := Lib.hid hx
  have Hn := Lib.hid hn
  have Hd := Lib.hid hd
  have H3 := Lib.hid h3
  have HU := Lib.hid (scale_u128 hx hn h0 h1)
  have HQ := Lib.hid (div_nonneg' h0 h1 h2)
  have HF := Lib.hid (left_facts h0 h1 h2)
  have H0 := Lib.hid h0
  have H1 := Lib.hid h1
  have H2 := Lib.hid h2
  have HI : Hid (I64 (x * n / d)) := ⟨by have := HQ.out; omega, h3⟩
  obtain ⟨v, hv⟩ : ∃ v, x * n / d = v := ⟨_, rfl⟩
  obtain ⟨l, hl⟩ : ∃ l, x * n - v * d = l := ⟨_, rfl⟩
  rw [hv] at HF HI HQ H3
  rw [hl] at HF
  have SC := Lib.hid (fun w => scale_yes x n d hx hn hd h0 h1 h2 h3 w)
  rw [hv] at SC
  have Hl := Lib.hid hl
  have s1 : (hi l == 0) = true := by have := HF.out; rw [beq_iff_eq]; unfold hi; have := hd.2; omega
  have s2 : lo l < IntKind.u64.wrap d := by rw [word_pos hd (show 0 ≤ d by omega)]; have := HF.out; unfold lo; have := hd.2; omega
  clear hx hn hd h0 h1 h2 h3 hv hl
  go_enter Try.func5, Try.ntmps5
  go_wp2_with fail
  refine (SC.out _).mono ?_
  rintro e w1 ⟨rfl, hb⟩
  have K1 := Lib.hid hb
  clear hb
  go_wp2_with fail
  refine (product_any x n x n Hx.out Hn.out (max_of H0.out) (max_of H1.out) _).mono ?_
  rintro e w2 ⟨rfl, hb⟩
  have K2 := Lib.hid (below_after K1.out hb)
  clear hb K1
  go_wp2_with fail
  refine (product_any v d v d HI.out Hd.out (max_of HQ.out) (max_of (show 0 ≤ d by have := H2.out; omega)) _).mono ?_
  rintro e w3 ⟨rfl, hb⟩
  have K3 := Lib.hid (below_after K2.out hb)
  clear hb K2
  go_wp2_with fail
  refine (less_no _ _ (by have := HF.out.1; omega) _).mono ?_
  rintro e w4 ⟨rfl, hb⟩
  have K4 := Lib.hid (below_after (below_al (below_al K3.out (.cells #[.int .u64 (hi (x * n)), .int .u64 (lo (x * n))] 26 (0, 0))) (.cells #[.int .u64 (hi (v * d)), .int .u64 (lo (v * d))] 26 (0, 0))) hb)
  have b0 := blk_below (blk_old (blk_new w3 (.cells #[.int .u64 (hi (x * n)), .int .u64 (lo (x * n))] 26 (0, 0))) (.cells #[.int .u64 (hi (v * d)), .int .u64 (lo (v * d))] 26 (0, 0))) hb
  have b1 := blk_below (blk_new_at (w := w3.alloc (.cells #[.int .u64 (hi (x * n)), .int .u64 (lo (x * n))] 26 (0, 0))) (n := w3.heap.size + 1) (.cells #[.int .u64 (hi (v * d)), .int .u64 (lo (v * d))] 26 (0, 0)) (by simp)) hb
  clear hb K3
  obtain ⟨c0, c1, _, _⟩ := two_cells b0
  obtain ⟨d0, d1, _, _⟩ := two_cells b1
  go_wp2_with fail
  refine (minus_ok _ _ HU.out HF.out.2.2.1 HF.out.2.1 _).mono ?_
  rw [Hl.out]
  rintro e w5 ⟨rfl, hb⟩
  have K5 := Lib.hid (below_after K4.out hb)
  clear hb K4 b0 b1 c0 c1 d0 d1
  go_wp2_with fail
  refine (awake_ok _).mono ?_
  rintro e w6 ⟨rfl, hb⟩
  have K6 := Lib.hid (below_after (below_al K5.out _) hb)
  clear hb K5
  go_wp2
  go_ret
  exact ⟨rfl, K6.out⟩

theorem left_law (x n d : Int) (hx : (Lit.int .i64 x).wf = true) (hn : (Lit.int .i64 n).wf = true) (hd : (Lit.int .i64 d).wf = true) (w : World) :
    Calls Try.prog 5 #[.int .i64 x, .int .i64 n, .int .i64 d] w fun e w' => e = .returned (.bool true) ∧ Below w.heap.size w w' := by
  have hx := i64_wf hx
  have hn := i64_wf hn
  have hd := i64_wf hd
  by_cases h : 0 ≤ x ∧ 0 ≤ n ∧ 1 ≤ d
  · obtain ⟨h0, h1, h2⟩ := h
    by_cases h3 : x * n / d ≤ 9223372036854775807
    · exact left_yes x n d hx hn hd h0 h1 h2 h3 w
    · exact left_no x n d (scale_big x n d hx hn hd h0 h1 h2 (by omega)) w
  · exact left_no x n d (scale_no x n d h) w
end Go.Proofs.Ytdcflgmbpaddhaa
