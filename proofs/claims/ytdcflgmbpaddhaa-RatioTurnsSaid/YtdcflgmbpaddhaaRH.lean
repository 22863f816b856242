/- The walk of the sum of two reduced fractions. -/
import Derived.Test.YtdcflgmbpaddhaaRG
namespace Go.Proofs.Ytdcflgmbpaddhaa
open Go.RowKit

/-- what the sum of two goes through: the divisor of both Dens, what is left of each, the numerator, and what divides it too -/
structure AddNums (a b c d g l r num again : Int) : Prop where
  Ia : I64 a
  Ib : I64 b
  Ic : I64 c
  Id : I64 d
  a0 : 0 ≤ a
  b0 : 1 ≤ b
  c0 : 0 ≤ c
  d0 : 1 ≤ d
  eg : ((Int.gcd b d : Nat) : Int) = g
  el : b / g = l
  er : d / g = r
  en : a * r + c * l = num
  ea : ((Int.gcd g (num % g) : Nat) : Int) = again

theorem AddNums.facts {a b c d g l r num again : Int} (h : AddNums a b c d g l r num again) :
    (1 ≤ g ∧ g ≤ 9223372036854775807) ∧ U64 l ∧ U64 r ∧ I64 l ∧ I64 r ∧ (0 ≤ l ∧ 0 ≤ r) ∧ U128 num ∧ (1 ≤ again ∧ again ≤ 9223372036854775807) ∧ U64 g ∧ U64 (num % g) ∧ U64 a ∧ U64 c ∧ U64 (d / again) ∧ (0 ≤ a * r ∧ 0 ≤ c * l) ∧
    IntKind.u64.wrap ((max b 0).tdiv g) = l ∧ IntKind.u64.wrap ((max d 0).tdiv g) = r ∧ IntKind.u64.wrap ((max d 0).tdiv again) = d / again := by
  have hb := h.Ib.2
  have hd := h.Id.2
  have hg := gcd_bd (show 0 ≤ b by have := h.b0; omega) h.d0
  rw [h.eg] at hg
  have g1 : 1 ≤ g ∧ g ≤ 9223372036854775807 := by omega
  have l0 : 0 ≤ l := by rw [← h.el]; exact Int.ediv_nonneg (by have := h.b0; omega) (by omega)
  have r0 : 0 ≤ r := by rw [← h.er]; exact Int.ediv_nonneg (by have := h.d0; omega) (by omega)
  have l1 : l ≤ b := by rw [← h.el]; exact Int.ediv_le_self _ (by have := h.b0; omega)
  have r1 : r ≤ d := by rw [← h.er]; exact Int.ediv_le_self _ (by have := h.d0; omega)
  have Il : I64 l := by unfold I64; omega
  have Ir : I64 r := by unfold I64; omega
  have un : U128 num := by rw [← h.en]; exact u128_sum h.Ia Ir h.Ic Il h.a0 r0 h.c0 l0
  have m0 := Int.emod_nonneg num (show g ≠ 0 by omega)
  have m1 := Int.emod_lt_of_pos num (show 0 < g by omega)
  have ag : 1 ≤ again ∧ again ≤ 9223372036854775807 := by
    rw [← h.ea]
    have p : 0 < Int.gcd g (num % g) := Int.gcd_pos_of_ne_zero_left _ (by omega)
    have := Int.le_of_dvd (show 0 < g by omega) (Int.gcd_dvd_left (a := g) (b := num % g))
    omega
  have q0 : 0 ≤ d / again := Int.ediv_nonneg (by have := h.d0; omega) (by omega)
  have q1 : d / again ≤ d := Int.ediv_le_self _ (by have := h.d0; omega)
  refine ⟨g1, u64_of Il l0, u64_of Ir r0, Il, Ir, ⟨l0, r0⟩, un, ag, by unfold U64; omega, by unfold U64; omega, u64_of h.Ia h.a0, u64_of h.Ic h.c0, by unfold U64; omega, ⟨Int.mul_nonneg h.a0 r0, Int.mul_nonneg h.c0 l0⟩, ?_, ?_, ?_⟩
  · rw [max_of (by have := h.b0; omega), Int.tdiv_eq_ediv_of_nonneg (by have := h.b0; omega), h.el, wu _ l0 (by omega)]
  · rw [max_of (by have := h.d0; omega), Int.tdiv_eq_ediv_of_nonneg (by have := h.d0; omega), h.er, wu _ r0 (by omega)]
  · rw [max_of (by have := h.d0; omega), Int.tdiv_eq_ediv_of_nonneg (by have := h.d0; omega), wu _ q0 (by omega)]

theorem plus_any {x y n : Int} (e : x + y = n) (hx : 0 ≤ x) (hy : 0 ≤ y) (h : U128 n) (w : World) :
    Calls Try.prog 39 #[.agg #[.int .u64 (hi x), .int .u64 (lo x)], .agg #[.int .u64 (hi y), .int .u64 (lo y)]] w fun e w' => e = .returned (.agg #[.int .u64 (hi n), .int .u64 (lo n)]) ∧ Below w.heap.size w w' := by
  subst e; exact plus_ok x y hx hy h w

set_option maxRecDepth 100000 in
set_option maxHeartbeats 4000000 in
theorem add_any (a b c d g l r num again : Int) (h : AddNums a b c d g l r num again) (w : World) :
    Calls Try.prog 30 #[.agg #[.int .i64 a, .int .i64 b], .agg #[.int .i64 c, .int .i64 d]] w fun e w' =>
      e = .returned (if num / again ≤ 9223372036854775807 ∧ l * (d / again) ≤ 9223372036854775807 then .tuple #[.agg #[.int .i64 (num / again), .int .i64 (l * (d / again))], .bool true] else .tuple #[.agg #[.int .i64 0, .int .i64 0], .bool false]) ∧ Below w.heap.size w w' := by
  have H := Lib.hid h
  have F := Lib.hid h.facts
  clear h
  go_enter Try.func30, Try.ntmps30
  go_wp2_with fail
  refine region_calms 8 [0, 1, 2, 3, 4, 5, 6, 7] 0 (by kernel_rfl) (by kernel_rfl) ?_ ?_
  · intro _ _ _ _ _ h; exact h
  have B0 : ∀ wq, Below (((w.alloc (.cells #[.int .i64 a, .int .i64 b] 37 (0, 0))).alloc (.cells #[.int .i64 c, .int .i64 d] 37 (0, 0))).alloc (.cells #[.int .i64 0, .int .i64 0] 37 (0, 0))).heap.size (((w.alloc (.cells #[.int .i64 a, .int .i64 b] 37 (0, 0))).alloc (.cells #[.int .i64 c, .int .i64 d] 37 (0, 0))).alloc (.cells #[.int .i64 0, .int .i64 0] 37 (0, 0))) wq →
      wq.heap[w.heap.size]? = some (.cells #[.int .i64 a, .int .i64 b] 37 (0, 0)) ∧ wq.heap[w.heap.size + 1]? = some (.cells #[.int .i64 c, .int .i64 d] 37 (0, 0)) ∧ wq.heap[w.heap.size + 1 + 1]? = some (.cells #[.int .i64 0, .int .i64 0] 37 (0, 0)) ∧ Below w.heap.size w wq := fun wq hq =>
    ⟨blk_below (blk_old (blk_old (blk_new_at _ rfl) _) _) hq, blk_below (blk_old (blk_new_at _ (by simp)) _) hq, blk_below (blk_new_at _ (by simp)) hq, below_after (below_al (below_al (below_al (Below.refl _ _) _) _) _) hq⟩
  repeat
    refine wpCalm_ex rfl ?_
    apply Exists.intro
    refine ⟨fun wq hq => ?_, ?_⟩
    · obtain ⟨c0, c1, _, _⟩ := two_cells (B0 wq hq).1
      obtain ⟨d0, d1, _, _⟩ := two_cells (B0 wq hq).2.1
      go_simp
      first
        | rfl
        | exact calm_same (word_ok _ H.out.Ib _)
        | exact calm_same (word_ok _ H.out.Id _)
        | (rw [max_of (show 0 ≤ b by have := H.out.b0; omega), max_of (show 0 ≤ d by have := H.out.d0; omega)]; exact divisor_any H.out.eg (u64_of H.out.Ib (by have := H.out.b0; omega)) (u64_of H.out.Id (by have := H.out.d0; omega)) _)
    simp only [Act.put, List.setIfInBounds_toArray, List.set_cons_zero, List.set_cons_succ]
  refine wpCalm_nil (wpT_done (by kernel_rfl) fun w1 hb => ?_)
  go_wp2_with fail
  obtain ⟨b0, b1, b2, b3⟩ := B0 w1 hb
  clear B0 hb
  have hz : ¬ g = 0 := by have := F.out; omega
  refine region_calms 12 [0, 1, 2, 3, 4, 5, 6, 7, 8, 9, 10, 11] 0 (by kernel_rfl) (by kernel_rfl) ?_ ?_
  · intro _ _ _ _ _ h; exact h
  repeat
    refine wpCalm_ex rfl ?_
    apply Exists.intro
    refine ⟨fun wq hq => ?_, ?_⟩
    · obtain ⟨c0, c1, _, _⟩ := two_cells (blk_below b0 hq)
      obtain ⟨d0, d1, _, _⟩ := two_cells (blk_below b1 hq)
      go_simp
      first
        | rfl
        | exact calm_same (word_ok _ H.out.Ib _)
        | exact calm_same (word_ok _ H.out.Id _)
    simp only [Act.put, List.setIfInBounds_toArray, List.set_cons_zero, List.set_cons_succ]
  refine wpCalm_nil (wpT_done (by kernel_rfl) fun w2 hb => ?_)
  go_wp2_with fail
  obtain ⟨Fg, Fl, Fr, Il, Ir, F0, Fn, Fa, Ug, Um, Ua, Uc, Uq, Fm, E1, E2, E3⟩ := F.out
  have Hm := Lib.hid Fm
  have Hag := Lib.hid Fa
  clear F Fm Fa
  rw [E1, E2]
  clear E1 E2
  have HE3 := Lib.hid E3
  have Hg := Lib.hid Fg
  have H0 := Lib.hid F0
  clear E3 Fg F0 hz
  have b0 := blk_below b0 hb
  have b1 := blk_below b1 hb
  have b2 := blk_below b2 hb
  have b3 := below_after b3 hb
  clear hb
  refine region_calms 12 [0, 1, 2, 3, 4, 5, 6, 7, 8, 9, 10] 1 (by kernel_rfl) (by kernel_rfl) ?_ ?_
  · intro _ _ _ _ _ h; exact h
  repeat
    refine wpCalm_ex rfl ?_
    apply Exists.intro
    refine ⟨fun wq hq => ?_, ?_⟩
    · obtain ⟨c0, c1, _, _⟩ := two_cells (blk_below b0 hq)
      obtain ⟨d0, d1, _, _⟩ := two_cells (blk_below b1 hq)
      go_simp
      first
        | rfl
        | exact calm_same (word_ok _ H.out.Ia _)
        | exact calm_same (word_ok _ H.out.Ic _)
        | (rw [max_of H.out.a0]; exact times_ok _ _ Ua Fr _)
        | (rw [max_of H.out.c0]; exact times_ok _ _ Uc Fl _)
        | exact plus_any H.out.en Hm.out.1 Hm.out.2 Fn _
    simp only [Act.put, List.setIfInBounds_toArray, List.set_cons_zero, List.set_cons_succ]
  refine wpCalm_nil (wpT_one 11 rfl (by kernel_rfl) fun wq hq K hK => ?_)
  go_simp
  refine hK _ _ (below_al (Below.refl _ _) _) ?_
  clear hK K
  refine wpT_tail (by kernel_rfl) fun w3 hb => ?_
  have n3 := blk_below (blk_new wq (.cells #[.int .u64 0, .int .u64 0] 48 (0, 0))) hb
  have b0 := blk_below b0 (below_after (below_al hq _) hb)
  have b1 := blk_below b1 (below_after (below_al hq _) hb)
  have b2 := blk_below b2 (below_after (below_al hq _) hb)
  have b3 := below_after b3 (below_after (below_al hq _) hb)
  have hz2 : w.heap.size + 1 + 1 < wq.heap.size := by have := lt_of_block (blk_below (w := w2) (by assumption : w2.heap[w.heap.size + 1 + 1]? = _) hq); omega
  clear hb hq
  generalize wq.heap.size = m at *
  obtain ⟨m0, m1, m2, m3⟩ := two_cells n3
  go_wp2_with fail
  have b0 := blk_far (blk_far b0 (show w.heap.size ≠ m by omega) (o := 0) (.int .u64 (hi (num)))) (show w.heap.size ≠ m by omega) (o := 1) (.int .u64 (lo (num)))
  have b1 := blk_far (blk_far b1 (show w.heap.size + 1 ≠ m by omega) (o := 0) (.int .u64 (hi (num)))) (show w.heap.size + 1 ≠ m by omega) (o := 1) (.int .u64 (lo (num)))
  have b2 := blk_far (blk_far b2 (show w.heap.size + 1 + 1 ≠ m by omega) (o := 0) (.int .u64 (hi (num)))) (show w.heap.size + 1 + 1 ≠ m by omega) (o := 1) (.int .u64 (lo (num)))
  have b3 := below_set (below_set b3 (show w.heap.size ≤ m by omega) (o := 0) (.int .u64 (hi (num)))) (show w.heap.size ≤ m by omega) (o := 1) (.int .u64 (lo (num)))
  have n3 := two_set1 (two_set0 n3 (.int .u64 (hi (num)))) (.int .u64 (lo (num)))
  refine (over_ok _ _ Fn Hg.out _).mono ?_
  rintro e w4 ⟨rfl, hb⟩
  have b0 := blk_below b0 hb
  have b1 := blk_below b1 hb
  have b2 := blk_below b2 hb
  have b3 := below_after b3 hb
  have n3 := blk_below n3 hb
  clear hb m0 m1 m2 m3
  obtain ⟨m0, m1, m2, m3⟩ := two_cells n3
  go_wp2_with fail
  have b0 := blk_old b0 (.cells #[.int .u64 (hi (num / g)), .int .u64 (lo (num / g))] 48 (0, 0))
  have b1 := blk_old b1 (.cells #[.int .u64 (hi (num / g)), .int .u64 (lo (num / g))] 48 (0, 0))
  have b2 := blk_old b2 (.cells #[.int .u64 (hi (num / g)), .int .u64 (lo (num / g))] 48 (0, 0))
  have b3 := below_al b3 (.cells #[.int .u64 (hi (num / g)), .int .u64 (lo (num / g))] 48 (0, 0))
  have n3 := blk_old n3 (.cells #[.int .u64 (hi (num / g)), .int .u64 (lo (num / g))] 48 (0, 0))
  refine (divisor_any H.out.ea Ug Um _).mono ?_
  rintro e w5 ⟨rfl, hb⟩
  have b0 := blk_below b0 hb
  have b1 := blk_below b1 hb
  have b2 := blk_below b2 hb
  have b3 := below_after b3 hb
  have n3 := blk_below n3 hb
  clear hb m0 m1 m2 m3
  obtain ⟨m0, m1, m2, m3⟩ := two_cells n3
  go_wp2_with fail
  refine (over_ok _ _ Fn Hag.out _).mono ?_
  rintro e w6 ⟨rfl, hb⟩
  have b0 := blk_below b0 hb
  have b1 := blk_below b1 hb
  have b2 := blk_below b2 hb
  have b3 := below_after b3 hb
  have n3 := blk_below n3 hb
  clear hb m0 m1 m2 m3
  obtain ⟨m0, m1, m2, m3⟩ := two_cells n3
  go_wp2_with fail
  have b0 := blk_far (blk_far b0 (show w.heap.size ≠ m by omega) (o := 0) (.int .u64 (hi (num / again)))) (show w.heap.size ≠ m by omega) (o := 1) (.int .u64 (lo (num / again)))
  have b1 := blk_far (blk_far b1 (show w.heap.size + 1 ≠ m by omega) (o := 0) (.int .u64 (hi (num / again)))) (show w.heap.size + 1 ≠ m by omega) (o := 1) (.int .u64 (lo (num / again)))
  have b2 := blk_far (blk_far b2 (show w.heap.size + 1 + 1 ≠ m by omega) (o := 0) (.int .u64 (hi (num / again)))) (show w.heap.size + 1 + 1 ≠ m by omega) (o := 1) (.int .u64 (lo (num / again)))
  have b3 := below_set (below_set b3 (show w.heap.size ≤ m by omega) (o := 0) (.int .u64 (hi (num / again)))) (show w.heap.size ≤ m by omega) (o := 1) (.int .u64 (lo (num / again)))
  have n3 := two_set1 (two_set0 n3 (.int .u64 (hi (num / again)))) (.int .u64 (lo (num / again)))
  clear m0 m1 m2 m3
  by_cases hn1 : num / again ≤ 9223372036854775807
  · have Hn1 := Lib.hid hn1
    clear hn1
    refine (small_yes _ (Int.ediv_nonneg Fn.1 (by have := Hag.out; omega)) Hn1.out _).mono ?_
    rintro e w7 ⟨rfl, hb⟩
    have b0 := blk_below b0 hb
    have b1 := blk_below b1 hb
    have b2 := blk_below b2 hb
    have b3 := below_after b3 hb
    clear hb
    obtain ⟨d0, d1, _, _⟩ := two_cells b1
    go_wp2_with fail
    refine (word_ok _ H.out.Id _).mono ?_
    rintro e w' ⟨rfl, rfl⟩
    have hz : ¬ again = 0 := by have := Hag.out; omega
    go_wp2_with fail
    rw [HE3.out]
    refine (times_ok _ _ Fl Uq _).mono ?_
    rintro e w8 ⟨rfl, hb⟩
    have b2 := blk_below b2 hb
    have b3 := below_after b3 hb
    clear hb d0 d1
    go_wp2_with fail
    by_cases hd1 : l * (d / again) ≤ 9223372036854775807
    · have Hd1 := Lib.hid hd1
      clear hd1
      refine (small_yes _ (Int.mul_nonneg Fl.1 Uq.1) Hd1.out _).mono ?_
      rintro e w9 ⟨rfl, hb⟩
      have b2 := blk_below b2 hb
      have b3 := below_after b3 hb
      clear hb
      obtain ⟨d0, d1, d2, d3⟩ := two_cells b2
      go_wp2
      all_goals first | (exfalso; have := Hn1.out; have := Hd1.out; omega) | exact bodyPost_ret (res_ct rfl (InRow.mk' _ (two_set1 (two_set0 b2 _) _) Try.underlying37 rfl (by kernel_rfl))) rfl ⟨rfl, below_set (below_set b3 (by omega) _) (by omega) _⟩
    · have Hd1 := Lib.hid (show 9223372036854775807 < l * (d / again) by omega)
      clear hd1
      refine (small_no _ Hd1.out _).mono ?_
      rintro e w9 ⟨rfl, hb⟩
      have b2 := blk_below b2 hb
      have b3 := below_after b3 hb
      clear hb
      obtain ⟨d0, d1, d2, d3⟩ := two_cells b2
      have Hno := Lib.hid (show ¬ (num / again ≤ 9223372036854775807 ∧ l * (d / again) ≤ 9223372036854775807) from fun h => by have := Hd1.out; omega)
      go_wp2
      all_goals first | (exfalso; have := Hn1.out; have := Hd1.out; omega) | exact bodyPost_ret (res_ct rfl (InRow.mk' _ (two_set1 (two_set0 b2 _) _) Try.underlying37 rfl (by kernel_rfl))) rfl ⟨rfl, below_set (below_set b3 (by omega) _) (by omega) _⟩
  · have Hn1 := Lib.hid (show 9223372036854775807 < num / again by omega)
    clear hn1
    refine (small_no _ Hn1.out _).mono ?_
    rintro e w7 ⟨rfl, hb⟩
    have b0 := blk_below b0 hb
    have b1 := blk_below b1 hb
    have b2 := blk_below b2 hb
    have b3 := below_after b3 hb
    clear hb
    obtain ⟨d0, d1, _, _⟩ := two_cells b1
    go_wp2_with fail
    refine (word_ok _ H.out.Id _).mono ?_
    rintro e w' ⟨rfl, rfl⟩
    have hz : ¬ again = 0 := by have := Hag.out; omega
    go_wp2_with fail
    rw [HE3.out]
    refine (times_ok _ _ Fl Uq _).mono ?_
    rintro e w8 ⟨rfl, hb⟩
    have b2 := blk_below b2 hb
    have b3 := below_after b3 hb
    clear hb d0 d1
    go_wp2_with fail
    by_cases hd1 : l * (d / again) ≤ 9223372036854775807
    · have Hd1 := Lib.hid hd1
      clear hd1
      refine (small_yes _ (Int.mul_nonneg Fl.1 Uq.1) Hd1.out _).mono ?_
      rintro e w9 ⟨rfl, hb⟩
      have b2 := blk_below b2 hb
      have b3 := below_after b3 hb
      clear hb
      obtain ⟨d0, d1, d2, d3⟩ := two_cells b2
      have Hno := Lib.hid (show ¬ (num / again ≤ 9223372036854775807 ∧ l * (d / again) ≤ 9223372036854775807) from fun h => by have := Hn1.out; omega)
      go_wp2
      all_goals first | (exfalso; have := Hn1.out; have := Hd1.out; omega) | exact bodyPost_ret (res_ct rfl (InRow.mk' _ (two_set1 (two_set0 b2 _) _) Try.underlying37 rfl (by kernel_rfl))) rfl ⟨rfl, below_set (below_set b3 (by omega) _) (by omega) _⟩
    · have Hd1 := Lib.hid (show 9223372036854775807 < l * (d / again) by omega)
      clear hd1
      refine (small_no _ Hd1.out _).mono ?_
      rintro e w9 ⟨rfl, hb⟩
      have b2 := blk_below b2 hb
      have b3 := below_after b3 hb
      clear hb
      obtain ⟨d0, d1, d2, d3⟩ := two_cells b2
      have Hno := Lib.hid (show ¬ (num / again ≤ 9223372036854775807 ∧ l * (d / again) ≤ 9223372036854775807) from fun h => by have := Hd1.out; omega)
      go_wp2
      all_goals first | (exfalso; have := Hn1.out; have := Hd1.out; omega) | exact bodyPost_ret (res_ct rfl (InRow.mk' _ (two_set1 (two_set0 b2 _) _) Try.underlying37 rfl (by kernel_rfl))) rfl ⟨rfl, below_set (below_set b3 (by omega) _) (by omega) _⟩
end Go.Proofs.Ytdcflgmbpaddhaa
