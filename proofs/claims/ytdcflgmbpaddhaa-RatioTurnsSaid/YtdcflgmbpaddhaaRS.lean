/- The walk of the law on the order of fractions. -/
import Derived.Test.YtdcflgmbpaddhaaRQ
namespace Go.Proofs.Ytdcflgmbpaddhaa
open Go.RowKit

theorem cmpI_turn (x y : Int) : cmpI y x = -cmpI x y := by
  rcases Int.lt_trichotomy x y with h | h | h
  · rw [cmpI_lt h, cmpI_gt h] <;> decide
  · rw [cmpI_eq h, cmpI_eq h.symm] <;> decide
  · rw [cmpI_gt h, cmpI_lt h]

/-- a fraction isn't above one that isn't above a third one -/
theorem ratio_le {p q r : Int × Int} (hp : 1 ≤ p.2) (hq : 1 ≤ q.2) (hr : 1 ≤ r.2) (h1 : p.1 * q.2 ≤ q.1 * p.2) (h2 : q.1 * r.2 ≤ r.1 * q.2) : p.1 * r.2 ≤ r.1 * p.2 := by
  have e1 := Int.mul_le_mul_of_nonneg_right h1 (show 0 ≤ r.2 by omega)
  have e2 := Int.mul_le_mul_of_nonneg_right h2 (show 0 ≤ p.2 by omega)
  have e3 : (p.1 * r.2) * q.2 ≤ (r.1 * p.2) * q.2 := by
    have a1 : p.1 * q.2 * r.2 = p.1 * r.2 * q.2 := by grind
    have a2 : q.1 * p.2 * r.2 = q.1 * r.2 * p.2 := by grind
    have a3 : r.1 * q.2 * p.2 = r.1 * p.2 * q.2 := by grind
    omega
  exact Int.le_of_mul_le_mul_right e3 (by omega)
theorem ratio_lt_le {p q r : Int × Int} (hp : 1 ≤ p.2) (hq : 1 ≤ q.2) (hr : 1 ≤ r.2) (h1 : p.1 * q.2 < q.1 * p.2) (h2 : q.1 * r.2 ≤ r.1 * q.2) : p.1 * r.2 < r.1 * p.2 := by
  have e1 := Int.mul_lt_mul_of_pos_right h1 (show 0 < r.2 by omega)
  have e2 := Int.mul_le_mul_of_nonneg_right h2 (show 0 ≤ p.2 by omega)
  have e3 : (p.1 * r.2) * q.2 < (r.1 * p.2) * q.2 := by
    have a1 : p.1 * q.2 * r.2 = p.1 * r.2 * q.2 := by grind
    have a2 : q.1 * p.2 * r.2 = q.1 * r.2 * p.2 := by grind
    have a3 : r.1 * q.2 * p.2 = r.1 * p.2 * q.2 := by grind
    omega
  exact Int.lt_of_mul_lt_mul_right e3 (by omega)
theorem ratio_le_lt {p q r : Int × Int} (hp : 1 ≤ p.2) (hq : 1 ≤ q.2) (hr : 1 ≤ r.2) (h1 : p.1 * q.2 ≤ q.1 * p.2) (h2 : q.1 * r.2 < r.1 * q.2) : p.1 * r.2 < r.1 * p.2 := by
  have e1 := Int.mul_le_mul_of_nonneg_right h1 (show 0 ≤ r.2 by omega)
  have e2 := Int.mul_lt_mul_of_pos_right h2 (show 0 < p.2 by omega)
  have e3 : (p.1 * r.2) * q.2 < (r.1 * p.2) * q.2 := by
    have a1 : p.1 * q.2 * r.2 = p.1 * r.2 * q.2 := by grind
    have a2 : q.1 * p.2 * r.2 = q.1 * r.2 * p.2 := by grind
    have a3 : r.1 * q.2 * p.2 = r.1 * p.2 * q.2 := by grind
    omega
  exact Int.lt_of_mul_lt_mul_right e3 (by omega)

/-- what three comparisons may come to (the second one: the first one turned) -/
def Three (x t y z : Int) : Prop :=
  (x = -1 ∧ t = 1 ∧ y = -1 ∧ z = -1) ∨ (x = -1 ∧ t = 1 ∧ y = 0 ∧ z = -1) ∨ (x = 0 ∧ t = 0 ∧ y = -1 ∧ z = -1) ∨ (x = 0 ∧ t = 0 ∧ y = 0 ∧ z = 0) ∨ (x = 0 ∧ t = 0 ∧ y = 1 ∧ z = 1) ∨
  (x = 1 ∧ t = -1 ∧ y = 0 ∧ z = 1) ∨ (x = 1 ∧ t = -1 ∧ y = 1 ∧ z = 1) ∨ (x = -1 ∧ t = 1 ∧ y = 1 ∧ z = -1) ∨ (x = -1 ∧ t = 1 ∧ y = 1 ∧ z = 0) ∨ (x = -1 ∧ t = 1 ∧ y = 1 ∧ z = 1) ∨
  (x = 1 ∧ t = -1 ∧ y = -1 ∧ z = -1) ∨ (x = 1 ∧ t = -1 ∧ y = -1 ∧ z = 0) ∨ (x = 1 ∧ t = -1 ∧ y = -1 ∧ z = 1)

theorem cmpI_three (x y : Int) : (cmpI x y = -1 ∧ x < y) ∨ (cmpI x y = 0 ∧ x = y) ∨ (cmpI x y = 1 ∧ y < x) := by
  rcases Int.lt_trichotomy x y with h | h | h
  · exact .inl ⟨cmpI_lt h, h⟩
  · exact .inr (.inl ⟨cmpI_eq h, h⟩)
  · exact .inr (.inr ⟨cmpI_gt h, h⟩)

theorem three_of {p q r : Int × Int} (hp : 1 ≤ p.2) (hq : 1 ≤ q.2) (hr : 1 ≤ r.2) :
    Three (cmpI (p.1 * q.2) (q.1 * p.2)) (cmpI (q.1 * p.2) (p.1 * q.2)) (cmpI (q.1 * r.2) (r.1 * q.2)) (cmpI (p.1 * r.2) (r.1 * p.2)) := by
  rw [cmpI_turn (p.1 * q.2) (q.1 * p.2)]
  unfold Three
  have a1 := ratio_le (p := p) (q := q) (r := r) hp hq hr
  have a2 := ratio_lt_le (p := p) (q := q) (r := r) hp hq hr
  have a3 := ratio_le_lt (p := p) (q := q) (r := r) hp hq hr
  have b1 := ratio_le (p := r) (q := q) (r := p) hr hq hp
  have b2 := ratio_lt_le (p := r) (q := q) (r := p) hr hq hp
  have b3 := ratio_le_lt (p := r) (q := q) (r := p) hr hq hp
  rcases cmpI_three (p.1 * q.2) (q.1 * p.2) with ⟨h, k⟩ | ⟨h, k⟩ | ⟨h, k⟩ <;> rcases cmpI_three (q.1 * r.2) (r.1 * q.2) with ⟨h', k'⟩ | ⟨h', k'⟩ | ⟨h', k'⟩ <;>
    rcases cmpI_three (p.1 * r.2) (r.1 * p.2) with ⟨h'', k''⟩ | ⟨h'', k''⟩ | ⟨h'', k''⟩ <;> rw [h, h', h''] <;> first | (simp; done) | (exfalso; omega)

set_option maxRecDepth 100000 in
set_option maxHeartbeats 4000000 in
theorem orders_any (a b c d e f x t y z : Int) (p q r : Int × Int) (ha : I64 a) (hb : I64 b) (hc : I64 c) (hd : I64 d) (he : I64 e) (hf : I64 f) (ep : Hid (ownR (a, b) = p)) (eq : Hid (ownR (c, d) = q)) (er : Hid (ownR (e, f) = r))
    (ex : Hid (cmpI (p.1 * q.2) (q.1 * p.2) = x)) (et : Hid (cmpI (q.1 * p.2) (p.1 * q.2) = t)) (ey : Hid (cmpI (q.1 * r.2) (r.1 * q.2) = y)) (ez : Hid (cmpI (p.1 * r.2) (r.1 * p.2) = z))
    (es : Hid (cmpI (p.1 * p.2) (p.1 * p.2) = 0)) (h3 : Three x t y z) (w : World) :
    Calls Try.prog 8 #[.agg #[.int .i64 a, .int .i64 b], .agg #[.int .i64 c, .int .i64 d], .agg #[.int .i64 e, .int .i64 f]] w fun e w' => e = .returned (.bool true) ∧ Below w.heap.size w w' := by
  have Ha := Lib.hid ha
  have Hb := Lib.hid hb
  have Hc := Lib.hid hc
  have Hd := Lib.hid hd
  have He := Lib.hid he
  have Hf := Lib.hid hf
  have H3 := Lib.hid h3
  clear ha hb hc hd he hf h3
  go_enter Try.func8, Try.ntmps8
  go_wp2_with fail
  have B0 : ∀ wq, Below (((w.alloc (.cells #[.int .i64 a, .int .i64 b] 37 (0, 0))).alloc (.cells #[.int .i64 c, .int .i64 d] 37 (0, 0))).alloc (.cells #[.int .i64 e, .int .i64 f] 37 (0, 0))).heap.size (((w.alloc (.cells #[.int .i64 a, .int .i64 b] 37 (0, 0))).alloc (.cells #[.int .i64 c, .int .i64 d] 37 (0, 0))).alloc (.cells #[.int .i64 e, .int .i64 f] 37 (0, 0))) wq →
      wq.heap[w.heap.size]? = some (.cells #[.int .i64 a, .int .i64 b] 37 (0, 0)) ∧ wq.heap[w.heap.size + 1]? = some (.cells #[.int .i64 c, .int .i64 d] 37 (0, 0)) ∧ wq.heap[w.heap.size + 1 + 1]? = some (.cells #[.int .i64 e, .int .i64 f] 37 (0, 0)) ∧ Below w.heap.size w wq := fun wq hq =>
    ⟨blk_below (blk_old (blk_old (blk_new_at _ rfl) _) _) hq, blk_below (blk_old (blk_new_at _ (by simp)) _) hq, blk_below (blk_new_at _ (by simp)) hq, below_after (below_al (below_al (below_al (Below.refl _ _) _) _) _) hq⟩
  refine region_calms 12 [0, 1, 2, 3, 4, 5, 6, 7, 8, 9, 10, 11] 0 (by kernel_rfl) (by kernel_rfl) ?_ ?_
  · intro _ _ _ _ _ h; exact h
  repeat
    refine wpCalm_ex rfl ?_
    apply Exists.intro
    refine ⟨fun wq hq => ?_, ?_⟩
    · obtain ⟨b0, b1, b2, _⟩ := B0 wq hq
      obtain ⟨c0, c1, _, _⟩ := two_cells b0
      obtain ⟨d0, d1, _, _⟩ := two_cells b1
      obtain ⟨e0, e1, _, _⟩ := two_cells b2
      clear b0 b1 b2
      go_simp
      first
        | rfl
        | (with_reducible exact compare_any _ _ _ _ _ _ _ Ha.out Hb.out Hc.out Hd.out ep eq ex _)
        | (with_reducible exact compare_any _ _ _ _ _ _ _ Hc.out Hd.out He.out Hf.out eq er ey _)
        | (with_reducible exact compare_any _ _ _ _ _ _ _ Ha.out Hb.out He.out Hf.out ep er ez _)
    simp only [Act.put, List.setIfInBounds_toArray, List.set_cons_zero, List.set_cons_succ]
  refine wpCalm_nil (wpT_done (by kernel_rfl) fun w1 hq => ?_)
  obtain ⟨b0, b1, _, b3⟩ := B0 w1 hq
  clear hq B0
  obtain ⟨c0, c1, _, _⟩ := two_cells b0
  obtain ⟨d0, d1, _, _⟩ := two_cells b1
  go_wp2_with fail
  refine (compare_any _ _ _ _ _ _ _ Hc.out Hd.out Ha.out Hb.out eq ep et _).mono ?_
  rintro e' w2 ⟨rfl, hb⟩
  have b0 := blk_below b0 hb
  have b3 := below_after b3 hb
  clear hb b1 c0 c1 d0 d1 ex et ey ez
  obtain ⟨c0, c1, _, _⟩ := two_cells b0
  rcases H3.out with ⟨rfl, rfl, rfl, rfl⟩ | ⟨rfl, rfl, rfl, rfl⟩ | ⟨rfl, rfl, rfl, rfl⟩ | ⟨rfl, rfl, rfl, rfl⟩ | ⟨rfl, rfl, rfl, rfl⟩ | ⟨rfl, rfl, rfl, rfl⟩ | ⟨rfl, rfl, rfl, rfl⟩ | ⟨rfl, rfl, rfl, rfl⟩ | ⟨rfl, rfl, rfl, rfl⟩ | ⟨rfl, rfl, rfl, rfl⟩ | ⟨rfl, rfl, rfl, rfl⟩ | ⟨rfl, rfl, rfl, rfl⟩ | ⟨rfl, rfl, rfl, rfl⟩
  all_goals
    clear H3
    go_wp2_with fail
    refine (compare_any _ _ _ _ _ _ _ Ha.out Hb.out Ha.out Hb.out ep ep es _).mono ?_
    rintro e' w3 ⟨rfl, hb⟩
    have b3 := below_after b3 hb
    clear hb
    go_wp2_with fail
    refine (awake_ok _).mono ?_
    rintro e' w4 ⟨rfl, hb⟩
    have b3 := below_after b3 hb
    clear hb
    go_wp2
    go_ret
    exact ⟨rfl, b3⟩

theorem orders_law (a b c d e f : Int) (ha : (Lit.int .i64 a).wf = true) (hb : (Lit.int .i64 b).wf = true) (hc : (Lit.int .i64 c).wf = true) (hd : (Lit.int .i64 d).wf = true) (he : (Lit.int .i64 e).wf = true) (hf : (Lit.int .i64 f).wf = true) (w : World) :
    Calls Try.prog 8 #[.agg #[.int .i64 a, .int .i64 b], .agg #[.int .i64 c, .int .i64 d], .agg #[.int .i64 e, .int .i64 f]] w fun e w' => e = .returned (.bool true) ∧ Below w.heap.size w w' :=
  orders_any a b c d e f _ _ _ _ _ _ _ (i64_wf ha) (i64_wf hb) (i64_wf hc) (i64_wf hd) (i64_wf he) (i64_wf hf) rfl rfl rfl rfl rfl rfl rfl (cmpI_eq rfl)
    (three_of (ownR_may (i64_wf ha) (i64_wf hb)).d0 (ownR_may (i64_wf hc) (i64_wf hd)).d0 (ownR_may (i64_wf he) (i64_wf hf)).d0) w
end Go.Proofs.Ytdcflgmbpaddhaa
