/- The walks of both comparisons. -/
import Derived.Test.YtooapbhjnibaoaaRL
namespace Go.Proofs.Ytooapbhjnibaoaa
open Go.RowKit

theorem compare_start (w wq : World) (x y z u : Int) (h : Below (((w.alloc (.cells #[.int .i64 x, .int .i64 y] 29 (0, 0))).alloc (.cells #[.int .i64 z, .int .i64 u] 29 (0, 0)))).heap.size (((w.alloc (.cells #[.int .i64 x, .int .i64 y] 29 (0, 0))).alloc (.cells #[.int .i64 z, .int .i64 u] 29 (0, 0)))) wq) :
    wq.heap[w.heap.size]? = some (.cells #[.int .i64 x, .int .i64 y] 29 (0, 0)) ∧ wq.heap[w.heap.size + 1]? = some (.cells #[.int .i64 z, .int .i64 u] 29 (0, 0)) ∧ Below w.heap.size w wq :=
  ⟨blk_below (blk_old (blk_new_at _ rfl) _) h, blk_below (blk_new_at _ (by simp)) h, below_after (below_al (below_al (Below.refl _ _) _) _) h⟩

set_option maxRecDepth 100000 in
set_option maxHeartbeats 2000000 in
theorem compare_any (a b c d v : Int) (p q : Int × Int) (ha : I64 a) (hb : I64 b) (hc : I64 c) (hd : I64 d) (ep : Hid (ownR (a, b) = p)) (eq : Hid (ownR (c, d) = q)) (ev : Hid (cmpI (p.1 * q.2) (q.1 * p.2) = v)) (w : World) :
    Calls Try.prog 20 #[.agg #[.int .i64 a, .int .i64 b], .agg #[.int .i64 c, .int .i64 d]] w fun e w' => e = .returned (.int .i64 v) ∧ Below w.heap.size w w' := by
  have Mp : Hid (RatMay p) := by rw [← ep.out]; exact ownR_may ha hb
  have Mq : Hid (RatMay q) := by rw [← eq.out]; exact ownR_may hc hd
  clear ha hb hc hd
  obtain ⟨p1, p2⟩ := p
  obtain ⟨q1, q2⟩ := q
  simp only at *
  go_enter Try.func20, Try.ntmps20
  go_wp2_with fail
  refine region_calms 4 [0, 1, 2, 3] 0 (by kernel_rfl) (by kernel_rfl) ?_ ?_
  · intro _ _ _ _ _ h; exact h
  repeat
    refine wpCalm_ex rfl ?_
    apply Exists.intro
    refine ⟨fun wq hq => ?_, ?_⟩
    · obtain ⟨b0, b1, _⟩ := compare_start w wq _ _ _ _ hq
      obtain ⟨c0, c1, _, _⟩ := two_cells b0
      obtain ⟨d0, d1, _, _⟩ := two_cells b1
      clear b0 b1
      go_simp
      first
        | rfl
        | (with_reducible exact held_any ep.out _)
        | (with_reducible exact held_any eq.out _)
    simp only [Act.put, List.setIfInBounds_toArray, List.set_cons_zero, List.set_cons_succ]
  refine wpCalm_nil (wpT_tail (by kernel_rfl) fun w1 hq => ?_)
  obtain ⟨b0, b1, b2⟩ := compare_start w w1 _ _ _ _ hq
  clear hq
  obtain ⟨c0, c1, c2, c3⟩ := two_cells b0
  obtain ⟨d0, d1, d2, d3⟩ := two_cells b1
  go_wp2_with fail
  have b0 := blk_far (blk_far (two_set1 (two_set0 b0 (.int .i64 p1)) (.int .i64 p2)) (show w.heap.size ≠ w.heap.size + 1 by omega) (o := 0) (.int .i64 q1)) (show w.heap.size ≠ w.heap.size + 1 by omega) (o := 1) (.int .i64 q2)
  have b1 := two_set1 (two_set0 (blk_far (blk_far b1 (show w.heap.size + 1 ≠ w.heap.size by omega) (o := 0) (.int .i64 p1)) (show w.heap.size + 1 ≠ w.heap.size by omega) (o := 1) (.int .i64 p2)) (.int .i64 q1)) (.int .i64 q2)
  have b2 := below_set (below_set (below_set (below_set b2 (Nat.le_refl _) (o := 0) (.int .i64 p1)) (Nat.le_refl _) (o := 1) (.int .i64 p2)) (show w.heap.size ≤ w.heap.size + 1 by omega) (o := 0) (.int .i64 q1)) (show w.heap.size ≤ w.heap.size + 1 by omega) (o := 1) (.int .i64 q2)
  clear c0 c1 c2 c3 d0 d1 d2 d3
  refine region_calms 16 [0, 1, 2, 3, 4, 5, 6, 7, 8, 9, 10, 11, 12, 13, 14, 15] 0 (by kernel_rfl) (by kernel_rfl) ?_ ?_
  · intro _ _ _ _ _ h; exact h
  repeat
    refine wpCalm_ex rfl ?_
    apply Exists.intro
    refine ⟨fun wq hq => ?_, ?_⟩
    · obtain ⟨c0, c1, _, _⟩ := two_cells (blk_below b0 hq)
      obtain ⟨d0, d1, _, _⟩ := two_cells (blk_below b1 hq)
      go_simp
      first
        | rfl
        | (with_reducible exact calm_same (word_at Mp.out.In Mp.out.n0 _))
        | (with_reducible exact calm_same (word_at Mp.out.Id (pos_of Mp.out.d0) _))
        | (with_reducible exact calm_same (word_at Mq.out.In Mq.out.n0 _))
        | (with_reducible exact calm_same (word_at Mq.out.Id (pos_of Mq.out.d0) _))
        | (with_reducible exact times_ok _ _ (u64_of Mp.out.In Mp.out.n0) (u64_of Mq.out.Id (pos_of Mq.out.d0)) _)
        | (with_reducible exact times_ok _ _ (u64_of Mq.out.In Mq.out.n0) (u64_of Mp.out.Id (pos_of Mp.out.d0)) _)
        | (with_reducible exact lcompare_ok _ _ _ ev _)
    simp only [Act.put, List.setIfInBounds_toArray, List.set_cons_zero, List.set_cons_succ]
  refine wpCalm_nil (wpT_done (by kernel_rfl) fun w2 hq => ?_)
  have hb := below_after b2 hq
  clear hq b0 b1 b2
  go_wp2
  go_ret
  exact ⟨rfl, hb⟩

set_option maxRecDepth 100000 in
set_option maxHeartbeats 2000000 in
theorem refCompare_any (a b c d v : Int) (p q : Int × Int) (ha : I64 a) (hb : I64 b) (hc : I64 c) (hd : I64 d) (ep : Hid (ownR (a, b) = p)) (eq : Hid (ownR (c, d) = q)) (ev : Hid (cmpI (p.1 * q.2) (q.1 * p.2) = v)) (w : World) :
    Calls Try.prog 25 #[.agg #[.int .i64 a, .int .i64 b], .agg #[.int .i64 c, .int .i64 d]] w fun e w' => e = .returned (.int .i64 v) ∧ Below w.heap.size w w' := by
  have Mp : Hid (RatMay p) := by rw [← ep.out]; exact ownR_may ha hb
  have Mq : Hid (RatMay q) := by rw [← eq.out]; exact ownR_may hc hd
  clear ha hb hc hd
  obtain ⟨p1, p2⟩ := p
  obtain ⟨q1, q2⟩ := q
  simp only at *
  go_enter Try.func25, Try.ntmps25
  go_wp2_with fail
  refine region_calms 4 [0, 1, 2, 3] 0 (by kernel_rfl) (by kernel_rfl) ?_ ?_
  · intro _ _ _ _ _ h; exact h
  repeat
    refine wpCalm_ex rfl ?_
    apply Exists.intro
    refine ⟨fun wq hq => ?_, ?_⟩
    · obtain ⟨b0, b1, _⟩ := compare_start w wq _ _ _ _ hq
      obtain ⟨c0, c1, _, _⟩ := two_cells b0
      obtain ⟨d0, d1, _, _⟩ := two_cells b1
      clear b0 b1
      go_simp
      first
        | rfl
        | (with_reducible exact own_any ep.out _)
        | (with_reducible exact own_any eq.out _)
    simp only [Act.put, List.setIfInBounds_toArray, List.set_cons_zero, List.set_cons_succ]
  refine wpCalm_nil (wpT_tail (by kernel_rfl) fun w1 hq => ?_)
  obtain ⟨b0, b1, b2⟩ := compare_start w w1 _ _ _ _ hq
  clear hq
  obtain ⟨c0, c1, c2, c3⟩ := two_cells b0
  obtain ⟨d0, d1, d2, d3⟩ := two_cells b1
  go_wp2_with fail
  have b0 := blk_far (blk_far (two_set1 (two_set0 b0 (.int .i64 p1)) (.int .i64 p2)) (show w.heap.size ≠ w.heap.size + 1 by omega) (o := 0) (.int .i64 q1)) (show w.heap.size ≠ w.heap.size + 1 by omega) (o := 1) (.int .i64 q2)
  have b1 := two_set1 (two_set0 (blk_far (blk_far b1 (show w.heap.size + 1 ≠ w.heap.size by omega) (o := 0) (.int .i64 p1)) (show w.heap.size + 1 ≠ w.heap.size by omega) (o := 1) (.int .i64 p2)) (.int .i64 q1)) (.int .i64 q2)
  have b2 := below_set (below_set (below_set (below_set b2 (Nat.le_refl _) (o := 0) (.int .i64 p1)) (Nat.le_refl _) (o := 1) (.int .i64 p2)) (show w.heap.size ≤ w.heap.size + 1 by omega) (o := 0) (.int .i64 q1)) (show w.heap.size ≤ w.heap.size + 1 by omega) (o := 1) (.int .i64 q2)
  clear c0 c1 c2 c3 d0 d1 d2 d3
  have W1 := Lib.hid (word_pos Mp.out.In Mp.out.n0)
  have W2 := Lib.hid (word_pos Mp.out.Id (pos_of Mp.out.d0))
  have W3 := Lib.hid (word_pos Mq.out.In Mq.out.n0)
  have W4 := Lib.hid (word_pos Mq.out.Id (pos_of Mq.out.d0))
  refine region_calms 16 [0, 1, 2, 3, 4, 5, 6, 7, 8, 9, 10, 11, 12, 13] 2 (by kernel_rfl) (by kernel_rfl) ?_ ?_
  · intro _ _ _ _ _ h; exact h
  repeat
    refine wpCalm_ex rfl ?_
    apply Exists.intro
    refine ⟨fun wq hq => ?_, ?_⟩
    · obtain ⟨c0, c1, _, _⟩ := two_cells (blk_below b0 hq)
      obtain ⟨d0, d1, _, _⟩ := two_cells (blk_below b1 hq)
      go_simp
      first
        | rfl
        | (rw [W1.out, W4.out]; with_reducible exact refTimes_ok _ _ (u64_of Mp.out.In Mp.out.n0) (u64_of Mq.out.Id (pos_of Mq.out.d0)) _)
        | (rw [W3.out, W2.out]; with_reducible exact refTimes_ok _ _ (u64_of Mq.out.In Mq.out.n0) (u64_of Mp.out.Id (pos_of Mp.out.d0)) _)
    simp only [Act.put, List.setIfInBounds_toArray, List.set_cons_zero, List.set_cons_succ]
  refine wpCalm_nil (wpT_allocs (i := 14) (j := 15) (Oi := .cells #[.int .u64 0, .int .u64 0] 68 (0, 0)) (Oj := .cells #[.int .u64 0, .int .u64 0] 68 (0, 0)) rfl rfl rfl rfl rfl rfl (fun _ _ => by go_simp) (fun _ _ => by go_simp) (by kernel_rfl) fun w2 g1 g2 hq h1 h2 hne N1 N2 => ?_)
  have h0 : w.heap.size + 1 < g1 := Nat.lt_of_lt_of_le (lt_of_block b1) h1
  have h0' : w.heap.size + 1 < g2 := Nat.lt_of_lt_of_le (lt_of_block b1) h2
  have b3 := below_after b2 hq
  clear hq b0 b1 b2 h1 h2
  simp only [Act.put, List.setIfInBounds_toArray, List.set_cons_zero, List.set_cons_succ]
  refine wpT_tail (by kernel_rfl) fun w3 hq => ?_
  have N1 := blk_below N1 hq
  have N2 := blk_below N2 hq
  have b3 := below_after b3 hq
  clear hq
  obtain ⟨c0, c1, c2, c3⟩ := two_cells N1
  obtain ⟨d0, d1, d2, d3⟩ := two_cells N2
  go_wp2_with fail
  have N1 := blk_far (blk_far (two_set1 (two_set0 N1 (.int .u64 (hi (p1 * q2)))) (.int .u64 (lo (p1 * q2)))) hne (o := 0) (.int .u64 (hi (q1 * p2)))) hne (o := 1) (.int .u64 (lo (q1 * p2)))
  have N2 := two_set1 (two_set0 (blk_far (blk_far N2 (Ne.symm hne) (o := 0) (.int .u64 (hi (p1 * q2)))) (Ne.symm hne) (o := 1) (.int .u64 (lo (p1 * q2)))) (.int .u64 (hi (q1 * p2)))) (.int .u64 (lo (q1 * p2)))
  have b3 := below_set (below_set (below_set (below_set b3 (show w.heap.size ≤ g1 by omega) (o := 0) (.int .u64 (hi (p1 * q2)))) (show w.heap.size ≤ g1 by omega) (o := 1) (.int .u64 (lo (p1 * q2)))) (show w.heap.size ≤ g2 by omega) (o := 0) (.int .u64 (hi (q1 * p2)))) (show w.heap.size ≤ g2 by omega) (o := 1) (.int .u64 (lo (q1 * p2)))
  clear c0 c1 c2 c3 d0 d1 d2 d3
  by_cases hlt : p1 * q2 < q1 * p2
  · refine (less_yes _ _ hlt _).mono ?_
    rintro e w4 ⟨rfl, hb⟩
    have hv := Lib.hid (show v = -1 by rw [← ev.out]; exact cmpI_lt hlt)
    have b4 := below_after b3 hb
    clear hb N1 N2 b3 hlt
    go_wp2
    go_ret
    exact ⟨ret_int hv.out.symm, b4⟩
  · refine (less_no _ _ hlt _).mono ?_
    rintro e w4 ⟨rfl, hb⟩
    have N1 := blk_below N1 hb
    have N2 := blk_below N2 hb
    have b4 := below_after b3 hb
    clear hb b3
    obtain ⟨c0, c1, c2, c3⟩ := two_cells N1
    obtain ⟨d0, d1, d2, d3⟩ := two_cells N2
    have Hlt := Lib.hid hlt
    clear hlt
    go_wp2_with fail
    by_cases hgt : q1 * p2 < p1 * q2
    · refine (less_yes _ _ hgt _).mono ?_
      rintro e w5 ⟨rfl, hb⟩
      have hv := Lib.hid (show v = 1 by rw [← ev.out]; exact cmpI_gt hgt)
      have b5 := below_after b4 hb
      clear hb N1 N2 b4 hgt c0 c1 c2 c3 d0 d1 d2 d3
      go_wp2
      go_ret
      exact ⟨ret_int hv.out.symm, b5⟩
    · refine (less_no _ _ hgt _).mono ?_
      rintro e w5 ⟨rfl, hb⟩
      have hv := Lib.hid (show v = 0 by rw [← ev.out]; exact cmpI_eq (by have := Hlt.out; omega))
      have b5 := below_after b4 hb
      clear hb N1 N2 b4 hgt c0 c1 c2 c3 d0 d1 d2 d3
      go_wp2
      go_ret
      exact ⟨ret_int hv.out.symm, b5⟩
end Go.Proofs.Ytooapbhjnibaoaa
