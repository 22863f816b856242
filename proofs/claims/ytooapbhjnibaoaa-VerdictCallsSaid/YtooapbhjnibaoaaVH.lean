/- The walk of the law of levels. -/
import Derived.Test.YtooapbhjnibaoaaVF
namespace Go.Proofs.Ytooapbhjnibaoaa
open Go.RowKit

theorem i64_wf' {n : Int} (h : (Lit.int .i64 n).wf = true) : I64 n := by
  simp [Lit.wf, IntKind.min, IntKind.max, IntKind.signed, IntKind.bits] at h
  unfold I64
  omega
abbrev OfIs (s1 s2 : ByteArray) (p1 b1 w1 p2 b2 w2 n d V : Int) : Prop := ∀ w, Calls Try.prog 18 #[.agg #[.string s1, .int .i64 p1, .int .i64 b1, .int .i64 w1], .agg #[.string s2, .int .i64 p2, .int .i64 b2, .int .i64 w2], .agg #[.int .i64 n, .int .i64 d]] w fun e w' => e = .returned (.int .i64 V) ∧ Below w.heap.size w w'

/-- what Of answers, at any level: nothing at none; or a constant at each level that isn't below a fraction -/
theorem of_any (s1 s2 : ByteArray) (p1 b1 w1 p2 b2 w2 : Int) :
    (∀ n d, OfIs s1 s2 p1 b1 w1 p2 b2 w2 n d 0) ∨
    ∃ (x : Int × Int) (X : Int), RatMay x ∧ ∀ n d, I64 n → I64 d → OfIs s1 s2 p1 b1 w1 p2 b2 w2 n d (if 0 < cmpI (x.1 * (ownR (n, d)).2) ((ownR (n, d)).1 * x.2) then 0 else X) := by
  by_cases hp : p1 = p2 ∧ 1 ≤ p1
  · obtain ⟨rfl, hp⟩ := hp
    by_cases hb : 0 ≤ b1 ∧ 0 ≤ b2 ∧ b1 + b2 ≤ 62
    · right
      obtain ⟨a, rfl⟩ := Int.eq_ofNat_of_zero_le hb.1
      obtain ⟨b, rfl⟩ := Int.eq_ofNat_of_zero_le hb.2.1
      have hab : a + b ≤ 62 := by omega
      have h1 := pow_le62 hab
      have h2 : signN a b ≤ 2 ^ (a + b) := Nat.min_le_right _ _
      have h3 : 1 ≤ 2 ^ (a + b) := Nat.one_le_two_pow
      have M : RatMay (((signN a b : Nat) : Int), ((2 ^ (a + b) : Nat) : Int)) := by
        generalize 2 ^ (a + b) = D at *
        generalize signN a b = S at *
        exact ⟨by simp only; omega, by simp only; omega, by unfold I64; simp only; omega, by unfold I64; simp only; omega⟩
      refine ⟨_, if (b : Int) < a then 1 else if (a : Int) < b then 2 else 0, M, fun n d hn hd w => ?_⟩
      exact of_yes s1 s2 p1 a w1 b w2 n d _ _ _ hp (sign_ok a b hab) (fun w => compare_any _ _ n d _ _ _ M.In M.Id hn hd (show ownR _ = _ by unfold ownR; rw [if_pos ⟨M.n0, M.d0⟩]) rfl rfl w) _ rfl w
    · left
      exact fun n d w => of_not s1 s2 p1 b1 w1 b2 w2 n d _ _ hp (fun w => sign_no b1 b2 hb w) w
  · left
    exact fun n d w => of_open s1 s2 p1 b1 w1 p2 b2 w2 n d hp w

theorem all_four {w : World} {b : Nat} {v0 v1 v2 v3 : Value} {t : TypeId} (h : w.heap[b]? = some (.cells #[v0, v1, v2, v3] t (0, 0))) :
    w.cell? ⟨b, 0, none⟩ = some v0 ∧ w.cell? ⟨b, 1, none⟩ = some v1 ∧ w.cell? ⟨b, 2, none⟩ = some v2 ∧ w.cell? ⟨b, 3, none⟩ = some v3 := by
  simp [World.cell?, h]

set_option maxRecDepth 100000 in
set_option maxHeartbeats 2000000 in
theorem levels_one (s1 s2 : ByteArray) (p1 b1 w1 p2 b2 w2 n1 d1 n2 d2 c x y : Int) (hc : ∀ w, Calls Try.prog 20 #[.agg #[.int .i64 n1, .int .i64 d1], .agg #[.int .i64 n2, .int .i64 d2]] w fun e w' => e = .returned (.int .i64 c) ∧ Below w.heap.size w w')
    (h1 : OfIs s1 s2 p1 b1 w1 p2 b2 w2 n1 d1 x) (h2 : OfIs s1 s2 p1 b1 w1 p2 b2 w2 n2 d2 y) (hx : x = 0 ∨ (¬ x = 0 ∧ x = y)) (h : ¬ 0 < c) (w : World) :
    Calls Try.prog 8 #[.agg #[.string s1, .int .i64 p1, .int .i64 b1, .int .i64 w1], .agg #[.string s2, .int .i64 p2, .int .i64 b2, .int .i64 w2], .agg #[.int .i64 n1, .int .i64 d1], .agg #[.int .i64 n2, .int .i64 d2]] w fun e w' => e = .returned (.bool true) ∧ Below w.heap.size w w' := by
  have HC := Lib.hid hc
  have H1 := Lib.hid h1
  have H2 := Lib.hid h2
  clear hc h1 h2
  go_enter Try.func8, Try.ntmps8
  go_wp2_with fail
  refine (HC.out _).mono ?_
  rintro e u1 ⟨rfl, hb⟩
  have A := blk_below (blk_old (blk_old (blk_old (blk_new w (.cells #[.string s1, .int .i64 p1, .int .i64 b1, .int .i64 w1] 36 (0, 0))) (.cells #[.string s2, .int .i64 p2, .int .i64 b2, .int .i64 w2] 36 (0, 0))) (.cells #[.int .i64 n1, .int .i64 d1] 29 (0, 0))) (.cells #[.int .i64 n2, .int .i64 d2] 29 (0, 0))) hb
  have B := blk_below (blk_old (blk_old (blk_new_at (w := w.alloc (.cells #[.string s1, .int .i64 p1, .int .i64 b1, .int .i64 w1] 36 (0, 0))) (n := w.heap.size + 1) (.cells #[.string s2, .int .i64 p2, .int .i64 b2, .int .i64 w2] 36 (0, 0)) (by simp)) (.cells #[.int .i64 n1, .int .i64 d1] 29 (0, 0))) (.cells #[.int .i64 n2, .int .i64 d2] 29 (0, 0))) hb
  have L := blk_below (blk_old (blk_new_at (w := (w.alloc (.cells #[.string s1, .int .i64 p1, .int .i64 b1, .int .i64 w1] 36 (0, 0))).alloc (.cells #[.string s2, .int .i64 p2, .int .i64 b2, .int .i64 w2] 36 (0, 0))) (n := w.heap.size + 1 + 1) (.cells #[.int .i64 n1, .int .i64 d1] 29 (0, 0)) (by simp)) (.cells #[.int .i64 n2, .int .i64 d2] 29 (0, 0))) hb
  have M := blk_below (blk_new_at (w := ((w.alloc (.cells #[.string s1, .int .i64 p1, .int .i64 b1, .int .i64 w1] 36 (0, 0))).alloc (.cells #[.string s2, .int .i64 p2, .int .i64 b2, .int .i64 w2] 36 (0, 0))).alloc (.cells #[.int .i64 n1, .int .i64 d1] 29 (0, 0))) (n := w.heap.size + 1 + 1 + 1) (.cells #[.int .i64 n2, .int .i64 d2] 29 (0, 0)) (by simp)) hb
  have K := Lib.hid (below_after (below_al (below_al (below_al (below_al (Below.refl _ _) _) _) _) _) hb)
  clear hb
  go_wp2_with fail
  refine region_calms 10 [0, 1, 2, 3, 4, 5, 6, 7, 8, 9] 0 (by kernel_rfl) (by kernel_rfl) ?_ ?_
  · intro _ _ _ _ _ h; exact h
  repeat
    refine wpCalm_ex rfl ?_
    apply Exists.intro
    refine ⟨fun wq hq => ?_, ?_⟩
    · obtain ⟨a0, a1, a2, a3⟩ := all_four (blk_below A hq)
      obtain ⟨c0, c1, c2, c3⟩ := all_four (blk_below B hq)
      obtain ⟨l0, l1, _, _⟩ := two_cells (blk_below L hq)
      obtain ⟨m0, m1, _, _⟩ := two_cells (blk_below M hq)
      go_simp
      first
        | rfl
        | (with_reducible exact H1.out _)
        | (with_reducible exact H2.out _)
    simp only [Act.put, List.setIfInBounds_toArray, List.set_cons_zero, List.set_cons_succ]
  refine wpCalm_nil (wpT_done (by kernel_rfl) fun u2 hb => ?_)
  have K := Lib.hid (below_after K.out hb)
  clear hb A B L M
  rcases hx with hx | ⟨hx, hxy⟩
  · subst hx
    go_wp2_with fail
    refine (awake_ok _).mono ?_
    rintro e u3 ⟨rfl, hb⟩
    have K := Lib.hid (below_after K.out hb)
    clear hb
    go_wp2
    go_ret
    exact ⟨rfl, K.out⟩
  · subst hxy
    go_wp2_with fail
    refine (awake_ok _).mono ?_
    rintro e u3 ⟨rfl, hb⟩
    have K := Lib.hid (below_after K.out hb)
    clear hb
    go_wp2
    go_ret
    exact ⟨rfl, K.out⟩

set_option maxRecDepth 100000 in
set_option maxHeartbeats 2000000 in
theorem levels_two (s1 s2 : ByteArray) (p1 b1 w1 p2 b2 w2 n1 d1 n2 d2 c x y : Int) (hc : ∀ w, Calls Try.prog 20 #[.agg #[.int .i64 n1, .int .i64 d1], .agg #[.int .i64 n2, .int .i64 d2]] w fun e w' => e = .returned (.int .i64 c) ∧ Below w.heap.size w w')
    (h1 : OfIs s1 s2 p1 b1 w1 p2 b2 w2 n2 d2 x) (h2 : OfIs s1 s2 p1 b1 w1 p2 b2 w2 n1 d1 y) (hx : x = 0 ∨ (¬ x = 0 ∧ x = y)) (h : 0 < c) (w : World) :
    Calls Try.prog 8 #[.agg #[.string s1, .int .i64 p1, .int .i64 b1, .int .i64 w1], .agg #[.string s2, .int .i64 p2, .int .i64 b2, .int .i64 w2], .agg #[.int .i64 n1, .int .i64 d1], .agg #[.int .i64 n2, .int .i64 d2]] w fun e w' => e = .returned (.bool true) ∧ Below w.heap.size w w' := by
  have HC := Lib.hid hc
  have H1 := Lib.hid h1
  have H2 := Lib.hid h2
  clear hc h1 h2
  go_enter Try.func8, Try.ntmps8
  go_wp2_with fail
  refine (HC.out _).mono ?_
  rintro e u1 ⟨rfl, hb⟩
  have A := blk_below (blk_old (blk_old (blk_old (blk_new w (.cells #[.string s1, .int .i64 p1, .int .i64 b1, .int .i64 w1] 36 (0, 0))) (.cells #[.string s2, .int .i64 p2, .int .i64 b2, .int .i64 w2] 36 (0, 0))) (.cells #[.int .i64 n1, .int .i64 d1] 29 (0, 0))) (.cells #[.int .i64 n2, .int .i64 d2] 29 (0, 0))) hb
  have B := blk_below (blk_old (blk_old (blk_new_at (w := w.alloc (.cells #[.string s1, .int .i64 p1, .int .i64 b1, .int .i64 w1] 36 (0, 0))) (n := w.heap.size + 1) (.cells #[.string s2, .int .i64 p2, .int .i64 b2, .int .i64 w2] 36 (0, 0)) (by simp)) (.cells #[.int .i64 n1, .int .i64 d1] 29 (0, 0))) (.cells #[.int .i64 n2, .int .i64 d2] 29 (0, 0))) hb
  have L := blk_below (blk_old (blk_new_at (w := (w.alloc (.cells #[.string s1, .int .i64 p1, .int .i64 b1, .int .i64 w1] 36 (0, 0))).alloc (.cells #[.string s2, .int .i64 p2, .int .i64 b2, .int .i64 w2] 36 (0, 0))) (n := w.heap.size + 1 + 1) (.cells #[.int .i64 n1, .int .i64 d1] 29 (0, 0)) (by simp)) (.cells #[.int .i64 n2, .int .i64 d2] 29 (0, 0))) hb
  have M := blk_below (blk_new_at (w := ((w.alloc (.cells #[.string s1, .int .i64 p1, .int .i64 b1, .int .i64 w1] 36 (0, 0))).alloc (.cells #[.string s2, .int .i64 p2, .int .i64 b2, .int .i64 w2] 36 (0, 0))).alloc (.cells #[.int .i64 n1, .int .i64 d1] 29 (0, 0))) (n := w.heap.size + 1 + 1 + 1) (.cells #[.int .i64 n2, .int .i64 d2] 29 (0, 0)) (by simp)) hb
  have K := Lib.hid (below_after (below_al (below_al (below_al (below_al (Below.refl _ _) _) _) _) _) hb)
  clear hb
  obtain ⟨l0, l1, l2, l3⟩ := two_cells L
  obtain ⟨m0, m1, m2, m3⟩ := two_cells M
  go_wp2_with fail
  have A := blk_far (blk_far (blk_far (blk_far A (show w.heap.size ≠ w.heap.size + 1 + 1 by omega) (o := 0) (.int .i64 n2)) (show w.heap.size ≠ w.heap.size + 1 + 1 by omega) (o := 1) (.int .i64 d2)) (show w.heap.size ≠ w.heap.size + 1 + 1 + 1 by omega) (o := 0) (.int .i64 n1)) (show w.heap.size ≠ w.heap.size + 1 + 1 + 1 by omega) (o := 1) (.int .i64 d1)
  have B := blk_far (blk_far (blk_far (blk_far B (show w.heap.size + 1 ≠ w.heap.size + 1 + 1 by omega) (o := 0) (.int .i64 n2)) (show w.heap.size + 1 ≠ w.heap.size + 1 + 1 by omega) (o := 1) (.int .i64 d2)) (show w.heap.size + 1 ≠ w.heap.size + 1 + 1 + 1 by omega) (o := 0) (.int .i64 n1)) (show w.heap.size + 1 ≠ w.heap.size + 1 + 1 + 1 by omega) (o := 1) (.int .i64 d1)
  have L := blk_far (blk_far (two_set1 (two_set0 L (.int .i64 n2)) (.int .i64 d2)) (show w.heap.size + 1 + 1 ≠ w.heap.size + 1 + 1 + 1 by omega) (o := 0) (.int .i64 n1)) (show w.heap.size + 1 + 1 ≠ w.heap.size + 1 + 1 + 1 by omega) (o := 1) (.int .i64 d1)
  have M := two_set1 (two_set0 (blk_far (blk_far M (show w.heap.size + 1 + 1 + 1 ≠ w.heap.size + 1 + 1 by omega) (o := 0) (.int .i64 n2)) (show w.heap.size + 1 + 1 + 1 ≠ w.heap.size + 1 + 1 by omega) (o := 1) (.int .i64 d2)) (.int .i64 n1)) (.int .i64 d1)
  have K := Lib.hid (below_set (below_set (below_set (below_set K.out (show w.heap.size ≤ w.heap.size + 1 + 1 by omega) (o := 0) (.int .i64 n2)) (show w.heap.size ≤ w.heap.size + 1 + 1 by omega) (o := 1) (.int .i64 d2)) (show w.heap.size ≤ w.heap.size + 1 + 1 + 1 by omega) (o := 0) (.int .i64 n1)) (show w.heap.size ≤ w.heap.size + 1 + 1 + 1 by omega) (o := 1) (.int .i64 d1))
  clear l0 l1 l2 l3 m0 m1 m2 m3
  refine region_calms 10 [0, 1, 2, 3, 4, 5, 6, 7, 8, 9] 0 (by kernel_rfl) (by kernel_rfl) ?_ ?_
  · intro _ _ _ _ _ h; exact h
  repeat
    refine wpCalm_ex rfl ?_
    apply Exists.intro
    refine ⟨fun wq hq => ?_, ?_⟩
    · obtain ⟨a0, a1, a2, a3⟩ := all_four (blk_below A hq)
      obtain ⟨c0, c1, c2, c3⟩ := all_four (blk_below B hq)
      obtain ⟨l0, l1, _, _⟩ := two_cells (blk_below L hq)
      obtain ⟨m0, m1, _, _⟩ := two_cells (blk_below M hq)
      go_simp
      first
        | rfl
        | (with_reducible exact H1.out _)
        | (with_reducible exact H2.out _)
    simp only [Act.put, List.setIfInBounds_toArray, List.set_cons_zero, List.set_cons_succ]
  refine wpCalm_nil (wpT_done (by kernel_rfl) fun u2 hb => ?_)
  have K := Lib.hid (below_after K.out hb)
  clear hb A B L M
  rcases hx with hx | ⟨hx, hxy⟩
  · subst hx
    go_wp2_with fail
    refine (awake_ok _).mono ?_
    rintro e u3 ⟨rfl, hb⟩
    have K := Lib.hid (below_after K.out hb)
    clear hb
    go_wp2
    go_ret
    exact ⟨rfl, K.out⟩
  · subst hxy
    go_wp2_with fail
    refine (awake_ok _).mono ?_
    rintro e u3 ⟨rfl, hb⟩
    have K := Lib.hid (below_after K.out hb)
    clear hb
    go_wp2
    go_ret
    exact ⟨rfl, K.out⟩

theorem cmp_le {x y : Int} : ¬ 0 < cmpI x y ↔ x ≤ y := by
  unfold cmpI
  split
  · omega
  · split <;> omega
theorem leq_three {p q r : Int × Int} (hp : 1 ≤ p.2) (hq : 1 ≤ q.2) (hr : 1 ≤ r.2) (h1 : p.1 * q.2 ≤ q.1 * p.2) (h2 : q.1 * r.2 ≤ r.1 * q.2) : p.1 * r.2 ≤ r.1 * p.2 := by
  have e1 := Int.mul_le_mul_of_nonneg_right h1 (show 0 ≤ r.2 by omega)
  have e2 := Int.mul_le_mul_of_nonneg_right h2 (show 0 ≤ p.2 by omega)
  have e3 : (p.1 * r.2) * q.2 ≤ (r.1 * p.2) * q.2 := by
    have a1 : p.1 * q.2 * r.2 = p.1 * r.2 * q.2 := by grind
    have a2 : q.1 * p.2 * r.2 = q.1 * r.2 * p.2 := by grind
    have a3 : r.1 * q.2 * p.2 = r.1 * p.2 * q.2 := by grind
    omega
  exact Int.le_of_mul_le_mul_right e3 (by omega)

theorem of_two {x p q : Int × Int} {X : Int} (hx : 1 ≤ x.2) (hp : 1 ≤ p.2) (hq : 1 ≤ q.2) (h : p.1 * q.2 ≤ q.1 * p.2) :
    (if 0 < cmpI (x.1 * p.2) (p.1 * x.2) then 0 else X) = 0 ∨ (¬ (if 0 < cmpI (x.1 * p.2) (p.1 * x.2) then 0 else X) = 0 ∧ (if 0 < cmpI (x.1 * p.2) (p.1 * x.2) then 0 else X) = (if 0 < cmpI (x.1 * q.2) (q.1 * x.2) then 0 else X)) := by
  by_cases h1 : 0 < cmpI (x.1 * p.2) (p.1 * x.2)
  · left; rw [if_pos h1]
  · have h2 : ¬ 0 < cmpI (x.1 * q.2) (q.1 * x.2) := cmp_le.2 (leq_three hx hp hq (cmp_le.1 h1) h)
    rw [if_neg h1, if_neg h2]
    by_cases e : X = 0
    · exact .inl e
    · exact .inr ⟨e, rfl⟩

theorem levels_law (s1 : ByteArray) (p1 b1 w1 : Int) (s2 : ByteArray) (p2 b2 w2 n1 d1 n2 d2 : Int) (hn1 : (Lit.int .i64 n1).wf = true) (hd1 : (Lit.int .i64 d1).wf = true) (hn2 : (Lit.int .i64 n2).wf = true) (hd2 : (Lit.int .i64 d2).wf = true) (w : World) :
    Calls Try.prog 8 #[.agg #[.string s1, .int .i64 p1, .int .i64 b1, .int .i64 w1], .agg #[.string s2, .int .i64 p2, .int .i64 b2, .int .i64 w2], .agg #[.int .i64 n1, .int .i64 d1], .agg #[.int .i64 n2, .int .i64 d2]] w fun e w' => e = .returned (.bool true) ∧ Below w.heap.size w w' := by
  have I1 := i64_wf' hn1
  have I2 := i64_wf' hd1
  have I3 := i64_wf' hn2
  have I4 := i64_wf' hd2
  have M1 := ownR_may I1 I2
  have M2 := ownR_may I3 I4
  have HC := fun w => compare_any n1 d1 n2 d2 _ _ _ I1 I2 I3 I4 rfl rfl rfl w
  have O := of_any s1 s2 p1 b1 w1 p2 b2 w2
  by_cases hc : 0 < cmpI ((ownR (n1, d1)).1 * (ownR (n2, d2)).2) ((ownR (n2, d2)).1 * (ownR (n1, d1)).2)
  · rcases O with O | ⟨x, X, M, O⟩
    · exact levels_two s1 s2 p1 b1 w1 p2 b2 w2 n1 d1 n2 d2 _ 0 0 HC (O n2 d2) (O n1 d1) (.inl rfl) hc w
    · have hle : (ownR (n2, d2)).1 * (ownR (n1, d1)).2 ≤ (ownR (n1, d1)).1 * (ownR (n2, d2)).2 := by
        refine Classical.byContradiction fun h => ?_
        have := cmp_le.2 (show (ownR (n1, d1)).1 * (ownR (n2, d2)).2 ≤ (ownR (n2, d2)).1 * (ownR (n1, d1)).2 by omega)
        exact this hc
      exact levels_two s1 s2 p1 b1 w1 p2 b2 w2 n1 d1 n2 d2 _ _ _ HC (O n2 d2 I3 I4) (O n1 d1 I1 I2) (of_two M.d0 M2.d0 M1.d0 hle) hc w
  · rcases O with O | ⟨x, X, M, O⟩
    · exact levels_one s1 s2 p1 b1 w1 p2 b2 w2 n1 d1 n2 d2 _ 0 0 HC (O n1 d1) (O n2 d2) (.inl rfl) hc w
    · exact levels_one s1 s2 p1 b1 w1 p2 b2 w2 n1 d1 n2 d2 _ _ _ HC (O n1 d1 I1 I2) (O n2 d2 I3 I4) (of_two M.d0 M1.d0 M2.d0 (cmp_le.1 hc)) hc w
end Go.Proofs.Ytooapbhjnibaoaa
