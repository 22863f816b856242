/- The walk of the reference's Of. -/
import Derived.Test.YtooapbhjnibaoaaVL
namespace Go.Proofs.Ytooapbhjnibaoaa
open Go.RowKit

set_option maxHeartbeats 2000000 in
theorem refOf_no (s1 s2 : ByteArray) (p1 b1 w1 p2 b2 w2 n d v : Int) (hs : ∀ w, Calls Try.prog 17 #[.int .i64 b1, .int .i64 b2] w fun e w' => e = .returned (.int .i64 v) ∧ Below w.heap.size w w')
    (h : ¬ p1 = p2 ∨ (p1 = p2 ∧ p1 < 1) ∨ (p1 = p2 ∧ 1 ≤ p1 ∧ v < 0)) (w : World) :
    Calls Try.prog 19 #[.agg #[.string s1, .int .i64 p1, .int .i64 b1, .int .i64 w1], .agg #[.string s2, .int .i64 p2, .int .i64 b2, .int .i64 w2], .agg #[.int .i64 n, .int .i64 d]] w fun e w' => e = .returned (.int .i64 0) ∧ Below w.heap.size w w' := by
  have HS := Lib.hid hs
  clear hs
  rcases h with h | ⟨rfl, h⟩ | ⟨rfl, h, h2⟩
  all_goals
    go_enter Try.func19, Try.ntmps19
    go_wp2_with fail
    refine (HS.out _).mono ?_
    rintro e w3 ⟨rfl, hb⟩
    have A := blk_below (blk_old (blk_old (blk_new w (.cells #[.string s1, .int .i64 p1, .int .i64 b1, .int .i64 w1] 36 (0, 0))) _) _) hb
    have B := blk_below (blk_old (blk_new_at (w := w.alloc (.cells #[.string s1, .int .i64 p1, .int .i64 b1, .int .i64 w1] 36 (0, 0))) (n := w.heap.size + 1) _ (by simp)) _) hb
    have K := Lib.hid (below_after (below_al (below_al (below_al (Below.refl _ _) _) _) _) hb)
    clear hb
    obtain ⟨a0, a1⟩ := four_cells A
    obtain ⟨c0, c1⟩ := four_cells B
    go_wp2
    go_ret
    exact ⟨rfl, K.out⟩

set_option maxHeartbeats 2000000 in
theorem refOf_yes (s1 s2 : ByteArray) (p b1 w1 b2 w2 n d x y v V : Int) (h : 1 ≤ p) (hx : ¬ x < 0) (hb0 : 0 ≤ b1 + b2) (hb1 : b1 + b2 ≤ 62) (hs : ∀ w, Calls Try.prog 17 #[.int .i64 b1, .int .i64 b2] w fun e w' => e = .returned (.int .i64 x) ∧ Below w.heap.size w w')
    (hp : ∀ w, Calls Try.prog 15 #[.int .i64 (b1 + b2)] w fun e w' => e = .returned (.int .i64 y) ∧ Below w.heap.size w w')
    (hc : ∀ w, Calls Try.prog 25 #[.agg #[.int .i64 x, .int .i64 y], .agg #[.int .i64 n, .int .i64 d]] w fun e w' => e = .returned (.int .i64 v) ∧ Below w.heap.size w w')
    (hV : Hid ((if 0 < v then 0 else if b2 < b1 then 1 else if b1 < b2 then 2 else 0) = V)) (w : World) :
    Calls Try.prog 19 #[.agg #[.string s1, .int .i64 p, .int .i64 b1, .int .i64 w1], .agg #[.string s2, .int .i64 p, .int .i64 b2, .int .i64 w2], .agg #[.int .i64 n, .int .i64 d]] w fun e w' => e = .returned (.int .i64 V) ∧ Below w.heap.size w w' := by
  have HS := Lib.hid hs
  have HP := Lib.hid hp
  have HC := Lib.hid hc
  clear hs hp hc
  go_enter Try.func19, Try.ntmps19
  go_wp2_with fail
  refine (HS.out _).mono ?_
  rintro e w3 ⟨rfl, hb⟩
  have A := blk_below (blk_old (blk_old (blk_new w (.cells #[.string s1, .int .i64 p, .int .i64 b1, .int .i64 w1] 36 (0, 0))) (.cells #[.string s2, .int .i64 p, .int .i64 b2, .int .i64 w2] 36 (0, 0))) (.cells #[.int .i64 n, .int .i64 d] 29 (0, 0))) hb
  have B := blk_below (blk_old (blk_new_at (w := w.alloc (.cells #[.string s1, .int .i64 p, .int .i64 b1, .int .i64 w1] 36 (0, 0))) (n := w.heap.size + 1) (.cells #[.string s2, .int .i64 p, .int .i64 b2, .int .i64 w2] 36 (0, 0)) (by simp)) (.cells #[.int .i64 n, .int .i64 d] 29 (0, 0))) hb
  have L := blk_below (blk_new_at (w := (w.alloc (.cells #[.string s1, .int .i64 p, .int .i64 b1, .int .i64 w1] 36 (0, 0))).alloc (.cells #[.string s2, .int .i64 p, .int .i64 b2, .int .i64 w2] 36 (0, 0))) (n := w.heap.size + 1 + 1) (.cells #[.int .i64 n, .int .i64 d] 29 (0, 0)) (by simp)) hb
  have K := Lib.hid (below_after (below_al (below_al (below_al (Below.refl _ _) _) _) _) hb)
  clear hb
  obtain ⟨a0, a1⟩ := four_cells A
  obtain ⟨c0, c1⟩ := four_cells B
  go_wp2_with fail
  have hW : IntKind.i64.wrap (b1 + b2) = b1 + b2 := by rw [IntKind.wrap_i64]; omega
  refine region_calms 11 (0 :: 1 :: 2 :: 3 :: 4 :: 5 :: 6 :: 7 :: 8 :: 9 :: 10 :: []) 0 (by kernel_rfl) (by kernel_rfl) ?_ ?_
  · intro _ _ _ _ _ h; exact h
  repeat
    refine wpCalm_ex rfl ?_
    apply Exists.intro
    refine ⟨fun wq hq => ?_, ?_⟩
    · obtain ⟨a0, a1⟩ := four_cells (blk_below A hq)
      obtain ⟨c0, c1⟩ := four_cells (blk_below B hq)
      obtain ⟨l0, l1, _, _⟩ := two_cells (blk_below L hq)
      go_simp
      first
        | (simp only [hW]; rfl)
        | rfl
        | (with_reducible exact HP.out _)
        | (with_reducible exact HC.out _)
    simp only [Act.put, List.setIfInBounds_toArray, List.set_cons_zero, List.set_cons_succ]
  refine wpCalm_nil (wpT_done (by kernel_rfl) fun w5 hb => ?_)
  have A := blk_below A hb
  have B := blk_below B hb
  have K := Lib.hid (below_after K.out hb)
  clear hb L a0 a1 c0 c1
  obtain ⟨a0, a1⟩ := four_cells A
  obtain ⟨c0, c1⟩ := four_cells B
  clear A B
  have hc : 0 < v ∨ (¬ 0 < v ∧ b2 < b1) ∨ (¬ 0 < v ∧ ¬ b2 < b1 ∧ b1 < b2) ∨ (¬ 0 < v ∧ ¬ b2 < b1 ∧ ¬ b1 < b2) := by omega
  rcases hc with h1 | ⟨h1, h2⟩ | ⟨h1, h2, h3⟩ | ⟨h1, h2, h3⟩
  · have E : Hid (V = 0) := by rw [← hV.out, if_pos h1]; rfl
    go_wp2
    go_ret
    exact ⟨by rw [E.out]; rfl, K.out⟩
  · have E : Hid (V = 1) := by rw [← hV.out, if_neg h1, if_pos h2]; rfl
    go_wp2
    go_ret
    exact ⟨by rw [E.out]; rfl, K.out⟩
  · have E : Hid (V = 2) := by rw [← hV.out, if_neg h1, if_neg h2, if_pos h3]; rfl
    go_wp2
    go_ret
    exact ⟨by rw [E.out]; rfl, K.out⟩
  · have E : Hid (V = 0) := by rw [← hV.out, if_neg h1, if_neg h2, if_neg h3]; rfl
    go_wp2
    go_ret
    exact ⟨by rw [E.out]; rfl, K.out⟩
end Go.Proofs.Ytooapbhjnibaoaa
