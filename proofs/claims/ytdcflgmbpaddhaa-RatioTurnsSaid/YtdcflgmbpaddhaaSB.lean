/- The walk of the law of turns. -/
import Derived.Test.YtdcflgmbpaddhaaRY
import Derived.Test.YtdcflgmbpaddhaaRJ
import Derived.Test.YtdcflgmbpaddhaaSA
import Derived.Test.YtdcflgmbpaddhaaRS
import Derived.Test.YtdcflgmbpaddhaaRT
namespace Go.Proofs.Ytdcflgmbpaddhaa
open Go.RowKit

theorem ratRow_one {w : World} {b : Nat} {t : TypeId} {x y : Int} (h : w.heap[b]? = some (.cells #[.int .i64 x, .int .i64 y] t (0, 0))) : RatRow w b 0 [(x, y)] := by
  intro j hj
  have : j = 0 := by simp at hj; omega
  rcases this with rfl
  simp [World.cell?, h]

/-- what the program's sum answers of two -/
def Sum2 (a b c d : Int) (V : Value) : Prop := ∀ w p, RatRow w p 0 [(a, b), (c, d)] → Calls Try.prog 18 #[.slice (some ⟨p, 0, none⟩) 2 2] w fun e w' => e = .returned V ∧ Below w.heap.size w w'

set_option maxRecDepth 100000 in
set_option maxHeartbeats 2000000 in
theorem turns_no (a b c d : Int) (m1 m2 : Bool) (e1 : decide (0 ≤ a ∧ 1 ≤ b) = m1) (e2 : decide (0 ≤ c ∧ 1 ≤ d) = m2) (hn : ¬ (m1 = true ∧ m2 = true ∧ b < 2147483648 ∧ d < 2147483648 ∧ a < 2147483648 ∧ c < 2147483648))
    (h1 : Sum2 a b c d (.tuple #[.agg #[.int .i64 0, .int .i64 0], .bool false])) (h2 : Sum2 c d a b (.tuple #[.agg #[.int .i64 0, .int .i64 0], .bool false])) (w : World) :
    Calls Try.prog 10 #[.agg #[.int .i64 a, .int .i64 b], .agg #[.int .i64 c, .int .i64 d]] w fun e w' => e = .returned (.bool true) ∧ Below w.heap.size w w' := by
  have H1 := Lib.hid h1
  have H2 := Lib.hid h2
  have E1 := Lib.hid e1
  have E2 := Lib.hid e2
  have HN := Lib.hid hn
  clear h1 h2 e1 e2 hn
  go_enter Try.func10, Try.ntmps10
  go_wp2_with fail
  refine Calls.mono (H1.out _ _ (ratRow_two (blk_new_at (.cells #[.int .i64 a, .int .i64 b, .int .i64 c, .int .i64 d] 37 (0, 0)) (by simp)))) ?_
  rintro e w1 ⟨rfl, hb⟩
  have A1 := blk_old (blk_below (blk_old (blk_old (blk_new w (.cells #[.int .i64 a, .int .i64 b] 37 (0, 0))) (.cells #[.int .i64 c, .int .i64 d] 37 (0, 0))) (.cells #[.int .i64 a, .int .i64 b, .int .i64 c, .int .i64 d] 37 (0, 0))) hb) (.cells #[.int .i64 0, .int .i64 0] 37 (0, 0))
  have C1 := blk_old (blk_below (blk_old (blk_new_at (w := w.alloc (.cells #[.int .i64 a, .int .i64 b] 37 (0, 0))) (n := w.heap.size + 1) (.cells #[.int .i64 c, .int .i64 d] 37 (0, 0)) (by simp)) (.cells #[.int .i64 a, .int .i64 b, .int .i64 c, .int .i64 d] 37 (0, 0))) hb) (.cells #[.int .i64 0, .int .i64 0] 37 (0, 0))
  have S1 := blk_new w1 (.cells #[.int .i64 0, .int .i64 0] 37 (0, 0))
  have K1 := Lib.hid (below_al (below_after (below_al (below_al (below_al (Below.refl _ _) _) _) _) hb) (.cells #[.int .i64 0, .int .i64 0] 37 (0, 0)))
  clear hb
  obtain ⟨a0, a1, _, _⟩ := two_cells A1
  obtain ⟨c0, c1, _, _⟩ := two_cells C1
  go_wp2_with fail
  refine Calls.mono (H2.out _ _ (ratRow_two (blk_new_at (.cells #[.int .i64 c, .int .i64 d, .int .i64 a, .int .i64 b] 37 (0, 0)) (by simp)))) ?_
  rintro e w2 ⟨rfl, hb⟩
  have A2 := blk_old (blk_below (blk_old A1 (.cells #[.int .i64 c, .int .i64 d, .int .i64 a, .int .i64 b] 37 (0, 0))) hb) (.cells #[.int .i64 0, .int .i64 0] 37 (0, 0))
  have C2 := blk_old (blk_below (blk_old C1 (.cells #[.int .i64 c, .int .i64 d, .int .i64 a, .int .i64 b] 37 (0, 0))) hb) (.cells #[.int .i64 0, .int .i64 0] 37 (0, 0))
  have S2 := blk_old (blk_below (blk_old S1 (.cells #[.int .i64 c, .int .i64 d, .int .i64 a, .int .i64 b] 37 (0, 0))) hb) (.cells #[.int .i64 0, .int .i64 0] 37 (0, 0))
  have T2 := blk_new w2 (.cells #[.int .i64 0, .int .i64 0] 37 (0, 0))
  have K2 := Lib.hid (below_al (below_after (below_al K1.out (.cells #[.int .i64 c, .int .i64 d, .int .i64 a, .int .i64 b] 37 (0, 0))) hb) (.cells #[.int .i64 0, .int .i64 0] 37 (0, 0)))
  clear hb A1 C1 S1 K1 a0 a1 c0 c1
  obtain ⟨a0, a1, _, _⟩ := two_cells A2
  obtain ⟨c0, c1, _, _⟩ := two_cells C2
  obtain ⟨s0, s1, _, _⟩ := two_cells S2
  obtain ⟨t0, t1, _, _⟩ := two_cells T2
  go_wp2_with fail
  refine (may_any E1.out _).mono ?_
  rintro e w3 ⟨rfl, hb⟩
  have A3 := blk_below A2 hb
  have C3 := blk_below C2 hb
  have S3 := blk_below S2 hb
  have T3 := blk_below T2 hb
  have K3 := Lib.hid (below_after K2.out hb)
  clear hb A2 C2 S2 T2 K2 a0 a1 c0 c1 s0 s1 t0 t1
  obtain ⟨a0, a1, _, _⟩ := two_cells A3
  obtain ⟨c0, c1, _, _⟩ := two_cells C3
  obtain ⟨s0, s1, _, _⟩ := two_cells S3
  obtain ⟨t0, t1, _, _⟩ := two_cells T3
  cases m1 with
  | false =>
    go_wp2_with fail
    refine (awake_ok _).mono ?_
    rintro e w4 ⟨rfl, hb⟩
    have K4 := Lib.hid (below_after K3.out hb)
    clear hb K3
    go_wp2
    go_ret
    exact ⟨rfl, K4.out⟩
  | true =>
    go_wp2_with fail
    refine (may_any E2.out _).mono ?_
    rintro e w4 ⟨rfl, hb⟩
    have A4 := blk_below A3 hb
    have C4 := blk_below C3 hb
    have S4 := blk_below S3 hb
    have T4 := blk_below T3 hb
    have K4 := Lib.hid (below_after K3.out hb)
    clear hb A3 C3 S3 T3 K3 a0 a1 c0 c1 s0 s1 t0 t1
    obtain ⟨a0, a1, _, _⟩ := two_cells A4
    obtain ⟨c0, c1, _, _⟩ := two_cells C4
    obtain ⟨s0, s1, _, _⟩ := two_cells S4
    obtain ⟨t0, t1, _, _⟩ := two_cells T4
    cases m2 with
    | false =>
      go_wp2_with fail
      refine (awake_ok _).mono ?_
      rintro e w5 ⟨rfl, hb⟩
      have K5 := Lib.hid (below_after K4.out hb)
      clear hb K4
      go_wp2
      go_ret
      exact ⟨rfl, K5.out⟩
    | true =>
      have hs : ¬ b < 2147483648 ∨ (b < 2147483648 ∧ ¬ d < 2147483648) ∨ (b < 2147483648 ∧ d < 2147483648 ∧ ¬ a < 2147483648) ∨ (b < 2147483648 ∧ d < 2147483648 ∧ a < 2147483648 ∧ ¬ c < 2147483648) := by
        have := HN.out
        simp only [true_and] at this
        omega
      clear HN
      rcases hs with g1 | ⟨g1, g2⟩ | ⟨g1, g2, g3⟩ | ⟨g1, g2, g3, g4⟩
      all_goals
        go_wp2_with fail
        refine (awake_ok _).mono ?_
        rintro e w5 ⟨rfl, hb⟩
        have K5 := Lib.hid (below_after K4.out hb)
        clear hb K4
        go_wp2
        go_ret
        exact ⟨rfl, K5.out⟩

set_option maxRecDepth 100000 in
set_option maxHeartbeats 2000000 in
theorem turns_yes (a b c d x y : Int) (v1 v2 : Int) (h1 : Sum2 a b c d (.tuple #[.agg #[.int .i64 x, .int .i64 y], .bool true])) (h2 : Sum2 c d a b (.tuple #[.agg #[.int .i64 x, .int .i64 y], .bool true]))
    (h3 : ∀ w p, RatRow w p 0 [(x, y)] → Calls Try.prog 18 #[.slice (some ⟨p, 0, none⟩) 1 1] w fun e w' => e = .returned (.tuple #[.agg #[.int .i64 x, .int .i64 y], .bool true]) ∧ Below w.heap.size w w')
    (h4 : ∀ w, Calls Try.prog 20 #[.agg #[.int .i64 x, .int .i64 y], .agg #[.int .i64 a, .int .i64 b]] w fun e w' => e = .returned (.int .i64 v1) ∧ Below w.heap.size w w')
    (h5 : ∀ w, Calls Try.prog 20 #[.agg #[.int .i64 x, .int .i64 y], .agg #[.int .i64 c, .int .i64 d]] w fun e w' => e = .returned (.int .i64 v2) ∧ Below w.heap.size w w')
    (g1 : 0 ≤ v1) (g2 : 0 ≤ v2) (w : World) :
    Calls Try.prog 10 #[.agg #[.int .i64 a, .int .i64 b], .agg #[.int .i64 c, .int .i64 d]] w fun e w' => e = .returned (.bool true) ∧ Below w.heap.size w w' := by
  have H1 := Lib.hid h1
  have H2 := Lib.hid h2
  have H3 := Lib.hid h3
  have H4 := Lib.hid h4
  have H5 := Lib.hid h5
  clear h1 h2 h3 h4 h5
  go_enter Try.func10, Try.ntmps10
  go_wp2_with fail
  refine Calls.mono (H1.out _ _ (ratRow_two (blk_new_at (.cells #[.int .i64 a, .int .i64 b, .int .i64 c, .int .i64 d] 37 (0, 0)) (by simp)))) ?_
  rintro e w1 ⟨rfl, hb⟩
  have A1 := blk_old (blk_below (blk_old (blk_old (blk_new w (.cells #[.int .i64 a, .int .i64 b] 37 (0, 0))) (.cells #[.int .i64 c, .int .i64 d] 37 (0, 0))) (.cells #[.int .i64 a, .int .i64 b, .int .i64 c, .int .i64 d] 37 (0, 0))) hb) (.cells #[.int .i64 x, .int .i64 y] 37 (0, 0))
  have C1 := blk_old (blk_below (blk_old (blk_new_at (w := w.alloc (.cells #[.int .i64 a, .int .i64 b] 37 (0, 0))) (n := w.heap.size + 1) (.cells #[.int .i64 c, .int .i64 d] 37 (0, 0)) (by simp)) (.cells #[.int .i64 a, .int .i64 b, .int .i64 c, .int .i64 d] 37 (0, 0))) hb) (.cells #[.int .i64 x, .int .i64 y] 37 (0, 0))
  have S1 := blk_new w1 (.cells #[.int .i64 x, .int .i64 y] 37 (0, 0))
  have K1 := Lib.hid (below_al (below_after (below_al (below_al (below_al (Below.refl _ _) _) _) _) hb) (.cells #[.int .i64 x, .int .i64 y] 37 (0, 0)))
  clear hb
  obtain ⟨a0, a1, _, _⟩ := two_cells A1
  obtain ⟨c0, c1, _, _⟩ := two_cells C1
  go_wp2_with fail
  refine Calls.mono (H2.out _ _ (ratRow_two (blk_new_at (.cells #[.int .i64 c, .int .i64 d, .int .i64 a, .int .i64 b] 37 (0, 0)) (by simp)))) ?_
  rintro e w2 ⟨rfl, hb⟩
  have A2 := blk_old (blk_below (blk_old A1 (.cells #[.int .i64 c, .int .i64 d, .int .i64 a, .int .i64 b] 37 (0, 0))) hb) (.cells #[.int .i64 x, .int .i64 y] 37 (0, 0))
  have C2 := blk_old (blk_below (blk_old C1 (.cells #[.int .i64 c, .int .i64 d, .int .i64 a, .int .i64 b] 37 (0, 0))) hb) (.cells #[.int .i64 x, .int .i64 y] 37 (0, 0))
  have S2 := blk_old (blk_below (blk_old S1 (.cells #[.int .i64 c, .int .i64 d, .int .i64 a, .int .i64 b] 37 (0, 0))) hb) (.cells #[.int .i64 x, .int .i64 y] 37 (0, 0))
  have T2 := blk_new w2 (.cells #[.int .i64 x, .int .i64 y] 37 (0, 0))
  have K2 := Lib.hid (below_al (below_after (below_al K1.out (.cells #[.int .i64 c, .int .i64 d, .int .i64 a, .int .i64 b] 37 (0, 0))) hb) (.cells #[.int .i64 x, .int .i64 y] 37 (0, 0)))
  clear hb A1 C1 S1 K1 a0 a1 c0 c1
  obtain ⟨a0, a1, _, _⟩ := two_cells A2
  obtain ⟨c0, c1, _, _⟩ := two_cells C2
  obtain ⟨s0, s1, _, _⟩ := two_cells S2
  obtain ⟨t0, t1, _, _⟩ := two_cells T2
  go_wp2_with fail
  refine (H3.out _ _ (ratRow_one (blk_new_at (.cells #[.int .i64 x, .int .i64 y] 37 (0, 0)) (by simp)))).mono ?_
  rintro e w3 ⟨rfl, hb⟩
  have A3 := blk_old (blk_below (blk_old A2 (.cells #[.int .i64 x, .int .i64 y] 37 (0, 0))) hb) (.cells #[.int .i64 x, .int .i64 y] 37 (0, 0))
  have C3 := blk_old (blk_below (blk_old C2 (.cells #[.int .i64 x, .int .i64 y] 37 (0, 0))) hb) (.cells #[.int .i64 x, .int .i64 y] 37 (0, 0))
  have S3 := blk_old (blk_below (blk_old S2 (.cells #[.int .i64 x, .int .i64 y] 37 (0, 0))) hb) (.cells #[.int .i64 x, .int .i64 y] 37 (0, 0))
  have U3 := blk_new w3 (.cells #[.int .i64 x, .int .i64 y] 37 (0, 0))
  have K3 := Lib.hid (below_al (below_after (below_al K2.out (.cells #[.int .i64 x, .int .i64 y] 37 (0, 0))) hb) (.cells #[.int .i64 x, .int .i64 y] 37 (0, 0)))
  clear hb A2 C2 S2 T2 K2 a0 a1 c0 c1 s0 s1 t0 t1
  obtain ⟨a0, a1, _, _⟩ := two_cells A3
  obtain ⟨c0, c1, _, _⟩ := two_cells C3
  obtain ⟨s0, s1, _, _⟩ := two_cells S3
  obtain ⟨u0, u1, _, _⟩ := two_cells U3
  go_wp2_with fail
  refine (H4.out _).mono ?_
  rintro e w4 ⟨rfl, hb⟩
  have A4 := blk_below A3 hb
  have C4 := blk_below C3 hb
  have S4 := blk_below S3 hb
  have U4 := blk_below U3 hb
  have K4 := Lib.hid (below_after K3.out hb)
  clear hb A3 C3 S3 U3 K3 a0 a1 c0 c1 s0 s1 u0 u1
  obtain ⟨a0, a1, _, _⟩ := two_cells A4
  obtain ⟨c0, c1, _, _⟩ := two_cells C4
  obtain ⟨s0, s1, _, _⟩ := two_cells S4
  obtain ⟨u0, u1, _, _⟩ := two_cells U4
  go_wp2_with fail
  refine (H5.out _).mono ?_
  rintro e w5 ⟨rfl, hb⟩
  have A5 := blk_below A4 hb
  have C5 := blk_below C4 hb
  have S5 := blk_below S4 hb
  have U5 := blk_below U4 hb
  have K5 := Lib.hid (below_after K4.out hb)
  clear hb A4 C4 S4 U4 K4 a0 a1 c0 c1 s0 s1 u0 u1
  obtain ⟨a0, a1, _, _⟩ := two_cells A5
  obtain ⟨c0, c1, _, _⟩ := two_cells C5
  obtain ⟨s0, s1, _, _⟩ := two_cells S5
  obtain ⟨u0, u1, _, _⟩ := two_cells U5
  go_wp2_with fail
  refine (awake_ok _).mono ?_
  rintro e w6 ⟨rfl, hb⟩
  have K6 := Lib.hid (below_after K5.out hb)
  clear hb K5
  go_wp2
  go_ret
  exact ⟨rfl, K6.out⟩

theorem turns_law (a b c d : Int) (ha : (Lit.int .i64 a).wf = true) (hb : (Lit.int .i64 b).wf = true) (hc : (Lit.int .i64 c).wf = true) (hd : (Lit.int .i64 d).wf = true) (w : World) :
    Calls Try.prog 10 #[.agg #[.int .i64 a, .int .i64 b], .agg #[.int .i64 c, .int .i64 d]] w fun e w' => e = .returned (.bool true) ∧ Below w.heap.size w w' := by
  have ha := i64_wf ha
  have hb := i64_wf hb
  have hc := i64_wf hc
  have hd := i64_wf hd
  by_cases hm : (0 ≤ a ∧ 1 ≤ b) ∧ (0 ≤ c ∧ 1 ≤ d)
  · have MA : RatMay (a, b) := ⟨hm.1.1, hm.1.2, ha, hb⟩
    have MC : RatMay (c, d) := ⟨hm.2.1, hm.2.2, hc, hd⟩
    have e := fold_turn MA MC
    have M1 : ∀ z ∈ [(a, b), (c, d)], RatMay z := fun z hz => by
      simp only [List.mem_cons, List.not_mem_nil, or_false] at hz
      rcases hz with rfl | rfl
      · exact MA
      · exact MC
    have M2 : ∀ z ∈ [(c, d), (a, b)], RatMay z := fun z hz => by
      simp only [List.mem_cons, List.not_mem_nil, or_false] at hz
      rcases hz with rfl | rfl
      · exact MC
      · exact MA
    cases hf : ratFold (0, 1) [(a, b), (c, d)] with
    | none =>
      rw [hf] at e
      refine turns_no a b c d _ _ rfl rfl (fun h => fold_small MA MC h.2.2.2.2.1 h.2.2.1 h.2.2.2.2.2 h.2.2.2.1 hf) (fun w p hr => ?_) (fun w p hr => ?_) w
      · exact sum_none p 0 2 _ M1 hf (by simp) w hr
      · exact sum_none p 0 2 _ M2 e (by simp) w hr
    | some t =>
      rw [hf] at e
      obtain ⟨x, y⟩ := t
      have RT := fold_red MA MC hf
      have hmore := fold_more MA MC hf
      simp only at hmore
      have ox : ownR (x, y) = (x, y) := ownR_self RT.n0 RT.d0
      refine turns_yes a b c d x y _ _ (fun w p hr => ?_) (fun w p hr => ?_) (fun w p hr => ?_) (fun w => compare_any x y a b _ _ _ RT.In RT.Id ha hb ox (ownR_self hm.1.1 hm.1.2) rfl w) (fun w => compare_any x y c d _ _ _ RT.In RT.Id hc hd ox (ownR_self hm.2.1 hm.2.2) rfl w) ?_ ?_ w
      · exact sum_some p 0 2 _ _ M1 hf (by simp) w hr
      · exact sum_some p 0 2 _ _ M2 e (by simp) w hr
      · refine sum_some p 0 1 [(x, y)] (x, y) (fun z hz => ?_) (fold_one RT) (by simp) w hr
        simp only [List.mem_singleton] at hz
        subst hz
        exact RT.toRatMay
      · unfold cmpI; simp only; split
        · omega
        · split <;> omega
      · unfold cmpI; simp only; split
        · omega
        · split <;> omega
  · have n1 : ∃ k, k < [(a, b), (c, d)].length ∧ ¬ (0 ≤ ([(a, b), (c, d)].getD k (0, 1)).1 ∧ 1 ≤ ([(a, b), (c, d)].getD k (0, 1)).2) := by
      by_cases h : 0 ≤ a ∧ 1 ≤ b
      · exact ⟨1, by simp, fun h2 => hm ⟨h, h2⟩⟩
      · exact ⟨0, by simp, h⟩
    have n2 : ∃ k, k < [(c, d), (a, b)].length ∧ ¬ (0 ≤ ([(c, d), (a, b)].getD k (0, 1)).1 ∧ 1 ≤ ([(c, d), (a, b)].getD k (0, 1)).2) := by
      by_cases h : 0 ≤ a ∧ 1 ≤ b
      · exact ⟨0, by simp, fun h2 => hm ⟨h, h2⟩⟩
      · exact ⟨1, by simp, h⟩
    refine turns_no a b c d _ _ rfl rfl (fun h => hm ⟨of_decide_eq_true h.1, of_decide_eq_true h.2.1⟩) (fun w p hr => ?_) (fun w p hr => ?_) w
    · exact sum_not p 0 2 _ n1 (by simp) w hr
    · exact sum_not p 0 2 _ n2 (by simp) w hr
end Go.Proofs.Ytdcflgmbpaddhaa
