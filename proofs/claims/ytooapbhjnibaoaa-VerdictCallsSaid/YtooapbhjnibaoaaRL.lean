/- The walks of both comparisons. -/
import Derived.Test.YtooapbhjnibaoaaRK
import Derived.Test.YtooapbhjnibaoaaRP
import Derived.Test.YtooapbhjnibaoaaCalm
namespace Go.Proofs.Ytooapbhjnibaoaa
open Go.RowKit

/-- which of two numbers is less -/
def cmpI (x y : Int) : Int := if x < y then -1 else if y < x then 1 else 0
theorem cmpI_lt {x y : Int} (h : x < y) : cmpI x y = -1 := by unfold cmpI; rw [if_pos h]
theorem cmpI_gt {x y : Int} (h : y < x) : cmpI x y = 1 := by unfold cmpI; rw [if_neg (by omega), if_pos h]
theorem cmpI_eq {x y : Int} (h : x = y) : cmpI x y = 0 := by unfold cmpI; rw [if_neg (by omega), if_neg (by omega)]
def ownR (r : Int × Int) : Int × Int := if 0 ≤ r.1 ∧ 1 ≤ r.2 then r else (0, 1)
theorem ownR_may {n d : Int} (hn : I64 n) (hd : I64 d) : RatMay (ownR (n, d)) := by
  unfold ownR
  split
  · rename_i h; exact ⟨h.1, h.2, hn, hd⟩
  · exact ⟨by decide, by decide, by unfold I64; decide, by unfold I64; decide⟩

theorem pos_of {d : Int} (h : 1 ≤ d) : 0 ≤ d := by omega
theorem word_at {n : Int} (hn : I64 n) (h : 0 ≤ n) (w : World) :
    Calls Try.prog 28 #[.int .i64 n] w fun e w' => e = .returned (.int .u64 n) ∧ w = w' := by
  have := word_ok n hn w
  rwa [max_of h] at this

theorem may_any {n d : Int} {m : Bool} (hm : decide (0 ≤ n ∧ 1 ≤ d) = m) (w : World) :
    Calls Try.prog 41 #[.agg #[.int .i64 n, .int .i64 d]] w fun e w' => e = .returned (.bool m) ∧ Below w.heap.size w w' := by
  subst hm
  by_cases h : 0 ≤ n ∧ 1 ≤ d
  · rw [decide_eq_true h]; exact may_yes n d h.1 h.2 w
  · rw [decide_eq_false h]; exact may_no n d h w
theorem refMay_any {n d : Int} {m : Bool} (hm : decide (0 ≤ n ∧ 1 ≤ d) = m) (w : World) :
    Calls Try.prog 48 #[.agg #[.int .i64 n, .int .i64 d]] w fun e w' => e = .returned (.bool m) ∧ Below w.heap.size w w' := by
  subst hm
  by_cases h : 0 ≤ n ∧ 1 ≤ d
  · rw [decide_eq_true h]; exact refMay_yes n d h.1 h.2 w
  · rw [decide_eq_false h]; exact refMay_no n d h w

theorem held_any {n d : Int} {p : Int × Int} (ep : ownR (n, d) = p) (w : World) :
    Calls Try.prog 26 #[.agg #[.int .i64 n, .int .i64 d]] w fun e w' => e = .returned (.agg #[.int .i64 p.1, .int .i64 p.2]) ∧ Below w.heap.size w w' := by
  subst ep
  unfold ownR
  by_cases h : 0 ≤ n ∧ 1 ≤ d
  · rw [if_pos h]; exact held_yes n d h.1 h.2 w
  · rw [if_neg h]; exact held_no n d h w
theorem own_any {n d : Int} {p : Int × Int} (ep : ownR (n, d) = p) (w : World) :
    Calls Try.prog 38 #[.agg #[.int .i64 n, .int .i64 d]] w fun e w' => e = .returned (.agg #[.int .i64 p.1, .int .i64 p.2]) ∧ Below w.heap.size w w' := by
  subst ep
  unfold ownR
  by_cases h : 0 ≤ n ∧ 1 ≤ d
  · rw [if_pos h]; exact own_yes n d h.1 h.2 w
  · rw [if_neg h]; exact own_no n d h w

theorem nan_ok (x : Int) (w : World) :
    Calls Try.prog 50 #[.int .u64 x] w fun e w' => e = .returned (.bool false) ∧ w = w' := by
  have h : (x != x) = false := by simp
  go_enter Try.func50, Try.ntmps50
  go_wp2
  go_ret
  exact ⟨rfl, rfl⟩

theorem cmpU_ok (x y : Int) (w : World) :
    Calls Try.prog 43 #[.int .u64 x, .int .u64 y] w fun e w' => e = .returned (.int .i64 (cmpI x y)) ∧ w = w' := by
  rcases Int.lt_trichotomy x y with h | h | h
  · have e : cmpI x y = -1 := by unfold cmpI; rw [if_pos h]
    rw [e]
    clear e
    go_enter Try.func43, Try.ntmps43
    go_wp2_with (go_at_call 50; refine (nan_ok _ _).mono ?_; rintro e w' ⟨rfl, rfl⟩)
    go_ret
    exact ⟨rfl, rfl⟩
  · subst h
    have e : cmpI x x = 0 := by unfold cmpI; rw [if_neg (by omega), if_neg (by omega)]
    rw [e]
    clear e
    have h1 : ¬ x < x := by omega
    go_enter Try.func43, Try.ntmps43
    go_wp2_with (go_at_call 50; refine (nan_ok _ _).mono ?_; rintro e w' ⟨rfl, rfl⟩)
    go_ret
    exact ⟨rfl, rfl⟩
  · have h1 : ¬ x < y := by omega
    have e : cmpI x y = 1 := by unfold cmpI; rw [if_neg h1, if_pos h]
    rw [e]
    clear e
    go_enter Try.func43, Try.ntmps43
    go_wp2_with (go_at_call 50; refine (nan_ok _ _).mono ?_; rintro e w' ⟨rfl, rfl⟩)
    go_ret
    exact ⟨rfl, rfl⟩

theorem cmpU_any {x y v : Int} (hv : cmpI x y = v) (w : World) :
    Calls Try.prog 43 #[.int .u64 x, .int .u64 y] w fun e w' => e = .returned (.int .i64 v) ∧ w = w' := by
  subst hv; exact cmpU_ok x y w

/-- cmp.Or of two numbers -/
def orI (x y : Int) : Int := if x = 0 then y else x
theorem or_two (b : Nat) (x y v : Int) (hv : Hid (orI x y = v)) (w : World) (t : TypeId) (h : w.heap[b]? = some (.cells #[.int .i64 x, .int .i64 y] t (0, 0))) :
    Calls Try.prog 33 #[.slice (some ⟨b, 0, none⟩) 2 2] w fun e w' => e = .returned (.int .i64 v) ∧ Below w.heap.size w w' := by
  obtain ⟨c0, c1, _, _⟩ := two_cells h
  clear h
  go_enter Try.func33, Try.ntmps33
  go_wp2_with fail
  go_loop [8] (fun i => ∃ k : Nat, i = .int .i64 k ∧ Hid (k ≤ 2 ∧ (k ≠ 0 → x = 0) ∧ (k = 2 → y = 0))) (fun i => 2 - (intOf i).toNat)
  case atStart => exact ⟨0, rfl, by omega, fun h => absurd rfl h, fun h => by omega⟩
  case round =>
    obtain ⟨k, rfl, H⟩ := hrel
    rcases (show k = 0 ∨ k = 1 ∨ k = 2 by have := H.out.1; omega) with rfl | rfl | rfl
    · by_cases h0 : x = 0
      · have h1 : (x != 0) = false := by simp [h0]
        have H0 := Lib.hid h0
        clear h0
        go_wp2
        go_round
        case rel => exact ⟨1, rfl, by omega, fun _ => H0.out, fun h => by omega⟩
        case measure => simp [intOf]
      · have h1 : (x != 0) = true := by simp [h0]
        go_wp2
        go_ret
        refine ⟨ret_int ?_, Below.refl _ _⟩
        rw [← hv.out]; unfold orI; rw [if_neg h0]
    · by_cases h0 : y = 0
      · have h1 : (y != 0) = false := by simp [h0]
        have H0 := Lib.hid h0
        clear h0
        go_wp2
        go_round
        case rel => exact ⟨2, rfl, by omega, fun _ => H.out.2.1 (by omega), fun _ => H0.out⟩
        case measure => simp [intOf]
      · have h1 : (y != 0) = true := by simp [h0]
        go_wp2
        go_ret
        refine ⟨ret_int ?_, Below.refl _ _⟩
        rw [← hv.out]; unfold orI; rw [if_pos (H.out.2.1 (by omega))]
    · go_wp2
      go_ret
      refine ⟨ret_int ?_, Below.refl _ _⟩
      rw [← hv.out]; unfold orI; rw [if_pos (H.out.2.1 (by omega)), H.out.2.2 trivial]

theorem cmp_long (x y : Int) : orI (cmpI (hi x) (hi y)) (cmpI (lo x) (lo y)) = cmpI x y := by
  have h1 := less_parts (x := x) (y := y)
  have h2 := less_parts (x := y) (y := x)
  unfold orI cmpI
  repeat' split
  all_goals first | rfl | omega

set_option maxHeartbeats 1000000 in
theorem lcompare_ok (x y v : Int) (hv : Hid (cmpI x y = v)) (w : World) :
    Calls Try.prog 29 #[.agg #[.int .u64 (hi x), .int .u64 (lo x)], .agg #[.int .u64 (hi y), .int .u64 (lo y)]] w fun e w' => e = .returned (.int .i64 v) ∧ Below w.heap.size w w' := by
  obtain ⟨p, hp⟩ : ∃ p, cmpI (hi x) (hi y) = p := ⟨_, rfl⟩
  obtain ⟨q, hq⟩ : ∃ q, cmpI (lo x) (lo y) = q := ⟨_, rfl⟩
  have Hp := Lib.hid hp
  have Hq := Lib.hid hq
  have Hv : Hid (orI p q = v) := by rw [← hp, ← hq, cmp_long]; exact hv.out
  clear hp hq
  go_enter Try.func29, Try.ntmps29
  go_wp2_with fail
  refine region_calms 13 [0, 1, 2, 3, 4, 5, 6, 7, 8, 9] 3 (by kernel_rfl) (by kernel_rfl) ?_ ?_
  · intro _ _ _ _ _ h; exact h
  have B0 : ∀ wq, Below ((w.alloc (.cells #[.int .u64 (hi x), .int .u64 (lo x)] 55 (0, 0))).alloc (.cells #[.int .u64 (hi y), .int .u64 (lo y)] 55 (0, 0))).heap.size ((w.alloc (.cells #[.int .u64 (hi x), .int .u64 (lo x)] 55 (0, 0))).alloc (.cells #[.int .u64 (hi y), .int .u64 (lo y)] 55 (0, 0))) wq →
      wq.heap[w.heap.size]? = some (.cells #[.int .u64 (hi x), .int .u64 (lo x)] 55 (0, 0)) ∧ wq.heap[w.heap.size + 1]? = some (.cells #[.int .u64 (hi y), .int .u64 (lo y)] 55 (0, 0)) ∧ Below w.heap.size w wq := fun wq hq =>
    ⟨blk_below (blk_old (blk_new_at _ rfl) _) hq, blk_below (blk_new_at _ (by simp)) hq, below_after (below_al (below_al (Below.refl _ _) _) _) hq⟩
  repeat
    refine wpCalm_ex rfl ?_
    apply Exists.intro
    refine ⟨fun wq hq => ?_, ?_⟩
    · obtain ⟨c0, c1, _, _⟩ := two_cells (B0 wq hq).1
      obtain ⟨d0, d1, _, _⟩ := two_cells (B0 wq hq).2.1
      go_simp
      first
        | rfl
        | (with_reducible exact calm_same (cmpU_any Hp.out _))
        | (with_reducible exact calm_same (cmpU_any Hq.out _))
    simp only [Act.put, List.setIfInBounds_toArray, List.set_cons_zero, List.set_cons_succ]
  refine wpCalm_nil (wpT_one 10 rfl (by kernel_rfl) fun wq hq K hK => ?_)
  have hb := (B0 wq hq).2.2
  clear B0 hq
  go_simp
  refine hK _ _ (below_al (Below.refl _ _) _) ?_
  clear hK K
  refine wpT_one 11 rfl (by kernel_rfl) fun w2 hq K hK => ?_
  have N := blk_below (blk_new wq (.cells #[.int .i64 p, .int .i64 q] 3 (0, 0))) hq
  go_simp
  refine (or_two _ _ _ _ Hv _ _ N).mono ?_
  rintro e w3 ⟨rfl, h3⟩
  refine hK _ _ h3 ?_
  have hb := below_after (below_after (below_al hb _) hq) h3
  clear hK K N hq h3
  refine wpT_one 12 rfl (by kernel_rfl) fun w4 hq K hK => ?_
  go_simp
  refine hK _ _ (Below.refl _ _) ?_
  clear hK K
  have hb := below_after hb hq
  clear hq
  refine wpT_done (by kernel_rfl) fun w5 hq => ?_
  have hb := below_after hb hq
  clear hq
  go_wp2
  go_ret
  exact ⟨rfl, hb⟩
end Go.Proofs.Ytooapbhjnibaoaa
