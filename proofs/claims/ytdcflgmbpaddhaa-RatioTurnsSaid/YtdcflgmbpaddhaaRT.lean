/- The walk of the law on fractions whose both numbers are taken so many times. -/
import Derived.Test.YtdcflgmbpaddhaaRQ
namespace Go.Proofs.Ytdcflgmbpaddhaa
open Go.RowKit

theorem ownR_self {n d : Int} (hn : 0 ≤ n) (hd : 1 ≤ d) : ownR (n, d) = (n, d) := by unfold ownR; rw [if_pos ⟨hn, hd⟩]

theorem times_bd {u n : Int} (u0 : 0 ≤ u) (u1 : u ≤ 1073741824) (n0 : 1 ≤ n) (n1 : n ≤ 1073741824) : 0 ≤ u * n ∧ u * n ≤ 1152921504606846976 ∧ u ≤ u * n := by
  have h1 := Int.mul_nonneg u0 (show 0 ≤ n by omega)
  have h2 := Int.mul_le_mul u1 n1 (show 0 ≤ n by omega) (by omega)
  have h3 := Int.mul_le_mul_of_nonneg_left n0 u0
  omega

set_option maxRecDepth 100000 in
set_option maxHeartbeats 4000000 in
theorem times_yes (u d n m k v : Int) (z : Bool) (u0 : 0 ≤ u) (u1 : u ≤ 1073741824) (d0 : 1 ≤ d) (d1 : d ≤ 1073741824) (n0 : 1 ≤ n) (n1 : n ≤ 1073741824) (em : Hid (u * n = m)) (ek : Hid (d * n = k))
    (e0 : Hid (cmpI (u * k) (m * d) = 0)) (e1 : Hid (cmpI ((m + 1) * d) (u * k) = 1)) (e2 : Hid (cmpI (m * d) (u * (k + 1)) = v)) (hz : (u == 0) = z) (hv : v ≤ 0) (hvz : (v == 0) = z) (w : World) :
    Calls Try.prog 9 #[.agg #[.int .i64 u, .int .i64 d], .int .i64 n] w fun e w' => e = .returned (.bool true) ∧ Below w.heap.size w w' := by
  have B1 := times_bd u0 u1 n0 n1
  have B2 := times_bd (show 0 ≤ d by omega) d1 n0 n1
  rw [em.out] at B1
  rw [ek.out] at B2
  have m0 : 0 ≤ m := B1.1
  have m1 : m ≤ 1152921504606846976 := B1.2.1
  have k0 : 1 ≤ k := by omega
  have k1 : k ≤ 1152921504606846976 := B2.2.1
  have C0 := Lib.hid (fun w => compare_any u d m k 0 (u, d) (m, k) (i64_small (by omega) (by omega)) (i64_small (by omega) (by omega)) (i64_small (by omega) (by omega)) (i64_small (by omega) (by omega)) (ownR_self u0 d0) (ownR_self m0 k0) e0 w)
  have C1 := Lib.hid (fun w => compare_any (m + 1) k u d 1 (m + 1, k) (u, d) (i64_small (by omega) (by omega)) (i64_small (by omega) (by omega)) (i64_small (by omega) (by omega)) (i64_small (by omega) (by omega)) (ownR_self (by omega) k0) (ownR_self u0 d0) e1 w)
  have C2 := Lib.hid (fun w => compare_any m (k + 1) u d v (m, k + 1) (u, d) (i64_small (by omega) (by omega)) (i64_small (by omega) (by omega)) (i64_small (by omega) (by omega)) (i64_small (by omega) (by omega)) (ownR_self m0 (by omega)) (ownR_self u0 d0) e2 w)
  have w1 := Lib.hid (show wrap64 (u * n) = m by rw [em.out]; unfold wrap64; omega)
  have w2 := Lib.hid (show wrap64 (d * n) = k by rw [ek.out]; unfold wrap64; omega)
  have w4 := Lib.hid (show wrap64 (m + 1) = m + 1 by unfold wrap64; omega)
  have w5 := Lib.hid (show wrap64 (k + 1) = k + 1 by unfold wrap64; omega)
  have zz : (z == z) = true := beq_self_eq_true _
  have U0 := u0
  have D0 := d0
  clear B1 B2 e0 e1 e2 em ek
  go_enter Try.func9, Try.ntmps9
  go_wp2_with fail
  refine (may_yes u d U0 D0 _).mono ?_
  rintro e w3 ⟨rfl, hb⟩
  have b0 := blk_below (blk_new w (.cells #[.int .i64 u, .int .i64 d] 37 (0, 0))) hb
  have b3 := below_after (bl_alloc w (.cells #[.int .i64 u, .int .i64 d] 37 (0, 0))) hb
  clear hb
  obtain ⟨c0, c1, _, _⟩ := two_cells b0
  go_wp2_with fail
  rw [w1.out, w2.out, w4.out, w5.out]
  go_wp2_with fail
  have B0 : ∀ wq, Below (((w3.alloc (.cells #[.int .i64 m, .int .i64 k] 37 (0, 0))).alloc (.cells #[.int .i64 (m + 1), .int .i64 k] 37 (0, 0))).alloc (.cells #[.int .i64 m, .int .i64 (k + 1)] 37 (0, 0))).heap.size (((w3.alloc (.cells #[.int .i64 m, .int .i64 k] 37 (0, 0))).alloc (.cells #[.int .i64 (m + 1), .int .i64 k] 37 (0, 0))).alloc (.cells #[.int .i64 m, .int .i64 (k + 1)] 37 (0, 0))) wq →
      wq.heap[w.heap.size]? = some (.cells #[.int .i64 u, .int .i64 d] 37 (0, 0)) ∧ wq.heap[w3.heap.size]? = some (.cells #[.int .i64 m, .int .i64 k] 37 (0, 0)) ∧ wq.heap[w3.heap.size + 1]? = some (.cells #[.int .i64 (m + 1), .int .i64 k] 37 (0, 0)) ∧ wq.heap[w3.heap.size + 1 + 1]? = some (.cells #[.int .i64 m, .int .i64 (k + 1)] 37 (0, 0)) ∧ Below w.heap.size w wq := fun wq hq =>
    ⟨blk_below (blk_old (blk_old (blk_old b0 _) _) _) hq, blk_below (blk_old (blk_old (blk_new_at _ rfl) _) _) hq, blk_below (blk_old (blk_new_at _ (by simp)) _) hq, blk_below (blk_new_at _ (by simp)) hq, below_after (below_al (below_al (below_al b3 _) _) _) hq⟩
  clear b0 b3 c0 c1
  refine region_calms 30 [0, 1, 2, 3, 4, 5, 6, 7, 8, 9, 10, 11, 12, 13, 14, 15, 16, 17, 18, 19, 20, 21, 22, 23, 24, 25, 26, 27, 28, 29] 0 (by kernel_rfl) (by kernel_rfl) ?_ ?_
  · intro _ _ _ _ _ h; exact h
  repeat
    refine wpCalm_ex rfl ?_
    apply Exists.intro
    refine ⟨fun wq hq => ?_, ?_⟩
    · obtain ⟨b0, b1, b2, b3, _⟩ := B0 wq hq
      obtain ⟨c0, c1, _, _⟩ := two_cells b0
      obtain ⟨d0, d1, _, _⟩ := two_cells b1
      obtain ⟨f0, f1, _, _⟩ := two_cells b2
      obtain ⟨g0, g1, _, _⟩ := two_cells b3
      clear b0 b1 b2 b3
      go_simp
      first
        | rfl
        | (with_reducible exact C0.out _)
        | (with_reducible exact C1.out _)
        | (with_reducible exact C2.out _)
        | (with_reducible exact awake_ok _)
    simp only [Act.put, List.setIfInBounds_toArray, List.set_cons_zero, List.set_cons_succ]
  refine wpCalm_nil (wpT_done (by kernel_rfl) fun w4 hq => ?_)
  have hb := (B0 w4 hq).2.2.2.2
  clear hq B0
  go_wp2
  go_ret
  exact ⟨rfl, hb⟩

theorem times_skip_law (u d n : Int) (h : ¬ (0 ≤ u ∧ u ≤ 1073741824 ∧ 1 ≤ d ∧ d ≤ 1073741824 ∧ 1 ≤ n ∧ n ≤ 1073741824)) (w : World) :
    Calls Try.prog 9 #[.agg #[.int .i64 u, .int .i64 d], .int .i64 n] w fun e w' => e = .returned (.bool true) ∧ Below w.heap.size w w' := by
  by_cases hm : 0 ≤ u ∧ 1 ≤ d
  · by_cases h1 : n < 1
    · clear h
      have Hm := Lib.hid hm
      clear hm
      go_enter Try.func9, Try.ntmps9
      go_wp2_with fail
      refine (may_yes u d Hm.out.1 Hm.out.2 _).mono ?_
      rintro e w3 ⟨rfl, hb⟩
      have b3 := below_after (bl_alloc w (.cells #[.int .i64 u, .int .i64 d] 37 (0, 0))) hb
      clear hb
      go_wp2_with fail
      refine (awake_ok _).mono ?_
      rintro e' w4 ⟨rfl, hb⟩
      have b3 := below_after b3 hb
      clear hb
      go_wp2
      go_ret
      exact ⟨rfl, b3⟩
    · by_cases h2 : 1073741824 < u
      · clear h
        have Hm := Lib.hid hm
        clear hm
        go_enter Try.func9, Try.ntmps9
        go_wp2_with fail
        refine (may_yes u d Hm.out.1 Hm.out.2 _).mono ?_
        rintro e w3 ⟨rfl, hb⟩
        have b0 := blk_below (blk_new w (.cells #[.int .i64 u, .int .i64 d] 37 (0, 0))) hb
        have b3 := below_after (bl_alloc w (.cells #[.int .i64 u, .int .i64 d] 37 (0, 0))) hb
        clear hb
        obtain ⟨c0, c1, _, _⟩ := two_cells b0
        go_wp2_with fail
        refine (awake_ok _).mono ?_
        rintro e' w4 ⟨rfl, hb⟩
        have b3 := below_after b3 hb
        clear hb
        go_wp2
        go_ret
        exact ⟨rfl, b3⟩
      · by_cases h4 : 1073741824 < d
        · clear h
          have Hm := Lib.hid hm
          clear hm
          go_enter Try.func9, Try.ntmps9
          go_wp2_with fail
          refine (may_yes u d Hm.out.1 Hm.out.2 _).mono ?_
          rintro e w3 ⟨rfl, hb⟩
          have b0 := blk_below (blk_new w (.cells #[.int .i64 u, .int .i64 d] 37 (0, 0))) hb
          have b3 := below_after (bl_alloc w (.cells #[.int .i64 u, .int .i64 d] 37 (0, 0))) hb
          clear hb
          obtain ⟨c0, c1, _, _⟩ := two_cells b0
          go_wp2_with fail
          refine (awake_ok _).mono ?_
          rintro e' w4 ⟨rfl, hb⟩
          have b3 := below_after b3 hb
          clear hb
          go_wp2
          go_ret
          exact ⟨rfl, b3⟩
        · have h5 : 1073741824 < n := by omega
          clear h
          have Hm := Lib.hid hm
          clear hm
          go_enter Try.func9, Try.ntmps9
          go_wp2_with fail
          refine (may_yes u d Hm.out.1 Hm.out.2 _).mono ?_
          rintro e w3 ⟨rfl, hb⟩
          have b0 := blk_below (blk_new w (.cells #[.int .i64 u, .int .i64 d] 37 (0, 0))) hb
          have b3 := below_after (bl_alloc w (.cells #[.int .i64 u, .int .i64 d] 37 (0, 0))) hb
          clear hb
          obtain ⟨c0, c1, _, _⟩ := two_cells b0
          go_wp2_with fail
          refine (awake_ok _).mono ?_
          rintro e' w4 ⟨rfl, hb⟩
          have b3 := below_after b3 hb
          clear hb
          go_wp2
          go_ret
          exact ⟨rfl, b3⟩
  · clear h
    have Hm := Lib.hid hm
    clear hm
    go_enter Try.func9, Try.ntmps9
    go_wp2_with fail
    refine (may_no u d Hm.out _).mono ?_
    rintro e w3 ⟨rfl, hb⟩
    have b3 := below_after (bl_alloc w (.cells #[.int .i64 u, .int .i64 d] 37 (0, 0))) hb
    clear hb
    go_wp2_with fail
    refine (awake_ok _).mono ?_
    rintro e' w4 ⟨rfl, hb⟩
    have b3 := below_after b3 hb
    clear hb
    go_wp2
    go_ret
    exact ⟨rfl, b3⟩

theorem times_law (u d n : Int) (hu : (Lit.int .i64 u).wf = true) (hd : (Lit.int .i64 d).wf = true) (hn : (Lit.int .i64 n).wf = true) (w : World) :
    Calls Try.prog 9 #[.agg #[.int .i64 u, .int .i64 d], .int .i64 n] w fun e w' => e = .returned (.bool true) ∧ Below w.heap.size w w' := by
  by_cases h : 0 ≤ u ∧ u ≤ 1073741824 ∧ 1 ≤ d ∧ d ≤ 1073741824 ∧ 1 ≤ n ∧ n ≤ 1073741824
  · obtain ⟨u0, u1, d0, d1, n0, n1⟩ := h
    have a0 : cmpI (u * (d * n)) (u * n * d) = 0 := cmpI_eq (by grind)
    have p0 := Int.mul_nonneg u0 (show 0 ≤ d * n from Int.mul_nonneg (by omega) (by omega))
    have a1 : cmpI ((u * n + 1) * d) (u * (d * n)) = 1 := cmpI_gt (by
      have : (u * n + 1) * d = u * (d * n) + d := by grind
      omega)
    by_cases hz : u = 0
    · have a2 : cmpI (u * n * d) (u * (d * n + 1)) = 0 := cmpI_eq (by subst hz; simp)
      exact times_yes u d n _ _ 0 true u0 u1 d0 d1 n0 n1 rfl rfl a0 a1 a2 (by simp [hz]) (by decide) (by decide) w
    · have a2 : cmpI (u * n * d) (u * (d * n + 1)) = -1 := cmpI_lt (by
        have : u * (d * n + 1) = u * n * d + u := by grind
        omega)
      exact times_yes u d n _ _ (-1) false u0 u1 d0 d1 n0 n1 rfl rfl a0 a1 a2 (by simp [hz]) (by decide) (by decide) w
  · exact times_skip_law u d n h w
end Go.Proofs.Ytdcflgmbpaddhaa
