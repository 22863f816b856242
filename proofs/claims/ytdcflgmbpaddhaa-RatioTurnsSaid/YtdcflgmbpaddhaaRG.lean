/- The walks of a reduced fraction and of the sum of two. -/
import Derived.Test.YtdcflgmbpaddhaaRF
namespace Go.Proofs.Ytdcflgmbpaddhaa
open Go.RowKit

theorem gcd_bd {n d : Int} (_hn : 0 ≤ n) (hd : 1 ≤ d) : 1 ≤ ((Int.gcd n d : Nat) : Int) ∧ ((Int.gcd n d : Nat) : Int) ≤ d := by
  have h1 : 0 < Int.gcd n d := Int.gcd_pos_of_ne_zero_right _ (by omega)
  have h2 : ((Int.gcd n d : Nat) : Int) ∣ d := Int.gcd_dvd_right ..
  have := Int.le_of_dvd (by omega) h2
  omega

theorem quo_i64 {n g : Int} (hn : I64 n) (h0 : 0 ≤ n) (hg : 1 ≤ g) : wrap64 (n.tdiv g) = n / g := by
  have h1 : n.tdiv g = n / g := Int.tdiv_eq_ediv_of_nonneg h0
  have h2 : 0 ≤ n / g := Int.ediv_nonneg h0 (by omega)
  have h3 : n / g ≤ n := Int.ediv_le_self _ h0
  have := hn.2
  rw [h1]
  unfold wrap64
  omega

theorem divisor_any {a b g : Int} (eg : Hid (((Int.gcd a b : Nat) : Int) = g)) (ha : U64 a) (hb : U64 b) (w : World) :
    Calls Try.prog 38 #[.int .u64 a, .int .u64 b] w fun e w' => e = .returned (.int .u64 g) ∧ Below w.heap.size w w' := by
  rw [← eg.out]; exact divisor_ok a b ha hb w

set_option maxHeartbeats 1000000 in
theorem reduced_any (n d g : Int) (hn : I64 n) (hd : I64 d) (h0 : 0 ≤ n) (h1 : 1 ≤ d) (eg : Hid (((Int.gcd n d : Nat) : Int) = g)) (w : World) :
    Calls Try.prog 31 #[.agg #[.int .i64 n, .int .i64 d]] w fun e w' => e = .returned (.agg #[.int .i64 (n / g), .int .i64 (d / g)]) ∧ Below w.heap.size w w' := by
  have Hn := Lib.hid hn
  have Hd := Lib.hid hd
  have Hg : Hid (1 ≤ g ∧ g ≤ d) := by rw [← eg.out]; exact gcd_bd h0 h1
  have Hw : Hid (IntKind.i64.wrap g = g) := by have := Hg.out; have := hd.2; unfold Hid; rw [IntKind.wrap_i64]; omega
  have q0 := Lib.hid (quo_i64 hn h0 Hg.out.1)
  have q1 := Lib.hid (quo_i64 hd (by omega) Hg.out.1)
  clear hn hd
  go_enter Try.func31, Try.ntmps31
  go_wp2_with fail
  refine region_calms 9 [0, 1, 2, 3, 4, 5, 6, 7, 8] 0 (by kernel_rfl) (by kernel_rfl) ?_ ?_
  · intro _ _ _ _ _ h; exact h
  have B0 : ∀ wq, Below ((w.alloc (.cells #[.int .i64 n, .int .i64 d] 37 (0, 0))).alloc (.cells #[.int .i64 0, .int .i64 0] 37 (0, 0))).heap.size ((w.alloc (.cells #[.int .i64 n, .int .i64 d] 37 (0, 0))).alloc (.cells #[.int .i64 0, .int .i64 0] 37 (0, 0))) wq →
      wq.heap[w.heap.size]? = some (.cells #[.int .i64 n, .int .i64 d] 37 (0, 0)) ∧ wq.heap[w.heap.size + 1]? = some (.cells #[.int .i64 0, .int .i64 0] 37 (0, 0)) ∧ Below w.heap.size w wq := fun wq hq =>
    ⟨blk_below (blk_old (blk_new_at _ rfl) _) hq, blk_below (blk_new_at _ (by simp)) hq, below_after (below_al (below_al (Below.refl _ _) _) _) hq⟩
  repeat
    refine wpCalm_ex rfl ?_
    apply Exists.intro
    refine ⟨fun wq hq => ?_, ?_⟩
    · obtain ⟨c0, c1, _, _⟩ := two_cells (B0 wq hq).1
      go_simp
      first
        | rfl
        | exact calm_same (word_ok _ Hn.out _)
        | exact calm_same (word_ok _ Hd.out _)
        | (rw [max_of h0, max_of (show 0 ≤ d by omega)]; exact divisor_any eg (u64_of Hn.out h0) (u64_of Hd.out (by omega)) _)
    simp only [Act.put, List.setIfInBounds_toArray, List.set_cons_zero, List.set_cons_succ]
  refine wpCalm_nil (wpT_done (by kernel_rfl) fun w1 hb => ?_)
  go_wp2
  rw [Hw.out]
  obtain ⟨b0, b1, b2⟩ := B0 w1 hb
  clear B0 hb
  have hz : ¬ g = 0 := by have := Hg.out; omega
  refine region_calms 9 [0, 1, 2, 3, 4, 5, 6, 7, 8] 0 (by kernel_rfl) (by kernel_rfl) ?_ ?_
  · intro _ _ _ _ _ h; exact h
  repeat
    refine wpCalm_ex rfl ?_
    apply Exists.intro
    refine ⟨fun wq hq => ?_, ?_⟩
    · obtain ⟨c0, c1, _, _⟩ := two_cells (blk_below b0 hq)
      go_simp
      rfl
    simp only [Act.put, List.setIfInBounds_toArray, List.set_cons_zero, List.set_cons_succ]
  refine wpCalm_nil (wpT_tail (by kernel_rfl) fun w2 hb => ?_)
  obtain ⟨c0, c1, c2, c3⟩ := two_cells (blk_below b1 hb)
  have Kb := Lib.hid hb
  clear hb
  go_wp2
  rw [q0.out, q1.out]
  exact bodyPost_ret (res_c rfl (InRow.mk' _ (two_set1 (two_set0 (blk_below b1 Kb.out) _) _) Try.underlying37 rfl (by kernel_rfl))) rfl ⟨rfl, below_set (below_set (below_after b2 Kb.out) (by omega) _) (by omega) _⟩

theorem reduced_ok (n d : Int) (hn : I64 n) (hd : I64 d) (h0 : 0 ≤ n) (h1 : 1 ≤ d) (w : World) :
    Calls Try.prog 31 #[.agg #[.int .i64 n, .int .i64 d]] w fun e w' => e = .returned (.agg #[.int .i64 (n / Int.gcd n d), .int .i64 (d / Int.gcd n d)]) ∧ Below w.heap.size w w' :=
  reduced_any n d _ hn hd h0 h1 rfl w
end Go.Proofs.Ytdcflgmbpaddhaa
