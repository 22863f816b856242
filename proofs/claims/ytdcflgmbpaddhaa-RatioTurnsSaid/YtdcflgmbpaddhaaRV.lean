/- The walk of the reference's reduced fraction. -/
import Derived.Test.YtdcflgmbpaddhaaRE
import Derived.Test.YtdcflgmbpaddhaaRP
namespace Go.Proofs.Ytdcflgmbpaddhaa
open Go.RowKit

theorem red_facts {n d g : Int} (n0 : 0 ≤ n) (d0 : 1 ≤ d) (hd : d ≤ 170141183460469231731687303715884105728) (eg : ((Int.gcd n d : Nat) : Int) = g) : (1 ≤ g ∧ g ≤ 170141183460469231731687303715884105728) ∧ 0 ≤ n / g ∧ 0 ≤ d / g := by
  have h1 : 0 < Int.gcd n d := Int.gcd_pos_of_ne_zero_right _ (by omega)
  have h2 := Int.le_of_dvd (show 0 < d by omega) (Int.gcd_dvd_right (a := n) (b := d))
  exact ⟨by omega, Int.ediv_nonneg n0 (by omega), Int.ediv_nonneg (by omega) (by omega)⟩

theorem u128_of {n : Int} (h : 0 ≤ n) (h1 : n ≤ 170141183460469231731687303715884105728) : U128 n := by unfold U128; omega

set_option maxRecDepth 100000 in
set_option maxHeartbeats 2000000 in
theorem reduce_any (n d g u v : Int) (n0 : 0 ≤ n) (d0 : 1 ≤ d) (n1 : n ≤ 170141183460469231731687303715884105728) (d1 : d ≤ 170141183460469231731687303715884105728) (eg : Hid (((Int.gcd n d : Nat) : Int) = g)) (eu : Hid (n / g = u)) (ev : Hid (d / g = v)) (w : World) :
    Calls Try.prog 32 #[.agg #[.int .u64 (hi n), .int .u64 (lo n)], .agg #[.int .u64 (hi d), .int .u64 (lo d)]] w fun e w' =>
      e = .returned (if u ≤ 9223372036854775807 ∧ v ≤ 9223372036854775807 then .tuple #[.agg #[.int .i64 u, .int .i64 v], .bool true] else .tuple #[.agg #[.int .i64 0, .int .i64 0], .bool false]) ∧ Below w.heap.size w w' := by
  have F := Lib.hid (red_facts n0 d0 d1 eg.out)
  have HN := Lib.hid (And.intro n0 n1)
  have HD := Lib.hid (And.intro d0 d1)
  have DV : Hid (∀ w, Calls Try.prog 40 #[.agg #[.int .u64 (hi n), .int .u64 (lo n)], .agg #[.int .u64 (hi d), .int .u64 (lo d)]] w fun e w' => e = .returned (.agg #[.int .u64 (hi g), .int .u64 (lo g)]) ∧ Below w.heap.size w w') := fun w => by
    rw [← eg.out]; exact refDivisor_ok n d ⟨n0, n1⟩ ⟨by omega, d1⟩ w
  clear n0 d0 n1 d1
  go_enter Try.func32, Try.ntmps32
  go_wp2_with fail
  refine (DV.out _).mono ?_
  rintro e w1 ⟨rfl, hb⟩
  have b0 := blk_below (blk_old (blk_old (blk_new w (.cells #[.int .u64 (hi n), .int .u64 (lo n)] 26 (0, 0))) (.cells #[.int .u64 (hi d), .int .u64 (lo d)] 26 (0, 0))) (.cells #[.int .i64 0, .int .i64 0] 37 (0, 0))) hb
  have b1 := blk_below (blk_old (blk_new_at (w := w.alloc (.cells #[.int .u64 (hi n), .int .u64 (lo n)] 26 (0, 0))) (n := w.heap.size + 1) (.cells #[.int .u64 (hi d), .int .u64 (lo d)] 26 (0, 0)) (by simp)) (.cells #[.int .i64 0, .int .i64 0] 37 (0, 0))) hb
  have b2 := blk_below (blk_new_at (w := (w.alloc (.cells #[.int .u64 (hi n), .int .u64 (lo n)] 26 (0, 0))).alloc (.cells #[.int .u64 (hi d), .int .u64 (lo d)] 26 (0, 0))) (n := w.heap.size + 1 + 1) (.cells #[.int .i64 0, .int .i64 0] 37 (0, 0)) (by simp)) hb
  have b3 := below_after (below_al (below_al (bl_alloc w (.cells #[.int .u64 (hi n), .int .u64 (lo n)] 26 (0, 0))) (.cells #[.int .u64 (hi d), .int .u64 (lo d)] 26 (0, 0))) (.cells #[.int .i64 0, .int .i64 0] 37 (0, 0))) hb
  clear hb
  have hz := lt_of_block b2
  obtain ⟨c0, c1, _, _⟩ := two_cells (blk_old b0 (.cells #[.int .u64 (hi g), .int .u64 (lo g)] 26 (0, 0)))
  obtain ⟨d0, d1, _, _⟩ := two_cells (blk_old b1 (.cells #[.int .u64 (hi g), .int .u64 (lo g)] 26 (0, 0)))
  obtain ⟨x0, x1, _, _⟩ := two_cells (blk_new w1 (.cells #[.int .u64 (hi g), .int .u64 (lo g)] 26 (0, 0)))
  go_wp2_with fail
  refine (divide_ok n g (u128_of HN.out.1 HN.out.2) F.out.1 _).mono ?_
  rw [eu.out]
  rintro e w2 ⟨rfl, hb⟩
  have g0 := blk_below (blk_new w1 (.cells #[.int .u64 (hi g), .int .u64 (lo g)] 26 (0, 0))) hb
  have b1 := blk_below (blk_old b1 (.cells #[.int .u64 (hi g), .int .u64 (lo g)] 26 (0, 0))) hb
  have b2 := blk_below (blk_old b2 (.cells #[.int .u64 (hi g), .int .u64 (lo g)] 26 (0, 0))) hb
  have b3 := below_after (below_al b3 (.cells #[.int .u64 (hi g), .int .u64 (lo g)] 26 (0, 0))) hb
  clear hb b0 c0 c1 d0 d1 x0 x1
  have hz2 := lt_of_block g0
  obtain ⟨c0, c1, _, _⟩ := two_cells (blk_old (blk_old g0 (.cells #[.int .u64 (hi u), .int .u64 (lo u)] 26 (0, 0))) (.cells #[.int .u64 (hi (n % g)), .int .u64 (lo (n % g))] 26 (0, 0)))
  obtain ⟨d0, d1, _, _⟩ := two_cells (blk_old (blk_old b1 (.cells #[.int .u64 (hi u), .int .u64 (lo u)] 26 (0, 0))) (.cells #[.int .u64 (hi (n % g)), .int .u64 (lo (n % g))] 26 (0, 0)))
  go_wp2_with fail
  refine (divide_ok d g (u128_of (by have := HD.out; omega) HD.out.2) F.out.1 _).mono ?_
  rw [ev.out]
  rintro e w3 ⟨rfl, hb⟩
  have u0 := blk_below (blk_old (blk_new w2 (.cells #[.int .u64 (hi u), .int .u64 (lo u)] 26 (0, 0))) (.cells #[.int .u64 (hi (n % g)), .int .u64 (lo (n % g))] 26 (0, 0))) hb
  have b2 := blk_below (blk_old (blk_old b2 (.cells #[.int .u64 (hi u), .int .u64 (lo u)] 26 (0, 0))) (.cells #[.int .u64 (hi (n % g)), .int .u64 (lo (n % g))] 26 (0, 0))) hb
  have b3 := below_after (below_al (below_al b3 (.cells #[.int .u64 (hi u), .int .u64 (lo u)] 26 (0, 0))) (.cells #[.int .u64 (hi (n % g)), .int .u64 (lo (n % g))] 26 (0, 0))) hb
  clear hb b1 g0 c0 c1 d0 d1
  have hz3 := lt_of_block u0
  have b2 := blk_old (blk_old b2 (.cells #[.int .u64 (hi v), .int .u64 (lo v)] 26 (0, 0))) (.cells #[.int .u64 (hi (d % g)), .int .u64 (lo (d % g))] 26 (0, 0))
  have b3 := below_al (below_al b3 (.cells #[.int .u64 (hi v), .int .u64 (lo v)] 26 (0, 0))) (.cells #[.int .u64 (hi (d % g)), .int .u64 (lo (d % g))] 26 (0, 0))
  obtain ⟨c0, c1, _, _⟩ := two_cells (blk_old (blk_old u0 (.cells #[.int .u64 (hi v), .int .u64 (lo v)] 26 (0, 0))) (.cells #[.int .u64 (hi (d % g)), .int .u64 (lo (d % g))] 26 (0, 0)))
  obtain ⟨d0, d1, d2, d3⟩ := two_cells b2
  have U0 : Hid (0 ≤ u) := by rw [← eu.out]; exact F.out.2.1
  have V0 : Hid (0 ≤ v) := by rw [← ev.out]; exact F.out.2.2
  have R0 := fun (A B : Value) => InRow.mk' (P := Try.prog) _ (two_set1 (two_set0 b2 A) B) Try.underlying37 rfl (by kernel_rfl)
  by_cases hok : u ≤ 9223372036854775807 ∧ v ≤ 9223372036854775807
  · have h1 : ¬ 0 < hi u := fun e => by have := (small_parts U0.out).1 (.inl e); omega
    have h2 : ¬ 0 < hi v := fun e => by have := (small_parts V0.out).1 (.inl e); omega
    have h3 : ¬ 9223372036854775807 < lo u := fun e => by have := (small_parts U0.out).1 (.inr e); omega
    have h4 : ¬ 9223372036854775807 < lo v := fun e => by have := (small_parts V0.out).1 (.inr e); omega
    have k1 := Lib.hid (show wrap64 (lo u) = u by rw [lo_small U0.out hok.1]; have := U0.out; unfold wrap64; omega)
    have k2 := Lib.hid (show wrap64 (lo v) = v by rw [lo_small V0.out hok.2]; have := V0.out; unfold wrap64; omega)
    have Hok := Lib.hid hok
    clear hok
    go_wp2
    rw [k1.out, k2.out]
    refine bodyPost_ret (res_ct rfl (R0 _ _)) rfl ⟨rfl, below_set (below_set b3 (by omega) _) (by omega) _⟩
  · have hs : 0 < hi u ∨ 0 < hi v ∨ 9223372036854775807 < lo u ∨ 9223372036854775807 < lo v := by
      refine Classical.byContradiction fun h => hok ?_
      refine ⟨Classical.byContradiction fun h' => ?_, Classical.byContradiction fun h' => ?_⟩
      · have := (small_parts U0.out).2 (by omega); omega
      · have := (small_parts V0.out).2 (by omega); omega
    have Hok := Lib.hid hok
    clear hok
    go_wp2
    all_goals
      refine bodyPost_ret (res_ct rfl (R0 _ _)) rfl ⟨rfl, below_set (below_set b3 (by omega) _) (by omega) _⟩
end Go.Proofs.Ytdcflgmbpaddhaa
