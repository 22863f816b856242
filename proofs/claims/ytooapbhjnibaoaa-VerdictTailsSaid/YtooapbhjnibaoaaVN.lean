/- The walk of the law of tails. -/
import Derived.Test.YtooapbhjnibaoaaVL
namespace Go.Proofs.Ytooapbhjnibaoaa
open Go.RowKit

theorem refTail_no (n k : Int) (h : ¬ (0 ≤ n ∧ n ≤ 62)) (w : World) :
    Calls Try.prog 14 #[.int .i64 n, .int .i64 k] w fun e w' => e = .returned (.int .i64 (-1)) ∧ Below w.heap.size w w' := by
  have hs : n < 0 ∨ (0 ≤ n ∧ 62 < n) := by omega
  clear h
  rcases hs with h0 | ⟨h0, h1⟩
  all_goals
    go_enter Try.func14, Try.ntmps14
    go_wp2
    go_ret
    exact ⟨rfl, Below.refl _ _⟩

set_option maxRecDepth 100000 in
set_option maxHeartbeats 2000000 in
theorem tails_yy (n k x y p q r s : Int) (p0 : 0 ≤ p) (r0 : 0 ≤ r) (hxy : 0 ≤ x + y) (hxy2 : x + y ≤ 62) (hf : ∀ w, Calls Try.prog 13 #[.int .i64 n, .int .i64 k] w fun e w' => e = .returned (.tuple #[.agg #[.int .i64 p, .int .i64 q], .bool true]) ∧ Below w.heap.size w w')
    (hg : ∀ w, Calls Try.prog 14 #[.int .i64 n, .int .i64 k] w fun e w' => e = .returned (.int .i64 p) ∧ Below w.heap.size w w')
    (hs : ∀ w, Calls Try.prog 16 #[.int .i64 x, .int .i64 y] w fun e w' => e = .returned (.tuple #[.agg #[.int .i64 r, .int .i64 s], .bool true]) ∧ Below w.heap.size w w')
    (ht : ∀ w, Calls Try.prog 17 #[.int .i64 x, .int .i64 y] w fun e w' => e = .returned (.int .i64 r) ∧ Below w.heap.size w w')
    (hp : ∀ w, Calls Try.prog 15 #[.int .i64 n] w fun e w' => e = .returned (.int .i64 q) ∧ Below w.heap.size w w')
    (hq : ∀ w, Calls Try.prog 15 #[.int .i64 (x + y)] w fun e w' => e = .returned (.int .i64 s) ∧ Below w.heap.size w w')
    (w : World) :
    Calls Try.prog 4 #[.int .i64 n, .int .i64 k, .int .i64 x, .int .i64 y] w fun e w' => e = .returned (.bool true) ∧ Below w.heap.size w w' := by
  have HF := Lib.hid hf
  have HG := Lib.hid hg
  have HS := Lib.hid hs
  have HT := Lib.hid ht
  have HP := Lib.hid hp
  have HQ := Lib.hid hq
  clear hf hg hs ht hp hq
  go_enter Try.func4, Try.ntmps4
  go_wp2_with fail
  refine (HF.out _).mono ?_
  rintro e w1 ⟨rfl, hb⟩
  have e0 := Lib.hid hb.size
  have A := blk_new w1 (.cells #[.int .i64 p, .int .i64 q] 29 (0, 0))
  have K := Lib.hid (below_al (below_after (Below.refl _ _) hb) (.cells #[.int .i64 p, .int .i64 q] 29 (0, 0)))
  clear hb
  go_wp2_with fail
  refine (HG.out _).mono ?_
  rintro e w2 ⟨rfl, hb⟩
  have A := blk_below (blk_old A (.cells #[.int .i64 0, .int .i64 1] 29 (0, 0))) hb
  have B := blk_below (blk_new_at (w := w1.alloc (.cells #[.int .i64 p, .int .i64 q] 29 (0, 0))) (n := w1.heap.size + 1) (.cells #[.int .i64 0, .int .i64 1] 29 (0, 0)) (by simp)) hb
  have K := Lib.hid (below_after (below_al K.out (.cells #[.int .i64 0, .int .i64 1] 29 (0, 0))) hb)
  clear hb
  have hz1 := lt_of_block B
  have e1 := Lib.hid (Nat.le_succ_of_le e0.out)
  go_wp2_with fail
  refine (HP.out _).mono ?_
  rintro e w3 ⟨rfl, hb⟩
  have A := blk_below A hb
  have B := blk_below B hb
  have K := Lib.hid (below_after K.out hb)
  clear hb 
  obtain ⟨b0, b1, b2, b3⟩ := two_cells B
  go_wp2_with fail
  refine (HS.out _).mono ?_
  rintro e w4 ⟨rfl, hb⟩
  have A := blk_below (blk_far (blk_far A (show w1.heap.size ≠ w1.heap.size + 1 by omega) (o := 0) (.int .i64 p)) (show w1.heap.size ≠ w1.heap.size + 1 by omega) (o := 1) (.int .i64 q)) hb
  have B := blk_below (two_set1 (two_set0 B (.int .i64 p)) (.int .i64 q)) hb
  have K := Lib.hid (below_after (below_set (below_set K.out e1.out (o := 0) (.int .i64 p)) e1.out (o := 1) (.int .i64 q)) hb)
  clear hb b0 b1 b2 b3
  have NEA := Lib.hid (show w1.heap.size ≠ w4.heap.size + 1 by have := lt_of_block B; omega)
  have NEB := Lib.hid (show w1.heap.size + 1 ≠ w4.heap.size + 1 by have := lt_of_block B; omega)
  have C := blk_new w4 (.cells #[.int .i64 r, .int .i64 s] 29 (0, 0))
  have A := blk_old A (.cells #[.int .i64 r, .int .i64 s] 29 (0, 0))
  have B := blk_old B (.cells #[.int .i64 r, .int .i64 s] 29 (0, 0))
  have e3 := Lib.hid K.out.size
  have K := Lib.hid (below_al K.out (.cells #[.int .i64 r, .int .i64 s] 29 (0, 0)))
  clear hz1
  go_wp2_with fail
  refine (HT.out _).mono ?_
  rintro e w5 ⟨rfl, hb⟩
  have A := blk_below (blk_old A (.cells #[.int .i64 0, .int .i64 1] 29 (0, 0))) hb
  have B := blk_below (blk_old B (.cells #[.int .i64 0, .int .i64 1] 29 (0, 0))) hb
  have C := blk_below (blk_old C (.cells #[.int .i64 0, .int .i64 1] 29 (0, 0))) hb
  have D := blk_below (blk_new_at (w := w4.alloc (.cells #[.int .i64 r, .int .i64 s] 29 (0, 0))) (n := w4.heap.size + 1) (.cells #[.int .i64 0, .int .i64 1] 29 (0, 0)) (by simp)) hb
  have K := Lib.hid (below_after (below_al K.out (.cells #[.int .i64 0, .int .i64 1] 29 (0, 0))) hb)
  clear hb
  go_wp2_with fail
  refine (HQ.out _).mono ?_
  rintro e w6 ⟨rfl, hb⟩
  have A := blk_below A hb
  have B := blk_below B hb
  have C := blk_below C hb
  have D := blk_below D hb
  have K := Lib.hid (below_after K.out hb)
  clear hb 
  obtain ⟨d0, d1, d2, d3⟩ := two_cells D
  have A := blk_far (blk_far A (show w1.heap.size ≠ w4.heap.size + 1 from NEA.out) (o := 0) (.int .i64 r)) (show w1.heap.size ≠ w4.heap.size + 1 from NEA.out) (o := 1) (.int .i64 s)
  have B := blk_far (blk_far B (show w1.heap.size + 1 ≠ w4.heap.size + 1 from NEB.out) (o := 0) (.int .i64 r)) (show w1.heap.size + 1 ≠ w4.heap.size + 1 from NEB.out) (o := 1) (.int .i64 s)
  have C := blk_far (blk_far C (show w4.heap.size ≠ w4.heap.size + 1 by omega) (o := 0) (.int .i64 r)) (show w4.heap.size ≠ w4.heap.size + 1 by omega) (o := 1) (.int .i64 s)
  have D := two_set1 (two_set0 D (.int .i64 r)) (.int .i64 s)
  have K := Lib.hid (below_set (below_set K.out (show w.heap.size ≤ w4.heap.size + 1 from Nat.le_succ_of_le e3.out) (o := 0) (.int .i64 r)) (show w.heap.size ≤ w4.heap.size + 1 from Nat.le_succ_of_le e3.out) (o := 1) (.int .i64 s))
  have D2 := D
  obtain ⟨a0x, a1x, _, _⟩ := two_cells A
  obtain ⟨b0x, b1x, _, _⟩ := two_cells B
  obtain ⟨c0x, c1x, _, _⟩ := two_cells C
  obtain ⟨d0x, d1x, _, _⟩ := two_cells D
  go_wp2_with fail
  refine (HG.out _).mono ?_
  rintro e w7 ⟨rfl, hb⟩
  have A := blk_below A hb
  have B := blk_below B hb
  have C := blk_below C hb
  have D := blk_below D hb
  have K := Lib.hid (below_after K.out hb)
  clear hb a0x a1x b0x b1x c0x c1x d0x d1x d0 d1 d2 d3
  obtain ⟨a0x, a1x, _, _⟩ := two_cells A
  obtain ⟨b0x, b1x, _, _⟩ := two_cells B
  obtain ⟨c0x, c1x, _, _⟩ := two_cells C
  obtain ⟨d0x, d1x, _, _⟩ := two_cells D
  go_wp2_with fail
  refine (HT.out _).mono ?_
  rintro e w8 ⟨rfl, hb⟩
  have K := Lib.hid (below_after K.out hb)
  clear hb 
  go_wp2_with fail
  refine (awake_ok _).mono ?_
  rintro e w9 ⟨rfl, hb⟩
  have K := Lib.hid (below_after K.out hb)
  clear hb 
  go_wp2
  go_ret
  exact ⟨rfl, K.out⟩

set_option maxRecDepth 100000 in
set_option maxHeartbeats 2000000 in
theorem tails_yn (n k x y p q : Int) (p0 : 0 ≤ p) (hf : ∀ w, Calls Try.prog 13 #[.int .i64 n, .int .i64 k] w fun e w' => e = .returned (.tuple #[.agg #[.int .i64 p, .int .i64 q], .bool true]) ∧ Below w.heap.size w w')
    (hg : ∀ w, Calls Try.prog 14 #[.int .i64 n, .int .i64 k] w fun e w' => e = .returned (.int .i64 p) ∧ Below w.heap.size w w')
    (hs : ∀ w, Calls Try.prog 16 #[.int .i64 x, .int .i64 y] w fun e w' => e = .returned (.tuple #[.agg #[.int .i64 0, .int .i64 1], .bool false]) ∧ Below w.heap.size w w')
    (ht : ∀ w, Calls Try.prog 17 #[.int .i64 x, .int .i64 y] w fun e w' => e = .returned (.int .i64 (-1)) ∧ Below w.heap.size w w')
    (hp : ∀ w, Calls Try.prog 15 #[.int .i64 n] w fun e w' => e = .returned (.int .i64 q) ∧ Below w.heap.size w w')
    (w : World) :
    Calls Try.prog 4 #[.int .i64 n, .int .i64 k, .int .i64 x, .int .i64 y] w fun e w' => e = .returned (.bool true) ∧ Below w.heap.size w w' := by
  have HF := Lib.hid hf
  have HG := Lib.hid hg
  have HS := Lib.hid hs
  have HT := Lib.hid ht
  have HP := Lib.hid hp
  clear hf hg hs ht hp
  go_enter Try.func4, Try.ntmps4
  go_wp2_with fail
  refine (HF.out _).mono ?_
  rintro e w1 ⟨rfl, hb⟩
  have e0 := Lib.hid hb.size
  have A := blk_new w1 (.cells #[.int .i64 p, .int .i64 q] 29 (0, 0))
  have K := Lib.hid (below_al (below_after (Below.refl _ _) hb) (.cells #[.int .i64 p, .int .i64 q] 29 (0, 0)))
  clear hb
  go_wp2_with fail
  refine (HG.out _).mono ?_
  rintro e w2 ⟨rfl, hb⟩
  have A := blk_below (blk_old A (.cells #[.int .i64 0, .int .i64 1] 29 (0, 0))) hb
  have B := blk_below (blk_new_at (w := w1.alloc (.cells #[.int .i64 p, .int .i64 q] 29 (0, 0))) (n := w1.heap.size + 1) (.cells #[.int .i64 0, .int .i64 1] 29 (0, 0)) (by simp)) hb
  have K := Lib.hid (below_after (below_al K.out (.cells #[.int .i64 0, .int .i64 1] 29 (0, 0))) hb)
  clear hb
  have hz1 := lt_of_block B
  have e1 := Lib.hid (Nat.le_succ_of_le e0.out)
  go_wp2_with fail
  refine (HP.out _).mono ?_
  rintro e w3 ⟨rfl, hb⟩
  have A := blk_below A hb
  have B := blk_below B hb
  have K := Lib.hid (below_after K.out hb)
  clear hb 
  obtain ⟨b0, b1, b2, b3⟩ := two_cells B
  go_wp2_with fail
  refine (HS.out _).mono ?_
  rintro e w4 ⟨rfl, hb⟩
  have A := blk_below (blk_far (blk_far A (show w1.heap.size ≠ w1.heap.size + 1 by omega) (o := 0) (.int .i64 p)) (show w1.heap.size ≠ w1.heap.size + 1 by omega) (o := 1) (.int .i64 q)) hb
  have B := blk_below (two_set1 (two_set0 B (.int .i64 p)) (.int .i64 q)) hb
  have K := Lib.hid (below_after (below_set (below_set K.out e1.out (o := 0) (.int .i64 p)) e1.out (o := 1) (.int .i64 q)) hb)
  clear hb b0 b1 b2 b3
  have NEA := Lib.hid (show w1.heap.size ≠ w4.heap.size + 1 by have := lt_of_block B; omega)
  have NEB := Lib.hid (show w1.heap.size + 1 ≠ w4.heap.size + 1 by have := lt_of_block B; omega)
  have C := blk_new w4 (.cells #[.int .i64 0, .int .i64 1] 29 (0, 0))
  have A := blk_old A (.cells #[.int .i64 0, .int .i64 1] 29 (0, 0))
  have B := blk_old B (.cells #[.int .i64 0, .int .i64 1] 29 (0, 0))
  have e3 := Lib.hid K.out.size
  have K := Lib.hid (below_al K.out (.cells #[.int .i64 0, .int .i64 1] 29 (0, 0)))
  clear hz1
  go_wp2_with fail
  refine (HT.out _).mono ?_
  rintro e w5 ⟨rfl, hb⟩
  have A := blk_below (blk_old A (.cells #[.int .i64 0, .int .i64 1] 29 (0, 0))) hb
  have B := blk_below (blk_old B (.cells #[.int .i64 0, .int .i64 1] 29 (0, 0))) hb
  have C := blk_below (blk_old C (.cells #[.int .i64 0, .int .i64 1] 29 (0, 0))) hb
  have D := blk_below (blk_new_at (w := w4.alloc (.cells #[.int .i64 0, .int .i64 1] 29 (0, 0))) (n := w4.heap.size + 1) (.cells #[.int .i64 0, .int .i64 1] 29 (0, 0)) (by simp)) hb
  have K := Lib.hid (below_after (below_al K.out (.cells #[.int .i64 0, .int .i64 1] 29 (0, 0))) hb)
  clear hb
  obtain ⟨a0x, a1x, _, _⟩ := two_cells A
  obtain ⟨b0x, b1x, _, _⟩ := two_cells B
  obtain ⟨c0x, c1x, _, _⟩ := two_cells C
  obtain ⟨d0x, d1x, _, _⟩ := two_cells D
  go_wp2_with fail
  refine (HG.out _).mono ?_
  rintro e w7 ⟨rfl, hb⟩
  have A := blk_below A hb
  have B := blk_below B hb
  have C := blk_below C hb
  have D := blk_below D hb
  have K := Lib.hid (below_after K.out hb)
  clear hb a0x a1x b0x b1x c0x c1x d0x d1x
  obtain ⟨a0x, a1x, _, _⟩ := two_cells A
  obtain ⟨b0x, b1x, _, _⟩ := two_cells B
  obtain ⟨c0x, c1x, _, _⟩ := two_cells C
  obtain ⟨d0x, d1x, _, _⟩ := two_cells D
  go_wp2_with fail
  refine (HT.out _).mono ?_
  rintro e w8 ⟨rfl, hb⟩
  have K := Lib.hid (below_after K.out hb)
  clear hb 
  go_wp2_with fail
  refine (awake_ok _).mono ?_
  rintro e w9 ⟨rfl, hb⟩
  have K := Lib.hid (below_after K.out hb)
  clear hb 
  go_wp2
  go_ret
  exact ⟨rfl, K.out⟩

set_option maxRecDepth 100000 in
set_option maxHeartbeats 2000000 in
theorem tails_ny (n k x y r s : Int) (r0 : 0 ≤ r) (hxy : 0 ≤ x + y) (hxy2 : x + y ≤ 62) (hf : ∀ w, Calls Try.prog 13 #[.int .i64 n, .int .i64 k] w fun e w' => e = .returned (.tuple #[.agg #[.int .i64 0, .int .i64 1], .bool false]) ∧ Below w.heap.size w w')
    (hg : ∀ w, Calls Try.prog 14 #[.int .i64 n, .int .i64 k] w fun e w' => e = .returned (.int .i64 (-1)) ∧ Below w.heap.size w w')
    (hs : ∀ w, Calls Try.prog 16 #[.int .i64 x, .int .i64 y] w fun e w' => e = .returned (.tuple #[.agg #[.int .i64 r, .int .i64 s], .bool true]) ∧ Below w.heap.size w w')
    (ht : ∀ w, Calls Try.prog 17 #[.int .i64 x, .int .i64 y] w fun e w' => e = .returned (.int .i64 r) ∧ Below w.heap.size w w')
    (hq : ∀ w, Calls Try.prog 15 #[.int .i64 (x + y)] w fun e w' => e = .returned (.int .i64 s) ∧ Below w.heap.size w w')
    (w : World) :
    Calls Try.prog 4 #[.int .i64 n, .int .i64 k, .int .i64 x, .int .i64 y] w fun e w' => e = .returned (.bool true) ∧ Below w.heap.size w w' := by
  have HF := Lib.hid hf
  have HG := Lib.hid hg
  have HS := Lib.hid hs
  have HT := Lib.hid ht
  have HQ := Lib.hid hq
  clear hf hg hs ht hq
  go_enter Try.func4, Try.ntmps4
  go_wp2_with fail
  refine (HF.out _).mono ?_
  rintro e w1 ⟨rfl, hb⟩
  have e0 := Lib.hid hb.size
  have A := blk_new w1 (.cells #[.int .i64 0, .int .i64 1] 29 (0, 0))
  have K := Lib.hid (below_al (below_after (Below.refl _ _) hb) (.cells #[.int .i64 0, .int .i64 1] 29 (0, 0)))
  clear hb
  go_wp2_with fail
  refine (HG.out _).mono ?_
  rintro e w2 ⟨rfl, hb⟩
  have A := blk_below (blk_old A (.cells #[.int .i64 0, .int .i64 1] 29 (0, 0))) hb
  have B := blk_below (blk_new_at (w := w1.alloc (.cells #[.int .i64 0, .int .i64 1] 29 (0, 0))) (n := w1.heap.size + 1) (.cells #[.int .i64 0, .int .i64 1] 29 (0, 0)) (by simp)) hb
  have K := Lib.hid (below_after (below_al K.out (.cells #[.int .i64 0, .int .i64 1] 29 (0, 0))) hb)
  clear hb
  have hz1 := lt_of_block B
  have e1 := Lib.hid (Nat.le_succ_of_le e0.out)
  go_wp2_with fail
  refine (HS.out _).mono ?_
  rintro e w4 ⟨rfl, hb⟩
  have A := blk_below A hb
  have B := blk_below B hb
  have K := Lib.hid (below_after K.out hb)
  clear hb 
  have NEA := Lib.hid (show w1.heap.size ≠ w4.heap.size + 1 by have := lt_of_block B; omega)
  have NEB := Lib.hid (show w1.heap.size + 1 ≠ w4.heap.size + 1 by have := lt_of_block B; omega)
  have C := blk_new w4 (.cells #[.int .i64 r, .int .i64 s] 29 (0, 0))
  have A := blk_old A (.cells #[.int .i64 r, .int .i64 s] 29 (0, 0))
  have B := blk_old B (.cells #[.int .i64 r, .int .i64 s] 29 (0, 0))
  have e3 := Lib.hid K.out.size
  have K := Lib.hid (below_al K.out (.cells #[.int .i64 r, .int .i64 s] 29 (0, 0)))
  clear hz1
  go_wp2_with fail
  refine (HT.out _).mono ?_
  rintro e w5 ⟨rfl, hb⟩
  have A := blk_below (blk_old A (.cells #[.int .i64 0, .int .i64 1] 29 (0, 0))) hb
  have B := blk_below (blk_old B (.cells #[.int .i64 0, .int .i64 1] 29 (0, 0))) hb
  have C := blk_below (blk_old C (.cells #[.int .i64 0, .int .i64 1] 29 (0, 0))) hb
  have D := blk_below (blk_new_at (w := w4.alloc (.cells #[.int .i64 r, .int .i64 s] 29 (0, 0))) (n := w4.heap.size + 1) (.cells #[.int .i64 0, .int .i64 1] 29 (0, 0)) (by simp)) hb
  have K := Lib.hid (below_after (below_al K.out (.cells #[.int .i64 0, .int .i64 1] 29 (0, 0))) hb)
  clear hb
  go_wp2_with fail
  refine (HQ.out _).mono ?_
  rintro e w6 ⟨rfl, hb⟩
  have A := blk_below A hb
  have B := blk_below B hb
  have C := blk_below C hb
  have D := blk_below D hb
  have K := Lib.hid (below_after K.out hb)
  clear hb 
  obtain ⟨d0, d1, d2, d3⟩ := two_cells D
  have A := blk_far (blk_far A (show w1.heap.size ≠ w4.heap.size + 1 from NEA.out) (o := 0) (.int .i64 r)) (show w1.heap.size ≠ w4.heap.size + 1 from NEA.out) (o := 1) (.int .i64 s)
  have B := blk_far (blk_far B (show w1.heap.size + 1 ≠ w4.heap.size + 1 from NEB.out) (o := 0) (.int .i64 r)) (show w1.heap.size + 1 ≠ w4.heap.size + 1 from NEB.out) (o := 1) (.int .i64 s)
  have C := blk_far (blk_far C (show w4.heap.size ≠ w4.heap.size + 1 by omega) (o := 0) (.int .i64 r)) (show w4.heap.size ≠ w4.heap.size + 1 by omega) (o := 1) (.int .i64 s)
  have D := two_set1 (two_set0 D (.int .i64 r)) (.int .i64 s)
  have K := Lib.hid (below_set (below_set K.out (show w.heap.size ≤ w4.heap.size + 1 from Nat.le_succ_of_le e3.out) (o := 0) (.int .i64 r)) (show w.heap.size ≤ w4.heap.size + 1 from Nat.le_succ_of_le e3.out) (o := 1) (.int .i64 s))
  have D2 := D
  obtain ⟨a0x, a1x, _, _⟩ := two_cells A
  obtain ⟨b0x, b1x, _, _⟩ := two_cells B
  obtain ⟨c0x, c1x, _, _⟩ := two_cells C
  obtain ⟨d0x, d1x, _, _⟩ := two_cells D
  go_wp2_with fail
  refine (HG.out _).mono ?_
  rintro e w7 ⟨rfl, hb⟩
  have A := blk_below A hb
  have B := blk_below B hb
  have C := blk_below C hb
  have D := blk_below D hb
  have K := Lib.hid (below_after K.out hb)
  clear hb a0x a1x b0x b1x c0x c1x d0x d1x d0 d1 d2 d3
  obtain ⟨a0x, a1x, _, _⟩ := two_cells A
  obtain ⟨b0x, b1x, _, _⟩ := two_cells B
  obtain ⟨c0x, c1x, _, _⟩ := two_cells C
  obtain ⟨d0x, d1x, _, _⟩ := two_cells D
  go_wp2_with fail
  refine (HT.out _).mono ?_
  rintro e w8 ⟨rfl, hb⟩
  have K := Lib.hid (below_after K.out hb)
  clear hb 
  go_wp2_with fail
  refine (awake_ok _).mono ?_
  rintro e w9 ⟨rfl, hb⟩
  have K := Lib.hid (below_after K.out hb)
  clear hb 
  go_wp2
  go_ret
  exact ⟨rfl, K.out⟩

set_option maxRecDepth 100000 in
set_option maxHeartbeats 2000000 in
theorem tails_nn (n k x y : Int) (hf : ∀ w, Calls Try.prog 13 #[.int .i64 n, .int .i64 k] w fun e w' => e = .returned (.tuple #[.agg #[.int .i64 0, .int .i64 1], .bool false]) ∧ Below w.heap.size w w')
    (hg : ∀ w, Calls Try.prog 14 #[.int .i64 n, .int .i64 k] w fun e w' => e = .returned (.int .i64 (-1)) ∧ Below w.heap.size w w')
    (hs : ∀ w, Calls Try.prog 16 #[.int .i64 x, .int .i64 y] w fun e w' => e = .returned (.tuple #[.agg #[.int .i64 0, .int .i64 1], .bool false]) ∧ Below w.heap.size w w')
    (ht : ∀ w, Calls Try.prog 17 #[.int .i64 x, .int .i64 y] w fun e w' => e = .returned (.int .i64 (-1)) ∧ Below w.heap.size w w')
    (w : World) :
    Calls Try.prog 4 #[.int .i64 n, .int .i64 k, .int .i64 x, .int .i64 y] w fun e w' => e = .returned (.bool true) ∧ Below w.heap.size w w' := by
  have HF := Lib.hid hf
  have HG := Lib.hid hg
  have HS := Lib.hid hs
  have HT := Lib.hid ht
  clear hf hg hs ht
  go_enter Try.func4, Try.ntmps4
  go_wp2_with fail
  refine (HF.out _).mono ?_
  rintro e w1 ⟨rfl, hb⟩
  have e0 := Lib.hid hb.size
  have A := blk_new w1 (.cells #[.int .i64 0, .int .i64 1] 29 (0, 0))
  have K := Lib.hid (below_al (below_after (Below.refl _ _) hb) (.cells #[.int .i64 0, .int .i64 1] 29 (0, 0)))
  clear hb
  go_wp2_with fail
  refine (HG.out _).mono ?_
  rintro e w2 ⟨rfl, hb⟩
  have A := blk_below (blk_old A (.cells #[.int .i64 0, .int .i64 1] 29 (0, 0))) hb
  have B := blk_below (blk_new_at (w := w1.alloc (.cells #[.int .i64 0, .int .i64 1] 29 (0, 0))) (n := w1.heap.size + 1) (.cells #[.int .i64 0, .int .i64 1] 29 (0, 0)) (by simp)) hb
  have K := Lib.hid (below_after (below_al K.out (.cells #[.int .i64 0, .int .i64 1] 29 (0, 0))) hb)
  clear hb
  have hz1 := lt_of_block B
  have e1 := Lib.hid (Nat.le_succ_of_le e0.out)
  go_wp2_with fail
  refine (HS.out _).mono ?_
  rintro e w4 ⟨rfl, hb⟩
  have A := blk_below A hb
  have B := blk_below B hb
  have K := Lib.hid (below_after K.out hb)
  clear hb 
  have NEA := Lib.hid (show w1.heap.size ≠ w4.heap.size + 1 by have := lt_of_block B; omega)
  have NEB := Lib.hid (show w1.heap.size + 1 ≠ w4.heap.size + 1 by have := lt_of_block B; omega)
  have C := blk_new w4 (.cells #[.int .i64 0, .int .i64 1] 29 (0, 0))
  have A := blk_old A (.cells #[.int .i64 0, .int .i64 1] 29 (0, 0))
  have B := blk_old B (.cells #[.int .i64 0, .int .i64 1] 29 (0, 0))
  have e3 := Lib.hid K.out.size
  have K := Lib.hid (below_al K.out (.cells #[.int .i64 0, .int .i64 1] 29 (0, 0)))
  clear hz1
  go_wp2_with fail
  refine (HT.out _).mono ?_
  rintro e w5 ⟨rfl, hb⟩
  have A := blk_below (blk_old A (.cells #[.int .i64 0, .int .i64 1] 29 (0, 0))) hb
  have B := blk_below (blk_old B (.cells #[.int .i64 0, .int .i64 1] 29 (0, 0))) hb
  have C := blk_below (blk_old C (.cells #[.int .i64 0, .int .i64 1] 29 (0, 0))) hb
  have D := blk_below (blk_new_at (w := w4.alloc (.cells #[.int .i64 0, .int .i64 1] 29 (0, 0))) (n := w4.heap.size + 1) (.cells #[.int .i64 0, .int .i64 1] 29 (0, 0)) (by simp)) hb
  have K := Lib.hid (below_after (below_al K.out (.cells #[.int .i64 0, .int .i64 1] 29 (0, 0))) hb)
  clear hb
  obtain ⟨a0x, a1x, _, _⟩ := two_cells A
  obtain ⟨b0x, b1x, _, _⟩ := two_cells B
  obtain ⟨c0x, c1x, _, _⟩ := two_cells C
  obtain ⟨d0x, d1x, _, _⟩ := two_cells D
  go_wp2_with fail
  refine (HG.out _).mono ?_
  rintro e w7 ⟨rfl, hb⟩
  have A := blk_below A hb
  have B := blk_below B hb
  have C := blk_below C hb
  have D := blk_below D hb
  have K := Lib.hid (below_after K.out hb)
  clear hb a0x a1x b0x b1x c0x c1x d0x d1x
  obtain ⟨a0x, a1x, _, _⟩ := two_cells A
  obtain ⟨b0x, b1x, _, _⟩ := two_cells B
  obtain ⟨c0x, c1x, _, _⟩ := two_cells C
  obtain ⟨d0x, d1x, _, _⟩ := two_cells D
  go_wp2_with fail
  refine (HT.out _).mono ?_
  rintro e w8 ⟨rfl, hb⟩
  have K := Lib.hid (below_after K.out hb)
  clear hb 
  go_wp2_with fail
  refine (awake_ok _).mono ?_
  rintro e w9 ⟨rfl, hb⟩
  have K := Lib.hid (below_after K.out hb)
  clear hb 
  go_wp2
  go_ret
  exact ⟨rfl, K.out⟩

end Go.Proofs.Ytooapbhjnibaoaa
