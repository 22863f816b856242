/- The walks of the reference's bit, quotient and divisor. -/
import Derived.Test.YtdcflgmbpaddhaaRC
import Derived.Test.YtdcflgmbpaddhaaCalm
namespace Go.Proofs.Ytdcflgmbpaddhaa
open Go.RowKit

theorem tmod_two {v : Int} (h : 0 ≤ v) : v.tmod 2 = v % 2 := Int.tmod_eq_emod_of_nonneg h

theorem bit_ok (x : Int) (k : Nat) (hx : U128 x) (hk : k < 128) (w : World) :
    Calls Try.prog 37 #[.agg #[.int .u64 (hi x), .int .u64 (lo x)], .int .i64 k] w fun e w' => e = .returned (.int .u64 (topB x k)) ∧ Below w.heap.size w w' := by
  have Hx := Lib.hid hx
  clear hx
  by_cases h64 : k < 64
  · go_enter Try.func37, Try.ntmps37
    go_wp2
    go_ret
    refine ⟨ret_int ?_, below_al (Below.refl _ _) _⟩
    rw [tmod_two (u64_div (u64_hi Hx.out) _).1, bit_hi k (by omega)]
  · go_enter Try.func37, Try.ntmps37
    go_wp2
    go_ret
    refine ⟨ret_int ?_, below_al (Below.refl _ _) _⟩
    rw [tmod_two (u64_div (u64_lo x) _).1, bit_lo Hx.out.1 k (by omega) hk]

theorem refPlus_small (x y : Int) (hx : 0 ≤ x) (hy : 0 ≤ y ∧ y < 18446744073709551616) (h : U128 (x + y)) (w : World) :
    Calls Try.prog 26 #[.agg #[.int .u64 (hi x), .int .u64 (lo x)], .agg #[.int .u64 0, .int .u64 y]] w fun e w' => e = .returned (.agg #[.int .u64 (hi (x + y)), .int .u64 (lo (x + y))]) ∧ Below w.heap.size w w' := by
  have h1 : hi y = 0 := by unfold hi; omega
  have h2 : lo y = y := by unfold lo; omega
  have := refPlus_ok x y hx hy.1 h w
  rw [h1, h2] at this
  exact this

/-- the blocks of the quotient's loop -/
structure DBlk (w wr : World) (x d R Q : Int) : Prop where
  b0 : wr.heap[w.heap.size]? = some (.cells #[.int .u64 (hi x), .int .u64 (lo x)] 26 (0, 0))
  b1 : wr.heap[w.heap.size + 1]? = some (.cells #[.int .u64 (hi d), .int .u64 (lo d)] 26 (0, 0))
  b2 : wr.heap[w.heap.size + 1 + 1]? = some (.cells #[.int .u64 0, .int .u64 0] 26 (0, 0))
  b3 : wr.heap[w.heap.size + 1 + 1 + 1]? = some (.cells #[.int .u64 0, .int .u64 0] 26 (0, 0))
  b4 : wr.heap[w.heap.size + 1 + 1 + 1 + 1]? = some (.cells #[.int .u64 (hi Q), .int .u64 (lo Q)] 26 (0, 0))
  b5 : wr.heap[w.heap.size + 1 + 1 + 1 + 1 + 1]? = some (.cells #[.int .u64 (hi R), .int .u64 (lo R)] 26 (0, 0))
  bl : Below w.heap.size w wr
theorem DBlk.later {w wr w1 : World} {x d R Q : Int} (h : DBlk w wr x d R Q) (hb : Below wr.heap.size wr w1) : DBlk w w1 x d R Q :=
  ⟨blk_below h.b0 hb, blk_below h.b1 hb, blk_below h.b2 hb, blk_below h.b3 hb, blk_below h.b4 hb, blk_below h.b5 hb, below_after h.bl hb⟩
theorem DBlk.setR {w wr : World} {x d R Q : Int} (h : DBlk w wr x d R Q) (R' : Int) :
    DBlk w ((wr.setCell ⟨w.heap.size + 1 + 1 + 1 + 1 + 1, 0, none⟩ (.int .u64 (hi R'))).setCell ⟨w.heap.size + 1 + 1 + 1 + 1 + 1, 1, none⟩ (.int .u64 (lo R'))) x d R' Q :=
  ⟨blk_far (blk_far h.b0 (by omega) _) (by omega) _, blk_far (blk_far h.b1 (by omega) _) (by omega) _, blk_far (blk_far h.b2 (by omega) _) (by omega) _, blk_far (blk_far h.b3 (by omega) _) (by omega) _,
   blk_far (blk_far h.b4 (by omega) _) (by omega) _, two_set1 (two_set0 h.b5 _) _, below_set (below_set h.bl (by omega) _) (by omega) _⟩
theorem DBlk.setQ {w wr : World} {x d R Q : Int} (h : DBlk w wr x d R Q) (Q' : Int) :
    DBlk w ((wr.setCell ⟨w.heap.size + 1 + 1 + 1 + 1, 0, none⟩ (.int .u64 (hi Q'))).setCell ⟨w.heap.size + 1 + 1 + 1 + 1, 1, none⟩ (.int .u64 (lo Q'))) x d R Q' :=
  ⟨blk_far (blk_far h.b0 (by omega) _) (by omega) _, blk_far (blk_far h.b1 (by omega) _) (by omega) _, blk_far (blk_far h.b2 (by omega) _) (by omega) _, blk_far (blk_far h.b3 (by omega) _) (by omega) _,
   two_set1 (two_set0 h.b4 _) _, blk_far (blk_far h.b5 (by omega) _) (by omega) _, below_set (below_set h.bl (by omega) _) (by omega) _⟩
theorem dblk_start (w : World) (x d : Int) : DBlk w ((((((w.alloc (.cells #[.int .u64 (hi x), .int .u64 (lo x)] 26 (0, 0))).alloc (.cells #[.int .u64 (hi d), .int .u64 (lo d)] 26 (0, 0))).alloc
    (.cells #[.int .u64 0, .int .u64 0] 26 (0, 0))).alloc (.cells #[.int .u64 0, .int .u64 0] 26 (0, 0))).alloc (.cells #[.int .u64 0, .int .u64 0] 26 (0, 0))).alloc (.cells #[.int .u64 0, .int .u64 0] 26 (0, 0))) x d 0 0 := by
  have hh : hi 0 = 0 := by decide
  have hl : lo 0 = 0 := by decide
  refine ⟨?_, ?_, ?_, ?_, ?_, ?_, below_al (below_al (below_al (below_al (below_al (below_al (Below.refl _ _) _) _) _) _) _) _⟩
  · exact blk_old (blk_old (blk_old (blk_old (blk_old (blk_new_at _ (by simp)) _) _) _) _) _
  · exact blk_old (blk_old (blk_old (blk_old (blk_new_at _ (by simp)) _) _) _) _
  · exact blk_old (blk_old (blk_old (blk_new_at _ (by simp)) _) _) _
  · exact blk_old (blk_old (blk_new_at _ (by simp)) _) _
  · rw [hh, hl]; exact blk_old (blk_new_at _ (by simp)) _
  · rw [hh, hl]; exact blk_new_at _ (by simp)
/-- what a walk reads of a block of two words: at its cells, and that it may be written -/
structure Two (w : World) (b : Nat) (v0 v1 : Value) : Prop where
  c0 : w.cell? ⟨b, 0, none⟩ = some v0
  c1 : w.cell? ⟨b, 1, none⟩ = some v1
  f0 : w.frozen? ⟨b, 0, none⟩ = false
  f1 : w.frozen? ⟨b, 1, none⟩ = false
theorem topR_max {d : Int} (hd : d ≤ 170141183460469231731687303715884105728) {r b : Int} (h : 0 ≤ r ∧ r < d) (hb : 0 ≤ b ∧ b < 2) : U128 (2 * r + b) := by unfold U128; omega

set_option maxRecDepth 100000 in
set_option maxHeartbeats 1000000 in
theorem divide_ok (x d : Int) (hx : U128 x) (hd : 1 ≤ d ∧ d ≤ 170141183460469231731687303715884105728) (w : World) :
    Calls Try.prog 29 #[.agg #[.int .u64 (hi x), .int .u64 (lo x)], .agg #[.int .u64 (hi d), .int .u64 (lo d)]] w fun e w' =>
      e = .returned (.tuple #[.agg #[.int .u64 (hi (x / d)), .int .u64 (lo (x / d))], .agg #[.int .u64 (hi (x % d)), .int .u64 (lo (x % d))]]) ∧ Below w.heap.size w w' := by
  have Hx := Lib.hid hx
  have Hd := Lib.hid hd
  clear hx hd
  go_enter Try.func29, Try.ntmps29
  go_wp2_with fail
  go_loopw [8] (fun i wr => ∃ k : Nat, k ≤ 128 ∧ i = .int .i64 k ∧ DBlk w wr x d (topR x d k) (topQ x d k)) (fun i _ => 128 - (intOf i).toNat)
  case atStart =>
    have h0 : topX x 0 = 0 := topX_zero Hx.out
    refine ⟨0, by omega, rfl, ?_⟩
    have e1 : topQ x d 0 = 0 := by unfold topQ; rw [h0]; simp
    have e2 : topR x d 0 = 0 := by unfold topR; rw [h0]; simp
    rw [e1, e2]
    exact dblk_start w x d
  case round =>
    obtain ⟨k, hk, rfl, D0⟩ := hrel
    by_cases hlt : k < 128
    · have HR := Lib.hid (topR_lt (x := x) Hd.out.1 k)
      have HB := Lib.hid (topB_01 x k)
      have HU := Lib.hid (topR_max Hd.out.2 HR.out HB.out)
      obtain ⟨r0, r1, r2, r3⟩ := two_cells D0.b5
      go_wp2_with fail
      refine (refPlus_ok _ _ HR.out.1 HR.out.1 (by have := HR.out; have := Hd.out; unfold U128; omega) _).mono ?_
      rintro e w1 ⟨rfl, hb⟩
      have E0 := (D0.later hb).setR (topR x d k + topR x d k)
      have D1 := D0.later hb
      clear r0 r1 r2 r3 hb
      obtain ⟨r0, r1, r2, r3⟩ := two_cells D1.b5
      obtain ⟨x0, x1, x2, x3⟩ := two_cells D1.b0
      go_wp2_with fail
      refine region_calms 6 [0, 1, 2, 3, 4, 5] 0 (by kernel_rfl) (by kernel_rfl) ?_ ?_
      · intro _ _ _ _ _ h; exact h
      repeat
        refine wpCalm_ex rfl ?_
        apply Exists.intro
        refine ⟨fun wq hq => ?_, ?_⟩
        · have D := E0.later hq
          obtain ⟨r0, r1, _, _⟩ := two_cells D.b5
          obtain ⟨x0, x1, _, _⟩ := two_cells D.b0
          clear D
          go_simp
          first
            | rfl
            | exact bit_ok _ _ Hx.out hlt _
            | exact refPlus_small _ _ (by have := HR.out; omega) (by have := HB.out; omega) (by have := HU.out; rw [show topR x d k + topR x d k = 2 * topR x d k by omega]; exact this) _
        simp only [Act.put, List.setIfInBounds_toArray, List.set_cons_zero, List.set_cons_succ]
      refine wpCalm_nil (wpT_tail (by kernel_rfl) fun w2 hb => ?_)
      have E1 := E0.later hb
      clear E0 D1 r0 r1 r2 r3 x0 x1 x2 x3
      obtain ⟨r0, r1, r2, r3⟩ := two_cells E1.b5
      obtain ⟨x0, x1, x2, x3⟩ := two_cells E1.b4
      go_wp2_with fail
      have hq := topQ_bd Hx.out Hd.out.1 k hk
      have hq1 := topQ_bd Hx.out Hd.out.1 (k + 1) (by omega)
      have hs : topQ x d (k + 1) = 2 * topQ x d k ∨ topQ x d (k + 1) = 2 * topQ x d k + 1 := by
        rcases (show 2 * topR x d k + topB x k < d ∨ d ≤ 2 * topR x d k + topB x k by omega) with h | h
        · exact .inl (top_less Hd.out.1 k hlt h).1
        · exact .inr (top_more Hd.out.1 k hlt h).1
      have HQ := Lib.hid (show 0 ≤ topQ x d k ∧ U128 (topQ x d k + topQ x d k) ∧ (2 * topQ x d k + 1 = topQ x d (k + 1) → U128 (topQ x d k + topQ x d k + 1)) by unfold U128; omega)
      clear hq hq1 hs
      refine (refPlus_ok _ _ HQ.out.1 HQ.out.1 HQ.out.2.1 _).mono ?_
      rintro e w3 ⟨rfl, hb3⟩
      have E2 := (E1.setR (topR x d k + topR x d k + topB x k)).later hb3
      clear E1 r0 r1 r2 r3 x0 x1 x2 x3 hb hb3
      obtain ⟨r0, r1, r2, r3⟩ := two_cells E2.b5
      obtain ⟨x0, x1, x2, x3⟩ := two_cells E2.b4
      obtain ⟨y0, y1, y2, y3⟩ := two_cells E2.b1
      go_wp2_with fail
      by_cases hle : topR x d k + topR x d k + topB x k < d
      · refine (less_yes _ _ hle _).mono ?_
        rintro e w4 ⟨rfl, hb4⟩
        have E3 := (E2.setQ (topQ x d k + topQ x d k)).later hb4
        clear E2 r0 r1 r2 r3 x0 x1 x2 x3 y0 y1 y2 y3 hb4
        have Hle := Lib.hid hle
        clear hle
        go_wp2
        have ht := top_less (x := x) Hd.out.1 k hlt (by have := Hle.out; omega)
        refine ⟨⟨k + 1, by omega, by go_num, ?_⟩, by simp [intOf]; omega⟩
        rw [ht.1, ht.2, show 2 * topQ x d k = topQ x d k + topQ x d k by omega, show 2 * topR x d k + topB x k = topR x d k + topR x d k + topB x k by omega]
        exact E3
      · refine (less_no _ _ hle _).mono ?_
        rintro e w4 ⟨rfl, hb4⟩
        have E3 := (E2.setQ (topQ x d k + topQ x d k)).later hb4
        clear E2 r0 r1 r2 r3 x0 x1 x2 x3 y0 y1 y2 y3 hb4
        have Hle := Lib.hid (show d ≤ topR x d k + topR x d k + topB x k by omega)
        clear hle
        obtain ⟨r0, r1, r2, r3⟩ := two_cells E3.b5
        obtain ⟨y0, y1, y2, y3⟩ := two_cells E3.b1
        go_wp2_with fail
        refine (minus_ok _ _ (by have := HU.out; rw [show topR x d k + topR x d k + topB x k = 2 * topR x d k + topB x k by omega]; exact this) (by have := Hd.out; omega) Hle.out _).mono ?_
        rintro e w5 ⟨rfl, hb5⟩
        have E4 := E3.later hb5
        clear E3 r0 r1 r2 r3 y0 y1 y2 y3 hb5
        obtain ⟨r0, r1, r2, r3⟩ := two_cells E4.b5
        obtain ⟨x0, x1, x2, x3⟩ := two_cells E4.b4
        have ht := top_more (x := x) Hd.out.1 k hlt (by have := Hle.out; omega)
        have HT := Lib.hid ht
        clear ht
        go_wp2_with fail
        refine (refPlus_small _ _ (by have := HQ.out; omega) (by decide) (HQ.out.2.2 HT.out.1.symm) _).mono ?_
        rintro e w6 ⟨rfl, hb6⟩
        have E5 := (E4.setR (topR x d k + topR x d k + topB x k - d)).later hb6
        clear E4 r0 r1 r2 r3 x0 x1 x2 x3 hb6
        obtain ⟨x0, x1, x2, x3⟩ := two_cells E5.b4
        go_wp2
        refine ⟨⟨k + 1, by omega, by go_num, ?_⟩, by simp [intOf]; omega⟩
        rw [HT.out.1, HT.out.2, show 2 * topQ x d k + 1 = topQ x d k + topQ x d k + 1 by omega, show 2 * topR x d k + topB x k - d = topR x d k + topR x d k + topB x k - d by omega]
        exact E5.setQ _
    · obtain rfl : k = 128 := by omega
      have e1 : topQ x d 128 = x / d := by unfold topQ; rw [topX_end]
      have e2 : topR x d 128 = x % d := by unfold topR; rw [topX_end]
      rw [e1, e2] at D0
      clear e1 e2 hlt hk
      obtain ⟨r0, r1, r2, r3⟩ := two_cells D0.b5
      obtain ⟨x0, x1, x2, x3⟩ := two_cells D0.b4
      obtain ⟨p0, p1, p2, p3⟩ := two_cells D0.b2
      obtain ⟨q0, q1, q2, q3⟩ := two_cells D0.b3
      go_wp2
      go_region
      go_wp2
      have B2 := blk_far (blk_far (two_set1 (two_set0 D0.b2 (.int .u64 (hi (x / d)))) (.int .u64 (lo (x / d)))) (by omega : w.heap.size + 1 + 1 ≠ w.heap.size + 1 + 1 + 1) (o := 0) (.int .u64 (hi (x % d)))) (by omega : w.heap.size + 1 + 1 ≠ w.heap.size + 1 + 1 + 1) (o := 1) (.int .u64 (lo (x % d)))
      have B3 := two_set1 (two_set0 (blk_far (blk_far D0.b3 (by omega : w.heap.size + 1 + 1 + 1 ≠ w.heap.size + 1 + 1) (o := 0) (.int .u64 (hi (x / d)))) (by omega : w.heap.size + 1 + 1 + 1 ≠ w.heap.size + 1 + 1) (o := 1) (.int .u64 (lo (x / d)))) (.int .u64 (hi (x % d)))) (.int .u64 (lo (x % d)))
      exact bodyPost_ret (res_cc rfl (InRow.mk' _ (blk_drew B2) Try.underlying26 rfl (by kernel_rfl)) (InRow.mk' _ (blk_drew B3) Try.underlying26 rfl (by kernel_rfl))) rfl
        ⟨rfl, below_dr (below_set (below_set (below_set (below_set D0.bl (by omega) _) (by omega) _) (by omega) _) (by omega) _)⟩
end Go.Proofs.Ytdcflgmbpaddhaa
