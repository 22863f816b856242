/- The walks of the loops of package ratio, and of its reference. -/
import Derived.Test.YtdcflgmbpaddhaaRA
import Derived.Test.YtdcflgmbpaddhaaRN
namespace Go.Proofs.Ytdcflgmbpaddhaa
open Go.RowKit

theorem gcd_step {x y : Int} (hx : 0 ≤ x) (hy : 0 < y) : Int.gcd y (x % y) = Int.gcd x y := by
  rw [Int.gcd_comm y (x % y), Int.gcd_comm x y, Int.gcd_comm (x % y) y, Int.gcd_comm y x]
  obtain ⟨m, rfl⟩ := Int.eq_ofNat_of_zero_le hx
  obtain ⟨n, rfl⟩ := Int.eq_ofNat_of_zero_le (Int.le_of_lt hy)
  rw [← Int.natCast_emod]
  simp only [Int.gcd, Int.natAbs_natCast]
  rw [Nat.gcd_comm n, ← Nat.gcd_rec, Nat.gcd_comm]

theorem emod_u64 {x y : Int} (_ : U64 x) (hy : U64 y) (h : 0 < y) : U64 (x % y) := by
  have h1 := Int.emod_nonneg x (show y ≠ 0 by omega)
  have h2 := Int.emod_lt_of_pos x h
  obtain ⟨_, _⟩ := hy
  unfold U64
  omega

theorem divisor_ok (a b : Int) (ha : U64 a) (hb : U64 b) (w : World) :
    Calls Try.prog 38 #[.int .u64 a, .int .u64 b] w fun e w' => e = .returned (.int .u64 (Int.gcd a b)) ∧ Below w.heap.size w w' := by
  have Ha := Lib.hid ha
  have Hb := Lib.hid hb
  clear ha hb
  go_enter Try.func38, Try.ntmps38
  go_wp2
  go_loopw [0, 1] (fun p q wr => ∃ x y : Int, p = .int .u64 x ∧ q = .int .u64 y ∧ Hid (U64 x ∧ U64 y ∧ Int.gcd x y = Int.gcd a b) ∧ Hid (Below w.heap.size w wr)) (fun _ q _ => (intOf q).toNat)
  case atStart => exact ⟨a, b, rfl, rfl, ⟨Ha.out, Hb.out, rfl⟩, Below.refl _ _⟩
  case round =>
    obtain ⟨x, y, rfl, rfl, H, HW⟩ := hrel
    have hx : 0 ≤ x := H.out.1.1
    have hy : 0 ≤ y := H.out.2.1.1
    by_cases h0 : 0 < y
    · have h1 : (y == 0) = false := beq_eq_false_iff_ne.2 (by omega)
      go_wp2
      go_quiet (fail)
      go_wp2
      go_roundw
      case rel => exact ⟨y, x % y, rfl, rfl, ⟨H.out.2.1, emod_u64 H.out.1 H.out.2.1 h0, by rw [gcd_step hx h0]; exact H.out.2.2⟩, below_drN HW.out _⟩
      case measure =>
        have := Int.emod_lt_of_pos x h0
        have := Int.emod_nonneg x (show y ≠ 0 by omega)
        simp [intOf]
        omega
    · go_wp2
      go_ret
      refine ⟨ret_int ?_, HW.out⟩
      have h := H.out.2.2
      rw [show y = 0 by omega] at h
      rw [← h]
      simp
      omega

theorem over_less {x d : Int} {k : Nat} {v : Int} (hx : U128 x) (hd : 1 ≤ d ∧ d ≤ 9223372036854775807) (hk : k < 128) (hv : U64 v) (hb : v % 2 = topB x k)
    (h : bits .or .u64 (IntKind.u64.wrap (topR x d k * 2)) (bits .and .u64 v 1) < d) :
    bits .or .u64 (IntKind.u64.wrap (topR x d k * 2)) (bits .and .u64 v 1) = topR x d (k + 1) ∧
    bits .or .u64 (IntKind.u64.wrap (hi (topQ x d k) * 2)) (lo (topQ x d k) / 9223372036854775808) = hi (topQ x d (k + 1)) ∧
    IntKind.u64.wrap (lo (topQ x d k) * 2) = lo (topQ x d (k + 1)) := by
  have hr := topR_lt (x := x) hd.1 k
  have e := rest_parts hv.1 hv.2 hb hr.1 (by omega)
  rw [e] at h ⊢
  obtain ⟨h1, h2⟩ := top_less hd.1 k hk h
  have hq := topQ_bd hx hd.1 k (by omega)
  have hq2 := topQ_bd hx hd.1 (k + 1) (by omega)
  rw [h1] at hq2
  obtain ⟨t1, t2, _, _⟩ := twice_parts hq.1 (by omega)
  rw [h1, h2, t1, t2]
  exact ⟨rfl, rfl, rfl⟩

theorem over_more {x d : Int} {k : Nat} {v : Int} (hx : U128 x) (hd : 1 ≤ d ∧ d ≤ 9223372036854775807) (hk : k < 128) (hv : U64 v) (hb : v % 2 = topB x k)
    (h : d ≤ bits .or .u64 (IntKind.u64.wrap (topR x d k * 2)) (bits .and .u64 v 1)) :
    IntKind.u64.wrap (bits .or .u64 (IntKind.u64.wrap (topR x d k * 2)) (bits .and .u64 v 1) - d) = topR x d (k + 1) ∧
    bits .or .u64 (IntKind.u64.wrap (hi (topQ x d k) * 2)) (lo (topQ x d k) / 9223372036854775808) = hi (topQ x d (k + 1)) ∧
    bits .or .u64 (IntKind.u64.wrap (lo (topQ x d k) * 2)) 1 = lo (topQ x d (k + 1)) := by
  have hr := topR_lt (x := x) hd.1 k
  have hb2 := topB_01 x k
  have e := rest_parts hv.1 hv.2 hb hr.1 (by omega)
  rw [e] at h ⊢
  obtain ⟨h1, h2⟩ := top_more hd.1 k hk h
  have hq := topQ_bd hx hd.1 k (by omega)
  have hq2 := topQ_bd hx hd.1 (k + 1) (by omega)
  rw [h1] at hq2
  obtain ⟨t1, _, t3, t4⟩ := twice_parts hq.1 (by omega)
  rw [h1, h2, t1, t3, t4, IntKind.wrap_u64]
  refine ⟨by omega, rfl, rfl⟩

set_option maxRecDepth 100000 in
set_option maxHeartbeats 2000000 in
theorem over_ok (x d : Int) (hx : U128 x) (hd : 1 ≤ d ∧ d ≤ 9223372036854775807) (w : World) :
    Calls Try.prog 27 #[.agg #[.int .u64 (hi x), .int .u64 (lo x)], .int .u64 d] w fun e w' => e = .returned (.tuple #[.agg #[.int .u64 (hi (x / d)), .int .u64 (lo (x / d))], .int .u64 (x % d)]) ∧ Below w.heap.size w w' := by
  have Hx := Lib.hid hx
  have Hd := Lib.hid hd
  clear hx hd
  go_enter Try.func27, Try.ntmps27
  go_wp2
  go_loopw [7, 8, 9, 10, 11] (fun r i9 wd at_ i wr => ∃ k : Nat, k ≤ 128 ∧ i = .int .i64 k ∧ r = .int .u64 (topR x d k) ∧
    wr.heap[w.heap.size]? = some (.cells #[.int .u64 (hi x), .int .u64 (lo x)] 48 (0, 0)) ∧
    wr.heap[w.heap.size + 1]? = some (.cells #[.int .u64 0, .int .u64 0] 48 (0, 0)) ∧
    wr.heap[w.heap.size + 1 + 1]? = some (.cells #[.int .u64 (hi (topQ x d k)), .int .u64 (lo (topQ x d k))] 48 (0, 0)) ∧ Hid (Below w.heap.size w wr)) (fun _ _ _ _ i _ => 128 - (intOf i).toNat)
  case atStart =>
    have h0 : topX x 0 = 0 := topX_zero Hx.out
    refine ⟨0, by omega, rfl, ?_, ?_, ?_, ?_, ?_⟩
    · unfold topR; rw [h0]; simp
    · exact blk_old (blk_old (blk_new _ _) _) _
    · have := blk_old (blk_new (w.alloc (.cells #[.int .u64 (hi x), .int .u64 (lo x)] 48 (0, 0))) (.cells #[.int .u64 0, .int .u64 0] 48 (0, 0))) (.cells #[.int .u64 0, .int .u64 0] 48 (0, 0))
      simpa using this
    · have := blk_new ((w.alloc (.cells #[.int .u64 (hi x), .int .u64 (lo x)] 48 (0, 0))).alloc (.cells #[.int .u64 0, .int .u64 0] 48 (0, 0))) (.cells #[.int .u64 0, .int .u64 0] 48 (0, 0))
      have e : topQ x d 0 = 0 := by unfold topQ; rw [h0]; simp
      rw [e]
      simpa [hi, lo] using this
    · exact below_al (below_al (below_al (Below.refl _ _) _) _) _
  case round =>
    obtain ⟨k, hk, rfl, rfl, hb0, hb1, hb2, HW⟩ := hrel
    obtain ⟨hc0, hc1, hf0, hf1⟩ := two_cells hb0
    obtain ⟨hq0, hq1, hg0, hg1⟩ := two_cells hb2
    have Hb0 := Lib.hid hb0
    have Hb1 := Lib.hid hb1
    have Hb2 := Lib.hid hb2
    clear hb0 hb1 hb2
    by_cases hlt : k < 128
    · by_cases h63 : 63 < k
      · have hv : U64 (lo x / 2 ^ (127 - k)) := u64_div (u64_lo x) _
        have Hl := Lib.hid (over_less Hx.out Hd.out hlt hv (bit_lo Hx.out.1 k h63 hlt))
        have Hm := Lib.hid (over_more Hx.out Hd.out hlt hv (bit_lo Hx.out.1 k h63 hlt))
        clear hv
        go_wp2
        · obtain ⟨e1, e2, e3⟩ := Hm.out (by assumption)
          rw [e1, e2, e3]
          exact ⟨⟨k + 1, by omega, by go_num, rfl, blk_far (blk_far (blk_far Hb0.out (by omega) _) (by omega) _) (by omega) _, blk_far (blk_far (blk_far Hb1.out (by omega) _) (by omega) _) (by omega) _, two_set1 (two_set1 (two_set0 Hb2.out _) _) _, below_set (below_set (below_set HW.out (by omega) _) (by omega) _) (by omega) _⟩, by simp [intOf]; omega⟩
        · obtain ⟨e1, e2, e3⟩ := Hl.out (by assumption)
          rw [e1, e2, e3]
          exact ⟨⟨k + 1, by omega, by go_num, rfl, blk_far (blk_far Hb0.out (by omega) _) (by omega) _, blk_far (blk_far Hb1.out (by omega) _) (by omega) _, two_set1 (two_set0 Hb2.out _) _, below_set (below_set HW.out (by omega) _) (by omega) _⟩, by simp [intOf]; omega⟩
      · have hv : U64 (hi x / 2 ^ (63 - k)) := u64_div (u64_hi Hx.out) _
        have Hl := Lib.hid (over_less Hx.out Hd.out hlt hv (bit_hi k (by omega)))
        have Hm := Lib.hid (over_more Hx.out Hd.out hlt hv (bit_hi k (by omega)))
        clear hv
        go_wp2
        · obtain ⟨e1, e2, e3⟩ := Hm.out (by assumption)
          rw [e1, e2, e3]
          exact ⟨⟨k + 1, by omega, by go_num, rfl, blk_far (blk_far (blk_far Hb0.out (by omega) _) (by omega) _) (by omega) _, blk_far (blk_far (blk_far Hb1.out (by omega) _) (by omega) _) (by omega) _, two_set1 (two_set1 (two_set0 Hb2.out _) _) _, below_set (below_set (below_set HW.out (by omega) _) (by omega) _) (by omega) _⟩, by simp [intOf]; omega⟩
        · obtain ⟨e1, e2, e3⟩ := Hl.out (by assumption)
          rw [e1, e2, e3]
          exact ⟨⟨k + 1, by omega, by go_num, rfl, blk_far (blk_far Hb0.out (by omega) _) (by omega) _, blk_far (blk_far Hb1.out (by omega) _) (by omega) _, two_set1 (two_set0 Hb2.out _) _, below_set (below_set HW.out (by omega) _) (by omega) _⟩, by simp [intOf]; omega⟩
    · obtain rfl : k = 128 := by omega
      obtain ⟨hr0, hr1, hh0, hh1⟩ := two_cells Hb1.out
      go_wp2
      have e1 : topQ x d 128 = x / d := by unfold topQ; rw [topX_end]
      have e2 : topR x d 128 = x % d := by unfold topR; rw [topX_end]
      rw [← e1, ← e2]
      exact bodyPost_ret (res_ct rfl (InRow.mk' _ (two_set1 (two_set0 Hb1.out _) _) Try.underlying48 rfl (by kernel_rfl))) rfl ⟨rfl, below_set (below_set HW.out (by omega) _) (by omega) _⟩
end Go.Proofs.Ytdcflgmbpaddhaa
