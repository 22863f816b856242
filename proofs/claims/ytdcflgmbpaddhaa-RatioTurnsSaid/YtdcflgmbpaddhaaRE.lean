/- The walks of the reference's divisor, of its reduced fraction, and of both scales. -/
import Derived.Test.YtdcflgmbpaddhaaRD
import Derived.Deep.LoopGhost
namespace Go.Proofs.Ytdcflgmbpaddhaa
open Go.RowKit

/-- the blocks of the divisor's loop -/
structure GBlk (w wr : World) (p q : Int) : Prop where
  b0 : wr.heap[w.heap.size]? = some (.cells #[.int .u64 (hi p), .int .u64 (lo p)] 26 (0, 0))
  b1 : wr.heap[w.heap.size + 1]? = some (.cells #[.int .u64 (hi q), .int .u64 (lo q)] 26 (0, 0))
  b2 : wr.heap[w.heap.size + 1 + 1]? = some (.cells #[.int .u64 0, .int .u64 0] 26 (0, 0))
  bl : Below w.heap.size w wr
theorem GBlk.later {w wr w1 : World} {p q : Int} (h : GBlk w wr p q) (hb : Below wr.heap.size wr w1) : GBlk w w1 p q :=
  ⟨blk_below h.b0 hb, blk_below h.b1 hb, blk_below h.b2 hb, below_after h.bl hb⟩
theorem GBlk.sz {w wr : World} {p q : Int} (h : GBlk w wr p q) : w.heap.size + 1 + 1 < wr.heap.size := lt_of_block h.b2

theorem gblk_next {w w1 : World} {p q : Int} (D : GBlk w w1 p q) (o1 o2 : Obj) (p' q' : Int) :
    GBlk w ((((((w1.alloc o1).alloc o2).setCell ⟨w.heap.size, 0, none⟩ (.int .u64 (hi p'))).setCell ⟨w.heap.size, 1, none⟩ (.int .u64 (lo p'))).setCell ⟨w.heap.size + 1, 0, none⟩ (.int .u64 (hi q'))).setCell ⟨w.heap.size + 1, 1, none⟩ (.int .u64 (lo q'))).drew p' q' := by
  refine ⟨blk_drew (blk_far (blk_far (two_set1 (two_set0 (blk_old (blk_old D.b0 _) _) _) _) (by omega) _) (by omega) _),
    blk_drew (two_set1 (two_set0 (blk_far (blk_far (blk_old (blk_old D.b1 _) _) (by omega) _) (by omega) _) _) _),
    blk_drew (blk_far (blk_far (blk_far (blk_far (blk_old (blk_old D.b2 _) _) (by omega) _) (by omega) _) (by omega) _) (by omega) _), ?_⟩
  exact below_dr (below_set (below_set (below_set (below_set (below_al (below_al D.bl _) _) (by omega) _) (by omega) _) (by omega) _) (by omega) _)

set_option maxHeartbeats 1000000 in
theorem refDivisor_ok (a b : Int) (ha : 0 ≤ a ∧ a ≤ 170141183460469231731687303715884105728) (hb : 0 ≤ b ∧ b ≤ 170141183460469231731687303715884105728) (w : World) :
    Calls Try.prog 40 #[.agg #[.int .u64 (hi a), .int .u64 (lo a)], .agg #[.int .u64 (hi b), .int .u64 (lo b)]] w fun e w' =>
      e = .returned (.agg #[.int .u64 (hi (Int.gcd a b)), .int .u64 (lo (Int.gcd a b))]) ∧ Below w.heap.size w w' := by
  have Ha := Lib.hid ha
  have Hb := Lib.hid hb
  clear ha hb
  go_enter Try.func40, Try.ntmps40
  go_wp2_with fail
  go_loopg [5, 6] b.toNat (fun n _ _ wr => ∃ p q : Int, Hid ((0 ≤ p ∧ p ≤ 170141183460469231731687303715884105728) ∧ (0 ≤ q ∧ q ≤ 170141183460469231731687303715884105728) ∧ Int.gcd p q = Int.gcd a b ∧ q.toNat = n) ∧ GBlk w wr p q)
  case atStart =>
    refine ⟨a, b, ⟨Ha.out, Hb.out, rfl, rfl⟩, ?_, ?_, ?_, below_al (below_al (below_al (Below.refl _ _) _) _) _⟩
    · exact blk_old (blk_old (blk_new_at _ (by simp)) _) _
    · exact blk_old (blk_new_at _ (by simp)) _
    · exact blk_new_at _ (by simp)
  case round =>
    obtain ⟨p, q, H, D0⟩ := hrel
    obtain ⟨q0, q1, q2, q3⟩ := two_cells D0.b1
    obtain ⟨p0, p1, p2, p3⟩ := two_cells D0.b0
    by_cases hq : 0 < q
    · have hs : 0 < hi q ∨ (¬ 0 < hi q ∧ 0 < lo q) := by unfold hi lo; omega
      rcases hs with h1 | ⟨h1, h2⟩
      · go_wp2_with fail
        refine (divide_ok _ _ (by have := H.out; unfold U128; omega) (by have := H.out; omega) _).mono ?_
        rintro e w1 ⟨rfl, hb⟩
        have D1 := D0.later hb
        have hz := D1.sz
        clear D0 q0 q1 q2 q3 p0 p1 p2 p3
        obtain ⟨q0, q1, q2, q3⟩ := two_cells D1.b1
        obtain ⟨p0, p1, p2, p3⟩ := two_cells D1.b0
        go_wp2_with fail
        have D2 := D1.later (below_al (below_al (Below.refl _ _) (.cells #[.int .u64 (hi (p / q)), .int .u64 (lo (p / q))] 26 (0, 0))) (.cells #[.int .u64 (hi (p % q)), .int .u64 (lo (p % q))] 26 (0, 0)))
        clear q0 q1 q2 q3 p0 p1 p2 p3
        obtain ⟨q0, q1, q2, q3⟩ := two_cells D2.b1
        obtain ⟨p0, p1, p2, p3⟩ := two_cells D2.b0
        go_region
        go_wp2
        go_roundg (p % q).toNat
        case measure => have := Int.emod_lt_of_pos p hq; have := Int.emod_nonneg p (show q ≠ 0 by omega); have := H.out; omega
        case rel =>
          have g1 := Int.emod_nonneg p (show q ≠ 0 by omega)
          have g2 := Int.emod_lt_of_pos p hq
          refine ⟨q, p % q, ⟨H.out.2.1, by have := H.out; omega, by rw [gcd_step H.out.1.1 hq]; exact H.out.2.2.1, rfl⟩, ?_⟩
          exact gblk_next D1 _ _ _ _
      · go_wp2_with fail
        refine (divide_ok _ _ (by have := H.out; unfold U128; omega) (by have := H.out; omega) _).mono ?_
        rintro e w1 ⟨rfl, hb⟩
        have D1 := D0.later hb
        have hz := D1.sz
        clear D0 q0 q1 q2 q3 p0 p1 p2 p3
        obtain ⟨q0, q1, q2, q3⟩ := two_cells D1.b1
        obtain ⟨p0, p1, p2, p3⟩ := two_cells D1.b0
        go_wp2_with fail
        have D2 := D1.later (below_al (below_al (Below.refl _ _) (.cells #[.int .u64 (hi (p / q)), .int .u64 (lo (p / q))] 26 (0, 0))) (.cells #[.int .u64 (hi (p % q)), .int .u64 (lo (p % q))] 26 (0, 0)))
        clear q0 q1 q2 q3 p0 p1 p2 p3
        obtain ⟨q0, q1, q2, q3⟩ := two_cells D2.b1
        obtain ⟨p0, p1, p2, p3⟩ := two_cells D2.b0
        go_region
        go_wp2
        go_roundg (p % q).toNat
        case measure => have := Int.emod_lt_of_pos p hq; have := Int.emod_nonneg p (show q ≠ 0 by omega); have := H.out; omega
        case rel =>
          have g1 := Int.emod_nonneg p (show q ≠ 0 by omega)
          have g2 := Int.emod_lt_of_pos p hq
          refine ⟨q, p % q, ⟨H.out.2.1, by have := H.out; omega, by rw [gcd_step H.out.1.1 hq]; exact H.out.2.2.1, rfl⟩, ?_⟩
          exact gblk_next D1 _ _ _ _
    · have h1 : ¬ 0 < hi q := by unfold hi; have := H.out; omega
      have h2 : ¬ 0 < lo q := by unfold lo; have := H.out; omega
      obtain ⟨r0, r1, r2, r3⟩ := two_cells D0.b2
      go_wp2
      have e : ((Int.gcd a b : Nat) : Int) = p := by
        have h := H.out
        rw [← h.2.2.1, show q = 0 by omega]
        simp
        omega
      rw [e]
      exact bodyPost_ret (res_c rfl (InRow.mk' _ (two_set1 (two_set0 D0.b2 _) _) Try.underlying26 rfl (by kernel_rfl))) rfl ⟨rfl, below_set (below_set D0.bl (by omega) _) (by omega) _⟩
end Go.Proofs.Ytdcflgmbpaddhaa
