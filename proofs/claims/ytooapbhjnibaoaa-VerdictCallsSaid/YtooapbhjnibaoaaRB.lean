/- The walks of the loops of package ratio, and of its reference. -/
import Derived.Test.YtooapbhjnibaoaaRA
import Derived.Test.YtooapbhjnibaoaaRN
namespace Go.Proofs.Ytooapbhjnibaoaa
open Go.RowKit

theorem gcd_step {x y : Int} (hx : 0 ≤ x) (hy : 0 < y) : Int.gcd y (x % y) = Int.gcd x y := by
  rw [Int.gcd_comm y (x % y), Int.gcd_comm x y, Int.gcd_comm (x % y) y, Int.gcd_comm y x]
  obtain ⟨m, rfl⟩ := Int.eq_ofNat_of_zero_le hx
  obtain ⟨n, rfl⟩ := Int.eq_ofNat_of_zero_le (Int.le_of_lt hy)
  rw [← Int.natCast_emod]
  simp only [Int.gcd, Int.natAbs_natCast]
  rw [Nat.gcd_comm n, ← Nat.gcd_rec, Nat.gcd_comm]

theorem emod_u64 {x y : Int} (_ : U64 x) (hy : U64 y) (h : 0 < y) : U64 (x % y) := by
  have h1 := Int.emod_nonneg x (show y ≠ 0 by omega)
  have h2 := Int.emod_lt_of_pos x h
  obtain ⟨_, _⟩ := hy
  unfold U64
  omega

theorem over_less {x d : Int} {k : Nat} {v : Int} (hx : U128 x) (hd : 1 ≤ d ∧ d ≤ 9223372036854775807) (hk : k < 128) (hv : U64 v) (hb : v % 2 = topB x k)
    (h : bits .or .u64 (IntKind.u64.wrap (topR x d k * 2)) (bits .and .u64 v 1) < d) :
    bits .or .u64 (IntKind.u64.wrap (topR x d k * 2)) (bits .and .u64 v 1) = topR x d (k + 1) ∧
    bits .or .u64 (IntKind.u64.wrap (hi (topQ x d k) * 2)) (lo (topQ x d k) / 9223372036854775808) = hi (topQ x d (k + 1)) ∧
    IntKind.u64.wrap (lo (topQ x d k) * 2) = lo (topQ x d (k + 1)) := by
  have hr := topR_lt (x := x) hd.1 k
  have e := rest_parts hv.1 hv.2 hb hr.1 (by omega)
  rw [e] at h ⊢
  obtain ⟨h1, h2⟩ := top_less hd.1 k hk h
  have hq := topQ_bd hx hd.1 k (by omega)
  have hq2 := topQ_bd hx hd.1 (k + 1) (by omega)
  rw [h1] at hq2
  obtain ⟨t1, t2, _, _⟩ := twice_parts hq.1 (by omega)
  rw [h1, h2, t1, t2]
  exact ⟨rfl, rfl, rfl⟩

theorem over_more {x d : Int} {k : Nat} {v : Int} (hx : U128 x) (hd : 1 ≤ d ∧ d ≤ 9223372036854775807) (hk : k < 128) (hv : U64 v) (hb : v % 2 = topB x k)
    (h : d ≤ bits .or .u64 (IntKind.u64.wrap (topR x d k * 2)) (bits .and .u64 v 1)) :
    IntKind.u64.wrap (bits .or .u64 (IntKind.u64.wrap (topR x d k * 2)) (bits .and .u64 v 1) - d) = topR x d (k + 1) ∧
    bits .or .u64 (IntKind.u64.wrap (hi (topQ x d k) * 2)) (lo (topQ x d k) / 9223372036854775808) = hi (topQ x d (k + 1)) ∧
    bits .or .u64 (IntKind.u64.wrap (lo (topQ x d k) * 2)) 1 = lo (topQ x d (k + 1)) := by
  have hr := topR_lt (x := x) hd.1 k
  have hb2 := topB_01 x k
  have e := rest_parts hv.1 hv.2 hb hr.1 (by omega)
  rw [e] at h ⊢
  obtain ⟨h1, h2⟩ := top_more hd.1 k hk h
  have hq := topQ_bd hx hd.1 k (by omega)
  have hq2 := topQ_bd hx hd.1 (k + 1) (by omega)
  rw [h1] at hq2
  obtain ⟨t1, _, t3, t4⟩ := twice_parts hq.1 (by omega)
  rw [h1, h2, t1, t3, t4, IntKind.wrap_u64]
  refine ⟨by omega, rfl, rfl⟩

end Go.Proofs.Ytooapbhjnibaoaa
