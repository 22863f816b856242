/- Long division, bit by bit: plain facts. No conditions but those that each lemma names. -/
import Derived.Test.YtooapbhjnibaoaaRM
namespace Go.Proofs.Ytooapbhjnibaoaa
open Go Go.RowKit

/-- what has come out, what is left, the next bit: behind k bits of 128 -/
def topX (x : Int) (k : Nat) : Int := x / 2 ^ (128 - k)
def topQ (x d : Int) (k : Nat) : Int := topX x k / d
def topR (x d : Int) (k : Nat) : Int := topX x k % d
def topB (x : Int) (k : Nat) : Int := x / 2 ^ (127 - k) % 2

theorem topB_01 (x : Int) (k : Nat) : 0 ≤ topB x k ∧ topB x k < 2 := by unfold topB; omega

theorem topX_succ (x : Int) (k : Nat) (h : k < 128) : topX x (k + 1) = 2 * topX x k + topB x k := by
  unfold topX topB
  have e : (2 : Int) ^ (128 - k) = 2 ^ (127 - k) * 2 := by rw [show 128 - k = (127 - k) + 1 by omega, Int.pow_succ]
  rw [e, ← Int.ediv_ediv_of_nonneg (Int.le_of_lt (Int.pow_pos (by decide))), show 128 - (k + 1) = 127 - k by omega]
  omega

theorem topX_nonneg {x : Int} (h : 0 ≤ x) (k : Nat) : 0 ≤ topX x k := Int.ediv_nonneg h (Int.le_of_lt (Int.pow_pos (by decide)))
theorem topX_zero {x : Int} (h : U128 x) : topX x 0 = 0 := by
  unfold topX
  exact Int.ediv_eq_zero_of_lt h.1 (by have := h.2; simpa using this)
theorem topX_end (x : Int) : topX x 128 = x := by unfold topX; simp
theorem topX_le {x : Int} (h : U128 x) (k : Nat) (_ : k ≤ 128) : topX x k < 340282366920938463463374607431768211456 := by
  have h1 : topX x k ≤ x := by unfold topX; exact Int.ediv_le_self _ h.1
  have := h.2
  omega

theorem bit_lo {x : Int} (hx : 0 ≤ x) (k : Nat) (h : 63 < k) (h1 : k < 128) : lo x / 2 ^ (127 - k) % 2 = topB x k := by
  obtain ⟨n, rfl⟩ := Int.eq_ofNat_of_zero_le hx
  unfold lo topB
  have e : ((n % 18446744073709551616 / 2 ^ (127 - k) % 2 : Nat) : Int) = ((n / 2 ^ (127 - k) % 2 : Nat) : Int) := by
    congr 1
    have := Nat.testBit_mod_two_pow n 64 (127 - k)
    simp only [Nat.testBit_eq_decide_div_mod_eq, show decide (127 - k < 64) = true by simp; omega, Bool.true_and, decide_eq_decide] at this
    have h2 : (2 : Nat) ^ 64 = 18446744073709551616 := by decide
    rw [h2] at this
    omega
  simpa using e

theorem bit_hi {x : Int} (k : Nat) (h : k ≤ 63) : hi x / 2 ^ (63 - k) % 2 = topB x k := by
  unfold hi topB
  rw [show (18446744073709551616 : Int) = 2 ^ 64 by decide, Int.ediv_ediv_of_nonneg (by decide), ← Int.pow_add, show 64 + (63 - k) = 127 - k by omega]

theorem top_div {x d : Int} (_ : 1 ≤ d) (k : Nat) : topX x k = d * topQ x d k + topR x d k := by unfold topQ topR; exact (Int.mul_ediv_add_emod _ _).symm
theorem topR_lt {x d : Int} (hd : 1 ≤ d) (k : Nat) : 0 ≤ topR x d k ∧ topR x d k < d := ⟨Int.emod_nonneg _ (by omega), Int.emod_lt_of_pos _ (by omega)⟩

theorem div_unique {x d q r : Int} (h : x = d * q + r) (h0 : 0 ≤ r) (h1 : r < d) : x / d = q ∧ x % d = r := by
  have hd : 0 < d := by omega
  refine ⟨?_, ?_⟩
  · rw [h, Int.add_comm, Int.add_mul_ediv_left _ _ (by omega), Int.ediv_eq_zero_of_lt h0 h1]; omega
  · rw [h, Int.add_comm, Int.add_mul_emod_self_left, Int.emod_eq_of_lt h0 h1]

/-- one bit further -/
theorem top_less {x d : Int} (hd : 1 ≤ d) (k : Nat) (hk : k < 128) (h : 2 * topR x d k + topB x k < d) :
    topQ x d (k + 1) = 2 * topQ x d k ∧ topR x d (k + 1) = 2 * topR x d k + topB x k := by
  have h1 := topR_lt (x := x) hd k
  have h2 := topB_01 x k
  refine div_unique ?_ (by omega) h
  rw [topX_succ x k hk, top_div (x := x) hd k]
  grind
theorem top_more {x d : Int} (hd : 1 ≤ d) (k : Nat) (hk : k < 128) (h : d ≤ 2 * topR x d k + topB x k) :
    topQ x d (k + 1) = 2 * topQ x d k + 1 ∧ topR x d (k + 1) = 2 * topR x d k + topB x k - d := by
  have h1 := topR_lt (x := x) hd k
  have h2 := topB_01 x k
  refine div_unique ?_ (by omega) (by omega)
  rw [topX_succ x k hk, top_div (x := x) hd k]
  grind
theorem topQ_bd {x d : Int} (hx : U128 x) (hd : 1 ≤ d) (k : Nat) (hk : k ≤ 128) : 0 ≤ topQ x d k ∧ topQ x d k < 340282366920938463463374607431768211456 := by
  have h1 := topX_nonneg hx.1 k
  have h2 := topX_le hx k hk
  refine ⟨Int.ediv_nonneg h1 (by omega), ?_⟩
  have : topQ x d k ≤ topX x k := Int.ediv_le_self _ h1
  omega

theorem or63 (x y : Int) (h₀ : 0 ≤ x) (h : x % 2 = 0) (h₁ : x < 18446744073709551616) (hy : 0 ≤ y) (hy₁ : y < 2) : bits .or .u64 x y = x + y := or1 x y h₀ h h₁ hy hy₁

/-- the words of twice a number -/
theorem twice_parts {q : Int} (h0 : 0 ≤ q) (h : 2 * q + 1 < 340282366920938463463374607431768211456) :
    bits .or .u64 (IntKind.u64.wrap (hi q * 2)) (lo q / 9223372036854775808) = hi (2 * q) ∧ IntKind.u64.wrap (lo q * 2) = lo (2 * q) ∧
    bits .or .u64 (IntKind.u64.wrap (lo q * 2)) 1 = lo (2 * q + 1) ∧ hi (2 * q) = hi (2 * q + 1) := by
  have e1 : IntKind.u64.wrap (hi q * 2) = hi q * 2 := by rw [IntKind.wrap_u64]; unfold hi; omega
  have e2 : IntKind.u64.wrap (lo q * 2) = lo (2 * q) := by rw [IntKind.wrap_u64]; unfold lo; omega
  rw [e1, e2]
  rw [or1 (hi q * 2) _ (by unfold hi; omega) (by omega) (by unfold hi; omega) (by unfold lo; omega) (by unfold lo; omega)]
  rw [or1 (lo (2 * q)) 1 (by unfold lo; omega) (by unfold lo; omega) (by unfold lo; omega) (by decide) (by decide)]
  unfold hi lo
  omega
theorem rest_parts {r b : Int} {v : Int} (hv0 : 0 ≤ v) (hv1 : v < 18446744073709551616) (hb : v % 2 = b) (h0 : 0 ≤ r) (h : r < 9223372036854775807) :
    bits .or .u64 (IntKind.u64.wrap (r * 2)) (bits .and .u64 v 1) = 2 * r + b := by
  rw [and1 v hv0 hv1, hb, IntKind.wrap_u64, show r * 2 % 18446744073709551616 = r * 2 by omega, or1 _ _ (by omega) (by omega) (by omega) (by omega) (by omega)]
  omega
theorem u64_div {v : Int} (h : U64 v) (j : Nat) : 0 ≤ v / 2 ^ j ∧ v / 2 ^ j < 18446744073709551616 := by
  refine ⟨Int.ediv_nonneg h.1 (Int.le_of_lt (Int.pow_pos (by decide))), ?_⟩
  have := Int.ediv_le_self (2 ^ j) h.1
  have := h.2
  omega
end Go.Proofs.Ytooapbhjnibaoaa
