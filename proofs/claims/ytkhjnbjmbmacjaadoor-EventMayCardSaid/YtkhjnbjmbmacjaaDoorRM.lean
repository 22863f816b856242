/- Plain facts on numbers of two words of 64 bits and on fractions. No conditions but those that each lemma names. -/
import Derived.Laws.Bits64
import Derived.Laws.BitsLemmas
import Derived.RowKit
namespace Go.Proofs.YtkhjnbjmbmacjaaDoor
open Go Go.RowKit

/-- two words -/
def hi (n : Int) : Int := n / 18446744073709551616
def lo (n : Int) : Int := n % 18446744073709551616
/-- a word; a number that isn't below 0 -/
def U64 (n : Int) : Prop := 0 ≤ n ∧ n < 18446744073709551616
def I64 (n : Int) : Prop := -9223372036854775808 ≤ n ∧ n ≤ 9223372036854775807
/-- two words' number -/
def U128 (n : Int) : Prop := 0 ≤ n ∧ n < 340282366920938463463374607431768211456

theorem wraps_u64 (n : Int) (h₀ : 0 ≤ n) (h₁ : n < 2 ^ 64) : IntKind.u64.wrap n = n := by rw [IntKind.wrap_u64]; omega
theorem wu (n : Int) (h₀ : 0 ≤ n) (h₁ : n < 18446744073709551616) : IntKind.u64.wrap n = n := by rw [IntKind.wrap_u64]; omega
theorem and32 (x : Int) (h₀ : 0 ≤ x) (h₁ : x < 18446744073709551616) : bits .and .u64 x 4294967295 = x % 4294967296 :=
  bits_mask .u64 64 (by decide) wraps_u64 32 (by decide) x h₀ h₁
theorem and1 (x : Int) (h₀ : 0 ≤ x) (h₁ : x < 18446744073709551616) : bits .and .u64 x 1 = x % 2 :=
  bits_mask .u64 64 (by decide) wraps_u64 1 (by decide) x h₀ h₁
theorem or32 (x y : Int) (h₀ : 0 ≤ x) (h : x % 4294967296 = 0) (h₁ : x < 18446744073709551616) (hy : 0 ≤ y) (hy₁ : y < 4294967296) : bits .or .u64 x y = x + y :=
  bits_join .u64 64 (by decide) wraps_u64 32 x y h₀ h h₁ hy hy₁ (by omega)
theorem or1 (x y : Int) (h₀ : 0 ≤ x) (h : x % 2 = 0) (h₁ : x < 18446744073709551616) (hy : 0 ≤ y) (hy₁ : y < 2) : bits .or .u64 x y = x + y :=
  bits_join .u64 64 (by decide) wraps_u64 1 x y h₀ h h₁ hy hy₁ (by omega)

theorem mul_split (ah al bh bl : Int) : (4294967296*ah+al)*(4294967296*bh+bl) = 18446744073709551616*(ah*bh) + 4294967296*(al*bh + ah*bl) + al*bl := by grind

theorem half_mul {x y : Int} (hx : 0 ≤ x) (hx1 : x ≤ 4294967295) (hy : 0 ≤ y) (hy1 : y ≤ 4294967295) : 0 ≤ x * y ∧ x * y ≤ 18446744065119617025 := by
  refine ⟨Int.mul_nonneg hx hy, ?_⟩
  have := Int.mul_le_mul hx1 hy1 hy (by omega)
  omega

/-- the product of two words, by their halves -/
theorem times_parts {a b : Int} (hA : U64 a) (hB : U64 b) :
    (let al := bits .and .u64 a 4294967295; let bl := bits .and .u64 b 4294967295; let ah := a / 4294967296; let bh := b / 4294967296
     let ll := IntKind.u64.wrap (al * bl); let lh := IntKind.u64.wrap (al * bh); let hl := IntKind.u64.wrap (ah * bl); let hh := IntKind.u64.wrap (ah * bh)
     let m := IntKind.u64.wrap (IntKind.u64.wrap (lh + bits .and .u64 hl 4294967295) + ll / 4294967296)
     IntKind.u64.wrap (IntKind.u64.wrap (hh + hl / 4294967296) + m / 4294967296) = hi (a * b) ∧
     bits .or .u64 (IntKind.u64.wrap (m * 4294967296)) (bits .and .u64 ll 4294967295) = lo (a * b)) := by
  obtain ⟨ha, ha1⟩ := hA
  obtain ⟨hb, hb1⟩ := hB
  have e := mul_split (a / 4294967296) (a % 4294967296) (b / 4294967296) (b % 4294967296)
  have ea : 4294967296 * (a / 4294967296) + a % 4294967296 = a := by omega
  have eb : 4294967296 * (b / 4294967296) + b % 4294967296 = b := by omega
  rw [ea, eb] at e
  have hah : 0 ≤ a / 4294967296 ∧ a / 4294967296 ≤ 4294967295 := by omega
  have hbh : 0 ≤ b / 4294967296 ∧ b / 4294967296 ≤ 4294967295 := by omega
  have hal : 0 ≤ a % 4294967296 ∧ a % 4294967296 ≤ 4294967295 := by omega
  have hbl : 0 ≤ b % 4294967296 ∧ b % 4294967296 ≤ 4294967295 := by omega
  have p1 := half_mul hal.1 hal.2 hbl.1 hbl.2
  have p2 := half_mul hal.1 hal.2 hbh.1 hbh.2
  have p3 := half_mul hah.1 hah.2 hbl.1 hbl.2
  have p4 := half_mul hah.1 hah.2 hbh.1 hbh.2
  simp only []
  rw [and32 a ha ha1, and32 b hb hb1, e]
  clear ea eb e
  generalize a / 4294967296 * (b / 4294967296) = S at *
  generalize a % 4294967296 * (b / 4294967296) = Q at *
  generalize a / 4294967296 * (b % 4294967296) = R at *
  generalize a % 4294967296 * (b % 4294967296) = T at *
  clear hah hbh hal hbl ha ha1 hb hb1
  unfold hi lo
  rw [wu T (by omega) (by omega), wu Q (by omega) (by omega), wu R (by omega) (by omega), wu S (by omega) (by omega)]
  rw [and32 T (by omega) (by omega), and32 R (by omega) (by omega)]
  rw [wu (Q + R % 4294967296) (by omega) (by omega), wu (S + R / 4294967296) (by omega) (by omega)]
  rw [wu (Q + R % 4294967296 + T / 4294967296) (by omega) (by omega)]
  have hw : IntKind.u64.wrap ((Q + R % 4294967296 + T / 4294967296) * 4294967296) = (Q + R % 4294967296 + T / 4294967296) * 4294967296 % 18446744073709551616 := IntKind.wrap_u64 _
  rw [hw]
  rw [or32 _ _ (by omega) (by omega) (by omega) (by omega) (by omega)]
  rw [IntKind.wrap_u64]
  constructor <;> omega


/-- a sum of two numbers of two words that goes no further -/
theorem plus_parts {x y : Int} (hx : 0 ≤ x) (hy : 0 ≤ y) (h : U128 (x + y)) :
    IntKind.u64.wrap (lo x + lo y) = lo (x + y) ∧ (IntKind.u64.wrap (lo x + lo y) < lo x → IntKind.u64.wrap (IntKind.u64.wrap (hi x + hi y) + 1) = hi (x + y)) ∧
    (¬ IntKind.u64.wrap (lo x + lo y) < lo x → IntKind.u64.wrap (hi x + hi y) = hi (x + y)) := by
  obtain ⟨_, h⟩ := h
  simp only [IntKind.wrap_u64]
  unfold lo hi
  refine ⟨?_, fun h' => ?_, fun h' => ?_⟩ <;> omega

theorem word_max {n : Int} (h : I64 n) : IntKind.u64.wrap (max n 0) = max n 0 := by obtain ⟨_, _⟩ := h; rw [IntKind.wrap_u64]; omega
theorem word_pos {n : Int} (h : I64 n) (h0 : 0 ≤ n) : IntKind.u64.wrap n = n := by obtain ⟨_, _⟩ := h; rw [IntKind.wrap_u64]; omega
theorem wrap_zero : IntKind.u64.wrap 0 = 0 := by rw [IntKind.wrap_u64]; rfl
theorem u64_max {n : Int} (h : I64 n) : U64 (max n 0) := by obtain ⟨_, _⟩ := h; unfold U64; omega
theorem u64_of {n : Int} (h : I64 n) (h0 : 0 ≤ n) : U64 n := by obtain ⟨_, _⟩ := h; unfold U64; omega
theorem u64_hi {n : Int} (h : U128 n) : U64 (hi n) := by obtain ⟨_, _⟩ := h; unfold U64 hi; omega
theorem u64_lo (n : Int) : U64 (lo n) := by unfold U64 lo; omega
theorem max_of {n : Int} (h0 : 0 ≤ n) : max n 0 = n := by omega
theorem u128_mul {a b : Int} (ha : U64 a) (hb : U64 b) : U128 (a * b) := by
  obtain ⟨a0, a1⟩ := ha
  obtain ⟨b0, b1⟩ := hb
  refine ⟨Int.mul_nonneg a0 b0, ?_⟩
  have := Int.mul_le_mul (show a ≤ 18446744073709551615 by omega) (show b ≤ 18446744073709551615 by omega) b0 (by omega)
  omega
/-- two products of numbers below 2^63 -/
theorem u128_sum {a b c d : Int} (ha : I64 a) (hb : I64 b) (hc : I64 c) (hd : I64 d) (a0 : 0 ≤ a) (b0 : 0 ≤ b) (c0 : 0 ≤ c) (d0 : 0 ≤ d) : U128 (a * b + c * d) := by
  obtain ⟨_, a1⟩ := ha
  obtain ⟨_, b1⟩ := hb
  obtain ⟨_, c1⟩ := hc
  obtain ⟨_, d1⟩ := hd
  have h1 := Int.mul_nonneg a0 b0
  have h2 := Int.mul_nonneg c0 d0
  have h3 := Int.mul_le_mul a1 b1 b0 (by omega)
  have h4 := Int.mul_le_mul c1 d1 d0 (by omega)
  unfold U128
  omega
/-- which of two numbers of two words is less -/
theorem less_parts {x y : Int} : (hi x < hi y ∨ hi x = hi y ∧ lo x < lo y) ↔ x < y := by unfold hi lo; omega
theorem eq_parts {x y : Int} : (hi x = hi y ∧ lo x = lo y) ↔ x = y := by unfold hi lo; omega
theorem small_parts {x : Int} (h : 0 ≤ x) : (0 < hi x ∨ 9223372036854775807 < lo x) ↔ 9223372036854775807 < x := by unfold hi lo; omega
theorem lo_small {x : Int} (h : 0 ≤ x) (h1 : x ≤ 9223372036854775807) : lo x = x := by unfold lo; omega
theorem wrap_small {x : Int} (h : 0 ≤ x) (h1 : x ≤ 9223372036854775807) : IntKind.i64.wrap x = x := by rw [IntKind.wrap_i64]; omega
theorem minus_parts {x y : Int} (hx : U128 x) (hy : 0 ≤ y) (h : y ≤ x) :
    IntKind.u64.wrap (lo x - lo y) = lo (x - y) ∧ (lo x < lo y → IntKind.u64.wrap (IntKind.u64.wrap (hi x - hi y) - 1) = hi (x - y)) ∧
    (lo y ≤ lo x → IntKind.u64.wrap (hi x - hi y) = hi (x - y)) := by
  obtain ⟨_, hx⟩ := hx
  simp only [IntKind.wrap_u64]
  unfold lo hi
  refine ⟨?_, fun h' => ?_, fun h' => ?_⟩ <;> omega
end Go.Proofs.YtkhjnbjmbmacjaaDoor
