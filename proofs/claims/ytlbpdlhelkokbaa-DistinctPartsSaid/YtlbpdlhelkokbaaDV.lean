/- Plain numbers: a division of two words by one, in two digits of 32 bits; and bit by bit. -/
import Derived.Test.YtlbpdlhelkokbaaRM
namespace Go.Proofs.Ytlbpdlhelkokbaa

/-- One digit: u times 2^32 over y; y has its upper bit. -/
structure Dig (u y y1 y0 : Int) : Prop where
  u0 : 0 ≤ u
  uy : u < y
  y1lo : 2147483648 ≤ y1
  y1hi : y1 < 4294967296
  y00 : 0 ≤ y0
  y0hi : y0 < 4294967296
  yy : y = y1 * 4294967296 + y0

def Qd (u y : Int) : Int := u * 4294967296 / y
theorem Dig.y_pos {u y y1 y0 : Int} (d : Dig u y y1 y0) : 0 < y := by have := d.u0; have := d.uy; omega
theorem Qd_range {u y y1 y0 : Int} (d : Dig u y y1 y0) : 0 ≤ Qd u y ∧ Qd u y < 4294967296 := by
  have hy := d.y_pos
  unfold Qd
  refine ⟨Int.ediv_nonneg (by have := d.u0; omega) (by omega), Int.ediv_lt_of_lt_mul hy ?_⟩
  have := d.uy
  omega
theorem le_Qd {u y : Int} (hy : 0 < y) (q : Int) : q ≤ Qd u y ↔ q * y ≤ u * 4294967296 := Int.le_ediv_iff_mul_le hy

/-- the loop's state: the digit tried, and what is left -/
structure Try1 (u y y1 y0 q r : Int) : Prop where
  lo : Qd u y ≤ q
  hi : q ≤ 4294967297
  r0 : 0 ≤ r
  rhi : r < 4294967296
  rr : r = u - q * y1
theorem try_start {u y y1 y0 : Int} (d : Dig u y y1 y0) : Try1 u y y1 y0 (u / y1) (u - u / y1 * y1) := by
  have h1 : 0 < y1 := by have := d.y1lo; omega
  have hm := Int.emod_nonneg u (show y1 ≠ 0 by omega)
  have hl := Int.emod_lt_of_pos u h1
  have he : u - u / y1 * y1 = u % y1 := by have := Int.emod_def u y1; rw [Int.mul_comm] at this; omega
  refine ⟨?_, ?_, by omega, by have := d.y1hi; omega, rfl⟩
  · unfold Qd
    refine (Int.le_ediv_iff_mul_le h1).2 ?_
    have h2 := (le_Qd (u := u) d.y_pos (Qd u y)).1 (Int.le_refl _)
    unfold Qd at h2
    have h3 := (Qd_range d).1
    unfold Qd at h3
    generalize u * 4294967296 / y = q at h2 h3
    have h4 : q * (y1 * 4294967296) ≤ q * y := Int.mul_le_mul_of_nonneg_left (by have := d.yy; have := d.y00; omega) h3
    rw [← Int.mul_assoc] at h4
    generalize q * y1 = z at *
    omega
  · have h2 : u / y1 < 4294967298 := by
      refine Int.ediv_lt_of_lt_mul h1 ?_
      have := d.uy; have := d.yy; have := d.y0hi; have := d.y1lo
      omega
    omega
/-- the test says: too great -/
theorem try_high {u y y1 y0 q r : Int} (d : Dig u y y1 y0) (t : Try1 u y y1 y0 q r) : 4294967296 * r < q * y0 ↔ Qd u y < q := by
  have h := le_Qd (u := u) d.y_pos q
  have e : q * y = q * y1 * 4294967296 + q * y0 := by rw [d.yy, Int.mul_add, Int.mul_assoc]
  have := t.rr
  rw [e] at h
  generalize q * y1 = z at *
  generalize q * y0 = z0 at *
  omega
theorem try_next {u y y1 y0 q r : Int} (d : Dig u y y1 y0) (t : Try1 u y y1 y0 q r) (h : 4294967296 ≤ q ∨ 4294967296 * r < q * y0) (hb : r + y1 < 4294967296) : Try1 u y y1 y0 (q - 1) (r + y1) := by
  have hq : Qd u y < q := by
    rcases h with h | h
    · have := (Qd_range d).2; omega
    · exact (try_high d t).1 h
  have e : (q - 1) * y1 = q * y1 - y1 := by rw [Int.sub_mul, Int.one_mul]
  refine ⟨by omega, by have := t.hi; omega, by have := t.r0; have := d.y1lo; omega, hb, by rw [e]; have := t.rr; omega⟩
theorem try_break {u y y1 y0 q r : Int} (d : Dig u y y1 y0) (t : Try1 u y y1 y0 q r) (h : 4294967296 ≤ q ∨ 4294967296 * r < q * y0) (hb : ¬ r + y1 < 4294967296) : q - 1 = Qd u y := by
  have hq : Qd u y < q := by
    rcases h with h | h
    · have := (Qd_range d).2; omega
    · exact (try_high d t).1 h
  refine Int.le_antisymm ?_ (by omega)
  refine (le_Qd d.y_pos _).2 ?_
  have e : (q - 1) * y = (q - 1) * y1 * 4294967296 + (q - 1) * y0 := by rw [d.yy, Int.mul_add, Int.mul_assoc]
  have e2 : (q - 1) * y1 = q * y1 - y1 := by rw [Int.sub_mul, Int.one_mul]
  have h0 := (Qd_range d).1
  have h3 : (q - 1) * y0 ≤ 4294967296 * 4294967295 := Int.mul_le_mul (by have := t.hi; omega) (by have := d.y0hi; omega) d.y00 (by omega)
  have := t.rr
  rw [e, e2]
  generalize q * y1 = z at *
  generalize (q - 1) * y0 = z0 at *
  omega
theorem try_end {u y y1 y0 q r : Int} (d : Dig u y y1 y0) (t : Try1 u y y1 y0 q r) (h : ¬ (4294967296 ≤ q ∨ 4294967296 * r < q * y0)) : q = Qd u y := by
  have := (try_high d t)
  have := t.lo
  omega
/-- what is left behind a digit -/
def Rd (u y : Int) : Int := u * 4294967296 % y
theorem rest_is {u y : Int} : u * 4294967296 - Qd u y * y = Rd u y := by
  have := Int.emod_def (u * 4294967296) y
  unfold Qd Rd
  rw [Int.mul_comm (u * 4294967296 / y) y]
  omega
theorem Rd_range {u y : Int} (hy : 0 < y) : 0 ≤ Rd u y ∧ Rd u y < y := ⟨Int.emod_nonneg _ (by omega), Int.emod_lt_of_pos _ hy⟩
/-- two digits are the whole -/
theorem two_digits {u y : Int} (hy : 0 < y) : Qd u y * 4294967296 + Qd (Rd u y) y = u * 18446744073709551616 / y := by
  have e : u * 18446744073709551616 = Rd u y * 4294967296 + Qd u y * 4294967296 * y := by
    have := rest_is (u := u) (y := y)
    have e2 : Qd u y * 4294967296 * y = Qd u y * y * 4294967296 := by rw [Int.mul_assoc, Int.mul_comm 4294967296 y, ← Int.mul_assoc]
    rw [e2]
    generalize Qd u y * y = z at *
    omega
  rw [e, Int.add_mul_ediv_right _ _ (by omega)]
  unfold Qd
  omega
/-- both shifted alike -/
theorem div_shift {h y p : Int} (hp : 0 < p) : h * p * 18446744073709551616 / (y * p) = h * 18446744073709551616 / y := by
  rw [show h * p * 18446744073709551616 = h * 18446744073709551616 * p by rw [Int.mul_assoc, Int.mul_comm p, ← Int.mul_assoc]]
  exact Int.mul_ediv_mul_of_pos_left _ _ hp
end Go.Proofs.Ytlbpdlhelkokbaa
