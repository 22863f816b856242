/- Sums of two fractions: plain facts. -/
import Derived.Test.YtdcflgmbpaddhaaRP
import Derived.Test.YtdcflgmbpaddhaaRL
namespace Go.Proofs.Ytdcflgmbpaddhaa
open Go Go.RowKit

def ratFit (n d : Int) : Option (Int × Int) :=
  if n / Int.gcd n d ≤ 9223372036854775807 ∧ d / Int.gcd n d ≤ 9223372036854775807 then some (n / Int.gcd n d, d / Int.gcd n d) else none
theorem ratStep_fit (s r : Int × Int) : ratStep s r = ratFit (s.1 * r.2 + r.1 * s.2) (s.2 * r.2) := rfl
theorem ratFit_scale {k : Int} (hk : 1 ≤ k) (n d : Int) : ratFit (k * n) (k * d) = ratFit n d := by
  have e : ((Int.gcd (k * n) (k * d) : Nat) : Int) = k * (Int.gcd n d : Nat) := by
    rw [Int.gcd_mul_left, Int.natCast_mul]
    congr 1
    omega
  have e1 : ∀ x g : Int, (k * x) / (k * g) = x / g := fun x g => Int.mul_ediv_mul_of_pos x g (by omega)
  unfold ratFit
  rw [e, e1, e1]

theorem ratFit_red {s : Int × Int} (h : RatRed s) : ratFit s.1 s.2 = some s := by
  unfold ratFit
  rw [h.co]
  have := h.In.2
  have := h.Id.2
  simp only [Int.natCast_one, Int.ediv_one]
  rw [if_pos (by omega)]

theorem ratStep_start {a : Int × Int} (h : RatMay a) : ratStep (0, 1) a = some (a.1 / Int.gcd a.1 a.2, a.2 / Int.gcd a.1 a.2) := by
  rw [ratStep_fit]
  have r := ratRed_own h
  have h1 := r.In.2
  have h2 := r.Id.2
  simp only at h1 h2
  rw [show (0 * a.2 + a.1 * 1 : Int) = a.1 by omega, show (1 * a.2 : Int) = a.2 by omega]
  unfold ratFit
  rw [if_pos ⟨h1, h2⟩]

theorem fold_two {a b : Int × Int} (ha : RatMay a) : ratFold (0, 1) [a, b] = ratFit (a.1 * b.2 + b.1 * a.2) (a.2 * b.2) := by
  have h1 : 0 < Int.gcd a.1 a.2 := Int.gcd_pos_of_ne_zero_right _ (by have := ha.d0; omega)
  have e1 : ((Int.gcd a.1 a.2 : Nat) : Int) * (a.1 / (Int.gcd a.1 a.2 : Nat)) = a.1 := Int.mul_ediv_cancel' (Int.gcd_dvd_left ..)
  have e2 : ((Int.gcd a.1 a.2 : Nat) : Int) * (a.2 / (Int.gcd a.1 a.2 : Nat)) = a.2 := Int.mul_ediv_cancel' (Int.gcd_dvd_right ..)
  unfold ratFold
  rw [ratStep_start ha]
  simp only
  have e3 : ratFold (a.1 / (Int.gcd a.1 a.2 : Nat), a.2 / (Int.gcd a.1 a.2 : Nat)) [b] = ratStep (a.1 / (Int.gcd a.1 a.2 : Nat), a.2 / (Int.gcd a.1 a.2 : Nat)) b := by
    unfold ratFold
    cases h : ratStep (a.1 / (Int.gcd a.1 a.2 : Nat), a.2 / (Int.gcd a.1 a.2 : Nat)) b <;> rfl
  rw [e3, ratStep_fit]
  generalize hk : ((Int.gcd a.1 a.2 : Nat) : Int) = k at *
  generalize a.1 / k = x at *
  generalize a.2 / k = y at *
  rw [← ratFit_scale (show 1 ≤ k by omega)]
  congr 1
  · rw [← e1, ← e2]; grind
  · rw [← e2]; grind

theorem fold_turn {a b : Int × Int} (ha : RatMay a) (hb : RatMay b) : ratFold (0, 1) [b, a] = ratFold (0, 1) [a, b] := by
  rw [fold_two ha, fold_two hb]
  congr 1
  · grind
  · grind

theorem fold_one {s : Int × Int} (h : RatRed s) : ratFold (0, 1) [s] = some s := by
  unfold ratFold
  rw [ratStep_start h.toRatMay, h.co]
  simp [ratFold]

theorem fold_red {s : Int × Int} {a b : Int × Int} (ha : RatMay a) (hb : RatMay b) (h : ratFold (0, 1) [a, b] = some s) : RatRed s := by
  obtain ⟨u, h1, h2⟩ := ratFold_cons h
  obtain ⟨v, h3, h4⟩ := ratFold_cons h2
  have : v = s := by simpa [ratFold] using h4
  subst this
  exact ratStep_red (ratStep_red ratRed_start.toRatMay ha h1).toRatMay hb h3

/-- at least as much as each of both -/
theorem fold_more {s a b : Int × Int} (ha : RatMay a) (hb : RatMay b) (h : ratFold (0, 1) [a, b] = some s) : a.1 * s.2 ≤ s.1 * a.2 ∧ b.1 * s.2 ≤ s.1 * b.2 := by
  rw [fold_two ha] at h
  unfold ratFit at h
  split at h
  · cases h
    simp only
    have hd : 0 < a.2 * b.2 := Int.mul_pos (by have := ha.d0; omega) (by have := hb.d0; omega)
    have hg : 0 < Int.gcd (a.1 * b.2 + b.1 * a.2) (a.2 * b.2) := Int.gcd_pos_of_ne_zero_right _ (by omega)
    have hg' : 0 < ((Int.gcd (a.1 * b.2 + b.1 * a.2) (a.2 * b.2) : Nat) : Int) := by omega
    have e1 : ((Int.gcd (a.1 * b.2 + b.1 * a.2) (a.2 * b.2) : Nat) : Int) * ((a.1 * b.2 + b.1 * a.2) / (Int.gcd (a.1 * b.2 + b.1 * a.2) (a.2 * b.2) : Nat)) = a.1 * b.2 + b.1 * a.2 := Int.mul_ediv_cancel' (Int.gcd_dvd_left ..)
    have e2 : ((Int.gcd (a.1 * b.2 + b.1 * a.2) (a.2 * b.2) : Nat) : Int) * (a.2 * b.2 / (Int.gcd (a.1 * b.2 + b.1 * a.2) (a.2 * b.2) : Nat)) = a.2 * b.2 := Int.mul_ediv_cancel' (Int.gcd_dvd_right ..)
    generalize ((Int.gcd (a.1 * b.2 + b.1 * a.2) (a.2 * b.2) : Nat) : Int) = g at *
    generalize (a.1 * b.2 + b.1 * a.2) / g = x at *
    generalize a.2 * b.2 / g = y at *
    have p1 : 0 ≤ b.1 * (a.2 * a.2) := Int.mul_nonneg hb.n0 (Int.mul_nonneg (by have := ha.d0; omega) (by have := ha.d0; omega))
    have p2 : 0 ≤ a.1 * (b.2 * b.2) := Int.mul_nonneg ha.n0 (Int.mul_nonneg (by have := hb.d0; omega) (by have := hb.d0; omega))
    constructor
    · refine Int.le_of_mul_le_mul_left (a := g) ?_ hg'
      have : g * (x * a.2) = g * (a.1 * y) + b.1 * (a.2 * a.2) := by
        rw [show g * (x * a.2) = (g * x) * a.2 by grind, e1, show g * (a.1 * y) = a.1 * (g * y) by grind, e2]; grind
      omega
    · refine Int.le_of_mul_le_mul_left (a := g) ?_ hg'
      have : g * (x * b.2) = g * (b.1 * y) + a.1 * (b.2 * b.2) := by
        rw [show g * (x * b.2) = (g * x) * b.2 by grind, e1, show g * (b.1 * y) = b.1 * (g * y) by grind, e2]; grind
      omega
  · cases h

theorem le_mul31 {a b : Int} (hb : 0 ≤ b) (ha1 : a < 2147483648) (hb1 : b < 2147483648) : a * b ≤ 4611686014132420609 :=
  Int.mul_le_mul (show a ≤ 2147483647 by omega) (show b ≤ 2147483647 by omega) hb (by decide)

/-- small ones have a sum -/
theorem fold_small {a b : Int × Int} (ha : RatMay a) (hb : RatMay b) (h1 : a.1 < 2147483648) (h2 : a.2 < 2147483648) (h3 : b.1 < 2147483648) (h4 : b.2 < 2147483648) : ratFold (0, 1) [a, b] ≠ none := by
  rw [fold_two ha]
  have q1 := le_mul31 (show 0 ≤ b.2 by have := hb.d0; omega) h1 h4
  have q2 := le_mul31 (show 0 ≤ a.2 by have := ha.d0; omega) h3 h2
  have q3 := le_mul31 (show 0 ≤ b.2 by have := hb.d0; omega) h2 h4
  have r1 := Int.mul_nonneg ha.n0 (show 0 ≤ b.2 by have := hb.d0; omega)
  have r2 := Int.mul_nonneg hb.n0 (show 0 ≤ a.2 by have := ha.d0; omega)
  have r3 := Int.mul_nonneg (show 0 ≤ a.2 by have := ha.d0; omega) (show 0 ≤ b.2 by have := hb.d0; omega)
  unfold ratFit
  have s1 := Int.ediv_le_self ((Int.gcd (a.1 * b.2 + b.1 * a.2) (a.2 * b.2) : Nat) : Int) (show 0 ≤ a.1 * b.2 + b.1 * a.2 by omega)
  have s2 := Int.ediv_le_self ((Int.gcd (a.1 * b.2 + b.1 * a.2) (a.2 * b.2) : Nat) : Int) r3
  rw [if_pos (by omega)]
  simp
end Go.Proofs.Ytdcflgmbpaddhaa
