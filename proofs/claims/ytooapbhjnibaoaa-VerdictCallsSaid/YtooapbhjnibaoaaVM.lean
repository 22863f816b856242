/- Choices: plain facts. -/
import Derived.Test.YtooapbhjnibaoaaRM
namespace Go.Proofs.Ytooapbhjnibaoaa
open Go Go.RowKit

def ch : Nat → Nat → Nat
  | _, 0 => 1
  | 0, _ + 1 => 0
  | n + 1, k + 1 => ch n k + ch n (k + 1)
theorem ch_zero (n : Nat) : ch n 0 = 1 := by cases n <;> rfl
theorem ch_succ (n k : Nat) : ch (n + 1) (k + 1) = ch n k + ch n (k + 1) := rfl
theorem ch_big : ∀ (n k : Nat), n < k → ch n k = 0
  | 0, _ + 1, _ => rfl
  | n + 1, k + 1, h => by rw [ch_succ, ch_big n k (by omega), ch_big n (k + 1) (by omega)]
theorem ch_self : ∀ n : Nat, ch n n = 1
  | 0 => rfl
  | n + 1 => by rw [ch_succ, ch_self n, ch_big n (n + 1) (by omega)]
theorem ch_le : ∀ (n k : Nat), ch n k ≤ 2 ^ n
  | n, 0 => by rw [ch_zero]; exact Nat.one_le_two_pow
  | 0, _ + 1 => by show 0 ≤ _; omega
  | n + 1, k + 1 => by
    have h1 := ch_le n k
    have h2 := ch_le n (k + 1)
    rw [ch_succ, Nat.pow_succ]; omega
theorem pow_le62 {n : Nat} (h : n ≤ 62) : (2 : Nat) ^ n ≤ 4611686018427387904 := Nat.pow_le_pow_right (by decide) h
theorem ch_symm : ∀ (n k : Nat), k ≤ n → ch n k = ch n (n - k)
  | n, 0, _ => by rw [ch_zero, Nat.sub_zero, ch_self]
  | n + 1, k + 1, h => by
    by_cases e : k = n
    · subst e; rw [Nat.sub_self, ch_zero, ch_self]
    · have h1 := ch_symm n k (by omega)
      have h2 := ch_symm n (k + 1) (by omega)
      rw [show n + 1 - (k + 1) = (n - (k + 1)) + 1 by omega, ch_succ, ch_succ, h1, h2, show n - k = n - (k + 1) + 1 by omega]
      omega

/-- how many from k on, of a row -/
def tl : Nat → Nat → Nat
  | n, k => ((List.range (n + 1)).map fun i => if k ≤ i then ch n i else 0).sum
/-- sums from the left, of the first j -/
def part (f : Nat → Nat) : Nat → Nat
  | 0 => 0
  | j + 1 => part f j + f j
theorem part_s (f : Nat → Nat) (j : Nat) : part f (j + 1) = part f j + f j := rfl
theorem part_congr {f g : Nat → Nat} : ∀ {j : Nat}, (∀ i, i < j → f i = g i) → part f j = part g j
  | 0, _ => rfl
  | j + 1, h => by unfold part; rw [part_congr (fun i hi => h i (by omega)), h j (by omega)]
theorem part_add (f g : Nat → Nat) : ∀ j, part (fun i => f i + g i) j = part f j + part g j
  | 0 => rfl
  | j + 1 => by unfold part; rw [part_add f g j]; omega
theorem part_succ' (f : Nat → Nat) : ∀ j, part f (j + 1) = f 0 + part (fun i => f (i + 1)) j
  | 0 => by simp [part]
  | j + 1 => by
    have h := part_succ' f j
    rw [part_s f (j + 1), h, part_s _ j]
    omega
theorem part_zero {f : Nat → Nat} : ∀ {j k : Nat}, (∀ i, k ≤ i → f i = 0) → k ≤ j → part f j = part f k
  | 0, k, _, h => by rw [show k = 0 by omega]
  | j + 1, k, hf, h => by
    by_cases e : k = j + 1
    · rw [e]
    · rw [show part f (j + 1) = part f j + f j from rfl, hf j (by omega), part_zero hf (show k ≤ j by omega)]; rfl
theorem part_mono (f : Nat → Nat) (i : Nat) : ∀ d, part f i ≤ part f (i + d)
  | 0 => Nat.le_refl _
  | d + 1 => by
    have := part_mono f i d
    rw [show i + (d + 1) = (i + d) + 1 by omega, part_s]; omega
theorem part_le {f g : Nat → Nat} : ∀ {j : Nat}, (∀ i, i < j → f i ≤ g i) → part f j ≤ part g j
  | 0, _ => Nat.le_refl _
  | j + 1, h => by
    have h1 := part_le (j := j) (fun i hi => h i (by omega))
    have h2 := h j (by omega)
    rw [part_s, part_s]; omega
/-- all choices of n -/
theorem ch_all : ∀ n, part (ch n) (n + 1) = 2 ^ n
  | 0 => by decide
  | n + 1 => by
    rw [part_succ', ch_zero]
    have e : part (fun i => ch (n + 1) (i + 1)) (n + 1) = part (ch n) (n + 1) + part (fun i => ch n (i + 1)) (n + 1) := part_add _ _ _
    rw [e, ch_all n]
    have e2 : part (fun i => ch n (i + 1)) (n + 1) = part (fun i => ch n (i + 1)) n + ch n (n + 1) := rfl
    have e3 := part_succ' (ch n) n
    rw [ch_zero, ch_all n] at e3
    rw [e2, ch_big n (n + 1) (by omega), Nat.pow_succ]
    omega
theorem ch_all_more {n j : Nat} (h : n + 1 ≤ j) : part (ch n) j = 2 ^ n := by rw [part_zero (fun i hi => ch_big n i (by omega)) h, ch_all]
end Go.Proofs.Ytooapbhjnibaoaa
