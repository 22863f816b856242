/- Sums of fractions: plain facts. No conditions but those that each lemma names. -/
import Derived.Test.YtooapbhjnibaoaaRM
namespace Go.Proofs.Ytooapbhjnibaoaa
open Go Go.RowKit

/-- one step of a sum: the reduced one of both, if it isn't too great -/
def ratStep (s r : Int × Int) : Option (Int × Int) :=
  if (s.1 * r.2 + r.1 * s.2) / Int.gcd (s.1 * r.2 + r.1 * s.2) (s.2 * r.2) ≤ 9223372036854775807 ∧ (s.2 * r.2) / Int.gcd (s.1 * r.2 + r.1 * s.2) (s.2 * r.2) ≤ 9223372036854775807 then
    some ((s.1 * r.2 + r.1 * s.2) / Int.gcd (s.1 * r.2 + r.1 * s.2) (s.2 * r.2), (s.2 * r.2) / Int.gcd (s.1 * r.2 + r.1 * s.2) (s.2 * r.2))
  else none
def ratFold : Int × Int → List (Int × Int) → Option (Int × Int)
  | s, [] => some s
  | s, r :: l => match ratStep s r with
    | some t => ratFold t l
    | none => none
/-- it may be; and is reduced -/
structure RatMay (r : Int × Int) : Prop where
  n0 : 0 ≤ r.1
  d0 : 1 ≤ r.2
  In : I64 r.1
  Id : I64 r.2
structure RatRed (r : Int × Int) : Prop extends RatMay r where
  co : Int.gcd r.1 r.2 = 1

theorem ratFold_cons {s r : Int × Int} {l : List (Int × Int)} {t : Int × Int} (h : ratFold s (r :: l) = some t) : ∃ u, ratStep s r = some u ∧ ratFold u l = some t := by
  unfold ratFold at h
  split at h
  · rename_i u hu; exact ⟨u, hu, h⟩
  · cases h
theorem drop_cons {α : Type} (xs : List α) {k : Nat} (h : k < xs.length) (d : α) : xs.drop k = xs.getD k d :: xs.drop (k + 1) := by
  rw [List.getD_eq_getElem?_getD, List.getElem?_eq_getElem h]
  exact List.drop_eq_getElem_cons h
theorem nat_coprime_sum {a c g l r : Nat} (h1 : Nat.Coprime a (g * l)) (h2 : Nat.Coprime c (g * r)) (h3 : Nat.Coprime l r) : Nat.gcd (a * r + c * l) (l * (g * r)) = Nat.gcd (a * r + c * l) g := by
  have al : Nat.Coprime a l := h1.coprime_mul_left_right
  have cr : Nat.Coprime c r := h2.coprime_mul_left_right
  have e1 : Nat.Coprime (a * r + c * l) l := by
    show Nat.gcd _ _ = 1
    rw [Nat.gcd_add_mul_right_left]
    exact Nat.Coprime.mul_left al h3.symm
  have e2 : Nat.Coprime (a * r + c * l) r := by
    show Nat.gcd _ _ = 1
    rw [Nat.add_comm, Nat.gcd_add_mul_right_left]
    exact Nat.Coprime.mul_left cr h3
  rw [Nat.Coprime.gcd_mul_left_cancel_right _ e1.symm, Nat.Coprime.gcd_mul_right_cancel_right _ e2.symm]

/-- the sum of two reduced ones, made by the divisor of both Dens -/
theorem nat_add {a b c d k : Nat} (hb : 0 < b) (_ : 0 < d) (hk : 0 < k) (h1 : Nat.Coprime a b) (h2 : Nat.Coprime c d) :
    let g := Nat.gcd b d; let l := b / g; let r := d / g; let num := a * r + c * l; let again := Nat.gcd g (num % g)
    let G := Nat.gcd (a * (d * k) + (c * k) * b) (b * (d * k))
    num / again = (a * (d * k) + (c * k) * b) / G ∧ l * (d / again) = (b * (d * k)) / G := by
  intro g l r num again G
  have hg : 0 < g := Nat.gcd_pos_of_pos_left _ hb
  have eb : g * l = b := Nat.mul_div_cancel' (Nat.gcd_dvd_left b d)
  have ed : g * r = d := Nat.mul_div_cancel' (Nat.gcd_dvd_right b d)
  have hlr : Nat.Coprime l r := Nat.coprime_div_gcd_div_gcd hg
  have eN : a * (d * k) + (c * k) * b = (g * k) * num := by
    show _ = (g * k) * (a * r + c * l)
    rw [← eb, ← ed]; grind
  have eD : b * (d * k) = (g * k) * (l * d) := by rw [← eb]; grind
  have ea : again = Nat.gcd num g := by
    show Nat.gcd g (num % g) = _
    rw [Nat.gcd_comm g, ← Nat.gcd_rec, Nat.gcd_comm]
  have eG : G = (g * k) * again := by
    show Nat.gcd _ _ = _
    rw [eN, eD, Nat.gcd_mul_left, ea]
    congr 1
    have := nat_coprime_sum (a := a) (c := c) (g := g) (l := l) (r := r) (by rw [eb]; exact h1) (by rw [ed]; exact h2) hlr
    rw [ed] at this
    exact this
  have hgk : 0 < g * k := Nat.mul_pos hg hk
  have dv : again ∣ d := by
    rw [ea]
    exact Nat.dvd_trans (Nat.gcd_dvd_right num g) (Nat.gcd_dvd_right b d)
  rw [eG, eN, eD, Nat.mul_div_mul_left _ _ hgk, Nat.mul_div_mul_left _ _ hgk, Nat.mul_div_assoc _ dv]
  exact ⟨rfl, rfl⟩

theorem nat_red {n d : Nat} (hd : 0 < d) : Nat.Coprime (n / Nat.gcd n d) (d / Nat.gcd n d) := Nat.coprime_div_gcd_div_gcd (Nat.gcd_pos_of_pos_right _ hd)

theorem igcd (m n : Nat) : Int.gcd (m : Int) (n : Int) = Nat.gcd m n := rfl
theorem ratRed_div {n d : Int} (h0 : 0 ≤ n) (h1 : 1 ≤ d) (hn : n / Int.gcd n d ≤ 9223372036854775807) (hd : d / Int.gcd n d ≤ 9223372036854775807) : RatRed (n / Int.gcd n d, d / Int.gcd n d) := by
  obtain ⟨n, rfl⟩ := Int.eq_ofNat_of_zero_le h0
  obtain ⟨d, rfl⟩ := Int.eq_ofNat_of_zero_le (show 0 ≤ d by omega)
  rw [igcd] at hn hd ⊢
  have hp : 0 < d := by omega
  have hg : 0 < Nat.gcd n d := Nat.gcd_pos_of_pos_right _ hp
  have q0 : 0 < d / Nat.gcd n d := Nat.div_pos (Nat.le_of_dvd hp (Nat.gcd_dvd_right n d)) hg
  have c1 : ((n : Int) / ((Nat.gcd n d : Nat) : Int)) = ((n / Nat.gcd n d : Nat) : Int) := by simp
  have c2 : ((d : Int) / ((Nat.gcd n d : Nat) : Int)) = ((d / Nat.gcd n d : Nat) : Int) := by simp
  rw [c1] at hn ⊢
  rw [c2] at hd ⊢
  have co := nat_red (n := n) hp
  clear c1 c2 h0 h1
  generalize n / Nat.gcd n d = x at *
  generalize d / Nat.gcd n d = y at *
  exact ⟨⟨Int.natCast_nonneg x, by simp only; omega, by unfold I64; simp only; omega, by unfold I64; simp only; omega⟩, co⟩

/-- a step leaves a reduced one -/
theorem ratStep_red {s r t : Int × Int} (hs : RatMay s) (hr : RatMay r) (h : ratStep s r = some t) : RatRed t := by
  unfold ratStep at h
  split at h
  · rename_i hh
    cases h
    have p1 := Int.mul_nonneg hs.n0 (show 0 ≤ r.2 by have := hr.d0; omega)
    have p2 := Int.mul_nonneg hr.n0 (show 0 ≤ s.2 by have := hs.d0; omega)
    have p3 : 0 < s.2 * r.2 := Int.mul_pos (by have := hs.d0; omega) (by have := hr.d0; omega)
    exact ratRed_div (by omega) (by omega) hh.1 hh.2
  · cases h
theorem ratRed_start : RatRed (0, 1) := ⟨⟨by decide, by decide, by unfold I64; decide, by unfold I64; decide⟩, by decide⟩
theorem ratRed_own {r : Int × Int} (h : RatMay r) : RatRed (r.1 / Int.gcd r.1 r.2, r.2 / Int.gcd r.1 r.2) := by
  have h1 := Int.ediv_le_self ((Int.gcd r.1 r.2 : Nat) : Int) h.n0
  have h2 := Int.ediv_le_self ((Int.gcd r.1 r.2 : Nat) : Int) (show 0 ≤ r.2 by have := h.d0; omega)
  have := h.In.2
  have := h.Id.2
  exact ratRed_div h.n0 h.d0 (by omega) (by omega)

/-- the program's way to a step's numbers -/
theorem int_add {s r : Int × Int} (hs : RatRed s) (hr : RatMay r) :
    let c := r.1 / Int.gcd r.1 r.2; let d := r.2 / Int.gcd r.1 r.2
    let g : Int := (Int.gcd s.2 d : Nat); let l := s.2 / g; let q := d / g; let num := s.1 * q + c * l; let again : Int := (Int.gcd g (num % g) : Nat)
    num / again = (s.1 * r.2 + r.1 * s.2) / Int.gcd (s.1 * r.2 + r.1 * s.2) (s.2 * r.2) ∧ l * (d / again) = (s.2 * r.2) / Int.gcd (s.1 * r.2 + r.1 * s.2) (s.2 * r.2) := by
  obtain ⟨a, b⟩ := s
  obtain ⟨m, n⟩ := r
  obtain ⟨⟨a0, b0, _, _⟩, hco⟩ := hs
  obtain ⟨m0, n0, _, _⟩ := hr
  simp only at *
  obtain ⟨a, rfl⟩ := Int.eq_ofNat_of_zero_le a0
  obtain ⟨b, rfl⟩ := Int.eq_ofNat_of_zero_le (show 0 ≤ b by omega)
  obtain ⟨m, rfl⟩ := Int.eq_ofNat_of_zero_le m0
  obtain ⟨n, rfl⟩ := Int.eq_ofNat_of_zero_le (show 0 ≤ n by omega)
  have hn : 0 < n := by omega
  have hb : 0 < b := by omega
  have hk : 0 < Nat.gcd m n := Nat.gcd_pos_of_pos_right _ hn
  have em : m / Nat.gcd m n * Nat.gcd m n = m := Nat.div_mul_cancel (Nat.gcd_dvd_left m n)
  have en : n / Nat.gcd m n * Nat.gcd m n = n := Nat.div_mul_cancel (Nat.gcd_dvd_right m n)
  have hd : 0 < n / Nat.gcd m n := Nat.div_pos (Nat.le_of_dvd hn (Nat.gcd_dvd_right m n)) hk
  have H := nat_add (a := a) (b := b) (c := m / Nat.gcd m n) (d := n / Nat.gcd m n) (k := Nat.gcd m n) hb hd hk hco (nat_red hn)
  simp only [em, en] at H
  have e : Int.gcd (m : Int) (n : Int) = Nat.gcd m n := rfl
  rw [e]
  have c1 : ((m : Int) / ((Nat.gcd m n : Nat) : Int)) = ((m / Nat.gcd m n : Nat) : Int) := by simp
  have c2 : ((n : Int) / ((Nat.gcd m n : Nat) : Int)) = ((n / Nat.gcd m n : Nat) : Int) := by simp
  rw [c1, c2]
  generalize m / Nat.gcd m n = c at *
  generalize n / Nat.gcd m n = d at *
  obtain ⟨H1, H2⟩ := H
  simp only [igcd, ← Int.natCast_mul, ← Int.natCast_add, ← Int.natCast_ediv, ← Int.natCast_emod]
  exact ⟨congrArg (fun x : Nat => (x : Int)) H1, congrArg (fun x : Nat => (x : Int)) H2⟩
end Go.Proofs.Ytooapbhjnibaoaa
