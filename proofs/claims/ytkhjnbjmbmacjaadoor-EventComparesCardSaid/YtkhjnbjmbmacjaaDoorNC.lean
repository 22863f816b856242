/- Plain: the order of events. -/
import Derived.Test.YtkhjnbjmbmacjaaDoorNB
namespace Go.Proofs.YtkhjnbjmbmacjaaDoor

theorem bytes_ext {a b : ByteArray} (h : a.toList = b.toList) : a = b := by
  rw [ByteArray.toList_eq, ByteArray.toList_eq] at h
  exact ByteArray.ext (Array.ext' h)
theorem cmpI_vals (a b : Int) : (cmpI a b = -1 ∧ a < b) ∨ (cmpI a b = 0 ∧ a = b) ∨ (cmpI a b = 1 ∧ b < a) := by
  unfold cmpI
  by_cases h : a < b
  · rw [if_pos h]; exact .inl ⟨rfl, h⟩
  · rw [if_neg h]
    by_cases h2 : a > b
    · rw [if_pos h2]; exact .inr (.inr ⟨rfl, h2⟩)
    · rw [if_neg h2]; exact .inr (.inl ⟨rfl, by omega⟩)
theorem cmpS_vals (a b : ByteArray) : (cmpS a b = -1 ∧ a.toList < b.toList) ∨ (cmpS a b = 0 ∧ a.toList = b.toList) ∨ (cmpS a b = 1 ∧ b.toList < a.toList) := by
  unfold cmpS
  rw [lessL_eq]
  by_cases h : a.toList < b.toList
  · rw [decide_eq_true h, if_pos rfl]; exact .inl ⟨rfl, h⟩
  · rw [decide_eq_false h, if_neg (by decide)]
    by_cases h2 : a.toList = b.toList
    · rw [if_pos (by simpa using h2)]; exact .inr (.inl ⟨rfl, h2⟩)
    · rw [if_neg (by simpa using h2)]
      refine .inr (.inr ⟨rfl, ?_⟩)
      by_cases h3 : b.toList < a.toList
      · exact h3
      · exact absurd (List.le_antisymm (show a.toList ≤ b.toList from h3) (show b.toList ≤ a.toList from h)) h2
/-- the order, as three signs: -1, 0, 1; by it the lot lies: ahead, alike, behind -/
theorem orF_neg (x y z : Int) : orF (-x) (-y) (-z) = - orF x y z := by
  unfold orF
  by_cases hx : x = 0
  · by_cases hy : y = 0
    · simp [hx, hy]
    · simp [hx, hy]
  · simp [hx]
theorem cmpI_neg (a b : Int) : cmpI b a = - cmpI a b := by
  rcases cmpI_vals a b with ⟨e, h⟩ | ⟨e, h⟩ | ⟨e, h⟩ <;> rcases cmpI_vals b a with ⟨f, g⟩ | ⟨f, g⟩ | ⟨f, g⟩ <;> rw [e, f] <;> omega
theorem cmpS_neg (a b : ByteArray) : cmpS b a = - cmpS a b := by
  rcases cmpS_vals a b with ⟨e, h⟩ | ⟨e, h⟩ | ⟨e, h⟩ <;> rcases cmpS_vals b a with ⟨f, g⟩ | ⟨f, g⟩ | ⟨f, g⟩ <;> rw [e, f] <;> first | rfl | (exfalso)
  · exact absurd h (List.lt_asymm g)
  · rw [g] at h; exact List.lt_irrefl _ h
  · rw [h] at g; exact List.lt_irrefl _ g
  · rw [h] at g; exact List.lt_irrefl _ g
  · rw [g] at h; exact List.lt_irrefl _ h
  · exact absurd h (List.lt_asymm g)
theorem compare_neg (a b : Ev) : compareF b a = - compareF a b := by
  unfold compareF
  rw [cmpI_neg a.at' b.at', cmpS_neg a.src b.src, cmpI_neg a.num b.num, orF_neg]
theorem compare_self (a : Ev) : compareF a a = 0 := by
  have := compare_neg a a
  omega
theorem compare_less (a b : Ev) : lessF a b = decide (compareF a b < 0) := by
  unfold lessF compareF orF
  rcases cmpI_vals a.at' b.at' with ⟨e, h⟩ | ⟨e, h⟩ | ⟨e, h⟩
  · rw [e, if_neg (by omega), if_neg (by omega), decide_eq_true h]; rfl
  · rw [e, if_pos h, if_pos rfl]
    rcases cmpS_vals a.src b.src with ⟨e, h⟩ | ⟨e, h⟩ | ⟨e, h⟩
    · rw [e, if_neg (fun e2 => by rw [e2] at h; exact List.lt_irrefl _ h), if_neg (by omega), lessL_eq, decide_eq_true h]; rfl
    · rw [e, if_pos h, if_pos rfl]
      rcases cmpI_vals a.num b.num with ⟨e, h⟩ | ⟨e, h⟩ | ⟨e, h⟩
      · rw [e, decide_eq_true h]; rfl
      · rw [e, decide_eq_false (by omega)]; rfl
      · rw [e, decide_eq_false (by omega)]; rfl
    · rw [e, if_neg (fun e2 => by rw [e2] at h; exact List.lt_irrefl _ h), if_neg (by omega), lessL_eq, decide_eq_false (List.lt_asymm h)]; rfl
  · rw [e, if_neg (by omega), if_neg (by omega), decide_eq_false (by omega)]; rfl
theorem compare_vals (a b : Ev) : compareF a b = -1 ∨ compareF a b = 0 ∨ compareF a b = 1 := by
  unfold compareF orF
  rcases cmpI_vals a.at' b.at' with ⟨e, _⟩ | ⟨e, _⟩ | ⟨e, _⟩ <;> rcases cmpS_vals a.src b.src with ⟨f, _⟩ | ⟨f, _⟩ | ⟨f, _⟩ <;> rcases cmpI_vals a.num b.num with ⟨g, _⟩ | ⟨g, _⟩ | ⟨g, _⟩ <;> rw [e, f, g] <;> decide
def Goes (x y z : Int) : Prop := (x ≤ 0 → y ≤ 0 → (x < 0 ∨ y < 0) → z < 0) ∧ (x = 0 → y = 0 → z = 0)
def orE (x y : Int) : Int := if x = 0 then y else x
theorem orE_zero (y : Int) : orE 0 y = y := if_pos rfl
theorem orE_else {x : Int} (h : x ≠ 0) (y : Int) : orE x y = x := if_neg h
theorem orF_or (x y z : Int) : orF x y z = orE x (orE y z) := rfl
theorem orE_goes {x y z x1 y1 z1 : Int} (h0 : Goes x y z) (h1 : Goes x1 y1 z1) : Goes (orE x x1) (orE y y1) (orE z z1) := by
  obtain ⟨a0, b0⟩ := h0
  by_cases hx : x = 0
  · by_cases hy : y = 0
    · have hz := b0 hx hy
      rw [hx, hy, hz, orE_zero, orE_zero, orE_zero]
      exact h1
    · rw [orE_else hy]
      refine ⟨fun p q r => ?_, fun p q => absurd q hy⟩
      have hz := a0 (by omega) q (.inr (by omega))
      rw [orE_else (by omega)]
      exact hz
  · rw [orE_else hx]
    refine ⟨fun p q r => ?_, fun p q => absurd p hx⟩
    have hy : y ≤ 0 := by
      by_cases hy : y = 0
      · omega
      · rw [orE_else hy] at q; exact q
    have hz := a0 p hy (.inl (by omega))
    rw [orE_else (by omega)]
    exact hz
theorem orF_goes {x y z x1 y1 z1 x2 y2 z2 : Int} (h0 : Goes x y z) (h1 : Goes x1 y1 z1) (h2 : Goes x2 y2 z2) : Goes (orF x x1 x2) (orF y y1 y2) (orF z z1 z2) := by
  rw [orF_or, orF_or, orF_or]
  exact orE_goes h0 (orE_goes h1 h2)
theorem cmpI_goes (a b c : Int) : Goes (cmpI a b) (cmpI b c) (cmpI a c) := by
  unfold Goes
  rcases cmpI_vals a b with ⟨e, h⟩ | ⟨e, h⟩ | ⟨e, h⟩ <;> rcases cmpI_vals b c with ⟨f, g⟩ | ⟨f, g⟩ | ⟨f, g⟩ <;> rcases cmpI_vals a c with ⟨p, q⟩ | ⟨p, q⟩ | ⟨p, q⟩ <;> rw [e, f, p] <;> omega
theorem cmpS_goes (a b c : ByteArray) : Goes (cmpS a b) (cmpS b c) (cmpS a c) := by
  unfold Goes
  have no : ∀ l : List UInt8, ¬ l < l := List.lt_irrefl
  rcases cmpS_vals a b with ⟨e, h⟩ | ⟨e, h⟩ | ⟨e, h⟩ <;> rcases cmpS_vals b c with ⟨f, g⟩ | ⟨f, g⟩ | ⟨f, g⟩ <;> rcases cmpS_vals a c with ⟨p, q⟩ | ⟨p, q⟩ | ⟨p, q⟩ <;> rw [e, f, p] <;> first | omega | (exfalso)
  · rw [q] at h; exact List.lt_asymm h g
  · exact List.lt_asymm (List.lt_trans h g) q
  · rw [← g] at q; rw [q] at h; exact no _ h
  · rw [← g] at q; exact List.lt_asymm h q
  · rw [← h, q] at g; exact no _ g
  · rw [← h] at g; exact List.lt_asymm g q
  · rw [h, g] at q; exact no _ q
  · rw [h, g] at q; exact no _ q
theorem compare_goes (a b c : Ev) : Goes (compareF a b) (compareF b c) (compareF a c) := orF_goes (cmpI_goes _ _ _) (cmpS_goes _ _ _) (cmpI_goes _ _ _)
end Go.Proofs.YtkhjnbjmbmacjaaDoor
