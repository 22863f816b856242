/- A counter of the call's own: New, Add, Exact, Least, Count of an exact one; the examples that each law ends with. -/
import Derived.Test.YtlbpdlhelkokbaaDP
import Derived.Test.YtlbpdlhelkokbaaDQ
namespace Go.Proofs.Ytlbpdlhelkokbaa
open Go.RowKit

/-- in w lies a counter to which all of l came, with all its blocks made since w0; nothing of w0 has turned -/
def Own (w0 w : World) (g k : Nat) (l : List Int) : Prop := ∃ r, Cnt w g k l r ∧ w0.heap.size ≤ g ∧ (∀ j, r = some j → w0.heap.size ≤ j) ∧ Below w0.heap.size w0 w
theorem own_after {w0 w w' : World} {g k : Nat} {l : List Int} (h : Own w0 w g k l) (hb : Below w.heap.size w w') : Own w0 w' g k l := by
  obtain ⟨r, h1, h2, h3, h4⟩ := h
  exact ⟨r, ctr_below h1 hb, h2, h3, below_after h4 hb⟩
theorem Own.bel {w0 w : World} {g k : Nat} {l : List Int} (h : Own w0 w g k l) : Below w0.heap.size w0 w := h.choose_spec.2.2.2

theorem add_own (w0 w : World) (g k : Nat) (l : List Int) (s : ByteArray) (hO : Own w0 w g k l) (hr : Rise l) (hk1 : 1 ≤ k) (hk2 : k ≤ 4096) (hs : s.size ≤ 140737488351232) :
    Calls Try.prog 18 #[.pointer (some ⟨g, 0, none⟩), .string s] w fun e w' => e = .returned (.bool (fresh l k (hashF s))) ∧ Own w0 w' g k (into l (hashF s)) := by
  have HO := Lib.hid hO
  have HR := Lib.hid hr
  clear hO hr
  go_enter Try.func18, Try.ntmps18
  go_wp2_with fail
  refine (hash_ok s hs _).mono ?_
  rintro e w1 ⟨rfl, hb⟩
  obtain ⟨r, hC, h1, h2, h3⟩ := own_after HO.out hb
  have HC := Lib.hid hC
  have H := Lib.hid (And.intro h1 (And.intro h2 h3))
  clear hC h1 h2 h3 hb
  go_wp2_with fail
  refine (put_ok g k l r (hashF s) _ HC.out HR.out hk1 hk2).mono ?_
  rintro e w2 ⟨rfl, r', hC', hloc, ht⟩
  have K : Hid (Own w0 w2 g k (into l (hashF s))) := by
    obtain ⟨h1, h2, h3⟩ := H.out
    refine ⟨r', hC', h1, fun j hj => ?_, h3.trans (ht.below h3.size ?_)⟩
    · rcases hloc with rfl | ⟨i, rfl, hi⟩
      · exact h2 j hj
      · have := h3.size; cases hj; omega
    · rintro i hi (rfl | rfl)
      · omega
      · have := h2 i rfl; omega
  clear hC' hloc ht
  go_wp2_with fail
  go_ret
  exact ⟨rfl, K.out⟩

def sizeK (k : Int) : Nat := (min (max k 1) 4096).toNat
theorem sizeK_range (k : Int) : 1 ≤ sizeK k ∧ sizeK k ≤ 4096 := by unfold sizeK; omega
theorem new_own (k : Int) (w : World) :
    Calls Try.prog 14 #[.int .i64 k] w fun e w' => e = .returned (.pointer (some ⟨w.heap.size, 0, none⟩)) ∧ Own w w' w.heap.size (sizeK k) [] := by
  have fin : ∀ K : Int, K = sizeK k → Own w (w.alloc (.cells #[.int .i64 K, .slice none 0 0, .bool false] 47)) w.heap.size (sizeK k) [] := fun K hK => by
    subst hK
    exact ⟨none, ⟨_, blk_new _ _, by simpa using World.ownsRow_nil _ _ _ _, rfl⟩, Nat.le_refl _, (fun j hj => by cases hj), below_al (Below.refl _ _) _⟩
  have hc : k < 1 ∨ (1 ≤ k ∧ k ≤ 4096) ∨ 4096 < k := by omega
  rcases hc with h | ⟨h, h2⟩ | h
  · have hF := Lib.hid (fin 1 (by unfold sizeK; omega))
    clear fin
    have m1 : max k 1 = 1 := by omega
    go_enter Try.func14, Try.ntmps14
    go_wp2_with fail
    go_ret
    exact ⟨rfl, hF.out⟩
  · have hF := Lib.hid (fin k (by unfold sizeK; omega))
    clear fin
    have m1 : max k 1 = k := by omega
    have m2 : min k 4096 = k := by omega
    go_enter Try.func14, Try.ntmps14
    go_wp2_with fail
    go_ret
    exact ⟨rfl, hF.out⟩
  · have hF := Lib.hid (fin 4096 (by unfold sizeK; omega))
    clear fin
    have m1 : max k 1 = k := by omega
    have m2 : min k 4096 = 4096 := by omega
    go_enter Try.func14, Try.ntmps14
    go_wp2_with fail
    go_ret
    exact ⟨rfl, hF.out⟩

theorem exact_ok (g k : Nat) (l : List Int) (r : Option Nat) (w : World) (hC : Cnt w g k l r) :
    Calls Try.prog 16 #[.pointer (some ⟨g, 0, none⟩)] w fun e w' => e = .returned (.bool (decide (l.length ≤ k))) ∧ Below w.heap.size w w' := by
  obtain ⟨S, hg, _, _⟩ := hC
  obtain ⟨a0, a1, a2, _, _⟩ := three_cells hg
  have e : decide (l.length ≤ k) = !decide (k < l.length) := by
    by_cases h : k < l.length
    · rw [decide_eq_true h, decide_eq_false (by omega)]; rfl
    · rw [decide_eq_false h, decide_eq_true (by omega)]; rfl
  rw [e]
  generalize decide (k < l.length) = m at *
  clear e hg
  go_enter Try.func16, Try.ntmps16
  go_wp2_with fail
  go_ret
  exact ⟨rfl, Below.refl _ _⟩

def leastN (l : List Int) (k : Nat) : Int := if k < l.length then (k : Int) + 1 else l.length
theorem least_ok (g k : Nat) (l : List Int) (r : Option Nat) (w : World) (hC : Cnt w g k l r) (hk : k ≤ 4096) :
    Calls Try.prog 17 #[.pointer (some ⟨g, 0, none⟩)] w fun e w' => e = .returned (.int .i64 (leastN l k)) ∧ Below w.heap.size w w' := by
  obtain ⟨S, hg, hS, _⟩ := hC
  unfold leastN
  by_cases h : k < l.length
  · rw [decide_eq_true h] at hg
    rw [if_pos h]
    obtain ⟨a0, a1, a2, _, _⟩ := three_cells hg
    clear hg hS h
    go_enter Try.func17, Try.ntmps17
    go_wp2_with fail
    go_ret
    exact ⟨rfl, Below.refl _ _⟩
  · rw [decide_eq_false h] at hg
    rw [if_neg h]
    have hl : (l.take k).length = l.length := by rw [List.length_take]; omega
    rw [hl] at hS
    obtain ⟨a0, a1, a2, _, _⟩ := three_cells hg
    rcases hS.2 with ⟨rfl, h0⟩ | ⟨ro, c, cur, rfl, _, _, _, _, _, _⟩
    · rw [h0]
      clear hg hS h hl h0
      go_enter Try.func17, Try.ntmps17
      go_wp2_with fail
      go_ret
      exact ⟨rfl, Below.refl _ _⟩
    · clear hg hS h hl
      go_enter Try.func17, Try.ntmps17
      go_wp2_with fail
      go_ret
      exact ⟨rfl, Below.refl _ _⟩

theorem count_exact (g k : Nat) (l : List Int) (r : Option Nat) (w : World) (hC : Cnt w g k l r) (h : l.length ≤ k) :
    Calls Try.prog 15 #[.pointer (some ⟨g, 0, none⟩)] w fun e w' => e = .returned (.int .i64 l.length) ∧ Below w.heap.size w w' := by
  obtain ⟨S, hg, hS, _⟩ := hC
  rw [decide_eq_false (by omega)] at hg
  have hl : (l.take k).length = l.length := by rw [List.length_take]; omega
  rw [hl] at hS
  obtain ⟨a0, a1, a2, _, _⟩ := three_cells hg
  rcases hS.2 with ⟨rfl, h0⟩ | ⟨ro, c, cur, rfl, _, _, _, _, _, _⟩
  · rw [h0]
    clear hg hS h hl h0
    go_enter Try.func15, Try.ntmps15
    go_wp2_with fail
    go_ret
    exact ⟨rfl, Below.refl _ _⟩
  · clear hg hS h hl
    go_enter Try.func15, Try.ntmps15
    go_wp2_with fail
    go_ret
    exact ⟨rfl, Below.refl _ _⟩
end Go.Proofs.Ytlbpdlhelkokbaa
