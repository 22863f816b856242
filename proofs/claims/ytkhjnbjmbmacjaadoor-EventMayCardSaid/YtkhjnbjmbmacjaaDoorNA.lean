/- event.Name and the document's: what a text must be. -/
import Derived.Test.YtkhjnbjmbmacjaaDoorShelf
import Derived.Test.YtkhjnbjmbmacjaaDoorRA
import Derived.Laws.RangeAny
import Derived.Laws.RangeString
namespace Go.Proofs.YtkhjnbjmbmacjaaDoor
open Go Go.RowKit

def okR (c : Nat) : Bool := decide (97 ≤ c) && decide (c ≤ 122) || decide (48 ≤ c) && decide (c ≤ 57) || decide (c = 45)
theorem odd_pays (w : World) : PredAtRunes Tryd.prog 48 #[] (fun c => !okR c) w := fun W x hx hb => by
  show Calls Tryd.prog 48 #[.int .i32 x] W fun e w' => e = .returned (.bool (!okR x)) ∧ ∃ q, w' = W.drewN q
  have hc : x < 45 ∨ x = 45 ∨ (45 < x ∧ x < 48) ∨ (48 ≤ x ∧ x ≤ 57) ∨ (57 < x ∧ x < 97) ∨ (97 ≤ x ∧ x ≤ 122) ∨ 122 < x := by omega
  rcases hc with h | h | h | h | h | h | h
  · have e : (!okR x) = true := by unfold okR; simp; omega
    have h45 : ((x : Int) == 45) = false := by simp; omega
    rw [e]
    go_enter Tryd.func48, Tryd.ntmps48
    go_wp2
    go_ret
    exact ⟨by first | rfl | (simp; done) | (simp; omega), 0, rfl⟩
  · have e : (!okR x) = false := by unfold okR; simp; omega
    have h45 : ((x : Int) == 45) = true := by simp; omega
    rw [e]
    go_enter Tryd.func48, Tryd.ntmps48
    go_wp2
    go_ret
    exact ⟨by first | rfl | (simp; done) | (simp; omega), 0, rfl⟩
  · have e : (!okR x) = true := by unfold okR; simp; omega
    have h45 : ((x : Int) == 45) = false := by simp; omega
    rw [e]
    go_enter Tryd.func48, Tryd.ntmps48
    go_wp2
    go_ret
    exact ⟨by first | rfl | (simp; done) | (simp; omega), 0, rfl⟩
  · have e : (!okR x) = false := by unfold okR; simp; omega
    have h45 : ((x : Int) == 45) = false := by simp; omega
    rw [e]
    go_enter Tryd.func48, Tryd.ntmps48
    go_wp2
    go_ret
    exact ⟨by first | rfl | (simp; done) | (simp; omega), 0, rfl⟩
  · have e : (!okR x) = true := by unfold okR; simp; omega
    have h45 : ((x : Int) == 45) = false := by simp; omega
    rw [e]
    go_enter Tryd.func48, Tryd.ntmps48
    go_wp2
    go_ret
    exact ⟨by first | rfl | (simp; done) | (simp; omega), 0, rfl⟩
  · have e : (!okR x) = false := by unfold okR; simp; omega
    have h45 : ((x : Int) == 45) = false := by simp; omega
    rw [e]
    go_enter Tryd.func48, Tryd.ntmps48
    go_wp2
    go_ret
    exact ⟨by first | rfl | (simp; done) | (simp; omega), 0, rfl⟩
  · have e : (!okR x) = true := by unfold okR; simp; omega
    have h45 : ((x : Int) == 45) = false := by simp; omega
    rw [e]
    go_enter Tryd.func48, Tryd.ntmps48
    go_wp2
    go_ret
    exact ⟨by first | rfl | (simp; done) | (simp; omega), 0, rfl⟩

def nameF (s : ByteArray) : Bool := decide (1 ≤ s.size) && decide (s.size ≤ 24) && !decide (0 ≤ Lib.idxFunc (fun c => !okR c) true s)
theorem name_idx (s : ByteArray) (w : World) (hs : s.size ≤ 9223372036854775807) :
    Calls Tryd.prog 17 #[.string s] w fun e w' => e = .returned (.bool (nameF s)) ∧ Below w.heap.size w w' := by
  have C := Lib.hid (fun (W : World) (hb : Below w.heap.size w W) => Tryd.strings_ContainsFunc_runes 48 #[] (enters_of Tryd.func48 (by kernel_rfl) rfl) (fun c => !okR c) s W (odd_pays W))
  unfold nameF
  have hc : s.size < 1 ∨ (1 ≤ s.size ∧ s.size ≤ 24) ∨ 24 < s.size := by omega
  rcases hc with h | h | h
  · rw [decide_eq_false (show ¬ 1 ≤ s.size by omega)]
    go_enter Tryd.func17, Tryd.ntmps17
    go_wp2_with fail
    go_ret
    exact ⟨rfl, Below.refl _ _⟩
  · rw [decide_eq_true h.1, decide_eq_true h.2]
    generalize decide (0 ≤ Lib.idxFunc (fun c => !okR c) true s) = m at *
    go_enter Tryd.func17, Tryd.ntmps17
    go_wp2_with fail
    refine (C.out _ (Below.refl _ _)).mono ?_
    rintro e w1 ⟨rfl, hb⟩
    have K := Lib.hid hb
    clear hb
    go_wp2_with fail
    go_ret
    exact ⟨rfl, K.out⟩
  · rw [decide_eq_true (show 1 ≤ s.size by omega), decide_eq_false (show ¬ s.size ≤ 24 by omega)]
    go_enter Tryd.func17, Tryd.ntmps17
    go_wp2_with fail
    go_ret
    exact ⟨rfl, Below.refl _ _⟩

theorem idx_bytes (s : ByteArray) : ∀ (f pos : Nat), s.size ≤ f + pos → (0 ≤ Lib.idxFuncFrom (fun c => !okR c) true s f pos ↔ ∃ (i : Nat) (hi : i < s.size), pos ≤ i ∧ okR (s[i]'hi).toNat = false) := by
  intro f
  induction f with
  | zero =>
    intro pos h
    constructor
    · intro h1
      have : Lib.idxFuncFrom (fun c => !okR c) true s 0 pos = -1 := rfl
      omega
    · rintro ⟨i, hi, h1, _⟩
      omega
  | succ f ih =>
    intro pos h
    unfold Lib.idxFuncFrom
    by_cases hp : pos < s.size
    · rw [if_pos hp]
      by_cases ha : (s[pos]'hp).toNat < 128
      · rw [decode_ascii s pos hp ha]
        by_cases ho : okR (s[pos]'hp).toNat = true
        · rw [if_neg (by simp [ho]), ih (pos + 1) (by omega)]
          constructor
          · rintro ⟨i, hi, h1, h2⟩
            exact ⟨i, hi, by omega, h2⟩
          · rintro ⟨i, hi, h1, h2⟩
            refine ⟨i, hi, ?_, h2⟩
            rcases Nat.lt_or_ge pos i with h3 | h3
            · exact h3
            · obtain rfl : i = pos := by omega
              rw [ho] at h2
              cases h2
        · have ho' : okR (s[pos]'hp).toNat = false := by simpa using ho
          rw [if_pos (by simp [ho'])]
          exact ⟨fun _ => ⟨pos, hp, Nat.le_refl _, ho'⟩, fun _ => by omega⟩
      · have hd := (decode_high s pos hp (by omega)).1
        have e1 : ∀ c, 128 ≤ c → okR c = false := fun c hc => by
          unfold okR
          rw [decide_eq_false (show ¬ c ≤ 122 by omega), decide_eq_false (show ¬ c ≤ 57 by omega), decide_eq_false (show ¬ c = 45 by omega)]
          simp
        rw [if_pos (by simp [e1 _ hd])]
        exact ⟨fun _ => ⟨pos, hp, Nat.le_refl _, e1 _ (by omega)⟩, fun _ => by omega⟩
    · rw [if_neg hp]
      constructor
      · intro h1
        omega
      · rintro ⟨i, hi, h1, _⟩
        omega

def nameB (s : ByteArray) : Bool := decide (1 ≤ s.size) && decide (s.size ≤ 24) && s.data.toList.all (fun b => okR b.toNat)
theorem nameF_eq (s : ByteArray) : nameF s = nameB s := by
  unfold nameF nameB
  congr 1
  have h := idx_bytes s s.size 0 (by omega)
  by_cases hx : 0 ≤ Lib.idxFunc (fun c => !okR c) true s
  · rw [decide_eq_true hx]
    obtain ⟨i, hi, _, h2⟩ := h.1 hx
    symm
    rw [Bool.not_true, List.all_eq_false]
    exact ⟨s[i]'hi, by rw [← Array.mem_def]; exact Array.getElem_mem _, by rw [h2]; simp⟩
  · rw [decide_eq_false hx]
    symm
    rw [Bool.not_false, List.all_eq_true]
    intro b hb
    obtain ⟨i, hi⟩ := List.getElem?_of_mem hb
    obtain ⟨h1, h2⟩ := List.getElem?_eq_some_iff.1 hi
    by_cases ho : okR b.toNat = true
    · exact ho
    · refine absurd (h.2 ⟨i, by simpa using h1, Nat.zero_le _, ?_⟩) hx
      have e : s[i]'(by simpa using h1) = b := by rw [← h2]; rfl
      rw [e]
      simpa using ho
theorem name_ok (s : ByteArray) (w : World) (hs : s.size ≤ 9223372036854775807) :
    Calls Tryd.prog 17 #[.string s] w fun e w' => e = .returned (.bool (nameB s)) ∧ Below w.heap.size w w' := by
  rw [← nameF_eq]; exact name_idx s w hs
end Go.Proofs.YtkhjnbjmbmacjaaDoor
