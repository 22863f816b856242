/- Plain: the document's answers on names, makers, tags and labels are ours. -/
import Derived.Test.YtkhjnbjmbmacjaaDoorNK
import Derived.Test.YtkhjnbjmbmacjaaDoorKA
namespace Go.Proofs.YtkhjnbjmbmacjaaDoor
open Go Go.RowKit Go.Proofs.YtkhjnbjmbmacjaaDoorW.PrintWords

theorem w64 {n : Int} (h0 : -9223372036854775808 ≤ n) (h1 : n ≤ 9223372036854775807) : wrap64 n = n := by unfold wrap64; omega
theorem bt_byte {s : ByteArray} {i : Nat} (h : i < s.size) : bt s (i : Int) = ((s.data.toList[i]'(by rw [Array.length_toList]; exact h)).toNat : Int) := by
  unfold bt
  rw [dif_pos (by simpa using h)]
  simp only [Int.toNat_natCast, Array.getElem_toList]
  rfl
theorem okR_cases (c : Nat) (X : Option Bool) : (if (c : Int) ≥ 97 then (if (c : Int) ≤ 122 then X else (if (c : Int) ≥ 48 then (if (c : Int) ≤ 57 then X else (if (c : Int) = 45 then X else (some false))) else (if (c : Int) = 45 then X else (some false)))) else (if (c : Int) ≥ 48 then (if (c : Int) ≤ 57 then X else (if (c : Int) = 45 then X else (some false))) else (if (c : Int) = 45 then X else (some false)))) = if okR c = true then X else some false := by
  have hc : c < 45 ∨ c = 45 ∨ (45 < c ∧ c < 48) ∨ (48 ≤ c ∧ c ≤ 57) ∨ (57 < c ∧ c < 97) ∨ (97 ≤ c ∧ c ≤ 122) ∨ 122 < c := by omega
  rcases hc with h | h | h | h | h | h | h
  · have e : okR c = false := by unfold okR; simp; omega
    rw [e, if_neg (by omega), if_neg (by omega), if_neg (by omega)]; rfl
  · have e : okR c = true := by unfold okR; simp; omega
    rw [e, if_neg (by omega), if_neg (by omega), if_pos (by omega)]; rfl
  · have e : okR c = false := by unfold okR; simp; omega
    rw [e, if_neg (by omega), if_neg (by omega), if_neg (by omega)]; rfl
  · have e : okR c = true := by unfold okR; simp; omega
    rw [e, if_neg (by omega), if_pos (by omega), if_pos (by omega)]; rfl
  · have e : okR c = false := by unfold okR; simp; omega
    rw [e, if_neg (by omega), if_pos (by omega), if_neg (by omega), if_neg (by omega)]; rfl
  · have e : okR c = true := by unfold okR; simp; omega
    rw [e, if_pos (by omega), if_pos (by omega)]; rfl
  · have e : okR c = false := by unfold okR; simp; omega
    rw [e, if_pos (by omega), if_neg (by omega), if_pos (by omega), if_neg (by omega), if_neg (by omega)]; rfl
theorem refName_l (s : ByteArray) (hs : s.size ≤ 4000000000) : ∀ (f k i : Nat), s.size ≤ f + i → f + 1 ≤ k → i ≤ s.size → KA.ciceroneref02_Name.l0 k s i = some ((s.data.toList.drop i).all (fun b => okR b.toNat))
  | f, 0, i, _, hk, _ => by omega
  | f, k + 1, i, h, hk, hi => by
    unfold KA.ciceroneref02_Name.l0
    by_cases hlt : i < s.size
    · rw [if_pos (by omega), if_pos (by omega), bt_byte hlt, okR_cases]
      obtain ⟨f', rfl⟩ : ∃ f', f = f' + 1 := ⟨f - 1, by omega⟩
      have ih := refName_l s hs f' k (i + 1) (by omega) (by omega) (by omega)
      have e : wrap64 ((i : Int) + 1) = ((i + 1 : Nat) : Int) := by rw [w64 (by omega) (by omega)]; rfl
      have hd : s.data.toList.drop i = s.data.toList[i]'(by rw [Array.length_toList]; exact hlt) :: s.data.toList.drop (i + 1) := List.drop_eq_getElem_cons (by rw [Array.length_toList]; exact hlt)
      rw [e, ih, hd, List.all_cons]
      split
      · rename_i h1; rw [h1, Bool.true_and]
      · rename_i h1
        rw [Bool.not_eq_true] at h1
        rw [h1, Bool.false_and]
    · rw [if_neg (by omega), List.drop_eq_nil_of_le (by rw [Array.length_toList]; exact Nat.le_of_not_lt hlt)]
      rfl
theorem refName_eq (s : ByteArray) (hs : s.size ≤ 4000000000) (k : Nat) (hk : s.size + 3 ≤ k) : KA.ciceroneref02_Name.f k s = some (nameB s) := by
  obtain ⟨k, rfl⟩ : ∃ j, k = j + 1 := ⟨k - 1, by omega⟩
  unfold KA.ciceroneref02_Name.f nameB
  by_cases h1 : s.size < 1
  · rw [if_pos (by omega), decide_eq_false (by omega)]
    simp [KA.ciceroneref02_Name.j0]
  · rw [if_neg (by omega), KA.ciceroneref02_Name.j0]
    by_cases h2 : 24 < s.size
    · rw [if_pos (by simp; omega), decide_eq_true (show 1 ≤ s.size by omega), decide_eq_false (show ¬ s.size ≤ 24 by omega)]; rfl
    · rw [if_neg (by simp; omega), decide_eq_true (show 1 ≤ s.size by omega), decide_eq_true (show s.size ≤ 24 by omega)]
      have := refName_l s hs s.size k 0 (by omega) (by omega) (by omega)
      simpa using this
theorem refName_ok (s : ByteArray) (w : World) (hs : s.size ≤ 4000000000) : Calls Tryd.prog 18 #[.string s] w fun e w' => e = .returned (.bool (nameB s)) ∧ Below w.heap.size w w' :=
  (KA.ciceroneref02_Name.calls (s.size + 3) s _ w (refName_eq s hs _ (Nat.le_refl _))).mono fun _ _ ⟨h1, h2⟩ => ⟨h1, by obtain ⟨n, rfl⟩ := h2; exact below_drN (Below.refl _ _) n⟩

/-- where a sign stands from i on -/
def idxFrom (c : UInt8) (l : List UInt8) (i : Nat) : Int := if Lib.index (l.drop i) [c] = -1 then -1 else Lib.index (l.drop i) [c] + i
theorem idxFrom_next (c : UInt8) (l : List UInt8) (i : Nat) (h : i < l.length) : idxFrom c l i = if l[i] = c then (i : Int) else idxFrom c l (i + 1) := by
  unfold idxFrom
  rw [List.drop_eq_getElem_cons h, index_cons]
  by_cases h1 : l[i] = c
  · rw [if_pos h1, if_pos h1, if_neg (by decide)]; omega
  · rw [if_neg h1, if_neg h1]
    by_cases h2 : Lib.index (l.drop (i + 1)) [c] = -1
    · rw [if_pos h2, if_pos h2]; rfl
    · have := Lib.index_ge (l.drop (i + 1)) [c]
      rw [if_neg h2, if_neg h2, if_neg (by omega)]; omega
theorem byte_eq {b c : UInt8} : ((b.toNat : Int) = (c.toNat : Int)) ↔ b = c := by
  constructor
  · intro h; exact UInt8.toNat_inj.1 (by omega)
  · rintro rfl; rfl
theorem refPlace_l (s : ByteArray) (hs : s.size ≤ 4000000000) : ∀ (f k i : Nat), s.size ≤ f + i → f + 1 ≤ k → i ≤ s.size → KA.ciceroneref02_place.l0 k s i = some (idxFrom 59 s.data.toList i)
  | f, 0, i, _, hk, _ => by omega
  | f, k + 1, i, h, hk, hi => by
    unfold KA.ciceroneref02_place.l0
    by_cases hlt : i < s.size
    · have hlt' : i < s.data.toList.length := by rw [Array.length_toList]; exact hlt
      rw [if_pos (by omega), if_pos (by omega), bt_byte hlt]
      obtain ⟨f', rfl⟩ : ∃ f', f = f' + 1 := ⟨f - 1, by omega⟩
      have ih := refPlace_l s hs f' k (i + 1) (by omega) (by omega) (by omega)
      have e : wrap64 ((i : Int) + 1) = ((i + 1 : Nat) : Int) := by rw [w64 (by omega) (by omega)]; rfl
      rw [e, ih, idxFrom_next 59 _ i hlt']
      have hb := @byte_eq (s.data.toList[i]) 59
      have h59 : (((59 : UInt8).toNat : Nat) : Int) = 59 := rfl
      rw [h59] at hb
      by_cases h1 : s.data.toList[i] = 59
      · rw [if_pos h1, if_pos (hb.2 h1)]
      · rw [if_neg h1, if_neg (fun h2 => h1 (hb.1 h2))]
    · rw [if_neg (by omega)]
      unfold idxFrom
      rw [List.drop_eq_nil_of_le (by rw [Array.length_toList]; exact Nat.le_of_not_lt hlt), index_nil, if_pos rfl]
theorem refPlace_eq (s : ByteArray) (hs : s.size ≤ 4000000000) (k : Nat) (hk : s.size + 1 ≤ k) : KA.ciceroneref02_place.f k s = some (Lib.index s.data.toList [59]) := by
  unfold KA.ciceroneref02_place.f
  have := refPlace_l s hs s.size k 0 (by omega) (by omega) (by omega)
  rw [show ((0 : Nat) : Int) = 0 from rfl] at this
  rw [this]
  unfold idxFrom
  rw [List.drop_zero]
  split
  · rename_i h; rw [h]
  · simp
/-- what stands ahead of the first sign -/
def makerB (s : ByteArray) : ByteArray := ⟨(Lib.cut s.data.toList [59]).1.toArray⟩
theorem extract_take (s : ByteArray) (i : Nat) : s.extract 0 i = ⟨(s.data.toList.take i).toArray⟩ := by
  apply ByteArray.ext
  rw [ByteArray.data_extract]
  apply Array.ext'
  simp
theorem index_cases (c : UInt8) (s : ByteArray) : Lib.index s.data.toList [c] = -1 ∨ ∃ i : Nat, Lib.index s.data.toList [c] = i ∧ i < s.size := by
  rcases index_count c s.data.toList with ⟨h, _⟩ | ⟨i, h1, h2, _⟩
  · exact .inl h
  · rw [Array.length_toList] at h2
    exact .inr ⟨i, h1, h2⟩
theorem refMaker_eq (s : ByteArray) (hs : s.size ≤ 4000000000) (k : Nat) (hk : s.size + 1 ≤ k) : KA.ciceroneref02_Maker.f k s = some (makerB s) := by
  unfold KA.ciceroneref02_Maker.f
  rw [refPlace_eq s hs k hk, Option.bind_some]
  unfold makerB Lib.cut
  rcases index_cases 59 s with h | ⟨i, h, hi⟩
  · rw [h, if_neg (by decide), if_neg (by decide)]
  · rw [h, if_pos (by omega), if_pos (by omega), if_pos (by omega), if_pos (by omega)]
    simp only [Int.toNat_natCast]
    rw [extract_take]
theorem refMaker_ok (s : ByteArray) (w : World) (hs : s.size ≤ 4000000000) : Calls Tryd.prog 23 #[.string s] w fun e w' => e = .returned (.string (makerB s)) ∧ Below w.heap.size w w' :=
  (KA.ciceroneref02_Maker.calls (s.size + 1) s _ w (refMaker_eq s hs _ (Nat.le_refl _))).mono fun _ _ ⟨h1, h2⟩ => ⟨h1, by obtain ⟨n, rfl⟩ := h2; exact below_drN (Below.refl _ _) n⟩
end Go.Proofs.YtkhjnbjmbmacjaaDoor
