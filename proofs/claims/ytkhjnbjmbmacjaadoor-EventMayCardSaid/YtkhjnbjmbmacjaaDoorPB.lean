/- Plain: the document's parts of a text, tags, label. -/
import Derived.Test.YtkhjnbjmbmacjaaDoorPA
namespace Go.Proofs.YtkhjnbjmbmacjaaDoor
open Go Go.RowKit Go.Proofs.YtkhjnbjmbmacjaaDoorW.PrintWords

def mkB (l : List UInt8) : ByteArray := ⟨l.toArray⟩
theorem mkB_data (s : ByteArray) : mkB s.data.toList = s := rfl
theorem mkB_size (l : List UInt8) : (mkB l).size = l.length := by simp [mkB, ByteArray.size]
theorem spl_mk (c : UInt8) (s : ByteArray) : spl c s = (parL c s.data.toList).map mkB := by
  rw [← spl_par, List.map_map]
  exact (List.map_id _).symm
/-- the parts of what is left, behind what the part under way has -/
def parFrom (c : UInt8) (pre rest : List UInt8) : List (List UInt8) := match parL c rest with
  | [] => [pre]
  | x :: r => (pre ++ x) :: r
theorem parFrom_nil (c : UInt8) (pre : List UInt8) : parFrom c pre [] = [pre] := by simp [parFrom, parL]
theorem parFrom_zero (c : UInt8) (l : List UInt8) : parFrom c [] l = parL c l := by
  unfold parFrom
  cases h : parL c l with
  | nil => exact absurd h (parL_ne c l)
  | cons x r => rfl
theorem parFrom_hit (c : UInt8) (pre l : List UInt8) : parFrom c pre (c :: l) = pre :: parL c l := by
  simp [parFrom, parL]
theorem parFrom_miss {c b : UInt8} (h : b ≠ c) (pre l : List UInt8) : parFrom c pre (b :: l) = parFrom c (pre ++ [b]) l := by
  unfold parFrom
  rw [parL, if_neg h]
  cases h2 : parL c l with
  | nil => exact absurd h2 (parL_ne c l)
  | cons x r => simp
theorem extract_mk (s : ByteArray) (a b : Nat) : s.extract a b = mkB ((s.data.toList.drop a).take (b - a)) := by
  apply ByteArray.ext
  rw [ByteArray.data_extract]
  apply Array.ext'
  simp [mkB, List.extract]
theorem take_next {l : List UInt8} {f i : Nat} (hf : f ≤ i) (hi : i < l.length) : (l.drop f).take (i + 1 - f) = (l.drop f).take (i - f) ++ [l[i]] := by
  rw [show i + 1 - f = i - f + 1 by omega, List.take_succ_eq_append_getElem (by rw [List.length_drop]; omega)]
  congr 2
  rw [List.getElem_drop]
  congr 1
  omega
theorem refParts_l (s : ByteArray) (c : UInt8) (hs : s.size ≤ 4000000000) : ∀ (F k f i : Nat) (out : List ByteArray), s.size ≤ F + i → F + 2 ≤ k → i ≤ s.size → f ≤ i → out.length ≤ i →
    KA.ciceroneref02_Parts.l0 k s (c.toNat : Int) out f i = some (out ++ (parFrom c ((s.data.toList.drop f).take (i - f)) (s.data.toList.drop i)).map mkB)
  | F, 0, _, _, _, _, hk, _, _, _ => by omega
  | F, k + 1, f, i, out, h, hk, hi, hf, ho => by
    have hl : s.data.toList.length = s.size := by rw [Array.length_toList]; rfl
    unfold KA.ciceroneref02_Parts.l0
    have e : wrap64 ((i : Int) + 1) = ((i + 1 : Nat) : Int) := by rw [w64 (by omega) (by omega)]; rfl
    rw [if_pos (by omega)]
    by_cases hlt : i < s.size
    · rw [if_neg (by omega), if_pos (by omega), if_pos (by omega), bt_byte hlt]
      obtain ⟨F', rfl⟩ : ∃ F', F = F' + 1 := ⟨F - 1, by omega⟩
      have hd : s.data.toList.drop i = s.data.toList[i] :: s.data.toList.drop (i + 1) := List.drop_eq_getElem_cons (by omega)
      by_cases h1 : s.data.toList[i] = c
      · rw [if_pos (byte_eq.2 h1), if_pos (by omega), if_pos (by omega), if_pos (by omega), e]
        have ih := refParts_l s c hs F' k (i + 1) (i + 1) (out ++ [s.extract f i]) (by omega) (by omega) (by omega) (by omega) (by simp; omega)
        simp only [Int.toNat_natCast]
        rw [ih, hd, h1, parFrom_hit, Nat.sub_self, List.take_zero, parFrom_zero, extract_mk]
        simp
      · rw [if_neg (fun h2 => h1 (byte_eq.1 h2)), e]
        have ih := refParts_l s c hs F' k f (i + 1) out (by omega) (by omega) (by omega) (by omega) (by omega)
        rw [ih, hd, parFrom_miss h1, take_next hf (by omega)]
    · have hi2 : i = s.size := by omega
      rw [if_pos (by omega), if_pos (by omega), if_pos (by omega), if_pos (by omega), e]
      obtain ⟨k', rfl⟩ : ∃ k', k = k' + 1 := ⟨k - 1, by omega⟩
      unfold KA.ciceroneref02_Parts.l0
      have hn : s.data.toList.drop i = [] := List.drop_eq_nil_of_le (by omega)
      rw [if_neg (by omega), hn, parFrom_nil]
      simp only [Int.toNat_natCast]
      rw [extract_mk]
      rfl
theorem refParts_eq (s : ByteArray) (c : UInt8) (hs : s.size ≤ 4000000000) (k : Nat) (hk : s.size + 2 ≤ k) : KA.ciceroneref02_Parts.f k s (c.toNat : Int) = some ((parL c s.data.toList).map mkB) := by
  have := refParts_l s c hs s.size k 0 0 [] (by omega) (by omega) (by omega) (by omega) (by simp)
  unfold KA.ciceroneref02_Parts.f
  rw [show ((0 : Nat) : Int) = 0 from rfl] at this
  rw [this, List.drop_zero, Nat.sub_self, List.take_zero, parFrom_zero, List.nil_append]
/-- what stands behind the first sign, parted -/
def tagsB (s : ByteArray) : List ByteArray := if (Lib.cut s.data.toList [59]).2.1 = [] then [] else spl 44 ⟨(Lib.cut s.data.toList [59]).2.1.toArray⟩
theorem cut_none {l : List UInt8} {c : UInt8} (h : Lib.index l [c] = -1) : Lib.cut l [c] = (l, [], false) := by
  unfold Lib.cut; rw [h, if_neg (by decide)]
theorem cut_some {l : List UInt8} {c : UInt8} {i : Nat} (h : Lib.index l [c] = i) : Lib.cut l [c] = (l.take i, l.drop (i + 1), true) := by
  unfold Lib.cut; rw [h, if_pos (by omega)]; rfl
theorem refTags_eq (s : ByteArray) (hs : s.size ≤ 4000000000) (k : Nat) (hk : s.size + 2 ≤ k) : KA.ciceroneref02_Tags.f k s = some (tagsB s) := by
  have hl : s.data.toList.length = s.size := by rw [Array.length_toList]; rfl
  unfold KA.ciceroneref02_Tags.f
  rw [refPlace_eq s hs k (by omega), Option.bind_some]
  rcases index_cases 59 s with h | ⟨i, h, hi⟩
  · have ht : tagsB s = [] := by unfold tagsB; rw [cut_none h, if_pos rfl]
    rw [h, if_pos (by decide), ht]
  · have ht : tagsB s = if s.data.toList.drop (i + 1) = [] then [] else spl 44 (mkB (s.data.toList.drop (i + 1))) := by unfold tagsB; rw [cut_some h]; rfl
    rw [h, ht, if_neg (by omega)]
    have e : wrap64 ((i : Int) + 1) = ((i + 1 : Nat) : Int) := by rw [w64 (by omega) (by omega)]; rfl
    rw [w64 (n := (s.size : Int) - 1) (by omega) (by omega), e]
    by_cases h2 : i + 1 = s.size
    · have hn : s.data.toList.drop (i + 1) = [] := List.drop_eq_nil_of_le (by omega)
      rw [if_pos (by omega), hn, if_pos rfl]
    · have hne : s.data.toList.drop (i + 1) ≠ [] := by
        intro h3
        have := congrArg List.length h3
        rw [List.length_drop, hl, List.length_nil] at this
        omega
      have he : s.extract (i + 1) s.size = mkB (s.data.toList.drop (i + 1)) := by
        rw [extract_mk, List.take_of_length_le (by rw [List.length_drop, hl]; omega)]
      have hp := refParts_eq (mkB (s.data.toList.drop (i + 1))) 44 (by rw [mkB_size, List.length_drop]; omega) k (by rw [mkB_size, List.length_drop]; omega)
      rw [show (((44 : UInt8).toNat : Nat) : Int) = 44 from rfl] at hp
      rw [if_neg (by omega), if_pos (by omega), if_pos (by omega), if_neg hne, Int.toNat_natCast, he, hp, Option.bind_some, spl_mk]
theorem rdOf_at {L : List ByteArray} {i : Nat} {t : ByteArray} (h : L[i]? = some t) : rdOf ByteArray.empty L (i : Int) = t := by
  unfold rdOf
  rw [Int.toNat_natCast, List.getD_eq_getElem?_getD, h]
  rfl
theorem tagsF_cons (p : Option ByteArray) (t : ByteArray) (r : List ByteArray) : tagsF p (t :: r) = ((nameB t && aheadB p t) && tagsF (some t) r) := rfl
theorem refLabel_l (L : List ByteArray) (M : Nat) (hM : M ≤ 4000000000) (hL : L.length ≤ 4000000001) (hm : ∀ t ∈ L, t.size ≤ M) : ∀ (F k i : Nat), L.length ≤ F + i → F + M + 4 ≤ k → i ≤ L.length →
    KA.ciceroneref02_Label.l0 k L i = some (tagsF (prv L i) (L.drop i) && decide (L.length ≤ 8))
  | F, 0, _, _, hk, _ => by omega
  | F, k + 1, i, h, hk, hi => by
    unfold KA.ciceroneref02_Label.l0
    by_cases hlt : i < L.length
    · obtain ⟨t, ht⟩ : ∃ t, L[i]? = some t := ⟨_, List.getElem?_eq_getElem hlt⟩
      have htm := hm t (List.mem_of_getElem? ht)
      have hd : L.drop i = t :: L.drop (i + 1) := by
        rw [List.drop_eq_getElem_cons hlt]
        rw [List.getElem?_eq_getElem hlt] at ht
        rw [Option.some.inj ht]
      obtain ⟨F', rfl⟩ : ∃ F', F = F' + 1 := ⟨F - 1, by omega⟩
      have ih := refLabel_l L M hM hL hm F' k (i + 1) (by omega) (by omega) (by omega)
      have e : wrap64 ((i : Int) + 1) = ((i + 1 : Nat) : Int) := by rw [w64 (by omega) (by omega)]; rfl
      have hp : prv L (i + 1) = some t := by unfold prv; rw [if_neg (by omega)]; exact ht
      rw [if_pos (by omega), if_pos (by omega), rdOf_at ht, refName_eq t (by omega) k (by omega), Option.bind_some, hd, e, ih, hp, tagsF_cons]
      by_cases hn : nameB t = true
      · rw [if_pos hn, hn, Bool.true_and]
        by_cases h0 : i = 0
        · rw [if_neg (by omega)]
          have : prv L i = none := by unfold prv; rw [if_pos h0]
          rw [this, show aheadB none t = true from rfl, Bool.true_and]
        · obtain ⟨j, rfl⟩ : ∃ j, i = j + 1 := ⟨i - 1, by omega⟩
          obtain ⟨q, hq⟩ : ∃ q, L[j]? = some q := ⟨_, List.getElem?_eq_getElem (by omega)⟩
          have e1 : wrap64 (((j + 1 : Nat) : Int) - 1) = (j : Int) := by rw [w64 (by omega) (by omega)]; omega
          have hq2 : prv L (j + 1) = some q := by unfold prv; rw [if_neg (by omega)]; exact hq
          rw [if_pos (by omega), e1, if_pos (by omega), if_pos (by omega), rdOf_at hq, hq2]
          rw [show aheadB (some q) t = Op.bytesLess q.data.toList t.data.toList from rfl]
          rw [ByteArray.toList_eq, ByteArray.toList_eq]
          by_cases hb : Op.bytesLess q.data.toList t.data.toList = true
          · rw [if_pos hb, hb, Bool.true_and]
          · rw [if_neg hb]
            rw [Bool.not_eq_true] at hb
            rw [hb, Bool.false_and, Bool.false_and]
      · rw [if_neg hn]
        rw [Bool.not_eq_true] at hn
        rw [hn, Bool.false_and, Bool.false_and, Bool.false_and]
    · rw [if_neg (by omega), List.drop_eq_nil_of_le (by omega)]
      cases prv L i <;> simp [tagsF] <;> omega
theorem refLabel_eq (s : ByteArray) (hs : s.size ≤ 4000000000) (k : Nat) (hk : 2 * s.size + 20 ≤ k) : KA.ciceroneref02_Label.f k s = some (goodsF s) := by
  obtain ⟨k', rfl⟩ : ∃ k', k = k' + 1 := ⟨k - 1, by omega⟩
  have hmk : (makerB s).size ≤ s.size := by
    unfold makerB
    have := (cut_size s.data.toList [59]).1
    rw [Array.length_toList] at this
    show (mkB _).size ≤ _
    rw [mkB_size]
    exact this
  unfold KA.ciceroneref02_Label.f goodsF
  rw [refPlace_eq s hs _ (by omega), Option.bind_some]
  by_cases h0 : Lib.index s.data.toList [59] < 0
  · rw [if_pos h0]
    have : (Lib.cut s.data.toList [59]).2.2 = false := by unfold Lib.cut; rw [if_neg (by omega)]
    rw [this]
    unfold KA.ciceroneref02_Label.j0
    rfl
  · have hc : (Lib.cut s.data.toList [59]).2.2 = true := by unfold Lib.cut; rw [if_pos (by omega)]
    rw [if_neg h0, refMaker_eq s hs _ (by omega), Option.bind_some, refName_eq (makerB s) (by omega) _ (by omega), Option.bind_some, hc, if_pos rfl]
    unfold KA.ciceroneref02_Label.j0
    change (if (!nameB (makerB s)) = true then some false else _) = some (if nameB (makerB s) = true then _ else false)
    by_cases hn : nameB (makerB s) = true
    · rw [hn, if_neg (by decide), if_pos rfl, refTags_eq s hs _ (by omega), Option.bind_some]
      have hlen : (tagsB s).length ≤ s.size + 1 ∧ ∀ t ∈ tagsB s, t.size ≤ s.size := by
        unfold tagsB
        have hcs := (cut_size s.data.toList [59]).2
        rw [Array.length_toList] at hcs
        have hz : s.data.size = s.size := rfl
        rw [hz] at hcs
        have hbs : (⟨(Lib.cut s.data.toList [59]).2.1.toArray⟩ : ByteArray).size ≤ s.size := by show (mkB _).size ≤ _; rw [mkB_size]; exact hcs
        split
        · exact ⟨by simp, fun t ht => by cases ht⟩
        · refine ⟨Nat.le_trans (spl_le _ _) (by omega), fun t ht => ?_⟩
          obtain ⟨j, hj⟩ := List.getElem?_of_mem ht
          exact Nat.le_trans (spl_mem hj) hbs
      have := refLabel_l (tagsB s) s.size hs (by omega) hlen.2 (tagsB s).length k' 0 (by omega) (by omega) (by omega)
      rw [show ((0 : Nat) : Int) = 0 from rfl] at this
      rw [this, List.drop_zero]
      unfold prv
      rw [if_pos rfl]
      unfold tagsB
      split
      · rfl
      · rfl
    · rw [if_neg hn]
      rw [Bool.not_eq_true] at hn
      rw [hn]
      rfl
theorem refLabel_ok (s : ByteArray) (w : World) (hs : s.size ≤ 4000000000) : Calls Tryd.prog 42 #[.string s] w fun e w' => e = .returned (.bool (goodsF s)) ∧ Below w.heap.size w w' :=
  KA.ciceroneref02_Label.calls (2 * s.size + 20) s _ w (refLabel_eq s hs _ (Nat.le_refl _))
theorem refTags_ok (s : ByteArray) (w : World) (hs : s.size ≤ 4000000000) : Calls Tryd.prog 26 #[.string s] w fun e w' => ∃ v : Value, e = .returned v ∧ Kd.R Kd.string 9 w' w.heap.size (fun _ => True) v (tagsB s) ∧ Below w.heap.size w w' :=
  KA.ciceroneref02_Tags.calls (s.size + 2) s _ w (refTags_eq s hs _ (Nat.le_refl _))
theorem refTexts_l (L : List ByteArray) (hL : L.length ≤ 4000000001) : ∀ (F k i : Nat), L.length ≤ F + i → F + 1 ≤ k → i ≤ L.length → KA.ciceroneref02_Texts.l0 k L L i = some true
  | F, 0, _, _, hk, _ => by omega
  | F, k + 1, i, h, hk, hi => by
    unfold KA.ciceroneref02_Texts.l0
    by_cases hlt : i < L.length
    · obtain ⟨F', rfl⟩ : ∃ F', F = F' + 1 := ⟨F - 1, by omega⟩
      have ih := refTexts_l L hL F' k (i + 1) (by omega) (by omega) (by omega)
      have e : wrap64 ((i : Int) + 1) = ((i + 1 : Nat) : Int) := by rw [w64 (by omega) (by omega)]; rfl
      rw [if_pos (by omega), if_pos (by omega), if_pos (by omega), if_pos rfl, e, ih]
    · rw [if_neg (by omega)]
theorem refTexts_eq (L : List ByteArray) (hL : L.length ≤ 4000000001) (k : Nat) (hk : L.length + 1 ≤ k) : KA.ciceroneref02_Texts.f k L L = some true := by
  unfold KA.ciceroneref02_Texts.f
  rw [if_pos rfl]
  exact refTexts_l L hL L.length k 0 (by omega) (by omega) (by omega)
/-- two readings of one list of texts -/
theorem refTexts_ok (A0 A1 : Option Addr) (c0 c1 : Nat) (L : List ByteArray) (w : World) (hL : L.length ≤ 4000000001) (h0 : Kd.C Kd.string w A0 L.length L) (hc0 : L.length ≤ c0) (h1 : Kd.C Kd.string w A1 L.length L) (hc1 : L.length ≤ c1) :
    Calls Tryd.prog 24 #[.slice A0 L.length c0, .slice A1 L.length c1] w fun e w' => e = .returned (.bool true) ∧ Below w.heap.size w w' :=
  (KA.ciceroneref02_Texts.calls (L.length + 1) A0 c0 L A1 c1 L true w h0 hc0 h1 hc1 (refTexts_eq L hL _ (Nat.le_refl _))).mono fun _ _ ⟨h1, h2⟩ => ⟨h1, by obtain ⟨n, rfl⟩ := h2; exact below_drN (Below.refl _ _) n⟩
end Go.Proofs.YtkhjnbjmbmacjaaDoor
