/- A text parted at a sign, plain; what may be is short; event.May and event.Encode whole. -/
import Derived.Test.YtkhjnbjmbmacjaaDoorNJ
import Derived.Test.YtkhjnbjmbmacjaaDoorNI
namespace Go.Proofs.YtkhjnbjmbmacjaaDoor
open Go Go.RowKit

/-- a list parted at c -/
def parL (c : UInt8) : List UInt8 → List (List UInt8)
  | [] => [[]]
  | b :: l => if b = c then [] :: parL c l else match parL c l with
    | [] => [[b]]
    | x :: r => (b :: x) :: r
theorem parL_ne (c : UInt8) : ∀ l, parL c l ≠ []
  | [] => by simp [parL]
  | b :: l => by
    unfold parL
    split
    · simp
    · cases h : parL c l with
      | nil => simp
      | cons x r => simp
theorem index_cons (b c : UInt8) (l : List UInt8) : Lib.index (b :: l) [c] = if b = c then 0 else if Lib.index l [c] = -1 then -1 else Lib.index l [c] + 1 := by
  rw [Lib.index]
  by_cases h : b = c
  · rw [if_pos h, if_pos (by subst h; simp [List.isPrefixOf])]
  · rw [if_neg h, if_neg (by simp [List.isPrefixOf]; exact fun e => h e.symm)]
    by_cases h2 : Lib.index l [c] = -1
    · simp [h2]
    · simp [h2]
theorem index_nil (c : UInt8) : Lib.index [] [c] = -1 := by simp [Lib.index]
theorem index_count (c : UInt8) : ∀ l : List UInt8, (Lib.index l [c] = -1 ∧ l.count c = 0) ∨ (∃ i : Nat, Lib.index l [c] = i ∧ i < l.length ∧ 0 < l.count c)
  | [] => .inl ⟨index_nil c, rfl⟩
  | b :: l => by
    rw [index_cons]
    by_cases h : b = c
    · rw [if_pos h]
      exact .inr ⟨0, rfl, by simp, by subst h; simp⟩
    · rw [if_neg h]
      have hc : (b :: l).count c = l.count c := by rw [List.count_cons_of_ne h]
      rw [hc]
      rcases index_count c l with ⟨h1, h2⟩ | ⟨i, h1, h2, h3⟩
      · rw [if_pos h1]; exact .inl ⟨rfl, h2⟩
      · rw [if_neg (by omega)]
        exact .inr ⟨i + 1, by rw [h1]; rfl, by simp; exact h2, h3⟩
theorem parL_none (c : UInt8) : ∀ l : List UInt8, l.count c = 0 → parL c l = [l]
  | [], _ => rfl
  | b :: l, h => by
    have hb : b ≠ c := by intro e; subst e; simp at h
    rw [List.count_cons_of_ne hb] at h
    unfold parL
    rw [if_neg hb, parL_none c l h]
theorem splitK_par (c : UInt8) : ∀ l : List UInt8, Lib.splitK [c] 0 (l.count c) l = parL c l
  | [] => rfl
  | b :: l => by
    have ih := splitK_par c l
    by_cases h : b = c
    · subst h
      rw [List.count_cons_self]
      unfold Lib.splitK parL
      rw [index_cons, if_pos rfl, if_pos rfl, if_neg (by decide)]
      simp only [Int.toNat_zero, Nat.zero_add, List.length_singleton, List.drop_succ_cons, List.drop_zero, List.take_zero]
      rw [ih]
    · rw [List.count_cons_of_ne h]
      unfold parL
      rw [if_neg h, ← ih]
      rcases index_count c l with ⟨h1, h2⟩ | ⟨i, h1, h2, h3⟩
      · rw [h2]; rfl
      · obtain ⟨k, hk⟩ : ∃ k, l.count c = k + 1 := ⟨l.count c - 1, by omega⟩
        rw [hk]
        have e1 : Lib.index (b :: l) [c] = ((i + 1 : Nat) : Int) := by rw [index_cons, if_neg h, if_neg (by rw [h1]; omega), h1]; rfl
        have e2 : (((i + 1 : Nat) : Int) == -1) = false := beq_eq_false_iff_ne.2 (by omega)
        have e3 : ((i : Int) == -1) = false := beq_eq_false_iff_ne.2 (by omega)
        unfold Lib.splitK
        rw [e1, h1, e2, e3]
        simp only [Bool.false_eq_true, if_false, Int.toNat_natCast, Nat.add_zero, List.length_singleton, List.take_succ_cons, List.drop_succ_cons]
theorem spl_par (c : UInt8) (s : ByteArray) : (spl c s).map (·.data.toList) = parL c s.data.toList := by
  unfold spl
  rw [Lib.splitB_data]
  show Lib.splitK [c] 0 (Lib.count s.data.toList [c]) s.data.toList = _
  rw [Lib.count_one, splitK_par]
theorem parL_sum (c : UInt8) : ∀ l : List UInt8, l.length + 1 = ((parL c l).map (fun x => x.length + 1)).sum
  | [] => rfl
  | b :: l => by
    have ih := parL_sum c l
    unfold parL
    split
    · simp [← ih]; omega
    · cases h : parL c l with
      | nil => exact absurd h (parL_ne c l)
      | cons x r => rw [h] at ih; simp at ih ⊢; omega
theorem sum_le (m : Nat) : ∀ L : List (List UInt8), (∀ x ∈ L, x.length ≤ m) → (L.map (fun x => x.length + 1)).sum ≤ L.length * (m + 1)
  | [], _ => by simp
  | x :: L, h => by
    have := sum_le m L (fun y hy => h y (List.mem_cons_of_mem _ hy))
    have h1 := h x List.mem_cons_self
    rw [List.map_cons, List.sum_cons, List.length_cons, Nat.succ_mul]
    omega
theorem nameB_size {s : ByteArray} (h : nameB s = true) : 1 ≤ s.size ∧ s.size ≤ 24 := by
  unfold nameB at h
  simp only [Bool.and_eq_true, decide_eq_true_eq] at h
  exact h.1
theorem tagsF_names : ∀ (l : List ByteArray) (p : Option ByteArray), tagsF p l = true → ∀ t ∈ l, nameB t = true
  | [], _, _, t, ht => by cases ht
  | x :: l, p, h, t, ht => by
    unfold tagsF at h
    simp only [Bool.and_eq_true] at h
    rcases List.mem_cons.1 ht with rfl | ht
    · exact h.1.1
    · exact tagsF_names l _ h.2 t ht
theorem cut_form (c : UInt8) (l : List UInt8) : (Lib.cut l [c]).2.2 = true → l = (Lib.cut l [c]).1 ++ c :: (Lib.cut l [c]).2.1 := by
  unfold Lib.cut
  rcases index_count c l with ⟨h1, _⟩ | ⟨i, h1, h2, _⟩
  · rw [h1]; intro h; cases h
  · rw [h1, if_pos (by omega)]
    intro _
    simp only [Int.toNat_natCast, List.length_singleton]
    have : ∀ (l : List UInt8) (i : Nat), Lib.index l [c] = i → l = l.take i ++ c :: l.drop (i + 1) := by
      intro l
      induction l with
      | nil => intro i h; rw [index_nil] at h; omega
      | cons b l ih =>
        intro i h
        rw [index_cons] at h
        by_cases hb : b = c
        · rw [if_pos hb] at h
          obtain rfl : i = 0 := by omega
          simp [hb]
        · rw [if_neg hb] at h
          by_cases h0 : Lib.index l [c] = -1
          · rw [if_pos h0] at h; omega
          · rw [if_neg h0] at h
            obtain ⟨j, hj⟩ : ∃ j, i = j + 1 := ⟨i - 1, by have := Lib.index_ge l [c]; omega⟩
            subst hj
            have := ih j (by omega)
            simp only [List.take_succ_cons, List.drop_succ_cons, List.cons_append]
            rw [← this]
    exact this l i h1
theorem goodsF_size {s : ByteArray} (h : goodsF s = true) : s.size ≤ 255 := by
  unfold goodsF at h
  split at h
  · rename_i h1
    split at h
    · rename_i h2
      have e := cut_form 59 s.data.toList h1
      have hn := nameB_size h2
      have hsz : s.size = s.data.toList.length := by rw [Array.length_toList]; rfl
      have ha : (⟨(Lib.cut s.data.toList [59]).1.toArray⟩ : ByteArray).size = (Lib.cut s.data.toList [59]).1.length := by simp [ByteArray.size]
      rw [ha] at hn
      rw [hsz, e, List.length_append, List.length_cons]
      split at h
      · rename_i h3
        rw [h3, List.length_nil]; omega
      · simp only [Bool.and_eq_true, decide_eq_true_eq] at h
        have hp := spl_par 44 ⟨(Lib.cut s.data.toList [59]).2.1.toArray⟩
        have hs := parL_sum 44 (Lib.cut s.data.toList [59]).2.1
        rw [show (⟨(Lib.cut s.data.toList [59]).2.1.toArray⟩ : ByteArray).data.toList = (Lib.cut s.data.toList [59]).2.1 from rfl] at hp
        rw [← hp] at hs
        have hle := sum_le 24 ((spl 44 ⟨(Lib.cut s.data.toList [59]).2.1.toArray⟩).map (·.data.toList)) (fun x hx => by
          obtain ⟨t, ht, rfl⟩ := List.mem_map.1 hx
          have := nameB_size (tagsF_names _ _ h.1 t ht)
          rw [Array.length_toList]; exact this.2)
        rw [List.length_map] at hle
        have : (spl 44 ⟨(Lib.cut s.data.toList [59]).2.1.toArray⟩).length * (24 + 1) ≤ 8 * (24 + 1) := Nat.mul_le_mul_right _ h.2
        omega
    · cases h
  · cases h

def mayF (e : Ev) : Bool := mayW e (goodsF e.text)
/-- each text takes fewer than 4,000,000,000 bytes -/
structure Fits (e : Ev) : Prop where
  src : e.src.size ≤ 4000000000
  person : e.person.size ≤ 4000000000
  item : e.item.size ≤ 4000000000
  text : e.text.size ≤ 4000000000
theorem may_ok (e : Ev) (w : World) (hf : Fits e) (hE : Env w) : Calls Tryd.prog 19 #[e.v] w fun x w' => x = .returned (.bool (mayF e)) ∧ Below w.heap.size w w' := by
  obtain ⟨f1, f2, f3, f4⟩ := hf
  exact may_of e _ w (by omega) (by omega) (by omega) (by omega) (fun _ W hb => goods_ok e.text W f4 (hE.on hb))
structure MayBe (e : Ev) : Prop where
  kind : 0 ≤ e.kind ∧ e.kind ≤ 14
  num : 1 ≤ e.num ∧ e.num ≤ 1099511627776
  at' : 0 ≤ e.at' ∧ e.at' ≤ 1099511627776
  val : 0 ≤ e.val ∧ e.val ≤ 1048576
  src : e.src.size ≤ 255
  person : e.person.size ≤ 255
  item : e.item.size ≤ 255
  text : e.text.size ≤ 255
theorem rowF_kind {k : Int} (h : (rowF k).ok = true) : 0 ≤ k ∧ k ≤ 14 := by
  unfold rowF at h
  split at h
  · omega
  split at h
  · omega
  split at h
  · omega
  split at h
  · omega
  split at h
  · omega
  split at h
  · omega
  split at h
  · omega
  · cases h
theorem rowF_val (k : Int) : 0 ≤ (rowF k).least ∧ (rowF k).most ≤ 1048576 := by
  unfold rowF
  split
  · decide
  split
  · decide
  split
  · decide
  split
  · decide
  split
  · decide
  split
  · decide
  split
  · decide
  · decide
theorem namedF_size {s : ByteArray} {b : Bool} (h : namedF s b = true) : s.size ≤ 255 := by
  unfold namedF at h
  split at h
  · have := nameB_size h; omega
  · have : s.toList = [] := by simpa using h
    rw [ByteArray.toList_eq] at this
    have e : s.data.toList.length = 0 := by rw [this]; rfl
    rw [Array.length_toList] at e
    have : s.size = 0 := e
    omega
theorem mayF_of {e : Ev} (h : mayF e = true) : MayBe e := by
  unfold mayF mayW inF at h
  simp only [Bool.and_eq_true, decide_eq_true_eq] at h
  obtain ⟨h1, h2, h3, h4, h5, h6, h7, h8⟩ := h
  have hv := rowF_val e.kind
  refine ⟨rowF_kind h1, h3, h4, ⟨by omega, by omega⟩, by have := nameB_size h2; omega, namedF_size h6, namedF_size h7, ?_⟩
  split at h8
  · exact goodsF_size h8
  · exact namedF_size h8
theorem encode_ok (e : Ev) (w : World) (hm : mayF e = true) (hE : Env w) :
    Calls Tryd.prog 15 #[e.v] w fun x w' => ∃ S', x = .returned (.tuple #[S', .int .i64 0]) ∧ Below w.heap.size w w' ∧ w'.ownsRow w.heap.size 5 1 S' (encB e).length (vB (encB e)) := by
  obtain ⟨k, n, t, v, s1, s2, s3, s4⟩ := mayF_of hm
  refine encode_of e w e.num.toNat e.at'.toNat e.val.toNat e.kind.toNat (by omega) (by omega) (by omega) (by omega) (by omega) (by omega) (by omega) (by omega) s1 s2 s3 s4 fun W hb => ?_
  have := may_ok e W ⟨by omega, by omega, by omega, by omega⟩ (hE.on hb)
  rwa [hm] at this
theorem encode_err (e : Ev) (w : World) (hf : Fits e) (hm : mayF e = false) (hE : Env w) :
    Calls Tryd.prog 15 #[e.v] w fun x w' => x = .returned (.tuple #[.slice none 0 0, .int .i64 1]) ∧ Below w.heap.size w w' :=
  encode_no e w fun W hb => by have := may_ok e W hf (hE.on hb); rwa [hm] at this
end Go.Proofs.YtkhjnbjmbmacjaaDoor
