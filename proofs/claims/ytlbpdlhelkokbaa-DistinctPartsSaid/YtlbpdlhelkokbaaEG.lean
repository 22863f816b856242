/- Plain: a counter to which another one's least hashes came is the counter of both. -/
import Derived.Test.YtlbpdlhelkokbaaEE
namespace Go.Proofs.Ytlbpdlhelkokbaa

def intoL (full xs : List Int) : List Int := xs.foldl into full
theorem intoL_snoc (full xs : List Int) (x : Int) : intoL full (xs ++ [x]) = into (intoL full xs) x := by unfold intoL; rw [List.foldl_append]; rfl
theorem intoL_rise (xs : List Int) : ∀ (full : List Int), Rise full → Rise (intoL full xs) := by
  induction xs with
  | nil => exact fun _ h => h
  | cons x xs ih => exact fun full h => ih _ (into_rise x h)
theorem intoL_mem (xs : List Int) (x : Int) : ∀ (full : List Int), x ∈ intoL full xs ↔ x ∈ full ∨ x ∈ xs := by
  induction xs with
  | nil => intro full; simp [intoL]
  | cons y xs ih =>
    intro full
    show x ∈ intoL (into full y) xs ↔ _
    rw [ih, into_mem]
    simp only [List.mem_cons]
    constructor
    · rintro ((h | h) | h)
      · exact .inr (.inl h)
      · exact .inl h
      · exact .inr (.inr h)
    · rintro (h | (h | h))
      · exact .inl (.inr h)
      · exact .inl (.inl h)
      · exact .inr h
theorem intoL_len (xs : List Int) : ∀ (full : List Int), full.length ≤ (intoL full xs).length := by
  induction xs with
  | nil => exact fun _ => Nat.le_refl _
  | cons x xs ih => exact fun full => Nat.le_trans (by rw [into_len]; split <;> omega) (ih (into full x))
theorem intoL_top (xs : List Int) : ∀ (full : List Int), (intoL full xs).length ≤ full.length + xs.length := by
  induction xs with
  | nil => intro full; exact Nat.le_refl _
  | cons x xs ih =>
    intro full
    have h1 := ih (into full x)
    have h2 := into_len full x
    show (intoL (into full x) xs).length ≤ _
    rw [List.length_cons]
    split at h2 <;> omega
theorem into_take {l : List Int} (hr : Rise l) (h : Int) (k : Nat) : (into l h).take k = (into (l.take k) h).take k := by
  by_cases hm : h ∈ l.take k
  · have e1 : into l h = l := (step_has hm).1
    have e2 : into (l.take k) h = l.take k := by unfold into; rw [if_pos hm]
    rw [e1, e2, List.take_take, Nat.min_self]
  · rcases Nat.lt_or_ge l.length k with hl | hl
    · rw [List.take_of_length_le (l := l) (by omega)]
    · rw [(step_cut hr hm hl).1]
      unfold into
      rw [if_neg hm]
theorem intoL_take (k : Nat) (xs : List Int) : ∀ (a b : List Int), Rise a → Rise b → a.take k = b.take k → (intoL a xs).take k = (intoL b xs).take k := by
  induction xs with
  | nil => exact fun a b _ _ h => h
  | cons x xs ih => exact fun a b ha hb h => ih _ _ (into_rise x ha) (into_rise x hb) (by rw [into_take ha, into_take hb, h])
theorem intoL_comm {a b : List Int} (ha : Rise a) (hb : Rise b) : intoL a b = intoL b a :=
  rise_ext _ _ (intoL_rise b a ha) (intoL_rise a b hb) fun x => by rw [intoL_mem, intoL_mem]; exact Or.comm
theorem merge_take {a b : List Int} (ha : Rise a) (hb : Rise b) (k : Nat) : (intoL a (b.take k)).take k = (intoL a b).take k := by
  rw [intoL_comm ha (rise_take hb k), intoL_comm ha hb]
  exact intoL_take k a _ _ (rise_take hb k) hb (by rw [List.take_take, Nat.min_self])
theorem merge_more {a b : List Int} (ha : Rise a) (hb : Rise b) (k : Nat) : (decide (k < (intoL a (b.take k)).length) || (decide (k < a.length) || decide (k < b.length))) = decide (k < (intoL a b).length) := by
  have h1 : a.length ≤ (intoL a b).length := intoL_len b a
  have h2 : b.length ≤ (intoL a b).length := by rw [intoL_comm ha hb]; exact intoL_len a b
  have h3 : (intoL a (b.take k)).length ≤ (intoL a b).length := by
    have e : intoL a b = intoL (intoL a (b.take k)) (b.drop k) := by
      unfold intoL
      rw [← List.foldl_append, List.take_append_drop]
    rw [e]
    exact intoL_len _ _
  by_cases hk : k < b.length
  · rw [decide_eq_true hk, decide_eq_true (show k < (intoL a b).length by omega), Bool.or_true, Bool.or_true]
  · rw [List.take_of_length_le (by omega)]
    by_cases h : k < (intoL a b).length
    · rw [decide_eq_true h, Bool.true_or]
    · rw [decide_eq_false h, decide_eq_false (by omega), decide_eq_false (by omega)]; rfl
theorem intoL_self {a : List Int} (ha : Rise a) : intoL a a = a := rise_ext _ _ (intoL_rise a a ha) ha fun x => by rw [intoL_mem]; exact or_self_iff
theorem allOf_both (l m : List ByteArray) : intoL (allOf l) (allOf m) = allOf (l ++ m) :=
  rise_ext _ _ (intoL_rise _ _ (allOf_rise l)) (allOf_rise _) fun x => by
    rw [intoL_mem, allOf_mem, allOf_mem, allOf_mem]
    constructor
    · rintro (⟨s, h, e⟩ | ⟨s, h, e⟩)
      · exact ⟨s, List.mem_append.2 (.inl h), e⟩
      · exact ⟨s, List.mem_append.2 (.inr h), e⟩
    · rintro ⟨s, h, e⟩
      rcases List.mem_append.1 h with h | h
      · exact .inl ⟨s, h, e⟩
      · exact .inr ⟨s, h, e⟩
theorem Touch.more {F G : Nat → Prop} {a b c : World} (h : Touch G a b) (k : Touch F b c) (hf : ∀ j, j < a.heap.size → F j → G j) : Touch G a c :=
  ⟨k.os.trans h.os, k.tape.trans h.tape, k.output.trans h.output, Nat.le_trans h.size k.size, fun i hi hn => (k.block i (Nat.lt_of_lt_of_le hi h.size) (fun e => hn (hf i hi e))).trans (h.block i hi hn)⟩
end Go.Proofs.Ytlbpdlhelkokbaa
