/- Plain lists: a number into a rising row; the least k of it. And the counter's put by them. -/
import Derived.Test.YtlbpdlhelkokbaaDM
namespace Go.Proofs.Ytlbpdlhelkokbaa
open Go.RowKit

/-- where a number belongs in a rising row -/
def pos : List Int → Int → Nat
  | [], _ => 0
  | a :: l, h => if a < h then pos l h + 1 else 0
/-- laid in at a place -/
def lay : List Int → Nat → Int → List Int
  | l, 0, h => h :: l
  | [], _ + 1, h => [h]
  | a :: l, p + 1, h => a :: lay l p h
def Rise (l : List Int) : Prop := l.Pairwise (· < ·)
/-- the row with h -/
def into (l : List Int) (h : Int) : List Int := if h ∈ l then l else lay l (pos l h) h

theorem pos_le (l : List Int) (h : Int) : pos l h ≤ l.length := by
  induction l with
  | nil => simp [pos]
  | cons a l ih => simp only [pos, List.length_cons]; split <;> omega
theorem pos_take (l : List Int) (h : Int) (k : Nat) : pos (l.take k) h = min (pos l h) k := by
  induction l generalizing k with
  | nil => simp [pos]
  | cons a l ih =>
    cases k with
    | zero => simp [pos]
    | succ k =>
      simp only [List.take_succ_cons, pos, ih]
      split <;> omega
theorem lay_eq (h : Int) : ∀ (l : List Int) (p : Nat), p ≤ l.length → lay l p h = l.take p ++ h :: l.drop p
  | l, 0, _ => by simp [lay]
  | [], p + 1, hp => by simp at hp
  | a :: l, p + 1, hp => by simp [lay, lay_eq h l p (by simpa using hp)]
theorem lay_len (h : Int) : ∀ (l : List Int) (p : Nat), (lay l p h).length = l.length + 1
  | l, 0 => by simp [lay]
  | [], p + 1 => by simp [lay]
  | a :: l, p + 1 => by simp [lay, lay_len h l p]
theorem lay_take (h : Int) : ∀ (l : List Int) (p k : Nat), (lay l p h).take k = (lay (l.take k) (min p k) h).take k
  | l, p, 0 => by simp
  | l, 0, k + 1 => by simp [lay, List.take_take]
  | [], p + 1, k + 1 => by simp [lay, Nat.succ_min_succ]
  | a :: l, p + 1, k + 1 => by
    rw [Nat.succ_min_succ]
    simp only [lay, List.take_succ_cons]
    rw [lay_take h l p k]
theorem lay_past (h : Int) : ∀ (l : List Int) (p k : Nat), p ≤ l.length → k ≤ p → (lay l p h).take k = l.take k
  | l, p, 0, _, _ => by simp
  | l, 0, k + 1, _, hk => by omega
  | [], p + 1, k + 1, hp, _ => by simp at hp
  | a :: l, p + 1, k + 1, hp, hk => by
    simp only [lay, List.take_succ_cons]
    rw [lay_past h l p k (by simpa using hp) (by omega)]
theorem lay_mem (h x : Int) : ∀ (l : List Int) (p : Nat), x ∈ lay l p h ↔ x = h ∨ x ∈ l
  | l, 0 => by simp [lay]
  | [], p + 1 => by simp [lay]
  | a :: l, p + 1 => by
    simp only [lay, List.mem_cons, lay_mem h x l p]
    constructor
    · rintro (h1 | h1 | h1) <;> simp [h1]
    · rintro (h1 | h1 | h1) <;> simp [h1]
theorem into_mem (l : List Int) (h x : Int) : x ∈ into l h ↔ x = h ∨ x ∈ l := by
  unfold into
  split
  · rename_i hm
    constructor
    · exact .inr
    · rintro (rfl | h1)
      · exact hm
      · exact h1
  · exact lay_mem h x l _
theorem lay_rise (h : Int) : ∀ (l : List Int), Rise l → ¬ h ∈ l → Rise (lay l (pos l h) h)
  | [], _, _ => by simp [pos, lay, Rise]
  | a :: l, hr, hn => by
    have hr' := List.pairwise_cons.1 hr
    simp only [List.mem_cons, not_or] at hn
    simp only [pos]
    split
    · rename_i ha
      simp only [lay]
      refine List.pairwise_cons.2 ⟨fun x hx => ?_, lay_rise h l hr'.2 hn.2⟩
      rcases (lay_mem h x l _).1 hx with rfl | hx
      · exact ha
      · exact hr'.1 x hx
    · rename_i ha
      simp only [lay]
      refine List.pairwise_cons.2 ⟨fun x hx => ?_, hr⟩
      have h1 : h < a := by have := hn.1; omega
      rcases List.mem_cons.1 hx with rfl | hx
      · exact h1
      · have := hr'.1 x hx; omega
theorem into_rise {l : List Int} (h : Int) (hr : Rise l) : Rise (into l h) := by
  unfold into
  split
  · exact hr
  · rename_i hn; exact lay_rise h l hr hn
theorem rise_take {l : List Int} (h : Rise l) (k : Nat) : Rise (l.take k) := List.Pairwise.sublist (List.take_sublist _ _) h
/-- the question: from where on is the row not below h? -/
theorem pos_ask : ∀ (l : List Int) (h : Int), Rise l → ∀ i (hi : i < l.length), decide (h ≤ l[i]) = decide (pos l h ≤ i)
  | [], _, _, i, hi => by simp at hi
  | a :: l, h, hr, i, hi => by
    have hr' := List.pairwise_cons.1 hr
    simp only [pos]
    cases i with
    | zero =>
      simp only [List.getElem_cons_zero]
      split
      · rename_i ha
        rw [decide_eq_false (by omega), decide_eq_false (by omega)]
      · rename_i ha
        rw [decide_eq_true (by omega), decide_eq_true (by omega)]
    | succ i =>
      have hi' : i < l.length := by simpa using hi
      simp only [List.getElem_cons_succ]
      split
      · rw [pos_ask l h hr'.2 i hi']
        by_cases e : pos l h ≤ i
        · rw [decide_eq_true e, decide_eq_true (by omega)]
        · rw [decide_eq_false e, decide_eq_false (by omega)]
      · rename_i ha
        have := hr'.1 l[i] (List.getElem_mem hi')
        rw [decide_eq_true (by omega), decide_eq_true (by omega)]
theorem pos_has : ∀ (l : List Int) (h : Int), Rise l → h ∈ l → ∃ hp : pos l h < l.length, l[pos l h] = h
  | [], _, _, hm => by simp at hm
  | a :: l, h, hr, hm => by
    have hr' := List.pairwise_cons.1 hr
    by_cases ha : a < h
    · have hm' : h ∈ l := by
        rcases List.mem_cons.1 hm with rfl | h1
        · omega
        · exact h1
      obtain ⟨h1, h2⟩ := pos_has l h hr'.2 hm'
      have e : pos (a :: l) h = pos l h + 1 := by simp [pos, ha]
      refine ⟨by rw [e]; simpa using h1, ?_⟩
      simp only [e, List.getElem_cons_succ]
      exact h2
    · have e : pos (a :: l) h = 0 := by simp [pos, ha]
      refine ⟨by rw [e]; simp, ?_⟩
      simp only [e, List.getElem_cons_zero]
      rcases List.mem_cons.1 hm with rfl | h1
      · rfl
      · have := hr'.1 h h1; omega
theorem into_len (l : List Int) (h : Int) : (into l h).length = if h ∈ l then l.length else l.length + 1 := by
  unfold into
  split
  · rfl
  · exact lay_len h l _

/-- The counter to which all of l came keeps the least k. -/
def Cnt (w : World) (g k : Nat) (l : List Int) (r : Option Nat) : Prop := Ctr w g k (l.take k) (decide (k < l.length)) r
/-- is h kept, and new? -/
def fresh (l : List Int) (k : Nat) (h : Int) : Bool := decide (h ∈ (into l h).take k) && !decide (h ∈ l.take k)

theorem step_has {l : List Int} {k : Nat} {h : Int} (hm : h ∈ l.take k) : into l h = l ∧ fresh l k h = false := by
  have h1 : h ∈ l := List.mem_of_mem_take hm
  have e : into l h = l := by unfold into; rw [if_pos h1]
  exact ⟨e, by unfold fresh; rw [e, decide_eq_true hm]; rfl⟩
theorem step_new {l : List Int} {k : Nat} {h : Int} (hm : ¬ h ∈ l.take k) (hl : l.length < k) :
    (into l h).take k = lay (l.take k) (pos (l.take k) h) h ∧ (decide (k < (into l h).length)) = decide (k < l.length) ∧ fresh l k h = true := by
  have e : l.take k = l := List.take_of_length_le (by omega)
  rw [e] at hm ⊢
  have ei : into l h = lay l (pos l h) h := by unfold into; rw [if_neg hm]
  have el := lay_len h l (pos l h)
  have et : (lay l (pos l h) h).take k = lay l (pos l h) h := List.take_of_length_le (by omega)
  refine ⟨by rw [ei, et], by rw [ei, el, decide_eq_false (by omega), decide_eq_false (by omega)], ?_⟩
  unfold fresh
  rw [ei, et, e, decide_eq_false hm, decide_eq_true ((lay_mem h h l _).2 (.inl rfl))]; rfl
theorem step_cut {l : List Int} {k : Nat} {h : Int} (hr : Rise l) (hm : ¬ h ∈ l.take k) (hl : k ≤ l.length) :
    (into l h).take k = (lay (l.take k) (pos (l.take k) h) h).take k ∧ (decide (k < (into l h).length)) = true ∧ fresh l k h = decide (pos (l.take k) h < k) := by
  have hp := pos_take l h k
  have key : (lay (l.take k) (pos (l.take k) h) h).take k = (lay l (pos l h) h).take k := by rw [hp, ← lay_take]
  by_cases h1 : h ∈ l
  · obtain ⟨h2, h3⟩ := pos_has l h hr h1
    have hk : k ≤ pos l h := by
      refine Classical.byContradiction fun h4 => hm ?_
      have h5 : pos l h < (l.take k).length := by rw [List.length_take]; omega
      have := List.getElem_mem h5
      rwa [List.getElem_take, h3] at this
    have e : into l h = l := by unfold into; rw [if_pos h1]
    refine ⟨by rw [key, e, lay_past h l _ k (by omega) hk], by rw [e, decide_eq_true (by omega)], ?_⟩
    unfold fresh
    rw [e, decide_eq_false hm, hp, decide_eq_false (by omega)]; rfl
  · have ei : into l h = lay l (pos l h) h := by unfold into; rw [if_neg h1]
    have el := lay_len h l (pos l h)
    have pl := pos_le l h
    refine ⟨by rw [key, ei], by rw [ei, el, decide_eq_true (by omega)], ?_⟩
    unfold fresh
    rw [decide_eq_false hm, ei, hp]
    by_cases h2 : pos l h < k
    · rw [decide_eq_true (show min (pos l h) k < k by omega), decide_eq_true]
      · rfl
      · rw [lay_eq h l _ pl]
        refine List.mem_iff_getElem.2 ⟨pos l h, by simp only [List.length_take, List.length_append, List.length_cons, List.length_drop]; omega, ?_⟩
        rw [List.getElem_take, List.getElem_append_right (by rw [List.length_take]; omega)]
        simp only [List.length_take, show pos l h - min (pos l h) l.length = 0 by omega, List.getElem_cons_zero]
    · rw [decide_eq_false (show ¬ min (pos l h) k < k by omega), lay_past h l _ k pl (by omega), decide_eq_false hm]; rfl

theorem ctr_below {w w' : World} {g : Nat} {k : Int} {xs : List Int} {m : Bool} {r : Option Nat} (h : Ctr w g k xs m r) (hb : Below w.heap.size w w') : Ctr w' g k xs m r := by
  obtain ⟨S, h1, h2, h3⟩ := h
  exact ⟨S, blk_below h1 hb, own_later h2 hb, h3⟩

theorem put_ok (g k : Nat) (l : List Int) (r : Option Nat) (h : Int) (w : World) (hC : Cnt w g k l r) (hr : Rise l) (hk1 : 1 ≤ k) (hk2 : k ≤ 4096) :
    Calls Try.prog 31 #[.pointer (some ⟨g, 0, none⟩), .int .u64 h] w fun e w' =>
      e = .returned (.bool (fresh l k h)) ∧ ∃ r', Cnt w' g k (into l h) r' ∧ (r = r' ∨ ∃ j, r' = some j ∧ w.heap.size ≤ j) ∧ Touch (fun j => j = g ∨ r = some j) w w' := by
  obtain ⟨S, hg, hS, rfl⟩ := hC
  have hr' := rise_take hr k
  have hask := pos_ask (l.take k) h hr'
  have hpl := pos_le (l.take k) h
  have hlen : (l.take k).length = min k l.length := List.length_take
  by_cases hm : h ∈ l.take k
  · obtain ⟨h1, h2⟩ := pos_has _ _ hr' hm
    obtain ⟨e1, e2⟩ := step_has hm
    refine (put_has g (pos (l.take k) h) k h _ (l.take k) S w hg hS (by omega) h1 h2 hask).mono ?_
    rintro e w' ⟨rfl, hb⟩
    rw [e1, e2]
    exact ⟨rfl, _, ctr_below ⟨S, hg, hS, rfl⟩ hb, .inl rfl, Touch.of_below hb⟩
  · rcases Nat.lt_or_ge l.length k with hl | hl
    · obtain ⟨e1, e2, e3⟩ := step_new hm hl
      rw [e3]
      unfold Cnt
      rw [e1, e2, lay_eq h _ _ hpl]
      generalize hxs : l.take k = xs at *
      have hn : xs.length < k := by omega
      rcases hS.2 with ⟨rfl, h0⟩ | ⟨ro, c, cur, rfl, _, _, _, _, _, _⟩
      · obtain rfl : xs = [] := List.eq_nil_of_length_eq_zero h0
        exact put_new_nil g k h _ [] w hg hS rfl (by omega) hask (by omega)
      · by_cases ha : pos xs h < xs.length
        · obtain ⟨n, hn'⟩ : ∃ n, xs.length = n := ⟨_, rfl⟩
          rw [hn'] at hg hS ha
          refine put_new_mid g ro n c (pos xs h) k h _ xs w hg hS hn' (by omega) hask xs[pos xs h] ha (by show xs[pos xs h]? = _; rw [List.getElem?_eq_getElem]) (fun e => hm ?_) (by omega)
          rw [← e]; exact List.getElem_mem _
        · obtain ⟨n, hn'⟩ : ∃ n, xs.length = n := ⟨_, rfl⟩
          have e : pos xs h = n := by omega
          rw [hn'] at hg hS
          rw [e] at hask ⊢
          exact put_new_end g ro n c k h _ xs w hg hS hn' (by omega) hask (by omega)
    · obtain ⟨e1, e2, e3⟩ := step_cut hr hm hl
      rw [e3]
      unfold Cnt
      rw [e1, e2, lay_eq h _ _ hpl]
      generalize hxs : l.take k = xs at *
      have hn : xs.length = k := by omega
      rcases hS.2 with ⟨rfl, h0⟩ | ⟨ro, c, cur, rfl, _, _, _, _, _, _⟩
      · omega
      · rw [hn] at hg hS
        by_cases ha : pos xs h < k
        · rw [decide_eq_true ha]
          refine put_cut_mid g ro k c (pos xs h) k h _ xs w hg hS hn (by omega) hask xs[pos xs h] ha (by show xs[pos xs h]? = _; rw [List.getElem?_eq_getElem]) (fun e => hm ?_) hk1 rfl
          rw [← e]; exact List.getElem_mem _
        · rw [decide_eq_false ha]
          have e : pos xs h = k := by omega
          rw [e] at hask ⊢
          exact put_cut_end g ro k c k h _ xs w hg hS hn (by omega) hask hk1 rfl
end Go.Proofs.Ytlbpdlhelkokbaa
