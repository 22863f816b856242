/- All unlike hashes, by the reference: the row that the counter's own reckoning gives. -/
import Derived.Test.YtlbpdlhelkokbaaDZ
namespace Go.Proofs.Ytlbpdlhelkokbaa
open Go.RowKit Go.Proofs.YtlbpdlhelkokbaaW.PrintWords

/-- the reference's round: h into what is left of the row -/
def insR : List Int → Bool → Int → List Int
  | [], done, h => if done then [] else [h]
  | x :: u, done, h => (if !done && decide (h ≤ x) then [h] else []) ++ ((if x = h then [] else [x]) ++ insR u (done || decide (h ≤ x)) h)
theorem insR_done : ∀ (u : List Int) (h : Int), (∀ x ∈ u, h < x) → insR u true h = u
  | [], _, _ => rfl
  | x :: u, h, hx => by
    have h1 := hx x List.mem_cons_self
    have h2 := insR_done u h (fun y hy => hx y (List.mem_cons_of_mem _ hy))
    simp only [insR, Bool.not_true, Bool.false_and, Bool.true_or, h2, Bool.false_eq_true, if_false]
    rw [if_neg (by omega)]
    rfl
theorem insR_is : ∀ (u : List Int) (h : Int), Rise u → insR u false h = into u h
  | [], h, _ => by simp [insR, into, pos, lay]
  | x :: u, h, hr => by
    have hr' := List.pairwise_cons.1 hr
    by_cases hx : h ≤ x
    · have hg : ∀ y ∈ u, h < y := fun y hy => by have := hr'.1 y hy; omega
      have e := insR_done u h hg
      simp only [insR, Bool.not_false, Bool.true_and, decide_eq_true hx, if_true, Bool.false_or, e]
      by_cases hxh : x = h
      · subst hxh
        rw [if_pos rfl, into, if_pos List.mem_cons_self]; rfl
      · rw [if_neg hxh]
        have hn : ¬ h ∈ x :: u := by
          simp only [List.mem_cons, not_or]
          exact ⟨fun e => hxh e.symm, fun hm => by have := hg h hm; omega⟩
        rw [into, if_neg hn]
        have : pos (x :: u) h = 0 := by simp only [pos]; rw [if_neg (by omega)]
        rw [this]; rfl
    · simp only [insR, decide_eq_false hx, Bool.and_false, Bool.false_eq_true, if_false, Bool.or_false, List.nil_append]
      rw [if_neg (by omega), insR_is u h hr'.2]
      unfold into
      have hp : pos (x :: u) h = pos u h + 1 := by simp only [pos]; rw [if_pos (by omega)]
      by_cases hm : h ∈ u
      · rw [if_pos hm, if_pos (List.mem_cons_of_mem _ hm)]; rfl
      · have hm2 : ¬ h ∈ x :: u := by
          simp only [List.mem_cons, not_or]
          exact ⟨by omega, hm⟩
        rw [if_neg hm, if_neg hm2, hp]; rfl

theorem insR_low (x : Int) (u : List Int) (d : Bool) (h : Int) (hd : ¬ (d = false ∧ h ≤ x)) : insR (x :: u) d h = (if x = h then [] else [x]) ++ insR u d h := by
  have h1 : (!d && decide (h ≤ x)) = false := by
    cases d with
    | true => rfl
    | false => simp only [Bool.not_false, Bool.true_and]; exact decide_eq_false (fun h1 => hd ⟨rfl, h1⟩)
  have h2 : (d || decide (h ≤ x)) = d := by
    cases d with
    | true => rfl
    | false => simp only [Bool.false_or]; exact decide_eq_false (fun h1 => hd ⟨rfl, h1⟩)
  rw [insR, h1, h2]; rfl
theorem insR_high (x : Int) (u : List Int) (h : Int) (hd : h ≤ x) : insR (x :: u) false h = h :: ((if x = h then [] else [x]) ++ insR u true h) := by
  rw [insR, decide_eq_true hd]; rfl

theorem rd_at {xs : List Int} {j : Nat} (h : j < xs.length) : rd xs (j : Int) = xs[j] := by
  unfold rd; rw [Int.toNat_natCast, List.getD_eq_getElem?_getD, List.getElem?_eq_getElem h]; rfl

theorem all_inner (l : List ByteArray) (out : List Int) (i : Nat) (h : Int) (r : List Int) (K : Nat) (hi : i ≤ 400) (hout : out.length ≤ 400) :
    ∀ (e j : Nat) (next : List Int) (done : Bool), j + e = out.length → (next ++ insR (out.drop j) done h).length ≤ 1000 →
      (∀ k, K ≤ k → KA.ciceroneref13_All.l0 k l (next ++ insR (out.drop j) done h) ((i + 1 : Nat) : Int) = some r) →
      ∀ k, K + 2 * e + 1 ≤ k → KA.ciceroneref13_All.l1 k l out i h next done j = some r := by
  intro e
  have wn : ∀ t : Nat, t ≤ 400 → wrap64 ((t : Int) + 1) = ((t + 1 : Nat) : Int) := fun t ht => by unfold wrap64; omega
  induction e with
  | zero =>
    intro j next done hj hb hk k hkk
    obtain ⟨k, rfl⟩ : ∃ m, k = m + 1 := ⟨k - 1, by omega⟩
    rw [List.drop_eq_nil_of_le (by omega)] at hb hk
    rw [KA.ciceroneref13_All.l1, if_neg (by omega), wn i hi]
    cases done with
    | true =>
      simp only [insR, if_true, List.append_nil] at hk
      rw [if_pos rfl]
      exact hk k (by omega)
    | false =>
      simp only [insR, Bool.false_eq_true, if_false] at hk hb
      rw [if_neg (by simp), if_pos (by simp only [List.length_append] at hb; omega)]
      exact hk k (by omega)
  | succ e ih =>
    intro j next done hj hb hk k hkk
    obtain ⟨k, rfl⟩ : ∃ m, k = m + 1 + 1 := ⟨k - 2, by omega⟩
    have hjl : j < out.length := by omega
    rw [List.drop_eq_getElem_cons hjl] at hb hk
    have hn : next.length ≤ 1000 := by simp only [List.length_append] at hb; omega
    have step : ∀ (nx : List Int) (dn : Bool), next ++ insR (out[j] :: out.drop (j + 1)) done h = nx ++ insR (out.drop (j + 1)) dn h → KA.ciceroneref13_All.l1 k l out i h nx dn ((j + 1 : Nat) : Int) = some r := fun nx dn e1 => by
      rw [e1] at hb hk
      exact ih (j + 1) nx dn (by omega) hb hk k (by omega)
    have low : KA.ciceroneref13_All.j2 (k + 1) l out i h next done j false = some r ∨ (done = false ∧ h ≤ out[j]) := by
      by_cases hd : done = false ∧ h ≤ out[j]
      · exact .inr hd
      · left
        rw [KA.ciceroneref13_All.j2, if_neg (by simp), if_pos (by omega), if_pos (by omega), rd_at hjl, wn j (by omega)]
        by_cases hx : out[j] = h
        · rw [if_pos hx]
          exact step next done (by rw [insR_low _ _ _ _ hd, if_pos hx]; rfl)
        · rw [if_neg hx, if_pos (by omega)]
          exact step (next ++ [out[j]]) done (by rw [insR_low _ _ _ _ hd, if_neg hx, List.append_assoc])
    rw [KA.ciceroneref13_All.l1, if_pos (by omega)]
    cases done with
    | true =>
      rw [if_pos rfl]
      rcases low with h1 | ⟨h1, _⟩
      · exact h1
      · cases h1
    | false =>
      rw [if_neg (by simp), if_pos (by omega), rd_at hjl]
      rcases low with h1 | ⟨_, h1⟩
      · by_cases h2 : h ≤ out[j]
        · rw [decide_eq_true h2, KA.ciceroneref13_All.j2, if_pos rfl, if_pos (by omega), Option.bind_some, if_pos (by omega), if_pos (by omega), rd_at hjl, wn j (by omega)]
          by_cases hx : out[j] = h
          · rw [if_pos hx]
            exact step (next ++ [h]) true (by rw [insR_high _ _ _ h2, if_pos hx, List.append_assoc]; rfl)
          · rw [if_neg hx, if_pos (by simp only [List.length_append, List.length_singleton]; omega)]
            exact step (next ++ [h] ++ [out[j]]) true (by rw [insR_high _ _ _ h2, if_neg hx, List.append_assoc, List.append_assoc]; rfl)
        · rw [decide_eq_false h2]; exact h1
      · rw [decide_eq_true h1, KA.ciceroneref13_All.j2, if_pos rfl, if_pos (by omega), Option.bind_some, if_pos (by omega), if_pos (by omega), rd_at hjl, wn j (by omega)]
        by_cases hx : out[j] = h
        · rw [if_pos hx]
          exact step (next ++ [h]) true (by rw [insR_high _ _ _ h1, if_pos hx, List.append_assoc]; rfl)
        · rw [if_neg hx, if_pos (by simp only [List.length_append, List.length_singleton]; omega)]
          exact step (next ++ [h] ++ [out[j]]) true (by rw [insR_high _ _ _ h1, if_neg hx, List.append_assoc, List.append_assoc]; rfl)

theorem allOf_len (l : List ByteArray) : ∀ i, i ≤ l.length → (allOf (l.take i)).length ≤ i := by
  intro i
  induction i with
  | zero => intro _; simp [allOf, intoAll]
  | succ i ih =>
    intro hi
    have h1 : i < l.length := by omega
    have hs : allOf (l.take (i + 1)) = into (allOf (l.take i)) (hashF l[i]) := by
      rw [List.take_succ_eq_append_getElem h1]
      exact intoAll_snoc _ _ _
    rw [hs, into_len]
    have := ih (by omega)
    split <;> omega

theorem all_outer (l : List ByteArray) (hn : l.length ≤ 400) (hs : ∀ s ∈ l, s.size ≤ 60) : ∀ (d i : Nat), i + d = l.length →
    ∃ K, ∀ k, K ≤ k → KA.ciceroneref13_All.l0 k l (allOf (l.take i)) i = some (allOf l) := by
  intro d
  induction d with
  | zero =>
    intro i hi
    refine ⟨1, fun k hk => ?_⟩
    obtain ⟨k, rfl⟩ : ∃ m, k = m + 1 := ⟨k - 1, by omega⟩
    rw [KA.ciceroneref13_All.l0, if_neg (by omega), List.take_of_length_le (by omega)]
  | succ d ih =>
    intro i hi
    obtain ⟨K, hK⟩ := ih (i + 1) (by omega)
    have hil : i < l.length := by omega
    have h1 : allOf (l.take (i + 1)) = into (allOf (l.take i)) (hashF l[i]) := by
      rw [List.take_succ_eq_append_getElem hil]
      exact intoAll_snoc _ _ _
    have hlen := allOf_len l i (by omega)
    have hsz := hs l[i] (List.getElem_mem hil)
    have hins := insR_is (allOf (l.take i)) (hashF l[i]) (allOf_rise _)
    refine ⟨K + 2 * (allOf (l.take i)).length + 1 + 62, fun k hk => ?_⟩
    obtain ⟨k, rfl⟩ : ∃ m, k = m + 1 := ⟨k - 1, by omega⟩
    have e : rdOf ByteArray.empty l (i : Int) = l[i] := by unfold rdOf; rw [Int.toNat_natCast, List.getD_eq_getElem?_getD, List.getElem?_eq_getElem hil]; rfl
    rw [KA.ciceroneref13_All.l0, if_pos (by omega), if_pos (by omega), e, ((hash_both l[i] (by omega)).2 k (by omega)).2, Option.bind_some]
    have := all_inner l (allOf (l.take i)) i (hashF l[i]) (allOf l) K (by omega) (by omega) (allOf (l.take i)).length 0 [] false (by omega)
      (by rw [List.drop_zero, List.nil_append, hins, into_len]; split <;> omega)
      (fun k hk => by rw [List.drop_zero, List.nil_append, hins, ← h1]; exact hK k hk) k (by omega)
    exact this

theorem reps_scalar {w : World} {base : Nat} {ok : Nat → Prop} {xs : List Int} {cs : List Value} (h : Reps ((Kd.int .u64).M w base ok) (Kd.int .u64).sz xs cs) : cs = U xs := by
  obtain ⟨h1, h2⟩ := h
  have hl : cs.length = xs.length := by rw [h1]; exact Nat.mul_one _
  refine List.ext_getElem? fun j => ?_
  rcases Nat.lt_or_ge j xs.length with hj | hj
  · have h3 : (cs.drop (j * (Kd.int .u64).sz)).take (Kd.int .u64).sz = [Value.int .u64 xs[j]] := h2 j xs[j] (List.getElem?_eq_getElem hj)
    have e1 : j * (Kd.int .u64).sz = j := Nat.mul_one j
    have e2 : (Kd.int .u64).sz = 1 := rfl
    rw [e1, e2] at h3
    have h4 := congrArg (fun z : List Value => z[0]?) h3
    simp only [List.getElem?_take, List.getElem?_drop, Nat.lt_add_one, if_true, Nat.add_zero, List.getElem?_cons_zero] at h4
    rw [h4]
    simp [U, List.getElem?_eq_getElem hj]
  · rw [List.getElem?_eq_none (by omega), List.getElem?_eq_none (by simp [U]; omega)]

theorem all_ok (A : Option Addr) (n cap : Nat) (l : List ByteArray) (w : World) (h : StrArg w A n cap l) (hn : l.length ≤ 400) (hs : ∀ s ∈ l, s.size ≤ 60) :
    Calls Try.prog 21 #[.slice A n cap] w fun e w' => (∃ V, e = .returned V ∧ w'.ownsRow w.heap.size 23 1 V (allOf l).length (U (allOf l))) ∧ Below w.heap.size w w' := by
  obtain ⟨rfl, hC, hc⟩ := h
  obtain ⟨K, hK⟩ := all_outer l hn hs l.length 0 (by omega)
  refine (KA.ciceroneref13_All.calls K A cap l (allOf l) w hC hc (hK K (Nat.le_refl _))).mono ?_
  rintro e w' ⟨V, rfl, hR, hb⟩
  obtain ⟨_, inner, ho, hr⟩ := hR
  have := reps_scalar hr
  subst this
  exact ⟨⟨V, rfl, ho⟩, hb⟩

theorem kept_ok (A : Option Addr) (c k : Nat) (xs : List Int) (w : World) (hc : xs.length ≤ c) :
    Calls Try.prog 20 #[.slice A xs.length c, .int .i64 k] w fun e w' => e = .returned (.slice A (xs.take k).length c) ∧ Below w.heap.size w w' := by
  rw [List.length_take]
  generalize xs.length = n at *
  by_cases h : (k : Int) < (n : Int)
  · rw [Nat.min_eq_left (by omega)]
    have h1 : (k : Int) ≤ c := by omega
    go_enter Try.func20, Try.ntmps20
    go_wp2_with fail
    go_ret
    exact ⟨rfl, Below.refl _ _⟩
  · rw [Nat.min_eq_right (by omega)]
    go_enter Try.func20, Try.ntmps20
    go_wp2_with fail
    go_ret
    exact ⟨rfl, Below.refl _ _⟩
end Go.Proofs.Ytlbpdlhelkokbaa
