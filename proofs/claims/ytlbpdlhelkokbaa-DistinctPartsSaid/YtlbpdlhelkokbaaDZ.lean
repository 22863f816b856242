/- All texts' hashes, as a rising row; a counter filled with texts; whether two rows are one. -/
import Derived.Test.YtlbpdlhelkokbaaDY
namespace Go.Proofs.Ytlbpdlhelkokbaa
open Go.RowKit Go.Proofs.YtlbpdlhelkokbaaW.PrintWords

def intoAll (full : List Int) (l : List ByteArray) : List Int := l.foldl (fun f s => into f (hashF s)) full
def allOf (l : List ByteArray) : List Int := intoAll [] l
theorem intoAll_snoc (full : List Int) (l : List ByteArray) (s : ByteArray) : intoAll full (l ++ [s]) = into (intoAll full l) (hashF s) := by unfold intoAll; rw [List.foldl_append]; rfl
theorem intoAll_rise (l : List ByteArray) : ∀ (full : List Int), Rise full → Rise (intoAll full l) := by
  induction l with
  | nil => exact fun _ h => h
  | cons s l ih => exact fun full h => ih _ (into_rise _ h)
theorem intoAll_mem (l : List ByteArray) (x : Int) : ∀ (full : List Int), x ∈ intoAll full l ↔ x ∈ full ∨ ∃ s ∈ l, hashF s = x := by
  induction l with
  | nil => intro full; simp [intoAll]
  | cons s l ih =>
    intro full
    have e : intoAll full (s :: l) = intoAll (into full (hashF s)) l := rfl
    rw [e, ih, into_mem]
    constructor
    · rintro ((rfl | h) | ⟨t, h1, h2⟩)
      · exact .inr ⟨s, List.mem_cons_self, rfl⟩
      · exact .inl h
      · exact .inr ⟨t, List.mem_cons_of_mem _ h1, h2⟩
    · rintro (h | ⟨t, h1, h2⟩)
      · exact .inl (.inr h)
      · rcases List.mem_cons.1 h1 with rfl | h1
        · exact .inl (.inl h2.symm)
        · exact .inr ⟨t, h1, h2⟩
theorem rise_ext : ∀ (a b : List Int), Rise a → Rise b → (∀ x, x ∈ a ↔ x ∈ b) → a = b
  | [], [], _, _, _ => rfl
  | [], b :: v, _, _, h => by have := (h b).2 List.mem_cons_self; simp at this
  | a :: u, [], _, _, h => by have := (h a).1 List.mem_cons_self; simp at this
  | a :: u, b :: v, ha, hb, h => by
    have ha' := List.pairwise_cons.1 ha
    have hb' := List.pairwise_cons.1 hb
    have e : a = b := by
      have h1 := (h a).1 List.mem_cons_self
      have h2 := (h b).2 List.mem_cons_self
      rcases List.mem_cons.1 h1 with h1 | h1
      · exact h1
      · rcases List.mem_cons.1 h2 with h2 | h2
        · exact h2.symm
        · have := hb'.1 a h1
          have := ha'.1 b h2
          omega
    subst e
    rw [rise_ext u v ha'.2 hb'.2 fun x => ?_]
    have hx := h x
    simp only [List.mem_cons] at hx
    constructor
    · intro h1
      rcases hx.1 (.inr h1) with h2 | h2
      · have := ha'.1 x h1; omega
      · exact h2
    · intro h1
      rcases hx.2 (.inr h1) with h2 | h2
      · have := hb'.1 x h1; omega
      · exact h2
theorem allOf_rise (l : List ByteArray) : Rise (allOf l) := intoAll_rise l _ rise_nil
theorem allOf_mem (l : List ByteArray) (x : Int) : x ∈ allOf l ↔ ∃ s ∈ l, hashF s = x := by unfold allOf; rw [intoAll_mem]; simp
theorem allOf_u64 {l : List ByteArray} (h : ∀ s ∈ l, s.size ≤ 60) : ∀ x ∈ allOf l, U64 x := fun x hx => by
  obtain ⟨s, hs, rfl⟩ := (allOf_mem l x).1 hx
  exact (hash_both s (by have := h s hs; omega)).1
theorem short_mem {l : List ByteArray} (h : isLong l = false) : ∀ s ∈ l, s.size ≤ 60 := fun s hs => by
  obtain ⟨i, hi⟩ := List.getElem?_of_mem hs
  exact (short_of h).2 i s hi

set_option maxHeartbeats 1000000 in
theorem fill_ok (k : Int) (A : Option Addr) (n cap : Nat) (l : List ByteArray) (w : World) (hA : StrArg w A n cap l) (hL : isLong l = false) :
    Calls Try.prog 23 #[.int .i64 k, .slice A n cap] w fun e w' => e = .returned (.pointer (some ⟨w.heap.size, 0, none⟩)) ∧ Own w w' w.heap.size (sizeK k) (allOf l) := by
  have HA := Lib.hid hA
  have HS := Lib.hid (short_of hL)
  have hn2 : n ≤ 200 := by have := HA.out.1; have := HS.out.1; omega
  clear hA hL
  obtain ⟨q, hq⟩ : ∃ q, sizeK k = q := ⟨_, rfl⟩
  have HQ : Hid (1 ≤ q ∧ q ≤ 4096) := by rw [← hq]; exact sizeK_range k
  have Hq := Lib.hid hq
  rw [hq]
  clear hq
  go_enter Try.func23, Try.ntmps23
  go_wp2_with fail
  refine (new_own k _).mono ?_
  rw [Hq.out]
  rintro e w2 ⟨rfl, hO⟩
  have O := Lib.hid hO
  clear hO
  go_wp2_with fail
  go_loopw [14] (fun s14 wr => ∃ i : Nat, i ≤ n ∧ s14 = .int .i64 i ∧ Hid (Own w wr w.heap.size q (allOf (l.take i)))) (fun s14 _ => n - (intOf s14).toNat)
  case atStart => exact ⟨0, Nat.zero_le _, rfl, by rw [List.take_zero]; exact O.out⟩
  case round =>
    clear O
    obtain ⟨i, hi, rfl, O⟩ := hrel
    by_cases hlt : i < n
    · have hlt' : (i : Int) < n := by omega
      obtain ⟨b, o, rfl, hcell⟩ := (HA.out.later O.out.bel).at (by omega)
      obtain ⟨s, hs⟩ : ∃ s, l[i]? = some s := ⟨_, List.getElem?_eq_getElem (by have := HA.out.1; omega)⟩
      have hc := hcell i s hs
      have hs60 := HS.out.2 i s hs
      have N : Hid (allOf (l.take (i + 1)) = into (allOf (l.take i)) (hashF s)) := by
        obtain ⟨h1, h2⟩ := List.getElem?_eq_some_iff.1 hs
        unfold Hid
        rw [List.take_succ_eq_append_getElem h1, h2]
        exact intoAll_snoc _ _ _
      clear hcell hs
      go_wp2_with fail
      refine (add_own w _ w.heap.size q _ s O.out (allOf_rise _) HQ.out.1 HQ.out.2 (by omega)).mono ?_
      rw [← N.out]
      rintro e w3 ⟨rfl, hO⟩
      have O := Lib.hid hO
      clear hO hc
      go_wp2_with fail
      go_roundw
      case rel => exact ⟨i + 1, by omega, by go_num, O⟩
      case measure => simp [intOf]; omega
    · obtain rfl : i = n := by omega
      have e : l.take i = l := List.take_of_length_le (by have := HA.out.1; omega)
      rw [e] at O
      go_wp2_with fail
      go_ret
      exact ⟨rfl, O.out⟩

theorem same_loop (xs ys : List Int) (hl : xs.length = ys.length) (hm : xs.length ≤ 9223372036854775807) : ∀ (d i k : Nat), i + d = xs.length → d < k → KA.ciceroneref13_Same.l0 k xs ys i = some (decide (xs.drop i = ys.drop i)) := by
  intro d
  induction d with
  | zero =>
    intro i k hi hk
    obtain ⟨k, rfl⟩ : ∃ m, k = m + 1 := ⟨k - 1, by omega⟩
    rw [KA.ciceroneref13_Same.l0, if_neg (by omega), List.drop_eq_nil_of_le (by omega), List.drop_eq_nil_of_le (by omega)]
    rfl
  | succ d ih =>
    intro i k hi hk
    obtain ⟨k, rfl⟩ : ∃ m, k = m + 1 := ⟨k - 1, by omega⟩
    have hx : i < xs.length := by omega
    have hy : i < ys.length := by omega
    have e1 : rd xs (i : Int) = xs[i] := by unfold rd; rw [Int.toNat_natCast, List.getD_eq_getElem?_getD, List.getElem?_eq_getElem hx]; rfl
    have e2 : rd ys (i : Int) = ys[i] := by unfold rd; rw [Int.toNat_natCast, List.getD_eq_getElem?_getD, List.getElem?_eq_getElem hy]; rfl
    rw [KA.ciceroneref13_Same.l0, if_pos (by omega), if_pos (by omega), if_pos (by omega), e1, e2, List.drop_eq_getElem_cons hx, List.drop_eq_getElem_cons hy]
    by_cases h : xs[i] = ys[i]
    · rw [if_pos h, show wrap64 ((i : Int) + 1) = ((i + 1 : Nat) : Int) by unfold wrap64; omega, ih (i + 1) k (by omega) (by omega), h]
      simp only [List.cons.injEq, true_and]
    · rw [if_neg h]
      congr 1
      symm
      apply decide_eq_false
      intro e
      exact h (List.cons.inj e).1
theorem same_ok (w : World) (A B : Option Addr) (c d : Nat) (xs ys : List Int) (hx : Kd.C (Kd.int .u64) w A xs.length xs) (hc : xs.length ≤ c) (hy : Kd.C (Kd.int .u64) w B ys.length ys) (hd : ys.length ≤ d) :
    Calls Try.prog 24 #[.slice A xs.length c, .slice B ys.length d] w fun e w' => e = .returned (.bool (decide (xs = ys))) ∧ Below w.heap.size w w' := by
  refine (KA.ciceroneref13_Same.calls (xs.length + 1) A c xs B d ys (decide (xs = ys)) w hx hc hy hd ?_).mono fun _ _ ⟨h1, h2⟩ => ⟨h1, below_drawn h2⟩
  unfold KA.ciceroneref13_Same.f
  by_cases h : xs.length = ys.length
  · rw [if_pos (by omega), show (0 : Int) = ((0 : Nat) : Int) from rfl, same_loop xs ys h hx.2.1 xs.length 0 (xs.length + 1) (by omega) (by omega)]
    rfl
  · rw [if_neg (by omega)]
    congr 1
    symm
    exact decide_eq_false (fun e => h (by rw [e]))
end Go.Proofs.Ytlbpdlhelkokbaa
