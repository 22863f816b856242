/- The walk of the law of growth. -/
import Derived.Test.YtlbpdlhelkokbaaOpenStrs
namespace Go.Proofs.Ytlbpdlhelkokbaa
open Go.RowKit

theorem into_grow (l : List Int) (h : Int) : l.length ≤ (into l h).length := by rw [into_len]; split <;> omega
theorem least_grow (l : List Int) (h : Int) (k : Nat) : leastN l k ≤ leastN (into l h) k := by
  have := into_grow l h
  unfold leastN
  split <;> split <;> omega
theorem again (l : List Int) (h : Int) (k : Nat) (hf : fresh l k h = true) : into (into l h) h = into l h ∧ fresh (into l h) k h = false := by
  have h1 : h ∈ into l h := (into_mem l h h).2 (.inl rfl)
  have e : into (into l h) h = into l h := by rw [into, if_pos h1]
  refine ⟨e, ?_⟩
  unfold fresh at hf ⊢
  rw [e]
  simp only [Bool.and_eq_true] at hf
  rw [hf.1]; rfl

set_option maxHeartbeats 2000000 in
theorem grows_law (k : Int) (A : Option Addr) (n cap : Nat) (l : List ByteArray) (w : World) (hA : StrArg w A n cap l) :
    Calls Try.prog 4 #[.int .i64 k, .slice A n cap] w fun e w' => e = .returned (.bool true) ∧ Below w.heap.size w w' := by
  have HA := Lib.hid hA
  have hn : n ≤ 9223372036854775807 := by have := hA.1; have := hA.2.1.2.1; omega
  clear hA
  go_enter Try.func4, Try.ntmps4
  go_wp2_with fail
  refine (long_ok A n cap l _ HA.out).mono ?_
  rintro e w1 ⟨rfl, hb⟩
  have HA := Lib.hid (HA.out.later hb)
  have K := Lib.hid hb
  clear hb
  cases hL : isLong l with
  | true =>
    go_wp2_with fail
    refine (awake_ok _).mono ?_
    rintro e w2 ⟨rfl, hb⟩
    have K := Lib.hid (below_after K.out hb)
    clear hb
    go_wp2_with fail
    go_ret
    exact ⟨rfl, K.out⟩
  | false =>
    have HS := Lib.hid (short_of hL)
    have hn2 : n ≤ 200 := by have := HA.out.1; have := HS.out.1; omega
    clear hL hn
    obtain ⟨q, hq⟩ : ∃ q, sizeK k = q := ⟨_, rfl⟩
    have HQ : Hid (1 ≤ q ∧ q ≤ 4096) := by rw [← hq]; exact sizeK_range k
    go_wp2_with fail
    refine (new_own k _).mono ?_
    rw [hq]
    clear hq
    rintro e w2 ⟨rfl, hO⟩
    have O := Lib.hid hO
    clear hO
    go_wp2_with fail
    refine (count_exact w1.heap.size q _ _ _ O.out.choose_spec.1 (by simp)).mono ?_
    rintro e w3 ⟨rfl, hb⟩
    have O := Lib.hid (own_after O.out hb)
    clear hb
    go_wp2_with fail
    refine (exact_ok w1.heap.size q _ _ _ O.out.choose_spec.1).mono ?_
    rw [show decide (([] : List Int).length ≤ q) = true from decide_eq_true (Nat.zero_le _)]
    rintro e w4 ⟨rfl, hb⟩
    have O := Lib.hid (own_after O.out hb)
    clear hb
    go_wp2_with fail
    refine (least_ok w1.heap.size q _ _ _ O.out.choose_spec.1 HQ.out.2).mono ?_
    rw [show leastN [] q = 0 by unfold leastN; rw [if_neg (by simp)]; rfl]
    rintro e w5 ⟨rfl, hb⟩
    have O := Lib.hid (own_after O.out hb)
    clear hb
    go_wp2_with fail
    go_loopw [6, 7, 35] (fun s6 s7 s35 wr => ∃ (i : Nat) (L : Int) (m : Bool), i ≤ n ∧ s35 = .int .i64 i ∧ s6 = .int .i64 L ∧ s7 = .bool m ∧ Hid (∃ full, L = leastN full q ∧ m = decide (full.length ≤ q) ∧ Own w1 wr w1.heap.size q full ∧ Rise full)) (fun _ _ s35 _ => n - (intOf s35).toNat)
    case atStart => exact ⟨0, 0, true, Nat.zero_le _, rfl, rfl, rfl, [], by unfold leastN; rw [if_neg (by simp)]; rfl, (decide_eq_true (Nat.zero_le _)).symm, O.out, rise_nil⟩
    case round =>
      clear O
      obtain ⟨i, L, m, hi, rfl, rfl, rfl, H⟩ := hrel
      by_cases hlt : i < n
      · have hlt' : (i : Int) < n := by omega
        obtain ⟨full, hL, hm, O, hR⟩ := H.out
        clear H
        obtain ⟨b, o, rfl, hcell⟩ := (HA.out.later O.bel).at (by omega)
        obtain ⟨s, hs⟩ : ∃ s, l[i]? = some s := ⟨_, List.getElem?_eq_getElem (by have := HA.out.1; omega)⟩
        have hc := hcell i s hs
        have hs60 := HS.out.2 i s hs
        obtain ⟨h, hh⟩ : ∃ h, hashF s = h := ⟨_, rfl⟩
        obtain ⟨L', hL'⟩ : ∃ L', leastN (into full h) q = L' := ⟨_, rfl⟩
        obtain ⟨m', hm'⟩ : ∃ m', decide ((into full h).length ≤ q) = m' := ⟨_, rfl⟩
        obtain ⟨f, hf⟩ : ∃ f, fresh full q h = f := ⟨_, rfl⟩
        have hLL : L ≤ L' := by rw [hL, ← hL']; exact least_grow _ _ _
        have hmm : m' = true → m = true := fun e => by
          rw [hm]; rw [e] at hm'
          have := of_decide_eq_true hm'
          have := into_grow full h
          exact decide_eq_true (by omega)
        have hag := again full h q
        have R2 := Lib.hid (into_rise h hR)
        have E := Lib.hid (And.intro hh (And.intro hL' (And.intro hm' (And.intro hf hag))))
        have O := Lib.hid O
        have R := Lib.hid hR
        clear hcell hs hh hL' hm' hf hL hm hag hR
        go_wp2_with fail
        refine (add_own w1 _ w1.heap.size q full s O.out R.out HQ.out.1 HQ.out.2 (by omega)).mono ?_
        rw [E.out.1, E.out.2.2.2.1]
        rintro e u1 ⟨rfl, hO⟩
        have O := Lib.hid hO
        clear hO hc
        go_wp2_with fail
        refine (least_ok w1.heap.size q _ _ _ O.out.choose_spec.1 HQ.out.2).mono ?_
        rw [E.out.2.1]
        rintro e u2 ⟨rfl, hb⟩
        have O := Lib.hid (own_after O.out hb)
        clear hb
        go_wp2_with fail
        refine (exact_ok w1.heap.size q _ _ _ O.out.choose_spec.1).mono ?_
        rw [E.out.2.2.1]
        rintro e u3 ⟨rfl, hb⟩
        have O := Lib.hid (own_after O.out hb)
        clear hb
        have hc : (m' = false) ∨ (m' = true ∧ m = true) := by
          cases m' with
          | true => exact .inr ⟨rfl, hmm rfl⟩
          | false => exact .inl rfl
        clear hmm
        have fin : ∀ u, Hid (Own w1 u w1.heap.size q (into full h)) → Hid (∃ full, L' = leastN full q ∧ m' = decide (full.length ≤ q) ∧ Own w1 u w1.heap.size q full ∧ Rise full) :=
          fun u h1 => ⟨into full h, E.out.2.1.symm, E.out.2.2.1.symm, h1.out, R2.out⟩
        have FIN := Lib.hid fin
        clear fin
        cases f with
        | false =>
          rcases hc with rfl | ⟨rfl, rfl⟩
          all_goals
            go_wp2_with fail
            refine (least_ok w1.heap.size q _ _ _ O.out.choose_spec.1 HQ.out.2).mono ?_
            rw [E.out.2.1]
            rintro e u5 ⟨rfl, hb⟩
            have O := Lib.hid (own_after O.out hb)
            clear hb
            go_wp2_with fail
            refine (exact_ok w1.heap.size q _ _ _ O.out.choose_spec.1).mono ?_
            rw [E.out.2.2.1]
            rintro e u6 ⟨rfl, hb⟩
            have O := Lib.hid (own_after O.out hb)
            clear hb
            go_wp2_with fail
            go_roundw
            case rel => exact ⟨i + 1, L', _, by omega, by go_num, rfl, rfl, FIN.out _ O⟩
            case measure => simp [intOf]; omega
        | true =>
          obtain ⟨e1, e2⟩ := E.out.2.2.2.2 E.out.2.2.2.1
          have E2 := Lib.hid (And.intro e1 e2)
          clear e1 e2
          rcases hc with rfl | ⟨rfl, rfl⟩
          all_goals
            go_wp2_with fail
            refine (add_own w1 _ w1.heap.size q _ s O.out R2.out HQ.out.1 HQ.out.2 (by omega)).mono ?_
            rw [E.out.1, E2.out.1, E2.out.2]
            rintro e u4 ⟨rfl, hO⟩
            have O := Lib.hid hO
            clear hO
            go_wp2_with fail
            refine (least_ok w1.heap.size q _ _ _ O.out.choose_spec.1 HQ.out.2).mono ?_
            rw [E.out.2.1]
            rintro e u5 ⟨rfl, hb⟩
            have O := Lib.hid (own_after O.out hb)
            clear hb
            go_wp2_with fail
            refine (exact_ok w1.heap.size q _ _ _ O.out.choose_spec.1).mono ?_
            rw [E.out.2.2.1]
            rintro e u6 ⟨rfl, hb⟩
            have O := Lib.hid (own_after O.out hb)
            clear hb
            go_wp2_with fail
            go_roundw
            case rel => exact ⟨i + 1, L', _, by omega, by go_num, rfl, rfl, FIN.out _ O⟩
            case measure => simp [intOf]; omega
      · obtain rfl : i = n := by omega
        obtain ⟨full, _, _, O, _⟩ := H.out
        have K := Lib.hid (below_after K.out O.bel)
        clear H O
        go_wp2_with fail
        refine (awake_ok _).mono ?_
        rintro e u2 ⟨rfl, hb⟩
        have K := Lib.hid (below_after K.out hb)
        clear hb
        go_wp2_with fail
        go_ret
        exact ⟨rfl, K.out⟩
end Go.Proofs.Ytlbpdlhelkokbaa
