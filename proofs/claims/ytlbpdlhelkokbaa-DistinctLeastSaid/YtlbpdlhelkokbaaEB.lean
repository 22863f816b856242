/- The walk of the law of the least. -/
import Derived.Test.YtlbpdlhelkokbaaEA
import Derived.Test.YtlbpdlhelkokbaaKB
namespace Go.Proofs.Ytlbpdlhelkokbaa
open Go.RowKit Go.Proofs.YtlbpdlhelkokbaaW.PrintWords

theorem strs_eq {a b : ByteArray} : ((a.toList != b.toList) = true) ↔ a ≠ b := by
  have e : a.toList = b.toList ↔ a = b := by
    constructor
    · intro h
      rw [ByteArray.toList_eq, ByteArray.toList_eq] at h
      exact ByteArray.ext (Array.ext' h)
    · intro h; rw [h]
  simp only [bne_iff_ne, ne_eq, e]

theorem unlike_in (l : List ByteArray) (i : Nat) (x3 r1 r0 : Int) (K : Nat) (hi : i < l.length) (hn : l.length ≤ 200)
    (h1 : ∀ k, K ≤ k → KB.ciceroneref13_Unlike.l0 k l (wrap64 (x3 + 1)) ((i + 1 : Nat) : Int) = some r1) (h0 : ∀ k, K ≤ k → KB.ciceroneref13_Unlike.l0 k l x3 ((i + 1 : Nat) : Int) = some r0) :
    ∀ (e j : Nat) (first : Bool), j + e = i → ∃ fin : Bool, (fin = false → first = true → ∃ t s, t < i ∧ l[t]? = some s ∧ l[i]? = some s) ∧
      ∀ k, K + e + 1 ≤ k → KB.ciceroneref13_Unlike.l1 k l x3 i first j = some (if fin then r1 else r0) := by
  intro e
  have wn : ∀ t : Nat, t ≤ 200 → wrap64 ((t : Int) + 1) = ((t + 1 : Nat) : Int) := fun t ht => by unfold wrap64; omega
  induction e with
  | zero =>
    intro j first hj
    refine ⟨first, (fun h1 h2 => by rw [h1] at h2; cases h2), fun k hk => ?_⟩
    obtain ⟨k, rfl⟩ : ∃ m, k = m + 1 := ⟨k - 1, by omega⟩
    rw [KB.ciceroneref13_Unlike.l1, if_neg (by omega), wn i (by omega)]
    cases first with
    | true => rw [if_pos rfl]; exact h1 k (by omega)
    | false => rw [if_neg (by simp)]; exact h0 k (by omega)
  | succ e ih =>
    intro j first hj
    have hjl : j < l.length := by omega
    have r1' : rdOf ByteArray.empty l (j : Int) = l[j] := by unfold rdOf; rw [Int.toNat_natCast, List.getD_eq_getElem?_getD, List.getElem?_eq_getElem hjl]; rfl
    have r2' : rdOf ByteArray.empty l (i : Int) = l[i] := by unfold rdOf; rw [Int.toNat_natCast, List.getD_eq_getElem?_getD, List.getElem?_eq_getElem hi]; rfl
    cases first with
    | true =>
      obtain ⟨fin, hf, hk'⟩ := ih (j + 1) (l[j].toList != l[i].toList) (by omega)
      refine ⟨fin, fun hfin _ => ?_, fun k hk => ?_⟩
      · by_cases hne : l[j] = l[i]
        · exact ⟨j, l[i], by omega, by rw [List.getElem?_eq_getElem hjl, hne], List.getElem?_eq_getElem hi⟩
        · exact hf hfin (strs_eq.2 hne)
      · obtain ⟨k, rfl⟩ : ∃ m, k = m + 1 := ⟨k - 1, by omega⟩
        rw [KB.ciceroneref13_Unlike.l1, if_pos (by omega), if_pos rfl, if_pos (by omega), if_pos (by omega), if_pos (by omega), if_pos (by omega), wn j (by omega), r1', r2']
        exact hk' k (by omega)
    | false =>
      obtain ⟨fin, hf, hk'⟩ := ih (j + 1) false (by omega)
      refine ⟨fin, (fun _ h => by simp at h), fun k hk => ?_⟩
      obtain ⟨k, rfl⟩ : ∃ m, k = m + 1 := ⟨k - 1, by omega⟩
      rw [KB.ciceroneref13_Unlike.l1, if_pos (by omega), if_neg (by simp), wn j (by omega)]
      exact hk' k (by omega)

theorem unlike_out (l : List ByteArray) (hn : l.length ≤ 200) : ∀ (d i : Nat) (x3 : Int), i + d = l.length → 0 ≤ x3 → x3 ≤ i →
    ∃ (r : Int) (K : Nat), (∀ k, K ≤ k → KB.ciceroneref13_Unlike.l0 k l x3 i = some r) ∧ x3 + (allOf l).length ≤ r + (allOf (l.take i)).length ∧ r ≤ x3 + d := by
  intro d
  induction d with
  | zero =>
    intro i x3 hi h0 h1
    refine ⟨x3, 1, fun k hk => ?_, by rw [List.take_of_length_le (by omega)]; omega, by omega⟩
    obtain ⟨k, rfl⟩ : ∃ m, k = m + 1 := ⟨k - 1, by omega⟩
    rw [KB.ciceroneref13_Unlike.l0, if_neg (by omega)]
  | succ d ih =>
    intro i x3 hi h0 h1
    have hil : i < l.length := by omega
    obtain ⟨r1, K1, a1, b1, c1⟩ := ih (i + 1) (x3 + 1) (by omega) (by omega) (by omega)
    obtain ⟨r0, K0, a0, b0, c0⟩ := ih (i + 1) x3 (by omega) (by omega) (by omega)
    have w1 : wrap64 (x3 + 1) = x3 + 1 := by unfold wrap64; omega
    obtain ⟨fin, hf, hk⟩ := unlike_in l i x3 r1 r0 (max K1 K0) hil hn (fun k hk => by rw [w1]; exact a1 k (by omega)) (fun k hk => a0 k (by omega)) i 0 true (by omega)
    have hs : allOf (l.take (i + 1)) = into (allOf (l.take i)) (hashF l[i]) := by
      rw [List.take_succ_eq_append_getElem hil]
      exact intoAll_snoc _ _ _
    have hlen := into_len (allOf (l.take i)) (hashF l[i])
    rw [← hs] at hlen
    refine ⟨if fin then r1 else r0, max K1 K0 + i + 2, fun k hk' => ?_, ?_, ?_⟩
    · obtain ⟨k, rfl⟩ : ∃ m, k = m + 1 := ⟨k - 1, by omega⟩
      rw [KB.ciceroneref13_Unlike.l0, if_pos (by omega)]
      exact hk k (by omega)
    · cases fin with
      | true =>
        rw [if_pos rfl]
        split at hlen <;> omega
      | false =>
        rw [if_neg (by simp)]
        obtain ⟨t, s, ht, hts, his⟩ := hf rfl rfl
        have e : l[i] = s := by rw [List.getElem?_eq_getElem hil] at his; exact Option.some.inj his
        have hm : hashF l[i] ∈ allOf (l.take i) := (allOf_mem _ _).2 ⟨s, List.mem_of_getElem? (by rw [List.getElem?_take, if_pos ht]; exact hts), by rw [e]⟩
        rw [if_pos hm] at hlen
        omega
    · cases fin with
      | true => rw [if_pos rfl]; omega
      | false => rw [if_neg (by simp)]; omega

theorem unlike_ok (A : Option Addr) (n cap : Nat) (l : List ByteArray) (w : World) (h : StrArg w A n cap l) (hL : isLong l = false) :
    ∃ r : Int, ((allOf l).length : Int) ≤ r ∧ ∀ w, StrArg w A n cap l → Calls Try.prog 26 #[.slice A n cap] w fun e w' => e = .returned (.int .i64 r) ∧ Below w.heap.size w w' := by
  obtain ⟨r, K, hk, h1, h2⟩ := unlike_out l (short_of hL).1 l.length 0 0 (by omega) (by omega) (by omega)
  refine ⟨r, by have : (allOf (l.take 0)).length = 0 := rfl; omega, fun w h => ?_⟩
  obtain ⟨rfl, hC, hc⟩ := h
  exact (KB.ciceroneref13_Unlike.calls K A cap l r w hC hc (hk K (Nat.le_refl _))).mono fun _ _ ⟨h1, h2⟩ => ⟨h1, below_drawn h2⟩

theorem count_least (l : List Int) (k : Nat) (hk : k ≤ 4096) : leastN l k ≤ countN l k := by
  unfold leastN countN
  by_cases h : l.length ≤ k
  · rw [if_neg (by omega), if_pos h]; omega
  · rw [if_pos (by omega), if_neg h]
    split <;> omega

set_option maxHeartbeats 2000000 in
theorem least_law (k : Int) (A : Option Addr) (n cap : Nat) (l : List ByteArray) (w : World) (hA : StrArg w A n cap l) :
    Calls Try.prog 7 #[.int .i64 k, .slice A n cap] w fun e w' => e = .returned (.bool true) ∧ Below w.heap.size w w' := by
  have HA := Lib.hid hA
  have hn : n ≤ 9223372036854775807 := by have := hA.1; have := hA.2.1.2.1; omega
  cases hL : isLong l with
  | true =>
    clear hA
    go_enter Try.func7, Try.ntmps7
    go_wp2_with fail
    refine (long_ok A n cap l _ HA.out).mono ?_
    rw [hL]
    rintro e w1 ⟨rfl, hb⟩
    have K := Lib.hid hb
    clear hb
    go_wp2_with fail
    refine (awake_ok _).mono ?_
    rintro e w2 ⟨rfl, hb⟩
    have K := Lib.hid (below_after K.out hb)
    clear hb
    go_wp2_with fail
    go_ret
    exact ⟨rfl, K.out⟩
  | false =>
    obtain ⟨un, hun, hU⟩ := unlike_ok A n cap l w hA hL
    have HU := Lib.hid hU
    have HL := Lib.hid hL
    have HS := Lib.hid (short_of hL)
    have HM := Lib.hid (short_mem hL)
    have hn2 : n ≤ 200 := by have := HA.out.1; have := HS.out.1; omega
    clear hn hU hL hA
    obtain ⟨q, hq⟩ : ∃ q, sizeK k = q := ⟨_, rfl⟩
    have HQ : Hid (1 ≤ q ∧ q ≤ 4096) := by rw [← hq]; exact sizeK_range k
    obtain ⟨m, hm⟩ : ∃ m, decide ((allOf l).length ≤ q) = m := ⟨_, rfl⟩
    obtain ⟨cn, hcn⟩ : ∃ cn, countN (allOf l) q = cn := ⟨_, rfl⟩
    obtain ⟨ln, hln⟩ : ∃ ln, leastN (allOf l) q = ln := ⟨_, rfl⟩
    obtain ⟨xs, hxs⟩ : ∃ xs, (allOf l).take q = xs := ⟨_, rfl⟩
    have f1 : ln ≤ un := by rw [← hln]; unfold leastN; split <;> omega
    have f2 : ln ≤ cn := by rw [← hln, ← hcn]; exact count_least _ _ HQ.out.2
    have f3 : Hid (m = true → cn ≤ un ∧ xs = allOf l) := fun e => by
      rw [e] at hm
      have hle := of_decide_eq_true hm
      refine ⟨by rw [← hcn]; unfold countN; rw [if_pos hle]; exact hun, by rw [← hxs]; exact List.take_of_length_le hle⟩
    have E := Lib.hid (And.intro hq (And.intro hm (And.intro hcn (And.intro hln hxs))))
    have hxl : xs.length ≤ 4096 := by have := HQ.out.2; rw [← hxs, List.length_take]; omega
    clear hq hm hcn hln hxs hun
    have g1 : ¬ un < ln := by omega
    have g2 : ¬ cn < ln := by omega
    clear f1 f2
    go_enter Try.func7, Try.ntmps7
    go_wp2_with fail
    refine (long_ok A n cap l _ HA.out).mono ?_
    rw [HL.out]
    rintro e w1 ⟨rfl, hb⟩
    have HA := Lib.hid (HA.out.later hb)
    have K := Lib.hid hb
    clear hb
    go_wp2_with fail
    refine (fill_ok k A n cap l _ HA.out HL.out).mono ?_
    rw [E.out.1]
    rintro e w2 ⟨rfl, hO⟩
    have O := Lib.hid hO
    clear hO
    go_wp2_with fail
    refine (HU.out _ (HA.out.later O.out.bel)).mono ?_
    rintro e w3 ⟨rfl, hb⟩
    have O := Lib.hid (own_after O.out hb)
    clear hb HU
    go_wp2_with fail
    refine (least_ok _ q _ _ _ (cnt_own O.out) HQ.out.2).mono ?_
    rw [E.out.2.2.2.1]
    rintro e w4 ⟨rfl, hb⟩
    have O := Lib.hid (own_after O.out hb)
    clear hb
    go_wp2_with fail
    refine (count_ok _ q _ _ _ (cnt_own O.out) HQ.out.1 HQ.out.2 (allOf_u64 HM.out)).mono ?_
    rw [E.out.2.2.1]
    rintro e w5 ⟨rfl, hb⟩
    have O := Lib.hid (own_after O.out hb)
    clear hb
    go_wp2_with fail
    refine (least_ok _ q _ _ _ (cnt_own O.out) HQ.out.2).mono ?_
    rw [E.out.2.2.2.1]
    rintro e w6 ⟨rfl, hb⟩
    have O := Lib.hid (own_after O.out hb)
    clear hb
    go_wp2_with fail
    refine (exact_ok _ q _ _ _ (cnt_own O.out)).mono ?_
    rw [E.out.2.1]
    rintro e w7 ⟨rfl, hb⟩
    have O := Lib.hid (own_after O.out hb)
    clear hb
    have hcase : m = false ∨ (m = true ∧ ¬ un < cn) := by
      cases m with
      | false => exact .inl rfl
      | true => exact .inr ⟨rfl, by have := (f3.out rfl).1; omega⟩
    have REST : ∀ u, Hid (Own w1 u w1.heap.size q (allOf l)) → True := fun _ _ => trivial
    clear REST
    rcases hcase with rfl | ⟨rfl, g3⟩
    · go_wp2_with fail
      go_loopw [45] (fun s45 wr => ∃ i : Nat, i ≤ n ∧ s45 = .int .i64 i ∧ Hid (Own w1 wr w1.heap.size q (allOf l))) (fun s45 _ => n - (intOf s45).toNat)
      case atStart => exact ⟨0, by omega, rfl, O⟩
      case round =>
        clear O
        obtain ⟨i, hi, rfl, O⟩ := hrel
        obtain ⟨wo, rfl⟩ : ∃ wo : World, wo = wr := ⟨_, rfl⟩
        by_cases hlt : i < n
        · have hlt' : (i : Int) < n := by omega
          obtain ⟨b, o, rfl, hcell⟩ := (HA.out.later O.out.bel).at (by omega)
          obtain ⟨s, hs⟩ : ∃ s, l[i]? = some s := ⟨_, List.getElem?_eq_getElem (by have := HA.out.1; omega)⟩
          have hc := hcell _ s hs
          have hs60 := HS.out.2 _ s hs
          obtain ⟨h, hh⟩ : ∃ h, hashF s = h := ⟨_, rfl⟩
          have HH : Hid (hashF s = h ∧ h ∈ allOf l) := ⟨hh, (allOf_mem l h).2 ⟨s, List.mem_of_getElem? hs, hh⟩⟩
          clear hcell hs hh
          go_wp2_with fail
          refine (hashes_ok _ q _ _ _ (cnt_own O.out) HQ.out.2).mono ?_
          rw [E.out.2.2.2.2]
          rintro e u1 ⟨⟨V, rfl, hV⟩, hb⟩
          have O := Lib.hid (own_after O.out hb)
          clear hb hc
          obtain ⟨A1, c1, rfl, hc1, hK1⟩ := own_reads hV
          have HV := Lib.hid hV
          clear hV hK1
          obtain ⟨xn, hxn⟩ : ∃ xn, xs.length = xn := ⟨_, rfl⟩
          have HX := Lib.hid hxn
          rw [hxn] at HV
          go_wp2_with fail
          go_loopw [52, 9] (fun s52 s9 wr => ∃ (j : Nat) (f : Bool), j ≤ xn ∧ s52 = .int .i64 j ∧ s9 = .bool f ∧ Hid (f = decide (h ∈ xs.take j) ∧ Below u1.heap.size u1 wr)) (fun s52 _ _ => xn - (intOf s52).toNat)
          case atStart => exact ⟨0, false, by omega, rfl, rfl, by simp, Below.refl _ _⟩
          case round =>
            obtain ⟨j, f, hj, rfl, rfl, H⟩ := hrel
            by_cases hjl : j < xn
            · have hjl' : (j : Int) < xn := by omega
              have hR := own_later HV.out H.out.2
              rcases hR.2 with ⟨_, h0⟩ | ⟨ro, c, cur, he, _, _, _, _, _, _⟩
              · omega
              · obtain rfl : A1 = some ⟨ro, 0, none⟩ := by injection he
                obtain ⟨x, hx⟩ : ∃ x, xs[j]? = some x := ⟨_, List.getElem?_eq_getElem (by have := HX.out; omega)⟩
                have x0 := row_cell' hR hx
                have N : Hid (decide (h ∈ xs.take (j + 1)) = (f || decide (h = x))) := by
                  obtain ⟨g1, g2⟩ := List.getElem?_eq_some_iff.1 hx
                  unfold Hid
                  rw [H.out.1, List.take_succ_eq_append_getElem g1, g2]
                  by_cases e1 : h ∈ xs.take j <;> by_cases e2 : h = x <;> simp [e1, e2]
                clear hR he hx
                cases f with
                | true =>
                  go_wp2_with fail
                  go_roundw
                  case rel => exact ⟨j + 1, true, by omega, by go_num, rfl, by rw [N.out]; rfl, H.out.2⟩
                  case measure => simp [intOf]; omega
                | false =>
                  have hxh : (x == h) = decide (h = x) := by
                    by_cases e : h = x
                    · subst e; simp
                    · rw [decide_eq_false e]; simp only [beq_eq_false_iff_ne, ne_eq]; exact fun e2 => e e2.symm
                  obtain ⟨f2, hf2⟩ : ∃ f2, decide (h = x) = f2 := ⟨_, rfl⟩
                  rw [hf2] at hxh N
                  clear hf2
                  go_wp2_with fail
                  refine (hash_ok s (by omega) _).mono ?_
                  rw [HH.out.1]
                  rintro e u2 ⟨rfl, hb⟩
                  have K2 := Lib.hid (below_after H.out.2 hb)
                  clear hb x0
                  go_wp2_with fail
                  go_roundw
                  case rel => exact ⟨j + 1, f2, by omega, by go_num, rfl, by rw [N.out]; rfl, K2.out⟩
                  case measure => simp [intOf]; omega
            · obtain rfl : j = xn := by omega
              have O := Lib.hid (own_after O.out H.out.2)
              clear H HV
              go_wp2_with fail
              refine (exact_ok _ q _ _ _ (cnt_own O.out)).mono ?_
              rw [E.out.2.1]
              rintro e u3 ⟨rfl, hb⟩
              have O := Lib.hid (own_after O.out hb)
              clear hb
              go_wp2_with fail
              go_roundw
              case rel => exact ⟨i + 1, by omega, by go_num, O⟩
              case measure => simp [intOf]; omega
        · have K2 := Lib.hid (below_after K.out O.out.bel)
          go_wp2_with fail
          refine (awake_ok _).mono ?_
          rintro e u2 ⟨rfl, hb⟩
          have K2 := Lib.hid (below_after K2.out hb)
          clear hb
          go_wp2_with fail
          go_ret
          exact ⟨rfl, K2.out⟩
    · go_wp2_with fail
      refine (count_ok _ q _ _ _ (cnt_own O.out) HQ.out.1 HQ.out.2 (allOf_u64 HM.out)).mono ?_
      rw [E.out.2.2.1]
      rintro e w8 ⟨rfl, hb⟩
      have O := Lib.hid (own_after O.out hb)
      clear hb
      go_wp2_with fail
      go_loopw [45] (fun s45 wr => ∃ i : Nat, i ≤ n ∧ s45 = .int .i64 i ∧ Hid (Own w1 wr w1.heap.size q (allOf l))) (fun s45 _ => n - (intOf s45).toNat)
      case atStart => exact ⟨0, by omega, rfl, O⟩
      case round =>
        clear O
        obtain ⟨i, hi, rfl, O⟩ := hrel
        obtain ⟨wo, rfl⟩ : ∃ wo : World, wo = wr := ⟨_, rfl⟩
        by_cases hlt : i < n
        · have hlt' : (i : Int) < n := by omega
          obtain ⟨b, o, rfl, hcell⟩ := (HA.out.later O.out.bel).at (by omega)
          obtain ⟨s, hs⟩ : ∃ s, l[i]? = some s := ⟨_, List.getElem?_eq_getElem (by have := HA.out.1; omega)⟩
          have hc := hcell _ s hs
          have hs60 := HS.out.2 _ s hs
          obtain ⟨h, hh⟩ : ∃ h, hashF s = h := ⟨_, rfl⟩
          have HH : Hid (hashF s = h ∧ h ∈ allOf l) := ⟨hh, (allOf_mem l h).2 ⟨s, List.mem_of_getElem? hs, hh⟩⟩
          clear hcell hs hh
          go_wp2_with fail
          refine (hashes_ok _ q _ _ _ (cnt_own O.out) HQ.out.2).mono ?_
          rw [E.out.2.2.2.2]
          rintro e u1 ⟨⟨V, rfl, hV⟩, hb⟩
          have O := Lib.hid (own_after O.out hb)
          clear hb hc
          obtain ⟨A1, c1, rfl, hc1, hK1⟩ := own_reads hV
          have HV := Lib.hid hV
          clear hV hK1
          obtain ⟨xn, hxn⟩ : ∃ xn, xs.length = xn := ⟨_, rfl⟩
          have HX := Lib.hid hxn
          rw [hxn] at HV
          go_wp2_with fail
          go_loopw [52, 9] (fun s52 s9 wr => ∃ (j : Nat) (f : Bool), j ≤ xn ∧ s52 = .int .i64 j ∧ s9 = .bool f ∧ Hid (f = decide (h ∈ xs.take j) ∧ Below u1.heap.size u1 wr)) (fun s52 _ _ => xn - (intOf s52).toNat)
          case atStart => exact ⟨0, false, by omega, rfl, rfl, by simp, Below.refl _ _⟩
          case round =>
            obtain ⟨j, f, hj, rfl, rfl, H⟩ := hrel
            by_cases hjl : j < xn
            · have hjl' : (j : Int) < xn := by omega
              have hR := own_later HV.out H.out.2
              rcases hR.2 with ⟨_, h0⟩ | ⟨ro, c, cur, he, _, _, _, _, _, _⟩
              · omega
              · obtain rfl : A1 = some ⟨ro, 0, none⟩ := by injection he
                obtain ⟨x, hx⟩ : ∃ x, xs[j]? = some x := ⟨_, List.getElem?_eq_getElem (by have := HX.out; omega)⟩
                have x0 := row_cell' hR hx
                have N : Hid (decide (h ∈ xs.take (j + 1)) = (f || decide (h = x))) := by
                  obtain ⟨g1, g2⟩ := List.getElem?_eq_some_iff.1 hx
                  unfold Hid
                  rw [H.out.1, List.take_succ_eq_append_getElem g1, g2]
                  by_cases e1 : h ∈ xs.take j <;> by_cases e2 : h = x <;> simp [e1, e2]
                clear hR he hx
                cases f with
                | true =>
                  go_wp2_with fail
                  go_roundw
                  case rel => exact ⟨j + 1, true, by omega, by go_num, rfl, by rw [N.out]; rfl, H.out.2⟩
                  case measure => simp [intOf]; omega
                | false =>
                  have hxh : (x == h) = decide (h = x) := by
                    by_cases e : h = x
                    · subst e; simp
                    · rw [decide_eq_false e]; simp only [beq_eq_false_iff_ne, ne_eq]; exact fun e2 => e e2.symm
                  obtain ⟨f2, hf2⟩ : ∃ f2, decide (h = x) = f2 := ⟨_, rfl⟩
                  rw [hf2] at hxh N
                  clear hf2
                  go_wp2_with fail
                  refine (hash_ok s (by omega) _).mono ?_
                  rw [HH.out.1]
                  rintro e u2 ⟨rfl, hb⟩
                  have K2 := Lib.hid (below_after H.out.2 hb)
                  clear hb x0
                  go_wp2_with fail
                  go_roundw
                  case rel => exact ⟨j + 1, f2, by omega, by go_num, rfl, by rw [N.out]; rfl, K2.out⟩
                  case measure => simp [intOf]; omega
            · obtain rfl : j = xn := by omega
              have O := Lib.hid (own_after O.out H.out.2)
              obtain rfl : f = true := by
                rw [H.out.1, List.take_of_length_le (by have := HX.out; omega), (f3.out (by trivial)).2]
                exact decide_eq_true HH.out.2
              clear H HV
              go_wp2_with fail
              refine (exact_ok _ q _ _ _ (cnt_own O.out)).mono ?_
              rw [E.out.2.1]
              rintro e u3 ⟨rfl, hb⟩
              have O := Lib.hid (own_after O.out hb)
              clear hb
              go_wp2_with fail
              go_roundw
              case rel => exact ⟨i + 1, by omega, by go_num, O⟩
              case measure => simp [intOf]; omega
        · have K2 := Lib.hid (below_after K.out O.out.bel)
          go_wp2_with fail
          refine (awake_ok _).mono ?_
          rintro e u2 ⟨rfl, hb⟩
          have K2 := Lib.hid (below_after K2.out hb)
          clear hb
          go_wp2_with fail
          go_ret
          exact ⟨rfl, K2.out⟩
end Go.Proofs.Ytlbpdlhelkokbaa
