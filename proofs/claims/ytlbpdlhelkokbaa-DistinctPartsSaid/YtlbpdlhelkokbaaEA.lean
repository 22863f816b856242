/- The walk of the law of orders. -/
import Derived.Test.YtlbpdlhelkokbaaDZ
namespace Go.Proofs.Ytlbpdlhelkokbaa
open Go.RowKit Go.Proofs.YtlbpdlhelkokbaaW.PrintWords

theorem cnt_own {w0 w : World} {g k : Nat} {l : List Int} (h : Own w0 w g k l) : Cnt w g k l h.choose := h.choose_spec.1

set_option maxHeartbeats 2000000 in
theorem orders_law (k : Int) (A : Option Addr) (n cap : Nat) (l : List ByteArray) (w : World) (hA : StrArg w A n cap l) :
    Calls Try.prog 6 #[.int .i64 k, .slice A n cap] w fun e w' => e = .returned (.bool true) ∧ Below w.heap.size w w' := by
  have HA := Lib.hid hA
  have hn : n ≤ 9223372036854775807 := by have := hA.1; have := hA.2.1.2.1; omega
  clear hA
  go_enter Try.func6, Try.ntmps6
  go_wp2_with fail
  refine (long_ok A n cap l _ HA.out).mono ?_
  rintro e w1 ⟨rfl, hb⟩
  have HA := Lib.hid (HA.out.later hb)
  have K := Lib.hid hb
  clear hb
  cases hL : isLong l with
  | true =>
    go_wp2_with fail
    refine (awake_ok _).mono ?_
    rintro e w2 ⟨rfl, hb⟩
    have K := Lib.hid (below_after K.out hb)
    clear hb
    go_wp2_with fail
    go_ret
    exact ⟨rfl, K.out⟩
  | false =>
    have HL := Lib.hid hL
    have HS := Lib.hid (short_of hL)
    have HM := Lib.hid (short_mem hL)
    have hn2 : n ≤ 200 := by have := HA.out.1; have := HS.out.1; omega
    clear hL hn
    obtain ⟨q, hq⟩ : ∃ q, sizeK k = q := ⟨_, rfl⟩
    have HQ : Hid (1 ≤ q ∧ q ≤ 4096) := by rw [← hq]; exact sizeK_range k
    have Hq := Lib.hid hq
    clear hq
    go_wp2_with fail
    refine (fill_ok k A n cap l _ HA.out HL.out).mono ?_
    rw [Hq.out]
    rintro e w2 ⟨rfl, hO⟩
    have OA := Lib.hid hO
    have HA := Lib.hid (HA.out.later hO.bel)
    clear hO
    go_wp2_with fail
    refine (new_own k _).mono ?_
    rw [Hq.out]
    rintro e w3 ⟨rfl, hO⟩
    have OB := Lib.hid hO
    clear hO
    go_wp2_with fail
    go_loopw [22] (fun s22 wr => ∃ j : Nat, j ≤ 2 ∧ s22 = .int .i64 j ∧ Hid (∃ full, Own w2 wr w2.heap.size q full ∧ Rise full ∧ (∀ x ∈ full, x ∈ allOf l) ∧ (1 ≤ j → ∀ x ∈ allOf l, x ∈ full))) (fun s22 _ => 2 - (intOf s22).toNat)
    case atStart => exact ⟨0, by omega, rfl, [], OB.out, rise_nil, by simp, fun h => by omega⟩
    case round =>
      clear OB
      obtain ⟨j, hj, rfl, H⟩ := hrel
      obtain ⟨wo, rfl⟩ : ∃ wo : World, wo = wr := ⟨_, rfl⟩
      by_cases hjl : j < 2
      · have hjl' : (j : Int) < 2 := by omega
        go_wp2_with fail
        go_loopw [26, 7] (fun s26 _ wr => ∃ i : Nat, i ≤ n ∧ s26 = .int .i64 i ∧ Hid (∃ full, Own w2 wr w2.heap.size q full ∧ Rise full ∧ (∀ x ∈ full, x ∈ allOf l) ∧ (1 ≤ j → ∀ x ∈ allOf l, x ∈ full) ∧ ∀ t s, n - i ≤ t → l[t]? = some s → hashF s ∈ full)) (fun s26 _ _ => n - (intOf s26).toNat)
        case atStart =>
          obtain ⟨full, h1, h2, h3, h4⟩ := H.out
          exact ⟨0, by omega, rfl, full, h1, h2, h3, h4, fun t s h5 h6 => by have := (List.getElem?_eq_some_iff.1 h6).1; have := HA.out.1; omega⟩
        case round =>
          clear H
          obtain ⟨i, hi, rfl, H⟩ := hrel
          by_cases hlt : i < n
          · have hlt' : (i : Int) < n := by omega
            obtain ⟨full, O, R, h3, h4, h5⟩ := H.out
            clear H
            obtain ⟨b, o, rfl, hcell⟩ := (HA.out.later O.bel).at (by omega)
            obtain ⟨s, hs⟩ : ∃ s, l[n - 1 - i]? = some s := ⟨_, List.getElem?_eq_getElem (by have := HA.out.1; omega)⟩
            have hc := hcell _ s hs
            have hs60 := HS.out.2 _ s hs
            have O := Lib.hid O
            have R := Lib.hid R
            have H3 := Lib.hid h3
            have H4 := Lib.hid h4
            have H5 := Lib.hid h5
            have HSS := Lib.hid hs
            have hx0 : (0 : Int) ≤ (n : Int) - 1 - i := by omega
            have hx1 : (n : Int) - 1 - i < n := by omega
            have hx2 : ((n : Int) - 1 - i).toNat = n - 1 - i := by omega
            clear hcell hs h3 h4 h5
            go_wp2_with fail
            refine (add_own w2 _ w2.heap.size q full s O.out R.out HQ.out.1 HQ.out.2 (by omega)).mono ?_
            rintro e u1 ⟨rfl, hO⟩
            have N : Hid (∃ full, Own w2 u1 w2.heap.size q full ∧ Rise full ∧ (∀ x ∈ full, x ∈ allOf l) ∧ (1 ≤ j → ∀ x ∈ allOf l, x ∈ full) ∧ ∀ t s, n - (i + 1) ≤ t → l[t]? = some s → hashF s ∈ full) := by
              refine ⟨_, hO, into_rise _ R.out, fun x hx => ?_, fun h x hx => (into_mem _ _ _).2 (.inr (H4.out h x hx)), fun t s' ht hs' => ?_⟩
              · rcases (into_mem _ _ _).1 hx with rfl | hx
                · exact (allOf_mem l _).2 ⟨s, List.mem_of_getElem? HSS.out, rfl⟩
                · exact H3.out x hx
              · by_cases e : t = n - 1 - i
                · subst e
                  rw [HSS.out] at hs'
                  cases hs'
                  exact (into_mem _ _ _).2 (.inl rfl)
                · exact (into_mem _ _ _).2 (.inr (H5.out t s' (by omega) hs'))
            clear hO hc H3 H4 H5 HSS
            go_wp2_with fail
            go_roundw
            case rel => exact ⟨i + 1, by omega, by go_num, N⟩
            case measure => simp [intOf]; omega
          · obtain rfl : i = n := by omega
            have N : Hid (∃ full, Own w2 wr w2.heap.size q full ∧ Rise full ∧ (∀ x ∈ full, x ∈ allOf l) ∧ (1 ≤ j + 1 → ∀ x ∈ allOf l, x ∈ full)) := by
              obtain ⟨full, O, R, h3, h4, h5⟩ := H.out
              refine ⟨full, O, R, h3, fun _ x hx => ?_⟩
              obtain ⟨s, hs, rfl⟩ := (allOf_mem l x).1 hx
              obtain ⟨t, ht⟩ := List.getElem?_of_mem hs
              exact h5 t s (by omega) ht
            clear H
            go_wp2_with fail
            go_roundw
            case rel => exact ⟨j + 1, by omega, by go_num, N⟩
            case measure => simp [intOf]; omega
      · obtain rfl : j = 2 := by omega
        have N : Hid (Own w2 wo w2.heap.size q (allOf l)) := by
          obtain ⟨full, O, R, h3, h4⟩ := H.out
          have e : full = allOf l := rise_ext _ _ R (allOf_rise l) fun x => ⟨h3 x, h4 (by omega) x⟩
          rw [← e]; exact O
        have OA := Lib.hid (own_after OA.out N.out.bel)
        have U := Lib.hid (allOf_u64 HM.out)
        clear H
        generalize allOf l = full at *
        obtain ⟨xs, hxs⟩ : ∃ xs, full.take q = xs := ⟨_, rfl⟩
        obtain ⟨m, hm⟩ : ∃ m, decide (full.length ≤ q) = m := ⟨_, rfl⟩
        obtain ⟨cn, hcn⟩ : ∃ cn, countN full q = cn := ⟨_, rfl⟩
        obtain ⟨ln, hln⟩ : ∃ ln, leastN full q = ln := ⟨_, rfl⟩
        have E := Lib.hid (And.intro hxs (And.intro hm (And.intro hcn hln)))
        clear hxs hm hcn hln
        go_wp2_with fail
        refine (hashes_ok _ q full _ _ (cnt_own OA.out) HQ.out.2).mono ?_
        rw [E.out.1]
        rintro e u1 ⟨⟨V, rfl, hV⟩, hb⟩
        have OA := Lib.hid (own_after OA.out hb)
        have N := Lib.hid (own_after N.out hb)
        obtain ⟨A1, c1, rfl, hc1, hK1⟩ := own_reads hV
        have H1 := Lib.hid (And.intro hc1 hK1)
        clear hb hV hc1 hK1
        go_wp2_with fail
        refine (hashes_ok _ q full _ _ (cnt_own N.out) HQ.out.2).mono ?_
        rw [E.out.1]
        rintro e u2 ⟨⟨V, rfl, hV⟩, hb⟩
        have OA := Lib.hid (own_after OA.out hb)
        have N := Lib.hid (own_after N.out hb)
        have H1 := Lib.hid (And.intro H1.out.1 (Kd.C_below H1.out.2 hb))
        obtain ⟨A2, c2, rfl, hc2, hK2⟩ := own_reads hV
        have H2 := Lib.hid (And.intro hc2 hK2)
        clear hb hV hc2 hK2
        go_wp2_with fail
        refine (same_ok _ A1 A2 c1 c2 xs xs H1.out.2 H1.out.1 H2.out.2 H2.out.1).mono ?_
        rw [decide_eq_true (rfl : xs = xs)]
        rintro e u3 ⟨rfl, hb⟩
        have OA := Lib.hid (own_after OA.out hb)
        have N := Lib.hid (own_after N.out hb)
        clear hb H1 H2
        go_wp2_with fail
        refine (exact_ok _ q full _ _ (cnt_own OA.out)).mono ?_
        rw [E.out.2.1]
        rintro e u4 ⟨rfl, hb⟩
        have OA := Lib.hid (own_after OA.out hb)
        have N := Lib.hid (own_after N.out hb)
        clear hb
        go_wp2_with fail
        refine (exact_ok _ q full _ _ (cnt_own N.out)).mono ?_
        rw [E.out.2.1]
        rintro e u5 ⟨rfl, hb⟩
        have OA := Lib.hid (own_after OA.out hb)
        have N := Lib.hid (own_after N.out hb)
        clear hb
        go_wp2_with fail
        refine (count_ok _ q full _ _ (cnt_own OA.out) HQ.out.1 HQ.out.2 U.out).mono ?_
        rw [E.out.2.2.1]
        rintro e u6 ⟨rfl, hb⟩
        have OA := Lib.hid (own_after OA.out hb)
        have N := Lib.hid (own_after N.out hb)
        clear hb
        go_wp2_with fail
        refine (count_ok _ q full _ _ (cnt_own N.out) HQ.out.1 HQ.out.2 U.out).mono ?_
        rw [E.out.2.2.1]
        rintro e u7 ⟨rfl, hb⟩
        have OA := Lib.hid (own_after OA.out hb)
        have N := Lib.hid (own_after N.out hb)
        clear hb
        go_wp2_with fail
        refine (least_ok _ q full _ _ (cnt_own OA.out) HQ.out.2).mono ?_
        rw [E.out.2.2.2]
        rintro e u8 ⟨rfl, hb⟩
        have OA := Lib.hid (own_after OA.out hb)
        have N := Lib.hid (own_after N.out hb)
        clear hb
        go_wp2_with fail
        refine (least_ok _ q full _ _ (cnt_own N.out) HQ.out.2).mono ?_
        rw [E.out.2.2.2]
        rintro e u9 ⟨rfl, hb⟩
        have OA := Lib.hid (own_after OA.out hb)
        clear hb N
        go_wp2_with fail
        refine (awake_ok _).mono ?_
        rintro e u10 ⟨rfl, hb⟩
        have K := Lib.hid (below_after K.out (below_after OA.out.bel hb))
        clear hb
        go_wp2_with fail
        go_ret
        exact ⟨rfl, K.out⟩
end Go.Proofs.Ytlbpdlhelkokbaa
