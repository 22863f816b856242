/- The walk of the law of counts. -/
import Derived.Test.YtlbpdlhelkokbaaEE
namespace Go.Proofs.Ytlbpdlhelkokbaa
open Go.RowKit Go.Proofs.YtlbpdlhelkokbaaW.PrintWords

theorem step_take (h x : Int) (xs : List Int) (j : Nat) (hx : xs[j]? = some x) : decide (h ∈ xs.take (j + 1)) = (decide (h ∈ xs.take j) || decide (h = x)) := by
  obtain ⟨g1, g2⟩ := List.getElem?_eq_some_iff.1 hx
  rw [List.take_succ_eq_append_getElem g1, g2]
  by_cases e1 : h ∈ xs.take j <;> by_cases e2 : h = x <;> simp [e1, e2]

set_option maxHeartbeats 4000000 in
set_option maxRecDepth 100000 in
theorem counts_law (k : Int) (A : Option Addr) (n cap : Nat) (l : List ByteArray) (w : World) (hA : StrArg w A n cap l) :
    Calls Try.prog 5 #[.int .i64 k, .slice A n cap] w fun e w' => e = .returned (.bool true) ∧ Below w.heap.size w w' := by
  have HA := Lib.hid hA
  have hn : n ≤ 9223372036854775807 := by have := hA.1; have := hA.2.1.2.1; omega
  have hcap : n ≤ cap := by have := hA.1; have := hA.2.2; omega
  clear hA
  go_enter Try.func5, Try.ntmps5
  go_wp2_with fail
  refine (long_ok A n cap l _ HA.out).mono ?_
  rintro e w1 ⟨rfl, hb⟩
  have HA := Lib.hid (HA.out.later hb)
  have K := Lib.hid hb
  clear hb
  cases hL : isLong l with
  | true =>
    go_wp2_with fail
    refine (awake_ok _).mono ?_
    rintro e w2 ⟨rfl, hb⟩
    have K := Lib.hid (below_after K.out hb)
    clear hb
    go_wp2_with fail
    go_ret
    exact ⟨rfl, K.out⟩
  | false =>
    have HS := Lib.hid (short_of hL)
    have HM := Lib.hid (short_mem hL)
    have hn2 : n ≤ 200 := by have := HA.out.1; have := HS.out.1; omega
    have HLN := Lib.hid (allOf_len l)
    clear hL hn
    obtain ⟨q, hq⟩ : ∃ q, sizeK k = q := ⟨_, rfl⟩
    have HQ : Hid (1 ≤ q ∧ q ≤ 4096) := by rw [← hq]; exact sizeK_range k
    have Hq := Lib.hid hq
    clear hq
    go_wp2_with fail
    refine (new_own k _).mono ?_
    rw [Hq.out]
    rintro e w2 ⟨rfl, hO⟩
    have O := Lib.hid hO
    clear hO
    go_wp2_with fail
    refine (refSize_ok k _).mono ?_
    rw [Hq.out]
    rintro e w3 ⟨rfl, hb⟩
    have O := Lib.hid (own_after O.out hb)
    clear hb
    go_wp2_with fail
    go_loopw [28] (fun s28 wr => ∃ i : Nat, i ≤ n ∧ s28 = .int .i64 i ∧ Hid (Own w1 wr w1.heap.size q (allOf (l.take i)))) (fun s28 _ => n - (intOf s28).toNat)
    case atStart => exact ⟨0, Nat.zero_le _, rfl, by rw [List.take_zero]; exact O.out⟩
    case round =>
      clear O
      obtain ⟨i, hi, rfl, O⟩ := hrel
      obtain ⟨wo, rfl⟩ : ∃ wo : World, wo = wr := ⟨_, rfl⟩
      by_cases hlt : i < n
      · have hlt' : (i : Int) < n := by omega
        have c1 : (i : Int) ≤ cap := by omega
        have c2 : (i : Int) + 1 ≤ cap := by omega
        obtain ⟨b, o, rfl, hcell⟩ := (HA.out.later O.out.bel).at (by omega)
        obtain ⟨s, hs⟩ : ∃ s, l[i]? = some s := ⟨_, List.getElem?_eq_getElem (by have := HA.out.1; omega)⟩
        have hc := hcell i s hs
        have hs60 := HS.out.2 i s hs
        obtain ⟨h, hh⟩ : ∃ h, hashF s = h := ⟨_, rfl⟩
        have HH := Lib.hid hh
        obtain ⟨f0, hf0⟩ : ∃ f0, allOf (l.take i) = f0 := ⟨_, rfl⟩
        have N : Hid (allOf (l.take (i + 1)) = into f0 h) := by
          obtain ⟨h1, h2⟩ := List.getElem?_eq_some_iff.1 hs
          unfold Hid
          rw [List.take_succ_eq_append_getElem h1, h2, ← hf0, ← hh]
          exact intoAll_snoc _ _ _
        have R0 : Hid (Rise f0) := by rw [← hf0]; exact allOf_rise _
        have L1 : Hid ((into f0 h).length ≤ 100000) := by
          have := HLN.out (i + 1) (by have := HA.out.1; omega)
          rw [N.out] at this
          unfold Hid
          omega
        have U1 : Hid (∀ x ∈ into f0 h, U64 x) := by rw [← N.out]; exact fun x hx => allOf_u64 (fun s hs => HM.out s (List.mem_of_mem_take hs)) x hx
        have T0 := Lib.hid (StrArg.take HA.out (i := i) (by omega))
        have T1 := Lib.hid (StrArg.take HA.out (i := i + 1) (by omega))
        have S0 : Hid ((l.take i).length ≤ 200 ∧ ∀ s ∈ l.take i, s.size ≤ 60) := ⟨by have := T0.out.1; omega, fun s hs => HM.out s (List.mem_of_mem_take hs)⟩
        have S1 : Hid ((l.take (i + 1)).length ≤ 200 ∧ ∀ s ∈ l.take (i + 1), s.size ≤ 60) := ⟨by have := T1.out.1; omega, fun s hs => HM.out s (List.mem_of_mem_take hs)⟩
        have F0 := Lib.hid hf0
        rw [hf0] at O
        clear hcell hs hh hf0
        obtain ⟨was, hwas⟩ : ∃ was, f0.take q = was := ⟨_, rfl⟩
        obtain ⟨now, hnow⟩ : ∃ now, (into f0 h).take q = now := ⟨_, rfl⟩
        obtain ⟨F, hF⟩ : ∃ F, fresh f0 q h = F := ⟨_, rfl⟩
        have HF : Hid (F = (decide (h ∈ now) && !decide (h ∈ was))) := by rw [← hF, ← hwas, ← hnow]; exact rfl
        have E := Lib.hid (And.intro hwas (And.intro hnow hF))
        clear hwas hnow hF
        go_wp2_with fail
        refine (all_ok _ i cap (l.take i) _ (T0.out.later O.out.bel) (Nat.le_trans S0.out.1 (by decide)) S0.out.2).mono ?_
        rw [F0.out]
        rintro e u1 ⟨⟨V, rfl, hV⟩, hb⟩
        have O := Lib.hid (own_after O.out hb)
        clear hc
        obtain ⟨A1, c1, rfl, hc1, hK1⟩ := own_reads hV
        have W0 := Lib.hid (C_take hK1 q)
        rw [E.out.1] at W0
        clear hV hK1 hb
        go_wp2_with fail
        refine (kept_ok A1 c1 q f0 _ hc1).mono ?_
        rw [E.out.1]
        rintro e u2 ⟨rfl, hb⟩
        have O := Lib.hid (own_after O.out hb)
        have W0 := Lib.hid (Kd.C_below W0.out hb)
        clear hb hc1
        go_wp2_with fail
        obtain ⟨r, hCr, hg0, hr0, _⟩ := O.out
        have CR := Lib.hid hCr
        have RB := Lib.hid (And.intro hg0 hr0)
        have RL := Lib.hid (cnt_lt hCr)
        clear hCr hg0 hr0
        refine (all_ok _ (i + 1) cap (l.take (i + 1)) _ (T1.out.later O.out.bel) (Nat.le_trans S1.out.1 (by decide)) S1.out.2).mono ?_
        rw [N.out]
        rintro e u3 ⟨⟨V, rfl, hV⟩, hb⟩
        have O := Lib.hid (own_after O.out hb)
        have CR := Lib.hid (cnt_below CR.out hb)
        have W0 := Lib.hid (Kd.C_below W0.out hb)
        obtain ⟨A2, c2, rfl, hc2, hK2⟩ := own_reads hV
        have W1 := Lib.hid (C_take hK2 q)
        rw [E.out.2.1] at W1
        have HV := Lib.hid hV
        clear hV hK2 hb
        go_wp2_with fail
        refine (kept_ok A2 c2 q (into f0 h) _ hc2).mono ?_
        rw [E.out.2.1]
        rintro e u4 ⟨rfl, hb⟩
        have O := Lib.hid (own_after O.out hb)
        have CR := Lib.hid (cnt_below CR.out hb)
        have W0 := Lib.hid (Kd.C_below W0.out hb)
        have W1 := Lib.hid (Kd.C_below W1.out hb)
        have HV := Lib.hid (own_later HV.out hb)
        clear hb hc2
        obtain ⟨wn, hwn⟩ : ∃ wn, was.length = wn := ⟨_, rfl⟩
        obtain ⟨nn, hnn⟩ : ∃ nn, now.length = nn := ⟨_, rfl⟩
        have HX := Lib.hid (And.intro hwn hnn)
        have hx1 : wn ≤ 4096 := by have := HQ.out.2; rw [← hwn, ← E.out.1, List.length_take]; omega
        have hx2 : nn ≤ 4096 := by have := HQ.out.2; rw [← hnn, ← E.out.2.1, List.length_take]; omega
        rw [hwn, hnn]
        clear hwn hnn
        go_wp2_with fail
        go_loopw [49, 12] (fun s49 s12 wr => ∃ (j : Nat) (f : Bool), j ≤ nn ∧ s49 = .int .i64 j ∧ s12 = .bool f ∧ Hid (f = decide (h ∈ now.take j) ∧ Below u4.heap.size u4 wr)) (fun s49 _ _ => nn - (intOf s49).toNat)
        case atStart => exact ⟨0, false, by omega, rfl, rfl, by simp, Below.refl _ _⟩
        case round =>
          obtain ⟨j, f, hj, rfl, rfl, H⟩ := hrel
          obtain ⟨wq, rfl⟩ : ∃ wq : World, wq = wr := ⟨_, rfl⟩
          by_cases hjl : j < nn
          · have hjl' : (j : Int) < nn := by omega
            obtain ⟨b2, o2, rfl, hcell⟩ := nums_at (Kd.C_below W1.out H.out.2) (by have := HX.out.2; omega)
            obtain ⟨x, hx⟩ : ∃ x, now[j]? = some x := ⟨_, List.getElem?_eq_getElem (by have := HX.out.2; omega)⟩
            have x0 := hcell j x hx
            have NN := Lib.hid (step_take h x now j hx)
            rw [← H.out.1] at NN
            clear hcell hx
            cases f with
            | true =>
              go_wp2_with fail
              go_roundw
              case rel => exact ⟨j + 1, true, by omega, by go_num, rfl, by rw [NN.out]; rfl, H.out.2⟩
              case measure => simp [intOf]; omega
            | false =>
              have hxh : (x == h) = decide (h = x) := by
                by_cases e : h = x
                · subst e; simp
                · rw [decide_eq_false e]; simp only [beq_eq_false_iff_ne, ne_eq]; exact fun e2 => e e2.symm
              obtain ⟨f2, hf2⟩ : ∃ f2, decide (h = x) = f2 := ⟨_, rfl⟩
              rw [hf2] at hxh NN
              clear hf2
              go_wp2_with fail
              refine (refHash_ok s (by omega) _).mono ?_
              rw [HH.out]
              rintro e u5 ⟨rfl, hb⟩
              have K2 := Lib.hid (below_after H.out.2 hb)
              clear hb x0
              go_wp2_with fail
              go_roundw
              case rel => exact ⟨j + 1, f2, by omega, by go_num, rfl, by rw [NN.out]; rfl, K2.out⟩
              case measure => simp [intOf]; omega
          · obtain rfl : j = nn := by omega
            obtain ⟨fn, hfn⟩ : ∃ fn, f = fn := ⟨_, rfl⟩
            have HN : Hid (f = decide (h ∈ now)) := by rw [H.out.1, List.take_of_length_le (by have := HX.out.2; omega)]; exact rfl
            have O := Lib.hid (own_after O.out H.out.2)
            have CR := Lib.hid (cnt_below CR.out H.out.2)
            have W0 := Lib.hid (Kd.C_below W0.out H.out.2)
            have HV := Lib.hid (own_later HV.out H.out.2)
            clear H hfn
            go_wp2_with fail
            go_loopw [63, 12] (fun s63 s12 wr => ∃ (t : Nat) (p : Bool), t ≤ wn ∧ s63 = .int .i64 t ∧ s12 = .bool p ∧ Hid (p = (f && !decide (h ∈ was.take t)) ∧ Below wq.heap.size wq wr)) (fun s63 _ _ => wn - (intOf s63).toNat)
            case atStart => exact ⟨0, f, by omega, rfl, rfl, by simp, Below.refl _ _⟩
            case round =>
              obtain ⟨t, p, ht, rfl, rfl, H⟩ := hrel
              obtain ⟨wz, rfl⟩ : ∃ wz : World, wz = wr := ⟨_, rfl⟩
              by_cases htl : t < wn
              · have htl' : (t : Int) < wn := by omega
                obtain ⟨b2, o2, rfl, hcell⟩ := nums_at (Kd.C_below W0.out H.out.2) (by have := HX.out.1; omega)
                obtain ⟨x, hx⟩ : ∃ x, was[t]? = some x := ⟨_, List.getElem?_eq_getElem (by have := HX.out.1; omega)⟩
                have x0 := hcell t x hx
                have NN : Hid ((f && !decide (h ∈ was.take (t + 1))) = (p && !decide (h = x))) := by
                  unfold Hid
                  rw [step_take h x was t hx, H.out.1, Bool.not_or, Bool.and_assoc]
                clear hcell hx
                cases p with
                | false =>
                  go_wp2_with fail
                  go_roundw
                  case rel => exact ⟨t + 1, false, by omega, by go_num, rfl, by rw [NN.out]; rfl, H.out.2⟩
                  case measure => simp [intOf]; omega
                | true =>
                  have hxh : (x == h) = decide (h = x) := by
                    by_cases e : h = x
                    · subst e; simp
                    · rw [decide_eq_false e]; simp only [beq_eq_false_iff_ne, ne_eq]; exact fun e2 => e e2.symm
                  obtain ⟨f2, hf2⟩ : ∃ f2, decide (h = x) = f2 := ⟨_, rfl⟩
                  rw [hf2] at hxh NN
                  have hxn : (x != h) = !f2 := by show (!(x == h)) = !f2; rw [hxh]
                  clear hf2
                  go_wp2_with fail
                  refine (refHash_ok s (by omega) _).mono ?_
                  rw [HH.out]
                  rintro e u5 ⟨rfl, hb⟩
                  have K2 := Lib.hid (below_after H.out.2 hb)
                  clear hb x0
                  go_wp2_with fail
                  go_roundw
                  case rel => exact ⟨t + 1, !f2, by omega, by go_num, rfl, by rw [NN.out]; rfl, K2.out⟩
                  case measure => simp [intOf]; omega
              · obtain rfl : t = wn := by omega
                obtain rfl : F = p := by rw [HF.out, H.out.1, HN.out, List.take_of_length_le (l := was) (by have := HX.out.1; omega)]
                have O := Lib.hid (own_after O.out H.out.2)
                have CR := Lib.hid (cnt_below CR.out H.out.2)
                have HV := Lib.hid (own_later HV.out H.out.2)
                clear H W0 W1 HX HN HF
                by_cases h40 : 40 < n
                · have h40' : (40 : Int) < n := by omega
                  go_wp2_with fail
                  refine (add_own w1 _ w1.heap.size q f0 s O.out R0.out HQ.out.1 HQ.out.2 (by omega)).mono ?_
                  rw [HH.out, ← N.out]
                  rintro e u6 ⟨rfl, hO⟩
                  have O := Lib.hid hO
                  clear hO
                  go_wp2_with fail
                  go_roundw
                  case rel => exact ⟨i + 1, by omega, by go_num, O⟩
                  case measure => simp [intOf]; omega
                · have h40' : ¬ (40 : Int) < n := by omega
                  go_wp2_with fail
                  refine (add_touch w1.heap.size q f0 r s _ CR.out R0.out HQ.out.1 HQ.out.2 (by omega)).mono ?_
                  rw [HH.out, E.out.2.2]
                  rintro e u6 ⟨rfl, r', hC', hloc, ht⟩
                  have O := Lib.hid (own_step hC' RB.out.1 RB.out.2 O.out.bel hloc ht)
                  have CR := Lib.hid hC'
                  have HV := Lib.hid (row_touch HV.out ht (fun j hj hF => by
                    have h1 := (row_block HV.out hj).1
                    rcases hF with e | e
                    · have := RL.out.1; omega
                    · have := RL.out.2 j e; omega))
                  clear hC' hloc ht
                  go_wp2_with fail
                  refine (like_ok w1.heap.size q (into f0 h) r' _ _ _ CR.out HV.out HQ.out.1 HQ.out.2 L1.out U1.out).mono ?_
                  rintro e u7 ⟨rfl, hb⟩
                  have O := Lib.hid (own_after O.out hb)
                  rw [← N.out] at O
                  clear hb
                  go_wp2_with fail
                  go_roundw
                  case rel => exact ⟨i + 1, by omega, by go_num, O⟩
                  case measure => simp [intOf]; omega
      · obtain rfl : i = n := by omega
        have e : l.take i = l := List.take_of_length_le (by have := HA.out.1; omega)
        rw [e] at O
        clear e
        have L1 : Hid ((allOf l).length ≤ 100000) := by
          have := HLN.out i (by have := HA.out.1; omega)
          rw [List.take_of_length_le (by have := HA.out.1; omega)] at this
          unfold Hid
          omega
        go_wp2_with fail
        refine (all_ok A i cap l _ (HA.out.later O.out.bel) (Nat.le_trans HS.out.1 (by decide)) HM.out).mono ?_
        rintro e u1 ⟨⟨V, rfl, hV⟩, hb⟩
        have O := Lib.hid (own_after O.out hb)
        have HV := Lib.hid hV
        clear hb hV
        go_wp2_with fail
        refine (like_ok w1.heap.size q (allOf l) _ _ _ _ (cnt_own O.out) HV.out HQ.out.1 HQ.out.2 L1.out (allOf_u64 HM.out)).mono ?_
        rintro e u2 ⟨rfl, hb⟩
        have K2 := Lib.hid (below_after (below_after K.out O.out.bel) hb)
        clear hb
        go_wp2_with fail
        refine (awake_ok _).mono ?_
        rintro e u3 ⟨rfl, hb⟩
        have K2 := Lib.hid (below_after K2.out hb)
        clear hb
        go_wp2_with fail
        go_ret
        exact ⟨rfl, K2.out⟩
end Go.Proofs.Ytlbpdlhelkokbaa
