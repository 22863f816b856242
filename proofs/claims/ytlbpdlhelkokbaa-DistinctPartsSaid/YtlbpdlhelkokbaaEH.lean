/- Merge: all that came to another counter, or to the same one; of another size, or of none, nothing. -/
import Derived.Test.YtlbpdlhelkokbaaEG
namespace Go.Proofs.Ytlbpdlhelkokbaa
open Go.RowKit Go.Proofs.YtlbpdlhelkokbaaW.PrintWords

/-- the row of a counter is not the counter's block -/
theorem ctr_apart {w : World} {g : Nat} {S : Value} {us : List Value} {n k : Nat} {m : Bool} (hg : w.heap[g]? = some (.cells #[.int .i64 k, S, .bool m] 47 (0, 0))) (hS : w.ownsRow 0 23 1 S n us) : S.ownBlock ≠ some g := by
  intro e
  rcases hS.2 with ⟨rfl, _⟩ | ⟨r, c, cur, rfl, _, hr, _⟩
  · cases e
  · cases e
    rw [hg] at hr
    have e1 := Option.some.inj hr
    injection e1 with e2 e3 e4
    exact absurd e3 (by decide)
theorem ctr_more {w : World} {g k : Nat} {xs : List Int} {m : Bool} {r : Option Nat} (h : Ctr w g k xs m r) (b : Bool) : Ctr (w.setCell ⟨g, 2, none⟩ (.bool b)) g k xs b r ∧ Touch (fun j => j = g) w (w.setCell ⟨g, 2, none⟩ (.bool b)) := by
  obtain ⟨S, h1, h2, h3⟩ := h
  have ha := ctr_apart h1 h2
  have ht : Touch (fun j => j = g) w (w.setCell ⟨g, 2, none⟩ (.bool b)) := touch_set _ g 2 _ rfl
  exact ⟨⟨S, three_set2 h1 _, row_touch h2 ht (fun j hj e => ha (by rw [hj, e])), h3⟩, ht⟩

theorem ctr_cells {w : World} {g k : Nat} {xs : List Int} {m : Bool} {r : Option Nat} (h : Ctr w g k xs m r) : w.cell? ⟨g, 0, none⟩ = some (.int .i64 k) ∧ w.cell? ⟨g, 2, none⟩ = some (.bool m) ∧ w.frozen? ⟨g, 2, none⟩ = false := by
  obtain ⟨S, h1, h2, h3⟩ := h
  exact ⟨(three_cells h1).1, (three_cells h1).2.2.1, (three_cells h1).2.2.2.2⟩

theorem merge_nil (g : Nat) (w : World) : Calls Try.prog 27 #[.pointer (some ⟨g, 0, none⟩), .pointer none] w fun e w' => e = .returned (.bool false) ∧ Below w.heap.size w w' := by
  go_enter Try.func27, Try.ntmps27
  go_wp2_with fail
  go_quiet (fail)
  rename_i nq
  have K := Lib.hid (below_drN (Below.refl w.heap.size w) nq)
  generalize w.drewN nq = w4 at *
  go_wp2_with fail
  go_ret
  exact ⟨rfl, K.out⟩

theorem merge_other (g o k ko : Nat) (a b : List Int) (r ro : Option Nat) (w : World) (hC : Cnt w g k a r) (hO : Cnt w o ko b ro) (hne : k ≠ ko) :
    Calls Try.prog 27 #[.pointer (some ⟨g, 0, none⟩), .pointer (some ⟨o, 0, none⟩)] w fun e w' => e = .returned (.bool false) ∧ Below w.heap.size w w' := by
  obtain ⟨a0, _⟩ := ctr_cells hC
  obtain ⟨b0, _⟩ := ctr_cells hO
  have hx : ((ko : Int) == (k : Int)) = false := by simp; omega
  go_enter Try.func27, Try.ntmps27
  go_wp2_with fail
  go_quiet (fail)
  rename_i nq
  have K := Lib.hid (below_drN (Below.refl w.heap.size w) nq)
  generalize w.drewN nq = w4 at *
  go_wp2_with fail
  go_ret
  exact ⟨rfl, K.out⟩

set_option maxHeartbeats 2000000 in
set_option maxRecDepth 100000 in
theorem merge_ok (g o k : Nat) (a b : List Int) (r ro : Option Nat) (w : World) (hC : Cnt w g k a r) (hO : Cnt w o k b ro) (ha : Rise a) (hb : Rise b) (hk1 : 1 ≤ k) (hk2 : k ≤ 4096) :
    Calls Try.prog 27 #[.pointer (some ⟨g, 0, none⟩), .pointer (some ⟨o, 0, none⟩)] w fun e w' => e = .returned (.bool true) ∧ ∃ r', Cnt w' g k (intoL a b) r' ∧ (r = r' ∨ ∃ j, r' = some j ∧ w.heap.size ≤ j) ∧ Touch (fun j => j = g ∨ r = some j) w w' := by
  have HL := Lib.hid (cnt_lt hC)
  have HA := Lib.hid ha
  have HT := Lib.hid (merge_take ha hb k)
  have HM := Lib.hid (merge_more ha hb k)
  obtain ⟨xs, hxs⟩ : ∃ xs, b.take k = xs := ⟨_, rfl⟩
  obtain ⟨n, hn⟩ : ∃ n, xs.length = n := ⟨_, rfl⟩
  have hn2 : n ≤ 4096 := by rw [← hn, ← hxs, List.length_take]; omega
  rw [hxs] at HT HM
  have HX := Lib.hid (And.intro hxs hn)
  have HC := Lib.hid hC
  have HO := Lib.hid hO
  have HC2 : Hid (Ctr w g k (a.take k) (decide (k < a.length)) r) := hC
  have HO2 : Hid (Ctr w o k (b.take k) (decide (k < b.length)) ro) := hO
  generalize decide (k < a.length) = ma at *
  generalize decide (k < b.length) = mb at *
  clear ha hb hxs hn hC hO
  obtain ⟨a0, a2, _⟩ := ctr_cells HC2.out
  obtain ⟨b0, b2, _⟩ := ctr_cells HO2.out
  cases ma with
  | true =>
    go_enter Try.func27, Try.ntmps27
    go_wp2_with fail
    go_quiet (fail)
    rename_i nq
    have K := Lib.hid (below_drN (Below.refl w.heap.size w) nq)
    generalize w.drewN nq = w1 at *
    obtain ⟨a0, a2, _⟩ := ctr_cells (ctr_below HC2.out K.out)
    obtain ⟨b0, b2, _⟩ := ctr_cells (ctr_below HO2.out K.out)
    go_wp2_with fail
    refine (hashes_ok o k b ro _ (cnt_below HO.out K.out) hk2).mono ?_
    rw [HX.out.1, HX.out.2]
    rintro e u1 ⟨⟨V, rfl, hV⟩, hb⟩
    have C1 := Lib.hid (cnt_below HC.out (below_after K.out hb))
    have VB : Hid (∀ j, V.ownBlock = some j → w.heap.size ≤ j ∧ j < u1.heap.size) := fun j hj => by
      have h1 := row_block hV hj
      have h2 := K.out.size
      omega
    have WU : Hid (w.heap.size ≤ u1.heap.size) := (below_after K.out hb).size
    have T1 := Lib.hid (Touch.of_below (F := fun j => j = g ∨ r = some j) (below_after K.out hb))
    rw [show n = xs.length from HX.out.2.symm] at hV
    obtain ⟨A1, c1, rfl, hc1, _⟩ := own_reads hV
    rw [HX.out.2] at hV VB ⊢
    have HV := Lib.hid hV
    clear hV hb a0 a2 b0 b2 HC HO HC2 HO2
    go_wp2_with fail
    go_loopw [34] (fun s34 wr => ∃ i : Nat, i ≤ n ∧ s34 = .int .i64 i ∧ Hid (∃ r', Cnt wr g k (intoL a (xs.take i)) r' ∧ (r = r' ∨ ∃ j, r' = some j ∧ u1.heap.size ≤ j) ∧ Touch (fun j => j = g ∨ r = some j) w wr ∧ u1.heap.size ≤ wr.heap.size ∧ wr.ownsRow w1.heap.size 23 1 (.slice A1 n c1) n (U xs))) (fun s34 _ => n - (intOf s34).toNat)
    case atStart => exact ⟨0, by omega, rfl, r, by rw [List.take_zero]; exact C1.out, .inl rfl, T1.out, Nat.le_refl _, HV.out⟩
    case round =>
      clear C1 T1 HV
      obtain ⟨i, hi, rfl, H⟩ := hrel
      obtain ⟨wo, rfl⟩ : ∃ wo : World, wo = wr := ⟨_, rfl⟩
      obtain ⟨r', hC, hloc, hT, hs, hV⟩ := H.out
      clear H
      by_cases hlt : i < n
      · have hlt' : (i : Int) < n := by omega
        obtain ⟨x, hx⟩ : ∃ x, xs[i]? = some x := ⟨_, List.getElem?_eq_getElem (by have := HX.out.2; omega)⟩
        have R : Hid (Rise (intoL a (xs.take i))) := intoL_rise _ _ HA.out
        have N : Hid (intoL a (xs.take (i + 1)) = into (intoL a (xs.take i)) x) := by
          obtain ⟨g1, g2⟩ := List.getElem?_eq_some_iff.1 hx
          unfold Hid
          rw [List.take_succ_eq_append_getElem g1, g2, intoL_snoc]
        rcases hV.2 with ⟨_, h0⟩ | ⟨ro2, c2, cur, he, _, _, _, _, _, _⟩
        · omega
        · obtain rfl : A1 = some ⟨ro2, 0, none⟩ := by injection he
          have x0 := row_cell' hV hx
          have H := Lib.hid (And.intro hC (And.intro hloc (And.intro hT (And.intro hs hV))))
          clear he hx hC hloc hT hs hV
          go_wp2_with fail
          refine (put_ok g k _ r' x _ H.out.1 R.out hk1 hk2).mono ?_
          rw [← N.out]
          rintro e u2 ⟨rfl, r2, hC2, hloc2, hT2⟩
          have Z : Hid (∃ r', Cnt u2 g k (intoL a (xs.take (i + 1))) r' ∧ (r = r' ∨ ∃ j, r' = some j ∧ u1.heap.size ≤ j) ∧ Touch (fun j => j = g ∨ r = some j) w u2 ∧ u1.heap.size ≤ u2.heap.size ∧ u2.ownsRow w1.heap.size 23 1 (.slice (some ⟨ro2, 0, none⟩) n c1) n (U xs)) := by
            obtain ⟨hC, hloc, hT, hs, hV⟩ := H.out
            have hb := VB.out ro2 rfl
            have hl := HL.out
            refine ⟨r2, hC2, ?_, hT.more hT2 ?_, by have := hT2.size; omega, row_touch hV hT2 ?_⟩
            · rcases hloc2 with rfl | ⟨j, e, hj⟩
              · exact hloc
              · exact .inr ⟨j, e, by omega⟩
            · rintro j hj (e | e)
              · exact .inl e
              · rcases hloc with e2 | ⟨j2, e2, hj2⟩
                · exact .inr (e2.trans e)
                · rw [e2] at e
                  have e3 : j2 = j := Option.some.inj e
                  have := hb.1
                  have := hb.2
                  omega
            · rintro j hj hF
              have e0 : ro2 = j := Option.some.inj hj
              subst e0
              rcases hF with e | e
              · have := hl.1; omega
              · rcases hloc with e2 | ⟨j2, e2, hj2⟩
                · have := hl.2 ro2 (e2.trans e); omega
                · rw [e2] at e
                  have e3 : j2 = ro2 := Option.some.inj e
                  omega
          clear hC2 hloc2 hT2 H
          go_wp2_with fail
          go_roundw
          case rel => exact ⟨i + 1, by omega, by go_num, Z⟩
          case measure => simp [intOf]; omega
      · obtain rfl : i = n := by omega
        rw [List.take_of_length_le (by have := HX.out.2; omega)] at hC
        have H := Lib.hid (And.intro hC (And.intro hloc (And.intro hT hs)))
        have C3 : Hid (Ctr wo g k ((intoL a b).take k) (decide (k < (intoL a xs).length)) r') := by
          unfold Hid; rw [← HT.out]; exact hC
        clear hC hloc hT hs hV
        obtain ⟨mf, hmf⟩ : ∃ mf, decide (k < (intoL a xs).length) = mf := ⟨_, rfl⟩
        rw [hmf] at C3 HM
        clear hmf
        obtain ⟨a0, a2, a2f⟩ := ctr_cells C3.out
        cases mf with
        | true =>
          have D := ctr_more C3.out true
          have F : Hid (∃ r', Cnt (wo.setCell ⟨g, 2, none⟩ (.bool true)) g k (intoL a b) r' ∧ (r = r' ∨ ∃ j, r' = some j ∧ w.heap.size ≤ j) ∧ Touch (fun j => j = g ∨ r = some j) w (wo.setCell ⟨g, 2, none⟩ (.bool true))) :=
            ⟨r', by unfold Cnt; rw [← HM.out]; exact D.1, H.out.2.1.imp id (fun ⟨j, e, hj⟩ => ⟨j, e, Nat.le_trans WU.out hj⟩), H.out.2.2.1.trans (D.2.mono fun j _ e => .inl e)⟩
          clear D
          go_wp2_with fail
          go_ret
          exact ⟨rfl, F.out⟩
        | false =>
          have D := ctr_more C3.out true
          have F : Hid (∃ r', Cnt (wo.setCell ⟨g, 2, none⟩ (.bool true)) g k (intoL a b) r' ∧ (r = r' ∨ ∃ j, r' = some j ∧ w.heap.size ≤ j) ∧ Touch (fun j => j = g ∨ r = some j) w (wo.setCell ⟨g, 2, none⟩ (.bool true))) :=
            ⟨r', by unfold Cnt; rw [← HM.out]; exact D.1, H.out.2.1.imp id (fun ⟨j, e, hj⟩ => ⟨j, e, Nat.le_trans WU.out hj⟩), H.out.2.2.1.trans (D.2.mono fun j _ e => .inl e)⟩
          clear D
          go_wp2_with fail
          go_ret
          exact ⟨rfl, F.out⟩
  | false =>
    go_enter Try.func27, Try.ntmps27
    go_wp2_with fail
    go_quiet (fail)
    rename_i nq
    have K := Lib.hid (below_drN (Below.refl w.heap.size w) nq)
    generalize w.drewN nq = w1 at *
    obtain ⟨a0, a2, _⟩ := ctr_cells (ctr_below HC2.out K.out)
    obtain ⟨b0, b2, _⟩ := ctr_cells (ctr_below HO2.out K.out)
    go_wp2_with fail
    refine (hashes_ok o k b ro _ (cnt_below HO.out K.out) hk2).mono ?_
    rw [HX.out.1, HX.out.2]
    rintro e u1 ⟨⟨V, rfl, hV⟩, hb⟩
    have C1 := Lib.hid (cnt_below HC.out (below_after K.out hb))
    have VB : Hid (∀ j, V.ownBlock = some j → w.heap.size ≤ j ∧ j < u1.heap.size) := fun j hj => by
      have h1 := row_block hV hj
      have h2 := K.out.size
      omega
    have WU : Hid (w.heap.size ≤ u1.heap.size) := (below_after K.out hb).size
    have T1 := Lib.hid (Touch.of_below (F := fun j => j = g ∨ r = some j) (below_after K.out hb))
    rw [show n = xs.length from HX.out.2.symm] at hV
    obtain ⟨A1, c1, rfl, hc1, _⟩ := own_reads hV
    rw [HX.out.2] at hV VB ⊢
    have HV := Lib.hid hV
    clear hV hb a0 a2 b0 b2 HC HO HC2 HO2
    go_wp2_with fail
    go_loopw [34] (fun s34 wr => ∃ i : Nat, i ≤ n ∧ s34 = .int .i64 i ∧ Hid (∃ r', Cnt wr g k (intoL a (xs.take i)) r' ∧ (r = r' ∨ ∃ j, r' = some j ∧ u1.heap.size ≤ j) ∧ Touch (fun j => j = g ∨ r = some j) w wr ∧ u1.heap.size ≤ wr.heap.size ∧ wr.ownsRow w1.heap.size 23 1 (.slice A1 n c1) n (U xs))) (fun s34 _ => n - (intOf s34).toNat)
    case atStart => exact ⟨0, by omega, rfl, r, by rw [List.take_zero]; exact C1.out, .inl rfl, T1.out, Nat.le_refl _, HV.out⟩
    case round =>
      clear C1 T1 HV
      obtain ⟨i, hi, rfl, H⟩ := hrel
      obtain ⟨wo, rfl⟩ : ∃ wo : World, wo = wr := ⟨_, rfl⟩
      obtain ⟨r', hC, hloc, hT, hs, hV⟩ := H.out
      clear H
      by_cases hlt : i < n
      · have hlt' : (i : Int) < n := by omega
        obtain ⟨x, hx⟩ : ∃ x, xs[i]? = some x := ⟨_, List.getElem?_eq_getElem (by have := HX.out.2; omega)⟩
        have R : Hid (Rise (intoL a (xs.take i))) := intoL_rise _ _ HA.out
        have N : Hid (intoL a (xs.take (i + 1)) = into (intoL a (xs.take i)) x) := by
          obtain ⟨g1, g2⟩ := List.getElem?_eq_some_iff.1 hx
          unfold Hid
          rw [List.take_succ_eq_append_getElem g1, g2, intoL_snoc]
        rcases hV.2 with ⟨_, h0⟩ | ⟨ro2, c2, cur, he, _, _, _, _, _, _⟩
        · omega
        · obtain rfl : A1 = some ⟨ro2, 0, none⟩ := by injection he
          have x0 := row_cell' hV hx
          have H := Lib.hid (And.intro hC (And.intro hloc (And.intro hT (And.intro hs hV))))
          clear he hx hC hloc hT hs hV
          go_wp2_with fail
          refine (put_ok g k _ r' x _ H.out.1 R.out hk1 hk2).mono ?_
          rw [← N.out]
          rintro e u2 ⟨rfl, r2, hC2, hloc2, hT2⟩
          have Z : Hid (∃ r', Cnt u2 g k (intoL a (xs.take (i + 1))) r' ∧ (r = r' ∨ ∃ j, r' = some j ∧ u1.heap.size ≤ j) ∧ Touch (fun j => j = g ∨ r = some j) w u2 ∧ u1.heap.size ≤ u2.heap.size ∧ u2.ownsRow w1.heap.size 23 1 (.slice (some ⟨ro2, 0, none⟩) n c1) n (U xs)) := by
            obtain ⟨hC, hloc, hT, hs, hV⟩ := H.out
            have hb := VB.out ro2 rfl
            have hl := HL.out
            refine ⟨r2, hC2, ?_, hT.more hT2 ?_, by have := hT2.size; omega, row_touch hV hT2 ?_⟩
            · rcases hloc2 with rfl | ⟨j, e, hj⟩
              · exact hloc
              · exact .inr ⟨j, e, by omega⟩
            · rintro j hj (e | e)
              · exact .inl e
              · rcases hloc with e2 | ⟨j2, e2, hj2⟩
                · exact .inr (e2.trans e)
                · rw [e2] at e
                  have e3 : j2 = j := Option.some.inj e
                  have := hb.1
                  have := hb.2
                  omega
            · rintro j hj hF
              have e0 : ro2 = j := Option.some.inj hj
              subst e0
              rcases hF with e | e
              · have := hl.1; omega
              · rcases hloc with e2 | ⟨j2, e2, hj2⟩
                · have := hl.2 ro2 (e2.trans e); omega
                · rw [e2] at e
                  have e3 : j2 = ro2 := Option.some.inj e
                  omega
          clear hC2 hloc2 hT2 H
          go_wp2_with fail
          go_roundw
          case rel => exact ⟨i + 1, by omega, by go_num, Z⟩
          case measure => simp [intOf]; omega
      · obtain rfl : i = n := by omega
        rw [List.take_of_length_le (by have := HX.out.2; omega)] at hC
        have H := Lib.hid (And.intro hC (And.intro hloc (And.intro hT hs)))
        have C3 : Hid (Ctr wo g k ((intoL a b).take k) (decide (k < (intoL a xs).length)) r') := by
          unfold Hid; rw [← HT.out]; exact hC
        clear hC hloc hT hs hV
        obtain ⟨mf, hmf⟩ : ∃ mf, decide (k < (intoL a xs).length) = mf := ⟨_, rfl⟩
        rw [hmf] at C3 HM
        clear hmf
        obtain ⟨a0, a2, a2f⟩ := ctr_cells C3.out
        cases mf with
        | true =>
          have D := ctr_more C3.out true
          have F : Hid (∃ r', Cnt (wo.setCell ⟨g, 2, none⟩ (.bool true)) g k (intoL a b) r' ∧ (r = r' ∨ ∃ j, r' = some j ∧ w.heap.size ≤ j) ∧ Touch (fun j => j = g ∨ r = some j) w (wo.setCell ⟨g, 2, none⟩ (.bool true))) :=
            ⟨r', by unfold Cnt; rw [← HM.out]; exact D.1, H.out.2.1.imp id (fun ⟨j, e, hj⟩ => ⟨j, e, Nat.le_trans WU.out hj⟩), H.out.2.2.1.trans (D.2.mono fun j _ e => .inl e)⟩
          clear D
          go_wp2_with fail
          go_ret
          exact ⟨rfl, F.out⟩
        | false =>
          have D := ctr_more C3.out mb
          have F : Hid (∃ r', Cnt (wo.setCell ⟨g, 2, none⟩ (.bool mb)) g k (intoL a b) r' ∧ (r = r' ∨ ∃ j, r' = some j ∧ w.heap.size ≤ j) ∧ Touch (fun j => j = g ∨ r = some j) w (wo.setCell ⟨g, 2, none⟩ (.bool mb))) :=
            ⟨r', by unfold Cnt; rw [← HM.out]; exact D.1, H.out.2.1.imp id (fun ⟨j, e, hj⟩ => ⟨j, e, Nat.le_trans WU.out hj⟩), H.out.2.2.1.trans (D.2.mono fun j _ e => .inl e)⟩
          clear D
          go_wp2_with fail
          go_ret
          exact ⟨rfl, F.out⟩
end Go.Proofs.Ytlbpdlhelkokbaa
