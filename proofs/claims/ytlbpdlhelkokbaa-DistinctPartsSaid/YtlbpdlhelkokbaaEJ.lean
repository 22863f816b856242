/- The walk of the law of merging. -/
import Derived.Test.YtlbpdlhelkokbaaEI
import Derived.Test.YtlbpdlhelkokbaaEF
namespace Go.Proofs.Ytlbpdlhelkokbaa
open Go.RowKit Go.Proofs.YtlbpdlhelkokbaaW.PrintWords

/-- two counters that lie apart, both made since w0 -/
structure Two (w0 w : World) (ga qa : Nat) (la : List Int) (ra : Option Nat) (gb qb : Nat) (lb : List Int) (rb : Option Nat) : Prop where
  ca : Cnt w ga qa la ra
  cb : Cnt w gb qb lb rb
  a0 : w0.heap.size ≤ ga
  a1 : ∀ j, ra = some j → w0.heap.size ≤ j
  bel : Below w0.heap.size w0 w
  ne1 : gb ≠ ga
  ne2 : ra ≠ some gb
  ne3 : rb ≠ some ga
  ne4 : ∀ j, rb = some j → ra ≠ some j
theorem Two.later {w0 w w' : World} {ga qa : Nat} {la : List Int} {ra : Option Nat} {gb qb : Nat} {lb : List Int} {rb : Option Nat} (h : Two w0 w ga qa la ra gb qb lb rb) (hb : Below w.heap.size w w') : Two w0 w' ga qa la ra gb qb lb rb :=
  { h with ca := cnt_below h.ca hb, cb := cnt_below h.cb hb, bel := below_after h.bel hb }
theorem two_own {w0 w1 w2 : World} {ga qa gb qb : Nat} {la lb : List Int} (hA : Own w0 w1 ga qa la) (hB : Own w1 w2 gb qb lb) : ∃ ra rb, Two w0 w2 ga qa la ra gb qb lb rb := by
  obtain ⟨ra, a1, a2, a3, a4⟩ := hA
  obtain ⟨rb, b1, b2, b3, b4⟩ := hB
  obtain ⟨l1, l2⟩ := cnt_lt a1
  refine ⟨ra, rb, cnt_below a1 b4, b1, a2, a3, below_after a4 b4, by omega, fun e => ?_, fun e => ?_, fun j hj e => ?_⟩
  · have := l2 _ e; omega
  · have := b3 _ e; omega
  · have := b3 _ hj; have := l2 _ e; omega
/-- what a writing call on the first one leaves of both -/
theorem Two.step {w0 w w' : World} {ga qa : Nat} {la la' : List Int} {ra ra' : Option Nat} {gb qb : Nat} {lb : List Int} {rb : Option Nat} (h : Two w0 w ga qa la ra gb qb lb rb)
    (hC : Cnt w' ga qa la' ra') (hloc : ra = ra' ∨ ∃ j, ra' = some j ∧ w.heap.size ≤ j) (ht : Touch (fun j => j = ga ∨ ra = some j) w w') : Two w0 w' ga qa la' ra' gb qb lb rb := by
  obtain ⟨l1, l2⟩ := cnt_lt h.cb
  have hcb : Cnt w' gb qb lb rb := cnt_touch h.cb ht (fun e => e.elim (fun e => h.ne1 e) (fun e => h.ne2 e)) (fun j hj e => e.elim (fun e => h.ne3 (by rw [hj, e])) (fun e => h.ne4 j hj e))
  refine ⟨hC, hcb, h.a0, ?_, ?_, h.ne1, ?_, h.ne3, ?_⟩
  · intro j hj
    rcases hloc with e | ⟨i, e, hi⟩
    · exact h.a1 j (e.trans hj)
    · have e2 : i = j := Option.some.inj (e.symm.trans hj)
      have := h.bel.size
      omega
  · refine h.bel.trans (ht.below h.bel.size ?_)
    rintro i hi (e | e)
    · have := h.a0; omega
    · have := h.a1 i e; omega
  · intro e1
    rcases hloc with e | ⟨i, e, hi⟩
    · exact h.ne2 (e.trans e1)
    · have e2 : i = gb := Option.some.inj (e.symm.trans e1)
      omega
  · intro j hj e1
    rcases hloc with e | ⟨i, e, hi⟩
    · exact h.ne4 j hj (e.trans e1)
    · have e2 : i = j := Option.some.inj (e.symm.trans e1)
      have := l2 j hj
      omega

set_option maxHeartbeats 4000000 in
set_option maxRecDepth 100000 in
theorem merges_law (k o : Int) (A : Option Addr) (n cap : Nat) (l : List ByteArray) (B : Option Addr) (nm capm : Nat) (m : List ByteArray) (w : World) (hA : StrArg0 w A n cap l) (hB : StrArg0 w B nm capm m) :
    Calls Try.prog 8 #[.int .i64 k, .int .i64 o, .slice A n cap, .slice B nm capm] w fun e w' => e = .returned (.bool true) ∧ Below w.heap.size w w' := by
  have ZA := Lib.hid hA.2
  have ZB := Lib.hid hB.2
  have HA := Lib.hid hA.1
  have HB := Lib.hid hB.1
  have hn : n ≤ 9223372036854775807 := by have := hA.1.1; have := hA.1.2.1.2.1; omega
  have hnm : nm ≤ 9223372036854775807 := by have := hB.1.1; have := hB.1.2.1.2.1; omega
  clear hA hB
  obtain ⟨xl, hxl⟩ : ∃ xl, isLong l = xl := ⟨_, rfl⟩
  obtain ⟨xm, hxm⟩ : ∃ xm, isLong m = xm := ⟨_, rfl⟩
  have HXL := Lib.hid hxl
  have HXM := Lib.hid hxm
  clear hxl hxm
  go_enter Try.func8, Try.ntmps8
  go_wp2_with fail
  refine (long_ok A n cap l _ HA.out).mono ?_
  rw [HXL.out]
  rintro e w1 ⟨rfl, hb⟩
  have HA := Lib.hid (HA.out.later hb)
  have HB := Lib.hid (HB.out.later hb)
  have K := Lib.hid hb
  clear hb
  cases xl with
  | true =>
    go_wp2_with fail
    refine (awake_ok _).mono ?_
    rintro e w2 ⟨rfl, hb⟩
    have K := Lib.hid (below_after K.out hb)
    clear hb
    go_wp2_with fail
    go_ret
    exact ⟨rfl, K.out⟩
  | false =>
    go_wp2_with fail
    refine (long_ok B nm capm m _ HB.out).mono ?_
    rw [HXM.out]
    rintro e w2 ⟨rfl, hb⟩
    have HA := Lib.hid (HA.out.later hb)
    have HB := Lib.hid (HB.out.later hb)
    have K := Lib.hid (below_after K.out hb)
    clear hb
    cases xm with
    | true =>
      go_wp2_with fail
      refine (awake_ok _).mono ?_
      rintro e w3 ⟨rfl, hb⟩
      have K := Lib.hid (below_after K.out hb)
      clear hb
      go_wp2_with fail
      go_ret
      exact ⟨rfl, K.out⟩
    | false =>
      have HA0 := HA
      have HB0 := HB
      have SA := Lib.hid (short_of HXL.out)
      have MA := Lib.hid (short_mem HXL.out)
      have SB := Lib.hid (short_of HXM.out)
      have MB := Lib.hid (short_mem HXM.out)
      have hn2 : n ≤ 200 := by have := HA.out.1; have := SA.out.1; omega
      have hnm2 : nm ≤ 200 := by have := HB.out.1; have := SB.out.1; omega
      clear hn hnm
      obtain ⟨qa, hqa⟩ : ∃ q, sizeK k = q := ⟨_, rfl⟩
      obtain ⟨qb, hqb⟩ : ∃ q, sizeK o = q := ⟨_, rfl⟩
      have HQ : Hid (1 ≤ qa ∧ qa ≤ 4096) := by rw [← hqa]; exact sizeK_range k
      have HP : Hid (1 ≤ qb ∧ qb ≤ 4096) := by rw [← hqb]; exact sizeK_range o
      have Hqa := Lib.hid hqa
      have Hqb := Lib.hid hqb
      clear hqa hqb
      have LA : Hid ((allOf l).length ≤ 200) := by
        have := allOf_len l l.length (Nat.le_refl _)
        rw [List.take_length] at this
        have := SA.out.1
        unfold Hid
        omega
      have LB : Hid ((allOf m).length ≤ 200) := by
        have := allOf_len m m.length (Nat.le_refl _)
        rw [List.take_length] at this
        have := SB.out.1
        unfold Hid
        omega
      go_wp2_with fail
      refine (fill_ok k A n cap l _ HA.out HXL.out).mono ?_
      rw [Hqa.out]
      rintro e w3 ⟨rfl, hO⟩
      have OA := Lib.hid hO
      have HA := Lib.hid (HA.out.later hO.bel)
      have HB := Lib.hid (HB.out.later hO.bel)
      clear hO
      go_wp2_with fail
      refine (fill_ok o B nm capm m _ HB.out HXM.out).mono ?_
      rw [Hqb.out]
      rintro e w4 ⟨rfl, hO⟩
      obtain ⟨ra, rb, hT⟩ := two_own OA.out hO
      have T := Lib.hid hT
      have HA := Lib.hid (HA.out.later hO.bel)
      have HB := Lib.hid (HB.out.later hO.bel)
      clear hO hT OA
      obtain ⟨ga, hga⟩ : ∃ g, w2.heap.size = g := ⟨_, rfl⟩
      obtain ⟨gb, hgb⟩ : ∃ g, w3.heap.size = g := ⟨_, rfl⟩
      rw [hga, hgb] at T ⊢
      clear hga hgb
      go_wp2_with fail
      refine (merge_nil ga _).mono ?_
      rintro e w5 ⟨rfl, hb⟩
      have T := Lib.hid (T.out.later hb)
      have HA := Lib.hid (HA.out.later hb)
      have HB := Lib.hid (HB.out.later hb)
      clear hb
      go_wp2_with fail
      refine (all_ok A n cap l _ HA.out (Nat.le_trans SA.out.1 (by decide)) MA.out).mono ?_
      rintro e w6 ⟨⟨V, rfl, hV⟩, hb⟩
      have LT := Lib.hid (And.intro (cnt_lt T.out.ca) (cnt_lt T.out.cb))
      have BB : Hid (w5.heap.size ≤ w6.heap.size) := hb.size
      have VX := Lib.hid hV
      have T := Lib.hid (T.out.later hb)
      have HA := Lib.hid (HA.out.later hb)
      have HB := Lib.hid (HB.out.later hb)
      clear hb hV
      go_wp2_with fail
      refine (all_ok B nm capm m _ HB.out (Nat.le_trans SB.out.1 (by decide)) MB.out).mono ?_
      rintro e w7 ⟨⟨V2, rfl, hV⟩, hb⟩
      have VX := Lib.hid (own_later VX.out hb)
      have VY := Lib.hid hV
      have T := Lib.hid (T.out.later hb)
      have HA := Lib.hid (HA.out.later hb)
      have HB := Lib.hid (HB.out.later hb)
      clear hb hV
      go_wp2_with fail
      refine (refSize_ok k _).mono ?_
      rw [Hqa.out]
      rintro e w8 ⟨rfl, hb⟩
      have VX := Lib.hid (own_later VX.out hb)
      have VY := Lib.hid (own_later VY.out hb)
      have T := Lib.hid (T.out.later hb)
      have HA := Lib.hid (HA.out.later hb)
      have HB := Lib.hid (HB.out.later hb)
      clear hb
      go_wp2_with fail
      refine (refSize_ok o _).mono ?_
      rw [Hqb.out]
      rintro e w9 ⟨rfl, hb⟩
      have VX := Lib.hid (own_later VX.out hb)
      have VY := Lib.hid (own_later VY.out hb)
      have T := Lib.hid (T.out.later hb)
      have HA := Lib.hid (HA.out.later hb)
      have HB := Lib.hid (HB.out.later hb)
      clear hb
      by_cases hq : qa = qb
      · have hqe : ((qa : Int) == (qb : Int)) = true := by simp; omega
        subst hq
        go_wp2_with fail
        refine (merge_ok ga gb qa (allOf l) (allOf m) ra rb _ T.out.ca T.out.cb (allOf_rise _) (allOf_rise _) HQ.out.1 HQ.out.2).mono ?_
        rw [allOf_both]
        rintro e w10 ⟨rfl, ra', hC, hloc, ht⟩
        have NF : Hid (∀ (V : Value) (j : Nat), (w9.ownsRow w6.heap.size 23 1 V (allOf m).length (U (allOf m))) → V.ownBlock = some j → ¬ (j = ga ∨ ra = some j)) := fun V j h hj e => by
          have h1 := (row_block h hj).1
          have h2 := BB.out
          rcases e with e | e
          · have := LT.out.1.1; omega
          · have := LT.out.1.2 j e; omega
        have VY := Lib.hid (row_touch VY.out ht fun j hj => NF.out _ j VY.out hj)
        have HA := Lib.hid (HA0.out.later (T.out.step hC hloc ht).bel)
        have HB := Lib.hid (HB0.out.later (T.out.step hC hloc ht).bel)
        have T2 := Lib.hid (T.out.step hC hloc ht)
        have T := T2
        clear hC hloc ht T2 VX
        go_wp2_with fail
        refine (refSize_ok o _).mono ?_
        rw [Hqb.out]
        rintro e w11 ⟨rfl, hb⟩
        have VY := Lib.hid (own_later VY.out hb)
        have T := Lib.hid (T.out.later hb)
        have HA := Lib.hid (HA.out.later hb)
        have HB := Lib.hid (HB.out.later hb)
        clear hb
        go_wp2_with fail
        refine (like_ok gb qa (allOf m) _ _ _ _ T.out.cb VY.out HQ.out.1 HQ.out.2 (Nat.le_trans LB.out (by decide)) (allOf_u64 MB.out)).mono ?_
        rintro e w12 ⟨rfl, hb⟩
        have T := Lib.hid (T.out.later hb)
        have HA := Lib.hid (HA.out.later hb)
        have HB := Lib.hid (HB.out.later hb)
        clear hb VY
        obtain ⟨i0, hi, hz0, hz1, hz2⟩ := info_parts info_str
        have O := Lib.hid (show (w12.alloc (.cells #[] 9 (0, 0))).ownsRow w12.heap.size 9 1 (.slice (some ⟨w12.heap.size, 0, none⟩) 0 0) 0 [] from ⟨rfl, .inr ⟨_, _, _, rfl, Nat.le_refl _, blk_new w12 _, Nat.le_refl _, by unfold maxLen; omega, rfl, rfl⟩⟩)
        have CA := Lib.hid (str_cells (HA.out.later (below_al (Below.refl _ _) (.cells #[] 9 (0, 0)))))
        have NA : Hid (A = none → n = 0 ∧ cap = 0) := fun e => ⟨by have := ZA.out e; have := HA.out.2.2; have := HA.out.1; omega, ZA.out e⟩
        have NB : Hid (B = none → nm = 0 ∧ capm = 0) := fun e => ⟨by have := ZB.out e; have := HB.out.2.2; have := HB.out.1; omega, ZB.out e⟩
        have G : Hid (∀ w1, (w12.alloc (.cells #[] 9 (0, 0))).grownBy w1 (Value.slice (some ⟨w12.heap.size, 0, none⟩) 0 0).ownBlock → Below w12.heap.size w12 w1) := fun w1 hg =>
          (below_al (Below.refl _ _) (.cells #[] 9 (0, 0))).trans (Below.grown (Below.refl _ _) hg (by simp) (fun k e => by have e2 : w12.heap.size = k := Option.some.inj e; omega))
        have CB : Hid (∀ w1, Below w12.heap.size w12 w1 → ∀ ad, B = some ad → ∀ (j : Nat) (u : Value), (St m)[j]? = some u → w1.cell? (ad.add j) = some u) := fun w1 hb => str_cells (HB.out.later hb)
        have L1 : Hid ((St l).length = n * 1) := by unfold Hid; simp [St, HA.out.1]
        have L2 : Hid ((St m).length = nm * 1) := by unfold Hid; simp [St, HB.out.1]
        have E1 : Hid (∀ x ∈ St l, x.oneCell' = true) := fun x hx => by obtain ⟨_, _, rfl⟩ := List.mem_map.1 hx; rfl
        have E2 : Hid (∀ x ∈ St m, x.oneCell' = true) := fun x hx => by obtain ⟨_, _, rfl⟩ := List.mem_map.1 hx; rfl
        have M1 : Hid (0 + n ≤ maxLen ∧ 0 + n + nm ≤ maxLen ∧ (0 + n) * 16 ≤ 140737488355328 ∧ (0 + n + nm) * 16 ≤ 140737488355328) := ⟨by unfold maxLen; omega, by unfold maxLen; omega, by omega, by omega⟩
        have S1 : Hid (w12.heap.size ≤ (w12.alloc (.cells #[] 9 (0, 0))).heap.size) := by unfold Hid; simp
        have D1 : 0 < 1 := by decide
        go_wp2_with (first | (at_builtin; refine wpList_append_any rfl _ _ 26 rfl w12.heap.size 9 i0 (.string ByteArray.empty) 1 16 Try.underlying26 hi hz0 hz1 hz2 rfl D1 _ _ _ rfl O.out A n cap (St l) rfl NA.out L1.out CA.out E1.out M1.out.1 M1.out.2.2.1 S1.out ?_; intro v1 x1 hown1 hgrow1) | (at_builtin; refine wpList_append_any rfl _ _ 26 rfl w12.heap.size 9 i0 (.string ByteArray.empty) 1 16 Try.underlying26 hi hz0 hz1 hz2 rfl D1 _ _ _ rfl hown1 B nm capm (St m) rfl NB.out L2.out (CB.out _ (G.out _ hgrow1)) E2.out M1.out.2.1 M1.out.2.2.2 (G.out _ hgrow1).size ?_; intro v2 x2 hown2 hgrow2))
        have hb : Below w12.heap.size w12 x2 := (G.out _ hgrow1).trans (Below.grown (Below.refl _ _) hgrow2 (G.out _ hgrow1).size (fun k e => (hown1.lt k e).1))
        have T := Lib.hid (T.out.later hb)
        obtain ⟨A3, c3, rfl, hS⟩ := own_strs hown2 (L := l ++ m) (by simp [St])
        have HS := Lib.hid hS
        have hNN : Hid ((l ++ m).length ≤ 400 ∧ ∀ s ∈ l ++ m, s.size ≤ 60) := by
          refine ⟨?_, fun s hs => (List.mem_append.1 hs).elim (MA.out s) (MB.out s)⟩
          have := SA.out.1
          have := SB.out.1
          rw [List.length_append]
          omega
        clear hb hown1 hown2 hgrow1 hgrow2 hS O CA CB NA NB G L1 L2 E1 E2 M1 S1 D1 HA HB HA0 HB0 i0 hi hz0 hz1 hz2
        go_wp2_with fail
        refine (all_ok A3 _ c3 (l ++ m) _ HS.out hNN.out.1 hNN.out.2).mono ?_
        rintro e y1 ⟨⟨V3, rfl, hV⟩, hb⟩
        have LX := Lib.hid (cnt_lt T.out.ca)
        have VX := Lib.hid hV
        have T := Lib.hid (T.out.later hb)
        clear hb hV HS
        have LF : Hid ((allOf (l ++ m)).length ≤ 100000) := by
          have := allOf_len (l ++ m) (l ++ m).length (Nat.le_refl _)
          rw [List.take_length] at this
          have := hNN.out.1
          unfold Hid
          omega
        have UF := Lib.hid (allOf_u64 hNN.out.2)
        have RF := Lib.hid (allOf_rise (l ++ m))
        go_wp2_with fail
        refine (refSize_ok k _).mono ?_
        rw [Hqa.out]
        rintro e v1 ⟨rfl, hb⟩
        have VX := Lib.hid (own_later VX.out hb)
        have T := Lib.hid (T.out.later hb)
        clear hb
        go_wp2_with fail
        refine (like_ok ga qa (allOf (l ++ m)) _ _ _ _ T.out.ca VX.out HQ.out.1 HQ.out.2 LF.out UF.out).mono ?_
        rintro e v2 ⟨rfl, hb⟩
        have VX := Lib.hid (own_later VX.out hb)
        have T := Lib.hid (T.out.later hb)
        clear hb
        go_wp2_with fail
        refine (merge_ok ga ga qa (allOf (l ++ m)) (allOf (l ++ m)) _ _ _ T.out.ca T.out.ca RF.out RF.out HQ.out.1 HQ.out.2).mono ?_
        rw [intoL_self RF.out]
        rintro e v3 ⟨rfl, ra2, hC, hloc, ht⟩
        have VX := Lib.hid (row_touch VX.out ht fun j hj e => by
          have h1 := (row_block VX.out hj).1
          have h2 := LX.out.1
          rcases e with e | e
          · omega
          · have := LX.out.2 j e; omega)
        have T2 := Lib.hid (T.out.step hC hloc ht)
        have T := T2
        clear hC hloc ht T2
        go_wp2_with fail
        refine (refSize_ok k _).mono ?_
        rw [Hqa.out]
        rintro e v4 ⟨rfl, hb⟩
        have VX := Lib.hid (own_later VX.out hb)
        have T := Lib.hid (T.out.later hb)
        clear hb
        go_wp2_with fail
        refine (like_ok ga qa (allOf (l ++ m)) _ _ _ _ T.out.ca VX.out HQ.out.1 HQ.out.2 LF.out UF.out).mono ?_
        rintro e v5 ⟨rfl, hb⟩
        have T := Lib.hid (T.out.later hb)
        clear hb VX
        go_wp2_with fail
        refine (awake_ok _).mono ?_
        rintro e v6 ⟨rfl, hb⟩
        have K := Lib.hid (below_after K.out (below_after T.out.bel hb))
        clear hb
        go_wp2_with fail
        go_ret
        exact ⟨rfl, K.out⟩
      · have hqe : ((qa : Int) == (qb : Int)) = false := by simp; omega
        go_wp2_with fail
        refine (merge_other ga gb qa qb (allOf l) (allOf m) ra rb _ T.out.ca T.out.cb hq).mono ?_
        rintro e w10 ⟨rfl, hb⟩
        have VX := Lib.hid (own_later VX.out hb)
        have VY := Lib.hid (own_later VY.out hb)
        have T := Lib.hid (T.out.later hb)
        clear hb
        go_wp2_with fail
        refine (refSize_ok o _).mono ?_
        rw [Hqb.out]
        rintro e w11 ⟨rfl, hb⟩
        have VX := Lib.hid (own_later VX.out hb)
        have VY := Lib.hid (own_later VY.out hb)
        have T := Lib.hid (T.out.later hb)
        clear hb
        go_wp2_with fail
        refine (like_ok gb qb (allOf m) _ _ _ _ T.out.cb VY.out HP.out.1 HP.out.2 (Nat.le_trans LB.out (by decide)) (allOf_u64 MB.out)).mono ?_
        rintro e w12 ⟨rfl, hb⟩
        have VX := Lib.hid (own_later VX.out hb)
        have T := Lib.hid (T.out.later hb)
        clear hb VY
        have LF : Hid ((allOf l).length ≤ 100000) := Nat.le_trans LA.out (by decide)
        have UF := Lib.hid (allOf_u64 MA.out)
        have RF := Lib.hid (allOf_rise l)
        have LX := Lib.hid LT.out.1
        go_wp2_with fail
        refine (refSize_ok k _).mono ?_
        rw [Hqa.out]
        rintro e v1 ⟨rfl, hb⟩
        have VX := Lib.hid (own_later VX.out hb)
        have T := Lib.hid (T.out.later hb)
        clear hb
        go_wp2_with fail
        refine (like_ok ga qa (allOf l) _ _ _ _ T.out.ca VX.out HQ.out.1 HQ.out.2 LF.out UF.out).mono ?_
        rintro e v2 ⟨rfl, hb⟩
        have VX := Lib.hid (own_later VX.out hb)
        have T := Lib.hid (T.out.later hb)
        clear hb
        go_wp2_with fail
        refine (merge_ok ga ga qa (allOf l) (allOf l) _ _ _ T.out.ca T.out.ca RF.out RF.out HQ.out.1 HQ.out.2).mono ?_
        rw [intoL_self RF.out]
        rintro e v3 ⟨rfl, ra2, hC, hloc, ht⟩
        have VX := Lib.hid (row_touch VX.out ht fun j hj e => by
          have h1 := (row_block VX.out hj).1
          have h2 := LX.out.1
          rcases e with e | e
          · omega
          · have := LX.out.2 j e; omega)
        have T2 := Lib.hid (T.out.step hC hloc ht)
        have T := T2
        clear hC hloc ht T2
        go_wp2_with fail
        refine (refSize_ok k _).mono ?_
        rw [Hqa.out]
        rintro e v4 ⟨rfl, hb⟩
        have VX := Lib.hid (own_later VX.out hb)
        have T := Lib.hid (T.out.later hb)
        clear hb
        go_wp2_with fail
        refine (like_ok ga qa (allOf l) _ _ _ _ T.out.ca VX.out HQ.out.1 HQ.out.2 LF.out UF.out).mono ?_
        rintro e v5 ⟨rfl, hb⟩
        have T := Lib.hid (T.out.later hb)
        clear hb VX
        go_wp2_with fail
        refine (awake_ok _).mono ?_
        rintro e v6 ⟨rfl, hb⟩
        have K := Lib.hid (below_after K.out (below_after T.out.bel hb))
        clear hb
        go_wp2_with fail
        go_ret
        exact ⟨rfl, K.out⟩
end Go.Proofs.Ytlbpdlhelkokbaa
