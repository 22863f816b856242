/- The walk of the law of parts. -/
import Derived.Test.YtlbpdlhelkokbaaEK
namespace Go.Proofs.Ytlbpdlhelkokbaa
open Go
open Go.RowKit Go.Proofs.YtlbpdlhelkokbaaW.PrintWords

set_option maxHeartbeats 4000000 in
set_option maxRecDepth 100000 in
theorem parts_law (k : Int) (A : Option Addr) (n cap : Nat) (l : List ByteArray) (B : Option Addr) (nc capc : Nat) (bs : List Int) (w : World) (hA0 : StrArg0 w A n cap l) (hB : ByteArg w B nc capc bs) :
    Calls Try.prog 9 #[.int .i64 k, .slice A n cap, .slice B nc capc] w fun e w' => e = .returned (.bool true) ∧ Below w.heap.size w w' := by
  have hA := hA0.1
  have ZA := Lib.hid hA0.2
  have HA := Lib.hid hA
  have HB := Lib.hid hB
  have hn : n ≤ 9223372036854775807 := by have := hA.1; have := hA.2.1.2.1; omega
  have hcap : n ≤ cap := by have := hA.1; have := hA.2.2; omega
  have hnc := hB.top
  clear hA hB hA0
  obtain ⟨xl, hxl⟩ : ∃ xl, isLong l = xl := ⟨_, rfl⟩
  have HXL := Lib.hid hxl
  clear hxl
  go_enter Try.func9, Try.ntmps9
  go_wp2_with fail
  refine (long_ok A n cap l _ HA.out).mono ?_
  rw [HXL.out]
  rintro e w1 ⟨rfl, hb⟩
  have HA := Lib.hid (HA.out.later hb)
  have HB := Lib.hid (HB.out.later hb)
  have K := Lib.hid hb
  have HA1 := HA
  clear hb
  cases xl with
  | true =>
    go_wp2_with fail
    refine (awake_ok _).mono ?_
    rintro e w2 ⟨rfl, hb⟩
    have K := Lib.hid (below_after K.out hb)
    clear hb
    go_wp2_with fail
    go_ret
    exact ⟨rfl, K.out⟩
  | false =>
    by_cases h20 : 20 < nc
    · have h20' : (20 : Int) < nc := by omega
      go_wp2_with fail
      refine (awake_ok _).mono ?_
      rintro e w2 ⟨rfl, hb⟩
      have K := Lib.hid (below_after K.out hb)
      clear hb
      go_wp2_with fail
      go_ret
      exact ⟨rfl, K.out⟩
    · have h20' : ¬ (20 : Int) < nc := by omega
      have SA := Lib.hid (short_of HXL.out)
      have MA := Lib.hid (short_mem HXL.out)
      have hn2 : n ≤ 200 := by have := HA.out.1; have := SA.out.1; omega
      clear hn hnc
      obtain ⟨q, hq⟩ : ∃ q, sizeK k = q := ⟨_, rfl⟩
      have HQ : Hid (1 ≤ q ∧ q ≤ 4096) := by rw [← hq]; exact sizeK_range k
      have Hq := Lib.hid hq
      clear hq
      go_wp2_with fail
      refine (fill_ok k A n cap l _ HA.out HXL.out).mono ?_
      rw [Hq.out]
      rintro e w3 ⟨rfl, hO⟩
      have OA := Lib.hid hO
      have HA := Lib.hid (HA.out.later hO.bel)
      have HB := Lib.hid (HB.out.later hO.bel)
      clear hO
      go_wp2_with fail
      refine (new_own k _).mono ?_
      rw [Hq.out]
      rintro e w4 ⟨rfl, hO⟩
      obtain ⟨rw0, ra, hT⟩ := two_own2 OA.out hO
      have T := Lib.hid hT
      have HA := Lib.hid (HA.out.later hO.bel)
      have HB := Lib.hid (HB.out.later hO.bel)
      clear hO hT OA
      obtain ⟨gw, hgw⟩ : ∃ g, w1.heap.size = g := ⟨_, rfl⟩
      obtain ⟨ga, hga⟩ : ∃ g, w3.heap.size = g := ⟨_, rfl⟩
      rw [hga, hgw] at T
      rw [hga, hgw]
      clear hga hgw
      obtain ⟨i0, hi, hz0, hz1, hz2⟩ := info_parts info_u8
      have O := Lib.hid (show (w4.alloc (.cells #[] 5 (0, 0))).ownsRow w4.heap.size 5 1 (.slice (some ⟨w4.heap.size, 0, none⟩) 0 0) 0 [] from ⟨rfl, .inr ⟨_, _, _, rfl, Nat.le_refl _, blk_new w4 _, Nat.le_refl _, by unfold maxLen; omega, rfl, rfl⟩⟩)
      have CB := Lib.hid (HB.out.later (below_al (Below.refl _ _) (.cells #[] 5 (0, 0)))).cells
      have L1 : Hid ((By bs).length = nc * 1) := by unfold Hid; simp [By, HB.out.len]
      have E1 : Hid (∀ x ∈ By bs, x.oneCell' = true) := fun x hx => by obtain ⟨_, _, rfl⟩ := List.mem_map.1 hx; rfl
      have M1 : Hid (0 + nc ≤ maxLen ∧ 0 + nc + 1 ≤ maxLen ∧ (0 + nc) * 1 ≤ 140737488355328 ∧ (0 + nc + 1) * 1 ≤ 140737488355328) := ⟨by unfold maxLen; omega, by unfold maxLen; omega, by omega, by omega⟩
      have S1 : Hid (w4.heap.size ≤ (w4.alloc (.cells #[] 5 (0, 0))).heap.size) := by unfold Hid; simp
      have NB := Lib.hid HB.out.none
      have D1 : 0 < 1 := by decide
      have E2 : Hid (∀ x ∈ [Value.int .u8 255], x.oneCell' = true) := fun x hx => by obtain rfl := List.mem_singleton.1 hx; rfl
      have S2 : Hid (∀ x : World, w4.heap.size ≤ x.heap.size → w4.heap.size ≤ (x.alloc (.cells #[.int .u8 255] 5 (0, 0))).heap.size) := fun x hx => by simp; omega
      have G : Hid (∀ w1, (w4.alloc (.cells #[] 5 (0, 0))).grownBy w1 (Value.slice (some ⟨w4.heap.size, 0, none⟩) 0 0).ownBlock → Below w4.heap.size w4 w1) := fun w1 hg =>
        (below_al (Below.refl _ _) (.cells #[] 5 (0, 0))).trans (Below.grown (Below.refl _ _) hg (by simp) (fun k e => by have e2 : w4.heap.size = k := Option.some.inj e; omega))
      go_wp2_with (first | (at_builtin; refine wpList_append_any rfl _ _ 43 rfl w4.heap.size 5 i0 (.int .u8 0) 1 1 Try.underlying43 hi hz0 hz1 hz2 rfl D1 _ _ _ rfl O.out B nc capc (By bs) rfl NB.out L1.out CB.out E1.out M1.out.1 M1.out.2.2.1 S1.out ?_; intro v1 x1 hown1 hgrow1) | (at_builtin; refine wpList_append_own_at _ rfl _ _ 43 rfl w4.heap.size 5 i0 (.int .u8 0) 1 1 Try.underlying43 hi hz0 hz1 hz2 rfl D1 _ _ _ rfl (hown1.alloc _) ⟨x1.heap.size, 0, none⟩ 1 1 [.int .u8 255] rfl rfl (cell_one_new _ _ _) E2.out M1.out.2.1 M1.out.2.2.2 (S2.out _ (G.out _ hgrow1).size) ?_; intro v2 x2 hown2 hgrow2 hnil2 hat2))
      have hb1 := G.out _ hgrow1
      have hb2 := hb1.alloc hb1.size (.cells #[.int .u8 255] 5 (0, 0))
      have hb3 := hb2.trans (Below.grown (Below.refl _ _) hgrow2 hb2.size (fun k e => (hown1.lt k e).1))
      have RB := Lib.hid (And.intro (cnt_lt T.out.ca) (cnt_lt T.out.cb))
      have T := Lib.hid (T.out.later hb3)
      have HA := Lib.hid (HA.out.later hb3)
      obtain ⟨N, hN⟩ : ∃ N, 0 + nc + 1 = N := ⟨_, rfl⟩
      obtain ⟨cs, hcs⟩ : ∃ cs : List Int, bs ++ [255] = cs := ⟨_, rfl⟩
      have HCS : Hid (cs.length = N ∧ ∀ x ∈ cs, 0 ≤ x ∧ x ≤ 255) := by
        refine ⟨by rw [← hcs, ← hN, List.length_append, HB.out.len, List.length_singleton]; omega, fun x hx => ?_⟩
        rw [← hcs] at hx
        rcases List.mem_append.1 hx with h | h
        · exact HB.out.range x h
        · obtain rfl := List.mem_singleton.1 h; omega
      have hown3 : x2.ownsRow w4.heap.size 5 1 v2 N (By cs) := by rw [← hN, ← hcs, show By (bs ++ [255]) = [] ++ By bs ++ [.int .u8 255] by simp [By]]; exact hown2
      have hN1 : N ≤ 21 := by omega
      have hN2 : 0 < N := by omega
      clear hb1 hb2 hb3 hown1 hown2 hgrow1 hgrow2 hnil2 hat2 O CB NB G L1 E1 E2 M1 S1 S2 D1 HB i0 hi hz0 hz1 hz2 hN hcs
      rcases hown3.2 with ⟨_, h0⟩ | ⟨ro, c0, cur, rfl, _, _, _, _, _, _⟩
      · omega
      have HV := Lib.hid hown3
      have VB := Lib.hid (row_block hown3 rfl)
      clear hown3
      go_wp2_with fail
      go_loopw [9, 39] (fun s9 s39 wr => ∃ (i a : Nat), i ≤ N ∧ a ≤ n ∧ s39 = .int .i64 i ∧ s9 = .int .i64 a ∧ Hid (∃ ra', Two w1 wr ga q (allOf (l.take a)) ra' gw q (allOf l) rw0 ∧ (ra = ra' ∨ ∃ j, ra' = some j ∧ x2.heap.size ≤ j) ∧ x2.heap.size ≤ wr.heap.size ∧ wr.ownsRow w4.heap.size 5 1 (.slice (some ⟨ro, 0, none⟩) N c0) N (By cs))) (fun _ s39 _ => N - (intOf s39).toNat)
      case atStart => exact ⟨0, 0, by omega, by omega, rfl, rfl, ra, by rw [List.take_zero]; exact T.out, .inl rfl, Nat.le_refl _, HV.out⟩
      case round =>
        clear T HV
        obtain ⟨i, a, hi, ha, rfl, rfl, H⟩ := hrel
        obtain ⟨wo, rfl⟩ : ∃ wo : World, wo = wr := ⟨_, rfl⟩
        obtain ⟨ra', hT, hloc, hs, hV⟩ := H.out
        clear H
        by_cases hlt : i < N
        · have hlt' : (i : Int) < N := by omega
          obtain ⟨c, hc⟩ : ∃ c, cs[i]? = some c := ⟨_, List.getElem?_eq_getElem (by have := HCS.out.1; omega)⟩
          have hcr := HCS.out.2 c (List.mem_of_getElem? hc)
          have x0 : wo.cell? ⟨ro, i, none⟩ = some (.int .u8 c) := by
            have := hV.cells (g := ro) rfl i (.int .u8 c) (by unfold By; rw [List.getElem?_map, hc]; rfl)
            rwa [add_plain, Nat.zero_add] at this
          obtain ⟨d, rfl⟩ : ∃ d : Nat, c = (d : Int) := ⟨c.toNat, by omega⟩
          obtain ⟨e, he⟩ : ∃ e : Nat, min (a + d) n = e := ⟨_, rfl⟩
          have hmin : min ((a : Int) + (d : Int)) (n : Int) = (e : Int) := by omega
          have hae : a ≤ e := by omega
          have hen : e ≤ n := by omega
          have hae' : (a : Int) ≤ (e : Int) := by omega
          have hec : (e : Int) ≤ (cap : Int) := by omega
          have hd : d ≤ 255 := by omega
          have T := Lib.hid hT
          have R := Lib.hid (And.intro hloc (And.intro hs hV))
          clear hT hloc hs hV he hc hcr
          rcases Nat.lt_or_ge a cap with hca | hca
          · cases A with
            | none => have := ZA.out rfl; omega
            | some ad =>
              have hca' : (a : Int) < (cap : Int) := by omega
              have PART := Lib.hid (StrArg.part (A' := some (ad.add a)) (cap' := cap - a) (HA1.out.later T.out.bel) hae hen (by omega) (fun _ b o e1 => by rw [Option.some.inj e1, add_plain]))
              go_wp2_with fail
              refine (fill_ok k _ (e - a) _ ((l.drop a).take (e - a)) _ PART.out (long_part HXL.out a (e - a))).mono ?_
              rw [Hq.out]
              rintro e1 w5 ⟨rfl, hO⟩
              have T2 := Lib.hid (T.out.later hO.bel)
              have R2 := Lib.hid (And.intro R.out.1 (And.intro (Nat.le_trans R.out.2.1 hO.bel.size) (own_later R.out.2.2 hO.bel)))
              obtain ⟨rp, hp, hp1, hp2, _⟩ := hO
              have P := Lib.hid hp
              obtain ⟨gp, hgp⟩ : ∃ g, wo.heap.size = g := ⟨_, rfl⟩
              rw [hgp] at P
              rw [hgp]
              clear hp hp1 hp2 hgp T R
              have T := T2
              have R := R2
              clear T2 R2
              go_wp2_with fail
              refine (merge_ok ga gp q _ _ ra' rp _ T.out.ca P.out (allOf_rise _) (allOf_rise _) HQ.out.1 HQ.out.2).mono ?_
              rw [allOf_both, take_part l hae]
              rintro e2 w6 ⟨rfl, r2, hC2, hloc2, hT2⟩
              have Z : Hid (∃ ra', Two w1 w6 ga q (allOf (l.take e)) ra' gw q (allOf l) rw0 ∧ (ra = ra' ∨ ∃ j, ra' = some j ∧ x2.heap.size ≤ j) ∧ x2.heap.size ≤ w6.heap.size ∧ w6.ownsRow w4.heap.size 5 1 (.slice (some ⟨ro, 0, none⟩) N c0) N (By cs)) := by
                obtain ⟨hloc, hs, hV⟩ := R.out
                have hb := VB.out
                refine ⟨r2, T.out.step hC2 hloc2 hT2, ?_, by have := hT2.size; omega, row_touch hV hT2 ?_⟩
                · rcases hloc2 with e3 | ⟨j, e3, hj⟩
                  · rcases hloc with e4 | ⟨j, e4, hj⟩
                    · exact .inl (e4.trans e3)
                    · exact .inr ⟨j, e3.symm.trans e4, hj⟩
                  · exact .inr ⟨j, e3, by omega⟩
                · rintro j hj hF
                  have e0 : ro = j := Option.some.inj hj
                  subst e0
                  have hl := RB.out.1
                  rcases hF with e3 | e3
                  · have := hl.1; omega
                  · rcases hloc with e4 | ⟨j2, e4, hj2⟩
                    · have := hl.2 ro (e4.trans e3); omega
                    · have e5 : j2 = ro := Option.some.inj (e4.symm.trans e3)
                      omega
              clear hC2 hloc2 hT2 P R T
              go_wp2_with fail
              go_roundw
              case rel => exact ⟨i + 1, e, by omega, hen, by go_num, rfl, Z⟩
              case measure => simp [intOf]; omega
          · obtain rfl : cap = a := by omega
            have PART := Lib.hid (StrArg.part (A' := A) (cap' := 0) (HA1.out.later T.out.bel) hae hen (by omega) (fun h => by omega))
            go_wp2_with fail
            refine (fill_ok k _ (e - cap) _ ((l.drop cap).take (e - cap)) _ PART.out (long_part HXL.out cap (e - cap))).mono ?_
            rw [Hq.out]
            rintro e1 w5 ⟨rfl, hO⟩
            have T2 := Lib.hid (T.out.later hO.bel)
            have R2 := Lib.hid (And.intro R.out.1 (And.intro (Nat.le_trans R.out.2.1 hO.bel.size) (own_later R.out.2.2 hO.bel)))
            obtain ⟨rp, hp, hp1, hp2, _⟩ := hO
            have P := Lib.hid hp
            obtain ⟨gp, hgp⟩ : ∃ g, wo.heap.size = g := ⟨_, rfl⟩
            rw [hgp] at P
            rw [hgp]
            clear hp hp1 hp2 hgp T R
            have T := T2
            have R := R2
            clear T2 R2
            go_wp2_with fail
            refine (merge_ok ga gp q _ _ ra' rp _ T.out.ca P.out (allOf_rise _) (allOf_rise _) HQ.out.1 HQ.out.2).mono ?_
            rw [allOf_both, take_part l hae]
            rintro e2 w6 ⟨rfl, r2, hC2, hloc2, hT2⟩
            have Z : Hid (∃ ra', Two w1 w6 ga q (allOf (l.take e)) ra' gw q (allOf l) rw0 ∧ (ra = ra' ∨ ∃ j, ra' = some j ∧ x2.heap.size ≤ j) ∧ x2.heap.size ≤ w6.heap.size ∧ w6.ownsRow w4.heap.size 5 1 (.slice (some ⟨ro, 0, none⟩) N c0) N (By cs)) := by
              obtain ⟨hloc, hs, hV⟩ := R.out
              have hb := VB.out
              refine ⟨r2, T.out.step hC2 hloc2 hT2, ?_, by have := hT2.size; omega, row_touch hV hT2 ?_⟩
              · rcases hloc2 with e3 | ⟨j, e3, hj⟩
                · rcases hloc with e4 | ⟨j, e4, hj⟩
                  · exact .inl (e4.trans e3)
                  · exact .inr ⟨j, e3.symm.trans e4, hj⟩
                · exact .inr ⟨j, e3, by omega⟩
              · rintro j hj hF
                have e0 : ro = j := Option.some.inj hj
                subst e0
                have hl := RB.out.1
                rcases hF with e3 | e3
                · have := hl.1; omega
                · rcases hloc with e4 | ⟨j2, e4, hj2⟩
                  · have := hl.2 ro (e4.trans e3); omega
                  · have e5 : j2 = ro := Option.some.inj (e4.symm.trans e3)
                    omega
            clear hC2 hloc2 hT2 P R T
            go_wp2_with fail
            go_roundw
            case rel => exact ⟨i + 1, e, by omega, hen, by go_num, rfl, Z⟩
            case measure => simp [intOf]; omega
        · obtain rfl : i = N := by omega
          by_cases han : a < n
          · have han' : (a : Int) < (n : Int) := by omega
            have K2 := Lib.hid (below_after K.out hT.bel)
            clear hT hloc hs hV
            go_wp2_with fail
            refine (awake_ok _).mono ?_
            rintro e u1 ⟨rfl, hb⟩
            have K2 := Lib.hid (below_after K2.out hb)
            clear hb
            go_wp2_with fail
            go_ret
            exact ⟨rfl, K2.out⟩
          · obtain rfl : a = n := by omega
            rw [List.take_of_length_le (by have := HA.out.1; omega)] at hT
            have T := Lib.hid hT
            have U := Lib.hid (allOf_u64 MA.out)
            clear hT hloc hs hV
            generalize allOf l = full at *
            obtain ⟨xs, hxs⟩ : ∃ xs, full.take q = xs := ⟨_, rfl⟩
            obtain ⟨m, hm⟩ : ∃ m, decide (full.length ≤ q) = m := ⟨_, rfl⟩
            obtain ⟨cn, hcn⟩ : ∃ cn, countN full q = cn := ⟨_, rfl⟩
            have E := Lib.hid (And.intro hxs (And.intro hm hcn))
            clear hxs hm hcn
            go_wp2_with fail
            refine (hashes_ok _ q full _ _ T.out.cb HQ.out.2).mono ?_
            rw [E.out.1]
            rintro e u1 ⟨⟨V, rfl, hV⟩, hb⟩
            have T := Lib.hid (T.out.later hb)
            obtain ⟨A1, c1, rfl, hc1, hK1⟩ := own_reads hV
            have H1 := Lib.hid (And.intro hc1 hK1)
            clear hb hV hc1 hK1
            go_wp2_with fail
            refine (hashes_ok _ q full _ _ T.out.ca HQ.out.2).mono ?_
            rw [E.out.1]
            rintro e u2 ⟨⟨V, rfl, hV⟩, hb⟩
            have T := Lib.hid (T.out.later hb)
            have H1 := Lib.hid (And.intro H1.out.1 (Kd.C_below H1.out.2 hb))
            obtain ⟨A2, c2, rfl, hc2, hK2⟩ := own_reads hV
            have H2 := Lib.hid (And.intro hc2 hK2)
            clear hb hV hc2 hK2
            go_wp2_with fail
            refine (same_ok _ A1 A2 c1 c2 xs xs H1.out.2 H1.out.1 H2.out.2 H2.out.1).mono ?_
            rw [decide_eq_true (rfl : xs = xs)]
            rintro e u3 ⟨rfl, hb⟩
            have T := Lib.hid (T.out.later hb)
            clear hb H1 H2
            go_wp2_with fail
            refine (exact_ok _ q full _ _ T.out.cb).mono ?_
            rw [E.out.2.1]
            rintro e u4 ⟨rfl, hb⟩
            have T := Lib.hid (T.out.later hb)
            clear hb
            go_wp2_with fail
            refine (exact_ok _ q full _ _ T.out.ca).mono ?_
            rw [E.out.2.1]
            rintro e u5 ⟨rfl, hb⟩
            have T := Lib.hid (T.out.later hb)
            clear hb
            go_wp2_with fail
            refine (count_ok _ q full _ _ T.out.cb HQ.out.1 HQ.out.2 U.out).mono ?_
            rw [E.out.2.2]
            rintro e u6 ⟨rfl, hb⟩
            have T := Lib.hid (T.out.later hb)
            clear hb
            go_wp2_with fail
            refine (count_ok _ q full _ _ T.out.ca HQ.out.1 HQ.out.2 U.out).mono ?_
            rw [E.out.2.2]
            rintro e u7 ⟨rfl, hb⟩
            have T := Lib.hid (T.out.later hb)
            clear hb
            go_wp2_with fail
            refine (awake_ok _).mono ?_
            rintro e u10 ⟨rfl, hb⟩
            have K := Lib.hid (below_after K.out (below_after T.out.bel hb))
            clear hb
            go_wp2_with fail
            go_ret
            exact ⟨rfl, K.out⟩
end Go.Proofs.Ytlbpdlhelkokbaa
