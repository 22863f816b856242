/- EventMay: the law; the region is printed by wip/tools/lawmay.py. -/
import Derived.Test.YtkhjnbjmbmacjaaDoorPD
import Derived.Test.YtkhjnbjmbmacjaaDoorNM
namespace Go.Proofs.YtkhjnbjmbmacjaaDoor
open Go Go.RowKit Go.Proofs.YtkhjnbjmbmacjaaDoorW.PrintWords

theorem tagsB_len (s : ByteArray) (hs : s.size ≤ 4000000000) : (tagsB s).length ≤ 4000000001 := by
  unfold tagsB
  have hcs := (cut_size s.data.toList [59]).2
  rw [Array.length_toList] at hcs
  have hz : s.data.size = s.size := rfl
  rw [hz] at hcs
  split
  · simp
  · have := spl_le 44 ⟨(Lib.cut s.data.toList [59]).2.1.toArray⟩
    have hbs : (⟨(Lib.cut s.data.toList [59]).2.1.toArray⟩ : ByteArray).size ≤ s.size := by show (mkB _).size ≤ _; rw [mkB_size]; exact hcs
    omega
theorem worth_ok (e : Ev) (w : World) : ∃ r : Int, (Calls Tryd.prog 20 #[e.v] w fun x w' => x = .returned (.int .i64 r) ∧ Below w.heap.size w w') ∧ r = (if e.kind = 1 then 1 else if e.kind = 2 then 3 else if e.kind = 3 then 5 else if e.kind = 4 then e.val else 0) := by
  refine ⟨_, KA.event_Worth.calls e.src e.num e.at' e.kind e.person e.item e.val e.text _ w ?_, rfl⟩
  unfold KA.event_Worth.f
  split
  · rfl
  · split
    · rfl
    · split
      · rfl
      · split <;> rfl
def worthF (e : Ev) : Int := if e.kind = 1 then 1 else if e.kind = 2 then 3 else if e.kind = 3 then 5 else if e.kind = 4 then e.val else 0
theorem worthE (e : Ev) (w : World) : Calls Tryd.prog 20 #[e.v] w fun x w' => x = .returned (.int .i64 (worthF e)) ∧ Below w.heap.size w w' := by
  obtain ⟨r, h, rfl⟩ := worth_ok e w; exact h
theorem worthR (e : Ev) (w : World) : Calls Tryd.prog 21 #[e.v] w fun x w' => x = .returned (.int .i64 (worthF e)) ∧ Below w.heap.size w w' := by
  refine KA.ciceroneref02_Worth.calls e.src e.num e.at' e.kind e.person e.item e.val e.text _ w ?_
  unfold KA.ciceroneref02_Worth.f worthF
  split
  · rfl
  · split
    · rfl
    · split
      · rfl
      · split <;> rfl
theorem bigF_small {e : Ev} {n : Int} (h : bigF e n = false) : (e.src.size : Int) ≤ n ∧ (e.person.size : Int) ≤ n ∧ (e.item.size : Int) ≤ n ∧ (e.text.size : Int) ≤ n := by
  unfold bigF at h
  simp only [Bool.or_eq_false_iff, decide_eq_false_iff_not] at h
  omega
/-- the law's one box -/
structure One (w W : World) (e : Ev) : Prop where
  bel : Below w.heap.size w W
  ev : W.heap[w.heap.size]? = some (.cells #[.string e.src, .int .i64 e.num, .int .i64 e.at', .int .i64 e.kind, .string e.person, .string e.item, .int .i64 e.val, .string e.text] 24 (0, 0))
theorem One.on {w W W' : World} {e : Ev} (h : One w W e) (hb : Below W.heap.size W W') : One w W' e := ⟨below_after h.bel hb, blk_below h.ev hb⟩
theorem One.drew {w W : World} {e : Ev} (h : One w W e) : One w W.drew e := ⟨below_dr h.bel, h.ev⟩
set_option maxHeartbeats 4000000 in
set_option maxRecDepth 100000 in
theorem may_any (e : Ev) (s : ByteArray) (hs : s.size ≤ 140737488351232) (w : World) (hE : Env w) :
    Calls Tryd.prog 4 #[e.v, .string s] w fun x w' => x = .returned (.bool true) ∧ Below w.heap.size w w' := by
  have HE := Lib.hid (fun (W : World) (hb : Below w.heap.size w W) => hE.on hb)
  clear hE
  have BA := Lib.hid (fun W => big_ok e 1000 W)
  obtain ⟨ba, hba⟩ : ∃ ba, bigF e 1000 = ba := ⟨_, rfl⟩
  rw [hba] at BA
  have HBA := Lib.hid hba
  clear hba
  have TK0 : Hid (One w (w.alloc (.cells #[.string e.src, .int .i64 e.num, .int .i64 e.at', .int .i64 e.kind, .string e.person, .string e.item, .int .i64 e.val, .string e.text] 24 (0, 0))) e) := ⟨below_al (Below.refl _ _) _, blk_new _ _⟩
  go_enter Tryd.func4, Tryd.ntmps4
  go_wp2_with fail
  refine (lives_ok _ (HE.out _ TK0.out.bel)).mono ?_
  rintro x w1 ⟨rfl, hb⟩
  have TK := Lib.hid (TK0.out.on hb)
  clear hb TK0
  obtain ⟨c0, c1, c2, c3, c4, c5, c6, c7⟩ := ev_cells TK.out.ev
  go_wp2_with fail
  refine (BA.out _).mono ?_
  rintro x w2 ⟨rfl, hb⟩
  have TK := Lib.hid (TK.out.on hb)
  clear hb c0 c1 c2 c3 c4 c5 c6 c7
  cases ba with
  | true =>
    go_wp2_with fail
    go_ret
    exact ⟨rfl, TK.out.bel⟩
  | false =>
  by_cases hl : 1000 < s.size
  · have hl' : (1000 : Int) < s.size := by omega
    go_wp2_with fail
    go_ret
    exact ⟨rfl, TK.out.bel⟩
  have hl' : ¬ (1000 : Int) < s.size := by omega
  go_wp2_with fail
  obtain ⟨z1, z2, z3, z4⟩ := bigF_small HBA.out
  have hs1 : s.size ≤ 4000000000 := by omega
  have ht1 : e.text.size ≤ 4000000000 := by omega
  have hF : Fits e := ⟨by omega, by omega, by omega, by omega⟩
  have N1 := Lib.hid (fun W => name_ok s W (by omega))
  have N2 := Lib.hid (fun W => refName_ok s W hs1)
  have M1 := Lib.hid (fun (W : World) (hb : Below w.heap.size w W) => may_ok e W hF (HE.out W hb))
  have M2 := Lib.hid (fun W => refMay_ok e W hF)
  have W1 := Lib.hid (fun W => worthE e W)
  have W2 := Lib.hid (fun W => worthR e W)
  have MK1 := Lib.hid (fun (W : World) (hb : Below w.heap.size w W) => maker_ok s W hs1 (HE.out W hb))
  have MK2 := Lib.hid (fun W => refMaker_ok s W hs1)
  have MK3 := Lib.hid (fun (W : World) (hb : Below w.heap.size w W) => maker_ok e.text W ht1 (HE.out W hb))
  have MK4 := Lib.hid (fun W => refMaker_ok e.text W ht1)
  have TG1 := Lib.hid (fun (W : World) (hb : Below w.heap.size w W) => tags_ok s W hs1 (HE.out W hb))
  have TR1 := Lib.hid (fun W => refTags_ok s W hs1)
  have TG2 := Lib.hid (fun (W : World) (hb : Below w.heap.size w W) => tags_ok e.text W ht1 (HE.out W hb))
  have TR2 := Lib.hid (fun W => refTags_ok e.text W ht1)
  have TK := Lib.hid TK.out.drew
  clear hl hl' z1 z2 z3 z4 BA HE hF
  refine region_reads Grows Grows.runs 51 [0, 2] 49 (by kernel_rfl) (by kernel_rfl) ?_
  repeat
    refine wpReads_ex rfl ?_
    apply Exists.intro
    refine ⟨fun wq hq => ?_, ?_⟩
    · obtain ⟨c0, c1, c2, c3, c4, c5, c6, c7⟩ := ev_cells (blk_below TK.out.ev hq)
      go_simp
      first
        | (simp only [beq_self_eq_true]; rfl)
        | rfl
    simp only [Act.put, List.setIfInBounds_toArray, List.set_cons_zero, List.set_cons_succ]
  refine wpReads_nil (wpS_one 1 rfl (by kernel_rfl) fun K1 hK => ?_)
  go_simp
  refine (N1.out _).mono ?_
  rintro x w11 ⟨rfl, hb⟩
  refine hK _ _ hb ?_
  clear hK K1
  have TK := Lib.hid (TK.out.on hb)
  clear hb
  refine wpS_one 3 rfl (by kernel_rfl) fun K1 hK => ?_
  go_simp
  refine (N2.out _).mono ?_
  rintro x w12 ⟨rfl, hb⟩
  refine hK _ _ hb ?_
  clear hK K1
  have TK := Lib.hid (TK.out.on hb)
  clear hb
  refine wpS_more Grows.runs [4, 5, 6, 8] 43 (by kernel_rfl) ?_
  repeat
    refine wpReads_ex rfl ?_
    apply Exists.intro
    refine ⟨fun wq hq => ?_, ?_⟩
    · obtain ⟨c0, c1, c2, c3, c4, c5, c6, c7⟩ := ev_cells (blk_below TK.out.ev hq)
      go_simp
      first
        | (simp only [beq_self_eq_true]; rfl)
        | rfl
    simp only [Act.put, List.setIfInBounds_toArray, List.set_cons_zero, List.set_cons_succ]
  refine wpReads_nil (wpS_one 7 rfl (by kernel_rfl) fun K1 hK => ?_)
  go_simp
  refine (M1.out _ TK.out.bel).mono ?_
  rintro x w13 ⟨rfl, hb⟩
  refine hK _ _ hb ?_
  clear hK K1
  have TK := Lib.hid (TK.out.on hb)
  clear hb
  refine wpS_one 9 rfl (by kernel_rfl) fun K1 hK => ?_
  go_simp
  refine (M2.out _).mono ?_
  rintro x w14 ⟨rfl, hb⟩
  refine hK _ _ hb ?_
  clear hK K1
  have TK := Lib.hid (TK.out.on hb)
  clear hb
  refine wpS_more Grows.runs [10, 11, 12, 13, 15] 36 (by kernel_rfl) ?_
  repeat
    refine wpReads_ex rfl ?_
    apply Exists.intro
    refine ⟨fun wq hq => ?_, ?_⟩
    · obtain ⟨c0, c1, c2, c3, c4, c5, c6, c7⟩ := ev_cells (blk_below TK.out.ev hq)
      go_simp
      first
        | (simp only [beq_self_eq_true]; rfl)
        | rfl
    simp only [Act.put, List.setIfInBounds_toArray, List.set_cons_zero, List.set_cons_succ]
  refine wpReads_nil (wpS_one 14 rfl (by kernel_rfl) fun K1 hK => ?_)
  go_simp
  refine (W1.out _).mono ?_
  rintro x w15 ⟨rfl, hb⟩
  refine hK _ _ hb ?_
  clear hK K1
  have TK := Lib.hid (TK.out.on hb)
  clear hb
  refine wpS_one 16 rfl (by kernel_rfl) fun K1 hK => ?_
  go_simp
  refine (W2.out _).mono ?_
  rintro x w16 ⟨rfl, hb⟩
  refine hK _ _ hb ?_
  clear hK K1
  have TK := Lib.hid (TK.out.on hb)
  clear hb
  refine wpS_more Grows.runs [17, 18, 19, 20, 22] 29 (by kernel_rfl) ?_
  repeat
    refine wpReads_ex rfl ?_
    apply Exists.intro
    refine ⟨fun wq hq => ?_, ?_⟩
    · obtain ⟨c0, c1, c2, c3, c4, c5, c6, c7⟩ := ev_cells (blk_below TK.out.ev hq)
      go_simp
      first
        | (simp only [beq_self_eq_true]; rfl)
        | rfl
    simp only [Act.put, List.setIfInBounds_toArray, List.set_cons_zero, List.set_cons_succ]
  refine wpReads_nil (wpS_one 21 rfl (by kernel_rfl) fun K1 hK => ?_)
  go_simp
  refine (MK1.out _ TK.out.bel).mono ?_
  rintro x w17 ⟨rfl, hb⟩
  refine hK _ _ hb ?_
  clear hK K1
  have TK := Lib.hid (TK.out.on hb)
  clear hb
  refine wpS_one 23 rfl (by kernel_rfl) fun K1 hK => ?_
  go_simp
  refine (MK2.out _).mono ?_
  rintro x w18 ⟨rfl, hb⟩
  refine hK _ _ hb ?_
  clear hK K1
  have TK := Lib.hid (TK.out.on hb)
  clear hb
  refine wpS_more Grows.runs [24, 25, 26, 27, 29] 22 (by kernel_rfl) ?_
  repeat
    refine wpReads_ex rfl ?_
    apply Exists.intro
    refine ⟨fun wq hq => ?_, ?_⟩
    · obtain ⟨c0, c1, c2, c3, c4, c5, c6, c7⟩ := ev_cells (blk_below TK.out.ev hq)
      go_simp
      first
        | (simp only [beq_self_eq_true]; rfl)
        | rfl
    simp only [Act.put, List.setIfInBounds_toArray, List.set_cons_zero, List.set_cons_succ]
  refine wpReads_nil (wpS_one 28 rfl (by kernel_rfl) fun K1 hK => ?_)
  go_simp
  refine (TG1.out _ TK.out.bel).mono ?_
  rintro x w21 ⟨A1, c1, rfl, hc1, hC1, hb⟩
  refine hK _ _ hb ?_
  clear hK K1
  have TK := Lib.hid (TK.out.on hb)
  have HC1 := Lib.hid hC1
  have HL1 := Lib.hid hc1
  clear hb hC1 hc1
  refine wpS_one 30 rfl (by kernel_rfl) fun K1 hK => ?_
  go_simp
  refine (TR1.out _).mono ?_
  rintro x w22 ⟨V1, rfl, hR1, hb⟩
  refine hK _ _ hb ?_
  clear hK K1
  have TK := Lib.hid (TK.out.on hb)
  have HC1 := Lib.hid (Kd.C_below HC1.out hb)
  obtain ⟨B1, d1, rfl, hd1, hD1⟩ := Kd.R_reads hR1
  have HD1 := Lib.hid hD1
  have HE1 := Lib.hid hd1
  clear hb hR1 hD1 hd1
  refine wpS_one 31 rfl (by kernel_rfl) fun K1 hK => ?_
  go_simp
  refine (refTexts_ok _ _ _ _ _ _ (tagsB_len _ hs1) HC1.out HL1.out HD1.out HE1.out).mono ?_
  rintro x w23 ⟨rfl, hb⟩
  refine hK _ _ hb ?_
  clear hK K1
  have TK := Lib.hid (TK.out.on hb)
  clear hb
  refine wpS_more Grows.runs [32, 33, 34, 35, 37, 38] 13 (by kernel_rfl) ?_
  repeat
    refine wpReads_ex rfl ?_
    apply Exists.intro
    refine ⟨fun wq hq => ?_, ?_⟩
    · obtain ⟨c0, c1, c2, c3, c4, c5, c6, c7⟩ := ev_cells (blk_below TK.out.ev hq)
      go_simp
      first
        | (simp only [beq_self_eq_true]; rfl)
        | rfl
    simp only [Act.put, List.setIfInBounds_toArray, List.set_cons_zero, List.set_cons_succ]
  refine wpReads_nil (wpS_one 36 rfl (by kernel_rfl) fun K1 hK => ?_)
  go_simp
  refine (MK3.out _ TK.out.bel).mono ?_
  rintro x w19 ⟨rfl, hb⟩
  refine hK _ _ hb ?_
  clear hK K1
  have TK := Lib.hid (TK.out.on hb)
  clear hb
  refine wpS_one 39 rfl (by kernel_rfl) fun K1 hK => ?_
  go_simp
  refine (MK4.out _).mono ?_
  rintro x w20 ⟨rfl, hb⟩
  refine hK _ _ hb ?_
  clear hK K1
  have TK := Lib.hid (TK.out.on hb)
  clear hb
  refine wpS_more Grows.runs [40, 41, 42, 43, 44, 46, 47] 4 (by kernel_rfl) ?_
  repeat
    refine wpReads_ex rfl ?_
    apply Exists.intro
    refine ⟨fun wq hq => ?_, ?_⟩
    · obtain ⟨c0, c1, c2, c3, c4, c5, c6, c7⟩ := ev_cells (blk_below TK.out.ev hq)
      go_simp
      first
        | (simp only [beq_self_eq_true]; rfl)
        | rfl
    simp only [Act.put, List.setIfInBounds_toArray, List.set_cons_zero, List.set_cons_succ]
  refine wpReads_nil (wpS_one 45 rfl (by kernel_rfl) fun K1 hK => ?_)
  go_simp
  refine (TG2.out _ TK.out.bel).mono ?_
  rintro x w24 ⟨A2, c2, rfl, hc2, hC2, hb⟩
  refine hK _ _ hb ?_
  clear hK K1
  have TK := Lib.hid (TK.out.on hb)
  have HC2 := Lib.hid hC2
  have HL2 := Lib.hid hc2
  clear hb hC2 hc2
  refine wpS_one 48 rfl (by kernel_rfl) fun K1 hK => ?_
  go_simp
  refine (TR2.out _).mono ?_
  rintro x w25 ⟨V2, rfl, hR2, hb⟩
  refine hK _ _ hb ?_
  clear hK K1
  have TK := Lib.hid (TK.out.on hb)
  have HC2 := Lib.hid (Kd.C_below HC2.out hb)
  obtain ⟨B2, d2, rfl, hd2, hD2⟩ := Kd.R_reads hR2
  have HD2 := Lib.hid hD2
  have HE2 := Lib.hid hd2
  clear hb hR2 hD2 hd2
  refine wpS_one 49 rfl (by kernel_rfl) fun K1 hK => ?_
  go_simp
  refine (refTexts_ok _ _ _ _ _ _ (tagsB_len _ ht1) HC2.out HL2.out HD2.out HE2.out).mono ?_
  rintro x w26 ⟨rfl, hb⟩
  refine hK _ _ hb ?_
  clear hK K1
  have TK := Lib.hid (TK.out.on hb)
  clear hb
  refine wpS_more Grows.runs [50] 0 (by kernel_rfl) ?_
  repeat
    refine wpReads_ex rfl ?_
    apply Exists.intro
    refine ⟨fun wq hq => ?_, ?_⟩
    · obtain ⟨c0, c1, c2, c3, c4, c5, c6, c7⟩ := ev_cells (blk_below TK.out.ev hq)
      go_simp
      first
        | (simp only [beq_self_eq_true]; rfl)
        | rfl
    simp only [Act.put, List.setIfInBounds_toArray, List.set_cons_zero, List.set_cons_succ]
  refine wpReads_nil (wpS_tail (by kernel_rfl) ?_)
  go_wp2_with fail
  go_ret
  exact ⟨rfl, TK.out.bel⟩
end Go.Proofs.YtkhjnbjmbmacjaaDoor
