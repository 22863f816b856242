/- event.Format: an event's text. -/
import Derived.Test.YtkhjnbjmbmacjaaDoorNK
import Derived.Test.YtkhjnbjmbmacjaaDoorNF
import Derived.Test.YtkhjnbjmbmacjaaDoorReads
namespace Go.Proofs.YtkhjnbjmbmacjaaDoor
open Go Go.RowKit

/-- what lies stays -/
def Grows (a b : World) : Prop := Below a.heap.size a b
theorem Grows.runs : Runs Grows := ⟨fun _ => Below.refl _ _, fun _ _ _ h k => below_after h k⟩
def kindsB : ByteArray := ⟨#[115, 101, 101, 110, 32, 111, 112, 101, 110, 101, 100, 32, 102, 105, 110, 105, 115, 104, 101, 100, 32, 98, 111, 117, 103, 104, 116, 32, 114, 97, 116, 101, 100, 32, 104, 105, 100, 100, 101, 110, 32, 117, 110, 104, 105, 100, 100, 101, 110, 32, 102, 111, 108, 108, 111, 119, 101, 100, 32, 117, 110, 102, 111, 108, 108, 111, 119, 101, 100, 32, 109, 117, 116, 101, 100, 32, 117, 110, 109, 117, 116, 101, 100, 32, 108, 105, 115, 116, 101, 100, 32, 115, 116, 111, 99, 107, 101, 100, 32, 100, 101, 108, 105, 115, 116, 101, 100, 32, 102, 111, 114, 103, 111, 116, 116, 101, 110]⟩
/-- the kinds' names -/
def kindNames : List ByteArray := (Lib.fields kindsB.data.toList).map fun l => ⟨l.toArray⟩
theorem kindNames_len : kindNames.length = 15 := by kernel_rfl
theorem kinds_ascii : ∀ (j : Nat) b, kindsB.data.toList[j]? = some b → b.toNat < 128 := by
  intro j b h
  have hb := List.mem_of_getElem? h
  have hall : (kindsB.data.toList.all fun b => decide (b.toNat < 128)) = true := by kernel_rfl
  exact of_decide_eq_true (List.all_eq_true.1 hall b hb)
theorem fields_ok (w : World) (hE : Env w) : Calls Tryd.prog 46 #[.string kindsB] w fun e w' =>
    e = .returned (.slice (some ⟨w.heap.size, 0, none⟩) 15 15) ∧ w' = w.alloc (.cells (kindNames.map Value.string).toArray 9 (0, 0)) := by
  have h := Tryd.strings_Fields kindsB w (by decide) kinds_ascii hE.tab
  have e1 : (Lib.fields kindsB.data.toList).length = 15 := by rw [← kindNames_len]; unfold kindNames; rw [List.length_map]
  have e2 : ((Lib.fields kindsB.data.toList).map fun l => Value.string ⟨l.toArray⟩) = kindNames.map Value.string := by unfold kindNames; rw [List.map_map]; rfl
  rw [e1, e2] at h
  exact h
def dotS (s : ByteArray) : ByteArray := if s.data.toList.isEmpty = true then ⟨#[46]⟩ else s
def mix (l : List ByteArray) (k : Nat) : List ByteArray := (l.take k).map dotS ++ l.drop k
theorem mix_len (l : List ByteArray) (k : Nat) : (mix l k).length = l.length := by unfold mix; simp; omega
theorem mix_get {l : List ByteArray} {k : Nat} (h : k < l.length) : (mix l k)[k]? = l[k]? := by
  unfold mix
  rw [List.getElem?_append_right (by simp; omega)]
  simp [Nat.min_eq_left (Nat.le_of_lt h)]
theorem mix_next {l : List ByteArray} {k : Nat} {t : ByteArray} (h : l[k]? = some t) : mix l (k + 1) = (l.take k).map dotS ++ dotS t :: l.drop (k + 1) := by
  unfold mix
  obtain ⟨h1, h2⟩ := List.getElem?_eq_some_iff.1 h
  rw [List.take_succ_eq_append_getElem h1, h2, List.map_append, List.append_assoc]
  rfl
theorem mix_set {l : List ByteArray} {k : Nat} {t : ByteArray} (h : l[k]? = some t) : (mix l k).set k (dotS t) = mix l (k + 1) := by
  rw [mix_next h]
  obtain ⟨h1, h2⟩ := List.getElem?_eq_some_iff.1 h
  unfold mix
  rw [List.set_append_right _ _ (by simp; omega)]
  simp only [List.length_map, List.length_take, Nat.min_eq_left (Nat.le_of_lt h1), Nat.sub_self]
  rw [List.drop_eq_getElem_cons h1]
  rfl
theorem mix_same {l : List ByteArray} {k : Nat} {t : ByteArray} (h : l[k]? = some t) (hd : dotS t = t) : mix l k = mix l (k + 1) := by
  rw [mix_next h, hd]
  obtain ⟨h1, h2⟩ := List.getElem?_eq_some_iff.1 h
  unfold mix
  rw [List.drop_eq_getElem_cons h1, h2]
/-- an event's words -/
def wordsF (e : Ev) (nm : ByteArray) : List ByteArray := [e.src, digF e.num.toNat ⟨#[]⟩, digF e.at'.toNat ⟨#[]⟩, nm, e.person, e.item, digF e.val.toNat ⟨#[]⟩, e.text]
def lineF (l : List ByteArray) : ByteArray := ⟨(Lib.join ((l.map dotS).map (·.data.toList)) [32]).toArray⟩
set_option maxHeartbeats 1000000 in
set_option maxRecDepth 100000 in
theorem format_of (e : Ev) (w : World) (na nb nc nk : Nat) (nm : ByteArray) (ha : e.num = na) (hb : e.at' = nb) (hc : e.val = nc) (hk : e.kind = nk) (la : na ≤ 1099511627776) (lb : nb ≤ 1099511627776) (lc : nc ≤ 1099511627776) (hnm : kindNames[nk]? = some nm)
    (hJ : (Lib.join (((wordsF e nm).map dotS).map (·.data.toList)) [32]).length ≤ 140737488355328)
    (hE : Env w) (hM : ∀ W, Below w.heap.size w W → Calls Tryd.prog 19 #[e.v] W fun x w' => x = .returned (.bool true) ∧ Below W.heap.size W w') :
    Calls Tryd.prog 16 #[e.v] w fun x w' => x = .returned (.string (lineF (wordsF e nm))) ∧ Below w.heap.size w w' := by
  have HM := Lib.hid hM
  have HJ := Lib.hid hJ
  clear hJ
  have HE := Lib.hid hE
  have HNM := Lib.hid hnm
  clear hM hE
  have lk : nk < 15 := by rw [← kindNames_len]; exact (List.getElem?_eq_some_iff.1 hnm).1
  have lki : (nk : Int) < 15 := by omega
  clear hnm
  obtain ⟨src, num, at', kind, person, item, val, text⟩ := e
  simp only at ha hb hc hk
  subst ha hb hc hk
  unfold lineF at *
  obtain ⟨ws, hws⟩ : ∃ ws, wordsF ⟨src, na, nb, nk, person, item, nc, text⟩ nm = ws := ⟨_, rfl⟩
  rw [hws] at HJ ⊢
  have hwl : ws.length = 8 := by rw [← hws]; rfl
  have HWL := Lib.hid hwl
  have HWS := Lib.hid hws
  clear hwl hws
  obtain ⟨J, hJJ⟩ : ∃ J, Lib.join ((ws.map dotS).map (·.data.toList)) [32] = J := ⟨_, rfl⟩
  rw [hJJ]
  have HJJ := Lib.hid hJJ
  clear hJJ
  go_enter Tryd.func16, Tryd.ntmps16
  go_wp2_with fail
  refine (HM.out _ (by first | exact Below.refl _ _ | exact below_al (Below.refl _ _) _)).mono ?_
  rintro x w1 ⟨rfl, hb⟩
  have K := Lib.hid (below_after (below_al (Below.refl w.heap.size w) _) hb)
  have BE : Hid (w1.heap[w.heap.size]? = some (.cells #[.string src, .int .i64 na, .int .i64 nb, .int .i64 nk, .string person, .string item, .int .i64 nc, .string text] 24 (0, 0))) := blk_below (blk_new w _) hb
  clear hb
  go_wp2_with fail
  refine region_reads Grows Grows.runs 22 [0, 1, 2, 3, 5, 6, 9, 10, 13, 14, 15, 16, 17, 18, 20, 21] 6 (by kernel_rfl) (by kernel_rfl) ?_
  have BE := Lib.hid (blk_drew BE.out)
  repeat
    refine wpReads_ex rfl ?_
    apply Exists.intro
    refine ⟨fun wq hq => ?_, ?_⟩
    · obtain ⟨c0, c1, c2, c3, c4, c5, c6, c7⟩ := ev_cells (e := ⟨src, na, nb, nk, person, item, nc, text⟩) (blk_below BE.out hq)
      go_simp
      first
        | rfl
    simp only [Act.put, List.setIfInBounds_toArray, List.set_cons_zero, List.set_cons_succ]
  refine wpReads_nil (wpS_one 4 rfl (by kernel_rfl) fun K1 hK => ?_)
  go_simp
  refine (digits_ok na _ la).mono ?_
  rintro x w3 ⟨rfl, h3⟩
  refine hK _ _ h3 ?_
  clear hK K1
  have K := Lib.hid (below_after (below_dr K.out) h3)
  clear h3
  refine wpS_one 7 rfl (by kernel_rfl) fun K1 hK => ?_
  go_simp
  refine (digits_ok nb _ lb).mono ?_
  rintro x w4 ⟨rfl, h4⟩
  refine hK _ _ h4 ?_
  clear hK K1
  have K := Lib.hid (below_after K.out h4)
  clear h4
  refine wpS_one 8 rfl (by kernel_rfl) fun K1 hK => ?_
  go_simp
  refine (fields_ok w4 (HE.out.on K.out)).mono ?_
  rintro x w5 ⟨rfl, rfl⟩
  refine hK _ _ (below_al (Below.refl _ _) _) ?_
  clear hK K1
  have BF : Hid ((w4.alloc (.cells (kindNames.map Value.string).toArray 9 (0, 0))).heap[w4.heap.size]? = some (.cells (kindNames.map Value.string).toArray 9 (0, 0))) := blk_new _ _
  have K := Lib.hid (below_al K.out (.cells (kindNames.map Value.string).toArray 9 (0, 0)))
  refine wpS_more Grows.runs [11, 12] 1 (by kernel_rfl) ?_
  repeat
    refine wpReads_ex rfl ?_
    apply Exists.intro
    refine ⟨fun wq hq => ?_, ?_⟩
    · have cf := cell_of_strs (blk_below BF.out hq) HNM.out
      go_simp
      first
        | rfl
    simp only [Act.put, List.setIfInBounds_toArray, List.set_cons_zero, List.set_cons_succ]
  refine wpReads_nil (wpS_one 19 rfl (by kernel_rfl) fun K1 hK => ?_)
  go_simp
  refine (digits_ok nc _ lc).mono ?_
  rintro x w6 ⟨rfl, h6⟩
  refine hK _ _ h6 ?_
  clear hK K1
  have K := Lib.hid (below_after K.out h6)
  clear h6
  refine wpS_tail (by kernel_rfl) ?_
  go_wp2_with fail
  have H0 : Hid (Below w.heap.size w (w6.alloc (.cells #[.string src, .string (digF na ⟨#[]⟩), .string (digF nb ⟨#[]⟩), .string nm, .string person, .string item, .string (digF nc ⟨#[]⟩), .string text] 9 (0, 0))) ∧
      (w6.alloc (.cells #[.string src, .string (digF na ⟨#[]⟩), .string (digF nb ⟨#[]⟩), .string nm, .string person, .string item, .string (digF nc ⟨#[]⟩), .string text] 9 (0, 0))).heap[w6.heap.size]? = some (.cells ((mix ws 0).map Value.string).toArray 9 (0, 0))) :=
    ⟨below_al K.out _, by rw [blk_new, ← HWS.out]; rfl⟩
  have HK6 : Hid (w.heap.size ≤ w6.heap.size) := K.out.size
  clear K BE BF HNM HWS HM HE
  go_loopw [34] (fun s34 wr => ∃ k : Nat, k ≤ 8 ∧ s34 = .int .i64 k ∧ Hid (Below w.heap.size w wr ∧ wr.heap[w6.heap.size]? = some (.cells ((mix ws k).map Value.string).toArray 9 (0, 0)))) (fun s34 _ => 8 - (intOf s34).toNat)
  case atStart => exact ⟨0, Nat.zero_le _, rfl, H0⟩
  case round =>
    clear H0
    obtain ⟨k, hk, rfl, H⟩ := hrel
    obtain ⟨wo, rfl⟩ : ∃ wo : World, wo = wr := ⟨_, rfl⟩
    by_cases hkn : k < 8
    · have hki : (k : Int) < 8 := by omega
      obtain ⟨t, ht⟩ : ∃ t, ws[k]? = some t := ⟨_, List.getElem?_eq_getElem (by rw [HWL.out]; exact hkn)⟩
      have ct := cell_of_strs H.out.2 ((mix_get (by rw [HWL.out]; exact hkn)).trans ht)
      have cz : wo.frozen? ⟨w6.heap.size, k, none⟩ = false := by have := H.out.2; simp [World.frozen?, this]
      obtain ⟨m, hm⟩ : ∃ m, t.data.toList.isEmpty = m := ⟨_, rfl⟩
      have hm1 : t.toList.isEmpty = m := by rw [ByteArray.toList_eq]; exact hm
      have hm2 : (t.toList == []) = m := by rw [← hm1]; cases t.toList <;> rfl
      cases m with
      | true =>
        have N : Hid (Below w.heap.size w (wo.setCell ⟨w6.heap.size, k, none⟩ (.string ⟨#[46]⟩)) ∧ (wo.setCell ⟨w6.heap.size, k, none⟩ (.string ⟨#[46]⟩)).heap[w6.heap.size]? = some (.cells ((mix ws (k + 1)).map Value.string).toArray 9 (0, 0))) := by
          refine ⟨below_set H.out.1 HK6.out _, ?_⟩
          rw [blk_set H.out.2, ← mix_set ht]
          have : dotS t = ⟨#[46]⟩ := by unfold dotS; rw [if_pos hm]
          rw [this]
          simp
        clear ht hm
        go_wp2_with fail
        go_roundw
        case rel => exact ⟨k + 1, by omega, by go_num, N⟩
        case measure => simp [intOf]; omega
      | false =>
        have N : Hid (Below w.heap.size w wo ∧ wo.heap[w6.heap.size]? = some (.cells ((mix ws (k + 1)).map Value.string).toArray 9 (0, 0))) := by
          refine ⟨H.out.1, ?_⟩
          rw [← mix_same ht (by unfold dotS; rw [if_neg (by rw [hm]; decide)])]
          exact H.out.2
        clear ht hm
        go_wp2_with fail
        go_roundw
        case rel => exact ⟨k + 1, by omega, by go_num, N⟩
        case measure => simp [intOf]; omega
    · obtain rfl : k = 8 := by omega
      have e8 : mix ws 8 = ws.map dotS := by unfold mix; rw [← HWL.out, List.take_length, List.drop_length, List.append_nil]
      have BB : Hid (wo.heap[w6.heap.size]? = some (.cells ((ws.map dotS).map Value.string).toArray 9 (0, 0))) := by rw [← e8]; exact H.out.2
      have JJ := Tryd.strings_Join w6.heap.size 0 8 (ws.map dotS) ⟨#[32]⟩ wo (fun j x hj => by rw [Nat.zero_add]; exact cell_of_strs BB.out hj) (lt_of_block BB.out) (by rw [List.length_map, HWL.out]; decide) (by rw [List.length_map, HWL.out]; decide) HJ.out
      rw [List.length_map, HWL.out, show (⟨#[32]⟩ : ByteArray).data.toList = [32] from rfl, HJJ.out] at JJ
      have JJ := Lib.hid JJ
      have K := Lib.hid H.out.1
      clear e8
      go_wp2_with fail
      refine JJ.out.mono ?_
      rintro x w7 ⟨rfl, h7⟩
      have K := Lib.hid (below_after K.out h7)
      clear h7
      go_wp2_with fail
      go_ret
      exact ⟨rfl, K.out⟩
end Go.Proofs.YtkhjnbjmbmacjaaDoor
