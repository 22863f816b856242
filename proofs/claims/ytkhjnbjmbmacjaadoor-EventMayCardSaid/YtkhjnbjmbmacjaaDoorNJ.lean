/- event.goods: what a thing may be listed with; event.May whole. -/
import Derived.Test.YtkhjnbjmbmacjaaDoorNE
import Derived.Lib.SplitLaws
import Derived.Lib.SmallJoins
namespace Go.Proofs.YtkhjnbjmbmacjaaDoor
open Go Go.RowKit Go.Joins Go.Proofs.YtkhjnbjmbmacjaaDoorW.PrintWords

/-- the library's variables that strings.Index and strings.Fields ask -/
structure Env (w : World) : Prop where
  most : ∃ m : Int, w.cell? ⟨2, 0, none⟩ = some (.int .i64 m)
  tab : Lib.TabIs Tryd.prog w "strings.asciiSpace" .u8 Lib.asciiSpaceTab
theorem Env.below {B : Nat} {w W : World} (h : Env w) (hb : Below B w W) (hB : w.heap.size ≤ B) : Env W := by
  obtain ⟨⟨m, hm⟩, ht⟩ := h
  exact ⟨⟨m, (hb.cell (p := ⟨2, 0, none⟩) (Nat.lt_of_lt_of_le (World.block_lt_of_cell? w _ hm) hB)).trans hm⟩, tab_stays (g := 0) (by kernel_rfl) ht hb hB⟩
theorem Env.on {w W : World} (h : Env w) (hb : Below w.heap.size w W) : Env W := h.below hb (Nat.le_refl _)
/-- a text, parted at a comma -/
def spl (c : UInt8) (s : ByteArray) : List ByteArray := Lib.splitB ⟨#[c]⟩ 0 (Lib.countB s ⟨#[c]⟩) s
theorem spl_len (c : UInt8) (s : ByteArray) : (spl c s).length = Lib.countB s ⟨#[c]⟩ + 1 := Lib.splitB_all ⟨#[c]⟩ (Nat.le_refl _) 0 _ s rfl
theorem spl_le (c : UInt8) (s : ByteArray) : (spl c s).length ≤ s.size + 1 := by
  have := Lib.countB_le ⟨#[c]⟩ (Nat.le_refl _) s.size s (Nat.le_refl _)
  rw [spl_len]; omega
theorem splitB_mem (c : UInt8) : ∀ (k : Nat) (s t : ByteArray), t ∈ Lib.splitB ⟨#[c]⟩ 0 k s → t.size ≤ s.size
  | 0, s, t, h => by
    rw [Lib.splitB_zero] at h
    obtain rfl := List.mem_singleton.1 h
    exact Nat.le_refl _
  | k + 1, s, t, h => by
    unfold Lib.splitB at h
    split at h
    · obtain rfl := List.mem_singleton.1 h
      exact Nat.le_refl _
    · rcases List.mem_cons.1 h with rfl | h
      · rw [ByteArray.size_extract]; omega
      · have := splitB_mem c k _ t h
        rw [ByteArray.size_extract] at this; omega
theorem spl_mem {c : UInt8} {s t : ByteArray} {k : Nat} (h : (spl c s)[k]? = some t) : t.size ≤ s.size := splitB_mem c _ s t (List.mem_of_getElem? h)
def aheadB (p : Option ByteArray) (t : ByteArray) : Bool := match p with
  | none => true
  | some q => Op.bytesLess q.data.toList t.data.toList
def tagsF : Option ByteArray → List ByteArray → Bool
  | _, [] => true
  | p, t :: r => (nameB t && aheadB p t) && tagsF (some t) r
def prv (l : List ByteArray) (k : Nat) : Option ByteArray := if k = 0 then none else l[k - 1]?
def goodsF (s : ByteArray) : Bool :=
  if (Lib.cut s.data.toList [59]).2.2 = true then
    if nameB ⟨(Lib.cut s.data.toList [59]).1.toArray⟩ = true then
      if (Lib.cut s.data.toList [59]).2.1 = [] then true
      else tagsF none (spl 44 ⟨(Lib.cut s.data.toList [59]).2.1.toArray⟩) && decide ((spl 44 ⟨(Lib.cut s.data.toList [59]).2.1.toArray⟩).length ≤ 8)
    else false
  else false
theorem cell_of_strs {w : World} {g k : Nat} {l : List ByteArray} {t : TypeId} {x : ByteArray} (h : w.heap[g]? = some (.cells (l.map Value.string).toArray t (0, 0))) (hk : l[k]? = some x) : w.cell? ⟨g, k, none⟩ = some (.string x) := by
  simp [World.cell?, h, hk]
theorem cut_size (l sep : List UInt8) : (Lib.cut l sep).1.length ≤ l.length ∧ (Lib.cut l sep).2.1.length ≤ l.length := by
  unfold Lib.cut
  split <;> simp
  omega
set_option maxHeartbeats 1000000 in
set_option maxRecDepth 100000 in
theorem goods_ok (s : ByteArray) (w : World) (hs : s.size ≤ 4000000000) (hE : Env w) :
    Calls Tryd.prog 53 #[.string s] w fun e w' => e = .returned (.bool (goodsF s)) ∧ Below w.heap.size w w' := by
  obtain ⟨⟨m, hm⟩, _⟩ := hE
  have CC := Tryd.strings_Cut s ⟨#[59]⟩ m w (by omega) hm
  have hml := World.block_lt_of_cell? w _ hm
  obtain ⟨c1, c2⟩ := cut_size s.data.toList [59]
  rw [Array.length_toList] at c1 c2
  have hsz : s.data.size = s.size := rfl
  rw [hsz] at c1 c2
  unfold goodsF
  generalize hc : Lib.cut s.data.toList [59] = c at *
  obtain ⟨a, b, ok⟩ := c
  simp only at c1 c2
  simp only at CC ⊢
  have sa : (⟨a.toArray⟩ : ByteArray).size = a.length := by simp [ByteArray.size]
  have sb : (⟨b.toArray⟩ : ByteArray).size = b.length := by simp [ByteArray.size]
  have Hsb := Lib.hid sb
  have hsa : (⟨a.toArray⟩ : ByteArray).size ≤ 9223372036854775807 := by omega
  have CC := Lib.hid CC
  have HM := Lib.hid hm
  have LM := Lib.hid hml
  clear hc hsz sa sb hm hml
  cases ok with
  | false =>
    go_enter Tryd.func53, Tryd.ntmps53
    go_wp2_with fail
    refine CC.out.mono ?_
    rintro e w1 ⟨rfl, q, rfl⟩
    have K := Lib.hid (below_drN (Below.refl w.heap.size w) q)
    go_wp2_with fail
    go_ret
    exact ⟨rfl, K.out⟩
  | true =>
    rw [if_pos rfl]
    generalize hna : (⟨a.toArray⟩ : ByteArray) = A at *
    have HN := Lib.hid (fun W => name_ok A W hsa)
    generalize nameB A = na at *
    clear hna hsa
    cases na with
    | false =>
      go_enter Tryd.func53, Tryd.ntmps53
      go_wp2_with fail
      refine CC.out.mono ?_
      rintro e w1 ⟨rfl, q, rfl⟩
      have K := below_drN (Below.refl w.heap.size w) q
      go_wp2_with fail
      refine (HN.out _).mono ?_
      rintro e w2 ⟨rfl, hb⟩
      have K := Lib.hid (below_after K hb)
      clear hb
      go_wp2_with fail
      go_ret
      exact ⟨rfl, K.out⟩
    | true =>
      rw [if_pos rfl]
      by_cases hbe : b = []
      · subst hbe
        rw [if_pos rfl]
        go_enter Tryd.func53, Tryd.ntmps53
        go_wp2_with fail
        refine CC.out.mono ?_
        rintro e w1 ⟨rfl, q, rfl⟩
        have K := below_drN (Below.refl w.heap.size w) q
        go_wp2_with fail
        refine (HN.out _).mono ?_
        rintro e w2 ⟨rfl, hb⟩
        have K := Lib.hid (below_after K hb)
        clear hb
        go_wp2_with fail
        go_ret
        exact ⟨rfl, K.out⟩
      · rw [if_neg hbe]
        have hbe1 : b.isEmpty = false := by cases b with | nil => exact absurd rfl hbe | cons _ _ => rfl
        have hB1 : (⟨b.toArray⟩ : ByteArray).toList.isEmpty = false := by rw [ByteArray.toList_eq]; simpa using hbe1
        have hB2 : ((⟨b.toArray⟩ : ByteArray).toList == []) = false := by rw [ByteArray.toList_eq]; simpa using hbe
        have SP := Lib.hid (fun (W : World) (h : W.cell? ⟨2, 0, none⟩ = some (.int .i64 m)) => Tryd.strings_Split ⟨b.toArray⟩ ⟨#[44]⟩ m W (by rw [Hsb.out]; omega) h (Nat.le_refl _))
        have hll := spl_le 44 ⟨b.toArray⟩
        rw [Hsb.out] at hll
        have hlen := spl_len 44 ⟨b.toArray⟩
        rw [show Lib.splitB ⟨#[44]⟩ 0 (Lib.countB ⟨b.toArray⟩ ⟨#[44]⟩) ⟨b.toArray⟩ = spl 44 ⟨b.toArray⟩ from rfl, ← hlen] at SP
        generalize hB : (⟨b.toArray⟩ : ByteArray) = B at *
        have HMEM := Lib.hid (fun k t (h : (spl 44 B)[k]? = some t) => spl_mem h)
        have hBs : B.size ≤ 4000000000 := by rw [Hsb.out]; omega
        generalize hL : spl 44 B = L at *
        clear hL hlen hB hbe hbe1 Hsb
        obtain ⟨n, hn⟩ : ∃ n, L.length = n := ⟨_, rfl⟩
        rw [hn] at SP hll ⊢
        obtain ⟨R, hR⟩ : ∃ R, tagsF none L = R := ⟨_, rfl⟩
        rw [hR]
        obtain ⟨r8, hr8⟩ : ∃ r8, decide (n ≤ 8) = r8 := ⟨_, rfl⟩
        rw [hr8]
        have H8 := Lib.hid hr8
        clear hr8
        have HLn := Lib.hid hn
        have HR := Lib.hid hR
        clear hn hR
        go_enter Tryd.func53, Tryd.ntmps53
        go_wp2_with fail
        refine CC.out.mono ?_
        rintro e w1 ⟨rfl, q, rfl⟩
        have K := below_drN (Below.refl w.heap.size w) q
        go_wp2_with fail
        refine (HN.out _).mono ?_
        rintro e w2 ⟨rfl, hb⟩
        have K := Lib.hid (below_after K hb)
        clear hb
        go_wp2_with fail
        refine (SP.out _ ((K.out.cell (p := ⟨2, 0, none⟩) LM.out).trans HM.out)).mono ?_
        rintro e w3 ⟨rfl, rfl⟩
        go_wp2_with fail
        have H0 : Hid (Below w.heap.size w (w2.alloc (Obj.cells (List.map Value.string L).toArray 9 (0, 0))) ∧ (w2.alloc (Obj.cells (List.map Value.string L).toArray 9 (0, 0))).heap[w2.heap.size]? = some (Obj.cells (List.map Value.string L).toArray 9 (0, 0)) ∧ tagsF (prv L 0) (L.drop 0) = R) := ⟨below_al K.out _, blk_new _ _, HR.out⟩
        clear K SP HN CC HM LM
        go_loopw [28] (fun s28 wr => ∃ k : Nat, k ≤ n ∧ s28 = .int .i64 k ∧ Hid (Below w.heap.size w wr ∧ wr.heap[w2.heap.size]? = some (Obj.cells (List.map Value.string L).toArray 9 (0, 0)) ∧ tagsF (prv L k) (L.drop k) = R)) (fun s28 _ => n - (intOf s28).toNat)
        case atStart => exact ⟨0, Nat.zero_le _, rfl, H0⟩
        case round =>
          clear H0
          obtain ⟨k, hk, rfl, H⟩ := hrel
          obtain ⟨wo, rfl⟩ : ∃ wo : World, wo = wr := ⟨_, rfl⟩
          by_cases hkn : k < n
          · have hki : (k : Int) < n := by omega
            obtain ⟨t, ht⟩ : ∃ t, L[k]? = some t := ⟨_, List.getElem?_eq_getElem (by rw [HLn.out]; exact hkn)⟩
            have HT := Lib.hid ht
            have ct := cell_of_strs H.out.2.1 ht
            have HD : Hid (tagsF (prv L k) (t :: L.drop (k + 1)) = R) := by
              have := H.out.2.2
              rw [List.drop_eq_getElem_cons (by rw [HLn.out]; exact hkn)] at this
              rw [List.getElem?_eq_getElem (by rw [HLn.out]; exact hkn)] at ht
              rwa [Option.some.inj ht] at this
            clear ht
            have hts : t.size ≤ 9223372036854775807 := by have := HMEM.out k t HT.out; omega
            have HN := Lib.hid (fun W => name_ok t W hts)
            go_wp2_with fail
            obtain ⟨nt, hnt⟩ : ∃ nt, nameB t = nt := ⟨_, rfl⟩
            rw [hnt] at HN
            have HNT := Lib.hid hnt
            clear hnt
            cases nt with
            | false =>
              refine (HN.out _).mono ?_
              rintro e w4 ⟨rfl, hb⟩
              have hR : Hid (R = false) := by
                rw [← HD.out]
                show ((nameB t && _) && _) = false
                rw [HNT.out]; rfl
              have K := Lib.hid (below_after H.out.1 hb)
              clear hb ct
              go_wp2_with fail
              go_ret
              rw [hR.out]
              exact ⟨rfl, K.out⟩
            | true =>
              refine (HN.out _).mono ?_
              rintro e w4 ⟨rfl, hb⟩
              have K := Lib.hid (below_after H.out.1 hb)
              have BL := Lib.hid (blk_below H.out.2.1 hb)
              have NK : Hid ((k : Int) + 1 = ((k + 1 : Nat) : Int)) := by unfold Hid; omega
              clear hb ct
              by_cases hk0 : k = 0
              · have hD : Hid (tagsF (prv L (k + 1)) (L.drop (k + 1)) = R) := by
                  have := HD.out
                  unfold tagsF at this
                  rw [HNT.out, show prv L k = none by unfold prv; rw [if_pos hk0]] at this
                  have e : prv L (k + 1) = some t := by unfold prv; rw [if_neg (by omega)]; exact HT.out
                  rw [e]; exact this
                subst hk0
                go_wp2_with fail
                go_roundw
                case rel => exact ⟨1, by omega, rfl, K.out, BL.out, hD.out⟩
                case measure => simp [intOf]; omega
              · obtain ⟨j, hj⟩ : ∃ j, k = j + 1 := ⟨k - 1, by omega⟩
                have hk1 : (0 : Int) < k := by omega
                have hkj : (k : Int) - 1 = (j : Int) := by omega
                have hjn : (j : Int) < n := by omega
                obtain ⟨q, hq⟩ : ∃ q, L[j]? = some q := ⟨_, List.getElem?_eq_getElem (by rw [HLn.out]; omega)⟩
                have cq := cell_of_strs BL.out hq
                obtain ⟨m1, hm1⟩ : ∃ m1, Op.bytesLess q.data.toList t.data.toList = m1 := ⟨_, rfl⟩
                have hm2 : Op.bytesLess q.toList t.toList = m1 := by rw [ByteArray.toList_eq, ByteArray.toList_eq]; exact hm1
                have hD : Hid ((m1 && tagsF (prv L (k + 1)) (L.drop (k + 1))) = R) := by
                  have := HD.out
                  unfold tagsF at this
                  have e0 : prv L k = some q := by unfold prv; rw [if_neg hk0, hj]; exact hq
                  have e : prv L (k + 1) = some t := by unfold prv; rw [if_neg (by omega)]; exact HT.out
                  rw [HNT.out, e0] at this
                  unfold aheadB at this
                  simp only at this
                  rw [hm1, ← e] at this
                  exact this
                clear hq hm1 hj hk0
                cases m1 with
                | false =>
                  have hR : Hid (R = false) := by rw [← hD.out]; rfl
                  go_wp2_with fail
                  go_ret
                  rw [hR.out]
                  exact ⟨rfl, K.out⟩
                | true =>
                  go_wp2_with fail
                  go_roundw
                  case rel => exact ⟨k + 1, by omega, by go_num, K.out, BL.out, hD.out⟩
                  case measure => simp [intOf]; omega
          · have hki : ¬ (k : Int) < n := by omega
            have hR : Hid (R = true) := by
              have := H.out.2.2
              rw [List.drop_eq_nil_of_le (by rw [HLn.out]; omega)] at this
              rw [← this]; cases prv L k <;> rfl
            have K := Lib.hid H.out.1
            by_cases h8 : n ≤ 8
            · have h8' : (n : Int) ≤ 8 := by omega
              have h9 : Hid (r8 = true) := by rw [← H8.out]; exact decide_eq_true h8
              go_wp2_with fail
              go_ret
              rw [hR.out, h9.out]
              exact ⟨rfl, K.out⟩
            · have h8' : ¬ (n : Int) ≤ 8 := by omega
              have h9 : Hid (r8 = false) := by rw [← H8.out]; exact decide_eq_false h8
              go_wp2_with fail
              go_ret
              rw [hR.out, h9.out]
              exact ⟨rfl, K.out⟩
end Go.Proofs.YtkhjnbjmbmacjaaDoor
