/- event.Maker, event.Tags; the document's May. -/
import Derived.Test.YtkhjnbjmbmacjaaDoorPB
import Derived.Test.YtkhjnbjmbmacjaaDoorReads
import Derived.BigQuiet
namespace Go.Proofs.YtkhjnbjmbmacjaaDoor
open Go Go.RowKit Go.Proofs.YtkhjnbjmbmacjaaDoorW.PrintWords

theorem maker_ok (s : ByteArray) (w : World) (hs : s.size ≤ 4000000000) (hE : Env w) :
    Calls Tryd.prog 22 #[.string s] w fun e w' => e = .returned (.string (makerB s)) ∧ Below w.heap.size w w' := by
  obtain ⟨⟨m, hm⟩, _⟩ := hE
  have CC := Lib.hid (Tryd.strings_Cut s ⟨#[59]⟩ m w (by omega) hm)
  clear hm
  unfold makerB
  go_enter Tryd.func22, Tryd.ntmps22
  go_wp2_with fail
  refine CC.out.mono ?_
  rintro e w1 ⟨rfl, q, rfl⟩
  have K := Lib.hid (below_drN (Below.refl w.heap.size w) q)
  go_wp2_with fail
  go_ret
  exact ⟨rfl, K.out⟩
theorem C_block {w : World} {g : Nat} {t : TypeId} {L : List ByteArray} (h : w.heap[g]? = some (.cells (L.map Value.string).toArray t (0, 0))) (hl : L.length ≤ 9223372036854775807) : Kd.C Kd.string w (some ⟨g, 0, none⟩) L.length L := by
  refine ⟨rfl, hl, fun _ => ⟨_, rfl, fun j p hj => ⟨[.string p], rfl, rfl, fun i u hu => ?_⟩⟩⟩
  obtain rfl : i = 0 := by
    have := (List.getElem?_eq_some_iff.1 hu).1
    simpa using this
  obtain rfl : Value.string p = u := by simpa using hu
  have e : (⟨g, 0, none⟩ : Addr).add (j * Kd.string.sz + 0) = ⟨g, j, none⟩ := by
    have h1 : (⟨g, 0, none⟩ : Addr).add j = ⟨g, 0 + j, none⟩ := by unfold Addr.add; split <;> simp_all
    show (⟨g, 0, none⟩ : Addr).add (j * 1 + 0) = _
    rw [Nat.mul_one, Nat.add_zero, h1, Nat.zero_add]
  rw [e]
  exact cell_of_strs h hj
theorem tags_ok (s : ByteArray) (w : World) (hs : s.size ≤ 4000000000) (hE : Env w) :
    Calls Tryd.prog 25 #[.string s] w fun e w' => ∃ A c, e = .returned (.slice A (tagsB s).length c) ∧ (tagsB s).length ≤ c ∧ Kd.C Kd.string w' A (tagsB s).length (tagsB s) ∧ Below w.heap.size w w' := by
  obtain ⟨⟨m, hm⟩, _⟩ := hE
  have CC := Tryd.strings_Cut s ⟨#[59]⟩ m w (by omega) hm
  have hml := World.block_lt_of_cell? w _ hm
  have hcs := (cut_size s.data.toList [59]).2
  rw [Array.length_toList] at hcs
  have hz : s.data.size = s.size := rfl
  rw [hz] at hcs
  unfold tagsB
  generalize hc : Lib.cut s.data.toList [59] = c at *
  obtain ⟨a, b, ok⟩ := c
  simp only at CC hcs ⊢
  have CC := Lib.hid CC
  have HM := Lib.hid hm
  have LM := Lib.hid hml
  clear hc hm hml hz
  by_cases hbe : b = []
  · subst hbe
    rw [if_pos rfl]
    go_enter Tryd.func25, Tryd.ntmps25
    go_wp2_with fail
    refine CC.out.mono ?_
    rintro e w1 ⟨rfl, q, rfl⟩
    have K := Lib.hid (below_drN (Below.refl w.heap.size w) q)
    go_wp2_with fail
    go_ret
    exact ⟨none, 0, rfl, Nat.le_refl _, Kd.C_nil _ _, K.out⟩
  · rw [if_neg hbe]
    have hbe1 : b.isEmpty = false := by cases b with | nil => exact absurd rfl hbe | cons _ _ => rfl
    have hB1 : (⟨b.toArray⟩ : ByteArray).toList.isEmpty = false := by rw [ByteArray.toList_eq]; simpa using hbe1
    have hB2 : ((⟨b.toArray⟩ : ByteArray).toList == []) = false := by rw [ByteArray.toList_eq]; simpa using hbe
    have hbs : (⟨b.toArray⟩ : ByteArray).size ≤ 4000000000 := by show (mkB b).size ≤ _; rw [mkB_size]; omega
    have SP := Lib.hid (fun (W : World) (h : W.cell? ⟨2, 0, none⟩ = some (.int .i64 m)) => Tryd.strings_Split ⟨b.toArray⟩ ⟨#[44]⟩ m W (by omega) h (Nat.le_refl _))
    have hlen := spl_len 44 ⟨b.toArray⟩
    have hll := spl_le 44 ⟨b.toArray⟩
    rw [show Lib.splitB ⟨#[44]⟩ 0 (Lib.countB ⟨b.toArray⟩ ⟨#[44]⟩) ⟨b.toArray⟩ = spl 44 ⟨b.toArray⟩ from rfl, ← hlen] at SP
    generalize hL : spl 44 (⟨b.toArray⟩ : ByteArray) = L at *
    generalize (⟨b.toArray⟩ : ByteArray) = B at *
    clear hL hlen hbe hbe1
    obtain ⟨n, hn⟩ : ∃ n, L.length = n := ⟨_, rfl⟩
    have HN := Lib.hid hn
    rw [hn] at SP hll ⊢
    clear hn
    go_enter Tryd.func25, Tryd.ntmps25
    go_wp2_with fail
    refine CC.out.mono ?_
    rintro e w1 ⟨rfl, q, rfl⟩
    have K := Lib.hid (below_drN (Below.refl w.heap.size w) q)
    go_wp2_with fail
    refine (SP.out _ ((K.out.cell (p := ⟨2, 0, none⟩) LM.out).trans HM.out)).mono ?_
    rintro e w3 ⟨rfl, rfl⟩
    have BL : Hid (((w.drewN q).alloc (.cells (L.map Value.string).toArray 9 (0, 0))).heap[(w.drewN q).heap.size]? = some (.cells (L.map Value.string).toArray 9 (0, 0))) := blk_new _ _
    have K := Lib.hid (below_al K.out (.cells (L.map Value.string).toArray 9 (0, 0)))
    go_wp2_with fail
    go_ret
    refine ⟨_, _, rfl, Nat.le_refl _, ?_, K.out⟩
    have := C_block BL.out (by rw [HN.out]; omega)
    rwa [HN.out] at this
end Go.Proofs.YtkhjnbjmbmacjaaDoor
