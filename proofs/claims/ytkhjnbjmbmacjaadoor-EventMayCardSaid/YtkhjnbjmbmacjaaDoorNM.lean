/- event.Format whole; the chapter's example lives. -/
import Derived.Test.YtkhjnbjmbmacjaaDoorNL
import Derived.Laws.BytesArg
namespace Go.Proofs.YtkhjnbjmbmacjaaDoor
open Go Go.RowKit

theorem digF_size : ∀ (n : Nat) (s : ByteArray), (digF n s).size ≤ s.size + n + 1 := by
  intro n
  induction n using Nat.strongRecOn with
  | _ n ih =>
    intro s
    have one_size : ∀ d, (one d).size = 1 := fun _ => rfl
    rw [digF]
    split
    · have := ih (n / 10) (by omega) (one (n % 10) ++ s)
      rw [ByteArray.size_append, one_size] at this
      omega
    · rw [ByteArray.size_append, one_size]; omega
theorem dotS_size (s : ByteArray) : (dotS s).size ≤ s.size + 1 := by
  unfold dotS
  split
  · show 1 ≤ _; omega
  · omega
theorem name_size {k : Nat} {nm : ByteArray} (h : kindNames[k]? = some nm) : nm.size ≤ 10 := by
  have hall : (kindNames.all fun b => decide (b.size ≤ 10)) = true := by kernel_rfl
  exact of_decide_eq_true (List.all_eq_true.1 hall nm (List.mem_of_getElem? h))
/-- the kind's name -/
def kindN (k : Int) : ByteArray := kindNames.getD k.toNat ⟨#[]⟩
theorem kindN_of {k : Int} (h : 0 ≤ k ∧ k ≤ 14) : kindNames[k.toNat]? = some (kindN k) := by
  unfold kindN
  rw [List.getD_eq_getElem?_getD, List.getElem?_eq_getElem (by rw [kindNames_len]; omega)]
  rfl
/-- an event's text -/
def formF (e : Ev) : ByteArray := lineF (wordsF e (kindN e.kind))
theorem lens_cons (x : List UInt8) (l : List (List UInt8)) : Lib.lens (x :: l) = x.length + Lib.lens l := by simp [Lib.lens]
theorem format_ok (e : Ev) (w : World) (hm : mayF e = true) (hE : Env w) :
    Calls Tryd.prog 16 #[e.v] w fun x w' => x = .returned (.string (formF e)) ∧ Below w.heap.size w w' := by
  obtain ⟨k, n, t, v, s1, s2, s3, s4⟩ := mayF_of hm
  have hk := kindN_of k
  refine format_of e w e.num.toNat e.at'.toNat e.val.toNat e.kind.toNat (kindN e.kind) (by omega) (by omega) (by omega) (by omega) (by omega) (by omega) (by omega) hk ?_ hE fun W hb => ?_
  · unfold wordsF
    simp only [List.map_cons, List.map_nil, Lib.join_length, lens_cons]
    have L : ∀ s : ByteArray, (dotS s).data.toList.length ≤ s.size + 1 := fun s => by rw [Array.length_toList]; exact dotS_size s
    have a1 := L e.src
    have a2 := L (digF e.num.toNat ⟨#[]⟩)
    have a3 := L (digF e.at'.toNat ⟨#[]⟩)
    have a4 := L (kindN e.kind)
    have a5 := L e.person
    have a6 := L e.item
    have a7 := L (digF e.val.toNat ⟨#[]⟩)
    have a8 := L e.text
    have d2 := digF_size e.num.toNat ⟨#[]⟩
    have d3 := digF_size e.at'.toNat ⟨#[]⟩
    have d7 := digF_size e.val.toNat ⟨#[]⟩
    have d4 := name_size hk
    have z : (⟨#[]⟩ : ByteArray).size = 0 := rfl
    have z2 : Lib.lens [] = 0 := rfl
    rw [z] at d2 d3 d7
    simp only [List.length_cons, List.length_nil, z2]
    omega
  · have := may_ok e W ⟨by omega, by omega, by omega, by omega⟩ (hE.on hb)
    rwa [hm] at this
/-- what may not be has no text -/
theorem format_no (e : Ev) (w : World) (hf : Fits e) (hm : mayF e = false) (hE : Env w) :
    Calls Tryd.prog 16 #[e.v] w fun x w' => x = .returned (.string ⟨#[]⟩) ∧ Below w.heap.size w w' := by
  have HM := Lib.hid (fun (W : World) (hb : Below w.heap.size w W) => may_ok e W hf (hE.on hb))
  rw [hm] at HM
  clear hE hf hm
  obtain ⟨src, num, at', kind, person, item, val, text⟩ := e
  go_enter Tryd.func16, Tryd.ntmps16
  go_wp2_with fail
  refine (HM.out _ (by first | exact Below.refl _ _ | exact below_al (Below.refl _ _) _)).mono ?_
  rintro x w1 ⟨rfl, hb⟩
  have K0 := Lib.hid (below_after (below_al (Below.refl w.heap.size w) _) hb)
  clear hb
  go_wp2_with fail
  go_ret
  exact ⟨rfl, K0.out⟩
theorem cell_of_row {w : World} {g k : Nat} {cs : Array Value} {t : TypeId} {fr : Nat × Nat} (h : w.heap[g]? = some (.cells cs t fr)) : w.cell? ⟨g, k, none⟩ = cs[k]? := by
  simp [World.cell?, h]
/-- an own row of bytes, turned into a text -/
theorem owns_text {w : World} {base : Nat} {S : Value} {l : List UInt8} (h : w.ownsRow base 5 1 S l.length (vB l)) :
    (convert 28 9 S).run Tryd.prog w = .ok (.string ⟨l.toArray⟩) w := by
  rcases h.2 with ⟨rfl, h0⟩ | ⟨g, c, cur, rfl, _, hr, _, _, _, hcs⟩
  · have hl : l = [] := List.eq_nil_of_length_eq_zero h0
    subst hl
    exact run_convert_bytes_nil w 28 5 Tryd.underlying28 Tryd.underlying5 _ _ _ Tryd.underlying9
  · have e1 : strOfNums (l.map fun b => (b.toNat : Int)) = ⟨l.toArray⟩ := by
      unfold strOfNums
      rw [List.map_map]
      congr 2
      rw [show ((fun n : Int => UInt8.ofNat n.toNat) ∘ fun b : UInt8 => (b.toNat : Int)) = id by funext b; simp]
      simp
    rw [← e1]
    refine run_convert_bytes_arg w 28 5 Tryd.underlying28 Tryd.underlying5 g 0 l.length c _ (by simp) (fun i hi => ?_) _ Tryd.underlying9
    rw [Nat.zero_add, cell_of_row hr]
    have h1 : cur.toList[i]? = (vB l)[i]? := by rw [← hcs, Nat.mul_one, List.getElem?_take_of_lt hi]
    rw [← Array.getElem?_toList, h1]
    unfold vB
    simp [List.getD, List.getElem?_eq_getElem hi]
/-- the chapter's example -/
def ev0 : Ev := ⟨⟨#[97]⟩, 300, 5, 0, ⟨#[112]⟩, ⟨#[113]⟩, 0, ⟨#[]⟩⟩
theorem ev0_may : mayF ev0 = true := by kernel_rfl
theorem ev0_enc : encB ev0 = [0, 1, 97, 172, 2, 5, 1, 112, 1, 113, 0, 0] := by
  have e1 : grB 300 = [172, 2] := by rw [grB, if_pos (by decide), grB, if_neg (by decide)]; rfl
  have e2 : grB 5 = [5] := by rw [grB, if_neg (by decide)]; rfl
  have e3 : grB 0 = [0] := by rw [grB, if_neg (by decide)]; rfl
  show UInt8.ofNat 0 :: (woB ⟨#[97]⟩ ++ (grB 300 ++ (grB 5 ++ (woB ⟨#[112]⟩ ++ (woB ⟨#[113]⟩ ++ (grB 0 ++ woB ⟨#[]⟩)))))) = _
  rw [e1, e2, e3]
  rfl
theorem ev0_form : formF ev0 = ⟨#[97, 32, 51, 48, 48, 32, 53, 32, 115, 101, 101, 110, 32, 112, 32, 113, 32, 48, 32, 46]⟩ := by
  have e1 : digF 300 ⟨#[]⟩ = ⟨#[51, 48, 48]⟩ := by rw [digF, if_pos (by decide), digF, if_pos (by decide), digF, if_neg (by decide)]; rfl
  have e2 : digF 5 ⟨#[]⟩ = ⟨#[53]⟩ := by rw [digF, if_neg (by decide)]; rfl
  have e3 : digF 0 ⟨#[]⟩ = ⟨#[48]⟩ := by rw [digF, if_neg (by decide)]; rfl
  have e4 : kindN 0 = ⟨#[115, 101, 101, 110]⟩ := by kernel_rfl
  show lineF [⟨#[97]⟩, digF 300 ⟨#[]⟩, digF 5 ⟨#[]⟩, kindN 0, ⟨#[112]⟩, ⟨#[113]⟩, digF 0 ⟨#[]⟩, ⟨#[]⟩] = _
  rw [e1, e2, e3, e4]
  kernel_rfl
set_option maxHeartbeats 1000000 in
set_option maxRecDepth 100000 in
theorem lives_ok (w : World) (hE : Env w) : Calls Tryd.prog 12 #[] w fun x w' => x = .returned (.bool true) ∧ Below w.heap.size w w' := by
  have HE := Lib.hid hE
  clear hE
  go_enter Tryd.func12, Tryd.ntmps12
  go_wp2_with fail
  refine (encode_ok ev0 _ ev0_may (HE.out.below (below_al (Below.refl _ _) _) (Nat.le_refl _))).mono ?_
  rintro x w1 ⟨S1, rfl, hb, ho⟩
  rw [ev0_enc] at ho
  have HC := owns_text ho
  have K := Lib.hid (below_after (below_al (Below.refl w.heap.size w) _) hb)
  have BE := blk_below (blk_new w (.cells #[.string ev0.src, .int .i64 ev0.num, .int .i64 ev0.at', .int .i64 ev0.kind, .string ev0.person, .string ev0.item, .int .i64 ev0.val, .string ev0.text] 24 (0, 0))) hb
  obtain ⟨c0, c1, c2, c3, c4, c5, c6, c7⟩ := ev_cells BE
  clear hb ho BE
  unfold ev0 at c0 c1 c2 c3 c4 c5 c6 c7
  simp only at c0 c1 c2 c3 c4 c5 c6 c7
  go_wp2_with fail
  refine (format_ok ev0 _ ev0_may (HE.out.on K.out)).mono ?_
  rintro x w2 ⟨rfl, hb⟩
  have K := Lib.hid (below_after K.out hb)
  rw [ev0_form]
  clear hb c0 c1 c2 c3 c4 c5 c6 c7 HC
  go_wp2_with fail
  go_ret
  exact ⟨rfl, K.out⟩
end Go.Proofs.YtkhjnbjmbmacjaaDoor
