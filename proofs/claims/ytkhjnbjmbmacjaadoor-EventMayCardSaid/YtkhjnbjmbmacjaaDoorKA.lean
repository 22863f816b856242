/- Contracts of functions that read only, by the kit's print: cut out of it by program for the functions named: ciceroneref02_Name, ciceroneref02_In, ciceroneref02_place, ciceroneref02_Maker, ciceroneref02_Parts, ciceroneref02_Tags, ciceroneref02_Label, event_Worth, ciceroneref02_Worth, ciceroneref02_Texts. -/
import Derived.Test.YtkhjnbjmbmacjaaDoorProg
import Derived.Below
import Derived.Deep.Draws
import Derived.Deep.AppendLies
import Derived.Maps.AppendAt
import Derived.OwnWalk
import Derived.Laws.BytesArg
import Derived.Laws.MakeOwn
import Derived.Laws.OwnMore
import Derived.Deep.OwnRows
import Derived.Tactics
import Derived.Lib.ConvBytes
import Derived.Laws.Slices
import Derived.WalkKit
import Derived.KernelRfl
import Derived.RowKit3
import Derived.Deep.LoopGhost
import Derived.Deep.QuietTactic
import Derived.BigQuiet
import Derived.WideLaws
import Derived.Deep.DeepCutAuto
import Derived.Deep.CutBlock
import Derived.Deep.RegionHeld3
import Derived.Laws.Rows
import Derived.Lib.AppendStr
import Derived.ArgAppend
import Derived.Laws.IdiomCopy
import Derived.OrdersHeld
import Derived.Laws.BitsLemmas
import Derived.RowKit
import Derived.Test.YtkhjnbjmbmacjaaDoorWWords
import Derived.Test.YtkhjnbjmbmacjaaDoorWLast
import Derived.Test.YtkhjnbjmbmacjaaDoorWTab
import Derived.Test.YtkhjnbjmbmacjaaDoorWFour
import Derived.Test.YtkhjnbjmbmacjaaDoorWQPut
import Derived.Test.YtkhjnbjmbmacjaaDoorWApart
import Derived.Test.YtkhjnbjmbmacjaaDoorWArr
import Derived.Test.YtkhjnbjmbmacjaaDoorWZeros
import Derived.Test.YtkhjnbjmbmacjaaDoorWFoot
import Derived.Test.YtkhjnbjmbmacjaaDoorWKept
import Derived.Test.YtkhjnbjmbmacjaaDoorWShare
import Derived.Test.YtkhjnbjmbmacjaaDoorWN
import Derived.Test.YtkhjnbjmbmacjaaDoorWFootNe
import Derived.Test.YtkhjnbjmbmacjaaDoorWAt
import Derived.Test.YtkhjnbjmbmacjaaDoorWEqStruct
import Derived.Test.YtkhjnbjmbmacjaaDoorWRepsOne
import Derived.Test.YtkhjnbjmbmacjaaDoorWInv
import Derived.Test.YtkhjnbjmbmacjaaDoorWInvWords
import Derived.Test.YtkhjnbjmbmacjaaDoorWGuard
import Derived.Test.YtkhjnbjmbmacjaaDoorWNEv
import Derived.Test.YtkhjnbjmbmacjaaDoorWMore
import Derived.WalkLawsBesides
namespace Go.Proofs.YtkhjnbjmbmacjaaDoor.KA
open Go.RowKit Go.Proofs.YtkhjnbjmbmacjaaDoorW.PrintWords Go.Proofs.YtkhjnbjmbmacjaaDoorW.PrintLast Go.Proofs.YtkhjnbjmbmacjaaDoorW.PrintMore
attribute [local go_sem] max2_int min2_int max_two min_two max_three min_three max_four min_four   -- for this text's walks alone
set_option linter.unusedVariables false
set_option linter.unusedSimpArgs false



def errW : Option Int → Value
  | none => .nilIface
  | some c => .iface 0 (.int .i64 c)
theorem errW_none : errW none = .nilIface := rfl
theorem errW_some (c : Int) : errW (some c) = .iface 0 (.int .i64 c) := rfl

theorem info5 : (Tryd.prog.info? 5).map (fun i => (i.zero, i.size, i.bytes)) = some (some (.int .u8 0), 1, 1) := by kernel_rfl
theorem info9 : (Tryd.prog.info? 9).map (fun i => (i.zero, i.size, i.bytes)) = some (some (.string ⟨#[]⟩), 1, 16) := by kernel_rfl
-- the values' own types
/-! #### struct type 124 -/
structure S124 where
  f0 : Int
  f1 : Int
  f2 : Int
def z124 : S124 := ⟨(0 : Int), (0 : Int), (0 : Int)⟩
def k124 : Kd S124 := Kd.iso (Kd.pair (Kd.int .u16) (Kd.pair (Kd.int .u16) (Kd.int .u16))) (fun x : S124 => (x.f0, x.f1, x.f2))
theorem k124_open {w : World} {x : S124} {cs : List Value} (h : k124.K w x cs) : cs = [.int .u16 x.f0, .int .u16 x.f1, .int .u16 x.f2] := by
  obtain ⟨_, _, rfl, rfl, ⟨_, _, rfl, rfl, rfl⟩⟩ := h
  exact rfl
theorem k124_openM {w : World} {base : Nat} {ok : Nat → Prop} {x : S124} {cs : List Value} (h : k124.M w base ok x cs) : cs = [.int .u16 x.f0, .int .u16 x.f1, .int .u16 x.f2] := by
  obtain ⟨_, _, rfl, rfl, ⟨_, _, rfl, rfl, rfl⟩⟩ := h
  exact rfl
theorem k124_mk (w : World) (x : S124)  : k124.K w x [.int .u16 x.f0, .int .u16 x.f1, .int .u16 x.f2] := ⟨[.int .u16 x.f0], [.int .u16 x.f1, .int .u16 x.f2], rfl, rfl, ⟨[.int .u16 x.f1], [.int .u16 x.f2], rfl, rfl, rfl⟩⟩
theorem k124_mkM (w : World) (base : Nat) (ok : Nat → Prop) (x : S124)  : k124.M w base ok x [.int .u16 x.f0, .int .u16 x.f1, .int .u16 x.f2] := ⟨[.int .u16 x.f0], [.int .u16 x.f1, .int .u16 x.f2], rfl, rfl, ⟨[.int .u16 x.f1], [.int .u16 x.f2], rfl, rfl, rfl⟩⟩
def rd_T124 (xs : List S124) (i : Int) : S124 := xs.getD i.toNat z124
theorem at_T124 {w : World} {A : Option Addr} {n : Nat} {xs : List S124} (h : Kd.C k124 w A n xs) (i : Int) (h0 : 0 ≤ i) (h1 : i < n) : ∃ ad , A = some ad ∧ w.cell? (ad.add (i.toNat * 3)) = some (.int .u16 (rd_T124 xs i).f0) ∧ w.cell? ⟨(ad.add (i.toNat * 3)).block, (ad.add (i.toNat * 3)).off + 1, none⟩ = some (.int .u16 (rd_T124 xs i).f1) ∧ w.cell? ⟨(ad.add (i.toNat * 3)).block, (ad.add (i.toNat * 3)).off + 2, none⟩ = some (.int .u16 (rd_T124 xs i).f2) := by
  obtain ⟨ad, c, e, _, hK, hc0⟩ := Kd.C_get h z124 i h0 h1
  have hc : ∀ j u, c[j]? = some u → w.cell? (ad.add (i.toNat * 3 + j)) = some u := hc0
  obtain rfl := k124_open hK
  exact ⟨ad, e, hc 0 _ rfl, by rw [← add_field _ _ 1 (by omega)]; exact hc 1 _ rfl, by rw [← add_field _ _ 2 (by omega)]; exact hc 2 _ rfl⟩

/-! #### struct type 127 -/
structure S127 where
  f0 : Int
  f1 : Int
  f2 : Int
def z127 : S127 := ⟨(0 : Int), (0 : Int), (0 : Int)⟩
def k127 : Kd S127 := Kd.iso (Kd.pair (Kd.int .u32) (Kd.pair (Kd.int .u32) (Kd.int .u32))) (fun x : S127 => (x.f0, x.f1, x.f2))
theorem k127_open {w : World} {x : S127} {cs : List Value} (h : k127.K w x cs) : cs = [.int .u32 x.f0, .int .u32 x.f1, .int .u32 x.f2] := by
  obtain ⟨_, _, rfl, rfl, ⟨_, _, rfl, rfl, rfl⟩⟩ := h
  exact rfl
theorem k127_openM {w : World} {base : Nat} {ok : Nat → Prop} {x : S127} {cs : List Value} (h : k127.M w base ok x cs) : cs = [.int .u32 x.f0, .int .u32 x.f1, .int .u32 x.f2] := by
  obtain ⟨_, _, rfl, rfl, ⟨_, _, rfl, rfl, rfl⟩⟩ := h
  exact rfl
theorem k127_mk (w : World) (x : S127)  : k127.K w x [.int .u32 x.f0, .int .u32 x.f1, .int .u32 x.f2] := ⟨[.int .u32 x.f0], [.int .u32 x.f1, .int .u32 x.f2], rfl, rfl, ⟨[.int .u32 x.f1], [.int .u32 x.f2], rfl, rfl, rfl⟩⟩
theorem k127_mkM (w : World) (base : Nat) (ok : Nat → Prop) (x : S127)  : k127.M w base ok x [.int .u32 x.f0, .int .u32 x.f1, .int .u32 x.f2] := ⟨[.int .u32 x.f0], [.int .u32 x.f1, .int .u32 x.f2], rfl, rfl, ⟨[.int .u32 x.f1], [.int .u32 x.f2], rfl, rfl, rfl⟩⟩
def rd_T127 (xs : List S127) (i : Int) : S127 := xs.getD i.toNat z127
theorem at_T127 {w : World} {A : Option Addr} {n : Nat} {xs : List S127} (h : Kd.C k127 w A n xs) (i : Int) (h0 : 0 ≤ i) (h1 : i < n) : ∃ ad , A = some ad ∧ w.cell? (ad.add (i.toNat * 3)) = some (.int .u32 (rd_T127 xs i).f0) ∧ w.cell? ⟨(ad.add (i.toNat * 3)).block, (ad.add (i.toNat * 3)).off + 1, none⟩ = some (.int .u32 (rd_T127 xs i).f1) ∧ w.cell? ⟨(ad.add (i.toNat * 3)).block, (ad.add (i.toNat * 3)).off + 2, none⟩ = some (.int .u32 (rd_T127 xs i).f2) := by
  obtain ⟨ad, c, e, _, hK, hc0⟩ := Kd.C_get h z127 i h0 h1
  have hc : ∀ j u, c[j]? = some u → w.cell? (ad.add (i.toNat * 3 + j)) = some u := hc0
  obtain rfl := k127_open hK
  exact ⟨ad, e, hc 0 _ rfl, by rw [← add_field _ _ 1 (by omega)]; exact hc 1 _ rfl, by rw [← add_field _ _ 2 (by omega)]; exact hc 2 _ rfl⟩


/-! ### ciceroneref02_Name: function 18 -/
mutual
def ciceroneref02_Name.j0 : Nat → ByteArray → Bool → Option (Bool)
  | 0, _, _ => none
  | k + 1, x0, x12 => if x12 = true then (some false) else (ciceroneref02_Name.l0 k x0 0)
def ciceroneref02_Name.l0 : Nat → ByteArray → Int → Option (Bool)
  | 0, _, _ => none
  | k + 1, x0, x3 => if x3 < (x0.size : Int) then (if 0 ≤ x3 then (if (bt x0 x3) ≥ 97 then (if (bt x0 x3) ≤ 122 then (ciceroneref02_Name.l0 k x0 (wrap64 (x3 + 1))) else (if (bt x0 x3) ≥ 48 then (if (bt x0 x3) ≤ 57 then (ciceroneref02_Name.l0 k x0 (wrap64 (x3 + 1))) else (if ((bt x0 x3) = 45) then (ciceroneref02_Name.l0 k x0 (wrap64 (x3 + 1))) else (some false))) else (if ((bt x0 x3) = 45) then (ciceroneref02_Name.l0 k x0 (wrap64 (x3 + 1))) else (some false)))) else (if (bt x0 x3) ≥ 48 then (if (bt x0 x3) ≤ 57 then (ciceroneref02_Name.l0 k x0 (wrap64 (x3 + 1))) else (if ((bt x0 x3) = 45) then (ciceroneref02_Name.l0 k x0 (wrap64 (x3 + 1))) else (some false))) else (if ((bt x0 x3) = 45) then (ciceroneref02_Name.l0 k x0 (wrap64 (x3 + 1))) else (some false)))) else (none)) else (some true)
end
def ciceroneref02_Name.f (k : Nat) (a0 : ByteArray) : Option (Bool) := if (a0.size : Int) < 1 then (ciceroneref02_Name.j0 k a0 true) else (ciceroneref02_Name.j0 k a0 (decide ((a0.size : Int) > 24)))
theorem ciceroneref02_Name.mono_l : ∀ k, (∀ y0 y1, LeO (ciceroneref02_Name.j0 k y0 y1) (ciceroneref02_Name.j0 (k + 1) y0 y1)) ∧ (∀ y0 y1, LeO (ciceroneref02_Name.l0 k y0 y1) (ciceroneref02_Name.l0 (k + 1) y0 y1))
  | 0 => ⟨fun _ _ r h => by simp [ciceroneref02_Name.j0] at h, fun _ _ r h => by simp [ciceroneref02_Name.l0] at h⟩
  | k + 1 => by
    obtain ⟨ih0, ih1⟩ := ciceroneref02_Name.mono_l k
    refine ⟨?_, ?_⟩
    · intro y0 y1
      unfold ciceroneref02_Name.j0
      repeat' first
      | (with_reducible exact ih0 _ _)
      | (with_reducible exact ih1 _ _)
      | (with_reducible exact LeO.refl _)
      | (with_reducible exact LeO.none _)
      | (with_reducible refine LeO.ite ?_ ?_)
      | (with_reducible refine LeO.bind ?_ (fun _ => ?_))
      | exact ih0 _ _
      | exact ih1 _ _
      | exact LeO.none _
      | refine LeO.ite ?_ ?_
      | refine LeO.bind ?_ (fun _ => ?_)
    · intro y0 y1
      unfold ciceroneref02_Name.l0
      repeat' first
      | (with_reducible exact ih0 _ _)
      | (with_reducible exact ih1 _ _)
      | (with_reducible exact LeO.refl _)
      | (with_reducible exact LeO.none _)
      | (with_reducible refine LeO.ite ?_ ?_)
      | (with_reducible refine LeO.bind ?_ (fun _ => ?_))
      | exact ih0 _ _
      | exact ih1 _ _
      | exact LeO.none _
      | refine LeO.ite ?_ ?_
      | refine LeO.bind ?_ (fun _ => ?_)
theorem ciceroneref02_Name.mono : ∀ a0 k, LeO (ciceroneref02_Name.f k a0) (ciceroneref02_Name.f (k + 1) a0) := by
  intro a0 k
  obtain ⟨ih0, ih1⟩ := ciceroneref02_Name.mono_l k
  unfold ciceroneref02_Name.f
  repeat' first
      | (with_reducible exact ih0 _ _)
      | (with_reducible exact ih1 _ _)
      | (with_reducible exact LeO.refl _)
      | (with_reducible exact LeO.none _)
      | (with_reducible refine LeO.ite ?_ ?_)
      | (with_reducible refine LeO.bind ?_ (fun _ => ?_))
      | exact ih0 _ _
      | exact ih1 _ _
      | exact LeO.none _
      | refine LeO.ite ?_ ?_
      | refine LeO.bind ?_ (fun _ => ?_)
set_option maxHeartbeats 8000000 in
set_option maxRecDepth 100000 in
theorem ciceroneref02_Name.calls (k : Nat) (a0 : ByteArray) (r : Bool) (w : World) (h : ciceroneref02_Name.f k a0 = some r) :
    Calls Tryd.prog 18 #[.string a0] w fun e w' => e = .returned (.bool r) ∧ Drawn0 w w' := by
  have H : (if (a0.size : Int) < 1 then (ciceroneref02_Name.j0 k a0 true) else (ciceroneref02_Name.j0 k a0 (decide ((a0.size : Int) > 24)))) = some r := h
  clear h
  have HC2 := Aside0.mk H
  clear H
  go_enter Tryd.func18, Tryd.ntmps18
  go_upto_region 1 with (fail)
  go_cut [12] (fun v12 wc => ∃ (kq : Nat) (x12_1 : Bool), v12 = .bool x12_1 ∧ Aside0 (ciceroneref02_Name.j0 kq a0 x12_1 = some r) ∧ Aside0 (kq ≤ k) ∧ Drawn0 w wc)
  case first =>
    have H := HC2.out
    clear HC2
    by_cases c3 : (a0.size : Int) < 1
    · rw [if_pos c3] at H
      have c3b0 : decide ((a0.size : Int) < 1) = true := decide_eq_true c3
      have c3b1 : decide (a0.size < 1) = true := decide_eq_true (by omega)
      clear c3
      (first | rw [c3b0] | (simp only [i64_w, i32_w]; rw [c3b0]) | skip)
      have H' := Aside0.mk H
      clear H
      go_wp2
      go_meet
      case rel => exact ⟨_, (true), (by first | rfl | (simp; done) | (simp [*]; done)), H', ⟨by first | omega | exact Nat.le_refl _⟩, by repeat (first | exact Drawn0.refl _ | apply Drawn0.step)⟩
    · rw [if_neg c3] at H
      have c3b0 : decide ((a0.size : Int) < 1) = false := decide_eq_false c3
      have c3b1 : decide (a0.size < 1) = false := decide_eq_false (by omega)
      clear c3
      (first | rw [c3b0] | (simp only [i64_w, i32_w]; rw [c3b0]) | skip)
      have H' := Aside0.mk H
      clear H
      go_wp2
      go_meet
      case rel => exact ⟨_, (decide ((a0.size : Int) > 24)), (by first | rfl | (simp; done) | (simp [*]; done)), H', ⟨by first | omega | exact Nat.le_refl _⟩, by repeat (first | exact Drawn0.refl _ | apply Drawn0.step)⟩
  case rest =>
    clear HC2
    try clear c1
    try clear p2
    try clear c3
    try clear c3b0
    try clear c3b1
    obtain ⟨kq, x12_1, rfl, HA, HJ1, ⟨mc1, rfl⟩⟩ := hcut
    cases kq with
    | zero => exact absurd HA.out (by simp [ciceroneref02_Name.j0])
    | succ kj1 =>
      have H := HA.out
      clear HA
      simp only [ciceroneref02_Name.j0] at H
      by_cases c4 : x12_1 = true
      · subst c4
        have H1 : (some false) = some r := by rw [if_pos rfl] at H; exact H
        clear H
        have H := H1
        clear H1
        obtain rfl := Option.some.inj H
        go_wp2
        go_ret
        exact ⟨by first | rfl | (simp; done) | (simp [*]; done), by repeat (first | exact Drawn0.refl _ | apply Drawn0.step)⟩
      · replace c4 := Bool.eq_false_iff.mpr c4
        subst c4
        have H1 : (ciceroneref02_Name.l0 kj1 a0 0) = some r := by rw [if_neg (show ¬ (false = true) by decide)] at H; exact H
        clear H
        have H := H1
        clear H1
        have H' := Aside0.mk H
        clear H
        go_wp2
        go_loopg [3] kj1 (fun kq v3 w' => ∃ (x3_2 : Int), v3 = .int .i64 x3_2 ∧ Aside0 (ciceroneref02_Name.l0 kq a0 x3_2 = some r) ∧ Aside0 (kq ≤ kj1) ∧ Drawn0 w w')
        case atStart => exact ⟨(0), (by first | rfl | (simp; done) | (simp [*]; done)), H', ⟨Nat.le_refl _⟩, by repeat (first | exact Drawn0.refl _ | apply Drawn0.step)⟩
        case round =>
          clear H'
          try clear c1
          try clear p2
          try clear c3
          try clear c3b0
          try clear c3b1
          try clear c4
          try clear p2
          obtain ⟨x3_2, rfl, HA, HK2, ⟨m2, rfl⟩⟩ := hrel
          cases gk with
          | zero => exact absurd HA.out (by simp [ciceroneref02_Name.l0])
          | succ k2 =>
            have H := HA.out
            clear HA
            simp only [ciceroneref02_Name.l0] at H
            by_cases c5 : x3_2 < (a0.size : Int)
            · rw [if_pos c5] at H
              have c5b0 : decide (x3_2 < (a0.size : Int)) = true := decide_eq_true c5
              clear c5
              by_cases c6 : 0 ≤ x3_2
              · rw [if_pos c6] at H
                have c6b0 : decide (0 ≤ x3_2) = true := decide_eq_true c6
                clear c6
                by_cases c8 : (bt a0 x3_2) ≥ 97
                · rw [if_pos c8] at H
                  have c8b0 : decide (97 ≤ (bt a0 x3_2)) = true := decide_eq_true c8
                  clear c8
                  by_cases c9 : (bt a0 x3_2) ≤ 122
                  · rw [if_pos c9] at H
                    have c9b0 : decide ((bt a0 x3_2) ≤ 122) = true := decide_eq_true c9
                    clear c9
                    have H' := Aside0.mk H
                    clear H
                    have p7 : 0 ≤ (x3_2 : Int) := of_decide_eq_true (by first | (with_reducible assumption) | assumption)
                    have q7 : x3_2 < (a0.size : Int) := of_decide_eq_true (by first | (with_reducible assumption) | assumption)
                    have hx7 := bt_at a0 x3_2
                    replace p7 := eq_true p7
                    replace q7 := eq_true q7
                    go_wp2
                    go_roundg k2
                    case measure => have := HJ1.out; have := HK2.out; omega
                    case rel => exact ⟨(wrap64 (x3_2 + 1)), (by first | rfl | (simp; done) | (simp [*]; done)), H', ⟨by have := HJ1.out; have := HK2.out; omega⟩, by repeat (first | exact Drawn0.refl _ | apply Drawn0.step)⟩
                  · rw [if_neg c9] at H
                    have c9b0 : decide ((bt a0 x3_2) ≤ 122) = false := decide_eq_false c9
                    clear c9
                    by_cases c10 : (bt a0 x3_2) ≥ 48
                    · rw [if_pos c10] at H
                      have c10b0 : decide (48 ≤ (bt a0 x3_2)) = true := decide_eq_true c10
                      clear c10
                      by_cases c11 : (bt a0 x3_2) ≤ 57
                      · rw [if_pos c11] at H
                        have c11b0 : decide ((bt a0 x3_2) ≤ 57) = true := decide_eq_true c11
                        clear c11
                        have H' := Aside0.mk H
                        clear H
                        have p7 : 0 ≤ (x3_2 : Int) := of_decide_eq_true (by first | (with_reducible assumption) | assumption)
                        have q7 : x3_2 < (a0.size : Int) := of_decide_eq_true (by first | (with_reducible assumption) | assumption)
                        have hx7 := bt_at a0 x3_2
                        replace p7 := eq_true p7
                        replace q7 := eq_true q7
                        go_wp2
                        go_roundg k2
                        case measure => have := HJ1.out; have := HK2.out; omega
                        case rel => exact ⟨(wrap64 (x3_2 + 1)), (by first | rfl | (simp; done) | (simp [*]; done)), H', ⟨by have := HJ1.out; have := HK2.out; omega⟩, by repeat (first | exact Drawn0.refl _ | apply Drawn0.step)⟩
                      · rw [if_neg c11] at H
                        have c11b0 : decide ((bt a0 x3_2) ≤ 57) = false := decide_eq_false c11
                        clear c11
                        by_cases c12 : ((bt a0 x3_2) = 45)
                        · rw [if_pos c12] at H
                          have c12b0 : ((bt a0 x3_2) == 45) = true := beq_iff_eq.mpr c12
                          have c12b1 : ((bt a0 x3_2) != 45) = false := bne_eq_false_iff_eq.mpr c12
                          clear c12
                          have H' := Aside0.mk H
                          clear H
                          have p7 : 0 ≤ (x3_2 : Int) := of_decide_eq_true (by first | (with_reducible assumption) | assumption)
                          have q7 : x3_2 < (a0.size : Int) := of_decide_eq_true (by first | (with_reducible assumption) | assumption)
                          have hx7 := bt_at a0 x3_2
                          replace p7 := eq_true p7
                          replace q7 := eq_true q7
                          go_wp2
                          go_roundg k2
                          case measure => have := HJ1.out; have := HK2.out; omega
                          case rel => exact ⟨(wrap64 (x3_2 + 1)), (by first | rfl | (simp; done) | (simp [*]; done)), H', ⟨by have := HJ1.out; have := HK2.out; omega⟩, by repeat (first | exact Drawn0.refl _ | apply Drawn0.step)⟩
                        · rw [if_neg c12] at H
                          have c12b0 : ((bt a0 x3_2) == 45) = false := beq_eq_false_iff_ne.mpr c12
                          have c12b1 : ((bt a0 x3_2) != 45) = true := bne_iff_ne.mpr c12
                          obtain rfl := Option.some.inj H
                          have p7 : 0 ≤ (x3_2 : Int) := of_decide_eq_true (by first | (with_reducible assumption) | assumption)
                          have q7 : x3_2 < (a0.size : Int) := of_decide_eq_true (by first | (with_reducible assumption) | assumption)
                          have hx7 := bt_at a0 x3_2
                          replace p7 := eq_true p7
                          replace q7 := eq_true q7
                          go_wp2
                          go_ret
                          exact ⟨by first | rfl | (simp; done) | (simp [*]; done), by repeat (first | exact Drawn0.refl _ | apply Drawn0.step)⟩
                    · rw [if_neg c10] at H
                      have c10b0 : decide (48 ≤ (bt a0 x3_2)) = false := decide_eq_false c10
                      clear c10
                      by_cases c13 : ((bt a0 x3_2) = 45)
                      · rw [if_pos c13] at H
                        have c13b0 : ((bt a0 x3_2) == 45) = true := beq_iff_eq.mpr c13
                        have c13b1 : ((bt a0 x3_2) != 45) = false := bne_eq_false_iff_eq.mpr c13
                        clear c13
                        have H' := Aside0.mk H
                        clear H
                        have p7 : 0 ≤ (x3_2 : Int) := of_decide_eq_true (by first | (with_reducible assumption) | assumption)
                        have q7 : x3_2 < (a0.size : Int) := of_decide_eq_true (by first | (with_reducible assumption) | assumption)
                        have hx7 := bt_at a0 x3_2
                        replace p7 := eq_true p7
                        replace q7 := eq_true q7
                        go_wp2
                        go_roundg k2
                        case measure => have := HJ1.out; have := HK2.out; omega
                        case rel => exact ⟨(wrap64 (x3_2 + 1)), (by first | rfl | (simp; done) | (simp [*]; done)), H', ⟨by have := HJ1.out; have := HK2.out; omega⟩, by repeat (first | exact Drawn0.refl _ | apply Drawn0.step)⟩
                      · rw [if_neg c13] at H
                        have c13b0 : ((bt a0 x3_2) == 45) = false := beq_eq_false_iff_ne.mpr c13
                        have c13b1 : ((bt a0 x3_2) != 45) = true := bne_iff_ne.mpr c13
                        obtain rfl := Option.some.inj H
                        have p7 : 0 ≤ (x3_2 : Int) := of_decide_eq_true (by first | (with_reducible assumption) | assumption)
                        have q7 : x3_2 < (a0.size : Int) := of_decide_eq_true (by first | (with_reducible assumption) | assumption)
                        have hx7 := bt_at a0 x3_2
                        replace p7 := eq_true p7
                        replace q7 := eq_true q7
                        go_wp2
                        go_ret
                        exact ⟨by first | rfl | (simp; done) | (simp [*]; done), by repeat (first | exact Drawn0.refl _ | apply Drawn0.step)⟩
                · rw [if_neg c8] at H
                  have c8b0 : decide (97 ≤ (bt a0 x3_2)) = false := decide_eq_false c8
                  clear c8
                  by_cases c14 : (bt a0 x3_2) ≥ 48
                  · rw [if_pos c14] at H
                    have c14b0 : decide (48 ≤ (bt a0 x3_2)) = true := decide_eq_true c14
                    clear c14
                    by_cases c15 : (bt a0 x3_2) ≤ 57
                    · rw [if_pos c15] at H
                      have c15b0 : decide ((bt a0 x3_2) ≤ 57) = true := decide_eq_true c15
                      clear c15
                      have H' := Aside0.mk H
                      clear H
                      have p7 : 0 ≤ (x3_2 : Int) := of_decide_eq_true (by first | (with_reducible assumption) | assumption)
                      have q7 : x3_2 < (a0.size : Int) := of_decide_eq_true (by first | (with_reducible assumption) | assumption)
                      have hx7 := bt_at a0 x3_2
                      replace p7 := eq_true p7
                      replace q7 := eq_true q7
                      go_wp2
                      go_roundg k2
                      case measure => have := HJ1.out; have := HK2.out; omega
                      case rel => exact ⟨(wrap64 (x3_2 + 1)), (by first | rfl | (simp; done) | (simp [*]; done)), H', ⟨by have := HJ1.out; have := HK2.out; omega⟩, by repeat (first | exact Drawn0.refl _ | apply Drawn0.step)⟩
                    · rw [if_neg c15] at H
                      have c15b0 : decide ((bt a0 x3_2) ≤ 57) = false := decide_eq_false c15
                      clear c15
                      by_cases c16 : ((bt a0 x3_2) = 45)
                      · rw [if_pos c16] at H
                        have c16b0 : ((bt a0 x3_2) == 45) = true := beq_iff_eq.mpr c16
                        have c16b1 : ((bt a0 x3_2) != 45) = false := bne_eq_false_iff_eq.mpr c16
                        clear c16
                        have H' := Aside0.mk H
                        clear H
                        have p7 : 0 ≤ (x3_2 : Int) := of_decide_eq_true (by first | (with_reducible assumption) | assumption)
                        have q7 : x3_2 < (a0.size : Int) := of_decide_eq_true (by first | (with_reducible assumption) | assumption)
                        have hx7 := bt_at a0 x3_2
                        replace p7 := eq_true p7
                        replace q7 := eq_true q7
                        go_wp2
                        go_roundg k2
                        case measure => have := HJ1.out; have := HK2.out; omega
                        case rel => exact ⟨(wrap64 (x3_2 + 1)), (by first | rfl | (simp; done) | (simp [*]; done)), H', ⟨by have := HJ1.out; have := HK2.out; omega⟩, by repeat (first | exact Drawn0.refl _ | apply Drawn0.step)⟩
                      · rw [if_neg c16] at H
                        have c16b0 : ((bt a0 x3_2) == 45) = false := beq_eq_false_iff_ne.mpr c16
                        have c16b1 : ((bt a0 x3_2) != 45) = true := bne_iff_ne.mpr c16
                        obtain rfl := Option.some.inj H
                        have p7 : 0 ≤ (x3_2 : Int) := of_decide_eq_true (by first | (with_reducible assumption) | assumption)
                        have q7 : x3_2 < (a0.size : Int) := of_decide_eq_true (by first | (with_reducible assumption) | assumption)
                        have hx7 := bt_at a0 x3_2
                        replace p7 := eq_true p7
                        replace q7 := eq_true q7
                        go_wp2
                        go_ret
                        exact ⟨by first | rfl | (simp; done) | (simp [*]; done), by repeat (first | exact Drawn0.refl _ | apply Drawn0.step)⟩
                  · rw [if_neg c14] at H
                    have c14b0 : decide (48 ≤ (bt a0 x3_2)) = false := decide_eq_false c14
                    clear c14
                    by_cases c17 : ((bt a0 x3_2) = 45)
                    · rw [if_pos c17] at H
                      have c17b0 : ((bt a0 x3_2) == 45) = true := beq_iff_eq.mpr c17
                      have c17b1 : ((bt a0 x3_2) != 45) = false := bne_eq_false_iff_eq.mpr c17
                      clear c17
                      have H' := Aside0.mk H
                      clear H
                      have p7 : 0 ≤ (x3_2 : Int) := of_decide_eq_true (by first | (with_reducible assumption) | assumption)
                      have q7 : x3_2 < (a0.size : Int) := of_decide_eq_true (by first | (with_reducible assumption) | assumption)
                      have hx7 := bt_at a0 x3_2
                      replace p7 := eq_true p7
                      replace q7 := eq_true q7
                      go_wp2
                      go_roundg k2
                      case measure => have := HJ1.out; have := HK2.out; omega
                      case rel => exact ⟨(wrap64 (x3_2 + 1)), (by first | rfl | (simp; done) | (simp [*]; done)), H', ⟨by have := HJ1.out; have := HK2.out; omega⟩, by repeat (first | exact Drawn0.refl _ | apply Drawn0.step)⟩
                    · rw [if_neg c17] at H
                      have c17b0 : ((bt a0 x3_2) == 45) = false := beq_eq_false_iff_ne.mpr c17
                      have c17b1 : ((bt a0 x3_2) != 45) = true := bne_iff_ne.mpr c17
                      obtain rfl := Option.some.inj H
                      have p7 : 0 ≤ (x3_2 : Int) := of_decide_eq_true (by first | (with_reducible assumption) | assumption)
                      have q7 : x3_2 < (a0.size : Int) := of_decide_eq_true (by first | (with_reducible assumption) | assumption)
                      have hx7 := bt_at a0 x3_2
                      replace p7 := eq_true p7
                      replace q7 := eq_true q7
                      go_wp2
                      go_ret
                      exact ⟨by first | rfl | (simp; done) | (simp [*]; done), by repeat (first | exact Drawn0.refl _ | apply Drawn0.step)⟩
              · rw [if_neg c6] at H
                exact absurd H (by simp)
            · rw [if_neg c5] at H
              have c5b0 : decide (x3_2 < (a0.size : Int)) = false := decide_eq_false c5
              clear c5
              obtain rfl := Option.some.inj H
              go_wp2
              go_ret
              exact ⟨by first | rfl | (simp; done) | (simp [*]; done), by repeat (first | exact Drawn0.refl _ | apply Drawn0.step)⟩


/-! ### ciceroneref02_In: function 41 -/
def ciceroneref02_In.f (a0 : Int) (a1 : Int) (a2 : Int) : Option (Bool) := if a0 ≥ a1 then (some (decide (a0 ≤ a2))) else (some false)
set_option maxHeartbeats 8000000 in
set_option maxRecDepth 100000 in
theorem ciceroneref02_In.calls (a0 : Int) (a1 : Int) (a2 : Int) (r : Bool) (w : World) (h : ciceroneref02_In.f a0 a1 a2 = some r) :
    Calls Tryd.prog 41 #[.int .i64 a0, .int .i64 a1, .int .i64 a2] w fun e w' => e = .returned (.bool r) ∧ Drawn0 w w' := by
  have H : (if a0 ≥ a1 then (some (decide (a0 ≤ a2))) else (some false)) = some r := h
  clear h
  by_cases c4 : a0 ≥ a1
  · rw [if_pos c4] at H
    have c4b0 : decide (a1 ≤ a0) = true := decide_eq_true c4
    clear c4
    obtain rfl := Option.some.inj H
    go_enter Tryd.func41, Tryd.ntmps41
    go_wp2
    go_ret
    exact ⟨by first | rfl | (simp; done) | (simp [*]; done), by repeat (first | exact Drawn0.refl _ | apply Drawn0.step)⟩
  · rw [if_neg c4] at H
    have c4b0 : decide (a1 ≤ a0) = false := decide_eq_false c4
    clear c4
    obtain rfl := Option.some.inj H
    go_enter Tryd.func41, Tryd.ntmps41
    go_wp2
    go_ret
    exact ⟨by first | rfl | (simp; done) | (simp [*]; done), by repeat (first | exact Drawn0.refl _ | apply Drawn0.step)⟩


/-! ### ciceroneref02_place: function 55 -/
def ciceroneref02_place.l0 : Nat → ByteArray → Int → Option (Int)
  | 0, _, _ => none
  | k + 1, x0, x3 => if x3 < (x0.size : Int) then (if 0 ≤ x3 then (if (bt x0 x3) = 59 then (some x3) else (ciceroneref02_place.l0 k x0 (wrap64 (x3 + 1)))) else (none)) else (some (-1))
def ciceroneref02_place.f (k : Nat) (a0 : ByteArray) : Option (Int) := ciceroneref02_place.l0 k a0 0
theorem ciceroneref02_place.mono_l : ∀ k, (∀ y0 y1, LeO (ciceroneref02_place.l0 k y0 y1) (ciceroneref02_place.l0 (k + 1) y0 y1))
  | 0 => fun _ _ r h => by simp [ciceroneref02_place.l0] at h
  | k + 1 => by
    have ih0 := ciceroneref02_place.mono_l k
    · intro y0 y1
      unfold ciceroneref02_place.l0
      repeat' first
      | (with_reducible exact ih0 _ _)
      | (with_reducible exact LeO.refl _)
      | (with_reducible exact LeO.none _)
      | (with_reducible refine LeO.ite ?_ ?_)
      | (with_reducible refine LeO.bind ?_ (fun _ => ?_))
      | exact ih0 _ _
      | exact LeO.none _
      | refine LeO.ite ?_ ?_
      | refine LeO.bind ?_ (fun _ => ?_)
theorem ciceroneref02_place.mono : ∀ a0 k, LeO (ciceroneref02_place.f k a0) (ciceroneref02_place.f (k + 1) a0) := by
  intro a0 k
  have ih0 := ciceroneref02_place.mono_l k
  unfold ciceroneref02_place.f
  repeat' first
      | (with_reducible exact ih0 _ _)
      | (with_reducible exact LeO.refl _)
      | (with_reducible exact LeO.none _)
      | (with_reducible refine LeO.ite ?_ ?_)
      | (with_reducible refine LeO.bind ?_ (fun _ => ?_))
      | exact ih0 _ _
      | exact LeO.none _
      | refine LeO.ite ?_ ?_
      | refine LeO.bind ?_ (fun _ => ?_)
set_option maxHeartbeats 8000000 in
set_option maxRecDepth 100000 in
theorem ciceroneref02_place.calls (k : Nat) (a0 : ByteArray) (r : Int) (w : World) (h : ciceroneref02_place.f k a0 = some r) :
    Calls Tryd.prog 55 #[.string a0] w fun e w' => e = .returned (.int .i64 r) ∧ Drawn0 w w' := by
  have H : (ciceroneref02_place.l0 k a0 0) = some r := h
  clear h
  have H' := Aside0.mk H
  clear H
  go_enter Tryd.func55, Tryd.ntmps55
  go_wp2
  go_loopg [3] k (fun kq v3 w' => ∃ (x3_1 : Int), v3 = .int .i64 x3_1 ∧ Aside0 (ciceroneref02_place.l0 kq a0 x3_1 = some r) ∧ Aside0 (kq ≤ k) ∧ Drawn0 w w')
  case atStart => exact ⟨(0), (by first | rfl | (simp; done) | (simp [*]; done)), H', ⟨Nat.le_refl _⟩, by repeat (first | exact Drawn0.refl _ | apply Drawn0.step)⟩
  case round =>
    clear H'
    obtain ⟨x3_1, rfl, HA, HK1, ⟨m1, rfl⟩⟩ := hrel
    cases gk with
    | zero => exact absurd HA.out (by simp [ciceroneref02_place.l0])
    | succ k1 =>
      have H := HA.out
      clear HA
      simp only [ciceroneref02_place.l0] at H
      by_cases c2 : x3_1 < (a0.size : Int)
      · rw [if_pos c2] at H
        have c2b0 : decide (x3_1 < (a0.size : Int)) = true := decide_eq_true c2
        clear c2
        by_cases c3 : 0 ≤ x3_1
        · rw [if_pos c3] at H
          have c3b0 : decide (0 ≤ x3_1) = true := decide_eq_true c3
          clear c3
          by_cases c5 : (bt a0 x3_1) = 59
          · rw [if_pos c5] at H
            have c5b0 : ((bt a0 x3_1) == 59) = true := beq_iff_eq.mpr c5
            have c5b1 : ((bt a0 x3_1) != 59) = false := bne_eq_false_iff_eq.mpr c5
            clear c5
            obtain rfl := Option.some.inj H
            have p4 : 0 ≤ (x3_1 : Int) := of_decide_eq_true (by first | (with_reducible assumption) | assumption)
            have q4 : x3_1 < (a0.size : Int) := of_decide_eq_true (by first | (with_reducible assumption) | assumption)
            have hx4 := bt_at a0 x3_1
            replace p4 := eq_true p4
            replace q4 := eq_true q4
            go_wp2
            go_ret
            exact ⟨by first | rfl | (simp; done) | (simp [*]; done), by repeat (first | exact Drawn0.refl _ | apply Drawn0.step)⟩
          · rw [if_neg c5] at H
            have c5b0 : ((bt a0 x3_1) == 59) = false := beq_eq_false_iff_ne.mpr c5
            have c5b1 : ((bt a0 x3_1) != 59) = true := bne_iff_ne.mpr c5
            have H' := Aside0.mk H
            clear H
            have p4 : 0 ≤ (x3_1 : Int) := of_decide_eq_true (by first | (with_reducible assumption) | assumption)
            have q4 : x3_1 < (a0.size : Int) := of_decide_eq_true (by first | (with_reducible assumption) | assumption)
            have hx4 := bt_at a0 x3_1
            replace p4 := eq_true p4
            replace q4 := eq_true q4
            go_wp2
            go_roundg k1
            case measure => have := HK1.out; omega
            case rel => exact ⟨(wrap64 (x3_1 + 1)), (by first | rfl | (simp; done) | (simp [*]; done)), H', ⟨by have := HK1.out; omega⟩, by repeat (first | exact Drawn0.refl _ | apply Drawn0.step)⟩
        · rw [if_neg c3] at H
          exact absurd H (by simp)
      · rw [if_neg c2] at H
        have c2b0 : decide (x3_1 < (a0.size : Int)) = false := decide_eq_false c2
        clear c2
        obtain rfl := Option.some.inj H
        go_wp2
        go_ret
        exact ⟨by first | rfl | (simp; done) | (simp [*]; done), by repeat (first | exact Drawn0.refl _ | apply Drawn0.step)⟩


/-! ### ciceroneref02_Maker: function 23 -/
def ciceroneref02_Maker.f (k : Nat) (a0 : ByteArray) : Option (ByteArray) := (ciceroneref02_place.f k a0).bind fun t127 => (if t127 ≥ 0 then (if 0 ≤ t127 then (if t127 ≤ (a0.size : Int) then (some (a0.extract 0 (t127 : Int).toNat)) else (none)) else (none)) else (some a0))
theorem ciceroneref02_Maker.mono : ∀ a0 k, LeO (ciceroneref02_Maker.f k a0) (ciceroneref02_Maker.f (k + 1) a0) := by
  intro a0 k
  unfold ciceroneref02_Maker.f
  repeat' first
      | (with_reducible exact ciceroneref02_place.mono _ _)
      | (with_reducible exact LeO.refl _)
      | (with_reducible exact LeO.none _)
      | (with_reducible refine LeO.ite ?_ ?_)
      | (with_reducible refine LeO.bind ?_ (fun _ => ?_))
      | exact ciceroneref02_place.mono _ _
      | exact LeO.none _
      | refine LeO.ite ?_ ?_
      | refine LeO.bind ?_ (fun _ => ?_)
set_option maxHeartbeats 8000000 in
set_option maxRecDepth 100000 in
theorem ciceroneref02_Maker.calls (k : Nat) (a0 : ByteArray) (r : ByteArray) (w : World) (h : ciceroneref02_Maker.f k a0 = some r) :
    Calls Tryd.prog 23 #[.string a0] w fun e w' => e = .returned (.string r) ∧ Drawn0 w w' := by
  have H : ((ciceroneref02_place.f k a0).bind fun t127 => (if t127 ≥ 0 then (if 0 ≤ t127 then (if t127 ≤ (a0.size : Int) then (some (a0.extract 0 (t127 : Int).toNat)) else (none)) else (none)) else (some a0))) = some r := h
  clear h
  replace H := Option.bind_eq_some_iff.mp H
  obtain ⟨t127, A20, H⟩ := H
  replace H : (if t127 ≥ 0 then (if 0 ≤ t127 then (if t127 ≤ (a0.size : Int) then (some (a0.extract 0 (t127 : Int).toNat)) else (none)) else (none)) else (some a0)) = some r := H
  have A2 := Aside0.mk A20
  clear A20
  by_cases c3 : t127 ≥ 0
  · rw [if_pos c3] at H
    have c3b0 : decide (0 ≤ t127) = true := decide_eq_true c3
    clear c3
    by_cases c4 : 0 ≤ t127
    · rw [if_pos c4] at H
      have c4b0 := eq_true c4
      have c4b1 : decide (0 ≤ t127) = true := decide_eq_true c4
      clear c4
      by_cases c5 : t127 ≤ (a0.size : Int)
      · rw [if_pos c5] at H
        have c5b0 := eq_true c5
        have c5b1 : decide (t127 ≤ (a0.size : Int)) = true := decide_eq_true c5
        clear c5
        obtain rfl := Option.some.inj H
        go_enter Tryd.func23, Tryd.ntmps23
        go_wp2_with (first | ((with_reducible refine gate_callee (f := 55) rfl ?_); refine goesL_ (some 5) rfl rfl Tryd.func55 (by kernel_rfl) rfl #[.string a0] rfl (by (try simp only [List.map_toArray, List.map_cons, List.map_nil]); first | done | rfl | (simp only [List.length_drop, List.length_take]; rfl)) ?_; (with_reducible refine (ciceroneref02_place.calls k a0 t127 _ A2.out).mono ?_); rintro e w' ⟨rfl, ⟨nd, rfl⟩⟩; refine ⟨_, rfl, ?_⟩))
        go_ret
        exact ⟨by first | rfl | (simp; done) | (simp [*]; done), by repeat (first | exact Drawn0.refl _ | apply Drawn0.step)⟩
      · rw [if_neg c5] at H
        exact absurd H (by simp)
    · rw [if_neg c4] at H
      exact absurd H (by simp)
  · rw [if_neg c3] at H
    have c3b0 : decide (0 ≤ t127) = false := decide_eq_false c3
    clear c3
    obtain rfl := Option.some.inj H
    go_enter Tryd.func23, Tryd.ntmps23
    go_wp2_with (first | ((with_reducible refine gate_callee (f := 55) rfl ?_); refine goesL_ (some 5) rfl rfl Tryd.func55 (by kernel_rfl) rfl #[.string a0] rfl (by (try simp only [List.map_toArray, List.map_cons, List.map_nil]); first | done | rfl | (simp only [List.length_drop, List.length_take]; rfl)) ?_; (with_reducible refine (ciceroneref02_place.calls k a0 t127 _ A2.out).mono ?_); rintro e w' ⟨rfl, ⟨nd, rfl⟩⟩; refine ⟨_, rfl, ?_⟩))
    go_ret
    exact ⟨by first | rfl | (simp; done) | (simp [*]; done), by repeat (first | exact Drawn0.refl _ | apply Drawn0.step)⟩


/-! ### ciceroneref02_Parts: function 57 -/
def ciceroneref02_Parts.l0 : Nat → ByteArray → Int → List ByteArray → Int → Int → Option (List ByteArray)
  | 0, _, _, _, _, _ => none
  | k + 1, x0, x1, x5, x6, x7 => if x7 ≤ (x0.size : Int) then (if x7 = (x0.size : Int) then (if 0 ≤ x6 then (if x6 ≤ x7 then (if x5.length < 8796093022208 then (ciceroneref02_Parts.l0 k x0 x1 (x5 ++ [x0.extract (x6 : Int).toNat (x7 : Int).toNat]) (wrap64 (x7 + 1)) (wrap64 (x7 + 1))) else (none)) else (none)) else (none)) else (if 0 ≤ x7 then (if x7 < (x0.size : Int) then (if (bt x0 x7) = x1 then (if 0 ≤ x6 then (if x6 ≤ x7 then (if x5.length < 8796093022208 then (ciceroneref02_Parts.l0 k x0 x1 (x5 ++ [x0.extract (x6 : Int).toNat (x7 : Int).toNat]) (wrap64 (x7 + 1)) (wrap64 (x7 + 1))) else (none)) else (none)) else (none)) else (ciceroneref02_Parts.l0 k x0 x1 x5 x6 (wrap64 (x7 + 1)))) else (none)) else (none))) else (some x5)
def ciceroneref02_Parts.f (k : Nat) (a0 : ByteArray) (a1 : Int) : Option (List ByteArray) := ciceroneref02_Parts.l0 k a0 a1 (([] : List ByteArray)) 0 0
theorem ciceroneref02_Parts.mono_l : ∀ k, (∀ y0 y1 y2 y3 y4, LeO (ciceroneref02_Parts.l0 k y0 y1 y2 y3 y4) (ciceroneref02_Parts.l0 (k + 1) y0 y1 y2 y3 y4))
  | 0 => fun _ _ _ _ _ r h => by simp [ciceroneref02_Parts.l0] at h
  | k + 1 => by
    have ih0 := ciceroneref02_Parts.mono_l k
    · intro y0 y1 y2 y3 y4
      unfold ciceroneref02_Parts.l0
      repeat' first
      | (with_reducible exact ih0 _ _ _ _ _)
      | (with_reducible exact LeO.refl _)
      | (with_reducible exact LeO.none _)
      | (with_reducible refine LeO.ite ?_ ?_)
      | (with_reducible refine LeO.bind ?_ (fun _ => ?_))
      | exact ih0 _ _ _ _ _
      | exact LeO.none _
      | refine LeO.ite ?_ ?_
      | refine LeO.bind ?_ (fun _ => ?_)
theorem ciceroneref02_Parts.mono : ∀ a0 a1 k, LeO (ciceroneref02_Parts.f k a0 a1) (ciceroneref02_Parts.f (k + 1) a0 a1) := by
  intro a0 a1 k
  have ih0 := ciceroneref02_Parts.mono_l k
  unfold ciceroneref02_Parts.f
  repeat' first
      | (with_reducible exact ih0 _ _ _ _ _)
      | (with_reducible exact LeO.refl _)
      | (with_reducible exact LeO.none _)
      | (with_reducible refine LeO.ite ?_ ?_)
      | (with_reducible refine LeO.bind ?_ (fun _ => ?_))
      | exact ih0 _ _ _ _ _
      | exact LeO.none _
      | refine LeO.ite ?_ ?_
      | refine LeO.bind ?_ (fun _ => ?_)
set_option maxHeartbeats 8000000 in
set_option maxRecDepth 100000 in
theorem ciceroneref02_Parts.calls (k : Nat) (a0 : ByteArray) (a1 : Int) (r : List ByteArray) (w : World) (h : ciceroneref02_Parts.f k a0 a1 = some r) :
    Calls Tryd.prog 57 #[.string a0, .int .u8 a1] w fun e w' => ∃ v0_ : Value, e = .returned (v0_) ∧ Kd.R Kd.string 9 w' w.heap.size (fun _ => True) v0_ r ∧ Below w.heap.size w w' := by
  have HB := Aside0.mk (Below.refl w.heap.size w)
  have H : (ciceroneref02_Parts.l0 k a0 a1 (([] : List ByteArray)) 0 0) = some r := h
  clear h
  obtain ⟨y128, hy128⟩ : ∃ y_ : List ByteArray, y_ = (([] : List ByteArray)) := ⟨_, rfl⟩
  replace H : (ciceroneref02_Parts.l0 k a0 a1 y128 0 0) = some r := by first | (rw [hy128]; with_reducible exact H) | (have H2_ := (Option.bind_some _ _).symm.trans H; rw [hy128]; with_reducible exact H2_) | (have H2_ := (Option.bind_some _ _).symm.trans H; with_reducible exact H2_) | with_reducible exact H | (rw [hy128]; exact H) | exact H
  have Ny128 := Aside0.mk hy128
  clear hy128
  have H' := Aside0.mk H
  clear H
  go_enter Tryd.func57, Tryd.ntmps57
  go_wp2_with (first | ((with_reducible refine gate_dst (N := 8) rfl ?_); refine Kd.R_lit Kd.string _ 9 ?hg (N := 8) ?hd (xs := ([] : List ByteArray)) (inner := []) (ok := fun _ => True) (okp := fun _ => True) ?hr ?hp (fun _ hk => hk) trivial (Below.refl _ _) (Nat.le_refl _) (by simp) ?_; (case hd => rfl); (case hg => rfl); (case hr => first | (go_simp; done) | (go_simp; rfl)); (case hp => exact (Reps.none _ _)); intro v129 w3 ho4 hb hg_ hnew_; clear hg_ hnew_; (first | rw [← Ny128.out] at ho4 | (simp only [Int.reduceToNat] at ho4; rw [← Ny128.out] at ho4)); have n0_ := Aside0.mk (Kd.R_lower ho4 (below_size (by repeat (first | (with_reducible first | exact HB.out | apply below_alloc | apply pw_below_drewN | apply below_drew1) | exact HB.out)))); have n1_ := Aside0.mk (below_step (by repeat (first | (with_reducible first | exact HB.out | apply below_alloc | apply pw_below_drewN | apply below_drew1) | exact HB.out)) hb); clear HB; have HO130 := n0_; have HB := n1_; clear n0_ n1_; clear hb ho4))
  go_loopg [5, 6, 7] k (fun kq v5 v6 v7 w' => ∃ (x5_1 : List ByteArray) (x6_1 : Int) (x7_1 : Int), v6 = .int .i64 x6_1 ∧ v7 = .int .i64 x7_1 ∧ Aside0 (ciceroneref02_Parts.l0 kq a0 a1 x5_1 x6_1 x7_1 = some r) ∧ Aside0 (kq ≤ k) ∧ Aside0 (Kd.R Kd.string 9 w' w.heap.size (fun _ => True) v5 x5_1) ∧ Aside0 (Below w.heap.size w w'))
  case atStart => exact ⟨(y128), (0), (0), (by first | rfl | (simp; done) | (simp [*]; done)), (by first | rfl | (simp; done) | (simp [*]; done)), H', ⟨Nat.le_refl _⟩, ⟨by (with_reducible repeat (first | apply Kd.R_alloc | apply Kd.R_drewN | apply Kd.R_drew)); exact HO130.out⟩, ⟨by repeat (first | (with_reducible first | exact HB.out | apply below_alloc | apply pw_below_drewN | apply below_drew1) | exact HB.out)⟩⟩
  case round =>
    clear H'
    try clear p2
    obtain ⟨x5_1, x6_1, x7_1, rfl, rfl, HA, HK1, HO_5, HB⟩ := hrel
    cases gk with
    | zero => exact absurd HA.out (by simp [ciceroneref02_Parts.l0])
    | succ k1 =>
      have H := HA.out
      clear HA
      simp only [ciceroneref02_Parts.l0] at H
      by_cases c5 : x7_1 ≤ (a0.size : Int)
      · rw [if_pos c5] at H
        have c5b0 : decide (x7_1 ≤ (a0.size : Int)) = true := decide_eq_true c5
        clear c5
        by_cases c6 : x7_1 = (a0.size : Int)
        · rw [if_pos c6] at H
          have c6b0 : (x7_1 == (a0.size : Int)) = true := beq_iff_eq.mpr c6
          have c6b1 : (x7_1 != (a0.size : Int)) = false := bne_eq_false_iff_eq.mpr c6
          clear c6
          by_cases c7 : 0 ≤ x6_1
          · rw [if_pos c7] at H
            have c7b0 := eq_true c7
            have c7b1 : decide (0 ≤ x6_1) = true := decide_eq_true c7
            clear c7
            by_cases c8 : x6_1 ≤ x7_1
            · rw [if_pos c8] at H
              have c8b0 := eq_true c8
              have c8b1 : decide (x6_1 ≤ x7_1) = true := decide_eq_true c8
              clear c8
              have c9b0 := eq_true (of_decide_eq_true (by first | (with_reducible assumption) | assumption) : x7_1 ≤ (a0.size : Int))
              by_cases c10 : x5_1.length < 8796093022208
              · rw [if_pos c10] at H
                have LMc10 := Aside0.mk c10
                clear c10
                obtain ⟨y131, hy131⟩ : ∃ y_ : List ByteArray, y_ = (x5_1 ++ [a0.extract (x6_1 : Int).toNat (x7_1 : Int).toNat]) := ⟨_, rfl⟩
                replace H : (ciceroneref02_Parts.l0 k1 a0 a1 y131 (wrap64 (x7_1 + 1)) (wrap64 (x7_1 + 1))) = some r := by first | (rw [hy131]; with_reducible exact H) | (have H2_ := (Option.bind_some _ _).symm.trans H; rw [hy131]; with_reducible exact H2_) | (have H2_ := (Option.bind_some _ _).symm.trans H; with_reducible exact H2_) | with_reducible exact H | (rw [hy131]; exact H) | exact H
                have Ny131 := Aside0.mk hy131
                clear hy131
                have H' := Aside0.mk H
                clear H
                go_wp2_with (first | ((with_reducible refine gate_builtin (b := .append) (xs := #[.tmp 26, .tmp 31]) rfl ?_); at_builtin; refine Kd.R_append Kd.string (w0 := w) w.heap.size rfl (.tmp 26) (.tmp 31) 38 9 (.string ⟨#[]⟩) 16 rfl Tryd.underlying38 info9 rfl (by decide) (by omega) u5 x5_1 (a0.extract (x6_1 : Int).toNat (x7_1 : Int).toNat) [.string (a0.extract (x6_1 : Int).toNat (x7_1 : Int).toNat)] (fun _ => True) (fun _ => False) rfl rfl ?aP (fun _ hk => hk.elim) ?aF ?aO ?aB ?aS ?aL ?_; (case aP => exact rfl); (case aB => exact (by repeat (first | (with_reducible first | exact HB.out | apply below_alloc | apply pw_below_drewN | apply below_drew1) | exact HB.out))); (case aF => exact (fun _ _ => trivial)); (case aO => exact (by (with_reducible repeat (first | apply Kd.R_alloc | apply Kd.R_drewN | apply Kd.R_drew)); exact HO_5.out)); (case aS => exact (below_size (by repeat (first | (with_reducible first | exact HB.out | apply below_alloc | apply pw_below_drewN | apply below_drew1) | exact HB.out)))); (case aL => have := LMc10.out; omega); intro v132 w11 ho hb hg hat; rw [← Ny131.out] at ho; have n0_ := Aside0.mk (hb); have n1_ := Aside0.mk (ho); clear HB; clear HO_5; have HB := n0_; have HO133 := n1_; clear n0_ n1_; clear ho hb hg hat))
                go_roundg k1
                case measure => have := HK1.out; omega
                case rel => exact ⟨(y131), (wrap64 (x7_1 + 1)), (wrap64 (x7_1 + 1)), (by first | rfl | (simp; done) | (simp [*]; done)), (by first | rfl | (simp; done) | (simp [*]; done)), H', ⟨by have := HK1.out; omega⟩, ⟨by (with_reducible repeat (first | apply Kd.R_alloc | apply Kd.R_drewN | apply Kd.R_drew)); exact HO133.out⟩, ⟨by repeat (first | (with_reducible first | exact HB.out | apply below_alloc | apply pw_below_drewN | apply below_drew1) | exact HB.out)⟩⟩
              · rw [if_neg c10] at H
                exact absurd H (by simp)
            · rw [if_neg c8] at H
              exact absurd H (by simp)
          · rw [if_neg c7] at H
            exact absurd H (by simp)
        · rw [if_neg c6] at H
          have c6b0 : (x7_1 == (a0.size : Int)) = false := beq_eq_false_iff_ne.mpr c6
          have c6b1 : (x7_1 != (a0.size : Int)) = true := bne_iff_ne.mpr c6
          by_cases c12 : 0 ≤ x7_1
          · rw [if_pos c12] at H
            have c12b0 : decide (0 ≤ x7_1) = true := decide_eq_true c12
            clear c12
            by_cases c13 : x7_1 < (a0.size : Int)
            · rw [if_pos c13] at H
              have c13b0 : decide (x7_1 < (a0.size : Int)) = true := decide_eq_true c13
              clear c13
              by_cases c15 : (bt a0 x7_1) = a1
              · rw [if_pos c15] at H
                have c15b0 : ((bt a0 x7_1) == a1) = true := beq_iff_eq.mpr c15
                have c15b1 : ((bt a0 x7_1) != a1) = false := bne_eq_false_iff_eq.mpr c15
                clear c15
                by_cases c16 : 0 ≤ x6_1
                · rw [if_pos c16] at H
                  have c16b0 := eq_true c16
                  have c16b1 : decide (0 ≤ x6_1) = true := decide_eq_true c16
                  clear c16
                  by_cases c17 : x6_1 ≤ x7_1
                  · rw [if_pos c17] at H
                    have c17b0 := eq_true c17
                    have c17b1 : decide (x6_1 ≤ x7_1) = true := decide_eq_true c17
                    clear c17
                    have c18b0 := eq_true (of_decide_eq_true (by first | (with_reducible assumption) | assumption) : x7_1 ≤ (a0.size : Int))
                    by_cases c19 : x5_1.length < 8796093022208
                    · rw [if_pos c19] at H
                      have LMc19 := Aside0.mk c19
                      clear c19
                      obtain ⟨y134, hy134⟩ : ∃ y_ : List ByteArray, y_ = (x5_1 ++ [a0.extract (x6_1 : Int).toNat (x7_1 : Int).toNat]) := ⟨_, rfl⟩
                      replace H : (ciceroneref02_Parts.l0 k1 a0 a1 y134 (wrap64 (x7_1 + 1)) (wrap64 (x7_1 + 1))) = some r := by first | (rw [hy134]; with_reducible exact H) | (have H2_ := (Option.bind_some _ _).symm.trans H; rw [hy134]; with_reducible exact H2_) | (have H2_ := (Option.bind_some _ _).symm.trans H; with_reducible exact H2_) | with_reducible exact H | (rw [hy134]; exact H) | exact H
                      have Ny134 := Aside0.mk hy134
                      clear hy134
                      have H' := Aside0.mk H
                      clear H
                      have p14 : 0 ≤ (x7_1 : Int) := of_decide_eq_true (by first | (with_reducible assumption) | assumption)
                      have q14 : x7_1 < (a0.size : Int) := of_decide_eq_true (by first | (with_reducible assumption) | assumption)
                      have hx14 := bt_at a0 x7_1
                      replace p14 := eq_true p14
                      replace q14 := eq_true q14
                      go_wp2_with (first | ((with_reducible refine gate_builtin (b := .append) (xs := #[.tmp 26, .tmp 31]) rfl ?_); at_builtin; refine Kd.R_append Kd.string (w0 := w) w.heap.size rfl (.tmp 26) (.tmp 31) 38 9 (.string ⟨#[]⟩) 16 rfl Tryd.underlying38 info9 rfl (by decide) (by omega) u5 x5_1 (a0.extract (x6_1 : Int).toNat (x7_1 : Int).toNat) [.string (a0.extract (x6_1 : Int).toNat (x7_1 : Int).toNat)] (fun _ => True) (fun _ => False) rfl rfl ?aP (fun _ hk => hk.elim) ?aF ?aO ?aB ?aS ?aL ?_; (case aP => exact rfl); (case aB => exact (by repeat (first | (with_reducible first | exact HB.out | apply below_alloc | apply pw_below_drewN | apply below_drew1) | exact HB.out))); (case aF => exact (fun _ _ => trivial)); (case aO => exact (by (with_reducible repeat (first | apply Kd.R_alloc | apply Kd.R_drewN | apply Kd.R_drew)); exact HO_5.out)); (case aS => exact (below_size (by repeat (first | (with_reducible first | exact HB.out | apply below_alloc | apply pw_below_drewN | apply below_drew1) | exact HB.out)))); (case aL => have := LMc19.out; omega); intro v135 w20 ho hb hg hat; rw [← Ny134.out] at ho; have n0_ := Aside0.mk (hb); have n1_ := Aside0.mk (ho); clear HB; clear HO_5; have HB := n0_; have HO136 := n1_; clear n0_ n1_; clear ho hb hg hat))
                      go_roundg k1
                      case measure => have := HK1.out; omega
                      case rel => exact ⟨(y134), (wrap64 (x7_1 + 1)), (wrap64 (x7_1 + 1)), (by first | rfl | (simp; done) | (simp [*]; done)), (by first | rfl | (simp; done) | (simp [*]; done)), H', ⟨by have := HK1.out; omega⟩, ⟨by (with_reducible repeat (first | apply Kd.R_alloc | apply Kd.R_drewN | apply Kd.R_drew)); exact HO136.out⟩, ⟨by repeat (first | (with_reducible first | exact HB.out | apply below_alloc | apply pw_below_drewN | apply below_drew1) | exact HB.out)⟩⟩
                    · rw [if_neg c19] at H
                      exact absurd H (by simp)
                  · rw [if_neg c17] at H
                    exact absurd H (by simp)
                · rw [if_neg c16] at H
                  exact absurd H (by simp)
              · rw [if_neg c15] at H
                have c15b0 : ((bt a0 x7_1) == a1) = false := beq_eq_false_iff_ne.mpr c15
                have c15b1 : ((bt a0 x7_1) != a1) = true := bne_iff_ne.mpr c15
                have H' := Aside0.mk H
                clear H
                have p14 : 0 ≤ (x7_1 : Int) := of_decide_eq_true (by first | (with_reducible assumption) | assumption)
                have q14 : x7_1 < (a0.size : Int) := of_decide_eq_true (by first | (with_reducible assumption) | assumption)
                have hx14 := bt_at a0 x7_1
                replace p14 := eq_true p14
                replace q14 := eq_true q14
                go_wp2
                go_roundg k1
                case measure => have := HK1.out; omega
                case rel => exact ⟨(x5_1), (x6_1), (wrap64 (x7_1 + 1)), (by first | rfl | (simp; done) | (simp [*]; done)), (by first | rfl | (simp; done) | (simp [*]; done)), H', ⟨by have := HK1.out; omega⟩, ⟨by (with_reducible repeat (first | apply Kd.R_alloc | apply Kd.R_drewN | apply Kd.R_drew)); exact HO_5.out⟩, ⟨by repeat (first | (with_reducible first | exact HB.out | apply below_alloc | apply pw_below_drewN | apply below_drew1) | exact HB.out)⟩⟩
            · rw [if_neg c13] at H
              exact absurd H (by simp)
          · rw [if_neg c12] at H
            exact absurd H (by simp)
      · rw [if_neg c5] at H
        have c5b0 : decide (x7_1 ≤ (a0.size : Int)) = false := decide_eq_false c5
        clear c5
        obtain rfl := Option.some.inj H
        go_wp2
        go_ret
        exact ⟨_, by first | rfl | (simp [errW_none, errW_some] <;> rfl) | (simp [*, errW_none, errW_some] <;> rfl), by (with_reducible repeat (first | apply Kd.R_alloc | apply Kd.R_drewN | apply Kd.R_drew)); exact HO_5.out, by repeat (first | (with_reducible first | exact HB.out | apply below_alloc | apply pw_below_drewN | apply below_drew1) | exact HB.out)⟩


/-! ### ciceroneref02_Tags: function 26 -/
def ciceroneref02_Tags.f (k : Nat) (a0 : ByteArray) : Option (List ByteArray) := (ciceroneref02_place.f k a0).bind fun t137 => (if t137 < 0 then (some (([] : List ByteArray))) else (if t137 = (wrap64 ((a0.size : Int) - 1)) then (some (([] : List ByteArray))) else (if 0 ≤ (wrap64 (t137 + 1)) then (if (wrap64 (t137 + 1)) ≤ (a0.size : Int) then ((ciceroneref02_Parts.f k (a0.extract ((wrap64 (t137 + 1)) : Int).toNat a0.size) 44).bind fun t144 => (some t144)) else (none)) else (none))))
theorem ciceroneref02_Tags.mono : ∀ a0 k, LeO (ciceroneref02_Tags.f k a0) (ciceroneref02_Tags.f (k + 1) a0) := by
  intro a0 k
  unfold ciceroneref02_Tags.f
  repeat' first
      | (with_reducible exact ciceroneref02_Parts.mono _ _ _)
      | (with_reducible exact ciceroneref02_place.mono _ _)
      | (with_reducible exact LeO.refl _)
      | (with_reducible exact LeO.none _)
      | (with_reducible refine LeO.ite ?_ ?_)
      | (with_reducible refine LeO.bind ?_ (fun _ => ?_))
      | exact ciceroneref02_Parts.mono _ _ _
      | exact ciceroneref02_place.mono _ _
      | exact LeO.none _
      | refine LeO.ite ?_ ?_
      | refine LeO.bind ?_ (fun _ => ?_)
set_option maxHeartbeats 8000000 in
set_option maxRecDepth 100000 in
theorem ciceroneref02_Tags.calls (k : Nat) (a0 : ByteArray) (r : List ByteArray) (w : World) (h : ciceroneref02_Tags.f k a0 = some r) :
    Calls Tryd.prog 26 #[.string a0] w fun e w' => ∃ v0_ : Value, e = .returned (v0_) ∧ Kd.R Kd.string 9 w' w.heap.size (fun _ => True) v0_ r ∧ Below w.heap.size w w' := by
  have HB := Aside0.mk (Below.refl w.heap.size w)
  have H : ((ciceroneref02_place.f k a0).bind fun t137 => (if t137 < 0 then (some (([] : List ByteArray))) else (if t137 = (wrap64 ((a0.size : Int) - 1)) then (some (([] : List ByteArray))) else (if 0 ≤ (wrap64 (t137 + 1)) then (if (wrap64 (t137 + 1)) ≤ (a0.size : Int) then ((ciceroneref02_Parts.f k (a0.extract ((wrap64 (t137 + 1)) : Int).toNat a0.size) 44).bind fun t144 => (some t144)) else (none)) else (none))))) = some r := h
  clear h
  replace H := Option.bind_eq_some_iff.mp H
  obtain ⟨t137, A20, H⟩ := H
  replace H : (if t137 < 0 then (some (([] : List ByteArray))) else (if t137 = (wrap64 ((a0.size : Int) - 1)) then (some (([] : List ByteArray))) else (if 0 ≤ (wrap64 (t137 + 1)) then (if (wrap64 (t137 + 1)) ≤ (a0.size : Int) then ((ciceroneref02_Parts.f k (a0.extract ((wrap64 (t137 + 1)) : Int).toNat a0.size) 44).bind fun t144 => (some t144)) else (none)) else (none)))) = some r := H
  have A2 := Aside0.mk A20
  clear A20
  by_cases c3 : t137 < 0
  · rw [if_pos c3] at H
    have c3b0 : decide (t137 < 0) = true := decide_eq_true c3
    clear c3
    obtain ⟨y138, hy138⟩ : ∃ y_ : List ByteArray, y_ = (([] : List ByteArray)) := ⟨_, rfl⟩
    replace H : (some y138) = some r := by first | (rw [hy138]; with_reducible exact H) | (have H2_ := (Option.bind_some _ _).symm.trans H; rw [hy138]; with_reducible exact H2_) | (have H2_ := (Option.bind_some _ _).symm.trans H; with_reducible exact H2_) | with_reducible exact H | (rw [hy138]; exact H) | exact H
    have Ny138 := Aside0.mk hy138
    clear hy138
    obtain rfl := Option.some.inj H
    go_enter Tryd.func26, Tryd.ntmps26
    go_wp2_with (first | ((with_reducible refine gate_callee (f := 55) rfl ?_); refine goesL_ (some 5) rfl rfl Tryd.func55 (by kernel_rfl) rfl #[.string a0] rfl (by (try simp only [List.map_toArray, List.map_cons, List.map_nil]); first | done | rfl | (simp only [List.length_drop, List.length_take]; rfl)) ?_; (with_reducible refine (ciceroneref02_place.calls k a0 t137 _ A2.out).mono ?_); rintro e w' ⟨rfl, ⟨nd, rfl⟩⟩; refine ⟨_, rfl, ?_⟩) | ((with_reducible refine gate_dst (N := 15) rfl ?_); (try (refine gate_guard (by rfl) ?_; dsimp only)); refine Kd.R_lit Kd.string _ 9 ?hg (N := 15) ?hd (xs := ([] : List ByteArray)) (inner := []) (ok := fun _ => True) (okp := fun _ => True) ?hr ?hp (fun _ hk => hk) trivial (Below.refl _ _) (Nat.le_refl _) (by simp) ?_; (case hd => rfl); (case hg => rfl); (case hr => first | (go_simp; done) | (go_simp; rfl)); (case hp => exact (Reps.none _ _)); intro v139 w4 ho5 hb hg_ hnew_; clear hg_ hnew_; (first | rw [← Ny138.out] at ho5 | (simp only [Int.reduceToNat] at ho5; rw [← Ny138.out] at ho5)); have n0_ := Aside0.mk (Kd.R_lower ho5 (below_size (by repeat (first | (with_reducible first | exact HB.out | apply below_alloc | apply pw_below_drewN | apply below_drew1) | exact HB.out)))); have n1_ := Aside0.mk (below_step (by repeat (first | (with_reducible first | exact HB.out | apply below_alloc | apply pw_below_drewN | apply below_drew1) | exact HB.out)) hb); clear HB; have HO140 := n0_; have HB := n1_; clear n0_ n1_; clear hb ho5))
    go_ret
    exact ⟨_, by first | rfl | (simp [errW_none, errW_some] <;> rfl) | (simp [*, errW_none, errW_some] <;> rfl), by (with_reducible repeat (first | apply Kd.R_alloc | apply Kd.R_drewN | apply Kd.R_drew)); exact HO140.out, by repeat (first | (with_reducible first | exact HB.out | apply below_alloc | apply pw_below_drewN | apply below_drew1) | exact HB.out)⟩
  · rw [if_neg c3] at H
    have c3b0 : decide (t137 < 0) = false := decide_eq_false c3
    clear c3
    by_cases c6 : t137 = (wrap64 ((a0.size : Int) - 1))
    · rw [if_pos c6] at H
      have c6b0 : (t137 == (wrap64 ((a0.size : Int) - 1))) = true := beq_iff_eq.mpr c6
      have c6b1 : (t137 != (wrap64 ((a0.size : Int) - 1))) = false := bne_eq_false_iff_eq.mpr c6
      clear c6
      obtain ⟨y141, hy141⟩ : ∃ y_ : List ByteArray, y_ = (([] : List ByteArray)) := ⟨_, rfl⟩
      replace H : (some y141) = some r := by first | (rw [hy141]; with_reducible exact H) | (have H2_ := (Option.bind_some _ _).symm.trans H; rw [hy141]; with_reducible exact H2_) | (have H2_ := (Option.bind_some _ _).symm.trans H; with_reducible exact H2_) | with_reducible exact H | (rw [hy141]; exact H) | exact H
      have Ny141 := Aside0.mk hy141
      clear hy141
      obtain rfl := Option.some.inj H
      go_enter Tryd.func26, Tryd.ntmps26
      go_wp2_with (first | ((with_reducible refine gate_callee (f := 55) rfl ?_); refine goesL_ (some 5) rfl rfl Tryd.func55 (by kernel_rfl) rfl #[.string a0] rfl (by (try simp only [List.map_toArray, List.map_cons, List.map_nil]); first | done | rfl | (simp only [List.length_drop, List.length_take]; rfl)) ?_; (with_reducible refine (ciceroneref02_place.calls k a0 t137 _ A2.out).mono ?_); rintro e w' ⟨rfl, ⟨nd, rfl⟩⟩; refine ⟨_, rfl, ?_⟩) | ((with_reducible refine gate_dst (N := 15) rfl ?_); (try (refine gate_guard (by rfl) ?_; dsimp only)); refine Kd.R_lit Kd.string _ 9 ?hg (N := 15) ?hd (xs := ([] : List ByteArray)) (inner := []) (ok := fun _ => True) (okp := fun _ => True) ?hr ?hp (fun _ hk => hk) trivial (Below.refl _ _) (Nat.le_refl _) (by simp) ?_; (case hd => rfl); (case hg => rfl); (case hr => first | (go_simp; done) | (go_simp; rfl)); (case hp => exact (Reps.none _ _)); intro v142 w7 ho8 hb hg_ hnew_; clear hg_ hnew_; (first | rw [← Ny141.out] at ho8 | (simp only [Int.reduceToNat] at ho8; rw [← Ny141.out] at ho8)); have n0_ := Aside0.mk (Kd.R_lower ho8 (below_size (by repeat (first | (with_reducible first | exact HB.out | apply below_alloc | apply pw_below_drewN | apply below_drew1) | exact HB.out)))); have n1_ := Aside0.mk (below_step (by repeat (first | (with_reducible first | exact HB.out | apply below_alloc | apply pw_below_drewN | apply below_drew1) | exact HB.out)) hb); clear HB; have HO143 := n0_; have HB := n1_; clear n0_ n1_; clear hb ho8))
      go_ret
      exact ⟨_, by first | rfl | (simp [errW_none, errW_some] <;> rfl) | (simp [*, errW_none, errW_some] <;> rfl), by (with_reducible repeat (first | apply Kd.R_alloc | apply Kd.R_drewN | apply Kd.R_drew)); exact HO143.out, by repeat (first | (with_reducible first | exact HB.out | apply below_alloc | apply pw_below_drewN | apply below_drew1) | exact HB.out)⟩
    · rw [if_neg c6] at H
      have c6b0 : (t137 == (wrap64 ((a0.size : Int) - 1))) = false := beq_eq_false_iff_ne.mpr c6
      have c6b1 : (t137 != (wrap64 ((a0.size : Int) - 1))) = true := bne_iff_ne.mpr c6
      obtain ⟨ji9, hji9⟩ : ∃ j_ : Int, (wrap64 (t137 + 1)) = j_ := ⟨_, rfl⟩
      replace H : (if 0 ≤ (ji9) then (if (ji9) ≤ (a0.size : Int) then ((ciceroneref02_Parts.f k (a0.extract ((ji9) : Int).toNat a0.size) 44).bind fun t144 => (some t144)) else (none)) else (none)) = some r := by first | (rw [hji9] at H; exact H) | (simp only [hji9] at H ⊢; exact H)
      (try rw [hji9] at A2)
      have hji9w : (IntKind.i64.wrap (t137 + 1)) = ji9 := (i64_w _).trans hji9
      by_cases c10 : 0 ≤ (ji9)
      · rw [if_pos c10] at H
        have c10b0 := eq_true c10
        have c10b1 : decide (0 ≤ (ji9)) = true := decide_eq_true c10
        clear c10
        by_cases c11 : (ji9) ≤ (a0.size : Int)
        · rw [if_pos c11] at H
          have c11b0 := eq_true c11
          have c11b1 : decide ((ji9) ≤ (a0.size : Int)) = true := decide_eq_true c11
          clear c11
          replace H := Option.bind_eq_some_iff.mp H
          obtain ⟨t144, A120, H⟩ := H
          replace H : (some t144) = some r := H
          have A12 := Aside0.mk A120
          clear A120
          obtain rfl := Option.some.inj H
          go_enter Tryd.func26, Tryd.ntmps26
          go_wp2_with (first | ((with_reducible refine gate_callee (f := 55) rfl ?_); refine goesL_ (some 5) rfl rfl Tryd.func55 (by kernel_rfl) rfl #[.string a0] rfl (by (try simp only [List.map_toArray, List.map_cons, List.map_nil]); first | done | rfl | (simp only [List.length_drop, List.length_take]; rfl)) ?_; (with_reducible refine (ciceroneref02_place.calls k a0 t137 _ A2.out).mono ?_); rintro e w' ⟨rfl, ⟨nd, rfl⟩⟩; refine ⟨_, rfl, ?_⟩) | ((with_reducible refine gate_callee (f := 57) rfl ?_); refine goesL_ (some 20) rfl rfl Tryd.func57 (by kernel_rfl) rfl #[.string (a0.extract ((ji9) : Int).toNat a0.size), .int .u8 44] rfl (by (try simp only [List.map_toArray, List.map_cons, List.map_nil]); first | done | (simp only [hji9]; rfl) | rfl | (simp only [List.length_drop, List.length_take]; rfl)) ?_; (with_reducible refine (ciceroneref02_Parts.calls k (a0.extract ((ji9) : Int).toNat a0.size) 44 t144 _ A12.out).mono ?_); rintro e w13 ⟨v145, rfl, ho0, hb⟩; refine ⟨_, rfl, ?_⟩; have n0_ := Aside0.mk (Kd.R_lower ho0 (below_size (by repeat (first | (with_reducible first | exact HB.out | apply below_alloc | apply pw_below_drewN | apply below_drew1) | exact HB.out)))); have n1_ := Aside0.mk (below_step (by repeat (first | (with_reducible first | exact HB.out | apply below_alloc | apply pw_below_drewN | apply below_drew1) | exact HB.out)) hb); clear HB; have HO146 := n0_; have HB := n1_; clear n0_ n1_; (try clear hb); (try clear hb2); (try clear hk); (try clear hi); (try clear ho0)))
          go_ret
          exact ⟨_, by first | rfl | (simp [errW_none, errW_some] <;> rfl) | (simp only [← hji9]; first | rfl | (simp [errW_none, errW_some] <;> rfl)) | (simp [*, errW_none, errW_some] <;> rfl), by (with_reducible repeat (first | apply Kd.R_alloc | apply Kd.R_drewN | apply Kd.R_drew)); exact HO146.out, by repeat (first | (with_reducible first | exact HB.out | apply below_alloc | apply pw_below_drewN | apply below_drew1) | exact HB.out)⟩
        · rw [if_neg c11] at H
          exact absurd H (by simp)
      · rw [if_neg c10] at H
        exact absurd H (by simp)


/-! ### ciceroneref02_Label: function 42 -/
mutual
def ciceroneref02_Label.j0 : Nat → ByteArray → Bool → Option (Bool)
  | 0, _, _ => none
  | k + 1, x0, x13 => if x13 = true then (some false) else ((ciceroneref02_Tags.f k x0).bind fun t150 => (ciceroneref02_Label.l0 k t150 0))
def ciceroneref02_Label.l0 : Nat → List ByteArray → Int → Option (Bool)
  | 0, _, _ => none
  | k + 1, x3, x4 => if x4 < (x3.length : Int) then (if 0 ≤ x4 then ((ciceroneref02_Name.f k (rdOf ByteArray.empty x3 x4)).bind fun t154 => (if t154 = true then (if x4 > 0 then (if 0 ≤ (wrap64 (x4 - 1)) then (if (wrap64 (x4 - 1)) < (x3.length : Int) then (if ((Op.bytesLess ((rdOf ByteArray.empty x3 (wrap64 (x4 - 1))).toList) ((rdOf ByteArray.empty x3 x4).toList)) = true) then (ciceroneref02_Label.l0 k x3 (wrap64 (x4 + 1))) else (some false)) else (none)) else (none)) else (ciceroneref02_Label.l0 k x3 (wrap64 (x4 + 1)))) else (some false))) else (none)) else (some (decide ((x3.length : Int) ≤ 8)))
end
def ciceroneref02_Label.f (k : Nat) (a0 : ByteArray) : Option (Bool) := (ciceroneref02_place.f k a0).bind fun t147 => (if t147 < 0 then (ciceroneref02_Label.j0 k a0 true) else ((ciceroneref02_Maker.f k a0).bind fun t148 => ((ciceroneref02_Name.f k t148).bind fun t149 => (ciceroneref02_Label.j0 k a0 (!t149)))))
theorem ciceroneref02_Label.mono_l : ∀ k, (∀ y0 y1, LeO (ciceroneref02_Label.j0 k y0 y1) (ciceroneref02_Label.j0 (k + 1) y0 y1)) ∧ (∀ y0 y1, LeO (ciceroneref02_Label.l0 k y0 y1) (ciceroneref02_Label.l0 (k + 1) y0 y1))
  | 0 => ⟨fun _ _ r h => by simp [ciceroneref02_Label.j0] at h, fun _ _ r h => by simp [ciceroneref02_Label.l0] at h⟩
  | k + 1 => by
    obtain ⟨ih0, ih1⟩ := ciceroneref02_Label.mono_l k
    refine ⟨?_, ?_⟩
    · intro y0 y1
      unfold ciceroneref02_Label.j0
      repeat' first
      | (with_reducible exact ih0 _ _)
      | (with_reducible exact ih1 _ _)
      | (with_reducible exact ciceroneref02_Maker.mono _ _)
      | (with_reducible exact ciceroneref02_Name.mono _ _)
      | (with_reducible exact ciceroneref02_Tags.mono _ _)
      | (with_reducible exact ciceroneref02_place.mono _ _)
      | (with_reducible exact LeO.refl _)
      | (with_reducible exact LeO.none _)
      | (with_reducible refine LeO.ite ?_ ?_)
      | (with_reducible refine LeO.bind ?_ (fun _ => ?_))
      | exact ih0 _ _
      | exact ih1 _ _
      | exact ciceroneref02_Maker.mono _ _
      | exact ciceroneref02_Name.mono _ _
      | exact ciceroneref02_Tags.mono _ _
      | exact ciceroneref02_place.mono _ _
      | exact LeO.none _
      | refine LeO.ite ?_ ?_
      | refine LeO.bind ?_ (fun _ => ?_)
    · intro y0 y1
      unfold ciceroneref02_Label.l0
      repeat' first
      | (with_reducible exact ih0 _ _)
      | (with_reducible exact ih1 _ _)
      | (with_reducible exact ciceroneref02_Maker.mono _ _)
      | (with_reducible exact ciceroneref02_Name.mono _ _)
      | (with_reducible exact ciceroneref02_Tags.mono _ _)
      | (with_reducible exact ciceroneref02_place.mono _ _)
      | (with_reducible exact LeO.refl _)
      | (with_reducible exact LeO.none _)
      | (with_reducible refine LeO.ite ?_ ?_)
      | (with_reducible refine LeO.bind ?_ (fun _ => ?_))
      | exact ih0 _ _
      | exact ih1 _ _
      | exact ciceroneref02_Maker.mono _ _
      | exact ciceroneref02_Name.mono _ _
      | exact ciceroneref02_Tags.mono _ _
      | exact ciceroneref02_place.mono _ _
      | exact LeO.none _
      | refine LeO.ite ?_ ?_
      | refine LeO.bind ?_ (fun _ => ?_)
theorem ciceroneref02_Label.mono : ∀ a0 k, LeO (ciceroneref02_Label.f k a0) (ciceroneref02_Label.f (k + 1) a0) := by
  intro a0 k
  obtain ⟨ih0, ih1⟩ := ciceroneref02_Label.mono_l k
  unfold ciceroneref02_Label.f
  repeat' first
      | (with_reducible exact ih0 _ _)
      | (with_reducible exact ih1 _ _)
      | (with_reducible exact ciceroneref02_Maker.mono _ _)
      | (with_reducible exact ciceroneref02_Name.mono _ _)
      | (with_reducible exact ciceroneref02_Tags.mono _ _)
      | (with_reducible exact ciceroneref02_place.mono _ _)
      | (with_reducible exact LeO.refl _)
      | (with_reducible exact LeO.none _)
      | (with_reducible refine LeO.ite ?_ ?_)
      | (with_reducible refine LeO.bind ?_ (fun _ => ?_))
      | exact ih0 _ _
      | exact ih1 _ _
      | exact ciceroneref02_Maker.mono _ _
      | exact ciceroneref02_Name.mono _ _
      | exact ciceroneref02_Tags.mono _ _
      | exact ciceroneref02_place.mono _ _
      | exact LeO.none _
      | refine LeO.ite ?_ ?_
      | refine LeO.bind ?_ (fun _ => ?_)
set_option maxHeartbeats 8000000 in
set_option maxRecDepth 100000 in
theorem ciceroneref02_Label.calls (k : Nat) (a0 : ByteArray) (r : Bool) (w : World) (h : ciceroneref02_Label.f k a0 = some r) :
    Calls Tryd.prog 42 #[.string a0] w fun e w' => e = .returned (.bool r) ∧ Below w.heap.size w w' := by
  have HB := Aside0.mk (Below.refl w.heap.size w)
  have H : ((ciceroneref02_place.f k a0).bind fun t147 => (if t147 < 0 then (ciceroneref02_Label.j0 k a0 true) else ((ciceroneref02_Maker.f k a0).bind fun t148 => ((ciceroneref02_Name.f k t148).bind fun t149 => (ciceroneref02_Label.j0 k a0 (!t149)))))) = some r := h
  clear h
  have HC2 := Aside0.mk H
  clear H
  go_enter Tryd.func42, Tryd.ntmps42
  go_upto_region 1 with (fail)
  repeat (go_quiet (fail); go_upto_region 1 with (fail))
  go_cut [13] (fun v13 wc => ∃ (kq : Nat) (x13_1 : Bool), v13 = .bool x13_1 ∧ Aside0 (ciceroneref02_Label.j0 kq a0 x13_1 = some r) ∧ Aside0 (kq ≤ k) ∧ Aside0 (Below w.heap.size w wc))
  case first =>
    have H := HC2.out
    clear HC2
    replace H := Option.bind_eq_some_iff.mp H
    obtain ⟨t147, A30, H⟩ := H
    replace H : (if t147 < 0 then (ciceroneref02_Label.j0 k a0 true) else ((ciceroneref02_Maker.f k a0).bind fun t148 => ((ciceroneref02_Name.f k t148).bind fun t149 => (ciceroneref02_Label.j0 k a0 (!t149))))) = some r := H
    have A3 := Aside0.mk A30
    clear A30
    by_cases c4 : t147 < 0
    · rw [if_pos c4] at H
      have c4b0 : decide (t147 < 0) = true := decide_eq_true c4
      clear c4
      (first | rw [c4b0] | (simp only [i64_w, i32_w]; rw [c4b0]) | skip)
      have H' := Aside0.mk H
      clear H
      go_wp2_with (first | (go_at_call 55; (with_reducible refine (ciceroneref02_place.calls k a0 t147 _ A3.out).mono ?_); rintro e w' ⟨rfl, ⟨nd, rfl⟩⟩; (try first | exact ⟨rfl, _, World.drewN_drewN _ _ _⟩ | exact ⟨rfl, _, Eq.trans (World.drewN_drewN _ _ _) (congrArg (World.drewN _) (Nat.add_assoc _ _ _))⟩)))
      repeat (go_quiet (first | (go_at_call 55; (with_reducible refine (ciceroneref02_place.calls k a0 t147 _ A3.out).mono ?_); rintro e w' ⟨rfl, ⟨nd, rfl⟩⟩; (try first | exact ⟨rfl, _, World.drewN_drewN _ _ _⟩ | exact ⟨rfl, _, Eq.trans (World.drewN_drewN _ _ _) (congrArg (World.drewN _) (Nat.add_assoc _ _ _))⟩))); try go_wp2_with (first | (go_at_call 55; (with_reducible refine (ciceroneref02_place.calls k a0 t147 _ A3.out).mono ?_); rintro e w' ⟨rfl, ⟨nd, rfl⟩⟩; (try first | exact ⟨rfl, _, World.drewN_drewN _ _ _⟩ | exact ⟨rfl, _, Eq.trans (World.drewN_drewN _ _ _) (congrArg (World.drewN _) (Nat.add_assoc _ _ _))⟩))))
      go_meet
      case rel => exact ⟨_, (true), (by first | rfl | (simp; done) | (simp [*]; done)), H', ⟨by first | omega | exact Nat.le_refl _⟩, ⟨by repeat (first | (with_reducible first | exact HB.out | apply below_alloc | apply pw_below_drewN | apply below_drew1) | exact HB.out)⟩⟩
    · rw [if_neg c4] at H
      have c4b0 : decide (t147 < 0) = false := decide_eq_false c4
      clear c4
      (first | rw [c4b0] | (simp only [i64_w, i32_w]; rw [c4b0]) | skip)
      replace H := Option.bind_eq_some_iff.mp H
      obtain ⟨t148, A50, H⟩ := H
      replace H : ((ciceroneref02_Name.f k t148).bind fun t149 => (ciceroneref02_Label.j0 k a0 (!t149))) = some r := H
      have A5 := Aside0.mk A50
      clear A50
      replace H := Option.bind_eq_some_iff.mp H
      obtain ⟨t149, A60, H⟩ := H
      replace H : (ciceroneref02_Label.j0 k a0 (!t149)) = some r := H
      have A6 := Aside0.mk A60
      clear A60
      have H' := Aside0.mk H
      clear H
      go_wp2_with (first | (go_at_call 55; (with_reducible refine (ciceroneref02_place.calls k a0 t147 _ A3.out).mono ?_); rintro e w' ⟨rfl, ⟨nd, rfl⟩⟩; (try first | exact ⟨rfl, _, World.drewN_drewN _ _ _⟩ | exact ⟨rfl, _, Eq.trans (World.drewN_drewN _ _ _) (congrArg (World.drewN _) (Nat.add_assoc _ _ _))⟩)) | (go_at_call 23; (with_reducible refine (ciceroneref02_Maker.calls k a0 t148 _ A5.out).mono ?_); rintro e w' ⟨rfl, ⟨nd, rfl⟩⟩; (try first | exact ⟨rfl, _, World.drewN_drewN _ _ _⟩ | exact ⟨rfl, _, Eq.trans (World.drewN_drewN _ _ _) (congrArg (World.drewN _) (Nat.add_assoc _ _ _))⟩)) | (go_at_call 18; (with_reducible refine (ciceroneref02_Name.calls k t148 t149 _ A6.out).mono ?_); rintro e w' ⟨rfl, ⟨nd, rfl⟩⟩; (try first | exact ⟨rfl, _, World.drewN_drewN _ _ _⟩ | exact ⟨rfl, _, Eq.trans (World.drewN_drewN _ _ _) (congrArg (World.drewN _) (Nat.add_assoc _ _ _))⟩)))
      repeat (go_quiet (first | (go_at_call 55; (with_reducible refine (ciceroneref02_place.calls k a0 t147 _ A3.out).mono ?_); rintro e w' ⟨rfl, ⟨nd, rfl⟩⟩; (try first | exact ⟨rfl, _, World.drewN_drewN _ _ _⟩ | exact ⟨rfl, _, Eq.trans (World.drewN_drewN _ _ _) (congrArg (World.drewN _) (Nat.add_assoc _ _ _))⟩)) | (go_at_call 23; (with_reducible refine (ciceroneref02_Maker.calls k a0 t148 _ A5.out).mono ?_); rintro e w' ⟨rfl, ⟨nd, rfl⟩⟩; (try first | exact ⟨rfl, _, World.drewN_drewN _ _ _⟩ | exact ⟨rfl, _, Eq.trans (World.drewN_drewN _ _ _) (congrArg (World.drewN _) (Nat.add_assoc _ _ _))⟩)) | (go_at_call 18; (with_reducible refine (ciceroneref02_Name.calls k t148 t149 _ A6.out).mono ?_); rintro e w' ⟨rfl, ⟨nd, rfl⟩⟩; (try first | exact ⟨rfl, _, World.drewN_drewN _ _ _⟩ | exact ⟨rfl, _, Eq.trans (World.drewN_drewN _ _ _) (congrArg (World.drewN _) (Nat.add_assoc _ _ _))⟩))); try go_wp2_with (first | (go_at_call 55; (with_reducible refine (ciceroneref02_place.calls k a0 t147 _ A3.out).mono ?_); rintro e w' ⟨rfl, ⟨nd, rfl⟩⟩; (try first | exact ⟨rfl, _, World.drewN_drewN _ _ _⟩ | exact ⟨rfl, _, Eq.trans (World.drewN_drewN _ _ _) (congrArg (World.drewN _) (Nat.add_assoc _ _ _))⟩)) | (go_at_call 23; (with_reducible refine (ciceroneref02_Maker.calls k a0 t148 _ A5.out).mono ?_); rintro e w' ⟨rfl, ⟨nd, rfl⟩⟩; (try first | exact ⟨rfl, _, World.drewN_drewN _ _ _⟩ | exact ⟨rfl, _, Eq.trans (World.drewN_drewN _ _ _) (congrArg (World.drewN _) (Nat.add_assoc _ _ _))⟩)) | (go_at_call 18; (with_reducible refine (ciceroneref02_Name.calls k t148 t149 _ A6.out).mono ?_); rintro e w' ⟨rfl, ⟨nd, rfl⟩⟩; (try first | exact ⟨rfl, _, World.drewN_drewN _ _ _⟩ | exact ⟨rfl, _, Eq.trans (World.drewN_drewN _ _ _) (congrArg (World.drewN _) (Nat.add_assoc _ _ _))⟩))))
      go_meet
      case rel => exact ⟨_, (!t149), (by first | rfl | (simp; done) | (simp [*]; done)), H', ⟨by first | omega | exact Nat.le_refl _⟩, ⟨by repeat (first | (with_reducible first | exact HB.out | apply below_alloc | apply pw_below_drewN | apply below_drew1) | exact HB.out)⟩⟩
  case rest =>
    clear HC2
    try clear p2
    try clear c4
    try clear c4b0
    obtain ⟨kq, x13_1, rfl, HA, HJ1, HB⟩ := hcut
    cases kq with
    | zero => exact absurd HA.out (by simp [ciceroneref02_Label.j0])
    | succ kj1 =>
      have H := HA.out
      clear HA
      simp only [ciceroneref02_Label.j0] at H
      by_cases c7 : x13_1 = true
      · subst c7
        have H1 : (some false) = some r := by rw [if_pos rfl] at H; exact H
        clear H
        have H := H1
        clear H1
        obtain rfl := Option.some.inj H
        go_wp2
        repeat (go_quiet (fail); try go_wp2)
        go_ret
        exact ⟨by first | rfl | (simp [errW_none, errW_some] <;> rfl) | (simp [*, errW_none, errW_some] <;> rfl), by repeat (first | (with_reducible first | exact HB.out | apply below_alloc | apply pw_below_drewN | apply below_drew1) | exact HB.out)⟩
      · replace c7 := Bool.eq_false_iff.mpr c7
        subst c7
        have H1 : ((ciceroneref02_Tags.f kj1 a0).bind fun t150 => (ciceroneref02_Label.l0 kj1 t150 0)) = some r := by rw [if_neg (show ¬ (false = true) by decide)] at H; exact H
        clear H
        have H := H1
        clear H1
        replace H := Option.bind_eq_some_iff.mp H
        obtain ⟨t150, A80, H⟩ := H
        replace H : (ciceroneref02_Label.l0 kj1 t150 0) = some r := H
        have A8 := Aside0.mk A80
        clear A80
        have H' := Aside0.mk H
        clear H
        go_wp2_with (first | (go_at_call 26; (with_reducible refine (ciceroneref02_Tags.calls kj1 a0 t150 _ A8.out).mono ?_); rintro e w9 ⟨v151, rfl, ho0, hb⟩; have n0_ := Aside0.mk (Kd.R_lower ho0 (below_size (by repeat (first | (with_reducible first | exact HB.out | apply below_alloc | apply pw_below_drewN | apply below_drew1) | exact HB.out)))); have n1_ := Aside0.mk (below_step (by repeat (first | (with_reducible first | exact HB.out | apply below_alloc | apply pw_below_drewN | apply below_drew1) | exact HB.out)) hb); clear HB; have HO152 := n0_; have HB := n1_; clear n0_ n1_; (try clear hb); (try clear hb2); (try clear hk); (try clear hi); (try clear ho0)))
        repeat (go_quiet (first | (go_at_call 26; (with_reducible refine (ciceroneref02_Tags.calls kj1 a0 t150 _ A8.out).mono ?_); rintro e w9 ⟨v151, rfl, ho0, hb⟩; have n0_ := Aside0.mk (Kd.R_lower ho0 (below_size (by repeat (first | (with_reducible first | exact HB.out | apply below_alloc | apply pw_below_drewN | apply below_drew1) | exact HB.out)))); have n1_ := Aside0.mk (below_step (by repeat (first | (with_reducible first | exact HB.out | apply below_alloc | apply pw_below_drewN | apply below_drew1) | exact HB.out)) hb); clear HB; have HO152 := n0_; have HB := n1_; clear n0_ n1_; (try clear hb); (try clear hb2); (try clear hk); (try clear hi); (try clear ho0))); try go_wp2_with (first | (go_at_call 26; (with_reducible refine (ciceroneref02_Tags.calls kj1 a0 t150 _ A8.out).mono ?_); rintro e w9 ⟨v151, rfl, ho0, hb⟩; have n0_ := Aside0.mk (Kd.R_lower ho0 (below_size (by repeat (first | (with_reducible first | exact HB.out | apply below_alloc | apply pw_below_drewN | apply below_drew1) | exact HB.out)))); have n1_ := Aside0.mk (below_step (by repeat (first | (with_reducible first | exact HB.out | apply below_alloc | apply pw_below_drewN | apply below_drew1) | exact HB.out)) hb); clear HB; have HO152 := n0_; have HB := n1_; clear n0_ n1_; (try clear hb); (try clear hb2); (try clear hk); (try clear hi); (try clear ho0))))
        go_loopg [4] kj1 (fun kq v4 w' => ∃ (x4_2 : Int), v4 = .int .i64 x4_2 ∧ Aside0 (ciceroneref02_Label.l0 kq t150 x4_2 = some r) ∧ Aside0 (kq ≤ kj1) ∧ Aside0 (Kd.R Kd.string 9 w' w.heap.size (fun _ => True) v151 t150) ∧ Aside0 (Below w.heap.size w w'))
        case atStart => exact ⟨(0), (by first | rfl | (simp; done) | (simp [*]; done)), H', ⟨Nat.le_refl _⟩, ⟨by (with_reducible repeat (first | apply Kd.R_alloc | apply Kd.R_drewN | apply Kd.R_drew)); exact HO152.out⟩, ⟨by repeat (first | (with_reducible first | exact HB.out | apply below_alloc | apply pw_below_drewN | apply below_drew1) | exact HB.out)⟩⟩
        case round =>
          clear H'
          try clear p2
          try clear c4
          try clear c4b0
          try clear c7
          try clear p2
          obtain ⟨x4_2, rfl, HA, HK2, HO_3, HB⟩ := hrel
          cases gk with
          | zero => exact absurd HA.out (by simp [ciceroneref02_Label.l0])
          | succ k2 =>
            have H := HA.out
            clear HA
            simp only [ciceroneref02_Label.l0] at H
            by_cases c10 : x4_2 < (t150.length : Int)
            · rw [if_pos c10] at H
              have c10b0 : decide (x4_2 < (t150.length : Int)) = true := decide_eq_true c10
              clear c10
              by_cases c11 : 0 ≤ x4_2
              · rw [if_pos c11] at H
                have c11b0 : decide (0 ≤ x4_2) = true := decide_eq_true c11
                clear c11
                replace H := Option.bind_eq_some_iff.mp H
                obtain ⟨t154, A120, H⟩ := H
                replace H : (if t154 = true then (if x4_2 > 0 then (if 0 ≤ (wrap64 (x4_2 - 1)) then (if (wrap64 (x4_2 - 1)) < (t150.length : Int) then (if ((Op.bytesLess ((rdOf ByteArray.empty t150 (wrap64 (x4_2 - 1))).toList) ((rdOf ByteArray.empty t150 x4_2).toList)) = true) then (ciceroneref02_Label.l0 k2 t150 (wrap64 (x4_2 + 1))) else (some false)) else (none)) else (none)) else (ciceroneref02_Label.l0 k2 t150 (wrap64 (x4_2 + 1)))) else (some false)) = some r := H
                have A12 := Aside0.mk A120
                clear A120
                by_cases c13 : t154 = true
                · subst c13
                  have H1 : (if x4_2 > 0 then (if 0 ≤ (wrap64 (x4_2 - 1)) then (if (wrap64 (x4_2 - 1)) < (t150.length : Int) then (if ((Op.bytesLess ((rdOf ByteArray.empty t150 (wrap64 (x4_2 - 1))).toList) ((rdOf ByteArray.empty t150 x4_2).toList)) = true) then (ciceroneref02_Label.l0 k2 t150 (wrap64 (x4_2 + 1))) else (some false)) else (none)) else (none)) else (ciceroneref02_Label.l0 k2 t150 (wrap64 (x4_2 + 1)))) = some r := by rw [if_pos rfl] at H; exact H
                  clear H
                  have H := H1
                  clear H1
                  by_cases c14 : x4_2 > 0
                  · rw [if_pos c14] at H
                    have c14b0 : decide (0 < x4_2) = true := decide_eq_true c14
                    clear c14
                    obtain ⟨ji15, hji15⟩ : ∃ j_ : Int, (wrap64 (x4_2 - 1)) = j_ := ⟨_, rfl⟩
                    replace H : (if 0 ≤ (ji15) then (if (ji15) < (t150.length : Int) then (if ((Op.bytesLess ((rdOf ByteArray.empty t150 (ji15)).toList) ((rdOf ByteArray.empty t150 x4_2).toList)) = true) then (ciceroneref02_Label.l0 k2 t150 (wrap64 (x4_2 + 1))) else (some false)) else (none)) else (none)) = some r := by first | (rw [hji15] at H; exact H) | (simp only [hji15] at H ⊢; exact H)
                    (try rw [hji15] at A12)
                    have hji15w : (IntKind.i64.wrap (x4_2 - 1)) = ji15 := (i64_w _).trans hji15
                    by_cases c16 : 0 ≤ (ji15)
                    · rw [if_pos c16] at H
                      have c16b0 : decide (0 ≤ (ji15)) = true := decide_eq_true c16
                      clear c16
                      by_cases c17 : (ji15) < (t150.length : Int)
                      · rw [if_pos c17] at H
                        have c17b0 : decide ((ji15) < (t150.length : Int)) = true := decide_eq_true c17
                        clear c17
                        by_cases c18 : ((Op.bytesLess ((rdOf ByteArray.empty t150 (ji15)).toList) ((rdOf ByteArray.empty t150 x4_2).toList)) = true)
                        · rw [if_pos c18] at H
                          have c18b0 : (Op.bytesLess ((rdOf ByteArray.empty t150 (ji15)).toList) ((rdOf ByteArray.empty t150 x4_2).toList)) = true := c18
                          clear c18
                          have H' := Aside0.mk H
                          clear H
                          obtain ⟨Ao19, co19, eo19⟩ := Kd.R_slice HO_3.out
                          subst eo19
                          have p153 : 0 ≤ (x4_2 : Int) := of_decide_eq_true (by first | (with_reducible assumption) | assumption)
                          have q153 : x4_2 < (t150.length : Int) := of_decide_eq_true (by first | (with_reducible assumption) | assumption)
                          obtain ⟨ad153, e153, hx153_0⟩ := Kd.at_string (Kd.R_reads' HO_3.out).2.2 x4_2 p153 q153
                          cases e153
                          replace p153 := eq_true p153
                          replace q153 := eq_true q153
                          go_wp2_with (first | (go_at_call 18; (with_reducible refine (ciceroneref02_Name.calls k2 (rdOf ByteArray.empty t150 x4_2) true _ A12.out).mono ?_); rintro e w' ⟨rfl, ⟨nd, rfl⟩⟩; (try first | exact ⟨rfl, _, World.drewN_drewN _ _ _⟩ | exact ⟨rfl, _, Eq.trans (World.drewN_drewN _ _ _) (congrArg (World.drewN _) (Nat.add_assoc _ _ _))⟩); have p155 : 0 ≤ ((ji15) : Int) := of_decide_eq_true (by first | (with_reducible assumption) | assumption); have q155 : (ji15) < (t150.length : Int) := of_decide_eq_true (by first | (with_reducible assumption) | assumption); obtain ⟨ad155, e155, hx155_0⟩ := Kd.at_string (Kd.R_reads' HO_3.out).2.2 (ji15) p155 q155; obtain rfl : ad153 = ad155 := (by injection e155); replace p155 := eq_true p155; replace q155 := eq_true q155; have p156 : 0 ≤ (x4_2 : Int) := of_decide_eq_true (by first | (with_reducible assumption) | assumption); have q156 : x4_2 < (t150.length : Int) := of_decide_eq_true (by first | (with_reducible assumption) | assumption); obtain ⟨ad156, e156, hx156_0⟩ := Kd.at_string (Kd.R_reads' HO_3.out).2.2 x4_2 p156 q156; obtain rfl : ad153 = ad156 := (by injection e156); replace p156 := eq_true p156; replace q156 := eq_true q156))
                          repeat (go_quiet (first | (go_at_call 18; (with_reducible refine (ciceroneref02_Name.calls k2 (rdOf ByteArray.empty t150 x4_2) true _ A12.out).mono ?_); rintro e w' ⟨rfl, ⟨nd, rfl⟩⟩; (try first | exact ⟨rfl, _, World.drewN_drewN _ _ _⟩ | exact ⟨rfl, _, Eq.trans (World.drewN_drewN _ _ _) (congrArg (World.drewN _) (Nat.add_assoc _ _ _))⟩); have p155 : 0 ≤ ((ji15) : Int) := of_decide_eq_true (by first | (with_reducible assumption) | assumption); have q155 : (ji15) < (t150.length : Int) := of_decide_eq_true (by first | (with_reducible assumption) | assumption); obtain ⟨ad155, e155, hx155_0⟩ := Kd.at_string (Kd.R_reads' HO_3.out).2.2 (ji15) p155 q155; obtain rfl : ad153 = ad155 := (by injection e155); replace p155 := eq_true p155; replace q155 := eq_true q155; have p156 : 0 ≤ (x4_2 : Int) := of_decide_eq_true (by first | (with_reducible assumption) | assumption); have q156 : x4_2 < (t150.length : Int) := of_decide_eq_true (by first | (with_reducible assumption) | assumption); obtain ⟨ad156, e156, hx156_0⟩ := Kd.at_string (Kd.R_reads' HO_3.out).2.2 x4_2 p156 q156; obtain rfl : ad153 = ad156 := (by injection e156); replace p156 := eq_true p156; replace q156 := eq_true q156)); try go_wp2_with (first | (go_at_call 18; (with_reducible refine (ciceroneref02_Name.calls k2 (rdOf ByteArray.empty t150 x4_2) true _ A12.out).mono ?_); rintro e w' ⟨rfl, ⟨nd, rfl⟩⟩; (try first | exact ⟨rfl, _, World.drewN_drewN _ _ _⟩ | exact ⟨rfl, _, Eq.trans (World.drewN_drewN _ _ _) (congrArg (World.drewN _) (Nat.add_assoc _ _ _))⟩); have p155 : 0 ≤ ((ji15) : Int) := of_decide_eq_true (by first | (with_reducible assumption) | assumption); have q155 : (ji15) < (t150.length : Int) := of_decide_eq_true (by first | (with_reducible assumption) | assumption); obtain ⟨ad155, e155, hx155_0⟩ := Kd.at_string (Kd.R_reads' HO_3.out).2.2 (ji15) p155 q155; obtain rfl : ad153 = ad155 := (by injection e155); replace p155 := eq_true p155; replace q155 := eq_true q155; have p156 : 0 ≤ (x4_2 : Int) := of_decide_eq_true (by first | (with_reducible assumption) | assumption); have q156 : x4_2 < (t150.length : Int) := of_decide_eq_true (by first | (with_reducible assumption) | assumption); obtain ⟨ad156, e156, hx156_0⟩ := Kd.at_string (Kd.R_reads' HO_3.out).2.2 x4_2 p156 q156; obtain rfl : ad153 = ad156 := (by injection e156); replace p156 := eq_true p156; replace q156 := eq_true q156)))
                          go_roundg k2
                          case measure => have := HJ1.out; have := HK2.out; omega
                          case rel => exact ⟨(wrap64 (x4_2 + 1)), (by first | rfl | (simp; done) | (simp [*]; done)), H', ⟨by have := HJ1.out; have := HK2.out; omega⟩, ⟨by (with_reducible repeat (first | apply Kd.R_alloc | apply Kd.R_drewN | apply Kd.R_drew)); exact HO_3.out⟩, ⟨by repeat (first | (with_reducible first | exact HB.out | apply below_alloc | apply pw_below_drewN | apply below_drew1) | exact HB.out)⟩⟩
                        · rw [if_neg c18] at H
                          have c18b0 : (Op.bytesLess ((rdOf ByteArray.empty t150 (ji15)).toList) ((rdOf ByteArray.empty t150 x4_2).toList)) = false := by simpa using c18
                          clear c18
                          obtain rfl := Option.some.inj H
                          obtain ⟨Ao20, co20, eo20⟩ := Kd.R_slice HO_3.out
                          subst eo20
                          have p153 : 0 ≤ (x4_2 : Int) := of_decide_eq_true (by first | (with_reducible assumption) | assumption)
                          have q153 : x4_2 < (t150.length : Int) := of_decide_eq_true (by first | (with_reducible assumption) | assumption)
                          obtain ⟨ad153, e153, hx153_0⟩ := Kd.at_string (Kd.R_reads' HO_3.out).2.2 x4_2 p153 q153
                          cases e153
                          replace p153 := eq_true p153
                          replace q153 := eq_true q153
                          go_wp2_with (first | (go_at_call 18; (with_reducible refine (ciceroneref02_Name.calls k2 (rdOf ByteArray.empty t150 x4_2) true _ A12.out).mono ?_); rintro e w' ⟨rfl, ⟨nd, rfl⟩⟩; (try first | exact ⟨rfl, _, World.drewN_drewN _ _ _⟩ | exact ⟨rfl, _, Eq.trans (World.drewN_drewN _ _ _) (congrArg (World.drewN _) (Nat.add_assoc _ _ _))⟩); have p155 : 0 ≤ ((ji15) : Int) := of_decide_eq_true (by first | (with_reducible assumption) | assumption); have q155 : (ji15) < (t150.length : Int) := of_decide_eq_true (by first | (with_reducible assumption) | assumption); obtain ⟨ad155, e155, hx155_0⟩ := Kd.at_string (Kd.R_reads' HO_3.out).2.2 (ji15) p155 q155; obtain rfl : ad153 = ad155 := (by injection e155); replace p155 := eq_true p155; replace q155 := eq_true q155; have p156 : 0 ≤ (x4_2 : Int) := of_decide_eq_true (by first | (with_reducible assumption) | assumption); have q156 : x4_2 < (t150.length : Int) := of_decide_eq_true (by first | (with_reducible assumption) | assumption); obtain ⟨ad156, e156, hx156_0⟩ := Kd.at_string (Kd.R_reads' HO_3.out).2.2 x4_2 p156 q156; obtain rfl : ad153 = ad156 := (by injection e156); replace p156 := eq_true p156; replace q156 := eq_true q156))
                          repeat (go_quiet (first | (go_at_call 18; (with_reducible refine (ciceroneref02_Name.calls k2 (rdOf ByteArray.empty t150 x4_2) true _ A12.out).mono ?_); rintro e w' ⟨rfl, ⟨nd, rfl⟩⟩; (try first | exact ⟨rfl, _, World.drewN_drewN _ _ _⟩ | exact ⟨rfl, _, Eq.trans (World.drewN_drewN _ _ _) (congrArg (World.drewN _) (Nat.add_assoc _ _ _))⟩); have p155 : 0 ≤ ((ji15) : Int) := of_decide_eq_true (by first | (with_reducible assumption) | assumption); have q155 : (ji15) < (t150.length : Int) := of_decide_eq_true (by first | (with_reducible assumption) | assumption); obtain ⟨ad155, e155, hx155_0⟩ := Kd.at_string (Kd.R_reads' HO_3.out).2.2 (ji15) p155 q155; obtain rfl : ad153 = ad155 := (by injection e155); replace p155 := eq_true p155; replace q155 := eq_true q155; have p156 : 0 ≤ (x4_2 : Int) := of_decide_eq_true (by first | (with_reducible assumption) | assumption); have q156 : x4_2 < (t150.length : Int) := of_decide_eq_true (by first | (with_reducible assumption) | assumption); obtain ⟨ad156, e156, hx156_0⟩ := Kd.at_string (Kd.R_reads' HO_3.out).2.2 x4_2 p156 q156; obtain rfl : ad153 = ad156 := (by injection e156); replace p156 := eq_true p156; replace q156 := eq_true q156)); try go_wp2_with (first | (go_at_call 18; (with_reducible refine (ciceroneref02_Name.calls k2 (rdOf ByteArray.empty t150 x4_2) true _ A12.out).mono ?_); rintro e w' ⟨rfl, ⟨nd, rfl⟩⟩; (try first | exact ⟨rfl, _, World.drewN_drewN _ _ _⟩ | exact ⟨rfl, _, Eq.trans (World.drewN_drewN _ _ _) (congrArg (World.drewN _) (Nat.add_assoc _ _ _))⟩); have p155 : 0 ≤ ((ji15) : Int) := of_decide_eq_true (by first | (with_reducible assumption) | assumption); have q155 : (ji15) < (t150.length : Int) := of_decide_eq_true (by first | (with_reducible assumption) | assumption); obtain ⟨ad155, e155, hx155_0⟩ := Kd.at_string (Kd.R_reads' HO_3.out).2.2 (ji15) p155 q155; obtain rfl : ad153 = ad155 := (by injection e155); replace p155 := eq_true p155; replace q155 := eq_true q155; have p156 : 0 ≤ (x4_2 : Int) := of_decide_eq_true (by first | (with_reducible assumption) | assumption); have q156 : x4_2 < (t150.length : Int) := of_decide_eq_true (by first | (with_reducible assumption) | assumption); obtain ⟨ad156, e156, hx156_0⟩ := Kd.at_string (Kd.R_reads' HO_3.out).2.2 x4_2 p156 q156; obtain rfl : ad153 = ad156 := (by injection e156); replace p156 := eq_true p156; replace q156 := eq_true q156)))
                          go_ret
                          exact ⟨by first | rfl | (simp [errW_none, errW_some] <;> rfl) | (simp only [← hji15]; first | rfl | (simp [errW_none, errW_some] <;> rfl)) | (simp [*, errW_none, errW_some] <;> rfl), by repeat (first | (with_reducible first | exact HB.out | apply below_alloc | apply pw_below_drewN | apply below_drew1) | exact HB.out)⟩
                      · rw [if_neg c17] at H
                        exact absurd H (by simp)
                    · rw [if_neg c16] at H
                      exact absurd H (by simp)
                  · rw [if_neg c14] at H
                    have c14b0 : decide (0 < x4_2) = false := decide_eq_false c14
                    clear c14
                    have H' := Aside0.mk H
                    clear H
                    obtain ⟨Ao21, co21, eo21⟩ := Kd.R_slice HO_3.out
                    subst eo21
                    have p153 : 0 ≤ (x4_2 : Int) := of_decide_eq_true (by first | (with_reducible assumption) | assumption)
                    have q153 : x4_2 < (t150.length : Int) := of_decide_eq_true (by first | (with_reducible assumption) | assumption)
                    obtain ⟨ad153, e153, hx153_0⟩ := Kd.at_string (Kd.R_reads' HO_3.out).2.2 x4_2 p153 q153
                    cases e153
                    replace p153 := eq_true p153
                    replace q153 := eq_true q153
                    go_wp2_with (first | (go_at_call 18; (with_reducible refine (ciceroneref02_Name.calls k2 (rdOf ByteArray.empty t150 x4_2) true _ A12.out).mono ?_); rintro e w' ⟨rfl, ⟨nd, rfl⟩⟩; (try first | exact ⟨rfl, _, World.drewN_drewN _ _ _⟩ | exact ⟨rfl, _, Eq.trans (World.drewN_drewN _ _ _) (congrArg (World.drewN _) (Nat.add_assoc _ _ _))⟩)))
                    repeat (go_quiet (first | (go_at_call 18; (with_reducible refine (ciceroneref02_Name.calls k2 (rdOf ByteArray.empty t150 x4_2) true _ A12.out).mono ?_); rintro e w' ⟨rfl, ⟨nd, rfl⟩⟩; (try first | exact ⟨rfl, _, World.drewN_drewN _ _ _⟩ | exact ⟨rfl, _, Eq.trans (World.drewN_drewN _ _ _) (congrArg (World.drewN _) (Nat.add_assoc _ _ _))⟩))); try go_wp2_with (first | (go_at_call 18; (with_reducible refine (ciceroneref02_Name.calls k2 (rdOf ByteArray.empty t150 x4_2) true _ A12.out).mono ?_); rintro e w' ⟨rfl, ⟨nd, rfl⟩⟩; (try first | exact ⟨rfl, _, World.drewN_drewN _ _ _⟩ | exact ⟨rfl, _, Eq.trans (World.drewN_drewN _ _ _) (congrArg (World.drewN _) (Nat.add_assoc _ _ _))⟩))))
                    go_roundg k2
                    case measure => have := HJ1.out; have := HK2.out; omega
                    case rel => exact ⟨(wrap64 (x4_2 + 1)), (by first | rfl | (simp; done) | (simp [*]; done)), H', ⟨by have := HJ1.out; have := HK2.out; omega⟩, ⟨by (with_reducible repeat (first | apply Kd.R_alloc | apply Kd.R_drewN | apply Kd.R_drew)); exact HO_3.out⟩, ⟨by repeat (first | (with_reducible first | exact HB.out | apply below_alloc | apply pw_below_drewN | apply below_drew1) | exact HB.out)⟩⟩
                · replace c13 := Bool.eq_false_iff.mpr c13
                  subst c13
                  have H1 : (some false) = some r := by rw [if_neg (show ¬ (false = true) by decide)] at H; exact H
                  clear H
                  have H := H1
                  clear H1
                  obtain rfl := Option.some.inj H
                  obtain ⟨Ao22, co22, eo22⟩ := Kd.R_slice HO_3.out
                  subst eo22
                  have p153 : 0 ≤ (x4_2 : Int) := of_decide_eq_true (by first | (with_reducible assumption) | assumption)
                  have q153 : x4_2 < (t150.length : Int) := of_decide_eq_true (by first | (with_reducible assumption) | assumption)
                  obtain ⟨ad153, e153, hx153_0⟩ := Kd.at_string (Kd.R_reads' HO_3.out).2.2 x4_2 p153 q153
                  cases e153
                  replace p153 := eq_true p153
                  replace q153 := eq_true q153
                  go_wp2_with (first | (go_at_call 18; (with_reducible refine (ciceroneref02_Name.calls k2 (rdOf ByteArray.empty t150 x4_2) false _ A12.out).mono ?_); rintro e w' ⟨rfl, ⟨nd, rfl⟩⟩; (try first | exact ⟨rfl, _, World.drewN_drewN _ _ _⟩ | exact ⟨rfl, _, Eq.trans (World.drewN_drewN _ _ _) (congrArg (World.drewN _) (Nat.add_assoc _ _ _))⟩)))
                  repeat (go_quiet (first | (go_at_call 18; (with_reducible refine (ciceroneref02_Name.calls k2 (rdOf ByteArray.empty t150 x4_2) false _ A12.out).mono ?_); rintro e w' ⟨rfl, ⟨nd, rfl⟩⟩; (try first | exact ⟨rfl, _, World.drewN_drewN _ _ _⟩ | exact ⟨rfl, _, Eq.trans (World.drewN_drewN _ _ _) (congrArg (World.drewN _) (Nat.add_assoc _ _ _))⟩))); try go_wp2_with (first | (go_at_call 18; (with_reducible refine (ciceroneref02_Name.calls k2 (rdOf ByteArray.empty t150 x4_2) false _ A12.out).mono ?_); rintro e w' ⟨rfl, ⟨nd, rfl⟩⟩; (try first | exact ⟨rfl, _, World.drewN_drewN _ _ _⟩ | exact ⟨rfl, _, Eq.trans (World.drewN_drewN _ _ _) (congrArg (World.drewN _) (Nat.add_assoc _ _ _))⟩))))
                  go_ret
                  exact ⟨by first | rfl | (simp [errW_none, errW_some] <;> rfl) | (simp [*, errW_none, errW_some] <;> rfl), by repeat (first | (with_reducible first | exact HB.out | apply below_alloc | apply pw_below_drewN | apply below_drew1) | exact HB.out)⟩
              · rw [if_neg c11] at H
                exact absurd H (by simp)
            · rw [if_neg c10] at H
              have c10b0 : decide (x4_2 < (t150.length : Int)) = false := decide_eq_false c10
              clear c10
              obtain rfl := Option.some.inj H
              obtain ⟨Ao23, co23, eo23⟩ := Kd.R_slice HO_3.out
              subst eo23
              go_wp2
              repeat (go_quiet (fail); try go_wp2)
              go_ret
              exact ⟨by first | rfl | (simp [errW_none, errW_some] <;> rfl) | (simp [*, errW_none, errW_some] <;> rfl), by repeat (first | (with_reducible first | exact HB.out | apply below_alloc | apply pw_below_drewN | apply below_drew1) | exact HB.out)⟩


/-! ### event_Worth: function 20 -/
def event_Worth.f (a0_0 : ByteArray) (a0_1 : Int) (a0_2 : Int) (a0_3 : Int) (a0_4 : ByteArray) (a0_5 : ByteArray) (a0_6 : Int) (a0_7 : ByteArray) : Option (Int) := if a0_3 = 1 then (some 1) else (if a0_3 = 2 then (some 3) else (if a0_3 = 3 then (some 5) else (if a0_3 = 4 then (some a0_6) else (some 0))))
set_option maxHeartbeats 8000000 in
set_option maxRecDepth 100000 in
theorem event_Worth.calls (a0_0 : ByteArray) (a0_1 : Int) (a0_2 : Int) (a0_3 : Int) (a0_4 : ByteArray) (a0_5 : ByteArray) (a0_6 : Int) (a0_7 : ByteArray) (r : Int) (w : World) (h : event_Worth.f a0_0 a0_1 a0_2 a0_3 a0_4 a0_5 a0_6 a0_7 = some r) :
    Calls Tryd.prog 20 #[.agg #[.string a0_0, .int .i64 a0_1, .int .i64 a0_2, .int .i64 a0_3, .string a0_4, .string a0_5, .int .i64 a0_6, .string a0_7]] w fun e w' => e = .returned (.int .i64 r) ∧ Below w.heap.size w w' := by
  have hu24 := Tryd.underlying24
  have HB := Aside0.mk (Below.refl w.heap.size w)
  have H : (if a0_3 = 1 then (some 1) else (if a0_3 = 2 then (some 3) else (if a0_3 = 3 then (some 5) else (if a0_3 = 4 then (some a0_6) else (some 0))))) = some r := h
  clear h
  by_cases c2 : a0_3 = 1
  · rw [if_pos c2] at H
    have c2b0 : (a0_3 == 1) = true := beq_iff_eq.mpr c2
    have c2b1 : (a0_3 != 1) = false := bne_eq_false_iff_eq.mpr c2
    clear c2
    obtain rfl := Option.some.inj H
    go_enter Tryd.func20, Tryd.ntmps20
    go_wp2_with (first | ((with_reducible refine gate_dst (N := 1) rfl ?_); refine box_event ?hg (N := 1) ?hd (cs := #[.string a0_0, .int .i64 a0_1, .int .i64 a0_2, .int .i64 a0_3, .string a0_4, .string a0_5, .int .i64 a0_6, .string a0_7]) (t := 24) ?hr ?_; (case hd => rfl); (case hg => rfl); (case hr => first | (go_simp; done) | (go_simp; rfl)); intro gb175 hg w3 hbox hb; have n0_ := Aside0.mk (below_step (by repeat (first | (with_reducible first | exact HB.out | apply below_alloc | apply pw_below_drewN | apply below_drew1) | exact HB.out)) hb); have n1_ := Aside0.mk (hbox); have n2_ := Aside0.mk ((by rw [hg]; exact (below_size (by repeat (first | (with_reducible first | exact HB.out | apply below_alloc | apply pw_below_drewN | apply below_drew1) | exact HB.out))) : w.heap.size ≤ gb175)); have n3_ := Aside0.mk ((by rw [hg]; exact (below_size (by repeat (first | (with_reducible first | exact HB.out | apply below_alloc | apply pw_below_drewN | apply below_drew1) | exact HB.out))) : w.heap.size ≤ gb175)); clear HB; have HB := n0_; have BK175 := n1_; have GW175 := n2_; have GE175 := n3_; clear n0_ n1_ n2_ n3_; clear hb hbox hg; have hcz4_0 : w3.cell? ⟨gb175, 0, none⟩ = some (.string a0_0) := (blk_cell BK175.out 0).trans rfl; have hcz4_1 : w3.cell? ⟨gb175, 1, none⟩ = some (.int .i64 a0_1) := (blk_cell BK175.out 1).trans rfl; have hcz4_2 : w3.cell? ⟨gb175, 2, none⟩ = some (.int .i64 a0_2) := (blk_cell BK175.out 2).trans rfl; have hcz4_3 : w3.cell? ⟨gb175, 3, none⟩ = some (.int .i64 a0_3) := (blk_cell BK175.out 3).trans rfl; have hcz4_4 : w3.cell? ⟨gb175, 4, none⟩ = some (.string a0_4) := (blk_cell BK175.out 4).trans rfl; have hcz4_5 : w3.cell? ⟨gb175, 5, none⟩ = some (.string a0_5) := (blk_cell BK175.out 5).trans rfl; have hcz4_6 : w3.cell? ⟨gb175, 6, none⟩ = some (.int .i64 a0_6) := (blk_cell BK175.out 6).trans rfl; have hcz4_7 : w3.cell? ⟨gb175, 7, none⟩ = some (.string a0_7) := (blk_cell BK175.out 7).trans rfl; have hfz4_0 := blk_frozen BK175.out 0; have hfz4_1 := blk_frozen BK175.out 1; have hfz4_2 := blk_frozen BK175.out 2; have hfz4_3 := blk_frozen BK175.out 3; have hfz4_4 := blk_frozen BK175.out 4; have hfz4_5 := blk_frozen BK175.out 5; have hfz4_6 := blk_frozen BK175.out 6; have hfz4_7 := blk_frozen BK175.out 7))
    go_ret
    exact ⟨by first | rfl | (simp [errW_none, errW_some] <;> rfl) | (simp [*, errW_none, errW_some] <;> rfl), by repeat (first | (with_reducible first | exact HB.out | apply below_alloc | apply pw_below_drewN | apply below_drew1 | refine below_set ?_ GE175.out) | exact HB.out)⟩
  · rw [if_neg c2] at H
    have c2b0 : (a0_3 == 1) = false := beq_eq_false_iff_ne.mpr c2
    have c2b1 : (a0_3 != 1) = true := bne_iff_ne.mpr c2
    by_cases c5 : a0_3 = 2
    · rw [if_pos c5] at H
      have c5b0 : (a0_3 == 2) = true := beq_iff_eq.mpr c5
      have c5b1 : (a0_3 != 2) = false := bne_eq_false_iff_eq.mpr c5
      clear c5
      obtain rfl := Option.some.inj H
      go_enter Tryd.func20, Tryd.ntmps20
      go_wp2_with (first | ((with_reducible refine gate_dst (N := 1) rfl ?_); refine box_event ?hg (N := 1) ?hd (cs := #[.string a0_0, .int .i64 a0_1, .int .i64 a0_2, .int .i64 a0_3, .string a0_4, .string a0_5, .int .i64 a0_6, .string a0_7]) (t := 24) ?hr ?_; (case hd => rfl); (case hg => rfl); (case hr => first | (go_simp; done) | (go_simp; rfl)); intro gb175 hg w6 hbox hb; have n0_ := Aside0.mk (below_step (by repeat (first | (with_reducible first | exact HB.out | apply below_alloc | apply pw_below_drewN | apply below_drew1) | exact HB.out)) hb); have n1_ := Aside0.mk (hbox); have n2_ := Aside0.mk ((by rw [hg]; exact (below_size (by repeat (first | (with_reducible first | exact HB.out | apply below_alloc | apply pw_below_drewN | apply below_drew1) | exact HB.out))) : w.heap.size ≤ gb175)); have n3_ := Aside0.mk ((by rw [hg]; exact (below_size (by repeat (first | (with_reducible first | exact HB.out | apply below_alloc | apply pw_below_drewN | apply below_drew1) | exact HB.out))) : w.heap.size ≤ gb175)); clear HB; have HB := n0_; have BK175 := n1_; have GW175 := n2_; have GE175 := n3_; clear n0_ n1_ n2_ n3_; clear hb hbox hg; have hcz7_0 : w6.cell? ⟨gb175, 0, none⟩ = some (.string a0_0) := (blk_cell BK175.out 0).trans rfl; have hcz7_1 : w6.cell? ⟨gb175, 1, none⟩ = some (.int .i64 a0_1) := (blk_cell BK175.out 1).trans rfl; have hcz7_2 : w6.cell? ⟨gb175, 2, none⟩ = some (.int .i64 a0_2) := (blk_cell BK175.out 2).trans rfl; have hcz7_3 : w6.cell? ⟨gb175, 3, none⟩ = some (.int .i64 a0_3) := (blk_cell BK175.out 3).trans rfl; have hcz7_4 : w6.cell? ⟨gb175, 4, none⟩ = some (.string a0_4) := (blk_cell BK175.out 4).trans rfl; have hcz7_5 : w6.cell? ⟨gb175, 5, none⟩ = some (.string a0_5) := (blk_cell BK175.out 5).trans rfl; have hcz7_6 : w6.cell? ⟨gb175, 6, none⟩ = some (.int .i64 a0_6) := (blk_cell BK175.out 6).trans rfl; have hcz7_7 : w6.cell? ⟨gb175, 7, none⟩ = some (.string a0_7) := (blk_cell BK175.out 7).trans rfl; have hfz7_0 := blk_frozen BK175.out 0; have hfz7_1 := blk_frozen BK175.out 1; have hfz7_2 := blk_frozen BK175.out 2; have hfz7_3 := blk_frozen BK175.out 3; have hfz7_4 := blk_frozen BK175.out 4; have hfz7_5 := blk_frozen BK175.out 5; have hfz7_6 := blk_frozen BK175.out 6; have hfz7_7 := blk_frozen BK175.out 7))
      go_ret
      exact ⟨by first | rfl | (simp [errW_none, errW_some] <;> rfl) | (simp [*, errW_none, errW_some] <;> rfl), by repeat (first | (with_reducible first | exact HB.out | apply below_alloc | apply pw_below_drewN | apply below_drew1 | refine below_set ?_ GE175.out) | exact HB.out)⟩
    · rw [if_neg c5] at H
      have c5b0 : (a0_3 == 2) = false := beq_eq_false_iff_ne.mpr c5
      have c5b1 : (a0_3 != 2) = true := bne_iff_ne.mpr c5
      by_cases c8 : a0_3 = 3
      · rw [if_pos c8] at H
        have c8b0 : (a0_3 == 3) = true := beq_iff_eq.mpr c8
        have c8b1 : (a0_3 != 3) = false := bne_eq_false_iff_eq.mpr c8
        clear c8
        obtain rfl := Option.some.inj H
        go_enter Tryd.func20, Tryd.ntmps20
        go_wp2_with (first | ((with_reducible refine gate_dst (N := 1) rfl ?_); refine box_event ?hg (N := 1) ?hd (cs := #[.string a0_0, .int .i64 a0_1, .int .i64 a0_2, .int .i64 a0_3, .string a0_4, .string a0_5, .int .i64 a0_6, .string a0_7]) (t := 24) ?hr ?_; (case hd => rfl); (case hg => rfl); (case hr => first | (go_simp; done) | (go_simp; rfl)); intro gb175 hg w9 hbox hb; have n0_ := Aside0.mk (below_step (by repeat (first | (with_reducible first | exact HB.out | apply below_alloc | apply pw_below_drewN | apply below_drew1) | exact HB.out)) hb); have n1_ := Aside0.mk (hbox); have n2_ := Aside0.mk ((by rw [hg]; exact (below_size (by repeat (first | (with_reducible first | exact HB.out | apply below_alloc | apply pw_below_drewN | apply below_drew1) | exact HB.out))) : w.heap.size ≤ gb175)); have n3_ := Aside0.mk ((by rw [hg]; exact (below_size (by repeat (first | (with_reducible first | exact HB.out | apply below_alloc | apply pw_below_drewN | apply below_drew1) | exact HB.out))) : w.heap.size ≤ gb175)); clear HB; have HB := n0_; have BK175 := n1_; have GW175 := n2_; have GE175 := n3_; clear n0_ n1_ n2_ n3_; clear hb hbox hg; have hcz10_0 : w9.cell? ⟨gb175, 0, none⟩ = some (.string a0_0) := (blk_cell BK175.out 0).trans rfl; have hcz10_1 : w9.cell? ⟨gb175, 1, none⟩ = some (.int .i64 a0_1) := (blk_cell BK175.out 1).trans rfl; have hcz10_2 : w9.cell? ⟨gb175, 2, none⟩ = some (.int .i64 a0_2) := (blk_cell BK175.out 2).trans rfl; have hcz10_3 : w9.cell? ⟨gb175, 3, none⟩ = some (.int .i64 a0_3) := (blk_cell BK175.out 3).trans rfl; have hcz10_4 : w9.cell? ⟨gb175, 4, none⟩ = some (.string a0_4) := (blk_cell BK175.out 4).trans rfl; have hcz10_5 : w9.cell? ⟨gb175, 5, none⟩ = some (.string a0_5) := (blk_cell BK175.out 5).trans rfl; have hcz10_6 : w9.cell? ⟨gb175, 6, none⟩ = some (.int .i64 a0_6) := (blk_cell BK175.out 6).trans rfl; have hcz10_7 : w9.cell? ⟨gb175, 7, none⟩ = some (.string a0_7) := (blk_cell BK175.out 7).trans rfl; have hfz10_0 := blk_frozen BK175.out 0; have hfz10_1 := blk_frozen BK175.out 1; have hfz10_2 := blk_frozen BK175.out 2; have hfz10_3 := blk_frozen BK175.out 3; have hfz10_4 := blk_frozen BK175.out 4; have hfz10_5 := blk_frozen BK175.out 5; have hfz10_6 := blk_frozen BK175.out 6; have hfz10_7 := blk_frozen BK175.out 7))
        go_ret
        exact ⟨by first | rfl | (simp [errW_none, errW_some] <;> rfl) | (simp [*, errW_none, errW_some] <;> rfl), by repeat (first | (with_reducible first | exact HB.out | apply below_alloc | apply pw_below_drewN | apply below_drew1 | refine below_set ?_ GE175.out) | exact HB.out)⟩
      · rw [if_neg c8] at H
        have c8b0 : (a0_3 == 3) = false := beq_eq_false_iff_ne.mpr c8
        have c8b1 : (a0_3 != 3) = true := bne_iff_ne.mpr c8
        by_cases c11 : a0_3 = 4
        · rw [if_pos c11] at H
          have c11b0 : (a0_3 == 4) = true := beq_iff_eq.mpr c11
          have c11b1 : (a0_3 != 4) = false := bne_eq_false_iff_eq.mpr c11
          clear c11
          obtain rfl := Option.some.inj H
          go_enter Tryd.func20, Tryd.ntmps20
          go_wp2_with (first | ((with_reducible refine gate_dst (N := 1) rfl ?_); refine box_event ?hg (N := 1) ?hd (cs := #[.string a0_0, .int .i64 a0_1, .int .i64 a0_2, .int .i64 a0_3, .string a0_4, .string a0_5, .int .i64 a0_6, .string a0_7]) (t := 24) ?hr ?_; (case hd => rfl); (case hg => rfl); (case hr => first | (go_simp; done) | (go_simp; rfl)); intro gb175 hg w12 hbox hb; have n0_ := Aside0.mk (below_step (by repeat (first | (with_reducible first | exact HB.out | apply below_alloc | apply pw_below_drewN | apply below_drew1) | exact HB.out)) hb); have n1_ := Aside0.mk (hbox); have n2_ := Aside0.mk ((by rw [hg]; exact (below_size (by repeat (first | (with_reducible first | exact HB.out | apply below_alloc | apply pw_below_drewN | apply below_drew1) | exact HB.out))) : w.heap.size ≤ gb175)); have n3_ := Aside0.mk ((by rw [hg]; exact (below_size (by repeat (first | (with_reducible first | exact HB.out | apply below_alloc | apply pw_below_drewN | apply below_drew1) | exact HB.out))) : w.heap.size ≤ gb175)); clear HB; have HB := n0_; have BK175 := n1_; have GW175 := n2_; have GE175 := n3_; clear n0_ n1_ n2_ n3_; clear hb hbox hg; have hcz13_0 : w12.cell? ⟨gb175, 0, none⟩ = some (.string a0_0) := (blk_cell BK175.out 0).trans rfl; have hcz13_1 : w12.cell? ⟨gb175, 1, none⟩ = some (.int .i64 a0_1) := (blk_cell BK175.out 1).trans rfl; have hcz13_2 : w12.cell? ⟨gb175, 2, none⟩ = some (.int .i64 a0_2) := (blk_cell BK175.out 2).trans rfl; have hcz13_3 : w12.cell? ⟨gb175, 3, none⟩ = some (.int .i64 a0_3) := (blk_cell BK175.out 3).trans rfl; have hcz13_4 : w12.cell? ⟨gb175, 4, none⟩ = some (.string a0_4) := (blk_cell BK175.out 4).trans rfl; have hcz13_5 : w12.cell? ⟨gb175, 5, none⟩ = some (.string a0_5) := (blk_cell BK175.out 5).trans rfl; have hcz13_6 : w12.cell? ⟨gb175, 6, none⟩ = some (.int .i64 a0_6) := (blk_cell BK175.out 6).trans rfl; have hcz13_7 : w12.cell? ⟨gb175, 7, none⟩ = some (.string a0_7) := (blk_cell BK175.out 7).trans rfl; have hfz13_0 := blk_frozen BK175.out 0; have hfz13_1 := blk_frozen BK175.out 1; have hfz13_2 := blk_frozen BK175.out 2; have hfz13_3 := blk_frozen BK175.out 3; have hfz13_4 := blk_frozen BK175.out 4; have hfz13_5 := blk_frozen BK175.out 5; have hfz13_6 := blk_frozen BK175.out 6; have hfz13_7 := blk_frozen BK175.out 7))
          go_ret
          exact ⟨by first | rfl | (simp [errW_none, errW_some] <;> rfl) | (simp [*, errW_none, errW_some] <;> rfl), by repeat (first | (with_reducible first | exact HB.out | apply below_alloc | apply pw_below_drewN | apply below_drew1 | refine below_set ?_ GE175.out) | exact HB.out)⟩
        · rw [if_neg c11] at H
          have c11b0 : (a0_3 == 4) = false := beq_eq_false_iff_ne.mpr c11
          have c11b1 : (a0_3 != 4) = true := bne_iff_ne.mpr c11
          obtain rfl := Option.some.inj H
          go_enter Tryd.func20, Tryd.ntmps20
          go_wp2_with (first | ((with_reducible refine gate_dst (N := 1) rfl ?_); refine box_event ?hg (N := 1) ?hd (cs := #[.string a0_0, .int .i64 a0_1, .int .i64 a0_2, .int .i64 a0_3, .string a0_4, .string a0_5, .int .i64 a0_6, .string a0_7]) (t := 24) ?hr ?_; (case hd => rfl); (case hg => rfl); (case hr => first | (go_simp; done) | (go_simp; rfl)); intro gb175 hg w14 hbox hb; have n0_ := Aside0.mk (below_step (by repeat (first | (with_reducible first | exact HB.out | apply below_alloc | apply pw_below_drewN | apply below_drew1) | exact HB.out)) hb); have n1_ := Aside0.mk (hbox); have n2_ := Aside0.mk ((by rw [hg]; exact (below_size (by repeat (first | (with_reducible first | exact HB.out | apply below_alloc | apply pw_below_drewN | apply below_drew1) | exact HB.out))) : w.heap.size ≤ gb175)); have n3_ := Aside0.mk ((by rw [hg]; exact (below_size (by repeat (first | (with_reducible first | exact HB.out | apply below_alloc | apply pw_below_drewN | apply below_drew1) | exact HB.out))) : w.heap.size ≤ gb175)); clear HB; have HB := n0_; have BK175 := n1_; have GW175 := n2_; have GE175 := n3_; clear n0_ n1_ n2_ n3_; clear hb hbox hg; have hcz15_0 : w14.cell? ⟨gb175, 0, none⟩ = some (.string a0_0) := (blk_cell BK175.out 0).trans rfl; have hcz15_1 : w14.cell? ⟨gb175, 1, none⟩ = some (.int .i64 a0_1) := (blk_cell BK175.out 1).trans rfl; have hcz15_2 : w14.cell? ⟨gb175, 2, none⟩ = some (.int .i64 a0_2) := (blk_cell BK175.out 2).trans rfl; have hcz15_3 : w14.cell? ⟨gb175, 3, none⟩ = some (.int .i64 a0_3) := (blk_cell BK175.out 3).trans rfl; have hcz15_4 : w14.cell? ⟨gb175, 4, none⟩ = some (.string a0_4) := (blk_cell BK175.out 4).trans rfl; have hcz15_5 : w14.cell? ⟨gb175, 5, none⟩ = some (.string a0_5) := (blk_cell BK175.out 5).trans rfl; have hcz15_6 : w14.cell? ⟨gb175, 6, none⟩ = some (.int .i64 a0_6) := (blk_cell BK175.out 6).trans rfl; have hcz15_7 : w14.cell? ⟨gb175, 7, none⟩ = some (.string a0_7) := (blk_cell BK175.out 7).trans rfl; have hfz15_0 := blk_frozen BK175.out 0; have hfz15_1 := blk_frozen BK175.out 1; have hfz15_2 := blk_frozen BK175.out 2; have hfz15_3 := blk_frozen BK175.out 3; have hfz15_4 := blk_frozen BK175.out 4; have hfz15_5 := blk_frozen BK175.out 5; have hfz15_6 := blk_frozen BK175.out 6; have hfz15_7 := blk_frozen BK175.out 7))
          go_ret
          exact ⟨by first | rfl | (simp [errW_none, errW_some] <;> rfl) | (simp [*, errW_none, errW_some] <;> rfl), by repeat (first | (with_reducible first | exact HB.out | apply below_alloc | apply pw_below_drewN | apply below_drew1 | refine below_set ?_ GE175.out) | exact HB.out)⟩


/-! ### ciceroneref02_Worth: function 21 -/
def ciceroneref02_Worth.f (a0_0 : ByteArray) (a0_1 : Int) (a0_2 : Int) (a0_3 : Int) (a0_4 : ByteArray) (a0_5 : ByteArray) (a0_6 : Int) (a0_7 : ByteArray) : Option (Int) := if a0_3 = 1 then (some 1) else (if a0_3 = 2 then (some 3) else (if a0_3 = 3 then (some 5) else (if a0_3 = 4 then (some a0_6) else (some 0))))
set_option maxHeartbeats 8000000 in
set_option maxRecDepth 100000 in
theorem ciceroneref02_Worth.calls (a0_0 : ByteArray) (a0_1 : Int) (a0_2 : Int) (a0_3 : Int) (a0_4 : ByteArray) (a0_5 : ByteArray) (a0_6 : Int) (a0_7 : ByteArray) (r : Int) (w : World) (h : ciceroneref02_Worth.f a0_0 a0_1 a0_2 a0_3 a0_4 a0_5 a0_6 a0_7 = some r) :
    Calls Tryd.prog 21 #[.agg #[.string a0_0, .int .i64 a0_1, .int .i64 a0_2, .int .i64 a0_3, .string a0_4, .string a0_5, .int .i64 a0_6, .string a0_7]] w fun e w' => e = .returned (.int .i64 r) ∧ Below w.heap.size w w' := by
  have hu24 := Tryd.underlying24
  have HB := Aside0.mk (Below.refl w.heap.size w)
  have H : (if a0_3 = 1 then (some 1) else (if a0_3 = 2 then (some 3) else (if a0_3 = 3 then (some 5) else (if a0_3 = 4 then (some a0_6) else (some 0))))) = some r := h
  clear h
  by_cases c2 : a0_3 = 1
  · rw [if_pos c2] at H
    have c2b0 : (a0_3 == 1) = true := beq_iff_eq.mpr c2
    have c2b1 : (a0_3 != 1) = false := bne_eq_false_iff_eq.mpr c2
    clear c2
    obtain rfl := Option.some.inj H
    go_enter Tryd.func21, Tryd.ntmps21
    go_wp2_with (first | ((with_reducible refine gate_dst (N := 1) rfl ?_); refine box_event ?hg (N := 1) ?hd (cs := #[.string a0_0, .int .i64 a0_1, .int .i64 a0_2, .int .i64 a0_3, .string a0_4, .string a0_5, .int .i64 a0_6, .string a0_7]) (t := 24) ?hr ?_; (case hd => rfl); (case hg => rfl); (case hr => first | (go_simp; done) | (go_simp; rfl)); intro gb176 hg w3 hbox hb; have n0_ := Aside0.mk (below_step (by repeat (first | (with_reducible first | exact HB.out | apply below_alloc | apply pw_below_drewN | apply below_drew1) | exact HB.out)) hb); have n1_ := Aside0.mk (hbox); have n2_ := Aside0.mk ((by rw [hg]; exact (below_size (by repeat (first | (with_reducible first | exact HB.out | apply below_alloc | apply pw_below_drewN | apply below_drew1) | exact HB.out))) : w.heap.size ≤ gb176)); have n3_ := Aside0.mk ((by rw [hg]; exact (below_size (by repeat (first | (with_reducible first | exact HB.out | apply below_alloc | apply pw_below_drewN | apply below_drew1) | exact HB.out))) : w.heap.size ≤ gb176)); clear HB; have HB := n0_; have BK176 := n1_; have GW176 := n2_; have GE176 := n3_; clear n0_ n1_ n2_ n3_; clear hb hbox hg; have hcz4_0 : w3.cell? ⟨gb176, 0, none⟩ = some (.string a0_0) := (blk_cell BK176.out 0).trans rfl; have hcz4_1 : w3.cell? ⟨gb176, 1, none⟩ = some (.int .i64 a0_1) := (blk_cell BK176.out 1).trans rfl; have hcz4_2 : w3.cell? ⟨gb176, 2, none⟩ = some (.int .i64 a0_2) := (blk_cell BK176.out 2).trans rfl; have hcz4_3 : w3.cell? ⟨gb176, 3, none⟩ = some (.int .i64 a0_3) := (blk_cell BK176.out 3).trans rfl; have hcz4_4 : w3.cell? ⟨gb176, 4, none⟩ = some (.string a0_4) := (blk_cell BK176.out 4).trans rfl; have hcz4_5 : w3.cell? ⟨gb176, 5, none⟩ = some (.string a0_5) := (blk_cell BK176.out 5).trans rfl; have hcz4_6 : w3.cell? ⟨gb176, 6, none⟩ = some (.int .i64 a0_6) := (blk_cell BK176.out 6).trans rfl; have hcz4_7 : w3.cell? ⟨gb176, 7, none⟩ = some (.string a0_7) := (blk_cell BK176.out 7).trans rfl; have hfz4_0 := blk_frozen BK176.out 0; have hfz4_1 := blk_frozen BK176.out 1; have hfz4_2 := blk_frozen BK176.out 2; have hfz4_3 := blk_frozen BK176.out 3; have hfz4_4 := blk_frozen BK176.out 4; have hfz4_5 := blk_frozen BK176.out 5; have hfz4_6 := blk_frozen BK176.out 6; have hfz4_7 := blk_frozen BK176.out 7))
    go_ret
    exact ⟨by first | rfl | (simp [errW_none, errW_some] <;> rfl) | (simp [*, errW_none, errW_some] <;> rfl), by repeat (first | (with_reducible first | exact HB.out | apply below_alloc | apply pw_below_drewN | apply below_drew1 | refine below_set ?_ GE176.out) | exact HB.out)⟩
  · rw [if_neg c2] at H
    have c2b0 : (a0_3 == 1) = false := beq_eq_false_iff_ne.mpr c2
    have c2b1 : (a0_3 != 1) = true := bne_iff_ne.mpr c2
    by_cases c5 : a0_3 = 2
    · rw [if_pos c5] at H
      have c5b0 : (a0_3 == 2) = true := beq_iff_eq.mpr c5
      have c5b1 : (a0_3 != 2) = false := bne_eq_false_iff_eq.mpr c5
      clear c5
      obtain rfl := Option.some.inj H
      go_enter Tryd.func21, Tryd.ntmps21
      go_wp2_with (first | ((with_reducible refine gate_dst (N := 1) rfl ?_); refine box_event ?hg (N := 1) ?hd (cs := #[.string a0_0, .int .i64 a0_1, .int .i64 a0_2, .int .i64 a0_3, .string a0_4, .string a0_5, .int .i64 a0_6, .string a0_7]) (t := 24) ?hr ?_; (case hd => rfl); (case hg => rfl); (case hr => first | (go_simp; done) | (go_simp; rfl)); intro gb176 hg w6 hbox hb; have n0_ := Aside0.mk (below_step (by repeat (first | (with_reducible first | exact HB.out | apply below_alloc | apply pw_below_drewN | apply below_drew1) | exact HB.out)) hb); have n1_ := Aside0.mk (hbox); have n2_ := Aside0.mk ((by rw [hg]; exact (below_size (by repeat (first | (with_reducible first | exact HB.out | apply below_alloc | apply pw_below_drewN | apply below_drew1) | exact HB.out))) : w.heap.size ≤ gb176)); have n3_ := Aside0.mk ((by rw [hg]; exact (below_size (by repeat (first | (with_reducible first | exact HB.out | apply below_alloc | apply pw_below_drewN | apply below_drew1) | exact HB.out))) : w.heap.size ≤ gb176)); clear HB; have HB := n0_; have BK176 := n1_; have GW176 := n2_; have GE176 := n3_; clear n0_ n1_ n2_ n3_; clear hb hbox hg; have hcz7_0 : w6.cell? ⟨gb176, 0, none⟩ = some (.string a0_0) := (blk_cell BK176.out 0).trans rfl; have hcz7_1 : w6.cell? ⟨gb176, 1, none⟩ = some (.int .i64 a0_1) := (blk_cell BK176.out 1).trans rfl; have hcz7_2 : w6.cell? ⟨gb176, 2, none⟩ = some (.int .i64 a0_2) := (blk_cell BK176.out 2).trans rfl; have hcz7_3 : w6.cell? ⟨gb176, 3, none⟩ = some (.int .i64 a0_3) := (blk_cell BK176.out 3).trans rfl; have hcz7_4 : w6.cell? ⟨gb176, 4, none⟩ = some (.string a0_4) := (blk_cell BK176.out 4).trans rfl; have hcz7_5 : w6.cell? ⟨gb176, 5, none⟩ = some (.string a0_5) := (blk_cell BK176.out 5).trans rfl; have hcz7_6 : w6.cell? ⟨gb176, 6, none⟩ = some (.int .i64 a0_6) := (blk_cell BK176.out 6).trans rfl; have hcz7_7 : w6.cell? ⟨gb176, 7, none⟩ = some (.string a0_7) := (blk_cell BK176.out 7).trans rfl; have hfz7_0 := blk_frozen BK176.out 0; have hfz7_1 := blk_frozen BK176.out 1; have hfz7_2 := blk_frozen BK176.out 2; have hfz7_3 := blk_frozen BK176.out 3; have hfz7_4 := blk_frozen BK176.out 4; have hfz7_5 := blk_frozen BK176.out 5; have hfz7_6 := blk_frozen BK176.out 6; have hfz7_7 := blk_frozen BK176.out 7))
      go_ret
      exact ⟨by first | rfl | (simp [errW_none, errW_some] <;> rfl) | (simp [*, errW_none, errW_some] <;> rfl), by repeat (first | (with_reducible first | exact HB.out | apply below_alloc | apply pw_below_drewN | apply below_drew1 | refine below_set ?_ GE176.out) | exact HB.out)⟩
    · rw [if_neg c5] at H
      have c5b0 : (a0_3 == 2) = false := beq_eq_false_iff_ne.mpr c5
      have c5b1 : (a0_3 != 2) = true := bne_iff_ne.mpr c5
      by_cases c8 : a0_3 = 3
      · rw [if_pos c8] at H
        have c8b0 : (a0_3 == 3) = true := beq_iff_eq.mpr c8
        have c8b1 : (a0_3 != 3) = false := bne_eq_false_iff_eq.mpr c8
        clear c8
        obtain rfl := Option.some.inj H
        go_enter Tryd.func21, Tryd.ntmps21
        go_wp2_with (first | ((with_reducible refine gate_dst (N := 1) rfl ?_); refine box_event ?hg (N := 1) ?hd (cs := #[.string a0_0, .int .i64 a0_1, .int .i64 a0_2, .int .i64 a0_3, .string a0_4, .string a0_5, .int .i64 a0_6, .string a0_7]) (t := 24) ?hr ?_; (case hd => rfl); (case hg => rfl); (case hr => first | (go_simp; done) | (go_simp; rfl)); intro gb176 hg w9 hbox hb; have n0_ := Aside0.mk (below_step (by repeat (first | (with_reducible first | exact HB.out | apply below_alloc | apply pw_below_drewN | apply below_drew1) | exact HB.out)) hb); have n1_ := Aside0.mk (hbox); have n2_ := Aside0.mk ((by rw [hg]; exact (below_size (by repeat (first | (with_reducible first | exact HB.out | apply below_alloc | apply pw_below_drewN | apply below_drew1) | exact HB.out))) : w.heap.size ≤ gb176)); have n3_ := Aside0.mk ((by rw [hg]; exact (below_size (by repeat (first | (with_reducible first | exact HB.out | apply below_alloc | apply pw_below_drewN | apply below_drew1) | exact HB.out))) : w.heap.size ≤ gb176)); clear HB; have HB := n0_; have BK176 := n1_; have GW176 := n2_; have GE176 := n3_; clear n0_ n1_ n2_ n3_; clear hb hbox hg; have hcz10_0 : w9.cell? ⟨gb176, 0, none⟩ = some (.string a0_0) := (blk_cell BK176.out 0).trans rfl; have hcz10_1 : w9.cell? ⟨gb176, 1, none⟩ = some (.int .i64 a0_1) := (blk_cell BK176.out 1).trans rfl; have hcz10_2 : w9.cell? ⟨gb176, 2, none⟩ = some (.int .i64 a0_2) := (blk_cell BK176.out 2).trans rfl; have hcz10_3 : w9.cell? ⟨gb176, 3, none⟩ = some (.int .i64 a0_3) := (blk_cell BK176.out 3).trans rfl; have hcz10_4 : w9.cell? ⟨gb176, 4, none⟩ = some (.string a0_4) := (blk_cell BK176.out 4).trans rfl; have hcz10_5 : w9.cell? ⟨gb176, 5, none⟩ = some (.string a0_5) := (blk_cell BK176.out 5).trans rfl; have hcz10_6 : w9.cell? ⟨gb176, 6, none⟩ = some (.int .i64 a0_6) := (blk_cell BK176.out 6).trans rfl; have hcz10_7 : w9.cell? ⟨gb176, 7, none⟩ = some (.string a0_7) := (blk_cell BK176.out 7).trans rfl; have hfz10_0 := blk_frozen BK176.out 0; have hfz10_1 := blk_frozen BK176.out 1; have hfz10_2 := blk_frozen BK176.out 2; have hfz10_3 := blk_frozen BK176.out 3; have hfz10_4 := blk_frozen BK176.out 4; have hfz10_5 := blk_frozen BK176.out 5; have hfz10_6 := blk_frozen BK176.out 6; have hfz10_7 := blk_frozen BK176.out 7))
        go_ret
        exact ⟨by first | rfl | (simp [errW_none, errW_some] <;> rfl) | (simp [*, errW_none, errW_some] <;> rfl), by repeat (first | (with_reducible first | exact HB.out | apply below_alloc | apply pw_below_drewN | apply below_drew1 | refine below_set ?_ GE176.out) | exact HB.out)⟩
      · rw [if_neg c8] at H
        have c8b0 : (a0_3 == 3) = false := beq_eq_false_iff_ne.mpr c8
        have c8b1 : (a0_3 != 3) = true := bne_iff_ne.mpr c8
        by_cases c11 : a0_3 = 4
        · rw [if_pos c11] at H
          have c11b0 : (a0_3 == 4) = true := beq_iff_eq.mpr c11
          have c11b1 : (a0_3 != 4) = false := bne_eq_false_iff_eq.mpr c11
          clear c11
          obtain rfl := Option.some.inj H
          go_enter Tryd.func21, Tryd.ntmps21
          go_wp2_with (first | ((with_reducible refine gate_dst (N := 1) rfl ?_); refine box_event ?hg (N := 1) ?hd (cs := #[.string a0_0, .int .i64 a0_1, .int .i64 a0_2, .int .i64 a0_3, .string a0_4, .string a0_5, .int .i64 a0_6, .string a0_7]) (t := 24) ?hr ?_; (case hd => rfl); (case hg => rfl); (case hr => first | (go_simp; done) | (go_simp; rfl)); intro gb176 hg w12 hbox hb; have n0_ := Aside0.mk (below_step (by repeat (first | (with_reducible first | exact HB.out | apply below_alloc | apply pw_below_drewN | apply below_drew1) | exact HB.out)) hb); have n1_ := Aside0.mk (hbox); have n2_ := Aside0.mk ((by rw [hg]; exact (below_size (by repeat (first | (with_reducible first | exact HB.out | apply below_alloc | apply pw_below_drewN | apply below_drew1) | exact HB.out))) : w.heap.size ≤ gb176)); have n3_ := Aside0.mk ((by rw [hg]; exact (below_size (by repeat (first | (with_reducible first | exact HB.out | apply below_alloc | apply pw_below_drewN | apply below_drew1) | exact HB.out))) : w.heap.size ≤ gb176)); clear HB; have HB := n0_; have BK176 := n1_; have GW176 := n2_; have GE176 := n3_; clear n0_ n1_ n2_ n3_; clear hb hbox hg; have hcz13_0 : w12.cell? ⟨gb176, 0, none⟩ = some (.string a0_0) := (blk_cell BK176.out 0).trans rfl; have hcz13_1 : w12.cell? ⟨gb176, 1, none⟩ = some (.int .i64 a0_1) := (blk_cell BK176.out 1).trans rfl; have hcz13_2 : w12.cell? ⟨gb176, 2, none⟩ = some (.int .i64 a0_2) := (blk_cell BK176.out 2).trans rfl; have hcz13_3 : w12.cell? ⟨gb176, 3, none⟩ = some (.int .i64 a0_3) := (blk_cell BK176.out 3).trans rfl; have hcz13_4 : w12.cell? ⟨gb176, 4, none⟩ = some (.string a0_4) := (blk_cell BK176.out 4).trans rfl; have hcz13_5 : w12.cell? ⟨gb176, 5, none⟩ = some (.string a0_5) := (blk_cell BK176.out 5).trans rfl; have hcz13_6 : w12.cell? ⟨gb176, 6, none⟩ = some (.int .i64 a0_6) := (blk_cell BK176.out 6).trans rfl; have hcz13_7 : w12.cell? ⟨gb176, 7, none⟩ = some (.string a0_7) := (blk_cell BK176.out 7).trans rfl; have hfz13_0 := blk_frozen BK176.out 0; have hfz13_1 := blk_frozen BK176.out 1; have hfz13_2 := blk_frozen BK176.out 2; have hfz13_3 := blk_frozen BK176.out 3; have hfz13_4 := blk_frozen BK176.out 4; have hfz13_5 := blk_frozen BK176.out 5; have hfz13_6 := blk_frozen BK176.out 6; have hfz13_7 := blk_frozen BK176.out 7))
          go_ret
          exact ⟨by first | rfl | (simp [errW_none, errW_some] <;> rfl) | (simp [*, errW_none, errW_some] <;> rfl), by repeat (first | (with_reducible first | exact HB.out | apply below_alloc | apply pw_below_drewN | apply below_drew1 | refine below_set ?_ GE176.out) | exact HB.out)⟩
        · rw [if_neg c11] at H
          have c11b0 : (a0_3 == 4) = false := beq_eq_false_iff_ne.mpr c11
          have c11b1 : (a0_3 != 4) = true := bne_iff_ne.mpr c11
          obtain rfl := Option.some.inj H
          go_enter Tryd.func21, Tryd.ntmps21
          go_wp2_with (first | ((with_reducible refine gate_dst (N := 1) rfl ?_); refine box_event ?hg (N := 1) ?hd (cs := #[.string a0_0, .int .i64 a0_1, .int .i64 a0_2, .int .i64 a0_3, .string a0_4, .string a0_5, .int .i64 a0_6, .string a0_7]) (t := 24) ?hr ?_; (case hd => rfl); (case hg => rfl); (case hr => first | (go_simp; done) | (go_simp; rfl)); intro gb176 hg w14 hbox hb; have n0_ := Aside0.mk (below_step (by repeat (first | (with_reducible first | exact HB.out | apply below_alloc | apply pw_below_drewN | apply below_drew1) | exact HB.out)) hb); have n1_ := Aside0.mk (hbox); have n2_ := Aside0.mk ((by rw [hg]; exact (below_size (by repeat (first | (with_reducible first | exact HB.out | apply below_alloc | apply pw_below_drewN | apply below_drew1) | exact HB.out))) : w.heap.size ≤ gb176)); have n3_ := Aside0.mk ((by rw [hg]; exact (below_size (by repeat (first | (with_reducible first | exact HB.out | apply below_alloc | apply pw_below_drewN | apply below_drew1) | exact HB.out))) : w.heap.size ≤ gb176)); clear HB; have HB := n0_; have BK176 := n1_; have GW176 := n2_; have GE176 := n3_; clear n0_ n1_ n2_ n3_; clear hb hbox hg; have hcz15_0 : w14.cell? ⟨gb176, 0, none⟩ = some (.string a0_0) := (blk_cell BK176.out 0).trans rfl; have hcz15_1 : w14.cell? ⟨gb176, 1, none⟩ = some (.int .i64 a0_1) := (blk_cell BK176.out 1).trans rfl; have hcz15_2 : w14.cell? ⟨gb176, 2, none⟩ = some (.int .i64 a0_2) := (blk_cell BK176.out 2).trans rfl; have hcz15_3 : w14.cell? ⟨gb176, 3, none⟩ = some (.int .i64 a0_3) := (blk_cell BK176.out 3).trans rfl; have hcz15_4 : w14.cell? ⟨gb176, 4, none⟩ = some (.string a0_4) := (blk_cell BK176.out 4).trans rfl; have hcz15_5 : w14.cell? ⟨gb176, 5, none⟩ = some (.string a0_5) := (blk_cell BK176.out 5).trans rfl; have hcz15_6 : w14.cell? ⟨gb176, 6, none⟩ = some (.int .i64 a0_6) := (blk_cell BK176.out 6).trans rfl; have hcz15_7 : w14.cell? ⟨gb176, 7, none⟩ = some (.string a0_7) := (blk_cell BK176.out 7).trans rfl; have hfz15_0 := blk_frozen BK176.out 0; have hfz15_1 := blk_frozen BK176.out 1; have hfz15_2 := blk_frozen BK176.out 2; have hfz15_3 := blk_frozen BK176.out 3; have hfz15_4 := blk_frozen BK176.out 4; have hfz15_5 := blk_frozen BK176.out 5; have hfz15_6 := blk_frozen BK176.out 6; have hfz15_7 := blk_frozen BK176.out 7))
          go_ret
          exact ⟨by first | rfl | (simp [errW_none, errW_some] <;> rfl) | (simp [*, errW_none, errW_some] <;> rfl), by repeat (first | (with_reducible first | exact HB.out | apply below_alloc | apply pw_below_drewN | apply below_drew1 | refine below_set ?_ GE176.out) | exact HB.out)⟩

-- NOT PRINTED: function 22 (event_Maker)


/-! ### ciceroneref02_Texts: function 24 -/
def ciceroneref02_Texts.l0 : Nat → List ByteArray → List ByteArray → Int → Option (Bool)
  | 0, _, _, _ => none
  | k + 1, x0, x1, x5 => if x5 < (x0.length : Int) then (if 0 ≤ x5 then (if x5 < (x1.length : Int) then (if (rdOf ByteArray.empty x0 x5).toList = (rdOf ByteArray.empty x1 x5).toList then (ciceroneref02_Texts.l0 k x0 x1 (wrap64 (x5 + 1))) else (some false)) else (none)) else (none)) else (some true)
def ciceroneref02_Texts.f (k : Nat) (l0 : List ByteArray) (l1 : List ByteArray) : Option (Bool) := if (l0.length : Int) = (l1.length : Int) then (ciceroneref02_Texts.l0 k l0 l1 0) else (some false)
theorem ciceroneref02_Texts.mono_l : ∀ k, (∀ y0 y1 y2, LeO (ciceroneref02_Texts.l0 k y0 y1 y2) (ciceroneref02_Texts.l0 (k + 1) y0 y1 y2))
  | 0 => fun _ _ _ r h => by simp [ciceroneref02_Texts.l0] at h
  | k + 1 => by
    have ih0 := ciceroneref02_Texts.mono_l k
    · intro y0 y1 y2
      unfold ciceroneref02_Texts.l0
      repeat' first
      | (with_reducible exact ih0 _ _ _)
      | (with_reducible exact LeO.refl _)
      | (with_reducible exact LeO.none _)
      | (with_reducible refine LeO.ite ?_ ?_)
      | (with_reducible refine LeO.bind ?_ (fun _ => ?_))
      | exact ih0 _ _ _
      | exact LeO.none _
      | refine LeO.ite ?_ ?_
      | refine LeO.bind ?_ (fun _ => ?_)
theorem ciceroneref02_Texts.mono : ∀ a0 a1 k, LeO (ciceroneref02_Texts.f k a0 a1) (ciceroneref02_Texts.f (k + 1) a0 a1) := by
  intro a0 a1 k
  have ih0 := ciceroneref02_Texts.mono_l k
  unfold ciceroneref02_Texts.f
  repeat' first
      | (with_reducible exact ih0 _ _ _)
      | (with_reducible exact LeO.refl _)
      | (with_reducible exact LeO.none _)
      | (with_reducible refine LeO.ite ?_ ?_)
      | (with_reducible refine LeO.bind ?_ (fun _ => ?_))
      | exact ih0 _ _ _
      | exact LeO.none _
      | refine LeO.ite ?_ ?_
      | refine LeO.bind ?_ (fun _ => ?_)
set_option maxHeartbeats 8000000 in
set_option maxRecDepth 100000 in
theorem ciceroneref02_Texts.calls (k : Nat) (A0 : Option Addr) (c0 : Nat) (l0 : List ByteArray) (A1 : Option Addr) (c1 : Nat) (l1 : List ByteArray) (r : Bool) (w : World) (hr0 : Kd.C Kd.string w A0 l0.length l0) (hc0 : l0.length ≤ c0) (hr1 : Kd.C Kd.string w A1 l1.length l1) (hc1 : l1.length ≤ c1) (h : ciceroneref02_Texts.f k l0 l1 = some r) :
    Calls Tryd.prog 24 #[.slice A0 l0.length c0, .slice A1 l1.length c1] w fun e w' => e = .returned (.bool r) ∧ Drawn0 w w' := by
  have HR0 := Aside0.mk hr0
  have HC0 := Aside0.mk hc0
  clear hr0 hc0
  have HR1 := Aside0.mk hr1
  have HC1 := Aside0.mk hc1
  clear hr1 hc1
  have H : (if (l0.length : Int) = (l1.length : Int) then (ciceroneref02_Texts.l0 k l0 l1 0) else (some false)) = some r := h
  clear h
  by_cases c3 : (l0.length : Int) = (l1.length : Int)
  · rw [if_pos c3] at H
    have c3b0 : ((l0.length : Int) == (l1.length : Int)) = true := beq_iff_eq.mpr c3
    have c3b1 : ((l0.length : Int) != (l1.length : Int)) = false := bne_eq_false_iff_eq.mpr c3
    have c3b2 : (l0.length == l1.length) = true := by first | simpa using c3 | (simp at c3 ⊢; omega)
    clear c3
    have H' := Aside0.mk H
    clear H
    go_enter Tryd.func24, Tryd.ntmps24
    go_wp2
    repeat (go_quiet (fail); try go_wp2)
    go_loopg [5] k (fun kq v5 w' => ∃ (x5_1 : Int), v5 = .int .i64 x5_1 ∧ Aside0 (ciceroneref02_Texts.l0 kq l0 l1 x5_1 = some r) ∧ Aside0 (kq ≤ k) ∧ Drawn0 w w')
    case atStart => exact ⟨(0), (by first | rfl | (simp; done) | (simp [*]; done)), H', ⟨Nat.le_refl _⟩, by repeat (first | exact Drawn0.refl _ | apply Drawn0.step)⟩
    case round =>
      clear H'
      try clear c1
      try clear c2
      try clear p2
      try clear c3
      try clear c3b0
      try clear c3b1
      try clear c3b2
      obtain ⟨x5_1, rfl, HA, HK1, ⟨m1, rfl⟩⟩ := hrel
      cases gk with
      | zero => exact absurd HA.out (by simp [ciceroneref02_Texts.l0])
      | succ k1 =>
        have H := HA.out
        clear HA
        simp only [ciceroneref02_Texts.l0] at H
        by_cases c4 : x5_1 < (l0.length : Int)
        · rw [if_pos c4] at H
          have c4b0 : decide (x5_1 < (l0.length : Int)) = true := decide_eq_true c4
          clear c4
          by_cases c5 : 0 ≤ x5_1
          · rw [if_pos c5] at H
            have c5b0 : decide (0 ≤ x5_1) = true := decide_eq_true c5
            clear c5
            by_cases c6 : x5_1 < (l1.length : Int)
            · rw [if_pos c6] at H
              have c6b0 : decide (x5_1 < (l1.length : Int)) = true := decide_eq_true c6
              clear c6
              by_cases c7 : (rdOf ByteArray.empty l0 x5_1).toList = (rdOf ByteArray.empty l1 x5_1).toList
              · rw [if_pos c7] at H
                have c7b0 : ((rdOf ByteArray.empty l0 x5_1).toList == (rdOf ByteArray.empty l1 x5_1).toList) = true := beq_iff_eq.mpr c7
                have c7b1 : ((rdOf ByteArray.empty l0 x5_1).toList != (rdOf ByteArray.empty l1 x5_1).toList) = false := bne_eq_false_iff_eq.mpr c7
                clear c7
                have H' := Aside0.mk H
                clear H
                have p177 : 0 ≤ (x5_1 : Int) := of_decide_eq_true (by first | (with_reducible assumption) | assumption)
                have q177 : x5_1 < (l0.length : Int) := of_decide_eq_true (by first | (with_reducible assumption) | assumption)
                obtain ⟨ad177, e177, hx177_0⟩ := Kd.at_string HR0.out x5_1 p177 q177
                cases e177
                replace p177 := eq_true p177
                replace q177 := eq_true q177
                have p178 : 0 ≤ (x5_1 : Int) := of_decide_eq_true (by first | (with_reducible assumption) | assumption)
                have q178 : x5_1 < (l1.length : Int) := of_decide_eq_true (by first | (with_reducible assumption) | assumption)
                obtain ⟨ad178, e178, hx178_0⟩ := Kd.at_string HR1.out x5_1 p178 q178
                cases e178
                replace p178 := eq_true p178
                replace q178 := eq_true q178
                go_wp2
                repeat (go_quiet (fail); try go_wp2)
                go_roundg k1
                case measure => have := HK1.out; omega
                case rel => exact ⟨(wrap64 (x5_1 + 1)), (by first | rfl | (simp; done) | (simp [*]; done)), H', ⟨by have := HK1.out; omega⟩, by repeat (first | exact Drawn0.refl _ | apply Drawn0.step)⟩
              · rw [if_neg c7] at H
                have c7b0 : ((rdOf ByteArray.empty l0 x5_1).toList == (rdOf ByteArray.empty l1 x5_1).toList) = false := beq_eq_false_iff_ne.mpr c7
                have c7b1 : ((rdOf ByteArray.empty l0 x5_1).toList != (rdOf ByteArray.empty l1 x5_1).toList) = true := bne_iff_ne.mpr c7
                obtain rfl := Option.some.inj H
                have p177 : 0 ≤ (x5_1 : Int) := of_decide_eq_true (by first | (with_reducible assumption) | assumption)
                have q177 : x5_1 < (l0.length : Int) := of_decide_eq_true (by first | (with_reducible assumption) | assumption)
                obtain ⟨ad177, e177, hx177_0⟩ := Kd.at_string HR0.out x5_1 p177 q177
                cases e177
                replace p177 := eq_true p177
                replace q177 := eq_true q177
                have p178 : 0 ≤ (x5_1 : Int) := of_decide_eq_true (by first | (with_reducible assumption) | assumption)
                have q178 : x5_1 < (l1.length : Int) := of_decide_eq_true (by first | (with_reducible assumption) | assumption)
                obtain ⟨ad178, e178, hx178_0⟩ := Kd.at_string HR1.out x5_1 p178 q178
                cases e178
                replace p178 := eq_true p178
                replace q178 := eq_true q178
                go_wp2
                repeat (go_quiet (fail); try go_wp2)
                go_ret
                exact ⟨by first | rfl | (simp; done) | (simp [*]; done), by repeat (first | exact Drawn0.refl _ | apply Drawn0.step)⟩
            · rw [if_neg c6] at H
              exact absurd H (by simp)
          · rw [if_neg c5] at H
            exact absurd H (by simp)
        · rw [if_neg c4] at H
          have c4b0 : decide (x5_1 < (l0.length : Int)) = false := decide_eq_false c4
          clear c4
          obtain rfl := Option.some.inj H
          go_wp2
          repeat (go_quiet (fail); try go_wp2)
          go_ret
          exact ⟨by first | rfl | (simp; done) | (simp [*]; done), by repeat (first | exact Drawn0.refl _ | apply Drawn0.step)⟩
  · rw [if_neg c3] at H
    have c3b0 : ((l0.length : Int) == (l1.length : Int)) = false := beq_eq_false_iff_ne.mpr c3
    have c3b1 : ((l0.length : Int) != (l1.length : Int)) = true := bne_iff_ne.mpr c3
    have c3b2 : (l0.length == l1.length) = false := by first | simpa using c3 | (simp at c3 ⊢; omega)
    obtain rfl := Option.some.inj H
    go_enter Tryd.func24, Tryd.ntmps24
    go_wp2
    repeat (go_quiet (fail); try go_wp2)
    go_ret
    exact ⟨by first | rfl | (simp; done) | (simp [*]; done), by repeat (first | exact Drawn0.refl _ | apply Drawn0.step)⟩

-- NOT PRINTED: function 25 (event_Tags)

-- NOT PRINTED: function 4 (ciceronelaw02_EventMay)


end Go.Proofs.YtkhjnbjmbmacjaaDoor.KA
