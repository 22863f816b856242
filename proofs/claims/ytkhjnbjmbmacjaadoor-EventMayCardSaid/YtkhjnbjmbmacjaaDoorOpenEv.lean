/- What the listed tables give the walks; an event that came in. -/
import Derived.Test.YtkhjnbjmbmacjaaDoorRows
import Derived.Test.YtkhjnbjmbmacjaaDoorNJ
import Derived.Lib.LaidU8
import Derived.Lib.SmallJoins
import Derived.Deep.Fields
import Derived.Lib.LaidTab
import Derived.Deep.DeepHandedRow
import Derived.Deep.DeepWitnessRowRef
import Derived.ProofKit
import Derived.OpenShut
import Derived.ShutString
import Derived.ChangeOld
import Derived.SizedLaws
import Derived.Carry
namespace Go.Proofs.YtkhjnbjmbmacjaaDoor
open Go Go.RowKit Go.Joins Go.ChangeShapes Go.WideShapes Go.ChangeAt Go.Deep

theorem own : ownKnob Tryd.prog.godebug = none := by kernel_rfl
theorem laidOut : laidOutB Tryd.prog = true := by kernel_rfl
set_option maxRecDepth 100000 in
theorem table {W : World} (h : laidMetH Tryd.prog Rows.eventComparesRow.laid W) : Lib.TabIs Tryd.prog W "strings.asciiSpace" .u8 Lib.asciiSpaceTab := by
  have hm : laidMet Tryd.prog Rows.eventComparesRow.laid W := h
  obtain ⟨g, t, cs, fuel, p, hg, ht, hvar, hd⟩ := Lib.laidMet.reads hm (n := "strings.asciiSpace") (d := Lib.tabData .u8 Lib.asciiSpaceTab) (.tail _ (.tail _ (.head _)))
  have h0 : Tryd.prog.globalNamed "strings.asciiSpace" = some 0 := by kernel_rfl
  have h1 : (Tryd.prog.globals[0]?).map (·.type) = some 92 := by kernel_rfl
  have h2 : Tryd.prog.cellsOf 5 = 1 := by kernel_rfl
  have h3 : Tryd.prog.cellsOf 92 = 256 := by kernel_rfl
  obtain rfl := Option.some.inj (h0.symm.trans hg)
  obtain rfl := Option.some.inj (h1.symm.trans ht)
  unfold Lib.TabIs
  rw [hvar, ← Lib.cells_of_tab Tryd.underlying92 Tryd.underlying5 h2 h3 hd]
theorem env_of {W : World} (h : laidMetH Tryd.prog Rows.eventComparesRow.laid W) (hs : W.ShapedOpen Tryd.prog) : Env W :=
  ⟨Tryd.laysM219.s1_3 W hs, table h⟩
theorem open_agg8 {H : Type} {enc : TypeId × Value → H} {P : Program} {w : World} {base : Nat} {spare : Nat → Bool} {held : Bool} {r : Reach} {b0 : Nat} {t : TypeId} {f0 f1 f2 f3 f4 f5 f6 f7 : Field} {v : Value} {d : DataW H} {p : List MemPlace} (hs : P.underlying t = some (.struct #[f0, f1, f2, f3, f4, f5, f6, f7])) (hone : oneCellFields P #[f0, f1, f2, f3, f4, f5, f6, f7] = true) (hC : P.cellsOf t = 8)
    (hv : Value.okWide P w r b0 t v) (h : DataW.Trod enc P w base spare held t v d p) :
    ∃ (v0 v1 v2 v3 v4 v5 v6 v7 : Value) (y0 y1 y2 y3 y4 y5 y6 y7 : DataW H × List MemPlace) (n : Nat), v = .agg #[v0, v1, v2, v3, v4, v5, v6, v7] ∧ DataW.trod enc P w base spare held n f0.type [v0] = some y0 ∧ DataW.trod enc P w base spare held n f1.type [v1] = some y1 ∧ DataW.trod enc P w base spare held n f2.type [v2] = some y2 ∧ DataW.trod enc P w base spare held n f3.type [v3] = some y3 ∧ DataW.trod enc P w base spare held n f4.type [v4] = some y4 ∧ DataW.trod enc P w base spare held n f5.type [v5] = some y5 ∧ DataW.trod enc P w base spare held n f6.type [v6] = some y6 ∧ DataW.trod enc P w base spare held n f7.type [v7] = some y7 := by
  obtain ⟨cs, rfl, hsz⟩ := okWide_struct hs hv
  obtain ⟨l⟩ := cs
  match l, hsz.trans hC with
  | [c0, c1, c2, c3, c4, c5, c6, c7], _ =>
    obtain ⟨fuel, hf⟩ := h
    obtain ⟨xs, n, _, hx, _, hlen, hg⟩ := DataW.trod_struct hs hf
    obtain ⟨o0, k0⟩ := hone_of hone 0 f0 rfl
    obtain ⟨o1, k1⟩ := hone_of hone 1 f1 rfl
    obtain ⟨o2, k2⟩ := hone_of hone 2 f2 rfl
    obtain ⟨o3, k3⟩ := hone_of hone 3 f3 rfl
    obtain ⟨o4, k4⟩ := hone_of hone 4 f4 rfl
    obtain ⟨o5, k5⟩ := hone_of hone 5 f5 rfl
    obtain ⟨o6, k6⟩ := hone_of hone 6 f6 rfl
    obtain ⟨o7, k7⟩ := hone_of hone 7 f7 rfl
    match xs, hlen with
    | [y0, y1, y2, y3, y4, y5, y6, y7], _ =>
      exact ⟨c0, c1, c2, c3, c4, c5, c6, c7, y0, y1, y2, y3, y4, y5, y6, y7, n, rfl, by simpa [Value.cells, o0, k0] using hg 0 f0 rfl, by simpa [Value.cells, o1, k1] using hg 1 f1 rfl, by simpa [Value.cells, o2, k2] using hg 2 f2 rfl, by simpa [Value.cells, o3, k3] using hg 3 f3 rfl, by simpa [Value.cells, o4, k4] using hg 4 f4 rfl, by simpa [Value.cells, o5, k5] using hg 5 f5 rfl, by simpa [Value.cells, o6, k6] using hg 6 f6 rfl, by simpa [Value.cells, o7, k7] using hg 7 f7 rfl⟩
theorem cells_ev : Tryd.prog.cellsOf 24 = 8 := by kernel_rfl
set_option maxRecDepth 100000 in
/-- AN EVENT THAT CAME IN -/
theorem open_ev {H : Type} {enc : TypeId × Value → H} {w : World} {base b0 : Nat} {spare : Nat → Bool} {held : Bool} {r : Reach} {v : Value} {d : DataW H} {p : List MemPlace}
    (hv : Value.okWide Tryd.prog w r b0 24 v) (h : DataW.Trod enc Tryd.prog w base spare held 24 v d p) : ∃ e : Ev, v = e.v := by
  obtain ⟨v0, v1, v2, v3, v4, v5, v6, v7, y0, y1, y2, y3, y4, y5, y6, y7, n, rfl, h0, h1, h2, h3, h4, h5, h6, h7⟩ := open_agg8 Tryd.underlying24 (by kernel_rfl) cells_ev hv h
  obtain ⟨x0, e0, _, _⟩ := DataW.trod_string Tryd.underlying9 h0
  obtain ⟨x1, e1, _, _⟩ := DataW.trod_int Tryd.underlying3 h1
  obtain ⟨x2, e2, _, _⟩ := DataW.trod_int Tryd.underlying3 h2
  obtain ⟨x3, e3, _, _⟩ := DataW.trod_int Tryd.underlying22 h3
  obtain ⟨x4, e4, _, _⟩ := DataW.trod_string Tryd.underlying9 h4
  obtain ⟨x5, e5, _, _⟩ := DataW.trod_string Tryd.underlying9 h5
  obtain ⟨x6, e6, _, _⟩ := DataW.trod_int Tryd.underlying3 h6
  obtain ⟨x7, e7, _, _⟩ := DataW.trod_string Tryd.underlying9 h7
  simp only [List.cons.injEq, and_true] at e0 e1 e2 e3 e4 e5 e6 e7
  subst e0 e1 e2 e3 e4 e5 e6 e7
  exact ⟨⟨x0, x1, x2, x3, x4, x5, x6, x7⟩, rfl⟩
end Go.Proofs.YtkhjnbjmbmacjaaDoor
