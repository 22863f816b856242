/- The walks of the functions of package ratio, and of its reference, that have no loop. -/
import Derived.Test.YtkhjnbjmbmacjaaDoorProg
import Derived.Test.YtkhjnbjmbmacjaaDoorRM
import Derived.WalkKit
import Derived.WalkSpells
import Derived.WalkLawsBesides
import Derived.Below
import Derived.Deep.QuietTactic
import Derived.BigQuiet
import Derived.Lib.Hide
import Derived.KernelRfl
import Derived.Laws.Rows
namespace Go.Proofs.YtkhjnbjmbmacjaaDoor
open Go.RowKit

theorem ret_int {k : IntKind} {a b : Int} (h : a = b) : Ending.returned (.int k a) = .returned (.int k b) := by rw [h]
theorem ret_bool {a b : Bool} (h : a = b) : Ending.returned (.bool a) = .returned (.bool b) := by rw [h]
theorem below_al {w W : World} (h : Below w.heap.size w W) (o : Obj) : Below w.heap.size w (W.alloc o) := h.alloc h.size o
theorem below_dr {B : Nat} {w W : World} (h : Below B w W) : Below B w W.drew := h.drew
theorem below_after {w W W' : World} (h : Below w.heap.size w W) (k : Below W.heap.size W W') : Below w.heap.size w W' := h.trans (k.mono h.size)

theorem bcell {W w1 : World} (hb : Below W.heap.size W w1) : (∀ b o, b < W.heap.size → w1.cell? ⟨b, o, none⟩ = W.cell? ⟨b, o, none⟩) ∧ (∀ b o, b < W.heap.size → w1.frozen? ⟨b, o, none⟩ = W.frozen? ⟨b, o, none⟩) :=
  ⟨fun b o h => hb.cell (p := ⟨b, o, none⟩) h, fun b o h => hb.frozen (p := ⟨b, o, none⟩) h⟩
theorem below_set {B : Nat} {w W : World} (h : Below B w W) {b o : Nat} (hp : B ≤ b) (u : Value) : Below B w (W.setCell ⟨b, o, none⟩ u) := h.setCell hp u

theorem below_drN {B : Nat} {w W : World} (h : Below B w W) (n : Nat) : Below B w (W.drewN n) := ⟨h.os, h.tape, h.output, h.size, h.block⟩
theorem two_cells {w : World} {b : Nat} {v0 v1 : Value} {t : TypeId} (h : w.heap[b]? = some (.cells #[v0, v1] t (0, 0))) :
    w.cell? ⟨b, 0, none⟩ = some v0 ∧ w.cell? ⟨b, 1, none⟩ = some v1 ∧ w.frozen? ⟨b, 0, none⟩ = false ∧ w.frozen? ⟨b, 1, none⟩ = false := by
  simp [World.cell?, World.frozen?, h]
theorem blk_set {w : World} {g : Nat} {t : TypeId} {cs : Array Value} (h : w.heap[g]? = some (.cells cs t (0, 0))) (i : Nat) (u : Value) :
    (w.setCell ⟨g, i, none⟩ u).heap[g]? = some (.cells (cs.setIfInBounds i u) t (0, 0)) := by
  have hlt := lt_of_block h
  have h' : w.heap[g] = .cells cs t (0, 0) := by simpa [Array.getElem?_eq_getElem hlt] using h
  show (w.heap.modify g _)[g]? = _
  rw [Array.getElem?_eq_getElem (by simpa using hlt), Array.getElem_modify_self, h']
  simp
theorem two_set0 {w : World} {g : Nat} {t : TypeId} {v0 v1 : Value} (h : w.heap[g]? = some (.cells #[v0, v1] t (0, 0))) (u : Value) :
    (w.setCell ⟨g, 0, none⟩ u).heap[g]? = some (.cells #[u, v1] t (0, 0)) := by rw [blk_set h]; rfl
theorem two_set1 {w : World} {g : Nat} {t : TypeId} {v0 v1 : Value} (h : w.heap[g]? = some (.cells #[v0, v1] t (0, 0))) (u : Value) :
    (w.setCell ⟨g, 1, none⟩ u).heap[g]? = some (.cells #[v0, u] t (0, 0)) := by rw [blk_set h]; rfl
theorem blk_far {w : World} {g b o : Nat} {x : Obj} (h : w.heap[g]? = some x) (hne : g ≠ b) (u : Value) : (w.setCell ⟨b, o, none⟩ u).heap[g]? = some x :=
  (Below.heap_setCell w ⟨b, o, none⟩ u g hne).trans h
theorem blk_below {w w1 : World} {g : Nat} {o : Obj} (h : w.heap[g]? = some o) (hb : Below w.heap.size w w1) : w1.heap[g]? = some o := (hb.block g (lt_of_block h)).trans h
theorem blk_new (w : World) (o : Obj) : (w.alloc o).heap[w.heap.size]? = some o := by show (w.heap.push o)[w.heap.size]? = _; simp
theorem blk_new_at {w : World} {n : Nat} (o : Obj) (h : w.heap.size = n) : (w.alloc o).heap[n]? = some o := by subst h; exact blk_new w o
theorem blk_drew {w : World} {g : Nat} {x : Obj} (h : w.heap[g]? = some x) : w.drew.heap[g]? = some x := h
theorem blk_drewN {w : World} {g : Nat} {x : Obj} (h : w.heap[g]? = some x) (n : Nat) : (w.drewN n).heap[g]? = some x := h
theorem blk_old {w : World} {g : Nat} {x : Obj} (h : w.heap[g]? = some x) (o : Obj) : (w.alloc o).heap[g]? = some x := (Below.heap_alloc w o g (lt_of_block h)).trans h

/-- results that lie in memory: a struct; a struct and a number; two structs -/
structure InRow (P : Program) (w : World) (ty : TypeId) (v : Value) (cs : Array Value) : Prop where
  ex : ∃ g : Nat, v = .pointer (some ⟨g, 0, none⟩) ∧ (loadVar ty ⟨g, 0, none⟩).run P w = .ok (.agg cs) w
theorem InRow.mk' {P : Program} {w : World} {ty : TypeId} {g : Nat} {t : TypeId} {fr : Nat × Nat} {cs : Array Value} (d : TypeDesc) (hg : w.heap[g]? = some (.cells cs t fr))
    (hu : P.underlying ty = some d) (hd : (match d with | .struct _ | .array _ _ => true | _ => false) = true) (hi : (P.info? ty).map (·.size) = some cs.size) : InRow P w ty (.pointer (some ⟨g, 0, none⟩)) cs :=
  ⟨g, rfl, run_loadVar_row w g t ty cs fr d hg hu hd hi⟩
theorem res_c {P : Program} {fn : Func} {p : Tmp} {ty : TypeId} (h : fn.results = #[.cell p ty]) {tmps : Array Value} {w : World} {cs : Array Value} (hp : InRow P w ty (tmps.getD p undef) cs) :
    (results fn tmps).run P w = .ok (.agg cs) w := by
  obtain ⟨g, hv, hg⟩ := hp.ex
  have hp' : tmps[p]?.getD undef = .pointer (some ⟨g, 0, none⟩) := by simpa using hv
  simp [results, h, hp', asAddr, hg]
theorem res_ct {P : Program} {fn : Func} {p u : Tmp} {ty : TypeId} (h : fn.results = #[.cell p ty, .tmp u]) {tmps : Array Value} {w : World} {cs : Array Value} (hp : InRow P w ty (tmps.getD p undef) cs) :
    (results fn tmps).run P w = .ok (.tuple #[.agg cs, tmps.getD u undef]) w := by
  obtain ⟨g, hv, hg⟩ := hp.ex
  have hp' : tmps[p]?.getD undef = .pointer (some ⟨g, 0, none⟩) := by simpa using hv
  simp [results, h, hp', asAddr, hg]
theorem res_cc {P : Program} {fn : Func} {p q : Tmp} {ty tz : TypeId} (h : fn.results = #[.cell p ty, .cell q tz]) {tmps : Array Value} {w : World} {cs ds : Array Value}
    (hp : InRow P w ty (tmps.getD p undef) cs) (hq : InRow P w tz (tmps.getD q undef) ds) : (results fn tmps).run P w = .ok (.tuple #[.agg cs, .agg ds]) w := by
  obtain ⟨g, hv, hg⟩ := hp.ex
  obtain ⟨g2, hv2, hg2⟩ := hq.ex
  have hp' : tmps[p]?.getD undef = .pointer (some ⟨g, 0, none⟩) := by simpa using hv
  have hq' : tmps[q]?.getD undef = .pointer (some ⟨g2, 0, none⟩) := by simpa using hv2
  simp [results, h, hp', hq', asAddr, hg, hg2]

end Go.Proofs.YtkhjnbjmbmacjaaDoor
