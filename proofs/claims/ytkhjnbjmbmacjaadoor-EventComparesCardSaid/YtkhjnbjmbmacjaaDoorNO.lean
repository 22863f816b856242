/- EventCompares: the law's walk. -/
import Derived.Test.YtkhjnbjmbmacjaaDoorNM
import Derived.Test.YtkhjnbjmbmacjaaDoorNC
namespace Go.Proofs.YtkhjnbjmbmacjaaDoor
open Go Go.RowKit

abbrev No : Nat → Prop := fun _ => False
theorem Touch.no_below {w W : World} (h : Touch No w W) : Below w.heap.size w W := h.below (Nat.le_refl _) (fun _ _ h => h)
theorem calm_below {f : FuncId} {args : Array Value} {w : World} {v : Value} (h : Calls Tryd.prog f args w fun e w' => e = .returned v ∧ Below w.heap.size w w') :
    Calls Tryd.prog f args w fun e w' => e = .returned v ∧ Touch No w w' := h.mono fun _ _ ⟨he, hw⟩ => ⟨he, Touch.of_below hw⟩
abbrev evO (e : Ev) : Obj := .cells #[.string e.src, .int .i64 e.num, .int .i64 e.at', .int .i64 e.kind, .string e.person, .string e.item, .int .i64 e.val, .string e.text] 24 (0, 0)
/-- the law's three boxes -/
structure Three (w W : World) (a b c : Ev) : Prop where
  bel : Below w.heap.size w W
  a : W.heap[w.heap.size]? = some (evO a)
  b : W.heap[w.heap.size + 1]? = some (evO b)
  c : W.heap[w.heap.size + 2]? = some (evO c)
theorem Three.on {w W W' : World} {a b c : Ev} (h : Three w W a b c) (hb : Below W.heap.size W W') : Three w W' a b c :=
  ⟨below_after h.bel hb, blk_below h.a hb, blk_below h.b hb, blk_below h.c hb⟩
theorem Three.drew {w W : World} {a b c : Ev} (h : Three w W a b c) : Three w W.drew a b c := ⟨below_dr h.bel, h.a, h.b, h.c⟩
theorem bigF_true {e : Ev} {n : Int} (h : bigF e n = false) : (e.src.size : Int) ≤ n ∧ (e.person.size : Int) ≤ n ∧ (e.item.size : Int) ≤ n ∧ (e.text.size : Int) ≤ n := by
  unfold bigF at h
  simp only [Bool.or_eq_false_iff, decide_eq_false_iff_not] at h
  omega
/-- the three signs, case by case -/
theorem sign_cases (a b c : Ev) : ∃ p q r : Int, compareF a b = p ∧ compareF b c = q ∧ compareF a c = r ∧
    ((p = 1 ∧ q ≤ 1 ∧ -1 ≤ q) ∨ (p = -1 ∧ q = 1) ∨ (p = -1 ∧ q ≤ 0 ∧ r < 0) ∨ (p = 0 ∧ q = 1) ∨ (p = 0 ∧ q = -1 ∧ r < 0) ∨ (p = 0 ∧ q = 0 ∧ r = 0)) := by
  obtain ⟨g1, g2⟩ := compare_goes a b c
  refine ⟨_, _, _, rfl, rfl, rfl, ?_⟩
  have v1 := compare_vals a b
  have v2 := compare_vals b c
  have v3 := compare_vals a c
  generalize compareF a b = p at *
  generalize compareF b c = q at *
  generalize compareF a c = r at *
  omega
end Go.Proofs.YtkhjnbjmbmacjaaDoor
