/- cmp.Compare of texts. -/
import Derived.Test.YtkhjnbjmbmacjaaDoorKB
import Derived.Test.YtkhjnbjmbmacjaaDoorRA
namespace Go.Proofs.YtkhjnbjmbmacjaaDoor
open Go Go.RowKit Go.Proofs.YtkhjnbjmbmacjaaDoorW.PrintWords

def cmpS (a b : ByteArray) : Int := if Op.bytesLess a.toList b.toList = true then -1 else if (a.toList == b.toList) = true then 0 else 1
theorem lessL_eq : ∀ (x y : List UInt8), Op.bytesLess x y = decide (x < y)
  | [], [] => by simp [Op.bytesLess]
  | _ :: _, [] => by simp [Op.bytesLess]
  | [], _ :: _ => by simp [Op.bytesLess]
  | a :: x, b :: y => by
    rw [Op.bytesLess, lessL_eq x y]
    simp only [List.cons_lt_cons_iff]
    by_cases h1 : a < b <;> by_cases h2 : a = b <;> by_cases h3 : x < y <;> simp [h1, h2, h3]
def cmpI (a b : Int) : Int := if a < b then -1 else if a > b then 1 else 0
theorem cmpI_ok (a b : Int) (w : World) : Calls Tryd.prog 59 #[.int .i64 a, .int .i64 b] w fun e w' => e = .returned (.int .i64 (cmpI a b)) ∧ Below w.heap.size w w' := by
  refine (KB.cmp_Compare_int.calls a b (cmpI a b) w ?_).mono fun _ _ ⟨h1, h2⟩ => ⟨h1, ?_⟩
  · unfold KB.cmp_Compare_int.f KB.cmp_isNaN_int.f cmpI
    simp
    split <;> simp_all
    split <;> simp_all
  · obtain ⟨n, rfl⟩ := h2; exact below_drN (Below.refl _ _) n
def orF (x y z : Int) : Int := if x = 0 then (if y = 0 then z else y) else x
structure Ev where
  src : ByteArray
  num : Int
  at' : Int
  kind : Int
  person : ByteArray
  item : ByteArray
  val : Int
  text : ByteArray
abbrev Ev.v (e : Ev) : Value := .agg #[.string e.src, .int .i64 e.num, .int .i64 e.at', .int .i64 e.kind, .string e.person, .string e.item, .int .i64 e.val, .string e.text]
def compareF (a b : Ev) : Int := orF (cmpI a.at' b.at') (cmpS a.src b.src) (cmpI a.num b.num)
def lessF (a b : Ev) : Bool := if a.at' = b.at' then (if a.src.toList = b.src.toList then decide (a.num < b.num) else Op.bytesLess a.src.toList b.src.toList) else decide (a.at' < b.at')
theorem compare_ok (a b : Ev) (w : World) : Calls Tryd.prog 28 #[a.v, b.v] w fun e w' => e = .returned (.int .i64 (compareF a b)) ∧ Below w.heap.size w w' := by
  refine KB.event_Compare.calls 4 a.src a.num a.at' a.kind a.person a.item a.val a.text b.src b.num b.at' b.kind b.person b.item b.val b.text (compareF a b) w ?_
  have e1 : ∀ x y, KB.cmp_Compare_int.f x y = some (cmpI x y) := fun x y => by
    unfold KB.cmp_Compare_int.f KB.cmp_isNaN_int.f cmpI
    simp
    split <;> simp_all
    split <;> simp_all
  have e2 : ∀ x y, KB.cmp_Compare_string.f x y = some (cmpS x y) := fun _ _ => rfl
  unfold KB.event_Compare.f compareF
  rw [e1, e1, e2]
  generalize cmpI a.at' b.at' = x
  generalize cmpS a.src b.src = y
  generalize cmpI a.num b.num = z
  have w1 : wrap64 1 = 1 := by unfold wrap64; omega
  have w2 : wrap64 2 = 2 := by unfold wrap64; omega
  have w3 : wrap64 3 = 3 := by unfold wrap64; omega
  have r0 : ∀ x y z : Int, rd [x, y, z] 0 = x := fun _ _ _ => rfl
  have r1 : ∀ x y z : Int, rd [x, y, z] 1 = y := fun _ _ _ => rfl
  have r2 : ∀ x y z : Int, rd [x, y, z] 2 = z := fun _ _ _ => rfl
  have ln : (([x, y, z] : List Int).length : Int) = 3 := rfl
  unfold KB.cmp_Or_int.f orF
  rw [Option.bind_some, Option.bind_some, Option.bind_some, ln]
  by_cases hx : x = 0
  · by_cases hy : y = 0
    · by_cases hz : z = 0
      · simp [KB.cmp_Or_int.l0, r0, r1, r2, w1, w2, w3, hx, hy, hz, ln]
      · simp [KB.cmp_Or_int.l0, r0, r1, r2, w1, w2, w3, hx, hy, hz, ln]
    · simp [KB.cmp_Or_int.l0, r0, r1, r2, w1, w2, w3, hx, hy, ln]
  · simp [KB.cmp_Or_int.l0, r0, r1, r2, w1, w2, w3, hx, ln]
theorem less_ok (a b : Ev) (w : World) : Calls Tryd.prog 27 #[a.v, b.v] w fun e w' => e = .returned (.bool (lessF a b)) ∧ Below w.heap.size w w' := by
  refine (KB.ciceroneref02_Less.calls a.src a.num a.at' a.kind a.person a.item a.val a.text b.src b.num b.at' b.kind b.person b.item b.val b.text (lessF a b) w ?_).mono fun _ _ h => h
  unfold KB.ciceroneref02_Less.f lessF
  split
  · split <;> rfl
  · rfl
def sameF (a b : Ev) : Bool := (a.src.toList == b.src.toList) && decide (a.num = b.num)
theorem same_ok (a b : Ev) (w : World) : Calls Tryd.prog 29 #[a.v, b.v] w fun e w' => e = .returned (.bool (sameF a b)) ∧ Below w.heap.size w w' := by
  refine (KB.event_Same.calls a.src a.num a.at' a.kind a.person a.item a.val a.text b.src b.num b.at' b.kind b.person b.item b.val b.text (sameF a b) w ?_).mono fun _ _ h => h
  unfold KB.event_Same.f sameF
  by_cases h : a.src.toList = b.src.toList
  · rw [if_pos h, h]
    by_cases h2 : a.num = b.num
    · simp [h2]
    · simp [h2]
  · rw [if_neg h]
    have : (a.src.toList == b.src.toList) = false := by simpa using h
    rw [this]; rfl
def bigF (e : Ev) (n : Int) : Bool := decide (n < e.src.size) || decide (n < e.person.size) || decide (n < e.item.size) || decide (n < e.text.size)
theorem big_ok (a : Ev) (n : Int) (w : World) : Calls Tryd.prog 13 #[a.v, .int .i64 n] w fun e w' => e = .returned (.bool (bigF a n)) ∧ Below w.heap.size w w' := by
  refine (KB.ciceroneref02_Big.calls a.src a.num a.at' a.kind a.person a.item a.val a.text n (bigF a n) w ?_).mono fun _ _ h => h
  unfold KB.ciceroneref02_Big.f bigF
  by_cases h1 : n < (a.src.size : Int)
  · simp [h1]
  · by_cases h2 : n < (a.person.size : Int)
    · simp [h1, h2]
    · by_cases h3 : n < (a.item.size : Int)
      · simp [h1, h2, h3]
      · simp [h1, h2, h3]
end Go.Proofs.YtkhjnbjmbmacjaaDoor
