/- event.May: what may be. -/
import Derived.Test.YtkhjnbjmbmacjaaDoorNB
import Derived.Test.YtkhjnbjmbmacjaaDoorNA
namespace Go.Proofs.YtkhjnbjmbmacjaaDoor
open Go Go.RowKit Go.Proofs.YtkhjnbjmbmacjaaDoorW.PrintWords

structure Asks where
  person : Bool
  item : Bool
  maker : Bool
  goods : Bool
  least : Int
  most : Int
  ok : Bool
def rowF (k : Int) : Asks :=
  if k = 0 ∨ k = 1 ∨ k = 2 ∨ k = 3 ∨ k = 5 ∨ k = 6 then ⟨true, true, false, false, 0, 0, true⟩
  else if k = 4 then ⟨true, true, false, false, 1, 5, true⟩
  else if k = 7 ∨ k = 8 ∨ k = 9 ∨ k = 10 then ⟨true, false, true, false, 0, 0, true⟩
  else if k = 11 then ⟨false, true, false, true, 0, 1048576, true⟩
  else if k = 12 then ⟨false, true, false, false, 0, 1048576, true⟩
  else if k = 13 then ⟨false, true, false, false, 0, 0, true⟩
  else if k = 14 then ⟨true, false, false, false, 0, 0, true⟩
  else ⟨false, false, false, false, 0, 0, false⟩
theorem row_ok (k : Int) (w : World) : Calls Tryd.prog 50 #[.int .i64 k] w fun e w' => e = .returned (.tuple #[.agg #[.bool (rowF k).person, .bool (rowF k).item, .bool (rowF k).maker, .bool (rowF k).goods, .int .i64 (rowF k).least, .int .i64 (rowF k).most], .bool (rowF k).ok]) ∧ Below w.heap.size w w' := by
  refine KB.event_row.calls 4 k _ _ _ _ _ _ _ w ?_
  unfold KB.event_row.f
  by_cases h0 : k = 0
  · subst h0; rfl
  by_cases h1 : k = 1
  · subst h1; rfl
  by_cases h2 : k = 2
  · subst h2; rfl
  by_cases h3 : k = 3
  · subst h3; rfl
  by_cases h5 : k = 5
  · subst h5; rfl
  by_cases h6 : k = 6
  · subst h6; rfl
  by_cases h4 : k = 4
  · subst h4; rfl
  by_cases h7 : k = 7
  · subst h7; rfl
  by_cases h8 : k = 8
  · subst h8; rfl
  by_cases h9 : k = 9
  · subst h9; rfl
  by_cases h10 : k = 10
  · subst h10; rfl
  by_cases h11 : k = 11
  · subst h11; rfl
  by_cases h12 : k = 12
  · subst h12; rfl
  by_cases h13 : k = 13
  · subst h13; rfl
  by_cases h14 : k = 14
  · subst h14; rfl
  have e6 : (k == 6) = false := by simpa using h6
  have e10 : (k == 10) = false := by simpa using h10
  simp [rowF, KB.event_row.j0, KB.event_row.j1, h0, h1, h2, h3, h4, h5, h6, h7, h8, h9, h10, h11, h12, h13, h14]
def inF (n a b : Int) : Bool := decide (a ≤ n) && decide (n ≤ b)
theorem within_ok (n a b : Int) (w : World) : Calls Tryd.prog 51 #[.int .i64 n, .int .i64 a, .int .i64 b] w fun e w' => e = .returned (.bool (inF n a b)) ∧ Below w.heap.size w w' := by
  refine (KB.event_within.calls n a b (inF n a b) w ?_).mono fun _ _ ⟨h1, h2⟩ => ⟨h1, ?_⟩
  · unfold KB.event_within.f inF
    by_cases h : a ≤ n
    · rw [if_pos h, decide_eq_true h]; rfl
    · rw [if_neg (by omega), decide_eq_false h]; rfl
  · obtain ⟨q, rfl⟩ := h2; exact below_drN (Below.refl _ _) q
def namedF (s : ByteArray) (asked : Bool) : Bool := if asked then nameB s else (s.toList == [])
theorem named_ok (s : ByteArray) (asked : Bool) (w : World) (hs : s.size ≤ 9223372036854775807) : Calls Tryd.prog 52 #[.string s, .bool asked] w fun e w' => e = .returned (.bool (namedF s asked)) ∧ Below w.heap.size w w' := by
  unfold namedF
  cases asked with
  | true =>
    rw [if_pos rfl]
    generalize hm : nameB s = m
    have E := Lib.hid hm
    clear hm
    cases m with
    | true =>
      go_enter Tryd.func52, Tryd.ntmps52
      go_wp2_with fail
      refine (name_ok s _ hs).mono ?_
      rw [E.out]
      rintro e w1 ⟨rfl, hb⟩
      have K := Lib.hid hb
      clear hb
      go_wp2_with fail
      go_ret
      exact ⟨rfl, K.out⟩
    | false =>
      go_enter Tryd.func52, Tryd.ntmps52
      go_wp2_with fail
      refine (name_ok s _ hs).mono ?_
      rw [E.out]
      rintro e w1 ⟨rfl, hb⟩
      have K := Lib.hid hb
      clear hb
      go_wp2_with fail
      go_ret
      exact ⟨rfl, K.out⟩
  | false =>
    rw [if_neg (by decide)]
    go_enter Tryd.func52, Tryd.ntmps52
    go_wp2_with fail
    go_ret
    exact ⟨by first | rfl | (simp; done), Below.refl _ _⟩
end Go.Proofs.YtkhjnbjmbmacjaaDoor
