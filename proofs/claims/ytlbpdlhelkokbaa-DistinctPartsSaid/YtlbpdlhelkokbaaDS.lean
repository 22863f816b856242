/- The examples that each law of this layer ends with. -/
import Derived.Test.YtlbpdlhelkokbaaDR
namespace Go.Proofs.Ytlbpdlhelkokbaa
open Go.RowKit

theorem hash_a : hashF ⟨#[97]⟩ = 9413272369427828315 := by decide +kernel
theorem hash_b : hashF ⟨#[98]⟩ = 7955382828454826704 := by decide +kernel
theorem hash_c : hashF ⟨#[99]⟩ = 8577447940197089550 := by decide +kernel
theorem rise_nil : Rise [] := List.Pairwise.nil

theorem awake_ok (w : World) :
    Calls Try.prog 10 #[] w fun e w' => e = .returned (.bool true) ∧ Below w.heap.size w w' := by
  have R0 := Lib.hid rise_nil
  have R1 := Lib.hid (into_rise 9413272369427828315 R0.out)
  have R2 := Lib.hid (into_rise 7955382828454826704 R1.out)
  have e2 : into (into [] 9413272369427828315) 7955382828454826704 = [7955382828454826704, 9413272369427828315] := by decide
  have e3 : into [7955382828454826704, 9413272369427828315] 9413272369427828315 = [7955382828454826704, 9413272369427828315] := by decide
  have e4 : into [7955382828454826704, 9413272369427828315] 8577447940197089550 = [7955382828454826704, 8577447940197089550, 9413272369427828315] := by decide
  have f1 : fresh [] 2 9413272369427828315 = true := by decide
  have f2 : fresh (into [] 9413272369427828315) 2 7955382828454826704 = true := by decide
  have f3 : fresh [7955382828454826704, 9413272369427828315] 2 9413272369427828315 = false := by decide
  have E := Lib.hid (And.intro e2 (And.intro e3 (And.intro e4 (And.intro f1 (And.intro f2 f3)))))
  rw [e2] at R2
  clear e2 e3 e4 f1 f2 f3
  go_enter Try.func10, Try.ntmps10
  go_wp2_with fail
  refine (new_own 2 _).mono ?_
  rw [show sizeK 2 = 2 by decide]
  rintro e w1 ⟨rfl, hO⟩
  have O := Lib.hid hO
  clear hO
  go_wp2_with fail
  refine (add_own w _ _ 2 [] ⟨#[97]⟩ O.out R0.out (by decide) (by decide) (by decide)).mono ?_
  rw [hash_a, E.out.2.2.2.1]
  rintro e w2 ⟨rfl, hO⟩
  have O := Lib.hid hO
  clear hO
  go_wp2_with fail
  refine (add_own w _ _ 2 _ ⟨#[98]⟩ O.out R1.out (by decide) (by decide) (by decide)).mono ?_
  rw [hash_b, E.out.2.2.2.2.1, E.out.1]
  rintro e w3 ⟨rfl, hO⟩
  have O := Lib.hid hO
  clear hO
  go_wp2_with fail
  refine (add_own w _ _ 2 _ ⟨#[97]⟩ O.out R2.out (by decide) (by decide) (by decide)).mono ?_
  rw [hash_a, E.out.2.2.2.2.2, E.out.2.1]
  rintro e w4 ⟨rfl, hO⟩
  have O := Lib.hid hO
  clear hO
  go_wp2_with fail
  refine (count_exact _ 2 _ _ _ O.out.choose_spec.1 (by decide)).mono ?_
  rintro e w5 ⟨rfl, hb⟩
  have O := Lib.hid (own_after O.out hb)
  clear hb
  go_wp2_with fail
  refine (exact_ok _ 2 _ _ _ O.out.choose_spec.1).mono ?_
  rw [show decide (([7955382828454826704, 9413272369427828315] : List Int).length ≤ 2) = true by decide]
  rintro e w6 ⟨rfl, hb⟩
  have O := Lib.hid (own_after O.out hb)
  clear hb
  go_wp2_with fail
  refine (add_own w _ _ 2 _ ⟨#[99]⟩ O.out R2.out (by decide) (by decide) (by decide)).mono ?_
  rw [hash_c, E.out.2.2.1]
  rintro e w7 ⟨rfl, hO⟩
  have O := Lib.hid hO
  clear hO
  go_wp2_with fail
  refine (exact_ok _ 2 _ _ _ O.out.choose_spec.1).mono ?_
  rw [show decide (([7955382828454826704, 8577447940197089550, 9413272369427828315] : List Int).length ≤ 2) = false by decide]
  rintro e w8 ⟨rfl, hb⟩
  have O := Lib.hid (own_after O.out hb)
  clear hb
  go_wp2_with fail
  refine (least_ok _ 2 _ _ _ O.out.choose_spec.1 (by decide)).mono ?_
  rw [show leastN [7955382828454826704, 8577447940197089550, 9413272369427828315] 2 = 3 by decide]
  rintro e w9 ⟨rfl, hb⟩
  have O := Lib.hid (own_after O.out hb)
  clear hb
  go_wp2_with fail
  go_ret
  exact ⟨rfl, O.out.bel⟩
end Go.Proofs.Ytlbpdlhelkokbaa
