/- EventCompares: the law. -/
import Derived.Test.YtkhjnbjmbmacjaaDoorNOP
import Derived.Test.YtkhjnbjmbmacjaaDoorNOM
import Derived.Test.YtkhjnbjmbmacjaaDoorNOZ
namespace Go.Proofs.YtkhjnbjmbmacjaaDoor
open Go Go.RowKit

theorem compares_any (a b c : Ev) (w : World) (hE : Env w) :
    Calls Tryd.prog 5 #[a.v, b.v, c.v] w fun x w' => x = .returned (.bool true) ∧ Below w.heap.size w w' := by
  obtain ⟨p, q, r, hp, hq, hr, hcs⟩ := sign_cases a b c
  have h : p = 1 ∨ p = -1 ∨ p = 0 := by omega
  rcases h with rfl | rfl | rfl
  · exact compares_P a b c w hE q r hp hq hr (by omega)
  · exact compares_M a b c w hE q r hp hq hr (by omega)
  · exact compares_Z a b c w hE q r hp hq hr (by omega)
end Go.Proofs.YtkhjnbjmbmacjaaDoor
