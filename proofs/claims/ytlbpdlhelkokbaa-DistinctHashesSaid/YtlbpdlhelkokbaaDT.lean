/- The walk of the law of hashes. -/
import Derived.Test.YtlbpdlhelkokbaaDS
namespace Go.Proofs.Ytlbpdlhelkokbaa
open Go.RowKit

theorem hashes_law (s : ByteArray) (hs : s.size ≤ 140737488351232) (w : World) :
    Calls Try.prog 3 #[.string s] w fun e w' => e = .returned (.bool true) ∧ Below w.heap.size w w' := by
  by_cases hl : (300 : Int) < (s.size : Int)
  · go_enter Try.func3, Try.ntmps3
    go_wp2_with fail
    refine (awake_ok _).mono ?_
    rintro e w1 ⟨rfl, hb⟩
    have K := Lib.hid hb
    clear hb
    go_wp2_with fail
    go_ret
    exact ⟨rfl, K.out⟩
  · go_enter Try.func3, Try.ntmps3
    go_wp2_with fail
    refine (hash_ok s hs _).mono ?_
    rintro e w1 ⟨rfl, hb⟩
    have K := Lib.hid hb
    clear hb
    go_wp2_with fail
    refine (refHash_ok s hs _).mono ?_
    rintro e w2 ⟨rfl, hb⟩
    have K := Lib.hid (below_after K.out hb)
    clear hb
    go_wp2_with fail
    refine (awake_ok _).mono ?_
    rintro e w3 ⟨rfl, hb⟩
    have K := Lib.hid (below_after K.out hb)
    clear hb
    go_wp2_with fail
    go_ret
    exact ⟨rfl, K.out⟩
end Go.Proofs.Ytlbpdlhelkokbaa
