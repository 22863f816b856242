/- sort.Search with the counter's question; the question itself. -/
import Derived.Test.YtlbpdlhelkokbaaDJ
namespace Go.Proofs.Ytlbpdlhelkokbaa
open Go.RowKit Go.Lib

theorem ask_ok (bc bh g r n c i : Nat) (x h : Int) (w : World) (hi : i < n) (h1 : w.cell? ⟨bc, 0, none⟩ = some (.pointer (some ⟨g, 0, none⟩))) (h2 : w.cell? ⟨bh, 0, none⟩ = some (.int .u64 h))
    (h3 : w.cell? ⟨g, 1, none⟩ = some (.slice (some ⟨r, 0, none⟩) n c)) (h4 : w.cell? ⟨r, i, none⟩ = some (.int .u64 x)) :
    Calls Try.prog 37 #[.int .i64 i, .pointer (some ⟨bc, 0, none⟩), .pointer (some ⟨bh, 0, none⟩)] w fun e w' => e = .returned (.bool (decide (h ≤ x))) ∧ Below w.heap.size w w' := by
  have hi0 : (0 : Int) ≤ (i : Int) := by omega
  have hi1 : (i : Int) < (n : Int) := by omega
  go_enter Try.func37, Try.ntmps37
  go_wp2_with fail
  go_quiet (fail)
  go_wp2_with fail
  go_ret
  exact ⟨rfl, below_drN (Below.refl _ _) _⟩

theorem search_ok (n a : Nat) (cb : Array Value) (w : World) (hn : n ≤ 100000) (ha : a ≤ n)
    (hf : ∀ W, Below w.heap.size w W → ∀ i : Nat, i < n → Calls Try.prog 37 (#[.int .i64 i] ++ cb) W fun e w' => e = .returned (.bool (decide (a ≤ i))) ∧ Below W.heap.size W w') :
    Calls Try.prog 36 #[.int .i64 n, .func (.func 37) #[] cb] w fun e w' => e = .returned (.int .i64 a) ∧ Below w.heap.size w w' := by
  have HF := Lib.hid hf
  clear hf
  go_enter Try.func36, Try.ntmps36
  go_wp2_with fail
  go_loopw [5, 6] (fun s5 s6 wr => ∃ lo hi : Nat, s5 = .int .i64 lo ∧ s6 = .int .i64 hi ∧ lo ≤ a ∧ a ≤ hi ∧ hi ≤ n ∧ Hid (Below w.heap.size w wr)) (fun s5 s6 _ => (Go.RowKit.intOf s6).toNat - (Go.RowKit.intOf s5).toNat)
  case atStart => exact ⟨0, n, rfl, rfl, by omega, ha, Nat.le_refl _, Below.refl _ _⟩
  case round =>
    obtain ⟨lo, hi, rfl, rfl, h1, h2, h3, H⟩ := hrel
    by_cases hlt : lo < hi
    · have hc := HF.out wr H.out ((lo + hi) / 2) (by omega)
      rw [show (((lo + hi) / 2 : Nat) : Int) = ((lo : Int) + (hi : Int)) / 2 by omega] at hc
      have hlt' : (lo : Int) < hi := by omega
      by_cases hp : a ≤ (lo + hi) / 2
      · rw [decide_eq_true hp] at hc
        have HC := Lib.hid hc
        clear hc
        go_wp2_with (refine HC.out.mono ?_; rintro e w1 ⟨rfl, hb⟩)
        have K := Lib.hid (below_after H.out hb)
        clear hb
        go_wp2_with fail
        go_roundw
        case rel => exact ⟨lo, (lo + hi) / 2, rfl, by rw [show ((lo : Int) + (hi : Int)) / 2 = (((lo + hi) / 2 : Nat) : Int) by omega], h1, hp, by omega, K.out⟩
        case measure => simp [Go.RowKit.intOf]; omega
      · rw [decide_eq_false hp] at hc
        have HC := Lib.hid hc
        clear hc
        go_wp2_with (refine HC.out.mono ?_; rintro e w1 ⟨rfl, hb⟩)
        have K := Lib.hid (below_after H.out hb)
        clear hb
        go_wp2_with fail
        go_roundw
        case rel => exact ⟨(lo + hi) / 2 + 1, hi, by rw [show ((lo : Int) + (hi : Int)) / 2 + 1 = (((lo + hi) / 2 + 1 : Nat) : Int) by omega], rfl, by omega, h2, h3, K.out⟩
        case measure => simp [Go.RowKit.intOf]; omega
    · obtain rfl : hi = lo := by omega
      obtain rfl : a = hi := by omega
      go_wp2_with fail
      go_ret
      exact ⟨rfl, H.out⟩
end Go.Proofs.Ytlbpdlhelkokbaa
