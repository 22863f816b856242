/- event.digits. -/
import Derived.Test.YtkhjnbjmbmacjaaDoorND
namespace Go.Proofs.YtkhjnbjmbmacjaaDoor
open Go Go.RowKit Go.Proofs.YtkhjnbjmbmacjaaDoorW.PrintWords

def one (d : Nat) : ByteArray := ⟨#[UInt8.ofNat (48 + d)]⟩
def digF (n : Nat) (s : ByteArray) : ByteArray := if 9 < n then digF (n / 10) (one (n % 10) ++ s) else one n ++ s
termination_by n
theorem enc_digit (d : Nat) (h : d ≤ 9) : Utf8.encode (48 + (d : Int)) = one d := by
  have h2 : d = 0 ∨ d = 1 ∨ d = 2 ∨ d = 3 ∨ d = 4 ∨ d = 5 ∨ d = 6 ∨ d = 7 ∨ d = 8 ∨ d = 9 := by omega
  rcases h2 with rfl | rfl | rfl | rfl | rfl | rfl | rfl | rfl | rfl | rfl <;> rfl
set_option maxHeartbeats 1000000 in
theorem digits_ok (n : Nat) (w : World) (hn : n ≤ 1099511627776) :
    Calls Tryd.prog 45 #[.int .i64 n] w fun e w' => e = .returned (.string (digF n ⟨#[]⟩)) ∧ Below w.heap.size w w' := by
  obtain ⟨R, hR⟩ : ∃ R, digF n ⟨#[]⟩ = R := ⟨_, rfl⟩
  rw [hR]
  have H0 := Lib.hid hR
  clear hR
  go_enter Tryd.func45, Tryd.ntmps45
  go_wp2_with fail
  go_loop [0, 3] (fun s0 s3 => ∃ (m : Nat) (s : ByteArray), m + s.size ≤ 1099511627776 ∧ s0 = .int .i64 m ∧ s3 = .string s ∧ Hid (digF m s = R)) (fun s0 _ => (intOf s0).toNat)
  case atStart => exact ⟨n, ⟨#[]⟩, hn, rfl, rfl, H0⟩
  case round =>
    obtain ⟨m, s, hm, rfl, rfl, H⟩ := hrel
    clear H0
    by_cases h : 9 < m
    · have h' : (9 : Int) < m := by omega
      obtain ⟨q, hq⟩ : ∃ q : Nat, m / 10 = q := ⟨_, rfl⟩
      obtain ⟨d, hd⟩ : ∃ d : Nat, m % 10 = d := ⟨_, rfl⟩
      have e1 : Int.tdiv (m : Int) 10 = (q : Int) := by rw [← hq]; rfl
      have e2 : Int.tmod (m : Int) 10 = (d : Int) := by rw [← hd]; rfl
      have d9 : d ≤ 9 := by omega
      have e3 := enc_digit d d9
      have e4 : (one d).size = 1 := rfl
      have e5 : ¬ 9223372036854775807 < (one d).size + s.size := by omega
      have N : Hid (digF q (one d ++ s) = R) := by
        have := H.out
        rw [digF, if_pos h, hq, hd] at this
        exact this
      have hm2 : q + (one d ++ s).size ≤ 1099511627776 := by rw [ByteArray.size_append]; omega
      have hql : q < m := by omega
      clear H hq hd e4
      go_wp2_with fail
      go_round
      case rel => exact ⟨q, _, hm2, rfl, rfl, N⟩
      case measure => simp [intOf]; omega
    · have h' : ¬ (9 : Int) < m := by omega
      have e3 := enc_digit m (by omega)
      have e4 : (one m).size = 1 := rfl
      have e5 : ¬ 9223372036854775807 < (one m).size + s.size := by omega
      have N : Hid (one m ++ s = R) := by
        have := H.out
        rw [digF, if_neg h] at this
        exact this
      clear H e4
      go_wp2_with fail
      go_ret
      exact ⟨by rw [← N.out]; rfl, Below.refl _ _⟩
end Go.Proofs.YtkhjnbjmbmacjaaDoor
