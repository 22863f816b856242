/- The walks of the reference's power and tail. -/
import Derived.Test.YtooapbhjnibaoaaVI
namespace Go.Proofs.Ytooapbhjnibaoaa
open Go.RowKit

set_option maxHeartbeats 1000000 in
theorem power_ok (n : Nat) (h : n ≤ 62) (w : World) :
    Calls Try.prog 15 #[.int .i64 n] w fun e w' => e = .returned (.int .i64 (2 ^ n : Nat)) ∧ Below w.heap.size w w' := by
  obtain ⟨P, eP⟩ : ∃ P : Nat, 2 ^ n = P := ⟨_, rfl⟩
  rw [eP]
  go_enter Try.func15, Try.ntmps15
  go_wp2_with fail
  go_loopw [3, 4] (fun v3 v4 wr => ∃ i D : Nat, i ≤ n ∧ v4 = .int .i64 i ∧ v3 = .int .i64 D ∧ Hid (2 ^ i = D) ∧ wr = w) (fun _ v4 _ => n - (intOf v4).toNat)
  case atStart => exact ⟨0, 1, by omega, rfl, rfl, rfl, rfl⟩
  case round =>
    obtain ⟨i, D, hi, rfl, rfl, hD, rfl⟩ := hrel
    by_cases hlt : i < n
    · have hlt' : (i : Int) < n := by omega
      have hD2 : (D : Int) * 2 ≤ 4611686018427387904 := by
        have := pow_le62 (show i + 1 ≤ 62 by omega)
        rw [Nat.pow_succ, hD.out] at this
        omega
      have hD0 : (0 : Int) ≤ D := by omega
      go_wp2_with fail
      go_roundw
      case rel => exact ⟨i + 1, 2 * D, by omega, by go_num, by first | go_num | (congr 1; first | omega | (unfold wrap64; omega)), by show 2 ^ (i + 1) = 2 * D; rw [Nat.pow_succ, hD.out]; omega, by first | trivial | rfl⟩
      case measure => simp [intOf]; omega
    · obtain rfl : i = n := by omega
      obtain rfl : D = P := hD.out.symm.trans eP
      go_wp2
      go_ret
      exact ⟨rfl, Below.refl _ _⟩

theorem part_none {f : Nat → Nat} : ∀ {j : Nat}, (∀ i, i < j → f i = 0) → part f j = 0
  | 0, _ => rfl
  | j + 1, h => by rw [part_s, part_none (fun i hi => h i (by omega)), h j (by omega)]

set_option maxHeartbeats 1000000 in
theorem refTail_ok (n : Nat) (k : Int) (h : n ≤ 62) (w : World) :
    Calls Try.prog 14 #[.int .i64 n, .int .i64 k] w fun e w' => e = .returned (.int .i64 (part (tailF n k) 63 : Nat)) ∧ Below w.heap.size w w' := by
  obtain ⟨T, eT⟩ : ∃ T : Nat, part (tailF n k) 63 = T := ⟨_, rfl⟩
  rw [eT]
  have ET := Lib.hid eT
  clear eT
  have hk : k < 0 ∨ ¬ k < 0 := by omega
  go_enter Try.func14, Try.ntmps14
  rcases hk with h0 | h0
  all_goals
    go_wp2_with fail
    go_loopw [5, 6] (fun v5 v6 wr => ∃ c S : Nat, Hid (k ≤ c) ∧ v6 = .int .i64 c ∧ v5 = .int .i64 S ∧ Hid (part (tailF n k) c = S) ∧ Hid (Below w.heap.size w wr)) (fun _ v6 _ => n + 1 - (intOf v6).toNat)
    case atStart =>
      first
        | exact ⟨0, 0, by unfold Hid; omega, rfl, rfl, rfl, Below.refl _ _⟩
        | exact ⟨k.toNat, 0, by unfold Hid; omega, by rw [Int.toNat_of_nonneg (by omega)], rfl, part_none (fun i hi => by unfold tailF; rw [if_neg (by omega)]), Below.refl _ _⟩
    case round =>
      obtain ⟨c, S, hc, rfl, rfl, hS, K⟩ := hrel
      by_cases hlt : c ≤ n
      · have hlt' : (c : Int) ≤ n := by omega
        obtain ⟨C, eC⟩ : ∃ C : Nat, Hid (ch n c = C) := ⟨_, rfl⟩
        have hb := tail_le n k (c + 1)
        have hp := pow_le62 h
        have e : tailF n k c = C := by unfold tailF; rw [if_pos hc.out]; exact eC.out
        rw [part_s, hS.out, e] at hb
        have hSC : (S : Int) + C ≤ 4611686018427387904 := by omega
        have hS0 : (0 : Int) ≤ (S : Int) + C := by omega
        have E := Lib.hid e
        clear hb hp e
        go_wp2_with fail
        refine (refChoose_in n c h hlt _).mono ?_
        rw [eC.out]
        rintro e w1 ⟨rfl, hb⟩
        have K1 := Lib.hid (below_after K.out hb)
        clear hb K
        go_wp2_with fail
        go_roundw
        case rel => exact ⟨c + 1, S + C, by unfold Hid; have := hc.out; omega, by go_num, by first | go_num | (congr 1; first | omega | (unfold wrap64; omega)), by show part _ _ = _; rw [part_s, hS.out, E.out], K1.out⟩
        case measure => simp [intOf]; omega
      · have hlt' : ¬ (c : Int) ≤ n := by omega
        obtain rfl : S = T := by
          rw [← hS.out, ← ET.out, tail_short n k h]
          exact part_zero (fun i hi => by unfold tailF; rw [ch_big n i (by omega)]; split <;> rfl) (by omega)
        go_wp2
        go_ret
        exact ⟨rfl, K.out⟩
end Go.Proofs.Ytooapbhjnibaoaa
