/- The walk of the law of sums of choices. -/
import Derived.Test.YtooapbhjnibaoaaVF
namespace Go.Proofs.Ytooapbhjnibaoaa
open Go.RowKit

theorem choose_nat (n k : Nat) (h : n ≤ 62) (C : Nat) (e : ch n k = C) (N K : Int) (hN : N = n) (hK : K = k) (w : World) :
    Calls Try.prog 10 #[.int .i64 N, .int .i64 K] w fun e w' => e = .returned (.tuple #[.int .u64 (C : Nat), .bool true]) ∧ Below w.heap.size w w' := by
  subst e hN hK
  by_cases h1 : k ≤ n
  · exact choose_in n k h h1 w
  · rw [ch_big n k (by omega)]
    exact choose_out n k (by omega) (by omega) (by omega) w

theorem choose_int (n : Nat) (h : n ≤ 62) (N K : Int) (hN : N = n) (C : Nat) (e : (if 0 ≤ K then ch n K.toNat else 0) = C) (w : World) :
    Calls Try.prog 10 #[.int .i64 N, .int .i64 K] w fun e w' => e = .returned (.tuple #[.int .u64 (C : Nat), .bool true]) ∧ Below w.heap.size w w' := by
  by_cases h0 : 0 ≤ K
  · rw [if_pos h0] at e
    exact choose_nat n K.toNat h C e N K hN (by omega) w
  · rw [if_neg h0] at e
    subst e hN
    exact choose_out n K (by omega) (by omega) (by omega) w

set_option maxRecDepth 100000 in
set_option maxHeartbeats 2000000 in
theorem sums_any (n k : Int) (hn : 0 ≤ n ∧ n ≤ 255) (hk : 0 ≤ k ∧ k ≤ 255) (w : World) :
    Calls Try.prog 5 #[.int .u8 n, .int .u8 k] w fun e w' => e = .returned (.bool true) ∧ Below w.heap.size w w' := by
  obtain ⟨m, hm⟩ : ∃ m : Nat, n % 63 = m := ⟨(n % 63).toNat, by omega⟩
  have hm62 : m ≤ 62 := by omega
  obtain ⟨j, hj⟩ : ∃ j : Nat, k % ((m : Int) + 1) = j := ⟨_, (Int.toNat_of_nonneg (Int.emod_nonneg _ (by omega))).symm⟩
  have hjm : j ≤ m := by have := Int.emod_lt_of_pos k (show 0 < (m : Int) + 1 by omega); omega
  go_enter Try.func5, Try.ntmps5
  go_wp2_with fail
  rw [hm, hj]
  clear hm hj hn hk
  go_loopw [7, 29] (fun s v wr => ∃ i : Nat, i ≤ m + 1 ∧ v = .int .i64 i ∧ s = .int .u64 (part (ch m) i : Nat) ∧ Hid (Below w.heap.size w wr)) (fun _ v _ => m + 1 - (intOf v).toNat)
  case atStart => exact ⟨0, by omega, rfl, rfl, Below.refl _ _⟩
  case round =>
    obtain ⟨i, hi, rfl, rfl, K⟩ := hrel
    by_cases hlt : i < m + 1
    · have hlt' : (i : Int) < m + 1 := by omega
      obtain ⟨S, T, C, F⟩ : ∃ S T C : Nat, Hid (part (ch m) i = S ∧ part (ch m) (i + 1) = T ∧ ch m i = C) := ⟨_, _, _, rfl, rfl, rfl⟩
      have hT : IntKind.u64.wrap ((S : Int) + C) = T := by
        have e1 : S + C = T := by rw [← F.out.1, ← F.out.2.1, ← F.out.2.2]; rfl
        have e2 : T ≤ 4611686018427387904 := by
          have e3 := part_mono (ch m) (i + 1) (m + 1)
          rw [ch_all_more (n := m) (j := i + 1 + (m + 1)) (by omega)] at e3
          have := pow_le62 hm62
          rw [← F.out.2.1]; omega
        rw [IntKind.wrap_u64]; omega
      rw [F.out.1]
      go_wp2_with fail
      refine (choose_nat m i hm62 C F.out.2.2 _ _ rfl rfl _).mono ?_
      rintro e w1 ⟨rfl, hb⟩
      have K1 := Lib.hid (below_after K.out hb)
      clear hb K
      go_wp2_with fail
      refine (choose_nat m (m - i) hm62 C (by rw [← ch_symm m i (by omega)]; exact F.out.2.2) _ _ rfl (by omega) _).mono ?_
      rintro e w2 ⟨rfl, hb⟩
      have K2 := Lib.hid (below_after K1.out hb)
      clear hb K1
      go_wp2_with fail
      go_roundw
      case rel => exact ⟨i + 1, by omega, by go_num, by rw [F.out.2.1], K2.out⟩
      case measure => simp [intOf]; omega
    · obtain rfl : i = m + 1 := by omega
      clear hi hlt
      obtain ⟨D, eD⟩ : ∃ D : Nat, Hid (2 ^ m = D) := ⟨_, rfl⟩
      have hD : IntKind.u64.wrap ((2 : Int) ^ m) = (D : Nat) := by
        have e : ((2 : Int) ^ m) = ((2 ^ m : Nat) : Int) := by simp
        have := pow_le62 hm62
        rw [eD.out] at this
        rw [e, eD.out, IntKind.wrap_u64]
        omega
      rw [ch_all, eD.out]
      have HM := Lib.hid hm62
      have HJ := Lib.hid hjm
      by_cases hm0 : m = 0
      · subst hm0
        obtain rfl : D = 1 := by have := eD.out; simpa using this.symm
        go_wp2_with fail
        refine (awake_ok _).mono ?_
        rintro e w1 ⟨rfl, hb⟩
        have K1 := Lib.hid (below_after K.out hb)
        clear hb K
        go_wp2
        go_ret
        exact ⟨rfl, K1.out⟩
      · have hm0' : ¬ (m : Int) = 0 := by omega
        have hm1 : (1 : Int) ≤ m := by omega
        obtain ⟨A, B, C, F⟩ : ∃ A B C : Nat, Hid ((if 0 ≤ (j : Int) - 1 then ch (m - 1) ((j : Int) - 1).toNat else 0) = A ∧ ch (m - 1) j = B ∧ ch m j = C) := ⟨_, _, _, rfl, rfl, rfl⟩
        have hABC : IntKind.u64.wrap ((A : Int) + B) = C := by
          have e1 : A + B = C := by
            obtain ⟨rfl, rfl, rfl⟩ := F.out
            cases j with
            | zero => rw [ch_zero, ch_zero, if_neg (by omega)]
            | succ j =>
              rw [if_pos (by omega), show (((j + 1 : Nat) : Int) - 1).toNat = j by omega]
              have := ch_succ (m - 1) j
              rw [show m - 1 + 1 = m by omega] at this
              exact this.symm
          have e2 : C ≤ 4611686018427387904 := by
            have e3 := ch_le m j
            have := pow_le62 HM.out
            rw [← F.out.2.2]; omega
          rw [IntKind.wrap_u64]; omega
        have hDne : ((D : Int) != IntKind.u64.wrap ((2 : Int) ^ min m 64)) = false := by rw [Nat.min_eq_left (show m ≤ 64 by omega), hD]; simp
        have hDne2 : ((D : Int) != IntKind.u64.wrap ((2 : Int) ^ m)) = false := by rw [hD]; simp
        have hm2 : ((m : Int) == 0) = false := by simpa using hm0
        have hmI : (m : Int) ≤ 62 := by omega
        have hjI : (j : Int) ≤ m := by omega
        clear hm62 hjm hD
        go_wp2_with fail
        refine (choose_int (m - 1) (by have := HM.out; omega) ((m : Int) - 1) ((j : Int) - 1) (by omega) A F.out.1 _).mono ?_
        rintro e w1 ⟨rfl, hb⟩
        have K1 := Lib.hid (below_after K.out hb)
        clear hb K
        go_wp2_with fail
        refine (choose_nat (m - 1) j (by have := HM.out; omega) B F.out.2.1 ((m : Int) - 1) j (by omega) rfl _).mono ?_
        rintro e w2 ⟨rfl, hb⟩
        have K2 := Lib.hid (below_after K1.out hb)
        clear hb K1
        go_wp2_with fail
        refine (choose_nat m j HM.out C F.out.2.2 _ _ rfl rfl _).mono ?_
        rintro e w3 ⟨rfl, hb⟩
        have K3 := Lib.hid (below_after K2.out hb)
        clear hb K2
        go_wp2_with fail
        refine (awake_ok _).mono ?_
        rintro e w4 ⟨rfl, hb⟩
        have K4 := Lib.hid (below_after K3.out hb)
        clear hb K3
        go_wp2
        go_ret
        exact ⟨rfl, K4.out⟩

theorem sums_law (n k : Int) (hn : (Lit.int .u8 n).wf = true) (hk : (Lit.int .u8 k).wf = true) (w : World) :
    Calls Try.prog 5 #[.int .u8 n, .int .u8 k] w fun e w' => e = .returned (.bool true) ∧ Below w.heap.size w w' := sums_any n k (u8_wf hn) (u8_wf hk) w
end Go.Proofs.Ytooapbhjnibaoaa
