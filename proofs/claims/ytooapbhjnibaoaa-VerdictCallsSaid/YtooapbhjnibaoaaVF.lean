/- The walk of the law of both. -/
import Derived.Test.YtooapbhjnibaoaaVE
namespace Go.Proofs.Ytooapbhjnibaoaa
open Go.RowKit

theorem part_rev (n : Nat) : ∀ (f : Nat → Nat), part f (n + 1) = part (fun i => f (n - i)) (n + 1) := by
  induction n with
  | zero => intro f; rfl
  | succ n ih =>
    intro f
    rw [part_s, part_succ' (fun i => f (n + 1 - i)) (n + 1), ih f, part_congr (f := fun i => f (n + 1 - (i + 1))) (g := fun i => f (n - i)) (fun i hi => by rw [show n + 1 - (i + 1) = n - i by omega])]
    simp only [Nat.sub_zero]
    omega
theorem tail_short (m : Nat) (k : Int) (h : m ≤ 62) : part (tailF m k) 63 = part (tailF m k) (m + 1) :=
  part_zero (fun i hi => by unfold tailF; rw [ch_big m i (by omega)]; split <;> rfl) (by omega)
theorem tail_both (m j : Nat) (h : m ≤ 62) (_ : j ≤ m + 1) : part (tailF m j) 63 + part (tailF m ((m : Int) - j + 1)) 63 = 2 ^ m := by
  rw [tail_short m _ h, tail_short m _ h, part_rev m (tailF m ((m : Int) - j + 1)), ← part_add, ← ch_all m]
  refine part_congr fun i hi => ?_
  have e := ch_symm m i (by omega)
  unfold tailF
  by_cases h1 : j ≤ i
  · rw [if_pos (by omega), if_neg (by omega)]; rfl
  · rw [if_neg (by omega), if_pos (by omega), ← e]; omega
theorem tail_less (m : Nat) (j : Int) : part (tailF m (j + 1)) 63 ≤ part (tailF m j) 63 := part_le fun i _ => by
  unfold tailF
  by_cases h : j + 1 ≤ i
  · rw [if_pos h, if_pos (by omega)]; exact Nat.le_refl _
  · rw [if_neg h]; exact Nat.zero_le _

theorem tail_int (m : Nat) (k : Int) (h : m ≤ 62) (T D : Nat) (eT : part (tailF m k) 63 = T) (eD : 2 ^ m = D) (N K : Int) (hN : N = m) (hK : K = k) (w : World) :
    Calls Try.prog 13 #[.int .i64 N, .int .i64 K] w fun e w' => e = .returned (.tuple #[.agg #[.int .i64 (T : Nat), .int .i64 (D : Nat)], .bool true]) ∧ Below w.heap.size w w' := by
  subst eT eD hN hK
  exact tail_ok m _ h w

set_option maxRecDepth 100000 in
set_option maxHeartbeats 2000000 in
theorem both_any (n k : Int) (hn : 0 ≤ n ∧ n ≤ 255) (hk : 0 ≤ k ∧ k ≤ 255) (w : World) :
    Calls Try.prog 6 #[.int .u8 n, .int .u8 k] w fun e w' => e = .returned (.bool true) ∧ Below w.heap.size w w' := by
  go_enter Try.func6, Try.ntmps6
  go_wp2_with fail
  obtain ⟨m, hm⟩ : ∃ m : Nat, n % 63 = m := ⟨(n % 63).toNat, by omega⟩
  rw [hm]
  obtain ⟨j, hj⟩ : ∃ j : Nat, k % ((m : Int) + 2) = j := ⟨_, (Int.toNat_of_nonneg (Int.emod_nonneg _ (by omega))).symm⟩
  rw [hj]
  have hm62 : m ≤ 62 := by omega
  have hjm : j ≤ m + 1 := by have := Int.emod_lt_of_pos k (show 0 < (m : Int) + 2 by omega); omega
  clear hm hj hn hk
  obtain ⟨A, B, C, D, F⟩ : ∃ A B C D : Nat, Hid (part (tailF m j) 63 = A ∧ part (tailF m ((m : Int) - j + 1)) 63 = B ∧ part (tailF m ((j : Int) + 1)) 63 = C ∧ 2 ^ m = D) := ⟨_, _, _, _, rfl, rfl, rfl, rfl⟩
  have E : A + B = D ∧ C ≤ A ∧ D ≤ 4611686018427387904 := by
    obtain ⟨rfl, rfl, rfl, rfl⟩ := F.out
    exact ⟨tail_both m j hm62 hjm, tail_less m j, pow_le62 hm62⟩
  have hD : IntKind.i64.wrap ((2 : Int) ^ m) = (D : Nat) := by
    have e : ((2 : Int) ^ m) = ((2 ^ m : Nat) : Int) := by simp
    rw [e, F.out.2.2.2, IntKind.wrap_i64]
    omega
  have hAB : ((A : Int) + B) = D := by omega
  have hCA : (C : Int) ≤ A := by omega
  have hAB2 : IntKind.i64.wrap ((A : Int) + B) = D := by rw [hAB, IntKind.wrap_i64]; omega
  have HM := Lib.hid hm62
  clear E hAB
  refine (tail_int m j hm62 A D F.out.1 F.out.2.2.2 _ _ rfl rfl _).mono ?_
  rintro e w1 ⟨rfl, hb⟩
  have A1 := blk_new w1 (.cells #[.int .i64 (A : Nat), .int .i64 (D : Nat)] 29 (0, 0))
  have K1 := Lib.hid (below_al (below_after (Below.refl _ _) hb) (.cells #[.int .i64 (A : Nat), .int .i64 (D : Nat)] 29 (0, 0)))
  clear hb
  go_wp2_with fail
  refine (tail_int m ((m : Int) - j + 1) HM.out B D F.out.2.1 F.out.2.2.2 _ _ rfl (by first | rfl | omega) _).mono ?_
  rintro e w2 ⟨rfl, hb⟩
  have A2 := blk_old (blk_below A1 hb) (.cells #[.int .i64 (B : Nat), .int .i64 (D : Nat)] 29 (0, 0))
  have B2 := blk_new w2 (.cells #[.int .i64 (B : Nat), .int .i64 (D : Nat)] 29 (0, 0))
  have K2 := Lib.hid (below_al (below_after K1.out hb) (.cells #[.int .i64 (B : Nat), .int .i64 (D : Nat)] 29 (0, 0)))
  clear hb A1 K1
  go_wp2_with fail
  refine (tail_int m ((j : Int) + 1) HM.out C D F.out.2.2.1 F.out.2.2.2 _ _ rfl (by first | rfl | omega) _).mono ?_
  rintro e w3 ⟨rfl, hb⟩
  have A3 := blk_old (blk_below A2 hb) (.cells #[.int .i64 (C : Nat), .int .i64 (D : Nat)] 29 (0, 0))
  have B3 := blk_old (blk_below B2 hb) (.cells #[.int .i64 (C : Nat), .int .i64 (D : Nat)] 29 (0, 0))
  have C3 := blk_new w3 (.cells #[.int .i64 (C : Nat), .int .i64 (D : Nat)] 29 (0, 0))
  have K3 := Lib.hid (below_al (below_after K2.out hb) (.cells #[.int .i64 (C : Nat), .int .i64 (D : Nat)] 29 (0, 0)))
  clear hb A2 B2 K2
  go_wp2_with fail
  refine region_calms 42 (0 :: 1 :: 2 :: 3 :: 4 :: 5 :: 6 :: 7 :: 8 :: 9 :: 10 :: 11 :: 12 :: 13 :: 14 :: 15 :: 16 :: 17 :: 18 :: 19 :: 20 :: 21 :: 22 :: 23 :: 24 :: 25 :: 26 :: 27 :: 28 :: 29 :: 30 :: 31 :: 32 :: 33 :: 34 :: 35 :: 36 :: 37 :: 38 :: 39 :: 40 :: 41 :: []) 0 (by kernel_rfl) (by kernel_rfl) ?_ ?_
  · intro _ _ _ _ _ h; exact h
  repeat
    refine wpCalm_ex rfl ?_
    apply Exists.intro
    refine ⟨fun wq hq => ?_, ?_⟩
    · obtain ⟨a0, a1, _, _⟩ := two_cells (blk_below A3 hq)
      obtain ⟨b0, b1, _, _⟩ := two_cells (blk_below B3 hq)
      obtain ⟨c0, c1, _, _⟩ := two_cells (blk_below C3 hq)
      go_simp
      first
        | (simp only [hD]; rfl)
        | (simp only [hAB2]; rfl)
        | (simp only [beq_self_eq_true]; rfl)
        | (simp only [hCA, decide_true]; rfl)
        | rfl
        | (with_reducible exact awake_ok _)
    simp only [Act.put, List.setIfInBounds_toArray, List.set_cons_zero, List.set_cons_succ]
  refine wpCalm_nil (wpT_done (by kernel_rfl) fun w4 hb => ?_)
  have K4 := Lib.hid (below_after K3.out hb)
  clear hb K3 A3 B3 C3
  go_wp2
  go_ret
  exact ⟨rfl, K4.out⟩

theorem u8_wf {n : Int} (h : (Lit.int .u8 n).wf = true) : 0 ≤ n ∧ n ≤ 255 := by
  simp [Lit.wf, IntKind.min, IntKind.max, IntKind.signed, IntKind.bits] at h
  omega
theorem both_law (n k : Int) (hn : (Lit.int .u8 n).wf = true) (hk : (Lit.int .u8 k).wf = true) (w : World) :
    Calls Try.prog 6 #[.int .u8 n, .int .u8 k] w fun e w' => e = .returned (.bool true) ∧ Below w.heap.size w w' := both_any n k (u8_wf hn) (u8_wf hk) w
end Go.Proofs.Ytooapbhjnibaoaa
