/- EventCompares: the law's walk, one sign; printed by wip/tools/compwalk.py. -/
import Derived.Test.YtkhjnbjmbmacjaaDoorNO
import Derived.Deep.DeepCutAuto
namespace Go.Proofs.YtkhjnbjmbmacjaaDoor
open Go Go.RowKit

set_option maxHeartbeats 4000000 in
set_option maxRecDepth 100000 in
theorem compares_Z (a b c : Ev) (w : World) (hE : Env w) (q r : Int) (hp : compareF a b = 0) (hq : compareF b c = q) (hr : compareF a c = r) (hcs : q = 1 ∨ (q = -1 ∧ r < 0) ∨ (q = 0 ∧ r = 0)) :
    Calls Tryd.prog 5 #[a.v, b.v, c.v] w fun x w' => x = .returned (.bool true) ∧ Below w.heap.size w w' := by
  have HE := Lib.hid hE
  clear hE
  have BA := Lib.hid (fun W => big_ok a 1000 W)
  have BB := Lib.hid (fun W => big_ok b 1000 W)
  have BC := Lib.hid (fun W => big_ok c 1000 W)
  have L1 := Lib.hid (fun W => less_ok a b W)
  have L2 := Lib.hid (fun W => less_ok b a W)
  rw [compare_less, hp] at L1
  rw [compare_less, compare_neg a b, hp] at L2
  have C1 := Lib.hid (fun W => compare_ok a b W)
  have C2 := Lib.hid (fun W => compare_ok b c W)
  have C3 := Lib.hid (fun W => compare_ok a c W)
  have C4 := Lib.hid (fun W => compare_ok b a W)
  have C5 := Lib.hid (fun W => compare_ok a a W)
  rw [hp] at C1
  rw [hq] at C2
  rw [hr] at C3
  rw [compare_neg a b, hp] at C4
  rw [compare_self] at C5
  have S1 := Lib.hid (fun W => same_ok a b W)
  generalize bigF a 1000 = ba at *
  generalize bigF b 1000 = bb at *
  generalize bigF c 1000 = bc at *
  clear hp hq hr
  go_enter Tryd.func5, Tryd.ntmps5
  go_wp2_with fail
  refine (lives_ok _ (HE.out.below (below_al (below_al (below_al (Below.refl _ _) _) _) _) (Nat.le_refl _))).mono ?_
  rintro x w1 ⟨rfl, hb⟩
  have T : Hid (Three w w1 a b c) := by
    refine ⟨below_after (below_al (below_al (below_al (Below.refl _ _) _) _) _) hb, blk_below (blk_old (blk_old (blk_new _ _) _) _) hb, blk_below (blk_old (blk_new_at _ (by simp)) _) hb, blk_below (blk_new_at _ (by simp)) hb⟩
  clear hb
  obtain ⟨a0, a1, a2, a3, a4, a5, a6, a7⟩ := ev_cells T.out.a
  go_wp2_with fail
  refine (BA.out _).mono ?_
  rintro x w2 ⟨rfl, hb⟩
  have T := Lib.hid (T.out.on hb)
  clear hb a0 a1 a2 a3 a4 a5 a6 a7
  cases ba with
  | true =>
    go_wp2_with fail
    go_ret
    exact ⟨rfl, T.out.bel⟩
  | false =>
  obtain ⟨b0, b1, b2, b3, b4, b5, b6, b7⟩ := ev_cells T.out.b
  go_wp2_with fail
  refine (BB.out _).mono ?_
  rintro x w3 ⟨rfl, hb⟩
  have T := Lib.hid (T.out.on hb)
  clear hb b0 b1 b2 b3 b4 b5 b6 b7
  cases bb with
  | true =>
    go_wp2_with fail
    go_ret
    exact ⟨rfl, T.out.bel⟩
  | false =>
  obtain ⟨c0, c1, c2, c3, c4, c5, c6, c7⟩ := ev_cells T.out.c
  go_wp2_with fail
  refine (BC.out _).mono ?_
  rintro x w4 ⟨rfl, hb⟩
  have T := Lib.hid (T.out.on hb)
  clear hb c0 c1 c2 c3 c4 c5 c6 c7
  cases bc with
  | true =>
    go_wp2_with fail
    go_ret
    exact ⟨rfl, T.out.bel⟩
  | false =>
  have L1 : Hid (∀ W, Calls Tryd.prog 27 #[a.v, b.v] W fun e w' => e = .returned (.bool false) ∧ Below W.heap.size W w') := L1.out
  have L2 : Hid (∀ W, Calls Tryd.prog 27 #[b.v, a.v] W fun e w' => e = .returned (.bool false) ∧ Below W.heap.size W w') := L2.out
  have C4 : Hid (∀ W, Calls Tryd.prog 28 #[b.v, a.v] W fun e w' => e = .returned (.int .i64 (0)) ∧ Below W.heap.size W w') := C4.out
  obtain ⟨a0, a1, a2, a3, a4, a5, a6, a7⟩ := ev_cells T.out.a
  obtain ⟨b0, b1, b2, b3, b4, b5, b6, b7⟩ := ev_cells T.out.b
  go_wp2_with fail
  refine (L1.out _).mono ?_
  rintro x w5 ⟨rfl, hb⟩
  have T := Lib.hid (T.out.on hb)
  clear hb a0 a1 a2 a3 a4 a5 a6 a7 b0 b1 b2 b3 b4 b5 b6 b7
  obtain ⟨a0, a1, a2, a3, a4, a5, a6, a7⟩ := ev_cells T.out.a
  obtain ⟨b0, b1, b2, b3, b4, b5, b6, b7⟩ := ev_cells T.out.b
  go_wp2_with fail
  refine (L2.out _).mono ?_
  rintro x w6 ⟨rfl, hb⟩
  have T := Lib.hid (T.out.on hb)
  clear hb a0 a1 a2 a3 a4 a5 a6 a7 b0 b1 b2 b3 b4 b5 b6 b7
  go_wp2_with fail
  refine region_keeps (F := No) 9 [0, 1, 2, 3, 4, 5, 6, 7, 8] 0 (by kernel_rfl) (by kernel_rfl) ?_ ?_
  · intro _ _ _ _ _ h; exact h
  repeat
    refine wpCalm_ex rfl ?_
    apply Exists.intro
    refine ⟨fun wq hq => ?_, ?_⟩
    · have TQ := T.out.on hq.no_below
      obtain ⟨a0, a1, a2, a3, a4, a5, a6, a7⟩ := ev_cells TQ.a
      obtain ⟨b0, b1, b2, b3, b4, b5, b6, b7⟩ := ev_cells TQ.b
      obtain ⟨c0, c1, c2, c3, c4, c5, c6, c7⟩ := ev_cells TQ.c
      go_simp
      first
        | (with_reducible exact calm_below (C1.out _))
        | (with_reducible exact calm_below (C2.out _))
        | (with_reducible exact calm_below (C3.out _))
        | rfl
    simp only [Act.put, List.setIfInBounds_toArray, List.set_cons_zero, List.set_cons_succ]
  refine wpCalm_nil (wpT_tail (by kernel_rfl) fun w7 hb => ?_)
  have T := Lib.hid (T.out.on hb.no_below)
  clear hb
  go_upto_region 11 with fail
  go_cut [57] (fun s57 wx => s57 = .bool false ∧ w7 = wx)
  case first =>
    clear HE L1 L2 C1 C2 C3 C4 C5 S1 BA BB BC T
    rcases hcs with rfl | ⟨rfl, hr1⟩ | ⟨rfl, rfl⟩
    all_goals
      go_wp2_with fail
      go_meet
      exact ⟨by first | rfl | exact congrArg Value.bool (decide_eq_false (by omega)), rfl⟩
  case rest =>
    obtain ⟨rfl, rfl⟩ := hcut
    clear hcs
    go_wp2_with fail
    cases hsrc : (a.src.toList == b.src.toList) with
    | true =>
      have hs : sameF a b = (a.num == b.num) := by unfold sameF; rw [hsrc]; rfl
      rw [hs] at S1
      have HSRC := Lib.hid hsrc
      clear hs hsrc
      refine region_keeps (F := No) 35 (0 :: 1 :: 2 :: 3 :: 4 :: 5 :: 6 :: 7 :: 8 :: 9 :: 10 :: 11 :: 12 :: 13 :: 14 :: 15 :: 16 :: 17 :: 18 :: 19 :: 20 :: 21 :: 22 :: 23 :: 24 :: 25 :: 26 :: 27 :: 28 :: 29 :: 30 :: 31 :: 32 :: 33 :: 34 :: []) 0 (by kernel_rfl) (by kernel_rfl) ?_ ?_
      · intro _ _ _ _ _ h; exact h
      repeat
        first
          | (refine wpCalm_skip rfl ?_)
          | (refine wpCalm_ex rfl ?_
             apply Exists.intro
             refine ⟨fun wq hq => ?_, ?_⟩
             · have TQ := T.out.on hq.no_below
               obtain ⟨a0, a1, a2, a3, a4, a5, a6, a7⟩ := ev_cells TQ.a
               obtain ⟨b0, b1, b2, b3, b4, b5, b6, b7⟩ := ev_cells TQ.b
               go_simp
               first
                 | (with_reducible exact calm_below (C4.out _))
                 | (with_reducible exact calm_below (C5.out _))
                 | (with_reducible exact calm_below (S1.out _))
                 | (simp only [HSRC.out]; rfl)
                 | (simp only [beq_self_eq_true]; rfl)
                 | rfl)
        simp only [Act.put, List.setIfInBounds_toArray, List.set_cons_zero, List.set_cons_succ]
      refine wpCalm_nil (wpT_tail (by kernel_rfl) fun w8 hb => ?_)
      have T := Lib.hid (T.out.on hb.no_below)
      clear hb
      go_wp2_with fail
      go_ret
      exact ⟨rfl, T.out.bel⟩
    | false =>
      have hs : sameF a b = false := by unfold sameF; rw [hsrc]; rfl
      rw [hs] at S1
      have HSRC := Lib.hid hsrc
      clear hs hsrc
      refine region_keeps (F := No) 35 (0 :: 1 :: 2 :: 3 :: 4 :: 5 :: 6 :: 7 :: 8 :: 9 :: 10 :: 11 :: 12 :: 13 :: 14 :: 15 :: 16 :: 17 :: 18 :: 19 :: 20 :: 21 :: 22 :: 23 :: 24 :: 25 :: 26 :: 27 :: 28 :: 29 :: 30 :: 31 :: 32 :: 33 :: 34 :: []) 0 (by kernel_rfl) (by kernel_rfl) ?_ ?_
      · intro _ _ _ _ _ h; exact h
      repeat
        first
          | (refine wpCalm_skip rfl ?_)
          | (refine wpCalm_ex rfl ?_
             apply Exists.intro
             refine ⟨fun wq hq => ?_, ?_⟩
             · have TQ := T.out.on hq.no_below
               obtain ⟨a0, a1, a2, a3, a4, a5, a6, a7⟩ := ev_cells TQ.a
               obtain ⟨b0, b1, b2, b3, b4, b5, b6, b7⟩ := ev_cells TQ.b
               go_simp
               first
                 | (with_reducible exact calm_below (C4.out _))
                 | (with_reducible exact calm_below (C5.out _))
                 | (with_reducible exact calm_below (S1.out _))
                 | (simp only [HSRC.out]; rfl)
                 | (simp only [beq_self_eq_true]; rfl)
                 | rfl)
        simp only [Act.put, List.setIfInBounds_toArray, List.set_cons_zero, List.set_cons_succ]
      refine wpCalm_nil (wpT_tail (by kernel_rfl) fun w8 hb => ?_)
      have T := Lib.hid (T.out.on hb.no_below)
      clear hb
      go_wp2_with fail
      go_ret
      exact ⟨rfl, T.out.bel⟩
end Go.Proofs.YtkhjnbjmbmacjaaDoor
