/- The document's May, walked; printed by wip/tools/refmay.py. -/
import Derived.Test.YtkhjnbjmbmacjaaDoorPC
namespace Go.Proofs.YtkhjnbjmbmacjaaDoor
open Go Go.RowKit Go.Proofs.YtkhjnbjmbmacjaaDoorW.PrintWords

theorem refIn_ok (n a b : Int) (w : World) : Calls Tryd.prog 41 #[.int .i64 n, .int .i64 a, .int .i64 b] w fun e w' => e = .returned (.bool (inF n a b)) ∧ Below w.heap.size w w' := by
  refine (KA.ciceroneref02_In.calls n a b (inF n a b) w ?_).mono fun _ _ ⟨h1, h2⟩ => ⟨h1, ?_⟩
  · unfold KA.ciceroneref02_In.f inF
    by_cases h : a ≤ n
    · rw [if_pos h, decide_eq_true h]; rfl
    · rw [if_neg (by omega), decide_eq_false h]; rfl
  · obtain ⟨q, rfl⟩ := h2; exact below_drN (Below.refl _ _) q
theorem inF_zero (n : Int) : inF n 0 0 = (n == 0) := by
  unfold inF
  by_cases h : n = 0
  · subst h; rfl
  · rw [beq_eq_false_iff_ne.2 h]
    by_cases h1 : 0 ≤ n
    · rw [decide_eq_true h1, decide_eq_false (by omega)]; rfl
    · rw [decide_eq_false h1]; rfl
set_option maxHeartbeats 1000000 in
set_option maxRecDepth 100000 in
theorem refMay_0 (src person item text : ByteArray) (num at' val : Int) (w : World) (f1 : src.size ≤ 4000000000) (f2 : person.size ≤ 4000000000) (f3 : item.size ≤ 4000000000) :
    Calls Tryd.prog 14 #[(⟨src, num, at', 0, person, item, val, text⟩ : Ev).v] w fun x w' => x = .returned (.bool (mayF ⟨src, num, at', 0, person, item, val, text⟩)) ∧ Below w.heap.size w w' := by
  have N1 := Lib.hid (fun W => refName_ok src W f1)
  have I1 := Lib.hid (fun W => refIn_ok num 1 1099511627776 W)
  have I2 := Lib.hid (fun W => refIn_ok at' 0 1099511627776 W)
  have P1 := Lib.hid (fun W => refName_ok person W f2)
  have P2 := Lib.hid (fun W => refName_ok item W f3)
  have hR : mayF ⟨src, num, at', 0, person, item, val, text⟩ = (true && (nameB src && (inF num 1 1099511627776 && (inF at' 0 1099511627776 && (inF val 0 0 && (nameB person && (nameB item && (text.toList == [])))))))) := rfl
  rw [inF_zero] at hR
  generalize mayF ⟨src, num, at', 0, person, item, val, text⟩ = R at *
  generalize nameB src = b1 at *
  generalize inF num 1 1099511627776 = b2 at *
  generalize inF at' 0 1099511627776 = b3 at *
  generalize nameB person = bp at *
  generalize nameB item = bi at *
  generalize hv : (val == 0) = bv at *
  generalize ht : (text.toList == []) = bt at *
  have ht2 : text.toList.isEmpty = bt := by rw [← ht]; cases text.toList <;> rfl
  have HR := Lib.hid hR
  clear hR f1 f2 f3
  go_enter Tryd.func14, Tryd.ntmps14
  have KB := Lib.hid (below_al (Below.refl w.heap.size w) (.cells #[.string src, .int .i64 num, .int .i64 at', .int .i64 0, .string person, .string item, .int .i64 val, .string text] 24 (0, 0)))
  have BE := Lib.hid (blk_new w (.cells #[.string src, .int .i64 num, .int .i64 at', .int .i64 0, .string person, .string item, .int .i64 val, .string text] 24 (0, 0)))
  go_wp2_with fail
  refine (N1.out _).mono ?_
  rintro x w1 ⟨rfl, hb⟩
  have KB := Lib.hid (below_after KB.out hb)
  have BE := Lib.hid (blk_below BE.out hb)
  clear hb
  cases b1 with
  | false =>
    go_wp2_with fail
    go_ret
    rw [HR.out]
    exact ⟨rfl, KB.out⟩
  | true =>
  obtain ⟨c0, c1, c2, c3, c4, c5, c6, c7⟩ := ev_cells (e := ⟨src, num, at', 0, person, item, val, text⟩) BE.out
  go_wp2_with fail
  refine (I1.out _).mono ?_
  rintro x w2 ⟨rfl, hb⟩
  have KB := Lib.hid (below_after KB.out hb)
  have BE := Lib.hid (blk_below BE.out hb)
  clear hb c0 c1 c2 c3 c4 c5 c6 c7
  cases b2 with
  | false =>
    go_wp2_with fail
    go_ret
    rw [HR.out]
    exact ⟨rfl, KB.out⟩
  | true =>
  obtain ⟨c0, c1, c2, c3, c4, c5, c6, c7⟩ := ev_cells (e := ⟨src, num, at', 0, person, item, val, text⟩) BE.out
  go_wp2_with fail
  refine (I2.out _).mono ?_
  rintro x w3 ⟨rfl, hb⟩
  have KB := Lib.hid (below_after KB.out hb)
  have BE := Lib.hid (blk_below BE.out hb)
  clear hb c0 c1 c2 c3 c4 c5 c6 c7
  cases b3 with
  | false =>
    go_wp2_with fail
    go_ret
    rw [HR.out]
    exact ⟨rfl, KB.out⟩
  | true =>
  obtain ⟨c0, c1, c2, c3, c4, c5, c6, c7⟩ := ev_cells (e := ⟨src, num, at', 0, person, item, val, text⟩) BE.out
  go_wp2_with fail
  go_quiet (fail)
  go_wp2_with fail
  refine (P1.out _).mono ?_
  rintro x w4 ⟨rfl, hb⟩
  have KB := Lib.hid (below_after (below_drN KB.out _) hb)
  have BE := Lib.hid (blk_below (blk_drewN BE.out _) hb)
  clear hb c0 c1 c2 c3 c4 c5 c6 c7
  obtain ⟨c0, c1, c2, c3, c4, c5, c6, c7⟩ := ev_cells (e := ⟨src, num, at', 0, person, item, val, text⟩) BE.out
  go_wp2_with fail
  refine (P2.out _).mono ?_
  rintro x w5 ⟨rfl, hb⟩
  have KB := Lib.hid (below_after KB.out hb)
  have BE := Lib.hid (blk_below BE.out hb)
  clear hb c0 c1 c2 c3 c4 c5 c6 c7
  go_wp2_with fail
  all_goals
    go_ret
    refine ⟨?_, KB.out⟩
    rw [HR.out]
    simp [*]
set_option maxHeartbeats 1000000 in
set_option maxRecDepth 100000 in
theorem refMay_1 (src person item text : ByteArray) (num at' val : Int) (w : World) (f1 : src.size ≤ 4000000000) (f2 : person.size ≤ 4000000000) (f3 : item.size ≤ 4000000000) :
    Calls Tryd.prog 14 #[(⟨src, num, at', 1, person, item, val, text⟩ : Ev).v] w fun x w' => x = .returned (.bool (mayF ⟨src, num, at', 1, person, item, val, text⟩)) ∧ Below w.heap.size w w' := by
  have N1 := Lib.hid (fun W => refName_ok src W f1)
  have I1 := Lib.hid (fun W => refIn_ok num 1 1099511627776 W)
  have I2 := Lib.hid (fun W => refIn_ok at' 0 1099511627776 W)
  have P1 := Lib.hid (fun W => refName_ok person W f2)
  have P2 := Lib.hid (fun W => refName_ok item W f3)
  have hR : mayF ⟨src, num, at', 1, person, item, val, text⟩ = (true && (nameB src && (inF num 1 1099511627776 && (inF at' 0 1099511627776 && (inF val 0 0 && (nameB person && (nameB item && (text.toList == [])))))))) := rfl
  rw [inF_zero] at hR
  generalize mayF ⟨src, num, at', 1, person, item, val, text⟩ = R at *
  generalize nameB src = b1 at *
  generalize inF num 1 1099511627776 = b2 at *
  generalize inF at' 0 1099511627776 = b3 at *
  generalize nameB person = bp at *
  generalize nameB item = bi at *
  generalize hv : (val == 0) = bv at *
  generalize ht : (text.toList == []) = bt at *
  have ht2 : text.toList.isEmpty = bt := by rw [← ht]; cases text.toList <;> rfl
  have HR := Lib.hid hR
  clear hR f1 f2 f3
  go_enter Tryd.func14, Tryd.ntmps14
  have KB := Lib.hid (below_al (Below.refl w.heap.size w) (.cells #[.string src, .int .i64 num, .int .i64 at', .int .i64 1, .string person, .string item, .int .i64 val, .string text] 24 (0, 0)))
  have BE := Lib.hid (blk_new w (.cells #[.string src, .int .i64 num, .int .i64 at', .int .i64 1, .string person, .string item, .int .i64 val, .string text] 24 (0, 0)))
  go_wp2_with fail
  refine (N1.out _).mono ?_
  rintro x w1 ⟨rfl, hb⟩
  have KB := Lib.hid (below_after KB.out hb)
  have BE := Lib.hid (blk_below BE.out hb)
  clear hb
  cases b1 with
  | false =>
    go_wp2_with fail
    go_ret
    rw [HR.out]
    exact ⟨rfl, KB.out⟩
  | true =>
  obtain ⟨c0, c1, c2, c3, c4, c5, c6, c7⟩ := ev_cells (e := ⟨src, num, at', 1, person, item, val, text⟩) BE.out
  go_wp2_with fail
  refine (I1.out _).mono ?_
  rintro x w2 ⟨rfl, hb⟩
  have KB := Lib.hid (below_after KB.out hb)
  have BE := Lib.hid (blk_below BE.out hb)
  clear hb c0 c1 c2 c3 c4 c5 c6 c7
  cases b2 with
  | false =>
    go_wp2_with fail
    go_ret
    rw [HR.out]
    exact ⟨rfl, KB.out⟩
  | true =>
  obtain ⟨c0, c1, c2, c3, c4, c5, c6, c7⟩ := ev_cells (e := ⟨src, num, at', 1, person, item, val, text⟩) BE.out
  go_wp2_with fail
  refine (I2.out _).mono ?_
  rintro x w3 ⟨rfl, hb⟩
  have KB := Lib.hid (below_after KB.out hb)
  have BE := Lib.hid (blk_below BE.out hb)
  clear hb c0 c1 c2 c3 c4 c5 c6 c7
  cases b3 with
  | false =>
    go_wp2_with fail
    go_ret
    rw [HR.out]
    exact ⟨rfl, KB.out⟩
  | true =>
  obtain ⟨c0, c1, c2, c3, c4, c5, c6, c7⟩ := ev_cells (e := ⟨src, num, at', 1, person, item, val, text⟩) BE.out
  go_wp2_with fail
  go_quiet (fail)
  go_wp2_with fail
  refine (P1.out _).mono ?_
  rintro x w4 ⟨rfl, hb⟩
  have KB := Lib.hid (below_after (below_drN KB.out _) hb)
  have BE := Lib.hid (blk_below (blk_drewN BE.out _) hb)
  clear hb c0 c1 c2 c3 c4 c5 c6 c7
  obtain ⟨c0, c1, c2, c3, c4, c5, c6, c7⟩ := ev_cells (e := ⟨src, num, at', 1, person, item, val, text⟩) BE.out
  go_wp2_with fail
  refine (P2.out _).mono ?_
  rintro x w5 ⟨rfl, hb⟩
  have KB := Lib.hid (below_after KB.out hb)
  have BE := Lib.hid (blk_below BE.out hb)
  clear hb c0 c1 c2 c3 c4 c5 c6 c7
  go_wp2_with fail
  all_goals
    go_ret
    refine ⟨?_, KB.out⟩
    rw [HR.out]
    simp [*]
set_option maxHeartbeats 1000000 in
set_option maxRecDepth 100000 in
theorem refMay_2 (src person item text : ByteArray) (num at' val : Int) (w : World) (f1 : src.size ≤ 4000000000) (f2 : person.size ≤ 4000000000) (f3 : item.size ≤ 4000000000) :
    Calls Tryd.prog 14 #[(⟨src, num, at', 2, person, item, val, text⟩ : Ev).v] w fun x w' => x = .returned (.bool (mayF ⟨src, num, at', 2, person, item, val, text⟩)) ∧ Below w.heap.size w w' := by
  have N1 := Lib.hid (fun W => refName_ok src W f1)
  have I1 := Lib.hid (fun W => refIn_ok num 1 1099511627776 W)
  have I2 := Lib.hid (fun W => refIn_ok at' 0 1099511627776 W)
  have P1 := Lib.hid (fun W => refName_ok person W f2)
  have P2 := Lib.hid (fun W => refName_ok item W f3)
  have hR : mayF ⟨src, num, at', 2, person, item, val, text⟩ = (true && (nameB src && (inF num 1 1099511627776 && (inF at' 0 1099511627776 && (inF val 0 0 && (nameB person && (nameB item && (text.toList == [])))))))) := rfl
  rw [inF_zero] at hR
  generalize mayF ⟨src, num, at', 2, person, item, val, text⟩ = R at *
  generalize nameB src = b1 at *
  generalize inF num 1 1099511627776 = b2 at *
  generalize inF at' 0 1099511627776 = b3 at *
  generalize nameB person = bp at *
  generalize nameB item = bi at *
  generalize hv : (val == 0) = bv at *
  generalize ht : (text.toList == []) = bt at *
  have ht2 : text.toList.isEmpty = bt := by rw [← ht]; cases text.toList <;> rfl
  have HR := Lib.hid hR
  clear hR f1 f2 f3
  go_enter Tryd.func14, Tryd.ntmps14
  have KB := Lib.hid (below_al (Below.refl w.heap.size w) (.cells #[.string src, .int .i64 num, .int .i64 at', .int .i64 2, .string person, .string item, .int .i64 val, .string text] 24 (0, 0)))
  have BE := Lib.hid (blk_new w (.cells #[.string src, .int .i64 num, .int .i64 at', .int .i64 2, .string person, .string item, .int .i64 val, .string text] 24 (0, 0)))
  go_wp2_with fail
  refine (N1.out _).mono ?_
  rintro x w1 ⟨rfl, hb⟩
  have KB := Lib.hid (below_after KB.out hb)
  have BE := Lib.hid (blk_below BE.out hb)
  clear hb
  cases b1 with
  | false =>
    go_wp2_with fail
    go_ret
    rw [HR.out]
    exact ⟨rfl, KB.out⟩
  | true =>
  obtain ⟨c0, c1, c2, c3, c4, c5, c6, c7⟩ := ev_cells (e := ⟨src, num, at', 2, person, item, val, text⟩) BE.out
  go_wp2_with fail
  refine (I1.out _).mono ?_
  rintro x w2 ⟨rfl, hb⟩
  have KB := Lib.hid (below_after KB.out hb)
  have BE := Lib.hid (blk_below BE.out hb)
  clear hb c0 c1 c2 c3 c4 c5 c6 c7
  cases b2 with
  | false =>
    go_wp2_with fail
    go_ret
    rw [HR.out]
    exact ⟨rfl, KB.out⟩
  | true =>
  obtain ⟨c0, c1, c2, c3, c4, c5, c6, c7⟩ := ev_cells (e := ⟨src, num, at', 2, person, item, val, text⟩) BE.out
  go_wp2_with fail
  refine (I2.out _).mono ?_
  rintro x w3 ⟨rfl, hb⟩
  have KB := Lib.hid (below_after KB.out hb)
  have BE := Lib.hid (blk_below BE.out hb)
  clear hb c0 c1 c2 c3 c4 c5 c6 c7
  cases b3 with
  | false =>
    go_wp2_with fail
    go_ret
    rw [HR.out]
    exact ⟨rfl, KB.out⟩
  | true =>
  obtain ⟨c0, c1, c2, c3, c4, c5, c6, c7⟩ := ev_cells (e := ⟨src, num, at', 2, person, item, val, text⟩) BE.out
  go_wp2_with fail
  go_quiet (fail)
  go_wp2_with fail
  refine (P1.out _).mono ?_
  rintro x w4 ⟨rfl, hb⟩
  have KB := Lib.hid (below_after (below_drN KB.out _) hb)
  have BE := Lib.hid (blk_below (blk_drewN BE.out _) hb)
  clear hb c0 c1 c2 c3 c4 c5 c6 c7
  obtain ⟨c0, c1, c2, c3, c4, c5, c6, c7⟩ := ev_cells (e := ⟨src, num, at', 2, person, item, val, text⟩) BE.out
  go_wp2_with fail
  refine (P2.out _).mono ?_
  rintro x w5 ⟨rfl, hb⟩
  have KB := Lib.hid (below_after KB.out hb)
  have BE := Lib.hid (blk_below BE.out hb)
  clear hb c0 c1 c2 c3 c4 c5 c6 c7
  go_wp2_with fail
  all_goals
    go_ret
    refine ⟨?_, KB.out⟩
    rw [HR.out]
    simp [*]
set_option maxHeartbeats 1000000 in
set_option maxRecDepth 100000 in
theorem refMay_3 (src person item text : ByteArray) (num at' val : Int) (w : World) (f1 : src.size ≤ 4000000000) (f2 : person.size ≤ 4000000000) (f3 : item.size ≤ 4000000000) :
    Calls Tryd.prog 14 #[(⟨src, num, at', 3, person, item, val, text⟩ : Ev).v] w fun x w' => x = .returned (.bool (mayF ⟨src, num, at', 3, person, item, val, text⟩)) ∧ Below w.heap.size w w' := by
  have N1 := Lib.hid (fun W => refName_ok src W f1)
  have I1 := Lib.hid (fun W => refIn_ok num 1 1099511627776 W)
  have I2 := Lib.hid (fun W => refIn_ok at' 0 1099511627776 W)
  have P1 := Lib.hid (fun W => refName_ok person W f2)
  have P2 := Lib.hid (fun W => refName_ok item W f3)
  have hR : mayF ⟨src, num, at', 3, person, item, val, text⟩ = (true && (nameB src && (inF num 1 1099511627776 && (inF at' 0 1099511627776 && (inF val 0 0 && (nameB person && (nameB item && (text.toList == [])))))))) := rfl
  rw [inF_zero] at hR
  generalize mayF ⟨src, num, at', 3, person, item, val, text⟩ = R at *
  generalize nameB src = b1 at *
  generalize inF num 1 1099511627776 = b2 at *
  generalize inF at' 0 1099511627776 = b3 at *
  generalize nameB person = bp at *
  generalize nameB item = bi at *
  generalize hv : (val == 0) = bv at *
  generalize ht : (text.toList == []) = bt at *
  have ht2 : text.toList.isEmpty = bt := by rw [← ht]; cases text.toList <;> rfl
  have HR := Lib.hid hR
  clear hR f1 f2 f3
  go_enter Tryd.func14, Tryd.ntmps14
  have KB := Lib.hid (below_al (Below.refl w.heap.size w) (.cells #[.string src, .int .i64 num, .int .i64 at', .int .i64 3, .string person, .string item, .int .i64 val, .string text] 24 (0, 0)))
  have BE := Lib.hid (blk_new w (.cells #[.string src, .int .i64 num, .int .i64 at', .int .i64 3, .string person, .string item, .int .i64 val, .string text] 24 (0, 0)))
  go_wp2_with fail
  refine (N1.out _).mono ?_
  rintro x w1 ⟨rfl, hb⟩
  have KB := Lib.hid (below_after KB.out hb)
  have BE := Lib.hid (blk_below BE.out hb)
  clear hb
  cases b1 with
  | false =>
    go_wp2_with fail
    go_ret
    rw [HR.out]
    exact ⟨rfl, KB.out⟩
  | true =>
  obtain ⟨c0, c1, c2, c3, c4, c5, c6, c7⟩ := ev_cells (e := ⟨src, num, at', 3, person, item, val, text⟩) BE.out
  go_wp2_with fail
  refine (I1.out _).mono ?_
  rintro x w2 ⟨rfl, hb⟩
  have KB := Lib.hid (below_after KB.out hb)
  have BE := Lib.hid (blk_below BE.out hb)
  clear hb c0 c1 c2 c3 c4 c5 c6 c7
  cases b2 with
  | false =>
    go_wp2_with fail
    go_ret
    rw [HR.out]
    exact ⟨rfl, KB.out⟩
  | true =>
  obtain ⟨c0, c1, c2, c3, c4, c5, c6, c7⟩ := ev_cells (e := ⟨src, num, at', 3, person, item, val, text⟩) BE.out
  go_wp2_with fail
  refine (I2.out _).mono ?_
  rintro x w3 ⟨rfl, hb⟩
  have KB := Lib.hid (below_after KB.out hb)
  have BE := Lib.hid (blk_below BE.out hb)
  clear hb c0 c1 c2 c3 c4 c5 c6 c7
  cases b3 with
  | false =>
    go_wp2_with fail
    go_ret
    rw [HR.out]
    exact ⟨rfl, KB.out⟩
  | true =>
  obtain ⟨c0, c1, c2, c3, c4, c5, c6, c7⟩ := ev_cells (e := ⟨src, num, at', 3, person, item, val, text⟩) BE.out
  go_wp2_with fail
  go_quiet (fail)
  go_wp2_with fail
  refine (P1.out _).mono ?_
  rintro x w4 ⟨rfl, hb⟩
  have KB := Lib.hid (below_after (below_drN KB.out _) hb)
  have BE := Lib.hid (blk_below (blk_drewN BE.out _) hb)
  clear hb c0 c1 c2 c3 c4 c5 c6 c7
  obtain ⟨c0, c1, c2, c3, c4, c5, c6, c7⟩ := ev_cells (e := ⟨src, num, at', 3, person, item, val, text⟩) BE.out
  go_wp2_with fail
  refine (P2.out _).mono ?_
  rintro x w5 ⟨rfl, hb⟩
  have KB := Lib.hid (below_after KB.out hb)
  have BE := Lib.hid (blk_below BE.out hb)
  clear hb c0 c1 c2 c3 c4 c5 c6 c7
  go_wp2_with fail
  all_goals
    go_ret
    refine ⟨?_, KB.out⟩
    rw [HR.out]
    simp [*]
set_option maxHeartbeats 1000000 in
set_option maxRecDepth 100000 in
theorem refMay_5 (src person item text : ByteArray) (num at' val : Int) (w : World) (f1 : src.size ≤ 4000000000) (f2 : person.size ≤ 4000000000) (f3 : item.size ≤ 4000000000) :
    Calls Tryd.prog 14 #[(⟨src, num, at', 5, person, item, val, text⟩ : Ev).v] w fun x w' => x = .returned (.bool (mayF ⟨src, num, at', 5, person, item, val, text⟩)) ∧ Below w.heap.size w w' := by
  have N1 := Lib.hid (fun W => refName_ok src W f1)
  have I1 := Lib.hid (fun W => refIn_ok num 1 1099511627776 W)
  have I2 := Lib.hid (fun W => refIn_ok at' 0 1099511627776 W)
  have P1 := Lib.hid (fun W => refName_ok person W f2)
  have P2 := Lib.hid (fun W => refName_ok item W f3)
  have hR : mayF ⟨src, num, at', 5, person, item, val, text⟩ = (true && (nameB src && (inF num 1 1099511627776 && (inF at' 0 1099511627776 && (inF val 0 0 && (nameB person && (nameB item && (text.toList == [])))))))) := rfl
  rw [inF_zero] at hR
  generalize mayF ⟨src, num, at', 5, person, item, val, text⟩ = R at *
  generalize nameB src = b1 at *
  generalize inF num 1 1099511627776 = b2 at *
  generalize inF at' 0 1099511627776 = b3 at *
  generalize nameB person = bp at *
  generalize nameB item = bi at *
  generalize hv : (val == 0) = bv at *
  generalize ht : (text.toList == []) = bt at *
  have ht2 : text.toList.isEmpty = bt := by rw [← ht]; cases text.toList <;> rfl
  have HR := Lib.hid hR
  clear hR f1 f2 f3
  go_enter Tryd.func14, Tryd.ntmps14
  have KB := Lib.hid (below_al (Below.refl w.heap.size w) (.cells #[.string src, .int .i64 num, .int .i64 at', .int .i64 5, .string person, .string item, .int .i64 val, .string text] 24 (0, 0)))
  have BE := Lib.hid (blk_new w (.cells #[.string src, .int .i64 num, .int .i64 at', .int .i64 5, .string person, .string item, .int .i64 val, .string text] 24 (0, 0)))
  go_wp2_with fail
  refine (N1.out _).mono ?_
  rintro x w1 ⟨rfl, hb⟩
  have KB := Lib.hid (below_after KB.out hb)
  have BE := Lib.hid (blk_below BE.out hb)
  clear hb
  cases b1 with
  | false =>
    go_wp2_with fail
    go_ret
    rw [HR.out]
    exact ⟨rfl, KB.out⟩
  | true =>
  obtain ⟨c0, c1, c2, c3, c4, c5, c6, c7⟩ := ev_cells (e := ⟨src, num, at', 5, person, item, val, text⟩) BE.out
  go_wp2_with fail
  refine (I1.out _).mono ?_
  rintro x w2 ⟨rfl, hb⟩
  have KB := Lib.hid (below_after KB.out hb)
  have BE := Lib.hid (blk_below BE.out hb)
  clear hb c0 c1 c2 c3 c4 c5 c6 c7
  cases b2 with
  | false =>
    go_wp2_with fail
    go_ret
    rw [HR.out]
    exact ⟨rfl, KB.out⟩
  | true =>
  obtain ⟨c0, c1, c2, c3, c4, c5, c6, c7⟩ := ev_cells (e := ⟨src, num, at', 5, person, item, val, text⟩) BE.out
  go_wp2_with fail
  refine (I2.out _).mono ?_
  rintro x w3 ⟨rfl, hb⟩
  have KB := Lib.hid (below_after KB.out hb)
  have BE := Lib.hid (blk_below BE.out hb)
  clear hb c0 c1 c2 c3 c4 c5 c6 c7
  cases b3 with
  | false =>
    go_wp2_with fail
    go_ret
    rw [HR.out]
    exact ⟨rfl, KB.out⟩
  | true =>
  obtain ⟨c0, c1, c2, c3, c4, c5, c6, c7⟩ := ev_cells (e := ⟨src, num, at', 5, person, item, val, text⟩) BE.out
  go_wp2_with fail
  go_quiet (fail)
  go_wp2_with fail
  refine (P1.out _).mono ?_
  rintro x w4 ⟨rfl, hb⟩
  have KB := Lib.hid (below_after (below_drN KB.out _) hb)
  have BE := Lib.hid (blk_below (blk_drewN BE.out _) hb)
  clear hb c0 c1 c2 c3 c4 c5 c6 c7
  obtain ⟨c0, c1, c2, c3, c4, c5, c6, c7⟩ := ev_cells (e := ⟨src, num, at', 5, person, item, val, text⟩) BE.out
  go_wp2_with fail
  refine (P2.out _).mono ?_
  rintro x w5 ⟨rfl, hb⟩
  have KB := Lib.hid (below_after KB.out hb)
  have BE := Lib.hid (blk_below BE.out hb)
  clear hb c0 c1 c2 c3 c4 c5 c6 c7
  go_wp2_with fail
  all_goals
    go_ret
    refine ⟨?_, KB.out⟩
    rw [HR.out]
    simp [*]
set_option maxHeartbeats 1000000 in
set_option maxRecDepth 100000 in
theorem refMay_6 (src person item text : ByteArray) (num at' val : Int) (w : World) (f1 : src.size ≤ 4000000000) (f2 : person.size ≤ 4000000000) (f3 : item.size ≤ 4000000000) :
    Calls Tryd.prog 14 #[(⟨src, num, at', 6, person, item, val, text⟩ : Ev).v] w fun x w' => x = .returned (.bool (mayF ⟨src, num, at', 6, person, item, val, text⟩)) ∧ Below w.heap.size w w' := by
  have N1 := Lib.hid (fun W => refName_ok src W f1)
  have I1 := Lib.hid (fun W => refIn_ok num 1 1099511627776 W)
  have I2 := Lib.hid (fun W => refIn_ok at' 0 1099511627776 W)
  have P1 := Lib.hid (fun W => refName_ok person W f2)
  have P2 := Lib.hid (fun W => refName_ok item W f3)
  have hR : mayF ⟨src, num, at', 6, person, item, val, text⟩ = (true && (nameB src && (inF num 1 1099511627776 && (inF at' 0 1099511627776 && (inF val 0 0 && (nameB person && (nameB item && (text.toList == [])))))))) := rfl
  rw [inF_zero] at hR
  generalize mayF ⟨src, num, at', 6, person, item, val, text⟩ = R at *
  generalize nameB src = b1 at *
  generalize inF num 1 1099511627776 = b2 at *
  generalize inF at' 0 1099511627776 = b3 at *
  generalize nameB person = bp at *
  generalize nameB item = bi at *
  generalize hv : (val == 0) = bv at *
  generalize ht : (text.toList == []) = bt at *
  have ht2 : text.toList.isEmpty = bt := by rw [← ht]; cases text.toList <;> rfl
  have HR := Lib.hid hR
  clear hR f1 f2 f3
  go_enter Tryd.func14, Tryd.ntmps14
  have KB := Lib.hid (below_al (Below.refl w.heap.size w) (.cells #[.string src, .int .i64 num, .int .i64 at', .int .i64 6, .string person, .string item, .int .i64 val, .string text] 24 (0, 0)))
  have BE := Lib.hid (blk_new w (.cells #[.string src, .int .i64 num, .int .i64 at', .int .i64 6, .string person, .string item, .int .i64 val, .string text] 24 (0, 0)))
  go_wp2_with fail
  refine (N1.out _).mono ?_
  rintro x w1 ⟨rfl, hb⟩
  have KB := Lib.hid (below_after KB.out hb)
  have BE := Lib.hid (blk_below BE.out hb)
  clear hb
  cases b1 with
  | false =>
    go_wp2_with fail
    go_ret
    rw [HR.out]
    exact ⟨rfl, KB.out⟩
  | true =>
  obtain ⟨c0, c1, c2, c3, c4, c5, c6, c7⟩ := ev_cells (e := ⟨src, num, at', 6, person, item, val, text⟩) BE.out
  go_wp2_with fail
  refine (I1.out _).mono ?_
  rintro x w2 ⟨rfl, hb⟩
  have KB := Lib.hid (below_after KB.out hb)
  have BE := Lib.hid (blk_below BE.out hb)
  clear hb c0 c1 c2 c3 c4 c5 c6 c7
  cases b2 with
  | false =>
    go_wp2_with fail
    go_ret
    rw [HR.out]
    exact ⟨rfl, KB.out⟩
  | true =>
  obtain ⟨c0, c1, c2, c3, c4, c5, c6, c7⟩ := ev_cells (e := ⟨src, num, at', 6, person, item, val, text⟩) BE.out
  go_wp2_with fail
  refine (I2.out _).mono ?_
  rintro x w3 ⟨rfl, hb⟩
  have KB := Lib.hid (below_after KB.out hb)
  have BE := Lib.hid (blk_below BE.out hb)
  clear hb c0 c1 c2 c3 c4 c5 c6 c7
  cases b3 with
  | false =>
    go_wp2_with fail
    go_ret
    rw [HR.out]
    exact ⟨rfl, KB.out⟩
  | true =>
  obtain ⟨c0, c1, c2, c3, c4, c5, c6, c7⟩ := ev_cells (e := ⟨src, num, at', 6, person, item, val, text⟩) BE.out
  go_wp2_with fail
  go_quiet (fail)
  go_wp2_with fail
  refine (P1.out _).mono ?_
  rintro x w4 ⟨rfl, hb⟩
  have KB := Lib.hid (below_after (below_drN KB.out _) hb)
  have BE := Lib.hid (blk_below (blk_drewN BE.out _) hb)
  clear hb c0 c1 c2 c3 c4 c5 c6 c7
  obtain ⟨c0, c1, c2, c3, c4, c5, c6, c7⟩ := ev_cells (e := ⟨src, num, at', 6, person, item, val, text⟩) BE.out
  go_wp2_with fail
  refine (P2.out _).mono ?_
  rintro x w5 ⟨rfl, hb⟩
  have KB := Lib.hid (below_after KB.out hb)
  have BE := Lib.hid (blk_below BE.out hb)
  clear hb c0 c1 c2 c3 c4 c5 c6 c7
  go_wp2_with fail
  all_goals
    go_ret
    refine ⟨?_, KB.out⟩
    rw [HR.out]
    simp [*]
set_option maxHeartbeats 1000000 in
set_option maxRecDepth 100000 in
theorem refMay_4 (src person item text : ByteArray) (num at' val : Int) (w : World) (f1 : src.size ≤ 4000000000) (f2 : person.size ≤ 4000000000) (f3 : item.size ≤ 4000000000) :
    Calls Tryd.prog 14 #[(⟨src, num, at', 4, person, item, val, text⟩ : Ev).v] w fun x w' => x = .returned (.bool (mayF ⟨src, num, at', 4, person, item, val, text⟩)) ∧ Below w.heap.size w w' := by
  have N1 := Lib.hid (fun W => refName_ok src W f1)
  have I1 := Lib.hid (fun W => refIn_ok num 1 1099511627776 W)
  have I2 := Lib.hid (fun W => refIn_ok at' 0 1099511627776 W)
  have P1 := Lib.hid (fun W => refName_ok person W f2)
  have P2 := Lib.hid (fun W => refName_ok item W f3)
  have V1 := Lib.hid (fun W => refIn_ok val 1 5 W)
  have hR : mayF ⟨src, num, at', 4, person, item, val, text⟩ = (true && (nameB src && (inF num 1 1099511627776 && (inF at' 0 1099511627776 && (inF val 1 5 && (nameB person && (nameB item && (text.toList == [])))))))) := rfl
  generalize mayF ⟨src, num, at', 4, person, item, val, text⟩ = R at *
  generalize nameB src = b1 at *
  generalize inF num 1 1099511627776 = b2 at *
  generalize inF at' 0 1099511627776 = b3 at *
  generalize nameB person = bp at *
  generalize nameB item = bi at *
  generalize inF val 1 5 = bv at *
  generalize ht : (text.toList == []) = bt at *
  have ht2 : text.toList.isEmpty = bt := by rw [← ht]; cases text.toList <;> rfl
  have HR := Lib.hid hR
  clear hR f1 f2 f3
  go_enter Tryd.func14, Tryd.ntmps14
  have KB := Lib.hid (below_al (Below.refl w.heap.size w) (.cells #[.string src, .int .i64 num, .int .i64 at', .int .i64 4, .string person, .string item, .int .i64 val, .string text] 24 (0, 0)))
  have BE := Lib.hid (blk_new w (.cells #[.string src, .int .i64 num, .int .i64 at', .int .i64 4, .string person, .string item, .int .i64 val, .string text] 24 (0, 0)))
  go_wp2_with fail
  refine (N1.out _).mono ?_
  rintro x w1 ⟨rfl, hb⟩
  have KB := Lib.hid (below_after KB.out hb)
  have BE := Lib.hid (blk_below BE.out hb)
  clear hb
  cases b1 with
  | false =>
    go_wp2_with fail
    go_ret
    rw [HR.out]
    exact ⟨rfl, KB.out⟩
  | true =>
  obtain ⟨c0, c1, c2, c3, c4, c5, c6, c7⟩ := ev_cells (e := ⟨src, num, at', 4, person, item, val, text⟩) BE.out
  go_wp2_with fail
  refine (I1.out _).mono ?_
  rintro x w2 ⟨rfl, hb⟩
  have KB := Lib.hid (below_after KB.out hb)
  have BE := Lib.hid (blk_below BE.out hb)
  clear hb c0 c1 c2 c3 c4 c5 c6 c7
  cases b2 with
  | false =>
    go_wp2_with fail
    go_ret
    rw [HR.out]
    exact ⟨rfl, KB.out⟩
  | true =>
  obtain ⟨c0, c1, c2, c3, c4, c5, c6, c7⟩ := ev_cells (e := ⟨src, num, at', 4, person, item, val, text⟩) BE.out
  go_wp2_with fail
  refine (I2.out _).mono ?_
  rintro x w3 ⟨rfl, hb⟩
  have KB := Lib.hid (below_after KB.out hb)
  have BE := Lib.hid (blk_below BE.out hb)
  clear hb c0 c1 c2 c3 c4 c5 c6 c7
  cases b3 with
  | false =>
    go_wp2_with fail
    go_ret
    rw [HR.out]
    exact ⟨rfl, KB.out⟩
  | true =>
  obtain ⟨c0, c1, c2, c3, c4, c5, c6, c7⟩ := ev_cells (e := ⟨src, num, at', 4, person, item, val, text⟩) BE.out
  go_wp2_with fail
  go_quiet (fail)
  go_wp2_with fail
  refine (P1.out _).mono ?_
  rintro x w4 ⟨rfl, hb⟩
  have KB := Lib.hid (below_after (below_drN KB.out _) hb)
  have BE := Lib.hid (blk_below (blk_drewN BE.out _) hb)
  clear hb c0 c1 c2 c3 c4 c5 c6 c7
  obtain ⟨c0, c1, c2, c3, c4, c5, c6, c7⟩ := ev_cells (e := ⟨src, num, at', 4, person, item, val, text⟩) BE.out
  go_wp2_with fail
  refine (P2.out _).mono ?_
  rintro x w5 ⟨rfl, hb⟩
  have KB := Lib.hid (below_after KB.out hb)
  have BE := Lib.hid (blk_below BE.out hb)
  clear hb c0 c1 c2 c3 c4 c5 c6 c7
  obtain ⟨c0, c1, c2, c3, c4, c5, c6, c7⟩ := ev_cells (e := ⟨src, num, at', 4, person, item, val, text⟩) BE.out
  go_wp2_with fail
  refine (V1.out _).mono ?_
  rintro x w6 ⟨rfl, hb⟩
  have KB := Lib.hid (below_after KB.out hb)
  have BE := Lib.hid (blk_below BE.out hb)
  clear hb c0 c1 c2 c3 c4 c5 c6 c7
  go_wp2_with fail
  all_goals
    go_ret
    refine ⟨?_, KB.out⟩
    rw [HR.out]
    simp [*]
set_option maxHeartbeats 1000000 in
set_option maxRecDepth 100000 in
theorem refMay_7 (src person item text : ByteArray) (num at' val : Int) (w : World) (f1 : src.size ≤ 4000000000) (f2 : person.size ≤ 4000000000) (f4 : text.size ≤ 4000000000) :
    Calls Tryd.prog 14 #[(⟨src, num, at', 7, person, item, val, text⟩ : Ev).v] w fun x w' => x = .returned (.bool (mayF ⟨src, num, at', 7, person, item, val, text⟩)) ∧ Below w.heap.size w w' := by
  have N1 := Lib.hid (fun W => refName_ok src W f1)
  have I1 := Lib.hid (fun W => refIn_ok num 1 1099511627776 W)
  have I2 := Lib.hid (fun W => refIn_ok at' 0 1099511627776 W)
  have P1 := Lib.hid (fun W => refName_ok person W f2)
  have T1 := Lib.hid (fun W => refName_ok text W f4)
  have hR : mayF ⟨src, num, at', 7, person, item, val, text⟩ = (true && (nameB src && (inF num 1 1099511627776 && (inF at' 0 1099511627776 && (inF val 0 0 && (nameB person && ((item.toList == []) && nameB text))))))) := rfl
  rw [inF_zero] at hR
  generalize mayF ⟨src, num, at', 7, person, item, val, text⟩ = R at *
  generalize nameB src = b1 at *
  generalize inF num 1 1099511627776 = b2 at *
  generalize inF at' 0 1099511627776 = b3 at *
  generalize nameB person = bp at *
  generalize hi : (item.toList == []) = bi at *
  have hi2 : item.toList.isEmpty = bi := by rw [← hi]; cases item.toList <;> rfl
  generalize hv : (val == 0) = bv at *
  generalize nameB text = bt at *
  have HR := Lib.hid hR
  clear hR f1 f2 f4
  go_enter Tryd.func14, Tryd.ntmps14
  have KB := Lib.hid (below_al (Below.refl w.heap.size w) (.cells #[.string src, .int .i64 num, .int .i64 at', .int .i64 7, .string person, .string item, .int .i64 val, .string text] 24 (0, 0)))
  have BE := Lib.hid (blk_new w (.cells #[.string src, .int .i64 num, .int .i64 at', .int .i64 7, .string person, .string item, .int .i64 val, .string text] 24 (0, 0)))
  go_wp2_with fail
  refine (N1.out _).mono ?_
  rintro x w1 ⟨rfl, hb⟩
  have KB := Lib.hid (below_after KB.out hb)
  have BE := Lib.hid (blk_below BE.out hb)
  clear hb
  cases b1 with
  | false =>
    go_wp2_with fail
    go_ret
    rw [HR.out]
    exact ⟨rfl, KB.out⟩
  | true =>
  obtain ⟨c0, c1, c2, c3, c4, c5, c6, c7⟩ := ev_cells (e := ⟨src, num, at', 7, person, item, val, text⟩) BE.out
  go_wp2_with fail
  refine (I1.out _).mono ?_
  rintro x w2 ⟨rfl, hb⟩
  have KB := Lib.hid (below_after KB.out hb)
  have BE := Lib.hid (blk_below BE.out hb)
  clear hb c0 c1 c2 c3 c4 c5 c6 c7
  cases b2 with
  | false =>
    go_wp2_with fail
    go_ret
    rw [HR.out]
    exact ⟨rfl, KB.out⟩
  | true =>
  obtain ⟨c0, c1, c2, c3, c4, c5, c6, c7⟩ := ev_cells (e := ⟨src, num, at', 7, person, item, val, text⟩) BE.out
  go_wp2_with fail
  refine (I2.out _).mono ?_
  rintro x w3 ⟨rfl, hb⟩
  have KB := Lib.hid (below_after KB.out hb)
  have BE := Lib.hid (blk_below BE.out hb)
  clear hb c0 c1 c2 c3 c4 c5 c6 c7
  cases b3 with
  | false =>
    go_wp2_with fail
    go_ret
    rw [HR.out]
    exact ⟨rfl, KB.out⟩
  | true =>
  obtain ⟨c0, c1, c2, c3, c4, c5, c6, c7⟩ := ev_cells (e := ⟨src, num, at', 7, person, item, val, text⟩) BE.out
  go_wp2_with fail
  go_quiet (fail)
  go_wp2_with fail
  refine (P1.out _).mono ?_
  rintro x w4 ⟨rfl, hb⟩
  have KB := Lib.hid (below_after (below_drN KB.out _) hb)
  have BE := Lib.hid (blk_below (blk_drewN BE.out _) hb)
  clear hb c0 c1 c2 c3 c4 c5 c6 c7
  obtain ⟨c0, c1, c2, c3, c4, c5, c6, c7⟩ := ev_cells (e := ⟨src, num, at', 7, person, item, val, text⟩) BE.out
  go_wp2_with fail
  refine (T1.out _).mono ?_
  rintro x w5 ⟨rfl, hb⟩
  have KB := Lib.hid (below_after KB.out hb)
  have BE := Lib.hid (blk_below BE.out hb)
  clear hb c0 c1 c2 c3 c4 c5 c6 c7
  go_wp2_with fail
  all_goals
    go_ret
    refine ⟨?_, KB.out⟩
    rw [HR.out]
    simp [*]
set_option maxHeartbeats 1000000 in
set_option maxRecDepth 100000 in
theorem refMay_8 (src person item text : ByteArray) (num at' val : Int) (w : World) (f1 : src.size ≤ 4000000000) (f2 : person.size ≤ 4000000000) (f4 : text.size ≤ 4000000000) :
    Calls Tryd.prog 14 #[(⟨src, num, at', 8, person, item, val, text⟩ : Ev).v] w fun x w' => x = .returned (.bool (mayF ⟨src, num, at', 8, person, item, val, text⟩)) ∧ Below w.heap.size w w' := by
  have N1 := Lib.hid (fun W => refName_ok src W f1)
  have I1 := Lib.hid (fun W => refIn_ok num 1 1099511627776 W)
  have I2 := Lib.hid (fun W => refIn_ok at' 0 1099511627776 W)
  have P1 := Lib.hid (fun W => refName_ok person W f2)
  have T1 := Lib.hid (fun W => refName_ok text W f4)
  have hR : mayF ⟨src, num, at', 8, person, item, val, text⟩ = (true && (nameB src && (inF num 1 1099511627776 && (inF at' 0 1099511627776 && (inF val 0 0 && (nameB person && ((item.toList == []) && nameB text))))))) := rfl
  rw [inF_zero] at hR
  generalize mayF ⟨src, num, at', 8, person, item, val, text⟩ = R at *
  generalize nameB src = b1 at *
  generalize inF num 1 1099511627776 = b2 at *
  generalize inF at' 0 1099511627776 = b3 at *
  generalize nameB person = bp at *
  generalize hi : (item.toList == []) = bi at *
  have hi2 : item.toList.isEmpty = bi := by rw [← hi]; cases item.toList <;> rfl
  generalize hv : (val == 0) = bv at *
  generalize nameB text = bt at *
  have HR := Lib.hid hR
  clear hR f1 f2 f4
  go_enter Tryd.func14, Tryd.ntmps14
  have KB := Lib.hid (below_al (Below.refl w.heap.size w) (.cells #[.string src, .int .i64 num, .int .i64 at', .int .i64 8, .string person, .string item, .int .i64 val, .string text] 24 (0, 0)))
  have BE := Lib.hid (blk_new w (.cells #[.string src, .int .i64 num, .int .i64 at', .int .i64 8, .string person, .string item, .int .i64 val, .string text] 24 (0, 0)))
  go_wp2_with fail
  refine (N1.out _).mono ?_
  rintro x w1 ⟨rfl, hb⟩
  have KB := Lib.hid (below_after KB.out hb)
  have BE := Lib.hid (blk_below BE.out hb)
  clear hb
  cases b1 with
  | false =>
    go_wp2_with fail
    go_ret
    rw [HR.out]
    exact ⟨rfl, KB.out⟩
  | true =>
  obtain ⟨c0, c1, c2, c3, c4, c5, c6, c7⟩ := ev_cells (e := ⟨src, num, at', 8, person, item, val, text⟩) BE.out
  go_wp2_with fail
  refine (I1.out _).mono ?_
  rintro x w2 ⟨rfl, hb⟩
  have KB := Lib.hid (below_after KB.out hb)
  have BE := Lib.hid (blk_below BE.out hb)
  clear hb c0 c1 c2 c3 c4 c5 c6 c7
  cases b2 with
  | false =>
    go_wp2_with fail
    go_ret
    rw [HR.out]
    exact ⟨rfl, KB.out⟩
  | true =>
  obtain ⟨c0, c1, c2, c3, c4, c5, c6, c7⟩ := ev_cells (e := ⟨src, num, at', 8, person, item, val, text⟩) BE.out
  go_wp2_with fail
  refine (I2.out _).mono ?_
  rintro x w3 ⟨rfl, hb⟩
  have KB := Lib.hid (below_after KB.out hb)
  have BE := Lib.hid (blk_below BE.out hb)
  clear hb c0 c1 c2 c3 c4 c5 c6 c7
  cases b3 with
  | false =>
    go_wp2_with fail
    go_ret
    rw [HR.out]
    exact ⟨rfl, KB.out⟩
  | true =>
  obtain ⟨c0, c1, c2, c3, c4, c5, c6, c7⟩ := ev_cells (e := ⟨src, num, at', 8, person, item, val, text⟩) BE.out
  go_wp2_with fail
  go_quiet (fail)
  go_wp2_with fail
  refine (P1.out _).mono ?_
  rintro x w4 ⟨rfl, hb⟩
  have KB := Lib.hid (below_after (below_drN KB.out _) hb)
  have BE := Lib.hid (blk_below (blk_drewN BE.out _) hb)
  clear hb c0 c1 c2 c3 c4 c5 c6 c7
  obtain ⟨c0, c1, c2, c3, c4, c5, c6, c7⟩ := ev_cells (e := ⟨src, num, at', 8, person, item, val, text⟩) BE.out
  go_wp2_with fail
  refine (T1.out _).mono ?_
  rintro x w5 ⟨rfl, hb⟩
  have KB := Lib.hid (below_after KB.out hb)
  have BE := Lib.hid (blk_below BE.out hb)
  clear hb c0 c1 c2 c3 c4 c5 c6 c7
  go_wp2_with fail
  all_goals
    go_ret
    refine ⟨?_, KB.out⟩
    rw [HR.out]
    simp [*]
set_option maxHeartbeats 1000000 in
set_option maxRecDepth 100000 in
theorem refMay_9 (src person item text : ByteArray) (num at' val : Int) (w : World) (f1 : src.size ≤ 4000000000) (f2 : person.size ≤ 4000000000) (f4 : text.size ≤ 4000000000) :
    Calls Tryd.prog 14 #[(⟨src, num, at', 9, person, item, val, text⟩ : Ev).v] w fun x w' => x = .returned (.bool (mayF ⟨src, num, at', 9, person, item, val, text⟩)) ∧ Below w.heap.size w w' := by
  have N1 := Lib.hid (fun W => refName_ok src W f1)
  have I1 := Lib.hid (fun W => refIn_ok num 1 1099511627776 W)
  have I2 := Lib.hid (fun W => refIn_ok at' 0 1099511627776 W)
  have P1 := Lib.hid (fun W => refName_ok person W f2)
  have T1 := Lib.hid (fun W => refName_ok text W f4)
  have hR : mayF ⟨src, num, at', 9, person, item, val, text⟩ = (true && (nameB src && (inF num 1 1099511627776 && (inF at' 0 1099511627776 && (inF val 0 0 && (nameB person && ((item.toList == []) && nameB text))))))) := rfl
  rw [inF_zero] at hR
  generalize mayF ⟨src, num, at', 9, person, item, val, text⟩ = R at *
  generalize nameB src = b1 at *
  generalize inF num 1 1099511627776 = b2 at *
  generalize inF at' 0 1099511627776 = b3 at *
  generalize nameB person = bp at *
  generalize hi : (item.toList == []) = bi at *
  have hi2 : item.toList.isEmpty = bi := by rw [← hi]; cases item.toList <;> rfl
  generalize hv : (val == 0) = bv at *
  generalize nameB text = bt at *
  have HR := Lib.hid hR
  clear hR f1 f2 f4
  go_enter Tryd.func14, Tryd.ntmps14
  have KB := Lib.hid (below_al (Below.refl w.heap.size w) (.cells #[.string src, .int .i64 num, .int .i64 at', .int .i64 9, .string person, .string item, .int .i64 val, .string text] 24 (0, 0)))
  have BE := Lib.hid (blk_new w (.cells #[.string src, .int .i64 num, .int .i64 at', .int .i64 9, .string person, .string item, .int .i64 val, .string text] 24 (0, 0)))
  go_wp2_with fail
  refine (N1.out _).mono ?_
  rintro x w1 ⟨rfl, hb⟩
  have KB := Lib.hid (below_after KB.out hb)
  have BE := Lib.hid (blk_below BE.out hb)
  clear hb
  cases b1 with
  | false =>
    go_wp2_with fail
    go_ret
    rw [HR.out]
    exact ⟨rfl, KB.out⟩
  | true =>
  obtain ⟨c0, c1, c2, c3, c4, c5, c6, c7⟩ := ev_cells (e := ⟨src, num, at', 9, person, item, val, text⟩) BE.out
  go_wp2_with fail
  refine (I1.out _).mono ?_
  rintro x w2 ⟨rfl, hb⟩
  have KB := Lib.hid (below_after KB.out hb)
  have BE := Lib.hid (blk_below BE.out hb)
  clear hb c0 c1 c2 c3 c4 c5 c6 c7
  cases b2 with
  | false =>
    go_wp2_with fail
    go_ret
    rw [HR.out]
    exact ⟨rfl, KB.out⟩
  | true =>
  obtain ⟨c0, c1, c2, c3, c4, c5, c6, c7⟩ := ev_cells (e := ⟨src, num, at', 9, person, item, val, text⟩) BE.out
  go_wp2_with fail
  refine (I2.out _).mono ?_
  rintro x w3 ⟨rfl, hb⟩
  have KB := Lib.hid (below_after KB.out hb)
  have BE := Lib.hid (blk_below BE.out hb)
  clear hb c0 c1 c2 c3 c4 c5 c6 c7
  cases b3 with
  | false =>
    go_wp2_with fail
    go_ret
    rw [HR.out]
    exact ⟨rfl, KB.out⟩
  | true =>
  obtain ⟨c0, c1, c2, c3, c4, c5, c6, c7⟩ := ev_cells (e := ⟨src, num, at', 9, person, item, val, text⟩) BE.out
  go_wp2_with fail
  go_quiet (fail)
  go_wp2_with fail
  refine (P1.out _).mono ?_
  rintro x w4 ⟨rfl, hb⟩
  have KB := Lib.hid (below_after (below_drN KB.out _) hb)
  have BE := Lib.hid (blk_below (blk_drewN BE.out _) hb)
  clear hb c0 c1 c2 c3 c4 c5 c6 c7
  obtain ⟨c0, c1, c2, c3, c4, c5, c6, c7⟩ := ev_cells (e := ⟨src, num, at', 9, person, item, val, text⟩) BE.out
  go_wp2_with fail
  refine (T1.out _).mono ?_
  rintro x w5 ⟨rfl, hb⟩
  have KB := Lib.hid (below_after KB.out hb)
  have BE := Lib.hid (blk_below BE.out hb)
  clear hb c0 c1 c2 c3 c4 c5 c6 c7
  go_wp2_with fail
  all_goals
    go_ret
    refine ⟨?_, KB.out⟩
    rw [HR.out]
    simp [*]
set_option maxHeartbeats 1000000 in
set_option maxRecDepth 100000 in
theorem refMay_10 (src person item text : ByteArray) (num at' val : Int) (w : World) (f1 : src.size ≤ 4000000000) (f2 : person.size ≤ 4000000000) (f4 : text.size ≤ 4000000000) :
    Calls Tryd.prog 14 #[(⟨src, num, at', 10, person, item, val, text⟩ : Ev).v] w fun x w' => x = .returned (.bool (mayF ⟨src, num, at', 10, person, item, val, text⟩)) ∧ Below w.heap.size w w' := by
  have N1 := Lib.hid (fun W => refName_ok src W f1)
  have I1 := Lib.hid (fun W => refIn_ok num 1 1099511627776 W)
  have I2 := Lib.hid (fun W => refIn_ok at' 0 1099511627776 W)
  have P1 := Lib.hid (fun W => refName_ok person W f2)
  have T1 := Lib.hid (fun W => refName_ok text W f4)
  have hR : mayF ⟨src, num, at', 10, person, item, val, text⟩ = (true && (nameB src && (inF num 1 1099511627776 && (inF at' 0 1099511627776 && (inF val 0 0 && (nameB person && ((item.toList == []) && nameB text))))))) := rfl
  rw [inF_zero] at hR
  generalize mayF ⟨src, num, at', 10, person, item, val, text⟩ = R at *
  generalize nameB src = b1 at *
  generalize inF num 1 1099511627776 = b2 at *
  generalize inF at' 0 1099511627776 = b3 at *
  generalize nameB person = bp at *
  generalize hi : (item.toList == []) = bi at *
  have hi2 : item.toList.isEmpty = bi := by rw [← hi]; cases item.toList <;> rfl
  generalize hv : (val == 0) = bv at *
  generalize nameB text = bt at *
  have HR := Lib.hid hR
  clear hR f1 f2 f4
  go_enter Tryd.func14, Tryd.ntmps14
  have KB := Lib.hid (below_al (Below.refl w.heap.size w) (.cells #[.string src, .int .i64 num, .int .i64 at', .int .i64 10, .string person, .string item, .int .i64 val, .string text] 24 (0, 0)))
  have BE := Lib.hid (blk_new w (.cells #[.string src, .int .i64 num, .int .i64 at', .int .i64 10, .string person, .string item, .int .i64 val, .string text] 24 (0, 0)))
  go_wp2_with fail
  refine (N1.out _).mono ?_
  rintro x w1 ⟨rfl, hb⟩
  have KB := Lib.hid (below_after KB.out hb)
  have BE := Lib.hid (blk_below BE.out hb)
  clear hb
  cases b1 with
  | false =>
    go_wp2_with fail
    go_ret
    rw [HR.out]
    exact ⟨rfl, KB.out⟩
  | true =>
  obtain ⟨c0, c1, c2, c3, c4, c5, c6, c7⟩ := ev_cells (e := ⟨src, num, at', 10, person, item, val, text⟩) BE.out
  go_wp2_with fail
  refine (I1.out _).mono ?_
  rintro x w2 ⟨rfl, hb⟩
  have KB := Lib.hid (below_after KB.out hb)
  have BE := Lib.hid (blk_below BE.out hb)
  clear hb c0 c1 c2 c3 c4 c5 c6 c7
  cases b2 with
  | false =>
    go_wp2_with fail
    go_ret
    rw [HR.out]
    exact ⟨rfl, KB.out⟩
  | true =>
  obtain ⟨c0, c1, c2, c3, c4, c5, c6, c7⟩ := ev_cells (e := ⟨src, num, at', 10, person, item, val, text⟩) BE.out
  go_wp2_with fail
  refine (I2.out _).mono ?_
  rintro x w3 ⟨rfl, hb⟩
  have KB := Lib.hid (below_after KB.out hb)
  have BE := Lib.hid (blk_below BE.out hb)
  clear hb c0 c1 c2 c3 c4 c5 c6 c7
  cases b3 with
  | false =>
    go_wp2_with fail
    go_ret
    rw [HR.out]
    exact ⟨rfl, KB.out⟩
  | true =>
  obtain ⟨c0, c1, c2, c3, c4, c5, c6, c7⟩ := ev_cells (e := ⟨src, num, at', 10, person, item, val, text⟩) BE.out
  go_wp2_with fail
  go_quiet (fail)
  go_wp2_with fail
  refine (P1.out _).mono ?_
  rintro x w4 ⟨rfl, hb⟩
  have KB := Lib.hid (below_after (below_drN KB.out _) hb)
  have BE := Lib.hid (blk_below (blk_drewN BE.out _) hb)
  clear hb c0 c1 c2 c3 c4 c5 c6 c7
  obtain ⟨c0, c1, c2, c3, c4, c5, c6, c7⟩ := ev_cells (e := ⟨src, num, at', 10, person, item, val, text⟩) BE.out
  go_wp2_with fail
  refine (T1.out _).mono ?_
  rintro x w5 ⟨rfl, hb⟩
  have KB := Lib.hid (below_after KB.out hb)
  have BE := Lib.hid (blk_below BE.out hb)
  clear hb c0 c1 c2 c3 c4 c5 c6 c7
  go_wp2_with fail
  all_goals
    go_ret
    refine ⟨?_, KB.out⟩
    rw [HR.out]
    simp [*]
set_option maxHeartbeats 1000000 in
set_option maxRecDepth 100000 in
theorem refMay_11 (src person item text : ByteArray) (num at' val : Int) (w : World) (f1 : src.size ≤ 4000000000) (f3 : item.size ≤ 4000000000) (f4 : text.size ≤ 4000000000) :
    Calls Tryd.prog 14 #[(⟨src, num, at', 11, person, item, val, text⟩ : Ev).v] w fun x w' => x = .returned (.bool (mayF ⟨src, num, at', 11, person, item, val, text⟩)) ∧ Below w.heap.size w w' := by
  have N1 := Lib.hid (fun W => refName_ok src W f1)
  have I1 := Lib.hid (fun W => refIn_ok num 1 1099511627776 W)
  have I2 := Lib.hid (fun W => refIn_ok at' 0 1099511627776 W)
  have P2 := Lib.hid (fun W => refName_ok item W f3)
  have V1 := Lib.hid (fun W => refIn_ok val 0 1048576 W)
  have T1 := Lib.hid (fun W => refLabel_ok text W f4)
  have hR : mayF ⟨src, num, at', 11, person, item, val, text⟩ = (true && (nameB src && (inF num 1 1099511627776 && (inF at' 0 1099511627776 && (inF val 0 1048576 && ((person.toList == []) && (nameB item && goodsF text))))))) := rfl
  generalize mayF ⟨src, num, at', 11, person, item, val, text⟩ = R at *
  generalize nameB src = b1 at *
  generalize inF num 1 1099511627776 = b2 at *
  generalize inF at' 0 1099511627776 = b3 at *
  generalize hp : (person.toList == []) = bp at *
  have hp2 : person.toList.isEmpty = bp := by rw [← hp]; cases person.toList <;> rfl
  generalize nameB item = bi at *
  generalize inF val 0 1048576 = bv at *
  generalize goodsF text = bt at *
  have HR := Lib.hid hR
  clear hR f1 f3 f4
  go_enter Tryd.func14, Tryd.ntmps14
  have KB := Lib.hid (below_al (Below.refl w.heap.size w) (.cells #[.string src, .int .i64 num, .int .i64 at', .int .i64 11, .string person, .string item, .int .i64 val, .string text] 24 (0, 0)))
  have BE := Lib.hid (blk_new w (.cells #[.string src, .int .i64 num, .int .i64 at', .int .i64 11, .string person, .string item, .int .i64 val, .string text] 24 (0, 0)))
  go_wp2_with fail
  refine (N1.out _).mono ?_
  rintro x w1 ⟨rfl, hb⟩
  have KB := Lib.hid (below_after KB.out hb)
  have BE := Lib.hid (blk_below BE.out hb)
  clear hb
  cases b1 with
  | false =>
    go_wp2_with fail
    go_ret
    rw [HR.out]
    exact ⟨rfl, KB.out⟩
  | true =>
  obtain ⟨c0, c1, c2, c3, c4, c5, c6, c7⟩ := ev_cells (e := ⟨src, num, at', 11, person, item, val, text⟩) BE.out
  go_wp2_with fail
  refine (I1.out _).mono ?_
  rintro x w2 ⟨rfl, hb⟩
  have KB := Lib.hid (below_after KB.out hb)
  have BE := Lib.hid (blk_below BE.out hb)
  clear hb c0 c1 c2 c3 c4 c5 c6 c7
  cases b2 with
  | false =>
    go_wp2_with fail
    go_ret
    rw [HR.out]
    exact ⟨rfl, KB.out⟩
  | true =>
  obtain ⟨c0, c1, c2, c3, c4, c5, c6, c7⟩ := ev_cells (e := ⟨src, num, at', 11, person, item, val, text⟩) BE.out
  go_wp2_with fail
  refine (I2.out _).mono ?_
  rintro x w3 ⟨rfl, hb⟩
  have KB := Lib.hid (below_after KB.out hb)
  have BE := Lib.hid (blk_below BE.out hb)
  clear hb c0 c1 c2 c3 c4 c5 c6 c7
  cases b3 with
  | false =>
    go_wp2_with fail
    go_ret
    rw [HR.out]
    exact ⟨rfl, KB.out⟩
  | true =>
  obtain ⟨c0, c1, c2, c3, c4, c5, c6, c7⟩ := ev_cells (e := ⟨src, num, at', 11, person, item, val, text⟩) BE.out
  go_wp2_with fail
  go_quiet (fail)
  go_wp2_with fail
  refine (P2.out _).mono ?_
  rintro x w4 ⟨rfl, hb⟩
  have KB := Lib.hid (below_after (below_drN KB.out _) hb)
  have BE := Lib.hid (blk_below (blk_drewN BE.out _) hb)
  clear hb c0 c1 c2 c3 c4 c5 c6 c7
  obtain ⟨c0, c1, c2, c3, c4, c5, c6, c7⟩ := ev_cells (e := ⟨src, num, at', 11, person, item, val, text⟩) BE.out
  go_wp2_with fail
  refine (V1.out _).mono ?_
  rintro x w5 ⟨rfl, hb⟩
  have KB := Lib.hid (below_after KB.out hb)
  have BE := Lib.hid (blk_below BE.out hb)
  clear hb c0 c1 c2 c3 c4 c5 c6 c7
  obtain ⟨c0, c1, c2, c3, c4, c5, c6, c7⟩ := ev_cells (e := ⟨src, num, at', 11, person, item, val, text⟩) BE.out
  go_wp2_with fail
  refine (T1.out _).mono ?_
  rintro x w6 ⟨rfl, hb⟩
  have KB := Lib.hid (below_after KB.out hb)
  have BE := Lib.hid (blk_below BE.out hb)
  clear hb c0 c1 c2 c3 c4 c5 c6 c7
  go_wp2_with fail
  all_goals
    go_ret
    refine ⟨?_, KB.out⟩
    rw [HR.out]
    simp [*]
set_option maxHeartbeats 1000000 in
set_option maxRecDepth 100000 in
theorem refMay_12 (src person item text : ByteArray) (num at' val : Int) (w : World) (f1 : src.size ≤ 4000000000) (f3 : item.size ≤ 4000000000) :
    Calls Tryd.prog 14 #[(⟨src, num, at', 12, person, item, val, text⟩ : Ev).v] w fun x w' => x = .returned (.bool (mayF ⟨src, num, at', 12, person, item, val, text⟩)) ∧ Below w.heap.size w w' := by
  have N1 := Lib.hid (fun W => refName_ok src W f1)
  have I1 := Lib.hid (fun W => refIn_ok num 1 1099511627776 W)
  have I2 := Lib.hid (fun W => refIn_ok at' 0 1099511627776 W)
  have P2 := Lib.hid (fun W => refName_ok item W f3)
  have V1 := Lib.hid (fun W => refIn_ok val 0 1048576 W)
  have hR : mayF ⟨src, num, at', 12, person, item, val, text⟩ = (true && (nameB src && (inF num 1 1099511627776 && (inF at' 0 1099511627776 && (inF val 0 1048576 && ((person.toList == []) && (nameB item && (text.toList == [])))))))) := rfl
  generalize mayF ⟨src, num, at', 12, person, item, val, text⟩ = R at *
  generalize nameB src = b1 at *
  generalize inF num 1 1099511627776 = b2 at *
  generalize inF at' 0 1099511627776 = b3 at *
  generalize hp : (person.toList == []) = bp at *
  have hp2 : person.toList.isEmpty = bp := by rw [← hp]; cases person.toList <;> rfl
  generalize nameB item = bi at *
  generalize inF val 0 1048576 = bv at *
  generalize ht : (text.toList == []) = bt at *
  have ht2 : text.toList.isEmpty = bt := by rw [← ht]; cases text.toList <;> rfl
  have HR := Lib.hid hR
  clear hR f1 f3
  go_enter Tryd.func14, Tryd.ntmps14
  have KB := Lib.hid (below_al (Below.refl w.heap.size w) (.cells #[.string src, .int .i64 num, .int .i64 at', .int .i64 12, .string person, .string item, .int .i64 val, .string text] 24 (0, 0)))
  have BE := Lib.hid (blk_new w (.cells #[.string src, .int .i64 num, .int .i64 at', .int .i64 12, .string person, .string item, .int .i64 val, .string text] 24 (0, 0)))
  go_wp2_with fail
  refine (N1.out _).mono ?_
  rintro x w1 ⟨rfl, hb⟩
  have KB := Lib.hid (below_after KB.out hb)
  have BE := Lib.hid (blk_below BE.out hb)
  clear hb
  cases b1 with
  | false =>
    go_wp2_with fail
    go_ret
    rw [HR.out]
    exact ⟨rfl, KB.out⟩
  | true =>
  obtain ⟨c0, c1, c2, c3, c4, c5, c6, c7⟩ := ev_cells (e := ⟨src, num, at', 12, person, item, val, text⟩) BE.out
  go_wp2_with fail
  refine (I1.out _).mono ?_
  rintro x w2 ⟨rfl, hb⟩
  have KB := Lib.hid (below_after KB.out hb)
  have BE := Lib.hid (blk_below BE.out hb)
  clear hb c0 c1 c2 c3 c4 c5 c6 c7
  cases b2 with
  | false =>
    go_wp2_with fail
    go_ret
    rw [HR.out]
    exact ⟨rfl, KB.out⟩
  | true =>
  obtain ⟨c0, c1, c2, c3, c4, c5, c6, c7⟩ := ev_cells (e := ⟨src, num, at', 12, person, item, val, text⟩) BE.out
  go_wp2_with fail
  refine (I2.out _).mono ?_
  rintro x w3 ⟨rfl, hb⟩
  have KB := Lib.hid (below_after KB.out hb)
  have BE := Lib.hid (blk_below BE.out hb)
  clear hb c0 c1 c2 c3 c4 c5 c6 c7
  cases b3 with
  | false =>
    go_wp2_with fail
    go_ret
    rw [HR.out]
    exact ⟨rfl, KB.out⟩
  | true =>
  obtain ⟨c0, c1, c2, c3, c4, c5, c6, c7⟩ := ev_cells (e := ⟨src, num, at', 12, person, item, val, text⟩) BE.out
  go_wp2_with fail
  go_quiet (fail)
  go_wp2_with fail
  refine (P2.out _).mono ?_
  rintro x w4 ⟨rfl, hb⟩
  have KB := Lib.hid (below_after (below_drN KB.out _) hb)
  have BE := Lib.hid (blk_below (blk_drewN BE.out _) hb)
  clear hb c0 c1 c2 c3 c4 c5 c6 c7
  obtain ⟨c0, c1, c2, c3, c4, c5, c6, c7⟩ := ev_cells (e := ⟨src, num, at', 12, person, item, val, text⟩) BE.out
  go_wp2_with fail
  refine (V1.out _).mono ?_
  rintro x w5 ⟨rfl, hb⟩
  have KB := Lib.hid (below_after KB.out hb)
  have BE := Lib.hid (blk_below BE.out hb)
  clear hb c0 c1 c2 c3 c4 c5 c6 c7
  go_wp2_with fail
  all_goals
    go_ret
    refine ⟨?_, KB.out⟩
    rw [HR.out]
    simp [*]
set_option maxHeartbeats 1000000 in
set_option maxRecDepth 100000 in
theorem refMay_13 (src person item text : ByteArray) (num at' val : Int) (w : World) (f1 : src.size ≤ 4000000000) (f3 : item.size ≤ 4000000000) :
    Calls Tryd.prog 14 #[(⟨src, num, at', 13, person, item, val, text⟩ : Ev).v] w fun x w' => x = .returned (.bool (mayF ⟨src, num, at', 13, person, item, val, text⟩)) ∧ Below w.heap.size w w' := by
  have N1 := Lib.hid (fun W => refName_ok src W f1)
  have I1 := Lib.hid (fun W => refIn_ok num 1 1099511627776 W)
  have I2 := Lib.hid (fun W => refIn_ok at' 0 1099511627776 W)
  have P2 := Lib.hid (fun W => refName_ok item W f3)
  have hR : mayF ⟨src, num, at', 13, person, item, val, text⟩ = (true && (nameB src && (inF num 1 1099511627776 && (inF at' 0 1099511627776 && (inF val 0 0 && ((person.toList == []) && (nameB item && (text.toList == [])))))))) := rfl
  rw [inF_zero] at hR
  generalize mayF ⟨src, num, at', 13, person, item, val, text⟩ = R at *
  generalize nameB src = b1 at *
  generalize inF num 1 1099511627776 = b2 at *
  generalize inF at' 0 1099511627776 = b3 at *
  generalize hp : (person.toList == []) = bp at *
  have hp2 : person.toList.isEmpty = bp := by rw [← hp]; cases person.toList <;> rfl
  generalize nameB item = bi at *
  generalize hv : (val == 0) = bv at *
  generalize ht : (text.toList == []) = bt at *
  have ht2 : text.toList.isEmpty = bt := by rw [← ht]; cases text.toList <;> rfl
  have HR := Lib.hid hR
  clear hR f1 f3
  go_enter Tryd.func14, Tryd.ntmps14
  have KB := Lib.hid (below_al (Below.refl w.heap.size w) (.cells #[.string src, .int .i64 num, .int .i64 at', .int .i64 13, .string person, .string item, .int .i64 val, .string text] 24 (0, 0)))
  have BE := Lib.hid (blk_new w (.cells #[.string src, .int .i64 num, .int .i64 at', .int .i64 13, .string person, .string item, .int .i64 val, .string text] 24 (0, 0)))
  go_wp2_with fail
  refine (N1.out _).mono ?_
  rintro x w1 ⟨rfl, hb⟩
  have KB := Lib.hid (below_after KB.out hb)
  have BE := Lib.hid (blk_below BE.out hb)
  clear hb
  cases b1 with
  | false =>
    go_wp2_with fail
    go_ret
    rw [HR.out]
    exact ⟨rfl, KB.out⟩
  | true =>
  obtain ⟨c0, c1, c2, c3, c4, c5, c6, c7⟩ := ev_cells (e := ⟨src, num, at', 13, person, item, val, text⟩) BE.out
  go_wp2_with fail
  refine (I1.out _).mono ?_
  rintro x w2 ⟨rfl, hb⟩
  have KB := Lib.hid (below_after KB.out hb)
  have BE := Lib.hid (blk_below BE.out hb)
  clear hb c0 c1 c2 c3 c4 c5 c6 c7
  cases b2 with
  | false =>
    go_wp2_with fail
    go_ret
    rw [HR.out]
    exact ⟨rfl, KB.out⟩
  | true =>
  obtain ⟨c0, c1, c2, c3, c4, c5, c6, c7⟩ := ev_cells (e := ⟨src, num, at', 13, person, item, val, text⟩) BE.out
  go_wp2_with fail
  refine (I2.out _).mono ?_
  rintro x w3 ⟨rfl, hb⟩
  have KB := Lib.hid (below_after KB.out hb)
  have BE := Lib.hid (blk_below BE.out hb)
  clear hb c0 c1 c2 c3 c4 c5 c6 c7
  cases b3 with
  | false =>
    go_wp2_with fail
    go_ret
    rw [HR.out]
    exact ⟨rfl, KB.out⟩
  | true =>
  obtain ⟨c0, c1, c2, c3, c4, c5, c6, c7⟩ := ev_cells (e := ⟨src, num, at', 13, person, item, val, text⟩) BE.out
  go_wp2_with fail
  go_quiet (fail)
  go_wp2_with fail
  refine (P2.out _).mono ?_
  rintro x w4 ⟨rfl, hb⟩
  have KB := Lib.hid (below_after (below_drN KB.out _) hb)
  have BE := Lib.hid (blk_below (blk_drewN BE.out _) hb)
  clear hb c0 c1 c2 c3 c4 c5 c6 c7
  go_wp2_with fail
  all_goals
    go_ret
    refine ⟨?_, KB.out⟩
    rw [HR.out]
    simp [*]
set_option maxHeartbeats 1000000 in
set_option maxRecDepth 100000 in
theorem refMay_14 (src person item text : ByteArray) (num at' val : Int) (w : World) (f1 : src.size ≤ 4000000000) (f2 : person.size ≤ 4000000000) :
    Calls Tryd.prog 14 #[(⟨src, num, at', 14, person, item, val, text⟩ : Ev).v] w fun x w' => x = .returned (.bool (mayF ⟨src, num, at', 14, person, item, val, text⟩)) ∧ Below w.heap.size w w' := by
  have N1 := Lib.hid (fun W => refName_ok src W f1)
  have I1 := Lib.hid (fun W => refIn_ok num 1 1099511627776 W)
  have I2 := Lib.hid (fun W => refIn_ok at' 0 1099511627776 W)
  have P1 := Lib.hid (fun W => refName_ok person W f2)
  have hR : mayF ⟨src, num, at', 14, person, item, val, text⟩ = (true && (nameB src && (inF num 1 1099511627776 && (inF at' 0 1099511627776 && (inF val 0 0 && (nameB person && ((item.toList == []) && (text.toList == [])))))))) := rfl
  rw [inF_zero] at hR
  generalize mayF ⟨src, num, at', 14, person, item, val, text⟩ = R at *
  generalize nameB src = b1 at *
  generalize inF num 1 1099511627776 = b2 at *
  generalize inF at' 0 1099511627776 = b3 at *
  generalize nameB person = bp at *
  generalize hi : (item.toList == []) = bi at *
  have hi2 : item.toList.isEmpty = bi := by rw [← hi]; cases item.toList <;> rfl
  generalize hv : (val == 0) = bv at *
  generalize ht : (text.toList == []) = bt at *
  have ht2 : text.toList.isEmpty = bt := by rw [← ht]; cases text.toList <;> rfl
  have HR := Lib.hid hR
  clear hR f1 f2
  go_enter Tryd.func14, Tryd.ntmps14
  have KB := Lib.hid (below_al (Below.refl w.heap.size w) (.cells #[.string src, .int .i64 num, .int .i64 at', .int .i64 14, .string person, .string item, .int .i64 val, .string text] 24 (0, 0)))
  have BE := Lib.hid (blk_new w (.cells #[.string src, .int .i64 num, .int .i64 at', .int .i64 14, .string person, .string item, .int .i64 val, .string text] 24 (0, 0)))
  go_wp2_with fail
  refine (N1.out _).mono ?_
  rintro x w1 ⟨rfl, hb⟩
  have KB := Lib.hid (below_after KB.out hb)
  have BE := Lib.hid (blk_below BE.out hb)
  clear hb
  cases b1 with
  | false =>
    go_wp2_with fail
    go_ret
    rw [HR.out]
    exact ⟨rfl, KB.out⟩
  | true =>
  obtain ⟨c0, c1, c2, c3, c4, c5, c6, c7⟩ := ev_cells (e := ⟨src, num, at', 14, person, item, val, text⟩) BE.out
  go_wp2_with fail
  refine (I1.out _).mono ?_
  rintro x w2 ⟨rfl, hb⟩
  have KB := Lib.hid (below_after KB.out hb)
  have BE := Lib.hid (blk_below BE.out hb)
  clear hb c0 c1 c2 c3 c4 c5 c6 c7
  cases b2 with
  | false =>
    go_wp2_with fail
    go_ret
    rw [HR.out]
    exact ⟨rfl, KB.out⟩
  | true =>
  obtain ⟨c0, c1, c2, c3, c4, c5, c6, c7⟩ := ev_cells (e := ⟨src, num, at', 14, person, item, val, text⟩) BE.out
  go_wp2_with fail
  refine (I2.out _).mono ?_
  rintro x w3 ⟨rfl, hb⟩
  have KB := Lib.hid (below_after KB.out hb)
  have BE := Lib.hid (blk_below BE.out hb)
  clear hb c0 c1 c2 c3 c4 c5 c6 c7
  cases b3 with
  | false =>
    go_wp2_with fail
    go_ret
    rw [HR.out]
    exact ⟨rfl, KB.out⟩
  | true =>
  obtain ⟨c0, c1, c2, c3, c4, c5, c6, c7⟩ := ev_cells (e := ⟨src, num, at', 14, person, item, val, text⟩) BE.out
  go_wp2_with fail
  go_quiet (fail)
  go_wp2_with fail
  refine (P1.out _).mono ?_
  rintro x w4 ⟨rfl, hb⟩
  have KB := Lib.hid (below_after (below_drN KB.out _) hb)
  have BE := Lib.hid (blk_below (blk_drewN BE.out _) hb)
  clear hb c0 c1 c2 c3 c4 c5 c6 c7
  go_wp2_with fail
  all_goals
    go_ret
    refine ⟨?_, KB.out⟩
    rw [HR.out]
    simp [*]
set_option maxHeartbeats 1000000 in
set_option maxRecDepth 100000 in
theorem refMay_no (src person item text : ByteArray) (num at' val k : Int) (w : World) (f1 : src.size ≤ 4000000000) (hk : k < 0 ∨ 14 < k) :
    Calls Tryd.prog 14 #[(⟨src, num, at', k, person, item, val, text⟩ : Ev).v] w fun x w' => x = .returned (.bool (mayF ⟨src, num, at', k, person, item, val, text⟩)) ∧ Below w.heap.size w w' := by
  have N1 := Lib.hid (fun W => refName_ok src W f1)
  have I1 := Lib.hid (fun W => refIn_ok num 1 1099511627776 W)
  have I2 := Lib.hid (fun W => refIn_ok at' 0 1099511627776 W)
  have hR : mayF ⟨src, num, at', k, person, item, val, text⟩ = false := by
    unfold mayF mayW rowF
    rw [if_neg (by simp only; omega), if_neg (by simp only; omega), if_neg (by simp only; omega), if_neg (by simp only; omega), if_neg (by simp only; omega), if_neg (by simp only; omega), if_neg (by simp only; omega)]
    rfl
  generalize mayF ⟨src, num, at', k, person, item, val, text⟩ = R at *
  generalize nameB src = b1 at *
  generalize inF num 1 1099511627776 = b2 at *
  generalize inF at' 0 1099511627776 = b3 at *
  generalize hp : (person.toList == []) = bp at *
  have hp2 : person.toList.isEmpty = bp := by rw [← hp]; cases person.toList <;> rfl
  generalize hi : (item.toList == []) = bi at *
  have hi2 : item.toList.isEmpty = bi := by rw [← hi]; cases item.toList <;> rfl
  generalize hv : (val == 0) = bv at *
  generalize ht : (text.toList == []) = bt at *
  have ht2 : text.toList.isEmpty = bt := by rw [← ht]; cases text.toList <;> rfl
  have HR := Lib.hid hR
  clear hR f1
  have z0 : (k == 0) = false := beq_eq_false_iff_ne.2 (by omega)
  have z1 : (k == 1) = false := beq_eq_false_iff_ne.2 (by omega)
  have z2 : (k == 2) = false := beq_eq_false_iff_ne.2 (by omega)
  have z3 : (k == 3) = false := beq_eq_false_iff_ne.2 (by omega)
  have z4 : (k == 4) = false := beq_eq_false_iff_ne.2 (by omega)
  have z5 : (k == 5) = false := beq_eq_false_iff_ne.2 (by omega)
  have z6 : (k == 6) = false := beq_eq_false_iff_ne.2 (by omega)
  have z7 : (k == 7) = false := beq_eq_false_iff_ne.2 (by omega)
  have z8 : (k == 8) = false := beq_eq_false_iff_ne.2 (by omega)
  have z9 : (k == 9) = false := beq_eq_false_iff_ne.2 (by omega)
  have z10 : (k == 10) = false := beq_eq_false_iff_ne.2 (by omega)
  have z11 : (k == 11) = false := beq_eq_false_iff_ne.2 (by omega)
  have z12 : (k == 12) = false := beq_eq_false_iff_ne.2 (by omega)
  have z13 : (k == 13) = false := beq_eq_false_iff_ne.2 (by omega)
  have z14 : (k == 14) = false := beq_eq_false_iff_ne.2 (by omega)
  go_enter Tryd.func14, Tryd.ntmps14
  have KB := Lib.hid (below_al (Below.refl w.heap.size w) (.cells #[.string src, .int .i64 num, .int .i64 at', .int .i64 k, .string person, .string item, .int .i64 val, .string text] 24 (0, 0)))
  have BE := Lib.hid (blk_new w (.cells #[.string src, .int .i64 num, .int .i64 at', .int .i64 k, .string person, .string item, .int .i64 val, .string text] 24 (0, 0)))
  go_wp2_with fail
  refine (N1.out _).mono ?_
  rintro x w1 ⟨rfl, hb⟩
  have KB := Lib.hid (below_after KB.out hb)
  have BE := Lib.hid (blk_below BE.out hb)
  clear hb
  cases b1 with
  | false =>
    go_wp2_with fail
    go_ret
    rw [HR.out]
    exact ⟨rfl, KB.out⟩
  | true =>
  obtain ⟨c0, c1, c2, c3, c4, c5, c6, c7⟩ := ev_cells (e := ⟨src, num, at', k, person, item, val, text⟩) BE.out
  go_wp2_with fail
  refine (I1.out _).mono ?_
  rintro x w2 ⟨rfl, hb⟩
  have KB := Lib.hid (below_after KB.out hb)
  have BE := Lib.hid (blk_below BE.out hb)
  clear hb c0 c1 c2 c3 c4 c5 c6 c7
  cases b2 with
  | false =>
    go_wp2_with fail
    go_ret
    rw [HR.out]
    exact ⟨rfl, KB.out⟩
  | true =>
  obtain ⟨c0, c1, c2, c3, c4, c5, c6, c7⟩ := ev_cells (e := ⟨src, num, at', k, person, item, val, text⟩) BE.out
  go_wp2_with fail
  refine (I2.out _).mono ?_
  rintro x w3 ⟨rfl, hb⟩
  have KB := Lib.hid (below_after KB.out hb)
  have BE := Lib.hid (blk_below BE.out hb)
  clear hb c0 c1 c2 c3 c4 c5 c6 c7
  cases b3 with
  | false =>
    go_wp2_with fail
    go_ret
    rw [HR.out]
    exact ⟨rfl, KB.out⟩
  | true =>
  obtain ⟨c0, c1, c2, c3, c4, c5, c6, c7⟩ := ev_cells (e := ⟨src, num, at', k, person, item, val, text⟩) BE.out
  go_wp2_with fail
  go_quiet (fail)
  go_wp2_with fail
  go_ret
  rw [HR.out]
  exact ⟨rfl, below_drN KB.out _⟩
theorem refMay_ok (e : Ev) (w : World) (hf : Fits e) : Calls Tryd.prog 14 #[e.v] w fun x w' => x = .returned (.bool (mayF e)) ∧ Below w.heap.size w w' := by
  obtain ⟨f1, f2, f3, f4⟩ := hf
  obtain ⟨src, num, at', kind, person, item, val, text⟩ := e
  by_cases hk : kind < 0 ∨ 14 < kind
  · exact refMay_no src person item text num at' val kind w f1 hk
  have h : kind = 0 ∨ kind = 1 ∨ kind = 2 ∨ kind = 3 ∨ kind = 4 ∨ kind = 5 ∨ kind = 6 ∨ kind = 7 ∨ kind = 8 ∨ kind = 9 ∨ kind = 10 ∨ kind = 11 ∨ kind = 12 ∨ kind = 13 ∨ kind = 14 := by omega
  rcases h with rfl | rfl | rfl | rfl | rfl | rfl | rfl | rfl | rfl | rfl | rfl | rfl | rfl | rfl | rfl
  · exact refMay_0 src person item text num at' val w f1 f2 f3
  · exact refMay_1 src person item text num at' val w f1 f2 f3
  · exact refMay_2 src person item text num at' val w f1 f2 f3
  · exact refMay_3 src person item text num at' val w f1 f2 f3
  · exact refMay_4 src person item text num at' val w f1 f2 f3
  · exact refMay_5 src person item text num at' val w f1 f2 f3
  · exact refMay_6 src person item text num at' val w f1 f2 f3
  · exact refMay_7 src person item text num at' val w f1 f2 f4
  · exact refMay_8 src person item text num at' val w f1 f2 f4
  · exact refMay_9 src person item text num at' val w f1 f2 f4
  · exact refMay_10 src person item text num at' val w f1 f2 f4
  · exact refMay_11 src person item text num at' val w f1 f3 f4
  · exact refMay_12 src person item text num at' val w f1 f3
  · exact refMay_13 src person item text num at' val w f1 f3
  · exact refMay_14 src person item text num at' val w f1 f2
end Go.Proofs.YtkhjnbjmbmacjaaDoor
