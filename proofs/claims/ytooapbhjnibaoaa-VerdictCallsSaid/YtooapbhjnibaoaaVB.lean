/- The walks of Choose and Tail. -/
import Derived.Test.YtooapbhjnibaoaaVA
namespace Go.Proofs.Ytooapbhjnibaoaa
open Go.RowKit

theorem run_index_rowV (f : Nat → Nat) (k : Nat) (hk : k < 63) (w : World) : (Instr.index 50 (.agg (rowV f)) (.int .i64 k)).run Try.prog w = .ok (.int .u64 (f k)) w := by
  have hs : (sizeOf 22).run Try.prog w = .ok 1 w := by
    simp [sizeOf, typeInfo, show Try.prog.info? 22 = some _ from rfl]
    kernel_rfl
  simp [Instr.index, run_underlying Try.underlying50, asIntOf, hk, Sem.run_bind, hs, rowV_get f hk, go_sem]
theorem wpList_index_rowV {ops : Array Oper} {rest : List Oper} {o : Oper} {a : Act} {w : World} {Q : Exit → Act → World → Prop} (hgd : o.guard = none) (x y : Operand) (ho : o.op = .index 50 x y) (f : Nat → Nat) (hx : a.eval x = .agg (rowV f)) (k : Nat) (hy : a.eval y = .int .i64 k) (hk : k < 63)
    (h : wpList Try.prog ops Q rest (a.put o.dst (.int .u64 (f k))) w) : wpList Try.prog ops Q (o :: rest) a w :=
  wpList_plain hgd fun _ hK => by
    unfold Oper.wp execOp
    simp only [ho, hx, hy, Sem.run_bind, run_index_rowV f k hk, Result.andThen_ok, Sem.run_pure]
    exact hK _ _ h

theorem choose_no (n k : Int) (h : ¬ (0 ≤ n ∧ n ≤ 62)) (w : World) :
    Calls Try.prog 10 #[.int .i64 n, .int .i64 k] w fun e w' => e = .returned (.tuple #[.int .u64 0, .bool false]) ∧ Below w.heap.size w w' := by
  by_cases h0 : n < 0
  · clear h
    go_enter Try.func10, Try.ntmps10
    go_wp2
    go_ret2
    exact ⟨rfl, Below.refl _ _⟩
  · have h1 : 62 < n := by omega
    clear h
    go_enter Try.func10, Try.ntmps10
    go_wp2
    go_ret2
    exact ⟨rfl, Below.refl _ _⟩
theorem choose_out (n k : Int) (h0 : 0 ≤ n) (h1 : n ≤ 62) (h : ¬ (0 ≤ k ∧ k ≤ n)) (w : World) :
    Calls Try.prog 10 #[.int .i64 n, .int .i64 k] w fun e w' => e = .returned (.tuple #[.int .u64 0, .bool true]) ∧ Below w.heap.size w w' := by
  by_cases h2 : k < 0
  · clear h
    go_enter Try.func10, Try.ntmps10
    go_wp2
    go_ret2
    exact ⟨rfl, Below.refl _ _⟩
  · have h3 : n < k := by omega
    clear h
    go_enter Try.func10, Try.ntmps10
    go_wp2
    go_ret2
    exact ⟨rfl, Below.refl _ _⟩
set_option maxRecDepth 100000 in
theorem choose_in (n k : Nat) (h1 : n ≤ 62) (h3 : k ≤ n) (w : World) :
    Calls Try.prog 10 #[.int .i64 n, .int .i64 k] w fun e w' => e = .returned (.tuple #[.int .u64 (ch n k : Nat), .bool true]) ∧ Below w.heap.size w w' := by
  have h1' : (n : Int) ≤ 62 := by omega
  have h3' : (k : Int) ≤ n := by omega
  go_enter Try.func10, Try.ntmps10
  go_wp2_with fail
  refine (row_ok n h1 _).mono ?_
  rintro e w1 ⟨rfl, hb⟩
  have K := Lib.hid hb
  clear hb
  go_wp2_with (refine wpList_index_rowV rfl _ _ rfl _ rfl _ rfl (by omega) ?_)
  go_ret2
  exact ⟨rfl, K.out⟩

theorem tail_no (n k : Int) (h : ¬ (0 ≤ n ∧ n ≤ 62)) (w : World) :
    Calls Try.prog 13 #[.int .i64 n, .int .i64 k] w fun e w' => e = .returned (.tuple #[.agg #[.int .i64 0, .int .i64 1], .bool false]) ∧ Below w.heap.size w w' := by
  by_cases h0 : n < 0
  · clear h
    go_enter Try.func13, Try.ntmps13
    go_wp2
    exact bodyPost_ret (res_ct rfl (InRow.mk' _ (blk_new _ _) Try.underlying29 rfl (by kernel_rfl))) rfl ⟨rfl, below_al (Below.refl _ _) _⟩
  · have h1 : 62 < n := by omega
    clear h
    go_enter Try.func13, Try.ntmps13
    go_wp2
    exact bodyPost_ret (res_ct rfl (InRow.mk' _ (blk_new _ _) Try.underlying29 rfl (by kernel_rfl))) rfl ⟨rfl, below_al (Below.refl _ _) _⟩

def tailF (n : Nat) (k : Int) (i : Nat) : Nat := if k ≤ i then ch n i else 0
theorem tail_le (n : Nat) (k : Int) (j : Nat) : part (tailF n k) j ≤ 2 ^ n := by
  have h1 : part (tailF n k) j ≤ part (ch n) j := part_le fun i _ => by unfold tailF; split <;> omega
  have h2 := part_mono (ch n) j (n + 1)
  rw [ch_all_more (n := n) (j := j + (n + 1)) (by omega)] at h2
  omega

set_option maxRecDepth 100000 in
set_option maxHeartbeats 1000000 in
theorem tail_ok (n : Nat) (k : Int) (h1 : n ≤ 62) (w : World) :
    Calls Try.prog 13 #[.int .i64 n, .int .i64 k] w fun e w' => e = .returned (.tuple #[.agg #[.int .i64 (part (tailF n k) 63 : Nat), .int .i64 (2 ^ n : Nat)], .bool true]) ∧ Below w.heap.size w w' := by
  have h1' : (n : Int) ≤ 62 := by omega
  go_enter Try.func13, Try.ntmps13
  go_wp2_with fail
  refine (row_ok n h1 _).mono ?_
  rintro e w1 ⟨rfl, hb⟩
  have B := Lib.hid (blk_below (blk_new w _) hb)
  have K := Lib.hid (below_after (below_al (Below.refl _ _) _) hb)
  clear hb
  go_wp2_with fail
  go_loopw [6, 18] (fun s v wr => ∃ i : Nat, i ≤ 63 ∧ v = .int .i64 i ∧ s = .int .u64 (part (tailF n k) i : Nat) ∧ wr = w1) (fun _ v _ => 63 - (intOf v).toNat)
  case atStart => exact ⟨0, by omega, rfl, rfl, rfl⟩
  case round =>
    obtain ⟨i, hi, rfl, rfl, rfl⟩ := hrel
    by_cases hlt : i < 63
    · have hlt' : (i : Int) < 63 := by omega
      by_cases hk : k ≤ i
      · go_wp2_with (refine wpList_index_rowV rfl _ _ rfl _ rfl _ rfl hlt ?_)
        go_roundw
        case rel =>
          refine ⟨i + 1, by omega, by go_num, congrArg (Value.int .u64) ?_, trivial⟩
          have b1 := tail_le n k (i + 1)
          have b3 := pow_le62 h1
          have e : tailF n k i = ch n i := by unfold tailF; rw [if_pos hk]
          rw [part_s, e] at b1
          rw [part_s, e, IntKind.wrap_u64]
          omega
        case measure => simp [intOf]; omega
      · go_wp2_with (refine wpList_index_rowV rfl _ _ rfl _ rfl _ rfl hlt ?_)
        go_roundw
        case rel =>
          refine ⟨i + 1, by omega, by go_num, congrArg (Value.int .u64) ?_, trivial⟩
          have e : tailF n k i = 0 := by unfold tailF; rw [if_neg hk]
          rw [part_s, e, Nat.add_zero]
        case measure => simp [intOf]; omega
    · obtain rfl : i = 63 := by omega
      obtain ⟨z0, z1, z2, z3⟩ := two_cells B.out
      have w1 : wrap64 (part (tailF n k) 63 : Nat) = (part (tailF n k) 63 : Nat) := by
        have b1 := tail_le n k 63
        have b3 := pow_le62 h1
        unfold wrap64; omega
      have w2 : wrap64 ((2 : Int) ^ n) = (2 ^ n : Nat) := by
        have b3 := pow_le62 h1
        have e : ((2 : Int) ^ n) = ((2 ^ n : Nat) : Int) := by simp
        rw [e]
        generalize (2 : Nat) ^ n = z at b3
        unfold wrap64; omega
      have W1 := Lib.hid w1
      have W2 := Lib.hid w2
      clear w1 w2
      go_wp2_with fail
      rw [W1.out, W2.out]
      exact bodyPost_ret (res_ct rfl (InRow.mk' _ (two_set1 (two_set0 B.out _) _) Try.underlying29 rfl (by kernel_rfl))) rfl ⟨rfl, below_set (below_set K.out (by omega) _) (by omega) _⟩
end Go.Proofs.Ytooapbhjnibaoaa
