/- slices.Insert of one number into a row of the call's own: what becomes of the row. -/
import Derived.Test.YtlbpdlhelkokbaaDI
namespace Go.Proofs.Ytlbpdlhelkokbaa
open Go.RowKit Go.Lib

theorem grown_of_below {w w' : World} (h : Below w.heap.size w w') (row : Option Nat) : w.grownBy w' row := ⟨h.os, h.tape, h.output, h.size, fun k hk _ => h.block k hk⟩
theorem own_later {w w' : World} {base n : Nat} {e : TypeId} {v : Value} {xs : List Value} (h : w.ownsRow base e 1 v n xs) (hb : Below w.heap.size w w') : w'.ownsRow base e 1 v n xs := by
  rcases Option.eq_none_or_eq_some v.ownBlock with h0 | ⟨k, h0⟩
  · exact h.kept (grown_of_below hb none) (.inl h0)
  · exact h.kept (grown_of_below hb none) (.inr (by rw [h0]; simp))

def Inserted (w : World) (base : Nat) (S : Value) (n : Nat) (ys : List Value) (e : Ending) (w' : World) : Prop :=
  ∃ S', e = .returned S' ∧ w'.ownsRow base 23 1 S' (n + 1) ys ∧ w.grownBy w' S.ownBlock ∧ (S'.ownBlock = S.ownBlock ∨ S'.ownBlock = some w.heap.size)

theorem ins_end {w : World} {base n : Nat} {xs : List Value} {S : Value} (hown : w.ownsRow base 23 1 S n xs) (hbase : base ≤ w.heap.size) (hn : n ≤ 100000) (vb : Nat) (h : Int)
    (hvs : w.heap[vb]? = some (.cells #[.int .u64 h] 23 (0, 0))) :
    Calls Try.prog 38 #[S, .int .i64 n, .slice (some ⟨vb, 0, none⟩) 1 1] w (Inserted w base S n (xs ++ [.int .u64 h])) := by
  obtain ⟨i0, hi, hz0, hz1, hz2⟩ := info_parts info_u64
  have hvc : w.cell? ⟨vb, 0, none⟩ = some (.int .u64 h) := by simp [World.cell?, hvs]
  have HV : Hid (∀ j u, ([.int .u64 h] : List Value)[j]? = some u → w.cell? ((⟨vb, 0, none⟩ : Addr).add j) = some u) := by
    intro j v hj
    have e : j = 0 := by cases j with | zero => rfl | succ j => simp at hj
    subst e
    simp only [List.getElem?_cons_zero, Option.some.injEq] at hj
    subst hj
    exact hvc
  have HO := Lib.hid hown
  have HB := Lib.hid hbase
  clear hvs hvc hbase
  rcases hown.2 with ⟨rfl, rfl⟩ | ⟨g, c, cur, rfl, _, _, hnc, hcm, _, _⟩
  · clear hown
    go_enter Try.func38, Try.ntmps38
    go_wp2_with (at_builtin; refine wpList_append_own_at _ rfl _ _ 33 rfl base 23 i0 (.int .u64 0) 1 8 Try.underlying33 hi hz0 hz1 hz2 rfl (by decide) _ _ _ rfl HO.out ⟨vb, 0, none⟩ 1 1 [.int .u64 h] rfl rfl HV.out (fun x hx => by simp at hx; subst hx; rfl) (by unfold maxLen; omega) (by omega) HB.out ?_; intro v' w1 hown' hgrow hnil hloc)
    go_ret
    exact ⟨_, rfl, hown', hgrow, hloc⟩
  · clear hown
    have hcm' : c ≤ 9223372036854775807 := by unfold maxLen at hcm; omega
    clear hcm
    by_cases e : c = n
    all_goals
      go_enter Try.func38, Try.ntmps38
      go_wp2_with (at_builtin; refine wpList_append_own_at _ rfl _ _ 33 rfl base 23 i0 (.int .u64 0) 1 8 Try.underlying33 hi hz0 hz1 hz2 rfl (by decide) _ _ _ rfl HO.out ⟨vb, 0, none⟩ 1 1 [.int .u64 h] rfl rfl HV.out (fun x hx => by simp at hx; subst hx; rfl) (by unfold maxLen; omega) (by omega) HB.out ?_; intro v' w1 hown' hgrow hnil hloc)
      go_ret
      exact ⟨_, rfl, hown', hgrow, hloc⟩

theorem grown_setCells {w : World} (g : Nat) (o : Nat) (vs : List Value) : w.grownBy (w.setCells g o vs) (some g) := by
  obtain ⟨a, b, c, d⟩ := same_setCells g vs o w
  exact ⟨a, b, c, by omega, fun k _ hk => far_setCells (fun e => hk (by rw [e])) vs o w⟩
theorem grown_drew (w : World) (row : Option Nat) : w.grownBy w.drew row := ⟨rfl, rfl, rfl, Nat.le_refl _, fun _ _ _ => rfl⟩
theorem grown_new {w w1 w2 : World} {row : Option Nat} (h : w.grownBy w1 row) (k : w1.grownBy w2 (some w.heap.size)) : w.grownBy w2 row :=
  ⟨k.os.trans h.os, k.tape.trans h.tape, k.output.trans h.output, Nat.le_trans h.size k.size, fun i hi hne => (k.block i (by have := h.size; omega) (fun e => by cases e; omega)).trans (h.block i hi hne)⟩

theorem take_join (A D R E : List Value) (k m : Nat) (hA : A.length = k) (hm : A.length + D.length = m) : ((A ++ R).take k ++ D ++ E).take m = A ++ D := by
  have e : (A ++ R).take k = A := List.take_left' hA
  rw [e]
  exact List.take_left' (by simp only [List.length_append]; omega)

theorem ins_mid {w : World} {base n i : Nat} {xs : List Value} {S : Value} (hown : w.ownsRow base 23 1 S n xs) (hbase : base ≤ w.heap.size) (hn : n ≤ 100000) (hi : i < n) (h1 : ∀ v ∈ xs, v.oneCell' = true) (vb : Nat) (h : Int)
    (hvs : w.heap[vb]? = some (.cells #[.int .u64 h] 23 (0, 0))) (hvb : S.ownBlock ≠ some vb) :
    Calls Try.prog 38 #[S, .int .i64 i, .slice (some ⟨vb, 0, none⟩) 1 1] w (Inserted w base S n (xs.take i ++ .int .u64 h :: xs.drop i)) := by
  have hl := hown.1
  rw [Nat.mul_one] at hl
  rcases hown.2 with ⟨rfl, rfl⟩ | ⟨g, c, cur, rfl, hbg, hg, hnc, hcm, hcs, htk⟩
  · omega
  rw [Nat.mul_one] at hcs htk
  have hcells : ∀ j v, xs[j]? = some v → w.cell? ⟨g, 0 + j, none⟩ = some v := fun j v hj => by
    have := hown.cells (g := g) rfl j v hj
    rwa [Addr.add_lit] at this
  have hne : vb ≠ g := fun e => hvb (by rw [e]; rfl)
  by_cases hr : n + 1 ≤ c
  · refine (insert_shift g n c i vb h xs w hi hr (by unfold maxLen at hcm; omega) hne hl hcells (fun j hj => ?_) (fun j hj => by simp [World.frozen?, hg]) hvs h1 23 cur.size (by simp [World.shape?, hg]) (by omega)).mono ?_
    · rw [Nat.zero_add]
      simp only [World.cell?, hg]
      simp [show j < cur.size by omega]
    · rintro e w' ⟨rfl, rfl⟩
      have hb1 := blk_setCells (xs.drop i) (i + 1) w.drew cur hg
      have hb2 := blk_setCells [.int .u64 h] i _ _ hb1
      refine ⟨_, rfl, ⟨?_, .inr ⟨g, c, _, rfl, hbg, hb2, hr, hcm, by rw [size_setRow, size_setRow]; omega, ?_⟩⟩, ?_, .inl rfl⟩
      · simp only [List.length_append, List.length_take, List.length_cons, List.length_drop]; omega
      · have e0 : cur.toList.take i = xs.take i := by rw [← htk, List.take_take, Nat.min_eq_left (by omega)]
        have e1 : (setRow cur (i + 1) (xs.drop i)).toList = cur.toList.take (i + 1) ++ xs.drop i ++ cur.toList.drop (n + 1) := by
          rw [toList_setRow _ _ _ (by rw [List.length_drop]; omega), List.length_drop, show i + 1 + (xs.length - i) = n + 1 by omega]
        rw [toList_setRow _ _ _ (by rw [size_setRow]; simp only [List.length_singleton]; omega), e1, List.length_singleton]
        have l1 : (cur.toList.take (i + 1)).length = i + 1 := by rw [List.length_take, Array.length_toList]; omega
        have e2 : (cur.toList.take (i + 1) ++ xs.drop i ++ cur.toList.drop (n + 1)).take i = xs.take i := by
          rw [List.append_assoc, List.take_append_of_le_length (by omega), List.take_take, Nat.min_eq_left (by omega), e0]
        have e3 : (cur.toList.take (i + 1) ++ xs.drop i ++ cur.toList.drop (n + 1)).drop (i + 1) = xs.drop i ++ cur.toList.drop (n + 1) := by
          rw [List.append_assoc]
          exact List.drop_left' l1
        rw [e2, e3, Nat.mul_one]
        have l2 : (xs.take i ++ [Value.int .u64 h] ++ xs.drop i).length = n + 1 := by simp only [List.length_append, List.length_take, List.length_drop, List.length_singleton]; omega
        rw [← List.append_assoc, List.take_append_of_le_length (by omega), List.take_of_length_le (by omega)]
        simp
      · exact ((grown_drew w _).trans (grown_setCells g (i + 1) _)).trans (grown_setCells g i _)
  · refine (insert_grow g n c i vb h xs w hi hnc (by omega) (by omega) hl hcells hvs h1).mono ?_
    rintro e w' ⟨ROW, rfl, hR1, hR2, hR3, rfl⟩
    have hb0 : (w.alloc (.cells ROW 23)).drew.heap[w.heap.size]? = some (.cells ROW 23 (0, 0)) := blk_new w _
    have hb1 := blk_setCells [.int .u64 h] i _ _ hb0
    have hb2 := blk_setCells (xs.drop i) (i + 1) ((w.alloc (.cells ROW 23)).drew.setCells w.heap.size i [.int .u64 h]).drew _ hb1
    refine ⟨_, rfl, ⟨?_, .inr ⟨w.heap.size, _, _, rfl, hbase, hb2, hR2, hR1, by rw [size_setRow, size_setRow]; omega, ?_⟩⟩, ?_, .inr rfl⟩
    · simp only [List.length_append, List.length_take, List.length_cons, List.length_drop]; omega
    · rw [toList_setRow _ _ _ (by rw [size_setRow, List.length_drop]; omega), toList_setRow _ _ _ (by simp only [List.length_singleton]; omega), hR3, List.length_singleton, Nat.mul_one]
      have l1 : (xs.take i ++ [Value.int .u64 h]).length = i + 1 := by simp only [List.length_append, List.length_take, List.length_singleton]; omega
      rw [take_join _ _ _ _ _ _ l1 (by rw [l1, List.length_drop]; omega)]
      simp
    · exact grown_new (grown_new (grown_new ((World.grownBy_alloc w _ _).trans (grown_drew _ _)) (grown_setCells _ _ _)) (grown_drew _ _)) (grown_setCells _ _ _)

theorem insert_own {w : World} {base n i : Nat} {xs : List Value} {S : Value} (hown : w.ownsRow base 23 1 S n xs) (hbase : base ≤ w.heap.size) (hn : n ≤ 100000) (hi : i ≤ n) (h1 : ∀ v ∈ xs, v.oneCell' = true) (vb : Nat) (h : Int)
    (hvs : w.heap[vb]? = some (.cells #[.int .u64 h] 23 (0, 0))) (hvb : S.ownBlock ≠ some vb) :
    Calls Try.prog 38 #[S, .int .i64 i, .slice (some ⟨vb, 0, none⟩) 1 1] w (Inserted w base S n (xs.take i ++ .int .u64 h :: xs.drop i)) := by
  by_cases e : i = n
  · subst e
    have hl := hown.1
    have := ins_end hown hbase hn vb h hvs
    rwa [List.take_of_length_le (by omega), List.drop_eq_nil_of_le (by omega)]
  · exact ins_mid hown hbase hn (by omega) h1 vb h hvs hvb
end Go.Proofs.Ytlbpdlhelkokbaa
