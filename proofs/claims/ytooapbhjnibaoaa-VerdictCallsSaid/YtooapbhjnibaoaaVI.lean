/- The walk of the reference's choices. -/
import Derived.Test.YtooapbhjnibaoaaVH
import Derived.Laws.AppendOwn
import Derived.Maps.AppendAt
namespace Go.Proofs.Ytooapbhjnibaoaa
open Go.RowKit

theorem refChoose_no (n k : Int) (h : ¬ (0 ≤ n ∧ n ≤ 62)) (w : World) :
    Calls Try.prog 11 #[.int .i64 n, .int .i64 k] w fun e w' => e = .returned (.int .i64 (-1)) ∧ Below w.heap.size w w' := by
  by_cases h0 : n < 0
  · clear h
    go_enter Try.func11, Try.ntmps11
    go_wp2
    go_ret
    exact ⟨rfl, Below.refl _ _⟩
  · have h1 : 62 < n := by omega
    clear h
    go_enter Try.func11, Try.ntmps11
    go_wp2
    go_ret
    exact ⟨rfl, Below.refl _ _⟩
theorem refChoose_out (n k : Int) (h0 : 0 ≤ n) (h1 : n ≤ 62) (h : ¬ (0 ≤ k ∧ k ≤ n)) (w : World) :
    Calls Try.prog 11 #[.int .i64 n, .int .i64 k] w fun e w' => e = .returned (.int .i64 0) ∧ Below w.heap.size w w' := by
  by_cases h2 : k < 0
  · clear h
    go_enter Try.func11, Try.ntmps11
    go_wp2
    go_ret
    exact ⟨rfl, Below.refl _ _⟩
  · have h3 : n < k := by omega
    clear h
    go_enter Try.func11, Try.ntmps11
    go_wp2
    go_ret
    exact ⟨rfl, Below.refl _ _⟩
def rowL (f : Nat → Nat) (n : Nat) : List Value := (List.range n).map fun i => Value.int .i64 (f i)
theorem rowL_succ (f : Nat → Nat) (n : Nat) : rowL f n ++ [.int .i64 (f n)] = rowL f (n + 1) := by
  unfold rowL
  rw [List.range_succ, List.map_append]; rfl
theorem rowL_get (f : Nat → Nat) {n k : Nat} (h : k < n) : (rowL f n)[k]? = some (.int .i64 (f k)) := by
  unfold rowL
  rw [List.getElem?_map, List.getElem?_range h]; rfl
theorem own_cell {w : World} {base g n cap : Nat} {e : TypeId} {f : Nat → Nat} (h : w.ownsRow base e 1 (.slice (some ⟨g, 0, none⟩) n cap) n (rowL f n)) {k : Nat} (hk : k < n) : w.cell? ⟨g, k, none⟩ = some (.int .i64 (f k)) := by
  have := h.cells (g := g) rfl k _ (rowL_get f hk)
  have ad : (⟨g, 0, none⟩ : Addr).add k = ⟨g, k, none⟩ := by unfold Addr.add; split <;> simp_all
  rwa [ad] at this
theorem own_form {w : World} {base n : Nat} {e : TypeId} {v : Value} {xs : List Value} (h : w.ownsRow base e 1 v n xs) (hn : 0 < n) : ∃ g cap, v = .slice (some ⟨g, 0, none⟩) n cap ∧ base ≤ g ∧ g < w.heap.size := by
  rcases h.2 with ⟨_, h0⟩ | ⟨g, cap, cur, hv, hb, hg, _⟩
  · omega
  · exact ⟨g, cap, hv, hb, lt_of_block hg⟩
theorem own_new (w : World) (e : TypeId) (x : Value) : (w.alloc (.cells #[x] e (0, 0))).ownsRow w.heap.size e 1 (.slice (some ⟨w.heap.size, 0, none⟩) 1 1) 1 [x] :=
  ⟨rfl, .inr ⟨w.heap.size, 1, #[x], rfl, Nat.le_refl _, blk_new w _, Nat.le_refl _, by decide, rfl, rfl⟩⟩
theorem own_base {w : World} {b b' n : Nat} {e : TypeId} {v : Value} {xs : List Value} (h : w.ownsRow b e 1 v n xs) (hb : b' ≤ b) : w.ownsRow b' e 1 v n xs := by
  refine ⟨h.1, ?_⟩
  rcases h.2 with h0 | ⟨g, cap, cur, hv, hbg, rest⟩
  · exact .inl h0
  · exact .inr ⟨g, cap, cur, hv, by omega, rest⟩
theorem grown_of_below {w w' : World} (h : Below w.heap.size w w') : w.grownBy w' none := ⟨h.os, h.tape, h.output, h.size, fun k hk _ => h.block k hk⟩
theorem own_later {w w' : World} {base g n cap : Nat} {e : TypeId} {xs : List Value} (h : w.ownsRow base e 1 (.slice (some ⟨g, 0, none⟩) n cap) n xs) (hb : Below w.heap.size w w') : w'.ownsRow base e 1 (.slice (some ⟨g, 0, none⟩) n cap) n xs :=
  h.kept (grown_of_below hb) (.inr (by simp [Value.ownBlock]))
theorem below_grown {B : Nat} {w0 w w' : World} {g : Nat} (h : Below B w0 w) (hg : w.grownBy w' (some g)) (hr : B ≤ g) (hB : B ≤ w.heap.size) : Below B w0 w' :=
  ⟨hg.os.trans h.os, hg.tape.trans h.tape, hg.output.trans h.output, Nat.le_trans h.size hg.size, fun k hk => (hg.block k (by omega) (fun e => by cases e; omega)).trans (h.block k hk)⟩
theorem ch_step {i j : Nat} (hi : i + 1 ≤ 62) : IntKind.i64.wrap ((ch i j : Nat) + (ch i (j + 1) : Nat) : Int) = ((ch (i + 1) (j + 1) : Nat) : Int) := by
  have := ch_le (i + 1) (j + 1)
  have := pow_le62 hi
  have e := ch_succ i j
  rw [IntKind.wrap_i64]; omega

set_option maxRecDepth 100000 in
set_option maxHeartbeats 2000000 in
theorem refChoose_in (n k : Nat) (h1 : n ≤ 62) (h3 : k ≤ n) (w : World) :
    Calls Try.prog 11 #[.int .i64 n, .int .i64 k] w fun e w' => e = .returned (.int .i64 (ch n k : Nat)) ∧ Below w.heap.size w w' := by
  have h1' : (n : Int) ≤ 62 := by omega
  have h3' : (k : Int) ≤ n := by omega
  obtain ⟨i0, hi, hz0, hz1, hz2⟩ := info_parts (P := Try.prog) (e := 2) (z := .int .i64 0) (size := 1) (bytes := 8) (by kernel_rfl)
  go_enter Try.func11, Try.ntmps11
  go_wp2_with fail
  simp only [show decide (n < k) = false from decide_eq_false (by omega), Bool.or_false]
  go_loopw [5, 6] (fun v5 v6 wr => ∃ i g cap : Nat, i ≤ n ∧ v6 = .int .i64 i ∧ v5 = .slice (some ⟨g, 0, none⟩) (i + 1) cap ∧ Hid (wr.ownsRow w.heap.size 2 1 (.slice (some ⟨g, 0, none⟩) (i + 1) cap) (i + 1) (rowL (ch i) (i + 1)) ∧ Below w.heap.size w wr)) (fun _ v6 _ => n - (intOf v6).toNat)
  case atStart => exact ⟨0, _, _, by omega, rfl, rfl, own_new w _ _, below_al (Below.refl _ _) _⟩
  case round =>
    obtain ⟨i, g, cap, hin, rfl, rfl, H⟩ := hrel
    by_cases hlt : i < n
    · have hlt' : (i : Int) < n := by omega
      have hg : Hid (w.heap.size ≤ g ∧ g < wr.heap.size) := H.out.1.lt g rfl
      go_wp2_with fail
      have O := own_new wr 2 (.int .i64 1)
      have R := Lib.hid (H.out.1.alloc (.cells #[.int .i64 1] 2))
      have K := Lib.hid (below_al H.out.2 (.cells #[.int .i64 1] 2 (0, 0)))
      have hm := Lib.hid (show w.heap.size ≤ wr.heap.size from H.out.2.size)
      clear H
      generalize hmm : wr.heap.size = m at *
      go_loopw [7, 8] (fun v7 v8 wr => ∃ j g2 cap2 : Nat, j ≤ i ∧ v8 = .int .i64 ((j : Int) + 1) ∧ v7 = .slice (some ⟨g2, 0, none⟩) (j + 1) cap2 ∧ Hid (wr.ownsRow m 2 1 (.slice (some ⟨g2, 0, none⟩) (j + 1) cap2) (j + 1) (rowL (ch (i + 1)) (j + 1)) ∧
          wr.ownsRow w.heap.size 2 1 (.slice (some ⟨g, 0, none⟩) (i + 1) cap) (i + 1) (rowL (ch i) (i + 1)) ∧ Below w.heap.size w wr)) (fun _ v8 _ => i + 1 - (intOf v8).toNat)
      case atStart => exact ⟨0, _, _, by omega, rfl, rfl, by rw [show rowL (ch (i + 1)) 1 = [.int .i64 1] by simp [rowL, ch_zero]]; exact O, R.out, K.out⟩
      case round =>
        clear O R K
        obtain ⟨j, g2, cap2, hj, rfl, rfl, H⟩ := hrel
        have hg2 : Hid (m ≤ g2 ∧ g2 < wr.heap.size) := H.out.1.lt g2 rfl
        by_cases hjl : j < i
        · have hjl' : (j : Int) + 1 < (i : Int) + 1 := by omega
          have hS := ch_step (i := i) (j := j) (by omega)
          have hj0 : (0 : Int) ≤ (j : Int) + 1 := by omega
          have hji : (j : Int) < (i : Int) + 1 := by omega
          have hji2 : (j : Int) < (i : Int) := by omega
          have hW : IntKind.i64.wrap (j : Int) = j := by rw [IntKind.wrap_i64]; omega
          go_wp2_with fail
          refine region_calms 11 [0, 1, 2, 3, 4, 5, 6, 7, 8, 9, 10] 0 (by kernel_rfl) (by kernel_rfl) ?_ ?_
          · intro _ _ _ _ _ h; exact h
          repeat
            refine wpCalm_ex rfl ?_
            apply Exists.intro
            refine ⟨fun wq hq => ?_, ?_⟩
            · have c0 := own_cell (own_later H.out.2.1 hq) (show j < i + 1 by omega)
              have c1 := own_cell (own_later H.out.2.1 hq) (show j + 1 < i + 1 by omega)
              go_simp
              first
                | (simp only [hW]; rfl)
                | (simp only [hS]; rfl)
                | rfl
            simp only [Act.put, List.setIfInBounds_toArray, List.set_cons_zero, List.set_cons_succ]
          refine wpCalm_nil (wpT_tail (by kernel_rfl) fun w3 hb => ?_)
          have O1 := own_later H.out.1 hb
          have hm3 := Lib.hid (show m ≤ w3.heap.size by have := hg2.out; have := hb.size; omega)
          go_wp2_with (at_builtin; refine wpList_append_own _ rfl _ _ 52 rfl m 2 i0 (.int .i64 0) 1 8 Try.underlying52 hi hz0 hz1 hz2 rfl (by decide) _ _ _ rfl (O1.alloc _) ⟨w3.heap.size, 0, none⟩ 1 1 [.int .i64 (ch (i + 1) (j + 1) : Nat)] rfl rfl (cell_one_new _ _ _) (fun x hx => by simp at hx; subst hx; rfl) (by unfold maxLen; omega) (by omega) (by simp; have := hm3.out; omega) ?_; intro v' w4 hown' hgrow hnil)
          obtain ⟨g3, cap3, rfl, hg3, hg4⟩ := own_form hown' (by omega)
          go_roundw
          case rel =>
            refine ⟨j + 1, g3, cap3, by omega, by go_num, rfl, ?_, ((own_later H.out.2.1 hb).alloc _).kept hgrow (.inr ?_), below_grown (below_al (below_after H.out.2.2 hb) _) hgrow ?_ ?_⟩
            · rw [← rowL_succ (ch (i + 1)) (j + 1)]; exact hown'
            · have h1 := hg.out; have h2 := hg2.out
              intro e
              have e2 : g = g2 := Option.some.inj e
              omega
            · have := hg2.out; have := hm.out; show w.heap.size ≤ g2; omega
            · have := H.out.2.2.size; have := hb.size; simp; omega
          case measure => simp [intOf]; omega
        · obtain rfl : j = i := by omega
          have O1 := H.out.1
          have hm3 := Lib.hid (show m ≤ wr.heap.size by have := hg2.out; omega)
          go_wp2_with (at_builtin; refine wpList_append_own _ rfl _ _ 52 rfl m 2 i0 (.int .i64 0) 1 8 Try.underlying52 hi hz0 hz1 hz2 rfl (by decide) _ _ _ rfl (O1.alloc _) ⟨wr.heap.size, 0, none⟩ 1 1 [.int .i64 1] rfl rfl (cell_one_new _ _ _) (fun x hx => by simp at hx; subst hx; rfl) (by unfold maxLen; omega) (by omega) (by simp; have := hm3.out; omega) ?_; intro v' w4 hown' hgrow hnil)
          obtain ⟨g3, cap3, rfl, hg3, hg4⟩ := own_form hown' (by omega)
          go_roundw
          case rel =>
            refine ⟨j + 1, g3, cap3, by omega, by go_num, rfl, own_base ?_ hm.out, below_grown (below_al H.out.2.2 _) hgrow ?_ ?_⟩
            · have e := rowL_succ (ch (j + 1)) (j + 1)
              rw [ch_self] at e
              rw [← e]; exact hown'
            · have := hg2.out; have := hm.out; show w.heap.size ≤ g2; omega
            · have := H.out.2.2.size; simp; omega
          case measure => simp [intOf]; omega
    · obtain rfl : i = n := by omega
      have c0 := own_cell H.out.1 (show k < i + 1 by omega)
      have h3'' : (k : Int) < (i : Int) + 1 := by omega
      go_wp2
      go_ret
      exact ⟨rfl, H.out.2⟩
end Go.Proofs.Ytooapbhjnibaoaa
