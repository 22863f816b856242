/- Count, Hashes, and a counter filled with texts: the walks. -/
import Derived.Test.YtlbpdlhelkokbaaOpenStrs
import Derived.Test.YtlbpdlhelkokbaaDX
namespace Go.Proofs.Ytlbpdlhelkokbaa
open Go.RowKit Go.Proofs.YtlbpdlhelkokbaaW.PrintWords

def countN (l : List Int) (k : Nat) : Int :=
  if l.length ≤ k then l.length else
    if max (l.getD (k - 1) 0) 1 ≤ (k : Int) - 1 then 4611686018427387904 else min (max (((k : Int) - 1) * 18446744073709551616 / max (l.getD (k - 1) 0) 1) ((k : Int) + 1)) 4611686018427387904

theorem cell_touch {w w1 : World} {b o : Nat} {v : Value} (h : w.cell? ⟨b, o, none⟩ = some v) (hb : Touch (fun _ => False) w w1) : w1.cell? ⟨b, o, none⟩ = some v := by
  have hl : b < w.heap.size := block_lt_of_cell h
  have e := hb.block b hl (fun h => h)
  unfold World.cell? at *
  simp only [e]
  exact h

def CountPost (w : World) (l : List Int) (k : Nat) (e : Ending) (w' : World) : Prop := e = .returned (.int .i64 (countN l k)) ∧ Below w.heap.size w w'

set_option maxHeartbeats 1000000 in
theorem count_high (g ro c j : Nat) (x H : Int) (w : World) (hg : w.heap[g]? = some (.cells #[.int .i64 ((j : Int) + 1), .slice (some ⟨ro, 0, none⟩) (j + 1) c, .bool true] 47 (0, 0))) (hx : w.cell? ⟨ro, j, none⟩ = some (.int .u64 x))
    (hM : max x 1 = H) (hj : j ≤ 4095) (h : H ≤ (j : Int)) :
    Calls Try.prog 15 #[.pointer (some ⟨g, 0, none⟩)] w fun e w' => e = .returned (.int .i64 4611686018427387904) ∧ Below w.heap.size w w' := by
  have HG := Lib.hid hg
  have HX := Lib.hid hx
  have hjw : IntKind.u64.wrap (j : Int) = j := wu _ (by omega) (by omega)
  have hj0 : (0 : Int) ≤ (j : Int) := by omega
  have hjw1 : IntKind.i64.wrap (j : Int) = j := by rw [IntKind.wrap_i64]; omega
  have hjw2 : IntKind.i64.wrap ((j : Int) + 1) = (j : Int) + 1 := by rw [IntKind.wrap_i64]; omega
  have hj1 : (j : Int) < (j : Int) + 1 := by omega
  obtain ⟨a0, a1, a2, _, _⟩ := three_cells hg
  clear hg hx
  go_enter Try.func15, Try.ntmps15
  go_wp2_with fail
  refine region_keeps (F := fun _ => False) 14 [0, 1, 2, 3, 4, 5, 6, 7, 8, 9, 10, 11, 12, 13] 0 (by kernel_rfl) (by kernel_rfl) ?_ ?_
  · intro _ _ _ _ _ h; exact h
  clear a0 a1 a2
  repeat
    refine wpCalm_ex rfl ?_
    apply Exists.intro
    refine ⟨fun wq hq => ?_, ?_⟩
    · obtain ⟨a0, a1, a2, _, _⟩ := three_cells (blk_touch HG.out hq (fun h => h))
      have x0 := (cell_touch HX.out hq)
      go_simp
      first
        | rfl
        | simp
    simp only [Act.put, List.setIfInBounds_toArray, List.set_cons_zero, List.set_cons_succ]
  refine wpCalm_nil (wpT_done (by kernel_rfl) fun w2 h2 => ?_)
  obtain ⟨a0, a1, a2, _, _⟩ := three_cells (blk_touch HG.out h2 (fun h => h))
  go_wp2_with fail
  go_ret
  exact ⟨rfl, h2.below (Nat.le_refl _) (fun _ _ h => h)⟩

set_option maxHeartbeats 1000000 in
theorem count_low (g ro c j : Nat) (x H : Int) (w : World) (hg : w.heap[g]? = some (.cells #[.int .i64 ((j : Int) + 1), .slice (some ⟨ro, 0, none⟩) (j + 1) c, .bool true] 47 (0, 0))) (hx : w.cell? ⟨ro, j, none⟩ = some (.int .u64 x))
    (hM : max x 1 = H) (hj : j ≤ 4095) (hH : H < 18446744073709551616) (h : (j : Int) < H) (q M V : Int) (hd : ∀ w, Calls Try.prog 30 #[.int .u64 j, .int .u64 0, .int .u64 H] w (DivTo q w)) (m1 : max q ((j : Int) + 1 + 1) = M) (m2 : min M 4611686018427387904 = V) (hV0 : 0 ≤ V) (hV1 : V ≤ 4611686018427387904) :
    Calls Try.prog 15 #[.pointer (some ⟨g, 0, none⟩)] w fun e w' => e = .returned (.int .i64 V) ∧ Below w.heap.size w w' := by
  have HG := Lib.hid hg
  have HD := Lib.hid hd
  clear hd
  have hjw3 : IntKind.u64.wrap ((j : Int) + 1 + 1) = (j : Int) + 1 + 1 := wu _ (by omega) (by omega)
  have hnh : ¬ H ≤ (j : Int) := by omega
  have HX := Lib.hid hx
  have hjw : IntKind.u64.wrap (j : Int) = j := wu _ (by omega) (by omega)
  have hj0 : (0 : Int) ≤ (j : Int) := by omega
  have hjw1 : IntKind.i64.wrap (j : Int) = j := by rw [IntKind.wrap_i64]; omega
  have hjw2 : IntKind.i64.wrap ((j : Int) + 1) = (j : Int) + 1 := by rw [IntKind.wrap_i64]; omega
  have hj1 : (j : Int) < (j : Int) + 1 := by omega
  obtain ⟨a0, a1, a2, _, _⟩ := three_cells hg
  clear hg hx
  go_enter Try.func15, Try.ntmps15
  go_wp2_with fail
  refine region_keeps (F := fun _ => False) 14 [0, 1, 2, 3, 4, 5, 6, 7, 8, 9, 10, 11, 12, 13] 0 (by kernel_rfl) (by kernel_rfl) ?_ ?_
  · intro _ _ _ _ _ h; exact h
  clear a0 a1 a2
  repeat
    refine wpCalm_ex rfl ?_
    apply Exists.intro
    refine ⟨fun wq hq => ?_, ?_⟩
    · obtain ⟨a0, a1, a2, _, _⟩ := three_cells (blk_touch HG.out hq (fun h => h))
      have x0 := (cell_touch HX.out hq)
      go_simp
      first
        | rfl
        | simp
    simp only [Act.put, List.setIfInBounds_toArray, List.set_cons_zero, List.set_cons_succ]
  refine wpCalm_nil (wpT_done (by kernel_rfl) fun w2 h2 => ?_)
  obtain ⟨a0, a1, a2, _, _⟩ := three_cells (blk_touch HG.out h2 (fun h => h))
  go_wp2_with fail
  refine (HD.out _).mono ?_
  rintro e w3 ⟨rr, rfl, hb⟩
  have K := Lib.hid (below_after (h2.below (Nat.le_refl _) (fun _ _ h => h)) hb)
  clear a0 a1 a2
  obtain ⟨a0, a1, a2, _, _⟩ := three_cells (blk_below (blk_touch HG.out h2 (fun h => h)) hb)
  clear hb
  go_wp2_with fail
  go_ret
  exact ⟨rfl, K.out⟩

theorem count_ok (g k : Nat) (l : List Int) (r : Option Nat) (w : World) (hC : Cnt w g k l r) (hk1 : 1 ≤ k) (hk2 : k ≤ 4096) (hU : ∀ x ∈ l, U64 x) :
    Calls Try.prog 15 #[.pointer (some ⟨g, 0, none⟩)] w fun e w' => e = .returned (.int .i64 (countN l k)) ∧ Below w.heap.size w w' := by
  unfold countN
  by_cases h : l.length ≤ k
  · rw [if_pos h]
    exact count_exact g k l r w hC h
  · rw [if_neg h]
    obtain ⟨j, rfl⟩ : ∃ j, k = j + 1 := ⟨k - 1, by omega⟩
    obtain ⟨S, hg, hS, _⟩ := hC
    rw [decide_eq_true (by omega)] at hg
    have hl : (l.take (j + 1)).length = j + 1 := by rw [List.length_take]; omega
    rw [hl] at hS
    have hjl : j < l.length := by omega
    have hx : (l.take (j + 1))[j]? = some l[j] := by rw [List.getElem?_take, if_pos (by omega), List.getElem?_eq_getElem hjl]
    have hd : l.getD (j + 1 - 1) 0 = l[j] := by rw [Nat.add_sub_cancel, List.getD_eq_getElem?_getD, List.getElem?_eq_getElem hjl]; rfl
    rw [hd]
    have hUx := hU l[j] (List.getElem_mem hjl)
    obtain ⟨hu0, hu1⟩ := hUx
    rcases hS.2 with ⟨rfl, h0⟩ | ⟨ro, c, cur, rfl, _, _, _, _, _, _⟩
    · omega
    · have hc := row_cell' hS hx
      generalize l[j] = x at *
      obtain ⟨H, hH⟩ : ∃ H, max x 1 = H := ⟨_, rfl⟩
      rw [hH]
      have e1 : ((j + 1 : Nat) : Int) = (j : Int) + 1 := by omega
      rw [e1] at hg ⊢
      rw [show (j : Int) + 1 - 1 = j by omega]
      by_cases hb : H ≤ (j : Int)
      · rw [if_pos hb]
        exact count_high g ro c j x H w hg hc hH (by omega) hb
      · rw [if_neg hb]
        refine count_low g ro c j x H w hg hc hH (by omega) (by omega) (by omega) _ _ _ (fun w => ?_) rfl rfl (by omega) (by omega)
        by_cases hj0 : j = 0
        · subst hj0
          have := div_zero H (by omega) (by omega) w
          rw [show ((0 : Nat) : Int) * 18446744073709551616 / H = 0 by simp]
          exact this
        · exact div_ok (j : Int) H (by omega) (by omega) (by omega) w

/-- a row of the call's own, as it is read -/
theorem own_reads {w : World} {base n : Nat} {V : Value} {xs : List Int} (h : w.ownsRow base 23 1 V n (U xs)) : ∃ A c, V = .slice A xs.length c ∧ xs.length ≤ c ∧ Kd.C (Kd.int .u64) w A xs.length xs := by
  have hl : xs.length = n := by have := h.1; simpa [U] using this
  subst hl
  rcases h.2 with ⟨rfl, h0⟩ | ⟨g, c, cur, rfl, hb, hg, hn, hm, hs, ht⟩
  · obtain rfl : xs = [] := List.eq_nil_of_length_eq_zero h0
    exact ⟨none, 0, rfl, Nat.le_refl _, Kd.C_nil _ _⟩
  · refine ⟨some ⟨g, 0, none⟩, c, rfl, hn, rfl, by unfold maxLen at hm; omega, fun _ => ⟨_, rfl, fun j p hj => ⟨[.int .u64 p], rfl, rfl, fun i u hi => ?_⟩⟩⟩
    have e : i = 0 := by cases i with | zero => rfl | succ i => simp at hi
    subst e
    simp only [List.getElem?_cons_zero, Option.some.injEq] at hi
    subst hi
    rw [show j * (Kd.int .u64).sz + 0 = j from Nat.mul_one j]
    exact h.cells (g := g) rfl j _ (by simp [U, hj])

theorem clone_ok {w : World} {base n : Nat} {S : Value} {xs : List Int} (hS : w.ownsRow base 23 1 S n (U xs)) (hn : n ≤ 100000) :
    Calls Try.prog 34 #[S] w fun e w' => (∃ V, e = .returned V ∧ w'.ownsRow w.heap.size 23 1 V n (U xs)) ∧ Below w.heap.size w w' := by
  have HS := Lib.hid hS
  obtain ⟨i0, hi, hz0, hz1, hz2⟩ := info_parts info_u64
  rcases hS.2 with ⟨rfl, h0⟩ | ⟨g, c, cur, rfl, _, _, _, _, _, _⟩
  · subst h0
    have hx : xs = [] := by have := hS.1; exact List.eq_nil_of_length_eq_zero (by simpa [U] using this)
    subst hx
    clear hS
    have he := @Lib.run_eql_slice_nil Try.prog
    go_enter Try.func34, Try.ntmps34
    go_wp2_with fail
    go_ret
    exact ⟨⟨_, rfl, World.ownsRow_nil _ _ _ _⟩, Below.refl _ _⟩
  · clear hS
    have he := @Lib.run_eql_slice_nil Try.prog
    have O := Lib.hid (show (w.alloc (.cells #[] 23 (0, 0))).ownsRow w.heap.size 23 1 (.slice (some ⟨w.heap.size, 0, none⟩) 0 0) 0 [] from ⟨rfl, .inr ⟨_, _, _, rfl, Nat.le_refl _, blk_new w _, Nat.le_refl _, by unfold maxLen; omega, rfl, rfl⟩⟩)
    have C := Lib.hid (show ∀ j u, (U xs)[j]? = some u → (w.alloc (.cells #[] 23 (0, 0))).cell? ((⟨g, 0, none⟩ : Addr).add j) = some u from fun j u hj => (HS.out.alloc (.cells #[] 23 (0, 0))).cells (g := g) rfl j u hj)
    go_enter Try.func34, Try.ntmps34
    go_wp2_with (at_builtin; refine wpList_append_own_at _ rfl _ _ 33 rfl w.heap.size 23 i0 (.int .u64 0) 1 8 Try.underlying33 hi hz0 hz1 hz2 rfl (by decide) _ _ _ rfl O.out ⟨g, 0, none⟩ n c (U xs) rfl HS.out.1 C.out (fun x hx => by obtain ⟨_, _, rfl⟩ := List.mem_map.1 hx; rfl) (by unfold maxLen; omega) (by omega) (by simp) ?_; intro v' w1 hown' hgrow hnil hloc)
    go_ret
    rw [Nat.zero_add, List.nil_append] at hown'
    exact ⟨⟨_, rfl, hown'⟩, (below_al (Below.refl _ _) (.cells #[] 23 (0, 0))).trans (Below.grown (Below.refl _ _) hgrow (by simp) (fun k e => by have e2 : w.heap.size = k := Option.some.inj e; omega))⟩

theorem hashes_ok (g k : Nat) (l : List Int) (r : Option Nat) (w : World) (hC : Cnt w g k l r) (hk : k ≤ 4096) :
    Calls Try.prog 25 #[.pointer (some ⟨g, 0, none⟩)] w fun e w' => (∃ V, e = .returned V ∧ w'.ownsRow w.heap.size 23 1 V (l.take k).length (U (l.take k))) ∧ Below w.heap.size w w' := by
  obtain ⟨S, hg, hS, _⟩ := hC
  obtain ⟨a0, a1, a2, _, _⟩ := three_cells hg
  have HS := Lib.hid hS
  have hn : (l.take k).length ≤ 100000 := by rw [List.length_take]; omega
  generalize decide (k < l.length) = m at *
  generalize l.take k = xs at *
  clear hg hS
  go_enter Try.func25, Try.ntmps25
  go_wp2_with fail
  refine (clone_ok HS.out hn).mono ?_
  rintro e w1 ⟨⟨V, rfl, hV⟩, hb⟩
  have H := Lib.hid (And.intro hV hb)
  clear hV hb
  go_wp2_with fail
  go_ret
  exact ⟨⟨_, rfl, H.out.1⟩, H.out.2⟩
end Go.Proofs.Ytlbpdlhelkokbaa
