/- slices.Insert of one number into a row of the call's own, over []uint64: the walk of the library's text. After the kit's worked walk at []int. -/
import Derived.Test.YtlbpdlhelkokbaaRA
import Derived.Shelf.Spec.SlicesInsert
import Derived.Lib.AppendZerosOnto
import Derived.Deep.RegionLaw
import Derived.Maps.AppendAt
namespace Go.Proofs.Ytlbpdlhelkokbaa
open Go.RowKit Go.Lib

/-- a block's cells behind a row of stores -/
def setRow (cur : Array Value) : Nat → List Value → Array Value
  | _, [] => cur
  | o, v :: r => setRow (cur.setIfInBounds o v) (o + 1) r
theorem size_setRow : ∀ (vs : List Value) (cur : Array Value) (o : Nat), (setRow cur o vs).size = cur.size
  | [], _, _ => rfl
  | v :: r, cur, o => by rw [setRow, size_setRow r]; simp
theorem blk_setCells {g : Nat} {t : TypeId} : ∀ (vs : List Value) (o : Nat) (w : World) (cur : Array Value), w.heap[g]? = some (.cells cur t (0, 0)) → (w.setCells g o vs).heap[g]? = some (.cells (setRow cur o vs) t (0, 0))
  | [], _, _, _, h => h
  | v :: r, o, w, cur, h => by rw [World.setCells, setRow]; exact blk_setCells r (o + 1) _ _ (blk_set h o v)
theorem far_setCells {g j : Nat} (hne : j ≠ g) : ∀ (vs : List Value) (o : Nat) (w : World), (w.setCells g o vs).heap[j]? = w.heap[j]?
  | [], _, _ => rfl
  | v :: r, o, w => by rw [World.setCells, far_setCells hne r]; exact Below.heap_setCell w ⟨g, o, none⟩ v j hne
theorem same_setCells (g : Nat) : ∀ (vs : List Value) (o : Nat) (w : World), (w.setCells g o vs).os = w.os ∧ (w.setCells g o vs).tape = w.tape ∧ (w.setCells g o vs).output = w.output ∧ (w.setCells g o vs).heap.size = w.heap.size
  | [], _, _ => ⟨rfl, rfl, rfl, rfl⟩
  | v :: r, o, w => by
    obtain ⟨a, b, c, d⟩ := same_setCells g r (o + 1) (w.setCell ⟨g, o, none⟩ v)
    rw [World.setCells]
    exact ⟨a, b, c, by rw [d]; simp [World.setCell]⟩
theorem take_set_succ {α : Type} (v : α) : ∀ (l : List α) (o : Nat), o < l.length → (l.set o v).take (o + 1) = l.take o ++ [v]
  | [], _, h => by simp at h
  | a :: l, 0, _ => by simp
  | a :: l, o + 1, h => by
    have := take_set_succ v l o (by simpa using h)
    simp [this]
theorem drop_set_past {α : Type} (v : α) (k : Nat) : ∀ (l : List α) (o : Nat), (l.set o v).drop (o + 1 + k) = l.drop (o + 1 + k)
  | [], _ => by simp
  | a :: l, 0 => by simp [Nat.add_comm 1 k]
  | a :: l, o + 1 => by
    have := drop_set_past v k l o
    rw [show o + 1 + 1 + k = (o + 1 + k) + 1 by omega]
    simpa using this
theorem toList_setRow : ∀ (vs : List Value) (cur : Array Value) (o : Nat), o + vs.length ≤ cur.size → (setRow cur o vs).toList = cur.toList.take o ++ vs ++ cur.toList.drop (o + vs.length)
  | [], cur, o, _ => by rw [setRow]; simp
  | v :: r, cur, o, h => by
    have h' : o + 1 + r.length ≤ cur.size := by simp only [List.length_cons] at h; omega
    rw [setRow, toList_setRow r _ (o + 1) (by simpa using h')]
    have e1 : o < cur.toList.length := by rw [Array.length_toList]; omega
    rw [Array.toList_setIfInBounds, take_set_succ v _ _ e1, drop_set_past]
    simp only [List.length_cons, List.append_assoc, List.cons_append, List.nil_append]
    rw [show o + 1 + r.length = o + (r.length + 1) by omega]

theorem info_u64 : (Try.prog.info? 23).map (fun i => (i.zero, i.size, i.bytes)) = some (some (.int .u64 0), 1, 8) := by kernel_rfl
theorem overlaps_no (vb b : Nat) (o m vc lb cb : Nat) (w : World) (hvb : vb ≠ b) (tA tB : TypeId) (kA kB : Nat) (hsa : w.shape? vb = some (tA, kA)) (hsb : w.shape? b = some (tB, kB)) (hkB : kB ≠ 0) (hfa : w.frozen? ⟨vb, 0, none⟩ = false) (hfe : w.frozen? ⟨vb, kA, none⟩ = false) :
    (callFunc 40 #[.slice (some ⟨vb, 0, none⟩) m vc, .slice (some ⟨b, o, none⟩) lb cb]).run Try.prog w = .ok (.value (.bool false)) w := by
  rw [run_callFunc_extern Try.func40 (by kernel_rfl) (by kernel_rfl) (by kernel_rfl) (e := Extern.SlicesOverlaps.overlaps #[33, 33] #[4]) (by kernel_rfl),
    Lib.run_overlaps_apart w 33 4 23 Try.underlying33 1 (fun _ => by kernel_rfl) ⟨vb, 0, none⟩ ⟨b, o, none⟩ m vc lb cb hvb tA tB kA kB hsa hsb hkB hfa hfe]
  rfl

set_option maxHeartbeats 4000000 in
set_option maxRecDepth 100000 in
theorem insert_shift (b n c i vb : Nat) (h : Int) (cs : List Value) (w : World) (hi : i < n) (hroom : n + 1 ≤ c) (hc63 : c ≤ 9223372036854775807) (hvb : vb ≠ b)
    (hcl : cs.length = n) (hcs : ∀ j v, cs[j]? = some v → w.cell? ⟨b, 0 + j, none⟩ = some v) (hsp : ∀ j, j < n + 1 → (w.cell? ⟨b, 0 + j, none⟩).isSome = true) (hfz : ∀ j, j < n + 1 → w.frozen? ⟨b, 0 + j, none⟩ = false)
    (hvs : w.heap[vb]? = some (.cells #[.int .u64 h] 23 (0, 0))) (h1c : ∀ v ∈ cs, v.oneCell' = true)
    (tB : TypeId) (kB : Nat) (hsb : w.shape? b = some (tB, kB)) (hkB : kB ≠ 0) :
    Calls Try.prog 38 #[.slice (some ⟨b, 0, none⟩) n c, .int .i64 i, .slice (some ⟨vb, 0, none⟩) 1 1] w fun e w' =>
      e = .returned (.slice (some ⟨b, 0, none⟩) (n + 1) c) ∧ w' = (w.drew.setCells b (i + 1) (cs.drop i)).setCells b i [.int .u64 h] := by
  have hov := fun lb cb => overlaps_no vb b (i + 1) 1 1 lb cb w hvb 23 tB 1 kB (by simp [World.shape?, hvs]) hsb hkB (by simp [World.frozen?, hvs]) (by simp [World.frozen?, hvs])
  have hvc : w.cell? ⟨vb, 0, none⟩ = some (.int .u64 h) := by simp [World.cell?, hvs]
  have hsz : (Try.prog.info? 23).map (·.size) = some 1 := by kernel_rfl
  have hz2 : ¬ ((i : Int) = (n : Int)) := by omega
  have hdl : (cs.drop i).length = n - i := by rw [List.length_drop, hcl]
  have hw1 : IntKind.i64.wrap ((i : Int) + 1) = (i : Int) + 1 := by rw [IntKind.wrap_i64]; omega
  have hb1 : (0 : Int) ≤ (i : Int) + 1 := by omega
  have hin : i ≤ n := by omega
  have htn : ((i : Int) + 1).toNat = i + 1 := by omega
  have hb2 : ¬ (c = i + 1) := by omega
  have hb3 : (i : Int) ≤ (n : Int) + 1 := by omega
  have hb4 : ¬ (c = i) := by omega
  have hcp1 : ∀ ty dc sc, (Builtin.copy_ #[33, 33] ty #[.slice (some ⟨b, i + 1, none⟩) (n - i) dc, .slice (some ⟨b, i, none⟩) (n + 1 - i) sc]).run Try.prog w.drew = .ok (goInt (cs.drop i).length) (w.drew.setCells b (i + 1) (cs.drop i)) := fun ty dc sc =>
    run_copy_cells w.drew _ _ ty 23 b (i + 1) (n - i) dc ⟨b, i, none⟩ (n + 1 - i) sc (cs.drop i) Try.underlying33 hsz (by rw [hdl]; simp only [Nat.min_def]; split <;> omega)
      (fun j v hj => by rw [Addr.add_lit]; have := hcs (i + j) v (by rwa [List.getElem?_drop] at hj); rwa [Nat.zero_add] at this)
      (fun j hj => by have := hsp (i + 1 + j) (by omega); rwa [Nat.zero_add] at this) (fun j hj => by have := hfz (i + 1 + j) (by omega); rwa [Nat.zero_add] at this) (fun v hv => h1c v (List.mem_of_mem_drop hv))
  obtain ⟨W1, hW1⟩ : ∃ W1, W1 = w.drew.setCells b (i + 1) (cs.drop i) := ⟨_, rfl⟩
  have hsp1 : ∀ k, k < n + 1 → (W1.cell? ⟨b, k, none⟩).isSome = true := fun k hk => by
    rw [hW1]
    exact isSome_setCells b _ _ _ (fun j hj => by have := hsp (i + 1 + j) (by omega); rwa [Nat.zero_add] at this) _ (by have := hsp k hk; rwa [Nat.zero_add] at this)
  have hcp2 : ∀ (W : World), (∀ x, W.cell? x = W1.cell? x) → (∀ x, W.frozen? x = W1.frozen? x) → ∀ ty dc, (Builtin.copy_ #[33, 33] ty #[.slice (some ⟨b, i, none⟩) (n + 1 - i) dc, .slice (some ⟨vb, 0, none⟩) 1 1]).run Try.prog W = .ok (goInt ([.int .u64 h] : List Value).length) (W.setCells b i [.int .u64 h]) := fun W hWc hWf ty dc =>
    run_copy_cells W _ _ ty 23 b i (n + 1 - i) dc ⟨vb, 0, none⟩ 1 1 [.int .u64 h] Try.underlying33 hsz (by simp only [Nat.min_def, List.length_singleton]; split <;> omega)
      (fun j v hj => by
        have e : j = 0 := by cases j with | zero => rfl | succ j => simp at hj
        subst e
        simp only [List.getElem?_cons_zero, Option.some.injEq] at hj
        subst hj
        rw [Addr.add_lit, hWc, hW1, World.cell?_setCells_out b _ _ _ _ (fun h _ => absurd h hvb)]
        exact hvc)
      (fun j hj => by rw [hWc]; exact hsp1 _ (by simp only [List.length_singleton] at hj; omega)) (fun j hj => by rw [hWf, hW1, World.frozen?_setCells]; have := hfz (i + j) (by simp only [List.length_singleton] at hj; omega); rwa [Nat.zero_add] at this) (fun v hv => by simp only [List.mem_singleton] at hv; subst hv; rfl)
  rw [← hW1] at hcp1
  clear hcs hsp hfz h1c hsp1 hvs hdl
  go_enter Try.func38, Try.ntmps38
  go_wp2_with (simp only [hov])
  go_region_law (refine step_copy_runI rfl _ _ 33 33 rfl _ _ (by simp [Act.eval, Act.put]) (by simp [Act.eval, Act.put]) (hcp1 _ _ _) ?_)
  go_wp2_with (at_builtin; refine wpList_copy_runI _ rfl _ _ 33 33 rfl _ _ rfl rfl (hcp2 _ (fun _ => rfl) (fun _ => rfl) _ _) ?_)
  go_ret
  first | exact ⟨rfl, rfl⟩ | exact ⟨rfl, by rw [hW1]⟩

set_option maxHeartbeats 4000000 in
set_option maxRecDepth 100000 in
theorem insert_grow (b n c i vb : Nat) (h : Int) (cs : List Value) (w : World) (hi : i < n) (hnc : n ≤ c) (hroom : c < n + 1) (hbig : (n + 1) * 8 ≤ 140737488355328)
    (hcl : cs.length = n) (hcs : ∀ j v, cs[j]? = some v → w.cell? ⟨b, 0 + j, none⟩ = some v)
    (hvs : w.heap[vb]? = some (.cells #[.int .u64 h] 23 (0, 0))) (h1c : ∀ v ∈ cs, v.oneCell' = true) :
    Calls Try.prog 38 #[.slice (some ⟨b, 0, none⟩) n c, .int .i64 i, .slice (some ⟨vb, 0, none⟩) 1 1] w fun e w' => ∃ ROW : Array Value,
      e = .returned (.slice (some ⟨w.heap.size, 0, none⟩) (n + 1) ROW.size) ∧ ROW.size ≤ maxLen ∧ n + 1 ≤ ROW.size ∧ ROW.toList.take i = cs.take i ∧
      w' = (((w.alloc (.cells ROW 23)).drew.setCells w.heap.size i [.int .u64 h]).drew).setCells w.heap.size (i + 1) (cs.drop i) := by
  obtain ⟨i0, hi0, hz0, hzs, hzb⟩ := info_parts info_u64
  have hz2 : ¬ ((i : Int) = (n : Int)) := by omega
  have hz3 : (c : Int) < (n : Int) + 1 := by omega
  have hsz : (Try.prog.info? 23).map (·.size) = some 1 := by kernel_rfl
  have hvc : w.cell? ⟨vb, 0, none⟩ = some (.int .u64 h) := by simp [World.cell?, hvs]
  have hbw : b < w.heap.size := block_lt_of_cell (hcs 0 _ (List.getElem?_eq_getElem (by omega)))
  have hvw : vb < w.heap.size := block_lt_of_cell hvc
  have hkk : (n : Int) + 1 - (i : Int) = ((n + 1 - i : Nat) : Int) := by omega
  have hik : i + (n + 1 - i) = n + 1 := by omega
  have hold : (Builtin.firstCells i0.size i (.slice (some ⟨b, 0, none⟩) i c)).run Try.prog w.drew = .ok (cs.take i).toArray w.drew := by
    rw [hzs]
    exact run_firstCells_some w.drew 1 i ⟨b, 0, none⟩ i c (cs.take i) (by rw [List.length_take]; omega) (fun j v hj => by
      rw [Addr.add_lit]
      rw [List.getElem?_take] at hj
      split at hj
      · exact hcs j v hj
      · cases hj)
  have hrz : ∀ ty, (Builtin.append_ #[33, 3] ty #[.slice (some ⟨b, 0, none⟩) i c, .int .i64 ((n : Int) + 1 - (i : Int))]).run Try.prog w =
      .ok (.slice (some ⟨w.heap.size, 0, none⟩) (n + 1) (grownCap w (n + 1) c 23)) (w.drew.alloc (.cells ((cs.take i).toArray ++ Builtin.zeroCells (Value.int .u64 0).cells (n + 1 - i) ++ Builtin.zeroCells (Value.int .u64 0).cells (grownCap w (n + 1) c 23 - (n + 1))) 23)) := fun ty => by
    have h := Lib.run_append_grow_zeros w 33 3 ty 23 i0 _ .i64 .i64 Try.underlying33 Try.underlying3 hi0 hz0 (some ⟨b, 0, none⟩) i c (cs.take i) hold (n + 1 - i) (by omega) (by omega) (by omega) (by omega) (by rw [hzb]; omega) (by rw [hzb, hik]; exact growslice_fits hroom hbig)
    rw [hik] at h
    rw [hkk]
    exact h
  obtain ⟨G, hG⟩ : ∃ G, G = grownCap w (n + 1) c 23 := ⟨_, rfl⟩
  obtain ⟨ROW, hROW⟩ : ∃ ROW : Array Value, ROW = (cs.take i).toArray ++ Builtin.zeroCells (Value.int .u64 0).cells (n + 1 - i) ++ Builtin.zeroCells (Value.int .u64 0).cells (G - (n + 1)) := ⟨_, rfl⟩
  rw [← hG] at hrz
  rw [← hROW] at hrz
  have hGn : n + 1 ≤ G := by rw [hG]; exact grownCap_ge w _ _ _
  have hRs : G = ROW.size := by
    rw [hROW]
    simp [Builtin.zeroCells, Value.cells]
    omega
  have hRt : ROW.toList.take i = cs.take i := by
    rw [hROW]
    simp only [Array.toList_append, List.append_assoc]
    rw [List.take_append_of_le_length (by rw [List.length_take]; omega), List.take_of_length_le (by rw [List.length_take]; omega)]
  have hRl : n + 1 ≤ ROW.size := by omega
  have hGm : G ≤ maxLen := by rw [hG]; exact grownCap_le_maxLen w (n + 1) c 23 (by unfold maxLen; omega)
  obtain ⟨W1, hW1⟩ : ∃ W1, W1 = w.drew.alloc (.cells ROW 23) := ⟨_, rfl⟩
  rw [← hW1] at hrz
  have hN : ∀ j, j < n + 1 → (W1.cell? ⟨w.heap.size, j, none⟩).isSome = true := fun j hj => by
    rw [hW1, World.cell?_alloc_at (w := w.drew) ROW _ w.heap.size j rfl, Array.getElem?_eq_getElem (by omega)]; rfl
  have hNf : ∀ j, W1.frozen? ⟨w.heap.size, j, none⟩ = false := fun j => by rw [hW1]; exact World.frozen?_alloc_at (w := w.drew) ROW _ w.heap.size j rfl
  have hOb : ∀ j v, w.cell? ⟨b, j, none⟩ = some v → W1.cell? ⟨b, j, none⟩ = some v := fun j v h => by rw [hW1, World.cell?_alloc_past (w := w.drew) _ b j hbw]; exact h
  have hOv : ∀ j v, w.cell? ⟨vb, j, none⟩ = some v → W1.cell? ⟨vb, j, none⟩ = some v := fun j v h => by rw [hW1, World.cell?_alloc_past (w := w.drew) _ vb j hvw]; exact h
  have hcpA : ∀ (W : World), (∀ x, W.cell? x = W1.cell? x) → (∀ x, W.frozen? x = W1.frozen? x) → ∀ ty dc, (Builtin.copy_ #[33, 33] ty #[.slice (some ⟨w.heap.size, i, none⟩) (n + 1 - i) dc, .slice (some ⟨vb, 0, none⟩) 1 1]).run Try.prog W = .ok (goInt ([.int .u64 h] : List Value).length) (W.setCells w.heap.size i [.int .u64 h]) := fun W hWc hWf ty dc =>
    run_copy_cells W _ _ ty 23 w.heap.size i (n + 1 - i) dc ⟨vb, 0, none⟩ 1 1 [.int .u64 h] Try.underlying33 hsz (by simp only [Nat.min_def, List.length_singleton]; split <;> omega)
      (fun j v hj => by
        have e : j = 0 := by cases j with | zero => rfl | succ j => simp at hj
        subst e
        simp only [List.getElem?_cons_zero, Option.some.injEq] at hj
        subst hj
        rw [Addr.add_lit, hWc]
        exact hOv _ _ hvc)
      (fun j hj => by rw [hWc]; exact hN _ (by simp only [List.length_singleton] at hj; omega)) (fun j hj => by rw [hWf]; exact hNf _) (fun v hv => by simp only [List.mem_singleton] at hv; subst hv; rfl)
  have hG63 : G ≤ 9223372036854775807 := by unfold maxLen at hGm; omega
  have hGi : ¬ (G = i) := by omega
  have hGim : ¬ (G = i + 1) := by omega
  have hci : ¬ (c = i) := by omega
  have hbN : b ≠ w.heap.size := by omega
  have hdl : (cs.drop i).length = n - i := by rw [List.length_drop, hcl]
  have hcpB : ∀ (W : World), (∀ x, W.cell? x = (W1.setCells w.heap.size i [.int .u64 h]).cell? x) → (∀ x, W.frozen? x = (W1.setCells w.heap.size i [.int .u64 h]).frozen? x) → ∀ ty dc sc, (Builtin.copy_ #[33, 33] ty #[.slice (some ⟨w.heap.size, i + 1, none⟩) (n - i) dc, .slice (some ⟨b, i, none⟩) (n - i) sc]).run Try.prog W = .ok (goInt (cs.drop i).length) (W.setCells w.heap.size (i + 1) (cs.drop i)) := fun W hWc hWf ty dc sc =>
    run_copy_cells W _ _ ty 23 w.heap.size (i + 1) (n - i) dc ⟨b, i, none⟩ (n - i) sc (cs.drop i) Try.underlying33 hsz (by rw [hdl]; simp only [Nat.min_def]; split <;> omega)
      (fun j v hj => by
        rw [Addr.add_lit, hWc, World.cell?_setCells_out _ _ _ _ _ (fun h _ => absurd h hbN)]
        have := hOb _ v (hcs (i + j) v (by rwa [List.getElem?_drop] at hj))
        rwa [Nat.zero_add] at this)
      (fun j hj => by rw [hWc]; exact isSome_setCells _ _ _ _ (fun t ht => hN _ (by simp only [List.length_singleton] at ht; omega)) _ (hN _ (by omega)))
      (fun j hj => by rw [hWf, World.frozen?_setCells]; exact hNf _) (fun v hv => h1c v (List.mem_of_mem_drop hv))
  subst hW1
  have hE1 : ∀ x, ((w.alloc (.cells ROW 23)).drew).cell? x = (w.drew.alloc (.cells ROW 23)).cell? x := fun x => rfl
  have hE2 : ∀ x, ((w.alloc (.cells ROW 23)).drew).frozen? x = (w.drew.alloc (.cells ROW 23)).frozen? x := fun x => rfl
  have hF1 : ∀ x, (((w.alloc (.cells ROW 23)).drew.setCells w.heap.size i [.int .u64 h]).drew).cell? x = ((w.drew.alloc (.cells ROW 23)).setCells w.heap.size i [.int .u64 h]).cell? x := fun x => rfl
  have hF2 : ∀ x, (((w.alloc (.cells ROW 23)).drew.setCells w.heap.size i [.int .u64 h]).drew).frozen? x = ((w.drew.alloc (.cells ROW 23)).setCells w.heap.size i [.int .u64 h]).frozen? x := fun x => rfl
  have hw1 : IntKind.i64.wrap ((i : Int) + 1) = (i : Int) + 1 := by rw [IntKind.wrap_i64]; omega
  have hb1 : (0 : Int) ≤ (i : Int) + 1 := by omega
  have hin : i ≤ n := by omega
  have htn : ((i : Int) + 1).toNat = i + 1 := by omega
  have hb3 : (i : Int) ≤ (n : Int) := by omega
  have HR := Lib.hid (And.intro hRs (And.intro hGm (And.intro hRl hRt)))
  clear hkk hik hold hROW hG hRl hRs hGm hRt hvs
  go_enter Try.func38, Try.ntmps38
  go_wp2_with (first
    | (at_builtin; refine Lib.wpList_append_run _ rfl _ _ _ _ rfl _ _ rfl rfl _ _ (hrz _) ?_)
    | (at_builtin; refine wpList_copy_runI _ rfl _ _ 33 33 rfl _ _ rfl rfl (hcpA _ hE1 hE2 _ _) ?_)
    | (at_builtin; refine wpList_copy_runI _ rfl _ _ 33 33 rfl _ _ rfl rfl (hcpB _ (fun _ => rfl) (fun _ => rfl) _ _ _) ?_))
  go_region_law (refine step_copy_runI rfl _ _ 33 33 rfl (.slice (some ⟨w.heap.size, i + 1, none⟩) (n - i) (G - (i + 1))) (.slice (some ⟨b, i, none⟩) (n - i) (c - i)) (by simp [Act.eval, Act.put]) (by simp [Act.eval, Act.put]) (hcpB _ hF1 hF2 3 (G - (i + 1)) (c - i)) ?_)
  go_wp2
  go_ret
  obtain ⟨h1, h2, h3, h4⟩ := HR.out
  exact ⟨ROW, congrArg (fun z => Ending.returned (Value.slice (some ⟨w.heap.size, 0, none⟩) (n + 1) z)) h1, by rw [← h1]; exact h2, h3, h4, rfl⟩
end Go.Proofs.Ytlbpdlhelkokbaa
