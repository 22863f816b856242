/- The walk of the row of choices. -/
import Derived.Test.YtooapbhjnibaoaaRO
import Derived.Test.YtooapbhjnibaoaaVM
import Derived.Laws.CopyOwn
import Derived.Laws.Tables
namespace Go.Proofs.Ytooapbhjnibaoaa
open Go.RowKit

def rowV (f : Nat → Nat) : Array Value := ((List.range 63).map fun i => Value.int .u64 (f i)).toArray
theorem rowV_size (f : Nat → Nat) : (rowV f).size = 63 := by simp [rowV]
theorem rowV_get (f : Nat → Nat) {k : Nat} (h : k < 63) : (rowV f)[k]? = some (.int .u64 (f k)) := by
  unfold rowV
  rw [List.getElem?_toArray, List.getElem?_map, List.getElem?_range h]; rfl
theorem rowV_congr {f g : Nat → Nat} (h : ∀ i, i < 63 → f i = g i) : rowV f = rowV g := by
  unfold rowV
  congr 1
  refine List.map_congr_left fun i hi => ?_
  rw [h i (List.mem_range.1 hi)]
theorem rowV_set (f g : Nat → Nat) (k v : Nat) (hk : k < 63) (h : ∀ i, i < 63 → (if i = k then v else f i) = g i) : (rowV f).setIfInBounds k (.int .u64 v) = rowV g := by
  apply Array.ext_getElem?
  intro i
  by_cases hi : i < 63
  · rw [rowV_get g hi, ← h i hi, Array.getElem?_setIfInBounds, rowV_size, rowV_get f hi]
    by_cases e : k = i
    · subst e; simp [hk]
    · simp [e, Ne.symm e]
  · have s1 : ((rowV f).setIfInBounds k (.int .u64 v)).size ≤ i := by rw [Array.size_setIfInBounds, rowV_size]; omega
    have s2 : (rowV g).size ≤ i := by rw [rowV_size]; omega
    rw [Array.getElem?_eq_none s1, Array.getElem?_eq_none s2]
theorem row_cell {w : World} {b : Nat} {f : Nat → Nat} {t : TypeId} (h : w.heap[b]? = some (.cells (rowV f) t (0, 0))) {k : Nat} (hk : k < 63) : w.cell? ⟨b, k, none⟩ = some (.int .u64 (f k)) ∧ w.frozen? ⟨b, k, none⟩ = false := by
  constructor
  · simp [World.cell?, h, rowV_get f hk]
  · simp [World.frozen?, h]

def mid (i k j : Nat) : Nat := if k < j then ch (i + 1) j else ch i j
theorem rowV_one (f : Nat → Nat) : (rowV f).all (·.oneCell') = true := by
  rw [Array.all_eq_true_iff_forall_mem]
  intro x hx
  unfold rowV at hx
  simp only [List.mem_toArray, List.mem_map] at hx
  obtain ⟨i, _, rfl⟩ := hx
  rfl
theorem mid_next (i k : Nat) : ∀ j, j < 63 → (if j = k + 1 then ch i (k + 1) + ch i k else mid i (k + 1) j) = mid i k j := by
  intro j _
  unfold mid
  by_cases e : j = k + 1
  · subst e
    rw [if_pos rfl, if_pos (by omega), ch_succ]; omega
  · rw [if_neg e]
    by_cases h : k < j
    · rw [if_pos h, if_pos (by omega)]
    · rw [if_neg h, if_neg (by omega)]

set_option maxRecDepth 100000 in
set_option maxHeartbeats 1000000 in
theorem row_ok (n : Nat) (hn : n ≤ 62) (w : World) :
    Calls Try.prog 24 #[.int .i64 n] w fun e w' => e = .returned (.agg (rowV (ch n))) ∧ Below w.heap.size w w' := by
  go_enter Try.func24, Try.ntmps24
  go_wp2_with fail
  go_loopw [6] (fun v wr => ∃ i : Nat, i ≤ n ∧ v = .int .i64 i ∧ Hid (wr.heap[w.heap.size]? = some (.cells (rowV (ch i)) 50 (0, 0)) ∧ Below w.heap.size w wr)) (fun v _ => n - (intOf v).toNat)
  case atStart =>
    refine ⟨0, by omega, rfl, ?_, ?_⟩
    · refine (blk_new _ _).trans (congrArg some (congrArg (fun c => Obj.cells c 50 (0, 0)) ?_))
      kernel_rfl
    · exact below_al (Below.refl _ _) _
  case round =>
    obtain ⟨i, hi, rfl, H⟩ := hrel
    by_cases hlt : i < n
    · go_wp2_with fail
      go_loopw [3] (fun v wr => ∃ k : Nat, k ≤ 62 ∧ v = .int .i64 k ∧ Hid (wr.heap[w.heap.size]? = some (.cells (rowV (mid i k)) 50 (0, 0)) ∧ Below w.heap.size w wr)) (fun v _ => (intOf v).toNat)
      case atStart =>
        refine ⟨62, by omega, rfl, ?_, H.out.2⟩
        rw [H.out.1, rowV_congr (f := mid i 62) (g := ch i) (fun j hj => by unfold mid; rw [if_neg (by omega)])]
      case round =>
        obtain ⟨k, hk, rfl, HM⟩ := hrel
        cases k with
        | zero =>
          go_wp2_with fail
          go_roundw
          case rel =>
            refine ⟨i + 1, by omega, by go_num, ?_, HM.out.2⟩
            rw [HM.out.1, rowV_congr (f := mid i 0) (g := ch (i + 1)) (fun j hj => by
              unfold mid
              by_cases h : 0 < j
              · rw [if_pos h]
              · rw [if_neg h, show j = 0 by omega, ch_zero, ch_zero])]
          case measure => simp [intOf]; omega
        | succ k =>
          obtain ⟨c0, c1⟩ := row_cell HM.out.1 (show k + 1 < 63 by omega)
          obtain ⟨d0, _⟩ := row_cell HM.out.1 (show k < 63 by omega)
          have hk0 : (0 : Int) < (k : Int) + 1 := by omega
          go_wp2_with fail
          go_region
          go_wp2
          go_roundw
          case rel =>
            refine ⟨k, by omega, rfl, ?_, below_dr (below_set HM.out.2 (by omega) _)⟩
            have m1 : mid i (k + 1) (k + 1) = ch i (k + 1) := by unfold mid; rw [if_neg (by omega)]
            have m2 : mid i (k + 1) k = ch i k := by unfold mid; rw [if_neg (by omega)]
            have e : IntKind.u64.wrap ((mid i (k + 1) (k + 1) : Nat) + (mid i (k + 1) k : Nat) : Int) = ((ch i (k + 1) + ch i k : Nat) : Int) := by
              rw [m1, m2, IntKind.wrap_u64]
              have b1 := ch_le i (k + 1)
              have b2 := ch_le i k
              have b3 := pow_le62 (show i ≤ 62 by omega)
              omega
            rw [e]
            exact blk_drew ((blk_set HM.out.1 _ _).trans (congrArg some (congrArg (fun c => Obj.cells c 50 (0, 0)) (rowV_set _ _ _ _ (by omega) (mid_next i k)))))
          case measure => simp [intOf]
    · obtain rfl : i = n := by omega
      have hb := H.out.1
      have hbl := Lib.hid H.out.2
      clear H
      go_wp2_with (first
        | refine wpList_load_row rfl 50 _ rfl _ rfl _ _ _ _ (by assumption) Try.underlying50 rfl (by simp only [rowV_size]; kernel_rfl) ?_
        | refine wpList_store_row rfl 50 _ _ rfl _ (rowV (ch i)) rfl rfl _ _ (by assumption) (by simp only [rowV_size]; kernel_rfl) rfl (rowV_one _) ?_)
      refine bodyPost_ret (v := .agg (rowV (ch i))) ?_ rfl ⟨rfl, below_setRow hbl.out (by omega) _⟩
      exact results_cell_row rfl _ _ _ _ _ _ _ rfl (setRow_heap _ _ _ _ _ _ hb) Try.underlying50 rfl (by simp only [rowV_size]; kernel_rfl)
end Go.Proofs.Ytooapbhjnibaoaa
