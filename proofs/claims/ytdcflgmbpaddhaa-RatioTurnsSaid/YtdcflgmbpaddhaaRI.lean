/- The walks of the program's sum, and of the reference's. -/
import Derived.Test.YtdcflgmbpaddhaaRH
import Derived.Test.YtdcflgmbpaddhaaRP
namespace Go.Proofs.Ytdcflgmbpaddhaa
open Go.RowKit

theorem addNums_of {s r : Int × Int} (hs : RatRed s) (hr : RatMay r) :
    AddNums s.1 s.2 (r.1 / Int.gcd r.1 r.2) (r.2 / Int.gcd r.1 r.2) (Int.gcd s.2 (r.2 / Int.gcd r.1 r.2) : Nat) (s.2 / (Int.gcd s.2 (r.2 / Int.gcd r.1 r.2) : Nat)) (r.2 / Int.gcd r.1 r.2 / (Int.gcd s.2 (r.2 / Int.gcd r.1 r.2) : Nat))
      (s.1 * (r.2 / Int.gcd r.1 r.2 / (Int.gcd s.2 (r.2 / Int.gcd r.1 r.2) : Nat)) + r.1 / Int.gcd r.1 r.2 * (s.2 / (Int.gcd s.2 (r.2 / Int.gcd r.1 r.2) : Nat)))
      (Int.gcd (Int.gcd s.2 (r.2 / Int.gcd r.1 r.2) : Nat) ((s.1 * (r.2 / Int.gcd r.1 r.2 / (Int.gcd s.2 (r.2 / Int.gcd r.1 r.2) : Nat)) + r.1 / Int.gcd r.1 r.2 * (s.2 / (Int.gcd s.2 (r.2 / Int.gcd r.1 r.2) : Nat))) % (Int.gcd s.2 (r.2 / Int.gcd r.1 r.2) : Nat)) : Nat) :=
  have h := ratRed_own hr
  ⟨hs.In, hs.Id, h.In, h.Id, hs.n0, hs.d0, h.n0, h.d0, rfl, rfl, rfl, rfl, rfl⟩

theorem add_some {s r t : Int × Int} (hs : RatRed s) (hr : RatMay r) (h : ratStep s r = some t) (w : World) :
    Calls Try.prog 30 #[.agg #[.int .i64 s.1, .int .i64 s.2], .agg #[.int .i64 (r.1 / Int.gcd r.1 r.2), .int .i64 (r.2 / Int.gcd r.1 r.2)]] w fun e w' =>
      e = .returned (.tuple #[.agg #[.int .i64 t.1, .int .i64 t.2], .bool true]) ∧ Below w.heap.size w w' := by
  refine (add_any _ _ _ _ _ _ _ _ _ (addNums_of hs hr) w).mono fun e w' ⟨he, hb⟩ => ⟨?_, hb⟩
  have e := int_add hs hr
  simp only at e
  rw [he, e.1, e.2]
  unfold ratStep at h
  split at h
  · rename_i hh
    cases h
    rw [if_pos hh]
  · cases h

theorem add_none {s r : Int × Int} (hs : RatRed s) (hr : RatMay r) (h : ratStep s r = none) (w : World) :
    Calls Try.prog 30 #[.agg #[.int .i64 s.1, .int .i64 s.2], .agg #[.int .i64 (r.1 / Int.gcd r.1 r.2), .int .i64 (r.2 / Int.gcd r.1 r.2)]] w fun e w' =>
      e = .returned (.tuple #[.agg #[.int .i64 0, .int .i64 0], .bool false]) ∧ Below w.heap.size w w' := by
  refine (add_any _ _ _ _ _ _ _ _ _ (addNums_of hs hr) w).mono fun e w' ⟨he, hb⟩ => ⟨?_, hb⟩
  have e := int_add hs hr
  simp only at e
  rw [he, e.1, e.2]
  unfold ratStep at h
  split at h
  · cases h
  · rename_i hh
    rw [if_neg hh]

/-- a row of fractions in memory -/
def RatRow (w : World) (b off : Nat) (xs : List (Int × Int)) : Prop :=
  ∀ j, j < xs.length → w.cell? ⟨b, off + j * 2, none⟩ = some (.int .i64 (xs.getD j (0, 1)).1) ∧ w.cell? ⟨b, off + j * 2 + 1, none⟩ = some (.int .i64 (xs.getD j (0, 1)).2)
theorem RatRow.lt {w : World} {b off : Nat} {xs : List (Int × Int)} (h : RatRow w b off xs) (hx : 0 < xs.length) : b < w.heap.size := World.block_lt_of_cell? w _ (h 0 hx).1
theorem RatRow.later {w w1 : World} {b off : Nat} {xs : List (Int × Int)} (h : RatRow w b off xs) (hb : Below w.heap.size w w1) : RatRow w1 b off xs := fun j hj =>
  ⟨(hb.cell (World.block_lt_of_cell? w _ (h j hj).1)).trans (h j hj).1, (hb.cell (World.block_lt_of_cell? w _ (h j hj).2)).trans (h j hj).2⟩

theorem getD_mem {α : Type} (xs : List α) {k : Nat} (h : k < xs.length) {d : α} : xs.getD k d ∈ xs := by
  rw [List.getD_eq_getElem?_getD, List.getElem?_eq_getElem h]
  exact List.getElem_mem h

set_option maxHeartbeats 1000000 in
theorem sum_some (b off cap : Nat) (xs : List (Int × Int)) (t : Int × Int) (hm : ∀ x ∈ xs, RatMay x) (ht : ratFold (0, 1) xs = some t) (hl : xs.length ≤ 100000) (w : World) (hr : RatRow w b off xs) :
    Calls Try.prog 18 #[.slice (some ⟨b, off, none⟩) xs.length cap] w fun e w' => e = .returned (.tuple #[.agg #[.int .i64 t.1, .int .i64 t.2], .bool true]) ∧ Below w.heap.size w w' := by
  have Hm := Lib.hid hm
  have Ht := Lib.hid ht
  have Hr := Lib.hid hr
  clear hm ht hr
  go_enter Try.func18, Try.ntmps18
  go_wp2_with fail
  have hl' : (xs.length : Int) ≤ 100000 := by omega
  go_loopw [13] (fun i wr => ∃ k : Nat, k ≤ xs.length ∧ i = .int .i64 k ∧ wr.heap[w.heap.size]? = some (.cells #[.int .i64 0, .int .i64 0] 37 (0, 0)) ∧ Hid (Below w.heap.size w wr)) (fun i _ => xs.length - (intOf i).toNat)
  case atStart => exact ⟨0, by omega, rfl, blk_new _ _, below_al (Below.refl _ _) _⟩
  case round =>
    obtain ⟨k, hk, rfl, B, HW⟩ := hrel
    have HB := Lib.hid B
    clear B
    by_cases hlt : k < xs.length
    · obtain ⟨c0, c1⟩ := (Hr.out.later HW.out) k hlt
      have Hk := Lib.hid (Hm.out _ (getD_mem xs hlt (d := (0, 1))))
      generalize xs.getD k (0, 1) = x at *
      go_wp2_with fail
      refine (may_yes _ _ Hk.out.n0 Hk.out.d0 _).mono ?_
      rintro e w1 ⟨rfl, hb⟩
      have K := Lib.hid hb
      clear hb c0 c1
      go_wp2
      go_roundw
      case rel => exact ⟨k + 1, by omega, by go_num, blk_below (blk_old HB.out _) K.out, below_after (below_al HW.out _) K.out⟩
      case measure => simp [intOf]; omega
    · obtain rfl : k = xs.length := by omega
      clear hlt hk
      obtain ⟨z0, z1, z2, z3⟩ := two_cells HB.out
      go_wp2_with fail
      have Z := blk_old HB.out (.cells #[.int .i64 0, .int .i64 1] 37 (0, 0))
      have S := blk_new wr (.cells #[.int .i64 0, .int .i64 1] 37 (0, 0))
      have BW := below_al HW.out (.cells #[.int .i64 0, .int .i64 1] 37 (0, 0))
      have hm : w.heap.size < wr.heap.size := lt_of_block HB.out
      clear HB z0 z1 z2 z3 HW
      generalize wr.heap.size = m at *
      go_loopw [25] (fun i wr => ∃ (k : Nat) (s : Int × Int), k ≤ xs.length ∧ i = .int .i64 k ∧ Hid (RatRed s ∧ ratFold s (xs.drop k) = some t) ∧ wr.heap[w.heap.size]? = some (.cells #[.int .i64 0, .int .i64 0] 37 (0, 0)) ∧
        wr.heap[m]? = some (.cells #[.int .i64 s.1, .int .i64 s.2] 37 (0, 0)) ∧ Hid (Below w.heap.size w wr)) (fun i _ => xs.length - (intOf i).toNat)
      case atStart => exact ⟨0, (0, 1), by omega, rfl, ⟨ratRed_start, Ht.out⟩, Z, S, BW⟩
      case round =>
        clear Z S BW
        obtain ⟨k, s, hk, rfl, HS, B, S, HW⟩ := hrel
        have HB := Lib.hid B
        have HM := Lib.hid S
        clear B S
        by_cases hlt : k < xs.length
        · obtain ⟨c0, c1⟩ := (Hr.out.later HW.out) k hlt
          have Hk := Lib.hid (Hm.out _ (getD_mem xs hlt (d := (0, 1))))
          obtain ⟨x, t', Hx, Ht'⟩ : ∃ x t', xs.getD k (0, 1) = x ∧ Hid (ratStep s x = some t' ∧ ratFold t' (xs.drop (k + 1)) = some t) := by
            have h := HS.out.2
            rw [drop_cons xs hlt (0, 1)] at h
            obtain ⟨t', h1, h2⟩ := ratFold_cons h
            exact ⟨_, t', rfl, h1, h2⟩
          rw [Hx] at Hk c0 c1
          clear Hx
          go_wp2_with fail
          have Z := blk_old HB.out (.cells #[.int .i64 x.1, .int .i64 x.2] 37 (0, 0))
          have S := blk_old HM.out (.cells #[.int .i64 x.1, .int .i64 x.2] 37 (0, 0))
          have N := blk_new wr (.cells #[.int .i64 x.1, .int .i64 x.2] 37 (0, 0))
          have BW := below_al HW.out (.cells #[.int .i64 x.1, .int .i64 x.2] 37 (0, 0))
          clear c0 c1
          refine region_calms 8 [0, 1, 2, 3, 4, 5, 6] 1 (by kernel_rfl) (by kernel_rfl) ?_ ?_
          · intro _ _ _ _ _ h; exact h
          repeat
            refine wpCalm_ex rfl ?_
            apply Exists.intro
            refine ⟨fun wq hq => ?_, ?_⟩
            · obtain ⟨c0, c1, _, _⟩ := two_cells (blk_below S hq)
              obtain ⟨d0, d1, _, _⟩ := two_cells (blk_below N hq)
              go_simp
              first
                | rfl
                | exact reduced_ok _ _ Hk.out.In Hk.out.Id Hk.out.n0 Hk.out.d0 _
                | exact add_some HS.out.1 Hk.out Ht'.out.1 _
            simp only [Act.put, List.setIfInBounds_toArray, List.set_cons_zero, List.set_cons_succ]
          refine wpCalm_nil (wpT_one 7 rfl (by kernel_rfl) fun wq hq K hK => ?_)
          go_simp
          refine hK _ _ (below_al (Below.refl _ _) _) ?_
          clear hK K
          refine wpT_tail (by kernel_rfl) fun w3 hb => ?_
          have N3 := blk_below (blk_new wq (.cells #[.int .i64 0, .int .i64 0] 37 (0, 0))) hb
          have Z3 := blk_below Z (below_after (below_al hq _) hb)
          have S3 := blk_below S (below_after (below_al hq _) hb)
          have W3 := below_after BW (below_after (below_al hq _) hb)
          have h1 : w.heap.size < wq.heap.size := lt_of_block (blk_below Z hq)
          have h2 : m < wq.heap.size := lt_of_block (blk_below S hq)
          clear Z S N BW hb hq
          generalize wq.heap.size = q at *
          obtain ⟨n0, n1, n2, n3⟩ := two_cells N3
          obtain ⟨s0, s1, s2, s3⟩ := two_cells S3
          obtain ⟨z0, z1, z2, z3⟩ := two_cells Z3
          go_wp2
          go_roundw
          case rel =>
            refine ⟨k + 1, t', by omega, by go_num, ⟨ratStep_red HS.out.1.toRatMay Hk.out Ht'.out.1, Ht'.out.2⟩, ?_, ?_, ?_⟩
            · exact blk_far (blk_far (blk_far (blk_far Z3 (by omega) _) (by omega) _) (by omega) _) (by omega) _
            · exact two_set1 (two_set0 (blk_far (blk_far S3 (by omega) _) (by omega) _) _) _
            · exact below_set (below_set (below_set (below_set W3 (by omega) _) (by omega) _) (by omega) _) (by omega) _
          case measure => simp [intOf]; omega
        · obtain rfl : k = xs.length := by omega
          clear hlt hk
          have ht := HS.out.2
          rw [List.drop_length] at ht
          have hst : s = t := by simpa [ratFold] using ht
          subst hst
          clear ht
          obtain ⟨z0, z1, z2, z3⟩ := two_cells HB.out
          obtain ⟨s0, s1, s2, s3⟩ := two_cells HM.out
          go_wp2
          exact bodyPost_ret (res_ct rfl (InRow.mk' _ (two_set1 (two_set0 HB.out _) _) Try.underlying37 rfl (by kernel_rfl))) rfl ⟨rfl, below_set (below_set HW.out (by omega) _) (by omega) _⟩
end Go.Proofs.Ytdcflgmbpaddhaa
