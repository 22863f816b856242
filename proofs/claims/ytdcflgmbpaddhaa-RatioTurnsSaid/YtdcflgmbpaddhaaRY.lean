/- The reference's sum where it may not be; both sums side by side. -/
import Derived.Test.YtdcflgmbpaddhaaRX
namespace Go.Proofs.Ytdcflgmbpaddhaa
open Go.RowKit

set_option maxHeartbeats 1000000 in
theorem refSum_not (b off cap : Nat) (xs : List (Int × Int)) (hm : ∃ k, k < xs.length ∧ ¬ (0 ≤ (xs.getD k (0, 1)).1 ∧ 1 ≤ (xs.getD k (0, 1)).2)) (hl : xs.length ≤ 100000) (w : World) (hr : RatRow w b off xs) :
    Calls Try.prog 19 #[.slice (some ⟨b, off, none⟩) xs.length cap] w fun e w' => e = .returned (.tuple #[.agg #[.int .i64 0, .int .i64 0], .bool false]) ∧ Below w.heap.size w w' := by
  have Hm := Lib.hid hm
  have Hr := Lib.hid hr
  clear hm hr
  go_enter Try.func19, Try.ntmps19
  go_wp2_with fail
  have hl' : (xs.length : Int) ≤ 100000 := by omega
  go_loopw [4] (fun i wr => ∃ k : Nat, k ≤ xs.length ∧ i = .int .i64 k ∧ Hid (∀ j, j < k → 0 ≤ (xs.getD j (0, 1)).1 ∧ 1 ≤ (xs.getD j (0, 1)).2) ∧ wr.heap[w.heap.size]? = some (.cells #[.int .i64 0, .int .i64 0] 37 (0, 0)) ∧ Hid (Below w.heap.size w wr)) (fun i _ => xs.length - (intOf i).toNat)
  case atStart => exact ⟨0, by omega, rfl, (fun j hj => absurd hj (by omega)), blk_new _ _, below_al (Below.refl _ _) _⟩
  case round =>
    obtain ⟨k, hk, rfl, HF, B, HW⟩ := hrel
    have HB := Lib.hid B
    clear B
    by_cases hlt : k < xs.length
    · obtain ⟨c0, c1⟩ := (Hr.out.later HW.out) k hlt
      by_cases hmay : 0 ≤ (xs.getD k (0, 1)).1 ∧ 1 ≤ (xs.getD k (0, 1)).2
      · have Hk := Lib.hid hmay
        have HF2 : Hid (∀ j, j < k + 1 → 0 ≤ (xs.getD j (0, 1)).1 ∧ 1 ≤ (xs.getD j (0, 1)).2) := fun j hj => by
          by_cases e : j = k
          · subst e; exact hmay
          · exact HF.out j (by omega)
        clear hmay HF Hm
        generalize hx : xs.getD k (0, 1) = x at Hk c0 c1
        clear hx
        go_wp2_with fail
        refine (refMay_yes _ _ Hk.out.1 Hk.out.2 _).mono ?_
        rintro e w1 ⟨rfl, hb⟩
        have K := Lib.hid hb
        clear hb c0 c1
        go_wp2
        go_roundw
        case rel => exact ⟨k + 1, by omega, by go_num, HF2, blk_below HB.out K.out, below_after HW.out K.out⟩
        case measure => simp [intOf]; omega
      · have Hk := Lib.hid hmay
        clear hmay HF Hm
        generalize hx : xs.getD k (0, 1) = x at Hk c0 c1
        clear hx
        go_wp2_with fail
        refine (refMay_no _ _ Hk.out _).mono ?_
        rintro e w1 ⟨rfl, hb⟩
        have B2 := blk_below HB.out hb
        have W2 := below_after HW.out hb
        clear hb c0 c1
        obtain ⟨z0, z1, z2, z3⟩ := two_cells B2
        go_wp2
        exact bodyPost_ret (res_ct rfl (InRow.mk' _ (two_set1 (two_set0 B2 _) _) Try.underlying37 rfl (by kernel_rfl))) rfl ⟨rfl, below_set (below_set W2 (by omega) _) (by omega) _⟩
    · exfalso
      obtain ⟨j, hj, hn⟩ := Hm.out
      exact hn (HF.out j (by omega))

set_option maxHeartbeats 1000000 in
theorem refSum_none (b off cap : Nat) (xs : List (Int × Int)) (hm : ∀ x ∈ xs, RatMay x) (ht : ratFold (0, 1) xs = none) (hl : xs.length ≤ 100000) (w : World) (hr : RatRow w b off xs) :
    Calls Try.prog 19 #[.slice (some ⟨b, off, none⟩) xs.length cap] w fun e w' => e = .returned (.tuple #[.agg #[.int .i64 0, .int .i64 0], .bool false]) ∧ Below w.heap.size w w' := by
  have Hm := Lib.hid hm
  have Ht := Lib.hid ht
  have Hr := Lib.hid hr
  clear hm ht hr
  go_enter Try.func19, Try.ntmps19
  go_wp2_with fail
  have hl' : (xs.length : Int) ≤ 100000 := by omega
  go_loopw [4] (fun i wr => ∃ k : Nat, k ≤ xs.length ∧ i = .int .i64 k ∧ wr.heap[w.heap.size]? = some (.cells #[.int .i64 0, .int .i64 0] 37 (0, 0)) ∧ Hid (Below w.heap.size w wr)) (fun i _ => xs.length - (intOf i).toNat)
  case atStart => exact ⟨0, by omega, rfl, blk_new _ _, below_al (Below.refl _ _) _⟩
  case round =>
    obtain ⟨k, hk, rfl, B, HW⟩ := hrel
    have HB := Lib.hid B
    clear B
    by_cases hlt : k < xs.length
    · obtain ⟨c0, c1⟩ := (Hr.out.later HW.out) k hlt
      have Hk := Lib.hid (Hm.out _ (getD_mem xs hlt (d := (0, 1))))
      generalize xs.getD k (0, 1) = x at *
      go_wp2_with fail
      refine (refMay_yes _ _ Hk.out.n0 Hk.out.d0 _).mono ?_
      rintro e w1 ⟨rfl, hb⟩
      have K := Lib.hid hb
      clear hb c0 c1
      go_wp2
      go_roundw
      case rel => exact ⟨k + 1, by omega, by go_num, blk_below HB.out K.out, below_after HW.out K.out⟩
      case measure => simp [intOf]; omega
    · obtain rfl : k = xs.length := by omega
      clear hlt hk
      obtain ⟨z0, z1, z2, z3⟩ := two_cells HB.out
      go_wp2_with fail
      have Z := blk_old HB.out (.cells #[.int .i64 0, .int .i64 1] 37 (0, 0))
      have S := blk_new wr (.cells #[.int .i64 0, .int .i64 1] 37 (0, 0))
      have BW := below_al HW.out (.cells #[.int .i64 0, .int .i64 1] 37 (0, 0))
      have hm : w.heap.size < wr.heap.size := lt_of_block HB.out
      clear HB z0 z1 z2 z3 HW
      generalize wr.heap.size = m at *
      go_loopw [6] (fun i wr => ∃ (k : Nat) (s : Int × Int), k ≤ xs.length ∧ i = .int .i64 k ∧ Hid (RatRed s ∧ ratFold s (xs.drop k) = none) ∧ wr.heap[w.heap.size]? = some (.cells #[.int .i64 0, .int .i64 0] 37 (0, 0)) ∧
        wr.heap[m]? = some (.cells #[.int .i64 s.1, .int .i64 s.2] 37 (0, 0)) ∧ Hid (Below w.heap.size w wr)) (fun i _ => xs.length - (intOf i).toNat)
      case atStart => exact ⟨0, (0, 1), by omega, rfl, ⟨ratRed_start, Ht.out⟩, Z, S, BW⟩
      case round =>
        clear Z S BW
        obtain ⟨k, s, hk, rfl, HS, B, S, HW⟩ := hrel
        have HB := Lib.hid B
        have HM := Lib.hid S
        clear B S
        by_cases hlt : k < xs.length
        · obtain ⟨c0, c1⟩ := (Hr.out.later HW.out) k hlt
          have Hk := Lib.hid (Hm.out _ (getD_mem xs hlt (d := (0, 1))))
          obtain ⟨x, Hx, Hf⟩ : ∃ x, Hid (xs.getD k (0, 1) = x) ∧ Hid (ratFold s (x :: xs.drop (k + 1)) = none) := by
            have h := HS.out.2
            rw [drop_cons xs hlt (0, 1)] at h
            exact ⟨_, rfl, h⟩
          rw [Hx.out] at Hk c0 c1
          obtain ⟨s0, s1, s2, s3⟩ := two_cells HM.out
          go_wp2_with fail
          refine region_calms 22 [0, 1, 2, 3, 4, 5, 6, 7, 8, 9, 10, 11, 12, 13, 14, 15, 16, 17, 18, 19, 20, 21] 0 (by kernel_rfl) (by kernel_rfl) ?_ ?_
          · intro _ _ _ _ _ h; exact h
          repeat
            refine wpCalm_ex rfl ?_
            apply Exists.intro
            refine ⟨fun wq hq => ?_, ?_⟩
            · obtain ⟨c0, c1⟩ := (Hr.out.later (below_after HW.out hq)) k hlt
              rw [Hx.out] at c0 c1
              obtain ⟨s0, s1, s2, s3⟩ := two_cells (blk_below HM.out hq)
              go_simp
              first
                | rfl
            simp only [Act.put, List.setIfInBounds_toArray, List.set_cons_zero, List.set_cons_succ]
          refine wpCalm_nil (wpT_done (by kernel_rfl) fun w1 hb => ?_)
          rw [word_pos HS.out.1.In HS.out.1.n0, word_pos HS.out.1.Id (by have := HS.out.1.d0; omega), word_pos Hk.out.In Hk.out.n0, word_pos Hk.out.Id (by have := Hk.out.d0; omega)]
          have B1 := Lib.hid (blk_below HB.out hb)
          have M1 := Lib.hid (blk_below HM.out hb)
          have W1 := Lib.hid (below_after HW.out hb)
          clear hb HB HM HW s0 s1 s2 s3 c0 c1
          obtain ⟨p, q, n, d, N⟩ : ∃ p q n d, Hid (StepNums s x p q n d) := ⟨_, _, _, _, ⟨HS.out.1.toRatMay, Hk.out, rfl, rfl, rfl, rfl⟩⟩
          have F := Lib.hid N.out.facts
          go_wp2_with fail
          refine (refTimes_any rfl rfl N.out.ep (u64_of HS.out.1.In HS.out.1.n0) (u64_of Hk.out.Id (by have := Hk.out.d0; omega)) _).mono ?_
          rintro e w2 ⟨rfl, hb⟩
          have B2 := Lib.hid (blk_below B1.out hb)
          have M2 := Lib.hid (blk_below M1.out hb)
          have W2 := Lib.hid (below_after W1.out hb)
          clear hb B1 M1 W1
          go_wp2_with fail
          refine (refTimes_any rfl rfl N.out.eq (u64_of Hk.out.In Hk.out.n0) (u64_of HS.out.1.Id (by have := HS.out.1.d0; omega)) _).mono ?_
          rintro e w3 ⟨rfl, hb⟩
          have B3 := Lib.hid (blk_below B2.out hb)
          have M3 := Lib.hid (blk_below M2.out hb)
          have W3 := Lib.hid (below_after W2.out hb)
          clear hb B2 M2 W2
          go_wp2_with fail
          refine (refPlus_any N.out.en F.out.1 F.out.2.1 F.out.2.2.1 _).mono ?_
          rintro e w4 ⟨rfl, hb⟩
          have B4 := Lib.hid (blk_below B3.out hb)
          have M4 := Lib.hid (blk_below M3.out hb)
          have W4 := Lib.hid (below_after W3.out hb)
          clear hb B3 M3 W3
          go_wp2_with fail
          refine (refTimes_any rfl rfl N.out.ed (u64_of HS.out.1.Id (by have := HS.out.1.d0; omega)) (u64_of Hk.out.Id (by have := Hk.out.d0; omega)) _).mono ?_
          rintro e w5 ⟨rfl, hb⟩
          have B5 := Lib.hid (blk_below B4.out hb)
          have M5 := Lib.hid (blk_below M4.out hb)
          have W5 := Lib.hid (below_after W4.out hb)
          clear hb B4 M4 W4
          go_wp2_with fail
          by_cases hst : ∃ t', ratStep s x = some t'
          · obtain ⟨t', hst⟩ := hst
            have Ht' : Hid (ratStep s x = some t' ∧ ratFold t' (xs.drop (k + 1)) = none) := ⟨hst, by have h := Hf.out; unfold ratFold at h; rw [hst] at h; exact h⟩
            clear hst Hf
            refine (refReduce_some N.out Ht'.out.1 _).mono ?_
            rintro e w6 ⟨rfl, hb⟩
            have B6 := blk_old (blk_below B5.out hb) (.cells #[.int .i64 t'.1, .int .i64 t'.2] 37 (0, 0))
            have M6 := blk_old (blk_below M5.out hb) (.cells #[.int .i64 t'.1, .int .i64 t'.2] 37 (0, 0))
            have N6 := blk_new w6 (.cells #[.int .i64 t'.1, .int .i64 t'.2] 37 (0, 0))
            have W6 := below_al (below_after W5.out hb) (.cells #[.int .i64 t'.1, .int .i64 t'.2] 37 (0, 0))
            have h2 := Lib.hid (show m < w6.heap.size from lt_of_block (blk_below M5.out hb))
            clear hb B5 M5 W5
            obtain ⟨n0, n1, n2, n3⟩ := two_cells N6
            obtain ⟨s0, s1, s2, s3⟩ := two_cells M6
            obtain ⟨z0, z1, z2, z3⟩ := two_cells B6
            go_wp2
            go_roundw
            case rel =>
              refine ⟨k + 1, t', by omega, by go_num, ⟨ratStep_red HS.out.1.toRatMay Hk.out Ht'.out.1, Ht'.out.2⟩, ?_, ?_, ?_⟩
              · exact blk_far (blk_far B6 (by omega) _) (by omega) _
              · exact two_set1 (two_set0 M6 _) _
              · exact below_set (below_set W6 (by omega) _) (by omega) _
            case measure => simp [intOf]; omega
          · have Hs : Hid (ratStep s x = none) := by
              show ratStep s x = none
              cases h : ratStep s x with
              | none => rfl
              | some t' => exact absurd ⟨t', h⟩ hst
            clear hst Hf
            refine (refReduce_none N.out Hs.out _).mono ?_
            rintro e w6 ⟨rfl, hb⟩
            have B6 := blk_old (blk_below B5.out hb) (.cells #[.int .i64 0, .int .i64 0] 37 (0, 0))
            have W6 := below_al (below_after W5.out hb) (.cells #[.int .i64 0, .int .i64 0] 37 (0, 0))
            clear hb B5 M5 W5
            obtain ⟨z0, z1, z2, z3⟩ := two_cells B6
            go_wp2
            exact bodyPost_ret (res_ct rfl (InRow.mk' _ (two_set1 (two_set0 B6 _) _) Try.underlying37 rfl (by kernel_rfl))) rfl ⟨rfl, below_set (below_set W6 (by omega) _) (by omega) _⟩
        · obtain rfl : k = xs.length := by omega
          exfalso
          have ht := HS.out.2
          rw [List.drop_length] at ht
          cases ht

/-- both sums answer the same -/
def SumOf (f : FuncId) (w : World) (a : Option Addr) (n cap : Nat) (r : Int × Int) (ok : Bool) : Prop :=
  Calls Try.prog f #[.slice a n cap] w fun e w' => e = .returned (.tuple #[.agg #[.int .i64 r.1, .int .i64 r.2], .bool ok]) ∧ Below w.heap.size w w'
/-- the row at an address; nothing where it is empty -/
def RatRowA (w : World) (a : Option Addr) (xs : List (Int × Int)) : Prop := xs = [] ∨ ∃ b off, a = some ⟨b, off, none⟩ ∧ RatRow w b off xs
theorem RatRowA.later {w w1 : World} {a : Option Addr} {xs : List (Int × Int)} (h : RatRowA w a xs) (hb : Below w.heap.size w w1) : RatRowA w1 a xs := by
  rcases h with h | ⟨b, off, h, hr⟩
  · exact .inl h
  · exact .inr ⟨b, off, h, hr.later hb⟩

theorem sum_both (xs : List (Int × Int)) (hI : ∀ x ∈ xs, I64 x.1 ∧ I64 x.2) (hl : xs.length ≤ 100000) :
    ∃ r ok, (∀ w a cap, RatRowA w a xs → SumOf 18 w a xs.length cap r ok) ∧ (∀ w a cap, RatRowA w a xs → SumOf 19 w a xs.length cap r ok) := by
  cases xs with
  | nil => exact ⟨(0, 1), true, fun w a cap _ => sum_nil a cap w, fun w a cap _ => refSum_nil a cap w⟩
  | cons y ys =>
    generalize hxs : y :: ys = xs at *
    have hne : xs ≠ [] := by rw [← hxs]; simp
    clear hxs
    by_cases hm : ∀ x ∈ xs, 0 ≤ x.1 ∧ 1 ≤ x.2
    · have hM : ∀ x ∈ xs, RatMay x := fun x hx => ⟨(hm x hx).1, (hm x hx).2, (hI x hx).1, (hI x hx).2⟩
      cases ht : ratFold (0, 1) xs with
      | some t =>
        refine ⟨t, true, fun w a cap h => ?_, fun w a cap h => ?_⟩
        · rcases h with h | ⟨b, off, rfl, hr⟩
          · exact absurd h hne
          · exact sum_some b off cap xs t hM ht hl w hr
        · rcases h with h | ⟨b, off, rfl, hr⟩
          · exact absurd h hne
          · exact refSum_some b off cap xs t hM ht hl w hr
      | none =>
        refine ⟨(0, 0), false, fun w a cap h => ?_, fun w a cap h => ?_⟩
        · rcases h with h | ⟨b, off, rfl, hr⟩
          · exact absurd h hne
          · exact sum_none b off cap xs hM ht hl w hr
        · rcases h with h | ⟨b, off, rfl, hr⟩
          · exact absurd h hne
          · exact refSum_none b off cap xs hM ht hl w hr
    · have hn : ∃ k, k < xs.length ∧ ¬ (0 ≤ (xs.getD k (0, 1)).1 ∧ 1 ≤ (xs.getD k (0, 1)).2) := by
        refine Classical.byContradiction fun h => hm fun x hx => ?_
        obtain ⟨k, hk, rfl⟩ := List.getElem_of_mem hx
        refine Classical.byContradiction fun h2 => h ⟨k, hk, ?_⟩
        rw [List.getD_eq_getElem?_getD, List.getElem?_eq_getElem hk]
        exact h2
      refine ⟨(0, 0), false, fun w a cap h => ?_, fun w a cap h => ?_⟩
      · rcases h with h | ⟨b, off, rfl, hr⟩
        · exact absurd h hne
        · exact sum_not b off cap xs hn hl w hr
      · rcases h with h | ⟨b, off, rfl, hr⟩
        · exact absurd h hne
        · exact refSum_not b off cap xs hn hl w hr
end Go.Proofs.Ytdcflgmbpaddhaa
