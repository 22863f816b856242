/- The walk of the reference's sum. -/
import Derived.Test.YtdcflgmbpaddhaaRV
import Derived.Test.YtdcflgmbpaddhaaRW
import Derived.Test.YtdcflgmbpaddhaaRK
namespace Go.Proofs.Ytdcflgmbpaddhaa
open Go.RowKit

theorem le_mul63 {a b : Int} (hb : 0 ≤ b) (ha1 : a ≤ 9223372036854775807) (hb1 : b ≤ 9223372036854775807) : a * b ≤ 85070591730234615847396907784232501249 :=
  Int.mul_le_mul ha1 hb1 hb (by decide)

structure StepNums (s x : Int × Int) (p q n d : Int) : Prop where
  ms : RatMay s
  mx : RatMay x
  ep : s.1 * x.2 = p
  eq : x.1 * s.2 = q
  en : p + q = n
  ed : s.2 * x.2 = d
theorem StepNums.facts {s x : Int × Int} {p q n d : Int} (h : StepNums s x p q n d) : 0 ≤ p ∧ 0 ≤ q ∧ U128 n ∧ U128 d ∧ 0 ≤ n ∧ 1 ≤ d ∧ n ≤ 170141183460469231731687303715884105728 ∧ d ≤ 170141183460469231731687303715884105728 := by
  obtain ⟨ms, mx, rfl, rfl, rfl, rfl⟩ := h
  have a1 := le_mul63 (show 0 ≤ x.2 by have := mx.d0; omega) ms.In.2 mx.Id.2
  have a2 := le_mul63 (show 0 ≤ s.2 by have := ms.d0; omega) mx.In.2 ms.Id.2
  have a3 := le_mul63 (show 0 ≤ x.2 by have := mx.d0; omega) ms.Id.2 mx.Id.2
  have b1 := Int.mul_nonneg ms.n0 (show 0 ≤ x.2 by have := mx.d0; omega)
  have b2 := Int.mul_nonneg mx.n0 (show 0 ≤ s.2 by have := ms.d0; omega)
  have b3 : 0 < s.2 * x.2 := Int.mul_pos (by have := ms.d0; omega) (by have := mx.d0; omega)
  unfold U128
  omega

theorem refReduce_some {s x t : Int × Int} {p q n d : Int} (h : StepNums s x p q n d) (ht : ratStep s x = some t) (w : World) :
    Calls Try.prog 32 #[.agg #[.int .u64 (hi n), .int .u64 (lo n)], .agg #[.int .u64 (hi d), .int .u64 (lo d)]] w fun e w' => e = .returned (.tuple #[.agg #[.int .i64 t.1, .int .i64 t.2], .bool true]) ∧ Below w.heap.size w w' := by
  obtain ⟨_, _, _, _, f1, f2, f3, f4⟩ := h.facts
  refine (reduce_any n d _ _ _ f1 f2 f3 f4 rfl rfl rfl w).mono fun e w' ⟨he, hb⟩ => ⟨?_, hb⟩
  obtain ⟨_, _, rfl, rfl, rfl, rfl⟩ := h
  unfold ratStep at ht
  split at ht
  · rename_i hh
    cases ht
    rw [he, if_pos hh]
  · cases ht
theorem refReduce_none {s x : Int × Int} {p q n d : Int} (h : StepNums s x p q n d) (ht : ratStep s x = none) (w : World) :
    Calls Try.prog 32 #[.agg #[.int .u64 (hi n), .int .u64 (lo n)], .agg #[.int .u64 (hi d), .int .u64 (lo d)]] w fun e w' => e = .returned (.tuple #[.agg #[.int .i64 0, .int .i64 0], .bool false]) ∧ Below w.heap.size w w' := by
  obtain ⟨_, _, _, _, f1, f2, f3, f4⟩ := h.facts
  refine (reduce_any n d _ _ _ f1 f2 f3 f4 rfl rfl rfl w).mono fun e w' ⟨he, hb⟩ => ⟨?_, hb⟩
  obtain ⟨_, _, rfl, rfl, rfl, rfl⟩ := h
  unfold ratStep at ht
  split at ht
  · cases ht
  · rename_i hh
    rw [he, if_neg hh]
theorem refPlus_any {x y n : Int} (e : x + y = n) (hx : 0 ≤ x) (hy : 0 ≤ y) (h : U128 n) (w : World) :
    Calls Try.prog 26 #[.agg #[.int .u64 (hi x), .int .u64 (lo x)], .agg #[.int .u64 (hi y), .int .u64 (lo y)]] w fun e w' => e = .returned (.agg #[.int .u64 (hi n), .int .u64 (lo n)]) ∧ Below w.heap.size w w' := by
  subst e; exact refPlus_ok x y hx hy h w

set_option maxHeartbeats 1000000 in
theorem refSum_nil (a : Option Addr) (cap : Nat) (w : World) :
    Calls Try.prog 19 #[.slice a 0 cap] w fun e w' => e = .returned (.tuple #[.agg #[.int .i64 0, .int .i64 1], .bool true]) ∧ Below w.heap.size w w' := by
  go_enter Try.func19, Try.ntmps19
  go_wp2_with fail
  go_loopw [4] (fun i wr => i = .int .i64 0 ∧ wr.heap[w.heap.size]? = some (.cells #[.int .i64 0, .int .i64 0] 37 (0, 0)) ∧ Hid (Below w.heap.size w wr)) (fun i _ => 0)
  case atStart => exact ⟨rfl, blk_new _ _, below_al (Below.refl _ _) _⟩
  case round =>
    obtain ⟨rfl, B, HW⟩ := hrel
    have HB := Lib.hid B
    clear B
    obtain ⟨z0, z1, z2, z3⟩ := two_cells HB.out
    go_wp2_with fail
    have Z := blk_old HB.out (.cells #[.int .i64 0, .int .i64 1] 37 (0, 0))
    have S := blk_new wr (.cells #[.int .i64 0, .int .i64 1] 37 (0, 0))
    have BW := below_al HW.out (.cells #[.int .i64 0, .int .i64 1] 37 (0, 0))
    have hm : w.heap.size < wr.heap.size := lt_of_block HB.out
    clear HB z0 z1 z2 z3 HW
    generalize wr.heap.size = m at *
    go_loopw [6] (fun i wr => i = .int .i64 0 ∧ wr.heap[w.heap.size]? = some (.cells #[.int .i64 0, .int .i64 0] 37 (0, 0)) ∧
        wr.heap[m]? = some (.cells #[.int .i64 0, .int .i64 1] 37 (0, 0)) ∧ Hid (Below w.heap.size w wr)) (fun i _ => 0)
    case atStart => exact ⟨rfl, Z, S, BW⟩
    case round =>
      clear Z S BW
      obtain ⟨rfl, B, S, HW⟩ := hrel
      have HB := Lib.hid B
      have HM := Lib.hid S
      clear B S
      obtain ⟨z0, z1, z2, z3⟩ := two_cells HB.out
      obtain ⟨s0, s1, s2, s3⟩ := two_cells HM.out
      go_wp2
      exact bodyPost_ret (res_ct rfl (InRow.mk' _ (two_set1 (two_set0 HB.out _) _) Try.underlying37 rfl (by kernel_rfl))) rfl ⟨rfl, below_set (below_set HW.out (by omega) _) (by omega) _⟩

set_option maxHeartbeats 1000000 in
theorem refSum_some (b off cap : Nat) (xs : List (Int × Int)) (t : Int × Int) (hm : ∀ x ∈ xs, RatMay x) (ht : ratFold (0, 1) xs = some t) (hl : xs.length ≤ 100000) (w : World) (hr : RatRow w b off xs) :
    Calls Try.prog 19 #[.slice (some ⟨b, off, none⟩) xs.length cap] w fun e w' => e = .returned (.tuple #[.agg #[.int .i64 t.1, .int .i64 t.2], .bool true]) ∧ Below w.heap.size w w' := by
  have Hm := Lib.hid hm
  have Ht := Lib.hid ht
  have Hr := Lib.hid hr
  clear hm ht hr
  go_enter Try.func19, Try.ntmps19
  go_wp2_with fail
  have hl' : (xs.length : Int) ≤ 100000 := by omega
  go_loopw [4] (fun i wr => ∃ k : Nat, k ≤ xs.length ∧ i = .int .i64 k ∧ wr.heap[w.heap.size]? = some (.cells #[.int .i64 0, .int .i64 0] 37 (0, 0)) ∧ Hid (Below w.heap.size w wr)) (fun i _ => xs.length - (intOf i).toNat)
  case atStart => exact ⟨0, by omega, rfl, blk_new _ _, below_al (Below.refl _ _) _⟩
  case round =>
    obtain ⟨k, hk, rfl, B, HW⟩ := hrel
    have HB := Lib.hid B
    clear B
    by_cases hlt : k < xs.length
    · obtain ⟨c0, c1⟩ := (Hr.out.later HW.out) k hlt
      have Hk := Lib.hid (Hm.out _ (getD_mem xs hlt (d := (0, 1))))
      generalize xs.getD k (0, 1) = x at *
      go_wp2_with fail
      refine (refMay_yes _ _ Hk.out.n0 Hk.out.d0 _).mono ?_
      rintro e w1 ⟨rfl, hb⟩
      have K := Lib.hid hb
      clear hb c0 c1
      go_wp2
      go_roundw
      case rel => exact ⟨k + 1, by omega, by go_num, blk_below HB.out K.out, below_after HW.out K.out⟩
      case measure => simp [intOf]; omega
    · obtain rfl : k = xs.length := by omega
      clear hlt hk
      obtain ⟨z0, z1, z2, z3⟩ := two_cells HB.out
      go_wp2_with fail
      have Z := blk_old HB.out (.cells #[.int .i64 0, .int .i64 1] 37 (0, 0))
      have S := blk_new wr (.cells #[.int .i64 0, .int .i64 1] 37 (0, 0))
      have BW := below_al HW.out (.cells #[.int .i64 0, .int .i64 1] 37 (0, 0))
      have hm : w.heap.size < wr.heap.size := lt_of_block HB.out
      clear HB z0 z1 z2 z3 HW
      generalize wr.heap.size = m at *
      go_loopw [6] (fun i wr => ∃ (k : Nat) (s : Int × Int), k ≤ xs.length ∧ i = .int .i64 k ∧ Hid (RatRed s ∧ ratFold s (xs.drop k) = some t) ∧ wr.heap[w.heap.size]? = some (.cells #[.int .i64 0, .int .i64 0] 37 (0, 0)) ∧
        wr.heap[m]? = some (.cells #[.int .i64 s.1, .int .i64 s.2] 37 (0, 0)) ∧ Hid (Below w.heap.size w wr)) (fun i _ => xs.length - (intOf i).toNat)
      case atStart => exact ⟨0, (0, 1), by omega, rfl, ⟨ratRed_start, Ht.out⟩, Z, S, BW⟩
      case round =>
        clear Z S BW
        obtain ⟨k, s, hk, rfl, HS, B, S, HW⟩ := hrel
        have HB := Lib.hid B
        have HM := Lib.hid S
        clear B S
        by_cases hlt : k < xs.length
        · obtain ⟨c0, c1⟩ := (Hr.out.later HW.out) k hlt
          have Hk := Lib.hid (Hm.out _ (getD_mem xs hlt (d := (0, 1))))
          obtain ⟨x, t', Hx, Ht'⟩ : ∃ x t', Hid (xs.getD k (0, 1) = x) ∧ Hid (ratStep s x = some t' ∧ ratFold t' (xs.drop (k + 1)) = some t) := by
            have h := HS.out.2
            rw [drop_cons xs hlt (0, 1)] at h
            obtain ⟨t', h1, h2⟩ := ratFold_cons h
            exact ⟨_, t', rfl, h1, h2⟩
          rw [Hx.out] at Hk c0 c1
          obtain ⟨s0, s1, s2, s3⟩ := two_cells HM.out
          go_wp2_with fail
          refine region_calms 22 [0, 1, 2, 3, 4, 5, 6, 7, 8, 9, 10, 11, 12, 13, 14, 15, 16, 17, 18, 19, 20, 21] 0 (by kernel_rfl) (by kernel_rfl) ?_ ?_
          · intro _ _ _ _ _ h; exact h
          repeat
            refine wpCalm_ex rfl ?_
            apply Exists.intro
            refine ⟨fun wq hq => ?_, ?_⟩
            · obtain ⟨c0, c1⟩ := (Hr.out.later (below_after HW.out hq)) k hlt
              rw [Hx.out] at c0 c1
              obtain ⟨s0, s1, s2, s3⟩ := two_cells (blk_below HM.out hq)
              go_simp
              first
                | rfl
            simp only [Act.put, List.setIfInBounds_toArray, List.set_cons_zero, List.set_cons_succ]
          refine wpCalm_nil (wpT_done (by kernel_rfl) fun w1 hb => ?_)
          rw [word_pos HS.out.1.In HS.out.1.n0, word_pos HS.out.1.Id (by have := HS.out.1.d0; omega), word_pos Hk.out.In Hk.out.n0, word_pos Hk.out.Id (by have := Hk.out.d0; omega)]
          have B1 := Lib.hid (blk_below HB.out hb)
          have M1 := Lib.hid (blk_below HM.out hb)
          have W1 := Lib.hid (below_after HW.out hb)
          clear hb HB HM HW s0 s1 s2 s3 c0 c1
          obtain ⟨p, q, n, d, N⟩ : ∃ p q n d, Hid (StepNums s x p q n d) := ⟨_, _, _, _, ⟨HS.out.1.toRatMay, Hk.out, rfl, rfl, rfl, rfl⟩⟩
          have F := Lib.hid N.out.facts
          go_wp2_with fail
          refine (refTimes_any rfl rfl N.out.ep (u64_of HS.out.1.In HS.out.1.n0) (u64_of Hk.out.Id (by have := Hk.out.d0; omega)) _).mono ?_
          rintro e w2 ⟨rfl, hb⟩
          have B2 := Lib.hid (blk_below B1.out hb)
          have M2 := Lib.hid (blk_below M1.out hb)
          have W2 := Lib.hid (below_after W1.out hb)
          clear hb B1 M1 W1
          go_wp2_with fail
          refine (refTimes_any rfl rfl N.out.eq (u64_of Hk.out.In Hk.out.n0) (u64_of HS.out.1.Id (by have := HS.out.1.d0; omega)) _).mono ?_
          rintro e w3 ⟨rfl, hb⟩
          have B3 := Lib.hid (blk_below B2.out hb)
          have M3 := Lib.hid (blk_below M2.out hb)
          have W3 := Lib.hid (below_after W2.out hb)
          clear hb B2 M2 W2
          go_wp2_with fail
          refine (refPlus_any N.out.en F.out.1 F.out.2.1 F.out.2.2.1 _).mono ?_
          rintro e w4 ⟨rfl, hb⟩
          have B4 := Lib.hid (blk_below B3.out hb)
          have M4 := Lib.hid (blk_below M3.out hb)
          have W4 := Lib.hid (below_after W3.out hb)
          clear hb B3 M3 W3
          go_wp2_with fail
          refine (refTimes_any rfl rfl N.out.ed (u64_of HS.out.1.Id (by have := HS.out.1.d0; omega)) (u64_of Hk.out.Id (by have := Hk.out.d0; omega)) _).mono ?_
          rintro e w5 ⟨rfl, hb⟩
          have B5 := Lib.hid (blk_below B4.out hb)
          have M5 := Lib.hid (blk_below M4.out hb)
          have W5 := Lib.hid (below_after W4.out hb)
          clear hb B4 M4 W4
          go_wp2_with fail
          refine (refReduce_some N.out Ht'.out.1 _).mono ?_
          rintro e w6 ⟨rfl, hb⟩
          have B6 := blk_old (blk_below B5.out hb) (.cells #[.int .i64 t'.1, .int .i64 t'.2] 37 (0, 0))
          have M6 := blk_old (blk_below M5.out hb) (.cells #[.int .i64 t'.1, .int .i64 t'.2] 37 (0, 0))
          have N6 := blk_new w6 (.cells #[.int .i64 t'.1, .int .i64 t'.2] 37 (0, 0))
          have W6 := below_al (below_after W5.out hb) (.cells #[.int .i64 t'.1, .int .i64 t'.2] 37 (0, 0))
          have h2 := Lib.hid (show m < w6.heap.size from lt_of_block (blk_below M5.out hb))
          clear hb B5 M5 W5
          obtain ⟨n0, n1, n2, n3⟩ := two_cells N6
          obtain ⟨s0, s1, s2, s3⟩ := two_cells M6
          obtain ⟨z0, z1, z2, z3⟩ := two_cells B6
          go_wp2
          go_roundw
          case rel =>
            refine ⟨k + 1, t', by omega, by go_num, ⟨ratStep_red HS.out.1.toRatMay Hk.out Ht'.out.1, Ht'.out.2⟩, ?_, ?_, ?_⟩
            · exact blk_far (blk_far B6 (by omega) _) (by omega) _
            · exact two_set1 (two_set0 M6 _) _
            · exact below_set (below_set W6 (by omega) _) (by omega) _
          case measure => simp [intOf]; omega
        · obtain rfl : k = xs.length := by omega
          clear hlt hk
          have ht := HS.out.2
          rw [List.drop_length] at ht
          have hst : s = t := by simpa [ratFold] using ht
          subst hst
          clear ht
          obtain ⟨z0, z1, z2, z3⟩ := two_cells HB.out
          obtain ⟨s0, s1, s2, s3⟩ := two_cells HM.out
          go_wp2
          exact bodyPost_ret (res_ct rfl (InRow.mk' _ (two_set1 (two_set0 HB.out _) _) Try.underlying37 rfl (by kernel_rfl))) rfl ⟨rfl, below_set (below_set HW.out (by omega) _) (by omega) _⟩
end Go.Proofs.Ytdcflgmbpaddhaa
