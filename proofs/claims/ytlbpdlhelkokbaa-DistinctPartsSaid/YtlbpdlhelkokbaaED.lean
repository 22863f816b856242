/- The reference's Count, bit by bit; whether a counter is what the document says. -/
import Derived.Test.YtlbpdlhelkokbaaEC
import Derived.Test.YtlbpdlhelkokbaaEA
namespace Go.Proofs.Ytlbpdlhelkokbaa
open Go.RowKit Go.Proofs.YtlbpdlhelkokbaaW.PrintWords

/-- i bits of a division -/
structure Bits (R h : Int) (i : Nat) (q r : Int) : Prop where
  q0 : 0 ≤ q
  q1 : q < 2 ^ i
  r0 : 0 ≤ r
  r1 : r < h
  e : q * h + r = R * 2 ^ i
theorem bits_next {R h : Int} {i : Nat} {q r : Int} (b : Bits R h i q r) : (h ≤ 2 * r → Bits R h (i + 1) (2 * q + 1) (2 * r - h)) ∧ (¬ h ≤ 2 * r → Bits R h (i + 1) (2 * q) (2 * r)) := by
  obtain ⟨a1, a2, a3, a4, a5⟩ := b
  have e2 : (2 : Int) ^ (i + 1) = 2 ^ i * 2 := Int.pow_succ 2 i
  have e3 : R * (2 ^ i * 2) = 2 * (R * 2 ^ i) := by rw [← Int.mul_assoc, Int.mul_comm]
  refine ⟨fun hh => ⟨by omega, by rw [e2]; omega, by omega, by omega, ?_⟩, fun hh => ⟨by omega, by rw [e2]; omega, by omega, by omega, ?_⟩⟩
  · rw [e2, e3, ← a5]
    have : (2 * q + 1) * h = 2 * (q * h) + h := by rw [Int.add_mul, Int.mul_assoc, Int.one_mul]
    omega
  · rw [e2, e3, ← a5]
    have : 2 * q * h = 2 * (q * h) := Int.mul_assoc _ _ _
    omega
theorem bits_end {R h q r : Int} (b : Bits R h 64 q r) (hh : 0 < h) : q = R * 18446744073709551616 / h := by
  have e : R * 2 ^ 64 = R * 18446744073709551616 := rfl
  rw [← e, ← b.e, Int.add_comm, Int.add_mul_ediv_right _ _ (by omega), Int.ediv_eq_zero_of_lt b.r0 b.r1]
  omega
theorem pow_low {i : Nat} (hi : i ≤ 63) : (2 : Int) ^ i ≤ 9223372036854775808 := by
  have : (2 : Nat) ^ i ≤ 2 ^ 63 := Nat.pow_le_pow_right (by omega) hi
  have e : ((2 ^ i : Nat) : Int) = (2 : Int) ^ i := by simp
  omega

set_option maxHeartbeats 2000000 in
theorem refCount_ok (k : Nat) (l : List Int) (V : Value) (base : Nat) (w : World) (hV : w.ownsRow base 23 1 V l.length (U l)) (hk1 : 1 ≤ k) (hk2 : k ≤ 4096) (hl : l.length ≤ 100000) (hU : ∀ x ∈ l, U64 x) :
    Calls Try.prog 32 #[V, .int .i64 k] w fun e w' => e = .returned (.int .i64 (countN l k)) ∧ Below w.heap.size w w' := by
  unfold countN
  by_cases h : l.length ≤ k
  · rw [if_pos h]
    have h' : (l.length : Int) ≤ (k : Int) := by omega
    rcases hV.2 with ⟨rfl, h0⟩ | ⟨ro, c, cur, rfl, _, _, _, _, _, _⟩
    · rw [h0] at h' ⊢
      clear hV h h0
      have hk0 : (0 : Int) ≤ (k : Int) := by omega
      go_enter Try.func32, Try.ntmps32
      go_wp2_with fail
      go_ret
      exact ⟨rfl, Below.refl _ _⟩
    · clear hV h
      generalize l.length = n at *
      go_enter Try.func32, Try.ntmps32
      go_wp2_with fail
      go_ret
      exact ⟨rfl, Below.refl _ _⟩
  · rw [if_neg h]
    obtain ⟨j, rfl⟩ : ∃ j, k = j + 1 := ⟨k - 1, by omega⟩
    have hjl : j < l.length := by omega
    have hd : l.getD (j + 1 - 1) 0 = l[j] := by rw [Nat.add_sub_cancel, List.getD_eq_getElem?_getD, List.getElem?_eq_getElem hjl]; rfl
    rw [hd]
    obtain ⟨hu0, hu1⟩ := hU l[j] (List.getElem_mem hjl)
    have hx : l[j]? = some l[j] := List.getElem?_eq_getElem hjl
    rcases hV.2 with ⟨rfl, h0⟩ | ⟨ro, c, cur, rfl, _, _, _, _, _, _⟩
    · omega
    · have hc := row_cell' hV hx
      generalize l[j] = x at *
      clear hV hU hd hx
      generalize l.length = n at *
      have e1 : ((j + 1 : Nat) : Int) = (j : Int) + 1 := by omega
      rw [e1, show (j : Int) + 1 - 1 = j by omega]
      have hn1 : ¬ (n : Int) ≤ (j : Int) + 1 := by omega
      have hj0 : (0 : Int) ≤ (j : Int) := by omega
      have hjn : (j : Int) < n := by omega
      have hjw : IntKind.u64.wrap (j : Int) = j := wu _ (by omega) (by omega)
      obtain ⟨H, hH⟩ : ∃ H, max x 1 = H := ⟨_, rfl⟩
      rw [hH]
      have hH1 : 1 ≤ H := by omega
      have hH2 : H < 18446744073709551616 := by omega
      have hcase : (x = 0 ∧ H = 1) ∨ (¬ x = 0 ∧ H = x) := by omega
      clear e1 h
      by_cases hb : H ≤ (j : Int)
      · rw [if_pos hb]
        rcases hcase with ⟨rfl, rfl⟩ | ⟨h0, rfl⟩
        · clear hH
          go_enter Try.func32, Try.ntmps32
          go_wp2_with fail
          go_ret
          exact ⟨rfl, Below.refl _ _⟩
        · clear hH
          have hx0 : (H == 0) = false := by simp; omega
          go_enter Try.func32, Try.ntmps32
          go_wp2_with fail
          go_ret
          exact ⟨rfl, Below.refl _ _⟩
      · rw [if_neg hb]
        obtain ⟨Q, hQ⟩ : ∃ Q, (j : Int) * 18446744073709551616 / H = Q := ⟨_, rfl⟩
        rw [hQ]
        have HQ := Lib.hid hQ
        have B0 := Lib.hid (show Bits (j : Int) H 0 0 (j : Int) from ⟨by omega, by simp, by omega, by omega, by simp⟩)
        clear hQ
        have fin : Hid (∀ q r, Bits (j : Int) H 64 q r → q = Q) := fun q r b => by rw [bits_end b (by omega)]; exact HQ.out
        have fin2 : Hid ((4611686018427387904 < Q → min (max Q ((j : Int) + 1 + 1)) 4611686018427387904 = 4611686018427387904) ∧ (¬ 4611686018427387904 < Q → Q < (j : Int) + 1 + 1 → min (max Q ((j : Int) + 1 + 1)) 4611686018427387904 = (j : Int) + 1 + 1) ∧ (¬ 4611686018427387904 < Q → ¬ Q < (j : Int) + 1 + 1 → min (max Q ((j : Int) + 1 + 1)) 4611686018427387904 = Q)) :=
          ⟨fun _ => by omega, fun _ _ => by omega, fun _ _ => by omega⟩
        obtain ⟨Z, hZ⟩ : ∃ Z, min (max Q ((j : Int) + 1 + 1)) 4611686018427387904 = Z := ⟨_, rfl⟩
        rw [hZ] at fin2 ⊢
        clear hZ
        rcases hcase with ⟨rfl, rfl⟩ | ⟨h0, rfl⟩
        · clear hH
          go_enter Try.func32, Try.ntmps32
          go_wp2_with fail
          go_loop [6, 7, 8, 9] (fun s6 s7 s8 s9 => ∃ (i : Nat) (q r : Int) (m : Bool), i ≤ 64 ∧ s8 = .int .i64 i ∧ s6 = .int .u64 q ∧ s7 = .int .u64 r ∧ Hid (Bits (j : Int) 1 i q r)) (fun _ _ s8 _ => 64 - (intOf s8).toNat)
          case atStart => exact ⟨0, 0, (j : Int), true, by omega, rfl, rfl, rfl, B0⟩
          case round =>
            obtain ⟨i, q, r, _, hi, rfl, rfl, rfl, B⟩ := hrel
            by_cases hil : i < 64
            · have hil' : (i : Int) < 64 := by omega
              have p1 := pow_low (i := i) (by omega)
              have hq0 := B.out.q0
              have hq1 := B.out.q1
              have hr0 := B.out.r0
              have hr1 := B.out.r1
              have w1 : IntKind.u64.wrap (2 * q) = 2 * q := wu _ (by omega) (by omega)
              have w2 : IntKind.u64.wrap (2 * q + 1) = 2 * q + 1 := wu _ (by omega) (by omega)
              obtain ⟨n1, n2⟩ := bits_next B.out
              have N1 := Lib.hid n1
              have N2 := Lib.hid n2
              clear n1 n2 p1 hq1
              by_cases hh : 9223372036854775808 ≤ r
              · obtain ⟨t, ht⟩ : ∃ t, IntKind.u64.wrap (2 * r) = t := ⟨_, rfl⟩
                have w3 : IntKind.u64.wrap (t - 1) = 2 * r - 1 := by rw [← ht]; simp only [IntKind.wrap_u64]; omega
                go_wp2_with fail
                go_round
                case rel => exact ⟨i + 1, _, _, true, by omega, by go_num, rfl, rfl, N1.out (by omega)⟩
                case measure => simp [intOf]; omega
              · have w3 : IntKind.u64.wrap (2 * r) = 2 * r := wu _ (by omega) (by omega)
                by_cases hg : 1 ≤ 2 * r
                · have w4 : IntKind.u64.wrap (2 * r - 1) = 2 * r - 1 := wu _ (by omega) (by omega)
                  go_wp2_with fail
                  go_round
                  case rel => exact ⟨i + 1, _, _, true, by omega, by go_num, rfl, rfl, N1.out hg⟩
                  case measure => simp [intOf]; omega
                · go_wp2_with fail
                  go_round
                  case rel => exact ⟨i + 1, _, _, true, by omega, by go_num, rfl, rfl, N2.out hg⟩
                  case measure => simp [intOf]; omega
            · obtain rfl : i = 64 := by omega
              have hq0 := B.out.q0
              have hq1 := B.out.q1
              have eq := fin.out q r B.out
              clear B B0 fin HQ
              subst eq
              obtain ⟨f1, f2, f3⟩ := fin2.out
              clear fin2
              by_cases g1 : 4611686018427387904 < q
              · have e1 := Lib.hid (f1 (by omega))
                clear f1 f2 f3
                go_wp2_with fail
                go_ret
                exact ⟨by rw [e1.out]; rfl, Below.refl _ _⟩
              · by_cases g2 : q < (j : Int) + 1 + 1
                · have e1 := Lib.hid (f2 (by omega) (by omega))
                  clear f1 f2 f3
                  go_wp2_with fail
                  go_ret
                  exact ⟨by rw [e1.out]; rfl, Below.refl _ _⟩
                · have e1 := Lib.hid (f3 (by omega) (by omega))
                  clear f1 f2 f3
                  go_wp2_with fail
                  go_ret
                  exact ⟨by rw [e1.out]; rfl, Below.refl _ _⟩
        · clear hH
          have hx0 : (H == 0) = false := by simp; omega
          go_enter Try.func32, Try.ntmps32
          go_wp2_with fail
          go_loop [6, 7, 8, 9] (fun s6 s7 s8 s9 => ∃ (i : Nat) (q r : Int) (m : Bool), i ≤ 64 ∧ s8 = .int .i64 i ∧ s6 = .int .u64 q ∧ s7 = .int .u64 r ∧ Hid (Bits (j : Int) H i q r)) (fun _ _ s8 _ => 64 - (intOf s8).toNat)
          case atStart => exact ⟨0, 0, (j : Int), true, by omega, rfl, rfl, rfl, B0⟩
          case round =>
            obtain ⟨i, q, r, _, hi, rfl, rfl, rfl, B⟩ := hrel
            by_cases hil : i < 64
            · have hil' : (i : Int) < 64 := by omega
              have p1 := pow_low (i := i) (by omega)
              have hq0 := B.out.q0
              have hq1 := B.out.q1
              have hr0 := B.out.r0
              have hr1 := B.out.r1
              have w1 : IntKind.u64.wrap (2 * q) = 2 * q := wu _ (by omega) (by omega)
              have w2 : IntKind.u64.wrap (2 * q + 1) = 2 * q + 1 := wu _ (by omega) (by omega)
              obtain ⟨n1, n2⟩ := bits_next B.out
              have N1 := Lib.hid n1
              have N2 := Lib.hid n2
              clear n1 n2 p1 hq1
              by_cases hh : 9223372036854775808 ≤ r
              · obtain ⟨t, ht⟩ : ∃ t, IntKind.u64.wrap (2 * r) = t := ⟨_, rfl⟩
                have w3 : IntKind.u64.wrap (t - H) = 2 * r - H := by rw [← ht]; simp only [IntKind.wrap_u64]; omega
                go_wp2_with fail
                go_round
                case rel => exact ⟨i + 1, _, _, true, by omega, by go_num, rfl, rfl, N1.out (by omega)⟩
                case measure => simp [intOf]; omega
              · have w3 : IntKind.u64.wrap (2 * r) = 2 * r := wu _ (by omega) (by omega)
                by_cases hg : H ≤ 2 * r
                · have w4 : IntKind.u64.wrap (2 * r - H) = 2 * r - H := wu _ (by omega) (by omega)
                  go_wp2_with fail
                  go_round
                  case rel => exact ⟨i + 1, _, _, true, by omega, by go_num, rfl, rfl, N1.out hg⟩
                  case measure => simp [intOf]; omega
                · go_wp2_with fail
                  go_round
                  case rel => exact ⟨i + 1, _, _, true, by omega, by go_num, rfl, rfl, N2.out hg⟩
                  case measure => simp [intOf]; omega
            · obtain rfl : i = 64 := by omega
              have hq0 := B.out.q0
              have hq1 := B.out.q1
              have eq := fin.out q r B.out
              clear B B0 fin HQ
              subst eq
              obtain ⟨f1, f2, f3⟩ := fin2.out
              clear fin2
              by_cases g1 : 4611686018427387904 < q
              · have e1 := Lib.hid (f1 (by omega))
                clear f1 f2 f3
                go_wp2_with fail
                go_ret
                exact ⟨by rw [e1.out]; rfl, Below.refl _ _⟩
              · by_cases g2 : q < (j : Int) + 1 + 1
                · have e1 := Lib.hid (f2 (by omega) (by omega))
                  clear f1 f2 f3
                  go_wp2_with fail
                  go_ret
                  exact ⟨by rw [e1.out]; rfl, Below.refl _ _⟩
                · have e1 := Lib.hid (f3 (by omega) (by omega))
                  clear f1 f2 f3
                  go_wp2_with fail
                  go_ret
                  exact ⟨by rw [e1.out]; rfl, Below.refl _ _⟩
theorem refLeast_ok (A : Option Addr) (c k : Nat) (l : List Int) (w : World) (hC : Kd.C (Kd.int .u64) w A l.length l) (hc : l.length ≤ c) (hk : k ≤ 4096) :
    Calls Try.prog 33 #[.slice A l.length c, .int .i64 k] w fun e w' => e = .returned (.int .i64 (leastN l k)) ∧ Below w.heap.size w w' := by
  refine (KA.ciceroneref13_Least.calls A c l k (leastN l k) w hC hc ?_).mono fun _ _ ⟨h1, h2⟩ => ⟨h1, below_drawn h2⟩
  unfold KA.ciceroneref13_Least.f leastN
  by_cases h : k < l.length
  · rw [if_pos (by omega), if_pos h, show wrap64 ((k : Int) + 1) = (k : Int) + 1 by unfold wrap64; omega]
  · rw [if_neg (by omega), if_neg h]
end Go.Proofs.Ytlbpdlhelkokbaa
