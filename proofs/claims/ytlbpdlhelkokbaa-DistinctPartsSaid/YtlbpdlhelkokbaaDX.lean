/- Div64 of a small upper word and a lower word of none: the walk. -/
import Derived.Test.YtlbpdlhelkokbaaDV
import Derived.Test.YtlbpdlhelkokbaaDW
namespace Go.Proofs.Ytlbpdlhelkokbaa
open Go.RowKit

theorem bitLenAux_range : ∀ (f x : Nat), 1 ≤ x → x < 2 ^ f → ∃ b, Lib.bitLenAux f x = b + 1 ∧ b + 1 ≤ f ∧ 2 ^ b ≤ x ∧ x < 2 ^ (b + 1)
  | 0, x, h0, h1 => by simp at h1; omega
  | f + 1, x, h0, h1 => by
    simp only [Lib.bitLenAux]
    rw [if_neg (by omega)]
    by_cases hx : x / 2 = 0
    · have e : Lib.bitLenAux f (x / 2) = 0 := by rw [hx]; cases f <;> simp [Lib.bitLenAux]
      rw [e]
      exact ⟨0, rfl, by omega, h0, (by omega : x < 2)⟩
    · obtain ⟨b, e, hb, h2, h3⟩ := bitLenAux_range f (x / 2) (by omega) (by rw [Nat.pow_succ] at h1; omega)
      rw [e]
      refine ⟨b + 1, by omega, by omega, ?_, ?_⟩
      · rw [Nat.pow_succ]; omega
      · rw [Nat.pow_succ]; omega
theorem shift_range {y : Int} (h0 : 1 ≤ y) (h1 : y < 18446744073709551616) : ∃ S p : Nat, (64 - (Lib.bitLen y.toNat : Int)) = (S : Int) ∧ S ≤ 63 ∧ (2 : Int) ^ S = p ∧ 1 ≤ p ∧ p ≤ 9223372036854775808 ∧ 9223372036854775808 ≤ y * p ∧ y * p < 18446744073709551616 := by
  obtain ⟨n, rfl⟩ := Int.eq_ofNat_of_zero_le (show 0 ≤ y by omega)
  obtain ⟨b, e, hb, h2, h3⟩ := bitLenAux_range 64 n (by omega) (by omega)
  have hp : 2 ^ b * 2 ^ (63 - b) = 9223372036854775808 := by rw [← Nat.pow_add, show b + (63 - b) = 63 by omega]
  have h63 : 2 ^ (63 - b) ≤ 2 ^ 63 := Nat.pow_le_pow_right (by omega) (by omega)
  have h1p : 1 ≤ 2 ^ (63 - b) := Nat.one_le_two_pow
  refine ⟨63 - b, 2 ^ (63 - b), ?_, by omega, by simp, h1p, by omega, ?_, ?_⟩
  · have : Lib.bitLen n = b + 1 := e
    simp only [Int.toNat_natCast, this]
    omega
  · have := Nat.mul_le_mul_right (2 ^ (63 - b)) h2
    rw [hp] at this
    have e2 : (n : Int) * ((2 ^ (63 - b) : Nat) : Int) = ((n * 2 ^ (63 - b) : Nat) : Int) := by simp
    rw [e2]; omega
  · have := (Nat.mul_lt_mul_right (show 0 < 2 ^ (63 - b) by omega)).2 h3
    rw [Nat.pow_succ, Nat.mul_right_comm, hp] at this
    have e2 : (n : Int) * ((2 ^ (63 - b) : Nat) : Int) = ((n * 2 ^ (63 - b) : Nat) : Int) := by simp
    rw [e2]; omega

def DivTo (q : Int) (w : World) (e : Ending) (w' : World) : Prop := ∃ r, e = .returned (.tuple #[.int .u64 q, .int .u64 r]) ∧ Below w.heap.size w w'

set_option maxRecDepth 100000 in
theorem div_zero (y : Int) (h0 : 1 ≤ y) (_ : y < 18446744073709551616) (w : World) :
    Calls Try.prog 30 #[.int .u64 0, .int .u64 0, .int .u64 y] w (DivTo 0 w) := by
  have hy : (y == 0) = false := by simp; omega
  have hy0 : ¬ y ≤ 0 := by omega
  have e1 : Int.tdiv 0 y = 0 := by simp
  have e2 : Int.tmod 0 y = 0 := by simp
  go_enter Try.func30, Try.ntmps30
  go_wp2_with fail
  go_quiet (fail)
  go_wp2_with fail
  go_ret2
  exact ⟨_, rfl, below_drN (Below.refl _ _) _⟩

theorem or_none {u : Int} (h0 : 0 ≤ u) (h1 : u < 18446744073709551616) : bits .or .u64 u 0 = u := by
  obtain ⟨n, rfl⟩ := Int.eq_ofNat_of_zero_le h0
  have := bits_join .u64 64 (by decide) wraps_u64 0 (n : Int) 0 (by omega) (by omega) (by omega) (by omega) (by omega) (by omega)
  rw [this, Int.add_zero]

theorem eqs_b {u y y1 y0 q r : Int} (d : Dig u y y1 y0) (t : Try1 u y y1 y0 q r) (hq : q < 4294967296) :
    IntKind.u64.wrap (q * y0) = q * y0 ∧ IntKind.u64.wrap (4294967296 * r) = 4294967296 * r := by
  have h0 := (Qd_range d).1
  have h1 := t.lo
  have hm := Int.mul_nonneg (show 0 ≤ q by omega) d.y00
  have hm2 := Int.mul_le_mul (show q ≤ 4294967295 by omega) (show y0 ≤ 4294967295 by have := d.y0hi; omega) d.y00 (by omega)
  have r0 := t.r0
  have r1 := t.rhi
  exact ⟨wu _ hm (by omega), wu _ (by omega) (by omega)⟩
theorem eqs_a {u y y1 y0 q r : Int} (d : Dig u y y1 y0) (t : Try1 u y y1 y0 q r) (h : 4294967296 ≤ q ∨ 4294967296 * r < q * y0) :
    IntKind.u64.wrap (q - 1) = q - 1 ∧ IntKind.u64.wrap (r + y1) = r + y1 ∧ 1 ≤ q ∧ 0 ≤ r + y1 := by
  have h0 := (Qd_range d).1
  have h1 := t.lo
  have h2 := t.hi
  have r0 := t.r0
  have r1 := t.rhi
  have y1a := d.y1lo
  have y1b := d.y1hi
  have hs : 1 ≤ q := by
    rcases h with h | h
    · omega
    · refine Classical.byContradiction fun hn => ?_
      have e : q = 0 := by omega
      rw [e, Int.zero_mul] at h
      omega
  exact ⟨wu _ (by omega) (by omega), wu _ (by omega) (by omega), hs, by omega⟩
theorem eqs_start {u y y1 y0 : Int} (d : Dig u y y1 y0) : IntKind.u64.wrap (u / y1) = u / y1 ∧ IntKind.u64.wrap (u / y1 * y1) = u / y1 * y1 ∧ IntKind.u64.wrap (u - u / y1 * y1) = u - u / y1 * y1 := by
  have t := try_start d
  have h0 := (Qd_range d).1
  have h1 := t.lo
  have h2 := t.hi
  have r0 := t.r0
  have r1 := t.rhi
  have u0 := d.u0
  have uy := d.uy
  have yy := d.yy
  have a := d.y1hi
  have b := d.y0hi
  have hz := Int.mul_nonneg (show 0 ≤ u / y1 by omega) (show 0 ≤ y1 by have := d.y1lo; omega)
  generalize u / y1 * y1 = z at *
  exact ⟨wu _ (by omega) (by omega), wu _ hz (by omega), wu _ (by omega) (by omega)⟩
theorem eqs_rest {u y y1 y0 : Int} (d : Dig u y y1 y0) :
    IntKind.u64.wrap (IntKind.u64.wrap (IntKind.u64.wrap (u * 4294967296)) - IntKind.u64.wrap (Qd u y * y)) = Rd u y := by
  have h := rest_is (u := u) (y := y)
  have r := Rd_range (u := u) d.y_pos
  have a := d.uy
  have b := d.y1hi
  have c := d.y0hi
  have e := d.yy
  simp only [IntKind.wrap_u64]
  generalize Qd u y * y = z at *
  omega


set_option maxRecDepth 100000 in
set_option maxHeartbeats 8000000 in
theorem div_ok (h y : Int) (h0 : 1 ≤ h) (hy1 : h < y) (hy2 : y < 18446744073709551616) (w : World) :
    Calls Try.prog 30 #[.int .u64 h, .int .u64 0, .int .u64 y] w (DivTo (h * 18446744073709551616 / y) w) := by
  obtain ⟨S, p, hS, hS63, hp, hp1, hp2, hyp1, hyp2⟩ := shift_range (y := y) (by omega) hy2
  have hy : (y == 0) = false := by simp; omega
  have hh : (h == 0) = false := by simp; omega
  have hyh : ¬ y ≤ h := by omega
  have HS := Lib.hid hS
  obtain ⟨Y, hY⟩ : ∃ Y, y * (p : Int) = Y := ⟨_, rfl⟩
  obtain ⟨u, hu⟩ : ∃ u, h * (p : Int) = u := ⟨_, rfl⟩
  obtain ⟨y1, hy1'⟩ : ∃ y1, Y / 4294967296 = y1 := ⟨_, rfl⟩
  obtain ⟨y0, hy0'⟩ : ∃ y0, Y % 4294967296 = y0 := ⟨_, rfl⟩
  have hres : h * 18446744073709551616 / y = Qd u Y * 4294967296 + Qd (Rd u Y) Y := by
    rw [two_digits (u := u) (y := Y) (by omega), ← hu, ← hY, div_shift (by omega)]
  rw [hres]
  have D : Hid (Dig u Y y1 y0) := by
    have h1 : h * (p : Int) < y * p := Int.mul_lt_mul_of_pos_right hy1 (by omega)
    have h2 : 0 ≤ h * (p : Int) := Int.mul_nonneg (by omega) (by omega)
    exact ⟨by omega, by omega, by omega, by omega, by omega, by omega, by omega⟩
  have D2 : Hid (Dig (Rd u Y) Y y1 y0) := by
    have h1 := Rd_range (u := u) D.out.y_pos
    exact ⟨h1.1, h1.2, D.out.y1lo, D.out.y1hi, D.out.y00, D.out.y0hi, D.out.yy⟩
  have hYw : IntKind.u64.wrap Y = Y := wu _ (by omega) (by omega)
  have huw : IntKind.u64.wrap u = u := wu _ D.out.u0 (by have := D.out.uy; omega)
  have hand : bits .and .u64 Y 4294967295 = y0 := by rw [and32 Y (by omega) (by omega)]; exact hy0'
  have hand0 : bits .and .u64 0 4294967295 = 0 := by rw [and32 0 (by omega) (by omega)]; rfl
  have hor : bits .or .u64 u 0 = u := or_none D.out.u0 (by have := D.out.uy; omega)
  have hu0 : 0 ≤ u := D.out.u0
  have hy1a : 1 ≤ y1 := by have := D.out.y1lo; omega
  have hy1b : 0 ≤ y1 := by omega
  have hY0 : 0 ≤ Y := by omega
  obtain ⟨s1, s2, s3⟩ := eqs_start D.out
  have htd : u.tdiv y1 = u / y1 := Int.tdiv_eq_ediv_of_nonneg hu0
  have T0 := Lib.hid (try_start D.out)
  obtain ⟨p1, p2, p3⟩ := eqs_start D2.out
  have hR0 := D2.out.u0
  have htd2 : (Rd u Y).tdiv y1 = Rd u Y / y1 := Int.tdiv_eq_ediv_of_nonneg hR0
  have T2 := Lib.hid (try_start D2.out)
  have hrest := eqs_rest D.out
  obtain ⟨a, ha⟩ : ∃ a, IntKind.u64.wrap (u * 4294967296) = a := ⟨_, rfl⟩
  have haw : IntKind.u64.wrap a = a := by rw [← ha, IntKind.wrap_u64, IntKind.wrap_u64]; omega
  rw [ha, haw] at hrest
  have hq1 := Qd_range D.out
  have hq2 := Qd_range D2.out
  have r1 : IntKind.u64.wrap (Qd u Y * 4294967296) = Qd u Y * 4294967296 := wu _ (by omega) (by omega)
  have r2 : IntKind.u64.wrap (Qd u Y * 4294967296 + Qd (Rd u Y) Y) = Qd u Y * 4294967296 + Qd (Rd u Y) Y := wu _ (by omega) (by omega)
  have hq1' := hq1.1
  have hq2' := hq2.1
  clear hS hres hy0' hyp1 hyp2 hp1 hp2 hq1 hq2
  go_enter Try.func30, Try.ntmps30
  go_wp2_with fail
  refine (lz_ok y (by omega) (by omega) _).mono ?_
  rw [HS.out]
  rintro e w1 ⟨rfl, rfl⟩
  have hS0 : (0 : Int) ≤ S := by omega
  have hS1 : (S : Int) ≤ 63 := by omega
  go_wp2_with fail
  go_loop [15, 16] (fun s1 s2 => ∃ q r : Int, s1 = .int .u64 q ∧ s2 = .int .u64 r ∧ Hid (Try1 u Y y1 y0 q r)) (fun s1 _ => (intOf s1).toNat)
  case atStart => exact ⟨_, _, rfl, rfl, T0⟩
  case round =>
    obtain ⟨q, r, rfl, rfl, T⟩ := hrel
    have hq0 : 0 ≤ q := by have := (Qd_range D.out).1; have := T.out.lo; omega
    have hr0 : 0 ≤ r := T.out.r0
    have hsp : (4294967296 ≤ q) ∨ (¬ 4294967296 ≤ q ∧ 4294967296 * r < q * y0) ∨ (¬ 4294967296 ≤ q ∧ ¬ 4294967296 * r < q * y0) := by
      by_cases h1 : 4294967296 ≤ q
      · exact .inl h1
      · by_cases h2 : 4294967296 * r < q * y0
        · exact .inr (.inl ⟨h1, h2⟩)
        · exact .inr (.inr ⟨h1, h2⟩)
    rcases hsp with hA | ⟨hA, hB⟩ | ⟨hA, hB⟩
    · obtain ⟨e1, e2, hq1, hry⟩ := eqs_a D.out T.out (.inl hA)
      by_cases hb : r + y1 < 4294967296
      · have N := Lib.hid (try_next D.out T.out (.inl hA) hb)
        have hb2 : ¬ 4294967296 ≤ r + y1 := by omega
        go_wp2_with fail
        go_round
        case rel => exact ⟨_, _, rfl, rfl, N⟩
        case measure => simp [intOf]; omega
      · have e3 := try_break D.out T.out (.inl hA) hb
        have e1n := e1.trans e3
        clear e1
        have hb2 : 4294967296 ≤ r + y1 := by omega
        clear e3 hb T
        go_wp2_with fail
        go_loop [18, 16] (fun s1 s2 => ∃ q r : Int, s1 = .int .u64 q ∧ s2 = .int .u64 r ∧ Hid (Try1 (Rd u Y) Y y1 y0 q r)) (fun s1 _ => (intOf s1).toNat)
        case atStart => exact ⟨_, _, rfl, rfl, T2⟩
        case round =>
          obtain ⟨q, r, rfl, rfl, T⟩ := hrel
          have hq0 : 0 ≤ q := by have := (Qd_range D2.out).1; have := T.out.lo; omega
          have hr0 : 0 ≤ r := T.out.r0
          have hsp : (4294967296 ≤ q) ∨ (¬ 4294967296 ≤ q ∧ 4294967296 * r < q * y0) ∨ (¬ 4294967296 ≤ q ∧ ¬ 4294967296 * r < q * y0) := by
            by_cases h1 : 4294967296 ≤ q
            · exact .inl h1
            · by_cases h2 : 4294967296 * r < q * y0
              · exact .inr (.inl ⟨h1, h2⟩)
              · exact .inr (.inr ⟨h1, h2⟩)
          rcases hsp with hA | ⟨hA, hB⟩ | ⟨hA, hB⟩
          · obtain ⟨e1, e2, hq1, hry⟩ := eqs_a D2.out T.out (.inl hA)
            by_cases hb : r + y1 < 4294967296
            · have N := Lib.hid (try_next D2.out T.out (.inl hA) hb)
              have hb2 : ¬ 4294967296 ≤ r + y1 := by omega
              go_wp2_with fail
              go_round
              case rel => exact ⟨_, _, rfl, rfl, N⟩
              case measure => simp [intOf]; omega
            · have e3 := try_break D2.out T.out (.inl hA) hb
              have e1n := e1.trans e3
              clear e1
              have hb2 : 4294967296 ≤ r + y1 := by omega
              clear e3 hb T
              go_wp2_with fail
              go_ret2
              exact ⟨_, rfl, Below.refl _ _⟩
          · obtain ⟨e1, e2, hq1, hry⟩ := eqs_a D2.out T.out (.inr hB)
            obtain ⟨e4, e5⟩ := eqs_b D2.out T.out (by omega)
            by_cases hb : r + y1 < 4294967296
            · have N := Lib.hid (try_next D2.out T.out (.inr hB) hb)
              have hb2 : ¬ 4294967296 ≤ r + y1 := by omega
              clear T
              go_wp2_with fail
              go_round
              case rel => exact ⟨_, _, rfl, rfl, N⟩
              case measure => simp [intOf]; omega
            · have e3 := try_break D2.out T.out (.inr hB) hb
              have e1n := e1.trans e3
              clear e1
              have hb2 : 4294967296 ≤ r + y1 := by omega
              clear e3 hb T
              go_wp2_with fail
              go_ret2
              exact ⟨_, rfl, Below.refl _ _⟩
          · have hE := try_end D2.out T.out (fun h => by rcases h with h | h; exact hA h; exact hB h)
            obtain ⟨e4, e5⟩ := eqs_b D2.out T.out (by omega)
            clear T
            subst hE
            go_wp2_with fail
            go_ret2
            exact ⟨_, rfl, Below.refl _ _⟩
    · obtain ⟨e1, e2, hq1, hry⟩ := eqs_a D.out T.out (.inr hB)
      obtain ⟨e4, e5⟩ := eqs_b D.out T.out (by omega)
      by_cases hb : r + y1 < 4294967296
      · have N := Lib.hid (try_next D.out T.out (.inr hB) hb)
        have hb2 : ¬ 4294967296 ≤ r + y1 := by omega
        clear T
        go_wp2_with fail
        go_round
        case rel => exact ⟨_, _, rfl, rfl, N⟩
        case measure => simp [intOf]; omega
      · have e3 := try_break D.out T.out (.inr hB) hb
        have e1n := e1.trans e3
        clear e1
        have hb2 : 4294967296 ≤ r + y1 := by omega
        clear e3 hb T
        go_wp2_with fail
        go_loop [18, 16] (fun s1 s2 => ∃ q r : Int, s1 = .int .u64 q ∧ s2 = .int .u64 r ∧ Hid (Try1 (Rd u Y) Y y1 y0 q r)) (fun s1 _ => (intOf s1).toNat)
        case atStart => exact ⟨_, _, rfl, rfl, T2⟩
        case round =>
          obtain ⟨q, r, rfl, rfl, T⟩ := hrel
          have hq0 : 0 ≤ q := by have := (Qd_range D2.out).1; have := T.out.lo; omega
          have hr0 : 0 ≤ r := T.out.r0
          have hsp : (4294967296 ≤ q) ∨ (¬ 4294967296 ≤ q ∧ 4294967296 * r < q * y0) ∨ (¬ 4294967296 ≤ q ∧ ¬ 4294967296 * r < q * y0) := by
            by_cases h1 : 4294967296 ≤ q
            · exact .inl h1
            · by_cases h2 : 4294967296 * r < q * y0
              · exact .inr (.inl ⟨h1, h2⟩)
              · exact .inr (.inr ⟨h1, h2⟩)
          rcases hsp with hA | ⟨hA, hB⟩ | ⟨hA, hB⟩
          · obtain ⟨e1, e2, hq1, hry⟩ := eqs_a D2.out T.out (.inl hA)
            by_cases hb : r + y1 < 4294967296
            · have N := Lib.hid (try_next D2.out T.out (.inl hA) hb)
              have hb2 : ¬ 4294967296 ≤ r + y1 := by omega
              go_wp2_with fail
              go_round
              case rel => exact ⟨_, _, rfl, rfl, N⟩
              case measure => simp [intOf]; omega
            · have e3 := try_break D2.out T.out (.inl hA) hb
              have e1n := e1.trans e3
              clear e1
              have hb2 : 4294967296 ≤ r + y1 := by omega
              clear e3 hb T
              go_wp2_with fail
              go_ret2
              exact ⟨_, rfl, Below.refl _ _⟩
          · obtain ⟨e1, e2, hq1, hry⟩ := eqs_a D2.out T.out (.inr hB)
            obtain ⟨e4, e5⟩ := eqs_b D2.out T.out (by omega)
            by_cases hb : r + y1 < 4294967296
            · have N := Lib.hid (try_next D2.out T.out (.inr hB) hb)
              have hb2 : ¬ 4294967296 ≤ r + y1 := by omega
              clear T
              go_wp2_with fail
              go_round
              case rel => exact ⟨_, _, rfl, rfl, N⟩
              case measure => simp [intOf]; omega
            · have e3 := try_break D2.out T.out (.inr hB) hb
              have e1n := e1.trans e3
              clear e1
              have hb2 : 4294967296 ≤ r + y1 := by omega
              clear e3 hb T
              go_wp2_with fail
              go_ret2
              exact ⟨_, rfl, Below.refl _ _⟩
          · have hE := try_end D2.out T.out (fun h => by rcases h with h | h; exact hA h; exact hB h)
            obtain ⟨e4, e5⟩ := eqs_b D2.out T.out (by omega)
            clear T
            subst hE
            go_wp2_with fail
            go_ret2
            exact ⟨_, rfl, Below.refl _ _⟩
    · have hE := try_end D.out T.out (fun h => by rcases h with h | h; exact hA h; exact hB h)
      obtain ⟨e4, e5⟩ := eqs_b D.out T.out (by omega)
      clear T
      subst hE
      go_wp2_with fail
      go_loop [18, 16] (fun s1 s2 => ∃ q r : Int, s1 = .int .u64 q ∧ s2 = .int .u64 r ∧ Hid (Try1 (Rd u Y) Y y1 y0 q r)) (fun s1 _ => (intOf s1).toNat)
      case atStart => exact ⟨_, _, rfl, rfl, T2⟩
      case round =>
        obtain ⟨q, r, rfl, rfl, T⟩ := hrel
        have hq0 : 0 ≤ q := by have := (Qd_range D2.out).1; have := T.out.lo; omega
        have hr0 : 0 ≤ r := T.out.r0
        have hsp : (4294967296 ≤ q) ∨ (¬ 4294967296 ≤ q ∧ 4294967296 * r < q * y0) ∨ (¬ 4294967296 ≤ q ∧ ¬ 4294967296 * r < q * y0) := by
          by_cases h1 : 4294967296 ≤ q
          · exact .inl h1
          · by_cases h2 : 4294967296 * r < q * y0
            · exact .inr (.inl ⟨h1, h2⟩)
            · exact .inr (.inr ⟨h1, h2⟩)
        rcases hsp with hA | ⟨hA, hB⟩ | ⟨hA, hB⟩
        · obtain ⟨e1, e2, hq1, hry⟩ := eqs_a D2.out T.out (.inl hA)
          by_cases hb : r + y1 < 4294967296
          · have N := Lib.hid (try_next D2.out T.out (.inl hA) hb)
            have hb2 : ¬ 4294967296 ≤ r + y1 := by omega
            go_wp2_with fail
            go_round
            case rel => exact ⟨_, _, rfl, rfl, N⟩
            case measure => simp [intOf]; omega
          · have e3 := try_break D2.out T.out (.inl hA) hb
            have e1n := e1.trans e3
            clear e1
            have hb2 : 4294967296 ≤ r + y1 := by omega
            clear e3 hb T
            go_wp2_with fail
            go_ret2
            exact ⟨_, rfl, Below.refl _ _⟩
        · obtain ⟨e1, e2, hq1, hry⟩ := eqs_a D2.out T.out (.inr hB)
          obtain ⟨e4, e5⟩ := eqs_b D2.out T.out (by omega)
          by_cases hb : r + y1 < 4294967296
          · have N := Lib.hid (try_next D2.out T.out (.inr hB) hb)
            have hb2 : ¬ 4294967296 ≤ r + y1 := by omega
            clear T
            go_wp2_with fail
            go_round
            case rel => exact ⟨_, _, rfl, rfl, N⟩
            case measure => simp [intOf]; omega
          · have e3 := try_break D2.out T.out (.inr hB) hb
            have e1n := e1.trans e3
            clear e1
            have hb2 : 4294967296 ≤ r + y1 := by omega
            clear e3 hb T
            go_wp2_with fail
            go_ret2
            exact ⟨_, rfl, Below.refl _ _⟩
        · have hE := try_end D2.out T.out (fun h => by rcases h with h | h; exact hA h; exact hB h)
          obtain ⟨e4, e5⟩ := eqs_b D2.out T.out (by omega)
          clear T
          subst hE
          go_wp2_with fail
          go_ret2
          exact ⟨_, rfl, Below.refl _ _⟩
end Go.Proofs.Ytlbpdlhelkokbaa
