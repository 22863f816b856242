/- The walks of both products and of both scales. -/
import Derived.Test.YtdcflgmbpaddhaaRE
namespace Go.Proofs.Ytdcflgmbpaddhaa
open Go.RowKit

theorem product_any (a b a0 b0 : Int) (ha : I64 a) (hb : I64 b) (ea : Hid (max a 0 = a0)) (eb : Hid (max b 0 = b0)) (w : World) :
    Calls Try.prog 11 #[.int .i64 a, .int .i64 b] w fun e w' => e = .returned (.tuple #[.int .u64 (hi (a0 * b0)), .int .u64 (lo (a0 * b0))]) ∧ Below w.heap.size w w' := by
  have Ha := Lib.hid ha
  have Hb := Lib.hid hb
  clear ha hb
  have Ua : Hid (U64 a0) := by rw [← ea.out]; exact u64_max Ha.out
  have Ub : Hid (U64 b0) := by rw [← eb.out]; exact u64_max Hb.out
  go_enter Try.func11, Try.ntmps11
  go_wp2_with fail
  refine (word_ok _ Ha.out _).mono ?_
  rintro e w' ⟨rfl, rfl⟩
  rw [ea.out]
  go_wp2_with fail
  refine (word_ok _ Hb.out _).mono ?_
  rintro e w' ⟨rfl, rfl⟩
  rw [eb.out]
  go_wp2_with fail
  refine (times_ok _ _ Ua.out Ub.out _).mono ?_
  rintro e w1 ⟨rfl, hb⟩
  have Kb := Lib.hid hb
  clear hb
  go_wp2
  go_quiet (fail)
  go_wp2
  go_ret2
  exact ⟨rfl, below_drN (below_al Kb.out _) _⟩

theorem product_ok (a b : Int) (ha : I64 a) (hb : I64 b) (w : World) :
    Calls Try.prog 11 #[.int .i64 a, .int .i64 b] w fun e w' => e = .returned (.tuple #[.int .u64 (hi (max a 0 * max b 0)), .int .u64 (lo (max a 0 * max b 0))]) ∧ Below w.heap.size w w' :=
  product_any a b _ _ ha hb rfl rfl w

/-- what both scales do where they answer -/
theorem scale_u128 {x n : Int} (hx : I64 x) (hn : I64 n) (h0 : 0 ≤ x) (h1 : 0 ≤ n) : U128 (x * n) := u128_mul (u64_of hx h0) (u64_of hn h1)
theorem div_nonneg' {x n d : Int} (h0 : 0 ≤ x) (h1 : 0 ≤ n) (h2 : 1 ≤ d) : 0 ≤ x * n / d := Int.ediv_nonneg (Int.mul_nonneg h0 h1) (by omega)

theorem scale_yes (x n d : Int) (hx : I64 x) (hn : I64 n) (hd : I64 d) (h0 : 0 ≤ x) (h1 : 0 ≤ n) (h2 : 1 ≤ d) (h3 : x * n / d ≤ 9223372036854775807) (w : World) :
    Calls Try.prog 14 #[.int .i64 x, .int .i64 n, .int .i64 d] w fun e w' => e = .returned (.tuple #[.int .i64 (x * n / d), .bool true]) ∧ Below w.heap.size w w' := by
  have Hx := Lib.hid hx
  have Hn := Lib.hid hn
  have Hd := Lib.hid hd
  have H3 := Lib.hid h3
  have HV := Lib.hid (scale_u128 hx hn h0 h1)
  have HW := Lib.hid (div_nonneg' h0 h1 h2)
  clear hx hn hd h3
  go_enter Try.func14, Try.ntmps14
  go_wp2_with fail
  refine (word_ok _ Hx.out _).mono ?_
  rintro e w' ⟨rfl, rfl⟩
  rw [max_of h0]
  go_wp2_with fail
  refine (word_ok _ Hn.out _).mono ?_
  rintro e w' ⟨rfl, rfl⟩
  rw [max_of h1]
  go_wp2_with fail
  refine (times_ok _ _ (u64_of Hx.out h0) (u64_of Hn.out h1) _).mono ?_
  rintro e w1 ⟨rfl, hb⟩
  have K1 := Lib.hid hb
  clear hb
  go_wp2_with fail
  refine (word_ok _ Hd.out _).mono ?_
  rintro e w' ⟨rfl, rfl⟩
  rw [max_of (show 0 ≤ d by omega)]
  go_wp2_with fail
  refine (over_ok _ _ HV.out ⟨h2, Hd.out.2⟩ _).mono ?_
  rintro e w2 ⟨rfl, hb⟩
  have K2 := Lib.hid hb
  clear hb
  go_wp2_with fail
  refine (small_yes _ HW.out H3.out _).mono ?_
  rintro e w3 ⟨rfl, hb⟩
  have K3 := Lib.hid hb
  clear hb
  go_wp2
  go_ret2
  exact ⟨rfl, below_after (below_al (below_after (below_after (Below.refl _ _) K1.out) K2.out) _) K3.out⟩

theorem scale_big (x n d : Int) (hx : I64 x) (hn : I64 n) (hd : I64 d) (h0 : 0 ≤ x) (h1 : 0 ≤ n) (h2 : 1 ≤ d) (h3 : 9223372036854775807 < x * n / d) (w : World) :
    Calls Try.prog 14 #[.int .i64 x, .int .i64 n, .int .i64 d] w fun e w' => e = .returned (.tuple #[.int .i64 0, .bool false]) ∧ Below w.heap.size w w' := by
  have Hx := Lib.hid hx
  have Hn := Lib.hid hn
  have Hd := Lib.hid hd
  have H3 := Lib.hid h3
  have HV := Lib.hid (scale_u128 hx hn h0 h1)
  clear hx hn hd h3
  go_enter Try.func14, Try.ntmps14
  go_wp2_with fail
  refine (word_ok _ Hx.out _).mono ?_
  rintro e w' ⟨rfl, rfl⟩
  rw [max_of h0]
  go_wp2_with fail
  refine (word_ok _ Hn.out _).mono ?_
  rintro e w' ⟨rfl, rfl⟩
  rw [max_of h1]
  go_wp2_with fail
  refine (times_ok _ _ (u64_of Hx.out h0) (u64_of Hn.out h1) _).mono ?_
  rintro e w1 ⟨rfl, hb⟩
  have K1 := Lib.hid hb
  clear hb
  go_wp2_with fail
  refine (word_ok _ Hd.out _).mono ?_
  rintro e w' ⟨rfl, rfl⟩
  rw [max_of (show 0 ≤ d by omega)]
  go_wp2_with fail
  refine (over_ok _ _ HV.out ⟨h2, Hd.out.2⟩ _).mono ?_
  rintro e w2 ⟨rfl, hb⟩
  have K2 := Lib.hid hb
  clear hb
  go_wp2_with fail
  refine (small_no _ H3.out _).mono ?_
  rintro e w3 ⟨rfl, hb⟩
  have K3 := Lib.hid hb
  clear hb
  go_wp2
  go_ret2
  exact ⟨rfl, below_after (below_al (below_after (below_after (Below.refl _ _) K1.out) K2.out) _) K3.out⟩

theorem scale_no (x n d : Int) (h : ¬ (0 ≤ x ∧ 0 ≤ n ∧ 1 ≤ d)) (w : World) :
    Calls Try.prog 14 #[.int .i64 x, .int .i64 n, .int .i64 d] w fun e w' => e = .returned (.tuple #[.int .i64 0, .bool false]) ∧ Below w.heap.size w w' := by
  by_cases h0 : x < 0
  · clear h
    go_enter Try.func14, Try.ntmps14
    go_wp2_with fail
    go_ret2
    exact ⟨rfl, Below.refl _ _⟩
  · by_cases h1 : n < 0
    · clear h
      go_enter Try.func14, Try.ntmps14
      go_wp2_with fail
      go_ret2
      exact ⟨rfl, Below.refl _ _⟩
    · have h2 : d < 1 := by omega
      clear h
      go_enter Try.func14, Try.ntmps14
      go_wp2_with fail
      go_ret2
      exact ⟨rfl, Below.refl _ _⟩

theorem refScale_no (x n d : Int) (h : ¬ (0 ≤ x ∧ 0 ≤ n ∧ 1 ≤ d)) (w : World) :
    Calls Try.prog 15 #[.int .i64 x, .int .i64 n, .int .i64 d] w fun e w' => e = .returned (.tuple #[.int .i64 0, .bool false]) ∧ Below w.heap.size w w' := by
  by_cases h0 : x < 0
  · clear h
    go_enter Try.func15, Try.ntmps15
    go_wp2_with fail
    go_ret2
    exact ⟨rfl, Below.refl _ _⟩
  · by_cases h1 : n < 0
    · clear h
      go_enter Try.func15, Try.ntmps15
      go_wp2_with fail
      go_ret2
      exact ⟨rfl, Below.refl _ _⟩
    · have h2 : d < 1 := by omega
      clear h
      go_enter Try.func15, Try.ntmps15
      go_wp2_with fail
      go_ret2
      exact ⟨rfl, Below.refl _ _⟩

theorem divide_small (x d : Int) (hx : U128 x) (hd : 1 ≤ d ∧ d ≤ 9223372036854775807) (w : World) :
    Calls Try.prog 29 #[.agg #[.int .u64 (hi x), .int .u64 (lo x)], .agg #[.int .u64 0, .int .u64 d]] w fun e w' =>
      e = .returned (.tuple #[.agg #[.int .u64 (hi (x / d)), .int .u64 (lo (x / d))], .agg #[.int .u64 (hi (x % d)), .int .u64 (lo (x % d))]]) ∧ Below w.heap.size w w' := by
  have h1 : hi d = 0 := by unfold hi; omega
  have h2 : lo d = d := by unfold lo; omega
  have := divide_ok x d hx (by omega) w
  rw [h1, h2] at this
  exact this

theorem refScale_yes (x n d : Int) (hx : I64 x) (hn : I64 n) (hd : I64 d) (h0 : 0 ≤ x) (h1 : 0 ≤ n) (h2 : 1 ≤ d) (h3 : x * n / d ≤ 9223372036854775807) (w : World) :
    Calls Try.prog 15 #[.int .i64 x, .int .i64 n, .int .i64 d] w fun e w' => e = .returned (.tuple #[.int .i64 (x * n / d), .bool true]) ∧ Below w.heap.size w w' := by
  have Hx := Lib.hid hx
  have Hn := Lib.hid hn
  have Hd := Lib.hid hd
  have H3 := Lib.hid h3
  have HV := Lib.hid (scale_u128 hx hn h0 h1)
  have HW := Lib.hid (div_nonneg' h0 h1 h2)
  have s1 : ¬ 0 < hi (x * n / d) := fun e => by have := (small_parts HW.out).1 (.inl e); have := H3.out; omega
  have s2 : ¬ 9223372036854775807 < lo (x * n / d) := fun e => by have := (small_parts HW.out).1 (.inr e); have := H3.out; omega
  have e : wrap64 (lo (x * n / d)) = x * n / d := by rw [lo_small HW.out h3]; have := HW.out; unfold wrap64; omega
  have E := Lib.hid e
  clear hx hn hd h3 e
  go_enter Try.func15, Try.ntmps15
  go_wp2_with fail
  rw [word_pos Hx.out h0, word_pos Hn.out h1]
  refine (refTimes_ok _ _ (u64_of Hx.out h0) (u64_of Hn.out h1) _).mono ?_
  rintro e w1 ⟨rfl, hb⟩
  have K1 := Lib.hid hb
  clear hb
  go_wp2_with fail
  rw [word_pos Hd.out (show 0 ≤ d by omega)]
  refine (divide_small _ _ HV.out ⟨h2, Hd.out.2⟩ _).mono ?_
  rintro e w2 ⟨rfl, hb⟩
  have K2 := Lib.hid hb
  clear hb
  go_wp2
  rw [E.out]
  go_ret2
  exact ⟨rfl, below_al (below_al (below_after (below_after (Below.refl _ _) K1.out) K2.out) _) _⟩

theorem refScale_big (x n d : Int) (hx : I64 x) (hn : I64 n) (hd : I64 d) (h0 : 0 ≤ x) (h1 : 0 ≤ n) (h2 : 1 ≤ d) (h3 : 9223372036854775807 < x * n / d) (w : World) :
    Calls Try.prog 15 #[.int .i64 x, .int .i64 n, .int .i64 d] w fun e w' => e = .returned (.tuple #[.int .i64 0, .bool false]) ∧ Below w.heap.size w w' := by
  have Hx := Lib.hid hx
  have Hn := Lib.hid hn
  have Hd := Lib.hid hd
  have HV := Lib.hid (scale_u128 hx hn h0 h1)
  have HS := Lib.hid ((small_parts (div_nonneg' h0 h1 h2)).2 h3)
  clear hx hn hd h3
  go_enter Try.func15, Try.ntmps15
  go_wp2_with fail
  rw [word_pos Hx.out h0, word_pos Hn.out h1]
  refine (refTimes_ok _ _ (u64_of Hx.out h0) (u64_of Hn.out h1) _).mono ?_
  rintro e w1 ⟨rfl, hb⟩
  have K1 := Lib.hid hb
  clear hb
  go_wp2_with fail
  rw [word_pos Hd.out (show 0 ≤ d by omega)]
  refine (divide_small _ _ HV.out ⟨h2, Hd.out.2⟩ _).mono ?_
  rintro e w2 ⟨rfl, hb⟩
  have K2 := Lib.hid hb
  clear hb
  by_cases s1 : 0 < hi (x * n / d)
  · clear HS
    go_wp2
    go_ret2
    exact ⟨rfl, below_al (below_al (below_after (below_after (Below.refl _ _) K1.out) K2.out) _) _⟩
  · have s2 : 9223372036854775807 < lo (x * n / d) := HS.out.resolve_left s1
    clear HS
    go_wp2
    go_ret2
    exact ⟨rfl, below_al (below_al (below_after (below_after (Below.refl _ _) K1.out) K2.out) _) _⟩
end Go.Proofs.Ytdcflgmbpaddhaa
