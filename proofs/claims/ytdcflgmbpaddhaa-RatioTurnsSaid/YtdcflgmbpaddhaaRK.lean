/- The walks of four laws of this layer: products, scales, what is left of a scale. -/
import Derived.Test.YtdcflgmbpaddhaaRJ
namespace Go.Proofs.Ytdcflgmbpaddhaa
open Go.RowKit

theorem ref_max {a a0 : Int} (ha : I64 a) (ea : max a 0 = a0) : (0 ≤ a → IntKind.u64.wrap a = a0) ∧ (a < 0 → IntKind.u64.wrap 0 = a0) :=
  ⟨fun h => by rw [word_pos ha h]; omega, fun h => by rw [wrap_zero]; omega⟩

theorem refTimes_any {x y a b n : Int} (e1 : x = a) (e2 : y = b) (e : a * b = n) (ha : U64 a) (hb : U64 b) (w : World) :
    Calls Try.prog 12 #[.int .u64 x, .int .u64 y] w fun e w' => e = .returned (.agg #[.int .u64 (hi n), .int .u64 (lo n)]) ∧ Below w.heap.size w w' := by
  subst e1 e2 e; exact refTimes_ok x y ha hb w

theorem products_any (a b a0 b0 n : Int) (ha : I64 a) (hb : I64 b) (ea : Hid (max a 0 = a0)) (eb : Hid (max b 0 = b0)) (en : Hid (a0 * b0 = n)) (w : World) :
    Calls Try.prog 3 #[.int .i64 a, .int .i64 b] w fun e w' => e = .returned (.bool true) ∧ Below w.heap.size w w' := by
  have Ha := Lib.hid ha
  have Hb := Lib.hid hb
  have Ua : Hid (U64 a0) := by rw [← ea.out]; exact u64_max ha
  have Ub : Hid (U64 b0) := by rw [← eb.out]; exact u64_max hb
  have Ra := Lib.hid (ref_max ha ea.out)
  have Rb := Lib.hid (ref_max hb eb.out)
  clear ha hb
  have q1 : (hi n == hi n) = true := beq_self_eq_true _
  have q2 : (lo n == lo n) = true := beq_self_eq_true _
  go_enter Try.func3, Try.ntmps3
  go_wp2_with fail
  refine (product_any a b a0 b0 Ha.out Hb.out ea eb _).mono ?_
  rw [en.out]
  rintro e w1 ⟨rfl, hb⟩
  have K1 := Lib.hid hb
  clear hb
  go_wp2_with fail
  all_goals
    refine (refTimes_any (by first | exact Ra.out.1 (by assumption) | exact Ra.out.2 (by assumption)) (by first | exact Rb.out.1 (by assumption) | exact Rb.out.2 (by assumption)) en.out Ua.out Ub.out _).mono ?_
    rintro e w2 ⟨rfl, hb⟩
    have K2 := Lib.hid (below_after K1.out hb)
    clear hb
    go_wp2_with fail
    refine (awake_ok _).mono ?_
    rintro e w3 ⟨rfl, hb⟩
    have K3 := Lib.hid (below_after (below_al K2.out _) hb)
    clear hb
    go_wp2
    go_ret
    exact ⟨rfl, K3.out⟩

theorem scales_any (x n d : Int) (v : Int) (ok : Bool)
    (h1 : ∀ w, Calls Try.prog 14 #[.int .i64 x, .int .i64 n, .int .i64 d] w fun e w' => e = .returned (.tuple #[.int .i64 v, .bool ok]) ∧ Below w.heap.size w w')
    (h2 : ∀ w, Calls Try.prog 15 #[.int .i64 x, .int .i64 n, .int .i64 d] w fun e w' => e = .returned (.tuple #[.int .i64 v, .bool ok]) ∧ Below w.heap.size w w') (w : World) :
    Calls Try.prog 4 #[.int .i64 x, .int .i64 n, .int .i64 d] w fun e w' => e = .returned (.bool true) ∧ Below w.heap.size w w' := by
  have H1 := Lib.hid h1
  have H2 := Lib.hid h2
  clear h1 h2
  have q1 : (v == v) = true := beq_self_eq_true _
  have q2 : (ok == ok) = true := beq_self_eq_true _
  go_enter Try.func4, Try.ntmps4
  go_wp2_with fail
  refine (H1.out _).mono ?_
  rintro e w1 ⟨rfl, hb⟩
  have K1 := Lib.hid hb
  clear hb
  go_wp2_with fail
  refine (H2.out _).mono ?_
  rintro e w2 ⟨rfl, hb⟩
  have K2 := Lib.hid (below_after K1.out hb)
  clear hb
  go_wp2_with fail
  refine (awake_ok _).mono ?_
  rintro e w3 ⟨rfl, hb⟩
  have K3 := Lib.hid (below_after K2.out hb)
  clear hb
  go_wp2
  go_ret
  exact ⟨rfl, K3.out⟩

theorem scales_law (x n d : Int) (hx : I64 x) (hn : I64 n) (hd : I64 d) (w : World) :
    Calls Try.prog 4 #[.int .i64 x, .int .i64 n, .int .i64 d] w fun e w' => e = .returned (.bool true) ∧ Below w.heap.size w w' := by
  by_cases h : 0 ≤ x ∧ 0 ≤ n ∧ 1 ≤ d
  · obtain ⟨h0, h1, h2⟩ := h
    by_cases h3 : x * n / d ≤ 9223372036854775807
    · exact scales_any x n d _ _ (scale_yes x n d hx hn hd h0 h1 h2 h3) (refScale_yes x n d hx hn hd h0 h1 h2 h3) w
    · exact scales_any x n d _ _ (scale_big x n d hx hn hd h0 h1 h2 (by omega)) (refScale_big x n d hx hn hd h0 h1 h2 (by omega)) w
  · exact scales_any x n d _ _ (scale_no x n d h) (refScale_no x n d h) w

theorem i64_wf {n : Int} (h : (Lit.int .i64 n).wf = true) : I64 n := by
  simp [Lit.wf, IntKind.min, IntKind.max, IntKind.signed, IntKind.bits] at h
  unfold I64
  omega
theorem products_law (a b : Int) (ha : (Lit.int .i64 a).wf = true) (hb : (Lit.int .i64 b).wf = true) (w : World) :
    Calls Try.prog 3 #[.int .i64 a, .int .i64 b] w fun e w' => e = .returned (.bool true) ∧ Below w.heap.size w w' :=
  products_any a b _ _ _ (i64_wf ha) (i64_wf hb) rfl rfl rfl w
theorem scales_wf (x n d : Int) (hx : (Lit.int .i64 x).wf = true) (hn : (Lit.int .i64 n).wf = true) (hd : (Lit.int .i64 d).wf = true) (w : World) :
    Calls Try.prog 4 #[.int .i64 x, .int .i64 n, .int .i64 d] w fun e w' => e = .returned (.bool true) ∧ Below w.heap.size w w' :=
  scales_law x n d (i64_wf hx) (i64_wf hn) (i64_wf hd) w
end Go.Proofs.Ytdcflgmbpaddhaa
