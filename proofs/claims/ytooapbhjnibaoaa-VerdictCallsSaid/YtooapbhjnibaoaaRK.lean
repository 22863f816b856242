/- The walks of four laws of this layer: products, scales, what is left of a scale. -/
import Derived.Test.YtooapbhjnibaoaaRC
namespace Go.Proofs.Ytooapbhjnibaoaa
open Go.RowKit

theorem ref_max {a a0 : Int} (ha : I64 a) (ea : max a 0 = a0) : (0 ≤ a → IntKind.u64.wrap a = a0) ∧ (a < 0 → IntKind.u64.wrap 0 = a0) :=
  ⟨fun h => by rw [word_pos ha h]; omega, fun h => by rw [wrap_zero]; omega⟩

theorem refTimes_any {x y a b n : Int} (e1 : x = a) (e2 : y = b) (e : a * b = n) (ha : U64 a) (hb : U64 b) (w : World) :
    Calls Try.prog 39 #[.int .u64 x, .int .u64 y] w fun e w' => e = .returned (.agg #[.int .u64 (hi n), .int .u64 (lo n)]) ∧ Below w.heap.size w w' := by
  subst e1 e2 e; exact refTimes_ok x y ha hb w

theorem i64_wf {n : Int} (h : (Lit.int .i64 n).wf = true) : I64 n := by
  simp [Lit.wf, IntKind.min, IntKind.max, IntKind.signed, IntKind.bits] at h
  unfold I64
  omega
end Go.Proofs.Ytooapbhjnibaoaa
