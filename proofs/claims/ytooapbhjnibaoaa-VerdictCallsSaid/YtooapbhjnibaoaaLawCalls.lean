/- VerdictCalls: for every input the law returns true, and each argument reads behind the call as it read before. No conditions. -/
import Derived.Test.YtooapbhjnibaoaaRows
import Derived.Test.YtooapbhjnibaoaaVS
import Derived.WalkKit
import Derived.ProofKit
import Derived.OpenShut
import Derived.ShutString
import Derived.ChangeOld
import Derived.Below
import Derived.SizedLaws
import Derived.Carry
import Derived.Lib.SmallJoins
namespace Go.Proofs.Ytooapbhjnibaoaa.verdictCalls
open Go.ChangeShapes Go.WideShapes Go.ChangeAt Go.RowKit Go.Joins
open Go.ChangeMaps (open_string shut_string)
set_option linter.unusedVariables false
theorem own : ownKnob Try.prog.godebug = none := by kernel_rfl
theorem laidOut : laidOutB Try.prog = true := by kernel_rfl
theorem cells_row : Try.prog.cellsOf 36 = 4 := by kernel_rfl
theorem cells_ratio : Try.prog.cellsOf 29 = 2 := by kernel_rfl
set_option maxRecDepth 100000 in
theorem lifted (os : Os) (started : os.Started) (H : Type) (enc : TypeId × Value → H) :
    ReturnsInHanded {} Try.checked os 7 .any (Rows.verdictCallsSpec.pre6 enc Try.prog Try.f7 Rows.verdictCallsRow.domain false) (Rows.verdictCallsSpec.post enc Try.prog Try.f7 false true false false) := by
  refine returnsInHanded_of_change_sized (C := Try.checked) own started (by kernel_rfl) Try.func7
    (ChangeSpec.witness6 (enc := enc) (C := Try.checked) false ⟨#[], #[.agg #[.string ByteArray.empty, .int .i64 0, .int .i64 0, .int .i64 0], .agg #[.string ByteArray.empty, .int .i64 0, .int .i64 0, .int .i64 0], .agg #[.int .i64 0, .int .i64 0]], []⟩ 8 (by kernel_rfl) (by kernel_rfl) (by kernel_rfl) (by kernel_rfl)) ?_
  intro W base args ds gs before hval0 hW hcnd hsz0 _
  have hsz : (DataW.weightsEach Try.prog (Try.f7.params.toList ++ Rows.verdictCallsSpec.plain.varTypes Try.prog) (ds ++ gs)).all (· ≤ reachBytes) = true := hsz0
  have hval : ∀ (j : Nat) t v, Try.f7.params[j]? = some t → args[j]? = some v → Value.okWide Try.prog W .any base t v := hval0
  have hW' := hW
  obtain ⟨p, q, hA0, hV, rfl, hfz, hnd⟩ := hW
  have hA : DataW.TrodAll enc Try.prog W 0 (fun _ => true) true Try.f7.params.toList args.toList ds p := hA0
  rw [Try.params7] at hA hval hsz
  obtain ⟨v0, vs0, d0, ds0, p0, q0, hargs, rfl, rfl, h0, r0⟩ := trodAll_cons hA
  obtain ⟨v1, vs1, d1, ds1, p1, q1, rfl, rfl, rfl, h1, r1⟩ := trodAll_cons r0
  obtain ⟨v2, vs2, d2, ds2, p2, q2, rfl, rfl, rfl, h2, r2⟩ := trodAll_cons r1
  obtain ⟨rfl, rfl, rfl⟩ := trodAll_nil r2
  obtain rfl : args = #[v0, v1, v2] := by cases args; simp_all
  obtain ⟨rfl, rfl⟩ := trodVars_none hV
  have k0 := h0
  have lt0 : ∀ x ∈ p0, x.block < W.heap.size := by obtain ⟨m, hm⟩ := k0; exact DataW.trod_lt m _ _ _ hm
  obtain ⟨c0, e0, cc0, ce0, y0, z0, yy0, zz0, m0, rfl, rfl, _, g0, f0, gg0, ff0⟩ := open_agg4 Try.underlying36 (by kernel_rfl) cells_row (hval 0 36 v0 rfl rfl) h0
  obtain ⟨sa0, s0, _, _⟩ := DataW.trod_string Try.underlying9 g0
  obtain ⟨pa0, sp0, _, _⟩ := DataW.trod_int Try.underlying3 f0
  obtain ⟨ba0, sb0, _, _⟩ := DataW.trod_int Try.underlying3 gg0
  obtain ⟨wa0, sw0, _, _⟩ := DataW.trod_int Try.underlying2 ff0
  simp only [List.cons.injEq, and_true] at s0 sp0 sb0 sw0
  subst s0 sp0 sb0 sw0
  have k1 := h1
  have lt1 : ∀ x ∈ p1, x.block < W.heap.size := by obtain ⟨m, hm⟩ := k1; exact DataW.trod_lt m _ _ _ hm
  obtain ⟨c1, e1, cc1, ce1, y1, z1, yy1, zz1, m1, rfl, rfl, _, g1, f1, gg1, ff1⟩ := open_agg4 Try.underlying36 (by kernel_rfl) cells_row (hval 1 36 v1 rfl rfl) h1
  obtain ⟨sa1, s1, _, _⟩ := DataW.trod_string Try.underlying9 g1
  obtain ⟨pa1, sp1, _, _⟩ := DataW.trod_int Try.underlying3 f1
  obtain ⟨ba1, sb1, _, _⟩ := DataW.trod_int Try.underlying3 gg1
  obtain ⟨wa1, sw1, _, _⟩ := DataW.trod_int Try.underlying2 ff1
  simp only [List.cons.injEq, and_true] at s1 sp1 sb1 sw1
  subst s1 sp1 sb1 sw1
  have k2 := h2
  have lt2 : ∀ x ∈ p2, x.block < W.heap.size := by obtain ⟨m, hm⟩ := k2; exact DataW.trod_lt m _ _ _ hm
  obtain ⟨c2, e2, y2, z2, m2, rfl, rfl, _, g2, f2⟩ := open_agg2 Try.underlying29 (by kernel_rfl) cells_ratio (hval 2 29 v2 rfl rfl) h2
  obtain ⟨a2, s2, _, w2⟩ := DataW.trod_int Try.underlying2 g2
  obtain ⟨b2, u2, _, x2⟩ := DataW.trod_int Try.underlying2 f2
  simp only [List.cons.injEq, and_true] at s2 u2
  subst s2 u2
  clear hA0 hval0 hsz0
  refine (calls_law sa0 pa0 ba0 wa0 sa1 pa1 ba1 wa1 a2 b2   w2 x2 W).mono fun e W' ⟨he, bel⟩ => ?_
  subst he
  exact ⟨_, rfl, _, _, _, [], _, [], hW', trodAll_mk1 (shut_bool Try.underlying4 _), (trodAll_cons_mk (Below.trod laidOut (by kernel_rfl) (of_decide_eq_true (by kernel_rfl)) k0 bel lt0) (trodAll_cons_mk (Below.trod laidOut (by kernel_rfl) (of_decide_eq_true (by kernel_rfl)) k1 bel lt1) (trodAll_cons_mk (Below.trod laidOut (by kernel_rfl) (of_decide_eq_true (by kernel_rfl)) k2 bel lt2) trodAll_mk0))), rfl, bel.frame _, fun h => by cases h⟩
theorem over : Rows.verdictCallsRow.holds Try.pinned (OpenSpec.ofChange Rows.verdictCallsSpec) :=
  OpenClaim.holds_of_wide 7 Try.f7 rfl rfl rfl rfl rfl rfl rfl ⟨rfl, rfl, rfl, rfl, rfl⟩ rfl rfl rfl rfl rfl (by kernel_rfl) Try.func7 (by kernel_rfl)
    (of_decide_eq_true (by kernel_rfl)) (by unfold Func.isWrapper; first | (rw [if_pos (by decide +kernel)]; kernel_rfl) | (rw [if_neg (by decide +kernel)]; exact ⟨rfl, rfl⟩))
    (fun os started H enc _ => lifted os started H enc)
theorem proved : Rows.VerdictCallsSaid := over
#print axioms proved
end Go.Proofs.Ytooapbhjnibaoaa.verdictCalls
