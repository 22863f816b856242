/- A row of fractions, opened. -/
import Derived.Test.YtdcflgmbpaddhaaRY
import Derived.Deep.Slices
import Derived.WideShapes
import Derived.ChangeSame
import Derived.ChangeArms
import Derived.WalkKit
import Derived.ProofKit
import Derived.OpenShut
import Derived.ShutString
import Derived.ChangeOld
import Derived.Below
import Derived.SizedLaws
import Derived.Carry
import Derived.Lib.SmallJoins
namespace Go.Proofs.Ytdcflgmbpaddhaa
open Go.ChangeShapes Go.WideShapes Go.ChangeAt Go.RowKit

theorem spot_none {w : World} {a : Addr} {v : Value} (h : w.cell? a = some v) : a = ⟨a.block, a.off, none⟩ := by
  obtain ⟨b, o, s⟩ := a
  cases s with
  | none => rfl
  | some k =>
    unfold World.cell? at h
    simp only at h
    split at h
    · simp at h
    · cases h
theorem open_ratios {H : Type} {enc : TypeId × Value → H} {W : World} {base b0 : Nat} {spare : Nat → Bool} {held : Bool} {r : Reach} {v : Value} {d : DataW H} {p : List MemPlace}
    (hv : Value.okWide Try.prog W r b0 35 v) (h : DataW.Trod enc Try.prog W base spare held 35 v d p) :
    ∃ a n cap, v = .slice a n cap ∧ ∃ xs : List (Int × Int), xs.length = n ∧ RatRowA W a xs ∧ ∀ x ∈ xs, I64 x.1 ∧ I64 x.2 := by
  obtain ⟨a, n, cap, rfl⟩ := okWide_slice Try.underlying35 hv
  refine ⟨a, n, cap, rfl, ?_⟩
  obtain ⟨fuel, hf⟩ := h
  rcases Go.Deep.open_slice Try.underlying35 hf with ⟨hc, _⟩ | ⟨a', len', cap', m, k, D, Pl, hc, _, hl, _, hm, _, hel⟩
  · simp [Value.cells] at hc
    obtain ⟨rfl, rfl, rfl⟩ := hc
    exact ⟨[], rfl, .inl rfl, fun x hx => by cases hx⟩
  · simp [Value.cells] at hc
    obtain ⟨rfl, rfl, rfl⟩ := hc
    have hnm : n ≤ m := by rw [hm]; split <;> omega
    have hX : ∀ i, i < n → ∃ x : Int × Int, (W.cell? (a'.add (i * 2)) = some (.int .i64 x.1) ∧ W.cell? ((a'.add (i * 2)).add 1) = some (.int .i64 x.2)) ∧ I64 x.1 ∧ I64 x.2 := by
      intro i hi
      obtain ⟨cs', h1, h2⟩ := hel i (by omega)
      rw [show Try.prog.cellsOf 37 = 2 by kernel_rfl] at h1
      obtain ⟨_, hlen, hcell⟩ := World.cells?_some h1
      match cs', hlen with
      | [c0, c1], _ =>
        obtain ⟨y0, y1, k', _, _, g0, g1⟩ := trod_struct2 Try.underlying37 h2
        obtain ⟨u0, e0, _, z0⟩ := DataW.trod_int Try.underlying2 g0
        obtain ⟨u1, e1, _, z1⟩ := DataW.trod_int Try.underlying2 g1
        rw [show Try.prog.cellsOf 2 = 1 by kernel_rfl] at e0 e1
        simp at e0 e1
        have q0 := hcell 0 (by omega)
        have q1 := hcell 1 (by omega)
        simp at q0 q1
        refine ⟨(u0, u1), ⟨?_, ?_⟩, i64_wf z0, i64_wf z1⟩
        · rw [← e0]; simpa [Addr.add] using q0
        · rw [← e1]; exact q1
    obtain ⟨V, hV⟩ := Go.Deep.choose_lt hX
    refine ⟨(List.range n).map V, by simp, ?_, ?_⟩
    · by_cases h0 : n = 0
      · subst h0; exact .inl rfl
      · right
        have s0 := spot_none (a := a') (by simpa [Addr.add] using (hV 0 (by omega)).1.1)
        refine ⟨a'.block, a'.off, congrArg some s0, fun j hj => ?_⟩
        simp only [List.length_map, List.length_range] at hj
        have e : ((List.range n).map V).getD j (0, 1) = V j := by
          rw [List.getD_eq_getElem?_getD, List.getElem?_map, List.getElem?_range hj]; rfl
        rw [e]
        obtain ⟨⟨t0, t1⟩, _⟩ := hV j hj
        generalize a'.block = bb at *
        generalize a'.off = oo at *
        subst s0
        have ad : ∀ n, (Addr.mk bb oo none).add n = ⟨bb, oo + n, none⟩ := fun n => by unfold Addr.add; split <;> simp_all
        have ad2 : ∀ n, (Addr.mk bb (oo + n) none).add 1 = ⟨bb, oo + n + 1, none⟩ := fun n => by unfold Addr.add; simp
        rw [ad] at t0 t1
        rw [ad2] at t1
        exact ⟨t0, t1⟩
    · intro x hx
      obtain ⟨j, hj, rfl⟩ := List.mem_map.1 hx
      exact (hV j (List.mem_range.1 hj)).2
end Go.Proofs.Ytdcflgmbpaddhaa
