/-
  No cell of these rows narrows 'for every input' (looked for: loops, veiled, ifaces, maps, wideKeys, modest, calm, conditions, laid).
  DERIVED. THE GIVEN ROWS OF THIS SEAT. 7 by the template 'for every input the law returns true; each argument reads behind the call as it read before'; 0 by the template 'total and deterministic' (their statements: YtlbpdlhelkokbaaTotals.lean).
  GIVEN WITH THE SEED: the statements are not yours to turn. If you find one false, say at which input.
  Laid BY PROGRAM, IN A SANDBOX (cutbox-rows.mjs): the forced cells as the released guide's own fill.sh prints them over the translation 139bff00d0f990af… (all of the seat's roots in one cut). By AI agents, Wed Nov 11 2026. No macro, syntax, notation, axiom, sorry.
-/
import Derived.Test.YtlbpdlhelkokbaaChecked
import GoSem.Claim
import GoSem.ClaimJoined
import GoSem.ClaimMapViews
import Derived.JoinedTies
import Derived.KernelRfl
namespace Go.Proofs.Ytlbpdlhelkokbaa
/- THE CELL 'sum', in the pinned program and in every row, IS THE sha256 OF THE DUMP (.gsa) THAT YtlbpdlhelkokbaaProg.lean LOADS. Nothing in Lean hashes anything: it is a label: what it is worth is what the hold of that sum in a sandbox is worth. -/
noncomputable def Try.pinned : Pinned := { name := "ytlbpdlhelkokbaa", sum := "139bff00d0f990af765d0b1f5ee2858b83c0304f8d3c3e3d493a8487a2a9466a", checked := Try.checked }
namespace Rows
def none {H : Type} : Left H := { results := [], args := [] }

/-- 'ciceronelaw13.DistinctHashes': WHATEVER THE INPUT: true; the input reads as it did. -/
def distinctHashesSpec : ChangeSpec := { name := "distinctHashes", fn := fun _ => fun
  | [d] => { results := [.lit (.bool true)], args := [d] }
  | _ => none }
def distinctHashesRow : OpenClaim := { program := "ytlbpdlhelkokbaa", sum := "139bff00d0f990af765d0b1f5ee2858b83c0304f8d3c3e3d493a8487a2a9466a", func := "cicerone/ciceronelaw13.DistinctHashes", spec := "distinctHashes", inPlace := ["slices.overlaps[uint64]"], unfollowed := true, recurses := true, named := ["math/bits.divideError", "math/bits.overflowError"], apart := false }
def DistinctHashesSaid : Prop := distinctHashesRow.holds Try.pinned (OpenSpec.ofChange distinctHashesSpec)

/-- ITS FALSE NEIGHBOUR: 'it returns false'. Refute it at one input. -/
def distinctHashesWrong : ChangeSpec := { name := "distinctHashes", fn := fun _ => fun
  | [d] => { results := [.lit (.bool false)], args := [d] }
  | _ => none }
def DistinctHashesWrongFalsely : Prop := distinctHashesRow.holds Try.pinned (OpenSpec.ofChange distinctHashesWrong)

/-- 'ciceronelaw13.DistinctGrows': WHATEVER THE INPUT: true; the input reads as it did. -/
def distinctGrowsSpec : ChangeSpec := { name := "distinctGrows", fn := fun _ => fun
  | [d1, d2] => { results := [.lit (.bool true)], args := [d1, d2] }
  | _ => none }
def distinctGrowsRow : OpenClaim := { program := "ytlbpdlhelkokbaa", sum := "139bff00d0f990af765d0b1f5ee2858b83c0304f8d3c3e3d493a8487a2a9466a", func := "cicerone/ciceronelaw13.DistinctGrows", spec := "distinctGrows", inPlace := ["slices.overlaps[uint64]"], unfollowed := true, recurses := true, named := ["math/bits.divideError", "math/bits.overflowError"], apart := false }
def DistinctGrowsSaid : Prop := distinctGrowsRow.holds Try.pinned (OpenSpec.ofChange distinctGrowsSpec)

/-- ITS FALSE NEIGHBOUR: 'it returns false'. Refute it at one input. -/
def distinctGrowsWrong : ChangeSpec := { name := "distinctGrows", fn := fun _ => fun
  | [d1, d2] => { results := [.lit (.bool false)], args := [d1, d2] }
  | _ => none }
def DistinctGrowsWrongFalsely : Prop := distinctGrowsRow.holds Try.pinned (OpenSpec.ofChange distinctGrowsWrong)

/-- 'ciceronelaw13.DistinctCounts': WHATEVER THE INPUT: true; the input reads as it did. -/
def distinctCountsSpec : ChangeSpec := { name := "distinctCounts", fn := fun _ => fun
  | [d1, d2] => { results := [.lit (.bool true)], args := [d1, d2] }
  | _ => none }
def distinctCountsRow : OpenClaim := { program := "ytlbpdlhelkokbaa", sum := "139bff00d0f990af765d0b1f5ee2858b83c0304f8d3c3e3d493a8487a2a9466a", func := "cicerone/ciceronelaw13.DistinctCounts", spec := "distinctCounts", inPlace := ["slices.overlaps[uint64]"], unfollowed := true, recurses := true, named := ["math/bits.divideError", "math/bits.overflowError"], apart := false }
def DistinctCountsSaid : Prop := distinctCountsRow.holds Try.pinned (OpenSpec.ofChange distinctCountsSpec)

/-- ITS FALSE NEIGHBOUR: 'it returns false'. Refute it at one input. -/
def distinctCountsWrong : ChangeSpec := { name := "distinctCounts", fn := fun _ => fun
  | [d1, d2] => { results := [.lit (.bool false)], args := [d1, d2] }
  | _ => none }
def DistinctCountsWrongFalsely : Prop := distinctCountsRow.holds Try.pinned (OpenSpec.ofChange distinctCountsWrong)

/-- 'ciceronelaw13.DistinctOrders': WHATEVER THE INPUT: true; the input reads as it did. -/
def distinctOrdersSpec : ChangeSpec := { name := "distinctOrders", fn := fun _ => fun
  | [d1, d2] => { results := [.lit (.bool true)], args := [d1, d2] }
  | _ => none }
def distinctOrdersRow : OpenClaim := { program := "ytlbpdlhelkokbaa", sum := "139bff00d0f990af765d0b1f5ee2858b83c0304f8d3c3e3d493a8487a2a9466a", func := "cicerone/ciceronelaw13.DistinctOrders", spec := "distinctOrders", inPlace := ["slices.overlaps[uint64]"], unfollowed := true, recurses := true, named := ["math/bits.divideError", "math/bits.overflowError"], apart := false }
def DistinctOrdersSaid : Prop := distinctOrdersRow.holds Try.pinned (OpenSpec.ofChange distinctOrdersSpec)

/-- ITS FALSE NEIGHBOUR: 'it returns false'. Refute it at one input. -/
def distinctOrdersWrong : ChangeSpec := { name := "distinctOrders", fn := fun _ => fun
  | [d1, d2] => { results := [.lit (.bool false)], args := [d1, d2] }
  | _ => none }
def DistinctOrdersWrongFalsely : Prop := distinctOrdersRow.holds Try.pinned (OpenSpec.ofChange distinctOrdersWrong)

/-- 'ciceronelaw13.DistinctLeast': WHATEVER THE INPUT: true; the input reads as it did. -/
def distinctLeastSpec : ChangeSpec := { name := "distinctLeast", fn := fun _ => fun
  | [d1, d2] => { results := [.lit (.bool true)], args := [d1, d2] }
  | _ => none }
def distinctLeastRow : OpenClaim := { program := "ytlbpdlhelkokbaa", sum := "139bff00d0f990af765d0b1f5ee2858b83c0304f8d3c3e3d493a8487a2a9466a", func := "cicerone/ciceronelaw13.DistinctLeast", spec := "distinctLeast", inPlace := ["slices.overlaps[uint64]"], unfollowed := true, recurses := true, named := ["math/bits.divideError", "math/bits.overflowError"], apart := false }
def DistinctLeastSaid : Prop := distinctLeastRow.holds Try.pinned (OpenSpec.ofChange distinctLeastSpec)

/-- ITS FALSE NEIGHBOUR: 'it returns false'. Refute it at one input. -/
def distinctLeastWrong : ChangeSpec := { name := "distinctLeast", fn := fun _ => fun
  | [d1, d2] => { results := [.lit (.bool false)], args := [d1, d2] }
  | _ => none }
def DistinctLeastWrongFalsely : Prop := distinctLeastRow.holds Try.pinned (OpenSpec.ofChange distinctLeastWrong)

/-- 'ciceronelaw13.DistinctMerges': WHATEVER THE INPUT: true; the input reads as it did. -/
def distinctMergesSpec : ChangeSpec := { name := "distinctMerges", fn := fun _ => fun
  | [d1, d2, d3, d4] => { results := [.lit (.bool true)], args := [d1, d2, d3, d4] }
  | _ => none }
def distinctMergesRow : OpenClaim := { program := "ytlbpdlhelkokbaa", sum := "139bff00d0f990af765d0b1f5ee2858b83c0304f8d3c3e3d493a8487a2a9466a", func := "cicerone/ciceronelaw13.DistinctMerges", spec := "distinctMerges", inPlace := ["slices.overlaps[uint64]"], unfollowed := true, recurses := true, named := ["math/bits.divideError", "math/bits.overflowError"], apart := false }
def DistinctMergesSaid : Prop := distinctMergesRow.holds Try.pinned (OpenSpec.ofChange distinctMergesSpec)

/-- ITS FALSE NEIGHBOUR: 'it returns false'. Refute it at one input. -/
def distinctMergesWrong : ChangeSpec := { name := "distinctMerges", fn := fun _ => fun
  | [d1, d2, d3, d4] => { results := [.lit (.bool false)], args := [d1, d2, d3, d4] }
  | _ => none }
def DistinctMergesWrongFalsely : Prop := distinctMergesRow.holds Try.pinned (OpenSpec.ofChange distinctMergesWrong)

/-- 'ciceronelaw13.DistinctParts': WHATEVER THE INPUT: true; the input reads as it did. -/
def distinctPartsSpec : ChangeSpec := { name := "distinctParts", fn := fun _ => fun
  | [d1, d2, d3] => { results := [.lit (.bool true)], args := [d1, d2, d3] }
  | _ => none }
def distinctPartsRow : OpenClaim := { program := "ytlbpdlhelkokbaa", sum := "139bff00d0f990af765d0b1f5ee2858b83c0304f8d3c3e3d493a8487a2a9466a", func := "cicerone/ciceronelaw13.DistinctParts", spec := "distinctParts", inPlace := ["slices.overlaps[uint64]"], unfollowed := true, recurses := true, named := ["math/bits.divideError", "math/bits.overflowError"], apart := false }
def DistinctPartsSaid : Prop := distinctPartsRow.holds Try.pinned (OpenSpec.ofChange distinctPartsSpec)

/-- ITS FALSE NEIGHBOUR: 'it returns false'. Refute it at one input. -/
def distinctPartsWrong : ChangeSpec := { name := "distinctParts", fn := fun _ => fun
  | [d1, d2, d3] => { results := [.lit (.bool false)], args := [d1, d2, d3] }
  | _ => none }
def DistinctPartsWrongFalsely : Prop := distinctPartsRow.holds Try.pinned (OpenSpec.ofChange distinctPartsWrong)

/- THE SECOND FORM. 'bulk': how many values and letters a reading holds, each counted each time it is reached (what is shared counts as often as it is met; a slice's spare places count too). A statement '..UptoSaid' is the law's where the arguments, and the package variables that the reading takes, are together of bulk at most 1048576: NARROWER than '..Said'. Prove '..Said' where nothing that the law and all that it calls make is longer than what came in: it says more and counts as full. Else prove '..UptoSaid'. A law counts once. -/
mutual
def uptoBulk {H : Type} : DataW H → Nat
  | .lit (.string bytes) => bytes.length + 1
  | .lit _ => 1
  | .nil => 1
  | .ptr d => uptoBulk d + 1
  | .slice elems spare => uptoBulkAll elems + uptoBulkAll spare + 1
  | .agg parts => uptoBulkAll parts + 1
  | .iface _ d => uptoBulk d + 1
  | .map entries => uptoBulkEntries entries + 1
  | .held _ => 1
def uptoBulkAll {H : Type} : List (DataW H) → Nat
  | [] => 0
  | d :: r => uptoBulk d + uptoBulkAll r
def uptoBulkEntries {H : Type} : List (Lit × DataW H) → Nat
  | [] => 0
  | x :: r => uptoBulkEntry x + uptoBulkEntries r
def uptoBulkEntry {H : Type} : Lit × DataW H → Nat
  | (.string bytes, d) => bytes.length + uptoBulk d + 1
  | (_, d) => uptoBulk d + 1
 end
def uptoSmall : (H : Type) → List (DataW H) → Bool := fun _ ds => decide (uptoBulkAll ds ≤ 1048576)
def OpenSpec.upto (s : _root_.Go.ChangeSpec) : _root_.Go.OpenSpec := { _root_.Go.OpenSpec.ofChange s with cond := some uptoSmall }

/-- 'ciceronelaw13.DistinctHashes', WHERE WHAT IT READS IS OF BULK AT MOST 1048576: true; the input reads as it did. -/
def distinctHashesUptoRow : OpenClaim := { program := "ytlbpdlhelkokbaa", sum := "139bff00d0f990af765d0b1f5ee2858b83c0304f8d3c3e3d493a8487a2a9466a", func := "cicerone/ciceronelaw13.DistinctHashes", spec := "distinctHashes", inPlace := ["slices.overlaps[uint64]"], unfollowed := true, recurses := true, named := ["math/bits.divideError", "math/bits.overflowError"], apart := false, narrowed := true }
def DistinctHashesUptoSaid : Prop := distinctHashesUptoRow.holds Try.pinned (OpenSpec.upto distinctHashesSpec)

/-- 'ciceronelaw13.DistinctGrows', WHERE WHAT IT READS IS OF BULK AT MOST 1048576: true; the input reads as it did. -/
def distinctGrowsUptoRow : OpenClaim := { program := "ytlbpdlhelkokbaa", sum := "139bff00d0f990af765d0b1f5ee2858b83c0304f8d3c3e3d493a8487a2a9466a", func := "cicerone/ciceronelaw13.DistinctGrows", spec := "distinctGrows", inPlace := ["slices.overlaps[uint64]"], unfollowed := true, recurses := true, named := ["math/bits.divideError", "math/bits.overflowError"], apart := false, narrowed := true }
def DistinctGrowsUptoSaid : Prop := distinctGrowsUptoRow.holds Try.pinned (OpenSpec.upto distinctGrowsSpec)

/-- 'ciceronelaw13.DistinctCounts', WHERE WHAT IT READS IS OF BULK AT MOST 1048576: true; the input reads as it did. -/
def distinctCountsUptoRow : OpenClaim := { program := "ytlbpdlhelkokbaa", sum := "139bff00d0f990af765d0b1f5ee2858b83c0304f8d3c3e3d493a8487a2a9466a", func := "cicerone/ciceronelaw13.DistinctCounts", spec := "distinctCounts", inPlace := ["slices.overlaps[uint64]"], unfollowed := true, recurses := true, named := ["math/bits.divideError", "math/bits.overflowError"], apart := false, narrowed := true }
def DistinctCountsUptoSaid : Prop := distinctCountsUptoRow.holds Try.pinned (OpenSpec.upto distinctCountsSpec)

/-- 'ciceronelaw13.DistinctOrders', WHERE WHAT IT READS IS OF BULK AT MOST 1048576: true; the input reads as it did. -/
def distinctOrdersUptoRow : OpenClaim := { program := "ytlbpdlhelkokbaa", sum := "139bff00d0f990af765d0b1f5ee2858b83c0304f8d3c3e3d493a8487a2a9466a", func := "cicerone/ciceronelaw13.DistinctOrders", spec := "distinctOrders", inPlace := ["slices.overlaps[uint64]"], unfollowed := true, recurses := true, named := ["math/bits.divideError", "math/bits.overflowError"], apart := false, narrowed := true }
def DistinctOrdersUptoSaid : Prop := distinctOrdersUptoRow.holds Try.pinned (OpenSpec.upto distinctOrdersSpec)

/-- 'ciceronelaw13.DistinctLeast', WHERE WHAT IT READS IS OF BULK AT MOST 1048576: true; the input reads as it did. -/
def distinctLeastUptoRow : OpenClaim := { program := "ytlbpdlhelkokbaa", sum := "139bff00d0f990af765d0b1f5ee2858b83c0304f8d3c3e3d493a8487a2a9466a", func := "cicerone/ciceronelaw13.DistinctLeast", spec := "distinctLeast", inPlace := ["slices.overlaps[uint64]"], unfollowed := true, recurses := true, named := ["math/bits.divideError", "math/bits.overflowError"], apart := false, narrowed := true }
def DistinctLeastUptoSaid : Prop := distinctLeastUptoRow.holds Try.pinned (OpenSpec.upto distinctLeastSpec)

/-- 'ciceronelaw13.DistinctMerges', WHERE WHAT IT READS IS OF BULK AT MOST 1048576: true; the input reads as it did. -/
def distinctMergesUptoRow : OpenClaim := { program := "ytlbpdlhelkokbaa", sum := "139bff00d0f990af765d0b1f5ee2858b83c0304f8d3c3e3d493a8487a2a9466a", func := "cicerone/ciceronelaw13.DistinctMerges", spec := "distinctMerges", inPlace := ["slices.overlaps[uint64]"], unfollowed := true, recurses := true, named := ["math/bits.divideError", "math/bits.overflowError"], apart := false, narrowed := true }
def DistinctMergesUptoSaid : Prop := distinctMergesUptoRow.holds Try.pinned (OpenSpec.upto distinctMergesSpec)

/-- 'ciceronelaw13.DistinctParts', WHERE WHAT IT READS IS OF BULK AT MOST 1048576: true; the input reads as it did. -/
def distinctPartsUptoRow : OpenClaim := { program := "ytlbpdlhelkokbaa", sum := "139bff00d0f990af765d0b1f5ee2858b83c0304f8d3c3e3d493a8487a2a9466a", func := "cicerone/ciceronelaw13.DistinctParts", spec := "distinctParts", inPlace := ["slices.overlaps[uint64]"], unfollowed := true, recurses := true, named := ["math/bits.divideError", "math/bits.overflowError"], apart := false, narrowed := true }
def DistinctPartsUptoSaid : Prop := distinctPartsUptoRow.holds Try.pinned (OpenSpec.upto distinctPartsSpec)

end Rows
end Go.Proofs.Ytlbpdlhelkokbaa
