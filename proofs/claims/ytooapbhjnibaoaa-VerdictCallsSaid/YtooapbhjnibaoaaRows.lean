/-
  No cell of these rows narrows 'for every input' (looked for: loops, veiled, ifaces, maps, wideKeys, modest, calm, conditions, laid).
  DERIVED. THE GIVEN ROWS OF THIS SEAT. 7 by the template 'for every input the law returns true; each argument reads behind the call as it read before'; 0 by the template 'total and deterministic' (their statements: YtooapbhjnibaoaaTotals.lean).
  GIVEN WITH THE SEED: the statements are not yours to turn. If you find one false, say at which input.
  Laid BY PROGRAM, IN A SANDBOX (cutbox-rows.mjs): the forced cells as the released guide's own fill.sh prints them over the translation 3038389a2bb5de75… (all of the seat's roots in one cut). By AI agents, Wed Nov 11 2026. No macro, syntax, notation, axiom, sorry.
-/
import Derived.Test.YtooapbhjnibaoaaChecked
import GoSem.Claim
import GoSem.ClaimJoined
import GoSem.ClaimMapViews
import Derived.JoinedTies
import Derived.KernelRfl
namespace Go.Proofs.Ytooapbhjnibaoaa
/- THE CELL 'sum', in the pinned program and in every row, IS THE sha256 OF THE DUMP (.gsa) THAT YtooapbhjnibaoaaProg.lean LOADS. Nothing in Lean hashes anything: it is a label: what it is worth is what the hold of that sum in a sandbox is worth. -/
noncomputable def Try.pinned : Pinned := { name := "ytooapbhjnibaoaa", sum := "3038389a2bb5de751a3d61a857e4ba4aa707864c0487d24f2995c14ce4820c63", checked := Try.checked }
namespace Rows
def none {H : Type} : Left H := { results := [], args := [] }

/-- 'ciceronelaw47.VerdictChooses': WHATEVER THE INPUT: true; the input reads as it did. -/
def verdictChoosesSpec : ChangeSpec := { name := "verdictChooses", fn := fun _ => fun
  | [d1, d2] => { results := [.lit (.bool true)], args := [d1, d2] }
  | _ => none }
def verdictChoosesRow : OpenClaim := { program := "ytooapbhjnibaoaa", sum := "3038389a2bb5de751a3d61a857e4ba4aa707864c0487d24f2995c14ce4820c63", func := "cicerone/ciceronelaw47.VerdictChooses", spec := "verdictChooses", apart := false }
def VerdictChoosesSaid : Prop := verdictChoosesRow.holds Try.pinned (OpenSpec.ofChange verdictChoosesSpec)

/-- ITS FALSE NEIGHBOUR: 'it returns false'. Refute it at one input. -/
def verdictChoosesWrong : ChangeSpec := { name := "verdictChooses", fn := fun _ => fun
  | [d1, d2] => { results := [.lit (.bool false)], args := [d1, d2] }
  | _ => none }
def VerdictChoosesWrongFalsely : Prop := verdictChoosesRow.holds Try.pinned (OpenSpec.ofChange verdictChoosesWrong)

/-- 'ciceronelaw47.VerdictTails': WHATEVER THE INPUT: true; the input reads as it did. -/
def verdictTailsSpec : ChangeSpec := { name := "verdictTails", fn := fun _ => fun
  | [d1, d2, d3, d4] => { results := [.lit (.bool true)], args := [d1, d2, d3, d4] }
  | _ => none }
def verdictTailsRow : OpenClaim := { program := "ytooapbhjnibaoaa", sum := "3038389a2bb5de751a3d61a857e4ba4aa707864c0487d24f2995c14ce4820c63", func := "cicerone/ciceronelaw47.VerdictTails", spec := "verdictTails", apart := false }
def VerdictTailsSaid : Prop := verdictTailsRow.holds Try.pinned (OpenSpec.ofChange verdictTailsSpec)

/-- ITS FALSE NEIGHBOUR: 'it returns false'. Refute it at one input. -/
def verdictTailsWrong : ChangeSpec := { name := "verdictTails", fn := fun _ => fun
  | [d1, d2, d3, d4] => { results := [.lit (.bool false)], args := [d1, d2, d3, d4] }
  | _ => none }
def VerdictTailsWrongFalsely : Prop := verdictTailsRow.holds Try.pinned (OpenSpec.ofChange verdictTailsWrong)

/-- 'ciceronelaw47.VerdictSums': WHATEVER THE INPUT: true; the input reads as it did. -/
def verdictSumsSpec : ChangeSpec := { name := "verdictSums", fn := fun _ => fun
  | [d1, d2] => { results := [.lit (.bool true)], args := [d1, d2] }
  | _ => none }
def verdictSumsRow : OpenClaim := { program := "ytooapbhjnibaoaa", sum := "3038389a2bb5de751a3d61a857e4ba4aa707864c0487d24f2995c14ce4820c63", func := "cicerone/ciceronelaw47.VerdictSums", spec := "verdictSums", apart := false }
def VerdictSumsSaid : Prop := verdictSumsRow.holds Try.pinned (OpenSpec.ofChange verdictSumsSpec)

/-- ITS FALSE NEIGHBOUR: 'it returns false'. Refute it at one input. -/
def verdictSumsWrong : ChangeSpec := { name := "verdictSums", fn := fun _ => fun
  | [d1, d2] => { results := [.lit (.bool false)], args := [d1, d2] }
  | _ => none }
def VerdictSumsWrongFalsely : Prop := verdictSumsRow.holds Try.pinned (OpenSpec.ofChange verdictSumsWrong)

/-- 'ciceronelaw47.VerdictBoth': WHATEVER THE INPUT: true; the input reads as it did. -/
def verdictBothSpec : ChangeSpec := { name := "verdictBoth", fn := fun _ => fun
  | [d1, d2] => { results := [.lit (.bool true)], args := [d1, d2] }
  | _ => none }
def verdictBothRow : OpenClaim := { program := "ytooapbhjnibaoaa", sum := "3038389a2bb5de751a3d61a857e4ba4aa707864c0487d24f2995c14ce4820c63", func := "cicerone/ciceronelaw47.VerdictBoth", spec := "verdictBoth", apart := false }
def VerdictBothSaid : Prop := verdictBothRow.holds Try.pinned (OpenSpec.ofChange verdictBothSpec)

/-- ITS FALSE NEIGHBOUR: 'it returns false'. Refute it at one input. -/
def verdictBothWrong : ChangeSpec := { name := "verdictBoth", fn := fun _ => fun
  | [d1, d2] => { results := [.lit (.bool false)], args := [d1, d2] }
  | _ => none }
def VerdictBothWrongFalsely : Prop := verdictBothRow.holds Try.pinned (OpenSpec.ofChange verdictBothWrong)

/-- 'ciceronelaw47.VerdictCalls': WHATEVER THE INPUT: true; the input reads as it did. -/
def verdictCallsSpec : ChangeSpec := { name := "verdictCalls", fn := fun _ => fun
  | [d1, d2, d3] => { results := [.lit (.bool true)], args := [d1, d2, d3] }
  | _ => none }
def verdictCallsRow : OpenClaim := { program := "ytooapbhjnibaoaa", sum := "3038389a2bb5de751a3d61a857e4ba4aa707864c0487d24f2995c14ce4820c63", func := "cicerone/ciceronelaw47.VerdictCalls", spec := "verdictCalls", apart := false }
def VerdictCallsSaid : Prop := verdictCallsRow.holds Try.pinned (OpenSpec.ofChange verdictCallsSpec)

/-- ITS FALSE NEIGHBOUR: 'it returns false'. Refute it at one input. -/
def verdictCallsWrong : ChangeSpec := { name := "verdictCalls", fn := fun _ => fun
  | [d1, d2, d3] => { results := [.lit (.bool false)], args := [d1, d2, d3] }
  | _ => none }
def VerdictCallsWrongFalsely : Prop := verdictCallsRow.holds Try.pinned (OpenSpec.ofChange verdictCallsWrong)

/-- 'ciceronelaw47.VerdictLevels': WHATEVER THE INPUT: true; the input reads as it did. -/
def verdictLevelsSpec : ChangeSpec := { name := "verdictLevels", fn := fun _ => fun
  | [d1, d2, d3, d4] => { results := [.lit (.bool true)], args := [d1, d2, d3, d4] }
  | _ => none }
def verdictLevelsRow : OpenClaim := { program := "ytooapbhjnibaoaa", sum := "3038389a2bb5de751a3d61a857e4ba4aa707864c0487d24f2995c14ce4820c63", func := "cicerone/ciceronelaw47.VerdictLevels", spec := "verdictLevels", apart := false }
def VerdictLevelsSaid : Prop := verdictLevelsRow.holds Try.pinned (OpenSpec.ofChange verdictLevelsSpec)

/-- ITS FALSE NEIGHBOUR: 'it returns false'. Refute it at one input. -/
def verdictLevelsWrong : ChangeSpec := { name := "verdictLevels", fn := fun _ => fun
  | [d1, d2, d3, d4] => { results := [.lit (.bool false)], args := [d1, d2, d3, d4] }
  | _ => none }
def VerdictLevelsWrongFalsely : Prop := verdictLevelsRow.holds Try.pinned (OpenSpec.ofChange verdictLevelsWrong)

/-- 'ciceronelaw47.VerdictRanks': WHATEVER THE INPUT: true; the input reads as it did. -/
def verdictRanksSpec : ChangeSpec := { name := "verdictRanks", fn := fun _ => fun
  | [d] => { results := [.lit (.bool true)], args := [d] }
  | _ => none }
def verdictRanksRow : OpenClaim := { program := "ytooapbhjnibaoaa", sum := "3038389a2bb5de751a3d61a857e4ba4aa707864c0487d24f2995c14ce4820c63", func := "cicerone/ciceronelaw47.VerdictRanks", spec := "verdictRanks", inPlace := ["internal/bytealg.abigen_runtime_cmpstring"], unfollowed := true, recurses := true, apart := false }
def VerdictRanksSaid : Prop := verdictRanksRow.holds Try.pinned (OpenSpec.ofChange verdictRanksSpec)

/-- ITS FALSE NEIGHBOUR: 'it returns false'. Refute it at one input. -/
def verdictRanksWrong : ChangeSpec := { name := "verdictRanks", fn := fun _ => fun
  | [d] => { results := [.lit (.bool false)], args := [d] }
  | _ => none }
def VerdictRanksWrongFalsely : Prop := verdictRanksRow.holds Try.pinned (OpenSpec.ofChange verdictRanksWrong)

/- THE SECOND FORM. 'bulk': how many values and letters a reading holds, each counted each time it is reached (what is shared counts as often as it is met; a slice's spare places count too). A statement '..UptoSaid' is the law's where the arguments, and the package variables that the reading takes, are together of bulk at most 1048576: NARROWER than '..Said'. Prove '..Said' where nothing that the law and all that it calls make is longer than what came in: it says more and counts as full. Else prove '..UptoSaid'. A law counts once. -/
mutual
def uptoBulk {H : Type} : DataW H → Nat
  | .lit (.string bytes) => bytes.length + 1
  | .lit _ => 1
  | .nil => 1
  | .ptr d => uptoBulk d + 1
  | .slice elems spare => uptoBulkAll elems + uptoBulkAll spare + 1
  | .agg parts => uptoBulkAll parts + 1
  | .iface _ d => uptoBulk d + 1
  | .map entries => uptoBulkEntries entries + 1
  | .held _ => 1
def uptoBulkAll {H : Type} : List (DataW H) → Nat
  | [] => 0
  | d :: r => uptoBulk d + uptoBulkAll r
def uptoBulkEntries {H : Type} : List (Lit × DataW H) → Nat
  | [] => 0
  | x :: r => uptoBulkEntry x + uptoBulkEntries r
def uptoBulkEntry {H : Type} : Lit × DataW H → Nat
  | (.string bytes, d) => bytes.length + uptoBulk d + 1
  | (_, d) => uptoBulk d + 1
 end
def uptoSmall : (H : Type) → List (DataW H) → Bool := fun _ ds => decide (uptoBulkAll ds ≤ 1048576)
def OpenSpec.upto (s : _root_.Go.ChangeSpec) : _root_.Go.OpenSpec := { _root_.Go.OpenSpec.ofChange s with cond := some uptoSmall }

/-- 'ciceronelaw47.VerdictChooses', WHERE WHAT IT READS IS OF BULK AT MOST 1048576: true; the input reads as it did. -/
def verdictChoosesUptoRow : OpenClaim := { program := "ytooapbhjnibaoaa", sum := "3038389a2bb5de751a3d61a857e4ba4aa707864c0487d24f2995c14ce4820c63", func := "cicerone/ciceronelaw47.VerdictChooses", spec := "verdictChooses", apart := false, narrowed := true }
def VerdictChoosesUptoSaid : Prop := verdictChoosesUptoRow.holds Try.pinned (OpenSpec.upto verdictChoosesSpec)

/-- 'ciceronelaw47.VerdictTails', WHERE WHAT IT READS IS OF BULK AT MOST 1048576: true; the input reads as it did. -/
def verdictTailsUptoRow : OpenClaim := { program := "ytooapbhjnibaoaa", sum := "3038389a2bb5de751a3d61a857e4ba4aa707864c0487d24f2995c14ce4820c63", func := "cicerone/ciceronelaw47.VerdictTails", spec := "verdictTails", apart := false, narrowed := true }
def VerdictTailsUptoSaid : Prop := verdictTailsUptoRow.holds Try.pinned (OpenSpec.upto verdictTailsSpec)

/-- 'ciceronelaw47.VerdictSums', WHERE WHAT IT READS IS OF BULK AT MOST 1048576: true; the input reads as it did. -/
def verdictSumsUptoRow : OpenClaim := { program := "ytooapbhjnibaoaa", sum := "3038389a2bb5de751a3d61a857e4ba4aa707864c0487d24f2995c14ce4820c63", func := "cicerone/ciceronelaw47.VerdictSums", spec := "verdictSums", apart := false, narrowed := true }
def VerdictSumsUptoSaid : Prop := verdictSumsUptoRow.holds Try.pinned (OpenSpec.upto verdictSumsSpec)

/-- 'ciceronelaw47.VerdictBoth', WHERE WHAT IT READS IS OF BULK AT MOST 1048576: true; the input reads as it did. -/
def verdictBothUptoRow : OpenClaim := { program := "ytooapbhjnibaoaa", sum := "3038389a2bb5de751a3d61a857e4ba4aa707864c0487d24f2995c14ce4820c63", func := "cicerone/ciceronelaw47.VerdictBoth", spec := "verdictBoth", apart := false, narrowed := true }
def VerdictBothUptoSaid : Prop := verdictBothUptoRow.holds Try.pinned (OpenSpec.upto verdictBothSpec)

/-- 'ciceronelaw47.VerdictCalls', WHERE WHAT IT READS IS OF BULK AT MOST 1048576: true; the input reads as it did. -/
def verdictCallsUptoRow : OpenClaim := { program := "ytooapbhjnibaoaa", sum := "3038389a2bb5de751a3d61a857e4ba4aa707864c0487d24f2995c14ce4820c63", func := "cicerone/ciceronelaw47.VerdictCalls", spec := "verdictCalls", apart := false, narrowed := true }
def VerdictCallsUptoSaid : Prop := verdictCallsUptoRow.holds Try.pinned (OpenSpec.upto verdictCallsSpec)

/-- 'ciceronelaw47.VerdictLevels', WHERE WHAT IT READS IS OF BULK AT MOST 1048576: true; the input reads as it did. -/
def verdictLevelsUptoRow : OpenClaim := { program := "ytooapbhjnibaoaa", sum := "3038389a2bb5de751a3d61a857e4ba4aa707864c0487d24f2995c14ce4820c63", func := "cicerone/ciceronelaw47.VerdictLevels", spec := "verdictLevels", apart := false, narrowed := true }
def VerdictLevelsUptoSaid : Prop := verdictLevelsUptoRow.holds Try.pinned (OpenSpec.upto verdictLevelsSpec)

/-- 'ciceronelaw47.VerdictRanks', WHERE WHAT IT READS IS OF BULK AT MOST 1048576: true; the input reads as it did. -/
def verdictRanksUptoRow : OpenClaim := { program := "ytooapbhjnibaoaa", sum := "3038389a2bb5de751a3d61a857e4ba4aa707864c0487d24f2995c14ce4820c63", func := "cicerone/ciceronelaw47.VerdictRanks", spec := "verdictRanks", inPlace := ["internal/bytealg.abigen_runtime_cmpstring"], unfollowed := true, recurses := true, apart := false, narrowed := true }
def VerdictRanksUptoSaid : Prop := verdictRanksUptoRow.holds Try.pinned (OpenSpec.upto verdictRanksSpec)

end Rows
end Go.Proofs.Ytooapbhjnibaoaa
