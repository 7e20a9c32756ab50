/-
  No cell of these rows narrows 'for every input' (looked for: loops, veiled, ifaces, maps, wideKeys, modest, calm, conditions, laid).
  DERIVED. THE GIVEN ROWS OF THIS SEAT. 3 by the template 'for every input the law returns true; each argument reads behind the call as it read before'; 0 by the template 'total and deterministic' (their statements: YtkejjahlglldlaaTotals.lean).
  GIVEN WITH THE SEED: the statements are not yours to turn. If you find one false, say at which input.
  Laid BY PROGRAM, IN A SANDBOX (cutbox-rows.mjs): the forced cells as the released guide's own fill.sh prints them over the translation 8c9440df01fe4c70… (all of the seat's roots in one cut). By AI agents, Wed Nov 11 2026. No macro, syntax, notation, axiom, sorry.
-/
import Derived.Test.YtkejjahlglldlaaChecked
import GoSem.Claim
import GoSem.ClaimJoined
import GoSem.ClaimMapViews
import Derived.JoinedTies
import Derived.KernelRfl
namespace Go.Proofs.Ytkejjahlglldlaa
/- THE CELL 'sum', in the pinned program and in every row, IS THE sha256 OF THE DUMP (.gsa) THAT YtkejjahlglldlaaProg.lean LOADS. Nothing in Lean hashes anything: it is a label: what it is worth is what the hold of that sum in a sandbox is worth. -/
noncomputable def Try.pinned : Pinned := { name := "ytkejjahlglldlaa", sum := "8c9440df01fe4c7089594f95927051dcb4978bc9a8617bd6fe6b2f1583c443bc", checked := Try.checked }
namespace Rows
def none {H : Type} : Left H := { results := [], args := [] }

/-- 'annalstop.WholeOrdered': WHATEVER THE INPUT: true; the input reads as it did. -/
def wholeOrderedSpec : ChangeSpec := { name := "wholeOrdered", fn := fun _ => fun
  | [d1, d2, d3] => { results := [.lit (.bool true)], args := [d1, d2, d3] }
  | _ => none }
def wholeOrderedRow : OpenClaim := { program := "ytkejjahlglldlaa", sum := "8c9440df01fe4c7089594f95927051dcb4978bc9a8617bd6fe6b2f1583c443bc", func := "annals/annalstop.WholeOrdered", spec := "wholeOrdered", inPlace := ["slices.overlaps[string]", "slices.overlaps[int64]", "slices.overlaps[*annals/btree.node]", "internal/bytealg.abigen_runtime_cmpstring"], unfollowed := true, recurses := true, apart := false }
def WholeOrderedSaid : Prop := wholeOrderedRow.holds Try.pinned (OpenSpec.ofChange wholeOrderedSpec)

/-- ITS FALSE NEIGHBOUR: 'it returns false'. Refute it at one input. -/
def wholeOrderedWrong : ChangeSpec := { name := "wholeOrdered", fn := fun _ => fun
  | [d1, d2, d3] => { results := [.lit (.bool false)], args := [d1, d2, d3] }
  | _ => none }
def WholeOrderedWrongFalsely : Prop := wholeOrderedRow.holds Try.pinned (OpenSpec.ofChange wholeOrderedWrong)

/-- 'annalstop.WholeOverlaps': WHATEVER THE INPUT: true; the input reads as it did. -/
def wholeOverlapsSpec : ChangeSpec := { name := "wholeOverlaps", fn := fun _ => fun
  | [d1, d2, d3] => { results := [.lit (.bool true)], args := [d1, d2, d3] }
  | _ => none }
def wholeOverlapsRow : OpenClaim := { program := "ytkejjahlglldlaa", sum := "8c9440df01fe4c7089594f95927051dcb4978bc9a8617bd6fe6b2f1583c443bc", func := "annals/annalstop.WholeOverlaps", spec := "wholeOverlaps", inPlace := ["slices.overlaps[string]", "slices.overlaps[int64]", "slices.overlaps[*annals/btree.node]", "internal/bytealg.abigen_runtime_cmpstring"], unfollowed := true, recurses := true, apart := false }
def WholeOverlapsSaid : Prop := wholeOverlapsRow.holds Try.pinned (OpenSpec.ofChange wholeOverlapsSpec)

/-- ITS FALSE NEIGHBOUR: 'it returns false'. Refute it at one input. -/
def wholeOverlapsWrong : ChangeSpec := { name := "wholeOverlaps", fn := fun _ => fun
  | [d1, d2, d3] => { results := [.lit (.bool false)], args := [d1, d2, d3] }
  | _ => none }
def WholeOverlapsWrongFalsely : Prop := wholeOverlapsRow.holds Try.pinned (OpenSpec.ofChange wholeOverlapsWrong)

/-- 'annalstop.WholePeriods': WHATEVER THE INPUT: true; the input reads as it did. -/
def wholePeriodsSpec : ChangeSpec := { name := "wholePeriods", fn := fun _ => fun
  | [d1, d2] => { results := [.lit (.bool true)], args := [d1, d2] }
  | _ => none }
def wholePeriodsRow : OpenClaim := { program := "ytkejjahlglldlaa", sum := "8c9440df01fe4c7089594f95927051dcb4978bc9a8617bd6fe6b2f1583c443bc", func := "annals/annalstop.WholePeriods", spec := "wholePeriods", inPlace := ["internal/bytealg.abigen_runtime_cmpstring"], unfollowed := true, recurses := true, apart := false }
def WholePeriodsSaid : Prop := wholePeriodsRow.holds Try.pinned (OpenSpec.ofChange wholePeriodsSpec)

/-- ITS FALSE NEIGHBOUR: 'it returns false'. Refute it at one input. -/
def wholePeriodsWrong : ChangeSpec := { name := "wholePeriods", fn := fun _ => fun
  | [d1, d2] => { results := [.lit (.bool false)], args := [d1, d2] }
  | _ => none }
def WholePeriodsWrongFalsely : Prop := wholePeriodsRow.holds Try.pinned (OpenSpec.ofChange wholePeriodsWrong)

/- THE SECOND FORM. 'bulk': how many values and letters a reading holds, each counted each time it is reached (what is shared counts as often as it is met; a slice's spare places count too). A statement '..UptoSaid' is the law's where the arguments, and the package variables that the reading takes, are together of bulk at most 1048576: NARROWER than '..Said'. Prove '..Said' where nothing that the law and all that it calls make is longer than what came in: it says more and counts as full. Else prove '..UptoSaid'. A law counts once. -/
mutual
def uptoBulk {H : Type} : DataW H → Nat
  | .lit (.string bytes) => bytes.length + 1
  | .lit _ => 1
  | .nil => 1
  | .ptr d => uptoBulk d + 1
  | .slice elems spare => uptoBulkAll elems + uptoBulkAll spare + 1
  | .agg parts => uptoBulkAll parts + 1
  | .iface _ d => uptoBulk d + 1
  | .map entries => uptoBulkEntries entries + 1
  | .held _ => 1
def uptoBulkAll {H : Type} : List (DataW H) → Nat
  | [] => 0
  | d :: r => uptoBulk d + uptoBulkAll r
def uptoBulkEntries {H : Type} : List (Lit × DataW H) → Nat
  | [] => 0
  | x :: r => uptoBulkEntry x + uptoBulkEntries r
def uptoBulkEntry {H : Type} : Lit × DataW H → Nat
  | (.string bytes, d) => bytes.length + uptoBulk d + 1
  | (_, d) => uptoBulk d + 1
 end
def uptoSmall : (H : Type) → List (DataW H) → Bool := fun _ ds => decide (uptoBulkAll ds ≤ 1048576)
def OpenSpec.upto (s : _root_.Go.ChangeSpec) : _root_.Go.OpenSpec := { _root_.Go.OpenSpec.ofChange s with cond := some uptoSmall }

/-- 'annalstop.WholeOrdered', WHERE WHAT IT READS IS OF BULK AT MOST 1048576: true; the input reads as it did. -/
def wholeOrderedUptoRow : OpenClaim := { program := "ytkejjahlglldlaa", sum := "8c9440df01fe4c7089594f95927051dcb4978bc9a8617bd6fe6b2f1583c443bc", func := "annals/annalstop.WholeOrdered", spec := "wholeOrdered", inPlace := ["slices.overlaps[string]", "slices.overlaps[int64]", "slices.overlaps[*annals/btree.node]", "internal/bytealg.abigen_runtime_cmpstring"], unfollowed := true, recurses := true, apart := false, narrowed := true }
def WholeOrderedUptoSaid : Prop := wholeOrderedUptoRow.holds Try.pinned (OpenSpec.upto wholeOrderedSpec)

/-- 'annalstop.WholeOverlaps', WHERE WHAT IT READS IS OF BULK AT MOST 1048576: true; the input reads as it did. -/
def wholeOverlapsUptoRow : OpenClaim := { program := "ytkejjahlglldlaa", sum := "8c9440df01fe4c7089594f95927051dcb4978bc9a8617bd6fe6b2f1583c443bc", func := "annals/annalstop.WholeOverlaps", spec := "wholeOverlaps", inPlace := ["slices.overlaps[string]", "slices.overlaps[int64]", "slices.overlaps[*annals/btree.node]", "internal/bytealg.abigen_runtime_cmpstring"], unfollowed := true, recurses := true, apart := false, narrowed := true }
def WholeOverlapsUptoSaid : Prop := wholeOverlapsUptoRow.holds Try.pinned (OpenSpec.upto wholeOverlapsSpec)

/-- 'annalstop.WholePeriods', WHERE WHAT IT READS IS OF BULK AT MOST 1048576: true; the input reads as it did. -/
def wholePeriodsUptoRow : OpenClaim := { program := "ytkejjahlglldlaa", sum := "8c9440df01fe4c7089594f95927051dcb4978bc9a8617bd6fe6b2f1583c443bc", func := "annals/annalstop.WholePeriods", spec := "wholePeriods", inPlace := ["internal/bytealg.abigen_runtime_cmpstring"], unfollowed := true, recurses := true, apart := false, narrowed := true }
def WholePeriodsUptoSaid : Prop := wholePeriodsUptoRow.holds Try.pinned (OpenSpec.upto wholePeriodsSpec)

end Rows
end Go.Proofs.Ytkejjahlglldlaa
