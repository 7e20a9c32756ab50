/-
  No cell of these rows narrows 'for every input' (looked for: loops, veiled, ifaces, maps, wideKeys, modest, calm, conditions, laid).
  DERIVED. THE GIVEN ROWS OF THIS SEAT. 4 by the template 'for every input the law returns true; each argument reads behind the call as it read before'; 0 by the template 'total and deterministic' (their statements: YtcildmdmgjehbaaTotals.lean).
  GIVEN WITH THE SEED: the statements are not yours to turn. If you find one false, say at which input.
  Laid BY PROGRAM, IN A SANDBOX (cutbox-rows.mjs): the forced cells as the released guide's own fill.sh prints them over the translation 11212d7cbb405a93… (all of the seat's roots in one cut). By AI agents, Wed Nov 11 2026. No macro, syntax, notation, axiom, sorry.
-/
import Derived.Test.YtcildmdmgjehbaaChecked
import GoSem.Claim
import GoSem.ClaimJoined
import GoSem.ClaimMapViews
import Derived.JoinedTies
import Derived.KernelRfl
namespace Go.Proofs.Ytcildmdmgjehbaa
/- THE CELL 'sum', in the pinned program and in every row, IS THE sha256 OF THE DUMP (.gsa) THAT YtcildmdmgjehbaaProg.lean LOADS. Nothing in Lean hashes anything: it is a label: what it is worth is what the hold of that sum in a sandbox is worth. -/
noncomputable def Try.pinned : Pinned := { name := "ytcildmdmgjehbaa", sum := "11212d7cbb405a93f6dce80ea168a1269005a46970108332a19303908b4aade6", checked := Try.checked }
namespace Rows
def none {H : Type} : Left H := { results := [], args := [] }

/-- 'annalslaw11.PstreeStabs': WHATEVER THE INPUT: true; the input reads as it did. -/
def pstreeStabsSpec : ChangeSpec := { name := "pstreeStabs", fn := fun _ => fun
  | [d1, d2] => { results := [.lit (.bool true)], args := [d1, d2] }
  | _ => none }
def pstreeStabsRow : OpenClaim := { program := "ytcildmdmgjehbaa", sum := "11212d7cbb405a93f6dce80ea168a1269005a46970108332a19303908b4aade6", func := "annals/annalslaw11.PstreeStabs", spec := "pstreeStabs", recurses := true, apart := false }
def PstreeStabsSaid : Prop := pstreeStabsRow.holds Try.pinned (OpenSpec.ofChange pstreeStabsSpec)

/-- ITS FALSE NEIGHBOUR: 'it returns false'. Refute it at one input. -/
def pstreeStabsWrong : ChangeSpec := { name := "pstreeStabs", fn := fun _ => fun
  | [d1, d2] => { results := [.lit (.bool false)], args := [d1, d2] }
  | _ => none }
def PstreeStabsWrongFalsely : Prop := pstreeStabsRow.holds Try.pinned (OpenSpec.ofChange pstreeStabsWrong)

/-- 'annalslaw11.PstreeSplits': WHATEVER THE INPUT: true; the input reads as it did. -/
def pstreeSplitsSpec : ChangeSpec := { name := "pstreeSplits", fn := fun _ => fun
  | [d1, d2, d3] => { results := [.lit (.bool true)], args := [d1, d2, d3] }
  | _ => none }
def pstreeSplitsRow : OpenClaim := { program := "ytcildmdmgjehbaa", sum := "11212d7cbb405a93f6dce80ea168a1269005a46970108332a19303908b4aade6", func := "annals/annalslaw11.PstreeSplits", spec := "pstreeSplits", recurses := true, apart := false }
def PstreeSplitsSaid : Prop := pstreeSplitsRow.holds Try.pinned (OpenSpec.ofChange pstreeSplitsSpec)

/-- ITS FALSE NEIGHBOUR: 'it returns false'. Refute it at one input. -/
def pstreeSplitsWrong : ChangeSpec := { name := "pstreeSplits", fn := fun _ => fun
  | [d1, d2, d3] => { results := [.lit (.bool false)], args := [d1, d2, d3] }
  | _ => none }
def PstreeSplitsWrongFalsely : Prop := pstreeSplitsRow.holds Try.pinned (OpenSpec.ofChange pstreeSplitsWrong)

/-- 'annalslaw11.PstreePlays': WHATEVER THE INPUT: true; the input reads as it did. -/
def pstreePlaysSpec : ChangeSpec := { name := "pstreePlays", fn := fun _ => fun
  | [d] => { results := [.lit (.bool true)], args := [d] }
  | _ => none }
def pstreePlaysRow : OpenClaim := { program := "ytcildmdmgjehbaa", sum := "11212d7cbb405a93f6dce80ea168a1269005a46970108332a19303908b4aade6", func := "annals/annalslaw11.PstreePlays", spec := "pstreePlays", recurses := true, apart := false }
def PstreePlaysSaid : Prop := pstreePlaysRow.holds Try.pinned (OpenSpec.ofChange pstreePlaysSpec)

/-- ITS FALSE NEIGHBOUR: 'it returns false'. Refute it at one input. -/
def pstreePlaysWrong : ChangeSpec := { name := "pstreePlays", fn := fun _ => fun
  | [d] => { results := [.lit (.bool false)], args := [d] }
  | _ => none }
def PstreePlaysWrongFalsely : Prop := pstreePlaysRow.holds Try.pinned (OpenSpec.ofChange pstreePlaysWrong)

/-- 'annalslaw11.PstreeDrains': WHATEVER THE INPUT: true; the input reads as it did. -/
def pstreeDrainsSpec : ChangeSpec := { name := "pstreeDrains", fn := fun _ => fun
  | [d] => { results := [.lit (.bool true)], args := [d] }
  | _ => none }
def pstreeDrainsRow : OpenClaim := { program := "ytcildmdmgjehbaa", sum := "11212d7cbb405a93f6dce80ea168a1269005a46970108332a19303908b4aade6", func := "annals/annalslaw11.PstreeDrains", spec := "pstreeDrains", recurses := true, apart := false }
def PstreeDrainsSaid : Prop := pstreeDrainsRow.holds Try.pinned (OpenSpec.ofChange pstreeDrainsSpec)

/-- ITS FALSE NEIGHBOUR: 'it returns false'. Refute it at one input. -/
def pstreeDrainsWrong : ChangeSpec := { name := "pstreeDrains", fn := fun _ => fun
  | [d] => { results := [.lit (.bool false)], args := [d] }
  | _ => none }
def PstreeDrainsWrongFalsely : Prop := pstreeDrainsRow.holds Try.pinned (OpenSpec.ofChange pstreeDrainsWrong)

/- THE SECOND FORM. 'bulk': how many values and letters a reading holds, each counted each time it is reached (what is shared counts as often as it is met; a slice's spare places count too). A statement '..UptoSaid' is the law's where the arguments, and the package variables that the reading takes, are together of bulk at most 1048576: NARROWER than '..Said'. Prove '..Said' where nothing that the law and all that it calls make is longer than what came in: it says more and counts as full. Else prove '..UptoSaid'. A law counts once. -/
mutual
def uptoBulk {H : Type} : DataW H → Nat
  | .lit (.string bytes) => bytes.length + 1
  | .lit _ => 1
  | .nil => 1
  | .ptr d => uptoBulk d + 1
  | .slice elems spare => uptoBulkAll elems + uptoBulkAll spare + 1
  | .agg parts => uptoBulkAll parts + 1
  | .iface _ d => uptoBulk d + 1
  | .map entries => uptoBulkEntries entries + 1
  | .held _ => 1
def uptoBulkAll {H : Type} : List (DataW H) → Nat
  | [] => 0
  | d :: r => uptoBulk d + uptoBulkAll r
def uptoBulkEntries {H : Type} : List (Lit × DataW H) → Nat
  | [] => 0
  | x :: r => uptoBulkEntry x + uptoBulkEntries r
def uptoBulkEntry {H : Type} : Lit × DataW H → Nat
  | (.string bytes, d) => bytes.length + uptoBulk d + 1
  | (_, d) => uptoBulk d + 1
 end
def uptoSmall : (H : Type) → List (DataW H) → Bool := fun _ ds => decide (uptoBulkAll ds ≤ 1048576)
def OpenSpec.upto (s : _root_.Go.ChangeSpec) : _root_.Go.OpenSpec := { _root_.Go.OpenSpec.ofChange s with cond := some uptoSmall }

/-- 'annalslaw11.PstreeStabs', WHERE WHAT IT READS IS OF BULK AT MOST 1048576: true; the input reads as it did. -/
def pstreeStabsUptoRow : OpenClaim := { program := "ytcildmdmgjehbaa", sum := "11212d7cbb405a93f6dce80ea168a1269005a46970108332a19303908b4aade6", func := "annals/annalslaw11.PstreeStabs", spec := "pstreeStabs", recurses := true, apart := false, narrowed := true }
def PstreeStabsUptoSaid : Prop := pstreeStabsUptoRow.holds Try.pinned (OpenSpec.upto pstreeStabsSpec)

/-- 'annalslaw11.PstreeSplits', WHERE WHAT IT READS IS OF BULK AT MOST 1048576: true; the input reads as it did. -/
def pstreeSplitsUptoRow : OpenClaim := { program := "ytcildmdmgjehbaa", sum := "11212d7cbb405a93f6dce80ea168a1269005a46970108332a19303908b4aade6", func := "annals/annalslaw11.PstreeSplits", spec := "pstreeSplits", recurses := true, apart := false, narrowed := true }
def PstreeSplitsUptoSaid : Prop := pstreeSplitsUptoRow.holds Try.pinned (OpenSpec.upto pstreeSplitsSpec)

/-- 'annalslaw11.PstreePlays', WHERE WHAT IT READS IS OF BULK AT MOST 1048576: true; the input reads as it did. -/
def pstreePlaysUptoRow : OpenClaim := { program := "ytcildmdmgjehbaa", sum := "11212d7cbb405a93f6dce80ea168a1269005a46970108332a19303908b4aade6", func := "annals/annalslaw11.PstreePlays", spec := "pstreePlays", recurses := true, apart := false, narrowed := true }
def PstreePlaysUptoSaid : Prop := pstreePlaysUptoRow.holds Try.pinned (OpenSpec.upto pstreePlaysSpec)

/-- 'annalslaw11.PstreeDrains', WHERE WHAT IT READS IS OF BULK AT MOST 1048576: true; the input reads as it did. -/
def pstreeDrainsUptoRow : OpenClaim := { program := "ytcildmdmgjehbaa", sum := "11212d7cbb405a93f6dce80ea168a1269005a46970108332a19303908b4aade6", func := "annals/annalslaw11.PstreeDrains", spec := "pstreeDrains", recurses := true, apart := false, narrowed := true }
def PstreeDrainsUptoSaid : Prop := pstreeDrainsUptoRow.holds Try.pinned (OpenSpec.upto pstreeDrainsSpec)

end Rows
end Go.Proofs.Ytcildmdmgjehbaa
