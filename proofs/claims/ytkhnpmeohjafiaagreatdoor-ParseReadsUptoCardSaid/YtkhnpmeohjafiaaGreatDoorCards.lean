/-
  DERIVED. GIVEN WITH THE SEED: THE CARDS: each row of YtkhnpmeohjafiaaGreatDoorRows.lean that lists a variable, with what it lists TIED to the program's text (the seventh form; the later family's looks); each row that meets fmt, with fmt's text TOLD by the authors' own Lean function (tested against real Go, not proved from fmt's source: count such statements apart). THE CARD IS WHAT COUNTS. Prove the row's statement (the work); the ties are given (YtkhnpmeohjafiaaGreatDoorTie.lean); close each card by the builder's one call (the guide's Derived/Test/ToyasCard.lean, 'card_holds'). Laid BY PROGRAM, IN A SANDBOX (cutbox-door.mjs). By AI agents, Wed Nov 11 2026. No macro, syntax, notation, axiom, sorry.
-/
import Derived.Test.YtkhnpmeohjafiaaGreatDoorRows
import GoSem.ClaimSeven
namespace Go.Proofs.YtkhnpmeohjafiaaGreatDoor
namespace Rows

/-- THE TIED CARD OF 'annalslaw15.ParseReads'. -/
def parseReadsCard : Claim7 := { stood := { row := parseReadsRow, standIns := [], harness := (true, "49d8c0df7c893b2aa72e6607852a75613cf656314c446cc21708fdf37179f305"), looks := true }, kinds := [], alts := [], laidByText := true, laidKinds := [.data, .data, .data, .data, .pinned, .pinned], laidTests := true, laidLooks := .later }
def ParseReadsCardSaid : Prop := Claim7.holds Tryz.pinned (.plain (OpenSpec.ofChange parseReadsSpec)) parseReadsCard

/-- THE TIED CARD OF 'annalslaw15.ParseBack'. -/
def parseBackCard : Claim7 := { stood := { row := parseBackRow, standIns := [], harness := (true, "49d8c0df7c893b2aa72e6607852a75613cf656314c446cc21708fdf37179f305"), looks := true }, kinds := [], alts := [], laidByText := true, laidKinds := [.data, .data, .data, .data, .pinned, .pinned], laidTests := true, laidLooks := .later }
def ParseBackCardSaid : Prop := Claim7.holds Tryz.pinned (.plain (OpenSpec.ofChange parseBackSpec)) parseBackCard

/-- THE TIED CARD OF 'annalslaw15.ParseDeep'. -/
def parseDeepCard : Claim7 := { stood := { row := parseDeepRow, standIns := [], harness := (true, "49d8c0df7c893b2aa72e6607852a75613cf656314c446cc21708fdf37179f305"), looks := true }, kinds := [], alts := [], laidByText := true, laidKinds := [.data, .data, .data, .data, .pinned, .pinned], laidTests := true, laidLooks := .later }
def ParseDeepCardSaid : Prop := Claim7.holds Tryz.pinned (.plain (OpenSpec.ofChange parseDeepSpec)) parseDeepCard

/-- THE TIED CARD OF 'annalslaw15.ParseRights'. -/
def parseRightsCard : Claim7 := { stood := { row := parseRightsRow, standIns := [], harness := (true, "49d8c0df7c893b2aa72e6607852a75613cf656314c446cc21708fdf37179f305"), looks := true }, kinds := [], alts := [], laidByText := true, laidKinds := [.data, .data, .data, .data, .pinned, .pinned], laidTests := true, laidLooks := .later }
def ParseRightsCardSaid : Prop := Claim7.holds Tryz.pinned (.plain (OpenSpec.ofChange parseRightsSpec)) parseRightsCard

/-- THE TIED CARD OF 'annalslaw15.ParseCase'. -/
def parseCaseCard : Claim7 := { stood := { row := parseCaseRow, standIns := [], harness := (true, "49d8c0df7c893b2aa72e6607852a75613cf656314c446cc21708fdf37179f305"), looks := true }, kinds := [], alts := [], laidByText := true, laidKinds := [.data, .data, .data, .data, .pinned, .pinned], laidTests := true, laidLooks := .later }
def ParseCaseCardSaid : Prop := Claim7.holds Tryz.pinned (.plain (OpenSpec.ofChange parseCaseSpec)) parseCaseCard

/-- THE SECOND FORM's CARD OF 'annalslaw15.ParseReads'. -/
def parseReadsUptoCard : Claim7 := { stood := { row := parseReadsUptoRow, standIns := [], harness := (true, "49d8c0df7c893b2aa72e6607852a75613cf656314c446cc21708fdf37179f305"), looks := true }, kinds := [], alts := [], laidByText := true, laidKinds := [.data, .data, .data, .data, .pinned, .pinned], laidTests := true, laidLooks := .later }
def ParseReadsUptoCardSaid : Prop := Claim7.holds Tryz.pinned (.plain (OpenSpec.upto parseReadsSpec)) parseReadsUptoCard

/-- THE SECOND FORM's CARD OF 'annalslaw15.ParseBack'. -/
def parseBackUptoCard : Claim7 := { stood := { row := parseBackUptoRow, standIns := [], harness := (true, "49d8c0df7c893b2aa72e6607852a75613cf656314c446cc21708fdf37179f305"), looks := true }, kinds := [], alts := [], laidByText := true, laidKinds := [.data, .data, .data, .data, .pinned, .pinned], laidTests := true, laidLooks := .later }
def ParseBackUptoCardSaid : Prop := Claim7.holds Tryz.pinned (.plain (OpenSpec.upto parseBackSpec)) parseBackUptoCard

/-- THE SECOND FORM's CARD OF 'annalslaw15.ParseDeep'. -/
def parseDeepUptoCard : Claim7 := { stood := { row := parseDeepUptoRow, standIns := [], harness := (true, "49d8c0df7c893b2aa72e6607852a75613cf656314c446cc21708fdf37179f305"), looks := true }, kinds := [], alts := [], laidByText := true, laidKinds := [.data, .data, .data, .data, .pinned, .pinned], laidTests := true, laidLooks := .later }
def ParseDeepUptoCardSaid : Prop := Claim7.holds Tryz.pinned (.plain (OpenSpec.upto parseDeepSpec)) parseDeepUptoCard

/-- THE SECOND FORM's CARD OF 'annalslaw15.ParseRights'. -/
def parseRightsUptoCard : Claim7 := { stood := { row := parseRightsUptoRow, standIns := [], harness := (true, "49d8c0df7c893b2aa72e6607852a75613cf656314c446cc21708fdf37179f305"), looks := true }, kinds := [], alts := [], laidByText := true, laidKinds := [.data, .data, .data, .data, .pinned, .pinned], laidTests := true, laidLooks := .later }
def ParseRightsUptoCardSaid : Prop := Claim7.holds Tryz.pinned (.plain (OpenSpec.upto parseRightsSpec)) parseRightsUptoCard

/-- THE SECOND FORM's CARD OF 'annalslaw15.ParseCase'. -/
def parseCaseUptoCard : Claim7 := { stood := { row := parseCaseUptoRow, standIns := [], harness := (true, "49d8c0df7c893b2aa72e6607852a75613cf656314c446cc21708fdf37179f305"), looks := true }, kinds := [], alts := [], laidByText := true, laidKinds := [.data, .data, .data, .data, .pinned, .pinned], laidTests := true, laidLooks := .later }
def ParseCaseUptoCardSaid : Prop := Claim7.holds Tryz.pinned (.plain (OpenSpec.upto parseCaseSpec)) parseCaseUptoCard
end Rows
end Go.Proofs.YtkhnpmeohjafiaaGreatDoor
