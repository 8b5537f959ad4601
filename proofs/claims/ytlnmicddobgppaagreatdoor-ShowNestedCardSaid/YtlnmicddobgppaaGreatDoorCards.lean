/-
  DERIVED. GIVEN WITH THE SEED: THE CARDS: each row of YtlnmicddobgppaaGreatDoorRows.lean that lists a variable, with what it lists TIED to the program's text (the seventh form; the later family's looks); each row that meets fmt, with fmt's text TOLD by the authors' own Lean function (tested against real Go, not proved from fmt's source: count such statements apart). THE CARD IS WHAT COUNTS. Prove the row's statement (the work); the ties are given (YtlnmicddobgppaaGreatDoorTie.lean); close each card by the builder's one call (the guide's Derived/Test/ToyasCard.lean, 'card_holds'). Laid BY PROGRAM, IN A SANDBOX (cutbox-door.mjs). By AI agents, Wed Nov 11 2026. No macro, syntax, notation, axiom, sorry.
-/
import Derived.Test.YtlnmicddobgppaaGreatDoorRows
import GoSem.ClaimSeven
namespace Go.Proofs.YtlnmicddobgppaaGreatDoor
namespace Rows

/-- THE TIED CARD OF 'treadwheellaw08.ParseTells'. -/
def parseTellsCard : Claim7 := { stood := { row := parseTellsRow, standIns := [], harness := (true, "4d4be56e7bbe4a3689f8e53ec3e1fefa3e5bece19e5a937af088318c8dc2b3ce"), looks := true }, kinds := [], alts := [], laidByText := true, laidKinds := [.data, .data, .data, .data, .sentinel, .sentinel, .pinned], laidTests := true, laidLooks := .later }
def ParseTellsCardSaid : Prop := Claim7.holds Tryz.pinned (.plain (OpenSpec.ofChange parseTellsSpec)) parseTellsCard

/-- THE TIED CARD OF 'treadwheellaw08.ParseParts'. -/
def parsePartsCard : Claim7 := { stood := { row := parsePartsRow, standIns := [], harness := (true, "4d4be56e7bbe4a3689f8e53ec3e1fefa3e5bece19e5a937af088318c8dc2b3ce"), looks := true }, kinds := [], alts := [], laidByText := true, laidKinds := [.data, .data, .data, .data, .sentinel, .sentinel, .pinned], laidTests := true, laidLooks := .later }
def ParsePartsCardSaid : Prop := Claim7.holds Tryz.pinned (.plain (OpenSpec.ofChange parsePartsSpec)) parsePartsCard

/-- THE TIED CARD OF 'treadwheellaw08.ParseJoins'. -/
def parseJoinsCard : Claim7 := { stood := { row := parseJoinsRow, standIns := [], harness := (true, "4d4be56e7bbe4a3689f8e53ec3e1fefa3e5bece19e5a937af088318c8dc2b3ce"), looks := true }, kinds := [], alts := [], laidByText := true, laidKinds := [.data, .data, .data, .data, .sentinel, .sentinel, .pinned], laidTests := true, laidLooks := .later }
def ParseJoinsCardSaid : Prop := Claim7.holds Tryz.pinned (.plain (OpenSpec.ofChange parseJoinsSpec)) parseJoinsCard

/-- THE TIED CARD OF 'treadwheellaw08.ParseCuts'. -/
def parseCutsCard : Claim7 := { stood := { row := parseCutsRow, standIns := [], harness := (true, "4d4be56e7bbe4a3689f8e53ec3e1fefa3e5bece19e5a937af088318c8dc2b3ce"), looks := true }, kinds := [], alts := [], laidByText := true, laidKinds := [.data, .data, .data, .data, .sentinel, .sentinel, .pinned], laidTests := true, laidLooks := .later }
def ParseCutsCardSaid : Prop := Claim7.holds Tryz.pinned (.plain (OpenSpec.ofChange parseCutsSpec)) parseCutsCard

/-- THE TIED CARD OF 'treadwheellaw08.ParseDeep'. -/
def parseDeepCard : Claim7 := { stood := { row := parseDeepRow, standIns := [], harness := (true, "4d4be56e7bbe4a3689f8e53ec3e1fefa3e5bece19e5a937af088318c8dc2b3ce"), looks := true }, kinds := [], alts := [], laidByText := true, laidKinds := [.data, .data, .data, .data, .sentinel, .sentinel, .pinned], laidTests := true, laidLooks := .later }
def ParseDeepCardSaid : Prop := Claim7.holds Tryz.pinned (.plain (OpenSpec.ofChange parseDeepSpec)) parseDeepCard

/-- THE TIED CARD OF 'treadwheellaw08.ParseRows'. -/
def parseRowsCard : Claim7 := { stood := { row := parseRowsRow, standIns := [], harness := (true, "4d4be56e7bbe4a3689f8e53ec3e1fefa3e5bece19e5a937af088318c8dc2b3ce"), looks := true }, kinds := [], alts := [], laidByText := true, laidKinds := [.data, .data, .data, .data, .sentinel, .sentinel, .pinned], laidTests := true, laidLooks := .later }
def ParseRowsCardSaid : Prop := Claim7.holds Tryz.pinned (.plain (OpenSpec.ofChange parseRowsSpec)) parseRowsCard

/-- THE TIED CARD OF 'treadwheellaw09.ShowNested'. -/
def showNestedCard : Claim7 := { stood := { row := showNestedRow, standIns := [], harness := (true, "4d4be56e7bbe4a3689f8e53ec3e1fefa3e5bece19e5a937af088318c8dc2b3ce"), looks := true }, kinds := [], alts := [], laidByText := true, laidKinds := [.data, .data, .data, .data, .sentinel, .sentinel, .pinned], laidTests := true, laidLooks := .later }
def ShowNestedCardSaid : Prop := Claim7.holds Tryz.pinned (.plain (OpenSpec.ofChange showNestedSpec)) showNestedCard

/-- THE SECOND FORM's CARD OF 'treadwheellaw08.ParseTells'. -/
def parseTellsUptoCard : Claim7 := { stood := { row := parseTellsUptoRow, standIns := [], harness := (true, "4d4be56e7bbe4a3689f8e53ec3e1fefa3e5bece19e5a937af088318c8dc2b3ce"), looks := true }, kinds := [], alts := [], laidByText := true, laidKinds := [.data, .data, .data, .data, .sentinel, .sentinel, .pinned], laidTests := true, laidLooks := .later }
def ParseTellsUptoCardSaid : Prop := Claim7.holds Tryz.pinned (.plain (OpenSpec.upto parseTellsSpec)) parseTellsUptoCard

/-- THE SECOND FORM's CARD OF 'treadwheellaw08.ParseParts'. -/
def parsePartsUptoCard : Claim7 := { stood := { row := parsePartsUptoRow, standIns := [], harness := (true, "4d4be56e7bbe4a3689f8e53ec3e1fefa3e5bece19e5a937af088318c8dc2b3ce"), looks := true }, kinds := [], alts := [], laidByText := true, laidKinds := [.data, .data, .data, .data, .sentinel, .sentinel, .pinned], laidTests := true, laidLooks := .later }
def ParsePartsUptoCardSaid : Prop := Claim7.holds Tryz.pinned (.plain (OpenSpec.upto parsePartsSpec)) parsePartsUptoCard

/-- THE SECOND FORM's CARD OF 'treadwheellaw08.ParseJoins'. -/
def parseJoinsUptoCard : Claim7 := { stood := { row := parseJoinsUptoRow, standIns := [], harness := (true, "4d4be56e7bbe4a3689f8e53ec3e1fefa3e5bece19e5a937af088318c8dc2b3ce"), looks := true }, kinds := [], alts := [], laidByText := true, laidKinds := [.data, .data, .data, .data, .sentinel, .sentinel, .pinned], laidTests := true, laidLooks := .later }
def ParseJoinsUptoCardSaid : Prop := Claim7.holds Tryz.pinned (.plain (OpenSpec.upto parseJoinsSpec)) parseJoinsUptoCard

/-- THE SECOND FORM's CARD OF 'treadwheellaw08.ParseCuts'. -/
def parseCutsUptoCard : Claim7 := { stood := { row := parseCutsUptoRow, standIns := [], harness := (true, "4d4be56e7bbe4a3689f8e53ec3e1fefa3e5bece19e5a937af088318c8dc2b3ce"), looks := true }, kinds := [], alts := [], laidByText := true, laidKinds := [.data, .data, .data, .data, .sentinel, .sentinel, .pinned], laidTests := true, laidLooks := .later }
def ParseCutsUptoCardSaid : Prop := Claim7.holds Tryz.pinned (.plain (OpenSpec.upto parseCutsSpec)) parseCutsUptoCard

/-- THE SECOND FORM's CARD OF 'treadwheellaw08.ParseDeep'. -/
def parseDeepUptoCard : Claim7 := { stood := { row := parseDeepUptoRow, standIns := [], harness := (true, "4d4be56e7bbe4a3689f8e53ec3e1fefa3e5bece19e5a937af088318c8dc2b3ce"), looks := true }, kinds := [], alts := [], laidByText := true, laidKinds := [.data, .data, .data, .data, .sentinel, .sentinel, .pinned], laidTests := true, laidLooks := .later }
def ParseDeepUptoCardSaid : Prop := Claim7.holds Tryz.pinned (.plain (OpenSpec.upto parseDeepSpec)) parseDeepUptoCard

/-- THE SECOND FORM's CARD OF 'treadwheellaw08.ParseRows'. -/
def parseRowsUptoCard : Claim7 := { stood := { row := parseRowsUptoRow, standIns := [], harness := (true, "4d4be56e7bbe4a3689f8e53ec3e1fefa3e5bece19e5a937af088318c8dc2b3ce"), looks := true }, kinds := [], alts := [], laidByText := true, laidKinds := [.data, .data, .data, .data, .sentinel, .sentinel, .pinned], laidTests := true, laidLooks := .later }
def ParseRowsUptoCardSaid : Prop := Claim7.holds Tryz.pinned (.plain (OpenSpec.upto parseRowsSpec)) parseRowsUptoCard

/-- THE SECOND FORM's CARD OF 'treadwheellaw09.ShowNested'. -/
def showNestedUptoCard : Claim7 := { stood := { row := showNestedUptoRow, standIns := [], harness := (true, "4d4be56e7bbe4a3689f8e53ec3e1fefa3e5bece19e5a937af088318c8dc2b3ce"), looks := true }, kinds := [], alts := [], laidByText := true, laidKinds := [.data, .data, .data, .data, .sentinel, .sentinel, .pinned], laidTests := true, laidLooks := .later }
def ShowNestedUptoCardSaid : Prop := Claim7.holds Tryz.pinned (.plain (OpenSpec.upto showNestedSpec)) showNestedUptoCard
end Rows
end Go.Proofs.YtlnmicddobgppaaGreatDoor
