/-
  DERIVED. GIVEN WITH THE SEED: THE CARDS: each row of YtpjlibbdngnnnaaGreatDoorRows.lean that lists a variable, with what it lists TIED to the program's text (the seventh form; the later family's looks); each row that meets fmt, with fmt's text TOLD by the authors' own Lean function (tested against real Go, not proved from fmt's source: count such statements apart). THE CARD IS WHAT COUNTS. Prove the row's statement (the work); the ties are given (YtpjlibbdngnnnaaGreatDoorTie.lean); close each card by the builder's one call (the guide's Derived/Test/ToyasCard.lean, 'card_holds'). Laid BY PROGRAM, IN A SANDBOX (cutbox-door.mjs). By AI agents, Wed Nov 11 2026. No macro, syntax, notation, axiom, sorry.
-/
import Derived.Test.YtpjlibbdngnnnaaGreatDoorRows
import GoSem.ClaimSeven
namespace Go.Proofs.YtpjlibbdngnnnaaGreatDoor
namespace Rows

/-- THE TIED CARD OF 'treadwheellaw10.ScopeTells'. -/
def scopeTellsCard : Claim7 := { stood := { row := scopeTellsRow, standIns := [], harness := (true, "22ad03c709afe4b882df015c1a7fa56c02e6da49af2a4d7351b07aa277984881"), looks := true }, kinds := [], alts := [], laidByText := true, laidKinds := [.handle], laidTests := true, laidLooks := .later }
def ScopeTellsCardSaid : Prop := Claim7.holds Tryz.pinned (.plain (OpenSpec.ofChange scopeTellsSpec)) scopeTellsCard

/-- THE TIED CARD OF 'treadwheellaw11.ArityTells'. -/
def arityTellsCard : Claim7 := { stood := { row := arityTellsRow, standIns := [], harness := (true, "22ad03c709afe4b882df015c1a7fa56c02e6da49af2a4d7351b07aa277984881"), looks := true }, kinds := [], alts := [], laidByText := true, laidKinds := [.handle], laidTests := true, laidLooks := .later }
def ArityTellsCardSaid : Prop := Claim7.holds Tryz.pinned (.plain (OpenSpec.ofChange arityTellsSpec)) arityTellsCard

/-- THE TIED CARD OF 'treadwheellaw09.ShowNested'. -/
def showNestedCard : Claim7 := { stood := { row := showNestedRow, standIns := [], harness := (true, "22ad03c709afe4b882df015c1a7fa56c02e6da49af2a4d7351b07aa277984881"), looks := true }, kinds := [], alts := [], laidByText := true, laidKinds := [.data, .data, .data, .data, .sentinel, .sentinel, .pinned], laidTests := true, laidLooks := .later }
def ShowNestedCardSaid : Prop := Claim7.holds Tryz.pinned (.plain (OpenSpec.ofChange showNestedSpec)) showNestedCard

/-- THE SECOND FORM's CARD OF 'treadwheellaw10.ScopeTells'. -/
def scopeTellsUptoCard : Claim7 := { stood := { row := scopeTellsUptoRow, standIns := [], harness := (true, "22ad03c709afe4b882df015c1a7fa56c02e6da49af2a4d7351b07aa277984881"), looks := true }, kinds := [], alts := [], laidByText := true, laidKinds := [.handle], laidTests := true, laidLooks := .later }
def ScopeTellsUptoCardSaid : Prop := Claim7.holds Tryz.pinned (.plain (OpenSpec.upto scopeTellsSpec)) scopeTellsUptoCard

/-- THE SECOND FORM's CARD OF 'treadwheellaw11.ArityTells'. -/
def arityTellsUptoCard : Claim7 := { stood := { row := arityTellsUptoRow, standIns := [], harness := (true, "22ad03c709afe4b882df015c1a7fa56c02e6da49af2a4d7351b07aa277984881"), looks := true }, kinds := [], alts := [], laidByText := true, laidKinds := [.handle], laidTests := true, laidLooks := .later }
def ArityTellsUptoCardSaid : Prop := Claim7.holds Tryz.pinned (.plain (OpenSpec.upto arityTellsSpec)) arityTellsUptoCard

/-- THE SECOND FORM's CARD OF 'treadwheellaw09.ShowNested'. -/
def showNestedUptoCard : Claim7 := { stood := { row := showNestedUptoRow, standIns := [], harness := (true, "22ad03c709afe4b882df015c1a7fa56c02e6da49af2a4d7351b07aa277984881"), looks := true }, kinds := [], alts := [], laidByText := true, laidKinds := [.data, .data, .data, .data, .sentinel, .sentinel, .pinned], laidTests := true, laidLooks := .later }
def ShowNestedUptoCardSaid : Prop := Claim7.holds Tryz.pinned (.plain (OpenSpec.upto showNestedSpec)) showNestedUptoCard
end Rows
end Go.Proofs.YtpjlibbdngnnnaaGreatDoor
