/-
  DERIVED. GIVEN WITH THE SEED: THE CARDS: each row of YtpjlibbdngnnnaaDoorRows.lean that lists a variable, with what it lists TIED to the program's text (the seventh form; the later family's looks); each row that meets fmt, with fmt's text TOLD by the authors' own Lean function (tested against real Go, not proved from fmt's source: count such statements apart). THE CARD IS WHAT COUNTS. Prove the row's statement (the work); the ties are given (YtpjlibbdngnnnaaDoorTie.lean); close each card by the builder's one call (the guide's Derived/Test/ToyasCard.lean, 'card_holds'). Laid BY PROGRAM, IN A SANDBOX (cutbox-door.mjs). By AI agents, Wed Nov 11 2026. No macro, syntax, notation, axiom, sorry.
-/
import Derived.Test.YtpjlibbdngnnnaaDoorRows
import GoSem.ClaimSeven
namespace Go.Proofs.YtpjlibbdngnnnaaDoor
namespace Rows

/-- THE TIED CARD OF 'treadwheellaw10.ScopeOrder'. -/
def scopeOrderCard : Claim7 := { stood := { row := scopeOrderRow, standIns := [], harness := (true, "5c2a637f156f078e25d2cd81860e1a8378a4c71b9cf8c17c6b338c4d75864fd2"), looks := true }, kinds := [], alts := [], laidByText := true, laidKinds := [.handle], laidTests := true, laidLooks := .later }
def ScopeOrderCardSaid : Prop := Claim7.holds Tryd.pinned (.plain (OpenSpec.ofChange scopeOrderSpec)) scopeOrderCard

/-- THE TIED CARD OF 'treadwheellaw10.ScopeFree'. -/
def scopeFreeCard : Claim7 := { stood := { row := scopeFreeRow, standIns := [], harness := (true, "5c2a637f156f078e25d2cd81860e1a8378a4c71b9cf8c17c6b338c4d75864fd2"), looks := true }, kinds := [], alts := [], laidByText := true, laidKinds := [.handle], laidTests := true, laidLooks := .later }
def ScopeFreeCardSaid : Prop := Claim7.holds Tryd.pinned (.plain (OpenSpec.ofChange scopeFreeSpec)) scopeFreeCard

/-- THE TIED CARD OF 'treadwheellaw11.ArityScope'. -/
def arityScopeCard : Claim7 := { stood := { row := arityScopeRow, standIns := [], harness := (true, "5c2a637f156f078e25d2cd81860e1a8378a4c71b9cf8c17c6b338c4d75864fd2"), looks := true }, kinds := [], alts := [], laidByText := true, laidKinds := [.handle], laidTests := true, laidLooks := .later }
def ArityScopeCardSaid : Prop := Claim7.holds Tryd.pinned (.plain (OpenSpec.ofChange arityScopeSpec)) arityScopeCard

/-- THE TIED CARD OF 'treadwheellaw11.ArityWide'. -/
def arityWideCard : Claim7 := { stood := { row := arityWideRow, standIns := [], harness := (true, "5c2a637f156f078e25d2cd81860e1a8378a4c71b9cf8c17c6b338c4d75864fd2"), looks := true }, kinds := [], alts := [], laidByText := true, laidKinds := [.handle], laidTests := true, laidLooks := .later }
def ArityWideCardSaid : Prop := Claim7.holds Tryd.pinned (.plain (OpenSpec.ofChange arityWideSpec)) arityWideCard

/-- THE TIED CARD OF 'treadwheellaw11.ArityCounts'. -/
def arityCountsCard : Claim7 := { stood := { row := arityCountsRow, standIns := [], harness := (true, "5c2a637f156f078e25d2cd81860e1a8378a4c71b9cf8c17c6b338c4d75864fd2"), looks := true }, kinds := [], alts := [], laidByText := true, laidKinds := [.handle], laidTests := true, laidLooks := .later }
def ArityCountsCardSaid : Prop := Claim7.holds Tryd.pinned (.plain (OpenSpec.ofChange arityCountsSpec)) arityCountsCard

/-- THE TIED CARD OF 'treadwheellaw09.ShowTells'. -/
def showTellsCard : Claim7 := { stood := { row := showTellsRow, standIns := [], harness := (true, "5c2a637f156f078e25d2cd81860e1a8378a4c71b9cf8c17c6b338c4d75864fd2"), looks := true }, kinds := [], alts := [], laidByText := true, laidKinds := [.data, .data, .data], laidTests := true, laidLooks := .later }
def ShowTellsCardSaid : Prop := Claim7.holds Tryd.pinned (.plain (OpenSpec.ofChange showTellsSpec)) showTellsCard

/-- THE TIED CARD OF 'treadwheellaw09.ShowParts'. -/
def showPartsCard : Claim7 := { stood := { row := showPartsRow, standIns := [], harness := (true, "5c2a637f156f078e25d2cd81860e1a8378a4c71b9cf8c17c6b338c4d75864fd2"), looks := true }, kinds := [], alts := [], laidByText := true, laidKinds := [.data, .data, .data], laidTests := true, laidLooks := .later }
def ShowPartsCardSaid : Prop := Claim7.holds Tryd.pinned (.plain (OpenSpec.ofChange showPartsSpec)) showPartsCard

/-- THE SECOND FORM's CARD OF 'treadwheellaw10.ScopeOrder'. -/
def scopeOrderUptoCard : Claim7 := { stood := { row := scopeOrderUptoRow, standIns := [], harness := (true, "5c2a637f156f078e25d2cd81860e1a8378a4c71b9cf8c17c6b338c4d75864fd2"), looks := true }, kinds := [], alts := [], laidByText := true, laidKinds := [.handle], laidTests := true, laidLooks := .later }
def ScopeOrderUptoCardSaid : Prop := Claim7.holds Tryd.pinned (.plain (OpenSpec.upto scopeOrderSpec)) scopeOrderUptoCard

/-- THE SECOND FORM's CARD OF 'treadwheellaw10.ScopeFree'. -/
def scopeFreeUptoCard : Claim7 := { stood := { row := scopeFreeUptoRow, standIns := [], harness := (true, "5c2a637f156f078e25d2cd81860e1a8378a4c71b9cf8c17c6b338c4d75864fd2"), looks := true }, kinds := [], alts := [], laidByText := true, laidKinds := [.handle], laidTests := true, laidLooks := .later }
def ScopeFreeUptoCardSaid : Prop := Claim7.holds Tryd.pinned (.plain (OpenSpec.upto scopeFreeSpec)) scopeFreeUptoCard

/-- THE SECOND FORM's CARD OF 'treadwheellaw11.ArityScope'. -/
def arityScopeUptoCard : Claim7 := { stood := { row := arityScopeUptoRow, standIns := [], harness := (true, "5c2a637f156f078e25d2cd81860e1a8378a4c71b9cf8c17c6b338c4d75864fd2"), looks := true }, kinds := [], alts := [], laidByText := true, laidKinds := [.handle], laidTests := true, laidLooks := .later }
def ArityScopeUptoCardSaid : Prop := Claim7.holds Tryd.pinned (.plain (OpenSpec.upto arityScopeSpec)) arityScopeUptoCard

/-- THE SECOND FORM's CARD OF 'treadwheellaw11.ArityWide'. -/
def arityWideUptoCard : Claim7 := { stood := { row := arityWideUptoRow, standIns := [], harness := (true, "5c2a637f156f078e25d2cd81860e1a8378a4c71b9cf8c17c6b338c4d75864fd2"), looks := true }, kinds := [], alts := [], laidByText := true, laidKinds := [.handle], laidTests := true, laidLooks := .later }
def ArityWideUptoCardSaid : Prop := Claim7.holds Tryd.pinned (.plain (OpenSpec.upto arityWideSpec)) arityWideUptoCard

/-- THE SECOND FORM's CARD OF 'treadwheellaw11.ArityCounts'. -/
def arityCountsUptoCard : Claim7 := { stood := { row := arityCountsUptoRow, standIns := [], harness := (true, "5c2a637f156f078e25d2cd81860e1a8378a4c71b9cf8c17c6b338c4d75864fd2"), looks := true }, kinds := [], alts := [], laidByText := true, laidKinds := [.handle], laidTests := true, laidLooks := .later }
def ArityCountsUptoCardSaid : Prop := Claim7.holds Tryd.pinned (.plain (OpenSpec.upto arityCountsSpec)) arityCountsUptoCard

/-- THE SECOND FORM's CARD OF 'treadwheellaw09.ShowTells'. -/
def showTellsUptoCard : Claim7 := { stood := { row := showTellsUptoRow, standIns := [], harness := (true, "5c2a637f156f078e25d2cd81860e1a8378a4c71b9cf8c17c6b338c4d75864fd2"), looks := true }, kinds := [], alts := [], laidByText := true, laidKinds := [.data, .data, .data], laidTests := true, laidLooks := .later }
def ShowTellsUptoCardSaid : Prop := Claim7.holds Tryd.pinned (.plain (OpenSpec.upto showTellsSpec)) showTellsUptoCard

/-- THE SECOND FORM's CARD OF 'treadwheellaw09.ShowParts'. -/
def showPartsUptoCard : Claim7 := { stood := { row := showPartsUptoRow, standIns := [], harness := (true, "5c2a637f156f078e25d2cd81860e1a8378a4c71b9cf8c17c6b338c4d75864fd2"), looks := true }, kinds := [], alts := [], laidByText := true, laidKinds := [.data, .data, .data], laidTests := true, laidLooks := .later }
def ShowPartsUptoCardSaid : Prop := Claim7.holds Tryd.pinned (.plain (OpenSpec.upto showPartsSpec)) showPartsUptoCard
end Rows
end Go.Proofs.YtpjlibbdngnnnaaDoor
