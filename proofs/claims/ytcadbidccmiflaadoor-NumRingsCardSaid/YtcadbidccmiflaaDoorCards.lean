/-
  DERIVED. GIVEN WITH THE SEED: THE CARDS: each row of YtcadbidccmiflaaDoorRows.lean that lists a variable, with what it lists TIED to the program's text (the seventh form; the later family's looks); each row that meets fmt, with fmt's text TOLD by the authors' own Lean function (tested against real Go, not proved from fmt's source: count such statements apart). THE CARD IS WHAT COUNTS. Prove the row's statement (the work); the ties are given (YtcadbidccmiflaaDoorTie.lean); close each card by the builder's one call (the guide's Derived/Test/ToyasCard.lean, 'card_holds'). Laid BY PROGRAM, IN A SANDBOX (cutbox-door.mjs). By AI agents, Wed Nov 11 2026. No macro, syntax, notation, axiom, sorry.
-/
import Derived.Test.YtcadbidccmiflaaDoorRows
import GoSem.ClaimSeven
namespace Go.Proofs.YtcadbidccmiflaaDoor
namespace Rows

/-- THE TIED CARD OF 'treadwheellaw01.NumRings'. -/
def numRingsCard : Claim7 := { stood := { row := numRingsRow, standIns := [], harness := (true, "f239a30b611459ae78fd9a1a0154d154c2849348777032287c1f5b6285de93e0"), looks := true }, kinds := [], alts := [], laidByText := true, laidKinds := [.data, .data, .data], laidTests := true, laidLooks := .later }
def NumRingsCardSaid : Prop := Claim7.holds Tryd.pinned (.plain (OpenSpec.ofChange numRingsSpec)) numRingsCard

/-- THE TIED CARD OF 'treadwheellaw01.NumTrunc'. -/
def numTruncCard : Claim7 := { stood := { row := numTruncRow, standIns := [], harness := (true, "f239a30b611459ae78fd9a1a0154d154c2849348777032287c1f5b6285de93e0"), looks := true }, kinds := [], alts := [], laidByText := true, laidKinds := [.data, .data, .data], laidTests := true, laidLooks := .later }
def NumTruncCardSaid : Prop := Claim7.holds Tryd.pinned (.plain (OpenSpec.ofChange numTruncSpec)) numTruncCard

/-- THE TIED CARD OF 'treadwheellaw01.NumSmall'. -/
def numSmallCard : Claim7 := { stood := { row := numSmallRow, standIns := [], harness := (true, "f239a30b611459ae78fd9a1a0154d154c2849348777032287c1f5b6285de93e0"), looks := true }, kinds := [], alts := [], laidByText := true, laidKinds := [.data, .data, .data], laidTests := true, laidLooks := .later }
def NumSmallCardSaid : Prop := Claim7.holds Tryd.pinned (.plain (OpenSpec.ofChange numSmallSpec)) numSmallCard

/-- THE TIED CARD OF 'treadwheellaw01.NumCalcs'. -/
def numCalcsCard : Claim7 := { stood := { row := numCalcsRow, standIns := [], harness := (true, "f239a30b611459ae78fd9a1a0154d154c2849348777032287c1f5b6285de93e0"), looks := true }, kinds := [], alts := [], laidByText := true, laidKinds := [.data, .data, .data], laidTests := true, laidLooks := .later }
def NumCalcsCardSaid : Prop := Claim7.holds Tryd.pinned (.plain (OpenSpec.ofChange numCalcsSpec)) numCalcsCard

/-- THE TIED CARD OF 'treadwheellaw01.NumFloats'. -/
def numFloatsCard : Claim7 := { stood := { row := numFloatsRow, standIns := [], harness := (true, "f239a30b611459ae78fd9a1a0154d154c2849348777032287c1f5b6285de93e0"), looks := true }, kinds := [], alts := [], laidByText := true, laidKinds := [.data, .data, .data], laidTests := true, laidLooks := .later }
def NumFloatsCardSaid : Prop := Claim7.holds Tryd.pinned (.plain (OpenSpec.ofChange numFloatsSpec)) numFloatsCard

/-- THE TIED CARD OF 'treadwheellaw01.NumOrders'. -/
def numOrdersCard : Claim7 := { stood := { row := numOrdersRow, standIns := [], harness := (true, "f239a30b611459ae78fd9a1a0154d154c2849348777032287c1f5b6285de93e0"), looks := true }, kinds := [], alts := [], laidByText := true, laidKinds := [.data, .data, .data], laidTests := true, laidLooks := .later }
def NumOrdersCardSaid : Prop := Claim7.holds Tryd.pinned (.plain (OpenSpec.ofChange numOrdersSpec)) numOrdersCard

/-- THE TIED CARD OF 'treadwheellaw01.NumKinds'. -/
def numKindsCard : Claim7 := { stood := { row := numKindsRow, standIns := [], harness := (true, "f239a30b611459ae78fd9a1a0154d154c2849348777032287c1f5b6285de93e0"), looks := true }, kinds := [], alts := [], laidByText := true, laidKinds := [.data, .data, .data], laidTests := true, laidLooks := .later }
def NumKindsCardSaid : Prop := Claim7.holds Tryd.pinned (.plain (OpenSpec.ofChange numKindsSpec)) numKindsCard

/-- THE TIED CARD OF 'treadwheellaw01.NumTexts'. -/
def numTextsCard : Claim7 := { stood := { row := numTextsRow, standIns := [], harness := (true, "f239a30b611459ae78fd9a1a0154d154c2849348777032287c1f5b6285de93e0"), looks := true }, kinds := [], alts := [], laidByText := true, laidKinds := [.data, .data, .data, .data, .sentinel, .sentinel, .pinned], laidTests := true, laidLooks := .later }
def NumTextsCardSaid : Prop := Claim7.holds Tryd.pinned (.plain (OpenSpec.ofChange numTextsSpec)) numTextsCard

/-- THE TIED CARD OF 'treadwheellaw01.NumBack'. -/
def numBackCard : Claim7 := { stood := { row := numBackRow, standIns := [], harness := (true, "f239a30b611459ae78fd9a1a0154d154c2849348777032287c1f5b6285de93e0"), looks := true }, kinds := [], alts := [], laidByText := true, laidKinds := [.data, .data, .data, .data, .sentinel, .sentinel, .pinned], laidTests := true, laidLooks := .later }
def NumBackCardSaid : Prop := Claim7.holds Tryd.pinned (.plain (OpenSpec.ofChange numBackSpec)) numBackCard

/-- THE SECOND FORM's CARD OF 'treadwheellaw01.NumRings'. -/
def numRingsUptoCard : Claim7 := { stood := { row := numRingsUptoRow, standIns := [], harness := (true, "f239a30b611459ae78fd9a1a0154d154c2849348777032287c1f5b6285de93e0"), looks := true }, kinds := [], alts := [], laidByText := true, laidKinds := [.data, .data, .data], laidTests := true, laidLooks := .later }
def NumRingsUptoCardSaid : Prop := Claim7.holds Tryd.pinned (.plain (OpenSpec.upto numRingsSpec)) numRingsUptoCard

/-- THE SECOND FORM's CARD OF 'treadwheellaw01.NumTrunc'. -/
def numTruncUptoCard : Claim7 := { stood := { row := numTruncUptoRow, standIns := [], harness := (true, "f239a30b611459ae78fd9a1a0154d154c2849348777032287c1f5b6285de93e0"), looks := true }, kinds := [], alts := [], laidByText := true, laidKinds := [.data, .data, .data], laidTests := true, laidLooks := .later }
def NumTruncUptoCardSaid : Prop := Claim7.holds Tryd.pinned (.plain (OpenSpec.upto numTruncSpec)) numTruncUptoCard

/-- THE SECOND FORM's CARD OF 'treadwheellaw01.NumSmall'. -/
def numSmallUptoCard : Claim7 := { stood := { row := numSmallUptoRow, standIns := [], harness := (true, "f239a30b611459ae78fd9a1a0154d154c2849348777032287c1f5b6285de93e0"), looks := true }, kinds := [], alts := [], laidByText := true, laidKinds := [.data, .data, .data], laidTests := true, laidLooks := .later }
def NumSmallUptoCardSaid : Prop := Claim7.holds Tryd.pinned (.plain (OpenSpec.upto numSmallSpec)) numSmallUptoCard

/-- THE SECOND FORM's CARD OF 'treadwheellaw01.NumCalcs'. -/
def numCalcsUptoCard : Claim7 := { stood := { row := numCalcsUptoRow, standIns := [], harness := (true, "f239a30b611459ae78fd9a1a0154d154c2849348777032287c1f5b6285de93e0"), looks := true }, kinds := [], alts := [], laidByText := true, laidKinds := [.data, .data, .data], laidTests := true, laidLooks := .later }
def NumCalcsUptoCardSaid : Prop := Claim7.holds Tryd.pinned (.plain (OpenSpec.upto numCalcsSpec)) numCalcsUptoCard

/-- THE SECOND FORM's CARD OF 'treadwheellaw01.NumFloats'. -/
def numFloatsUptoCard : Claim7 := { stood := { row := numFloatsUptoRow, standIns := [], harness := (true, "f239a30b611459ae78fd9a1a0154d154c2849348777032287c1f5b6285de93e0"), looks := true }, kinds := [], alts := [], laidByText := true, laidKinds := [.data, .data, .data], laidTests := true, laidLooks := .later }
def NumFloatsUptoCardSaid : Prop := Claim7.holds Tryd.pinned (.plain (OpenSpec.upto numFloatsSpec)) numFloatsUptoCard

/-- THE SECOND FORM's CARD OF 'treadwheellaw01.NumOrders'. -/
def numOrdersUptoCard : Claim7 := { stood := { row := numOrdersUptoRow, standIns := [], harness := (true, "f239a30b611459ae78fd9a1a0154d154c2849348777032287c1f5b6285de93e0"), looks := true }, kinds := [], alts := [], laidByText := true, laidKinds := [.data, .data, .data], laidTests := true, laidLooks := .later }
def NumOrdersUptoCardSaid : Prop := Claim7.holds Tryd.pinned (.plain (OpenSpec.upto numOrdersSpec)) numOrdersUptoCard

/-- THE SECOND FORM's CARD OF 'treadwheellaw01.NumKinds'. -/
def numKindsUptoCard : Claim7 := { stood := { row := numKindsUptoRow, standIns := [], harness := (true, "f239a30b611459ae78fd9a1a0154d154c2849348777032287c1f5b6285de93e0"), looks := true }, kinds := [], alts := [], laidByText := true, laidKinds := [.data, .data, .data], laidTests := true, laidLooks := .later }
def NumKindsUptoCardSaid : Prop := Claim7.holds Tryd.pinned (.plain (OpenSpec.upto numKindsSpec)) numKindsUptoCard

/-- THE SECOND FORM's CARD OF 'treadwheellaw01.NumTexts'. -/
def numTextsUptoCard : Claim7 := { stood := { row := numTextsUptoRow, standIns := [], harness := (true, "f239a30b611459ae78fd9a1a0154d154c2849348777032287c1f5b6285de93e0"), looks := true }, kinds := [], alts := [], laidByText := true, laidKinds := [.data, .data, .data, .data, .sentinel, .sentinel, .pinned], laidTests := true, laidLooks := .later }
def NumTextsUptoCardSaid : Prop := Claim7.holds Tryd.pinned (.plain (OpenSpec.upto numTextsSpec)) numTextsUptoCard

/-- THE SECOND FORM's CARD OF 'treadwheellaw01.NumBack'. -/
def numBackUptoCard : Claim7 := { stood := { row := numBackUptoRow, standIns := [], harness := (true, "f239a30b611459ae78fd9a1a0154d154c2849348777032287c1f5b6285de93e0"), looks := true }, kinds := [], alts := [], laidByText := true, laidKinds := [.data, .data, .data, .data, .sentinel, .sentinel, .pinned], laidTests := true, laidLooks := .later }
def NumBackUptoCardSaid : Prop := Claim7.holds Tryd.pinned (.plain (OpenSpec.upto numBackSpec)) numBackUptoCard
end Rows
end Go.Proofs.YtcadbidccmiflaaDoor
