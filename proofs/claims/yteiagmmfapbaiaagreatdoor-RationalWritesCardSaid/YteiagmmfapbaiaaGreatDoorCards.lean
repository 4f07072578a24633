/-
  DERIVED. GIVEN WITH THE SEED: THE CARDS: each row of YteiagmmfapbaiaaGreatDoorRows.lean that lists a variable, with what it lists TIED to the program's text (the seventh form; the later family's looks); each row that meets fmt, with fmt's text TOLD by the authors' own Lean function (tested against real Go, not proved from fmt's source: count such statements apart). THE CARD IS WHAT COUNTS. Prove the row's statement (the work); the ties are given (YteiagmmfapbaiaaGreatDoorTie.lean); close each card by the builder's one call (the guide's Derived/Test/ToyasCard.lean, 'card_holds'). Laid BY PROGRAM, IN A SANDBOX (cutbox-door.mjs). By AI agents, Wed Nov 11 2026. No macro, syntax, notation, axiom, sorry.
-/
import Derived.Test.YteiagmmfapbaiaaGreatDoorRows
import GoSem.ClaimSeven
namespace Go.Proofs.YteiagmmfapbaiaaGreatDoor
namespace Rows

/-- THE TIED CARD OF 'robuststatslaw03.RationalMakes'. -/
def rationalMakesCard : Claim7 := { stood := { row := rationalMakesRow, standIns := [], harness := (true, "132e13d59821e04fd7f7982d1daf916b200ff61345d62a7f5cfa8adf44d3fff4"), looks := false }, kinds := [], alts := [], laidByText := true, laidKinds := [.data, .data, .data, .data, .pinned], laidTests := true, laidLooks := .later }
def RationalMakesCardSaid : Prop := Claim7.holds Tryz.pinned (.plain (OpenSpec.ofChange rationalMakesSpec)) rationalMakesCard

/-- THE TIED CARD OF 'robuststatslaw03.RationalWrites'. -/
def rationalWritesCard : Claim7 := { stood := { row := rationalWritesRow, standIns := [], harness := (true, "132e13d59821e04fd7f7982d1daf916b200ff61345d62a7f5cfa8adf44d3fff4"), looks := false }, kinds := [], alts := [], laidByText := true, laidKinds := [.data, .data, .data, .data, .pinned], laidTests := true, laidLooks := .later }
def RationalWritesCardSaid : Prop := Claim7.holds Tryz.pinned (.plain (OpenSpec.ofChange rationalWritesSpec)) rationalWritesCard

/-- THE TIED CARD OF 'robuststatslaw03.RationalIsInLowestTerms'. -/
def rationalIsInLowestTermsCard : Claim7 := { stood := { row := rationalIsInLowestTermsRow, standIns := [], harness := (true, "132e13d59821e04fd7f7982d1daf916b200ff61345d62a7f5cfa8adf44d3fff4"), looks := false }, kinds := [], alts := [], laidByText := true, laidKinds := [.data, .data, .data, .data, .pinned], laidTests := true, laidLooks := .later }
def RationalIsInLowestTermsCardSaid : Prop := Claim7.holds Tryz.pinned (.plain (OpenSpec.ofChange rationalIsInLowestTermsSpec)) rationalIsInLowestTermsCard

/-- THE TIED CARD OF 'robuststatslaw03.RationalReadsBack'. -/
def rationalReadsBackCard : Claim7 := { stood := { row := rationalReadsBackRow, standIns := [], harness := (true, "132e13d59821e04fd7f7982d1daf916b200ff61345d62a7f5cfa8adf44d3fff4"), looks := false }, kinds := [], alts := [], laidByText := true, laidKinds := [.data, .data, .data, .data, .pinned], laidTests := true, laidLooks := .later }
def RationalReadsBackCardSaid : Prop := Claim7.holds Tryz.pinned (.plain (OpenSpec.ofChange rationalReadsBackSpec)) rationalReadsBackCard

/-- THE TIED CARD OF 'robuststatslaw03.RationalCalculates'. -/
def rationalCalculatesCard : Claim7 := { stood := { row := rationalCalculatesRow, standIns := [], harness := (true, "132e13d59821e04fd7f7982d1daf916b200ff61345d62a7f5cfa8adf44d3fff4"), looks := false }, kinds := [], alts := [], laidByText := true, laidKinds := [.data, .data, .data, .data, .pinned], laidTests := true, laidLooks := .later }
def RationalCalculatesCardSaid : Prop := Claim7.holds Tryz.pinned (.plain (OpenSpec.ofChange rationalCalculatesSpec)) rationalCalculatesCard

/-- THE TIED CARD OF 'robuststatslaw03.RationalIsAField'. -/
def rationalIsAFieldCard : Claim7 := { stood := { row := rationalIsAFieldRow, standIns := [], harness := (true, "132e13d59821e04fd7f7982d1daf916b200ff61345d62a7f5cfa8adf44d3fff4"), looks := false }, kinds := [], alts := [], laidByText := true, laidKinds := [.data, .data, .data, .data, .pinned], laidTests := true, laidLooks := .later }
def RationalIsAFieldCardSaid : Prop := Claim7.holds Tryz.pinned (.plain (OpenSpec.ofChange rationalIsAFieldSpec)) rationalIsAFieldCard

/-- THE TIED CARD OF 'robuststatslaw03.RationalIsOrdered'. -/
def rationalIsOrderedCard : Claim7 := { stood := { row := rationalIsOrderedRow, standIns := [], harness := (true, "132e13d59821e04fd7f7982d1daf916b200ff61345d62a7f5cfa8adf44d3fff4"), looks := false }, kinds := [], alts := [], laidByText := true, laidKinds := [.data, .data, .data, .data, .pinned], laidTests := true, laidLooks := .later }
def RationalIsOrderedCardSaid : Prop := Claim7.holds Tryz.pinned (.plain (OpenSpec.ofChange rationalIsOrderedSpec)) rationalIsOrderedCard

/-- THE TIED CARD OF 'robuststatslaw03.RationalDecimalIsNear'. -/
def rationalDecimalIsNearCard : Claim7 := { stood := { row := rationalDecimalIsNearRow, standIns := [], harness := (true, "132e13d59821e04fd7f7982d1daf916b200ff61345d62a7f5cfa8adf44d3fff4"), looks := false }, kinds := [], alts := [], laidByText := true, laidKinds := [.data, .data, .data, .data, .pinned], laidTests := true, laidLooks := .later }
def RationalDecimalIsNearCardSaid : Prop := Claim7.holds Tryz.pinned (.plain (OpenSpec.ofChange rationalDecimalIsNearSpec)) rationalDecimalIsNearCard

/-- THE TIED CARD OF 'robuststatslaw03.RationalValues'. -/
def rationalValuesCard : Claim7 := { stood := { row := rationalValuesRow, standIns := [], harness := (true, "132e13d59821e04fd7f7982d1daf916b200ff61345d62a7f5cfa8adf44d3fff4"), looks := false }, kinds := [], alts := [], laidByText := true, laidKinds := [.data, .data, .data, .data, .pinned], laidTests := true, laidLooks := .later }
def RationalValuesCardSaid : Prop := Claim7.holds Tryz.pinned (.plain (OpenSpec.ofChange rationalValuesSpec)) rationalValuesCard

/-- THE TIED CARD OF 'robuststatslaw03.RationalHasAFloor'. -/
def rationalHasAFloorCard : Claim7 := { stood := { row := rationalHasAFloorRow, standIns := [], harness := (true, "132e13d59821e04fd7f7982d1daf916b200ff61345d62a7f5cfa8adf44d3fff4"), looks := false }, kinds := [], alts := [], laidByText := true, laidKinds := [.data, .data, .data, .data, .pinned], laidTests := true, laidLooks := .later }
def RationalHasAFloorCardSaid : Prop := Claim7.holds Tryz.pinned (.plain (OpenSpec.ofChange rationalHasAFloorSpec)) rationalHasAFloorCard

/-- THE SECOND FORM's CARD OF 'robuststatslaw03.RationalMakes'. -/
def rationalMakesUptoCard : Claim7 := { stood := { row := rationalMakesUptoRow, standIns := [], harness := (true, "132e13d59821e04fd7f7982d1daf916b200ff61345d62a7f5cfa8adf44d3fff4"), looks := false }, kinds := [], alts := [], laidByText := true, laidKinds := [.data, .data, .data, .data, .pinned], laidTests := true, laidLooks := .later }
def RationalMakesUptoCardSaid : Prop := Claim7.holds Tryz.pinned (.plain (OpenSpec.upto rationalMakesSpec)) rationalMakesUptoCard

/-- THE SECOND FORM's CARD OF 'robuststatslaw03.RationalWrites'. -/
def rationalWritesUptoCard : Claim7 := { stood := { row := rationalWritesUptoRow, standIns := [], harness := (true, "132e13d59821e04fd7f7982d1daf916b200ff61345d62a7f5cfa8adf44d3fff4"), looks := false }, kinds := [], alts := [], laidByText := true, laidKinds := [.data, .data, .data, .data, .pinned], laidTests := true, laidLooks := .later }
def RationalWritesUptoCardSaid : Prop := Claim7.holds Tryz.pinned (.plain (OpenSpec.upto rationalWritesSpec)) rationalWritesUptoCard

/-- THE SECOND FORM's CARD OF 'robuststatslaw03.RationalIsInLowestTerms'. -/
def rationalIsInLowestTermsUptoCard : Claim7 := { stood := { row := rationalIsInLowestTermsUptoRow, standIns := [], harness := (true, "132e13d59821e04fd7f7982d1daf916b200ff61345d62a7f5cfa8adf44d3fff4"), looks := false }, kinds := [], alts := [], laidByText := true, laidKinds := [.data, .data, .data, .data, .pinned], laidTests := true, laidLooks := .later }
def RationalIsInLowestTermsUptoCardSaid : Prop := Claim7.holds Tryz.pinned (.plain (OpenSpec.upto rationalIsInLowestTermsSpec)) rationalIsInLowestTermsUptoCard

/-- THE SECOND FORM's CARD OF 'robuststatslaw03.RationalReadsBack'. -/
def rationalReadsBackUptoCard : Claim7 := { stood := { row := rationalReadsBackUptoRow, standIns := [], harness := (true, "132e13d59821e04fd7f7982d1daf916b200ff61345d62a7f5cfa8adf44d3fff4"), looks := false }, kinds := [], alts := [], laidByText := true, laidKinds := [.data, .data, .data, .data, .pinned], laidTests := true, laidLooks := .later }
def RationalReadsBackUptoCardSaid : Prop := Claim7.holds Tryz.pinned (.plain (OpenSpec.upto rationalReadsBackSpec)) rationalReadsBackUptoCard

/-- THE SECOND FORM's CARD OF 'robuststatslaw03.RationalCalculates'. -/
def rationalCalculatesUptoCard : Claim7 := { stood := { row := rationalCalculatesUptoRow, standIns := [], harness := (true, "132e13d59821e04fd7f7982d1daf916b200ff61345d62a7f5cfa8adf44d3fff4"), looks := false }, kinds := [], alts := [], laidByText := true, laidKinds := [.data, .data, .data, .data, .pinned], laidTests := true, laidLooks := .later }
def RationalCalculatesUptoCardSaid : Prop := Claim7.holds Tryz.pinned (.plain (OpenSpec.upto rationalCalculatesSpec)) rationalCalculatesUptoCard

/-- THE SECOND FORM's CARD OF 'robuststatslaw03.RationalIsAField'. -/
def rationalIsAFieldUptoCard : Claim7 := { stood := { row := rationalIsAFieldUptoRow, standIns := [], harness := (true, "132e13d59821e04fd7f7982d1daf916b200ff61345d62a7f5cfa8adf44d3fff4"), looks := false }, kinds := [], alts := [], laidByText := true, laidKinds := [.data, .data, .data, .data, .pinned], laidTests := true, laidLooks := .later }
def RationalIsAFieldUptoCardSaid : Prop := Claim7.holds Tryz.pinned (.plain (OpenSpec.upto rationalIsAFieldSpec)) rationalIsAFieldUptoCard

/-- THE SECOND FORM's CARD OF 'robuststatslaw03.RationalIsOrdered'. -/
def rationalIsOrderedUptoCard : Claim7 := { stood := { row := rationalIsOrderedUptoRow, standIns := [], harness := (true, "132e13d59821e04fd7f7982d1daf916b200ff61345d62a7f5cfa8adf44d3fff4"), looks := false }, kinds := [], alts := [], laidByText := true, laidKinds := [.data, .data, .data, .data, .pinned], laidTests := true, laidLooks := .later }
def RationalIsOrderedUptoCardSaid : Prop := Claim7.holds Tryz.pinned (.plain (OpenSpec.upto rationalIsOrderedSpec)) rationalIsOrderedUptoCard

/-- THE SECOND FORM's CARD OF 'robuststatslaw03.RationalDecimalIsNear'. -/
def rationalDecimalIsNearUptoCard : Claim7 := { stood := { row := rationalDecimalIsNearUptoRow, standIns := [], harness := (true, "132e13d59821e04fd7f7982d1daf916b200ff61345d62a7f5cfa8adf44d3fff4"), looks := false }, kinds := [], alts := [], laidByText := true, laidKinds := [.data, .data, .data, .data, .pinned], laidTests := true, laidLooks := .later }
def RationalDecimalIsNearUptoCardSaid : Prop := Claim7.holds Tryz.pinned (.plain (OpenSpec.upto rationalDecimalIsNearSpec)) rationalDecimalIsNearUptoCard

/-- THE SECOND FORM's CARD OF 'robuststatslaw03.RationalValues'. -/
def rationalValuesUptoCard : Claim7 := { stood := { row := rationalValuesUptoRow, standIns := [], harness := (true, "132e13d59821e04fd7f7982d1daf916b200ff61345d62a7f5cfa8adf44d3fff4"), looks := false }, kinds := [], alts := [], laidByText := true, laidKinds := [.data, .data, .data, .data, .pinned], laidTests := true, laidLooks := .later }
def RationalValuesUptoCardSaid : Prop := Claim7.holds Tryz.pinned (.plain (OpenSpec.upto rationalValuesSpec)) rationalValuesUptoCard

/-- THE SECOND FORM's CARD OF 'robuststatslaw03.RationalHasAFloor'. -/
def rationalHasAFloorUptoCard : Claim7 := { stood := { row := rationalHasAFloorUptoRow, standIns := [], harness := (true, "132e13d59821e04fd7f7982d1daf916b200ff61345d62a7f5cfa8adf44d3fff4"), looks := false }, kinds := [], alts := [], laidByText := true, laidKinds := [.data, .data, .data, .data, .pinned], laidTests := true, laidLooks := .later }
def RationalHasAFloorUptoCardSaid : Prop := Claim7.holds Tryz.pinned (.plain (OpenSpec.upto rationalHasAFloorSpec)) rationalHasAFloorUptoCard
end Rows
end Go.Proofs.YteiagmmfapbaiaaGreatDoor
