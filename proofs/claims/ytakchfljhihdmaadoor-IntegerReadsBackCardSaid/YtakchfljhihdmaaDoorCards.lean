/-
  DERIVED. GIVEN WITH THE SEED: THE CARDS: each row of YtakchfljhihdmaaDoorRows.lean that lists a variable, with what it lists TIED to the program's text (the seventh form; the later family's looks); each row that meets fmt, with fmt's text TOLD by the authors' own Lean function (tested against real Go, not proved from fmt's source: count such statements apart). THE CARD IS WHAT COUNTS. Prove the row's statement (the work); the ties are given (YtakchfljhihdmaaDoorTie.lean); close each card by the builder's one call (the guide's Derived/Test/ToyasCard.lean, 'card_holds'). Laid BY PROGRAM, IN A SANDBOX (cutbox-door.mjs). By AI agents, Wed Nov 11 2026. No macro, syntax, notation, axiom, sorry.
-/
import Derived.Test.YtakchfljhihdmaaDoorRows
import GoSem.ClaimSeven
namespace Go.Proofs.YtakchfljhihdmaaDoor
namespace Rows

/-- THE TIED CARD OF 'robuststatslaw02.IntegerIsARing'. -/
def integerIsARingCard : Claim7 := { stood := { row := integerIsARingRow, standIns := [], harness := (true, "6e21cad140397ea85dada13aad59fa07054aa1de3edbffeb16857f7114b0fec8"), looks := false }, kinds := [], alts := [], laidByText := true, laidKinds := [.data, .data, .data], laidTests := true, laidLooks := .later }
def IntegerIsARingCardSaid : Prop := Claim7.holds Tryd.pinned (.plain (OpenSpec.ofChange integerIsARingSpec)) integerIsARingCard

/-- THE TIED CARD OF 'robuststatslaw02.IntegerValues'. -/
def integerValuesCard : Claim7 := { stood := { row := integerValuesRow, standIns := [], harness := (true, "6e21cad140397ea85dada13aad59fa07054aa1de3edbffeb16857f7114b0fec8"), looks := false }, kinds := [], alts := [], laidByText := true, laidKinds := [.data, .data, .data], laidTests := true, laidLooks := .later }
def IntegerValuesCardSaid : Prop := Claim7.holds Tryd.pinned (.plain (OpenSpec.ofChange integerValuesSpec)) integerValuesCard

/-- THE TIED CARD OF 'robuststatslaw02.IntegerDividesBack'. -/
def integerDividesBackCard : Claim7 := { stood := { row := integerDividesBackRow, standIns := [], harness := (true, "6e21cad140397ea85dada13aad59fa07054aa1de3edbffeb16857f7114b0fec8"), looks := false }, kinds := [], alts := [], laidByText := true, laidKinds := [.data, .data, .data], laidTests := true, laidLooks := .later }
def IntegerDividesBackCardSaid : Prop := Claim7.holds Tryd.pinned (.plain (OpenSpec.ofChange integerDividesBackSpec)) integerDividesBackCard

/-- THE TIED CARD OF 'robuststatslaw02.IntegerKnowsSigns'. -/
def integerKnowsSignsCard : Claim7 := { stood := { row := integerKnowsSignsRow, standIns := [], harness := (true, "6e21cad140397ea85dada13aad59fa07054aa1de3edbffeb16857f7114b0fec8"), looks := false }, kinds := [], alts := [], laidByText := true, laidKinds := [.data, .data, .data], laidTests := true, laidLooks := .later }
def IntegerKnowsSignsCardSaid : Prop := Claim7.holds Tryd.pinned (.plain (OpenSpec.ofChange integerKnowsSignsSpec)) integerKnowsSignsCard

/-- THE TIED CARD OF 'robuststatslaw02.IntegerWrites'. -/
def integerWritesCard : Claim7 := { stood := { row := integerWritesRow, standIns := [], harness := (true, "6e21cad140397ea85dada13aad59fa07054aa1de3edbffeb16857f7114b0fec8"), looks := false }, kinds := [], alts := [], laidByText := true, laidKinds := [.data, .data, .data], laidTests := true, laidLooks := .later }
def IntegerWritesCardSaid : Prop := Claim7.holds Tryd.pinned (.plain (OpenSpec.ofChange integerWritesSpec)) integerWritesCard

/-- THE TIED CARD OF 'robuststatslaw02.IntegerCalculates'. -/
def integerCalculatesCard : Claim7 := { stood := { row := integerCalculatesRow, standIns := [], harness := (true, "6e21cad140397ea85dada13aad59fa07054aa1de3edbffeb16857f7114b0fec8"), looks := false }, kinds := [], alts := [], laidByText := true, laidKinds := [.data, .data, .data], laidTests := true, laidLooks := .later }
def IntegerCalculatesCardSaid : Prop := Claim7.holds Tryd.pinned (.plain (OpenSpec.ofChange integerCalculatesSpec)) integerCalculatesCard

/-- THE TIED CARD OF 'robuststatslaw02.IntegerReadsBack'. -/
def integerReadsBackCard : Claim7 := { stood := { row := integerReadsBackRow, standIns := [], harness := (true, "6e21cad140397ea85dada13aad59fa07054aa1de3edbffeb16857f7114b0fec8"), looks := false }, kinds := [], alts := [], laidByText := true, laidKinds := [.data, .data, .data], laidTests := true, laidLooks := .later }
def IntegerReadsBackCardSaid : Prop := Claim7.holds Tryd.pinned (.plain (OpenSpec.ofChange integerReadsBackSpec)) integerReadsBackCard

/-- THE SECOND FORM's CARD OF 'robuststatslaw02.IntegerIsARing'. -/
def integerIsARingUptoCard : Claim7 := { stood := { row := integerIsARingUptoRow, standIns := [], harness := (true, "6e21cad140397ea85dada13aad59fa07054aa1de3edbffeb16857f7114b0fec8"), looks := false }, kinds := [], alts := [], laidByText := true, laidKinds := [.data, .data, .data], laidTests := true, laidLooks := .later }
def IntegerIsARingUptoCardSaid : Prop := Claim7.holds Tryd.pinned (.plain (OpenSpec.upto integerIsARingSpec)) integerIsARingUptoCard

/-- THE SECOND FORM's CARD OF 'robuststatslaw02.IntegerValues'. -/
def integerValuesUptoCard : Claim7 := { stood := { row := integerValuesUptoRow, standIns := [], harness := (true, "6e21cad140397ea85dada13aad59fa07054aa1de3edbffeb16857f7114b0fec8"), looks := false }, kinds := [], alts := [], laidByText := true, laidKinds := [.data, .data, .data], laidTests := true, laidLooks := .later }
def IntegerValuesUptoCardSaid : Prop := Claim7.holds Tryd.pinned (.plain (OpenSpec.upto integerValuesSpec)) integerValuesUptoCard

/-- THE SECOND FORM's CARD OF 'robuststatslaw02.IntegerDividesBack'. -/
def integerDividesBackUptoCard : Claim7 := { stood := { row := integerDividesBackUptoRow, standIns := [], harness := (true, "6e21cad140397ea85dada13aad59fa07054aa1de3edbffeb16857f7114b0fec8"), looks := false }, kinds := [], alts := [], laidByText := true, laidKinds := [.data, .data, .data], laidTests := true, laidLooks := .later }
def IntegerDividesBackUptoCardSaid : Prop := Claim7.holds Tryd.pinned (.plain (OpenSpec.upto integerDividesBackSpec)) integerDividesBackUptoCard

/-- THE SECOND FORM's CARD OF 'robuststatslaw02.IntegerKnowsSigns'. -/
def integerKnowsSignsUptoCard : Claim7 := { stood := { row := integerKnowsSignsUptoRow, standIns := [], harness := (true, "6e21cad140397ea85dada13aad59fa07054aa1de3edbffeb16857f7114b0fec8"), looks := false }, kinds := [], alts := [], laidByText := true, laidKinds := [.data, .data, .data], laidTests := true, laidLooks := .later }
def IntegerKnowsSignsUptoCardSaid : Prop := Claim7.holds Tryd.pinned (.plain (OpenSpec.upto integerKnowsSignsSpec)) integerKnowsSignsUptoCard

/-- THE SECOND FORM's CARD OF 'robuststatslaw02.IntegerWrites'. -/
def integerWritesUptoCard : Claim7 := { stood := { row := integerWritesUptoRow, standIns := [], harness := (true, "6e21cad140397ea85dada13aad59fa07054aa1de3edbffeb16857f7114b0fec8"), looks := false }, kinds := [], alts := [], laidByText := true, laidKinds := [.data, .data, .data], laidTests := true, laidLooks := .later }
def IntegerWritesUptoCardSaid : Prop := Claim7.holds Tryd.pinned (.plain (OpenSpec.upto integerWritesSpec)) integerWritesUptoCard

/-- THE SECOND FORM's CARD OF 'robuststatslaw02.IntegerCalculates'. -/
def integerCalculatesUptoCard : Claim7 := { stood := { row := integerCalculatesUptoRow, standIns := [], harness := (true, "6e21cad140397ea85dada13aad59fa07054aa1de3edbffeb16857f7114b0fec8"), looks := false }, kinds := [], alts := [], laidByText := true, laidKinds := [.data, .data, .data], laidTests := true, laidLooks := .later }
def IntegerCalculatesUptoCardSaid : Prop := Claim7.holds Tryd.pinned (.plain (OpenSpec.upto integerCalculatesSpec)) integerCalculatesUptoCard

/-- THE SECOND FORM's CARD OF 'robuststatslaw02.IntegerReadsBack'. -/
def integerReadsBackUptoCard : Claim7 := { stood := { row := integerReadsBackUptoRow, standIns := [], harness := (true, "6e21cad140397ea85dada13aad59fa07054aa1de3edbffeb16857f7114b0fec8"), looks := false }, kinds := [], alts := [], laidByText := true, laidKinds := [.data, .data, .data], laidTests := true, laidLooks := .later }
def IntegerReadsBackUptoCardSaid : Prop := Claim7.holds Tryd.pinned (.plain (OpenSpec.upto integerReadsBackSpec)) integerReadsBackUptoCard
end Rows
end Go.Proofs.YtakchfljhihdmaaDoor
