/-
  DERIVED. GIVEN WITH THE SEED: THE CARDS: each row of YtecilkmigjbfoaaDoorRows.lean that lists a variable, with what it lists TIED to the program's text (the seventh form; the later family's looks); each row that meets fmt, with fmt's text TOLD by the authors' own Lean function (tested against real Go, not proved from fmt's source: count such statements apart). THE CARD IS WHAT COUNTS. Prove the row's statement (the work); the ties are given (YtecilkmigjbfoaaDoorTie.lean); close each card by the builder's one call (the guide's Derived/Test/ToyasCard.lean, 'card_holds'). Laid BY PROGRAM, IN A SANDBOX (cutbox-door.mjs). By AI agents, Wed Nov 11 2026. No macro, syntax, notation, axiom, sorry.
-/
import Derived.Test.YtecilkmigjbfoaaDoorRows
import GoSem.ClaimSeven
namespace Go.Proofs.YtecilkmigjbfoaaDoor
namespace Rows

/-- THE TIED CARD OF 'robuststatslaw01.NaturalWrites'. -/
def naturalWritesCard : Claim7 := { stood := { row := naturalWritesRow, standIns := [], harness := (true, "fa20a466ec9edd0af9b8fe9091779f0794de37e467e8969bd2f446bb86ac2b9b"), looks := false }, kinds := [], alts := [], laidByText := true, laidKinds := [.data, .data, .data], laidTests := true, laidLooks := .later }
def NaturalWritesCardSaid : Prop := Claim7.holds Tryd.pinned (.plain (OpenSpec.ofChange naturalWritesSpec)) naturalWritesCard

/-- THE TIED CARD OF 'robuststatslaw01.NaturalReadsBack'. -/
def naturalReadsBackCard : Claim7 := { stood := { row := naturalReadsBackRow, standIns := [], harness := (true, "fa20a466ec9edd0af9b8fe9091779f0794de37e467e8969bd2f446bb86ac2b9b"), looks := false }, kinds := [], alts := [], laidByText := true, laidKinds := [.data, .data, .data], laidTests := true, laidLooks := .later }
def NaturalReadsBackCardSaid : Prop := Claim7.holds Tryd.pinned (.plain (OpenSpec.ofChange naturalReadsBackSpec)) naturalReadsBackCard

/-- THE SECOND FORM's CARD OF 'robuststatslaw01.NaturalWrites'. -/
def naturalWritesUptoCard : Claim7 := { stood := { row := naturalWritesUptoRow, standIns := [], harness := (true, "fa20a466ec9edd0af9b8fe9091779f0794de37e467e8969bd2f446bb86ac2b9b"), looks := false }, kinds := [], alts := [], laidByText := true, laidKinds := [.data, .data, .data], laidTests := true, laidLooks := .later }
def NaturalWritesUptoCardSaid : Prop := Claim7.holds Tryd.pinned (.plain (OpenSpec.upto naturalWritesSpec)) naturalWritesUptoCard

/-- THE SECOND FORM's CARD OF 'robuststatslaw01.NaturalReadsBack'. -/
def naturalReadsBackUptoCard : Claim7 := { stood := { row := naturalReadsBackUptoRow, standIns := [], harness := (true, "fa20a466ec9edd0af9b8fe9091779f0794de37e467e8969bd2f446bb86ac2b9b"), looks := false }, kinds := [], alts := [], laidByText := true, laidKinds := [.data, .data, .data], laidTests := true, laidLooks := .later }
def NaturalReadsBackUptoCardSaid : Prop := Claim7.holds Tryd.pinned (.plain (OpenSpec.upto naturalReadsBackSpec)) naturalReadsBackUptoCard
end Rows
end Go.Proofs.YtecilkmigjbfoaaDoor
