/-
  DERIVED. GIVEN WITH THE SEED: THE CARDS: each row of YtammbggabhnfdaaDoorRows.lean that lists a variable, with what it lists TIED to the program's text (the seventh form; the later family's looks); each row that meets fmt, with fmt's text TOLD by the authors' own Lean function (tested against real Go, not proved from fmt's source: count such statements apart). THE CARD IS WHAT COUNTS. Prove the row's statement (the work); the ties are given (YtammbggabhnfdaaDoorTie.lean); close each card by the builder's one call (the guide's Derived/Test/ToyasCard.lean, 'card_holds'). Laid BY PROGRAM, IN A SANDBOX (cutbox-door.mjs). By AI agents, Wed Nov 11 2026. No macro, syntax, notation, axiom, sorry.
-/
import Derived.Test.YtammbggabhnfdaaDoorRows
import GoSem.ClaimSeven
namespace Go.Proofs.YtammbggabhnfdaaDoor
namespace Rows

/-- THE TIED CARD OF 'robuststatslaw41.ReportColumns'. -/
def reportColumnsCard : Claim7 := { stood := { row := reportColumnsRow, standIns := [], harness := (true, "74716349d958bb74827e5974d385a689da1f130a1e451bf1c36863cc603f4f68"), looks := false }, kinds := [], alts := [], laidByText := true, laidKinds := [.data, .pinned], laidTests := true, laidLooks := .later }
def ReportColumnsCardSaid : Prop := Claim7.holds Tryd.pinned (.plain (OpenSpec.ofChange reportColumnsSpec)) reportColumnsCard

/-- THE SECOND FORM's CARD OF 'robuststatslaw41.ReportColumns'. -/
def reportColumnsUptoCard : Claim7 := { stood := { row := reportColumnsUptoRow, standIns := [], harness := (true, "74716349d958bb74827e5974d385a689da1f130a1e451bf1c36863cc603f4f68"), looks := false }, kinds := [], alts := [], laidByText := true, laidKinds := [.data, .pinned], laidTests := true, laidLooks := .later }
def ReportColumnsUptoCardSaid : Prop := Claim7.holds Tryd.pinned (.plain (OpenSpec.upto reportColumnsSpec)) reportColumnsUptoCard
end Rows
end Go.Proofs.YtammbggabhnfdaaDoor
