/-
  DERIVED. GIVEN WITH THE SEED: THE CARDS: each row of YtjfedgpbedppeaaGreatDoorRows.lean that lists a variable, with what it lists TIED to the program's text (the seventh form; the later family's looks); each row that meets fmt, with fmt's text TOLD by the authors' own Lean function (tested against real Go, not proved from fmt's source: count such statements apart). THE CARD IS WHAT COUNTS. Prove the row's statement (the work); the ties are given (YtjfedgpbedppeaaGreatDoorTie.lean); close each card by the builder's one call (the guide's Derived/Test/ToyasCard.lean, 'card_holds'). Laid BY PROGRAM, IN A SANDBOX (cutbox-door.mjs). By AI agents, Wed Nov 11 2026. No macro, syntax, notation, axiom, sorry.
-/
import Derived.Test.YtjfedgpbedppeaaGreatDoorRows
import GoSem.ClaimSeven
namespace Go.Proofs.YtjfedgpbedppeaaGreatDoor
namespace Rows

/-- THE TIED CARD OF 'robuststatslaw41.ReportTests'. -/
def reportTestsCard : Claim7 := { stood := { row := reportTestsRow, standIns := [], harness := (true, "c99975d95496a22651dd34163c1fa40e05da118b725da57d3d195ef2a1d7fc78"), looks := false }, kinds := [], alts := [], laidByText := true, laidKinds := [.data, .data, .data, .data, .pinned], laidTests := true, laidLooks := .later }
def ReportTestsCardSaid : Prop := Claim7.holds Tryz.pinned (.plain (OpenSpec.ofChange reportTestsSpec)) reportTestsCard

/-- THE TIED CARD OF 'robuststatslaw41.ReportCoefficients'. -/
def reportCoefficientsCard : Claim7 := { stood := { row := reportCoefficientsRow, standIns := [], harness := (true, "c99975d95496a22651dd34163c1fa40e05da118b725da57d3d195ef2a1d7fc78"), looks := false }, kinds := [], alts := [], laidByText := true, laidKinds := [.data, .data, .data, .data, .pinned], laidTests := true, laidLooks := .later }
def ReportCoefficientsCardSaid : Prop := Claim7.holds Tryz.pinned (.plain (OpenSpec.ofChange reportCoefficientsSpec)) reportCoefficientsCard

/-- THE TIED CARD OF 'robuststatslaw41.ReportBack'. -/
def reportBackCard : Claim7 := { stood := { row := reportBackRow, standIns := [], harness := (true, "c99975d95496a22651dd34163c1fa40e05da118b725da57d3d195ef2a1d7fc78"), looks := false }, kinds := [], alts := [], laidByText := true, laidKinds := [.data, .data, .data, .data, .pinned], laidTests := true, laidLooks := .later }
def ReportBackCardSaid : Prop := Claim7.holds Tryz.pinned (.plain (OpenSpec.ofChange reportBackSpec)) reportBackCard

/-- THE SECOND FORM's CARD OF 'robuststatslaw41.ReportTests'. -/
def reportTestsUptoCard : Claim7 := { stood := { row := reportTestsUptoRow, standIns := [], harness := (true, "c99975d95496a22651dd34163c1fa40e05da118b725da57d3d195ef2a1d7fc78"), looks := false }, kinds := [], alts := [], laidByText := true, laidKinds := [.data, .data, .data, .data, .pinned], laidTests := true, laidLooks := .later }
def ReportTestsUptoCardSaid : Prop := Claim7.holds Tryz.pinned (.plain (OpenSpec.upto reportTestsSpec)) reportTestsUptoCard

/-- THE SECOND FORM's CARD OF 'robuststatslaw41.ReportCoefficients'. -/
def reportCoefficientsUptoCard : Claim7 := { stood := { row := reportCoefficientsUptoRow, standIns := [], harness := (true, "c99975d95496a22651dd34163c1fa40e05da118b725da57d3d195ef2a1d7fc78"), looks := false }, kinds := [], alts := [], laidByText := true, laidKinds := [.data, .data, .data, .data, .pinned], laidTests := true, laidLooks := .later }
def ReportCoefficientsUptoCardSaid : Prop := Claim7.holds Tryz.pinned (.plain (OpenSpec.upto reportCoefficientsSpec)) reportCoefficientsUptoCard

/-- THE SECOND FORM's CARD OF 'robuststatslaw41.ReportBack'. -/
def reportBackUptoCard : Claim7 := { stood := { row := reportBackUptoRow, standIns := [], harness := (true, "c99975d95496a22651dd34163c1fa40e05da118b725da57d3d195ef2a1d7fc78"), looks := false }, kinds := [], alts := [], laidByText := true, laidKinds := [.data, .data, .data, .data, .pinned], laidTests := true, laidLooks := .later }
def ReportBackUptoCardSaid : Prop := Claim7.holds Tryz.pinned (.plain (OpenSpec.upto reportBackSpec)) reportBackUptoCard
end Rows
end Go.Proofs.YtjfedgpbedppeaaGreatDoor
