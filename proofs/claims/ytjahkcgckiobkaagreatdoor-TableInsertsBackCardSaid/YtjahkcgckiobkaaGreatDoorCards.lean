/-
  DERIVED. GIVEN WITH THE SEED: THE CARDS: each row of YtjahkcgckiobkaaGreatDoorRows.lean that lists a variable, with what it lists TIED to the program's text (the seventh form; the later family's looks); each row that meets fmt, with fmt's text TOLD by the authors' own Lean function (tested against real Go, not proved from fmt's source: count such statements apart). THE CARD IS WHAT COUNTS. Prove the row's statement (the work); the ties are given (YtjahkcgckiobkaaGreatDoorTie.lean); close each card by the builder's one call (the guide's Derived/Test/ToyasCard.lean, 'card_holds'). Laid BY PROGRAM, IN A SANDBOX (cutbox-door.mjs). By AI agents, Wed Nov 11 2026. No macro, syntax, notation, axiom, sorry.
-/
import Derived.Test.YtjahkcgckiobkaaGreatDoorRows
import GoSem.ClaimSeven
namespace Go.Proofs.YtjahkcgckiobkaaGreatDoor
namespace Rows

/-- THE TIED CARD OF 'robuststatslaw08.TableBuilds'. -/
def tableBuildsCard : Claim7 := { stood := { row := tableBuildsRow, standIns := [], harness := (true, "10c1dade6ea465629e078621203d3d2db0dac9c77eb1f9d68c63ff641bc8ad48"), looks := false }, kinds := [], alts := [], laidByText := true, laidKinds := [.data, .pinned], laidTests := true, laidLooks := .later }
def TableBuildsCardSaid : Prop := Claim7.holds Tryz.pinned (.plain (OpenSpec.ofChange tableBuildsSpec)) tableBuildsCard

/-- THE TIED CARD OF 'robuststatslaw08.TableScalesWithUnits'. -/
def tableScalesWithUnitsCard : Claim7 := { stood := { row := tableScalesWithUnitsRow, standIns := [], harness := (true, "10c1dade6ea465629e078621203d3d2db0dac9c77eb1f9d68c63ff641bc8ad48"), looks := false }, kinds := [], alts := [], laidByText := true, laidKinds := [.data, .pinned], laidTests := true, laidLooks := .later }
def TableScalesWithUnitsCardSaid : Prop := Claim7.holds Tryz.pinned (.plain (OpenSpec.ofChange tableScalesWithUnitsSpec)) tableScalesWithUnitsCard

/-- THE TIED CARD OF 'robuststatslaw08.TableOfRecordsIsValid'. -/
def tableOfRecordsIsValidCard : Claim7 := { stood := { row := tableOfRecordsIsValidRow, standIns := [], harness := (true, "10c1dade6ea465629e078621203d3d2db0dac9c77eb1f9d68c63ff641bc8ad48"), looks := false }, kinds := [], alts := [], laidByText := true, laidKinds := [.data, .pinned], laidTests := true, laidLooks := .later }
def TableOfRecordsIsValidCardSaid : Prop := Claim7.holds Tryz.pinned (.plain (OpenSpec.ofChange tableOfRecordsIsValidSpec)) tableOfRecordsIsValidCard

/-- THE TIED CARD OF 'robuststatslaw08.TableInfers'. -/
def tableInfersCard : Claim7 := { stood := { row := tableInfersRow, standIns := [], harness := (true, "10c1dade6ea465629e078621203d3d2db0dac9c77eb1f9d68c63ff641bc8ad48"), looks := false }, kinds := [], alts := [], laidByText := true, laidKinds := [.data, .pinned], laidTests := true, laidLooks := .later }
def TableInfersCardSaid : Prop := Claim7.holds Tryz.pinned (.plain (OpenSpec.ofChange tableInfersSpec)) tableInfersCard

/-- THE TIED CARD OF 'robuststatslaw08.TableCompletesRows'. -/
def tableCompletesRowsCard : Claim7 := { stood := { row := tableCompletesRowsRow, standIns := [], harness := (true, "10c1dade6ea465629e078621203d3d2db0dac9c77eb1f9d68c63ff641bc8ad48"), looks := false }, kinds := [], alts := [], laidByText := true, laidKinds := [.data, .pinned], laidTests := true, laidLooks := .later }
def TableCompletesRowsCardSaid : Prop := Claim7.holds Tryz.pinned (.plain (OpenSpec.ofChange tableCompletesRowsSpec)) tableCompletesRowsCard

/-- THE TIED CARD OF 'robuststatslaw08.TableSelectsTwice'. -/
def tableSelectsTwiceCard : Claim7 := { stood := { row := tableSelectsTwiceRow, standIns := [], harness := (true, "10c1dade6ea465629e078621203d3d2db0dac9c77eb1f9d68c63ff641bc8ad48"), looks := false }, kinds := [], alts := [], laidByText := true, laidKinds := [.data, .pinned], laidTests := true, laidLooks := .later }
def TableSelectsTwiceCardSaid : Prop := Claim7.holds Tryz.pinned (.plain (OpenSpec.ofChange tableSelectsTwiceSpec)) tableSelectsTwiceCard

/-- THE TIED CARD OF 'robuststatslaw08.TableInsertsBack'. -/
def tableInsertsBackCard : Claim7 := { stood := { row := tableInsertsBackRow, standIns := [], harness := (true, "10c1dade6ea465629e078621203d3d2db0dac9c77eb1f9d68c63ff641bc8ad48"), looks := false }, kinds := [], alts := [], laidByText := true, laidKinds := [.data, .pinned], laidTests := true, laidLooks := .later }
def TableInsertsBackCardSaid : Prop := Claim7.holds Tryz.pinned (.plain (OpenSpec.ofChange tableInsertsBackSpec)) tableInsertsBackCard

/-- THE SECOND FORM's CARD OF 'robuststatslaw08.TableBuilds'. -/
def tableBuildsUptoCard : Claim7 := { stood := { row := tableBuildsUptoRow, standIns := [], harness := (true, "10c1dade6ea465629e078621203d3d2db0dac9c77eb1f9d68c63ff641bc8ad48"), looks := false }, kinds := [], alts := [], laidByText := true, laidKinds := [.data, .pinned], laidTests := true, laidLooks := .later }
def TableBuildsUptoCardSaid : Prop := Claim7.holds Tryz.pinned (.plain (OpenSpec.upto tableBuildsSpec)) tableBuildsUptoCard

/-- THE SECOND FORM's CARD OF 'robuststatslaw08.TableScalesWithUnits'. -/
def tableScalesWithUnitsUptoCard : Claim7 := { stood := { row := tableScalesWithUnitsUptoRow, standIns := [], harness := (true, "10c1dade6ea465629e078621203d3d2db0dac9c77eb1f9d68c63ff641bc8ad48"), looks := false }, kinds := [], alts := [], laidByText := true, laidKinds := [.data, .pinned], laidTests := true, laidLooks := .later }
def TableScalesWithUnitsUptoCardSaid : Prop := Claim7.holds Tryz.pinned (.plain (OpenSpec.upto tableScalesWithUnitsSpec)) tableScalesWithUnitsUptoCard

/-- THE SECOND FORM's CARD OF 'robuststatslaw08.TableOfRecordsIsValid'. -/
def tableOfRecordsIsValidUptoCard : Claim7 := { stood := { row := tableOfRecordsIsValidUptoRow, standIns := [], harness := (true, "10c1dade6ea465629e078621203d3d2db0dac9c77eb1f9d68c63ff641bc8ad48"), looks := false }, kinds := [], alts := [], laidByText := true, laidKinds := [.data, .pinned], laidTests := true, laidLooks := .later }
def TableOfRecordsIsValidUptoCardSaid : Prop := Claim7.holds Tryz.pinned (.plain (OpenSpec.upto tableOfRecordsIsValidSpec)) tableOfRecordsIsValidUptoCard

/-- THE SECOND FORM's CARD OF 'robuststatslaw08.TableInfers'. -/
def tableInfersUptoCard : Claim7 := { stood := { row := tableInfersUptoRow, standIns := [], harness := (true, "10c1dade6ea465629e078621203d3d2db0dac9c77eb1f9d68c63ff641bc8ad48"), looks := false }, kinds := [], alts := [], laidByText := true, laidKinds := [.data, .pinned], laidTests := true, laidLooks := .later }
def TableInfersUptoCardSaid : Prop := Claim7.holds Tryz.pinned (.plain (OpenSpec.upto tableInfersSpec)) tableInfersUptoCard

/-- THE SECOND FORM's CARD OF 'robuststatslaw08.TableCompletesRows'. -/
def tableCompletesRowsUptoCard : Claim7 := { stood := { row := tableCompletesRowsUptoRow, standIns := [], harness := (true, "10c1dade6ea465629e078621203d3d2db0dac9c77eb1f9d68c63ff641bc8ad48"), looks := false }, kinds := [], alts := [], laidByText := true, laidKinds := [.data, .pinned], laidTests := true, laidLooks := .later }
def TableCompletesRowsUptoCardSaid : Prop := Claim7.holds Tryz.pinned (.plain (OpenSpec.upto tableCompletesRowsSpec)) tableCompletesRowsUptoCard

/-- THE SECOND FORM's CARD OF 'robuststatslaw08.TableSelectsTwice'. -/
def tableSelectsTwiceUptoCard : Claim7 := { stood := { row := tableSelectsTwiceUptoRow, standIns := [], harness := (true, "10c1dade6ea465629e078621203d3d2db0dac9c77eb1f9d68c63ff641bc8ad48"), looks := false }, kinds := [], alts := [], laidByText := true, laidKinds := [.data, .pinned], laidTests := true, laidLooks := .later }
def TableSelectsTwiceUptoCardSaid : Prop := Claim7.holds Tryz.pinned (.plain (OpenSpec.upto tableSelectsTwiceSpec)) tableSelectsTwiceUptoCard

/-- THE SECOND FORM's CARD OF 'robuststatslaw08.TableInsertsBack'. -/
def tableInsertsBackUptoCard : Claim7 := { stood := { row := tableInsertsBackUptoRow, standIns := [], harness := (true, "10c1dade6ea465629e078621203d3d2db0dac9c77eb1f9d68c63ff641bc8ad48"), looks := false }, kinds := [], alts := [], laidByText := true, laidKinds := [.data, .pinned], laidTests := true, laidLooks := .later }
def TableInsertsBackUptoCardSaid : Prop := Claim7.holds Tryz.pinned (.plain (OpenSpec.upto tableInsertsBackSpec)) tableInsertsBackUptoCard
end Rows
end Go.Proofs.YtjahkcgckiobkaaGreatDoor
