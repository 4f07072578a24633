/-
  DERIVED. GIVEN WITH THE SEED: THE CARDS: each row of YtlcagndeidjobaaGreatDoorRows.lean that lists a variable, with what it lists TIED to the program's text (the seventh form; the later family's looks); each row that meets fmt, with fmt's text TOLD by the authors' own Lean function (tested against real Go, not proved from fmt's source: count such statements apart). THE CARD IS WHAT COUNTS. Prove the row's statement (the work); the ties are given (YtlcagndeidjobaaGreatDoorTie.lean); close each card by the builder's one call (the guide's Derived/Test/ToyasCard.lean, 'card_holds'). Laid BY PROGRAM, IN A SANDBOX (cutbox-door.mjs). By AI agents, Wed Nov 11 2026. No macro, syntax, notation, axiom, sorry.
-/
import Derived.Test.YtlcagndeidjobaaGreatDoorRows
import GoSem.ClaimSeven
namespace Go.Proofs.YtlcagndeidjobaaGreatDoor
namespace Rows

/-- THE TIED CARD OF 'robuststatslaw12.DesignBuildsKnownModels'. -/
def designBuildsKnownModelsCard : Claim7 := { stood := { row := designBuildsKnownModelsRow, standIns := [], harness := (true, "3a35dd15498a4cc40e16452a0188175971aa32653b5d7c797f2887ffb5ff2d22"), looks := false }, kinds := [], alts := [], laidByText := true, laidKinds := [.data, .data, .data], laidTests := true, laidLooks := .later }
def DesignBuildsKnownModelsCardSaid : Prop := Claim7.holds Tryz.pinned (.plain (OpenSpec.ofChange designBuildsKnownModelsSpec)) designBuildsKnownModelsCard

/-- THE TIED CARD OF 'robuststatslaw12.DesignSpaceIgnoresCodings'. -/
def designSpaceIgnoresCodingsCard : Claim7 := { stood := { row := designSpaceIgnoresCodingsRow, standIns := [], harness := (true, "3a35dd15498a4cc40e16452a0188175971aa32653b5d7c797f2887ffb5ff2d22"), looks := false }, kinds := [], alts := [], laidByText := true, laidKinds := [.data, .data, .data], laidTests := true, laidLooks := .later }
def DesignSpaceIgnoresCodingsCardSaid : Prop := Claim7.holds Tryz.pinned (.plain (OpenSpec.ofChange designSpaceIgnoresCodingsSpec)) designSpaceIgnoresCodingsCard

/-- THE TIED CARD OF 'robuststatslaw12.DesignSpaceIgnoresForms'. -/
def designSpaceIgnoresFormsCard : Claim7 := { stood := { row := designSpaceIgnoresFormsRow, standIns := [], harness := (true, "3a35dd15498a4cc40e16452a0188175971aa32653b5d7c797f2887ffb5ff2d22"), looks := false }, kinds := [], alts := [], laidByText := true, laidKinds := [.data, .data, .data], laidTests := true, laidLooks := .later }
def DesignSpaceIgnoresFormsCardSaid : Prop := Claim7.holds Tryz.pinned (.plain (OpenSpec.ofChange designSpaceIgnoresFormsSpec)) designSpaceIgnoresFormsCard

/-- THE TIED CARD OF 'robuststatslaw12.DesignAliases'. -/
def designAliasesCard : Claim7 := { stood := { row := designAliasesRow, standIns := [], harness := (true, "3a35dd15498a4cc40e16452a0188175971aa32653b5d7c797f2887ffb5ff2d22"), looks := false }, kinds := [], alts := [], laidByText := true, laidKinds := [.data, .data, .data], laidTests := true, laidLooks := .later }
def DesignAliasesCardSaid : Prop := Claim7.holds Tryz.pinned (.plain (OpenSpec.ofChange designAliasesSpec)) designAliasesCard

/-- THE TIED CARD OF 'robuststatslaw12.DesignAliasExplainsColumns'. -/
def designAliasExplainsColumnsCard : Claim7 := { stood := { row := designAliasExplainsColumnsRow, standIns := [], harness := (true, "3a35dd15498a4cc40e16452a0188175971aa32653b5d7c797f2887ffb5ff2d22"), looks := false }, kinds := [], alts := [], laidByText := true, laidKinds := [.data, .data, .data], laidTests := true, laidLooks := .later }
def DesignAliasExplainsColumnsCardSaid : Prop := Claim7.holds Tryz.pinned (.plain (OpenSpec.ofChange designAliasExplainsColumnsSpec)) designAliasExplainsColumnsCard

/-- THE SECOND FORM's CARD OF 'robuststatslaw12.DesignBuildsKnownModels'. -/
def designBuildsKnownModelsUptoCard : Claim7 := { stood := { row := designBuildsKnownModelsUptoRow, standIns := [], harness := (true, "3a35dd15498a4cc40e16452a0188175971aa32653b5d7c797f2887ffb5ff2d22"), looks := false }, kinds := [], alts := [], laidByText := true, laidKinds := [.data, .data, .data], laidTests := true, laidLooks := .later }
def DesignBuildsKnownModelsUptoCardSaid : Prop := Claim7.holds Tryz.pinned (.plain (OpenSpec.upto designBuildsKnownModelsSpec)) designBuildsKnownModelsUptoCard

/-- THE SECOND FORM's CARD OF 'robuststatslaw12.DesignSpaceIgnoresCodings'. -/
def designSpaceIgnoresCodingsUptoCard : Claim7 := { stood := { row := designSpaceIgnoresCodingsUptoRow, standIns := [], harness := (true, "3a35dd15498a4cc40e16452a0188175971aa32653b5d7c797f2887ffb5ff2d22"), looks := false }, kinds := [], alts := [], laidByText := true, laidKinds := [.data, .data, .data], laidTests := true, laidLooks := .later }
def DesignSpaceIgnoresCodingsUptoCardSaid : Prop := Claim7.holds Tryz.pinned (.plain (OpenSpec.upto designSpaceIgnoresCodingsSpec)) designSpaceIgnoresCodingsUptoCard

/-- THE SECOND FORM's CARD OF 'robuststatslaw12.DesignSpaceIgnoresForms'. -/
def designSpaceIgnoresFormsUptoCard : Claim7 := { stood := { row := designSpaceIgnoresFormsUptoRow, standIns := [], harness := (true, "3a35dd15498a4cc40e16452a0188175971aa32653b5d7c797f2887ffb5ff2d22"), looks := false }, kinds := [], alts := [], laidByText := true, laidKinds := [.data, .data, .data], laidTests := true, laidLooks := .later }
def DesignSpaceIgnoresFormsUptoCardSaid : Prop := Claim7.holds Tryz.pinned (.plain (OpenSpec.upto designSpaceIgnoresFormsSpec)) designSpaceIgnoresFormsUptoCard

/-- THE SECOND FORM's CARD OF 'robuststatslaw12.DesignAliases'. -/
def designAliasesUptoCard : Claim7 := { stood := { row := designAliasesUptoRow, standIns := [], harness := (true, "3a35dd15498a4cc40e16452a0188175971aa32653b5d7c797f2887ffb5ff2d22"), looks := false }, kinds := [], alts := [], laidByText := true, laidKinds := [.data, .data, .data], laidTests := true, laidLooks := .later }
def DesignAliasesUptoCardSaid : Prop := Claim7.holds Tryz.pinned (.plain (OpenSpec.upto designAliasesSpec)) designAliasesUptoCard

/-- THE SECOND FORM's CARD OF 'robuststatslaw12.DesignAliasExplainsColumns'. -/
def designAliasExplainsColumnsUptoCard : Claim7 := { stood := { row := designAliasExplainsColumnsUptoRow, standIns := [], harness := (true, "3a35dd15498a4cc40e16452a0188175971aa32653b5d7c797f2887ffb5ff2d22"), looks := false }, kinds := [], alts := [], laidByText := true, laidKinds := [.data, .data, .data], laidTests := true, laidLooks := .later }
def DesignAliasExplainsColumnsUptoCardSaid : Prop := Claim7.holds Tryz.pinned (.plain (OpenSpec.upto designAliasExplainsColumnsSpec)) designAliasExplainsColumnsUptoCard
end Rows
end Go.Proofs.YtlcagndeidjobaaGreatDoor
