/-
  DERIVED. GIVEN WITH THE SEED: THE CARDS: each row of YtgonkeglcehkeaaDoorRows.lean that lists a variable, with what it lists TIED to the program's text (the seventh form; the later family's looks); each row that meets fmt, with fmt's text TOLD by the authors' own Lean function (tested against real Go, not proved from fmt's source: count such statements apart). THE CARD IS WHAT COUNTS. Prove the row's statement (the work); the ties are given (YtgonkeglcehkeaaDoorTie.lean); close each card by the builder's one call (the guide's Derived/Test/ToyasCard.lean, 'card_holds'). Laid BY PROGRAM, IN A SANDBOX (cutbox-door.mjs). By AI agents, Wed Nov 11 2026. No macro, syntax, notation, axiom, sorry.
-/
import Derived.Test.YtgonkeglcehkeaaDoorRows
import GoSem.ClaimSeven
namespace Go.Proofs.YtgonkeglcehkeaaDoor
namespace Rows

/-- THE TIED CARD OF 'robuststatslaw07.DelimitedFormats'. -/
def delimitedFormatsCard : Claim7 := { stood := { row := delimitedFormatsRow, standIns := [], harness := (true, "a87dd803c5632ae5863fc02797897bc9e6eda9980299e11394e0ef84edcdce5d"), looks := true }, kinds := [], alts := [], laidByText := true, laidKinds := [.data, .pinned], laidTests := true, laidLooks := .later }
def DelimitedFormatsCardSaid : Prop := Claim7.holds Tryd.pinned (.plain (OpenSpec.ofChange delimitedFormatsSpec)) delimitedFormatsCard

/-- THE TIED CARD OF 'robuststatslaw07.DelimitedCounts'. -/
def delimitedCountsCard : Claim7 := { stood := { row := delimitedCountsRow, standIns := [], harness := (true, "a87dd803c5632ae5863fc02797897bc9e6eda9980299e11394e0ef84edcdce5d"), looks := true }, kinds := [], alts := [], laidByText := true, laidKinds := [.data, .pinned], laidTests := true, laidLooks := .later }
def DelimitedCountsCardSaid : Prop := Claim7.holds Tryd.pinned (.plain (OpenSpec.ofChange delimitedCountsSpec)) delimitedCountsCard

/-- THE TIED CARD OF 'robuststatslaw07.DelimitedReadsBack'. -/
def delimitedReadsBackCard : Claim7 := { stood := { row := delimitedReadsBackRow, standIns := [], harness := (true, "a87dd803c5632ae5863fc02797897bc9e6eda9980299e11394e0ef84edcdce5d"), looks := true }, kinds := [], alts := [], laidByText := true, laidKinds := [.data, .pinned], laidTests := true, laidLooks := .later }
def DelimitedReadsBackCardSaid : Prop := Claim7.holds Tryd.pinned (.plain (OpenSpec.ofChange delimitedReadsBackSpec)) delimitedReadsBackCard

/-- THE TIED CARD OF 'robuststatslaw07.DelimitedIsStable'. -/
def delimitedIsStableCard : Claim7 := { stood := { row := delimitedIsStableRow, standIns := [], harness := (true, "a87dd803c5632ae5863fc02797897bc9e6eda9980299e11394e0ef84edcdce5d"), looks := true }, kinds := [], alts := [], laidByText := true, laidKinds := [.data, .pinned], laidTests := true, laidLooks := .later }
def DelimitedIsStableCardSaid : Prop := Claim7.holds Tryd.pinned (.plain (OpenSpec.ofChange delimitedIsStableSpec)) delimitedIsStableCard

/-- THE SECOND FORM's CARD OF 'robuststatslaw07.DelimitedFormats'. -/
def delimitedFormatsUptoCard : Claim7 := { stood := { row := delimitedFormatsUptoRow, standIns := [], harness := (true, "a87dd803c5632ae5863fc02797897bc9e6eda9980299e11394e0ef84edcdce5d"), looks := true }, kinds := [], alts := [], laidByText := true, laidKinds := [.data, .pinned], laidTests := true, laidLooks := .later }
def DelimitedFormatsUptoCardSaid : Prop := Claim7.holds Tryd.pinned (.plain (OpenSpec.upto delimitedFormatsSpec)) delimitedFormatsUptoCard

/-- THE SECOND FORM's CARD OF 'robuststatslaw07.DelimitedCounts'. -/
def delimitedCountsUptoCard : Claim7 := { stood := { row := delimitedCountsUptoRow, standIns := [], harness := (true, "a87dd803c5632ae5863fc02797897bc9e6eda9980299e11394e0ef84edcdce5d"), looks := true }, kinds := [], alts := [], laidByText := true, laidKinds := [.data, .pinned], laidTests := true, laidLooks := .later }
def DelimitedCountsUptoCardSaid : Prop := Claim7.holds Tryd.pinned (.plain (OpenSpec.upto delimitedCountsSpec)) delimitedCountsUptoCard

/-- THE SECOND FORM's CARD OF 'robuststatslaw07.DelimitedReadsBack'. -/
def delimitedReadsBackUptoCard : Claim7 := { stood := { row := delimitedReadsBackUptoRow, standIns := [], harness := (true, "a87dd803c5632ae5863fc02797897bc9e6eda9980299e11394e0ef84edcdce5d"), looks := true }, kinds := [], alts := [], laidByText := true, laidKinds := [.data, .pinned], laidTests := true, laidLooks := .later }
def DelimitedReadsBackUptoCardSaid : Prop := Claim7.holds Tryd.pinned (.plain (OpenSpec.upto delimitedReadsBackSpec)) delimitedReadsBackUptoCard

/-- THE SECOND FORM's CARD OF 'robuststatslaw07.DelimitedIsStable'. -/
def delimitedIsStableUptoCard : Claim7 := { stood := { row := delimitedIsStableUptoRow, standIns := [], harness := (true, "a87dd803c5632ae5863fc02797897bc9e6eda9980299e11394e0ef84edcdce5d"), looks := true }, kinds := [], alts := [], laidByText := true, laidKinds := [.data, .pinned], laidTests := true, laidLooks := .later }
def DelimitedIsStableUptoCardSaid : Prop := Claim7.holds Tryd.pinned (.plain (OpenSpec.upto delimitedIsStableSpec)) delimitedIsStableUptoCard
end Rows
end Go.Proofs.YtgonkeglcehkeaaDoor
