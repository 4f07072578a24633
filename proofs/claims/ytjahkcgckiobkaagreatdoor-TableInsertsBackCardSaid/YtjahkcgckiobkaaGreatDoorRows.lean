/-
  NARROWER THAN 'FOR EVERY INPUT', by the rows' own cells (each row's printed sentence says how): TableBuilds: laid · TableScalesWithUnits: laid · TableOfRecordsIsValid: laid · TableInfers: laid · TableCompletesRows: laid · TableSelectsTwice: laid · TableInsertsBack: laid.
  DERIVED. THE GIVEN ROWS OF THIS SEAT. 7 by the template 'for every input the law returns true; each argument reads behind the call as it read before'; 0 by the template 'total and deterministic' (their statements: YtjahkcgckiobkaaGreatDoorTotals.lean).
  GIVEN WITH THE SEED: the statements are not yours to turn. If you find one false, say at which input.
  Laid BY PROGRAM, IN A SANDBOX (cutbox-rows.mjs): the forced cells as the released guide's own fill.sh prints them over the translation 67d51203a1834754… (all of the seat's roots in one cut). By AI agents, Wed Nov 11 2026. No macro, syntax, notation, axiom, sorry.
-/
import Derived.Test.YtjahkcgckiobkaaGreatDoorChecked
import GoSem.PinnedTables
import GoSem.Claim
import GoSem.ClaimJoined
import GoSem.ClaimMapViews
import Derived.JoinedTies
import Derived.KernelRfl
namespace Go.Proofs.YtjahkcgckiobkaaGreatDoor
/- THE CELL 'sum', in the pinned program and in every row, IS THE sha256 OF THE DUMP (.gsa) THAT YtjahkcgckiobkaaGreatDoorProg.lean LOADS. Nothing in Lean hashes anything: it is a label: what it is worth is what the hold of that sum in a sandbox is worth. -/
noncomputable def Tryz.pinned : Pinned := { name := "ytjahkcgckiobkaagreatdoor", sum := "67d51203a18347544a8d23653c57250c2e8cb7e822ee76a210616fc21c300927", checked := Tryz.checked }
namespace Rows
def none {H : Type} : Left H := { results := [], args := [] }

/- WHAT THE LISTED PACKAGE-LEVEL VARIABLES READ AS WHEN THE CALL BEGINS. Each datum BY PROGRAM (the guide's laid-datum.mjs) off the statement by which the dump's own 'gosem.cut.vars' lays the variable. In a bare row this is a premise. The card (YtjahkcgckiobkaaGreatDoorCards.lean) ties it to the program's text. -/
def laid_unicode_utf8_acceptRanges {H : Type} : DataW H := .agg [.agg [.lit (.int .u8 128), .lit (.int .u8 191)], .agg [.lit (.int .u8 160), .lit (.int .u8 191)], .agg [.lit (.int .u8 128), .lit (.int .u8 159)], .agg [.lit (.int .u8 144), .lit (.int .u8 191)], .agg [.lit (.int .u8 128), .lit (.int .u8 143)], .agg [.lit (.int .u8 0), .lit (.int .u8 0)], .agg [.lit (.int .u8 0), .lit (.int .u8 0)], .agg [.lit (.int .u8 0), .lit (.int .u8 0)], .agg [.lit (.int .u8 0), .lit (.int .u8 0)], .agg [.lit (.int .u8 0), .lit (.int .u8 0)], .agg [.lit (.int .u8 0), .lit (.int .u8 0)], .agg [.lit (.int .u8 0), .lit (.int .u8 0)], .agg [.lit (.int .u8 0), .lit (.int .u8 0)], .agg [.lit (.int .u8 0), .lit (.int .u8 0)], .agg [.lit (.int .u8 0), .lit (.int .u8 0)], .agg [.lit (.int .u8 0), .lit (.int .u8 0)]]
/-- One of Go's own tables, pinned by name: the form's constant. -/
def laid_unicode_utf8_first : DataW Unit := Go.Pinned.utf8First

/-- 'robuststatslaw08.TableBuilds': WHATEVER THE INPUT: true; the input reads as it did. -/
def tableBuildsSpec : ChangeSpec := { name := "tableBuilds", fn := fun _ => fun
  | [d1, d2] => { results := [.lit (.bool true)], args := [d1, d2] }
  | _ => none }
def tableBuildsRow : OpenClaim := { program := "ytjahkcgckiobkaagreatdoor", sum := "67d51203a18347544a8d23653c57250c2e8cb7e822ee76a210616fc21c300927", func := "robuststats/robuststatslaw08.TableBuilds", spec := "tableBuilds", inPlace := ["internal/bytealg.IndexByteString", "internal/bytealg.IndexString"], unfollowed := true, recurses := true, named := ["math/bits.overflowError", "internal/bytealg.MaxLen", "unicode/utf8.first", "unicode/utf8.acceptRanges"], apart := false, laid := [("unicode/utf8.acceptRanges", laid_unicode_utf8_acceptRanges), ("unicode/utf8.first", laid_unicode_utf8_first)] }
def TableBuildsSaid : Prop := tableBuildsRow.holds Tryz.pinned (OpenSpec.ofChange tableBuildsSpec)

/-- ITS FALSE NEIGHBOUR: 'it returns false'. Refute it at one input. -/
def tableBuildsWrong : ChangeSpec := { name := "tableBuilds", fn := fun _ => fun
  | [d1, d2] => { results := [.lit (.bool false)], args := [d1, d2] }
  | _ => none }
def TableBuildsWrongFalsely : Prop := tableBuildsRow.holds Tryz.pinned (OpenSpec.ofChange tableBuildsWrong)

/-- 'robuststatslaw08.TableScalesWithUnits': WHATEVER THE INPUT: true; the input reads as it did. -/
def tableScalesWithUnitsSpec : ChangeSpec := { name := "tableScalesWithUnits", fn := fun _ => fun
  | [d1, d2, d3, d4] => { results := [.lit (.bool true)], args := [d1, d2, d3, d4] }
  | _ => none }
def tableScalesWithUnitsRow : OpenClaim := { program := "ytjahkcgckiobkaagreatdoor", sum := "67d51203a18347544a8d23653c57250c2e8cb7e822ee76a210616fc21c300927", func := "robuststats/robuststatslaw08.TableScalesWithUnits", spec := "tableScalesWithUnits", inPlace := ["internal/bytealg.IndexByteString", "internal/bytealg.IndexString"], unfollowed := true, recurses := true, named := ["math/bits.overflowError", "internal/bytealg.MaxLen", "unicode/utf8.first", "unicode/utf8.acceptRanges"], apart := false, laid := [("unicode/utf8.acceptRanges", laid_unicode_utf8_acceptRanges), ("unicode/utf8.first", laid_unicode_utf8_first)] }
def TableScalesWithUnitsSaid : Prop := tableScalesWithUnitsRow.holds Tryz.pinned (OpenSpec.ofChange tableScalesWithUnitsSpec)

/-- ITS FALSE NEIGHBOUR: 'it returns false'. Refute it at one input. -/
def tableScalesWithUnitsWrong : ChangeSpec := { name := "tableScalesWithUnits", fn := fun _ => fun
  | [d1, d2, d3, d4] => { results := [.lit (.bool false)], args := [d1, d2, d3, d4] }
  | _ => none }
def TableScalesWithUnitsWrongFalsely : Prop := tableScalesWithUnitsRow.holds Tryz.pinned (OpenSpec.ofChange tableScalesWithUnitsWrong)

/-- 'robuststatslaw08.TableOfRecordsIsValid': WHATEVER THE INPUT: true; the input reads as it did. -/
def tableOfRecordsIsValidSpec : ChangeSpec := { name := "tableOfRecordsIsValid", fn := fun _ => fun
  | [d1, d2] => { results := [.lit (.bool true)], args := [d1, d2] }
  | _ => none }
def tableOfRecordsIsValidRow : OpenClaim := { program := "ytjahkcgckiobkaagreatdoor", sum := "67d51203a18347544a8d23653c57250c2e8cb7e822ee76a210616fc21c300927", func := "robuststats/robuststatslaw08.TableOfRecordsIsValid", spec := "tableOfRecordsIsValid", inPlace := ["internal/bytealg.IndexByteString", "internal/bytealg.IndexString"], unfollowed := true, recurses := true, named := ["math/bits.overflowError", "internal/bytealg.MaxLen", "unicode/utf8.first", "unicode/utf8.acceptRanges"], apart := false, laid := [("unicode/utf8.acceptRanges", laid_unicode_utf8_acceptRanges), ("unicode/utf8.first", laid_unicode_utf8_first)] }
def TableOfRecordsIsValidSaid : Prop := tableOfRecordsIsValidRow.holds Tryz.pinned (OpenSpec.ofChange tableOfRecordsIsValidSpec)

/-- ITS FALSE NEIGHBOUR: 'it returns false'. Refute it at one input. -/
def tableOfRecordsIsValidWrong : ChangeSpec := { name := "tableOfRecordsIsValid", fn := fun _ => fun
  | [d1, d2] => { results := [.lit (.bool false)], args := [d1, d2] }
  | _ => none }
def TableOfRecordsIsValidWrongFalsely : Prop := tableOfRecordsIsValidRow.holds Tryz.pinned (OpenSpec.ofChange tableOfRecordsIsValidWrong)

/-- 'robuststatslaw08.TableInfers': WHATEVER THE INPUT: true; the input reads as it did. -/
def tableInfersSpec : ChangeSpec := { name := "tableInfers", fn := fun _ => fun
  | [d1, d2, d3] => { results := [.lit (.bool true)], args := [d1, d2, d3] }
  | _ => none }
def tableInfersRow : OpenClaim := { program := "ytjahkcgckiobkaagreatdoor", sum := "67d51203a18347544a8d23653c57250c2e8cb7e822ee76a210616fc21c300927", func := "robuststats/robuststatslaw08.TableInfers", spec := "tableInfers", inPlace := ["internal/bytealg.IndexByteString", "internal/bytealg.IndexString"], unfollowed := true, recurses := true, named := ["math/bits.overflowError", "internal/bytealg.MaxLen", "unicode/utf8.first", "unicode/utf8.acceptRanges"], apart := false, laid := [("unicode/utf8.acceptRanges", laid_unicode_utf8_acceptRanges), ("unicode/utf8.first", laid_unicode_utf8_first)] }
def TableInfersSaid : Prop := tableInfersRow.holds Tryz.pinned (OpenSpec.ofChange tableInfersSpec)

/-- ITS FALSE NEIGHBOUR: 'it returns false'. Refute it at one input. -/
def tableInfersWrong : ChangeSpec := { name := "tableInfers", fn := fun _ => fun
  | [d1, d2, d3] => { results := [.lit (.bool false)], args := [d1, d2, d3] }
  | _ => none }
def TableInfersWrongFalsely : Prop := tableInfersRow.holds Tryz.pinned (OpenSpec.ofChange tableInfersWrong)

/-- 'robuststatslaw08.TableCompletesRows': WHATEVER THE INPUT: true; the input reads as it did. -/
def tableCompletesRowsSpec : ChangeSpec := { name := "tableCompletesRows", fn := fun _ => fun
  | [d1, d2, d3] => { results := [.lit (.bool true)], args := [d1, d2, d3] }
  | _ => none }
def tableCompletesRowsRow : OpenClaim := { program := "ytjahkcgckiobkaagreatdoor", sum := "67d51203a18347544a8d23653c57250c2e8cb7e822ee76a210616fc21c300927", func := "robuststats/robuststatslaw08.TableCompletesRows", spec := "tableCompletesRows", inPlace := ["internal/bytealg.IndexByteString", "internal/bytealg.IndexString"], unfollowed := true, recurses := true, named := ["math/bits.overflowError", "internal/bytealg.MaxLen", "unicode/utf8.first", "unicode/utf8.acceptRanges"], apart := false, laid := [("unicode/utf8.acceptRanges", laid_unicode_utf8_acceptRanges), ("unicode/utf8.first", laid_unicode_utf8_first)] }
def TableCompletesRowsSaid : Prop := tableCompletesRowsRow.holds Tryz.pinned (OpenSpec.ofChange tableCompletesRowsSpec)

/-- ITS FALSE NEIGHBOUR: 'it returns false'. Refute it at one input. -/
def tableCompletesRowsWrong : ChangeSpec := { name := "tableCompletesRows", fn := fun _ => fun
  | [d1, d2, d3] => { results := [.lit (.bool false)], args := [d1, d2, d3] }
  | _ => none }
def TableCompletesRowsWrongFalsely : Prop := tableCompletesRowsRow.holds Tryz.pinned (OpenSpec.ofChange tableCompletesRowsWrong)

/-- 'robuststatslaw08.TableSelectsTwice': WHATEVER THE INPUT: true; the input reads as it did. -/
def tableSelectsTwiceSpec : ChangeSpec := { name := "tableSelectsTwice", fn := fun _ => fun
  | [d1, d2, d3] => { results := [.lit (.bool true)], args := [d1, d2, d3] }
  | _ => none }
def tableSelectsTwiceRow : OpenClaim := { program := "ytjahkcgckiobkaagreatdoor", sum := "67d51203a18347544a8d23653c57250c2e8cb7e822ee76a210616fc21c300927", func := "robuststats/robuststatslaw08.TableSelectsTwice", spec := "tableSelectsTwice", inPlace := ["internal/bytealg.IndexByteString", "internal/bytealg.IndexString"], unfollowed := true, recurses := true, named := ["math/bits.overflowError", "internal/bytealg.MaxLen", "unicode/utf8.first", "unicode/utf8.acceptRanges"], apart := false, laid := [("unicode/utf8.acceptRanges", laid_unicode_utf8_acceptRanges), ("unicode/utf8.first", laid_unicode_utf8_first)] }
def TableSelectsTwiceSaid : Prop := tableSelectsTwiceRow.holds Tryz.pinned (OpenSpec.ofChange tableSelectsTwiceSpec)

/-- ITS FALSE NEIGHBOUR: 'it returns false'. Refute it at one input. -/
def tableSelectsTwiceWrong : ChangeSpec := { name := "tableSelectsTwice", fn := fun _ => fun
  | [d1, d2, d3] => { results := [.lit (.bool false)], args := [d1, d2, d3] }
  | _ => none }
def TableSelectsTwiceWrongFalsely : Prop := tableSelectsTwiceRow.holds Tryz.pinned (OpenSpec.ofChange tableSelectsTwiceWrong)

/-- 'robuststatslaw08.TableInsertsBack': WHATEVER THE INPUT: true; the input reads as it did. -/
def tableInsertsBackSpec : ChangeSpec := { name := "tableInsertsBack", fn := fun _ => fun
  | [d1, d2, d3] => { results := [.lit (.bool true)], args := [d1, d2, d3] }
  | _ => none }
def tableInsertsBackRow : OpenClaim := { program := "ytjahkcgckiobkaagreatdoor", sum := "67d51203a18347544a8d23653c57250c2e8cb7e822ee76a210616fc21c300927", func := "robuststats/robuststatslaw08.TableInsertsBack", spec := "tableInsertsBack", inPlace := ["internal/bytealg.IndexByteString", "internal/bytealg.IndexString", "slices.overlaps[robuststats/api.Cell]"], unfollowed := true, recurses := true, named := ["math/bits.overflowError", "internal/bytealg.MaxLen", "unicode/utf8.first", "unicode/utf8.acceptRanges"], apart := false, laid := [("unicode/utf8.acceptRanges", laid_unicode_utf8_acceptRanges), ("unicode/utf8.first", laid_unicode_utf8_first)] }
def TableInsertsBackSaid : Prop := tableInsertsBackRow.holds Tryz.pinned (OpenSpec.ofChange tableInsertsBackSpec)

/-- ITS FALSE NEIGHBOUR: 'it returns false'. Refute it at one input. -/
def tableInsertsBackWrong : ChangeSpec := { name := "tableInsertsBack", fn := fun _ => fun
  | [d1, d2, d3] => { results := [.lit (.bool false)], args := [d1, d2, d3] }
  | _ => none }
def TableInsertsBackWrongFalsely : Prop := tableInsertsBackRow.holds Tryz.pinned (OpenSpec.ofChange tableInsertsBackWrong)

/- THE SECOND FORM. 'bulk': how many values and letters a reading holds, each counted each time it is reached (what is shared counts as often as it is met; a slice's spare places count too). A statement '..UptoSaid' is the law's where the arguments, and the package variables that the reading takes, are together of bulk at most 1048576: NARROWER than '..Said'. Prove '..Said' where nothing that the law and all that it calls make is longer than what came in: it says more and counts as full. Else prove '..UptoSaid'. A law counts once. -/
mutual
def uptoBulk {H : Type} : DataW H → Nat
  | .lit (.string bytes) => bytes.length + 1
  | .lit _ => 1
  | .nil => 1
  | .ptr d => uptoBulk d + 1
  | .slice elems spare => uptoBulkAll elems + uptoBulkAll spare + 1
  | .agg parts => uptoBulkAll parts + 1
  | .iface _ d => uptoBulk d + 1
  | .map entries => uptoBulkEntries entries + 1
  | .held _ => 1
def uptoBulkAll {H : Type} : List (DataW H) → Nat
  | [] => 0
  | d :: r => uptoBulk d + uptoBulkAll r
def uptoBulkEntries {H : Type} : List (Lit × DataW H) → Nat
  | [] => 0
  | x :: r => uptoBulkEntry x + uptoBulkEntries r
def uptoBulkEntry {H : Type} : Lit × DataW H → Nat
  | (.string bytes, d) => bytes.length + uptoBulk d + 1
  | (_, d) => uptoBulk d + 1
 end
def uptoSmall : (H : Type) → List (DataW H) → Bool := fun _ ds => decide (uptoBulkAll ds ≤ 1048576)
def OpenSpec.upto (s : _root_.Go.ChangeSpec) : _root_.Go.OpenSpec := { _root_.Go.OpenSpec.ofChange s with cond := some uptoSmall }

/-- 'robuststatslaw08.TableBuilds', WHERE WHAT IT READS IS OF BULK AT MOST 1048576: true; the input reads as it did. -/
def tableBuildsUptoRow : OpenClaim := { program := "ytjahkcgckiobkaagreatdoor", sum := "67d51203a18347544a8d23653c57250c2e8cb7e822ee76a210616fc21c300927", func := "robuststats/robuststatslaw08.TableBuilds", spec := "tableBuilds", inPlace := ["internal/bytealg.IndexByteString", "internal/bytealg.IndexString"], unfollowed := true, recurses := true, named := ["math/bits.overflowError", "internal/bytealg.MaxLen", "unicode/utf8.first", "unicode/utf8.acceptRanges"], apart := false, laid := [("unicode/utf8.acceptRanges", laid_unicode_utf8_acceptRanges), ("unicode/utf8.first", laid_unicode_utf8_first)], narrowed := true }
def TableBuildsUptoSaid : Prop := tableBuildsUptoRow.holds Tryz.pinned (OpenSpec.upto tableBuildsSpec)

/-- 'robuststatslaw08.TableScalesWithUnits', WHERE WHAT IT READS IS OF BULK AT MOST 1048576: true; the input reads as it did. -/
def tableScalesWithUnitsUptoRow : OpenClaim := { program := "ytjahkcgckiobkaagreatdoor", sum := "67d51203a18347544a8d23653c57250c2e8cb7e822ee76a210616fc21c300927", func := "robuststats/robuststatslaw08.TableScalesWithUnits", spec := "tableScalesWithUnits", inPlace := ["internal/bytealg.IndexByteString", "internal/bytealg.IndexString"], unfollowed := true, recurses := true, named := ["math/bits.overflowError", "internal/bytealg.MaxLen", "unicode/utf8.first", "unicode/utf8.acceptRanges"], apart := false, laid := [("unicode/utf8.acceptRanges", laid_unicode_utf8_acceptRanges), ("unicode/utf8.first", laid_unicode_utf8_first)], narrowed := true }
def TableScalesWithUnitsUptoSaid : Prop := tableScalesWithUnitsUptoRow.holds Tryz.pinned (OpenSpec.upto tableScalesWithUnitsSpec)

/-- 'robuststatslaw08.TableOfRecordsIsValid', WHERE WHAT IT READS IS OF BULK AT MOST 1048576: true; the input reads as it did. -/
def tableOfRecordsIsValidUptoRow : OpenClaim := { program := "ytjahkcgckiobkaagreatdoor", sum := "67d51203a18347544a8d23653c57250c2e8cb7e822ee76a210616fc21c300927", func := "robuststats/robuststatslaw08.TableOfRecordsIsValid", spec := "tableOfRecordsIsValid", inPlace := ["internal/bytealg.IndexByteString", "internal/bytealg.IndexString"], unfollowed := true, recurses := true, named := ["math/bits.overflowError", "internal/bytealg.MaxLen", "unicode/utf8.first", "unicode/utf8.acceptRanges"], apart := false, laid := [("unicode/utf8.acceptRanges", laid_unicode_utf8_acceptRanges), ("unicode/utf8.first", laid_unicode_utf8_first)], narrowed := true }
def TableOfRecordsIsValidUptoSaid : Prop := tableOfRecordsIsValidUptoRow.holds Tryz.pinned (OpenSpec.upto tableOfRecordsIsValidSpec)

/-- 'robuststatslaw08.TableInfers', WHERE WHAT IT READS IS OF BULK AT MOST 1048576: true; the input reads as it did. -/
def tableInfersUptoRow : OpenClaim := { program := "ytjahkcgckiobkaagreatdoor", sum := "67d51203a18347544a8d23653c57250c2e8cb7e822ee76a210616fc21c300927", func := "robuststats/robuststatslaw08.TableInfers", spec := "tableInfers", inPlace := ["internal/bytealg.IndexByteString", "internal/bytealg.IndexString"], unfollowed := true, recurses := true, named := ["math/bits.overflowError", "internal/bytealg.MaxLen", "unicode/utf8.first", "unicode/utf8.acceptRanges"], apart := false, laid := [("unicode/utf8.acceptRanges", laid_unicode_utf8_acceptRanges), ("unicode/utf8.first", laid_unicode_utf8_first)], narrowed := true }
def TableInfersUptoSaid : Prop := tableInfersUptoRow.holds Tryz.pinned (OpenSpec.upto tableInfersSpec)

/-- 'robuststatslaw08.TableCompletesRows', WHERE WHAT IT READS IS OF BULK AT MOST 1048576: true; the input reads as it did. -/
def tableCompletesRowsUptoRow : OpenClaim := { program := "ytjahkcgckiobkaagreatdoor", sum := "67d51203a18347544a8d23653c57250c2e8cb7e822ee76a210616fc21c300927", func := "robuststats/robuststatslaw08.TableCompletesRows", spec := "tableCompletesRows", inPlace := ["internal/bytealg.IndexByteString", "internal/bytealg.IndexString"], unfollowed := true, recurses := true, named := ["math/bits.overflowError", "internal/bytealg.MaxLen", "unicode/utf8.first", "unicode/utf8.acceptRanges"], apart := false, laid := [("unicode/utf8.acceptRanges", laid_unicode_utf8_acceptRanges), ("unicode/utf8.first", laid_unicode_utf8_first)], narrowed := true }
def TableCompletesRowsUptoSaid : Prop := tableCompletesRowsUptoRow.holds Tryz.pinned (OpenSpec.upto tableCompletesRowsSpec)

/-- 'robuststatslaw08.TableSelectsTwice', WHERE WHAT IT READS IS OF BULK AT MOST 1048576: true; the input reads as it did. -/
def tableSelectsTwiceUptoRow : OpenClaim := { program := "ytjahkcgckiobkaagreatdoor", sum := "67d51203a18347544a8d23653c57250c2e8cb7e822ee76a210616fc21c300927", func := "robuststats/robuststatslaw08.TableSelectsTwice", spec := "tableSelectsTwice", inPlace := ["internal/bytealg.IndexByteString", "internal/bytealg.IndexString"], unfollowed := true, recurses := true, named := ["math/bits.overflowError", "internal/bytealg.MaxLen", "unicode/utf8.first", "unicode/utf8.acceptRanges"], apart := false, laid := [("unicode/utf8.acceptRanges", laid_unicode_utf8_acceptRanges), ("unicode/utf8.first", laid_unicode_utf8_first)], narrowed := true }
def TableSelectsTwiceUptoSaid : Prop := tableSelectsTwiceUptoRow.holds Tryz.pinned (OpenSpec.upto tableSelectsTwiceSpec)

/-- 'robuststatslaw08.TableInsertsBack', WHERE WHAT IT READS IS OF BULK AT MOST 1048576: true; the input reads as it did. -/
def tableInsertsBackUptoRow : OpenClaim := { program := "ytjahkcgckiobkaagreatdoor", sum := "67d51203a18347544a8d23653c57250c2e8cb7e822ee76a210616fc21c300927", func := "robuststats/robuststatslaw08.TableInsertsBack", spec := "tableInsertsBack", inPlace := ["internal/bytealg.IndexByteString", "internal/bytealg.IndexString", "slices.overlaps[robuststats/api.Cell]"], unfollowed := true, recurses := true, named := ["math/bits.overflowError", "internal/bytealg.MaxLen", "unicode/utf8.first", "unicode/utf8.acceptRanges"], apart := false, laid := [("unicode/utf8.acceptRanges", laid_unicode_utf8_acceptRanges), ("unicode/utf8.first", laid_unicode_utf8_first)], narrowed := true }
def TableInsertsBackUptoSaid : Prop := tableInsertsBackUptoRow.holds Tryz.pinned (OpenSpec.upto tableInsertsBackSpec)

end Rows
end Go.Proofs.YtjahkcgckiobkaaGreatDoor
