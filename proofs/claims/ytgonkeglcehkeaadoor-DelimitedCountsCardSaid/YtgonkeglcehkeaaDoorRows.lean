/-
  NARROWER THAN 'FOR EVERY INPUT', by the rows' own cells (each row's printed sentence says how): DelimitedFormats: laid · DelimitedCounts: laid · DelimitedReadsBack: laid · DelimitedIsStable: laid.
  DERIVED. THE GIVEN ROWS OF THIS SEAT. 4 by the template 'for every input the law returns true; each argument reads behind the call as it read before'; 0 by the template 'total and deterministic' (their statements: YtgonkeglcehkeaaDoorTotals.lean).
  GIVEN WITH THE SEED: the statements are not yours to turn. If you find one false, say at which input.
  Laid BY PROGRAM, IN A SANDBOX (cutbox-rows.mjs): the forced cells as the released guide's own fill.sh prints them over the translation 49ca1632cb3d3e98… (all of the seat's roots in one cut). By AI agents, Wed Nov 11 2026. No macro, syntax, notation, axiom, sorry.
-/
import Derived.Test.YtgonkeglcehkeaaDoorChecked
import GoSem.PinnedTables
import GoSem.Claim
import GoSem.ClaimJoined
import GoSem.ClaimMapViews
import Derived.JoinedTies
import Derived.KernelRfl
namespace Go.Proofs.YtgonkeglcehkeaaDoor
/- THE CELL 'sum', in the pinned program and in every row, IS THE sha256 OF THE DUMP (.gsa) THAT YtgonkeglcehkeaaDoorProg.lean LOADS. Nothing in Lean hashes anything: it is a label: what it is worth is what the hold of that sum in a sandbox is worth. -/
noncomputable def Tryd.pinned : Pinned := { name := "ytgonkeglcehkeaadoor", sum := "49ca1632cb3d3e98374a38741ffd81435ee659878c0419a46d9606ca9636eaa5", checked := Tryd.checked }
namespace Rows
def none {H : Type} : Left H := { results := [], args := [] }

/- WHAT THE LISTED PACKAGE-LEVEL VARIABLES READ AS WHEN THE CALL BEGINS. Each datum BY PROGRAM (the guide's laid-datum.mjs) off the statement by which the dump's own 'gosem.cut.vars' lays the variable. In a bare row this is a premise. The card (YtgonkeglcehkeaaDoorCards.lean) ties it to the program's text. -/
def laid_unicode_utf8_acceptRanges {H : Type} : DataW H := .agg [.agg [.lit (.int .u8 128), .lit (.int .u8 191)], .agg [.lit (.int .u8 160), .lit (.int .u8 191)], .agg [.lit (.int .u8 128), .lit (.int .u8 159)], .agg [.lit (.int .u8 144), .lit (.int .u8 191)], .agg [.lit (.int .u8 128), .lit (.int .u8 143)], .agg [.lit (.int .u8 0), .lit (.int .u8 0)], .agg [.lit (.int .u8 0), .lit (.int .u8 0)], .agg [.lit (.int .u8 0), .lit (.int .u8 0)], .agg [.lit (.int .u8 0), .lit (.int .u8 0)], .agg [.lit (.int .u8 0), .lit (.int .u8 0)], .agg [.lit (.int .u8 0), .lit (.int .u8 0)], .agg [.lit (.int .u8 0), .lit (.int .u8 0)], .agg [.lit (.int .u8 0), .lit (.int .u8 0)], .agg [.lit (.int .u8 0), .lit (.int .u8 0)], .agg [.lit (.int .u8 0), .lit (.int .u8 0)], .agg [.lit (.int .u8 0), .lit (.int .u8 0)]]
/-- One of Go's own tables, pinned by name: the form's constant. -/
def laid_unicode_utf8_first : DataW Unit := Go.Pinned.utf8First

/-- 'robuststatslaw07.DelimitedFormats': WHATEVER THE INPUT: true; the input reads as it did. -/
def delimitedFormatsSpec : ChangeSpec := { name := "delimitedFormats", fn := fun _ => fun
  | [d1, d2] => { results := [.lit (.bool true)], args := [d1, d2] }
  | _ => none }
def delimitedFormatsRow : OpenClaim := { program := "ytgonkeglcehkeaadoor", sum := "49ca1632cb3d3e98374a38741ffd81435ee659878c0419a46d9606ca9636eaa5", func := "robuststats/robuststatslaw07.DelimitedFormats", spec := "delimitedFormats", inPlace := ["internal/bytealg.IndexByteString", "internal/bytealg.IndexString", "internal/abi.NoEscape", "internal/bytealg.CountString", "internal/bytealg.MakeNoZero"], unfollowed := true, recurses := true, named := ["internal/bytealg.MaxLen", "unicode/utf8.first", "unicode/utf8.acceptRanges"], apart := false, laid := [("unicode/utf8.acceptRanges", laid_unicode_utf8_acceptRanges), ("unicode/utf8.first", laid_unicode_utf8_first)] }
def DelimitedFormatsSaid : Prop := delimitedFormatsRow.holds Tryd.pinned (OpenSpec.ofChange delimitedFormatsSpec)

/-- ITS FALSE NEIGHBOUR: 'it returns false'. Refute it at one input. -/
def delimitedFormatsWrong : ChangeSpec := { name := "delimitedFormats", fn := fun _ => fun
  | [d1, d2] => { results := [.lit (.bool false)], args := [d1, d2] }
  | _ => none }
def DelimitedFormatsWrongFalsely : Prop := delimitedFormatsRow.holds Tryd.pinned (OpenSpec.ofChange delimitedFormatsWrong)

/-- 'robuststatslaw07.DelimitedCounts': WHATEVER THE INPUT: true; the input reads as it did. -/
def delimitedCountsSpec : ChangeSpec := { name := "delimitedCounts", fn := fun _ => fun
  | [d1, d2, d3] => { results := [.lit (.bool true)], args := [d1, d2, d3] }
  | _ => none }
def delimitedCountsRow : OpenClaim := { program := "ytgonkeglcehkeaadoor", sum := "49ca1632cb3d3e98374a38741ffd81435ee659878c0419a46d9606ca9636eaa5", func := "robuststats/robuststatslaw07.DelimitedCounts", spec := "delimitedCounts", inPlace := ["internal/bytealg.IndexByteString", "internal/bytealg.IndexString", "internal/abi.NoEscape", "internal/bytealg.CountString", "internal/bytealg.MakeNoZero"], unfollowed := true, recurses := true, named := ["internal/bytealg.MaxLen", "unicode/utf8.first", "unicode/utf8.acceptRanges"], apart := false, laid := [("unicode/utf8.acceptRanges", laid_unicode_utf8_acceptRanges), ("unicode/utf8.first", laid_unicode_utf8_first)] }
def DelimitedCountsSaid : Prop := delimitedCountsRow.holds Tryd.pinned (OpenSpec.ofChange delimitedCountsSpec)

/-- ITS FALSE NEIGHBOUR: 'it returns false'. Refute it at one input. -/
def delimitedCountsWrong : ChangeSpec := { name := "delimitedCounts", fn := fun _ => fun
  | [d1, d2, d3] => { results := [.lit (.bool false)], args := [d1, d2, d3] }
  | _ => none }
def DelimitedCountsWrongFalsely : Prop := delimitedCountsRow.holds Tryd.pinned (OpenSpec.ofChange delimitedCountsWrong)

/-- 'robuststatslaw07.DelimitedReadsBack': WHATEVER THE INPUT: true; the input reads as it did. -/
def delimitedReadsBackSpec : ChangeSpec := { name := "delimitedReadsBack", fn := fun _ => fun
  | [d1, d2] => { results := [.lit (.bool true)], args := [d1, d2] }
  | _ => none }
def delimitedReadsBackRow : OpenClaim := { program := "ytgonkeglcehkeaadoor", sum := "49ca1632cb3d3e98374a38741ffd81435ee659878c0419a46d9606ca9636eaa5", func := "robuststats/robuststatslaw07.DelimitedReadsBack", spec := "delimitedReadsBack", inPlace := ["internal/bytealg.IndexByteString", "internal/bytealg.IndexString", "internal/abi.NoEscape", "internal/bytealg.CountString", "internal/bytealg.MakeNoZero"], unfollowed := true, recurses := true, named := ["internal/bytealg.MaxLen", "unicode/utf8.first", "unicode/utf8.acceptRanges"], apart := false, laid := [("unicode/utf8.acceptRanges", laid_unicode_utf8_acceptRanges), ("unicode/utf8.first", laid_unicode_utf8_first)] }
def DelimitedReadsBackSaid : Prop := delimitedReadsBackRow.holds Tryd.pinned (OpenSpec.ofChange delimitedReadsBackSpec)

/-- ITS FALSE NEIGHBOUR: 'it returns false'. Refute it at one input. -/
def delimitedReadsBackWrong : ChangeSpec := { name := "delimitedReadsBack", fn := fun _ => fun
  | [d1, d2] => { results := [.lit (.bool false)], args := [d1, d2] }
  | _ => none }
def DelimitedReadsBackWrongFalsely : Prop := delimitedReadsBackRow.holds Tryd.pinned (OpenSpec.ofChange delimitedReadsBackWrong)

/-- 'robuststatslaw07.DelimitedIsStable': WHATEVER THE INPUT: true; the input reads as it did. -/
def delimitedIsStableSpec : ChangeSpec := { name := "delimitedIsStable", fn := fun _ => fun
  | [d1, d2, d3] => { results := [.lit (.bool true)], args := [d1, d2, d3] }
  | _ => none }
def delimitedIsStableRow : OpenClaim := { program := "ytgonkeglcehkeaadoor", sum := "49ca1632cb3d3e98374a38741ffd81435ee659878c0419a46d9606ca9636eaa5", func := "robuststats/robuststatslaw07.DelimitedIsStable", spec := "delimitedIsStable", inPlace := ["internal/bytealg.IndexByteString", "internal/bytealg.IndexString", "internal/abi.NoEscape", "internal/bytealg.CountString", "internal/bytealg.MakeNoZero"], unfollowed := true, recurses := true, named := ["internal/bytealg.MaxLen", "unicode/utf8.first", "unicode/utf8.acceptRanges"], apart := false, laid := [("unicode/utf8.acceptRanges", laid_unicode_utf8_acceptRanges), ("unicode/utf8.first", laid_unicode_utf8_first)] }
def DelimitedIsStableSaid : Prop := delimitedIsStableRow.holds Tryd.pinned (OpenSpec.ofChange delimitedIsStableSpec)

/-- ITS FALSE NEIGHBOUR: 'it returns false'. Refute it at one input. -/
def delimitedIsStableWrong : ChangeSpec := { name := "delimitedIsStable", fn := fun _ => fun
  | [d1, d2, d3] => { results := [.lit (.bool false)], args := [d1, d2, d3] }
  | _ => none }
def DelimitedIsStableWrongFalsely : Prop := delimitedIsStableRow.holds Tryd.pinned (OpenSpec.ofChange delimitedIsStableWrong)

/- THE SECOND FORM. 'bulk': how many values and letters a reading holds, each counted each time it is reached (what is shared counts as often as it is met; a slice's spare places count too). A statement '..UptoSaid' is the law's where the arguments, and the package variables that the reading takes, are together of bulk at most 1048576: NARROWER than '..Said'. Prove '..Said' where nothing that the law and all that it calls make is longer than what came in: it says more and counts as full. Else prove '..UptoSaid'. A law counts once. -/
mutual
def uptoBulk {H : Type} : DataW H → Nat
  | .lit (.string bytes) => bytes.length + 1
  | .lit _ => 1
  | .nil => 1
  | .ptr d => uptoBulk d + 1
  | .slice elems spare => uptoBulkAll elems + uptoBulkAll spare + 1
  | .agg parts => uptoBulkAll parts + 1
  | .iface _ d => uptoBulk d + 1
  | .map entries => uptoBulkEntries entries + 1
  | .held _ => 1
def uptoBulkAll {H : Type} : List (DataW H) → Nat
  | [] => 0
  | d :: r => uptoBulk d + uptoBulkAll r
def uptoBulkEntries {H : Type} : List (Lit × DataW H) → Nat
  | [] => 0
  | x :: r => uptoBulkEntry x + uptoBulkEntries r
def uptoBulkEntry {H : Type} : Lit × DataW H → Nat
  | (.string bytes, d) => bytes.length + uptoBulk d + 1
  | (_, d) => uptoBulk d + 1
 end
def uptoSmall : (H : Type) → List (DataW H) → Bool := fun _ ds => decide (uptoBulkAll ds ≤ 1048576)
def OpenSpec.upto (s : _root_.Go.ChangeSpec) : _root_.Go.OpenSpec := { _root_.Go.OpenSpec.ofChange s with cond := some uptoSmall }

/-- 'robuststatslaw07.DelimitedFormats', WHERE WHAT IT READS IS OF BULK AT MOST 1048576: true; the input reads as it did. -/
def delimitedFormatsUptoRow : OpenClaim := { program := "ytgonkeglcehkeaadoor", sum := "49ca1632cb3d3e98374a38741ffd81435ee659878c0419a46d9606ca9636eaa5", func := "robuststats/robuststatslaw07.DelimitedFormats", spec := "delimitedFormats", inPlace := ["internal/bytealg.IndexByteString", "internal/bytealg.IndexString", "internal/abi.NoEscape", "internal/bytealg.CountString", "internal/bytealg.MakeNoZero"], unfollowed := true, recurses := true, named := ["internal/bytealg.MaxLen", "unicode/utf8.first", "unicode/utf8.acceptRanges"], apart := false, laid := [("unicode/utf8.acceptRanges", laid_unicode_utf8_acceptRanges), ("unicode/utf8.first", laid_unicode_utf8_first)], narrowed := true }
def DelimitedFormatsUptoSaid : Prop := delimitedFormatsUptoRow.holds Tryd.pinned (OpenSpec.upto delimitedFormatsSpec)

/-- 'robuststatslaw07.DelimitedCounts', WHERE WHAT IT READS IS OF BULK AT MOST 1048576: true; the input reads as it did. -/
def delimitedCountsUptoRow : OpenClaim := { program := "ytgonkeglcehkeaadoor", sum := "49ca1632cb3d3e98374a38741ffd81435ee659878c0419a46d9606ca9636eaa5", func := "robuststats/robuststatslaw07.DelimitedCounts", spec := "delimitedCounts", inPlace := ["internal/bytealg.IndexByteString", "internal/bytealg.IndexString", "internal/abi.NoEscape", "internal/bytealg.CountString", "internal/bytealg.MakeNoZero"], unfollowed := true, recurses := true, named := ["internal/bytealg.MaxLen", "unicode/utf8.first", "unicode/utf8.acceptRanges"], apart := false, laid := [("unicode/utf8.acceptRanges", laid_unicode_utf8_acceptRanges), ("unicode/utf8.first", laid_unicode_utf8_first)], narrowed := true }
def DelimitedCountsUptoSaid : Prop := delimitedCountsUptoRow.holds Tryd.pinned (OpenSpec.upto delimitedCountsSpec)

/-- 'robuststatslaw07.DelimitedReadsBack', WHERE WHAT IT READS IS OF BULK AT MOST 1048576: true; the input reads as it did. -/
def delimitedReadsBackUptoRow : OpenClaim := { program := "ytgonkeglcehkeaadoor", sum := "49ca1632cb3d3e98374a38741ffd81435ee659878c0419a46d9606ca9636eaa5", func := "robuststats/robuststatslaw07.DelimitedReadsBack", spec := "delimitedReadsBack", inPlace := ["internal/bytealg.IndexByteString", "internal/bytealg.IndexString", "internal/abi.NoEscape", "internal/bytealg.CountString", "internal/bytealg.MakeNoZero"], unfollowed := true, recurses := true, named := ["internal/bytealg.MaxLen", "unicode/utf8.first", "unicode/utf8.acceptRanges"], apart := false, laid := [("unicode/utf8.acceptRanges", laid_unicode_utf8_acceptRanges), ("unicode/utf8.first", laid_unicode_utf8_first)], narrowed := true }
def DelimitedReadsBackUptoSaid : Prop := delimitedReadsBackUptoRow.holds Tryd.pinned (OpenSpec.upto delimitedReadsBackSpec)

/-- 'robuststatslaw07.DelimitedIsStable', WHERE WHAT IT READS IS OF BULK AT MOST 1048576: true; the input reads as it did. -/
def delimitedIsStableUptoRow : OpenClaim := { program := "ytgonkeglcehkeaadoor", sum := "49ca1632cb3d3e98374a38741ffd81435ee659878c0419a46d9606ca9636eaa5", func := "robuststats/robuststatslaw07.DelimitedIsStable", spec := "delimitedIsStable", inPlace := ["internal/bytealg.IndexByteString", "internal/bytealg.IndexString", "internal/abi.NoEscape", "internal/bytealg.CountString", "internal/bytealg.MakeNoZero"], unfollowed := true, recurses := true, named := ["internal/bytealg.MaxLen", "unicode/utf8.first", "unicode/utf8.acceptRanges"], apart := false, laid := [("unicode/utf8.acceptRanges", laid_unicode_utf8_acceptRanges), ("unicode/utf8.first", laid_unicode_utf8_first)], narrowed := true }
def DelimitedIsStableUptoSaid : Prop := delimitedIsStableUptoRow.holds Tryd.pinned (OpenSpec.upto delimitedIsStableSpec)

end Rows
end Go.Proofs.YtgonkeglcehkeaaDoor
