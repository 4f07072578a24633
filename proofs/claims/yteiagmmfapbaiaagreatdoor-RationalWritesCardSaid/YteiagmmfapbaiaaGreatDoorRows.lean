/-
  NARROWER THAN 'FOR EVERY INPUT', by the rows' own cells (each row's printed sentence says how): RationalMakes: laid · RationalWrites: laid · RationalIsInLowestTerms: laid · RationalReadsBack: laid · RationalCalculates: laid · RationalIsAField: laid · RationalIsOrdered: laid · RationalDecimalIsNear: laid · RationalValues: laid · RationalHasAFloor: laid.
  DERIVED. THE GIVEN ROWS OF THIS SEAT. 10 by the template 'for every input the law returns true; each argument reads behind the call as it read before'; 0 by the template 'total and deterministic' (their statements: YteiagmmfapbaiaaGreatDoorTotals.lean).
  GIVEN WITH THE SEED: the statements are not yours to turn. If you find one false, say at which input.
  Laid BY PROGRAM, IN A SANDBOX (cutbox-rows.mjs): the forced cells as the released guide's own fill.sh prints them over the translation 0c634ac4a477f507… (all of the seat's roots in one cut). By AI agents, Wed Nov 11 2026. No macro, syntax, notation, axiom, sorry.
-/
import Derived.Test.YteiagmmfapbaiaaGreatDoorChecked
import GoSem.PinnedTables
import GoSem.Claim
import GoSem.ClaimJoined
import GoSem.ClaimMapViews
import Derived.JoinedTies
import Derived.KernelRfl
namespace Go.Proofs.YteiagmmfapbaiaaGreatDoor
/- THE CELL 'sum', in the pinned program and in every row, IS THE sha256 OF THE DUMP (.gsa) THAT YteiagmmfapbaiaaGreatDoorProg.lean LOADS. Nothing in Lean hashes anything: it is a label: what it is worth is what the hold of that sum in a sandbox is worth. -/
noncomputable def Tryz.pinned : Pinned := { name := "yteiagmmfapbaiaagreatdoor", sum := "0c634ac4a477f50720ceff4d727f9f46860e9f20f06e744e89ed29262cfc5db0", checked := Tryz.checked }
namespace Rows
def none {H : Type} : Left H := { results := [], args := [] }

/- WHAT THE LISTED PACKAGE-LEVEL VARIABLES READ AS WHEN THE CALL BEGINS. Each datum BY PROGRAM (the guide's laid-datum.mjs) off the statement by which the dump's own 'gosem.cut.vars' lays the variable. In a bare row this is a premise. The card (YteiagmmfapbaiaaGreatDoorCards.lean) ties it to the program's text. -/
def laid_math_bits_deBruijn32tab {H : Type} : DataW H := .agg [.lit (.int .u8 0), .lit (.int .u8 1), .lit (.int .u8 28), .lit (.int .u8 2), .lit (.int .u8 29), .lit (.int .u8 14), .lit (.int .u8 24), .lit (.int .u8 3), .lit (.int .u8 30), .lit (.int .u8 22), .lit (.int .u8 20), .lit (.int .u8 15), .lit (.int .u8 25), .lit (.int .u8 17), .lit (.int .u8 4), .lit (.int .u8 8), .lit (.int .u8 31), .lit (.int .u8 27), .lit (.int .u8 13), .lit (.int .u8 23), .lit (.int .u8 21), .lit (.int .u8 19), .lit (.int .u8 16), .lit (.int .u8 7), .lit (.int .u8 26), .lit (.int .u8 12), .lit (.int .u8 18), .lit (.int .u8 6), .lit (.int .u8 11), .lit (.int .u8 5), .lit (.int .u8 10), .lit (.int .u8 9)]
def laid_math_bits_deBruijn64tab {H : Type} : DataW H := .agg [.lit (.int .u8 0), .lit (.int .u8 1), .lit (.int .u8 56), .lit (.int .u8 2), .lit (.int .u8 57), .lit (.int .u8 49), .lit (.int .u8 28), .lit (.int .u8 3), .lit (.int .u8 61), .lit (.int .u8 58), .lit (.int .u8 42), .lit (.int .u8 50), .lit (.int .u8 38), .lit (.int .u8 29), .lit (.int .u8 17), .lit (.int .u8 4), .lit (.int .u8 62), .lit (.int .u8 47), .lit (.int .u8 59), .lit (.int .u8 36), .lit (.int .u8 45), .lit (.int .u8 43), .lit (.int .u8 51), .lit (.int .u8 22), .lit (.int .u8 53), .lit (.int .u8 39), .lit (.int .u8 33), .lit (.int .u8 30), .lit (.int .u8 24), .lit (.int .u8 18), .lit (.int .u8 12), .lit (.int .u8 5), .lit (.int .u8 63), .lit (.int .u8 55), .lit (.int .u8 48), .lit (.int .u8 27), .lit (.int .u8 60), .lit (.int .u8 41), .lit (.int .u8 37), .lit (.int .u8 16), .lit (.int .u8 46), .lit (.int .u8 35), .lit (.int .u8 44), .lit (.int .u8 21), .lit (.int .u8 52), .lit (.int .u8 32), .lit (.int .u8 23), .lit (.int .u8 11), .lit (.int .u8 54), .lit (.int .u8 26), .lit (.int .u8 40), .lit (.int .u8 15), .lit (.int .u8 34), .lit (.int .u8 20), .lit (.int .u8 31), .lit (.int .u8 10), .lit (.int .u8 25), .lit (.int .u8 14), .lit (.int .u8 19), .lit (.int .u8 9), .lit (.int .u8 13), .lit (.int .u8 8), .lit (.int .u8 7), .lit (.int .u8 6)]
def laid_internal_strconv_uint64pow10 {H : Type} : DataW H := .agg [.lit (.int .u64 1), .lit (.int .u64 10), .lit (.int .u64 100), .lit (.int .u64 1000), .lit (.int .u64 10000), .lit (.int .u64 100000), .lit (.int .u64 1000000), .lit (.int .u64 10000000), .lit (.int .u64 100000000), .lit (.int .u64 1000000000), .lit (.int .u64 10000000000), .lit (.int .u64 100000000000), .lit (.int .u64 1000000000000), .lit (.int .u64 10000000000000), .lit (.int .u64 100000000000000), .lit (.int .u64 1000000000000000), .lit (.int .u64 10000000000000000), .lit (.int .u64 100000000000000000), .lit (.int .u64 1000000000000000000), .lit (.int .u64 10000000000000000000)]
def laid_unicode_utf8_acceptRanges {H : Type} : DataW H := .agg [.agg [.lit (.int .u8 128), .lit (.int .u8 191)], .agg [.lit (.int .u8 160), .lit (.int .u8 191)], .agg [.lit (.int .u8 128), .lit (.int .u8 159)], .agg [.lit (.int .u8 144), .lit (.int .u8 191)], .agg [.lit (.int .u8 128), .lit (.int .u8 143)], .agg [.lit (.int .u8 0), .lit (.int .u8 0)], .agg [.lit (.int .u8 0), .lit (.int .u8 0)], .agg [.lit (.int .u8 0), .lit (.int .u8 0)], .agg [.lit (.int .u8 0), .lit (.int .u8 0)], .agg [.lit (.int .u8 0), .lit (.int .u8 0)], .agg [.lit (.int .u8 0), .lit (.int .u8 0)], .agg [.lit (.int .u8 0), .lit (.int .u8 0)], .agg [.lit (.int .u8 0), .lit (.int .u8 0)], .agg [.lit (.int .u8 0), .lit (.int .u8 0)], .agg [.lit (.int .u8 0), .lit (.int .u8 0)], .agg [.lit (.int .u8 0), .lit (.int .u8 0)]]
/-- One of Go's own tables, pinned by name: the form's constant. -/
def laid_unicode_utf8_first : DataW Unit := Go.Pinned.utf8First

/-- 'robuststatslaw03.RationalMakes': WHATEVER THE INPUT: true; the input reads as it did. -/
def rationalMakesSpec : ChangeSpec := { name := "rationalMakes", fn := fun _ => fun
  | [d1, d2] => { results := [.lit (.bool true)], args := [d1, d2] }
  | _ => none }
def rationalMakesRow : OpenClaim := { program := "yteiagmmfapbaiaagreatdoor", sum := "0c634ac4a477f50720ceff4d727f9f46860e9f20f06e744e89ed29262cfc5db0", func := "robuststats/robuststatslaw03.RationalMakes", spec := "rationalMakes", inPlace := ["internal/bytealg.IndexByteString", "internal/bytealg.IndexString", "internal/abi.NoEscape", "internal/bytealg.MakeNoZero"], named := ["math/bits.overflowError", "internal/bytealg.MaxLen", "unicode/utf8.first", "unicode/utf8.acceptRanges", "internal/strconv.uint64pow10", "math/bits.deBruijn32tab", "math/bits.deBruijn64tab"], apart := false, laid := [("math/bits.deBruijn32tab", laid_math_bits_deBruijn32tab), ("math/bits.deBruijn64tab", laid_math_bits_deBruijn64tab), ("internal/strconv.uint64pow10", laid_internal_strconv_uint64pow10), ("unicode/utf8.acceptRanges", laid_unicode_utf8_acceptRanges), ("unicode/utf8.first", laid_unicode_utf8_first)] }
def RationalMakesSaid : Prop := rationalMakesRow.holds Tryz.pinned (OpenSpec.ofChange rationalMakesSpec)

/-- ITS FALSE NEIGHBOUR: 'it returns false'. Refute it at one input. -/
def rationalMakesWrong : ChangeSpec := { name := "rationalMakes", fn := fun _ => fun
  | [d1, d2] => { results := [.lit (.bool false)], args := [d1, d2] }
  | _ => none }
def RationalMakesWrongFalsely : Prop := rationalMakesRow.holds Tryz.pinned (OpenSpec.ofChange rationalMakesWrong)

/-- 'robuststatslaw03.RationalWrites': WHATEVER THE INPUT: true; the input reads as it did. -/
def rationalWritesSpec : ChangeSpec := { name := "rationalWrites", fn := fun _ => fun
  | [d1, d2, d3] => { results := [.lit (.bool true)], args := [d1, d2, d3] }
  | _ => none }
def rationalWritesRow : OpenClaim := { program := "yteiagmmfapbaiaagreatdoor", sum := "0c634ac4a477f50720ceff4d727f9f46860e9f20f06e744e89ed29262cfc5db0", func := "robuststats/robuststatslaw03.RationalWrites", spec := "rationalWrites", inPlace := ["internal/bytealg.IndexByteString", "internal/bytealg.IndexString", "internal/abi.NoEscape", "internal/bytealg.MakeNoZero"], recurses := true, named := ["math/bits.overflowError", "internal/bytealg.MaxLen", "unicode/utf8.first", "unicode/utf8.acceptRanges", "internal/strconv.uint64pow10", "math/bits.deBruijn32tab", "math/bits.deBruijn64tab"], apart := false, laid := [("math/bits.deBruijn32tab", laid_math_bits_deBruijn32tab), ("math/bits.deBruijn64tab", laid_math_bits_deBruijn64tab), ("internal/strconv.uint64pow10", laid_internal_strconv_uint64pow10), ("unicode/utf8.acceptRanges", laid_unicode_utf8_acceptRanges), ("unicode/utf8.first", laid_unicode_utf8_first)] }
def RationalWritesSaid : Prop := rationalWritesRow.holds Tryz.pinned (OpenSpec.ofChange rationalWritesSpec)

/-- ITS FALSE NEIGHBOUR: 'it returns false'. Refute it at one input. -/
def rationalWritesWrong : ChangeSpec := { name := "rationalWrites", fn := fun _ => fun
  | [d1, d2, d3] => { results := [.lit (.bool false)], args := [d1, d2, d3] }
  | _ => none }
def RationalWritesWrongFalsely : Prop := rationalWritesRow.holds Tryz.pinned (OpenSpec.ofChange rationalWritesWrong)

/-- 'robuststatslaw03.RationalIsInLowestTerms': WHATEVER THE INPUT: true; the input reads as it did. -/
def rationalIsInLowestTermsSpec : ChangeSpec := { name := "rationalIsInLowestTerms", fn := fun _ => fun
  | [d1, d2, d3] => { results := [.lit (.bool true)], args := [d1, d2, d3] }
  | _ => none }
def rationalIsInLowestTermsRow : OpenClaim := { program := "yteiagmmfapbaiaagreatdoor", sum := "0c634ac4a477f50720ceff4d727f9f46860e9f20f06e744e89ed29262cfc5db0", func := "robuststats/robuststatslaw03.RationalIsInLowestTerms", spec := "rationalIsInLowestTerms", inPlace := ["internal/bytealg.IndexByteString", "internal/bytealg.IndexString", "internal/abi.NoEscape", "internal/bytealg.MakeNoZero"], named := ["math/bits.overflowError", "internal/bytealg.MaxLen", "unicode/utf8.first", "unicode/utf8.acceptRanges", "internal/strconv.uint64pow10", "math/bits.deBruijn32tab", "math/bits.deBruijn64tab"], apart := false, laid := [("math/bits.deBruijn32tab", laid_math_bits_deBruijn32tab), ("math/bits.deBruijn64tab", laid_math_bits_deBruijn64tab), ("internal/strconv.uint64pow10", laid_internal_strconv_uint64pow10), ("unicode/utf8.acceptRanges", laid_unicode_utf8_acceptRanges), ("unicode/utf8.first", laid_unicode_utf8_first)] }
def RationalIsInLowestTermsSaid : Prop := rationalIsInLowestTermsRow.holds Tryz.pinned (OpenSpec.ofChange rationalIsInLowestTermsSpec)

/-- ITS FALSE NEIGHBOUR: 'it returns false'. Refute it at one input. -/
def rationalIsInLowestTermsWrong : ChangeSpec := { name := "rationalIsInLowestTerms", fn := fun _ => fun
  | [d1, d2, d3] => { results := [.lit (.bool false)], args := [d1, d2, d3] }
  | _ => none }
def RationalIsInLowestTermsWrongFalsely : Prop := rationalIsInLowestTermsRow.holds Tryz.pinned (OpenSpec.ofChange rationalIsInLowestTermsWrong)

/-- 'robuststatslaw03.RationalReadsBack': WHATEVER THE INPUT: true; the input reads as it did. -/
def rationalReadsBackSpec : ChangeSpec := { name := "rationalReadsBack", fn := fun _ => fun
  | [d] => { results := [.lit (.bool true)], args := [d] }
  | _ => none }
def rationalReadsBackRow : OpenClaim := { program := "yteiagmmfapbaiaagreatdoor", sum := "0c634ac4a477f50720ceff4d727f9f46860e9f20f06e744e89ed29262cfc5db0", func := "robuststats/robuststatslaw03.RationalReadsBack", spec := "rationalReadsBack", inPlace := ["internal/bytealg.IndexByteString", "internal/bytealg.IndexString", "internal/abi.NoEscape", "internal/bytealg.MakeNoZero"], named := ["math/bits.overflowError", "internal/bytealg.MaxLen", "unicode/utf8.first", "unicode/utf8.acceptRanges", "internal/strconv.uint64pow10", "math/bits.deBruijn32tab", "math/bits.deBruijn64tab"], apart := false, laid := [("math/bits.deBruijn32tab", laid_math_bits_deBruijn32tab), ("math/bits.deBruijn64tab", laid_math_bits_deBruijn64tab), ("internal/strconv.uint64pow10", laid_internal_strconv_uint64pow10), ("unicode/utf8.acceptRanges", laid_unicode_utf8_acceptRanges), ("unicode/utf8.first", laid_unicode_utf8_first)] }
def RationalReadsBackSaid : Prop := rationalReadsBackRow.holds Tryz.pinned (OpenSpec.ofChange rationalReadsBackSpec)

/-- ITS FALSE NEIGHBOUR: 'it returns false'. Refute it at one input. -/
def rationalReadsBackWrong : ChangeSpec := { name := "rationalReadsBack", fn := fun _ => fun
  | [d] => { results := [.lit (.bool false)], args := [d] }
  | _ => none }
def RationalReadsBackWrongFalsely : Prop := rationalReadsBackRow.holds Tryz.pinned (OpenSpec.ofChange rationalReadsBackWrong)

/-- 'robuststatslaw03.RationalCalculates': WHATEVER THE INPUT: true; the input reads as it did. -/
def rationalCalculatesSpec : ChangeSpec := { name := "rationalCalculates", fn := fun _ => fun
  | [d1, d2] => { results := [.lit (.bool true)], args := [d1, d2] }
  | _ => none }
def rationalCalculatesRow : OpenClaim := { program := "yteiagmmfapbaiaagreatdoor", sum := "0c634ac4a477f50720ceff4d727f9f46860e9f20f06e744e89ed29262cfc5db0", func := "robuststats/robuststatslaw03.RationalCalculates", spec := "rationalCalculates", inPlace := ["internal/bytealg.IndexByteString", "internal/bytealg.IndexString", "internal/abi.NoEscape", "internal/bytealg.MakeNoZero"], named := ["math/bits.overflowError", "internal/bytealg.MaxLen", "unicode/utf8.first", "unicode/utf8.acceptRanges", "internal/strconv.uint64pow10", "math/bits.deBruijn32tab", "math/bits.deBruijn64tab"], apart := false, laid := [("math/bits.deBruijn32tab", laid_math_bits_deBruijn32tab), ("math/bits.deBruijn64tab", laid_math_bits_deBruijn64tab), ("internal/strconv.uint64pow10", laid_internal_strconv_uint64pow10), ("unicode/utf8.acceptRanges", laid_unicode_utf8_acceptRanges), ("unicode/utf8.first", laid_unicode_utf8_first)] }
def RationalCalculatesSaid : Prop := rationalCalculatesRow.holds Tryz.pinned (OpenSpec.ofChange rationalCalculatesSpec)

/-- ITS FALSE NEIGHBOUR: 'it returns false'. Refute it at one input. -/
def rationalCalculatesWrong : ChangeSpec := { name := "rationalCalculates", fn := fun _ => fun
  | [d1, d2] => { results := [.lit (.bool false)], args := [d1, d2] }
  | _ => none }
def RationalCalculatesWrongFalsely : Prop := rationalCalculatesRow.holds Tryz.pinned (OpenSpec.ofChange rationalCalculatesWrong)

/-- 'robuststatslaw03.RationalIsAField': WHATEVER THE INPUT: true; the input reads as it did. -/
def rationalIsAFieldSpec : ChangeSpec := { name := "rationalIsAField", fn := fun _ => fun
  | [d1, d2, d3] => { results := [.lit (.bool true)], args := [d1, d2, d3] }
  | _ => none }
def rationalIsAFieldRow : OpenClaim := { program := "yteiagmmfapbaiaagreatdoor", sum := "0c634ac4a477f50720ceff4d727f9f46860e9f20f06e744e89ed29262cfc5db0", func := "robuststats/robuststatslaw03.RationalIsAField", spec := "rationalIsAField", inPlace := ["internal/bytealg.IndexByteString", "internal/bytealg.IndexString", "internal/abi.NoEscape", "internal/bytealg.MakeNoZero"], named := ["math/bits.overflowError", "internal/bytealg.MaxLen", "unicode/utf8.first", "unicode/utf8.acceptRanges", "internal/strconv.uint64pow10", "math/bits.deBruijn32tab", "math/bits.deBruijn64tab"], apart := false, laid := [("math/bits.deBruijn32tab", laid_math_bits_deBruijn32tab), ("math/bits.deBruijn64tab", laid_math_bits_deBruijn64tab), ("internal/strconv.uint64pow10", laid_internal_strconv_uint64pow10), ("unicode/utf8.acceptRanges", laid_unicode_utf8_acceptRanges), ("unicode/utf8.first", laid_unicode_utf8_first)] }
def RationalIsAFieldSaid : Prop := rationalIsAFieldRow.holds Tryz.pinned (OpenSpec.ofChange rationalIsAFieldSpec)

/-- ITS FALSE NEIGHBOUR: 'it returns false'. Refute it at one input. -/
def rationalIsAFieldWrong : ChangeSpec := { name := "rationalIsAField", fn := fun _ => fun
  | [d1, d2, d3] => { results := [.lit (.bool false)], args := [d1, d2, d3] }
  | _ => none }
def RationalIsAFieldWrongFalsely : Prop := rationalIsAFieldRow.holds Tryz.pinned (OpenSpec.ofChange rationalIsAFieldWrong)

/-- 'robuststatslaw03.RationalIsOrdered': WHATEVER THE INPUT: true; the input reads as it did. -/
def rationalIsOrderedSpec : ChangeSpec := { name := "rationalIsOrdered", fn := fun _ => fun
  | [d1, d2, d3] => { results := [.lit (.bool true)], args := [d1, d2, d3] }
  | _ => none }
def rationalIsOrderedRow : OpenClaim := { program := "yteiagmmfapbaiaagreatdoor", sum := "0c634ac4a477f50720ceff4d727f9f46860e9f20f06e744e89ed29262cfc5db0", func := "robuststats/robuststatslaw03.RationalIsOrdered", spec := "rationalIsOrdered", inPlace := ["internal/bytealg.IndexByteString", "internal/bytealg.IndexString", "internal/abi.NoEscape", "internal/bytealg.MakeNoZero"], named := ["math/bits.overflowError", "internal/bytealg.MaxLen", "unicode/utf8.first", "unicode/utf8.acceptRanges", "internal/strconv.uint64pow10", "math/bits.deBruijn32tab", "math/bits.deBruijn64tab"], apart := false, laid := [("math/bits.deBruijn32tab", laid_math_bits_deBruijn32tab), ("math/bits.deBruijn64tab", laid_math_bits_deBruijn64tab), ("internal/strconv.uint64pow10", laid_internal_strconv_uint64pow10), ("unicode/utf8.acceptRanges", laid_unicode_utf8_acceptRanges), ("unicode/utf8.first", laid_unicode_utf8_first)] }
def RationalIsOrderedSaid : Prop := rationalIsOrderedRow.holds Tryz.pinned (OpenSpec.ofChange rationalIsOrderedSpec)

/-- ITS FALSE NEIGHBOUR: 'it returns false'. Refute it at one input. -/
def rationalIsOrderedWrong : ChangeSpec := { name := "rationalIsOrdered", fn := fun _ => fun
  | [d1, d2, d3] => { results := [.lit (.bool false)], args := [d1, d2, d3] }
  | _ => none }
def RationalIsOrderedWrongFalsely : Prop := rationalIsOrderedRow.holds Tryz.pinned (OpenSpec.ofChange rationalIsOrderedWrong)

/-- 'robuststatslaw03.RationalDecimalIsNear': WHATEVER THE INPUT: true; the input reads as it did. -/
def rationalDecimalIsNearSpec : ChangeSpec := { name := "rationalDecimalIsNear", fn := fun _ => fun
  | [d1, d2] => { results := [.lit (.bool true)], args := [d1, d2] }
  | _ => none }
def rationalDecimalIsNearRow : OpenClaim := { program := "yteiagmmfapbaiaagreatdoor", sum := "0c634ac4a477f50720ceff4d727f9f46860e9f20f06e744e89ed29262cfc5db0", func := "robuststats/robuststatslaw03.RationalDecimalIsNear", spec := "rationalDecimalIsNear", inPlace := ["internal/bytealg.IndexByteString", "internal/bytealg.IndexString", "internal/abi.NoEscape", "internal/bytealg.MakeNoZero"], named := ["math/bits.overflowError", "internal/bytealg.MaxLen", "unicode/utf8.first", "unicode/utf8.acceptRanges", "internal/strconv.uint64pow10", "math/bits.deBruijn32tab", "math/bits.deBruijn64tab"], apart := false, laid := [("math/bits.deBruijn32tab", laid_math_bits_deBruijn32tab), ("math/bits.deBruijn64tab", laid_math_bits_deBruijn64tab), ("internal/strconv.uint64pow10", laid_internal_strconv_uint64pow10), ("unicode/utf8.acceptRanges", laid_unicode_utf8_acceptRanges), ("unicode/utf8.first", laid_unicode_utf8_first)] }
def RationalDecimalIsNearSaid : Prop := rationalDecimalIsNearRow.holds Tryz.pinned (OpenSpec.ofChange rationalDecimalIsNearSpec)

/-- ITS FALSE NEIGHBOUR: 'it returns false'. Refute it at one input. -/
def rationalDecimalIsNearWrong : ChangeSpec := { name := "rationalDecimalIsNear", fn := fun _ => fun
  | [d1, d2] => { results := [.lit (.bool false)], args := [d1, d2] }
  | _ => none }
def RationalDecimalIsNearWrongFalsely : Prop := rationalDecimalIsNearRow.holds Tryz.pinned (OpenSpec.ofChange rationalDecimalIsNearWrong)

/-- 'robuststatslaw03.RationalValues': WHATEVER THE INPUT: true; the input reads as it did. -/
def rationalValuesSpec : ChangeSpec := { name := "rationalValues", fn := fun _ => fun
  | [d1, d2, d3] => { results := [.lit (.bool true)], args := [d1, d2, d3] }
  | _ => none }
def rationalValuesRow : OpenClaim := { program := "yteiagmmfapbaiaagreatdoor", sum := "0c634ac4a477f50720ceff4d727f9f46860e9f20f06e744e89ed29262cfc5db0", func := "robuststats/robuststatslaw03.RationalValues", spec := "rationalValues", inPlace := ["internal/bytealg.IndexByteString", "internal/bytealg.IndexString", "internal/abi.NoEscape", "internal/bytealg.MakeNoZero"], named := ["math/bits.overflowError", "internal/bytealg.MaxLen", "unicode/utf8.first", "unicode/utf8.acceptRanges", "internal/strconv.uint64pow10", "math/bits.deBruijn32tab", "math/bits.deBruijn64tab"], apart := false, laid := [("math/bits.deBruijn32tab", laid_math_bits_deBruijn32tab), ("math/bits.deBruijn64tab", laid_math_bits_deBruijn64tab), ("internal/strconv.uint64pow10", laid_internal_strconv_uint64pow10), ("unicode/utf8.acceptRanges", laid_unicode_utf8_acceptRanges), ("unicode/utf8.first", laid_unicode_utf8_first)] }
def RationalValuesSaid : Prop := rationalValuesRow.holds Tryz.pinned (OpenSpec.ofChange rationalValuesSpec)

/-- ITS FALSE NEIGHBOUR: 'it returns false'. Refute it at one input. -/
def rationalValuesWrong : ChangeSpec := { name := "rationalValues", fn := fun _ => fun
  | [d1, d2, d3] => { results := [.lit (.bool false)], args := [d1, d2, d3] }
  | _ => none }
def RationalValuesWrongFalsely : Prop := rationalValuesRow.holds Tryz.pinned (OpenSpec.ofChange rationalValuesWrong)

/-- 'robuststatslaw03.RationalHasAFloor': WHATEVER THE INPUT: true; the input reads as it did. -/
def rationalHasAFloorSpec : ChangeSpec := { name := "rationalHasAFloor", fn := fun _ => fun
  | [d] => { results := [.lit (.bool true)], args := [d] }
  | _ => none }
def rationalHasAFloorRow : OpenClaim := { program := "yteiagmmfapbaiaagreatdoor", sum := "0c634ac4a477f50720ceff4d727f9f46860e9f20f06e744e89ed29262cfc5db0", func := "robuststats/robuststatslaw03.RationalHasAFloor", spec := "rationalHasAFloor", inPlace := ["internal/bytealg.IndexByteString", "internal/bytealg.IndexString", "internal/abi.NoEscape", "internal/bytealg.MakeNoZero"], named := ["math/bits.overflowError", "internal/bytealg.MaxLen", "unicode/utf8.first", "unicode/utf8.acceptRanges", "internal/strconv.uint64pow10", "math/bits.deBruijn32tab", "math/bits.deBruijn64tab"], apart := false, laid := [("math/bits.deBruijn32tab", laid_math_bits_deBruijn32tab), ("math/bits.deBruijn64tab", laid_math_bits_deBruijn64tab), ("internal/strconv.uint64pow10", laid_internal_strconv_uint64pow10), ("unicode/utf8.acceptRanges", laid_unicode_utf8_acceptRanges), ("unicode/utf8.first", laid_unicode_utf8_first)] }
def RationalHasAFloorSaid : Prop := rationalHasAFloorRow.holds Tryz.pinned (OpenSpec.ofChange rationalHasAFloorSpec)

/-- ITS FALSE NEIGHBOUR: 'it returns false'. Refute it at one input. -/
def rationalHasAFloorWrong : ChangeSpec := { name := "rationalHasAFloor", fn := fun _ => fun
  | [d] => { results := [.lit (.bool false)], args := [d] }
  | _ => none }
def RationalHasAFloorWrongFalsely : Prop := rationalHasAFloorRow.holds Tryz.pinned (OpenSpec.ofChange rationalHasAFloorWrong)

/- THE SECOND FORM. 'bulk': how many values and letters a reading holds, each counted each time it is reached (what is shared counts as often as it is met; a slice's spare places count too). A statement '..UptoSaid' is the law's where the arguments, and the package variables that the reading takes, are together of bulk at most 1048576: NARROWER than '..Said'. Prove '..Said' where nothing that the law and all that it calls make is longer than what came in: it says more and counts as full. Else prove '..UptoSaid'. A law counts once. -/
mutual
def uptoBulk {H : Type} : DataW H → Nat
  | .lit (.string bytes) => bytes.length + 1
  | .lit _ => 1
  | .nil => 1
  | .ptr d => uptoBulk d + 1
  | .slice elems spare => uptoBulkAll elems + uptoBulkAll spare + 1
  | .agg parts => uptoBulkAll parts + 1
  | .iface _ d => uptoBulk d + 1
  | .map entries => uptoBulkEntries entries + 1
  | .held _ => 1
def uptoBulkAll {H : Type} : List (DataW H) → Nat
  | [] => 0
  | d :: r => uptoBulk d + uptoBulkAll r
def uptoBulkEntries {H : Type} : List (Lit × DataW H) → Nat
  | [] => 0
  | x :: r => uptoBulkEntry x + uptoBulkEntries r
def uptoBulkEntry {H : Type} : Lit × DataW H → Nat
  | (.string bytes, d) => bytes.length + uptoBulk d + 1
  | (_, d) => uptoBulk d + 1
 end
def uptoSmall : (H : Type) → List (DataW H) → Bool := fun _ ds => decide (uptoBulkAll ds ≤ 1048576)
def OpenSpec.upto (s : _root_.Go.ChangeSpec) : _root_.Go.OpenSpec := { _root_.Go.OpenSpec.ofChange s with cond := some uptoSmall }

/-- 'robuststatslaw03.RationalMakes', WHERE WHAT IT READS IS OF BULK AT MOST 1048576: true; the input reads as it did. -/
def rationalMakesUptoRow : OpenClaim := { program := "yteiagmmfapbaiaagreatdoor", sum := "0c634ac4a477f50720ceff4d727f9f46860e9f20f06e744e89ed29262cfc5db0", func := "robuststats/robuststatslaw03.RationalMakes", spec := "rationalMakes", inPlace := ["internal/bytealg.IndexByteString", "internal/bytealg.IndexString", "internal/abi.NoEscape", "internal/bytealg.MakeNoZero"], named := ["math/bits.overflowError", "internal/bytealg.MaxLen", "unicode/utf8.first", "unicode/utf8.acceptRanges", "internal/strconv.uint64pow10", "math/bits.deBruijn32tab", "math/bits.deBruijn64tab"], apart := false, laid := [("math/bits.deBruijn32tab", laid_math_bits_deBruijn32tab), ("math/bits.deBruijn64tab", laid_math_bits_deBruijn64tab), ("internal/strconv.uint64pow10", laid_internal_strconv_uint64pow10), ("unicode/utf8.acceptRanges", laid_unicode_utf8_acceptRanges), ("unicode/utf8.first", laid_unicode_utf8_first)], narrowed := true }
def RationalMakesUptoSaid : Prop := rationalMakesUptoRow.holds Tryz.pinned (OpenSpec.upto rationalMakesSpec)

/-- 'robuststatslaw03.RationalWrites', WHERE WHAT IT READS IS OF BULK AT MOST 1048576: true; the input reads as it did. -/
def rationalWritesUptoRow : OpenClaim := { program := "yteiagmmfapbaiaagreatdoor", sum := "0c634ac4a477f50720ceff4d727f9f46860e9f20f06e744e89ed29262cfc5db0", func := "robuststats/robuststatslaw03.RationalWrites", spec := "rationalWrites", inPlace := ["internal/bytealg.IndexByteString", "internal/bytealg.IndexString", "internal/abi.NoEscape", "internal/bytealg.MakeNoZero"], recurses := true, named := ["math/bits.overflowError", "internal/bytealg.MaxLen", "unicode/utf8.first", "unicode/utf8.acceptRanges", "internal/strconv.uint64pow10", "math/bits.deBruijn32tab", "math/bits.deBruijn64tab"], apart := false, laid := [("math/bits.deBruijn32tab", laid_math_bits_deBruijn32tab), ("math/bits.deBruijn64tab", laid_math_bits_deBruijn64tab), ("internal/strconv.uint64pow10", laid_internal_strconv_uint64pow10), ("unicode/utf8.acceptRanges", laid_unicode_utf8_acceptRanges), ("unicode/utf8.first", laid_unicode_utf8_first)], narrowed := true }
def RationalWritesUptoSaid : Prop := rationalWritesUptoRow.holds Tryz.pinned (OpenSpec.upto rationalWritesSpec)

/-- 'robuststatslaw03.RationalIsInLowestTerms', WHERE WHAT IT READS IS OF BULK AT MOST 1048576: true; the input reads as it did. -/
def rationalIsInLowestTermsUptoRow : OpenClaim := { program := "yteiagmmfapbaiaagreatdoor", sum := "0c634ac4a477f50720ceff4d727f9f46860e9f20f06e744e89ed29262cfc5db0", func := "robuststats/robuststatslaw03.RationalIsInLowestTerms", spec := "rationalIsInLowestTerms", inPlace := ["internal/bytealg.IndexByteString", "internal/bytealg.IndexString", "internal/abi.NoEscape", "internal/bytealg.MakeNoZero"], named := ["math/bits.overflowError", "internal/bytealg.MaxLen", "unicode/utf8.first", "unicode/utf8.acceptRanges", "internal/strconv.uint64pow10", "math/bits.deBruijn32tab", "math/bits.deBruijn64tab"], apart := false, laid := [("math/bits.deBruijn32tab", laid_math_bits_deBruijn32tab), ("math/bits.deBruijn64tab", laid_math_bits_deBruijn64tab), ("internal/strconv.uint64pow10", laid_internal_strconv_uint64pow10), ("unicode/utf8.acceptRanges", laid_unicode_utf8_acceptRanges), ("unicode/utf8.first", laid_unicode_utf8_first)], narrowed := true }
def RationalIsInLowestTermsUptoSaid : Prop := rationalIsInLowestTermsUptoRow.holds Tryz.pinned (OpenSpec.upto rationalIsInLowestTermsSpec)

/-- 'robuststatslaw03.RationalReadsBack', WHERE WHAT IT READS IS OF BULK AT MOST 1048576: true; the input reads as it did. -/
def rationalReadsBackUptoRow : OpenClaim := { program := "yteiagmmfapbaiaagreatdoor", sum := "0c634ac4a477f50720ceff4d727f9f46860e9f20f06e744e89ed29262cfc5db0", func := "robuststats/robuststatslaw03.RationalReadsBack", spec := "rationalReadsBack", inPlace := ["internal/bytealg.IndexByteString", "internal/bytealg.IndexString", "internal/abi.NoEscape", "internal/bytealg.MakeNoZero"], named := ["math/bits.overflowError", "internal/bytealg.MaxLen", "unicode/utf8.first", "unicode/utf8.acceptRanges", "internal/strconv.uint64pow10", "math/bits.deBruijn32tab", "math/bits.deBruijn64tab"], apart := false, laid := [("math/bits.deBruijn32tab", laid_math_bits_deBruijn32tab), ("math/bits.deBruijn64tab", laid_math_bits_deBruijn64tab), ("internal/strconv.uint64pow10", laid_internal_strconv_uint64pow10), ("unicode/utf8.acceptRanges", laid_unicode_utf8_acceptRanges), ("unicode/utf8.first", laid_unicode_utf8_first)], narrowed := true }
def RationalReadsBackUptoSaid : Prop := rationalReadsBackUptoRow.holds Tryz.pinned (OpenSpec.upto rationalReadsBackSpec)

/-- 'robuststatslaw03.RationalCalculates', WHERE WHAT IT READS IS OF BULK AT MOST 1048576: true; the input reads as it did. -/
def rationalCalculatesUptoRow : OpenClaim := { program := "yteiagmmfapbaiaagreatdoor", sum := "0c634ac4a477f50720ceff4d727f9f46860e9f20f06e744e89ed29262cfc5db0", func := "robuststats/robuststatslaw03.RationalCalculates", spec := "rationalCalculates", inPlace := ["internal/bytealg.IndexByteString", "internal/bytealg.IndexString", "internal/abi.NoEscape", "internal/bytealg.MakeNoZero"], named := ["math/bits.overflowError", "internal/bytealg.MaxLen", "unicode/utf8.first", "unicode/utf8.acceptRanges", "internal/strconv.uint64pow10", "math/bits.deBruijn32tab", "math/bits.deBruijn64tab"], apart := false, laid := [("math/bits.deBruijn32tab", laid_math_bits_deBruijn32tab), ("math/bits.deBruijn64tab", laid_math_bits_deBruijn64tab), ("internal/strconv.uint64pow10", laid_internal_strconv_uint64pow10), ("unicode/utf8.acceptRanges", laid_unicode_utf8_acceptRanges), ("unicode/utf8.first", laid_unicode_utf8_first)], narrowed := true }
def RationalCalculatesUptoSaid : Prop := rationalCalculatesUptoRow.holds Tryz.pinned (OpenSpec.upto rationalCalculatesSpec)

/-- 'robuststatslaw03.RationalIsAField', WHERE WHAT IT READS IS OF BULK AT MOST 1048576: true; the input reads as it did. -/
def rationalIsAFieldUptoRow : OpenClaim := { program := "yteiagmmfapbaiaagreatdoor", sum := "0c634ac4a477f50720ceff4d727f9f46860e9f20f06e744e89ed29262cfc5db0", func := "robuststats/robuststatslaw03.RationalIsAField", spec := "rationalIsAField", inPlace := ["internal/bytealg.IndexByteString", "internal/bytealg.IndexString", "internal/abi.NoEscape", "internal/bytealg.MakeNoZero"], named := ["math/bits.overflowError", "internal/bytealg.MaxLen", "unicode/utf8.first", "unicode/utf8.acceptRanges", "internal/strconv.uint64pow10", "math/bits.deBruijn32tab", "math/bits.deBruijn64tab"], apart := false, laid := [("math/bits.deBruijn32tab", laid_math_bits_deBruijn32tab), ("math/bits.deBruijn64tab", laid_math_bits_deBruijn64tab), ("internal/strconv.uint64pow10", laid_internal_strconv_uint64pow10), ("unicode/utf8.acceptRanges", laid_unicode_utf8_acceptRanges), ("unicode/utf8.first", laid_unicode_utf8_first)], narrowed := true }
def RationalIsAFieldUptoSaid : Prop := rationalIsAFieldUptoRow.holds Tryz.pinned (OpenSpec.upto rationalIsAFieldSpec)

/-- 'robuststatslaw03.RationalIsOrdered', WHERE WHAT IT READS IS OF BULK AT MOST 1048576: true; the input reads as it did. -/
def rationalIsOrderedUptoRow : OpenClaim := { program := "yteiagmmfapbaiaagreatdoor", sum := "0c634ac4a477f50720ceff4d727f9f46860e9f20f06e744e89ed29262cfc5db0", func := "robuststats/robuststatslaw03.RationalIsOrdered", spec := "rationalIsOrdered", inPlace := ["internal/bytealg.IndexByteString", "internal/bytealg.IndexString", "internal/abi.NoEscape", "internal/bytealg.MakeNoZero"], named := ["math/bits.overflowError", "internal/bytealg.MaxLen", "unicode/utf8.first", "unicode/utf8.acceptRanges", "internal/strconv.uint64pow10", "math/bits.deBruijn32tab", "math/bits.deBruijn64tab"], apart := false, laid := [("math/bits.deBruijn32tab", laid_math_bits_deBruijn32tab), ("math/bits.deBruijn64tab", laid_math_bits_deBruijn64tab), ("internal/strconv.uint64pow10", laid_internal_strconv_uint64pow10), ("unicode/utf8.acceptRanges", laid_unicode_utf8_acceptRanges), ("unicode/utf8.first", laid_unicode_utf8_first)], narrowed := true }
def RationalIsOrderedUptoSaid : Prop := rationalIsOrderedUptoRow.holds Tryz.pinned (OpenSpec.upto rationalIsOrderedSpec)

/-- 'robuststatslaw03.RationalDecimalIsNear', WHERE WHAT IT READS IS OF BULK AT MOST 1048576: true; the input reads as it did. -/
def rationalDecimalIsNearUptoRow : OpenClaim := { program := "yteiagmmfapbaiaagreatdoor", sum := "0c634ac4a477f50720ceff4d727f9f46860e9f20f06e744e89ed29262cfc5db0", func := "robuststats/robuststatslaw03.RationalDecimalIsNear", spec := "rationalDecimalIsNear", inPlace := ["internal/bytealg.IndexByteString", "internal/bytealg.IndexString", "internal/abi.NoEscape", "internal/bytealg.MakeNoZero"], named := ["math/bits.overflowError", "internal/bytealg.MaxLen", "unicode/utf8.first", "unicode/utf8.acceptRanges", "internal/strconv.uint64pow10", "math/bits.deBruijn32tab", "math/bits.deBruijn64tab"], apart := false, laid := [("math/bits.deBruijn32tab", laid_math_bits_deBruijn32tab), ("math/bits.deBruijn64tab", laid_math_bits_deBruijn64tab), ("internal/strconv.uint64pow10", laid_internal_strconv_uint64pow10), ("unicode/utf8.acceptRanges", laid_unicode_utf8_acceptRanges), ("unicode/utf8.first", laid_unicode_utf8_first)], narrowed := true }
def RationalDecimalIsNearUptoSaid : Prop := rationalDecimalIsNearUptoRow.holds Tryz.pinned (OpenSpec.upto rationalDecimalIsNearSpec)

/-- 'robuststatslaw03.RationalValues', WHERE WHAT IT READS IS OF BULK AT MOST 1048576: true; the input reads as it did. -/
def rationalValuesUptoRow : OpenClaim := { program := "yteiagmmfapbaiaagreatdoor", sum := "0c634ac4a477f50720ceff4d727f9f46860e9f20f06e744e89ed29262cfc5db0", func := "robuststats/robuststatslaw03.RationalValues", spec := "rationalValues", inPlace := ["internal/bytealg.IndexByteString", "internal/bytealg.IndexString", "internal/abi.NoEscape", "internal/bytealg.MakeNoZero"], named := ["math/bits.overflowError", "internal/bytealg.MaxLen", "unicode/utf8.first", "unicode/utf8.acceptRanges", "internal/strconv.uint64pow10", "math/bits.deBruijn32tab", "math/bits.deBruijn64tab"], apart := false, laid := [("math/bits.deBruijn32tab", laid_math_bits_deBruijn32tab), ("math/bits.deBruijn64tab", laid_math_bits_deBruijn64tab), ("internal/strconv.uint64pow10", laid_internal_strconv_uint64pow10), ("unicode/utf8.acceptRanges", laid_unicode_utf8_acceptRanges), ("unicode/utf8.first", laid_unicode_utf8_first)], narrowed := true }
def RationalValuesUptoSaid : Prop := rationalValuesUptoRow.holds Tryz.pinned (OpenSpec.upto rationalValuesSpec)

/-- 'robuststatslaw03.RationalHasAFloor', WHERE WHAT IT READS IS OF BULK AT MOST 1048576: true; the input reads as it did. -/
def rationalHasAFloorUptoRow : OpenClaim := { program := "yteiagmmfapbaiaagreatdoor", sum := "0c634ac4a477f50720ceff4d727f9f46860e9f20f06e744e89ed29262cfc5db0", func := "robuststats/robuststatslaw03.RationalHasAFloor", spec := "rationalHasAFloor", inPlace := ["internal/bytealg.IndexByteString", "internal/bytealg.IndexString", "internal/abi.NoEscape", "internal/bytealg.MakeNoZero"], named := ["math/bits.overflowError", "internal/bytealg.MaxLen", "unicode/utf8.first", "unicode/utf8.acceptRanges", "internal/strconv.uint64pow10", "math/bits.deBruijn32tab", "math/bits.deBruijn64tab"], apart := false, laid := [("math/bits.deBruijn32tab", laid_math_bits_deBruijn32tab), ("math/bits.deBruijn64tab", laid_math_bits_deBruijn64tab), ("internal/strconv.uint64pow10", laid_internal_strconv_uint64pow10), ("unicode/utf8.acceptRanges", laid_unicode_utf8_acceptRanges), ("unicode/utf8.first", laid_unicode_utf8_first)], narrowed := true }
def RationalHasAFloorUptoSaid : Prop := rationalHasAFloorUptoRow.holds Tryz.pinned (OpenSpec.upto rationalHasAFloorSpec)

end Rows
end Go.Proofs.YteiagmmfapbaiaaGreatDoor
