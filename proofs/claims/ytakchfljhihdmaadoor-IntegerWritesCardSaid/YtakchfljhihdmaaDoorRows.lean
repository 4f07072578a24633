/-
  NARROWER THAN 'FOR EVERY INPUT', by the rows' own cells (each row's printed sentence says how): IntegerIsARing: laid · IntegerValues: laid · IntegerDividesBack: laid · IntegerKnowsSigns: laid · IntegerWrites: laid · IntegerCalculates: laid · IntegerReadsBack: laid.
  DERIVED. THE GIVEN ROWS OF THIS SEAT. 7 by the template 'for every input the law returns true; each argument reads behind the call as it read before'; 0 by the template 'total and deterministic' (their statements: YtakchfljhihdmaaDoorTotals.lean).
  GIVEN WITH THE SEED: the statements are not yours to turn. If you find one false, say at which input.
  Laid BY PROGRAM, IN A SANDBOX (cutbox-rows.mjs): the forced cells as the released guide's own fill.sh prints them over the translation 828eb0344a2d1396… (all of the seat's roots in one cut). By AI agents, Wed Nov 11 2026. No macro, syntax, notation, axiom, sorry.
-/
import Derived.Test.YtakchfljhihdmaaDoorChecked
import GoSem.Claim
import GoSem.ClaimJoined
import GoSem.ClaimMapViews
import Derived.JoinedTies
import Derived.KernelRfl
namespace Go.Proofs.YtakchfljhihdmaaDoor
/- THE CELL 'sum', in the pinned program and in every row, IS THE sha256 OF THE DUMP (.gsa) THAT YtakchfljhihdmaaDoorProg.lean LOADS. Nothing in Lean hashes anything: it is a label: what it is worth is what the hold of that sum in a sandbox is worth. -/
noncomputable def Tryd.pinned : Pinned := { name := "ytakchfljhihdmaadoor", sum := "828eb0344a2d1396e2b60e09fff6199bcce6f1063630368fc19e914fe03cbd22", checked := Tryd.checked }
namespace Rows
def none {H : Type} : Left H := { results := [], args := [] }

/- WHAT THE LISTED PACKAGE-LEVEL VARIABLES READ AS WHEN THE CALL BEGINS. Each datum BY PROGRAM (the guide's laid-datum.mjs) off the statement by which the dump's own 'gosem.cut.vars' lays the variable. In a bare row this is a premise. The card (YtakchfljhihdmaaDoorCards.lean) ties it to the program's text. -/
def laid_math_bits_deBruijn32tab {H : Type} : DataW H := .agg [.lit (.int .u8 0), .lit (.int .u8 1), .lit (.int .u8 28), .lit (.int .u8 2), .lit (.int .u8 29), .lit (.int .u8 14), .lit (.int .u8 24), .lit (.int .u8 3), .lit (.int .u8 30), .lit (.int .u8 22), .lit (.int .u8 20), .lit (.int .u8 15), .lit (.int .u8 25), .lit (.int .u8 17), .lit (.int .u8 4), .lit (.int .u8 8), .lit (.int .u8 31), .lit (.int .u8 27), .lit (.int .u8 13), .lit (.int .u8 23), .lit (.int .u8 21), .lit (.int .u8 19), .lit (.int .u8 16), .lit (.int .u8 7), .lit (.int .u8 26), .lit (.int .u8 12), .lit (.int .u8 18), .lit (.int .u8 6), .lit (.int .u8 11), .lit (.int .u8 5), .lit (.int .u8 10), .lit (.int .u8 9)]
def laid_math_bits_deBruijn64tab {H : Type} : DataW H := .agg [.lit (.int .u8 0), .lit (.int .u8 1), .lit (.int .u8 56), .lit (.int .u8 2), .lit (.int .u8 57), .lit (.int .u8 49), .lit (.int .u8 28), .lit (.int .u8 3), .lit (.int .u8 61), .lit (.int .u8 58), .lit (.int .u8 42), .lit (.int .u8 50), .lit (.int .u8 38), .lit (.int .u8 29), .lit (.int .u8 17), .lit (.int .u8 4), .lit (.int .u8 62), .lit (.int .u8 47), .lit (.int .u8 59), .lit (.int .u8 36), .lit (.int .u8 45), .lit (.int .u8 43), .lit (.int .u8 51), .lit (.int .u8 22), .lit (.int .u8 53), .lit (.int .u8 39), .lit (.int .u8 33), .lit (.int .u8 30), .lit (.int .u8 24), .lit (.int .u8 18), .lit (.int .u8 12), .lit (.int .u8 5), .lit (.int .u8 63), .lit (.int .u8 55), .lit (.int .u8 48), .lit (.int .u8 27), .lit (.int .u8 60), .lit (.int .u8 41), .lit (.int .u8 37), .lit (.int .u8 16), .lit (.int .u8 46), .lit (.int .u8 35), .lit (.int .u8 44), .lit (.int .u8 21), .lit (.int .u8 52), .lit (.int .u8 32), .lit (.int .u8 23), .lit (.int .u8 11), .lit (.int .u8 54), .lit (.int .u8 26), .lit (.int .u8 40), .lit (.int .u8 15), .lit (.int .u8 34), .lit (.int .u8 20), .lit (.int .u8 31), .lit (.int .u8 10), .lit (.int .u8 25), .lit (.int .u8 14), .lit (.int .u8 19), .lit (.int .u8 9), .lit (.int .u8 13), .lit (.int .u8 8), .lit (.int .u8 7), .lit (.int .u8 6)]
def laid_internal_strconv_uint64pow10 {H : Type} : DataW H := .agg [.lit (.int .u64 1), .lit (.int .u64 10), .lit (.int .u64 100), .lit (.int .u64 1000), .lit (.int .u64 10000), .lit (.int .u64 100000), .lit (.int .u64 1000000), .lit (.int .u64 10000000), .lit (.int .u64 100000000), .lit (.int .u64 1000000000), .lit (.int .u64 10000000000), .lit (.int .u64 100000000000), .lit (.int .u64 1000000000000), .lit (.int .u64 10000000000000), .lit (.int .u64 100000000000000), .lit (.int .u64 1000000000000000), .lit (.int .u64 10000000000000000), .lit (.int .u64 100000000000000000), .lit (.int .u64 1000000000000000000), .lit (.int .u64 10000000000000000000)]

/-- 'robuststatslaw02.IntegerIsARing': WHATEVER THE INPUT: true; the input reads as it did. -/
def integerIsARingSpec : ChangeSpec := { name := "integerIsARing", fn := fun _ => fun
  | [d1, d2, d3] => { results := [.lit (.bool true)], args := [d1, d2, d3] }
  | _ => none }
def integerIsARingRow : OpenClaim := { program := "ytakchfljhihdmaadoor", sum := "828eb0344a2d1396e2b60e09fff6199bcce6f1063630368fc19e914fe03cbd22", func := "robuststats/robuststatslaw02.IntegerIsARing", spec := "integerIsARing", inPlace := ["internal/abi.NoEscape", "internal/bytealg.MakeNoZero"], named := ["math/bits.overflowError", "internal/strconv.uint64pow10", "math/bits.deBruijn32tab", "math/bits.deBruijn64tab"], apart := false, laid := [("math/bits.deBruijn32tab", laid_math_bits_deBruijn32tab), ("math/bits.deBruijn64tab", laid_math_bits_deBruijn64tab), ("internal/strconv.uint64pow10", laid_internal_strconv_uint64pow10)] }
def IntegerIsARingSaid : Prop := integerIsARingRow.holds Tryd.pinned (OpenSpec.ofChange integerIsARingSpec)

/-- ITS FALSE NEIGHBOUR: 'it returns false'. Refute it at one input. -/
def integerIsARingWrong : ChangeSpec := { name := "integerIsARing", fn := fun _ => fun
  | [d1, d2, d3] => { results := [.lit (.bool false)], args := [d1, d2, d3] }
  | _ => none }
def IntegerIsARingWrongFalsely : Prop := integerIsARingRow.holds Tryd.pinned (OpenSpec.ofChange integerIsARingWrong)

/-- 'robuststatslaw02.IntegerValues': WHATEVER THE INPUT: true; the input reads as it did. -/
def integerValuesSpec : ChangeSpec := { name := "integerValues", fn := fun _ => fun
  | [d1, d2, d3] => { results := [.lit (.bool true)], args := [d1, d2, d3] }
  | _ => none }
def integerValuesRow : OpenClaim := { program := "ytakchfljhihdmaadoor", sum := "828eb0344a2d1396e2b60e09fff6199bcce6f1063630368fc19e914fe03cbd22", func := "robuststats/robuststatslaw02.IntegerValues", spec := "integerValues", inPlace := ["internal/abi.NoEscape", "internal/bytealg.MakeNoZero"], named := ["math/bits.overflowError", "internal/strconv.uint64pow10", "math/bits.deBruijn32tab", "math/bits.deBruijn64tab"], apart := false, laid := [("math/bits.deBruijn32tab", laid_math_bits_deBruijn32tab), ("math/bits.deBruijn64tab", laid_math_bits_deBruijn64tab), ("internal/strconv.uint64pow10", laid_internal_strconv_uint64pow10)] }
def IntegerValuesSaid : Prop := integerValuesRow.holds Tryd.pinned (OpenSpec.ofChange integerValuesSpec)

/-- ITS FALSE NEIGHBOUR: 'it returns false'. Refute it at one input. -/
def integerValuesWrong : ChangeSpec := { name := "integerValues", fn := fun _ => fun
  | [d1, d2, d3] => { results := [.lit (.bool false)], args := [d1, d2, d3] }
  | _ => none }
def IntegerValuesWrongFalsely : Prop := integerValuesRow.holds Tryd.pinned (OpenSpec.ofChange integerValuesWrong)

/-- 'robuststatslaw02.IntegerDividesBack': WHATEVER THE INPUT: true; the input reads as it did. -/
def integerDividesBackSpec : ChangeSpec := { name := "integerDividesBack", fn := fun _ => fun
  | [d1, d2] => { results := [.lit (.bool true)], args := [d1, d2] }
  | _ => none }
def integerDividesBackRow : OpenClaim := { program := "ytakchfljhihdmaadoor", sum := "828eb0344a2d1396e2b60e09fff6199bcce6f1063630368fc19e914fe03cbd22", func := "robuststats/robuststatslaw02.IntegerDividesBack", spec := "integerDividesBack", inPlace := ["internal/abi.NoEscape", "internal/bytealg.MakeNoZero"], named := ["math/bits.overflowError", "internal/strconv.uint64pow10", "math/bits.deBruijn32tab", "math/bits.deBruijn64tab"], apart := false, laid := [("math/bits.deBruijn32tab", laid_math_bits_deBruijn32tab), ("math/bits.deBruijn64tab", laid_math_bits_deBruijn64tab), ("internal/strconv.uint64pow10", laid_internal_strconv_uint64pow10)] }
def IntegerDividesBackSaid : Prop := integerDividesBackRow.holds Tryd.pinned (OpenSpec.ofChange integerDividesBackSpec)

/-- ITS FALSE NEIGHBOUR: 'it returns false'. Refute it at one input. -/
def integerDividesBackWrong : ChangeSpec := { name := "integerDividesBack", fn := fun _ => fun
  | [d1, d2] => { results := [.lit (.bool false)], args := [d1, d2] }
  | _ => none }
def IntegerDividesBackWrongFalsely : Prop := integerDividesBackRow.holds Tryd.pinned (OpenSpec.ofChange integerDividesBackWrong)

/-- 'robuststatslaw02.IntegerKnowsSigns': WHATEVER THE INPUT: true; the input reads as it did. -/
def integerKnowsSignsSpec : ChangeSpec := { name := "integerKnowsSigns", fn := fun _ => fun
  | [d1, d2, d3] => { results := [.lit (.bool true)], args := [d1, d2, d3] }
  | _ => none }
def integerKnowsSignsRow : OpenClaim := { program := "ytakchfljhihdmaadoor", sum := "828eb0344a2d1396e2b60e09fff6199bcce6f1063630368fc19e914fe03cbd22", func := "robuststats/robuststatslaw02.IntegerKnowsSigns", spec := "integerKnowsSigns", inPlace := ["internal/abi.NoEscape", "internal/bytealg.MakeNoZero"], named := ["math/bits.overflowError", "internal/strconv.uint64pow10", "math/bits.deBruijn32tab", "math/bits.deBruijn64tab"], apart := false, laid := [("math/bits.deBruijn32tab", laid_math_bits_deBruijn32tab), ("math/bits.deBruijn64tab", laid_math_bits_deBruijn64tab), ("internal/strconv.uint64pow10", laid_internal_strconv_uint64pow10)] }
def IntegerKnowsSignsSaid : Prop := integerKnowsSignsRow.holds Tryd.pinned (OpenSpec.ofChange integerKnowsSignsSpec)

/-- ITS FALSE NEIGHBOUR: 'it returns false'. Refute it at one input. -/
def integerKnowsSignsWrong : ChangeSpec := { name := "integerKnowsSigns", fn := fun _ => fun
  | [d1, d2, d3] => { results := [.lit (.bool false)], args := [d1, d2, d3] }
  | _ => none }
def IntegerKnowsSignsWrongFalsely : Prop := integerKnowsSignsRow.holds Tryd.pinned (OpenSpec.ofChange integerKnowsSignsWrong)

/-- 'robuststatslaw02.IntegerWrites': WHATEVER THE INPUT: true; the input reads as it did. -/
def integerWritesSpec : ChangeSpec := { name := "integerWrites", fn := fun _ => fun
  | [d1, d2] => { results := [.lit (.bool true)], args := [d1, d2] }
  | _ => none }
def integerWritesRow : OpenClaim := { program := "ytakchfljhihdmaadoor", sum := "828eb0344a2d1396e2b60e09fff6199bcce6f1063630368fc19e914fe03cbd22", func := "robuststats/robuststatslaw02.IntegerWrites", spec := "integerWrites", inPlace := ["internal/abi.NoEscape", "internal/bytealg.MakeNoZero"], named := ["math/bits.overflowError", "internal/strconv.uint64pow10", "math/bits.deBruijn32tab", "math/bits.deBruijn64tab"], apart := false, laid := [("math/bits.deBruijn32tab", laid_math_bits_deBruijn32tab), ("math/bits.deBruijn64tab", laid_math_bits_deBruijn64tab), ("internal/strconv.uint64pow10", laid_internal_strconv_uint64pow10)] }
def IntegerWritesSaid : Prop := integerWritesRow.holds Tryd.pinned (OpenSpec.ofChange integerWritesSpec)

/-- ITS FALSE NEIGHBOUR: 'it returns false'. Refute it at one input. -/
def integerWritesWrong : ChangeSpec := { name := "integerWrites", fn := fun _ => fun
  | [d1, d2] => { results := [.lit (.bool false)], args := [d1, d2] }
  | _ => none }
def IntegerWritesWrongFalsely : Prop := integerWritesRow.holds Tryd.pinned (OpenSpec.ofChange integerWritesWrong)

/-- 'robuststatslaw02.IntegerCalculates': WHATEVER THE INPUT: true; the input reads as it did. -/
def integerCalculatesSpec : ChangeSpec := { name := "integerCalculates", fn := fun _ => fun
  | [d1, d2] => { results := [.lit (.bool true)], args := [d1, d2] }
  | _ => none }
def integerCalculatesRow : OpenClaim := { program := "ytakchfljhihdmaadoor", sum := "828eb0344a2d1396e2b60e09fff6199bcce6f1063630368fc19e914fe03cbd22", func := "robuststats/robuststatslaw02.IntegerCalculates", spec := "integerCalculates", inPlace := ["internal/abi.NoEscape", "internal/bytealg.MakeNoZero"], named := ["math/bits.overflowError", "internal/strconv.uint64pow10", "math/bits.deBruijn32tab", "math/bits.deBruijn64tab"], apart := false, laid := [("math/bits.deBruijn32tab", laid_math_bits_deBruijn32tab), ("math/bits.deBruijn64tab", laid_math_bits_deBruijn64tab), ("internal/strconv.uint64pow10", laid_internal_strconv_uint64pow10)] }
def IntegerCalculatesSaid : Prop := integerCalculatesRow.holds Tryd.pinned (OpenSpec.ofChange integerCalculatesSpec)

/-- ITS FALSE NEIGHBOUR: 'it returns false'. Refute it at one input. -/
def integerCalculatesWrong : ChangeSpec := { name := "integerCalculates", fn := fun _ => fun
  | [d1, d2] => { results := [.lit (.bool false)], args := [d1, d2] }
  | _ => none }
def IntegerCalculatesWrongFalsely : Prop := integerCalculatesRow.holds Tryd.pinned (OpenSpec.ofChange integerCalculatesWrong)

/-- 'robuststatslaw02.IntegerReadsBack': WHATEVER THE INPUT: true; the input reads as it did. -/
def integerReadsBackSpec : ChangeSpec := { name := "integerReadsBack", fn := fun _ => fun
  | [d1, d2] => { results := [.lit (.bool true)], args := [d1, d2] }
  | _ => none }
def integerReadsBackRow : OpenClaim := { program := "ytakchfljhihdmaadoor", sum := "828eb0344a2d1396e2b60e09fff6199bcce6f1063630368fc19e914fe03cbd22", func := "robuststats/robuststatslaw02.IntegerReadsBack", spec := "integerReadsBack", inPlace := ["internal/abi.NoEscape", "internal/bytealg.MakeNoZero"], named := ["math/bits.overflowError", "internal/strconv.uint64pow10", "math/bits.deBruijn32tab", "math/bits.deBruijn64tab"], apart := false, laid := [("math/bits.deBruijn32tab", laid_math_bits_deBruijn32tab), ("math/bits.deBruijn64tab", laid_math_bits_deBruijn64tab), ("internal/strconv.uint64pow10", laid_internal_strconv_uint64pow10)] }
def IntegerReadsBackSaid : Prop := integerReadsBackRow.holds Tryd.pinned (OpenSpec.ofChange integerReadsBackSpec)

/-- ITS FALSE NEIGHBOUR: 'it returns false'. Refute it at one input. -/
def integerReadsBackWrong : ChangeSpec := { name := "integerReadsBack", fn := fun _ => fun
  | [d1, d2] => { results := [.lit (.bool false)], args := [d1, d2] }
  | _ => none }
def IntegerReadsBackWrongFalsely : Prop := integerReadsBackRow.holds Tryd.pinned (OpenSpec.ofChange integerReadsBackWrong)

/- THE SECOND FORM. 'bulk': how many values and letters a reading holds, each counted each time it is reached (what is shared counts as often as it is met; a slice's spare places count too). A statement '..UptoSaid' is the law's where the arguments, and the package variables that the reading takes, are together of bulk at most 1048576: NARROWER than '..Said'. Prove '..Said' where nothing that the law and all that it calls make is longer than what came in: it says more and counts as full. Else prove '..UptoSaid'. A law counts once. -/
mutual
def uptoBulk {H : Type} : DataW H → Nat
  | .lit (.string bytes) => bytes.length + 1
  | .lit _ => 1
  | .nil => 1
  | .ptr d => uptoBulk d + 1
  | .slice elems spare => uptoBulkAll elems + uptoBulkAll spare + 1
  | .agg parts => uptoBulkAll parts + 1
  | .iface _ d => uptoBulk d + 1
  | .map entries => uptoBulkEntries entries + 1
  | .held _ => 1
def uptoBulkAll {H : Type} : List (DataW H) → Nat
  | [] => 0
  | d :: r => uptoBulk d + uptoBulkAll r
def uptoBulkEntries {H : Type} : List (Lit × DataW H) → Nat
  | [] => 0
  | x :: r => uptoBulkEntry x + uptoBulkEntries r
def uptoBulkEntry {H : Type} : Lit × DataW H → Nat
  | (.string bytes, d) => bytes.length + uptoBulk d + 1
  | (_, d) => uptoBulk d + 1
 end
def uptoSmall : (H : Type) → List (DataW H) → Bool := fun _ ds => decide (uptoBulkAll ds ≤ 1048576)
def OpenSpec.upto (s : _root_.Go.ChangeSpec) : _root_.Go.OpenSpec := { _root_.Go.OpenSpec.ofChange s with cond := some uptoSmall }

/-- 'robuststatslaw02.IntegerIsARing', WHERE WHAT IT READS IS OF BULK AT MOST 1048576: true; the input reads as it did. -/
def integerIsARingUptoRow : OpenClaim := { program := "ytakchfljhihdmaadoor", sum := "828eb0344a2d1396e2b60e09fff6199bcce6f1063630368fc19e914fe03cbd22", func := "robuststats/robuststatslaw02.IntegerIsARing", spec := "integerIsARing", inPlace := ["internal/abi.NoEscape", "internal/bytealg.MakeNoZero"], named := ["math/bits.overflowError", "internal/strconv.uint64pow10", "math/bits.deBruijn32tab", "math/bits.deBruijn64tab"], apart := false, laid := [("math/bits.deBruijn32tab", laid_math_bits_deBruijn32tab), ("math/bits.deBruijn64tab", laid_math_bits_deBruijn64tab), ("internal/strconv.uint64pow10", laid_internal_strconv_uint64pow10)], narrowed := true }
def IntegerIsARingUptoSaid : Prop := integerIsARingUptoRow.holds Tryd.pinned (OpenSpec.upto integerIsARingSpec)

/-- 'robuststatslaw02.IntegerValues', WHERE WHAT IT READS IS OF BULK AT MOST 1048576: true; the input reads as it did. -/
def integerValuesUptoRow : OpenClaim := { program := "ytakchfljhihdmaadoor", sum := "828eb0344a2d1396e2b60e09fff6199bcce6f1063630368fc19e914fe03cbd22", func := "robuststats/robuststatslaw02.IntegerValues", spec := "integerValues", inPlace := ["internal/abi.NoEscape", "internal/bytealg.MakeNoZero"], named := ["math/bits.overflowError", "internal/strconv.uint64pow10", "math/bits.deBruijn32tab", "math/bits.deBruijn64tab"], apart := false, laid := [("math/bits.deBruijn32tab", laid_math_bits_deBruijn32tab), ("math/bits.deBruijn64tab", laid_math_bits_deBruijn64tab), ("internal/strconv.uint64pow10", laid_internal_strconv_uint64pow10)], narrowed := true }
def IntegerValuesUptoSaid : Prop := integerValuesUptoRow.holds Tryd.pinned (OpenSpec.upto integerValuesSpec)

/-- 'robuststatslaw02.IntegerDividesBack', WHERE WHAT IT READS IS OF BULK AT MOST 1048576: true; the input reads as it did. -/
def integerDividesBackUptoRow : OpenClaim := { program := "ytakchfljhihdmaadoor", sum := "828eb0344a2d1396e2b60e09fff6199bcce6f1063630368fc19e914fe03cbd22", func := "robuststats/robuststatslaw02.IntegerDividesBack", spec := "integerDividesBack", inPlace := ["internal/abi.NoEscape", "internal/bytealg.MakeNoZero"], named := ["math/bits.overflowError", "internal/strconv.uint64pow10", "math/bits.deBruijn32tab", "math/bits.deBruijn64tab"], apart := false, laid := [("math/bits.deBruijn32tab", laid_math_bits_deBruijn32tab), ("math/bits.deBruijn64tab", laid_math_bits_deBruijn64tab), ("internal/strconv.uint64pow10", laid_internal_strconv_uint64pow10)], narrowed := true }
def IntegerDividesBackUptoSaid : Prop := integerDividesBackUptoRow.holds Tryd.pinned (OpenSpec.upto integerDividesBackSpec)

/-- 'robuststatslaw02.IntegerKnowsSigns', WHERE WHAT IT READS IS OF BULK AT MOST 1048576: true; the input reads as it did. -/
def integerKnowsSignsUptoRow : OpenClaim := { program := "ytakchfljhihdmaadoor", sum := "828eb0344a2d1396e2b60e09fff6199bcce6f1063630368fc19e914fe03cbd22", func := "robuststats/robuststatslaw02.IntegerKnowsSigns", spec := "integerKnowsSigns", inPlace := ["internal/abi.NoEscape", "internal/bytealg.MakeNoZero"], named := ["math/bits.overflowError", "internal/strconv.uint64pow10", "math/bits.deBruijn32tab", "math/bits.deBruijn64tab"], apart := false, laid := [("math/bits.deBruijn32tab", laid_math_bits_deBruijn32tab), ("math/bits.deBruijn64tab", laid_math_bits_deBruijn64tab), ("internal/strconv.uint64pow10", laid_internal_strconv_uint64pow10)], narrowed := true }
def IntegerKnowsSignsUptoSaid : Prop := integerKnowsSignsUptoRow.holds Tryd.pinned (OpenSpec.upto integerKnowsSignsSpec)

/-- 'robuststatslaw02.IntegerWrites', WHERE WHAT IT READS IS OF BULK AT MOST 1048576: true; the input reads as it did. -/
def integerWritesUptoRow : OpenClaim := { program := "ytakchfljhihdmaadoor", sum := "828eb0344a2d1396e2b60e09fff6199bcce6f1063630368fc19e914fe03cbd22", func := "robuststats/robuststatslaw02.IntegerWrites", spec := "integerWrites", inPlace := ["internal/abi.NoEscape", "internal/bytealg.MakeNoZero"], named := ["math/bits.overflowError", "internal/strconv.uint64pow10", "math/bits.deBruijn32tab", "math/bits.deBruijn64tab"], apart := false, laid := [("math/bits.deBruijn32tab", laid_math_bits_deBruijn32tab), ("math/bits.deBruijn64tab", laid_math_bits_deBruijn64tab), ("internal/strconv.uint64pow10", laid_internal_strconv_uint64pow10)], narrowed := true }
def IntegerWritesUptoSaid : Prop := integerWritesUptoRow.holds Tryd.pinned (OpenSpec.upto integerWritesSpec)

/-- 'robuststatslaw02.IntegerCalculates', WHERE WHAT IT READS IS OF BULK AT MOST 1048576: true; the input reads as it did. -/
def integerCalculatesUptoRow : OpenClaim := { program := "ytakchfljhihdmaadoor", sum := "828eb0344a2d1396e2b60e09fff6199bcce6f1063630368fc19e914fe03cbd22", func := "robuststats/robuststatslaw02.IntegerCalculates", spec := "integerCalculates", inPlace := ["internal/abi.NoEscape", "internal/bytealg.MakeNoZero"], named := ["math/bits.overflowError", "internal/strconv.uint64pow10", "math/bits.deBruijn32tab", "math/bits.deBruijn64tab"], apart := false, laid := [("math/bits.deBruijn32tab", laid_math_bits_deBruijn32tab), ("math/bits.deBruijn64tab", laid_math_bits_deBruijn64tab), ("internal/strconv.uint64pow10", laid_internal_strconv_uint64pow10)], narrowed := true }
def IntegerCalculatesUptoSaid : Prop := integerCalculatesUptoRow.holds Tryd.pinned (OpenSpec.upto integerCalculatesSpec)

/-- 'robuststatslaw02.IntegerReadsBack', WHERE WHAT IT READS IS OF BULK AT MOST 1048576: true; the input reads as it did. -/
def integerReadsBackUptoRow : OpenClaim := { program := "ytakchfljhihdmaadoor", sum := "828eb0344a2d1396e2b60e09fff6199bcce6f1063630368fc19e914fe03cbd22", func := "robuststats/robuststatslaw02.IntegerReadsBack", spec := "integerReadsBack", inPlace := ["internal/abi.NoEscape", "internal/bytealg.MakeNoZero"], named := ["math/bits.overflowError", "internal/strconv.uint64pow10", "math/bits.deBruijn32tab", "math/bits.deBruijn64tab"], apart := false, laid := [("math/bits.deBruijn32tab", laid_math_bits_deBruijn32tab), ("math/bits.deBruijn64tab", laid_math_bits_deBruijn64tab), ("internal/strconv.uint64pow10", laid_internal_strconv_uint64pow10)], narrowed := true }
def IntegerReadsBackUptoSaid : Prop := integerReadsBackUptoRow.holds Tryd.pinned (OpenSpec.upto integerReadsBackSpec)

end Rows
end Go.Proofs.YtakchfljhihdmaaDoor
