/-
  No cell of these rows narrows 'for every input' (looked for: loops, veiled, ifaces, maps, wideKeys, modest, calm, conditions, laid).
  DERIVED. THE GIVEN ROWS OF THIS SEAT. 9 by the template 'for every input the law returns true; each argument reads behind the call as it read before'; 0 by the template 'total and deterministic' (their statements: YtecilkmigjbfoaaTotals.lean).
  GIVEN WITH THE SEED: the statements are not yours to turn. If you find one false, say at which input.
  Laid BY PROGRAM, IN A SANDBOX (cutbox-rows.mjs): the forced cells as the released guide's own fill.sh prints them over the translation d36160a5895a055c… (all of the seat's roots in one cut). By AI agents, Wed Nov 11 2026. No macro, syntax, notation, axiom, sorry.
-/
import Derived.Test.YtecilkmigjbfoaaChecked
import GoSem.Claim
import GoSem.ClaimJoined
import GoSem.ClaimMapViews
import Derived.JoinedTies
import Derived.KernelRfl
namespace Go.Proofs.Ytecilkmigjbfoaa
/- THE CELL 'sum', in the pinned program and in every row, IS THE sha256 OF THE DUMP (.gsa) THAT YtecilkmigjbfoaaProg.lean LOADS. Nothing in Lean hashes anything: it is a label: what it is worth is what the hold of that sum in a sandbox is worth. -/
noncomputable def Try.pinned : Pinned := { name := "ytecilkmigjbfoaa", sum := "d36160a5895a055cae1b89833e142de5c11c53f0795ddb16c869234a4b66af36", checked := Try.checked }
namespace Rows
def none {H : Type} : Left H := { results := [], args := [] }

/-- 'robuststatslaw01.NaturalValues': WHATEVER THE INPUT: true; the input reads as it did. -/
def naturalValuesSpec : ChangeSpec := { name := "naturalValues", fn := fun _ => fun
  | [d1, d2, d3] => { results := [.lit (.bool true)], args := [d1, d2, d3] }
  | _ => none }
def naturalValuesRow : OpenClaim := { program := "ytecilkmigjbfoaa", sum := "d36160a5895a055cae1b89833e142de5c11c53f0795ddb16c869234a4b66af36", func := "robuststats/robuststatslaw01.NaturalValues", spec := "naturalValues", named := ["math/bits.overflowError"], apart := false }
def NaturalValuesSaid : Prop := naturalValuesRow.holds Try.pinned (OpenSpec.ofChange naturalValuesSpec)

/-- ITS FALSE NEIGHBOUR: 'it returns false'. Refute it at one input. -/
def naturalValuesWrong : ChangeSpec := { name := "naturalValues", fn := fun _ => fun
  | [d1, d2, d3] => { results := [.lit (.bool false)], args := [d1, d2, d3] }
  | _ => none }
def NaturalValuesWrongFalsely : Prop := naturalValuesRow.holds Try.pinned (OpenSpec.ofChange naturalValuesWrong)

/-- 'robuststatslaw01.NaturalIsARing': WHATEVER THE INPUT: true; the input reads as it did. -/
def naturalIsARingSpec : ChangeSpec := { name := "naturalIsARing", fn := fun _ => fun
  | [d1, d2, d3] => { results := [.lit (.bool true)], args := [d1, d2, d3] }
  | _ => none }
def naturalIsARingRow : OpenClaim := { program := "ytecilkmigjbfoaa", sum := "d36160a5895a055cae1b89833e142de5c11c53f0795ddb16c869234a4b66af36", func := "robuststats/robuststatslaw01.NaturalIsARing", spec := "naturalIsARing", named := ["math/bits.overflowError"], apart := false }
def NaturalIsARingSaid : Prop := naturalIsARingRow.holds Try.pinned (OpenSpec.ofChange naturalIsARingSpec)

/-- ITS FALSE NEIGHBOUR: 'it returns false'. Refute it at one input. -/
def naturalIsARingWrong : ChangeSpec := { name := "naturalIsARing", fn := fun _ => fun
  | [d1, d2, d3] => { results := [.lit (.bool false)], args := [d1, d2, d3] }
  | _ => none }
def NaturalIsARingWrongFalsely : Prop := naturalIsARingRow.holds Try.pinned (OpenSpec.ofChange naturalIsARingWrong)

/-- 'robuststatslaw01.NaturalDividesBack': WHATEVER THE INPUT: true; the input reads as it did. -/
def naturalDividesBackSpec : ChangeSpec := { name := "naturalDividesBack", fn := fun _ => fun
  | [d1, d2] => { results := [.lit (.bool true)], args := [d1, d2] }
  | _ => none }
def naturalDividesBackRow : OpenClaim := { program := "ytecilkmigjbfoaa", sum := "d36160a5895a055cae1b89833e142de5c11c53f0795ddb16c869234a4b66af36", func := "robuststats/robuststatslaw01.NaturalDividesBack", spec := "naturalDividesBack", named := ["math/bits.overflowError"], apart := false }
def NaturalDividesBackSaid : Prop := naturalDividesBackRow.holds Try.pinned (OpenSpec.ofChange naturalDividesBackSpec)

/-- ITS FALSE NEIGHBOUR: 'it returns false'. Refute it at one input. -/
def naturalDividesBackWrong : ChangeSpec := { name := "naturalDividesBack", fn := fun _ => fun
  | [d1, d2] => { results := [.lit (.bool false)], args := [d1, d2] }
  | _ => none }
def NaturalDividesBackWrongFalsely : Prop := naturalDividesBackRow.holds Try.pinned (OpenSpec.ofChange naturalDividesBackWrong)

/-- 'robuststatslaw01.NaturalRootIsGreatest': WHATEVER THE INPUT: true; the input reads as it did. -/
def naturalRootIsGreatestSpec : ChangeSpec := { name := "naturalRootIsGreatest", fn := fun _ => fun
  | [d] => { results := [.lit (.bool true)], args := [d] }
  | _ => none }
def naturalRootIsGreatestRow : OpenClaim := { program := "ytecilkmigjbfoaa", sum := "d36160a5895a055cae1b89833e142de5c11c53f0795ddb16c869234a4b66af36", func := "robuststats/robuststatslaw01.NaturalRootIsGreatest", spec := "naturalRootIsGreatest", named := ["math/bits.overflowError"], apart := false }
def NaturalRootIsGreatestSaid : Prop := naturalRootIsGreatestRow.holds Try.pinned (OpenSpec.ofChange naturalRootIsGreatestSpec)

/-- ITS FALSE NEIGHBOUR: 'it returns false'. Refute it at one input. -/
def naturalRootIsGreatestWrong : ChangeSpec := { name := "naturalRootIsGreatest", fn := fun _ => fun
  | [d] => { results := [.lit (.bool false)], args := [d] }
  | _ => none }
def NaturalRootIsGreatestWrongFalsely : Prop := naturalRootIsGreatestRow.holds Try.pinned (OpenSpec.ofChange naturalRootIsGreatestWrong)

/-- 'robuststatslaw01.NaturalSubtractsBack': WHATEVER THE INPUT: true; the input reads as it did. -/
def naturalSubtractsBackSpec : ChangeSpec := { name := "naturalSubtractsBack", fn := fun _ => fun
  | [d1, d2, d3] => { results := [.lit (.bool true)], args := [d1, d2, d3] }
  | _ => none }
def naturalSubtractsBackRow : OpenClaim := { program := "ytecilkmigjbfoaa", sum := "d36160a5895a055cae1b89833e142de5c11c53f0795ddb16c869234a4b66af36", func := "robuststats/robuststatslaw01.NaturalSubtractsBack", spec := "naturalSubtractsBack", named := ["math/bits.overflowError"], apart := false }
def NaturalSubtractsBackSaid : Prop := naturalSubtractsBackRow.holds Try.pinned (OpenSpec.ofChange naturalSubtractsBackSpec)

/-- ITS FALSE NEIGHBOUR: 'it returns false'. Refute it at one input. -/
def naturalSubtractsBackWrong : ChangeSpec := { name := "naturalSubtractsBack", fn := fun _ => fun
  | [d1, d2, d3] => { results := [.lit (.bool false)], args := [d1, d2, d3] }
  | _ => none }
def NaturalSubtractsBackWrongFalsely : Prop := naturalSubtractsBackRow.holds Try.pinned (OpenSpec.ofChange naturalSubtractsBackWrong)

/-- 'robuststatslaw01.NaturalPowers': WHATEVER THE INPUT: true; the input reads as it did. -/
def naturalPowersSpec : ChangeSpec := { name := "naturalPowers", fn := fun _ => fun
  | [d1, d2] => { results := [.lit (.bool true)], args := [d1, d2] }
  | _ => none }
def naturalPowersRow : OpenClaim := { program := "ytecilkmigjbfoaa", sum := "d36160a5895a055cae1b89833e142de5c11c53f0795ddb16c869234a4b66af36", func := "robuststats/robuststatslaw01.NaturalPowers", spec := "naturalPowers", named := ["math/bits.overflowError"], apart := false }
def NaturalPowersSaid : Prop := naturalPowersRow.holds Try.pinned (OpenSpec.ofChange naturalPowersSpec)

/-- ITS FALSE NEIGHBOUR: 'it returns false'. Refute it at one input. -/
def naturalPowersWrong : ChangeSpec := { name := "naturalPowers", fn := fun _ => fun
  | [d1, d2] => { results := [.lit (.bool false)], args := [d1, d2] }
  | _ => none }
def NaturalPowersWrongFalsely : Prop := naturalPowersRow.holds Try.pinned (OpenSpec.ofChange naturalPowersWrong)

/-- 'robuststatslaw01.NaturalDivides': WHATEVER THE INPUT: true; the input reads as it did. -/
def naturalDividesSpec : ChangeSpec := { name := "naturalDivides", fn := fun _ => fun
  | [d1, d2] => { results := [.lit (.bool true)], args := [d1, d2] }
  | _ => none }
def naturalDividesRow : OpenClaim := { program := "ytecilkmigjbfoaa", sum := "d36160a5895a055cae1b89833e142de5c11c53f0795ddb16c869234a4b66af36", func := "robuststats/robuststatslaw01.NaturalDivides", spec := "naturalDivides", named := ["math/bits.overflowError"], apart := false }
def NaturalDividesSaid : Prop := naturalDividesRow.holds Try.pinned (OpenSpec.ofChange naturalDividesSpec)

/-- ITS FALSE NEIGHBOUR: 'it returns false'. Refute it at one input. -/
def naturalDividesWrong : ChangeSpec := { name := "naturalDivides", fn := fun _ => fun
  | [d1, d2] => { results := [.lit (.bool false)], args := [d1, d2] }
  | _ => none }
def NaturalDividesWrongFalsely : Prop := naturalDividesRow.holds Try.pinned (OpenSpec.ofChange naturalDividesWrong)

/-- 'robuststatslaw01.NaturalCalculates': WHATEVER THE INPUT: true; the input reads as it did. -/
def naturalCalculatesSpec : ChangeSpec := { name := "naturalCalculates", fn := fun _ => fun
  | [d1, d2] => { results := [.lit (.bool true)], args := [d1, d2] }
  | _ => none }
def naturalCalculatesRow : OpenClaim := { program := "ytecilkmigjbfoaa", sum := "d36160a5895a055cae1b89833e142de5c11c53f0795ddb16c869234a4b66af36", func := "robuststats/robuststatslaw01.NaturalCalculates", spec := "naturalCalculates", named := ["math/bits.overflowError"], apart := false }
def NaturalCalculatesSaid : Prop := naturalCalculatesRow.holds Try.pinned (OpenSpec.ofChange naturalCalculatesSpec)

/-- ITS FALSE NEIGHBOUR: 'it returns false'. Refute it at one input. -/
def naturalCalculatesWrong : ChangeSpec := { name := "naturalCalculates", fn := fun _ => fun
  | [d1, d2] => { results := [.lit (.bool false)], args := [d1, d2] }
  | _ => none }
def NaturalCalculatesWrongFalsely : Prop := naturalCalculatesRow.holds Try.pinned (OpenSpec.ofChange naturalCalculatesWrong)

/-- 'robuststatslaw01.NaturalDivisorIsGreatest': WHATEVER THE INPUT: true; the input reads as it did. -/
def naturalDivisorIsGreatestSpec : ChangeSpec := { name := "naturalDivisorIsGreatest", fn := fun _ => fun
  | [d1, d2, d3] => { results := [.lit (.bool true)], args := [d1, d2, d3] }
  | _ => none }
def naturalDivisorIsGreatestRow : OpenClaim := { program := "ytecilkmigjbfoaa", sum := "d36160a5895a055cae1b89833e142de5c11c53f0795ddb16c869234a4b66af36", func := "robuststats/robuststatslaw01.NaturalDivisorIsGreatest", spec := "naturalDivisorIsGreatest", named := ["math/bits.overflowError"], apart := false }
def NaturalDivisorIsGreatestSaid : Prop := naturalDivisorIsGreatestRow.holds Try.pinned (OpenSpec.ofChange naturalDivisorIsGreatestSpec)

/-- ITS FALSE NEIGHBOUR: 'it returns false'. Refute it at one input. -/
def naturalDivisorIsGreatestWrong : ChangeSpec := { name := "naturalDivisorIsGreatest", fn := fun _ => fun
  | [d1, d2, d3] => { results := [.lit (.bool false)], args := [d1, d2, d3] }
  | _ => none }
def NaturalDivisorIsGreatestWrongFalsely : Prop := naturalDivisorIsGreatestRow.holds Try.pinned (OpenSpec.ofChange naturalDivisorIsGreatestWrong)

/- THE SECOND FORM. 'bulk': how many values and letters a reading holds, each counted each time it is reached (what is shared counts as often as it is met; a slice's spare places count too). A statement '..UptoSaid' is the law's where the arguments, and the package variables that the reading takes, are together of bulk at most 1048576: NARROWER than '..Said'. Prove '..Said' where nothing that the law and all that it calls make is longer than what came in: it says more and counts as full. Else prove '..UptoSaid'. A law counts once. -/
mutual
def uptoBulk {H : Type} : DataW H → Nat
  | .lit (.string bytes) => bytes.length + 1
  | .lit _ => 1
  | .nil => 1
  | .ptr d => uptoBulk d + 1
  | .slice elems spare => uptoBulkAll elems + uptoBulkAll spare + 1
  | .agg parts => uptoBulkAll parts + 1
  | .iface _ d => uptoBulk d + 1
  | .map entries => uptoBulkEntries entries + 1
  | .held _ => 1
def uptoBulkAll {H : Type} : List (DataW H) → Nat
  | [] => 0
  | d :: r => uptoBulk d + uptoBulkAll r
def uptoBulkEntries {H : Type} : List (Lit × DataW H) → Nat
  | [] => 0
  | x :: r => uptoBulkEntry x + uptoBulkEntries r
def uptoBulkEntry {H : Type} : Lit × DataW H → Nat
  | (.string bytes, d) => bytes.length + uptoBulk d + 1
  | (_, d) => uptoBulk d + 1
 end
def uptoSmall : (H : Type) → List (DataW H) → Bool := fun _ ds => decide (uptoBulkAll ds ≤ 1048576)
def OpenSpec.upto (s : _root_.Go.ChangeSpec) : _root_.Go.OpenSpec := { _root_.Go.OpenSpec.ofChange s with cond := some uptoSmall }

/-- 'robuststatslaw01.NaturalValues', WHERE WHAT IT READS IS OF BULK AT MOST 1048576: true; the input reads as it did. -/
def naturalValuesUptoRow : OpenClaim := { program := "ytecilkmigjbfoaa", sum := "d36160a5895a055cae1b89833e142de5c11c53f0795ddb16c869234a4b66af36", func := "robuststats/robuststatslaw01.NaturalValues", spec := "naturalValues", named := ["math/bits.overflowError"], apart := false, narrowed := true }
def NaturalValuesUptoSaid : Prop := naturalValuesUptoRow.holds Try.pinned (OpenSpec.upto naturalValuesSpec)

/-- 'robuststatslaw01.NaturalIsARing', WHERE WHAT IT READS IS OF BULK AT MOST 1048576: true; the input reads as it did. -/
def naturalIsARingUptoRow : OpenClaim := { program := "ytecilkmigjbfoaa", sum := "d36160a5895a055cae1b89833e142de5c11c53f0795ddb16c869234a4b66af36", func := "robuststats/robuststatslaw01.NaturalIsARing", spec := "naturalIsARing", named := ["math/bits.overflowError"], apart := false, narrowed := true }
def NaturalIsARingUptoSaid : Prop := naturalIsARingUptoRow.holds Try.pinned (OpenSpec.upto naturalIsARingSpec)

/-- 'robuststatslaw01.NaturalDividesBack', WHERE WHAT IT READS IS OF BULK AT MOST 1048576: true; the input reads as it did. -/
def naturalDividesBackUptoRow : OpenClaim := { program := "ytecilkmigjbfoaa", sum := "d36160a5895a055cae1b89833e142de5c11c53f0795ddb16c869234a4b66af36", func := "robuststats/robuststatslaw01.NaturalDividesBack", spec := "naturalDividesBack", named := ["math/bits.overflowError"], apart := false, narrowed := true }
def NaturalDividesBackUptoSaid : Prop := naturalDividesBackUptoRow.holds Try.pinned (OpenSpec.upto naturalDividesBackSpec)

/-- 'robuststatslaw01.NaturalRootIsGreatest', WHERE WHAT IT READS IS OF BULK AT MOST 1048576: true; the input reads as it did. -/
def naturalRootIsGreatestUptoRow : OpenClaim := { program := "ytecilkmigjbfoaa", sum := "d36160a5895a055cae1b89833e142de5c11c53f0795ddb16c869234a4b66af36", func := "robuststats/robuststatslaw01.NaturalRootIsGreatest", spec := "naturalRootIsGreatest", named := ["math/bits.overflowError"], apart := false, narrowed := true }
def NaturalRootIsGreatestUptoSaid : Prop := naturalRootIsGreatestUptoRow.holds Try.pinned (OpenSpec.upto naturalRootIsGreatestSpec)

/-- 'robuststatslaw01.NaturalSubtractsBack', WHERE WHAT IT READS IS OF BULK AT MOST 1048576: true; the input reads as it did. -/
def naturalSubtractsBackUptoRow : OpenClaim := { program := "ytecilkmigjbfoaa", sum := "d36160a5895a055cae1b89833e142de5c11c53f0795ddb16c869234a4b66af36", func := "robuststats/robuststatslaw01.NaturalSubtractsBack", spec := "naturalSubtractsBack", named := ["math/bits.overflowError"], apart := false, narrowed := true }
def NaturalSubtractsBackUptoSaid : Prop := naturalSubtractsBackUptoRow.holds Try.pinned (OpenSpec.upto naturalSubtractsBackSpec)

/-- 'robuststatslaw01.NaturalPowers', WHERE WHAT IT READS IS OF BULK AT MOST 1048576: true; the input reads as it did. -/
def naturalPowersUptoRow : OpenClaim := { program := "ytecilkmigjbfoaa", sum := "d36160a5895a055cae1b89833e142de5c11c53f0795ddb16c869234a4b66af36", func := "robuststats/robuststatslaw01.NaturalPowers", spec := "naturalPowers", named := ["math/bits.overflowError"], apart := false, narrowed := true }
def NaturalPowersUptoSaid : Prop := naturalPowersUptoRow.holds Try.pinned (OpenSpec.upto naturalPowersSpec)

/-- 'robuststatslaw01.NaturalDivides', WHERE WHAT IT READS IS OF BULK AT MOST 1048576: true; the input reads as it did. -/
def naturalDividesUptoRow : OpenClaim := { program := "ytecilkmigjbfoaa", sum := "d36160a5895a055cae1b89833e142de5c11c53f0795ddb16c869234a4b66af36", func := "robuststats/robuststatslaw01.NaturalDivides", spec := "naturalDivides", named := ["math/bits.overflowError"], apart := false, narrowed := true }
def NaturalDividesUptoSaid : Prop := naturalDividesUptoRow.holds Try.pinned (OpenSpec.upto naturalDividesSpec)

/-- 'robuststatslaw01.NaturalCalculates', WHERE WHAT IT READS IS OF BULK AT MOST 1048576: true; the input reads as it did. -/
def naturalCalculatesUptoRow : OpenClaim := { program := "ytecilkmigjbfoaa", sum := "d36160a5895a055cae1b89833e142de5c11c53f0795ddb16c869234a4b66af36", func := "robuststats/robuststatslaw01.NaturalCalculates", spec := "naturalCalculates", named := ["math/bits.overflowError"], apart := false, narrowed := true }
def NaturalCalculatesUptoSaid : Prop := naturalCalculatesUptoRow.holds Try.pinned (OpenSpec.upto naturalCalculatesSpec)

/-- 'robuststatslaw01.NaturalDivisorIsGreatest', WHERE WHAT IT READS IS OF BULK AT MOST 1048576: true; the input reads as it did. -/
def naturalDivisorIsGreatestUptoRow : OpenClaim := { program := "ytecilkmigjbfoaa", sum := "d36160a5895a055cae1b89833e142de5c11c53f0795ddb16c869234a4b66af36", func := "robuststats/robuststatslaw01.NaturalDivisorIsGreatest", spec := "naturalDivisorIsGreatest", named := ["math/bits.overflowError"], apart := false, narrowed := true }
def NaturalDivisorIsGreatestUptoSaid : Prop := naturalDivisorIsGreatestUptoRow.holds Try.pinned (OpenSpec.upto naturalDivisorIsGreatestSpec)

end Rows
end Go.Proofs.Ytecilkmigjbfoaa
