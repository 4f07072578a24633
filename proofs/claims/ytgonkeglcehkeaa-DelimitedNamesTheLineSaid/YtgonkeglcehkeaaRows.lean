/-
  No cell of these rows narrows 'for every input' (looked for: loops, veiled, ifaces, maps, wideKeys, modest, calm, conditions, laid).
  DERIVED. THE GIVEN ROWS OF THIS SEAT. 3 by the template 'for every input the law returns true; each argument reads behind the call as it read before'; 0 by the template 'total and deterministic' (their statements: YtgonkeglcehkeaaTotals.lean).
  GIVEN WITH THE SEED: the statements are not yours to turn. If you find one false, say at which input.
  Laid BY PROGRAM, IN A SANDBOX (cutbox-rows.mjs): the forced cells as the released guide's own fill.sh prints them over the translation a8cd038411f4ab83… (all of the seat's roots in one cut). By AI agents, Wed Nov 11 2026. No macro, syntax, notation, axiom, sorry.
-/
import Derived.Test.YtgonkeglcehkeaaChecked
import GoSem.Claim
import GoSem.ClaimJoined
import GoSem.ClaimMapViews
import Derived.JoinedTies
import Derived.KernelRfl
namespace Go.Proofs.Ytgonkeglcehkeaa
/- THE CELL 'sum', in the pinned program and in every row, IS THE sha256 OF THE DUMP (.gsa) THAT YtgonkeglcehkeaaProg.lean LOADS. Nothing in Lean hashes anything: it is a label: what it is worth is what the hold of that sum in a sandbox is worth. -/
noncomputable def Try.pinned : Pinned := { name := "ytgonkeglcehkeaa", sum := "a8cd038411f4ab83f747661c956e4ba5f9833e87f8adcb56c7e830c01d65af61", checked := Try.checked }
namespace Rows
def none {H : Type} : Left H := { results := [], args := [] }

/-- 'robuststatslaw07.DelimitedParses': WHATEVER THE INPUT: true; the input reads as it did. -/
def delimitedParsesSpec : ChangeSpec := { name := "delimitedParses", fn := fun _ => fun
  | [d1, d2] => { results := [.lit (.bool true)], args := [d1, d2] }
  | _ => none }
def delimitedParsesRow : OpenClaim := { program := "ytgonkeglcehkeaa", sum := "a8cd038411f4ab83f747661c956e4ba5f9833e87f8adcb56c7e830c01d65af61", func := "robuststats/robuststatslaw07.DelimitedParses", spec := "delimitedParses", inPlace := ["internal/bytealg.IndexByteString", "internal/bytealg.IndexString", "internal/abi.NoEscape", "internal/bytealg.CountString"], unfollowed := true, recurses := true, named := ["internal/bytealg.MaxLen"], apart := false }
def DelimitedParsesSaid : Prop := delimitedParsesRow.holds Try.pinned (OpenSpec.ofChange delimitedParsesSpec)

/-- ITS FALSE NEIGHBOUR: 'it returns false'. Refute it at one input. -/
def delimitedParsesWrong : ChangeSpec := { name := "delimitedParses", fn := fun _ => fun
  | [d1, d2] => { results := [.lit (.bool false)], args := [d1, d2] }
  | _ => none }
def DelimitedParsesWrongFalsely : Prop := delimitedParsesRow.holds Try.pinned (OpenSpec.ofChange delimitedParsesWrong)

/-- 'robuststatslaw07.DelimitedJoinsTexts': WHATEVER THE INPUT: true; the input reads as it did. -/
def delimitedJoinsTextsSpec : ChangeSpec := { name := "delimitedJoinsTexts", fn := fun _ => fun
  | [d1, d2] => { results := [.lit (.bool true)], args := [d1, d2] }
  | _ => none }
def delimitedJoinsTextsRow : OpenClaim := { program := "ytgonkeglcehkeaa", sum := "a8cd038411f4ab83f747661c956e4ba5f9833e87f8adcb56c7e830c01d65af61", func := "robuststats/robuststatslaw07.DelimitedJoinsTexts", spec := "delimitedJoinsTexts", inPlace := ["internal/bytealg.IndexByteString", "internal/bytealg.IndexString", "internal/abi.NoEscape", "internal/bytealg.CountString"], unfollowed := true, recurses := true, named := ["internal/bytealg.MaxLen"], apart := false }
def DelimitedJoinsTextsSaid : Prop := delimitedJoinsTextsRow.holds Try.pinned (OpenSpec.ofChange delimitedJoinsTextsSpec)

/-- ITS FALSE NEIGHBOUR: 'it returns false'. Refute it at one input. -/
def delimitedJoinsTextsWrong : ChangeSpec := { name := "delimitedJoinsTexts", fn := fun _ => fun
  | [d1, d2] => { results := [.lit (.bool false)], args := [d1, d2] }
  | _ => none }
def DelimitedJoinsTextsWrongFalsely : Prop := delimitedJoinsTextsRow.holds Try.pinned (OpenSpec.ofChange delimitedJoinsTextsWrong)

/-- 'robuststatslaw07.DelimitedNamesTheLine': WHATEVER THE INPUT: true; the input reads as it did. -/
def delimitedNamesTheLineSpec : ChangeSpec := { name := "delimitedNamesTheLine", fn := fun _ => fun
  | [d1, d2, d3] => { results := [.lit (.bool true)], args := [d1, d2, d3] }
  | _ => none }
def delimitedNamesTheLineRow : OpenClaim := { program := "ytgonkeglcehkeaa", sum := "a8cd038411f4ab83f747661c956e4ba5f9833e87f8adcb56c7e830c01d65af61", func := "robuststats/robuststatslaw07.DelimitedNamesTheLine", spec := "delimitedNamesTheLine", inPlace := ["internal/bytealg.IndexByteString", "internal/bytealg.IndexString", "internal/abi.NoEscape", "internal/bytealg.CountString"], unfollowed := true, recurses := true, named := ["internal/bytealg.MaxLen"], apart := false }
def DelimitedNamesTheLineSaid : Prop := delimitedNamesTheLineRow.holds Try.pinned (OpenSpec.ofChange delimitedNamesTheLineSpec)

/-- ITS FALSE NEIGHBOUR: 'it returns false'. Refute it at one input. -/
def delimitedNamesTheLineWrong : ChangeSpec := { name := "delimitedNamesTheLine", fn := fun _ => fun
  | [d1, d2, d3] => { results := [.lit (.bool false)], args := [d1, d2, d3] }
  | _ => none }
def DelimitedNamesTheLineWrongFalsely : Prop := delimitedNamesTheLineRow.holds Try.pinned (OpenSpec.ofChange delimitedNamesTheLineWrong)

/- THE SECOND FORM. 'bulk': how many values and letters a reading holds, each counted each time it is reached (what is shared counts as often as it is met; a slice's spare places count too). A statement '..UptoSaid' is the law's where the arguments, and the package variables that the reading takes, are together of bulk at most 1048576: NARROWER than '..Said'. Prove '..Said' where nothing that the law and all that it calls make is longer than what came in: it says more and counts as full. Else prove '..UptoSaid'. A law counts once. -/
mutual
def uptoBulk {H : Type} : DataW H → Nat
  | .lit (.string bytes) => bytes.length + 1
  | .lit _ => 1
  | .nil => 1
  | .ptr d => uptoBulk d + 1
  | .slice elems spare => uptoBulkAll elems + uptoBulkAll spare + 1
  | .agg parts => uptoBulkAll parts + 1
  | .iface _ d => uptoBulk d + 1
  | .map entries => uptoBulkEntries entries + 1
  | .held _ => 1
def uptoBulkAll {H : Type} : List (DataW H) → Nat
  | [] => 0
  | d :: r => uptoBulk d + uptoBulkAll r
def uptoBulkEntries {H : Type} : List (Lit × DataW H) → Nat
  | [] => 0
  | x :: r => uptoBulkEntry x + uptoBulkEntries r
def uptoBulkEntry {H : Type} : Lit × DataW H → Nat
  | (.string bytes, d) => bytes.length + uptoBulk d + 1
  | (_, d) => uptoBulk d + 1
 end
def uptoSmall : (H : Type) → List (DataW H) → Bool := fun _ ds => decide (uptoBulkAll ds ≤ 1048576)
def OpenSpec.upto (s : _root_.Go.ChangeSpec) : _root_.Go.OpenSpec := { _root_.Go.OpenSpec.ofChange s with cond := some uptoSmall }

/-- 'robuststatslaw07.DelimitedParses', WHERE WHAT IT READS IS OF BULK AT MOST 1048576: true; the input reads as it did. -/
def delimitedParsesUptoRow : OpenClaim := { program := "ytgonkeglcehkeaa", sum := "a8cd038411f4ab83f747661c956e4ba5f9833e87f8adcb56c7e830c01d65af61", func := "robuststats/robuststatslaw07.DelimitedParses", spec := "delimitedParses", inPlace := ["internal/bytealg.IndexByteString", "internal/bytealg.IndexString", "internal/abi.NoEscape", "internal/bytealg.CountString"], unfollowed := true, recurses := true, named := ["internal/bytealg.MaxLen"], apart := false, narrowed := true }
def DelimitedParsesUptoSaid : Prop := delimitedParsesUptoRow.holds Try.pinned (OpenSpec.upto delimitedParsesSpec)

/-- 'robuststatslaw07.DelimitedJoinsTexts', WHERE WHAT IT READS IS OF BULK AT MOST 1048576: true; the input reads as it did. -/
def delimitedJoinsTextsUptoRow : OpenClaim := { program := "ytgonkeglcehkeaa", sum := "a8cd038411f4ab83f747661c956e4ba5f9833e87f8adcb56c7e830c01d65af61", func := "robuststats/robuststatslaw07.DelimitedJoinsTexts", spec := "delimitedJoinsTexts", inPlace := ["internal/bytealg.IndexByteString", "internal/bytealg.IndexString", "internal/abi.NoEscape", "internal/bytealg.CountString"], unfollowed := true, recurses := true, named := ["internal/bytealg.MaxLen"], apart := false, narrowed := true }
def DelimitedJoinsTextsUptoSaid : Prop := delimitedJoinsTextsUptoRow.holds Try.pinned (OpenSpec.upto delimitedJoinsTextsSpec)

/-- 'robuststatslaw07.DelimitedNamesTheLine', WHERE WHAT IT READS IS OF BULK AT MOST 1048576: true; the input reads as it did. -/
def delimitedNamesTheLineUptoRow : OpenClaim := { program := "ytgonkeglcehkeaa", sum := "a8cd038411f4ab83f747661c956e4ba5f9833e87f8adcb56c7e830c01d65af61", func := "robuststats/robuststatslaw07.DelimitedNamesTheLine", spec := "delimitedNamesTheLine", inPlace := ["internal/bytealg.IndexByteString", "internal/bytealg.IndexString", "internal/abi.NoEscape", "internal/bytealg.CountString"], unfollowed := true, recurses := true, named := ["internal/bytealg.MaxLen"], apart := false, narrowed := true }
def DelimitedNamesTheLineUptoSaid : Prop := delimitedNamesTheLineUptoRow.holds Try.pinned (OpenSpec.upto delimitedNamesTheLineSpec)

end Rows
end Go.Proofs.Ytgonkeglcehkeaa
