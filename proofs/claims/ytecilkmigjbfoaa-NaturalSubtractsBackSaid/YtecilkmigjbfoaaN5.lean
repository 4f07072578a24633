import Derived.Test.YtecilkmigjbfoaaN4
set_option linter.unusedSimpArgs false
set_option linter.unusedVariables false
namespace Nat32
open Go Go.Dat
/-- A list that grows by append, as an own slice: nil as long as nothing lies in it. -/
def oap (o : Nat) : List Nat → DV
  | [] => .nils
  | x :: r => .osl 1 o 0 (r.length + 1)
def hap (o : Nat) : List Nat → Hp
  | [] => []
  | x :: r => [(o, us (x :: r))]
theorem oap_app (o x : Nat) (q : List Nat) : oap o (q ++ [x]) = .osl 1 o 0 (q.length + 1) := by
  cases q with
  | nil => rfl
  | cons y q => simp [oap]
theorem hap_app (o x : Nat) (q : List Nat) : hap o (q ++ [x]) = [(o, us (q ++ [x]))] := by
  cases q with
  | nil => rfl
  | cons y q => rfl
theorem one1 (k : IntKind) (n : Int) : (∀ d ∈ [DV.int k n], d.one = true) = True := by simp [DV.one]
theorem rf1 (k : IntKind) (n : Int) : (∀ d ∈ [DV.int k n], d.rf = true) = True := by simp [DV.rf]
theorem us_snoc (q : List Nat) (x : Nat) : us q ++ [DV.int .u32 x] = us (q ++ [x]) := by simp [us, u32]
end Nat32
