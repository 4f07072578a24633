import Derived.Test.YtecilkmigjbfoaaN7
set_option linter.unusedSimpArgs false
set_option linter.unusedVariables false
namespace Nat32
open Go Go.Dat
theorem sub_ex {x y c : Nat} (hx : x < 4294967296) (hy : y < 4294967296) (hc : c ≤ 1) : ∃ d b, d + y + c = x + 4294967296 * b ∧ d < 4294967296 ∧ b ≤ 1 := by
  by_cases h : x < y + c
  · obtain ⟨d, hd⟩ : ∃ d, x + 4294967296 = y + c + d := Nat.exists_eq_add_of_le (by omega)
    exact ⟨d, 1, by omega, by omega, by omega⟩
  · obtain ⟨d, hd⟩ : ∃ d, x = y + c + d := Nat.exists_eq_add_of_le (by omega)
    exact ⟨d, 0, by omega, by omega, by omega⟩
theorem sub_step' {X Y D P x y c d b : Nat} (h : D + Y = X + P * c) (hd : d + y + c = x + 4294967296 * b) : (D + P * d) + (Y + P * y) = (X + P * x) + (P * 4294967296) * b := by
  have h4 : P * d + P * y + P * c = P * x + P * 4294967296 * b := by
    rw [Nat.mul_assoc P 4294967296, ← Nat.mul_add, ← Nat.mul_add, ← Nat.mul_add, hd]
  omega
theorem sub_wrap' {x y c d b : Nat} (hd : d + y + c = x + 4294967296 * b) (h : d < 4294967296) : IntKind.u32.wrap (IntKind.u32.wrap ((x : Int) - (y : Int)) - (c : Int)) = (d : Int) := by
  rw [IntKind.wrap_u32, IntKind.wrap_u32]; omega
theorem bor_expr' {x y c d b : Nat} (hx : x < 4294967296) (hy : y < 4294967296) (hc : c ≤ 1) (hd : d + y + c = x + 4294967296 * b) (h : d < 4294967296) (hb : b ≤ 1) :
    (bitE .or .u32 (bitE .and .u32 (bitE .xor .u32 4294967295 (x : Int)) (y : Int)) (bitE .and .u32 (bitE .xor .u32 4294967295 (bitE .xor .u32 (x : Int) (y : Int))) (d : Int))).fdiv (2 ^ min (Int.toNat 31) IntKind.u32.bits) = (b : Int) := by
  have hb2 : b = 0 ∨ b = 1 := by omega
  rw [bor_expr hx hy hc h (by omega)]
  unfold bor
  split <;> omega
end Nat32
