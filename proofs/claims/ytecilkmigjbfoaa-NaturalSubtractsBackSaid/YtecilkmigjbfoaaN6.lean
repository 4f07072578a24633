import Derived.Test.YtecilkmigjbfoaaN5
set_option linter.unusedSimpArgs false
set_option linter.unusedVariables false
namespace Nat32
open Go Go.Dat
/-! The borrow of 'Sub32', bit by bit. -/
theorem bit31 {v : Nat} (h : v < 4294967296) : v / 2147483648 = (v.testBit 31).toNat := by
  rw [Nat.testBit_eq_decide_div_mod_eq]
  have : v / 2 ^ 31 % 2 = v / 2147483648 := by omega
  rw [this]
  have h2 : v / 2147483648 = 0 ∨ v / 2147483648 = 1 := by omega
  rcases h2 with e | e <;> rw [e] <;> rfl
theorem ofInt32 (a : Nat) (ha : a < 4294967296) : (BitVec.ofInt IntKind.u32.bits (a : Int)).toNat = a := by
  rw [BitVec.ofInt_natCast, BitVec.toNat_ofNat]; exact Nat.mod_eq_of_lt ha
theorem and_nat32 (a b : Nat) (ha : a < 4294967296) (hb : b < 4294967296) : bitE .and .u32 (a : Int) (b : Int) = ((a &&& b : Nat) : Int) := by
  unfold bitE
  simp only [BitVec.toNat_and, ofInt32 a ha, ofInt32 b hb]
  rw [IntKind.wrap_u32]
  have : a &&& b < 2 ^ 32 := Nat.and_lt_two_pow _ (by simpa using hb)
  omega
theorem or_nat32 (a b : Nat) (ha : a < 4294967296) (hb : b < 4294967296) : bitE .or .u32 (a : Int) (b : Int) = ((a ||| b : Nat) : Int) := by
  unfold bitE
  simp only [BitVec.toNat_or, ofInt32 a ha, ofInt32 b hb]
  rw [IntKind.wrap_u32]
  have : a ||| b < 2 ^ 32 := Nat.or_lt_two_pow (by simpa using ha) (by simpa using hb)
  omega
theorem xor_nat32 (a b : Nat) (ha : a < 4294967296) (hb : b < 4294967296) : bitE .xor .u32 (a : Int) (b : Int) = ((a ^^^ b : Nat) : Int) := by
  unfold bitE
  simp only [BitVec.toNat_xor, ofInt32 a ha, ofInt32 b hb]
  rw [IntKind.wrap_u32]
  have : a ^^^ b < 2 ^ 32 := Nat.xor_lt_two_pow (by simpa using ha) (by simpa using hb)
  omega
theorem not_nat32 (a : Nat) (ha : a < 4294967296) : bitE .xor .u32 4294967295 (a : Int) = ((4294967295 ^^^ a : Nat) : Int) := xor_nat32 4294967295 a (by decide) ha
/-- What goes over to the next limb. -/
def bor (x y c : Nat) : Nat := if x < y + c then 1 else 0
theorem bor_bits {x y c d : Nat} (hx : x < 4294967296) (hy : y < 4294967296) (hc : c ≤ 1) (hd : d < 4294967296) (he : d = x - y - c ∧ y + c ≤ x ∨ d + y + c = x + 4294967296 ∧ x < y + c) :
    (((4294967295 ^^^ x) &&& y) ||| ((4294967295 ^^^ (x ^^^ y)) &&& d)) / 2147483648 = bor x y c := by
  have l1 : (4294967295 ^^^ x) < 2 ^ 32 := Nat.xor_lt_two_pow (by decide) (by simpa using hx)
  have l2 : x ^^^ y < 2 ^ 32 := Nat.xor_lt_two_pow (by simpa using hx) (by simpa using hy)
  have l3 : (4294967295 ^^^ (x ^^^ y)) < 2 ^ 32 := Nat.xor_lt_two_pow (by decide) l2
  have l4 : ((4294967295 ^^^ x) &&& y) < 2 ^ 32 := Nat.and_lt_two_pow _ (by simpa using hy)
  have l5 : ((4294967295 ^^^ (x ^^^ y)) &&& d) < 2 ^ 32 := Nat.and_lt_two_pow _ (by simpa using hd)
  have l6 := Nat.or_lt_two_pow l4 l5
  rw [bit31 (by simpa using l6)]
  simp only [Nat.testBit_or, Nat.testBit_and, Nat.testBit_xor]
  have t (v : Nat) (hv : v < 4294967296) : v.testBit 31 = decide (2147483648 ≤ v) := by
    rw [Nat.testBit_eq_decide_div_mod_eq, decide_eq_decide]; omega
  rw [t x hx, t y hy, t d hd, t 4294967295 (by decide)]
  unfold bor
  by_cases h1 : 2147483648 ≤ x <;> by_cases h2 : 2147483648 ≤ y <;> by_cases h3 : 2147483648 ≤ d <;> simp [h1, h2, h3] <;> omega
end Nat32
namespace Nat32
/-- One limb of a difference: 'c' was borrowed. -/
theorem sub_step {X Y D P x y c : Nat} (hx : x < 4294967296) (hy : y < 4294967296) (hc : c ≤ 1) (h : D + Y = X + P * c) :
    (D + P * ((x + 4294967296 - y - c) % 4294967296)) + (Y + P * y) = (X + P * x) + (P * 4294967296) * (1 - (x + 4294967296 - y - c) / 4294967296) ∧ (x + 4294967296 - y - c) / 4294967296 ≤ 1 := by
  have h1 := Nat.div_add_mod (x + 4294967296 - y - c) 4294967296
  have h2 : (x + 4294967296 - y - c) / 4294967296 ≤ 1 := by omega
  refine ⟨?_, h2⟩
  generalize (x + 4294967296 - y - c) % 4294967296 = dg at h1 ⊢
  generalize hq : (x + 4294967296 - y - c) / 4294967296 = q at h1 h2 ⊢
  have h3 : dg + y + c = x + 4294967296 * (1 - q) := by omega
  have h4 : P * dg + P * y + P * c = P * x + P * 4294967296 * (1 - q) := by
    rw [Nat.mul_assoc P 4294967296, ← Nat.mul_add, ← Nat.mul_add, ← Nat.mul_add, h3]
  omega
end Nat32
namespace Nat32
open Go Go.Dat
theorem bor_expr {x y c d : Nat} (hx : x < 4294967296) (hy : y < 4294967296) (hc : c ≤ 1) (hd : d < 4294967296) (he : d = x - y - c ∧ y + c ≤ x ∨ d + y + c = x + 4294967296 ∧ x < y + c) :
    (bitE .or .u32 (bitE .and .u32 (bitE .xor .u32 4294967295 (x : Int)) (y : Int)) (bitE .and .u32 (bitE .xor .u32 4294967295 (bitE .xor .u32 (x : Int) (y : Int))) (d : Int))).fdiv (2 ^ min (Int.toNat 31) IntKind.u32.bits) = ((bor x y c : Nat) : Int) := by
  have l1 : (4294967295 ^^^ x) < 2 ^ 32 := Nat.xor_lt_two_pow (by decide) (by simpa using hx)
  have l2 : x ^^^ y < 2 ^ 32 := Nat.xor_lt_two_pow (by simpa using hx) (by simpa using hy)
  have l3 : (4294967295 ^^^ (x ^^^ y)) < 2 ^ 32 := Nat.xor_lt_two_pow (by decide) l2
  have l4 : ((4294967295 ^^^ x) &&& y) < 2 ^ 32 := Nat.and_lt_two_pow _ (by simpa using hy)
  have l5 : ((4294967295 ^^^ (x ^^^ y)) &&& d) < 2 ^ 32 := Nat.and_lt_two_pow _ (by simpa using hd)
  rw [not_nat32 x hx, and_nat32 _ y (by simpa using l1) hy, xor_nat32 x y hx hy, not_nat32 _ (by simpa using l2), and_nat32 _ d (by simpa using l3) hd, or_nat32 _ _ (by simpa using l4) (by simpa using l5)]
  have e : (2 ^ min (Int.toNat 31) IntKind.u32.bits : Int) = ((2147483648 : Nat) : Int) := by decide
  rw [e, fdiv_nat, bor_bits hx hy hc hd he]
theorem sub_wrap {x y c : Nat} (hx : x < 4294967296) (hy : y < 4294967296) (hc : c ≤ 1) : IntKind.u32.wrap (IntKind.u32.wrap ((x : Int) - (y : Int)) - (c : Int)) = (((x + 4294967296 - y - c) % 4294967296 : Nat) : Int) := by
  rw [IntKind.wrap_u32, IntKind.wrap_u32]; omega
theorem bor_eq {x y c : Nat} (hx : x < 4294967296) (hy : y < 4294967296) (hc : c ≤ 1) : 1 - (x + 4294967296 - y - c) / 4294967296 = bor x y c := by
  unfold bor; split <;> omega
end Nat32
