import Derived.Test.YtecilkmigjbfoaaN2
set_option linter.unusedSimpArgs false
set_option linter.unusedVariables false
namespace Go.Dat
open Go
theorem or_nat64 (a b : Nat) (ha : a < 18446744073709551616) (hb : b < 18446744073709551616) : bitE .or .u64 (a : Int) (b : Int) = ((a ||| b : Nat) : Int) := by
  unfold bitE
  have e1 : (BitVec.ofInt IntKind.u64.bits (a : Int)).toNat = a := by
    rw [BitVec.ofInt_natCast, BitVec.toNat_ofNat]
    exact Nat.mod_eq_of_lt ha
  have e2 : (BitVec.ofInt IntKind.u64.bits (b : Int)).toNat = b := by
    rw [BitVec.ofInt_natCast, BitVec.toNat_ofNat]
    exact Nat.mod_eq_of_lt hb
  simp only [BitVec.toNat_or, e1, e2]
  rw [IntKind.wrap_u64]
  have : a ||| b < 2 ^ 64 := Nat.or_lt_two_pow (by simpa using ha) (by simpa using hb)
  omega
theorem or_add {h x : Nat} (hx : x < 4294967296) : (4294967296 * h) ||| x = 4294967296 * h + x := by
  have := Nat.two_pow_add_eq_or_of_lt (i := 32) (b := x) hx h
  simpa using this.symm
theorem or32 {h x : Nat} (hx : x < 4294967296) (hs : 4294967296 * h + x < 18446744073709551616) :
    bitE .or .u64 ((h : Int) * 2 ^ min (Int.toNat 32) IntKind.u64.bits % 18446744073709551616) ((x : Int) % 18446744073709551616) = ((4294967296 * h + x : Nat) : Int) := by
  have e : (2 ^ min (Int.toNat 32) IntKind.u64.bits : Int) = ((4294967296 : Nat) : Int) := by decide
  rw [e, show (h : Int) * ((4294967296 : Nat) : Int) % 18446744073709551616 = ((4294967296 * h : Nat) : Int) by omega, show (x : Int) % 18446744073709551616 = (x : Int) by omega, or_nat64 _ _ (by omega) (by omega), or_add hx]
end Go.Dat
namespace Nat32
theorem lim_drop {a : List Nat} (h : lim a) (n : Nat) : lim (a.drop n) := fun x hx => h x (List.mem_of_mem_drop hx)
theorem nv_drop {a : List Nat} {m : Nat} (h : m < a.length) : nv (a.drop m) = a.getD m 0 + 4294967296 * nv (a.drop (m + 1)) := by
  rw [List.drop_eq_getElem_cons h, List.getD_eq_getElem?_getD, List.getElem?_eq_getElem h]; rfl
theorem nv_drop2 {a : List Nat} (h : lim a) (hl : a.length ≤ 2) (m : Nat) : nv (a.drop m) < 18446744073709551616 := by
  have h1 := nv_lt (lim_drop h m)
  have h2 : (4294967296 : Nat) ^ (a.drop m).length ≤ 4294967296 ^ 2 := Nat.pow_le_pow_right (by decide) (by simp; omega)
  omega
theorem nv_take2 {a : List Nat} (h : lim a) (hl : a.length ≤ 2) (m : Nat) : nv (a.take m) < 18446744073709551616 := by
  have h1 := nv_lt (lim_take h m)
  have h2 : (4294967296 : Nat) ^ (a.take m).length ≤ 4294967296 ^ 2 := Nat.pow_le_pow_right (by decide) (by simp; omega)
  omega
end Nat32
