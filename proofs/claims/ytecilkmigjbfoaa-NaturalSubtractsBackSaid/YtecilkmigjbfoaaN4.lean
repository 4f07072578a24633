import Derived.Test.YtecilkmigjbfoaaN3
set_option linter.unusedSimpArgs false
set_option linter.unusedVariables false
namespace Nat32
open Go Go.Dat
theorem tdiv_nat (a b : Nat) : ((a : Int)).tdiv (b : Int) = ((a / b : Nat) : Int) := (Int.ofNat_tdiv a b).symm
theorem tmod_nat (a b : Nat) : ((a : Int)).tmod (b : Int) = ((a % b : Nat) : Int) := (Int.ofNat_tmod a b).symm
theorem set_rep (m q : Nat) (ds : List Nat) : (List.replicate (m + 1) 0 ++ ds).set m q = List.replicate m 0 ++ (q :: ds) := by
  induction m with
  | zero => rfl
  | succ m ih => rw [List.replicate_succ, List.cons_append, List.set_cons_succ, ih]; rfl
theorem div_lt {hi lo y : Nat} (h1 : hi < y) (h2 : lo < 4294967296) : (4294967296 * hi + lo) / y < 4294967296 := by
  rw [Nat.div_lt_iff_lt_mul (by omega)]
  have : 4294967296 * (hi + 1) ≤ 4294967296 * y := Nat.mul_le_mul_left _ h1
  omega
theorem div_step {N d x : Nat} (hd : 0 < d) : (x + 4294967296 * N) / d = (4294967296 * (N % d) + x) / d + 4294967296 * (N / d) ∧ (x + 4294967296 * N) % d = (4294967296 * (N % d) + x) % d := by
  have h : x + 4294967296 * N = (4294967296 * (N % d) + x) + d * (4294967296 * (N / d)) := by
    have := Nat.div_add_mod N d
    have e : d * (4294967296 * (N / d)) = 4294967296 * (d * (N / d)) := by
      rw [← Nat.mul_assoc, Nat.mul_comm d, Nat.mul_assoc]
    rw [e]; omega
  rw [h]
  exact ⟨by rw [Nat.add_mul_div_left _ _ hd], by rw [Nat.add_mul_mod_self_left]⟩
theorem limbs_one {x : Nat} (h0 : x ≠ 0) (h : x < 4294967296) : limbs x = [x] := by
  rw [limbs_pos h0, Nat.mod_eq_of_lt h, Nat.div_eq_of_lt h, limbs_zero]
theorem nv_take_succ' {a : List Nat} (n : Nat) : nv (a.take (n + 1)) = nv (a.take n) + 4294967296 ^ n * a.getD n 0 := by
  by_cases h : n < a.length
  · exact nv_take_succ h
  · rw [List.take_of_length_le (by omega), List.take_of_length_le (by omega)]
    have : a.getD n 0 = 0 := by rw [List.getD_eq_getElem?_getD, List.getElem?_eq_none (by omega)]; rfl
    rw [this]; omega
theorem set_app (k v : Nat) (ds : List Nat) : (ds ++ List.replicate (k + 1) 0).set ds.length v = (ds ++ [v]) ++ List.replicate k 0 := by
  rw [List.set_append_right _ _ (Nat.le_refl _)]
  simp [List.replicate_succ]
theorem add_step {X Y D P x y c : Nat} (h : D + P * c = X + Y) : (D + P * ((x + y + c) % 4294967296)) + (P * 4294967296) * ((x + y + c) / 4294967296) = (X + P * x) + (Y + P * y) := by
  have h1 := Nat.div_add_mod (x + y + c) 4294967296
  have h2 : P * ((x + y + c) % 4294967296) + (P * 4294967296) * ((x + y + c) / 4294967296) = P * (x + y + c) := by
    rw [Nat.mul_assoc, ← Nat.mul_add]; congr 1; omega
  rw [Nat.mul_add, Nat.mul_add] at h2
  omega
end Nat32
