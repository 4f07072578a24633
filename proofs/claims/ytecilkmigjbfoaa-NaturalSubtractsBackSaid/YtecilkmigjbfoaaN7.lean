import Derived.Test.YtecilkmigjbfoaaN6
set_option linter.unusedSimpArgs false
set_option linter.unusedVariables false
namespace Nat32
open Go Go.Dat
theorem nv_rep (n : Nat) : nv (List.replicate n 0) = 0 := by
  induction n with
  | zero => rfl
  | succ n ih => rw [List.replicate_succ, nv, ih]
theorem nv_rep_app (n : Nat) (q : List Nat) : nv (List.replicate n 0 ++ q) = 4294967296 ^ n * nv q := by
  rw [nv_app, nv_rep, List.length_replicate]; omega
theorem mul_le {a v : Nat} (h1 : a < 4294967296) (h2 : v < 4294967296) : a * v ≤ 18446744065119617025 := by
  have := Nat.mul_le_mul (show a ≤ 4294967295 by omega) (show v ≤ 4294967295 by omega)
  omega
theorem mul_w {a v : Nat} (h1 : a < 4294967296) (h2 : v < 4294967296) : IntKind.u64.wrap ((a : Int) * (v : Int)) = ((a * v : Nat) : Int) := by
  have := mul_le h1 h2
  rw [mul_nat]
  generalize a * v = p at this ⊢
  exact wu64 (by omega) (by omega)
theorem mul_w2 {a v c : Nat} (h1 : a < 4294967296) (h2 : v < 4294967296) (h3 : c < 4294967296) : IntKind.u64.wrap (((a * v : Nat) : Int) + (c : Int)) = ((a * v + c : Nat) : Int) := by
  have := mul_le h1 h2
  generalize a * v = p at this ⊢
  rw [wu64 (by omega) (by omega)]; omega
theorem mul_step {D P T a v c : Nat} (h : D + P * c = T * v) : (D + P * ((a * v + c) % 4294967296)) + (P * 4294967296) * ((a * v + c) / 4294967296) = (T + P * a) * v := by
  have h1 := Nat.div_add_mod (a * v + c) 4294967296
  have h2 : P * ((a * v + c) % 4294967296) + (P * 4294967296) * ((a * v + c) / 4294967296) = P * (a * v + c) := by
    rw [Nat.mul_assoc, ← Nat.mul_add]; congr 1; omega
  rw [Nat.mul_add] at h2
  rw [Nat.add_mul, Nat.mul_assoc P a v, ← h]
  omega
theorem mul_div_lt {a v c : Nat} (h1 : a < 4294967296) (h2 : v < 4294967296) (h3 : c < 4294967296) : (a * v + c) / 4294967296 < 4294967296 := by
  have := mul_le h1 h2
  generalize a * v = p at this ⊢
  omega
theorem mul_lt_pow {x v n : Nat} (h1 : x < 4294967296 ^ n) (h2 : v < 4294967296) : x * v < 4294967296 ^ (n + 1) := by
  rw [Nat.pow_succ]
  exact Nat.mul_lt_mul_of_lt_of_le h1 (by omega) (Nat.pos_of_ne_zero (by intro h; omega))
theorem len_mul {x y m n : Nat} (h1 : (limbs x).length ≤ m) (h2 : (limbs y).length ≤ n) : (limbs (x * y)).length ≤ m + n := by
  rw [limbs_len] at h1 h2 ⊢
  rw [Nat.pow_add]
  exact Nat.mul_lt_mul_of_lt_of_le h1 (Nat.le_of_lt h2) (Nat.pos_of_ne_zero (by intro h; rw [h] at h2; omega))
theorem c_zero {N P c : Nat} (h : N + P * c < P) : c = 0 := by
  rcases Nat.eq_zero_or_pos c with e | e
  · exact e
  · have := Nat.mul_le_mul_left P e
    rw [Nat.mul_one] at this
    omega
end Nat32
