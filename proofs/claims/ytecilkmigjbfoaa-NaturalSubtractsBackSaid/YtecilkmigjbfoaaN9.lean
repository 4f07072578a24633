import Derived.Test.YtecilkmigjbfoaaN8
set_option linter.unusedSimpArgs false
set_option linter.unusedVariables false
namespace Nat32
open Go Go.Dat
theorem nv_set {l : List Nat} {k v : Nat} (h : k < l.length) : nv (l.set k v) + 4294967296 ^ k * l.getD k 0 = nv l + 4294967296 ^ k * v := by
  induction l generalizing k with
  | nil => simp at h
  | cons x l ih =>
    cases k with
    | zero => simp only [List.set_cons_zero, nv, List.getD_cons_zero, Nat.pow_zero, Nat.one_mul]; omega
    | succ k =>
      have := ih (k := k) (by simpa using h)
      simp only [List.set_cons_succ, nv, List.getD_cons_succ, Nat.pow_succ]
      have e1 : 4294967296 ^ k * 4294967296 * l.getD k 0 = 4294967296 * (4294967296 ^ k * l.getD k 0) := by
        rw [Nat.mul_comm (4294967296 ^ k) 4294967296, Nat.mul_assoc]
      have e2 : 4294967296 ^ k * 4294967296 * v = 4294967296 * (4294967296 ^ k * v) := by
        rw [Nat.mul_comm (4294967296 ^ k) 4294967296, Nat.mul_assoc]
      rw [e1, e2]; omega
theorem lim_set {l : List Nat} {k v : Nat} (h : lim l) (hv : v < 4294967296) : lim (l.set k v) := by
  intro z hz
  rcases List.mem_or_eq_of_mem_set hz with e | e
  · exact h z e
  · rw [e]; exact hv
theorem getD_set_ne' {l : List Nat} {j k v : Nat} (h : k ≠ j) : (l.set k v).getD j 0 = l.getD j 0 := by
  rw [List.getD_eq_getElem?_getD, List.getD_eq_getElem?_getD, List.getElem?_set_ne h]
/-- One limb of a product, laid over what lies there. -/
theorem mac_w {a v c o : Nat} (h1 : a < 4294967296) (h2 : v < 4294967296) (h3 : c < 4294967296) (h4 : o < 4294967296) : a * v + o + c < 18446744073709551616 ∧ (a * v + o + c) / 4294967296 < 4294967296 := by
  have := mul_le h1 h2
  generalize a * v = p at this ⊢
  omega
/-- The inner loop's step: 'P' is the place's weight, 'Q' the row's, 'T' what the row has so far. -/
theorem mac_step {D E P R c o s : Nat} (h : D + P * c = R) (hs : E + P * o = D + P * (s % 4294967296)) {av : Nat} (hq : s = av + o + c) : E + P * 4294967296 * (s / 4294967296) = R + P * av := by
  have h1 := Nat.div_add_mod s 4294967296
  have h2 : P * (s % 4294967296) + P * 4294967296 * (s / 4294967296) = P * s := by
    rw [Nat.mul_assoc, ← Nat.mul_add]; congr 1; omega
  have h3 : P * s = P * av + P * o + P * c := by rw [hq, Nat.mul_add, Nat.mul_add]
  omega
end Nat32
