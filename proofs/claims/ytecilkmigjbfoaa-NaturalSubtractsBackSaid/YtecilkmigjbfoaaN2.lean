/- Limbs as data; orders of numbers by limbs. No program in sight. -/
import Derived.Test.YtecilkmigjbfoaaDat19
import Derived.Test.YtecilkmigjbfoaaN1
set_option linter.unusedSimpArgs false
set_option linter.unusedVariables false
namespace Nat32
open Go Go.Dat

def u32 (n : Nat) : DV := .int .u32 n
def us (xs : List Nat) : List DV := xs.map u32
theorem us_length (xs : List Nat) : (us xs).length = xs.length := by simp [us]
theorem us_getD {xs : List Nat} {k : Nat} (h : k < xs.length) : (us xs).getD k .undef = .int .u32 (xs.getD k 0 : Nat) := by
  simp [us, List.getD_eq_getElem?_getD, List.getElem?_map, List.getElem?_eq_getElem h, u32]
theorem us_take (xs : List Nat) (k : Nat) : (us xs).take k = us (xs.take k) := by simp [us, List.map_take]
theorem us_drop (xs : List Nat) (k : Nat) : (us xs).drop k = us (xs.drop k) := by simp [us, List.map_drop]
theorem us_nil : us [] = [] := rfl
theorem us_rf (xs : List Nat) : (us xs).all DV.rf = true := by simp [us, u32, DV.rf]
theorem us_one (xs : List Nat) : (∀ d ∈ us xs, d.one = true) = True := by simp [us, u32, DV.one]
theorem us_purge (o : Nat) (xs : List Nat) : (us xs).map (purge o) = us xs := by simp [us, u32, purge_int]
theorem us_set (xs : List Nat) (k n : Nat) : (us xs).set k (.int .u32 n) = us (xs.set k n) := by simp [us, u32, List.map_set]
theorem us_rep (n : Nat) : rep n [DV.int .u32 0] = us (List.replicate n 0) := by simp [us, u32, rep]
theorem us_app (xs ys : List Nat) : us xs ++ us ys = us (xs ++ ys) := by simp [us]
theorem us2 (x y : Nat) : [DV.int .u32 x, DV.int .u32 y] = us [x, y] := rfl
theorem us1 (x : Nat) : [DV.int .u32 x] = us [x] := rfl

theorem frz_us {o len : Nat} {q : List Nat} (h : len = q.length) : frz o (us q) (.osl 1 o 0 len) = .sl 1 (us q) := by
  subst h
  rw [frz_osl_eq o (us q) 0 q.length (by decide) (by simp [us_length])]
  simp [← us_length]

def cmpN (x y : Nat) : Int := if x < y then -1 else if y < x then 1 else 0
theorem cmp_len_lt {x y : Nat} (h : (limbs x).length < (limbs y).length) : x < y := by
  have h1 : ¬ (limbs y).length ≤ (limbs x).length := by omega
  rw [limbs_len] at h1
  have h2 := limbs_len.1 (Nat.le_refl (limbs x).length)
  omega
theorem nv_split {a : List Nat} {m : Nat} (h : m < a.length) : nv a = nv (a.take m) + 4294967296 ^ m * (a.getD m 0 + 4294967296 * nv (a.drop (m + 1))) := by
  have e : a = a.take m ++ (a.getD m 0 :: a.drop (m + 1)) := by
    rw [List.getD_eq_getElem?_getD, List.getElem?_eq_getElem h]; simp
  have := nv_app (a.take m) (a.getD m 0 :: a.drop (m + 1))
  rw [← e, List.length_take, Nat.min_eq_left (by omega)] at this
  rw [this]; rfl
theorem nv_lt_of {a b : List Nat} {m : Nat} (ha : lim a) (hma : m < a.length) (hmb : m < b.length) (hd : a.drop (m + 1) = b.drop (m + 1)) (h : a.getD m 0 < b.getD m 0) : nv a < nv b := by
  rw [nv_split hma, nv_split hmb, hd]
  have h1 := nv_lt (lim_take ha m)
  rw [List.length_take, Nat.min_eq_left (by omega)] at h1
  have h2 : 4294967296 ^ m * (a.getD m 0 + 4294967296 * nv (b.drop (m + 1)) + 1) ≤ 4294967296 ^ m * (b.getD m 0 + 4294967296 * nv (b.drop (m + 1))) := Nat.mul_le_mul_left _ (by omega)
  rw [Nat.mul_add, Nat.mul_one] at h2
  omega
theorem drop_step {a b : List Nat} {m : Nat} (hma : m < a.length) (hmb : m < b.length) (hd : a.drop (m + 1) = b.drop (m + 1)) (h : a.getD m 0 = b.getD m 0) : a.drop m = b.drop m := by
  rw [List.drop_eq_getElem_cons hma, List.drop_eq_getElem_cons hmb, hd]
  congr 1
  rw [List.getD_eq_getElem?_getD, List.getElem?_eq_getElem hma, List.getD_eq_getElem?_getD, List.getElem?_eq_getElem hmb] at h
  exact h
theorem cmp_of_ne {x y : Nat} (h : (limbs x).length ≠ (limbs y).length) : cmpN x y = if (limbs x).length < (limbs y).length then -1 else 1 := by
  unfold cmpN
  by_cases h1 : (limbs x).length < (limbs y).length
  · rw [if_pos (cmp_len_lt h1), if_pos h1]
  · have := cmp_len_lt (x := y) (y := x) (by omega)
    rw [if_neg (by omega), if_pos this, if_neg h1]
theorem take_step {a b : List Nat} {n : Nat} (hna : n < a.length) (hnb : n < b.length) (ht : a.take n = b.take n) (h : a.getD n 0 = b.getD n 0) : a.take (n + 1) = b.take (n + 1) := by
  rw [take_succ_getD hna, take_succ_getD hnb, ht, h]
end Nat32
