/- Lemmas of the walk; no conditions beyond those that each states. -/
import Derived.OpenShut
import Derived.Below
import Derived.Lib.SmallJoins
import Derived.Lib.ItoaNum
import Derived.Lib.Repeat
import Derived.Lib.Bytealg
import Derived.Lib.IndexAny
import Derived.Lib.TrimByte
import Derived.Lib.Strings
import Derived.Lib.SplitLaws
import Derived.ShutString
import Derived.Test.YtjfedgpbedppeaaGreatDoorD2
set_option linter.unusedSimpArgs false
set_option linter.unusedVariables false
set_option linter.unnecessarySimpa false
set_option maxHeartbeats 4000000
namespace Nat32
def B : Nat := 4294967296
def nv : List Nat → Nat
 | [] => 0
 | x :: r => x + 4294967296 * nv r
def limbs (n : Nat) : List Nat := if h : n = 0 then [] else (n % 4294967296) :: limbs (n / 4294967296)
 termination_by n
 decreasing_by omega
def lim (a : List Nat) : Prop := ∀ x ∈ a, x < 4294967296
def vld (a : List Nat) : Bool := decide (a.length = 0 ∨ a.getD (a.length - 1) 0 ≠ 0)
def val (a : List Nat) : List Nat := if vld a then a else []
def trimN (a : List Nat) : Nat → Nat
 | 0 => 0
 | n + 1 => if a.getD n 0 = 0 then trimN a n else n + 1
def trimL (a : List Nat) : List Nat := a.take (trimN a a.length)
theorem limbs_zero : limbs 0 = [] := by rw [limbs]; simp
theorem limbs_pos {n : Nat} (h : n ≠ 0) : limbs n = (n % 4294967296) :: limbs (n / 4294967296) := by rw [limbs]; simp [h]
theorem limbs_eq_nil {n : Nat} : limbs n = [] ↔ n = 0 := by
 constructor
 ·intro h; rcases Nat.eq_zero_or_pos n with e | e
  ·exact e
  ·rw [limbs_pos (by omega)] at h; cases h
 ·rintro rfl; exact limbs_zero
theorem nv_limbs (n : Nat) : nv (limbs n) = n := by
 induction n using Nat.strongRecOn with
 | _ n ih =>
  by_cases h : n = 0
  ·subst h; rw [limbs_zero]; rfl
  ·rw [limbs_pos h, nv, ih _ (by omega)]; omega
theorem lim_limbs (n : Nat) : lim (limbs n) := by
 induction n using Nat.strongRecOn with
 | _ n ih =>
  by_cases h : n = 0
  ·subst h; rw [limbs_zero]; intro x hx; cases hx
  ·rw [limbs_pos h]
   intro x hx
   rcases List.mem_cons.1 hx with e | e
   ·subst e; omega
   ·exact ih _ (by omega) x e
theorem lim_nil : lim [] := by intro x hx; cases hx
theorem lim_cons {x : Nat} {r : List Nat} : lim (x :: r) ↔ x < 4294967296 ∧ lim r := by
 constructor
 ·intro h; exact ⟨h x (by simp), fun y hy => h y (by simp [hy])⟩
 ·rintro ⟨h1, h2⟩ y hy
  rcases List.mem_cons.1 hy with e | e
  ·subst e; exact h1
  ·exact h2 y e
theorem lim_take {a : List Nat} (h : lim a) (n : Nat) : lim (a.take n) := fun x hx => h x (List.mem_of_mem_take hx)
theorem lim_getD {a : List Nat} (h : lim a) (k : Nat) : a.getD k 0 < 4294967296 := by
 rw [List.getD_eq_getElem?_getD]
 cases e : a[k]? with
 | none => simp
 | some x => exact h x (List.mem_of_getElem? e)
theorem vld_cons {x y : Nat} {r : List Nat} : vld (x :: y :: r) = vld (y :: r) := by
 unfold vld
 simp [List.getD_eq_getElem?_getD]
theorem limbs_nv {a : List Nat} (hl : lim a) (hv : vld a = true) : limbs (nv a) = a := by
 induction a with
 | nil => exact limbs_zero
 | cons x r ih =>
  obtain ⟨hx, hr⟩ := lim_cons.1 hl
  cases r with
  | nil =>
   have : x ≠ 0 := by simpa [vld] using hv
   simp only [nv, Nat.mul_zero, Nat.add_zero]
   rw [limbs_pos this, Nat.mod_eq_of_lt hx, Nat.div_eq_of_lt hx, limbs_zero]
  | cons y r =>
   rw [vld_cons] at hv
   have h := ih hr hv
   have hne : nv (y :: r) ≠ 0 := by
    intro e; rw [e, limbs_zero] at h; cases h
   rw [nv, limbs_pos (by omega)]
   have e1 : (x + 4294967296 * nv (y :: r)) % 4294967296 = x := by omega
   have e2 : (x + 4294967296 * nv (y :: r)) / 4294967296 = nv (y :: r) := by omega
   rw [e1, e2, h]
theorem nv_app (a b : List Nat) : nv (a ++ b) = nv a + 4294967296 ^ a.length * nv b := by
 induction a with
 | nil => simp [nv]
 | cons x a ih =>
  simp only [List.cons_append, nv, ih, List.length_cons, Nat.pow_succ, Nat.mul_add]
  rw [← Nat.mul_assoc, Nat.mul_comm (4294967296 ^ a.length) 4294967296]
  omega
theorem take_succ_getD {a : List Nat} {n : Nat} (h : n < a.length) : a.take (n + 1) = a.take n ++ [a.getD n 0] := by
 rw [List.take_succ_eq_append_getElem h, List.getD_eq_getElem?_getD, List.getElem?_eq_getElem h]; rfl
theorem nv_take_succ {a : List Nat} {n : Nat} (h : n < a.length) : nv (a.take (n + 1)) = nv (a.take n) + 4294967296 ^ n * a.getD n 0 := by
 rw [take_succ_getD h, nv_app]
 rw [List.length_take, Nat.min_eq_left (by omega)]; simp [nv]
theorem trimN_le (a : List Nat) : ∀ n, trimN a n ≤ n
 | 0 => Nat.le_refl _
 | n + 1 => by
  have := trimN_le a n
  simp only [trimN]; split <;> omega
theorem trimN_spec (a : List Nat) : ∀ n, n ≤ a.length → nv (a.take (trimN a n)) = nv (a.take n) ∧ vld (a.take (trimN a n)) = true
 | 0, _ => by simp [trimN, nv, vld]
 | n + 1, h => by
  simp only [trimN]
  split
  ·rename_i h0
   obtain ⟨h1, h2⟩ := trimN_spec a n (by omega)
   refine ⟨?_, h2⟩
   rw [h1, nv_take_succ (by omega), h0]; omega
  ·rename_i h0
   refine ⟨rfl, ?_⟩
   unfold vld
   rw [take_succ_getD (by omega)]
   simp only [decide_eq_true_eq]
   right
   have hl : (a.take n).length = n := by simp; omega
   simp only [List.length_append, hl, List.length_singleton, Nat.add_sub_cancel]
   rw [List.getD_eq_getElem?_getD, List.getElem?_append_right (by omega), hl]
   simpa using h0
theorem trimL_limbs {a : List Nat} (hl : lim a) : trimL a = limbs (nv a) := by
 obtain ⟨h1, h2⟩ := trimN_spec a a.length (Nat.le_refl _)
 rw [List.take_length] at h1
 have := limbs_nv (lim_take hl (trimN a a.length)) h2
 rw [h1] at this
 exact this.symm
theorem lim_val {a : List Nat} (h : lim a) : lim (val a) := by unfold val; split; exact h; exact lim_nil
theorem vld_val (a : List Nat) : vld (val a) = true := by
 unfold val
 by_cases h : vld a = true
 ·rw [if_pos h]; exact h
 ·rw [if_neg h]; rfl
def vn (a : List Nat) : Nat := nv (val a)
theorem val_limbs {a : List Nat} (h : lim a) : val a = limbs (vn a) := (limbs_nv (lim_val h) (vld_val a)).symm
theorem val_len (a : List Nat) : (val a).length ≤ a.length := by unfold val; split <;> simp
theorem vld_limbs (n : Nat) : vld (limbs n) = true := by
 have : ∀ n, ∀ k, k ≤ n → vld (limbs k) = true := by
  intro n
  induction n with
  | zero => intro k hk; have : k = 0 := by omega
            subst this; rw [limbs_zero]; rfl
  | succ n ih =>
   intro k hk
   by_cases h : k = 0
   ·subst h; rw [limbs_zero]; rfl
   ·rw [limbs_pos h]
    by_cases h2 : k / 4294967296 = 0
    ·rw [h2, limbs_zero]
     have : k % 4294967296 ≠ 0 := by omega
     simp [vld, this]
    ·have := ih (k / 4294967296) (by omega)
     rw [limbs_pos h2] at this ⊢
     rw [vld_cons]; exact this
 exact this n n (Nat.le_refl _)
theorem vn_limbs (n : Nat) : vn (limbs n) = n := by rw [vn, val, vld_limbs, if_pos rfl, nv_limbs]
theorem limbs_inj {m n : Nat} (h : limbs m = limbs n) : m = n := by rw [← nv_limbs m, h, nv_limbs]
theorem nv_lt {a : List Nat} (h : lim a) : nv a < 4294967296 ^ a.length := by
 induction a with
 | nil => simp [nv]
 | cons x r ih =>
  obtain ⟨hx, hr⟩ := lim_cons.1 h
  have := ih hr
  simp only [nv, List.length_cons, Nat.pow_succ]
  omega
theorem limbs_len {n k : Nat} : (limbs n).length ≤ k ↔ n < 4294967296 ^ k := by
 constructor
 ·intro h
  have := nv_lt (lim_limbs n)
  rw [nv_limbs] at this
  exact Nat.lt_of_lt_of_le this (Nat.pow_le_pow_right (by decide) h)
 ·intro h
  induction k generalizing n with
  | zero => have : n = 0 := by simpa using h
            subst this; rw [limbs_zero]; simp
  | succ k ih =>
   by_cases h0 : n = 0
   ·subst h0; rw [limbs_zero]; simp
   ·rw [limbs_pos h0]
    have := ih (n := n / 4294967296) (by rw [Nat.div_lt_iff_lt_mul (by decide), ← Nat.pow_succ]; exact h)
    simp only [List.length_cons]; omega
end Nat32
namespace Nat32
open Go Go.Dat
def u32 (n : Nat) : DV := .int .u32 n
def us (xs : List Nat) : List DV := xs.map u32
theorem us_length (xs : List Nat) : (us xs).length = xs.length := by simp [us]
theorem us_getD {xs : List Nat} {k : Nat} (h : k < xs.length) : (us xs).getD k .undef = .int .u32 (xs.getD k 0 : Nat) := by
 simp [us, List.getD_eq_getElem?_getD, List.getElem?_map, List.getElem?_eq_getElem h, u32]
theorem us_take (xs : List Nat) (k : Nat) : (us xs).take k = us (xs.take k) := by simp [us, List.map_take]
theorem us_nil : us [] = [] := rfl
theorem us_rf (xs : List Nat) : (us xs).all DV.rf = true := by simp [us, u32, DV.rf]
theorem us_one (xs : List Nat) : (∀ d ∈ us xs, d.one = true) = True := by simp [us, u32, DV.one]
theorem us_purge (o : Nat) (xs : List Nat) : (us xs).map (purge o) = us xs := by simp [us, u32, purge_int]
theorem us_set (xs : List Nat) (k n : Nat) : (us xs).set k (.int .u32 n) = us (xs.set k n) := by simp [us, u32, List.map_set]
theorem us_rep (n : Nat) : rep n [DV.int .u32 0] = us (List.replicate n 0) := by simp [us, u32, rep]
theorem us_app (xs ys : List Nat) : us xs ++ us ys = us (xs ++ ys) := by simp [us]
theorem us2 (x y : Nat) : [DV.int .u32 x, DV.int .u32 y] = us [x, y] := rfl
theorem frz_us {o len : Nat} {q : List Nat} (h : len = q.length) : frz o (us q) (.osl 1 o 0 len) = .sl 1 (us q) := by
 subst h
 rw [frz_osl_eq o (us q) 0 q.length (by decide) (by simp [us_length])]
 simp [← us_length]
def cmpN (x y : Nat) : Int := if x < y then -1 else if y < x then 1 else 0
theorem cmp_len_lt {x y : Nat} (h : (limbs x).length < (limbs y).length) : x < y := by
 have h1 : ¬ (limbs y).length ≤ (limbs x).length := by omega
 rw [limbs_len] at h1
 have h2 := limbs_len.1 (Nat.le_refl (limbs x).length)
 omega
theorem nv_split {a : List Nat} {m : Nat} (h : m < a.length) : nv a = nv (a.take m) + 4294967296 ^ m * (a.getD m 0 + 4294967296 * nv (a.drop (m + 1))) := by
 have e : a = a.take m ++ (a.getD m 0 :: a.drop (m + 1)) := by
  rw [List.getD_eq_getElem?_getD, List.getElem?_eq_getElem h]; simp
 have := nv_app (a.take m) (a.getD m 0 :: a.drop (m + 1))
 rw [← e, List.length_take, Nat.min_eq_left (by omega)] at this
 rw [this]; rfl
theorem nv_lt_of {a b : List Nat} {m : Nat} (ha : lim a) (hma : m < a.length) (hmb : m < b.length) (hd : a.drop (m + 1) = b.drop (m + 1)) (h : a.getD m 0 < b.getD m 0) : nv a < nv b := by
 rw [nv_split hma, nv_split hmb, hd]
 have h1 := nv_lt (lim_take ha m)
 rw [List.length_take, Nat.min_eq_left (by omega)] at h1
 have h2 : 4294967296 ^ m * (a.getD m 0 + 4294967296 * nv (b.drop (m + 1)) + 1) ≤ 4294967296 ^ m * (b.getD m 0 + 4294967296 * nv (b.drop (m + 1))) := Nat.mul_le_mul_left _ (by omega)
 rw [Nat.mul_add, Nat.mul_one] at h2
 omega
theorem drop_step {a b : List Nat} {m : Nat} (hma : m < a.length) (hmb : m < b.length) (hd : a.drop (m + 1) = b.drop (m + 1)) (h : a.getD m 0 = b.getD m 0) : a.drop m = b.drop m := by
 rw [List.drop_eq_getElem_cons hma, List.drop_eq_getElem_cons hmb, hd]
 congr 1
 rw [List.getD_eq_getElem?_getD, List.getElem?_eq_getElem hma, List.getD_eq_getElem?_getD, List.getElem?_eq_getElem hmb] at h
 exact h
theorem cmp_of_ne {x y : Nat} (h : (limbs x).length ≠ (limbs y).length) : cmpN x y = if (limbs x).length < (limbs y).length then -1 else 1 := by
 unfold cmpN
 by_cases h1 : (limbs x).length < (limbs y).length
 ·rw [if_pos (cmp_len_lt h1), if_pos h1]
 ·have := cmp_len_lt (x := y) (y := x) (by omega)
  rw [if_neg (by omega), if_pos this, if_neg h1]
theorem take_step {a b : List Nat} {n : Nat} (hna : n < a.length) (hnb : n < b.length) (ht : a.take n = b.take n) (h : a.getD n 0 = b.getD n 0) : a.take (n + 1) = b.take (n + 1) := by
 rw [take_succ_getD hna, take_succ_getD hnb, ht, h]
end Nat32
namespace Go.Dat
open Go
theorem or_nat64 (a b : Nat) (ha : a < 18446744073709551616) (hb : b < 18446744073709551616) : bitE .or .u64 (a : Int) (b : Int) = ((a ||| b : Nat) : Int) := by
 unfold bitE
 have e1 : (BitVec.ofInt IntKind.u64.bits (a : Int)).toNat = a := by
  rw [BitVec.ofInt_natCast, BitVec.toNat_ofNat]
  exact Nat.mod_eq_of_lt ha
 have e2 : (BitVec.ofInt IntKind.u64.bits (b : Int)).toNat = b := by
  rw [BitVec.ofInt_natCast, BitVec.toNat_ofNat]
  exact Nat.mod_eq_of_lt hb
 simp only [BitVec.toNat_or, e1, e2]
 rw [IntKind.wrap_u64]
 have : a ||| b < 2 ^ 64 := Nat.or_lt_two_pow (by simpa using ha) (by simpa using hb)
 omega
theorem or_add {h x : Nat} (hx : x < 4294967296) : (4294967296 * h) ||| x = 4294967296 * h + x := by
 have := Nat.two_pow_add_eq_or_of_lt (i := 32) (b := x) hx h
 simpa using this.symm
theorem or32 {h x : Nat} (hx : x < 4294967296) (hs : 4294967296 * h + x < 18446744073709551616) :
  bitE .or .u64 ((h : Int) * 2 ^ min (Int.toNat 32) IntKind.u64.bits % 18446744073709551616) ((x : Int) % 18446744073709551616) = ((4294967296 * h + x : Nat) : Int) := by
 have e : (2 ^ min (Int.toNat 32) IntKind.u64.bits : Int) = ((4294967296 : Nat) : Int) := by decide
 rw [e, show (h : Int) * ((4294967296 : Nat) : Int) % 18446744073709551616 = ((4294967296 * h : Nat) : Int) by omega, show (x : Int) % 18446744073709551616 = (x : Int) by omega, or_nat64 _ _ (by omega) (by omega), or_add hx]
end Go.Dat
namespace Nat32
theorem lim_drop {a : List Nat} (h : lim a) (n : Nat) : lim (a.drop n) := fun x hx => h x (List.mem_of_mem_drop hx)
theorem nv_drop {a : List Nat} {m : Nat} (h : m < a.length) : nv (a.drop m) = a.getD m 0 + 4294967296 * nv (a.drop (m + 1)) := by
 rw [List.drop_eq_getElem_cons h, List.getD_eq_getElem?_getD, List.getElem?_eq_getElem h]; rfl
theorem nv_drop2 {a : List Nat} (h : lim a) (hl : a.length ≤ 2) (m : Nat) : nv (a.drop m) < 18446744073709551616 := by
 have h1 := nv_lt (lim_drop h m)
 have h2 : (4294967296 : Nat) ^ (a.drop m).length ≤ 4294967296 ^ 2 := Nat.pow_le_pow_right (by decide) (by simp; omega)
 omega
end Nat32
namespace Nat32
open Go Go.Dat
theorem tdiv_nat (a b : Nat) : ((a : Int)).tdiv (b : Int) = ((a / b : Nat) : Int) := (Int.ofNat_tdiv a b).symm
theorem tmod_nat (a b : Nat) : ((a : Int)).tmod (b : Int) = ((a % b : Nat) : Int) := (Int.ofNat_tmod a b).symm
theorem set_rep (m q : Nat) (ds : List Nat) : (List.replicate (m + 1) 0 ++ ds).set m q = List.replicate m 0 ++ (q :: ds) := by
 induction m with
 | zero => rfl
 | succ m ih => rw [List.replicate_succ, List.cons_append, List.set_cons_succ, ih]; rfl
theorem div_lt {hi lo y : Nat} (h1 : hi < y) (h2 : lo < 4294967296) : (4294967296 * hi + lo) / y < 4294967296 := by
 rw [Nat.div_lt_iff_lt_mul (by omega)]
 have : 4294967296 * (hi + 1) ≤ 4294967296 * y := Nat.mul_le_mul_left _ h1
 omega
theorem div_step {N d x : Nat} (hd : 0 < d) : (x + 4294967296 * N) / d = (4294967296 * (N % d) + x) / d + 4294967296 * (N / d) ∧ (x + 4294967296 * N) % d = (4294967296 * (N % d) + x) % d := by
 have h : x + 4294967296 * N = (4294967296 * (N % d) + x) + d * (4294967296 * (N / d)) := by
  have := Nat.div_add_mod N d
  have e : d * (4294967296 * (N / d)) = 4294967296 * (d * (N / d)) := by
   rw [← Nat.mul_assoc, Nat.mul_comm d, Nat.mul_assoc]
  rw [e]; omega
 rw [h]
 exact ⟨by rw [Nat.add_mul_div_left _ _ hd], by rw [Nat.add_mul_mod_self_left]⟩
theorem limbs_one {x : Nat} (h0 : x ≠ 0) (h : x < 4294967296) : limbs x = [x] := by
 rw [limbs_pos h0, Nat.mod_eq_of_lt h, Nat.div_eq_of_lt h, limbs_zero]
theorem nv_take_succ' {a : List Nat} (n : Nat) : nv (a.take (n + 1)) = nv (a.take n) + 4294967296 ^ n * a.getD n 0 := by
 by_cases h : n < a.length
 ·exact nv_take_succ h
 ·rw [List.take_of_length_le (by omega), List.take_of_length_le (by omega)]
  have : a.getD n 0 = 0 := by rw [List.getD_eq_getElem?_getD, List.getElem?_eq_none (by omega)]; rfl
  rw [this]; omega
theorem set_app (k v : Nat) (ds : List Nat) : (ds ++ List.replicate (k + 1) 0).set ds.length v = (ds ++ [v]) ++ List.replicate k 0 := by
 rw [List.set_append_right _ _ (Nat.le_refl _)]
 simp [List.replicate_succ]
theorem add_step {X Y D P x y c : Nat} (h : D + P * c = X + Y) : (D + P * ((x + y + c) % 4294967296)) + (P * 4294967296) * ((x + y + c) / 4294967296) = (X + P * x) + (Y + P * y) := by
 have h1 := Nat.div_add_mod (x + y + c) 4294967296
 have h2 : P * ((x + y + c) % 4294967296) + (P * 4294967296) * ((x + y + c) / 4294967296) = P * (x + y + c) := by
  rw [Nat.mul_assoc, ← Nat.mul_add]; congr 1; omega
 rw [Nat.mul_add, Nat.mul_add] at h2
 omega
def oap (o : Nat) : List Nat → DV
 | [] => .nils
 | x :: r => .osl 1 o 0 (r.length + 1)
def hap (o : Nat) : List Nat → Hp
 | [] => []
 | x :: r => [(o, us (x :: r))]
theorem one1 (k : IntKind) (n : Int) : (∀ d ∈ [DV.int k n], d.one = true) = True := by simp [DV.one]
theorem rf1 (k : IntKind) (n : Int) : (∀ d ∈ [DV.int k n], d.rf = true) = True := by simp [DV.rf]
theorem us_snoc (q : List Nat) (x : Nat) : us q ++ [DV.int .u32 x] = us (q ++ [x]) := by simp [us, u32]
theorem bit31 {v : Nat} (h : v < 4294967296) : v / 2147483648 = (v.testBit 31).toNat := by
 rw [Nat.testBit_eq_decide_div_mod_eq]
 have : v / 2 ^ 31 % 2 = v / 2147483648 := by omega
 rw [this]
 have h2 : v / 2147483648 = 0 ∨ v / 2147483648 = 1 := by omega
 rcases h2 with e | e <;> rw [e] <;> rfl
theorem ofInt32 (a : Nat) (ha : a < 4294967296) : (BitVec.ofInt IntKind.u32.bits (a : Int)).toNat = a := by
 rw [BitVec.ofInt_natCast, BitVec.toNat_ofNat]; exact Nat.mod_eq_of_lt ha
theorem and_nat32 (a b : Nat) (ha : a < 4294967296) (hb : b < 4294967296) : bitE .and .u32 (a : Int) (b : Int) = ((a &&& b : Nat) : Int) := by
 unfold bitE
 simp only [BitVec.toNat_and, ofInt32 a ha, ofInt32 b hb]
 rw [IntKind.wrap_u32]
 have : a &&& b < 2 ^ 32 := Nat.and_lt_two_pow _ (by simpa using hb)
 omega
theorem or_nat32 (a b : Nat) (ha : a < 4294967296) (hb : b < 4294967296) : bitE .or .u32 (a : Int) (b : Int) = ((a ||| b : Nat) : Int) := by
 unfold bitE
 simp only [BitVec.toNat_or, ofInt32 a ha, ofInt32 b hb]
 rw [IntKind.wrap_u32]
 have : a ||| b < 2 ^ 32 := Nat.or_lt_two_pow (by simpa using ha) (by simpa using hb)
 omega
theorem xor_nat32 (a b : Nat) (ha : a < 4294967296) (hb : b < 4294967296) : bitE .xor .u32 (a : Int) (b : Int) = ((a ^^^ b : Nat) : Int) := by
 unfold bitE
 simp only [BitVec.toNat_xor, ofInt32 a ha, ofInt32 b hb]
 rw [IntKind.wrap_u32]
 have : a ^^^ b < 2 ^ 32 := Nat.xor_lt_two_pow (by simpa using ha) (by simpa using hb)
 omega
theorem not_nat32 (a : Nat) (ha : a < 4294967296) : bitE .xor .u32 4294967295 (a : Int) = ((4294967295 ^^^ a : Nat) : Int) := xor_nat32 4294967295 a (by decide) ha
def bor (x y c : Nat) : Nat := if x < y + c then 1 else 0
theorem bor_bits {x y c d : Nat} (hx : x < 4294967296) (hy : y < 4294967296) (hc : c ≤ 1) (hd : d < 4294967296) (he : d = x - y - c ∧ y + c ≤ x ∨ d + y + c = x + 4294967296 ∧ x < y + c) :
  (((4294967295 ^^^ x) &&& y) ||| ((4294967295 ^^^ (x ^^^ y)) &&& d)) / 2147483648 = bor x y c := by
 have l1 : (4294967295 ^^^ x) < 2 ^ 32 := Nat.xor_lt_two_pow (by decide) (by simpa using hx)
 have l2 : x ^^^ y < 2 ^ 32 := Nat.xor_lt_two_pow (by simpa using hx) (by simpa using hy)
 have l3 : (4294967295 ^^^ (x ^^^ y)) < 2 ^ 32 := Nat.xor_lt_two_pow (by decide) l2
 have l4 : ((4294967295 ^^^ x) &&& y) < 2 ^ 32 := Nat.and_lt_two_pow _ (by simpa using hy)
 have l5 : ((4294967295 ^^^ (x ^^^ y)) &&& d) < 2 ^ 32 := Nat.and_lt_two_pow _ (by simpa using hd)
 have l6 := Nat.or_lt_two_pow l4 l5
 rw [bit31 (by simpa using l6)]
 simp only [Nat.testBit_or, Nat.testBit_and, Nat.testBit_xor]
 have t (v : Nat) (hv : v < 4294967296) : v.testBit 31 = decide (2147483648 ≤ v) := by
  rw [Nat.testBit_eq_decide_div_mod_eq, decide_eq_decide]; omega
 rw [t x hx, t y hy, t d hd, t 4294967295 (by decide)]
 unfold bor
 by_cases h1 : 2147483648 ≤ x <;> by_cases h2 : 2147483648 ≤ y <;> by_cases h3 : 2147483648 ≤ d <;> simp [h1, h2, h3] <;> omega
end Nat32
namespace Nat32
theorem sub_step {X Y D P x y c : Nat} (hx : x < 4294967296) (hy : y < 4294967296) (hc : c ≤ 1) (h : D + Y = X + P * c) :
  (D + P * ((x + 4294967296 - y - c) % 4294967296)) + (Y + P * y) = (X + P * x) + (P * 4294967296) * (1 - (x + 4294967296 - y - c) / 4294967296) ∧ (x + 4294967296 - y - c) / 4294967296 ≤ 1 := by
 have h1 := Nat.div_add_mod (x + 4294967296 - y - c) 4294967296
 have h2 : (x + 4294967296 - y - c) / 4294967296 ≤ 1 := by omega
 refine ⟨?_, h2⟩
 generalize (x + 4294967296 - y - c) % 4294967296 = dg at h1 ⊢
 generalize hq : (x + 4294967296 - y - c) / 4294967296 = q at h1 h2 ⊢
 have h3 : dg + y + c = x + 4294967296 * (1 - q) := by omega
 have h4 : P * dg + P * y + P * c = P * x + P * 4294967296 * (1 - q) := by
  rw [Nat.mul_assoc P 4294967296, ← Nat.mul_add, ← Nat.mul_add, ← Nat.mul_add, h3]
 omega
end Nat32
namespace Nat32
open Go Go.Dat
theorem bor_expr {x y c d : Nat} (hx : x < 4294967296) (hy : y < 4294967296) (hc : c ≤ 1) (hd : d < 4294967296) (he : d = x - y - c ∧ y + c ≤ x ∨ d + y + c = x + 4294967296 ∧ x < y + c) :
  (bitE .or .u32 (bitE .and .u32 (bitE .xor .u32 4294967295 (x : Int)) (y : Int)) (bitE .and .u32 (bitE .xor .u32 4294967295 (bitE .xor .u32 (x : Int) (y : Int))) (d : Int))).fdiv (2 ^ min (Int.toNat 31) IntKind.u32.bits) = ((bor x y c : Nat) : Int) := by
 have l1 : (4294967295 ^^^ x) < 2 ^ 32 := Nat.xor_lt_two_pow (by decide) (by simpa using hx)
 have l2 : x ^^^ y < 2 ^ 32 := Nat.xor_lt_two_pow (by simpa using hx) (by simpa using hy)
 have l3 : (4294967295 ^^^ (x ^^^ y)) < 2 ^ 32 := Nat.xor_lt_two_pow (by decide) l2
 have l4 : ((4294967295 ^^^ x) &&& y) < 2 ^ 32 := Nat.and_lt_two_pow _ (by simpa using hy)
 have l5 : ((4294967295 ^^^ (x ^^^ y)) &&& d) < 2 ^ 32 := Nat.and_lt_two_pow _ (by simpa using hd)
 rw [not_nat32 x hx, and_nat32 _ y (by simpa using l1) hy, xor_nat32 x y hx hy, not_nat32 _ (by simpa using l2), and_nat32 _ d (by simpa using l3) hd, or_nat32 _ _ (by simpa using l4) (by simpa using l5)]
 have e : (2 ^ min (Int.toNat 31) IntKind.u32.bits : Int) = ((2147483648 : Nat) : Int) := by decide
 rw [e, fdiv_nat, bor_bits hx hy hc hd he]
theorem nv_rep (n : Nat) : nv (List.replicate n 0) = 0 := by
 induction n with
 | zero => rfl
 | succ n ih => rw [List.replicate_succ, nv, ih]
theorem nv_rep_app (n : Nat) (q : List Nat) : nv (List.replicate n 0 ++ q) = 4294967296 ^ n * nv q := by
 rw [nv_app, nv_rep, List.length_replicate]; omega
theorem mul_le {a v : Nat} (h1 : a < 4294967296) (h2 : v < 4294967296) : a * v ≤ 18446744065119617025 := by
 have := Nat.mul_le_mul (show a ≤ 4294967295 by omega) (show v ≤ 4294967295 by omega)
 omega
theorem mul_w {a v : Nat} (h1 : a < 4294967296) (h2 : v < 4294967296) : IntKind.u64.wrap ((a : Int) * (v : Int)) = ((a * v : Nat) : Int) := by
 have := mul_le h1 h2
 rw [mul_nat]
 generalize a * v = p at this ⊢
 exact wu64 (by omega) (by omega)
theorem mul_w2 {a v c : Nat} (h1 : a < 4294967296) (h2 : v < 4294967296) (h3 : c < 4294967296) : IntKind.u64.wrap (((a * v : Nat) : Int) + (c : Int)) = ((a * v + c : Nat) : Int) := by
 have := mul_le h1 h2
 generalize a * v = p at this ⊢
 rw [wu64 (by omega) (by omega)]; omega
theorem mul_step {D P T a v c : Nat} (h : D + P * c = T * v) : (D + P * ((a * v + c) % 4294967296)) + (P * 4294967296) * ((a * v + c) / 4294967296) = (T + P * a) * v := by
 have h1 := Nat.div_add_mod (a * v + c) 4294967296
 have h2 : P * ((a * v + c) % 4294967296) + (P * 4294967296) * ((a * v + c) / 4294967296) = P * (a * v + c) := by
  rw [Nat.mul_assoc, ← Nat.mul_add]; congr 1; omega
 rw [Nat.mul_add] at h2
 rw [Nat.add_mul, Nat.mul_assoc P a v, ← h]
 omega
theorem mul_div_lt {a v c : Nat} (h1 : a < 4294967296) (h2 : v < 4294967296) (h3 : c < 4294967296) : (a * v + c) / 4294967296 < 4294967296 := by
 have := mul_le h1 h2
 generalize a * v = p at this ⊢
 omega
theorem mul_lt_pow {x v n : Nat} (h1 : x < 4294967296 ^ n) (h2 : v < 4294967296) : x * v < 4294967296 ^ (n + 1) := by
 rw [Nat.pow_succ]
 exact Nat.mul_lt_mul_of_lt_of_le h1 (by omega) (Nat.pos_of_ne_zero (by intro h; omega))
theorem len_mul {x y m n : Nat} (h1 : (limbs x).length ≤ m) (h2 : (limbs y).length ≤ n) : (limbs (x * y)).length ≤ m + n := by
 rw [limbs_len] at h1 h2 ⊢
 rw [Nat.pow_add]
 exact Nat.mul_lt_mul_of_lt_of_le h1 (Nat.le_of_lt h2) (Nat.pos_of_ne_zero (by intro h; rw [h] at h2; omega))
theorem c_zero {N P c : Nat} (h : N + P * c < P) : c = 0 := by
 rcases Nat.eq_zero_or_pos c with e | e
 ·exact e
 ·have := Nat.mul_le_mul_left P e
  rw [Nat.mul_one] at this
  omega
theorem sub_ex {x y c : Nat} (hx : x < 4294967296) (hy : y < 4294967296) (hc : c ≤ 1) : ∃ d b, d + y + c = x + 4294967296 * b ∧ d < 4294967296 ∧ b ≤ 1 := by
 by_cases h : x < y + c
 ·obtain ⟨d, hd⟩ : ∃ d, x + 4294967296 = y + c + d := Nat.exists_eq_add_of_le (by omega)
  exact ⟨d, 1, by omega, by omega, by omega⟩
 ·obtain ⟨d, hd⟩ : ∃ d, x = y + c + d := Nat.exists_eq_add_of_le (by omega)
  exact ⟨d, 0, by omega, by omega, by omega⟩
theorem sub_wrap' {x y c d b : Nat} (hd : d + y + c = x + 4294967296 * b) (h : d < 4294967296) : IntKind.u32.wrap (IntKind.u32.wrap ((x : Int) - (y : Int)) - (c : Int)) = (d : Int) := by
 rw [IntKind.wrap_u32, IntKind.wrap_u32]; omega
theorem bor_expr' {x y c d b : Nat} (hx : x < 4294967296) (hy : y < 4294967296) (hc : c ≤ 1) (hd : d + y + c = x + 4294967296 * b) (h : d < 4294967296) (hb : b ≤ 1) :
  (bitE .or .u32 (bitE .and .u32 (bitE .xor .u32 4294967295 (x : Int)) (y : Int)) (bitE .and .u32 (bitE .xor .u32 4294967295 (bitE .xor .u32 (x : Int) (y : Int))) (d : Int))).fdiv (2 ^ min (Int.toNat 31) IntKind.u32.bits) = (b : Int) := by
 have hb2 : b = 0 ∨ b = 1 := by omega
 rw [bor_expr hx hy hc h (by omega)]
 unfold bor
 split <;> omega
theorem nv_set {l : List Nat} {k v : Nat} (h : k < l.length) : nv (l.set k v) + 4294967296 ^ k * l.getD k 0 = nv l + 4294967296 ^ k * v := by
 induction l generalizing k with
 | nil => simp at h
 | cons x l ih =>
  cases k with
  | zero => simp only [List.set_cons_zero, nv, List.getD_cons_zero, Nat.pow_zero, Nat.one_mul]; omega
  | succ k =>
   have := ih (k := k) (by simpa using h)
   simp only [List.set_cons_succ, nv, List.getD_cons_succ, Nat.pow_succ]
   have e1 : 4294967296 ^ k * 4294967296 * l.getD k 0 = 4294967296 * (4294967296 ^ k * l.getD k 0) := by
    rw [Nat.mul_comm (4294967296 ^ k) 4294967296, Nat.mul_assoc]
   have e2 : 4294967296 ^ k * 4294967296 * v = 4294967296 * (4294967296 ^ k * v) := by
    rw [Nat.mul_comm (4294967296 ^ k) 4294967296, Nat.mul_assoc]
   rw [e1, e2]; omega
theorem lim_set {l : List Nat} {k v : Nat} (h : lim l) (hv : v < 4294967296) : lim (l.set k v) := by
 intro z hz
 rcases List.mem_or_eq_of_mem_set hz with e | e
 ·exact h z e
 ·rw [e]; exact hv
theorem getD_set_ne' {l : List Nat} {j k v : Nat} (h : k ≠ j) : (l.set k v).getD j 0 = l.getD j 0 := by
 rw [List.getD_eq_getElem?_getD, List.getD_eq_getElem?_getD, List.getElem?_set_ne h]
theorem mac_w {a v c o : Nat} (h1 : a < 4294967296) (h2 : v < 4294967296) (h3 : c < 4294967296) (h4 : o < 4294967296) : a * v + o + c < 18446744073709551616 ∧ (a * v + o + c) / 4294967296 < 4294967296 := by
 have := mul_le h1 h2
 generalize a * v = p at this ⊢
 omega
theorem mac_step {D E P R c o s : Nat} (h : D + P * c = R) (hs : E + P * o = D + P * (s % 4294967296)) {av : Nat} (hq : s = av + o + c) : E + P * 4294967296 * (s / 4294967296) = R + P * av := by
 have h1 := Nat.div_add_mod s 4294967296
 have h2 : P * (s % 4294967296) + P * 4294967296 * (s / 4294967296) = P * s := by
  rw [Nat.mul_assoc, ← Nat.mul_add]; congr 1; omega
 have h3 : P * s = P * av + P * o + P * c := by rw [hq, Nat.mul_add, Nat.mul_add]
 omega
end Nat32
namespace Nat32
def dig : Nat → Nat → List Nat
 | 0, _ => []
 | k + 1, x => x % 4294967296 :: dig k (x / 4294967296)
theorem dig_length (k x : Nat) : (dig k x).length = k := by
 induction k generalizing x with
 | zero => rfl
 | succ k ih => simp [dig, ih]
theorem dig_lim (k x : Nat) : lim (dig k x) := by
 induction k generalizing x with
 | zero => exact lim_nil
 | succ k ih => rw [dig, lim_cons]; exact ⟨Nat.mod_lt _ (by decide), ih _⟩
theorem nv_dig (k x : Nat) : nv (dig k x) = x % 4294967296 ^ k := by
 induction k generalizing x with
 | zero => simp [dig, nv, Nat.mod_one]
 | succ k ih => rw [dig, nv, ih, Nat.pow_succ', Nat.mod_mul]
theorem nv_inj {a b : List Nat} (ha : lim a) (hb : lim b) (hl : a.length = b.length) (h : nv a = nv b) : a = b := by
 induction a generalizing b with
 | nil => cases b with
  | nil => rfl
  | cons y b => simp at hl
 | cons x a ih => cases b with
  | nil => simp at hl
  | cons y b =>
   obtain ⟨h1, h2⟩ := lim_cons.1 ha
   obtain ⟨h3, h4⟩ := lim_cons.1 hb
   simp only [nv] at h
   have e1 : x = y := by omega
   have e2 : nv a = nv b := by omega
   rw [e1, ih h2 h4 (by simpa using hl) e2]
theorem dig_of {a : List Nat} {k x : Nat} (h : lim a) (hl : a.length = k) (hv : nv a = x % 4294967296 ^ k) : a = dig k x :=
 nv_inj h (dig_lim _ _) (by rw [hl, dig_length]) (by rw [hv, nv_dig])
theorem nv_split_at (a : List Nat) (k : Nat) (h : k ≤ a.length) : nv a = nv (a.take k) + 4294967296 ^ k * nv (a.drop k) := by
 have := nv_app (a.take k) (a.drop k)
 rw [List.take_append_drop, List.length_take, Nat.min_eq_left h] at this
 exact this
def gq (T W : Nat) : Nat := min (T / W) 4294967295
theorem gq_lt {T W q k : Nat} (h : gq T W ≤ q) (hc : 4294967296 ≤ q ∨ T < q * W) (hW : 0 < W) (hk : q = k + 1) : gq T W ≤ k := by
 unfold gq at h ⊢
 rcases hc with h9 | h9
 ·omega
 ·have h1 : T / W < q := (Nat.div_lt_iff_lt_mul hW).2 h9
  generalize T / W = z at *
  omega
theorem lin1 {p s r u0 t B : Nat} (h1 : p + r = t) (h2 : r * B + u0 < s) : t * B + u0 < p * B + s := by
 subst h1; rw [Nat.add_mul]; omega
theorem gq_step {u2 u1 u0 v1 v0 q r : Nat} (hq : q * v1 + r = u2 * 4294967296 + u1) (hv : 0 < v1) (h : gq ((u2 * 4294967296 + u1) * 4294967296 + u0) (v1 * 4294967296 + v0) ≤ q)
  (hc : 4294967296 ≤ q ∨ r * 4294967296 + u0 < q * v0) :
  0 < q ∧ gq ((u2 * 4294967296 + u1) * 4294967296 + u0) (v1 * 4294967296 + v0) ≤ q - 1 ∧ (q - 1) * v1 + (r + v1) = u2 * 4294967296 + u1 := by
 have h0 : 0 < q := by
  rcases hc with h | h
  ·omega
  ·rcases Nat.eq_zero_or_pos q with e | e
   ·subst e; omega
   ·exact e
 obtain ⟨k, hk⟩ : ∃ k, q = k + 1 := ⟨q - 1, by omega⟩
 refine ⟨h0, ?_, ?_⟩
 ·rw [hk, Nat.add_sub_cancel]
  refine gq_lt h (hc.imp_right fun h9 => ?_) (by omega) hk
  have h2 : q * (v1 * 4294967296 + v0) = q * v1 * 4294967296 + q * v0 := by rw [Nat.mul_add, ← Nat.mul_assoc]
  exact Nat.lt_of_lt_of_eq (lin1 hq h9) h2.symm
 ·subst hk
  rw [Nat.add_mul, Nat.one_mul] at hq
  simp only [Nat.add_sub_cancel]
  omega
theorem gq_first {T W top u2 u1 u0 v1 v0 : Nat} (htop : u2 * 4294967296 + u1 = top) (h0 : u0 < 4294967296) (hv : 0 < v1) (hT : (u2 * 4294967296 + u1) * 4294967296 + u0 = T) (hW : v1 * 4294967296 + v0 = W) : gq T W ≤ top / v1 := by
 refine Nat.le_trans (Nat.min_le_left _ _) ((Nat.le_div_iff_mul_le hv).2 ?_)
 have hT' : T = top * 4294967296 + u0 := by omega
 have h1 : T / W * W ≤ T := Nat.div_mul_le_self T W
 generalize T / W = z at *
 rcases Nat.lt_or_ge top (z * v1) with e | e
 ·have h2 : z * W = z * v1 * 4294967296 + z * v0 := by rw [← hW, Nat.mul_add, ← Nat.mul_assoc]
  omega
 ·exact e
theorem gq_exit {u2 u1 u0 v1 v0 q r : Nat} (hq : q * v1 + r = u2 * 4294967296 + u1) (hu1 : u1 < 4294967296) (hu : u2 ≤ v1) (hv0 : v0 < 4294967296) (hv : 0 < v1)
  (h : gq ((u2 * 4294967296 + u1) * 4294967296 + u0) (v1 * 4294967296 + v0) ≤ q) (hc : 4294967296 ≤ r ∨ (q < 4294967296 ∧ q * v0 ≤ r * 4294967296 + u0)) :
  q = gq ((u2 * 4294967296 + u1) * 4294967296 + u0) (v1 * 4294967296 + v0) := by
 have hqB : q < 4294967296 := by
  rcases hc with h1 | h1
  ·rcases Nat.lt_or_ge q 4294967296 with e | e
   ·exact e
   ·have h2 := Nat.mul_le_mul e (Nat.le_refl v1)
    generalize q * v1 = p at *
    omega
  ·exact h1.1
 have hle : q * v0 ≤ r * 4294967296 + u0 := by
  rcases hc with h1 | h1
  ·have h2 := mul_le hqB hv0
   generalize q * v0 = s at *
   omega
  ·exact h1.2
 have : q ≤ ((u2 * 4294967296 + u1) * 4294967296 + u0) / (v1 * 4294967296 + v0) := by
  have h2 : q * (v1 * 4294967296 + v0) = q * v1 * 4294967296 + q * v0 := by rw [Nat.mul_add, ← Nat.mul_assoc]
  refine (Nat.le_div_iff_mul_le (by omega)).2 (Nat.le_trans (Nat.le_of_eq h2) ?_)
  clear h hc h2
  omega
 unfold gq at h ⊢
 omega
theorem gq_spec {U V T W P Ul Vl : Nat} (hU : U = T * P + Ul) (hUl : Ul < P) (hV : V = W * P + Vl) (hVl : Vl < P) (hVn : 4294967296 * P ≤ V) (hlt : U < 4294967296 * V) (hW : 0 < W) :
  U / V ≤ gq T W ∧ gq T W ≤ U / V + 1 := by
 have hP : 0 < P := by omega
 have hV0 : 0 < V := by
  have := Nat.mul_pos hW hP
  omega
 constructor
 ·have h1 : U / V ≤ T / W := by
   rw [Nat.le_div_iff_mul_le hW]
   have h2 : U / V * V ≤ U := Nat.div_mul_le_self U V
   have h3 : U / V * (W * P) ≤ U / V * V := Nat.mul_le_mul_left _ (by omega)
   rw [← Nat.mul_assoc] at h3
   generalize U / V * W = x at *
   rcases Nat.lt_or_ge T x with e | e
   ·have := Nat.mul_le_mul_right P e
    rw [Nat.succ_mul] at this
    omega
   ·exact e
  have h4 : U / V < 4294967296 := by rw [Nat.div_lt_iff_lt_mul hV0]; exact hlt
  unfold gq; omega
 ·have h1 : gq T W * W ≤ T := Nat.le_trans (Nat.mul_le_mul_right _ (Nat.min_le_left _ _)) (Nat.div_mul_le_self T W)
  have h2 : gq T W < 4294967296 := by unfold gq; omega
  generalize gq T W = q at h1 h2 ⊢
  have h3 : q * V ≤ U + V := by
   have h4 : q * W * P ≤ T * P := Nat.mul_le_mul_right _ h1
   have h5 : q * Vl ≤ 4294967296 * P := Nat.mul_le_mul (by omega) (by omega)
   rw [hV, Nat.mul_add, ← Nat.mul_assoc]
   omega
  have h6 : q ≤ (U + V) / V := by rw [Nat.le_div_iff_mul_le hV0]; exact h3
  rw [Nat.add_div_right _ hV0] at h6
  exact h6
theorem red_step {D Y X P c b q y x d b' : Nat} (h : D + q * Y = X + P * (c + b)) (hd : d + (c + q * y) % 4294967296 + b = x + 4294967296 * b') :
  (D + P * d) + q * (Y + P * y) = (X + P * x) + P * 4294967296 * ((c + q * y) / 4294967296 + b') := by
 have h1 := Nat.div_add_mod (c + q * y) 4294967296
 have e1 : q * (P * y) = P * (q * y) := by rw [← Nat.mul_assoc, Nat.mul_comm q P, Nat.mul_assoc]
 have h2 : P * d + P * ((c + q * y) % 4294967296) + P * b = P * x + P * 4294967296 * b' := by
  rw [Nat.mul_assoc P 4294967296, ← Nat.mul_add, ← Nat.mul_add, ← Nat.mul_add, hd]
 have h3 : P * ((c + q * y) % 4294967296) + P * 4294967296 * ((c + q * y) / 4294967296) = P * c + P * (q * y) := by
  rw [Nat.mul_assoc P 4294967296, ← Nat.mul_add, ← Nat.mul_add]; congr 1; omega
 rw [Nat.mul_add, Nat.mul_add, e1]
 rw [Nat.mul_add] at h
 omega
theorem red_carry {P c q Y y : Nat} (h : P * c ≤ q * Y) : P * 4294967296 * ((c + q * y) / 4294967296) ≤ q * (Y + P * y) := by
 have e1 : q * (P * y) = P * (q * y) := by rw [← Nat.mul_assoc, Nat.mul_comm q P, Nat.mul_assoc]
 have h1 := Nat.div_mul_le_self (c + q * y) 4294967296
 have h2 : P * (4294967296 * ((c + q * y) / 4294967296)) ≤ P * (c + q * y) := Nat.mul_le_mul_left _ (by omega)
 rw [Nat.mul_assoc, Nat.mul_add, e1]
 rw [Nat.mul_add] at h2
 omega
theorem red_fin {D U V q M c b : Nat} (h : D + q * V = U + M * (c + b)) (hc : M * c ≤ q * V) (hq : q * V < M) (hD : D < M) (_hU : U < M) (hb : b ≤ 1) :
  (b ≠ 0 ↔ U < q * V) ∧ D = (U + M - q * V) % M := by
 have hc0 : c = 0 := by
  rcases Nat.eq_zero_or_pos c with e | e
  ·exact e
  ·have := Nat.mul_le_mul_left M e; rw [Nat.mul_one] at this; omega
 subst hc0
 rw [Nat.zero_add] at h
 have hb2 : b = 0 ∨ b = 1 := by omega
 rcases hb2 with e | e <;> subst e
 ·refine ⟨by omega, ?_⟩
  have : U + M - q * V = D + M := by omega
  rw [this, Nat.add_mod_right, Nat.mod_eq_of_lt hD]
 ·refine ⟨by omega, ?_⟩
  have : U + M - q * V = D := by omega
  rw [this, Nat.mod_eq_of_lt hD]
theorem kn_over {U V q M : Nat} (h1 : U / V ≤ q) (h2 : q ≤ U / V + 1) (h : U < q * V) (_hV : V ≤ M) (hV0 : 0 < V) (_hq : q * V < M) : q - 1 = U / V ∧ ((U + M - q * V) % M + V) % M = U % V := by
 have e : q = U / V + 1 := by
  rcases Nat.lt_or_ge (U / V) q with e | e
  ·omega
  ·have : q = U / V := by omega
   have h3 := Nat.div_mul_le_self U V
   rw [← this] at h3; exact absurd h (by omega)
 subst e
 refine ⟨Nat.add_sub_cancel _ _, ?_⟩
 have h4 := Nat.div_add_mod' U V
 have h5 := Nat.mod_lt U hV0
 rw [Nat.add_mul, Nat.one_mul] at h _hq ⊢
 rw [Nat.mod_eq_of_lt (show U + M - (U / V * V + V) < M by omega)]
 have : U + M - (U / V * V + V) + V = U % V + M := by omega
 rw [this, Nat.add_mod_right, Nat.mod_eq_of_lt (by omega)]
theorem kn_fit {U V q M : Nat} (h1 : U / V ≤ q) (_h2 : q ≤ U / V + 1) (h : ¬ U < q * V) (hV : V ≤ M) (hV0 : 0 < V) : q = U / V ∧ (U + M - q * V) % M = U % V := by
 have e : q = U / V := by
  have : q ≤ U / V := by rw [Nat.le_div_iff_mul_le hV0]; omega
  omega
 subst e
 refine ⟨rfl, ?_⟩
 have h4 := Nat.div_add_mod' U V
 have h5 := Nat.mod_lt U hV0
 have : U + M - U / V * V = U % V + M := by omega
 rw [this, Nat.add_mod_right, Nat.mod_eq_of_lt (by omega)]
end Nat32
namespace Nat32
open Go Go.Dat
def blen (x : Nat) : Nat := if x = 0 then 0 else Nat.log2 x + 1
theorem blen_lt {x : Nat} : x < 2 ^ blen x := by
 unfold blen
 split
 ·rename_i h; subst h; decide
 ·exact Nat.lt_log2_self
theorem blen_le {x : Nat} (h : x ≠ 0) : 2 ^ (blen x - 1) ≤ x := by
 unfold blen
 rw [if_neg h, Nat.add_sub_cancel]
 exact Nat.log2_self_le h
theorem blen_of {x k : Nat} (h1 : 2 ^ k ≤ x) (h2 : x < 2 ^ (k + 1)) : blen x = k + 1 := by
 have h0 : x ≠ 0 := by have := Nat.two_pow_pos k; omega
 unfold blen
 rw [if_neg h0, (Nat.log2_eq_iff h0).2 ⟨h1, h2⟩]
theorem blen_shr {x k : Nat} (h : 2 ^ k ≤ x) : blen x = blen (x / 2 ^ k) + k := by
 have h0 : x / 2 ^ k ≠ 0 := by
  have := Nat.div_pos h (Nat.two_pow_pos k)
  omega
 have h1 := blen_le h0
 have h2 := blen_lt (x := x / 2 ^ k)
 have hb : 0 < blen (x / 2 ^ k) := by unfold blen; rw [if_neg h0]; omega
 obtain ⟨m, hm⟩ : ∃ m, blen (x / 2 ^ k) = m + 1 := ⟨blen (x / 2 ^ k) - 1, by omega⟩
 rw [hm] at h1 h2 ⊢
 rw [Nat.add_sub_cancel] at h1
 have e : m + 1 + k = (m + k) + 1 := by omega
 rw [e]
 refine blen_of ?_ ?_
 ·rw [Nat.pow_add]
  exact Nat.le_trans (Nat.mul_le_mul_right _ h1) (Nat.div_mul_le_self _ _)
 ·rw [show m + k + 1 = (m + 1) + k by omega, Nat.pow_add]
  exact (Nat.div_lt_iff_lt_mul (Nat.two_pow_pos k)).1 h2
theorem blen_le_of {x k : Nat} (h : x < 2 ^ k) : blen x ≤ k := by
 rcases Nat.lt_or_ge k (blen x) with e | e
 ·have h0 : x ≠ 0 := by rintro rfl; simp [blen] at e
  have h1 := blen_le h0
  have h2 := Nat.pow_le_pow_right (n := 2) (by decide) (show k ≤ blen x - 1 by omega)
  omega
 ·exact e
theorem lz_spec {x : Nat} (h0 : x ≠ 0) (h : x < 4294967296) : 32 - blen x ≤ 31 ∧ 2147483648 ≤ x * 2 ^ (32 - blen x) ∧ x * 2 ^ (32 - blen x) < 4294967296 := by
 have h1 := blen_le h0
 have h2 := blen_lt (x := x)
 have h3 := blen_le_of (k := 32) (by simpa using h)
 have hb : 0 < blen x := by unfold blen; rw [if_neg h0]; omega
 refine ⟨by omega, ?_, ?_⟩
 ·have h4 := Nat.mul_le_mul_right (2 ^ (32 - blen x)) h1
  rw [← Nat.pow_add, show blen x - 1 + (32 - blen x) = 31 by omega] at h4
  exact h4
 ·have h4 := Nat.mul_lt_mul_of_pos_right h2 (Nat.two_pow_pos (32 - blen x))
  rw [← Nat.pow_add, show blen x + (32 - blen x) = 32 by omega] at h4
  exact h4
theorem shl_lt {x k : Nat} (h : x < 4294967296) (hk : k ≤ 31) : x * 2 ^ k < 18446744073709551616 ∧ x * 2 ^ k / 4294967296 < 2 ^ k := by
 have h1 : x * 2 ^ k < 4294967296 * 2 ^ k := Nat.mul_lt_mul_of_pos_right h (Nat.two_pow_pos k)
 have h2 : (2 : Nat) ^ k ≤ 2 ^ 31 := Nat.pow_le_pow_right (by decide) hk
 refine ⟨by omega, ?_⟩
 rw [Nat.div_lt_iff_lt_mul (by decide), Nat.mul_comm (2 ^ k)]
 exact h1
theorem or_low {c x k : Nat} (hc : c < 2 ^ k) (hk : k ≤ 31) (_hx : x < 4294967296) : c ||| (x * 2 ^ k % 4294967296) = x * 2 ^ k % 4294967296 + c := by
 have e : x * 2 ^ k % 4294967296 = 2 ^ k * (x % 2 ^ (32 - k)) := by
  have : (4294967296 : Nat) = 2 ^ k * 2 ^ (32 - k) := by rw [← Nat.pow_add, show k + (32 - k) = 32 by omega]
  rw [this, Nat.mul_comm x, Nat.mul_mod_mul_left]
 rw [e, Nat.or_comm]
 exact (Nat.two_pow_add_eq_or_of_lt hc _).symm
theorem sh_step {D P X c x y : Nat} (h : D + P * c = X * y) : (D + P * (x * y % 4294967296 + c)) + P * 4294967296 * (x * y / 4294967296) = (X + P * x) * y := by
 have h1 := Nat.div_add_mod (x * y) 4294967296
 have h2 : P * (x * y % 4294967296) + P * 4294967296 * (x * y / 4294967296) = P * (x * y) := by
  rw [Nat.mul_assoc P 4294967296, ← Nat.mul_add]; congr 1; omega
 rw [Nat.mul_add, Nat.add_mul, Nat.mul_assoc P x y]
 omega
theorem shr2 {x y z k : Nat} (hk : k ≤ 31) : ((4294967296 * y + x) / 2 ^ k) % 4294967296 = ((x + 4294967296 * (y + 4294967296 * z)) / 2 ^ k) % 4294967296 := by
 have e : (x + 4294967296 * (y + 4294967296 * z)) = (4294967296 * y + x) + 2 ^ k * (2 ^ (32 - k) * (4294967296 * z)) := by
  rw [← Nat.mul_assoc, ← Nat.pow_add, show k + (32 - k) = 32 by omega]
  omega
 rw [e, Nat.add_mul_div_left _ _ (Nat.two_pow_pos k), show 2 ^ (32 - k) * (4294967296 * z) = 4294967296 * (2 ^ (32 - k) * z) by rw [← Nat.mul_assoc, Nat.mul_comm (2 ^ (32 - k)), Nat.mul_assoc], Nat.add_mul_mod_self_left]
theorem us_frz (o : Nat) (c : List DV) (xs : List Nat) : (us xs).map (frz o c) = us xs := by simp [us, u32, frz_int]
theorem set_mid (d : List Nat) (c v : Nat) (r : List Nat) : (d ++ c :: r).set d.length v = d ++ v :: r := by
 rw [List.set_append_right _ _ (Nat.le_refl _)]; simp
theorem set_mid1 (d : List Nat) (c x v : Nat) (r : List Nat) : (d ++ c :: x :: r).set (d.length + 1) v = d ++ c :: v :: r := by
 rw [List.set_append_right _ _ (Nat.le_add_right _ _)]; simp
theorem getD_mid (d : List Nat) (c : Nat) (r : List Nat) : (d ++ c :: r).getD d.length 0 = c := by
 simp [List.getD_eq_getElem?_getD]
theorem lim_append {a b : List Nat} : lim (a ++ b) ↔ lim a ∧ lim b := by
 constructor
 ·intro h; exact ⟨fun x hx => h x (List.mem_append.2 (.inl hx)), fun x hx => h x (List.mem_append.2 (.inr hx))⟩
 ·rintro ⟨h1, h2⟩ x hx
  rcases List.mem_append.1 hx with h | h
  ·exact h1 x h
  ·exact h2 x h
theorem nv_snoc (d : List Nat) (c : Nat) : nv (d ++ [c]) = nv d + 4294967296 ^ d.length * c := by
 rw [nv_app]; simp [nv]
theorem shl_w {x k : Nat} (h : x < 4294967296) (hk : k ≤ 31) : IntKind.u64.wrap ((x : Int) * 2 ^ min k IntKind.u64.bits) = ((x * 2 ^ k : Nat) : Int) := by
 have h1 := (shl_lt h hk).1
 have e : min k IntKind.u64.bits = k := by
  have : IntKind.u64.bits = 64 := rfl
  omega
 rw [e, show ((2 : Int) ^ k) = ((2 ^ k : Nat) : Int) by simp, mul_nat]
 generalize x * 2 ^ k = p at h1 ⊢
 exact wu64 (by omega) (by omega)
theorem shr_w (a k : Nat) (hk : k ≤ 31) : ((a : Int)).fdiv (2 ^ min k IntKind.u64.bits) = ((a / 2 ^ k : Nat) : Int) := by
 have e : min k IntKind.u64.bits = k := by
  have : IntKind.u64.bits = 64 := rfl
  omega
 rw [e, show ((2 : Int) ^ k) = ((2 ^ k : Nat) : Int) by simp, fdiv_nat]
theorem or_low32 {c x k : Nat} (hc : c < 2 ^ k) (hk : k ≤ 31) (hx : x < 4294967296) : bitE .or .u32 (c : Int) ((x * 2 ^ k % 4294967296 : Nat) : Int) = ((x * 2 ^ k % 4294967296 + c : Nat) : Int) := by
 have h2 : (2 : Nat) ^ k ≤ 2 ^ 31 := Nat.pow_le_pow_right (by decide) hk
 rw [or_nat32 _ _ (by omega) (Nat.mod_lt _ (by decide)), or_low hc hk hx]
theorem pow_le31 {k : Nat} (hk : k ≤ 31) : (2 : Nat) ^ k ≤ 2147483648 := by
 have h2 : (2 : Nat) ^ k ≤ 2 ^ 31 := Nat.pow_le_pow_right (by decide) hk
 simpa using h2
theorem low_lt {c x k : Nat} (hc : c < 2 ^ k) (hk : k ≤ 31) : x * 2 ^ k % 4294967296 + c < 4294967296 := by
 have e : x * 2 ^ k % 4294967296 = 2 ^ k * (x % 2 ^ (32 - k)) := by
  have : (4294967296 : Nat) = 2 ^ k * 2 ^ (32 - k) := by rw [← Nat.pow_add, show k + (32 - k) = 32 by omega]
  rw [this, Nat.mul_comm x, Nat.mul_mod_mul_left]
 have h1 : x % 2 ^ (32 - k) + 1 ≤ 2 ^ (32 - k) := Nat.mod_lt _ (Nat.two_pow_pos _)
 have h2 := Nat.mul_le_mul_left (2 ^ k) h1
 rw [← Nat.pow_add, show k + (32 - k) = 32 by omega, Nat.mul_add] at h2
 omega
end Nat32
namespace Nat32
theorem nv_single (a : List Nat) (m : Nat) (h : a.length = m + 1) : nv (a.drop m) = a.getD m 0 := by
 rw [nv_drop (by omega), List.drop_of_length_le (by omega)]; simp [nv]
theorem top2 (a : List Nat) (n : Nat) (h : a.length = n + 2) : nv a = (a.getD (n + 1) 0 * 4294967296 + a.getD n 0) * 4294967296 ^ n + nv (a.take n) := by
 rw [nv_split (m := n) (by omega), nv_single a (n + 1) (by omega), Nat.mul_comm (4294967296 ^ n)]
 rw [show a.getD n 0 + 4294967296 * a.getD (n + 1) 0 = a.getD (n + 1) 0 * 4294967296 + a.getD n 0 by omega]; omega
theorem top3 (a : List Nat) (n : Nat) (h : a.length = n + 3) : nv a = ((a.getD (n + 2) 0 * 4294967296 + a.getD (n + 1) 0) * 4294967296 + a.getD n 0) * 4294967296 ^ n + nv (a.take n) := by
 rw [nv_split (m := n) (by omega), nv_drop (a := a) (m := n + 1) (by omega), nv_single a (n + 2) (by omega), Nat.mul_comm (4294967296 ^ n)]
 rw [show a.getD n 0 + 4294967296 * (a.getD (n + 1) 0 + 4294967296 * a.getD (n + 2) 0) = (a.getD (n + 2) 0 * 4294967296 + a.getD (n + 1) 0) * 4294967296 + a.getD n 0 by omega]; omega
theorem nv_take_lt {a : List Nat} (h : lim a) {n : Nat} (hn : n ≤ a.length) : nv (a.take n) < 4294967296 ^ n := by
 have := nv_lt (lim_take h n)
 rwa [List.length_take, Nat.min_eq_left hn] at this
theorem limbs_len_eq {x n : Nat} (h1 : x < 4294967296 ^ (n + 1)) (h2 : 4294967296 ^ n ≤ x) : (limbs x).length = n + 1 := by
 have h3 := limbs_len.2 h1
 rcases Nat.lt_or_ge (limbs x).length (n + 1) with e | e
 ·have := limbs_len.1 (show (limbs x).length ≤ n by omega)
  omega
 ·omega
theorem limbs_top_ne {y n : Nat} (h : (limbs y).length = n + 1) : (limbs y).getD n 0 ≠ 0 := by
 have := vld_limbs y
 unfold vld at this
 rw [h, Nat.add_sub_cancel] at this
 simpa using this
theorem norm_V {y n : Nat} (h : (limbs y).length = n + 1) : 32 - blen ((limbs y).getD n 0) ≤ 31 ∧ y * 2 ^ (32 - blen ((limbs y).getD n 0)) < 4294967296 ^ (n + 1) ∧ 4294967296 ^ n * 2147483648 ≤ y * 2 ^ (32 - blen ((limbs y).getD n 0)) := by
 have h0 := limbs_top_ne h
 have hl := lim_getD (lim_limbs y) n
 have hs := nv_split (a := limbs y) (m := n) (by omega)
 rw [nv_limbs, List.drop_of_length_le (by omega)] at hs
 have hlow := nv_take_lt (lim_limbs y) (n := n) (by omega)
 simp only [nv, Nat.mul_zero, Nat.add_zero] at hs
 generalize (limbs y).getD n 0 = t at *
 obtain ⟨k1, k2, k3⟩ := lz_spec h0 hl
 have hb := blen_le_of (k := 32) (show t < 2 ^ 32 by omega)
 have htt : (t + 1) * 2 ^ (32 - blen t) ≤ 4294967296 := by
  have h4 := Nat.mul_le_mul_right (2 ^ (32 - blen t)) (show t + 1 ≤ 2 ^ blen t from blen_lt)
  rw [← Nat.pow_add, show blen t + (32 - blen t) = 32 by omega] at h4
  exact h4
 refine ⟨k1, ?_, ?_⟩
 ·have h5 : y * 2 ^ (32 - blen t) < (4294967296 ^ n * (t + 1)) * 2 ^ (32 - blen t) := Nat.mul_lt_mul_of_pos_right (by rw [hs, Nat.mul_add]; omega) (Nat.two_pow_pos _)
  have h6 := Nat.mul_le_mul_left (4294967296 ^ n) htt
  rw [← Nat.mul_assoc] at h6
  rw [Nat.pow_succ]
  omega
 ·have h5 : 4294967296 ^ n * t * 2 ^ (32 - blen t) ≤ y * 2 ^ (32 - blen t) := Nat.mul_le_mul_right _ (by omega)
  have h6 := Nat.mul_le_mul_left (4294967296 ^ n) k2
  rw [← Nat.mul_assoc] at h6
  omega
theorem init_lt {x k V n m : Nat} (hx : x < 4294967296 ^ (m + n)) (hk : k ≤ 31) (hV : 4294967296 ^ n * 2147483648 ≤ V) {u : List Nat} (hl : m ≤ u.length) (hu : nv u = x * 2 ^ k) : nv (u.drop m) < V := by
 have h1 := nv_split_at u m hl
 have h2 : x * 2 ^ k < 4294967296 ^ (m + n) * 2147483648 := Nat.mul_lt_mul_of_lt_of_le hx (pow_le31 hk) (by decide)
 rw [Nat.pow_add, Nat.mul_assoc, ← hu] at h2
 have h3 : 4294967296 ^ m * nv (u.drop m) < 4294967296 ^ m * (4294967296 ^ n * 2147483648) := by omega
 have := Nat.lt_of_mul_lt_mul_left h3
 omega
structure Step (u : List Nat) (V i n : Nat) : Prop where
 eq : nv (u.drop i) = nv ((u.drop i).take (n + 3))
 lt : nv (u.drop i) < 4294967296 * V
 cells : u = u.take i ++ (u.drop i).take (n + 3) ++ u.drop (i + (n + 3))
 slen : ((u.drop i).take (n + 3)).length = n + 3
 g2 : ((u.drop i).take (n + 3)).getD (n + 2) 0 = u.getD (i + n + 2) 0
 g1 : ((u.drop i).take (n + 3)).getD (n + 1) 0 = u.getD (i + n + 1) 0
 g0 : ((u.drop i).take (n + 3)).getD n 0 = u.getD (i + n) 0
 rest : nv (u.drop (i + (n + 3))) = 0
theorem getD_cut (u : List Nat) (i k j : Nat) (h : j < k) : ((u.drop i).take k).getD j 0 = u.getD (i + j) 0 := by
 simp [List.getD_eq_getElem?_getD, List.getElem?_take, h, List.getElem?_drop]
theorem z_zero {x t P z V Q : Nat} (h : x = t + P * z) (hx : x < 4294967296 * V) (hV : V < Q) (hP : P = Q * 4294967296) : z = 0 := by
 rcases Nat.eq_zero_or_pos z with e | e
 ·exact e
 ·have h1 := Nat.mul_le_mul_left P e
  rw [Nat.mul_one] at h1
  omega
theorem up_lt {x y V : Nat} (hx : x < 4294967296) (hR : y < V) : x + 4294967296 * y < 4294967296 * V := by omega
theorem step_of {u : List Nat} {V i n : Nat} (lu : lim u) (hl : i + (n + 3) ≤ u.length) (hR : nv (u.drop (i + 1)) < V) (hV : V < 4294967296 ^ (n + 2)) : Step u V i n := by
 have hlt : nv (u.drop i) < 4294967296 * V := by
  rw [nv_drop (a := u) (m := i) (by omega)]; exact up_lt (lim_getD lu i) hR
 have hs := nv_split_at (u.drop i) (n + 3) (by simp; omega)
 rw [List.drop_drop] at hs
 have hz : nv (u.drop (i + (n + 3))) = 0 := z_zero hs hlt hV (Nat.pow_succ (n := 4294967296) (m := n + 2))
 refine ⟨?_, hlt, ?_, by simp; omega, getD_cut u i (n + 3) (n + 2) (by omega), getD_cut u i (n + 3) (n + 1) (by omega), getD_cut u i (n + 3) n (by omega), hz⟩
 ·rw [hs, hz, Nat.mul_zero, Nat.add_zero]
 ·rw [List.append_assoc, show u.drop (i + (n + 3)) = (u.drop i).drop (n + 3) by rw [List.drop_drop], List.take_append_drop, List.take_append_drop]
theorem v1_pos {V v1 v0 P Vl : Nat} (hv : V = (v1 * 4294967296 + v0) * P + Vl) (hVl : Vl < P) (h0 : v0 < 4294967296) (hVn : P * 4294967296 * 2147483648 ≤ V) : 0 < v1 := by
 rcases Nat.eq_zero_or_pos v1 with e | e
 ·subst e
  rw [Nat.zero_mul, Nat.zero_add] at hv
  have h3 : v0 * P ≤ 4294967295 * P := Nat.mul_le_mul_right P (by clear hv hVn; omega)
  generalize v0 * P = z at *
  omega
 ·exact e
theorem tw_lt {U V T W P Ul Vl : Nat} (hu : U = T * P + Ul) (hv : V = W * P + Vl) (hVl : Vl < P) (hlt : U < 4294967296 * V) : T < 4294967296 * (W + 1) := by
 have h1 : V < (W + 1) * P := by rw [Nat.add_mul, Nat.one_mul]; omega
 have h2 : T * P < (4294967296 * (W + 1)) * P := by
  rw [Nat.mul_assoc]
  generalize (W + 1) * P = z at *
  omega
 exact Nat.lt_of_mul_lt_mul_right h2
theorem u2_le {u2 u1 u0 v1 v0 : Nat} (h0 : v0 < 4294967296) (h : (u2 * 4294967296 + u1) * 4294967296 + u0 < 4294967296 * (v1 * 4294967296 + v0 + 1)) : u2 ≤ v1 := by omega
theorem half_le {P V : Nat} (h : P * 4294967296 * 2147483648 ≤ V) : 4294967296 * P ≤ V := by omega
theorem step_guess {u : List Nat} {V i n : Nat} (lu : lim u) (hS : Step u V i n) (hVl : V < 4294967296 ^ (n + 2)) (hVn : 4294967296 ^ (n + 1) * 2147483648 ≤ V) :
  u.getD (i + n + 2) 0 ≤ (limbs V).getD (n + 1) 0 ∧ 0 < (limbs V).getD (n + 1) 0 ∧
  nv (u.drop i) / V ≤ gq ((u.getD (i + n + 2) 0 * 4294967296 + u.getD (i + n + 1) 0) * 4294967296 + u.getD (i + n) 0) ((limbs V).getD (n + 1) 0 * 4294967296 + (limbs V).getD n 0) ∧
  gq ((u.getD (i + n + 2) 0 * 4294967296 + u.getD (i + n + 1) 0) * 4294967296 + u.getD (i + n) 0) ((limbs V).getD (n + 1) 0 * 4294967296 + (limbs V).getD n 0) ≤ nv (u.drop i) / V + 1 := by
 have hlen : (limbs V).length = n + 2 := limbs_len_eq hVl (Nat.le_trans (Nat.le_mul_of_pos_right _ (by decide)) hVn)
 have hv := top2 (limbs V) n hlen
 have hvl := nv_take_lt (lim_limbs V) (n := n) (by omega)
 have ls := lim_take (lim_drop lu i) (n + 3)
 have hu := top3 _ n hS.slen
 have hul := nv_take_lt ls (n := n) (by rw [hS.slen]; omega)
 rw [← hS.eq, hS.g2, hS.g1, hS.g0] at hu
 rw [nv_limbs] at hv
 have h0v := lim_getD (lim_limbs V) n
 have hlt := hS.lt
 rw [Nat.pow_succ] at hVn
 have hv1 := v1_pos hv hvl h0v hVn
 exact ⟨u2_le h0v (tw_lt hu hv hvl hlt), hv1, gq_spec hu hul hv hvl (half_le hVn) hlt (Nat.lt_of_lt_of_le (Nat.mul_pos hv1 (by decide)) (Nat.le_add_right _ _))⟩
theorem step_sum {A u q V i n : Nat} {us qs : List Nat} (hA : A = 4294967296 ^ (i + 1) * nv qs * V + nv us) (hu : nv us = u + 4294967296 ^ i * n) (hq : q = n / V) :
  A = 4294967296 ^ i * nv (q :: qs) * V + (u + 4294967296 ^ i * (n % V)) := by
 subst hq
 have h1 := Nat.div_add_mod' n V
 simp only [nv]
 rw [hA, hu, Nat.pow_succ]
 have e1 : 4294967296 ^ i * n = 4294967296 ^ i * (n / V * V) + 4294967296 ^ i * (n % V) := by rw [← Nat.mul_add, h1]
 have e2 : 4294967296 ^ i * (n / V + 4294967296 * nv qs) * V = 4294967296 ^ i * (n / V * V) + 4294967296 ^ i * 4294967296 * nv qs * V := by
  rw [Nat.mul_add, Nat.add_mul]
  simp only [Nat.mul_assoc]
 rw [e1, e2]; omega
theorem div_fin {A V q r : Nat} (h : A = q * V + r) (hr : r < V) : q = A / V ∧ r = A % V := by
 subst h
 have h0 : 0 < V := by omega
 rw [Nat.add_comm, Nat.add_mul_div_right _ _ h0, Nat.add_mul_mod_self_right, Nat.div_eq_of_lt hr, Nat.mod_eq_of_lt hr]
 exact ⟨by omega, rfl⟩
theorem dig_snoc (k x : Nat) : dig (k + 1) x = dig k x ++ [x / 4294967296 ^ k % 4294967296] := by
 induction k generalizing x with
 | zero => simp [dig]
 | succ k ih =>
  rw [dig, ih, dig, Nat.div_div_eq_div_mul, ← Nat.pow_succ']
  rfl
theorem drop_div {u : List Nat} (lu : lim u) (i : Nat) (h : i ≤ u.length) : nv u / 4294967296 ^ i = nv (u.drop i) := by
 have h1 := nv_split_at u i h
 have h2 := nv_take_lt lu h
 rw [h1, Nat.add_mul_div_left _ _ (by omega), Nat.div_eq_of_lt h2, Nat.zero_add]
theorem back {u : List Nat} (lu : lim u) {i k : Nat} (hi : i + 1 < u.length) (hk : k ≤ 31) : (u.getD (i + 1) 0 * 4294967296 + u.getD i 0) / 2 ^ k % 4294967296 = nv u / 2 ^ k / 4294967296 ^ i % 4294967296 := by
 rw [Nat.div_div_eq_div_mul, Nat.mul_comm (2 ^ k), ← Nat.div_div_eq_div_mul, drop_div lu i (by omega), nv_drop (a := u) (m := i) (by omega), nv_drop (a := u) (m := i + 1) (by omega), ← shr2 hk, Nat.mul_comm 4294967296]
theorem qv_lt {q V n : Nat} (hq : q < 4294967296) (hV : V < 4294967296 ^ (n + 2)) : q * V < 4294967296 ^ (n + 3) := by
 have h1 : 4294967296 ^ (n + 3) = 4294967296 ^ (n + 2) * 4294967296 := Nat.pow_succ 4294967296 (n + 2)
 rw [h1, Nat.mul_comm q]
 exact Nat.mul_lt_mul_of_lt_of_le hV (Nat.le_of_lt hq) (by decide)
theorem le_pow3 {V n : Nat} (hV : V < 4294967296 ^ (n + 2)) : V ≤ 4294967296 ^ (n + 3) :=
 Nat.le_of_lt (Nat.lt_of_lt_of_le hV (Nat.pow_le_pow_right (by decide) (by omega)))
theorem nv_put {p s t : List Nat} {n i U r : Nat} (hp : p.length = i) (_hs : s.length = n + 3) (ht : nv t = 0) (hU : nv s = U) : nv (p ++ s ++ t) = nv p + 4294967296 ^ i * U ∧ (r < 4294967296 ^ (n + 3) → nv (p ++ dig (n + 3) r ++ t) = nv p + 4294967296 ^ i * r ∧ nv ((p ++ dig (n + 3) r ++ t).drop i) = r) := by
 refine ⟨?_, fun hr => ⟨?_, ?_⟩⟩
 ·rw [nv_app, nv_app, ht, Nat.mul_zero, Nat.add_zero, hp, hU]
 ·rw [nv_app, nv_app, ht, Nat.mul_zero, Nat.add_zero, hp, nv_dig, Nat.mod_eq_of_lt hr]
 ·rw [List.append_assoc, List.drop_append, List.drop_of_length_le (by omega), hp, Nat.sub_self, List.drop_zero, List.nil_append, nv_app, ht, Nat.mul_zero, Nat.add_zero, nv_dig, Nat.mod_eq_of_lt hr]
end Nat32
namespace Nat32
open Go Go.Dat
theorem tdiv32 (i : Nat) : ((i : Int)).tdiv 32 = ((i / 32 : Nat) : Int) := tdiv_nat i 32
theorem tmod32 (i : Nat) : ((i : Int)).tmod 32 = ((i % 32 : Nat) : Int) := tmod_nat i 32
theorem shr_w32 (a k : Nat) (hk : k ≤ 31) : ((a : Int)).fdiv (2 ^ min k IntKind.u32.bits) = ((a / 2 ^ k : Nat) : Int) := by
 have e : min k IntKind.u32.bits = k := by
  have : IntKind.u32.bits = 32 := rfl
  omega
 rw [e, show ((2 : Int) ^ k) = ((2 ^ k : Nat) : Int) by simp, fdiv_nat]
theorem and_oneU {z : Nat} (h : z < 4294967296) : bitE .and .u32 (z : Int) 1 = ((z % 2 : Nat) : Int) := by
 have := and_nat32 z 1 h (by decide)
 rw [Nat.and_one_is_mod] at this
 exact this
theorem bit_of {a : List Nat} (la : lim a) (i : Nat) (h : i / 32 < a.length) : a.getD (i / 32) 0 / 2 ^ (i % 32) % 2 = nv a / 2 ^ i % 2 := by
 have e : 2 ^ i = 4294967296 ^ (i / 32) * 2 ^ (i % 32) := by
  rw [show (4294967296 : Nat) = 2 ^ 32 from rfl, ← Nat.pow_mul, ← Nat.pow_add, Nat.div_add_mod]
 rw [e, ← Nat.div_div_eq_div_mul, drop_div la _ (by omega), nv_drop h]
 generalize a.getD (i / 32) 0 = x
 generalize nv (a.drop (i / 32 + 1)) = z
 have hm : i % 32 < 32 := Nat.mod_lt _ (by decide)
 generalize i % 32 = m at hm
 have e2 : x + 4294967296 * z = x + 2 ^ m * (2 * (2 ^ (31 - m) * z)) := by
  rw [← Nat.mul_assoc, ← Nat.mul_assoc, ← Nat.pow_succ, ← Nat.pow_add, show m + 1 + (31 - m) = 32 by omega]
 rw [e2, Nat.add_mul_div_left _ _ (Nat.two_pow_pos m), Nat.add_mul_mod_self_left]
theorem bit_step (x i : Nat) : x / 2 ^ i = 2 * (x / 2 ^ (i + 1)) + x / 2 ^ i % 2 := by
 rw [Nat.pow_succ, ← Nat.div_div_eq_div_mul]; omega
theorem len_mono {x y : Nat} (h : x ≤ y) : (limbs x).length ≤ (limbs y).length :=
 limbs_len.2 (Nat.lt_of_le_of_lt h (limbs_len.1 (Nat.le_refl _)))
theorem len_double {x n : Nat} (h : (limbs x).length ≤ n) : (limbs (2 * x + 1)).length ≤ n + 1 := by
 rw [limbs_len] at h ⊢
 rw [Nat.pow_succ]; omega
theorem pow32 (n : Nat) : (4294967296 : Nat) ^ n = 2 ^ (32 * n) := by rw [show (4294967296 : Nat) = 2 ^ 32 from rfl, ← Nat.pow_mul]
end Nat32
namespace Nat32
theorem len_pow {x m : Nat} (h : (limbs x).length ≤ m) (i : Nat) : (limbs (x ^ i)).length ≤ i * m + 1 := by
 induction i with
 | zero => rw [Nat.pow_zero, limbs_one (by decide) (by decide)]; simp
 | succ i ih =>
  rw [Nat.pow_succ, Nat.add_mul, Nat.one_mul]
  have := len_mul ih h
  omega
end Nat32
namespace Nat32
open Go Go.Dat
def iv (neg : Bool) (a : List Nat) : Int := if neg then -((vn a : Nat) : Int) else ((vn a : Nat) : Int)
def I (z : Int) : DV := .agg [.bool (decide (z < 0)), .sl 1 (us (limbs z.natAbs))]
def X (neg : Bool) (a : List Nat) : DV := .agg [.bool neg, .sl 1 (us a)]
def vldI (neg : Bool) (a : List Nat) : Bool := vld a && (decide (0 < a.length) || !neg)
theorem iv_I (z : Int) : iv (decide (z < 0)) (limbs z.natAbs) = z := by
 unfold iv
 rw [vn_limbs]
 by_cases h : z < 0
 ·rw [if_pos (decide_eq_true h)]; omega
 ·rw [if_neg (by simpa using h)]; omega
theorem limbs_len0 {n : Nat} : 0 < (limbs n).length ↔ 0 < n := by
 rcases Nat.eq_zero_or_pos n with e | e
 ·subst e; rw [limbs_zero]; simp
 ·constructor
  ·intro _; exact e
  ·intro _
   rcases Nat.eq_zero_or_pos (limbs n).length with h | h
   ·have := limbs_eq_nil.1 (List.eq_nil_of_length_eq_zero h); omega
   ·exact h
theorem vldI_I (z : Int) : vldI (decide (z < 0)) (limbs z.natAbs) = true := by
 unfold vldI
 rw [vld_limbs, Bool.true_and, Bool.or_eq_true]
 by_cases h : z < 0
 ·exact .inl (decide_eq_true (limbs_len0.2 (by omega)))
 ·exact .inr (by simp [h])
theorem X_I {neg : Bool} {a : List Nat} (la : lim a) (h : vldI neg a = true) : X neg a = I (iv neg a) := by
 unfold vldI at h
 rw [Bool.and_eq_true, Bool.or_eq_true] at h
 obtain ⟨hv, h2⟩ := h
 have ha : limbs (vn a) = a := by rw [← val_limbs la, val, hv, if_pos rfl]
 unfold X I iv
 cases neg with
 | false =>
  simp only [Bool.false_eq_true, if_false, Int.natAbs_natCast, ha]
  rw [decide_eq_false (by omega)]
 | true =>
  have h3 : 0 < a.length := by
   rcases h2 with h | h
   ·exact of_decide_eq_true h
   ·cases h
  have h4 : 0 < vn a := by rw [← limbs_len0, ha]; exact h3
  simp only [if_true, Int.natAbs_neg, Int.natAbs_natCast, ha]
  rw [decide_eq_true (by omega)]
theorem iv_inv {neg : Bool} {a : List Nat} (h : vldI neg a = false) : iv neg a = 0 := by
 unfold vldI at h
 unfold iv
 have h0 : vn a = 0 := by
  by_cases hv : vld a = true
  ·rw [hv, Bool.true_and, Bool.or_eq_false_iff] at h
   have : a = [] := List.eq_nil_of_length_eq_zero (by have := of_decide_eq_false h.1; omega)
   subst this; rfl
  ·unfold vn val; rw [if_neg hv]; rfl
 rw [h0]; split <;> rfl
def sgn (neg : Bool) (n : Nat) : Int := if neg then -(n : Int) else n
theorem sgn_abs (neg : Bool) (n : Nat) : (sgn neg n).natAbs = n := by unfold sgn; split <;> omega
theorem sgn_lt (neg : Bool) (n : Nat) : decide (sgn neg n < 0) = (neg && decide (0 < n)) := by
 unfold sgn
 cases neg with
 | false => simp only [Bool.false_eq_true, if_false, Bool.false_and]; exact decide_eq_false (by omega)
 | true => simp only [if_true, Bool.true_and]; rw [decide_eq_decide]; omega
theorem sgn_self (z : Int) : sgn (decide (z < 0)) z.natAbs = z := by
 unfold sgn
 by_cases h : z < 0
 ·rw [if_pos (decide_eq_true h)]; omega
 ·rw [if_neg (by simpa using h)]; omega
theorem sgn_not (z : Int) : sgn (!decide (z < 0)) z.natAbs = -z := by
 unfold sgn
 by_cases h : z < 0
 ·rw [if_neg (by simp [h])]; omega
 ·rw [if_pos (by simp [h])]; omega
def cmpI (x y : Int) : Int := if x < y then -1 else if y < x then 1 else 0
theorem add_same {x y : Int} (h : decide (x < 0) = decide (y < 0)) : sgn (decide (x < 0)) (x.natAbs + y.natAbs) = x + y := by
 rw [decide_eq_decide] at h
 unfold sgn
 by_cases hx : x < 0
 ·rw [if_pos (decide_eq_true hx)]; have := h.1 hx; omega
 ·rw [if_neg (by simpa using hx)]; have : ¬ y < 0 := fun k => hx (h.2 k); omega
theorem add_left {x y : Int} (h : ¬ decide (x < 0) = decide (y < 0)) (hle : y.natAbs ≤ x.natAbs) : sgn (decide (x < 0)) (x.natAbs - y.natAbs) = x + y := by
 rw [decide_eq_decide] at h
 unfold sgn
 by_cases hx : x < 0
 ·rw [if_pos (decide_eq_true hx)]; have : ¬ y < 0 := fun k => h ⟨fun _ => k, fun _ => hx⟩; omega
 ·rw [if_neg (by simpa using hx)]; have : y < 0 := by
   rcases Int.lt_or_le y 0 with k | k
   ·exact k
   ·exact absurd (show x < 0 ↔ y < 0 from ⟨fun a => absurd a hx, fun a => absurd a (by omega)⟩) h
  omega
theorem add_right {x y : Int} (h : ¬ decide (x < 0) = decide (y < 0)) (hle : ¬ y.natAbs ≤ x.natAbs) : sgn (decide (y < 0)) (y.natAbs - x.natAbs) = x + y := by
 have := add_left (x := y) (y := x) (fun k => h k.symm) (by omega)
 rw [this, Int.add_comm]
theorem mul_sgn (x y : Int) : sgn (!(decide (x < 0) == decide (y < 0))) (x.natAbs * y.natAbs) = x * y := by
 have hxy := Int.natAbs_mul x y
 unfold sgn
 by_cases hx : x < 0 <;> by_cases hy : y < 0
 ·have h := Int.mul_pos_of_neg_of_neg hx hy
  simp [hx, hy]; rw [← Int.natCast_mul, ← hxy]; omega
 ·have h : x * y ≤ 0 := Int.mul_nonpos_of_nonpos_of_nonneg (by omega) (by omega)
  simp [hx, hy]; rw [← Int.natCast_mul, ← hxy]; omega
 ·have h : x * y ≤ 0 := Int.mul_nonpos_of_nonneg_of_nonpos (by omega) (by omega)
  simp [hx, hy]; rw [← Int.natCast_mul, ← hxy]; omega
 ·have h : 0 ≤ x * y := Int.mul_nonneg (by omega) (by omega)
  simp [hx, hy]; rw [← Int.natCast_mul, ← hxy]; omega
theorem sign_len {z : Int} : (limbs z.natAbs).length = 0 ↔ z = 0 := by
 constructor
 ·intro h
  have := limbs_eq_nil.1 (List.eq_nil_of_length_eq_zero h)
  omega
 ·rintro rfl; rw [show (0 : Int).natAbs = 0 from rfl, limbs_zero]; rfl
theorem ediv_uniq {x y q r : Int} (h : x = q * y + r) (h0 : 0 ≤ r) (h1 : r < y.natAbs) : q = x / y ∧ r = x % y := by
 have h2 : r + y * q = x := by rw [h, Int.mul_comm y q, Int.add_comm]
 rcases Int.lt_or_le 0 y with hy | hy
 ·have := (Int.ediv_emod_unique hy).2 ⟨h2, h0, by omega⟩
  exact ⟨this.1.symm, this.2.symm⟩
 ·have := (Int.ediv_emod_unique' (show y < 0 by omega)).2 ⟨h2, h0, by omega⟩
  exact ⟨this.1.symm, this.2.symm⟩
theorem iv_abs (neg : Bool) (a : List Nat) : (iv neg a).natAbs = vn a := by unfold iv; split <;> omega
theorem iv_len {a : List Nat} (la : lim a) (neg : Bool) : (limbs (iv neg a).natAbs).length ≤ a.length := by
 rw [iv_abs, ← val_limbs la]; exact val_len a
def imod (x y : Int) : Int := if y = 0 then 0 else x % y
theorem sgn_mul (x y : Int) (n : Nat) : sgn (!(decide (x < 0) == decide (y < 0))) n * y = sgn (decide (x < 0)) (n * y.natAbs) := by
 obtain ⟨K, hK⟩ : ∃ K : Nat, K = y.natAbs := ⟨_, rfl⟩
 rw [← hK]
 by_cases h1 : x < 0 <;> by_cases h2 : y < 0
 ·have e : y = -(K : Int) := by omega
  simp only [h1, h2, decide_true]
  rw [e]; show ((n : Int)) * -(K : Int) = -((n * K : Nat) : Int)
  rw [Int.mul_neg, Int.natCast_mul]
 ·have e : y = (K : Int) := by omega
  simp only [h1, h2, decide_true, decide_false]
  rw [e]; show (-(n : Int)) * (K : Int) = -((n * K : Nat) : Int)
  rw [Int.neg_mul, Int.natCast_mul]
 ·have e : y = -(K : Int) := by omega
  simp only [h1, h2, decide_true, decide_false]
  rw [e]; show (-(n : Int)) * -(K : Int) = ((n * K : Nat) : Int)
  rw [Int.neg_mul, Int.mul_neg, Int.neg_neg, Int.natCast_mul]
 ·have e : y = (K : Int) := by omega
  simp only [h1, h2, decide_false]
  rw [e]; show ((n : Int)) * (K : Int) = ((n * K : Nat) : Int)
  rw [Int.natCast_mul]
theorem sgn_add (b : Bool) (m n : Nat) : sgn b (m + n) = sgn b m + sgn b n := by unfold sgn; split <;> omega
theorem div_plain (x y : Int) (hy : y ≠ 0) (hx : ¬ (x < 0 ∧ 0 < x.natAbs % y.natAbs)) : sgn (!(decide (x < 0) == decide (y < 0))) (x.natAbs / y.natAbs) = x / y ∧ sgn false (x.natAbs % y.natAbs) = x % y := by
 have h0 : 0 < y.natAbs := by omega
 have hm := Nat.mod_lt x.natAbs h0
 have hd := Nat.div_add_mod' x.natAbs y.natAbs
 have hs := sgn_self x
 rw [← hd, sgn_add, ← sgn_mul] at hs
 have hr : sgn (decide (x < 0)) (x.natAbs % y.natAbs) = sgn false (x.natAbs % y.natAbs) := by
  by_cases h1 : x < 0
  ·have hz : x.natAbs % y.natAbs = 0 := by
    rcases Nat.eq_zero_or_pos (x.natAbs % y.natAbs) with e | e
    ·exact e
    ·exact absurd ⟨h1, e⟩ hx
   rw [hz]; unfold sgn; split <;> rfl
  ·rw [decide_eq_false h1]
 rw [hr] at hs
 exact ediv_uniq hs.symm (Int.natCast_nonneg _) (by show ((x.natAbs % y.natAbs : Nat) : Int) < _; omega)
theorem div_fix (x y : Int) (hy : y ≠ 0) (h1 : x < 0) (h2 : 0 < x.natAbs % y.natAbs) : sgn (!(decide (x < 0) == decide (y < 0))) (x.natAbs / y.natAbs + 1) = x / y ∧ sgn false (y.natAbs - x.natAbs % y.natAbs) = x % y := by
 have h0 : 0 < y.natAbs := by omega
 have hm := Nat.mod_lt x.natAbs h0
 have hd := Nat.div_add_mod' x.natAbs y.natAbs
 have hq := sgn_mul x y (x.natAbs / y.natAbs + 1)
 rw [Nat.add_mul, Nat.one_mul] at hq
 refine ediv_uniq ?_ (Int.natCast_nonneg _) (by show ((y.natAbs - x.natAbs % y.natAbs : Nat) : Int) < _; omega)
 rw [hq]
 show x = sgn (decide (x < 0)) (x.natAbs / y.natAbs * y.natAbs + y.natAbs) + ((y.natAbs - x.natAbs % y.natAbs : Nat) : Int)
 rw [decide_eq_true h1]
 show x = -((x.natAbs / y.natAbs * y.natAbs + y.natAbs : Nat) : Int) + ((y.natAbs - x.natAbs % y.natAbs : Nat) : Int)
 generalize x.natAbs % y.natAbs = m at *
 generalize x.natAbs / y.natAbs * y.natAbs = t at *
 omega
end Nat32
namespace Nat32
open Go.Lib (decDigits repeatL)
theorem dd_lt {n : Nat} (h : n < 10) : decDigits n = [UInt8.ofNat (48 + n)] := by rw [decDigits]; simp [h]
theorem dd_ge {n : Nat} (h : ¬ n < 10) : decDigits n = decDigits (n / 10) ++ [UInt8.ofNat (48 + n % 10)] := by rw [decDigits]; simp [h]
theorem dd_ne (n : Nat) : decDigits n ≠ [] := by
 by_cases h : n < 10
 ·rw [dd_lt h]; simp
 ·rw [dd_ge h]; simp
def padr : Nat → Nat → List UInt8
 | 0, _ => []
 | k + 1, r => padr k (r / 10) ++ [UInt8.ofNat (48 + r % 10)]
theorem padr_len (k : Nat) : ∀ r, (padr k r).length = k := by
 induction k with
 | zero => intro r; rfl
 | succ k ih => intro r; simp [padr, ih]
theorem dd_pad {q : Nat} (hq : 0 < q) (k : Nat) : ∀ r, r < 10 ^ k → decDigits (q * 10 ^ k + r) = decDigits q ++ padr k r := by
 induction k with
 | zero => intro r hr; simp at hr; subst hr; simp [padr]
 | succ k ih =>
  intro r hr
  have hp : 10 ^ (k + 1) = 10 ^ k * 10 := Nat.pow_succ ..
  have e : q * 10 ^ (k + 1) = (q * 10 ^ k) * 10 := by rw [hp, Nat.mul_assoc]
  have h1 : 1 ≤ 10 ^ k := Nat.pos_of_ne_zero (by simp)
  have h2 : 1 ≤ q * 10 ^ k := Nat.mul_pos hq h1
  rw [e, dd_ge (by omega), show (q * 10 ^ k * 10 + r) / 10 = q * 10 ^ k + r / 10 by omega, show (q * 10 ^ k * 10 + r) % 10 = r % 10 by omega, ih (r / 10) (by omega)]
  simp [padr]
theorem rep_snoc (l : List UInt8) : ∀ k, repeatL l (k + 1) = repeatL l k ++ l
 | 0 => by simp [repeatL]
 | k + 1 => by
  show l ++ repeatL l (k + 1) = (l ++ repeatL l k) ++ l
  rw [rep_snoc l k, List.append_assoc]
theorem padr_zero (k : Nat) : padr k 0 = repeatL [48] k := by
 induction k with
 | zero => rfl
 | succ k ih => rw [rep_snoc, ← ih]; rfl
theorem rep_len (l : List UInt8) (k : Nat) : (repeatL l k).length = k * l.length := Go.Lib.repeatL_length l k
theorem padr_dd (k : Nat) : ∀ r, r < 10 ^ (k + 1) → padr (k + 1) r = repeatL [48] (k + 1 - (decDigits r).length) ++ decDigits r := by
 induction k with
 | zero => intro r hr; rw [dd_lt (by omega)]; simp [padr, repeatL, Nat.mod_eq_of_lt (show r < 10 by omega)]
 | succ k ih =>
  intro r hr
  have hp : 10 ^ (k + 1 + 1) = 10 ^ (k + 1) * 10 := Nat.pow_succ ..
  rw [padr]
  by_cases h : r < 10
  ·rw [dd_lt h, Nat.div_eq_of_lt h, padr_zero, Nat.mod_eq_of_lt h]; rfl
  ·rw [ih (r / 10) (by omega), dd_ge h]
   simp only [List.length_append, List.length_singleton, List.append_assoc]
   rw [show k + 1 + 1 - ((decDigits (r / 10)).length + 1) = k + 1 - (decDigits (r / 10)).length by omega]
theorem dd_len {k r : Nat} (hr : r < 10 ^ (k + 1)) : (decDigits r).length ≤ k + 1 := by
 have := congrArg List.length (padr_dd k r hr)
 rw [padr_len] at this
 simp only [List.length_append, rep_len, List.length_singleton] at this
 omega
theorem dd_limbs {n m : Nat} (h : (limbs n).length ≤ m) : (decDigits n).length ≤ 10 * m + 1 := by
 have h1 := limbs_len.1 h
 refine dd_len (k := 10 * m) (Nat.lt_of_lt_of_le h1 (Nat.le_trans (Nat.pow_le_pow_left (show 4294967296 ≤ 10 ^ 10 by decide) m) ?_))
 rw [← Nat.pow_mul]
 exact Nat.pow_le_pow_right (by decide) (Nat.le_succ _)
def ddE (n : Nat) : List UInt8 := if n = 0 then [] else decDigits n
def grp (n : Nat) : List UInt8 := if n / 1000000000 = 0 then decDigits (n % 1000000000) else repeatL [48] (9 - (decDigits (n % 1000000000)).length) ++ decDigits (n % 1000000000)
theorem ddE_step {n : Nat} (h : 0 < n) : ddE n = ddE (n / 1000000000) ++ grp n := by
 have hr : n % 1000000000 < 10 ^ (8 + 1) := Nat.mod_lt _ (by decide)
 unfold grp
 by_cases hq : n / 1000000000 = 0
 ·rw [if_pos hq, hq]
  have : n % 1000000000 = n := by omega
  rw [this]
  simp [ddE, show n ≠ 0 by omega]
 ·rw [if_neg hq, show (9 : Nat) = 8 + 1 from rfl, ← padr_dd 8 _ hr]
  have := dd_pad (show 0 < n / 1000000000 by omega) 9 (n % 1000000000) hr
  have e : n / 1000000000 * 10 ^ 9 + n % 1000000000 = n := by
   have : (10 : Nat) ^ 9 = 1000000000 := by decide
   omega
  rw [e] at this
  simp only [ddE, if_neg hq, if_neg (show ¬ n = 0 by omega)]
  exact this
def isD (c : UInt8) : Bool := decide (48 ≤ c.toNat) && decide (c.toNat ≤ 57)
def dval (n : Nat) (l : List UInt8) : Nat := l.foldl (fun n c => 10 * n + (c.toNat - 48)) n
theorem dval_nil (n : Nat) : dval n [] = n := rfl
theorem dval_cons (n : Nat) (c : UInt8) (l : List UInt8) : dval n (c :: l) = dval (10 * n + (c.toNat - 48)) l := by unfold dval; rw [List.foldl_cons]
theorem dval_append (n : Nat) (l m : List UInt8) : dval n (l ++ m) = dval (dval n l) m := List.foldl_append ..
theorem dval_acc (l : List UInt8) : ∀ n, dval n l = n * 10 ^ l.length + dval 0 l := by
 induction l with
 | nil => intro n; rw [dval_nil, dval_nil, List.length_nil, Nat.pow_zero]; omega
 | cons c l ih =>
  intro n
  rw [dval_cons, dval_cons, ih (10 * n + (c.toNat - 48)), ih (10 * 0 + (c.toNat - 48)), List.length_cons, Nat.pow_succ]
  generalize 10 ^ l.length = p
  generalize c.toNat - 48 = d
  generalize dval 0 l = v
  rw [Nat.add_mul, Nat.add_mul, Nat.mul_comm 10 n, Nat.mul_assoc, Nat.mul_comm 10 p]
  omega
theorem dval_lt (l : List UInt8) (h : l.all isD = true) : dval 0 l < 10 ^ l.length := by
 induction l with
 | nil => simp [dval]
 | cons c l ih =>
  simp only [List.all_cons, Bool.and_eq_true, isD, decide_eq_true_eq] at h
  have := ih h.2
  rw [dval_cons, dval_acc, List.length_cons, Nat.pow_succ]
  have h2 : (10 * 0 + (c.toNat - 48)) * 10 ^ l.length ≤ 9 * 10 ^ l.length := Nat.mul_le_mul_right _ (by omega)
  omega
def okD (l : List UInt8) : Bool := !(l.isEmpty || decide (4000 < l.length) || (decide (l.head? = some 48) && decide (1 < l.length))) && l.all isD
end Nat32
namespace Nat32
open Go Go.Dat
theorem vn_limbs_of_vld {a : List Nat} (la : lim a) (h : vld a = true) : limbs (vn a) = a := by rw [vn, val, if_pos h]; exact limbs_nv la h
theorem limbs_1 : limbs 1 = [1] := limbs_one (by decide) (by decide)
theorem vnl {a : List Nat} (hl : lim a) : (limbs (vn a)).length ≤ a.length := by
 rw [← val_limbs hl]; exact val_len a
theorem ladd {p q m : Nat} (h1 : (limbs p).length ≤ m) (h2 : (limbs q).length ≤ m) : (limbs (p + q)).length ≤ m + 1 := by
 rw [limbs_len] at h1 h2 ⊢
 rw [Nat.pow_succ]; omega
def dn (d : Nat) : List Nat := if d = 1 then [] else limbs d
def Q (r : Rat) : DV := .agg [.bool (decide (r.num < 0)), .sl 1 (us (limbs r.num.natAbs)), .sl 1 (us (dn r.den))]
def XQ (neg : Bool) (a d : List Nat) : DV := .agg [.bool neg, .sl 1 (us a), .sl 1 (us d)]
def vldQ (neg : Bool) (a d : List Nat) : Bool := vldI neg a && vld d && (decide (d.length = 0) || (decide (0 < a.length) && decide (¬ vn d = 1) && decide (1 = Nat.gcd (vn a) (vn d))))
def rv (neg : Bool) (a d : List Nat) : Rat := if vldQ neg a d then mkRat (iv neg a) (if d.length = 0 then 1 else vn d) else 0
theorem lim_dn (d : Nat) : lim (dn d) := by unfold dn; split; exact lim_nil; exact lim_limbs _
theorem vld_dn (d : Nat) : vld (dn d) = true := by unfold dn; split; rfl; exact vld_limbs _
theorem dn_len (d : Nat) : (dn d).length ≤ (limbs d).length := by unfold dn; split; simp; exact Nat.le_refl _
theorem dn_one : dn 1 = [] := rfl
theorem dn_len0 {d : Nat} (h : d ≠ 0) : (dn d).length = 0 ↔ d = 1 := by
 unfold dn
 by_cases h1 : d = 1
 ·rw [if_pos h1]; simp [h1]
 ·rw [if_neg h1]
  constructor
  ·intro e; exact absurd (limbs_eq_nil.1 (List.eq_nil_of_length_eq_zero e)) h
  ·intro e; exact absurd e h1
theorem vn_dn {d : Nat} (h : d ≠ 1) : vn (dn d) = d := by unfold dn; rw [if_neg h, vn_limbs]
theorem vldQ_Q (r : Rat) : vldQ (decide (r.num < 0)) (limbs r.num.natAbs) (dn r.den) = true := by
 unfold vldQ
 rw [vldI_I, vld_dn, Bool.true_and, Bool.true_and]
 by_cases h1 : r.den = 1
 ·rw [h1, dn_one]; rfl
 ·have h0 : 0 < r.num.natAbs := by
   rcases Nat.eq_zero_or_pos r.num.natAbs with e | e
   ·exfalso
    have := r.reduced
    rw [e, Nat.coprime_zero_left] at this
    exact h1 this
   ·exact e
  rw [vn_dn h1, vn_limbs, decide_eq_true (limbs_len0.2 h0), decide_eq_true (show ¬ r.den = 1 from h1), decide_eq_true (show 1 = Nat.gcd r.num.natAbs r.den from (show Nat.gcd r.num.natAbs r.den = 1 from r.reduced).symm)]
  simp
theorem rv_Q (r : Rat) : rv (decide (r.num < 0)) (limbs r.num.natAbs) (dn r.den) = r := by
 unfold rv
 rw [vldQ_Q, if_pos rfl, iv_I]
 by_cases h1 : r.den = 1
 ·rw [h1, dn_one, if_pos (show ([] : List Nat).length = 0 from rfl)]
  have := Rat.mkRat_self r
  rwa [h1] at this
 ·rw [if_neg (fun e => h1 ((dn_len0 r.den_nz).1 e)), vn_dn h1, Rat.mkRat_self]
theorem rv_inv {neg : Bool} {a d : List Nat} (h : vldQ neg a d = false) : rv neg a d = 0 := by unfold rv; rw [h]; rfl
theorem rv_parts {neg : Bool} {a d : List Nat} (ld : lim d) (h : vldQ neg a d = true) : (rv neg a d).num = iv neg a ∧ (rv neg a d).den = (if d.length = 0 then 1 else vn d) := by
 unfold rv
 rw [h, if_pos rfl]
 by_cases h0 : d.length = 0
 ·rw [if_pos h0]
  rw [Rat.num_mkRat, Rat.den_mkRat]
  simp
 ·rw [if_neg h0]
  have hv := h
  unfold vldQ at hv
  simp only [Bool.and_eq_true, Bool.or_eq_true, decide_eq_true_eq, h0, false_or] at hv
  obtain ⟨⟨_, hd⟩, ⟨h1, h2⟩, h3⟩ := hv
  replace h3 := h3.symm
  have hne : vn d ≠ 0 := by
   intro e
   rw [e, Nat.gcd_zero_right] at h3
   have : vn d ≠ 0 := by
    have hl := vn_limbs_of_vld ld hd
    intro e2
    rw [e2, limbs_zero] at hl
    rw [← hl] at h0
    exact h0 rfl
   exact this e
  rw [Rat.num_mkRat, Rat.den_mkRat, if_neg hne, if_neg hne, iv_abs, Nat.gcd_comm, h3]
  simp
theorem XQ_Q {neg : Bool} {a d : List Nat} (la : lim a) (ld : lim d) (h : vldQ neg a d = true) : XQ neg a d = Q (rv neg a d) := by
 obtain ⟨h1, h2⟩ := rv_parts ld h
 have hv := h
 unfold vldQ at hv
 simp only [Bool.and_eq_true] at hv
 obtain ⟨⟨hi, hd⟩, h3⟩ := hv
 have hx := X_I la hi
 unfold X I at hx
 injection hx with hx
 injection hx with e1 hx
 injection hx with e2 _
 unfold XQ Q
 rw [h1, h2, e1, e2]
 have e3 : dn (if d.length = 0 then 1 else vn d) = d := by
  by_cases h0 : d.length = 0
  ·rw [if_pos h0, dn_one, List.eq_nil_of_length_eq_zero h0]
  ·rw [if_neg h0]
   simp only [Bool.or_eq_true, Bool.and_eq_true, decide_eq_true_eq, h0, false_or] at h3
   unfold dn
   rw [if_neg h3.1.2]
   exact vn_limbs_of_vld ld hd
 rw [e3]
theorem rv_den (neg : Bool) (a d : List Nat) (ld : lim d) : (limbs (rv neg a d).den).length ≤ max 1 d.length := by
 by_cases h : vldQ neg a d = true
 ·rw [(rv_parts ld h).2]
  by_cases h0 : d.length = 0
  ·rw [if_pos h0, limbs_1]; simp; omega
  ·rw [if_neg h0]; exact Nat.le_trans (vnl ld) (by omega)
 ·rw [rv_inv (by simpa using h), show (0 : Rat).den = 1 from rfl, limbs_1]; simp; omega
theorem rv_num (neg : Bool) (a d : List Nat) (la : lim a) (ld : lim d) : (limbs (rv neg a d).num.natAbs).length ≤ a.length := by
 by_cases h : vldQ neg a d = true
 ·rw [(rv_parts ld h).1]; exact iv_len la neg
 ·rw [rv_inv (by simpa using h), show (0 : Rat).num.natAbs = 0 from rfl, limbs_zero]; simp
theorem ediv_gcd {z : Int} {g : Nat} (h : (g : Int) ∣ z) (hg : 0 < g) : (z / (g : Int)).natAbs = z.natAbs / g ∧ decide (z / (g : Int) < 0) = decide (z < 0) := by
 obtain ⟨c, rfl⟩ := h
 have hg' : (0 : Int) < g := by omega
 rw [Int.mul_ediv_cancel_left _ (by omega), Int.natAbs_mul, Int.natAbs_natCast, Nat.mul_div_cancel_left _ hg]
 refine ⟨rfl, ?_⟩
 rw [decide_eq_decide]
 constructor
 ·intro hc; exact Int.mul_neg_of_pos_of_neg hg' hc
 ·intro hc
  rcases Int.lt_or_le c 0 with k | k
  ·exact k
  ·have := Int.mul_nonneg (Int.le_of_lt hg') k; omega
theorem Q_low (z : Int) (d : Nat) (h : d ≠ 0) : Q (mkRat z d) = .agg [.bool (decide (z < 0)), .sl 1 (us (limbs (z.natAbs / Nat.gcd z.natAbs d))), .sl 1 (us (dn (d / Nat.gcd z.natAbs d)))] := by
 have hg : 0 < Nat.gcd z.natAbs d := Nat.gcd_pos_of_pos_right _ (Nat.pos_of_ne_zero h)
 have hd : ((Nat.gcd z.natAbs d : Nat) : Int) ∣ z := by
  have := Nat.gcd_dvd_left z.natAbs d
  exact Int.ofNat_dvd_left.2 this
 obtain ⟨e1, e2⟩ := ediv_gcd hd hg
 unfold Q
 rw [Rat.num_mkRat, Rat.den_mkRat, if_neg h, if_neg h, Nat.gcd_comm d, e1, e2]
theorem Q_int (z : Int) : Q (z : Rat) = .agg [.bool (decide (z < 0)), .sl 1 (us (limbs z.natAbs)), .sl 1 []] := by
 unfold Q
 rw [Rat.num_intCast, Rat.den_intCast, dn_one, us_nil]
theorem Q0 : Q 0 = .agg [.bool false, .sl 1 [], .sl 1 []] := by
 have := Q_int 0
 rw [show ((0 : Int) : Rat) = 0 from rfl, show (0 : Int).natAbs = 0 from rfl, limbs_zero, us_nil] at this
 exact this
theorem divInt_pos (z : Int) {e : Int} (h : 0 < e) : Rat.divInt z e = mkRat z e.natAbs := by
 obtain ⟨n, rfl⟩ := Int.eq_ofNat_of_zero_le (Int.le_of_lt h)
 exact Rat.divInt_ofNat z n
theorem divInt_neg (z : Int) {e : Int} (h : e < 0) : Rat.divInt z e = mkRat (-z) e.natAbs := by
 rw [← Rat.neg_divInt_neg, divInt_pos _ (by omega), Int.natAbs_neg]
theorem rat_quo (x y : Rat) : Rat.divInt (x.num * y.den) (x.den * y.num) = x / y := by
 rw [Rat.div_def, Rat.inv_def]
 conv => rhs; rw [← Rat.num_divInt_den x]
 rw [Rat.divInt_mul_divInt]
def cmpQ (x y : Rat) : Int := if x < y then -1 else if y < x then 1 else 0
theorem cmpQ_I (x y : Rat) : cmpI (x.num * y.den) (y.num * x.den) = cmpQ x y := by
 unfold cmpI cmpQ
 simp only [Rat.lt_iff]
theorem sign_mk (z : Int) (d : Nat) (h : d ≠ 0) : (mkRat z d).num.sign = z.sign := by
 have hg : 0 < Nat.gcd z.natAbs d := Nat.gcd_pos_of_pos_right _ (Nat.pos_of_ne_zero h)
 rw [Rat.num_mkRat, if_neg h, Nat.gcd_comm]
 obtain ⟨c, hc⟩ : ((Nat.gcd z.natAbs d : Nat) : Int) ∣ z := Int.ofNat_dvd_left.2 (Nat.gcd_dvd_left z.natAbs d)
 generalize Nat.gcd z.natAbs d = g at *
 rw [hc, Int.mul_ediv_cancel_left _ (by omega), Int.sign_mul, Int.sign_eq_one_of_pos (a := (g : Int)) (by omega), Int.one_mul]
theorem sign_sub (x y : Rat) : (x - y).num.sign = cmpQ x y := by
 rw [Rat.sub_def', sign_mk _ _ (Nat.mul_ne_zero x.den_nz y.den_nz), ← cmpQ_I]
 unfold cmpI
 generalize x.num * y.den = p
 generalize y.num * x.den = q
 split
 ·exact Int.sign_eq_neg_one_of_neg (by omega)
 ·split
  ·exact Int.sign_eq_one_of_pos (by omega)
  ·rw [show p - q = 0 by omega]; rfl
def RB (r : Rat) (m : Nat) : Prop := (limbs r.num.natAbs).length ≤ m ∧ (limbs r.den).length ≤ m
theorem RB.mono {r : Rat} {m n : Nat} (h : RB r m) (hm : m ≤ n) : RB r n := ⟨Nat.le_trans h.1 hm, Nat.le_trans h.2 hm⟩
theorem RB_rv {neg : Bool} {a d : List Nat} {m : Nat} (la : lim a) (ld : lim d) (ha : a.length ≤ m) (hd : d.length ≤ m) (hm : 1 ≤ m) : RB (rv neg a d) m :=
 ⟨Nat.le_trans (rv_num neg a d la ld) ha, Nat.le_trans (rv_den neg a d ld) (by omega)⟩
theorem RB_mk {z : Int} {d m : Nat} (h : d ≠ 0) (h1 : (limbs z.natAbs).length ≤ m) (h2 : (limbs d).length ≤ m) : RB (mkRat z d) m := by
 have hg : 0 < Nat.gcd z.natAbs d := Nat.gcd_pos_of_pos_right _ (Nat.pos_of_ne_zero h)
 have hd : ((Nat.gcd z.natAbs d : Nat) : Int) ∣ z := Int.ofNat_dvd_left.2 (Nat.gcd_dvd_left z.natAbs d)
 unfold RB
 rw [Rat.num_mkRat, Rat.den_mkRat, if_neg h, if_neg h, Nat.gcd_comm d, (ediv_gcd hd hg).1]
 exact ⟨Nat.le_trans (len_mono (Nat.div_le_self _ _)) h1, Nat.le_trans (len_mono (Nat.div_le_self _ _)) h2⟩
theorem zl_add {x y : Int} {m : Nat} (h1 : (limbs x.natAbs).length ≤ m) (h2 : (limbs y.natAbs).length ≤ m) : (limbs (x + y).natAbs).length ≤ m + 1 := Nat.le_trans (len_mono (show _ ≤ x.natAbs + y.natAbs by omega)) (ladd h1 h2)
theorem zl_mul {x y : Int} {m n : Nat} (h1 : (limbs x.natAbs).length ≤ m) (h2 : (limbs y.natAbs).length ≤ n) : (limbs (x * y).natAbs).length ≤ m + n := by rw [Int.natAbs_mul]; exact len_mul h1 h2
theorem RB_add {x y : Rat} {m n : Nat} (h1 : RB x m) (h2 : RB y n) : RB (x + y) (m + n + 1) := by
 rw [Rat.add_def']
 refine RB_mk (Nat.mul_ne_zero x.den_nz y.den_nz) (zl_add (zl_mul h1.1 (by rw [Int.natAbs_natCast]; exact h2.2)) ?_) (Nat.le_trans (len_mul h1.2 h2.2) (by omega))
 have := zl_mul (x := y.num) (y := (x.den : Int)) h2.1 (by rw [Int.natAbs_natCast]; exact h1.2)
 omega
theorem RB_mul {x y : Rat} {m n : Nat} (h1 : RB x m) (h2 : RB y n) : RB (x * y) (m + n) := by
 rw [Rat.mul_def']
 exact RB_mk (Nat.mul_ne_zero x.den_nz y.den_nz) (zl_mul h1.1 h2.1) (len_mul h1.2 h2.2)
theorem RB_neg {x : Rat} {m : Nat} (h : RB x m) : RB (-x) m := by unfold RB; rw [Rat.neg_num, Rat.neg_den, Int.natAbs_neg]; exact h
theorem RB_sub {x y : Rat} {m n : Nat} (h1 : RB x m) (h2 : RB y n) : RB (x - y) (m + n + 1) := by
 rw [Rat.sub_eq_add_neg]; exact RB_add h1 (RB_neg h2)
theorem RB_int {z : Int} {m : Nat} (h : (limbs z.natAbs).length ≤ m) (hm : 1 ≤ m) : RB (z : Rat) m := by
 unfold RB
 rw [Rat.num_intCast, Rat.den_intCast, limbs_1]
 exact ⟨h, hm⟩
end Nat32
namespace Nat32
open Go Go.Dat
open Go.Lib (decDigits)
def fi (p : UInt8 → Bool) : List UInt8 → Nat
 | [] => 0
 | c :: t => if p c then 0 else fi p t + 1
theorem fi_le (p : UInt8 → Bool) : ∀ l, fi p l ≤ l.length
 | [] => Nat.le_refl _
 | c :: t => by
  unfold fi
  split
  ·exact Nat.zero_le _
  ·have := fi_le p t; simp; omega
theorem fi_at (p : UInt8 → Bool) : ∀ l, fi p l < l.length → p (l.getD (fi p l) 0) = true
 | [], h => by simp at h
 | c :: t, h => by
  unfold fi at h ⊢
  by_cases hc : p c = true
  ·rw [if_pos hc]; exact hc
  ·rw [if_neg hc] at h ⊢
   rw [List.getD_cons_succ]
   exact fi_at p t (by simp at h; omega)
theorem fi_before (p : UInt8 → Bool) : ∀ l i, i < fi p l → p (l.getD i 0) = false
 | [], i, h => by simp [fi] at h
 | c :: t, i, h => by
  unfold fi at h
  by_cases hc : p c = true
  ·rw [if_pos hc] at h; omega
  ·rw [if_neg hc] at h
   cases i with
   | zero => simpa using hc
   | succ i => rw [List.getD_cons_succ]; exact fi_before p t i (by omega)
def is47 (c : UInt8) : Bool := decide (c = 47)
def is46 (c : UInt8) : Bool := decide (c = 46)
def isE (c : UInt8) : Bool := decide (c = 101) || decide (c = 69)
def digs (f : List UInt8) : Bool := decide (0 < f.length) && f.all isD
def decN (m : List UInt8) : List UInt8 := m.take (fi is46 m)
def decF (m : List UInt8) : List UInt8 := m.drop (fi is46 m + 1)
def decOk (m : List UInt8) : Bool := okD (decN m) && (decide (fi is46 m = m.length) || digs (decF m)) && decide ((decN m).length + (decF m).length ≤ 4000)
def expD (e : List UInt8) : List UInt8 := if e.head? = some 45 then e.tail else e
def expOk (e : List UInt8) : Bool := okD (expD e) && decide (dval 0 (expD e) ≤ 40)
def scl (neg : Bool) (n : Int) (d k : Nat) : Rat := if neg then mkRat n (d * 10 ^ k) else mkRat (n * 10 ^ k) d
def unsQ (s : List UInt8) : Option Rat :=
 if fi is47 s < s.length then
  if okD (s.take (fi is47 s)) && okD (s.drop (fi is47 s + 1)) && decide (0 < dval 0 (s.drop (fi is47 s + 1))) then some (mkRat (dval 0 (s.take (fi is47 s)) : Nat) (dval 0 (s.drop (fi is47 s + 1)))) else none
 else if fi isE s < s.length then
  if expOk (s.drop (fi isE s + 1)) && decOk (s.take (fi isE s)) then
   some (scl (decide ((s.drop (fi isE s + 1)).head? = some 45)) (dval 0 (decN (s.take (fi isE s)) ++ decF (s.take (fi isE s))) : Nat) (10 ^ (decF (s.take (fi isE s))).length) (dval 0 (expD (s.drop (fi isE s + 1)))))
  else none
 else if decOk s then some (mkRat (dval 0 (decN s ++ decF s) : Nat) (10 ^ (decF s).length)) else none
def negQ (neg : Bool) (r : Option Rat) : Option Rat := if neg then r.map (fun x => -x) else r
def parseQ (l : List UInt8) : Option Rat := negQ (decide (l.head? = some 45)) (unsQ (if l.head? = some 45 then l.tail else l))
def resQ (r : Option Rat) : DV := match r with | some x => .tup [Q x, .bool true] | none => .tup [Q 0, .bool false]
def rnd (a d : Nat) : Nat := if d < 2 * (a % d) ∨ (2 * (a % d) = d ∧ a / d % 2 = 1) then a / d + 1 else a / d
def padz (n : Nat) (l : List UInt8) : List UInt8 := List.replicate (n - l.length) 48 ++ l
def pointed (k : Nat) (l : List UInt8) : List UInt8 := if 0 < k then l.take (l.length - k) ++ 46 :: l.drop (l.length - k) else l
def decS (r : Rat) (k : Nat) : List UInt8 :=
 if r.num < 0 ∧ 0 < rnd (r.num.natAbs * 10 ^ k) r.den then 45 :: pointed k (padz (k + 1) (decDigits (rnd (r.num.natAbs * 10 ^ k) r.den)))
 else pointed k (padz (k + 1) (decDigits (rnd (r.num.natAbs * 10 ^ k) r.den)))
theorem rnd_len {a d m : Nat} (h : (limbs a).length ≤ m) : (limbs (rnd a d)).length ≤ m + 1 := by
 have h1 : rnd a d ≤ a + 1 := by
  have := Nat.div_le_self a d
  unfold rnd; split <;> omega
 have h2 := ladd (m := m + 1 - 1) (p := a) (q := 1) (by omega)
 refine Nat.le_trans (len_mono h1) ?_
 by_cases hm : 1 ≤ m
 ·exact ladd h (by rw [limbs_1]; exact hm)
 ·have h0 : a = 0 := limbs_eq_nil.1 (List.eq_nil_of_length_eq_zero (by omega))
  rw [h0, limbs_1]; simp
theorem padz_len (n : Nat) (l : List UInt8) : (padz n l).length = max n l.length := by unfold padz; simp; omega
theorem okD_iff' (l : List UInt8) : okD l = true ↔ l ≠ [] ∧ l.length ≤ 4000 ∧ ¬ (l.head? = some 48 ∧ 1 < l.length) ∧ l.all isD = true := by
 unfold okD
 cases l with
 | nil => simp
 | cons c l =>
  simp only [List.isEmpty_cons, Bool.false_or, Bool.and_eq_true, Bool.not_eq_true', Bool.or_eq_false_iff, decide_eq_false_iff_not, Bool.and_eq_false_iff]
  constructor
  ·rintro ⟨⟨h1, h2⟩, h3⟩
   exact ⟨by simp, by omega, fun h => h2.elim (fun e => e h.1) (fun e => e h.2), h3⟩
  ·rintro ⟨_, h1, h2, h3⟩
   refine ⟨⟨by omega, ?_⟩, h3⟩
   by_cases e : (c :: l).head? = some 48
   ·exact .inr fun h => h2 ⟨e, h⟩
   ·exact .inl e
theorem ten_ne (k : Nat) : 10 ^ k ≠ 0 := Nat.pos_iff_ne_zero.1 (Nat.pow_pos (by decide))
theorem mk_num (z : Int) (d : Nat) (h : d ≠ 0) : (mkRat z d).num.natAbs * d = z.natAbs * (mkRat z d).den ∧ ((mkRat z d).num < 0 ↔ z < 0) := by
 have hg : 0 < Nat.gcd z.natAbs d := Nat.gcd_pos_of_pos_right _ (Nat.pos_of_ne_zero h)
 have hd : ((Nat.gcd z.natAbs d : Nat) : Int) ∣ z := Int.ofNat_dvd_left.2 (Nat.gcd_dvd_left z.natAbs d)
 obtain ⟨e1, e2⟩ := ediv_gcd hd hg
 rw [Rat.num_mkRat, Rat.den_mkRat, if_neg h, if_neg h, Nat.gcd_comm d, e1]
 refine ⟨?_, ?_⟩
 ·obtain ⟨x, hx⟩ := Nat.gcd_dvd_left z.natAbs d
  obtain ⟨y, hy⟩ := Nat.gcd_dvd_right z.natAbs d
  generalize Nat.gcd z.natAbs d = g at *
  rw [hx, hy, Nat.mul_div_cancel_left _ hg, Nat.mul_div_cancel_left _ hg, Nat.mul_left_comm, Nat.mul_assoc]
 ·rw [decide_eq_decide] at e2; exact e2
def absQ (r : Rat) : Rat := if r.num < 0 then -r else r
theorem absQ_mk (z : Int) (d : Nat) (h : d ≠ 0) : absQ (mkRat z d) = mkRat (z.natAbs : Nat) d := by
 unfold absQ
 by_cases hz : z < 0
 ·rw [if_pos ((mk_num z d h).2.2 hz), Rat.neg_mkRat]; congr 1; omega
 ·rw [if_neg (fun e => hz ((mk_num z d h).2.1 e))]; congr 1; omega
def fmtZ (z : Int) : List UInt8 := if z < 0 then 45 :: decDigits z.natAbs else decDigits z.natAbs
def fmtQ (r : Rat) : List UInt8 := fmtZ r.num ++ (if r.den = 1 then [] else 47 :: decDigits r.den)
def isC (c x : UInt8) : Bool := decide (x = c)
theorem isC47 : isC 47 = is47 := rfl
theorem isC46 : isC 46 = is46 := rfl
def idx (p : UInt8 → Bool) (l : List UInt8) : Int := if fi p l < l.length then (fi p l : Int) else -1
theorem idx_step (p : UInt8 → Bool) (b : UInt8) (l : List UInt8) : idx p (b :: l) = if p b then 0 else if idx p l = -1 then -1 else idx p l + 1 := by
 by_cases h : p b = true
 ·have e1 : fi p (b :: l) = 0 := by simp [fi, h]
  rw [if_pos h]
  unfold idx
  simp only [e1, List.length_cons]
  split <;> omega
 ·have e1 : fi p (b :: l) = fi p l + 1 := by simp [fi, h]
  rw [if_neg h]
  unfold idx
  simp only [e1, List.length_cons]
  (repeat' split) <;> omega
theorem beq_dec (a b : UInt8) : (a == b) = decide (a = b) := by
 by_cases h : a = b
 ·rw [decide_eq_true h, h]; exact beq_self_eq_true b
 ·rw [decide_eq_false h]; exact beq_eq_false_iff_ne.2 h
theorem indexByte_idx (c : UInt8) : ∀ l : List UInt8, Lib.indexByte l c = idx (isC c) l
 | [] => rfl
 | b :: l => by
  rw [idx_step, Lib.indexByte, indexByte_idx c l]
  have e : (b == c) = isC c b := by unfold isC; exact beq_dec b c
  rw [e]
  simp only [beq_iff_eq]
theorem indexAny_idx : ∀ l : List UInt8, Lib.indexAny l [101, 69] = idx isE l
 | [] => rfl
 | b :: l => by
  rw [idx_step, Lib.indexAny, indexAny_idx l]
  have e : ([101, 69] : List UInt8).contains b = isE b := by
   unfold isE
   simp only [List.contains_cons, List.contains_nil, Bool.or_false, beq_dec]
  rw [e]
  simp only [beq_iff_eq]
theorem idx_ge (p : UInt8 → Bool) (l : List UInt8) : decide (0 ≤ idx p l) = decide (fi p l < l.length) := by
 rw [decide_eq_decide]; unfold idx; split <;> omega
theorem idx_of {p : UInt8 → Bool} {l : List UInt8} (h : fi p l < l.length) : idx p l = (fi p l : Int) := by unfold idx; rw [if_pos h]
theorem hasPrefix45 (l : List UInt8) : Lib.hasPrefix l [45] = decide (l.head? = some 45) := by
 unfold Lib.hasPrefix
 cases l with
 | nil => rfl
 | cons c t =>
  rw [List.head?_cons]
  by_cases h : c = 45
  ·subst h; simp [List.isPrefixOf]
  ·rw [decide_eq_false (fun e => h (Option.some.inj e))]
   simp [List.isPrefixOf]; exact fun e => h e.symm
theorem trimPrefix45 (l : List UInt8) : Lib.trimPrefix l [45] = expD l := by
 unfold Lib.trimPrefix expD
 rw [hasPrefix45]
 by_cases h : l.head? = some 45
 ·rw [if_pos (decide_eq_true h), if_pos h]; exact List.drop_one
 ·rw [if_neg (by simpa using h), if_neg h]
def sig (l : List UInt8) : List UInt8 := if Lib.trimLeftB l 48 = [] then [48] else Lib.trimLeftB l 48
theorem trimL_cons (c : UInt8) (l : List UInt8) : Lib.trimLeftB (c :: l) 48 = if c = 48 then Lib.trimLeftB l 48 else c :: l := by
 unfold Lib.trimLeftB
 rw [List.dropWhile_cons]
 by_cases h : c = 48
 ·rw [if_pos h, if_pos (by simp [h])]
 ·rw [if_neg h, if_neg (by simpa using h)]
theorem trimL_len : ∀ l : List UInt8, (Lib.trimLeftB l 48).length ≤ l.length
 | [] => Nat.le_refl _
 | c :: l => by
  rw [trimL_cons]
  split
  ·exact Nat.le_trans (trimL_len l) (by simp)
  ·exact Nat.le_refl _
theorem trimL_spec : ∀ l : List UInt8, l.all isD = true → (Lib.trimLeftB l 48).all isD = true ∧ ¬ (Lib.trimLeftB l 48).head? = some 48 ∧ dval 0 (Lib.trimLeftB l 48) = dval 0 l
 | [], _ => ⟨rfl, by simp [Lib.trimLeftB], rfl⟩
 | c :: l, h => by
  rw [trimL_cons]
  rw [List.all_cons, Bool.and_eq_true] at h
  by_cases hc : c = 48
  ·rw [if_pos hc]
   obtain ⟨h1, h2, h3⟩ := trimL_spec l h.2
   refine ⟨h1, h2, h3.trans ?_⟩
   subst hc
   rw [dval_cons]; rfl
  ·rw [if_neg hc]
   exact ⟨by rw [List.all_cons, h.1, h.2]; rfl, by rw [List.head?_cons]; exact fun e => hc (Option.some.inj e), rfl⟩
theorem sig_ok {l : List UInt8} (h : l.all isD = true) (hl : l.length ≤ 4000) : okD (sig l) = true ∧ dval 0 (sig l) = dval 0 l := by
 obtain ⟨h1, h2, h3⟩ := trimL_spec l h
 have h4 := trimL_len l
 unfold sig
 by_cases h0 : Lib.trimLeftB l 48 = []
 ·rw [if_pos h0]
  rw [h0] at h3
  exact ⟨rfl, h3⟩
 ·rw [if_neg h0]
  exact ⟨(okD_iff' _).2 ⟨h0, by omega, fun h => h2 h.1, h1⟩, h3⟩
def expV (e : List UInt8) : Int := if e.head? = some 45 then -((dval 0 (expD e) : Nat) : Int) else ((dval 0 (expD e) : Nat) : Int)
def expR (e : List UInt8) : DV := if expOk e then .tup [.int .i64 (expV e), .bool true] else .tup [.int .i64 0, .bool false]
def pn (a : List UInt8) : Nat := if okD a then dval 0 a else 0
def mantP (m : List UInt8) (k : Int) : Option (Nat × Nat) :=
 if decOk m then
  if k < 0 then some (dval 0 (decN m ++ decF m), 10 ^ (decF m).length * 10 ^ k.natAbs) else some (dval 0 (decN m ++ decF m) * 10 ^ k.natAbs, 10 ^ (decF m).length)
 else none
def unsP (s : List UInt8) : Option (Nat × Nat) :=
 if fi is47 s < s.length then
  if okD (s.take (fi is47 s)) && okD (s.drop (fi is47 s + 1)) && decide (0 < dval 0 (s.drop (fi is47 s + 1))) then some (dval 0 (s.take (fi is47 s)), dval 0 (s.drop (fi is47 s + 1))) else none
 else if fi isE s < s.length then
  if expOk (s.drop (fi isE s + 1)) then mantP (s.take (fi isE s)) (expV (s.drop (fi isE s + 1))) else none
 else mantP s 0
theorem expV_lt (e : List UInt8) : expV e < 0 ↔ e.head? = some 45 ∧ 0 < dval 0 (expD e) := by
 unfold expV
 by_cases h : e.head? = some 45
 ·rw [if_pos h]; constructor
  ·intro k; exact ⟨h, by omega⟩
  ·intro k; have := k.2; omega
 ·rw [if_neg h]; constructor
  ·intro k; omega
  ·intro k; exact absurd k.1 h
theorem expV_abs (e : List UInt8) : (expV e).natAbs = dval 0 (expD e) := by unfold expV; split <;> omega
theorem unsQ_P (s : List UInt8) : unsQ s = (unsP s).map fun p => mkRat (p.1 : Nat) p.2 := by
 unfold unsQ unsP
 by_cases h1 : fi is47 s < s.length
 ·rw [if_pos h1, if_pos h1]
  split <;> rfl
 ·rw [if_neg h1, if_neg h1]
  by_cases h2 : fi isE s < s.length
  ·rw [if_pos h2, if_pos h2]
   generalize s.drop (fi isE s + 1) = e
   generalize s.take (fi isE s) = m
   by_cases h3 : expOk e = true
   ·rw [h3, Bool.true_and, if_pos rfl]
    unfold mantP
    by_cases h4 : decOk m = true
    ·rw [h4, if_pos rfl, if_pos rfl]
     rw [expV_abs]
     by_cases h5 : expV e < 0
     ·have h6 := (expV_lt e).1 h5
      rw [if_pos h5, decide_eq_true h6.1]
      rfl
     ·rw [if_neg h5]
      by_cases h6 : e.head? = some 45
      ·have h7 : dval 0 (expD e) = 0 := by
        have : ¬ 0 < dval 0 (expD e) := fun k => h5 ((expV_lt e).2 ⟨h6, k⟩)
        omega
       rw [decide_eq_true h6, h7]
       unfold scl
       simp
      ·rw [decide_eq_false h6]
       unfold scl
       simp
    ·have h4 : decOk m = false := by simpa using h4
     rw [h4]; rfl
   ·have h3 : expOk e = false := by simpa using h3
    rw [h3, Bool.false_and]; rfl
  ·rw [if_neg h2, if_neg h2]
   unfold mantP
   by_cases h4 : decOk s = true
   ·rw [h4, if_pos rfl, if_pos rfl, if_neg (by decide)]
    simp
   ·have h4 : decOk s = false := by simpa using h4
    rw [h4]; rfl
theorem mantP_pos {m : List UInt8} {k : Int} {n d : Nat} (h : mantP m k = some (n, d)) : 0 < d := by
 unfold mantP at h
 split at h
 ·split at h
  ·simp only [Option.some.injEq, Prod.mk.injEq] at h
   rw [← h.2]; exact Nat.mul_pos (Nat.pow_pos (by decide)) (Nat.pow_pos (by decide))
  ·simp only [Option.some.injEq, Prod.mk.injEq] at h
   rw [← h.2]; exact Nat.pow_pos (by decide)
 ·cases h
theorem unsP_pos {s : List UInt8} {n d : Nat} (h : unsP s = some (n, d)) : 0 < d := by
 unfold unsP at h
 split at h
 ·split at h
  ·rename_i h1
   simp only [Bool.and_eq_true, decide_eq_true_eq] at h1
   simp only [Option.some.injEq, Prod.mk.injEq] at h
   rw [← h.2]; exact h1.2
  ·cases h
 ·split at h
  ·split at h
   ·exact mantP_pos h
   ·cases h
  ·exact mantP_pos h
theorem parseQ_P (l : List UInt8) : parseQ l = (unsP (expD l)).map fun p => mkRat (sgn (decide (l.head? = some 45)) p.1) p.2 := by
 unfold parseQ
 rw [show (if l.head? = some 45 then l.tail else l) = expD l from rfl, unsQ_P]
 unfold negQ
 by_cases h : l.head? = some 45
 ·rw [decide_eq_true h, if_pos rfl]
  cases unsP (expD l) with
  | none => rfl
  | some p => simp only [Option.map_some, Rat.neg_mkRat]; rfl
 ·rw [decide_eq_false h, if_neg (by decide)]
  rfl
theorem okD_all {l : List UInt8} (h : okD l = true) : l.all isD = true := ((okD_iff' l).1 h).2.2.2
theorem dval_le {l : List UInt8} (h : l.all isD = true) {m : Nat} (hm : l.length ≤ m) : (limbs (dval 0 l)).length ≤ m :=
 limbs_len.2 (Nat.lt_of_lt_of_le (dval_lt l h) (Nat.le_trans (Nat.pow_le_pow_left (by decide) _) (Nat.pow_le_pow_right (by decide) hm)))
theorem ten_le (k : Nat) : (limbs (10 ^ k)).length ≤ k + 1 := by
 rw [limbs_len]
 refine Nat.lt_of_le_of_lt (Nat.pow_le_pow_left (show 10 ≤ 4294967296 by decide) k) ?_
 exact Nat.pow_lt_pow_right (by decide) (by omega)
theorem decN_len (m : List UInt8) : (decN m).length + (decF m).length ≤ m.length := by
 unfold decN decF; rw [List.length_take, List.length_drop]; omega
theorem decOk_all {m : List UInt8} (h : decOk m = true) : (decN m ++ decF m).all isD = true ∧ (decN m ++ decF m).length ≤ 4000 := by
 unfold decOk at h
 simp only [Bool.and_eq_true, Bool.or_eq_true, decide_eq_true_eq] at h
 obtain ⟨⟨h1, h2⟩, h3⟩ := h
 refine ⟨?_, by rw [List.length_append]; exact h3⟩
 rw [List.all_append, okD_all h1, Bool.true_and]
 rcases h2 with h2 | h2
 ·unfold decF; rw [h2, List.drop_eq_nil_of_le (by omega)]; rfl
 ·unfold digs at h2; rw [Bool.and_eq_true] at h2; exact h2.2
theorem mantP_len {m : List UInt8} {k : Int} {n d : Nat} (h : mantP m k = some (n, d)) (hl : m.length ≤ 900) (hk : k.natAbs ≤ 40) : (limbs n).length ≤ 941 ∧ (limbs d).length ≤ 942 := by
 have hd := decN_len m
 unfold mantP at h
 split at h
 ·rename_i ho
  obtain ⟨h1, h2⟩ := decOk_all ho
  have hv := dval_le h1 (m := 900) (by rw [List.length_append]; omega)
  have t1 := ten_le (decF m).length
  have t2 := ten_le k.natAbs
  split at h
  ·simp only [Option.some.injEq, Prod.mk.injEq] at h
   rw [← h.1, ← h.2]
   exact ⟨by omega, Nat.le_trans (len_mul t1 t2) (by omega)⟩
  ·simp only [Option.some.injEq, Prod.mk.injEq] at h
   rw [← h.1, ← h.2]
   exact ⟨Nat.le_trans (len_mul hv t2) (by omega), by omega⟩
 ·cases h
theorem expOk_le {e : List UInt8} (h : expOk e = true) : (expV e).natAbs ≤ 40 := by
 rw [expV_abs]
 unfold expOk at h
 simp only [Bool.and_eq_true, decide_eq_true_eq] at h
 exact h.2
theorem unsP_len {s : List UInt8} {n d : Nat} (h : unsP s = some (n, d)) (hl : s.length ≤ 900) : (limbs n).length ≤ 941 ∧ (limbs d).length ≤ 942 := by
 unfold unsP at h
 split at h
 ·split at h
  ·rename_i h1
   simp only [Bool.and_eq_true, decide_eq_true_eq] at h1
   simp only [Option.some.injEq, Prod.mk.injEq] at h
   rw [← h.1, ← h.2]
   exact ⟨dval_le (okD_all h1.1.1) (by rw [List.length_take]; omega), dval_le (okD_all h1.1.2) (by rw [List.length_drop]; omega)⟩
  ·cases h
 ·split at h
  ·split at h
   ·rename_i h1
    exact mantP_len h (by rw [List.length_take]; omega) (expOk_le h1)
   ·cases h
  ·exact mantP_len h hl (by decide)
theorem fmtZ_len {z : Int} {m : Nat} (h : (limbs z.natAbs).length ≤ m) : (fmtZ z).length ≤ 10 * m + 2 := by
 have := dd_limbs h
 unfold fmtZ; split
 ·simp; omega
 ·omega
theorem fmtQ_len {r : Rat} {m : Nat} (h : RB r m) : (fmtQ r).length ≤ 20 * m + 4 := by
 have h1 := fmtZ_len h.1
 have h2 := dd_limbs h.2
 unfold fmtQ
 rw [List.length_append]
 split
 ·simp; omega
 ·simp; omega
theorem decS_len {r : Rat} {m k : Nat} (h : RB r m) : (decS r k).length ≤ 10 * (m + k + 2) + k + 4 := by
 have h1 : (limbs (rnd (r.num.natAbs * 10 ^ k) r.den)).length ≤ m + k + 2 := Nat.le_trans (rnd_len (m := m + (k + 1)) (len_mul h.1 (ten_le k))) (by omega)
 have h2 := dd_limbs h1
 have h3 := padz_len (k + 1) (decDigits (rnd (r.num.natAbs * 10 ^ k) r.den))
 have hp : (pointed k (padz (k + 1) (decDigits (rnd (r.num.natAbs * 10 ^ k) r.den)))).length ≤ (padz (k + 1) (decDigits (rnd (r.num.natAbs * 10 ^ k) r.den))).length + 1 := by
  unfold pointed; split
  ·simp; omega
  ·omega
 unfold decS
 split
 ·simp; omega
 ·omega
theorem okD_45 (l : List UInt8) : okD (45 :: l) = false := by
 rw [← Bool.not_eq_true, okD_iff']
 intro h
 have := h.2.2.2
 rw [List.all_cons] at this
 simp [isD] at this
theorem fi_45 {p : UInt8 → Bool} (hp : p 45 = false) (l : List UInt8) : fi p (45 :: l) = fi p l + 1 := by
 simp [fi, hp]
theorem decOk_45 (l : List UInt8) : decOk (45 :: l) = false := by
 unfold decOk decN
 rw [fi_45 rfl, List.take_succ_cons, okD_45]
 rfl
theorem unsQ_45 (l : List UInt8) : unsQ (45 :: l) = none := by
 unfold unsQ
 rw [fi_45 (p := is47) rfl]
 split
 ·rw [List.take_succ_cons, okD_45]; rfl
 ·rw [fi_45 (p := isE) rfl]
  split
  ·rw [List.take_succ_cons, decOk_45, Bool.and_false]; rfl
  ·rw [decOk_45]; rfl
theorem mk_mul_nat (n : Int) (d T : Nat) : mkRat n d * (((T : Nat) : Int) : Rat) = mkRat (n * T) d := by
 rw [show (((T : Nat) : Int) : Rat) = mkRat (T : Int) 1 from (Rat.mkRat_one _).symm, Rat.mkRat_mul_mkRat, Nat.mul_one]
theorem mk_div_nat (n : Int) (d T : Nat) : mkRat n d / (((T : Nat) : Int) : Rat) = mkRat n (d * T) := by
 rw [Rat.div_def, Rat.inv_def, Rat.num_intCast, Rat.den_intCast, Rat.divInt_ofNat, Rat.mkRat_mul_mkRat]
 simp
theorem scl_mul (neg : Bool) (n : Int) (d k : Nat) : scl neg n d k = if neg then mkRat n d / (((10 ^ k : Nat) : Int) : Rat) else mkRat n d * (((10 ^ k : Nat) : Int) : Rat) := by
 unfold scl
 cases neg
 ·rw [if_neg (by decide), if_neg (by decide), mk_mul_nat]; simp
 ·rw [if_pos rfl, if_pos rfl, mk_div_nat]
theorem ten_cast_ne (k : Nat) : (((10 ^ k : Nat) : Int) : Rat) ≠ 0 := fun h => by
 have := congrArg Rat.num h
 rw [Rat.num_intCast] at this
 have h2 := ten_ne k
 rw [show (0 : Rat).num = 0 from rfl] at this
 omega
theorem digs_ne {l : List UInt8} (h : okD l = true) : l ≠ [] := ((okD_iff' l).1 h).1
theorem mantP_lenB {B : Nat} {m : List UInt8} {k : Int} {n d : Nat} (h : mantP m k = some (n, d)) (hl : m.length ≤ B) (hk : k.natAbs ≤ 40) : (limbs n).length ≤ B + 41 ∧ (limbs d).length ≤ B + 42 := by
 have hd := decN_len m
 unfold mantP at h
 split at h
 ·rename_i ho
  obtain ⟨h1, h2⟩ := decOk_all ho
  have hv := dval_le h1 (m := B) (by rw [List.length_append]; omega)
  have t1 := ten_le (decF m).length
  have t2 := ten_le k.natAbs
  split at h
  ·simp only [Option.some.injEq, Prod.mk.injEq] at h
   rw [← h.1, ← h.2]
   exact ⟨by omega, Nat.le_trans (len_mul t1 t2) (by omega)⟩
  ·simp only [Option.some.injEq, Prod.mk.injEq] at h
   rw [← h.1, ← h.2]
   exact ⟨Nat.le_trans (len_mul hv t2) (by omega), by omega⟩
 ·cases h
theorem unsP_lenB {B : Nat} {s : List UInt8} {n d : Nat} (h : unsP s = some (n, d)) (hl : s.length ≤ B) : (limbs n).length ≤ B + 41 ∧ (limbs d).length ≤ B + 42 := by
 unfold unsP at h
 split at h
 ·split at h
  ·rename_i h1
   simp only [Bool.and_eq_true, decide_eq_true_eq] at h1
   simp only [Option.some.injEq, Prod.mk.injEq] at h
   rw [← h.1, ← h.2]
   exact ⟨dval_le (okD_all h1.1.1) (by rw [List.length_take]; omega), dval_le (okD_all h1.1.2) (by rw [List.length_drop]; omega)⟩
  ·cases h
 ·split at h
  ·split at h
   ·rename_i h1
    exact mantP_lenB h (by rw [List.length_take]; omega) (expOk_le h1)
   ·cases h
  ·exact mantP_lenB h hl (by decide)
end Nat32
namespace Nat32
open Go Go.Dat
theorem mk_split (A D : Nat) (h : 0 < D) : mkRat (A : Int) D = mkRat ((A % D : Nat) : Int) D + (((A / D : Nat) : Int) : Rat) := by
 rw [show (((A / D : Nat) : Int) : Rat) = mkRat ((A / D : Nat) : Int) 1 from (Rat.mkRat_one _).symm, Rat.mkRat_add_mkRat _ _ (by omega) (by decide), Nat.mul_one]
 congr 1
 have := Nat.mod_add_div A D
 rw [Nat.mul_comm] at this
 have h2 : ((A % D + A / D * D : Nat) : Int) = (A : Int) := by rw [this]
 rw [← h2]
 simp
theorem mk_frac (A D : Nat) (h : 0 < D) : mkRat (A : Int) D - (((A / D : Nat) : Int) : Rat) = mkRat ((A % D : Nat) : Int) D := by
 rw [mk_split A D h, Rat.sub_eq_add_neg, Rat.add_assoc, Rat.add_neg_cancel, Rat.add_zero]
theorem mk_floor (A D : Nat) (h : 0 < D) : (mkRat (A : Int) D).floor = ((A / D : Nat) : Int) := by
 rw [Rat.floor_def, Rat.num_mkRat, Rat.den_mkRat, if_neg (by omega), if_neg (by omega), Int.natAbs_natCast]
 obtain ⟨a, ha⟩ := Nat.gcd_dvd_right D A
 obtain ⟨d, hd⟩ := Nat.gcd_dvd_left D A
 have hg : 0 < Nat.gcd D A := Nat.gcd_pos_of_pos_left _ h
 generalize Nat.gcd D A = g at *
 subst hd
 subst ha
 rw [Nat.mul_div_cancel_left _ hg, Nat.mul_div_mul_left _ _ hg]
 rw [show (((g * a : Nat) : Int) / ((g : Nat) : Int)) = ((g * a / g : Nat) : Int) from (Int.natCast_ediv _ _).symm, Nat.mul_div_cancel_left _ hg]
 exact (Int.natCast_ediv _ _).symm
theorem cmp1 (z D : Nat) (h : 0 < D) : cmpQ (mkRat (z : Int) D) ((1 : Int) : Rat) = cmpN z D := by
 rw [← sign_sub, Rat.sub_eq_add_neg, show -(((1 : Int)) : Rat) = mkRat (-1) 1 from by decide +kernel, Rat.mkRat_add_mkRat _ _ (by omega) (by decide), sign_mk _ _ (by omega)]
 unfold cmpN
 by_cases h1 : z < D
 ·rw [if_pos h1]; exact Int.sign_eq_neg_one_of_neg (by omega)
 ·rw [if_neg h1]
  by_cases h2 : D < z
  ·rw [if_pos h2]; exact Int.sign_eq_one_of_pos (by omega)
  ·rw [if_neg h2, show ((z : Int) * ((1 : Nat) : Int) + -1 * (D : Int)) = 0 by omega]; rfl
theorem cmp_half (A D : Nat) (h : 0 < D) : cmpQ ((mkRat (A : Int) D - (((A / D : Nat) : Int) : Rat)) * ((2 : Int) : Rat)) ((1 : Int) : Rat) = cmpN (A % D * 2) D := by
 rw [mk_frac A D h, show ((2 : Int) : Rat) = (((2 : Nat) : Int) : Rat) from rfl, mk_mul_nat]
 exact cmp1 (A % D * 2) D h
theorem abs_mul_ten (r : Rat) (T : Nat) : absQ r * (((T : Nat) : Int) : Rat) = mkRat ((r.num.natAbs * T : Nat) : Int) r.den := by
 have h := absQ_mk r.num r.den r.den_nz
 rw [Rat.mkRat_self] at h
 rw [h, mk_mul_nat, Int.natCast_mul]
def cellC (c : UInt8) : Bool := decide (33 ≤ c.toNat) && decide (c.toNat ≤ 126)
def cellB (s : List UInt8) : Bool := s.all cellC && (decide (1 ≤ s.length) && decide (s.length ≤ 32))
def wdT (recs : List (List (List UInt8))) (i j : Nat) : Nat := ((recs.take i).map fun r => (r.getD j []).length).foldl max 0
def cellT (wd : Nat → Nat) (j : Nat) (s : List UInt8) : List UInt8 := (if 0 < j then [32, 32] else []) ++ (List.replicate (wd j - s.length) 32 ++ s)
def rowT (wd : Nat → Nat) (r : List (List UInt8)) (k : Nat) : List UInt8 := (List.range k).flatMap fun j => cellT wd j (r.getD j [])
def colT (wd : Nat → Nat) (recs : List (List (List UInt8))) (n i : Nat) : List UInt8 := (List.range i).flatMap fun i => rowT wd (recs.getD i []) n ++ [10]
theorem rowT_zero (wd : Nat → Nat) (r : List (List UInt8)) : rowT wd r 0 = [] := rfl
theorem rowT_succ (wd : Nat → Nat) (r : List (List UInt8)) (k : Nat) : rowT wd r (k + 1) = rowT wd r k ++ cellT wd k (r.getD k []) := by
 unfold rowT; rw [List.range_succ, List.flatMap_append]; simp
theorem colT_succ (wd : Nat → Nat) (recs : List (List (List UInt8))) (n i : Nat) : colT wd recs n (i + 1) = colT wd recs n i ++ (rowT wd (recs.getD i []) n ++ [10]) := by
 unfold colT; rw [List.range_succ, List.flatMap_append]; simp
def shapeB (recs : List (List (List UInt8))) : Bool := recs.all fun r => decide (r.length = (recs.headD []).length) && (decide (1 ≤ (recs.headD []).length) && decide ((recs.headD []).length ≤ 32))
def formB (recs : List (List (List UInt8))) : Bool := recs.all fun r => r.all cellB
def shapeOk (recs : List (List (List UInt8))) : Bool := (decide (1 ≤ recs.length) && decide (recs.length ≤ 1024)) && shapeB recs
def colR (recs : List (List (List UInt8))) : DV :=
 if shapeOk recs then
  if formB recs then .tup [.str (colT (wdT recs recs.length) recs (recs.headD []).length recs.length), .int .i64 0]
  else .tup [.str [], .int .i64 4]
 else .tup [.str [], .int .i64 6]
def strL (r : List (List UInt8)) : List DV := r.map DV.str
def recD (recs : List (List (List UInt8))) : List DV := recs.map fun r => .sl 1 (strL r)
end Nat32
namespace Nat32
theorem cellT_len {wd : Nat → Nat} {j : Nat} {s : List UInt8} (h : s.length ≤ wd j) (h2 : wd j ≤ 32) : (cellT wd j s).length ≤ 34 := by
 unfold cellT
 rw [List.length_append, List.length_append, List.length_replicate]
 split
 ·rw [List.length_cons, List.length_cons, List.length_nil]; omega
 ·rw [List.length_nil]; omega
theorem rowT_len {wd : Nat → Nat} {r : List (List UInt8)} (h : ∀ j, (r.getD j []).length ≤ wd j) (h2 : ∀ j, wd j ≤ 32) : ∀ k, (rowT wd r k).length ≤ 34 * k
 | 0 => Nat.le_refl _
 | k + 1 => by
  rw [rowT_succ, List.length_append]
  have := rowT_len h h2 k
  have := cellT_len (h k) (h2 k)
  omega
theorem colT_len {wd : Nat → Nat} {recs : List (List (List UInt8))} {n : Nat} (hn : n ≤ 32) (h : ∀ i j, ((recs.getD i []).getD j []).length ≤ wd j) (h2 : ∀ j, wd j ≤ 32) : ∀ i, (colT wd recs n i).length ≤ 1089 * i
 | 0 => Nat.le_refl _
 | i + 1 => by
  rw [colT_succ, List.length_append, List.length_append]
  have := colT_len hn h h2 i
  have := rowT_len (h i) h2 n
  simp only [List.length_singleton]
  omega
end Nat32
namespace Nat32
open Go Go.Dat
theorem foldl_max_ge (l : List Nat) : ∀ a, a ≤ l.foldl max a := by
 induction l with
 | nil => intro a; exact Nat.le_refl _
 | cons x t ih => intro a; exact Nat.le_trans (Nat.le_max_left a x) (ih _)
theorem foldl_max_mem {l : List Nat} {x : Nat} : ∀ a, x ∈ l → x ≤ l.foldl max a := by
 induction l with
 | nil => intro a h; cases h
 | cons y t ih =>
  intro a h
  rcases List.mem_cons.1 h with rfl | h
  ·exact Nat.le_trans (Nat.le_max_right a x) (foldl_max_ge t _)
  ·exact ih _ h
theorem foldl_max_le {l : List Nat} {b : Nat} : ∀ a, a ≤ b → (∀ x ∈ l, x ≤ b) → l.foldl max a ≤ b := by
 induction l with
 | nil => intro a h _; exact h
 | cons y t ih => intro a h h2; exact ih _ (Nat.max_le.2 ⟨h, h2 y (by simp)⟩) fun x hx => h2 x (by simp [hx])
theorem wdT_succ {recs : List (List (List UInt8))} {i : Nat} (h : i < recs.length) (j : Nat) : wdT recs (i + 1) j = max (wdT recs i j) ((recs.getD i []).getD j []).length := by
 unfold wdT
 rw [List.take_add_one, List.getElem?_eq_getElem h, Option.toList_some, List.map_append, List.foldl_append, List.getD_eq_getElem?_getD (l := recs), List.getElem?_eq_getElem h]
 rfl
theorem wdT_ge {recs : List (List (List UInt8))} (i j : Nat) : ((recs.getD i []).getD j []).length ≤ wdT recs recs.length j := by
 rcases Nat.lt_or_ge i recs.length with h | h
 ·unfold wdT
  refine foldl_max_mem 0 ?_
  rw [List.take_length, List.getD_eq_getElem?_getD (l := recs), List.getElem?_eq_getElem h]
  exact List.mem_map_of_mem (f := fun r : List (List UInt8) => (r.getD j []).length) (List.getElem_mem h)
 ·rw [List.getD_eq_getElem?_getD (l := recs), List.getElem?_eq_none h]
  simp
theorem formB_len {recs : List (List (List UInt8))} (h : formB recs = true) (i j : Nat) : ((recs.getD i []).getD j []).length ≤ 32 := by
 rcases Nat.lt_or_ge i recs.length with h1 | h1
 ·rw [List.getD_eq_getElem?_getD (l := recs), List.getElem?_eq_getElem h1]
  simp only [Option.getD_some]
  rcases Nat.lt_or_ge j (recs[i]).length with h2 | h2
  ·rw [List.getD_eq_getElem?_getD, List.getElem?_eq_getElem h2]
   simp only [Option.getD_some]
   have := List.all_eq_true.1 (List.all_eq_true.1 h _ (List.getElem_mem h1)) _ (List.getElem_mem h2)
   unfold cellB at this
   simp only [Bool.and_eq_true, decide_eq_true_eq] at this
   exact this.2.2
  ·rw [List.getD_eq_getElem?_getD, List.getElem?_eq_none h2]; simp
 ·rw [List.getD_eq_getElem?_getD (l := recs), List.getElem?_eq_none h1]; simp
theorem wdT_le {recs : List (List (List UInt8))} (h : formB recs = true) (j : Nat) : wdT recs recs.length j ≤ 32 := by
 unfold wdT
 refine foldl_max_le 0 (by omega) fun x hx => ?_
 rw [List.take_length] at hx
 obtain ⟨r, hr, rfl⟩ := List.mem_map.1 hx
 obtain ⟨i, hi, rfl⟩ := List.mem_iff_getElem.1 hr
 have := formB_len h i j
 rwa [List.getD_eq_getElem?_getD (l := recs), List.getElem?_eq_getElem hi] at this
def wmix (recs : List (List (List UInt8))) (i j c : Nat) : Nat := if c < j then wdT recs (i + 1) c else wdT recs i c
def wcells (f : Nat → Nat) (m : Nat) : List DV := (List.range m).map fun c => DV.int .i64 (f c : Nat)
theorem wcells_len (f : Nat → Nat) (m : Nat) : (wcells f m).length = m := by unfold wcells; simp
theorem wcells_get {f : Nat → Nat} {m j : Nat} (h : j < m) : (wcells f m)[j]? = some (.int .i64 (f j : Nat)) := by
 unfold wcells; rw [List.getElem?_map, List.getElem?_range h]; rfl
theorem wcells_getD {f : Nat → Nat} {m j : Nat} (h : j < m) : (wcells f m).getD j .undef = .int .i64 (f j : Nat) := by
 rw [List.getD_eq_getElem?_getD, wcells_get h]; rfl
theorem wcells_congr {f g : Nat → Nat} {m : Nat} (h : ∀ c, c < m → f c = g c) : wcells f m = wcells g m := by
 unfold wcells
 exact List.map_congr_left fun c hc => by rw [h c (List.mem_range.1 hc)]
theorem wcells_set {recs : List (List (List UInt8))} {i j m : Nat} (hi : i < recs.length) (hj : j < m) :
  (wcells (wmix recs i j) m).set j (.int .i64 ((max (wdT recs i j) ((recs.getD i []).getD j []).length : Nat) : Int)) = wcells (wmix recs i (j + 1)) m := by
 apply List.ext_getElem?
 intro c
 rw [List.getElem?_set, wcells_len]
 rcases Nat.lt_or_ge c m with hc | hc
 ·rw [wcells_get hc, wcells_get hc]
  by_cases e : j = c
  ·subst e
   rw [if_pos rfl, if_pos hj]
   unfold wmix
   rw [if_pos (by omega), wdT_succ hi]
  ·rw [if_neg e]
   unfold wmix
   by_cases h1 : c < j
   ·rw [if_pos h1, if_pos (by omega)]
   ·rw [if_neg h1, if_neg (by omega)]
 ·rw [List.getElem?_eq_none (by rw [wcells_len]; exact hc), List.getElem?_eq_none (by rw [wcells_len]; exact hc), if_neg (by omega)]
theorem wmix_zero (recs : List (List (List UInt8))) (i : Nat) (m : Nat) : wcells (wmix recs i 0) m = wcells (wdT recs i) m := wcells_congr fun c _ => by unfold wmix; rw [if_neg (by omega)]
theorem wmix_full (recs : List (List (List UInt8))) (i : Nat) (m : Nat) : wcells (wmix recs i m) m = wcells (wdT recs (i + 1)) m := wcells_congr fun c hc => by unfold wmix; rw [if_pos hc]
theorem wcells_rep (recs : List (List (List UInt8))) (m : Nat) : List.replicate m (DV.int .i64 0) = wcells (wdT recs 0) m := by
 apply List.ext_getElem?
 intro c
 rw [List.getElem?_replicate]
 rcases Nat.lt_or_ge c m with hc | hc
 ·rw [wcells_get hc, if_pos hc]; rfl
 ·rw [List.getElem?_eq_none (by rw [wcells_len]; exact hc), if_neg (by omega)]
def part (a z : DV) (i k : Nat) : List DV := List.replicate i a ++ List.replicate (k - i) z
abbrev Bs := List UInt8
def spl1 (c : UInt8) : Bs → List Bs
 | [] => [[]]
 | x :: r => if x = c then [] :: spl1 c r else match spl1 c r with
  | h :: t => (x :: h) :: t
  | [] => [[x]]
theorem spl1_ne (c : UInt8) : ∀ l, ∃ h t, spl1 c l = h :: t
 | [] => ⟨[], [], rfl⟩
 | x :: r => by
  obtain ⟨h, t, e⟩ := spl1_ne c r
  rw [spl1]
  split
  ·exact ⟨_, _, rfl⟩
  ·rw [e]; exact ⟨_, _, rfl⟩
theorem spl1_eq (c : UInt8) (r : Bs) : spl1 c (c :: r) = [] :: spl1 c r := by rw [spl1, if_pos rfl]
theorem spl1_oth {c x : UInt8} {r h : Bs} {t : List Bs} (hx : x ≠ c) (e : spl1 c r = h :: t) : spl1 c (x :: r) = (x :: h) :: t := by rw [spl1, if_neg hx, e]
theorem index_self (c : UInt8) (r : Bs) : Lib.index (c :: r) [c] = 0 := by unfold Lib.index; simp [List.isPrefixOf]
theorem index_oth {c x : UInt8} (hx : x ≠ c) (r : Bs) : Lib.index (x :: r) [c] = if Lib.index r [c] == -1 then -1 else Lib.index r [c] + 1 := by
 conv => lhs; unfold Lib.index
 have : ([c] : Bs).isPrefixOf (x :: r) = false := by simp [List.isPrefixOf, Ne.symm hx]
 rw [this]; simp
theorem splitK_spl1 (c : UInt8) : ∀ l : Bs, Lib.splitK [c] 0 (l.count c) l = spl1 c l
 | [] => rfl
 | x :: r => by
  have ih := splitK_spl1 c r
  by_cases hx : x = c
  ·subst hx
   rw [List.count_cons_self, Lib.splitK, index_self, spl1_eq, ← ih]
   rfl
  ·rw [List.count_cons_of_ne hx]
   cases hk : r.count c with
   | zero =>
    rw [hk] at ih
    rw [Lib.splitK] at ih ⊢
    rw [spl1_oth hx ih.symm]
   | succ k =>
    rw [hk, Lib.splitK] at ih
    rw [Lib.splitK, index_oth hx]
    by_cases hi : (Lib.index r [c] == -1) = true
    ·rw [if_pos hi] at ih ⊢
     rw [spl1_oth hx ih.symm]; rfl
    ·rw [if_neg hi] at ih ⊢
     have h1 := Lib.index_ge r [c]
     have h2 : Lib.index r [c] ≠ -1 := fun e => hi (beq_iff_eq.2 e)
     obtain ⟨i, hi2⟩ : ∃ i : Nat, Lib.index r [c] = i := ⟨(Lib.index r [c]).toNat, by omega⟩
     rw [hi2] at ih ⊢
     have e1 : ((i : Int) + 1).toNat = i + 1 := by omega
     have e2 : (i : Int).toNat = i := by omega
     have e3 : (((i : Int) + 1) == -1) = false := by rw [beq_eq_false_iff_ne]; omega
     rw [e2] at ih
     rw [e3, e1, spl1_oth hx ih.symm]
     rfl
theorem splitB_spl1 (c : UInt8) (s : Bs) : (Lib.splitB ⟨#[c]⟩ 0 (Lib.countB ⟨s.toArray⟩ ⟨#[c]⟩) ⟨s.toArray⟩).map (·.data.toList) = spl1 c s := by
 rw [Lib.splitB_data]
 have : Lib.countB ⟨s.toArray⟩ ⟨#[c]⟩ = s.count c := Lib.count_one c s
 rw [this]
 exact splitK_spl1 c s
abbrev WS := List (List Bs) × List Bs × Bs
def addW (row : List Bs) (word : Bs) : List Bs := if word = [] then row else row ++ [word]
def wstep (s : WS) (c : UInt8) : WS :=
 if c ≠ 32 ∧ c ≠ 10 then (s.1, s.2.1, s.2.2 ++ [c])
 else if c = 10 then (s.1 ++ [addW s.2.1 s.2.2], [], []) else (s.1, addW s.2.1 s.2.2, [])
def wordsL (t : Bs) : List (List Bs) := (t.foldl wstep ([], [], [])).1
def fl (ps : List Bs) : List Bs := ps.filter fun p => decide (p ≠ [])
def lineW (l : Bs) : List Bs := fl (spl1 32 l)
def prep (w : Bs) : List Bs → List Bs
 | p :: ps => (w ++ p) :: ps
 | [] => []
def glue (row : List Bs) (w : Bs) : List Bs → List (List Bs)
 | h :: r => (row ++ fl (prep w (spl1 32 h))) :: r.map lineW
 | [] => []
theorem prep_nil (ps : List Bs) : prep [] ps = ps := by cases ps <;> rfl
theorem fl_cons (p : Bs) (ps : List Bs) : fl (p :: ps) = (if p = [] then [] else [p]) ++ fl ps := by
 unfold fl
 rw [List.filter_cons]
 by_cases h : p = []
 ·rw [if_neg (by simp [h]), if_pos h]; rfl
 ·rw [if_pos (by simp [h]), if_neg h]; rfl
theorem addW_fl (row : List Bs) (w : Bs) (ps : List Bs) : row ++ fl (w :: ps) = addW row w ++ fl ps := by
 rw [fl_cons]
 unfold addW
 split
 ·simp
 ·simp
theorem words_glue : ∀ (t : Bs) (out : List (List Bs)) (row : List Bs) (w : Bs), ((t ++ [10]).foldl wstep (out, row, w)) = (out ++ glue row w (spl1 10 t), [], [])
 | [], out, row, w => by
  show wstep (out, row, w) 10 = _
  have : glue row w (spl1 10 []) = [addW row w] := by
   show [row ++ fl (prep w [[]])] = _
   show [row ++ fl [w ++ []]] = _
   rw [List.append_nil, addW_fl]; simp [fl]
  rw [this]
  simp [wstep]
 | x :: t, out, row, w => by
  rw [List.cons_append, List.foldl_cons]
  obtain ⟨h, r, e⟩ := spl1_ne 10 t
  by_cases hx : x = 10
  ·subst hx
   have hs : wstep (out, row, w) 10 = (out ++ [addW row w], [], []) := by simp [wstep]
   rw [hs, words_glue t, spl1_eq, e]
   show (out ++ [addW row w] ++ (([] ++ fl (prep [] (spl1 32 h))) :: r.map lineW), _, _) = (out ++ ((row ++ fl (prep w [[]])) :: (h :: r).map lineW), _, _)
   have h2 : row ++ fl (prep w [[]]) = addW row w := by
    show row ++ fl [w ++ []] = _
    rw [List.append_nil, addW_fl]; simp [fl]
   rw [h2, prep_nil, List.nil_append, List.map_cons, List.append_assoc]
   rfl
  ·by_cases h32 : x = 32
   ·subst h32
    have hs : wstep (out, row, w) 32 = (out, addW row w, []) := by simp [wstep]
    rw [hs, words_glue t, spl1_oth hx e, e]
    show (out ++ ((addW row w ++ fl (prep [] (spl1 32 h))) :: r.map lineW), _, _) = (out ++ ((row ++ fl (prep w (spl1 32 (32 :: h)))) :: r.map lineW), _, _)
    rw [spl1_eq, prep_nil]
    show _ = (out ++ ((row ++ fl ((w ++ []) :: spl1 32 h)) :: r.map lineW), _, _)
    rw [List.append_nil, addW_fl]
   ·have hs : wstep (out, row, w) x = (out, row, w ++ [x]) := by simp [wstep, hx, h32]
    rw [hs, words_glue t, spl1_oth hx e, e]
    obtain ⟨p, ps, e2⟩ := spl1_ne 32 h
    show (out ++ ((row ++ fl (prep (w ++ [x]) (spl1 32 h))) :: r.map lineW), _, _) = (out ++ ((row ++ fl (prep w (spl1 32 (x :: h)))) :: r.map lineW), _, _)
    rw [spl1_oth h32 e2, e2]
    show (out ++ ((row ++ fl ((w ++ [x] ++ p) :: ps)) :: r.map lineW), _, _) = (out ++ ((row ++ fl ((w ++ x :: p) :: ps)) :: r.map lineW), _, _)
    rw [List.append_assoc]; rfl
theorem words_lines (t : Bs) : wordsL (t ++ [10]) = (spl1 10 t).map lineW := by
 unfold wordsL
 rw [words_glue]
 obtain ⟨h, r, e⟩ := spl1_ne 10 t
 rw [e]
 show [] ++ (([] ++ fl (prep [] (spl1 32 h))) :: r.map lineW) = _
 rw [prep_nil]; rfl
def colP (recs : List (List Bs)) : Option Bs := if shapeOk recs = true then (if formB recs = true then some (colT (wdT recs recs.length) recs (recs.headD []).length recs.length) else none) else none
def parD (t : Bs) : DV := if colP (wordsL t) = some t then .tup [.sl 1 (recD (wordsL t)), .int .i64 0] else .tup [.nils, .int .i64 3]
theorem colR_some {recs : List (List Bs)} {s : Bs} (h : colP recs = some s) : colR recs = .tup [.str s, .int .i64 0] := by
 unfold colP at h
 unfold colR
 split at h
 ·rename_i h1
  rw [if_pos h1]
  split at h
  ·rename_i h2
   rw [if_pos h2]; cases h; rfl
  ·cases h
 ·cases h
theorem colR_none {recs : List (List Bs)} (h : colP recs = none) : ∃ e : Int, e ≠ 0 ∧ colR recs = .tup [.str [], .int .i64 e] := by
 unfold colP at h
 unfold colR
 split at h
 ·rename_i h1
  rw [if_pos h1]
  split at h
  ·cases h
  ·rename_i h2
   rw [if_neg h2]; exact ⟨4, by decide, rfl⟩
 ·rename_i h1
  rw [if_neg h1]; exact ⟨6, by decide, rfl⟩
theorem colP_end {recs : List (List Bs)} {s : Bs} (h : colP recs = some s) : ∃ t, s = t ++ [10] := by
 unfold colP at h
 split at h
 ·rename_i h1
  split at h
  ·cases h
   have h2 : 1 ≤ recs.length := by
    unfold shapeOk at h1
    simp only [Bool.and_eq_true, decide_eq_true_eq] at h1
    exact h1.1.1
   obtain ⟨k, hk⟩ : ∃ k, recs.length = k + 1 := ⟨recs.length - 1, by omega⟩
   generalize wdT recs recs.length = wd
   rw [hk, colT_succ, ← List.append_assoc]
   exact ⟨_, rfl⟩
  ·cases h
 ·cases h
theorem parD_bad {t : Bs} (h : ¬ ∃ u, t = u ++ [10]) : parD t = .tup [.nils, .int .i64 3] := by
 unfold parD
 rw [if_neg fun e => h (colP_end e)]
theorem colP_many {recs : List (List Bs)} (h : 1024 < recs.length) : colP recs = none := by
 unfold colP shapeOk
 rw [decide_eq_false (show ¬ recs.length ≤ 1024 by omega), Bool.and_false, Bool.false_and, if_neg (by decide)]
end Nat32
namespace Go.Dat
open Go Go.RowKit Nat32
theorem strL_nth {ps : List (List UInt8)} {k : Nat} {d : DV} (h : (strL ps)[k]? = some d) : ∃ p, ps[k]? = some p ∧ d = .str p := by
 unfold strL at h
 rw [List.getElem?_map, Option.map_eq_some_iff] at h
 obtain ⟨p, hp, rfl⟩ := h
 exact ⟨p, hp, rfl⟩
theorem PCalls_split {P : Program} {f g : Nat} {T : TypeId} {s : List UInt8} {c : UInt8} (hg : P.globalNamed maxName = some g)
  (h : ∀ (m : Int) (w : World), w.cell? ⟨g, 0, none⟩ = some (.int .i64 m) → Calls P f #[.string ⟨s.toArray⟩, .string ⟨#[c]⟩] w fun e w' =>
   e = .returned (.slice (some ⟨w.heap.size, 0, none⟩) (Lib.countB ⟨s.toArray⟩ ⟨#[c]⟩ + 1) (Lib.countB ⟨s.toArray⟩ ⟨#[c]⟩ + 1)) ∧
    w' = w.alloc (.cells ((Lib.splitB ⟨#[c]⟩ 0 (Lib.countB ⟨s.toArray⟩ ⟨#[c]⟩) ⟨s.toArray⟩).map Value.string).toArray T)) :
  PCalls P f [.str s, .str [c]] (.sl 1 (strL (spl1 c s))) := by
 intro A w us hT hA hs hv
 obtain ⟨us⟩ := us
 match us, hs with
 | [v, u], _ =>
  have h0 := hv 0 _ v rfl rfl
  have h1 := hv 1 _ u rfl rfl
  cases h0; cases h1
  obtain ⟨_, m, hm⟩ := hT.2 g hg
  refine (h m w hm).mono ?_
  rintro e w' ⟨rfl, rfl⟩
  have hps := splitB_spl1 c s
  have hlen := Lib.splitB_all ⟨#[c]⟩ (Nat.le_refl 1) 0 _ ⟨s.toArray⟩ rfl
  generalize Lib.countB ⟨s.toArray⟩ ⟨#[c]⟩ = n at *
  generalize Lib.splitB ⟨#[c]⟩ 0 n ⟨s.toArray⟩ = bs at *
  have hsl : (strL (spl1 c s)).length = n + 1 := by rw [← hps]; unfold strL; simp [hlen]
  refine ⟨_, rfl, .sl (fun k => .string ⟨((spl1 c s).getD k []).toArray⟩) ?_ (by rw [hsl, Nat.mul_one]) (Nat.le_refl _) (fun ha => Nat.lt_irrefl _ (hA _ ha)) (fun k d hk => ?_) (fun k d hk => ?_), Ext.alloc _ _ _⟩
  ·intro e; rw [e] at hsl; cases hsl
  ·obtain ⟨p, hp, rfl⟩ := strL_nth hk
   rw [← hps, List.getElem?_map, Option.map_eq_some_iff] at hp
   obtain ⟨b, hb, rfl⟩ := hp
   rw [add_lit, Nat.zero_add, cell_of_row _ w.heap.size k _ T (0, 0) (heap_alloc_new w _)]
   have e2 : (spl1 c s).getD k [] = b.data.toList := by rw [← hps, List.getD_eq_getElem?_getD, List.getElem?_map, hb]; rfl
   rw [e2, List.getElem?_toArray, List.getElem?_map, hb]
   simp
  ·obtain ⟨p, hp, rfl⟩ := strL_nth hk
   have e2 : (spl1 c s).getD k [] = p := by rw [List.getD_eq_getElem?_getD, hp]; rfl
   rw [e2]
   exact .str p
theorem PCalls_suffix {P : Program} {f : Nat} {s p : List UInt8} {b : Bool}
  (h : ∀ w, Calls P f #[.string ⟨s.toArray⟩, .string ⟨p.toArray⟩] w fun e w' => e = .returned (.bool b) ∧ w' = w) : PCalls P f [.str s, .str p] (.bool b) := by
 intro A w us hT hA hs hv
 obtain ⟨us⟩ := us
 match us, hs with
 | [v, u], _ =>
  have h0 := hv 0 _ v rfl rfl
  have h1 := hv 1 _ u rfl rfl
  cases h0; cases h1
  refine (h w).mono ?_
  rintro e w' ⟨rfl, rfl⟩
  exact ⟨_, rfl, .bool _, Ext.refl _ _⟩
theorem suffix_10 (s : List UInt8) : Lib.hasSuffix s [10] = true ↔ ∃ t, s = t ++ [10] := by
 unfold Lib.hasSuffix
 rw [List.isSuffixOf_iff_suffix]
 constructor
 ·rintro ⟨t, h⟩; exact ⟨t, h.symm⟩
 ·rintro ⟨t, h⟩; exact ⟨t, h.symm⟩
end Go.Dat
namespace Nat32
open Go Go.Dat
theorem spl1_len (c : UInt8) : ∀ l : Bs, (spl1 c l).length ≤ l.length + 1
 | [] => Nat.le_refl _
 | x :: r => by
  have ih := spl1_len c r
  by_cases hx : x = c
  ·subst hx; rw [spl1_eq]; simp only [List.length_cons]; omega
  ·obtain ⟨h, t, e⟩ := spl1_ne c r
   rw [spl1_oth hx e]
   rw [e] at ih
   simp only [List.length_cons] at ih ⊢; omega
theorem spl1_mem (c : UInt8) : ∀ (l : Bs), ∀ p ∈ spl1 c l, p.length ≤ l.length
 | [], p, hp => by
  have : p = [] := by simpa [spl1] using hp
  rw [this]; exact Nat.le_refl _
 | x :: r, p, hp => by
  have ih := spl1_mem c r
  by_cases hx : x = c
  ·subst hx
   rw [spl1_eq] at hp
   rcases List.mem_cons.1 hp with rfl | h
   ·exact Nat.zero_le _
   ·have := ih p h; simp only [List.length_cons]; omega
  ·obtain ⟨h, t, e⟩ := spl1_ne c r
   rw [spl1_oth hx e] at hp
   rw [e] at ih
   rcases List.mem_cons.1 hp with rfl | h2
   ·have := ih h (by simp); simp only [List.length_cons]; omega
   ·have := ih p (by simp [h2]); simp only [List.length_cons]; omega
theorem fl_len (ps : List Bs) : (fl ps).length ≤ ps.length := List.length_filter_le ..
theorem fl_app (ps : List Bs) (p : Bs) : fl (ps ++ [p]) = if p = [] then fl ps else fl ps ++ [p] := by
 unfold fl
 rw [List.filter_append]
 by_cases h : p = []
 ·rw [if_pos h, List.filter_cons_of_neg (by simp [h])]; simp
 ·rw [if_neg h, List.filter_cons_of_pos (by simp [h])]; rfl
def wst (t : Bs) (i : Nat) : WS := (t.take i).foldl wstep ([], [], [])
theorem wst_succ {t : Bs} {i : Nat} (h : i < t.length) : wst t (i + 1) = wstep (wst t i) (t.getD i 0) := by
 unfold wst
 rw [List.take_add_one, List.getElem?_eq_getElem h, Option.toList_some, List.foldl_append, List.getD_eq_getElem?_getD, List.getElem?_eq_getElem h]
 rfl
theorem wst_full (t : Bs) : (wst t t.length).1 = wordsL t := by unfold wst wordsL; rw [List.take_length]
theorem addW_len (row : List Bs) (w : Bs) : (addW row w).length ≤ row.length + 1 := by
 unfold addW
 split
 ·omega
 ·simp
def wbd (n : Nat) (s : WS) : Prop := s.1.length ≤ n ∧ (s.2.1.length ≤ n ∧ ∀ x ∈ s.2.1, x.length ≤ n) ∧ s.2.2.length ≤ n ∧ ∀ r ∈ s.1, r.length ≤ n ∧ ∀ x ∈ r, x.length ≤ n
theorem addW_mem {row : List Bs} {w : Bs} {n : Nat} (h1 : ∀ x ∈ row, x.length ≤ n) (h2 : w.length ≤ n) : ∀ x ∈ addW row w, x.length ≤ n := by
 intro x hx
 unfold addW at hx
 split at hx
 ·exact h1 x hx
 ·rcases List.mem_append.1 hx with h | h
  ·exact h1 x h
  ·rw [List.mem_singleton.1 h]; exact h2
theorem wst_bd (t : Bs) : ∀ i, i ≤ t.length → wbd i (wst t i)
 | 0, _ => ⟨Nat.le_refl _, ⟨Nat.le_refl _, fun x h => by cases h⟩, Nat.le_refl _, fun r h => by cases h⟩
 | i + 1, h => by
  obtain ⟨h1, ⟨h2, h3⟩, h4, h5⟩ := wst_bd t i (by omega)
  rw [wst_succ (by omega)]
  have ha := addW_len (wst t i).2.1 (wst t i).2.2
  have hm := addW_mem h3 h4
  unfold wstep
  split
  ·exact ⟨by simp only; omega, ⟨by simp only; omega, fun x hx => Nat.le_succ_of_le (h3 x hx)⟩, by simp only [List.length_append, List.length_singleton]; omega, fun r hr => ⟨Nat.le_succ_of_le (h5 r hr).1, fun x hx => Nat.le_succ_of_le ((h5 r hr).2 x hx)⟩⟩
  ·split
   ·refine ⟨by simp only [List.length_append, List.length_singleton]; omega, ⟨Nat.zero_le _, fun x hx => by cases hx⟩, Nat.zero_le _, fun r hr => ?_⟩
    rcases List.mem_append.1 hr with h6 | h6
    ·exact ⟨Nat.le_succ_of_le (h5 r h6).1, fun x hx => Nat.le_succ_of_le ((h5 r h6).2 x hx)⟩
    ·rw [List.mem_singleton.1 h6]
     exact ⟨by omega, fun x hx => Nat.le_succ_of_le (hm x hx)⟩
   ·exact ⟨by simp only; omega, ⟨by simp only; omega, fun x hx => Nat.le_succ_of_le (hm x hx)⟩, Nat.zero_le _, fun r hr => ⟨Nat.le_succ_of_le (h5 r hr).1, fun x hx => Nat.le_succ_of_le ((h5 r hr).2 x hx)⟩⟩
theorem words_bd (t : Bs) : (wordsL t).length ≤ t.length ∧ ∀ r ∈ wordsL t, r.length ≤ t.length ∧ ∀ x ∈ r, x.length ≤ t.length := by
 obtain ⟨h1, _, _, h2⟩ := wst_bd t t.length (Nat.le_refl _)
 rw [wst_full] at h1 h2
 exact ⟨h1, h2⟩
theorem getD_bd' {α : Type} {p : α → Prop} {l : List α} {d : α} (hd : p d) (h : ∀ x ∈ l, p x) (i : Nat) : p (l.getD i d) := by
 rw [List.getD_eq_getElem?_getD]
 cases hi : l[i]? with
 | none => exact hd
 | some x => exact h x (List.mem_of_getElem? hi)
def recB (n : Nat) (rs : List (List Bs)) : Prop := rs.length ≤ n ∧ (∀ i, (rs.getD i []).length ≤ n) ∧ ∀ i j, ((rs.getD i []).getD j []).length ≤ n
theorem recB_of {n : Nat} {rs : List (List Bs)} (h1 : rs.length ≤ n) (h2 : ∀ r ∈ rs, r.length ≤ n ∧ ∀ x ∈ r, x.length ≤ n) : recB n rs :=
 ⟨h1, fun i => getD_bd' (p := fun r : List Bs => r.length ≤ n) (Nat.zero_le _) (fun r hr => (h2 r hr).1) i,
  fun i j => getD_bd' (p := fun r : List Bs => (r.getD j []).length ≤ n) (by simp) (fun r hr => getD_bd' (p := fun x : Bs => x.length ≤ n) (Nat.zero_le _) (h2 r hr).2 j) i⟩
theorem recB_words (t : Bs) : recB t.length (wordsL t) := recB_of (words_bd t).1 (words_bd t).2
end Nat32
namespace Nat32
open Go Go.Dat Go.RowKit Go.ChangeShapes Go.WideShapes Go.Joins Go.Deep
section
variable {H : Type} {enc : TypeId × Value → H} {P : Program} {w : World} {base : Nat} {spare : Nat → Bool} {held : Bool}
theorem cells1 {a : Addr} {cs : List Value} (h : w.cells? base a 1 = some cs) : ∃ v, cs = [v] ∧ w.cell? a = some v := by
 obtain ⟨h1, h2, h3⟩ := World.cells?_some h
 match cs, h2 with
 | [v], _ =>
  have := h3 0 (by omega)
  exact ⟨v, rfl, by simpa [Addr.add] using this⟩
theorem vi_slice {α : Type} (f : α → DV) (p : α → Prop) {t e : TypeId} (ht : P.underlying t = some (.slice e)) (hc : P.cellsOf e = 1)
  (hel : ∀ n u y, DataW.trod enc P w base spare held n e [u] = some y → ∃ a : α, p a ∧ VI w (fun _ => False) (f a) u) {n : Nat} {u : Value} {y : DataW H × List MemPlace}
  (h : DataW.trod enc P w base spare held n t [u] = some y) : ∃ zs : List α, (∀ a ∈ zs, p a) ∧ zs.length ≤ 9223372036854775807 ∧ VI w (fun _ => False) (.sl 1 (zs.map f)) u := by
 rcases DataW.trod_slice ht h with ⟨h0, _⟩ | ⟨a, len, cap, elems, rest, m, _, h0, _, hb, hl, hm, hlen, hcells, _, _⟩
 ·simp only [List.cons.injEq, and_true] at h0
  subst h0
  exact ⟨[], (fun a h => by cases h), Nat.zero_le _, .sl0 _ _ _⟩
 ·simp only [List.cons.injEq, and_true] at h0
  subst h0
  have each : ∀ i, i < len → ∃ (x : α) (v : Value), p x ∧ w.cell? (a.add i) = some v ∧ VI w (fun _ => False) (f x) v := fun i hi => by
   have h1 := hcells i hi
   rw [hc, Nat.mul_one] at h1
   obtain ⟨z, hz⟩ : ∃ z, elems[i]? = some z := ⟨_, List.getElem?_eq_getElem (by omega)⟩
   rw [hz, Option.bind_eq_some_iff] at h1
   obtain ⟨cs, h2, h3⟩ := h1
   obtain ⟨v, rfl, hv⟩ := cells1 h2
   obtain ⟨x, hx, hvi⟩ := hel _ _ _ h3
   exact ⟨x, v, hx, hv, hvi⟩
  have hk : ∀ n, n ≤ len → ∃ zs : List α, zs.length = n ∧ (∀ x ∈ zs, p x) ∧ ∀ (k : Nat) x, zs[k]? = some x → ∃ v, w.cell? (a.add k) = some v ∧ VI w (fun _ => False) (f x) v := by
   intro n
   induction n with
   | zero => intro _; exact ⟨[], rfl, (fun a h => by cases h), fun k x h => by simp at h⟩
   | succ n ih =>
    intro hn
    obtain ⟨zs, h1, h2, h3⟩ := ih (by omega)
    obtain ⟨x, v, hx, hv, hvi⟩ := each n (by omega)
    refine ⟨zs ++ [x], by simp [h1], fun y hy => ?_, fun k y hy => ?_⟩
    ·rcases List.mem_append.1 hy with h | h
     ·exact h2 y h
     ·rw [List.mem_singleton.1 h]; exact hx
    ·rw [List.getElem?_append] at hy
     split at hy
     ·exact h3 k y hy
     ·rename_i hge
      have hkn : k = n := by
       rcases Nat.lt_or_ge (k - zs.length) 1 with h | h
       ·omega
       ·rw [List.getElem?_eq_none (by simpa using h)] at hy; cases hy
      subst hkn
      rw [h1, Nat.sub_self] at hy
      cases hy
      exact ⟨v, hv, hvi⟩
  obtain ⟨zs, h1, h2, h3⟩ := hk len (Nat.le_refl _)
  refine ⟨zs, h2, by unfold maxLen at hm; omega, ?_⟩
  by_cases h0 : len = 0
  ·have : zs = [] := List.eq_nil_of_length_eq_zero (by omega)
   subst this
   subst h0
   exact .sl0 _ _ _
  ·obtain ⟨vs, hvs⟩ : ∃ vs : Nat → Value, ∀ k, k < len → w.cell? (a.add k) = some (vs k) := ⟨fun k => (w.cell? (a.add k)).getD undef, fun k hk2 => by
    obtain ⟨_, v, _, hv, _⟩ := each k hk2
    simp [hv]⟩
   refine .sl vs (fun e => ?_) (by rw [List.length_map, h1, Nat.mul_one]) hl (fun h => h) (fun k d hk2 => ?_) (fun k d hk2 => ?_)
   ·have := congrArg List.length e
    rw [List.length_map, h1] at this
    exact h0 (by simpa using this)
   ·have hlt := (List.getElem?_eq_some_iff.1 hk2).1
    rw [List.length_map, h1] at hlt
    exact hvs k hlt
   ·rw [List.getElem?_map, Option.map_eq_some_iff] at hk2
    obtain ⟨x, hx, rfl⟩ := hk2
    obtain ⟨v, hv, hvi⟩ := h3 k x hx
    have hlt := (List.getElem?_eq_some_iff.1 hx).1
    have := hvs k (by omega)
    rw [hv] at this
    cases this
    exact hvi
theorem vi_ints {r : Reach} {b0 : Nat} {t e : TypeId} {v : Value} {d : DataW H} {p : List MemPlace} (ht : P.underlying t = some (.slice e)) (he : P.underlying e = some (.int .i64)) (hc : P.cellsOf e = 1)
  (hv : Value.okWide P w r b0 t v) (h : DataW.Trod enc P w base spare held t v d p) : ∃ l : List Int, l.length ≤ 9223372036854775807 ∧ VI w (fun _ => False) (.sl 1 (l.map (.int .i64))) v := by
 obtain ⟨a, len, cap, rfl⟩ := okWide_slice ht hv
 obtain ⟨fuel, hf⟩ := h
 obtain ⟨l, _, h2, h3⟩ := vi_slice (w := w) (enc := enc) (base := base) (spare := spare) (held := held) (DV.int .i64) (fun _ => True) ht hc (fun n u y hy => by
  obtain ⟨z, hz, _, _⟩ := DataW.trod_int he hy
  simp only [List.cons.injEq, and_true] at hz
  subst hz
  exact ⟨z, trivial, .int _ _⟩) (by simpa [Value.cells] using hf)
 exact ⟨l, h2, h3⟩
theorem vi_text {r : Reach} {b0 : Nat} {t : TypeId} {v : Value} {d : DataW H} {p : List MemPlace} (ht : P.underlying t = some .string)
  (hv : Value.okWide P w r b0 t v) (h : DataW.Trod enc P w base spare held t v d p) : ∃ s : Bs, s.length ≤ 9223372036854775807 ∧ VI w (fun _ => False) (.str s) v := by
 obtain ⟨s, rfl, rfl, rfl, hs⟩ := Go.ChangeMaps.open_string ht hv h
 refine ⟨s.data.toList, by unfold maxLen at hs; simpa using hs, ?_⟩
 have : (Value.string s) = .string ⟨s.data.toList.toArray⟩ := by cases s; simp
 rw [this]
 exact .str _
end
end Nat32
namespace Nat32
open Go Go.Dat
def qs : Bs → Option (Bs × Nat)
 | [] => none
 | [c] => if c = 34 then some ([], 1) else none
 | c :: e :: r => if c = 34 then (if e = 34 then (qs r).map (fun p => (34 :: p.1, p.2 + 2)) else some ([], 1)) else (qs (e :: r)).map (fun p => (c :: p.1, p.2 + 1))
inductive RS (α : Type) where
 | ok (fs : List α) (k : Nat)
 | err (e k : Nat)
def RS.mv {α : Type} (n : Nat) (f : Option α) : RS α → RS α
 | .ok fs k => .ok (match f with | some x => x :: fs | none => fs) (n + k)
 | .err e k => .err e (n + k)
end Nat32
namespace Nat32
open Go Go.Dat
open Go.Lib (decDigits)
def tw : List Bs := [[115, 116, 97, 116, 105, 115, 116, 105, 99], [109, 101, 97, 110], [118, 97, 114, 105, 97, 110, 99, 101], [108, 101, 115, 115], [103, 114, 101, 97, 116, 101, 114], [116, 119, 111]]
def tl (w : Bs) (r : Rat) : Bs := w ++ 32 :: fmtQ r
end Nat32
namespace Nat32
open Go Go.Dat
def lnT (T : Bs) : List Bs := spl1 10 (T.take (T.length - 1))
def fld (T : Bs) (k : Nat) : Bs := Lib.trimPrefix ((lnT T).getD k []) (tw.getD k [] ++ [32])
end Nat32
namespace Nat32
open Go Go.Dat
open Go.Lib (decDigits)
def smR (r : Rat) : Prop := r.num.natAbs ≤ 1000 ∧ r.den ≤ 1000
def smQ (a d : List Nat) : Prop := lim a ∧ lim d ∧ a.length ≤ 4 ∧ d.length ≤ 4 ∧ nv a ≤ 1000 ∧ nv d ≤ 1000
theorem smR_int {v : Int} (h : v.natAbs ≤ 1000) : smR (v : Rat) := ⟨by simpa using h, by simp⟩
theorem smR_mk {z : Int} {d : Nat} (h : d ≠ 0) (h1 : z.natAbs ≤ 1000) (h2 : d ≤ 1000) : smR (mkRat z d) := by
 have hg : 0 < Nat.gcd z.natAbs d := Nat.gcd_pos_of_pos_right _ (Nat.pos_of_ne_zero h)
 have hd : ((Nat.gcd z.natAbs d : Nat) : Int) ∣ z := Int.ofNat_dvd_left.2 (Nat.gcd_dvd_left z.natAbs d)
 unfold smR
 rw [Rat.num_mkRat, Rat.den_mkRat, if_neg h, if_neg h, Nat.gcd_comm d, (ediv_gcd hd hg).1]
 exact ⟨Nat.le_trans (Nat.div_le_self _ _) h1, Nat.le_trans (Nat.div_le_self _ _) h2⟩
theorem smR_divInt {z e : Int} (he : e ≠ 0) (h1 : z.natAbs ≤ 1000) (h2 : e.natAbs ≤ 1000) : smR (Rat.divInt z e) := by
 rcases Int.lt_or_gt_of_ne he with h | h
 ·rw [divInt_neg z h]; exact smR_mk (by omega) (by rwa [Int.natAbs_neg]) h2
 ·rw [divInt_pos z h]; exact smR_mk (by omega) h1 h2
theorem limbs_sm {n : Nat} (h : n ≤ 1000) : (limbs n).length ≤ 1 := limbs_len.2 (by omega)
theorem smQ_Q {r : Rat} (h : smR r) : smQ (limbs r.num.natAbs) (dn r.den) := by
 refine ⟨lim_limbs _, lim_dn _, Nat.le_trans (limbs_sm h.1) (by decide), Nat.le_trans (Nat.le_trans (dn_len _) (limbs_sm h.2)) (by decide), ?_, ?_⟩
 ·rw [nv_limbs]; exact h.1
 ·unfold dn
  split
  ·exact Nat.zero_le _
  ·rw [nv_limbs]; exact h.2
theorem nv_app0 : ∀ a : List Nat, nv (a ++ [0]) = nv a
 | [] => rfl
 | x :: r => by rw [List.cons_append, nv, nv, nv_app0 r]
theorem smQ_app0 {r : Rat} (h : smR r) : smQ (limbs r.num.natAbs ++ [0]) (dn r.den) := by
 obtain ⟨h1, h2, _, h4, h5, h6⟩ := smQ_Q h
 refine ⟨fun x hx => ?_, h2, ?_, h4, ?_, h6⟩
 ·rcases List.mem_append.1 hx with h | h
  ·exact h1 x h
  ·rw [List.mem_singleton.1 h]; decide
 ·have := limbs_sm h.1
  simp; omega
 ·rw [nv_app0]; exact h5
theorem smQ_den1 {r : Rat} (h : smR r) : smQ (limbs r.num.natAbs) [1] := by
 obtain ⟨h1, _, h3, _, h5, _⟩ := smQ_Q h
 exact ⟨h1, (fun x hx => by rw [List.mem_singleton.1 hx]; decide), h3, by decide, h5, by decide⟩
theorem smQ_0 : smQ [] [] := ⟨lim_nil, lim_nil, by decide, by decide, by decide, by decide⟩
theorem smQ_24 : smQ [2] [4] := ⟨(fun x hx => by rw [List.mem_singleton.1 hx]; decide), (fun x hx => by rw [List.mem_singleton.1 hx]; decide), by decide, by decide, by decide, by decide⟩
end Nat32
namespace Nat32
open Go Go.Dat
theorem wfold_blank (out : List (List Bs)) (row : List Bs) : ∀ n, (List.replicate n (32 : UInt8)).foldl wstep (out, row, []) = (out, row, [])
 | 0 => rfl
 | n + 1 => by
  rw [List.replicate_succ, List.foldl_cons]
  have : wstep (out, row, []) 32 = (out, row, []) := by simp [wstep, addW]
  rw [this]; exact wfold_blank out row n
theorem wfold_cell (out : List (List Bs)) (row : List Bs) : ∀ (s w : Bs), s.all cellC = true → s.foldl wstep (out, row, w) = (out, row, w ++ s)
 | [], w, _ => by simp
 | c :: s, w, h => by
  simp only [List.all_cons, Bool.and_eq_true] at h
  have hc : 33 ≤ c.toNat := by have := h.1; simp only [cellC, Bool.and_eq_true, decide_eq_true_eq] at this; exact this.1
  have h1 : c ≠ 32 := fun e => by subst e; revert hc; decide
  have h2 : c ≠ 10 := fun e => by subst e; revert hc; decide
  rw [List.foldl_cons]
  have : wstep (out, row, w) c = (out, row, w ++ [c]) := by simp [wstep, h1, h2]
  rw [this, wfold_cell out row s (w ++ [c]) h.2]
  simp
theorem cellB_spec {s : Bs} (h : cellB s = true) : s.all cellC = true ∧ s ≠ [] ∧ s.length ≤ 32 := by
 simp only [cellB, Bool.and_eq_true, decide_eq_true_eq] at h
 refine ⟨h.1, fun e => ?_, h.2.2⟩
 rw [e] at h; exact absurd h.2.1 (by decide)
theorem wfold_row (wd : Nat → Nat) (out : List (List Bs)) (r : List Bs) (hr : ∀ s ∈ r, cellB s = true) : ∀ k, k + 1 ≤ r.length → (rowT wd r (k + 1)).foldl wstep (out, [], []) = (out, r.take k, r.getD k [])
 | k, hk => by
  have hg : ∀ j, j < r.length → r.getD j [] ∈ r := fun j hj => by rw [List.getD_eq_getElem?_getD, List.getElem?_eq_getElem hj]; exact List.getElem_mem hj
  have hc := cellB_spec (hr _ (hg k (by omega)))
  rw [rowT_succ, List.foldl_append]
  unfold cellT
  rw [List.foldl_append, List.foldl_append]
  match k with
  | 0 =>
   rw [rowT_zero]
   simp only [List.foldl_nil, Nat.lt_irrefl, if_false]
   rw [wfold_blank, wfold_cell _ _ _ _ hc.1]
   rfl
  | k + 1 =>
   rw [wfold_row wd out r hr k (by omega), if_pos (Nat.succ_pos k)]
   have hp := cellB_spec (hr _ (hg k (by omega)))
   have : List.foldl wstep (out, r.take k, r.getD k []) [32, 32] = (out, r.take (k + 1), []) := by
    have h1 : addW (r.take k) (r.getD k []) = r.take (k + 1) := by
     unfold addW
     rw [if_neg hp.2.1, List.take_add_one, List.getD_eq_getElem?_getD, List.getElem?_eq_getElem (show k < r.length by omega)]
     rfl
    simp only [List.foldl_cons, List.foldl_nil]
    have e1 : wstep (out, r.take k, r.getD k []) 32 = (out, r.take (k + 1), []) := by
     show (if (32 : UInt8) ≠ 32 ∧ (32 : UInt8) ≠ 10 then _ else _) = _
     rw [if_neg (by decide), if_neg (by decide), h1]
    rw [e1]
    simp [wstep, addW]
   rw [this, wfold_blank, wfold_cell _ _ _ _ hc.1]
   rfl
theorem addW_last {r : List Bs} {m : Nat} (hl : r.length = m + 1) (hr : ∀ s ∈ r, cellB s = true) : addW (r.take m) (r.getD m []) = r := by
 have hm : r.getD m [] ∈ r := by rw [List.getD_eq_getElem?_getD, List.getElem?_eq_getElem (show m < r.length by omega)]; exact List.getElem_mem _
 have hne := (cellB_spec (hr _ hm)).2.1
 unfold addW
 rw [if_neg hne]
 have h3 : r.take (m + 1) = r := List.take_of_length_le (by omega)
 conv => rhs; rw [← h3]
 rw [List.take_add_one, List.getD_eq_getElem?_getD, List.getElem?_eq_getElem (show m < r.length by omega)]
 rfl
theorem wfold_col (wd : Nat → Nat) (recs : List (List Bs)) (n : Nat) (hn : 1 ≤ n) (hs : ∀ r ∈ recs, r.length = n) (hr : ∀ r ∈ recs, ∀ s ∈ r, cellB s = true) : ∀ i, i ≤ recs.length → (colT wd recs n i).foldl wstep ([], [], []) = (recs.take i, [], [])
 | 0, _ => rfl
 | i + 1, hi => by
  have hg : recs.getD i [] ∈ recs := by rw [List.getD_eq_getElem?_getD, List.getElem?_eq_getElem (show i < recs.length by omega)]; exact List.getElem_mem _
  rw [colT_succ, List.foldl_append, wfold_col wd recs n hn hs hr i (by omega), List.foldl_append]
  obtain ⟨m, rfl⟩ : ∃ m, n = m + 1 := ⟨n - 1, by omega⟩
  have hl := hs _ hg
  rw [wfold_row wd _ _ (hr _ hg) m (by omega)]
  have h1 := addW_last hl (hr _ hg)
  show wstep (recs.take i, _, _) 10 = _
  show (if (10 : UInt8) ≠ 32 ∧ (10 : UInt8) ≠ 10 then _ else _) = _
  rw [if_neg (by decide), if_pos rfl, h1, List.take_add_one, List.getD_eq_getElem?_getD, List.getElem?_eq_getElem (show i < recs.length by omega)]
  rfl
theorem words_colP {recs : List (List Bs)} {t : Bs} (h : colP recs = some t) : wordsL t = recs := by
 unfold colP at h
 split at h
 ·rename_i h1
  split at h
  ·rename_i h2
   cases h
   unfold shapeOk shapeB at h1
   simp only [Bool.and_eq_true, decide_eq_true_eq, List.all_eq_true] at h1
   unfold formB at h2
   simp only [List.all_eq_true] at h2
   have hn : 1 ≤ (recs.headD []).length := by
    cases recs with
    | nil => exact absurd h1.1.1 (by decide)
    | cons r rs => exact (h1.2 r (by simp)).2.1
   unfold wordsL
   rw [wfold_col _ recs _ hn (fun r hr => (h1.2 r hr).1) h2 recs.length (Nat.le_refl _), List.take_length]
  ·cases h
 ·cases h
theorem colP_len {recs : List (List Bs)} {t : Bs} (h : colP recs = some t) : recs.length ≤ 1024 ∧ ∀ r ∈ recs, r.length ≤ 32 ∧ ∀ s ∈ r, s.length ≤ 32 := by
 unfold colP at h
 split at h
 ·rename_i h1
  split at h
  ·rename_i h2
   unfold shapeOk shapeB at h1
   simp only [Bool.and_eq_true, decide_eq_true_eq, List.all_eq_true] at h1
   unfold formB at h2
   simp only [List.all_eq_true] at h2
   exact ⟨h1.1.2, fun r hr => ⟨by have := (h1.2 r hr); omega, fun s hs => (cellB_spec (h2 r hr s hs)).2.2⟩⟩
  ·cases h
 ·cases h
end Nat32
namespace Nat32
open Go Go.Dat
open Go.Lib (decDigits)
theorem mantP_9 {B : Nat} {m : List UInt8} {k : Int} {n d : Nat} (h : mantP m k = some (n, d)) (hl : m.length ≤ B) (hk : k.natAbs ≤ 40) : n ≤ 10 ^ (B + 40) ∧ d ≤ 10 ^ (B + 40) := by
 have hd := decN_len m
 unfold mantP at h
 split at h
 ·rename_i ho
  obtain ⟨h1, h2⟩ := decOk_all ho
  have hv := Nat.le_of_lt (dval_lt _ h1)
  rw [List.length_append] at hv
  have hp : ∀ a b, a ≤ B → b ≤ 40 → (10 : Nat) ^ a * 10 ^ b ≤ 10 ^ (B + 40) := fun a b ha hb => by
   rw [← Nat.pow_add]; exact Nat.pow_le_pow_right (by decide) (by omega)
  have hq : ∀ a, a ≤ B → (10 : Nat) ^ a ≤ 10 ^ (B + 40) := fun a ha => Nat.pow_le_pow_right (by decide) (by omega)
  split at h
  ·simp only [Option.some.injEq, Prod.mk.injEq] at h
   rw [← h.1, ← h.2]
   exact ⟨Nat.le_trans hv (hq _ (by omega)), hp _ _ (by omega) hk⟩
  ·simp only [Option.some.injEq, Prod.mk.injEq] at h
   rw [← h.1, ← h.2]
   exact ⟨Nat.le_trans (Nat.mul_le_mul_right _ hv) (hp _ _ (by omega) hk), hq _ (by omega)⟩
 ·cases h
theorem unsP_9 {B : Nat} {s : List UInt8} {n d : Nat} (h : unsP s = some (n, d)) (hl : s.length ≤ B) : n ≤ 10 ^ (B + 40) ∧ d ≤ 10 ^ (B + 40) := by
 unfold unsP at h
 split at h
 ·split at h
  ·rename_i h1
   simp only [Bool.and_eq_true, decide_eq_true_eq] at h1
   simp only [Option.some.injEq, Prod.mk.injEq] at h
   rw [← h.1, ← h.2]
   have key : ∀ l : List UInt8, okD l = true → l.length ≤ B → dval 0 l ≤ 10 ^ (B + 40) := fun l hl1 hl2 =>
    Nat.le_trans (Nat.le_of_lt (dval_lt l (okD_all hl1))) (Nat.pow_le_pow_right (by decide) (by omega))
   exact ⟨key _ h1.1.1 (by rw [List.length_take]; omega), key _ h1.1.2 (by rw [List.length_drop]; omega)⟩
  ·cases h
 ·split at h
  ·split at h
   ·rename_i h1
    exact mantP_9 h (by rw [List.length_take]; omega) (expOk_le h1)
   ·cases h
  ·exact mantP_9 h hl (by decide)
theorem len9 {n x : Nat} (h : n ≤ 10 ^ x) (hx : x ≤ 490) : (limbs n).length ≤ 100 := by
 rw [limbs_len]
 obtain ⟨y, hy⟩ : ∃ y : Nat, y = 99 := ⟨_, rfl⟩
 rw [show (100 : Nat) = y + 1 by omega]
 have e1 : (10 : Nat) ^ x ≤ 10 ^ (9 * y) := Nat.pow_le_pow_right (by decide) (by omega)
 rw [Nat.pow_mul] at e1
 have e2 : ((10 : Nat) ^ 9) ^ y ≤ 4294967296 ^ y := Nat.pow_le_pow_left (by decide) _
 have e3 : (4294967296 : Nat) ^ y < 4294967296 ^ (y + 1) := Nat.pow_lt_pow_right (by decide) (by omega)
 exact Nat.lt_of_le_of_lt (Nat.le_trans h (Nat.le_trans e1 e2)) e3
end Nat32
namespace Nat32
open Go Go.Dat Go.RowKit Go.ChangeShapes Go.WideShapes Go.Joins Go.Deep
inductive Ty where
 | int (k : IntKind)
 | bool
 | str
 | sl (e : Ty)
 | unit
 | pair (f r : Ty)
def Ty.size : Ty → Nat
 | .unit => 0
 | .pair f r => f.size + r.size
 | _ => 1
def IsD : Ty → List DV → Prop
 | .int k, ds => ∃ n, (Lit.int k n).wf = true ∧ ds = [.int k n]
 | .bool, ds => ∃ b, ds = [.bool b]
 | .str, ds => ∃ s : Bs, s.length ≤ 9223372036854775807 ∧ ds = [.str s]
 | .sl e, ds => ∃ zs : List (List DV), (∀ z ∈ zs, IsD e z) ∧ zs.length ≤ 9223372036854775807 ∧ ds = [.sl e.size zs.flatten]
 | .unit, ds => ds = []
 | .pair f r, ds => ∃ a b, IsD f a ∧ IsD r b ∧ ds = a ++ b
theorem IsD.len : ∀ {τ : Ty} {ds : List DV}, IsD τ ds → ds.length = τ.size
 | .int k, _, ⟨_, _, h⟩ => by rw [h]; rfl
 | .bool, _, ⟨_, h⟩ => by rw [h]; rfl
 | .str, _, ⟨_, _, h⟩ => by rw [h]; rfl
 | .sl e, _, ⟨_, _, _, h⟩ => by rw [h]; rfl
 | .unit, _, h => by rw [show _ = [] from h]; rfl
 | .pair f r, _, ⟨a, b, ha, hb, h⟩ => by rw [h, List.length_append, ha.len, hb.len]; rfl
section
variable (P : Program)
def fitX : Ty → Sum TypeId (List Field × Nat) → Bool
 | .int k, .inl t => match P.underlying t with | some (.int k') => decide (k = k') | _ => false
 | .bool, .inl t => match P.underlying t with | some .bool => true | _ => false
 | .str, .inl t => match P.underlying t with | some .string => true | _ => false
 | .sl e, .inl t => match P.underlying t with | some (.slice u) => P.cellsOf u == e.size && e.size != 0 && fitX e (.inl u) | _ => false
 | .unit, .inr ([], _) => true
 | .pair a r, .inl t => match P.underlying t with
  | some (.struct fs) => match fs.toList with
   | f :: fs' => f.offset == 0 && P.cellsOf f.type == a.size && P.cellsOf t == a.size + r.size && fitX a (.inl f.type) && fitX r (.inr (fs', a.size))
   | [] => false
  | _ => false
 | .pair a r, .inr (f :: fs', off) => f.offset == off && P.cellsOf f.type == a.size && fitX a (.inl f.type) && fitX r (.inr (fs', off + a.size))
 | _, _ => false
end
section
variable {H : Type} {enc : TypeId × Value → H} {P : Program} {w : World} {base : Nat} {spare : Nat → Bool} {held : Bool}
theorem flat_get {α : Type} {n : Nat} : ∀ {zs : List (List α)}, (∀ z ∈ zs, z.length = n) → ∀ {k : Nat} {d : α}, zs.flatten[k]? = some d → ∃ i j z, k = i * n + j ∧ j < n ∧ i < zs.length ∧ zs[i]? = some z ∧ z[j]? = some d
 | [], _, k, d, h => by simp at h
 | z :: zs, hz, k, d, h => by
  have h0 := hz z (by simp)
  rw [List.flatten_cons, List.getElem?_append] at h
  split at h
  ·rename_i hlt
   exact ⟨0, k, z, by simp, by omega, by simp, rfl, h⟩
  ·rename_i hge
   obtain ⟨i, j, y, e1, e2, e3, e4, e5⟩ := flat_get (fun y hy => hz y (by simp [hy])) h
   refine ⟨i + 1, j, y, ?_, e2, by simp; exact e3, e4, e5⟩
   rw [Nat.add_mul]; omega
theorem flat_len {α : Type} {n : Nat} : ∀ {zs : List (List α)}, (∀ z ∈ zs, z.length = n) → zs.flatten.length = zs.length * n
 | [], _ => by simp
 | z :: zs, hz => by
  rw [List.flatten_cons, List.length_append, hz z (by simp), flat_len (fun y hy => hz y (by simp [hy])), List.length_cons, Nat.add_mul]
  omega
theorem list_of {α : Type} {p : Nat → α → Prop} : ∀ (n : Nat), (∀ i, i < n → ∃ x, p i x) → ∃ l : List α, l.length = n ∧ ∀ i x, l[i]? = some x → p i x
 | 0, _ => ⟨[], rfl, fun i x h => by simp at h⟩
 | n + 1, h => by
  obtain ⟨l, h1, h2⟩ := list_of n fun i hi => h i (by omega)
  obtain ⟨x, hx⟩ := h n (by omega)
  refine ⟨l ++ [x], by simp [h1], fun i y hy => ?_⟩
  rw [List.getElem?_append] at hy
  split at hy
  ·exact h2 i y hy
  ·rename_i hge
   have : i - l.length = 0 := by
    rcases Nat.lt_or_ge (i - l.length) 1 with h | h
    ·omega
    ·rw [List.getElem?_eq_none (by simpa using h)] at hy; cases hy
   rw [this] at hy
   cases hy
   rw [show i = n by omega]; exact hx
theorem trod_D : ∀ (τ : Ty), (∀ (t : TypeId) (n : Nat) (cs : List Value) (y : DataW H × List MemPlace), fitX P τ (.inl t) = true → DataW.trod enc P w base spare held n t cs = some y →
   ∃ ds, IsD τ ds ∧ cs.length = τ.size ∧ ∀ (k : Nat) d v, ds[k]? = some d → cs[k]? = some v → VI w (fun _ => False) d v) ∧
  (∀ (fs : List Field) (off n : Nat) (cs : List Value), fitX P τ (.inr (fs, off)) = true → (∀ (i : Nat) f, fs[i]? = some f → ∃ y, DataW.trod enc P w base spare held n f.type ((cs.drop f.offset).take (P.cellsOf f.type)) = some y) →
   ∃ ds, IsD τ ds ∧ ∀ (k : Nat) d v, ds[k]? = some d → cs[off + k]? = some v → VI w (fun _ => False) d v)
 | .int k => by
  refine ⟨fun t n cs y hf hy => ?_, fun fs off n cs hf _ => by simp [fitX] at hf⟩
  simp only [fitX] at hf
  split at hf
  ·rename_i k' ht
   have e : k = k' := by simpa using hf
   subst e
   obtain ⟨z, rfl, hw, _⟩ := DataW.trod_int ht hy
   refine ⟨[.int k z], ⟨z, by first | exact hw | exact hw.1 | simp_all, rfl⟩, rfl, fun j d v h1 h2 => ?_⟩
   match j with
   | 0 => simp at h1 h2; subst h1; subst h2; exact .int _ _
   | j + 1 => simp at h1
  ·cases hf
 | .bool => by
  refine ⟨fun t n cs y hf hy => ?_, fun fs off n cs hf _ => by simp [fitX] at hf⟩
  simp only [fitX] at hf
  split at hf
  ·rename_i ht
   obtain ⟨b, rfl, _⟩ := DataW.trod_bool ht hy
   refine ⟨[.bool b], ⟨b, rfl⟩, rfl, fun j d v h1 h2 => ?_⟩
   match j with
   | 0 => simp at h1 h2; subst h1; subst h2; exact .bool _
   | j + 1 => simp at h1
  ·cases hf
 | .str => by
  refine ⟨fun t n cs y hf hy => ?_, fun fs off n cs hf _ => by simp [fitX] at hf⟩
  simp only [fitX] at hf
  split at hf
  ·rename_i ht
   obtain ⟨s, rfl, _, hl⟩ := DataW.trod_string ht hy
   refine ⟨[.str s.data.toList], ⟨_, by unfold maxLen at hl; simpa using hl, rfl⟩, rfl, fun j d v h1 h2 => ?_⟩
   match j with
   | 0 =>
    simp at h1 h2; subst h1; subst h2
    have : (Value.string s) = .string ⟨s.data.toList.toArray⟩ := by cases s; simp
    rw [this]; exact .str _
   | j + 1 => simp at h1
  ·cases hf
 | .sl e => by
  have ih := trod_D e
  refine ⟨fun t n cs y hf hy => ?_, fun fs off n cs hf _ => by simp [fitX] at hf⟩
  simp only [fitX] at hf
  split at hf
  ·rename_i u ht
   simp only [Bool.and_eq_true, beq_iff_eq, bne_iff_ne, ne_eq] at hf
   obtain ⟨⟨hc, h0⟩, hfe⟩ := hf
   have fin : ∀ (zs : List (List DV)) (v : Value), (∀ z ∈ zs, IsD e z) → zs.length ≤ 9223372036854775807 → VI w (fun _ => False) (.sl e.size zs.flatten) v → cs = [v] →
     ∃ ds, IsD (.sl e) ds ∧ cs.length = Ty.size (.sl e) ∧ ∀ (k : Nat) d v, ds[k]? = some d → cs[k]? = some v → VI w (fun _ => False) d v := by
    rintro zs v h1 h2 h3 rfl
    refine ⟨[.sl e.size zs.flatten], ⟨zs, h1, h2, rfl⟩, rfl, fun j d v' g1 g2 => ?_⟩
    match j with
    | 0 => simp at g1 g2; subst g1; subst g2; exact h3
    | j + 1 => simp at g1
   rcases DataW.trod_slice ht hy with ⟨rfl, _⟩ | ⟨a, len, cap, elems, rest, m, _, rfl, _, hb, hl, hm, hlen, hcells, _, _⟩
   ·exact fin [] _ (fun z h => by cases h) (Nat.zero_le _) (.sl0 _ _ _) rfl
   ·have each : ∀ i, i < len → ∃ (x : List DV × List Value), IsD e x.1 ∧ x.2.length = e.size ∧ (∀ j, j < e.size → w.cell? (a.add (i * e.size + j)) = x.2[j]?) ∧ ∀ (k : Nat) d v, x.1[k]? = some d → x.2[k]? = some v → VI w (fun _ => False) d v := fun i hi => by
     have h1 := hcells i hi
     rw [hc] at h1
     obtain ⟨z, hz⟩ : ∃ z, elems[i]? = some z := ⟨_, List.getElem?_eq_getElem (by omega)⟩
     rw [hz, Option.bind_eq_some_iff] at h1
     obtain ⟨cs, h2, h3⟩ := h1
     obtain ⟨_, g2, g3⟩ := World.cells?_some h2
     obtain ⟨ds, k1, k2, k3⟩ := ih.1 u m cs z hfe h3
     refine ⟨(ds, cs), k1, g2, fun j hj => ?_, k3⟩
     rw [← g3 j hj, Dat.add_add]
    obtain ⟨l, hl1, hl2⟩ := list_of len each
    have hzl : ∀ z ∈ l.map (·.1), z.length = e.size := fun z hz => by
     obtain ⟨x, hx, rfl⟩ := List.mem_map.1 hz
     obtain ⟨i, hi⟩ := List.mem_iff_getElem?.1 hx
     exact (hl2 i x hi).1.len
    refine fin (l.map (·.1)) (.slice (some a) len cap) (fun z hz => ?_) (by rw [List.length_map, hl1]; unfold maxLen at hm; omega) ?_ rfl
    ·obtain ⟨x, hx, rfl⟩ := List.mem_map.1 hz
     obtain ⟨i, hi⟩ := List.mem_iff_getElem?.1 hx
     exact (hl2 i x hi).1
    ·by_cases hz : len = 0
     ·have : l = [] := List.eq_nil_of_length_eq_zero (by omega)
      subst this
      subst hz
      exact .sl0 _ _ _
     ·have hfl := flat_len hzl
      rw [List.length_map, hl1] at hfl
      have hpos : 0 < len * e.size := Nat.mul_pos (Nat.pos_of_ne_zero hz) (Nat.pos_of_ne_zero h0)
      refine .sl (fun k => (w.cell? (a.add k)).getD undef) (fun e' => ?_) hfl hl (fun h => h) (fun k d hk => ?_) (fun k d hk => ?_)
      ·rw [e'] at hfl; simp at hfl; omega
      ·obtain ⟨i, j, z, rfl, hj, hi, hzi, hzj⟩ := flat_get hzl hk
       rw [List.getElem?_map, Option.map_eq_some_iff] at hzi
       obtain ⟨x, hx, rfl⟩ := hzi
       obtain ⟨x1, x2, x3, x4⟩ := hl2 i x hx
       obtain ⟨v, hv⟩ := exists_get (l := x.2) (k := j) (by omega)
       rw [x3 j hj, hv]; rfl
      ·obtain ⟨i, j, z, rfl, hj, hi, hzi, hzj⟩ := flat_get hzl hk
       rw [List.getElem?_map, Option.map_eq_some_iff] at hzi
       obtain ⟨x, hx, rfl⟩ := hzi
       obtain ⟨x1, x2, x3, x4⟩ := hl2 i x hx
       obtain ⟨v, hv⟩ := exists_get (l := x.2) (k := j) (by omega)
       rw [x3 j hj, hv]
       exact x4 j d v hzj hv
  ·cases hf
 | .unit => by
  refine ⟨fun t n cs y hf hy => by simp [fitX] at hf, fun fs off n cs hf _ => ⟨[], rfl, fun k d v h1 _ => by simp at h1⟩⟩
 | .pair f r => by
  have iha := trod_D f
  have ihr := trod_D r
  have join : ∀ (g : Field) (fs' : List Field) (off n : Nat) (cs : List Value), g.offset = off → P.cellsOf g.type = f.size → fitX P f (.inl g.type) = true → fitX P r (.inr (fs', off + f.size)) = true →
    (∀ (i : Nat) h, (g :: fs')[i]? = some h → ∃ y, DataW.trod enc P w base spare held n h.type ((cs.drop h.offset).take (P.cellsOf h.type)) = some y) →
    ∃ ds, IsD (.pair f r) ds ∧ ∀ (k : Nat) d v, ds[k]? = some d → cs[off + k]? = some v → VI w (fun _ => False) d v := by
   intro g fs' off n cs e1 e2 e3 e4 hall
   obtain ⟨y, hy⟩ := hall 0 g rfl
   obtain ⟨da, a1, a2, a3⟩ := iha.1 _ _ _ _ e3 hy
   obtain ⟨dr, b1, b2⟩ := ihr.2 fs' (off + f.size) n cs e4 fun i h hi => hall (i + 1) h hi
   refine ⟨da ++ dr, ⟨da, dr, a1, b1, rfl⟩, fun k d v h1 h2 => ?_⟩
   rw [List.getElem?_append] at h1
   have hlen := a1.len
   split at h1
   ·rename_i hlt
    refine a3 k d v h1 ?_
    rw [e1, e2, List.getElem?_take, if_pos (by omega), List.getElem?_drop]; exact h2
   ·rename_i hge
    refine b2 (k - da.length) d v h1 ?_
    rw [show off + f.size + (k - da.length) = off + k by omega]; exact h2
  refine ⟨fun t n cs y hf hy => ?_, fun fs off n cs hf hall => ?_⟩
  ·simp only [fitX] at hf
   split at hf
   ·rename_i fs ht
    split at hf
    ·rename_i g fs' hfs
     simp only [Bool.and_eq_true, beq_iff_eq] at hf
     obtain ⟨⟨⟨⟨e1, e2⟩, e3⟩, e4⟩, e5⟩ := hf
     obtain ⟨xs, m, _, _, hlc, hxl, hget⟩ := DataW.trod_struct ht hy
     obtain ⟨ds, h1, h2⟩ := join g fs' 0 m cs e1 e2 e4 (by rw [Nat.zero_add]; exact e5) fun i h hi => by
      have hi' : fs[i]? = some h := by rw [← Array.getElem?_toList, hfs]; exact hi
      have hlt : i < xs.length := by rw [hxl]; exact (Array.getElem?_eq_some_iff.1 hi').1
      exact ⟨xs[i], by rw [hget i h hi', List.getElem?_eq_getElem hlt]⟩
     exact ⟨ds, h1, hlc.trans e3, fun k d v g1 g2 => h2 k d v g1 (by rw [Nat.zero_add]; exact g2)⟩
    ·cases hf
   ·cases hf
  ·cases fs with
   | nil => simp [fitX] at hf
   | cons g fs' =>
    simp only [fitX, Bool.and_eq_true, beq_iff_eq] at hf
    obtain ⟨⟨⟨e1, e2⟩, e4⟩, e5⟩ := hf
    exact join g fs' off n cs e1 e2 e4 e5 hall
theorem vi_S {r : Reach} {b0 : Nat} {t : TypeId} {v : Value} {d : DataW H} {p : List MemPlace} {e : Ty} (hf : fitX P (.sl e) (.inl t) = true)
  (hv : Value.okWide P w r b0 t v) (h : DataW.Trod enc P w base spare held t v d p) : ∃ zs : List (List DV), (∀ z ∈ zs, IsD e z) ∧ zs.length ≤ 9223372036854775807 ∧ VI w (fun _ => False) (.sl e.size zs.flatten) v := by
 obtain ⟨fuel, hfu⟩ := h
 have hs : ∃ u, P.underlying t = some (.slice u) := by
  simp only [fitX] at hf
  split at hf
  ·rename_i u ht; exact ⟨u, ht⟩
  ·cases hf
 obtain ⟨u, ht⟩ := hs
 obtain ⟨A, len, cap, rfl⟩ := okWide_slice ht hv
 obtain ⟨ds, ⟨zs, h1, h2, rfl⟩, h3, h4⟩ := (trod_D (.sl e)).1 t fuel _ _ hf hfu
 have hcs : (Value.slice A len cap).cells.toList = [.slice A len cap] := by simp [Value.cells]
 rw [hcs] at h4
 exact ⟨zs, h1, h2, h4 0 _ _ rfl rfl⟩
end
def ratT : Ty := .pair (.pair .bool (.pair (.sl (.int .u32)) .unit)) (.pair (.sl (.int .u32)) .unit)
theorem IsD.u32s {ds : List DV} (h : IsD (.sl (.int .u32)) ds) : ∃ xs : List Nat, lim xs ∧ xs.length ≤ 9223372036854775807 ∧ ds = [.sl 1 (us xs)] := by
 obtain ⟨zs, h1, h2, rfl⟩ := h
 have : ∀ zs : List (List DV), (∀ z ∈ zs, IsD (.int .u32) z) → ∃ xs : List Nat, lim xs ∧ xs.length = zs.length ∧ zs.flatten = us xs := by
  intro zs
  induction zs with
  | nil => intro _; exact ⟨[], lim_nil, rfl, rfl⟩
  | cons z zs ih =>
   intro h
   obtain ⟨xs, k1, k2, k3⟩ := ih fun z hz => h z (by simp [hz])
   obtain ⟨n, hw, rfl⟩ := h z (by simp)
   have hb := bounds_u32 hw
   refine ⟨n.toNat :: xs, fun x hx => ?_, by simp [k2], ?_⟩
   ·rcases List.mem_cons.1 hx with rfl | hx
    ·omega
    ·exact k1 x hx
   ·rw [List.flatten_cons, k3]
    show [DV.int .u32 n] ++ us xs = u32 n.toNat :: us xs
    unfold u32
    rw [show ((n.toNat : Nat) : Int) = n by omega]; rfl
 obtain ⟨xs, k1, k2, k3⟩ := this zs h1
 exact ⟨xs, k1, by omega, by rw [k3]; rfl⟩
theorem IsD.rat {ds : List DV} (h : IsD ratT ds) : ∃ (neg : Bool) (a d : List Nat), lim a ∧ lim d ∧ a.length ≤ 9223372036854775807 ∧ d.length ≤ 9223372036854775807 ∧ ds = [.bool neg, .sl 1 (us a), .sl 1 (us d)] := by
 obtain ⟨i, r, ⟨b, m, ⟨neg, rfl⟩, ⟨m1, u1, hm, hu1, rfl⟩, rfl⟩, ⟨dn, u2, hd, hu2, rfl⟩, rfl⟩ := h
 obtain ⟨a, a1, a2, rfl⟩ := hm.u32s
 obtain ⟨d, d1, d2, rfl⟩ := hd.u32s
 rw [show u1 = [] from hu1, show u2 = [] from hu2]
 exact ⟨neg, a, d, a1, d1, a2, d2, rfl⟩
end Nat32
