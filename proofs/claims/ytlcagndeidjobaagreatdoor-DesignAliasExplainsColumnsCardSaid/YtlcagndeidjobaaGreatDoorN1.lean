/- Lemmas of the walk; no conditions beyond those that each states. -/
import Derived.OpenShut
import Derived.Below
import Derived.Lib.SmallJoins
import Derived.Lib.ItoaNum
import Derived.Lib.Repeat
import Derived.Lib.SplitLaws
import Derived.ShutString
import Derived.Lib.Bytealg
import Derived.Lib.IndexAny
import Derived.Lib.TrimByte
import Derived.Lib.Strings
import Derived.Test.YtlcagndeidjobaaGreatDoorD2
import Derived.Test.YtlcagndeidjobaaGreatDoorD3
set_option linter.unusedSimpArgs false
set_option linter.unusedVariables false
set_option linter.unnecessarySimpa false
set_option maxHeartbeats 4000000
namespace Nat32
def B : Nat := 4294967296
def nv : List Nat → Nat
 | [] => 0
 | x :: r => x + 4294967296 * nv r
def limbs (n : Nat) : List Nat := if h : n = 0 then [] else (n % 4294967296) :: limbs (n / 4294967296)
 termination_by n
 decreasing_by omega
def lim (a : List Nat) : Prop := ∀ x ∈ a, x < 4294967296
def vld (a : List Nat) : Bool := decide (a.length = 0 ∨ a.getD (a.length - 1) 0 ≠ 0)
def val (a : List Nat) : List Nat := if vld a then a else []
def trimN (a : List Nat) : Nat → Nat
 | 0 => 0
 | n + 1 => if a.getD n 0 = 0 then trimN a n else n + 1
def trimL (a : List Nat) : List Nat := a.take (trimN a a.length)
theorem limbs_zero : limbs 0 = [] := by rw [limbs]; simp
theorem limbs_pos {n : Nat} (h : n ≠ 0) : limbs n = (n % 4294967296) :: limbs (n / 4294967296) := by rw [limbs]; simp [h]
theorem limbs_eq_nil {n : Nat} : limbs n = [] ↔ n = 0 := by
 constructor
 ·intro h; rcases Nat.eq_zero_or_pos n with e | e
  ·exact e
  ·rw [limbs_pos (by omega)] at h; cases h
 ·rintro rfl; exact limbs_zero
theorem nv_limbs (n : Nat) : nv (limbs n) = n := by
 induction n using Nat.strongRecOn with
 | _ n ih =>
  by_cases h : n = 0
  ·subst h; rw [limbs_zero]; rfl
  ·rw [limbs_pos h, nv, ih _ (by omega)]; omega
theorem lim_limbs (n : Nat) : lim (limbs n) := by
 induction n using Nat.strongRecOn with
 | _ n ih =>
  by_cases h : n = 0
  ·subst h; rw [limbs_zero]; intro x hx; cases hx
  ·rw [limbs_pos h]
   intro x hx
   rcases List.mem_cons.1 hx with e | e
   ·subst e; omega
   ·exact ih _ (by omega) x e
theorem lim_nil : lim [] := by intro x hx; cases hx
theorem lim_cons {x : Nat} {r : List Nat} : lim (x :: r) ↔ x < 4294967296 ∧ lim r := by
 constructor
 ·intro h; exact ⟨h x (by simp), fun y hy => h y (by simp [hy])⟩
 ·rintro ⟨h1, h2⟩ y hy
  rcases List.mem_cons.1 hy with e | e
  ·subst e; exact h1
  ·exact h2 y e
theorem lim_take {a : List Nat} (h : lim a) (n : Nat) : lim (a.take n) := fun x hx => h x (List.mem_of_mem_take hx)
theorem lim_getD {a : List Nat} (h : lim a) (k : Nat) : a.getD k 0 < 4294967296 := by
 rw [List.getD_eq_getElem?_getD]
 cases e : a[k]? with
 | none => simp
 | some x => exact h x (List.mem_of_getElem? e)
theorem vld_cons {x y : Nat} {r : List Nat} : vld (x :: y :: r) = vld (y :: r) := by
 unfold vld
 simp [List.getD_eq_getElem?_getD]
theorem limbs_nv {a : List Nat} (hl : lim a) (hv : vld a = true) : limbs (nv a) = a := by
 induction a with
 | nil => exact limbs_zero
 | cons x r ih =>
  obtain ⟨hx, hr⟩ := lim_cons.1 hl
  cases r with
  | nil =>
   have : x ≠ 0 := by simpa [vld] using hv
   simp only [nv, Nat.mul_zero, Nat.add_zero]
   rw [limbs_pos this, Nat.mod_eq_of_lt hx, Nat.div_eq_of_lt hx, limbs_zero]
  | cons y r =>
   rw [vld_cons] at hv
   have h := ih hr hv
   have hne : nv (y :: r) ≠ 0 := by
    intro e; rw [e, limbs_zero] at h; cases h
   rw [nv, limbs_pos (by omega)]
   have e1 : (x + 4294967296 * nv (y :: r)) % 4294967296 = x := by omega
   have e2 : (x + 4294967296 * nv (y :: r)) / 4294967296 = nv (y :: r) := by omega
   rw [e1, e2, h]
theorem nv_app (a b : List Nat) : nv (a ++ b) = nv a + 4294967296 ^ a.length * nv b := by
 induction a with
 | nil => simp [nv]
 | cons x a ih =>
  simp only [List.cons_append, nv, ih, List.length_cons, Nat.pow_succ, Nat.mul_add]
  rw [← Nat.mul_assoc, Nat.mul_comm (4294967296 ^ a.length) 4294967296]
  omega
theorem take_succ_getD {a : List Nat} {n : Nat} (h : n < a.length) : a.take (n + 1) = a.take n ++ [a.getD n 0] := by
 rw [List.take_succ_eq_append_getElem h, List.getD_eq_getElem?_getD, List.getElem?_eq_getElem h]; rfl
theorem nv_take_succ {a : List Nat} {n : Nat} (h : n < a.length) : nv (a.take (n + 1)) = nv (a.take n) + 4294967296 ^ n * a.getD n 0 := by
 rw [take_succ_getD h, nv_app]
 rw [List.length_take, Nat.min_eq_left (by omega)]; simp [nv]
theorem trimN_le (a : List Nat) : ∀ n, trimN a n ≤ n
 | 0 => Nat.le_refl _
 | n + 1 => by
  have := trimN_le a n
  simp only [trimN]; split <;> omega
theorem trimN_spec (a : List Nat) : ∀ n, n ≤ a.length → nv (a.take (trimN a n)) = nv (a.take n) ∧ vld (a.take (trimN a n)) = true
 | 0, _ => by simp [trimN, nv, vld]
 | n + 1, h => by
  simp only [trimN]
  split
  ·rename_i h0
   obtain ⟨h1, h2⟩ := trimN_spec a n (by omega)
   refine ⟨?_, h2⟩
   rw [h1, nv_take_succ (by omega), h0]; omega
  ·rename_i h0
   refine ⟨rfl, ?_⟩
   unfold vld
   rw [take_succ_getD (by omega)]
   simp only [decide_eq_true_eq]
   right
   have hl : (a.take n).length = n := by simp; omega
   simp only [List.length_append, hl, List.length_singleton, Nat.add_sub_cancel]
   rw [List.getD_eq_getElem?_getD, List.getElem?_append_right (by omega), hl]
   simpa using h0
theorem trimL_limbs {a : List Nat} (hl : lim a) : trimL a = limbs (nv a) := by
 obtain ⟨h1, h2⟩ := trimN_spec a a.length (Nat.le_refl _)
 rw [List.take_length] at h1
 have := limbs_nv (lim_take hl (trimN a a.length)) h2
 rw [h1] at this
 exact this.symm
theorem lim_val {a : List Nat} (h : lim a) : lim (val a) := by unfold val; split; exact h; exact lim_nil
theorem vld_val (a : List Nat) : vld (val a) = true := by
 unfold val
 by_cases h : vld a = true
 ·rw [if_pos h]; exact h
 ·rw [if_neg h]; rfl
def vn (a : List Nat) : Nat := nv (val a)
theorem val_limbs {a : List Nat} (h : lim a) : val a = limbs (vn a) := (limbs_nv (lim_val h) (vld_val a)).symm
theorem val_len (a : List Nat) : (val a).length ≤ a.length := by unfold val; split <;> simp
theorem vld_limbs (n : Nat) : vld (limbs n) = true := by
 have : ∀ n, ∀ k, k ≤ n → vld (limbs k) = true := by
  intro n
  induction n with
  | zero => intro k hk; have : k = 0 := by omega
            subst this; rw [limbs_zero]; rfl
  | succ n ih =>
   intro k hk
   by_cases h : k = 0
   ·subst h; rw [limbs_zero]; rfl
   ·rw [limbs_pos h]
    by_cases h2 : k / 4294967296 = 0
    ·rw [h2, limbs_zero]
     have : k % 4294967296 ≠ 0 := by omega
     simp [vld, this]
    ·have := ih (k / 4294967296) (by omega)
     rw [limbs_pos h2] at this ⊢
     rw [vld_cons]; exact this
 exact this n n (Nat.le_refl _)
theorem vn_limbs (n : Nat) : vn (limbs n) = n := by rw [vn, val, vld_limbs, if_pos rfl, nv_limbs]
theorem limbs_inj {m n : Nat} (h : limbs m = limbs n) : m = n := by rw [← nv_limbs m, h, nv_limbs]
theorem nv_lt {a : List Nat} (h : lim a) : nv a < 4294967296 ^ a.length := by
 induction a with
 | nil => simp [nv]
 | cons x r ih =>
  obtain ⟨hx, hr⟩ := lim_cons.1 h
  have := ih hr
  simp only [nv, List.length_cons, Nat.pow_succ]
  omega
theorem limbs_len {n k : Nat} : (limbs n).length ≤ k ↔ n < 4294967296 ^ k := by
 constructor
 ·intro h
  have := nv_lt (lim_limbs n)
  rw [nv_limbs] at this
  exact Nat.lt_of_lt_of_le this (Nat.pow_le_pow_right (by decide) h)
 ·intro h
  induction k generalizing n with
  | zero => have : n = 0 := by simpa using h
            subst this; rw [limbs_zero]; simp
  | succ k ih =>
   by_cases h0 : n = 0
   ·subst h0; rw [limbs_zero]; simp
   ·rw [limbs_pos h0]
    have := ih (n := n / 4294967296) (by rw [Nat.div_lt_iff_lt_mul (by decide), ← Nat.pow_succ]; exact h)
    simp only [List.length_cons]; omega
end Nat32
namespace Nat32
open Go Go.Dat
def u32 (n : Nat) : DV := .int .u32 n
def us (xs : List Nat) : List DV := xs.map u32
theorem us_length (xs : List Nat) : (us xs).length = xs.length := by simp [us]
theorem us_getD {xs : List Nat} {k : Nat} (h : k < xs.length) : (us xs).getD k .undef = .int .u32 (xs.getD k 0 : Nat) := by
 simp [us, List.getD_eq_getElem?_getD, List.getElem?_map, List.getElem?_eq_getElem h, u32]
theorem us_take (xs : List Nat) (k : Nat) : (us xs).take k = us (xs.take k) := by simp [us, List.map_take]
theorem us_nil : us [] = [] := rfl
theorem us_rf (xs : List Nat) : (us xs).all DV.rf = true := by simp [us, u32, DV.rf]
theorem us_one (xs : List Nat) : (∀ d ∈ us xs, d.one = true) = True := by simp [us, u32, DV.one]
theorem us_purge (o : Nat) (xs : List Nat) : (us xs).map (purge o) = us xs := by simp [us, u32, purge_int]
theorem us_set (xs : List Nat) (k n : Nat) : (us xs).set k (.int .u32 n) = us (xs.set k n) := by simp [us, u32, List.map_set]
theorem us_rep (n : Nat) : rep n [DV.int .u32 0] = us (List.replicate n 0) := by simp [us, u32, rep]
theorem us2 (x y : Nat) : [DV.int .u32 x, DV.int .u32 y] = us [x, y] := rfl
theorem frz_us {o len : Nat} {q : List Nat} (h : len = q.length) : frz o (us q) (.osl 1 o 0 len) = .sl 1 (us q) := by
 subst h
 rw [frz_osl_eq o (us q) 0 q.length (by decide) (by simp [us_length])]
 simp [← us_length]
def cmpN (x y : Nat) : Int := if x < y then -1 else if y < x then 1 else 0
theorem cmp_len_lt {x y : Nat} (h : (limbs x).length < (limbs y).length) : x < y := by
 have h1 : ¬ (limbs y).length ≤ (limbs x).length := by omega
 rw [limbs_len] at h1
 have h2 := limbs_len.1 (Nat.le_refl (limbs x).length)
 omega
theorem nv_split {a : List Nat} {m : Nat} (h : m < a.length) : nv a = nv (a.take m) + 4294967296 ^ m * (a.getD m 0 + 4294967296 * nv (a.drop (m + 1))) := by
 have e : a = a.take m ++ (a.getD m 0 :: a.drop (m + 1)) := by
  rw [List.getD_eq_getElem?_getD, List.getElem?_eq_getElem h]; simp
 have := nv_app (a.take m) (a.getD m 0 :: a.drop (m + 1))
 rw [← e, List.length_take, Nat.min_eq_left (by omega)] at this
 rw [this]; rfl
theorem nv_lt_of {a b : List Nat} {m : Nat} (ha : lim a) (hma : m < a.length) (hmb : m < b.length) (hd : a.drop (m + 1) = b.drop (m + 1)) (h : a.getD m 0 < b.getD m 0) : nv a < nv b := by
 rw [nv_split hma, nv_split hmb, hd]
 have h1 := nv_lt (lim_take ha m)
 rw [List.length_take, Nat.min_eq_left (by omega)] at h1
 have h2 : 4294967296 ^ m * (a.getD m 0 + 4294967296 * nv (b.drop (m + 1)) + 1) ≤ 4294967296 ^ m * (b.getD m 0 + 4294967296 * nv (b.drop (m + 1))) := Nat.mul_le_mul_left _ (by omega)
 rw [Nat.mul_add, Nat.mul_one] at h2
 omega
theorem drop_step {a b : List Nat} {m : Nat} (hma : m < a.length) (hmb : m < b.length) (hd : a.drop (m + 1) = b.drop (m + 1)) (h : a.getD m 0 = b.getD m 0) : a.drop m = b.drop m := by
 rw [List.drop_eq_getElem_cons hma, List.drop_eq_getElem_cons hmb, hd]
 congr 1
 rw [List.getD_eq_getElem?_getD, List.getElem?_eq_getElem hma, List.getD_eq_getElem?_getD, List.getElem?_eq_getElem hmb] at h
 exact h
theorem cmp_of_ne {x y : Nat} (h : (limbs x).length ≠ (limbs y).length) : cmpN x y = if (limbs x).length < (limbs y).length then -1 else 1 := by
 unfold cmpN
 by_cases h1 : (limbs x).length < (limbs y).length
 ·rw [if_pos (cmp_len_lt h1), if_pos h1]
 ·have := cmp_len_lt (x := y) (y := x) (by omega)
  rw [if_neg (by omega), if_pos this, if_neg h1]
theorem take_step {a b : List Nat} {n : Nat} (hna : n < a.length) (hnb : n < b.length) (ht : a.take n = b.take n) (h : a.getD n 0 = b.getD n 0) : a.take (n + 1) = b.take (n + 1) := by
 rw [take_succ_getD hna, take_succ_getD hnb, ht, h]
end Nat32
namespace Go.Dat
open Go
theorem or_nat64 (a b : Nat) (ha : a < 18446744073709551616) (hb : b < 18446744073709551616) : bitE .or .u64 (a : Int) (b : Int) = ((a ||| b : Nat) : Int) := by
 unfold bitE
 have e1 : (BitVec.ofInt IntKind.u64.bits (a : Int)).toNat = a := by
  rw [BitVec.ofInt_natCast, BitVec.toNat_ofNat]
  exact Nat.mod_eq_of_lt ha
 have e2 : (BitVec.ofInt IntKind.u64.bits (b : Int)).toNat = b := by
  rw [BitVec.ofInt_natCast, BitVec.toNat_ofNat]
  exact Nat.mod_eq_of_lt hb
 simp only [BitVec.toNat_or, e1, e2]
 rw [IntKind.wrap_u64]
 have : a ||| b < 2 ^ 64 := Nat.or_lt_two_pow (by simpa using ha) (by simpa using hb)
 omega
theorem or_add {h x : Nat} (hx : x < 4294967296) : (4294967296 * h) ||| x = 4294967296 * h + x := by
 have := Nat.two_pow_add_eq_or_of_lt (i := 32) (b := x) hx h
 simpa using this.symm
theorem or32 {h x : Nat} (hx : x < 4294967296) (hs : 4294967296 * h + x < 18446744073709551616) :
  bitE .or .u64 ((h : Int) * 2 ^ min (Int.toNat 32) IntKind.u64.bits % 18446744073709551616) ((x : Int) % 18446744073709551616) = ((4294967296 * h + x : Nat) : Int) := by
 have e : (2 ^ min (Int.toNat 32) IntKind.u64.bits : Int) = ((4294967296 : Nat) : Int) := by decide
 rw [e, show (h : Int) * ((4294967296 : Nat) : Int) % 18446744073709551616 = ((4294967296 * h : Nat) : Int) by omega, show (x : Int) % 18446744073709551616 = (x : Int) by omega, or_nat64 _ _ (by omega) (by omega), or_add hx]
end Go.Dat
namespace Nat32
theorem lim_drop {a : List Nat} (h : lim a) (n : Nat) : lim (a.drop n) := fun x hx => h x (List.mem_of_mem_drop hx)
theorem nv_drop {a : List Nat} {m : Nat} (h : m < a.length) : nv (a.drop m) = a.getD m 0 + 4294967296 * nv (a.drop (m + 1)) := by
 rw [List.drop_eq_getElem_cons h, List.getD_eq_getElem?_getD, List.getElem?_eq_getElem h]; rfl
end Nat32
namespace Nat32
open Go Go.Dat
theorem tdiv_nat (a b : Nat) : ((a : Int)).tdiv (b : Int) = ((a / b : Nat) : Int) := (Int.ofNat_tdiv a b).symm
theorem tmod_nat (a b : Nat) : ((a : Int)).tmod (b : Int) = ((a % b : Nat) : Int) := (Int.ofNat_tmod a b).symm
theorem set_rep (m q : Nat) (ds : List Nat) : (List.replicate (m + 1) 0 ++ ds).set m q = List.replicate m 0 ++ (q :: ds) := by
 induction m with
 | zero => rfl
 | succ m ih => rw [List.replicate_succ, List.cons_append, List.set_cons_succ, ih]; rfl
theorem div_lt {hi lo y : Nat} (h1 : hi < y) (h2 : lo < 4294967296) : (4294967296 * hi + lo) / y < 4294967296 := by
 rw [Nat.div_lt_iff_lt_mul (by omega)]
 have : 4294967296 * (hi + 1) ≤ 4294967296 * y := Nat.mul_le_mul_left _ h1
 omega
theorem div_step {N d x : Nat} (hd : 0 < d) : (x + 4294967296 * N) / d = (4294967296 * (N % d) + x) / d + 4294967296 * (N / d) ∧ (x + 4294967296 * N) % d = (4294967296 * (N % d) + x) % d := by
 have h : x + 4294967296 * N = (4294967296 * (N % d) + x) + d * (4294967296 * (N / d)) := by
  have := Nat.div_add_mod N d
  have e : d * (4294967296 * (N / d)) = 4294967296 * (d * (N / d)) := by
   rw [← Nat.mul_assoc, Nat.mul_comm d, Nat.mul_assoc]
  rw [e]; omega
 rw [h]
 exact ⟨by rw [Nat.add_mul_div_left _ _ hd], by rw [Nat.add_mul_mod_self_left]⟩
theorem limbs_one {x : Nat} (h0 : x ≠ 0) (h : x < 4294967296) : limbs x = [x] := by
 rw [limbs_pos h0, Nat.mod_eq_of_lt h, Nat.div_eq_of_lt h, limbs_zero]
theorem nv_take_succ' {a : List Nat} (n : Nat) : nv (a.take (n + 1)) = nv (a.take n) + 4294967296 ^ n * a.getD n 0 := by
 by_cases h : n < a.length
 ·exact nv_take_succ h
 ·rw [List.take_of_length_le (by omega), List.take_of_length_le (by omega)]
  have : a.getD n 0 = 0 := by rw [List.getD_eq_getElem?_getD, List.getElem?_eq_none (by omega)]; rfl
  rw [this]; omega
theorem set_app (k v : Nat) (ds : List Nat) : (ds ++ List.replicate (k + 1) 0).set ds.length v = (ds ++ [v]) ++ List.replicate k 0 := by
 rw [List.set_append_right _ _ (Nat.le_refl _)]
 simp [List.replicate_succ]
theorem add_step {X Y D P x y c : Nat} (h : D + P * c = X + Y) : (D + P * ((x + y + c) % 4294967296)) + (P * 4294967296) * ((x + y + c) / 4294967296) = (X + P * x) + (Y + P * y) := by
 have h1 := Nat.div_add_mod (x + y + c) 4294967296
 have h2 : P * ((x + y + c) % 4294967296) + (P * 4294967296) * ((x + y + c) / 4294967296) = P * (x + y + c) := by
  rw [Nat.mul_assoc, ← Nat.mul_add]; congr 1; omega
 rw [Nat.mul_add, Nat.mul_add] at h2
 omega
def oap (o : Nat) : List Nat → DV
 | [] => .nils
 | x :: r => .osl 1 o 0 (r.length + 1)
def hap (o : Nat) : List Nat → Hp
 | [] => []
 | x :: r => [(o, us (x :: r))]
theorem one1 (k : IntKind) (n : Int) : (∀ d ∈ [DV.int k n], d.one = true) = True := by simp [DV.one]
theorem rf1 (k : IntKind) (n : Int) : (∀ d ∈ [DV.int k n], d.rf = true) = True := by simp [DV.rf]
theorem us_snoc (q : List Nat) (x : Nat) : us q ++ [DV.int .u32 x] = us (q ++ [x]) := by simp [us, u32]
theorem bit31 {v : Nat} (h : v < 4294967296) : v / 2147483648 = (v.testBit 31).toNat := by
 rw [Nat.testBit_eq_decide_div_mod_eq]
 have : v / 2 ^ 31 % 2 = v / 2147483648 := by omega
 rw [this]
 have h2 : v / 2147483648 = 0 ∨ v / 2147483648 = 1 := by omega
 rcases h2 with e | e <;> rw [e] <;> rfl
theorem ofInt32 (a : Nat) (ha : a < 4294967296) : (BitVec.ofInt IntKind.u32.bits (a : Int)).toNat = a := by
 rw [BitVec.ofInt_natCast, BitVec.toNat_ofNat]; exact Nat.mod_eq_of_lt ha
theorem and_nat32 (a b : Nat) (ha : a < 4294967296) (hb : b < 4294967296) : bitE .and .u32 (a : Int) (b : Int) = ((a &&& b : Nat) : Int) := by
 unfold bitE
 simp only [BitVec.toNat_and, ofInt32 a ha, ofInt32 b hb]
 rw [IntKind.wrap_u32]
 have : a &&& b < 2 ^ 32 := Nat.and_lt_two_pow _ (by simpa using hb)
 omega
theorem or_nat32 (a b : Nat) (ha : a < 4294967296) (hb : b < 4294967296) : bitE .or .u32 (a : Int) (b : Int) = ((a ||| b : Nat) : Int) := by
 unfold bitE
 simp only [BitVec.toNat_or, ofInt32 a ha, ofInt32 b hb]
 rw [IntKind.wrap_u32]
 have : a ||| b < 2 ^ 32 := Nat.or_lt_two_pow (by simpa using ha) (by simpa using hb)
 omega
theorem xor_nat32 (a b : Nat) (ha : a < 4294967296) (hb : b < 4294967296) : bitE .xor .u32 (a : Int) (b : Int) = ((a ^^^ b : Nat) : Int) := by
 unfold bitE
 simp only [BitVec.toNat_xor, ofInt32 a ha, ofInt32 b hb]
 rw [IntKind.wrap_u32]
 have : a ^^^ b < 2 ^ 32 := Nat.xor_lt_two_pow (by simpa using ha) (by simpa using hb)
 omega
theorem not_nat32 (a : Nat) (ha : a < 4294967296) : bitE .xor .u32 4294967295 (a : Int) = ((4294967295 ^^^ a : Nat) : Int) := xor_nat32 4294967295 a (by decide) ha
def bor (x y c : Nat) : Nat := if x < y + c then 1 else 0
theorem bor_bits {x y c d : Nat} (hx : x < 4294967296) (hy : y < 4294967296) (hc : c ≤ 1) (hd : d < 4294967296) (he : d = x - y - c ∧ y + c ≤ x ∨ d + y + c = x + 4294967296 ∧ x < y + c) :
  (((4294967295 ^^^ x) &&& y) ||| ((4294967295 ^^^ (x ^^^ y)) &&& d)) / 2147483648 = bor x y c := by
 have l1 : (4294967295 ^^^ x) < 2 ^ 32 := Nat.xor_lt_two_pow (by decide) (by simpa using hx)
 have l2 : x ^^^ y < 2 ^ 32 := Nat.xor_lt_two_pow (by simpa using hx) (by simpa using hy)
 have l3 : (4294967295 ^^^ (x ^^^ y)) < 2 ^ 32 := Nat.xor_lt_two_pow (by decide) l2
 have l4 : ((4294967295 ^^^ x) &&& y) < 2 ^ 32 := Nat.and_lt_two_pow _ (by simpa using hy)
 have l5 : ((4294967295 ^^^ (x ^^^ y)) &&& d) < 2 ^ 32 := Nat.and_lt_two_pow _ (by simpa using hd)
 have l6 := Nat.or_lt_two_pow l4 l5
 rw [bit31 (by simpa using l6)]
 simp only [Nat.testBit_or, Nat.testBit_and, Nat.testBit_xor]
 have t (v : Nat) (hv : v < 4294967296) : v.testBit 31 = decide (2147483648 ≤ v) := by
  rw [Nat.testBit_eq_decide_div_mod_eq, decide_eq_decide]; omega
 rw [t x hx, t y hy, t d hd, t 4294967295 (by decide)]
 unfold bor
 by_cases h1 : 2147483648 ≤ x <;> by_cases h2 : 2147483648 ≤ y <;> by_cases h3 : 2147483648 ≤ d <;> simp [h1, h2, h3] <;> omega
end Nat32
namespace Nat32
theorem sub_step {X Y D P x y c : Nat} (hx : x < 4294967296) (hy : y < 4294967296) (hc : c ≤ 1) (h : D + Y = X + P * c) :
  (D + P * ((x + 4294967296 - y - c) % 4294967296)) + (Y + P * y) = (X + P * x) + (P * 4294967296) * (1 - (x + 4294967296 - y - c) / 4294967296) ∧ (x + 4294967296 - y - c) / 4294967296 ≤ 1 := by
 have h1 := Nat.div_add_mod (x + 4294967296 - y - c) 4294967296
 have h2 : (x + 4294967296 - y - c) / 4294967296 ≤ 1 := by omega
 refine ⟨?_, h2⟩
 generalize (x + 4294967296 - y - c) % 4294967296 = dg at h1 ⊢
 generalize hq : (x + 4294967296 - y - c) / 4294967296 = q at h1 h2 ⊢
 have h3 : dg + y + c = x + 4294967296 * (1 - q) := by omega
 have h4 : P * dg + P * y + P * c = P * x + P * 4294967296 * (1 - q) := by
  rw [Nat.mul_assoc P 4294967296, ← Nat.mul_add, ← Nat.mul_add, ← Nat.mul_add, h3]
 omega
end Nat32
namespace Nat32
open Go Go.Dat
theorem bor_expr {x y c d : Nat} (hx : x < 4294967296) (hy : y < 4294967296) (hc : c ≤ 1) (hd : d < 4294967296) (he : d = x - y - c ∧ y + c ≤ x ∨ d + y + c = x + 4294967296 ∧ x < y + c) :
  (bitE .or .u32 (bitE .and .u32 (bitE .xor .u32 4294967295 (x : Int)) (y : Int)) (bitE .and .u32 (bitE .xor .u32 4294967295 (bitE .xor .u32 (x : Int) (y : Int))) (d : Int))).fdiv (2 ^ min (Int.toNat 31) IntKind.u32.bits) = ((bor x y c : Nat) : Int) := by
 have l1 : (4294967295 ^^^ x) < 2 ^ 32 := Nat.xor_lt_two_pow (by decide) (by simpa using hx)
 have l2 : x ^^^ y < 2 ^ 32 := Nat.xor_lt_two_pow (by simpa using hx) (by simpa using hy)
 have l3 : (4294967295 ^^^ (x ^^^ y)) < 2 ^ 32 := Nat.xor_lt_two_pow (by decide) l2
 have l4 : ((4294967295 ^^^ x) &&& y) < 2 ^ 32 := Nat.and_lt_two_pow _ (by simpa using hy)
 have l5 : ((4294967295 ^^^ (x ^^^ y)) &&& d) < 2 ^ 32 := Nat.and_lt_two_pow _ (by simpa using hd)
 rw [not_nat32 x hx, and_nat32 _ y (by simpa using l1) hy, xor_nat32 x y hx hy, not_nat32 _ (by simpa using l2), and_nat32 _ d (by simpa using l3) hd, or_nat32 _ _ (by simpa using l4) (by simpa using l5)]
 have e : (2 ^ min (Int.toNat 31) IntKind.u32.bits : Int) = ((2147483648 : Nat) : Int) := by decide
 rw [e, fdiv_nat, bor_bits hx hy hc hd he]
theorem nv_rep (n : Nat) : nv (List.replicate n 0) = 0 := by
 induction n with
 | zero => rfl
 | succ n ih => rw [List.replicate_succ, nv, ih]
theorem nv_rep_app (n : Nat) (q : List Nat) : nv (List.replicate n 0 ++ q) = 4294967296 ^ n * nv q := by
 rw [nv_app, nv_rep, List.length_replicate]; omega
theorem mul_le {a v : Nat} (h1 : a < 4294967296) (h2 : v < 4294967296) : a * v ≤ 18446744065119617025 := by
 have := Nat.mul_le_mul (show a ≤ 4294967295 by omega) (show v ≤ 4294967295 by omega)
 omega
theorem mul_w {a v : Nat} (h1 : a < 4294967296) (h2 : v < 4294967296) : IntKind.u64.wrap ((a : Int) * (v : Int)) = ((a * v : Nat) : Int) := by
 have := mul_le h1 h2
 rw [mul_nat]
 generalize a * v = p at this ⊢
 exact wu64 (by omega) (by omega)
theorem mul_w2 {a v c : Nat} (h1 : a < 4294967296) (h2 : v < 4294967296) (h3 : c < 4294967296) : IntKind.u64.wrap (((a * v : Nat) : Int) + (c : Int)) = ((a * v + c : Nat) : Int) := by
 have := mul_le h1 h2
 generalize a * v = p at this ⊢
 rw [wu64 (by omega) (by omega)]; omega
theorem mul_step {D P T a v c : Nat} (h : D + P * c = T * v) : (D + P * ((a * v + c) % 4294967296)) + (P * 4294967296) * ((a * v + c) / 4294967296) = (T + P * a) * v := by
 have h1 := Nat.div_add_mod (a * v + c) 4294967296
 have h2 : P * ((a * v + c) % 4294967296) + (P * 4294967296) * ((a * v + c) / 4294967296) = P * (a * v + c) := by
  rw [Nat.mul_assoc, ← Nat.mul_add]; congr 1; omega
 rw [Nat.mul_add] at h2
 rw [Nat.add_mul, Nat.mul_assoc P a v, ← h]
 omega
theorem mul_div_lt {a v c : Nat} (h1 : a < 4294967296) (h2 : v < 4294967296) (h3 : c < 4294967296) : (a * v + c) / 4294967296 < 4294967296 := by
 have := mul_le h1 h2
 generalize a * v = p at this ⊢
 omega
theorem mul_lt_pow {x v n : Nat} (h1 : x < 4294967296 ^ n) (h2 : v < 4294967296) : x * v < 4294967296 ^ (n + 1) := by
 rw [Nat.pow_succ]
 exact Nat.mul_lt_mul_of_lt_of_le h1 (by omega) (Nat.pos_of_ne_zero (by intro h; omega))
theorem len_mul {x y m n : Nat} (h1 : (limbs x).length ≤ m) (h2 : (limbs y).length ≤ n) : (limbs (x * y)).length ≤ m + n := by
 rw [limbs_len] at h1 h2 ⊢
 rw [Nat.pow_add]
 exact Nat.mul_lt_mul_of_lt_of_le h1 (Nat.le_of_lt h2) (Nat.pos_of_ne_zero (by intro h; rw [h] at h2; omega))
theorem c_zero {N P c : Nat} (h : N + P * c < P) : c = 0 := by
 rcases Nat.eq_zero_or_pos c with e | e
 ·exact e
 ·have := Nat.mul_le_mul_left P e
  rw [Nat.mul_one] at this
  omega
theorem sub_ex {x y c : Nat} (hx : x < 4294967296) (hy : y < 4294967296) (hc : c ≤ 1) : ∃ d b, d + y + c = x + 4294967296 * b ∧ d < 4294967296 ∧ b ≤ 1 := by
 by_cases h : x < y + c
 ·obtain ⟨d, hd⟩ : ∃ d, x + 4294967296 = y + c + d := Nat.exists_eq_add_of_le (by omega)
  exact ⟨d, 1, by omega, by omega, by omega⟩
 ·obtain ⟨d, hd⟩ : ∃ d, x = y + c + d := Nat.exists_eq_add_of_le (by omega)
  exact ⟨d, 0, by omega, by omega, by omega⟩
theorem sub_step' {X Y D P x y c d b : Nat} (h : D + Y = X + P * c) (hd : d + y + c = x + 4294967296 * b) : (D + P * d) + (Y + P * y) = (X + P * x) + (P * 4294967296) * b := by
 have h4 : P * d + P * y + P * c = P * x + P * 4294967296 * b := by
  rw [Nat.mul_assoc P 4294967296, ← Nat.mul_add, ← Nat.mul_add, ← Nat.mul_add, hd]
 omega
theorem sub_wrap' {x y c d b : Nat} (hd : d + y + c = x + 4294967296 * b) (h : d < 4294967296) : IntKind.u32.wrap (IntKind.u32.wrap ((x : Int) - (y : Int)) - (c : Int)) = (d : Int) := by
 rw [IntKind.wrap_u32, IntKind.wrap_u32]; omega
theorem bor_expr' {x y c d b : Nat} (hx : x < 4294967296) (hy : y < 4294967296) (hc : c ≤ 1) (hd : d + y + c = x + 4294967296 * b) (h : d < 4294967296) (hb : b ≤ 1) :
  (bitE .or .u32 (bitE .and .u32 (bitE .xor .u32 4294967295 (x : Int)) (y : Int)) (bitE .and .u32 (bitE .xor .u32 4294967295 (bitE .xor .u32 (x : Int) (y : Int))) (d : Int))).fdiv (2 ^ min (Int.toNat 31) IntKind.u32.bits) = (b : Int) := by
 have hb2 : b = 0 ∨ b = 1 := by omega
 rw [bor_expr hx hy hc h (by omega)]
 unfold bor
 split <;> omega
theorem nv_set {l : List Nat} {k v : Nat} (h : k < l.length) : nv (l.set k v) + 4294967296 ^ k * l.getD k 0 = nv l + 4294967296 ^ k * v := by
 induction l generalizing k with
 | nil => simp at h
 | cons x l ih =>
  cases k with
  | zero => simp only [List.set_cons_zero, nv, List.getD_cons_zero, Nat.pow_zero, Nat.one_mul]; omega
  | succ k =>
   have := ih (k := k) (by simpa using h)
   simp only [List.set_cons_succ, nv, List.getD_cons_succ, Nat.pow_succ]
   have e1 : 4294967296 ^ k * 4294967296 * l.getD k 0 = 4294967296 * (4294967296 ^ k * l.getD k 0) := by
    rw [Nat.mul_comm (4294967296 ^ k) 4294967296, Nat.mul_assoc]
   have e2 : 4294967296 ^ k * 4294967296 * v = 4294967296 * (4294967296 ^ k * v) := by
    rw [Nat.mul_comm (4294967296 ^ k) 4294967296, Nat.mul_assoc]
   rw [e1, e2]; omega
theorem lim_set {l : List Nat} {k v : Nat} (h : lim l) (hv : v < 4294967296) : lim (l.set k v) := by
 intro z hz
 rcases List.mem_or_eq_of_mem_set hz with e | e
 ·exact h z e
 ·rw [e]; exact hv
theorem getD_set_ne' {l : List Nat} {j k v : Nat} (h : k ≠ j) : (l.set k v).getD j 0 = l.getD j 0 := by
 rw [List.getD_eq_getElem?_getD, List.getD_eq_getElem?_getD, List.getElem?_set_ne h]
theorem mac_w {a v c o : Nat} (h1 : a < 4294967296) (h2 : v < 4294967296) (h3 : c < 4294967296) (h4 : o < 4294967296) : a * v + o + c < 18446744073709551616 ∧ (a * v + o + c) / 4294967296 < 4294967296 := by
 have := mul_le h1 h2
 generalize a * v = p at this ⊢
 omega
theorem mac_step {D E P R c o s : Nat} (h : D + P * c = R) (hs : E + P * o = D + P * (s % 4294967296)) {av : Nat} (hq : s = av + o + c) : E + P * 4294967296 * (s / 4294967296) = R + P * av := by
 have h1 := Nat.div_add_mod s 4294967296
 have h2 : P * (s % 4294967296) + P * 4294967296 * (s / 4294967296) = P * s := by
  rw [Nat.mul_assoc, ← Nat.mul_add]; congr 1; omega
 have h3 : P * s = P * av + P * o + P * c := by rw [hq, Nat.mul_add, Nat.mul_add]
 omega
end Nat32
namespace Nat32
def dig : Nat → Nat → List Nat
 | 0, _ => []
 | k + 1, x => x % 4294967296 :: dig k (x / 4294967296)
theorem dig_length (k x : Nat) : (dig k x).length = k := by
 induction k generalizing x with
 | zero => rfl
 | succ k ih => simp [dig, ih]
theorem dig_lim (k x : Nat) : lim (dig k x) := by
 induction k generalizing x with
 | zero => exact lim_nil
 | succ k ih => rw [dig, lim_cons]; exact ⟨Nat.mod_lt _ (by decide), ih _⟩
theorem nv_dig (k x : Nat) : nv (dig k x) = x % 4294967296 ^ k := by
 induction k generalizing x with
 | zero => simp [dig, nv, Nat.mod_one]
 | succ k ih => rw [dig, nv, ih, Nat.pow_succ', Nat.mod_mul]
theorem nv_inj {a b : List Nat} (ha : lim a) (hb : lim b) (hl : a.length = b.length) (h : nv a = nv b) : a = b := by
 induction a generalizing b with
 | nil => cases b with
  | nil => rfl
  | cons y b => simp at hl
 | cons x a ih => cases b with
  | nil => simp at hl
  | cons y b =>
   obtain ⟨h1, h2⟩ := lim_cons.1 ha
   obtain ⟨h3, h4⟩ := lim_cons.1 hb
   simp only [nv] at h
   have e1 : x = y := by omega
   have e2 : nv a = nv b := by omega
   rw [e1, ih h2 h4 (by simpa using hl) e2]
theorem dig_of {a : List Nat} {k x : Nat} (h : lim a) (hl : a.length = k) (hv : nv a = x % 4294967296 ^ k) : a = dig k x :=
 nv_inj h (dig_lim _ _) (by rw [hl, dig_length]) (by rw [hv, nv_dig])
theorem nv_split_at (a : List Nat) (k : Nat) (h : k ≤ a.length) : nv a = nv (a.take k) + 4294967296 ^ k * nv (a.drop k) := by
 have := nv_app (a.take k) (a.drop k)
 rw [List.take_append_drop, List.length_take, Nat.min_eq_left h] at this
 exact this
def gq (T W : Nat) : Nat := min (T / W) 4294967295
theorem gq_lt {T W q k : Nat} (h : gq T W ≤ q) (hc : 4294967296 ≤ q ∨ T < q * W) (hW : 0 < W) (hk : q = k + 1) : gq T W ≤ k := by
 unfold gq at h ⊢
 rcases hc with h9 | h9
 ·omega
 ·have h1 : T / W < q := (Nat.div_lt_iff_lt_mul hW).2 h9
  generalize T / W = z at *
  omega
theorem lin1 {p s r u0 t B : Nat} (h1 : p + r = t) (h2 : r * B + u0 < s) : t * B + u0 < p * B + s := by
 subst h1; rw [Nat.add_mul]; omega
theorem gq_step {u2 u1 u0 v1 v0 q r : Nat} (hq : q * v1 + r = u2 * 4294967296 + u1) (hv : 0 < v1) (h : gq ((u2 * 4294967296 + u1) * 4294967296 + u0) (v1 * 4294967296 + v0) ≤ q)
  (hc : 4294967296 ≤ q ∨ r * 4294967296 + u0 < q * v0) :
  0 < q ∧ gq ((u2 * 4294967296 + u1) * 4294967296 + u0) (v1 * 4294967296 + v0) ≤ q - 1 ∧ (q - 1) * v1 + (r + v1) = u2 * 4294967296 + u1 := by
 have h0 : 0 < q := by
  rcases hc with h | h
  ·omega
  ·rcases Nat.eq_zero_or_pos q with e | e
   ·subst e; omega
   ·exact e
 obtain ⟨k, hk⟩ : ∃ k, q = k + 1 := ⟨q - 1, by omega⟩
 refine ⟨h0, ?_, ?_⟩
 ·rw [hk, Nat.add_sub_cancel]
  refine gq_lt h (hc.imp_right fun h9 => ?_) (by omega) hk
  have h2 : q * (v1 * 4294967296 + v0) = q * v1 * 4294967296 + q * v0 := by rw [Nat.mul_add, ← Nat.mul_assoc]
  exact Nat.lt_of_lt_of_eq (lin1 hq h9) h2.symm
 ·subst hk
  rw [Nat.add_mul, Nat.one_mul] at hq
  simp only [Nat.add_sub_cancel]
  omega
theorem gq_first {T W top u2 u1 u0 v1 v0 : Nat} (htop : u2 * 4294967296 + u1 = top) (h0 : u0 < 4294967296) (hv : 0 < v1) (hT : (u2 * 4294967296 + u1) * 4294967296 + u0 = T) (hW : v1 * 4294967296 + v0 = W) : gq T W ≤ top / v1 := by
 refine Nat.le_trans (Nat.min_le_left _ _) ((Nat.le_div_iff_mul_le hv).2 ?_)
 have hT' : T = top * 4294967296 + u0 := by omega
 have h1 : T / W * W ≤ T := Nat.div_mul_le_self T W
 generalize T / W = z at *
 rcases Nat.lt_or_ge top (z * v1) with e | e
 ·have h2 : z * W = z * v1 * 4294967296 + z * v0 := by rw [← hW, Nat.mul_add, ← Nat.mul_assoc]
  omega
 ·exact e
theorem gq_exit {u2 u1 u0 v1 v0 q r : Nat} (hq : q * v1 + r = u2 * 4294967296 + u1) (hu1 : u1 < 4294967296) (hu : u2 ≤ v1) (hv0 : v0 < 4294967296) (hv : 0 < v1)
  (h : gq ((u2 * 4294967296 + u1) * 4294967296 + u0) (v1 * 4294967296 + v0) ≤ q) (hc : 4294967296 ≤ r ∨ (q < 4294967296 ∧ q * v0 ≤ r * 4294967296 + u0)) :
  q = gq ((u2 * 4294967296 + u1) * 4294967296 + u0) (v1 * 4294967296 + v0) := by
 have hqB : q < 4294967296 := by
  rcases hc with h1 | h1
  ·rcases Nat.lt_or_ge q 4294967296 with e | e
   ·exact e
   ·have h2 := Nat.mul_le_mul e (Nat.le_refl v1)
    generalize q * v1 = p at *
    omega
  ·exact h1.1
 have hle : q * v0 ≤ r * 4294967296 + u0 := by
  rcases hc with h1 | h1
  ·have h2 := mul_le hqB hv0
   generalize q * v0 = s at *
   omega
  ·exact h1.2
 have : q ≤ ((u2 * 4294967296 + u1) * 4294967296 + u0) / (v1 * 4294967296 + v0) := by
  have h2 : q * (v1 * 4294967296 + v0) = q * v1 * 4294967296 + q * v0 := by rw [Nat.mul_add, ← Nat.mul_assoc]
  refine (Nat.le_div_iff_mul_le (by omega)).2 (Nat.le_trans (Nat.le_of_eq h2) ?_)
  clear h hc h2
  omega
 unfold gq at h ⊢
 omega
theorem gq_spec {U V T W P Ul Vl : Nat} (hU : U = T * P + Ul) (hUl : Ul < P) (hV : V = W * P + Vl) (hVl : Vl < P) (hVn : 4294967296 * P ≤ V) (hlt : U < 4294967296 * V) (hW : 0 < W) :
  U / V ≤ gq T W ∧ gq T W ≤ U / V + 1 := by
 have hP : 0 < P := by omega
 have hV0 : 0 < V := by
  have := Nat.mul_pos hW hP
  omega
 constructor
 ·have h1 : U / V ≤ T / W := by
   rw [Nat.le_div_iff_mul_le hW]
   have h2 : U / V * V ≤ U := Nat.div_mul_le_self U V
   have h3 : U / V * (W * P) ≤ U / V * V := Nat.mul_le_mul_left _ (by omega)
   rw [← Nat.mul_assoc] at h3
   generalize U / V * W = x at *
   rcases Nat.lt_or_ge T x with e | e
   ·have := Nat.mul_le_mul_right P e
    rw [Nat.succ_mul] at this
    omega
   ·exact e
  have h4 : U / V < 4294967296 := by rw [Nat.div_lt_iff_lt_mul hV0]; exact hlt
  unfold gq; omega
 ·have h1 : gq T W * W ≤ T := Nat.le_trans (Nat.mul_le_mul_right _ (Nat.min_le_left _ _)) (Nat.div_mul_le_self T W)
  have h2 : gq T W < 4294967296 := by unfold gq; omega
  generalize gq T W = q at h1 h2 ⊢
  have h3 : q * V ≤ U + V := by
   have h4 : q * W * P ≤ T * P := Nat.mul_le_mul_right _ h1
   have h5 : q * Vl ≤ 4294967296 * P := Nat.mul_le_mul (by omega) (by omega)
   rw [hV, Nat.mul_add, ← Nat.mul_assoc]
   omega
  have h6 : q ≤ (U + V) / V := by rw [Nat.le_div_iff_mul_le hV0]; exact h3
  rw [Nat.add_div_right _ hV0] at h6
  exact h6
theorem red_step {D Y X P c b q y x d b' : Nat} (h : D + q * Y = X + P * (c + b)) (hd : d + (c + q * y) % 4294967296 + b = x + 4294967296 * b') :
  (D + P * d) + q * (Y + P * y) = (X + P * x) + P * 4294967296 * ((c + q * y) / 4294967296 + b') := by
 have h1 := Nat.div_add_mod (c + q * y) 4294967296
 have e1 : q * (P * y) = P * (q * y) := by rw [← Nat.mul_assoc, Nat.mul_comm q P, Nat.mul_assoc]
 have h2 : P * d + P * ((c + q * y) % 4294967296) + P * b = P * x + P * 4294967296 * b' := by
  rw [Nat.mul_assoc P 4294967296, ← Nat.mul_add, ← Nat.mul_add, ← Nat.mul_add, hd]
 have h3 : P * ((c + q * y) % 4294967296) + P * 4294967296 * ((c + q * y) / 4294967296) = P * c + P * (q * y) := by
  rw [Nat.mul_assoc P 4294967296, ← Nat.mul_add, ← Nat.mul_add]; congr 1; omega
 rw [Nat.mul_add, Nat.mul_add, e1]
 rw [Nat.mul_add] at h
 omega
theorem red_carry {P c q Y y : Nat} (h : P * c ≤ q * Y) : P * 4294967296 * ((c + q * y) / 4294967296) ≤ q * (Y + P * y) := by
 have e1 : q * (P * y) = P * (q * y) := by rw [← Nat.mul_assoc, Nat.mul_comm q P, Nat.mul_assoc]
 have h1 := Nat.div_mul_le_self (c + q * y) 4294967296
 have h2 : P * (4294967296 * ((c + q * y) / 4294967296)) ≤ P * (c + q * y) := Nat.mul_le_mul_left _ (by omega)
 rw [Nat.mul_assoc, Nat.mul_add, e1]
 rw [Nat.mul_add] at h2
 omega
theorem red_fin {D U V q M c b : Nat} (h : D + q * V = U + M * (c + b)) (hc : M * c ≤ q * V) (hq : q * V < M) (hD : D < M) (_hU : U < M) (hb : b ≤ 1) :
  (b ≠ 0 ↔ U < q * V) ∧ D = (U + M - q * V) % M := by
 have hc0 : c = 0 := by
  rcases Nat.eq_zero_or_pos c with e | e
  ·exact e
  ·have := Nat.mul_le_mul_left M e; rw [Nat.mul_one] at this; omega
 subst hc0
 rw [Nat.zero_add] at h
 have hb2 : b = 0 ∨ b = 1 := by omega
 rcases hb2 with e | e <;> subst e
 ·refine ⟨by omega, ?_⟩
  have : U + M - q * V = D + M := by omega
  rw [this, Nat.add_mod_right, Nat.mod_eq_of_lt hD]
 ·refine ⟨by omega, ?_⟩
  have : U + M - q * V = D := by omega
  rw [this, Nat.mod_eq_of_lt hD]
theorem kn_over {U V q M : Nat} (h1 : U / V ≤ q) (h2 : q ≤ U / V + 1) (h : U < q * V) (_hV : V ≤ M) (hV0 : 0 < V) (_hq : q * V < M) : q - 1 = U / V ∧ ((U + M - q * V) % M + V) % M = U % V := by
 have e : q = U / V + 1 := by
  rcases Nat.lt_or_ge (U / V) q with e | e
  ·omega
  ·have : q = U / V := by omega
   have h3 := Nat.div_mul_le_self U V
   rw [← this] at h3; exact absurd h (by omega)
 subst e
 refine ⟨Nat.add_sub_cancel _ _, ?_⟩
 have h4 := Nat.div_add_mod' U V
 have h5 := Nat.mod_lt U hV0
 rw [Nat.add_mul, Nat.one_mul] at h _hq ⊢
 rw [Nat.mod_eq_of_lt (show U + M - (U / V * V + V) < M by omega)]
 have : U + M - (U / V * V + V) + V = U % V + M := by omega
 rw [this, Nat.add_mod_right, Nat.mod_eq_of_lt (by omega)]
theorem kn_fit {U V q M : Nat} (h1 : U / V ≤ q) (_h2 : q ≤ U / V + 1) (h : ¬ U < q * V) (hV : V ≤ M) (hV0 : 0 < V) : q = U / V ∧ (U + M - q * V) % M = U % V := by
 have e : q = U / V := by
  have : q ≤ U / V := by rw [Nat.le_div_iff_mul_le hV0]; omega
  omega
 subst e
 refine ⟨rfl, ?_⟩
 have h4 := Nat.div_add_mod' U V
 have h5 := Nat.mod_lt U hV0
 have : U + M - U / V * V = U % V + M := by omega
 rw [this, Nat.add_mod_right, Nat.mod_eq_of_lt (by omega)]
end Nat32
namespace Nat32
open Go Go.Dat
def blen (x : Nat) : Nat := if x = 0 then 0 else Nat.log2 x + 1
theorem blen_lt {x : Nat} : x < 2 ^ blen x := by
 unfold blen
 split
 ·rename_i h; subst h; decide
 ·exact Nat.lt_log2_self
theorem blen_le {x : Nat} (h : x ≠ 0) : 2 ^ (blen x - 1) ≤ x := by
 unfold blen
 rw [if_neg h, Nat.add_sub_cancel]
 exact Nat.log2_self_le h
theorem blen_of {x k : Nat} (h1 : 2 ^ k ≤ x) (h2 : x < 2 ^ (k + 1)) : blen x = k + 1 := by
 have h0 : x ≠ 0 := by have := Nat.two_pow_pos k; omega
 unfold blen
 rw [if_neg h0, (Nat.log2_eq_iff h0).2 ⟨h1, h2⟩]
theorem blen_shr {x k : Nat} (h : 2 ^ k ≤ x) : blen x = blen (x / 2 ^ k) + k := by
 have h0 : x / 2 ^ k ≠ 0 := by
  have := Nat.div_pos h (Nat.two_pow_pos k)
  omega
 have h1 := blen_le h0
 have h2 := blen_lt (x := x / 2 ^ k)
 have hb : 0 < blen (x / 2 ^ k) := by unfold blen; rw [if_neg h0]; omega
 obtain ⟨m, hm⟩ : ∃ m, blen (x / 2 ^ k) = m + 1 := ⟨blen (x / 2 ^ k) - 1, by omega⟩
 rw [hm] at h1 h2 ⊢
 rw [Nat.add_sub_cancel] at h1
 have e : m + 1 + k = (m + k) + 1 := by omega
 rw [e]
 refine blen_of ?_ ?_
 ·rw [Nat.pow_add]
  exact Nat.le_trans (Nat.mul_le_mul_right _ h1) (Nat.div_mul_le_self _ _)
 ·rw [show m + k + 1 = (m + 1) + k by omega, Nat.pow_add]
  exact (Nat.div_lt_iff_lt_mul (Nat.two_pow_pos k)).1 h2
theorem blen_le_of {x k : Nat} (h : x < 2 ^ k) : blen x ≤ k := by
 rcases Nat.lt_or_ge k (blen x) with e | e
 ·have h0 : x ≠ 0 := by rintro rfl; simp [blen] at e
  have h1 := blen_le h0
  have h2 := Nat.pow_le_pow_right (n := 2) (by decide) (show k ≤ blen x - 1 by omega)
  omega
 ·exact e
theorem lz_spec {x : Nat} (h0 : x ≠ 0) (h : x < 4294967296) : 32 - blen x ≤ 31 ∧ 2147483648 ≤ x * 2 ^ (32 - blen x) ∧ x * 2 ^ (32 - blen x) < 4294967296 := by
 have h1 := blen_le h0
 have h2 := blen_lt (x := x)
 have h3 := blen_le_of (k := 32) (by simpa using h)
 have hb : 0 < blen x := by unfold blen; rw [if_neg h0]; omega
 refine ⟨by omega, ?_, ?_⟩
 ·have h4 := Nat.mul_le_mul_right (2 ^ (32 - blen x)) h1
  rw [← Nat.pow_add, show blen x - 1 + (32 - blen x) = 31 by omega] at h4
  exact h4
 ·have h4 := Nat.mul_lt_mul_of_pos_right h2 (Nat.two_pow_pos (32 - blen x))
  rw [← Nat.pow_add, show blen x + (32 - blen x) = 32 by omega] at h4
  exact h4
theorem shl_lt {x k : Nat} (h : x < 4294967296) (hk : k ≤ 31) : x * 2 ^ k < 18446744073709551616 ∧ x * 2 ^ k / 4294967296 < 2 ^ k := by
 have h1 : x * 2 ^ k < 4294967296 * 2 ^ k := Nat.mul_lt_mul_of_pos_right h (Nat.two_pow_pos k)
 have h2 : (2 : Nat) ^ k ≤ 2 ^ 31 := Nat.pow_le_pow_right (by decide) hk
 refine ⟨by omega, ?_⟩
 rw [Nat.div_lt_iff_lt_mul (by decide), Nat.mul_comm (2 ^ k)]
 exact h1
theorem or_low {c x k : Nat} (hc : c < 2 ^ k) (hk : k ≤ 31) (_hx : x < 4294967296) : c ||| (x * 2 ^ k % 4294967296) = x * 2 ^ k % 4294967296 + c := by
 have e : x * 2 ^ k % 4294967296 = 2 ^ k * (x % 2 ^ (32 - k)) := by
  have : (4294967296 : Nat) = 2 ^ k * 2 ^ (32 - k) := by rw [← Nat.pow_add, show k + (32 - k) = 32 by omega]
  rw [this, Nat.mul_comm x, Nat.mul_mod_mul_left]
 rw [e, Nat.or_comm]
 exact (Nat.two_pow_add_eq_or_of_lt hc _).symm
theorem sh_step {D P X c x y : Nat} (h : D + P * c = X * y) : (D + P * (x * y % 4294967296 + c)) + P * 4294967296 * (x * y / 4294967296) = (X + P * x) * y := by
 have h1 := Nat.div_add_mod (x * y) 4294967296
 have h2 : P * (x * y % 4294967296) + P * 4294967296 * (x * y / 4294967296) = P * (x * y) := by
  rw [Nat.mul_assoc P 4294967296, ← Nat.mul_add]; congr 1; omega
 rw [Nat.mul_add, Nat.add_mul, Nat.mul_assoc P x y]
 omega
theorem shr2 {x y z k : Nat} (hk : k ≤ 31) : ((4294967296 * y + x) / 2 ^ k) % 4294967296 = ((x + 4294967296 * (y + 4294967296 * z)) / 2 ^ k) % 4294967296 := by
 have e : (x + 4294967296 * (y + 4294967296 * z)) = (4294967296 * y + x) + 2 ^ k * (2 ^ (32 - k) * (4294967296 * z)) := by
  rw [← Nat.mul_assoc, ← Nat.pow_add, show k + (32 - k) = 32 by omega]
  omega
 rw [e, Nat.add_mul_div_left _ _ (Nat.two_pow_pos k), show 2 ^ (32 - k) * (4294967296 * z) = 4294967296 * (2 ^ (32 - k) * z) by rw [← Nat.mul_assoc, Nat.mul_comm (2 ^ (32 - k)), Nat.mul_assoc], Nat.add_mul_mod_self_left]
theorem us_frz (o : Nat) (c : List DV) (xs : List Nat) : (us xs).map (frz o c) = us xs := by simp [us, u32, frz_int]
theorem set_mid (d : List Nat) (c v : Nat) (r : List Nat) : (d ++ c :: r).set d.length v = d ++ v :: r := by
 rw [List.set_append_right _ _ (Nat.le_refl _)]; simp
theorem set_mid1 (d : List Nat) (c x v : Nat) (r : List Nat) : (d ++ c :: x :: r).set (d.length + 1) v = d ++ c :: v :: r := by
 rw [List.set_append_right _ _ (Nat.le_add_right _ _)]; simp
theorem getD_mid (d : List Nat) (c : Nat) (r : List Nat) : (d ++ c :: r).getD d.length 0 = c := by
 simp [List.getD_eq_getElem?_getD]
theorem lim_append {a b : List Nat} : lim (a ++ b) ↔ lim a ∧ lim b := by
 constructor
 ·intro h; exact ⟨fun x hx => h x (List.mem_append.2 (.inl hx)), fun x hx => h x (List.mem_append.2 (.inr hx))⟩
 ·rintro ⟨h1, h2⟩ x hx
  rcases List.mem_append.1 hx with h | h
  ·exact h1 x h
  ·exact h2 x h
theorem nv_snoc (d : List Nat) (c : Nat) : nv (d ++ [c]) = nv d + 4294967296 ^ d.length * c := by
 rw [nv_app]; simp [nv]
theorem shl_w {x k : Nat} (h : x < 4294967296) (hk : k ≤ 31) : IntKind.u64.wrap ((x : Int) * 2 ^ min k IntKind.u64.bits) = ((x * 2 ^ k : Nat) : Int) := by
 have h1 := (shl_lt h hk).1
 have e : min k IntKind.u64.bits = k := by
  have : IntKind.u64.bits = 64 := rfl
  omega
 rw [e, show ((2 : Int) ^ k) = ((2 ^ k : Nat) : Int) by simp, mul_nat]
 generalize x * 2 ^ k = p at h1 ⊢
 exact wu64 (by omega) (by omega)
theorem shr_w (a k : Nat) (hk : k ≤ 31) : ((a : Int)).fdiv (2 ^ min k IntKind.u64.bits) = ((a / 2 ^ k : Nat) : Int) := by
 have e : min k IntKind.u64.bits = k := by
  have : IntKind.u64.bits = 64 := rfl
  omega
 rw [e, show ((2 : Int) ^ k) = ((2 ^ k : Nat) : Int) by simp, fdiv_nat]
theorem or_low32 {c x k : Nat} (hc : c < 2 ^ k) (hk : k ≤ 31) (hx : x < 4294967296) : bitE .or .u32 (c : Int) ((x * 2 ^ k % 4294967296 : Nat) : Int) = ((x * 2 ^ k % 4294967296 + c : Nat) : Int) := by
 have h2 : (2 : Nat) ^ k ≤ 2 ^ 31 := Nat.pow_le_pow_right (by decide) hk
 rw [or_nat32 _ _ (by omega) (Nat.mod_lt _ (by decide)), or_low hc hk hx]
theorem pow_le31 {k : Nat} (hk : k ≤ 31) : (2 : Nat) ^ k ≤ 2147483648 := by
 have h2 : (2 : Nat) ^ k ≤ 2 ^ 31 := Nat.pow_le_pow_right (by decide) hk
 simpa using h2
theorem low_lt {c x k : Nat} (hc : c < 2 ^ k) (hk : k ≤ 31) : x * 2 ^ k % 4294967296 + c < 4294967296 := by
 have e : x * 2 ^ k % 4294967296 = 2 ^ k * (x % 2 ^ (32 - k)) := by
  have : (4294967296 : Nat) = 2 ^ k * 2 ^ (32 - k) := by rw [← Nat.pow_add, show k + (32 - k) = 32 by omega]
  rw [this, Nat.mul_comm x, Nat.mul_mod_mul_left]
 have h1 : x % 2 ^ (32 - k) + 1 ≤ 2 ^ (32 - k) := Nat.mod_lt _ (Nat.two_pow_pos _)
 have h2 := Nat.mul_le_mul_left (2 ^ k) h1
 rw [← Nat.pow_add, show k + (32 - k) = 32 by omega, Nat.mul_add] at h2
 omega
end Nat32
namespace Nat32
theorem nv_single (a : List Nat) (m : Nat) (h : a.length = m + 1) : nv (a.drop m) = a.getD m 0 := by
 rw [nv_drop (by omega), List.drop_of_length_le (by omega)]; simp [nv]
theorem top2 (a : List Nat) (n : Nat) (h : a.length = n + 2) : nv a = (a.getD (n + 1) 0 * 4294967296 + a.getD n 0) * 4294967296 ^ n + nv (a.take n) := by
 rw [nv_split (m := n) (by omega), nv_single a (n + 1) (by omega), Nat.mul_comm (4294967296 ^ n)]
 rw [show a.getD n 0 + 4294967296 * a.getD (n + 1) 0 = a.getD (n + 1) 0 * 4294967296 + a.getD n 0 by omega]; omega
theorem top3 (a : List Nat) (n : Nat) (h : a.length = n + 3) : nv a = ((a.getD (n + 2) 0 * 4294967296 + a.getD (n + 1) 0) * 4294967296 + a.getD n 0) * 4294967296 ^ n + nv (a.take n) := by
 rw [nv_split (m := n) (by omega), nv_drop (a := a) (m := n + 1) (by omega), nv_single a (n + 2) (by omega), Nat.mul_comm (4294967296 ^ n)]
 rw [show a.getD n 0 + 4294967296 * (a.getD (n + 1) 0 + 4294967296 * a.getD (n + 2) 0) = (a.getD (n + 2) 0 * 4294967296 + a.getD (n + 1) 0) * 4294967296 + a.getD n 0 by omega]; omega
theorem nv_take_lt {a : List Nat} (h : lim a) {n : Nat} (hn : n ≤ a.length) : nv (a.take n) < 4294967296 ^ n := by
 have := nv_lt (lim_take h n)
 rwa [List.length_take, Nat.min_eq_left hn] at this
theorem limbs_len_eq {x n : Nat} (h1 : x < 4294967296 ^ (n + 1)) (h2 : 4294967296 ^ n ≤ x) : (limbs x).length = n + 1 := by
 have h3 := limbs_len.2 h1
 rcases Nat.lt_or_ge (limbs x).length (n + 1) with e | e
 ·have := limbs_len.1 (show (limbs x).length ≤ n by omega)
  omega
 ·omega
theorem limbs_top_ne {y n : Nat} (h : (limbs y).length = n + 1) : (limbs y).getD n 0 ≠ 0 := by
 have := vld_limbs y
 unfold vld at this
 rw [h, Nat.add_sub_cancel] at this
 simpa using this
theorem norm_V {y n : Nat} (h : (limbs y).length = n + 1) : 32 - blen ((limbs y).getD n 0) ≤ 31 ∧ y * 2 ^ (32 - blen ((limbs y).getD n 0)) < 4294967296 ^ (n + 1) ∧ 4294967296 ^ n * 2147483648 ≤ y * 2 ^ (32 - blen ((limbs y).getD n 0)) := by
 have h0 := limbs_top_ne h
 have hl := lim_getD (lim_limbs y) n
 have hs := nv_split (a := limbs y) (m := n) (by omega)
 rw [nv_limbs, List.drop_of_length_le (by omega)] at hs
 have hlow := nv_take_lt (lim_limbs y) (n := n) (by omega)
 simp only [nv, Nat.mul_zero, Nat.add_zero] at hs
 generalize (limbs y).getD n 0 = t at *
 obtain ⟨k1, k2, k3⟩ := lz_spec h0 hl
 have hb := blen_le_of (k := 32) (show t < 2 ^ 32 by omega)
 have htt : (t + 1) * 2 ^ (32 - blen t) ≤ 4294967296 := by
  have h4 := Nat.mul_le_mul_right (2 ^ (32 - blen t)) (show t + 1 ≤ 2 ^ blen t from blen_lt)
  rw [← Nat.pow_add, show blen t + (32 - blen t) = 32 by omega] at h4
  exact h4
 refine ⟨k1, ?_, ?_⟩
 ·have h5 : y * 2 ^ (32 - blen t) < (4294967296 ^ n * (t + 1)) * 2 ^ (32 - blen t) := Nat.mul_lt_mul_of_pos_right (by rw [hs, Nat.mul_add]; omega) (Nat.two_pow_pos _)
  have h6 := Nat.mul_le_mul_left (4294967296 ^ n) htt
  rw [← Nat.mul_assoc] at h6
  rw [Nat.pow_succ]
  omega
 ·have h5 : 4294967296 ^ n * t * 2 ^ (32 - blen t) ≤ y * 2 ^ (32 - blen t) := Nat.mul_le_mul_right _ (by omega)
  have h6 := Nat.mul_le_mul_left (4294967296 ^ n) k2
  rw [← Nat.mul_assoc] at h6
  omega
theorem init_lt {x k V n m : Nat} (hx : x < 4294967296 ^ (m + n)) (hk : k ≤ 31) (hV : 4294967296 ^ n * 2147483648 ≤ V) {u : List Nat} (hl : m ≤ u.length) (hu : nv u = x * 2 ^ k) : nv (u.drop m) < V := by
 have h1 := nv_split_at u m hl
 have h2 : x * 2 ^ k < 4294967296 ^ (m + n) * 2147483648 := Nat.mul_lt_mul_of_lt_of_le hx (pow_le31 hk) (by decide)
 rw [Nat.pow_add, Nat.mul_assoc, ← hu] at h2
 have h3 : 4294967296 ^ m * nv (u.drop m) < 4294967296 ^ m * (4294967296 ^ n * 2147483648) := by omega
 have := Nat.lt_of_mul_lt_mul_left h3
 omega
structure Step (u : List Nat) (V i n : Nat) : Prop where
 eq : nv (u.drop i) = nv ((u.drop i).take (n + 3))
 lt : nv (u.drop i) < 4294967296 * V
 cells : u = u.take i ++ (u.drop i).take (n + 3) ++ u.drop (i + (n + 3))
 slen : ((u.drop i).take (n + 3)).length = n + 3
 g2 : ((u.drop i).take (n + 3)).getD (n + 2) 0 = u.getD (i + n + 2) 0
 g1 : ((u.drop i).take (n + 3)).getD (n + 1) 0 = u.getD (i + n + 1) 0
 g0 : ((u.drop i).take (n + 3)).getD n 0 = u.getD (i + n) 0
 rest : nv (u.drop (i + (n + 3))) = 0
theorem getD_cut (u : List Nat) (i k j : Nat) (h : j < k) : ((u.drop i).take k).getD j 0 = u.getD (i + j) 0 := by
 simp [List.getD_eq_getElem?_getD, List.getElem?_take, h, List.getElem?_drop]
theorem z_zero {x t P z V Q : Nat} (h : x = t + P * z) (hx : x < 4294967296 * V) (hV : V < Q) (hP : P = Q * 4294967296) : z = 0 := by
 rcases Nat.eq_zero_or_pos z with e | e
 ·exact e
 ·have h1 := Nat.mul_le_mul_left P e
  rw [Nat.mul_one] at h1
  omega
theorem up_lt {x y V : Nat} (hx : x < 4294967296) (hR : y < V) : x + 4294967296 * y < 4294967296 * V := by omega
theorem step_of {u : List Nat} {V i n : Nat} (lu : lim u) (hl : i + (n + 3) ≤ u.length) (hR : nv (u.drop (i + 1)) < V) (hV : V < 4294967296 ^ (n + 2)) : Step u V i n := by
 have hlt : nv (u.drop i) < 4294967296 * V := by
  rw [nv_drop (a := u) (m := i) (by omega)]; exact up_lt (lim_getD lu i) hR
 have hs := nv_split_at (u.drop i) (n + 3) (by simp; omega)
 rw [List.drop_drop] at hs
 have hz : nv (u.drop (i + (n + 3))) = 0 := z_zero hs hlt hV (Nat.pow_succ (n := 4294967296) (m := n + 2))
 refine ⟨?_, hlt, ?_, by simp; omega, getD_cut u i (n + 3) (n + 2) (by omega), getD_cut u i (n + 3) (n + 1) (by omega), getD_cut u i (n + 3) n (by omega), hz⟩
 ·rw [hs, hz, Nat.mul_zero, Nat.add_zero]
 ·rw [List.append_assoc, show u.drop (i + (n + 3)) = (u.drop i).drop (n + 3) by rw [List.drop_drop], List.take_append_drop, List.take_append_drop]
theorem v1_pos {V v1 v0 P Vl : Nat} (hv : V = (v1 * 4294967296 + v0) * P + Vl) (hVl : Vl < P) (h0 : v0 < 4294967296) (hVn : P * 4294967296 * 2147483648 ≤ V) : 0 < v1 := by
 rcases Nat.eq_zero_or_pos v1 with e | e
 ·subst e
  rw [Nat.zero_mul, Nat.zero_add] at hv
  have h3 : v0 * P ≤ 4294967295 * P := Nat.mul_le_mul_right P (by clear hv hVn; omega)
  generalize v0 * P = z at *
  omega
 ·exact e
theorem tw_lt {U V T W P Ul Vl : Nat} (hu : U = T * P + Ul) (hv : V = W * P + Vl) (hVl : Vl < P) (hlt : U < 4294967296 * V) : T < 4294967296 * (W + 1) := by
 have h1 : V < (W + 1) * P := by rw [Nat.add_mul, Nat.one_mul]; omega
 have h2 : T * P < (4294967296 * (W + 1)) * P := by
  rw [Nat.mul_assoc]
  generalize (W + 1) * P = z at *
  omega
 exact Nat.lt_of_mul_lt_mul_right h2
theorem u2_le {u2 u1 u0 v1 v0 : Nat} (h0 : v0 < 4294967296) (h : (u2 * 4294967296 + u1) * 4294967296 + u0 < 4294967296 * (v1 * 4294967296 + v0 + 1)) : u2 ≤ v1 := by omega
theorem half_le {P V : Nat} (h : P * 4294967296 * 2147483648 ≤ V) : 4294967296 * P ≤ V := by omega
theorem step_guess {u : List Nat} {V i n : Nat} (lu : lim u) (hS : Step u V i n) (hVl : V < 4294967296 ^ (n + 2)) (hVn : 4294967296 ^ (n + 1) * 2147483648 ≤ V) :
  u.getD (i + n + 2) 0 ≤ (limbs V).getD (n + 1) 0 ∧ 0 < (limbs V).getD (n + 1) 0 ∧
  nv (u.drop i) / V ≤ gq ((u.getD (i + n + 2) 0 * 4294967296 + u.getD (i + n + 1) 0) * 4294967296 + u.getD (i + n) 0) ((limbs V).getD (n + 1) 0 * 4294967296 + (limbs V).getD n 0) ∧
  gq ((u.getD (i + n + 2) 0 * 4294967296 + u.getD (i + n + 1) 0) * 4294967296 + u.getD (i + n) 0) ((limbs V).getD (n + 1) 0 * 4294967296 + (limbs V).getD n 0) ≤ nv (u.drop i) / V + 1 := by
 have hlen : (limbs V).length = n + 2 := limbs_len_eq hVl (Nat.le_trans (Nat.le_mul_of_pos_right _ (by decide)) hVn)
 have hv := top2 (limbs V) n hlen
 have hvl := nv_take_lt (lim_limbs V) (n := n) (by omega)
 have ls := lim_take (lim_drop lu i) (n + 3)
 have hu := top3 _ n hS.slen
 have hul := nv_take_lt ls (n := n) (by rw [hS.slen]; omega)
 rw [← hS.eq, hS.g2, hS.g1, hS.g0] at hu
 rw [nv_limbs] at hv
 have h0v := lim_getD (lim_limbs V) n
 have hlt := hS.lt
 rw [Nat.pow_succ] at hVn
 have hv1 := v1_pos hv hvl h0v hVn
 exact ⟨u2_le h0v (tw_lt hu hv hvl hlt), hv1, gq_spec hu hul hv hvl (half_le hVn) hlt (Nat.lt_of_lt_of_le (Nat.mul_pos hv1 (by decide)) (Nat.le_add_right _ _))⟩
theorem step_sum {A u q V i n : Nat} {us qs : List Nat} (hA : A = 4294967296 ^ (i + 1) * nv qs * V + nv us) (hu : nv us = u + 4294967296 ^ i * n) (hq : q = n / V) :
  A = 4294967296 ^ i * nv (q :: qs) * V + (u + 4294967296 ^ i * (n % V)) := by
 subst hq
 have h1 := Nat.div_add_mod' n V
 simp only [nv]
 rw [hA, hu, Nat.pow_succ]
 have e1 : 4294967296 ^ i * n = 4294967296 ^ i * (n / V * V) + 4294967296 ^ i * (n % V) := by rw [← Nat.mul_add, h1]
 have e2 : 4294967296 ^ i * (n / V + 4294967296 * nv qs) * V = 4294967296 ^ i * (n / V * V) + 4294967296 ^ i * 4294967296 * nv qs * V := by
  rw [Nat.mul_add, Nat.add_mul]
  simp only [Nat.mul_assoc]
 rw [e1, e2]; omega
theorem div_fin {A V q r : Nat} (h : A = q * V + r) (hr : r < V) : q = A / V ∧ r = A % V := by
 subst h
 have h0 : 0 < V := by omega
 rw [Nat.add_comm, Nat.add_mul_div_right _ _ h0, Nat.add_mul_mod_self_right, Nat.div_eq_of_lt hr, Nat.mod_eq_of_lt hr]
 exact ⟨by omega, rfl⟩
theorem dig_snoc (k x : Nat) : dig (k + 1) x = dig k x ++ [x / 4294967296 ^ k % 4294967296] := by
 induction k generalizing x with
 | zero => simp [dig]
 | succ k ih =>
  rw [dig, ih, dig, Nat.div_div_eq_div_mul, ← Nat.pow_succ']
  rfl
theorem drop_div {u : List Nat} (lu : lim u) (i : Nat) (h : i ≤ u.length) : nv u / 4294967296 ^ i = nv (u.drop i) := by
 have h1 := nv_split_at u i h
 have h2 := nv_take_lt lu h
 rw [h1, Nat.add_mul_div_left _ _ (by omega), Nat.div_eq_of_lt h2, Nat.zero_add]
theorem back {u : List Nat} (lu : lim u) {i k : Nat} (hi : i + 1 < u.length) (hk : k ≤ 31) : (u.getD (i + 1) 0 * 4294967296 + u.getD i 0) / 2 ^ k % 4294967296 = nv u / 2 ^ k / 4294967296 ^ i % 4294967296 := by
 rw [Nat.div_div_eq_div_mul, Nat.mul_comm (2 ^ k), ← Nat.div_div_eq_div_mul, drop_div lu i (by omega), nv_drop (a := u) (m := i) (by omega), nv_drop (a := u) (m := i + 1) (by omega), ← shr2 hk, Nat.mul_comm 4294967296]
theorem qv_lt {q V n : Nat} (hq : q < 4294967296) (hV : V < 4294967296 ^ (n + 2)) : q * V < 4294967296 ^ (n + 3) := by
 have h1 : 4294967296 ^ (n + 3) = 4294967296 ^ (n + 2) * 4294967296 := Nat.pow_succ 4294967296 (n + 2)
 rw [h1, Nat.mul_comm q]
 exact Nat.mul_lt_mul_of_lt_of_le hV (Nat.le_of_lt hq) (by decide)
theorem le_pow3 {V n : Nat} (hV : V < 4294967296 ^ (n + 2)) : V ≤ 4294967296 ^ (n + 3) :=
 Nat.le_of_lt (Nat.lt_of_lt_of_le hV (Nat.pow_le_pow_right (by decide) (by omega)))
theorem nv_put {p s t : List Nat} {n i U r : Nat} (hp : p.length = i) (_hs : s.length = n + 3) (ht : nv t = 0) (hU : nv s = U) : nv (p ++ s ++ t) = nv p + 4294967296 ^ i * U ∧ (r < 4294967296 ^ (n + 3) → nv (p ++ dig (n + 3) r ++ t) = nv p + 4294967296 ^ i * r ∧ nv ((p ++ dig (n + 3) r ++ t).drop i) = r) := by
 refine ⟨?_, fun hr => ⟨?_, ?_⟩⟩
 ·rw [nv_app, nv_app, ht, Nat.mul_zero, Nat.add_zero, hp, hU]
 ·rw [nv_app, nv_app, ht, Nat.mul_zero, Nat.add_zero, hp, nv_dig, Nat.mod_eq_of_lt hr]
 ·rw [List.append_assoc, List.drop_append, List.drop_of_length_le (by omega), hp, Nat.sub_self, List.drop_zero, List.nil_append, nv_app, ht, Nat.mul_zero, Nat.add_zero, nv_dig, Nat.mod_eq_of_lt hr]
end Nat32
namespace Nat32
open Go Go.Dat
theorem tdiv32 (i : Nat) : ((i : Int)).tdiv 32 = ((i / 32 : Nat) : Int) := tdiv_nat i 32
theorem tmod32 (i : Nat) : ((i : Int)).tmod 32 = ((i % 32 : Nat) : Int) := tmod_nat i 32
theorem shr_w32 (a k : Nat) (hk : k ≤ 31) : ((a : Int)).fdiv (2 ^ min k IntKind.u32.bits) = ((a / 2 ^ k : Nat) : Int) := by
 have e : min k IntKind.u32.bits = k := by
  have : IntKind.u32.bits = 32 := rfl
  omega
 rw [e, show ((2 : Int) ^ k) = ((2 ^ k : Nat) : Int) by simp, fdiv_nat]
theorem and_oneU {z : Nat} (h : z < 4294967296) : bitE .and .u32 (z : Int) 1 = ((z % 2 : Nat) : Int) := by
 have := and_nat32 z 1 h (by decide)
 rw [Nat.and_one_is_mod] at this
 exact this
theorem bit_of {a : List Nat} (la : lim a) (i : Nat) (h : i / 32 < a.length) : a.getD (i / 32) 0 / 2 ^ (i % 32) % 2 = nv a / 2 ^ i % 2 := by
 have e : 2 ^ i = 4294967296 ^ (i / 32) * 2 ^ (i % 32) := by
  rw [show (4294967296 : Nat) = 2 ^ 32 from rfl, ← Nat.pow_mul, ← Nat.pow_add, Nat.div_add_mod]
 rw [e, ← Nat.div_div_eq_div_mul, drop_div la _ (by omega), nv_drop h]
 generalize a.getD (i / 32) 0 = x
 generalize nv (a.drop (i / 32 + 1)) = z
 have hm : i % 32 < 32 := Nat.mod_lt _ (by decide)
 generalize i % 32 = m at hm
 have e2 : x + 4294967296 * z = x + 2 ^ m * (2 * (2 ^ (31 - m) * z)) := by
  rw [← Nat.mul_assoc, ← Nat.mul_assoc, ← Nat.pow_succ, ← Nat.pow_add, show m + 1 + (31 - m) = 32 by omega]
 rw [e2, Nat.add_mul_div_left _ _ (Nat.two_pow_pos m), Nat.add_mul_mod_self_left]
theorem bit_step (x i : Nat) : x / 2 ^ i = 2 * (x / 2 ^ (i + 1)) + x / 2 ^ i % 2 := by
 rw [Nat.pow_succ, ← Nat.div_div_eq_div_mul]; omega
theorem len_mono {x y : Nat} (h : x ≤ y) : (limbs x).length ≤ (limbs y).length :=
 limbs_len.2 (Nat.lt_of_le_of_lt h (limbs_len.1 (Nat.le_refl _)))
theorem len_double {x n : Nat} (h : (limbs x).length ≤ n) : (limbs (2 * x + 1)).length ≤ n + 1 := by
 rw [limbs_len] at h ⊢
 rw [Nat.pow_succ]; omega
theorem pow32 (n : Nat) : (4294967296 : Nat) ^ n = 2 ^ (32 * n) := by rw [show (4294967296 : Nat) = 2 ^ 32 from rfl, ← Nat.pow_mul]
def iv (neg : Bool) (a : List Nat) : Int := if neg then -((vn a : Nat) : Int) else ((vn a : Nat) : Int)
def I (z : Int) : DV := .agg [.bool (decide (z < 0)), .sl 1 (us (limbs z.natAbs))]
def X (neg : Bool) (a : List Nat) : DV := .agg [.bool neg, .sl 1 (us a)]
def vldI (neg : Bool) (a : List Nat) : Bool := vld a && (decide (0 < a.length) || !neg)
theorem iv_I (z : Int) : iv (decide (z < 0)) (limbs z.natAbs) = z := by
 unfold iv
 rw [vn_limbs]
 by_cases h : z < 0
 ·rw [if_pos (decide_eq_true h)]; omega
 ·rw [if_neg (by simpa using h)]; omega
theorem limbs_len0 {n : Nat} : 0 < (limbs n).length ↔ 0 < n := by
 rcases Nat.eq_zero_or_pos n with e | e
 ·subst e; rw [limbs_zero]; simp
 ·constructor
  ·intro _; exact e
  ·intro _
   rcases Nat.eq_zero_or_pos (limbs n).length with h | h
   ·have := limbs_eq_nil.1 (List.eq_nil_of_length_eq_zero h); omega
   ·exact h
theorem vldI_I (z : Int) : vldI (decide (z < 0)) (limbs z.natAbs) = true := by
 unfold vldI
 rw [vld_limbs, Bool.true_and, Bool.or_eq_true]
 by_cases h : z < 0
 ·exact .inl (decide_eq_true (limbs_len0.2 (by omega)))
 ·exact .inr (by simp [h])
theorem X_I {neg : Bool} {a : List Nat} (la : lim a) (h : vldI neg a = true) : X neg a = I (iv neg a) := by
 unfold vldI at h
 rw [Bool.and_eq_true, Bool.or_eq_true] at h
 obtain ⟨hv, h2⟩ := h
 have ha : limbs (vn a) = a := by rw [← val_limbs la, val, hv, if_pos rfl]
 unfold X I iv
 cases neg with
 | false =>
  simp only [Bool.false_eq_true, if_false, Int.natAbs_natCast, ha]
  rw [decide_eq_false (by omega)]
 | true =>
  have h3 : 0 < a.length := by
   rcases h2 with h | h
   ·exact of_decide_eq_true h
   ·cases h
  have h4 : 0 < vn a := by rw [← limbs_len0, ha]; exact h3
  simp only [if_true, Int.natAbs_neg, Int.natAbs_natCast, ha]
  rw [decide_eq_true (by omega)]
theorem iv_inv {neg : Bool} {a : List Nat} (h : vldI neg a = false) : iv neg a = 0 := by
 unfold vldI at h
 unfold iv
 have h0 : vn a = 0 := by
  by_cases hv : vld a = true
  ·rw [hv, Bool.true_and, Bool.or_eq_false_iff] at h
   have : a = [] := List.eq_nil_of_length_eq_zero (by have := of_decide_eq_false h.1; omega)
   subst this; rfl
  ·unfold vn val; rw [if_neg hv]; rfl
 rw [h0]; split <;> rfl
def sgn (neg : Bool) (n : Nat) : Int := if neg then -(n : Int) else n
theorem sgn_abs (neg : Bool) (n : Nat) : (sgn neg n).natAbs = n := by unfold sgn; split <;> omega
theorem sgn_lt (neg : Bool) (n : Nat) : decide (sgn neg n < 0) = (neg && decide (0 < n)) := by
 unfold sgn
 cases neg with
 | false => simp only [Bool.false_eq_true, if_false, Bool.false_and]; exact decide_eq_false (by omega)
 | true => simp only [if_true, Bool.true_and]; rw [decide_eq_decide]; omega
theorem sgn_self (z : Int) : sgn (decide (z < 0)) z.natAbs = z := by
 unfold sgn
 by_cases h : z < 0
 ·rw [if_pos (decide_eq_true h)]; omega
 ·rw [if_neg (by simpa using h)]; omega
theorem sgn_not (z : Int) : sgn (!decide (z < 0)) z.natAbs = -z := by
 unfold sgn
 by_cases h : z < 0
 ·rw [if_neg (by simp [h])]; omega
 ·rw [if_pos (by simp [h])]; omega
theorem add_same {x y : Int} (h : decide (x < 0) = decide (y < 0)) : sgn (decide (x < 0)) (x.natAbs + y.natAbs) = x + y := by
 rw [decide_eq_decide] at h
 unfold sgn
 by_cases hx : x < 0
 ·rw [if_pos (decide_eq_true hx)]; have := h.1 hx; omega
 ·rw [if_neg (by simpa using hx)]; have : ¬ y < 0 := fun k => hx (h.2 k); omega
theorem add_left {x y : Int} (h : ¬ decide (x < 0) = decide (y < 0)) (hle : y.natAbs ≤ x.natAbs) : sgn (decide (x < 0)) (x.natAbs - y.natAbs) = x + y := by
 rw [decide_eq_decide] at h
 unfold sgn
 by_cases hx : x < 0
 ·rw [if_pos (decide_eq_true hx)]; have : ¬ y < 0 := fun k => h ⟨fun _ => k, fun _ => hx⟩; omega
 ·rw [if_neg (by simpa using hx)]; have : y < 0 := by
   rcases Int.lt_or_le y 0 with k | k
   ·exact k
   ·exact absurd (show x < 0 ↔ y < 0 from ⟨fun a => absurd a hx, fun a => absurd a (by omega)⟩) h
  omega
theorem add_right {x y : Int} (h : ¬ decide (x < 0) = decide (y < 0)) (hle : ¬ y.natAbs ≤ x.natAbs) : sgn (decide (y < 0)) (y.natAbs - x.natAbs) = x + y := by
 have := add_left (x := y) (y := x) (fun k => h k.symm) (by omega)
 rw [this, Int.add_comm]
theorem mul_sgn (x y : Int) : sgn (!(decide (x < 0) == decide (y < 0))) (x.natAbs * y.natAbs) = x * y := by
 have hxy := Int.natAbs_mul x y
 unfold sgn
 by_cases hx : x < 0 <;> by_cases hy : y < 0
 ·have h := Int.mul_pos_of_neg_of_neg hx hy
  simp [hx, hy]; rw [← Int.natCast_mul, ← hxy]; omega
 ·have h : x * y ≤ 0 := Int.mul_nonpos_of_nonpos_of_nonneg (by omega) (by omega)
  simp [hx, hy]; rw [← Int.natCast_mul, ← hxy]; omega
 ·have h : x * y ≤ 0 := Int.mul_nonpos_of_nonneg_of_nonpos (by omega) (by omega)
  simp [hx, hy]; rw [← Int.natCast_mul, ← hxy]; omega
 ·have h : 0 ≤ x * y := Int.mul_nonneg (by omega) (by omega)
  simp [hx, hy]; rw [← Int.natCast_mul, ← hxy]; omega
theorem sign_len {z : Int} : (limbs z.natAbs).length = 0 ↔ z = 0 := by
 constructor
 ·intro h
  have := limbs_eq_nil.1 (List.eq_nil_of_length_eq_zero h)
  omega
 ·rintro rfl; rw [show (0 : Int).natAbs = 0 from rfl, limbs_zero]; rfl
theorem ediv_uniq {x y q r : Int} (h : x = q * y + r) (h0 : 0 ≤ r) (h1 : r < y.natAbs) : q = x / y ∧ r = x % y := by
 have h2 : r + y * q = x := by rw [h, Int.mul_comm y q, Int.add_comm]
 rcases Int.lt_or_le 0 y with hy | hy
 ·have := (Int.ediv_emod_unique hy).2 ⟨h2, h0, by omega⟩
  exact ⟨this.1.symm, this.2.symm⟩
 ·have := (Int.ediv_emod_unique' (show y < 0 by omega)).2 ⟨h2, h0, by omega⟩
  exact ⟨this.1.symm, this.2.symm⟩
theorem iv_abs (neg : Bool) (a : List Nat) : (iv neg a).natAbs = vn a := by unfold iv; split <;> omega
theorem iv_sgn (neg : Bool) (a : List Nat) : iv neg a = sgn neg (vn a) := rfl
theorem iv_len {a : List Nat} (la : lim a) (neg : Bool) : (limbs (iv neg a).natAbs).length ≤ a.length := by
 rw [iv_abs, ← val_limbs la]; exact val_len a
def imod (x y : Int) : Int := if y = 0 then 0 else x % y
theorem sgn_mul (x y : Int) (n : Nat) : sgn (!(decide (x < 0) == decide (y < 0))) n * y = sgn (decide (x < 0)) (n * y.natAbs) := by
 obtain ⟨K, hK⟩ : ∃ K : Nat, K = y.natAbs := ⟨_, rfl⟩
 rw [← hK]
 by_cases h1 : x < 0 <;> by_cases h2 : y < 0
 ·have e : y = -(K : Int) := by omega
  simp only [h1, h2, decide_true]
  rw [e]; show ((n : Int)) * -(K : Int) = -((n * K : Nat) : Int)
  rw [Int.mul_neg, Int.natCast_mul]
 ·have e : y = (K : Int) := by omega
  simp only [h1, h2, decide_true, decide_false]
  rw [e]; show (-(n : Int)) * (K : Int) = -((n * K : Nat) : Int)
  rw [Int.neg_mul, Int.natCast_mul]
 ·have e : y = -(K : Int) := by omega
  simp only [h1, h2, decide_true, decide_false]
  rw [e]; show (-(n : Int)) * -(K : Int) = ((n * K : Nat) : Int)
  rw [Int.neg_mul, Int.mul_neg, Int.neg_neg, Int.natCast_mul]
 ·have e : y = (K : Int) := by omega
  simp only [h1, h2, decide_false]
  rw [e]; show ((n : Int)) * (K : Int) = ((n * K : Nat) : Int)
  rw [Int.natCast_mul]
theorem sgn_add (b : Bool) (m n : Nat) : sgn b (m + n) = sgn b m + sgn b n := by unfold sgn; split <;> omega
theorem div_plain (x y : Int) (hy : y ≠ 0) (hx : ¬ (x < 0 ∧ 0 < x.natAbs % y.natAbs)) : sgn (!(decide (x < 0) == decide (y < 0))) (x.natAbs / y.natAbs) = x / y ∧ sgn false (x.natAbs % y.natAbs) = x % y := by
 have h0 : 0 < y.natAbs := by omega
 have hm := Nat.mod_lt x.natAbs h0
 have hd := Nat.div_add_mod' x.natAbs y.natAbs
 have hs := sgn_self x
 rw [← hd, sgn_add, ← sgn_mul] at hs
 have hr : sgn (decide (x < 0)) (x.natAbs % y.natAbs) = sgn false (x.natAbs % y.natAbs) := by
  by_cases h1 : x < 0
  ·have hz : x.natAbs % y.natAbs = 0 := by
    rcases Nat.eq_zero_or_pos (x.natAbs % y.natAbs) with e | e
    ·exact e
    ·exact absurd ⟨h1, e⟩ hx
   rw [hz]; unfold sgn; split <;> rfl
  ·rw [decide_eq_false h1]
 rw [hr] at hs
 exact ediv_uniq hs.symm (Int.natCast_nonneg _) (by show ((x.natAbs % y.natAbs : Nat) : Int) < _; omega)
theorem div_fix (x y : Int) (hy : y ≠ 0) (h1 : x < 0) (h2 : 0 < x.natAbs % y.natAbs) : sgn (!(decide (x < 0) == decide (y < 0))) (x.natAbs / y.natAbs + 1) = x / y ∧ sgn false (y.natAbs - x.natAbs % y.natAbs) = x % y := by
 have h0 : 0 < y.natAbs := by omega
 have hm := Nat.mod_lt x.natAbs h0
 have hd := Nat.div_add_mod' x.natAbs y.natAbs
 have hq := sgn_mul x y (x.natAbs / y.natAbs + 1)
 rw [Nat.add_mul, Nat.one_mul] at hq
 refine ediv_uniq ?_ (Int.natCast_nonneg _) (by show ((y.natAbs - x.natAbs % y.natAbs : Nat) : Int) < _; omega)
 rw [hq]
 show x = sgn (decide (x < 0)) (x.natAbs / y.natAbs * y.natAbs + y.natAbs) + ((y.natAbs - x.natAbs % y.natAbs : Nat) : Int)
 rw [decide_eq_true h1]
 show x = -((x.natAbs / y.natAbs * y.natAbs + y.natAbs : Nat) : Int) + ((y.natAbs - x.natAbs % y.natAbs : Nat) : Int)
 generalize x.natAbs % y.natAbs = m at *
 generalize x.natAbs / y.natAbs * y.natAbs = t at *
 omega
theorem vn_limbs_of_vld {a : List Nat} (la : lim a) (h : vld a = true) : limbs (vn a) = a := by rw [vn, val, if_pos h]; exact limbs_nv la h
theorem limbs_1 : limbs 1 = [1] := limbs_one (by decide) (by decide)
theorem vnl {a : List Nat} (hl : lim a) : (limbs (vn a)).length ≤ a.length := by
 rw [← val_limbs hl]; exact val_len a
def dn (d : Nat) : List Nat := if d = 1 then [] else limbs d
def Q (r : Rat) : DV := .agg [.bool (decide (r.num < 0)), .sl 1 (us (limbs r.num.natAbs)), .sl 1 (us (dn r.den))]
def XQ (neg : Bool) (a d : List Nat) : DV := .agg [.bool neg, .sl 1 (us a), .sl 1 (us d)]
def vldQ (neg : Bool) (a d : List Nat) : Bool := vldI neg a && vld d && (decide (d.length = 0) || (decide (0 < a.length) && decide (¬ vn d = 1) && decide (1 = Nat.gcd (vn a) (vn d))))
def rv (neg : Bool) (a d : List Nat) : Rat := if vldQ neg a d then mkRat (iv neg a) (if d.length = 0 then 1 else vn d) else 0
theorem lim_dn (d : Nat) : lim (dn d) := by unfold dn; split; exact lim_nil; exact lim_limbs _
theorem vld_dn (d : Nat) : vld (dn d) = true := by unfold dn; split; rfl; exact vld_limbs _
theorem dn_len (d : Nat) : (dn d).length ≤ (limbs d).length := by unfold dn; split; simp; exact Nat.le_refl _
theorem dn_one : dn 1 = [] := rfl
theorem dn_len0 {d : Nat} (h : d ≠ 0) : (dn d).length = 0 ↔ d = 1 := by
 unfold dn
 by_cases h1 : d = 1
 ·rw [if_pos h1]; simp [h1]
 ·rw [if_neg h1]
  constructor
  ·intro e; exact absurd (limbs_eq_nil.1 (List.eq_nil_of_length_eq_zero e)) h
  ·intro e; exact absurd e h1
theorem vn_dn {d : Nat} (h : d ≠ 1) : vn (dn d) = d := by unfold dn; rw [if_neg h, vn_limbs]
theorem vldQ_Q (r : Rat) : vldQ (decide (r.num < 0)) (limbs r.num.natAbs) (dn r.den) = true := by
 unfold vldQ
 rw [vldI_I, vld_dn, Bool.true_and, Bool.true_and]
 by_cases h1 : r.den = 1
 ·rw [h1, dn_one]; rfl
 ·have h0 : 0 < r.num.natAbs := by
   rcases Nat.eq_zero_or_pos r.num.natAbs with e | e
   ·exfalso
    have := r.reduced
    rw [e, Nat.coprime_zero_left] at this
    exact h1 this
   ·exact e
  rw [vn_dn h1, vn_limbs, decide_eq_true (limbs_len0.2 h0), decide_eq_true (show ¬ r.den = 1 from h1), decide_eq_true (show 1 = Nat.gcd r.num.natAbs r.den from (show Nat.gcd r.num.natAbs r.den = 1 from r.reduced).symm)]
  simp
theorem rv_Q (r : Rat) : rv (decide (r.num < 0)) (limbs r.num.natAbs) (dn r.den) = r := by
 unfold rv
 rw [vldQ_Q, if_pos rfl, iv_I]
 by_cases h1 : r.den = 1
 ·rw [h1, dn_one, if_pos (show ([] : List Nat).length = 0 from rfl)]
  have := Rat.mkRat_self r
  rwa [h1] at this
 ·rw [if_neg (fun e => h1 ((dn_len0 r.den_nz).1 e)), vn_dn h1, Rat.mkRat_self]
theorem rv_inv {neg : Bool} {a d : List Nat} (h : vldQ neg a d = false) : rv neg a d = 0 := by unfold rv; rw [h]; rfl
theorem rv_parts {neg : Bool} {a d : List Nat} (ld : lim d) (h : vldQ neg a d = true) : (rv neg a d).num = iv neg a ∧ (rv neg a d).den = (if d.length = 0 then 1 else vn d) := by
 unfold rv
 rw [h, if_pos rfl]
 by_cases h0 : d.length = 0
 ·rw [if_pos h0]
  rw [Rat.num_mkRat, Rat.den_mkRat]
  simp
 ·rw [if_neg h0]
  have hv := h
  unfold vldQ at hv
  simp only [Bool.and_eq_true, Bool.or_eq_true, decide_eq_true_eq, h0, false_or] at hv
  obtain ⟨⟨_, hd⟩, ⟨h1, h2⟩, h3⟩ := hv
  replace h3 := h3.symm
  have hne : vn d ≠ 0 := by
   intro e
   rw [e, Nat.gcd_zero_right] at h3
   have : vn d ≠ 0 := by
    have hl := vn_limbs_of_vld ld hd
    intro e2
    rw [e2, limbs_zero] at hl
    rw [← hl] at h0
    exact h0 rfl
   exact this e
  rw [Rat.num_mkRat, Rat.den_mkRat, if_neg hne, if_neg hne, iv_abs, Nat.gcd_comm, h3]
  simp
theorem XQ_Q {neg : Bool} {a d : List Nat} (la : lim a) (ld : lim d) (h : vldQ neg a d = true) : XQ neg a d = Q (rv neg a d) := by
 obtain ⟨h1, h2⟩ := rv_parts ld h
 have hv := h
 unfold vldQ at hv
 simp only [Bool.and_eq_true] at hv
 obtain ⟨⟨hi, hd⟩, h3⟩ := hv
 have hx := X_I la hi
 unfold X I at hx
 injection hx with hx
 injection hx with e1 hx
 injection hx with e2 _
 unfold XQ Q
 rw [h1, h2, e1, e2]
 have e3 : dn (if d.length = 0 then 1 else vn d) = d := by
  by_cases h0 : d.length = 0
  ·rw [if_pos h0, dn_one, List.eq_nil_of_length_eq_zero h0]
  ·rw [if_neg h0]
   simp only [Bool.or_eq_true, Bool.and_eq_true, decide_eq_true_eq, h0, false_or] at h3
   unfold dn
   rw [if_neg h3.1.2]
   exact vn_limbs_of_vld ld hd
 rw [e3]
theorem rv_den (neg : Bool) (a d : List Nat) (ld : lim d) : (limbs (rv neg a d).den).length ≤ max 1 d.length := by
 by_cases h : vldQ neg a d = true
 ·rw [(rv_parts ld h).2]
  by_cases h0 : d.length = 0
  ·rw [if_pos h0, limbs_1]; simp; omega
  ·rw [if_neg h0]; exact Nat.le_trans (vnl ld) (by omega)
 ·rw [rv_inv (by simpa using h), show (0 : Rat).den = 1 from rfl, limbs_1]; simp; omega
theorem rv_num (neg : Bool) (a d : List Nat) (la : lim a) (ld : lim d) : (limbs (rv neg a d).num.natAbs).length ≤ a.length := by
 by_cases h : vldQ neg a d = true
 ·rw [(rv_parts ld h).1]; exact iv_len la neg
 ·rw [rv_inv (by simpa using h), show (0 : Rat).num.natAbs = 0 from rfl, limbs_zero]; simp
theorem ediv_gcd {z : Int} {g : Nat} (h : (g : Int) ∣ z) (hg : 0 < g) : (z / (g : Int)).natAbs = z.natAbs / g ∧ decide (z / (g : Int) < 0) = decide (z < 0) := by
 obtain ⟨c, rfl⟩ := h
 have hg' : (0 : Int) < g := by omega
 rw [Int.mul_ediv_cancel_left _ (by omega), Int.natAbs_mul, Int.natAbs_natCast, Nat.mul_div_cancel_left _ hg]
 refine ⟨rfl, ?_⟩
 rw [decide_eq_decide]
 constructor
 ·intro hc; exact Int.mul_neg_of_pos_of_neg hg' hc
 ·intro hc
  rcases Int.lt_or_le c 0 with k | k
  ·exact k
  ·have := Int.mul_nonneg (Int.le_of_lt hg') k; omega
theorem Q_low (z : Int) (d : Nat) (h : d ≠ 0) : Q (mkRat z d) = .agg [.bool (decide (z < 0)), .sl 1 (us (limbs (z.natAbs / Nat.gcd z.natAbs d))), .sl 1 (us (dn (d / Nat.gcd z.natAbs d)))] := by
 have hg : 0 < Nat.gcd z.natAbs d := Nat.gcd_pos_of_pos_right _ (Nat.pos_of_ne_zero h)
 have hd : ((Nat.gcd z.natAbs d : Nat) : Int) ∣ z := by
  have := Nat.gcd_dvd_left z.natAbs d
  exact Int.ofNat_dvd_left.2 this
 obtain ⟨e1, e2⟩ := ediv_gcd hd hg
 unfold Q
 rw [Rat.num_mkRat, Rat.den_mkRat, if_neg h, if_neg h, Nat.gcd_comm d, e1, e2]
theorem Q_int (z : Int) : Q (z : Rat) = .agg [.bool (decide (z < 0)), .sl 1 (us (limbs z.natAbs)), .sl 1 []] := by
 unfold Q
 rw [Rat.num_intCast, Rat.den_intCast, dn_one, us_nil]
theorem Q0 : Q 0 = .agg [.bool false, .sl 1 [], .sl 1 []] := by
 have := Q_int 0
 rw [show ((0 : Int) : Rat) = 0 from rfl, show (0 : Int).natAbs = 0 from rfl, limbs_zero, us_nil] at this
 exact this
theorem divInt_pos (z : Int) {e : Int} (h : 0 < e) : Rat.divInt z e = mkRat z e.natAbs := by
 obtain ⟨n, rfl⟩ := Int.eq_ofNat_of_zero_le (Int.le_of_lt h)
 exact Rat.divInt_ofNat z n
theorem divInt_neg (z : Int) {e : Int} (h : e < 0) : Rat.divInt z e = mkRat (-z) e.natAbs := by
 rw [← Rat.neg_divInt_neg, divInt_pos _ (by omega), Int.natAbs_neg]
theorem rat_quo (x y : Rat) : Rat.divInt (x.num * y.den) (x.den * y.num) = x / y := by
 rw [Rat.div_def, Rat.inv_def]
 conv => rhs; rw [← Rat.num_divInt_den x]
 rw [Rat.divInt_mul_divInt]
theorem rat_addI {x y : Rat} (hx : x.den = 1) (hy : y.den = 1) : x + y = ((x.num + y.num : Int) : Rat) := by
 rw [Rat.add_def', hx, hy]
 simp [Rat.mkRat_one]
theorem rat_mulI {x y : Rat} (hx : x.den = 1) (hy : y.den = 1) : x * y = ((x.num * y.num : Int) : Rat) := by
 rw [Rat.mul_def', hx, hy]
 simp [Rat.mkRat_one]
def RB (r : Rat) (m : Nat) : Prop := (limbs r.num.natAbs).length ≤ m ∧ (limbs r.den).length ≤ m
theorem RB.mono {r : Rat} {m n : Nat} (h : RB r m) (hm : m ≤ n) : RB r n := ⟨Nat.le_trans h.1 hm, Nat.le_trans h.2 hm⟩
theorem RB_rv {neg : Bool} {a d : List Nat} {m : Nat} (la : lim a) (ld : lim d) (ha : a.length ≤ m) (hd : d.length ≤ m) (hm : 1 ≤ m) : RB (rv neg a d) m :=
 ⟨Nat.le_trans (rv_num neg a d la ld) ha, Nat.le_trans (rv_den neg a d ld) (by omega)⟩
theorem RB_neg {x : Rat} {m : Nat} (h : RB x m) : RB (-x) m := by unfold RB; rw [Rat.neg_num, Rat.neg_den, Int.natAbs_neg]; exact h
end Nat32
namespace Nat32
open Go Go.Dat
open Go.Lib (decDigits)
def fi (p : UInt8 → Bool) : List UInt8 → Nat
 | [] => 0
 | c :: t => if p c then 0 else fi p t + 1
end Nat32
namespace Nat32
def sumQ : Nat → (Nat → Rat) → Rat
 | 0, _ => 0
 | n + 1, f => sumQ n f + f n
theorem sumQ_congr {n : Nat} {f g : Nat → Rat} (h : ∀ i, i < n → f i = g i) : sumQ n f = sumQ n g := by
 induction n with
 | zero => rfl
 | succ n ih => rw [sumQ, sumQ, ih fun i hi => h i (by omega), h n (by omega)]
theorem sumQ_zero {n : Nat} {f : Nat → Rat} (h : ∀ i, i < n → f i = 0) : sumQ n f = 0 := by
 induction n with
 | zero => rfl
 | succ n ih => rw [sumQ, ih fun i hi => h i (by omega), h n (by omega), Rat.add_zero]
theorem sumQ_add (n : Nat) (f g : Nat → Rat) : sumQ n (fun i => f i + g i) = sumQ n f + sumQ n g := by
 induction n with
 | zero => exact (Rat.add_zero 0).symm
 | succ n ih =>
  simp only [sumQ]
  rw [ih]
  grind
theorem sumQ_mul (n : Nat) (c : Rat) (f : Nat → Rat) : sumQ n (fun i => c * f i) = c * sumQ n f := by
 induction n with
 | zero => simp [sumQ]
 | succ n ih => simp only [sumQ]; rw [ih, Rat.mul_add]
theorem sumQ_one {n k : Nat} (hk : k < n) {f : Nat → Rat} (h : ∀ i, i < n → i ≠ k → f i = 0) : sumQ n f = f k := by
 induction n with
 | zero => omega
 | succ n ih =>
  rw [sumQ]
  by_cases e : k = n
  ·subst e
   rw [sumQ_zero fun i hi => h i (by omega) (by omega), Rat.zero_add]
  ·rw [ih (by omega) fun i hi hne => h i (by omega) hne, h n (by omega) (fun e' => e e'.symm), Rat.add_zero]
theorem sumQ_swap (n m : Nat) (f : Nat → Nat → Rat) : sumQ n (fun i => sumQ m fun j => f i j) = sumQ m fun j => sumQ n fun i => f i j := by
 induction n with
 | zero => exact (sumQ_zero (f := fun j => sumQ 0 fun i => f i j) fun j _ => rfl).symm
 | succ n ih =>
  simp only [sumQ]
  rw [ih, sumQ_add]
abbrev Mt := Nat → Nat → Rat
def Ker (n k : Nat) (M : Mt) (c : Nat → Rat) : Prop := ∀ i, i < n → sumQ k (fun j => M i j * c j) = 0
def KerEq (n k : Nat) (M M' : Mt) : Prop := ∀ c, Ker n k M c ↔ Ker n k M' c
theorem KerEq.refl (n k : Nat) (M : Mt) : KerEq n k M M := fun _ => Iff.rfl
theorem KerEq.trans {n k : Nat} {A B C : Mt} (h : KerEq n k A B) (h' : KerEq n k B C) : KerEq n k A C := fun c => (h c).trans (h' c)
theorem KerEq.symm {n k : Nat} {A B : Mt} (h : KerEq n k A B) : KerEq n k B A := fun c => (h c).symm
theorem KerEq.of {n k : Nat} {A B : Mt} (h : ∀ i, i < n → ∀ j, j < k → A i j = B i j) : KerEq n k A B := fun c => by
 unfold Ker
 constructor
 ·intro g i hi
  rw [← g i hi]
  exact sumQ_congr fun j hj => by rw [h i hi j hj]
 ·intro g i hi
  rw [← g i hi]
  exact sumQ_congr fun j hj => by rw [h i hi j hj]
theorem KerEq_swap {n k a b : Nat} (ha : a < n) (hb : b < n) {M M' : Mt} (h1 : ∀ j, j < k → M' a j = M b j) (h2 : ∀ j, j < k → M' b j = M a j) (h3 : ∀ i, i < n → i ≠ a → i ≠ b → ∀ j, j < k → M' i j = M i j) : KerEq n k M M' := fun c => by
 have e1 : sumQ k (fun j => M' a j * c j) = sumQ k (fun j => M b j * c j) := sumQ_congr fun j hj => by rw [h1 j hj]
 have e2 : sumQ k (fun j => M' b j * c j) = sumQ k (fun j => M a j * c j) := sumQ_congr fun j hj => by rw [h2 j hj]
 have e3 : ∀ i, i < n → i ≠ a → i ≠ b → sumQ k (fun j => M' i j * c j) = sumQ k (fun j => M i j * c j) := fun i hi g1 g2 => sumQ_congr fun j hj => by rw [h3 i hi g1 g2 j hj]
 unfold Ker
 constructor
 ·intro g i hi
  by_cases g1 : i = a
  ·rw [g1, e1]; exact g b hb
  ·by_cases g2 : i = b
   ·rw [g2, e2]; exact g a ha
   ·rw [e3 i hi g1 g2]; exact g i hi
 ·intro g i hi
  by_cases g1 : i = a
  ·rw [g1, ← e2]; exact g b hb
  ·by_cases g2 : i = b
   ·rw [g2, ← e1]; exact g a ha
   ·rw [← e3 i hi g1 g2]; exact g i hi
theorem KerEq_row {n k t : Nat} (ht : t < n) {M M' : Mt} {q : Rat} (hq : q ≠ 0) (f : Nat → Rat) (h1 : ∀ j, j < k → M' t j = q * M t j) (h2 : ∀ i, i < n → i ≠ t → ∀ j, j < k → M' i j = M i j + f i * M t j) : KerEq n k M M' := fun c => by
 have e1 : sumQ k (fun j => M' t j * c j) = q * sumQ k (fun j => M t j * c j) := by
  rw [← sumQ_mul]
  exact sumQ_congr fun j hj => by rw [h1 j hj]; grind
 have e2 : ∀ i, i < n → i ≠ t → sumQ k (fun j => M' i j * c j) = sumQ k (fun j => M i j * c j) + f i * sumQ k (fun j => M t j * c j) := fun i hi g => by
  rw [← sumQ_mul, ← sumQ_add]
  exact sumQ_congr fun j hj => by rw [h2 i hi g j hj]; grind
 unfold Ker
 constructor
 ·intro g i hi
  by_cases g1 : i = t
  ·rw [g1, e1, g t ht, Rat.mul_zero]
  ·rw [e2 i hi g1, g i hi, g t ht]; grind
 ·intro g i hi
  have ht0 : sumQ k (fun j => M t j * c j) = 0 := by
   have := g t ht
   rw [e1] at this
   rcases Rat.mul_eq_zero.1 this with h | h
   ·exact absurd h hq
   ·exact h
  by_cases g1 : i = t
  ·rw [g1]; exact ht0
  ·have := g i hi
   rw [e2 i hi g1, ht0] at this
   grind
structure IsRp (n k j : Nat) (R : Mt) (ps : List Nat) : Prop where
 inc : ∀ a b, a < b → b < ps.length → ps.getD a 0 < ps.getD b 0
 lt : ∀ a, a < ps.length → ps.getD a 0 < j
 len : ps.length ≤ n
 one : ∀ a, a < ps.length → R a (ps.getD a 0) = 1
 col : ∀ a, a < ps.length → ∀ i, i < n → i ≠ a → R i (ps.getD a 0) = 0
 left : ∀ a, a < ps.length → ∀ c, c < ps.getD a 0 → R a c = 0
 down : ∀ i, ps.length ≤ i → i < n → ∀ c, c < j → R i c = 0
abbrev IsR (n k : Nat) (R : Mt) (ps : List Nat) : Prop := IsRp n k k R ps
theorem IsRp.nil (n k : Nat) (R : Mt) : IsRp n k 0 R [] := by
 refine ⟨?_, ?_, Nat.zero_le _, ?_, ?_, ?_, ?_⟩
 ·intro a b _ h; cases h
 ·intro a h; cases h
 ·intro a h; cases h
 ·intro a h; cases h
 ·intro a h; cases h
 ·intro i _ _ c h; cases h
theorem IsRp.skip {n k j : Nat} {R : Mt} {ps : List Nat} (h : IsRp n k j R ps) (h0 : ∀ i, ps.length ≤ i → i < n → R i j = 0) : IsRp n k (j + 1) R ps :=
 ⟨h.inc, fun a ha => Nat.lt_succ_of_lt (h.lt a ha), h.len, h.one, h.col, h.left, fun i h1 h2 c hc => by
  rcases Nat.lt_or_ge c j with g | g
  ·exact h.down i h1 h2 c g
  ·obtain rfl : c = j := by omega
   exact h0 i h1 h2⟩
theorem getD_snoc_lt {ps : List Nat} {a p : Nat} (h : a < ps.length) : (ps ++ [p]).getD a 0 = ps.getD a 0 := by
 rw [List.getD_eq_getElem?_getD, List.getElem?_append_left h, List.getD_eq_getElem?_getD]
theorem getD_snoc_eq (ps : List Nat) (p : Nat) : (ps ++ [p]).getD ps.length 0 = p := by
 rw [List.getD_eq_getElem?_getD, List.getElem?_append_right (Nat.le_refl _), Nat.sub_self]; rfl
theorem IsRp.step {n k j : Nat} (hj : j < k) {R R' : Mt} {ps : List Nat} (h : IsRp n k j R ps) (hn : ps.length < n) (h1 : R' ps.length j = 1) (h2 : ∀ i, i < n → i ≠ ps.length → R' i j = 0)
  (h3 : ∀ i, i < n → ∀ c, c < j → R' i c = R i c) : IsRp n k (j + 1) R' (ps ++ [j]) := by
 have hl : (ps ++ [j]).length = ps.length + 1 := by simp
 refine ⟨fun a b hab hb => ?_, fun a ha => ?_, by omega, fun a ha => ?_, fun a ha i hi hne => ?_, fun a ha c hc => ?_, fun i g1 g2 c hc => ?_⟩
 ·rw [hl] at hb
  by_cases e : b = ps.length
  ·rw [e, getD_snoc_eq, getD_snoc_lt (by omega)]; exact h.lt a (by omega)
  ·rw [getD_snoc_lt (by omega), getD_snoc_lt (by omega)]; exact h.inc a b hab (by omega)
 ·rw [hl] at ha
  by_cases e : a = ps.length
  ·rw [e, getD_snoc_eq]; omega
  ·rw [getD_snoc_lt (by omega)]; have := h.lt a (by omega); omega
 ·rw [hl] at ha
  by_cases e : a = ps.length
  ·rw [e, getD_snoc_eq]; exact h1
  ·rw [getD_snoc_lt (by omega), h3 a (by omega) _ (h.lt a (by omega))]; exact h.one a (by omega)
 ·rw [hl] at ha
  by_cases e : a = ps.length
  ·rw [e, getD_snoc_eq]; exact h2 i hi (by omega)
  ·rw [getD_snoc_lt (by omega), h3 i hi _ (h.lt a (by omega))]; exact h.col a (by omega) i hi hne
 ·rw [hl] at ha
  by_cases e : a = ps.length
  ·rw [e, getD_snoc_eq] at hc
   rw [e, h3 _ hn c hc]; exact h.down _ (Nat.le_refl _) hn c hc
  ·rw [getD_snoc_lt (by omega)] at hc
   have := h.lt a (by omega)
   rw [h3 a (by omega) c (by omega)]; exact h.left a (by omega) c hc
 ·rw [hl] at g1
  rcases Nat.lt_or_ge c j with g | g
  ·rw [h3 i g2 c g]; exact h.down i (by omega) g2 c g
  ·obtain rfl : c = j := by omega
   exact h2 i g2 (by omega)
def Dep (n k : Nat) (M : Mt) (j : Nat) : Prop := ∃ c : Nat → Rat, Ker n k M c ∧ c j = -1 ∧ ∀ i, j < i → c i = 0
def relC (R : Mt) (ps : List Nat) (j : Nat) (i : Nat) : Rat := if i = j then -1 else if ps.contains i then R (ps.idxOf i) j else 0
theorem idx_get {ps : List Nat} {a : Nat} (hinc : ∀ a b, a < b → b < ps.length → ps.getD a 0 < ps.getD b 0) (h : a < ps.length) : ps.idxOf (ps.getD a 0) = a := by
 have hg : ∀ b, b < ps.length → ps.getD b 0 = ps[b]?.getD 0 := fun b _ => List.getD_eq_getElem?_getD ..
 have hm : ps.getD a 0 ∈ ps := by
  rw [List.getD_eq_getElem?_getD, List.getElem?_eq_getElem h]; exact List.getElem_mem h
 have h1 := List.idxOf_lt_length_iff.2 hm
 have h2 : ps.getD (ps.idxOf (ps.getD a 0)) 0 = ps.getD a 0 := by
  rw [List.getD_eq_getElem?_getD, List.getElem?_eq_getElem h1]
  exact List.getElem_idxOf h1
 rcases Nat.lt_trichotomy (ps.idxOf (ps.getD a 0)) a with g | g | g
 ·have := hinc _ _ g h; omega
 ·exact g
 ·have := hinc _ _ g h1; omega
theorem piv_ix {ps : List Nat} {i : Nat} (h : i ∈ ps) : ∃ a, a < ps.length ∧ ps.getD a 0 = i := by
 obtain ⟨a, ha, e⟩ := List.getElem_of_mem h
 exact ⟨a, ha, by rw [List.getD_eq_getElem?_getD, List.getElem?_eq_getElem ha]; exact e⟩
theorem piv_mem {ps : List Nat} {a : Nat} (h : a < ps.length) : ps.getD a 0 ∈ ps := by
 rw [List.getD_eq_getElem?_getD, List.getElem?_eq_getElem h]; exact List.getElem_mem h
theorem IsRp.sum_rel {n k j0 j : Nat} {R : Mt} {ps : List Nat} (h : IsRp n k j0 R ps) (hk : j0 ≤ k) (hj : j < k) (hnp : j ∉ ps) (i : Nat) (hi : i < ps.length) : sumQ k (fun c => R i c * relC R ps j c) = 0 := by
 have hp := h.lt i hi
 have hne : ps.getD i 0 ≠ j := fun e => hnp (e ▸ piv_mem hi)
 have key : ∀ c, c < k → R i c * relC R ps j c = (if c = j then -(R i j) else 0) + (if c = ps.getD i 0 then R i j else 0) := fun c _ => by
  unfold relC
  by_cases e1 : c = j
  ·subst e1
   rw [if_pos rfl, if_pos rfl, if_neg (Ne.symm hne)]; grind
  ·rw [if_neg e1, if_neg e1]
   by_cases e2 : c ∈ ps
   ·obtain ⟨a, ha, rfl⟩ := piv_ix e2
    rw [if_pos (by simpa using e2), idx_get h.inc ha]
    by_cases e3 : a = i
    ·subst e3
     rw [if_pos rfl, h.one a ha]; grind
    ·rw [h.col a ha i (by have := h.len; omega) (fun e => e3 e.symm)]
     have hneq : ps.getD a 0 ≠ ps.getD i 0 := fun e => by
      rcases Nat.lt_or_ge a i with g | g
      ·have := h.inc a i g hi; omega
      ·have := h.inc i a (by omega) ha; omega
     rw [if_neg hneq]; grind
   ·rw [if_neg (by simpa using e2), if_neg (fun e => e2 (by rw [e]; exact piv_mem hi))]; grind
 rw [sumQ_congr key, sumQ_add]
 rw [sumQ_one (k := j) hj (fun c _ hc => by rw [if_neg hc]), if_pos rfl, sumQ_one (k := ps.getD i 0) (by omega) (fun c _ hc => by rw [if_neg hc]), if_pos rfl]
 grind
theorem IsR.rel {n k j : Nat} {R : Mt} {ps : List Nat} (h : IsR n k R ps) (hj : j < k) (hnp : j ∉ ps) : Ker n k R (relC R ps j) := fun i hi => by
 rcases Nat.lt_or_ge i ps.length with g | g
 ·exact h.sum_rel (Nat.le_refl _) hj hnp i g
 ·exact sumQ_zero fun c hc => by rw [h.down i g hi c hc]; grind
theorem IsR.dep {n k j : Nat} {R : Mt} {ps : List Nat} (h : IsR n k R ps) (hj : j < k) : Dep n k R j ↔ j ∉ ps := by
 constructor
 ·rintro ⟨c, hc, h1, h2⟩ hm
  obtain ⟨a, ha, rfl⟩ := piv_ix hm
  have hs := hc a (by have := h.len; omega)
  rw [sumQ_one (k := ps.getD a 0) hj (fun i hi hne => ?_), h.one a ha, h1] at hs
  ·exact absurd hs (by grind)
  ·rcases Nat.lt_or_ge i (ps.getD a 0) with g | g
   ·rw [h.left a ha i g]; grind
   ·rw [h2 i (by omega)]; grind
 ·intro hnp
  refine ⟨relC R ps j, h.rel hj hnp, by unfold relC; rw [if_pos rfl], fun i hi => ?_⟩
  unfold relC
  rw [if_neg (by omega)]
  split
  ·rename_i hm
   obtain ⟨a, ha, rfl⟩ := piv_ix (show i ∈ ps by simpa using hm)
   rw [idx_get h.inc ha, h.left a ha j hi]
  ·rfl
theorem Dep.congr {n k : Nat} {A B : Mt} (h : KerEq n k A B) (j : Nat) : Dep n k A j ↔ Dep n k B j :=
 ⟨fun ⟨c, h1, h2, h3⟩ => ⟨c, (h c).1 h1, h2, h3⟩, fun ⟨c, h1, h2, h3⟩ => ⟨c, (h c).2 h1, h2, h3⟩⟩
theorem inc_ext : ∀ {l l' : List Nat}, l.Pairwise (· < ·) → l'.Pairwise (· < ·) → (∀ x, x ∈ l ↔ x ∈ l') → l = l'
 | [], [], _, _, _ => rfl
 | [], b :: l', _, _, h => by have := (h b).2 List.mem_cons_self; cases this
 | a :: l, [], _, _, h => by have := (h a).1 List.mem_cons_self; cases this
 | a :: l, b :: l', h1, h2, h => by
  rw [List.pairwise_cons] at h1 h2
  have e : a = b := by
   rcases List.mem_cons.1 ((h a).1 List.mem_cons_self) with e | g
   ·exact e
   ·rcases List.mem_cons.1 ((h b).2 List.mem_cons_self) with e | g'
    ·exact e.symm
    ·have := h2.1 a g; have := h1.1 b g'; omega
  subst e
  rw [inc_ext h1.2 h2.2 fun x => ?_]
  constructor
  ·intro hx
   have hlt := h1.1 x hx
   rcases List.mem_cons.1 ((h x).1 (List.mem_cons_of_mem _ hx)) with e | g
   ·omega
   ·exact g
  ·intro hx
   have hlt := h2.1 x hx
   rcases List.mem_cons.1 ((h x).2 (List.mem_cons_of_mem _ hx)) with e | g
   ·omega
   ·exact g
theorem inc_pw {ps : List Nat} (hinc : ∀ a b, a < b → b < ps.length → ps.getD a 0 < ps.getD b 0) : ps.Pairwise (· < ·) := by
 rw [List.pairwise_iff_getElem]
 intro i j hi hj hij
 have := hinc i j hij hj
 rwa [List.getD_eq_getElem?_getD, List.getElem?_eq_getElem hi, List.getD_eq_getElem?_getD, List.getElem?_eq_getElem hj] at this
theorem IsR.mem {n k j : Nat} {R : Mt} {ps : List Nat} (h : IsR n k R ps) : j ∈ ps ↔ j < k ∧ ¬ Dep n k R j := by
 constructor
 ·intro hm
  obtain ⟨a, ha, e⟩ := piv_ix hm
  have hj : j < k := by rw [← e]; exact h.lt a ha
  exact ⟨hj, fun hd => (h.dep hj).1 hd hm⟩
 ·rintro ⟨hj, hd⟩
  exact Classical.byContradiction fun hm => hd ((h.dep hj).2 hm)
theorem IsR.pivots {n k n' : Nat} {A B : Mt} {ps qs : List Nat} (hA : IsR n k A ps) (hB : IsR n' k B qs) (h : ∀ j, j < k → (Dep n k A j ↔ Dep n' k B j)) : ps = qs :=
 inc_ext (inc_pw hA.inc) (inc_pw hB.inc) fun x => by
  rw [hA.mem, hB.mem]
  constructor
  ·rintro ⟨h1, h2⟩; exact ⟨h1, fun g => h2 ((h x h1).2 g)⟩
  ·rintro ⟨h1, h2⟩; exact ⟨h1, fun g => h2 ((h x h1).1 g)⟩
theorem inc_ne {ps : List Nat} (hinc : ∀ a b, a < b → b < ps.length → ps.getD a 0 < ps.getD b 0) {a b : Nat} (ha : a < ps.length) (hb : b < ps.length) (h : a ≠ b) : ps.getD a 0 ≠ ps.getD b 0 := fun e => by
 rcases Nat.lt_or_ge a b with g | g
 ·have := hinc a b g hb; omega
 ·have := hinc b a (by omega) ha; omega
theorem IsR.row_sum {n k j : Nat} {R : Mt} {ps : List Nat} (h : IsR n k R ps) (hj : j < k) (hnp : j ∉ ps) {v : Nat → Rat} (h0 : ∀ c, c < k → c ≠ j → c ∉ ps → v c = 0) (h1 : v j = -1) {i : Nat} (hi : i < ps.length) :
  sumQ k (fun c => R i c * v c) = v (ps.getD i 0) - R i j := by
 have hp := h.lt i hi
 have hne : ps.getD i 0 ≠ j := fun e => hnp (e ▸ piv_mem hi)
 have key : ∀ c, c < k → R i c * v c = (if c = j then -(R i j) else 0) + (if c = ps.getD i 0 then v (ps.getD i 0) else 0) := fun c hc => by
  by_cases e1 : c = j
  ·subst e1
   rw [if_pos rfl, if_neg (Ne.symm hne), h1]; grind
  ·rw [if_neg e1]
   by_cases e2 : c ∈ ps
   ·obtain ⟨a, ha, rfl⟩ := piv_ix e2
    by_cases e3 : a = i
    ·subst e3
     rw [if_pos rfl, h.one a ha]; grind
    ·rw [h.col a ha i (by have := h.len; omega) (fun e => e3 e.symm), if_neg (inc_ne h.inc ha hi e3)]; grind
   ·rw [if_neg (fun e => e2 (by rw [e]; exact piv_mem hi)), h0 c hc e1 e2]; grind
 rw [sumQ_congr key, sumQ_add, sumQ_one (k := j) hj (fun c _ hc => by rw [if_neg hc]), if_pos rfl, sumQ_one (k := ps.getD i 0) hp (fun c _ hc => by rw [if_neg hc]), if_pos rfl]
 grind
theorem relC_at {R : Mt} {ps : List Nat} (hinc : ∀ a b, a < b → b < ps.length → ps.getD a 0 < ps.getD b 0) {j a : Nat} (hnp : j ∉ ps) (ha : a < ps.length) : relC R ps j (ps.getD a 0) = R a j := by
 unfold relC
 rw [if_neg (fun e => hnp (by rw [← e]; exact piv_mem ha)), if_pos (by simpa using piv_mem ha), idx_get hinc ha]
theorem relC_0 {R : Mt} {ps : List Nat} {j c : Nat} (h1 : c ≠ j) (h2 : c ∉ ps) : relC R ps j c = 0 := by
 unfold relC
 rw [if_neg h1, if_neg (by simpa using h2)]
theorem relC_j {R : Mt} {ps : List Nat} {j : Nat} : relC R ps j j = -1 := by unfold relC; rw [if_pos rfl]
theorem IsR.unique {n k : Nat} {A B : Mt} {ps qs : List Nat} (hA : IsR n k A ps) (hB : IsR n k B qs) (hK : KerEq n k A B) : ps = qs ∧ ∀ i, i < n → ∀ j, j < k → A i j = B i j := by
 have e := hA.pivots hB fun j _ => Dep.congr hK j
 subst e
 refine ⟨rfl, fun i hi j hj => ?_⟩
 rcases Nat.lt_or_ge i ps.length with g | g
 ·by_cases hm : j ∈ ps
  ·obtain ⟨a, ha, rfl⟩ := piv_ix hm
   by_cases e : i = a
   ·subst e; rw [hA.one i ha, hB.one i ha]
   ·rw [hA.col a ha i hi e, hB.col a ha i hi e]
  ·have h1 := (hK _).1 (hA.rel hj hm) i hi
   rw [hB.row_sum hj hm (fun c _ h1 h2 => relC_0 h1 h2) relC_j g, relC_at hA.inc hm g] at h1
   grind
 ·rw [hA.down i g hi j hj, hB.down i g hi j hj]
theorem sumQ_list {k : Nat} {ps : List Nat} (hinc : ∀ a b, a < b → b < ps.length → ps.getD a 0 < ps.getD b 0) (hlt : ∀ a, a < ps.length → ps.getD a 0 < k) (f : Nat → Rat) :
  sumQ k (fun c => if ps.contains c then f c else 0) = sumQ ps.length fun a => f (ps.getD a 0) := by
 have key : ∀ c, c < k → (if ps.contains c then f c else 0) = sumQ ps.length fun a => if c = ps.getD a 0 then f c else 0 := fun c _ => by
  by_cases hm : c ∈ ps
  ·obtain ⟨b, hb, rfl⟩ := piv_ix hm
   rw [if_pos (by simpa using hm), sumQ_one (k := b) hb (fun a ha hne => by rw [if_neg (inc_ne hinc hb ha (fun e => hne e.symm))]), if_pos rfl]
  ·rw [if_neg (by simpa using hm), sumQ_zero fun a ha => by rw [if_neg (fun e => hm (by rw [e]; exact piv_mem ha))]]
 rw [sumQ_congr key, sumQ_swap]
 exact sumQ_congr fun a ha => by
  rw [sumQ_one (k := ps.getD a 0) (hlt a ha) (fun c _ hc => by rw [if_neg hc]), if_pos rfl]
theorem IsR.explains {n k : Nat} {X R : Mt} {ps : List Nat} (h : IsR n k R ps) (hK : KerEq n k X R) {i j : Nat} (hi : i < n) (hj : j < k) : sumQ ps.length (fun a => R a j * X i (ps.getD a 0)) = X i j := by
 by_cases hm : j ∈ ps
 ·obtain ⟨b, hb, rfl⟩ := piv_ix hm
  rw [sumQ_one (k := b) hb (fun a ha hne => by rw [h.col b hb a (by have := h.len; omega) hne]; grind), h.one b hb]
  grind
 ·have h1 := (hK _).2 (h.rel hj hm) i hi
  have key : ∀ c, c < k → X i c * relC R ps j c = (if c = j then -(X i j) else 0) + (if ps.contains c then X i c * R (ps.idxOf c) j else 0) := fun c _ => by
   unfold relC
   by_cases e : c = j
   ·subst e
    rw [if_pos rfl, if_pos rfl, if_neg (by simpa using hm)]; grind
   ·rw [if_neg e, if_neg e]
    split <;> grind
  rw [sumQ_congr key, sumQ_add, sumQ_one (k := j) hj (fun c _ hc => by rw [if_neg hc]), if_pos rfl, sumQ_list h.inc h.lt (fun c => X i c * R (ps.idxOf c) j)] at h1
  have e2 : sumQ ps.length (fun a => R a j * X i (ps.getD a 0)) = sumQ ps.length fun a => X i (ps.getD a 0) * R (ps.idxOf (ps.getD a 0)) j := sumQ_congr fun a ha => by rw [idx_get h.inc ha]; grind
  rw [e2]; grind
def swapM (a b : Nat) (M : Mt) : Mt := fun i c => if i = a then M b c else if i = b then M a c else M i c
def elimM (t j : Nat) (M : Mt) : Mt := fun i c => if i = t then M t c * (1 / M t j) else M i c + M t c * (1 / M t j) * (-(M i j))
theorem gstep {n k j at_ : Nat} {M : Mt} {ps : List Nat} (h : IsRp n k j M ps) (hj : j < k) (ha : ps.length ≤ at_) (han : at_ < n) (hne : M at_ j ≠ 0) :
  IsRp n k (j + 1) (elimM ps.length j (swapM ps.length at_ M)) (ps ++ [j]) ∧ KerEq n k M (elimM ps.length j (swapM ps.length at_ M)) := by
 have hn : ps.length < n := by omega
 have hS : ∀ i, i < n → ∀ c, c < j → swapM ps.length at_ M i c = M i c := fun i hi c hc => by
  unfold swapM
  by_cases e1 : i = ps.length
  ·rw [if_pos e1, e1, h.down at_ ha han c hc, h.down _ (Nat.le_refl _) hn c hc]
  ·rw [if_neg e1]
   by_cases e2 : i = at_
   ·rw [if_pos e2, e2, h.down at_ ha han c hc, h.down _ (Nat.le_refl _) hn c hc]
   ·rw [if_neg e2]
 have ht : swapM ps.length at_ M ps.length j = M at_ j := by unfold swapM; rw [if_pos rfl]
 have hk1 : KerEq n k M (swapM ps.length at_ M) := KerEq_swap (a := ps.length) (b := at_) hn han (fun c _ => by unfold swapM; rw [if_pos rfl]) (fun c _ => by
  unfold swapM
  by_cases e : at_ = ps.length
  ·rw [if_pos e, e]
  ·rw [if_neg e, if_pos rfl]) (fun i _ h1 h2 c _ => by unfold swapM; rw [if_neg h1, if_neg h2])
 have hd : ∀ c, c < j → swapM ps.length at_ M ps.length c = 0 := fun c hc => by rw [hS _ hn c hc]; exact h.down _ (Nat.le_refl _) hn c hc
 generalize swapM ps.length at_ M = S at *
 have hs : S ps.length j ≠ 0 := by rw [ht]; exact hne
 refine ⟨h.step hj hn ?_ (fun i hi hne => ?_) (fun i hi c hc => ?_), hk1.trans (KerEq_row (t := ps.length) hn (q := 1 / S ps.length j) (fun e => ?_) (fun i => (1 / S ps.length j) * (-(S i j))) (fun c _ => ?_) fun i _ hne c _ => ?_)⟩
 ·unfold elimM; rw [if_pos rfl]; grind
 ·unfold elimM; rw [if_neg hne]; grind
 ·unfold elimM
  by_cases e : i = ps.length
  ·subst e; rw [if_pos rfl, hd c hc, h.down _ (Nat.le_refl _) hn c hc]; grind
  ·rw [if_neg e, hd c hc, hS i hi c hc]; grind
 ·have : S ps.length j * (1 / S ps.length j) = 1 := by grind
  rw [e] at this; grind
 ·unfold elimM; rw [if_pos rfl]; grind
 ·unfold elimM; rw [if_neg hne]; grind
theorem exists_rref (n k : Nat) (M : Mt) : ∃ R ps, IsR n k R ps ∧ KerEq n k M R := by
 have key : ∀ j, j ≤ k → ∃ R ps, IsRp n k j R ps ∧ KerEq n k M R := by
  intro j
  induction j with
  | zero => exact fun _ => ⟨M, [], IsRp.nil n k M, KerEq.refl _ _ _⟩
  | succ j ih =>
   intro hj
   obtain ⟨R, ps, h1, h2⟩ := ih (by omega)
   by_cases h : ∀ i, ps.length ≤ i → i < n → R i j = 0
   ·exact ⟨R, ps, h1.skip h, h2⟩
   ·obtain ⟨i, hi⟩ := Classical.not_forall.1 h
    have g1 : ps.length ≤ i := Classical.byContradiction fun g => hi fun g' => absurd g' g
    have g2 : i < n := Classical.byContradiction fun g => hi fun _ g' => absurd g' g
    have g3 : R i j ≠ 0 := fun g => hi fun _ _ => g
    obtain ⟨e1, e2⟩ := gstep h1 (by omega) g1 g2 g3
    exact ⟨_, _, e1, h2.trans e2⟩
 exact key k (Nat.le_refl k)
structure IsBp (n j i : Nat) (M : Mt) (ps : List Nat) : Prop where
 inc : ∀ a b, a < b → b < ps.length → ps.getD a 0 < ps.getD b 0
 lt : ∀ a, a < ps.length → ps.getD a 0 < j
 len : ps.length ≤ n
 le : i ≤ ps.length
 nz : ∀ a, a < ps.length → M a (ps.getD a 0) ≠ 0
 one : ∀ a, a < i → M a (ps.getD a 0) = 1
 col : ∀ a, a < i → ∀ r, r < n → r ≠ a → M r (ps.getD a 0) = 0
 low : ∀ a, a < ps.length → ∀ r, a < r → r < n → M r (ps.getD a 0) = 0
 left : ∀ a, a < ps.length → ∀ c, c < ps.getD a 0 → M a c = 0
 down : ∀ r, ps.length ≤ r → r < n → ∀ c, c < j → M r c = 0
theorem IsBp.nil (n : Nat) (M : Mt) : IsBp n 0 0 M [] := by
 refine ⟨?_, ?_, Nat.zero_le _, Nat.zero_le _, ?_, ?_, ?_, ?_, ?_, ?_⟩
 ·intro a b _ h; cases h
 ·intro a h; cases h
 ·intro a h; cases h
 ·intro a h; cases h
 ·intro a h; cases h
 ·intro a h; cases h
 ·intro a h; cases h
 ·intro i _ _ c h; cases h
theorem IsBp.skip {n j : Nat} {M : Mt} {ps : List Nat} (h : IsBp n j 0 M ps) (h0 : ∀ i, ps.length ≤ i → i < n → M i j = 0) : IsBp n (j + 1) 0 M ps :=
 ⟨h.inc, fun a ha => Nat.lt_succ_of_lt (h.lt a ha), h.len, h.le, h.nz, h.one, h.col, h.low, h.left, fun i h1 h2 c hc => by
  rcases Nat.lt_or_ge c j with g | g
  ·exact h.down i h1 h2 c g
  ·obtain rfl : c = j := by omega
   exact h0 i h1 h2⟩
theorem IsBp.full {n j k i : Nat} {M : Mt} {ps : List Nat} (h : IsBp n j i M ps) (hj : j ≤ k) (hf : n ≤ ps.length) : IsBp n k i M ps :=
 ⟨h.inc, fun a ha => Nat.lt_of_lt_of_le (h.lt a ha) hj, h.len, h.le, h.nz, h.one, h.col, h.low, h.left, fun r h1 h2 => by omega⟩
def elimD (t j s : Nat) (M : Mt) : Mt := fun i c => if t < i ∧ i < s then M i c - (M i j / M t j) * M t c else M i c
theorem elimD_0 (t j : Nat) (M : Mt) : elimD t j (t + 1) M = M := by
 funext i c; unfold elimD; rw [if_neg (by omega)]
theorem elimD_at {t j s : Nat} {M : Mt} {i : Nat} (h : ¬ (t < i ∧ i < s)) : elimD t j s M i = M i := by
 funext c; unfold elimD; rw [if_neg h]
theorem elimD_next {t j s : Nat} {M : Mt} (h : t < s) (c : Nat) : elimD t j (s + 1) M s c = M s c - (M s j / M t j) * M t c := by
 unfold elimD; rw [if_pos ⟨h, by omega⟩]
theorem estep {n k j at_ : Nat} {M : Mt} {ps : List Nat} (h : IsBp n j 0 M ps) (hj : j < k) (ha : ps.length ≤ at_) (han : at_ < n) (hne : M at_ j ≠ 0) :
  IsBp n (j + 1) 0 (elimD ps.length j n (swapM ps.length at_ M)) (ps ++ [j]) ∧ KerEq n k M (elimD ps.length j n (swapM ps.length at_ M)) := by
 have hn : ps.length < n := by omega
 have hS : ∀ i, i < n → ∀ c, c < j → swapM ps.length at_ M i c = M i c := fun i hi c hc => by
  unfold swapM
  by_cases e1 : i = ps.length
  ·rw [if_pos e1, e1, h.down at_ ha han c hc, h.down _ (Nat.le_refl _) hn c hc]
  ·rw [if_neg e1]
   by_cases e2 : i = at_
   ·rw [if_pos e2, e2, h.down at_ ha han c hc, h.down _ (Nat.le_refl _) hn c hc]
   ·rw [if_neg e2]
 have hS2 : ∀ i, i < ps.length → swapM ps.length at_ M i = M i := fun i hi => by
  funext c; unfold swapM; rw [if_neg (by omega), if_neg (by omega)]
 have ht : swapM ps.length at_ M ps.length j = M at_ j := by unfold swapM; rw [if_pos rfl]
 have hk1 : KerEq n k M (swapM ps.length at_ M) := KerEq_swap (a := ps.length) (b := at_) hn han (fun c _ => by unfold swapM; rw [if_pos rfl]) (fun c _ => by
  unfold swapM
  by_cases e : at_ = ps.length
  ·rw [if_pos e, e]
  ·rw [if_neg e, if_pos rfl]) (fun i _ h1 h2 c _ => by unfold swapM; rw [if_neg h1, if_neg h2])
 have hd : ∀ c, c < j → swapM ps.length at_ M ps.length c = 0 := fun c hc => by rw [hS _ hn c hc]; exact h.down _ (Nat.le_refl _) hn c hc
 generalize swapM ps.length at_ M = S at *
 have hs : S ps.length j ≠ 0 := by rw [ht]; exact hne
 have hl : (ps ++ [j]).length = ps.length + 1 := by simp
 have hE : ∀ i, i < n → ∀ c, c < j → elimD ps.length j n S i c = M i c := fun i hi c hc => by
  unfold elimD
  split
  ·rw [hd c hc, hS i hi c hc]; grind
  ·exact hS i hi c hc
 have hE2 : ∀ i, i ≤ ps.length → elimD ps.length j n S i = S i := fun i hi => elimD_at (by omega)
 have hE3 : ∀ i, ps.length < i → i < n → elimD ps.length j n S i j = 0 := fun i h1 h2 => by
  unfold elimD; rw [if_pos ⟨h1, h2⟩]; grind
 refine ⟨⟨fun a b hab hb => ?_, fun a ha => ?_, by omega, Nat.zero_le _, fun a ha => ?_, fun a ha => absurd ha (Nat.not_lt_zero _), fun a ha => absurd ha (Nat.not_lt_zero _), fun a ha r h1 h2 => ?_, fun a ha c hc => ?_, fun r h1 h2 c hc => ?_⟩,
  hk1.trans (KerEq_row (t := ps.length) hn (q := 1) (by decide) (fun i => if ps.length < i ∧ i < n then -(S i j / S ps.length j) else 0) (fun c _ => ?_) fun i hi hne c _ => ?_)⟩
 ·rw [hl] at hb
  by_cases e : b = ps.length
  ·rw [e, getD_snoc_eq, getD_snoc_lt (by omega)]; exact h.lt a (by omega)
  ·rw [getD_snoc_lt (by omega), getD_snoc_lt (by omega)]; exact h.inc a b hab (by omega)
 ·rw [hl] at ha
  by_cases e : a = ps.length
  ·rw [e, getD_snoc_eq]; omega
  ·rw [getD_snoc_lt (by omega)]; have := h.lt a (by omega); omega
 ·rw [hl] at ha
  by_cases e : a = ps.length
  ·rw [e, getD_snoc_eq, hE2 _ (Nat.le_refl _)]; exact hs
  ·rw [getD_snoc_lt (by omega), hE a (by omega) _ (h.lt a (by omega))]; exact h.nz a (by omega)
 ·rw [hl] at ha
  by_cases e : a = ps.length
  ·rw [e, getD_snoc_eq]; exact hE3 r (by omega) h2
  ·rw [getD_snoc_lt (by omega), hE r h2 _ (h.lt a (by omega))]; exact h.low a (by omega) r h1 h2
 ·rw [hl] at ha
  by_cases e : a = ps.length
  ·rw [e, getD_snoc_eq] at hc
   rw [e, hE _ hn c hc]; exact h.down _ (Nat.le_refl _) hn c hc
  ·rw [getD_snoc_lt (by omega)] at hc
   have := h.lt a (by omega)
   rw [hE a (by omega) c (by omega)]; exact h.left a (by omega) c hc
 ·rw [hl] at h1
  rcases Nat.lt_or_ge c j with g | g
  ·rw [hE r h2 c g]; exact h.down r (by omega) h2 c g
  ·obtain rfl : c = j := by omega
   exact hE3 r (by omega) h2
 ·rw [hE2 _ (Nat.le_refl _)]; grind
 ·unfold elimD
  by_cases e : ps.length < i ∧ i < n
  ·rw [if_pos e, if_pos e]; grind
  ·rw [if_neg e, if_neg e]; grind
def sclM (t j : Nat) (M : Mt) : Mt := fun i c => if i = t then M t c / M t j else M i c
def elimU (t j s : Nat) (M : Mt) : Mt := fun i c => if i < s then M i c - (M i j / M t j) * M t c else M i c
theorem elimU_0 (t j : Nat) (M : Mt) : elimU t j 0 M = M := by
 funext i c; unfold elimU; rw [if_neg (by omega)]
theorem elimU_at {t j s : Nat} {M : Mt} {i : Nat} (h : s ≤ i) : elimU t j s M i = M i := by
 funext c; unfold elimU; rw [if_neg (by omega)]
theorem bstep {n k j i : Nat} {M : Mt} {ps : List Nat} (h : IsBp n j i M ps) (hi : i < ps.length) :
  IsBp n j (i + 1) (elimU i (ps.getD i 0) i (sclM i (ps.getD i 0) M)) ps ∧ KerEq n k M (elimU i (ps.getD i 0) i (sclM i (ps.getD i 0) M)) := by
 have hn := h.len
 have hin : i < n := by omega
 have hnz := h.nz i hi
 obtain ⟨p, hp⟩ : ∃ p, p = ps.getD i 0 := ⟨_, rfl⟩
 rw [← hp] at hnz ⊢
 have hS1 : sclM i p M i p = 1 := by unfold sclM; rw [if_pos rfl]; grind
 have hSn : ∀ r, r ≠ i → sclM i p M r = M r := fun r hr => by funext c; unfold sclM; rw [if_neg hr]
 have hS0 : ∀ r c, M r c = 0 → sclM i p M r c = 0 := fun r c h0 => by
  unfold sclM
  by_cases e : r = i
  ·subst e; rw [if_pos rfl, h0]; grind
  ·rw [if_neg e]; exact h0
 have hl : ∀ c, c < p → sclM i p M i c = 0 := fun c hc => hS0 _ _ (h.left i hi c (hp ▸ hc))
 have hkS : KerEq n k M (sclM i p M) := KerEq_row (t := i) hin (q := 1 / M i p) (fun e => by
   have : M i p * (1 / M i p) = 1 := by grind
   rw [e] at this; grind) (fun _ => 0) (fun c _ => by unfold sclM; rw [if_pos rfl]; grind) fun r _ hne c _ => by rw [hSn r hne]; grind
 have hMS : ∀ r, r ≠ i → ∀ c, sclM i p M r c = M r c := fun r hr c => by rw [hSn r hr]
 have hSa : ∀ a, a < ps.length → sclM i p M a (ps.getD a 0) ≠ 0 := fun a ha => by
  by_cases e : a = i
  ·subst e; rw [← hp, hS1]; decide
  ·rw [hMS a e]; exact h.nz a ha
 generalize hSS : sclM i p M = S at *
 have hE : ∀ r c, c < p → elimU i p i S r c = S r c := fun r c hc => by
  unfold elimU
  split
  ·rw [hl c hc]; grind
  ·rfl
 have hE2 : ∀ r, i ≤ r → elimU i p i S r = S r := fun r hr => elimU_at hr
 have hE3 : ∀ r, r < i → elimU i p i S r p = 0 := fun r hr => by unfold elimU; rw [if_pos hr, hS1]; grind
 have plt : ∀ a, a < i → ps.getD a 0 < p := fun a ha => hp ▸ h.inc a i ha hi
 refine ⟨⟨h.inc, h.lt, h.len, hi, fun a ha => ?_, fun a ha => ?_, fun a ha r hr hne => ?_, fun a ha r h1 h2 => ?_, fun a ha c hc => ?_, fun r h1 h2 c hc => ?_⟩, hkS.trans (KerEq_row (t := i) hin (q := 1) (by decide) (fun r => if r < i then -(S r p / S i p) else 0) (fun c _ => ?_) fun r hr hne c _ => ?_)⟩
 ·rcases Nat.lt_or_ge a i with g | g
  ·rw [hE _ _ (plt a g)]; exact hSa a ha
  ·rw [hE2 a g]; exact hSa a ha
 ·by_cases e : a = i
  ·subst e; rw [hE2 a (Nat.le_refl _), ← hp, hS1]
  ·rw [hE _ _ (plt a (by omega)), hMS a e]; exact h.one a (by omega)
 ·by_cases e : a = i
  ·subst e
   rw [← hp]
   rcases Nat.lt_or_ge r a with g | g
   ·exact hE3 r g
   ·rw [hE2 r g]; exact hS0 _ _ (hp ▸ h.low a hi r (by omega) hr)
  ·rw [hE _ _ (plt a (by omega))]; exact hS0 _ _ (h.col a (by omega) r hr hne)
 ·rcases Nat.lt_or_ge r i with g | g
  ·rw [hE _ _ (plt a (by omega))]; exact hS0 _ _ (h.low a ha r h1 h2)
  ·rw [hE2 r g]; exact hS0 _ _ (h.low a ha r h1 h2)
 ·rcases Nat.lt_or_ge a i with g | g
  ·rw [hE _ _ (by have := plt a g; omega)]; exact hS0 _ _ (h.left a ha c hc)
  ·rw [hE2 a g]; exact hS0 _ _ (h.left a ha c hc)
 ·rw [hE2 r (by omega)]; exact hS0 _ _ (h.down r h1 h2 c hc)
 ·rw [hE2 i (Nat.le_refl _)]; grind
 ·unfold elimU
  by_cases e : r < i
  ·rw [if_pos e, if_pos e]; grind
  ·rw [if_neg e, if_neg e]; grind
theorem IsBp.isR {n k : Nat} {M : Mt} {ps : List Nat} (h : IsBp n k ps.length M ps) : IsR n k M ps := ⟨h.inc, h.lt, h.len, h.one, h.col, h.left, h.down⟩
noncomputable def rrM (n k : Nat) (M : Mt) : Mt := (exists_rref n k M).choose
noncomputable def rrP (n k : Nat) (M : Mt) : List Nat := (exists_rref n k M).choose_spec.choose
theorem rr_is (n k : Nat) (M : Mt) : IsR n k (rrM n k M) (rrP n k M) ∧ KerEq n k M (rrM n k M) := (exists_rref n k M).choose_spec.choose_spec
theorem rr_eq {n k : Nat} {M R : Mt} {ps : List Nat} (h : IsR n k R ps) (hk : KerEq n k M R) : ps = rrP n k M ∧ ∀ i, i < n → ∀ j, j < k → R i j = rrM n k M i j :=
 h.unique (rr_is n k M).1 (hk.symm.trans (rr_is n k M).2)
end Nat32
namespace Nat32
open Go Go.Dat
def part (a z : DV) (i k : Nat) : List DV := List.replicate i a ++ List.replicate (k - i) z
abbrev Bs := List UInt8
def fl (ps : List Bs) : List Bs := ps.filter fun p => decide (p ≠ [])
end Nat32
namespace Nat32
open Go Go.Dat Go.RowKit Go.ChangeShapes Go.WideShapes Go.Joins Go.Deep
section
variable {H : Type} {enc : TypeId × Value → H} {P : Program} {w : World} {base : Nat} {spare : Nat → Bool} {held : Bool}
theorem cells1 {a : Addr} {cs : List Value} (h : w.cells? base a 1 = some cs) : ∃ v, cs = [v] ∧ w.cell? a = some v := by
 obtain ⟨h1, h2, h3⟩ := World.cells?_some h
 match cs, h2 with
 | [v], _ =>
  have := h3 0 (by omega)
  exact ⟨v, rfl, by simpa [Addr.add] using this⟩
theorem vi_slice {α : Type} (f : α → DV) (p : α → Prop) {t e : TypeId} (ht : P.underlying t = some (.slice e)) (hc : P.cellsOf e = 1)
  (hel : ∀ n u y, DataW.trod enc P w base spare held n e [u] = some y → ∃ a : α, p a ∧ VI w (fun _ => False) (f a) u) {n : Nat} {u : Value} {y : DataW H × List MemPlace}
  (h : DataW.trod enc P w base spare held n t [u] = some y) : ∃ zs : List α, (∀ a ∈ zs, p a) ∧ zs.length ≤ 9223372036854775807 ∧ VI w (fun _ => False) (.sl 1 (zs.map f)) u := by
 rcases DataW.trod_slice ht h with ⟨h0, _⟩ | ⟨a, len, cap, elems, rest, m, _, h0, _, hb, hl, hm, hlen, hcells, _, _⟩
 ·simp only [List.cons.injEq, and_true] at h0
  subst h0
  exact ⟨[], (fun a h => by cases h), Nat.zero_le _, .sl0 _ _ _⟩
 ·simp only [List.cons.injEq, and_true] at h0
  subst h0
  have each : ∀ i, i < len → ∃ (x : α) (v : Value), p x ∧ w.cell? (a.add i) = some v ∧ VI w (fun _ => False) (f x) v := fun i hi => by
   have h1 := hcells i hi
   rw [hc, Nat.mul_one] at h1
   obtain ⟨z, hz⟩ : ∃ z, elems[i]? = some z := ⟨_, List.getElem?_eq_getElem (by omega)⟩
   rw [hz, Option.bind_eq_some_iff] at h1
   obtain ⟨cs, h2, h3⟩ := h1
   obtain ⟨v, rfl, hv⟩ := cells1 h2
   obtain ⟨x, hx, hvi⟩ := hel _ _ _ h3
   exact ⟨x, v, hx, hv, hvi⟩
  have hk : ∀ n, n ≤ len → ∃ zs : List α, zs.length = n ∧ (∀ x ∈ zs, p x) ∧ ∀ (k : Nat) x, zs[k]? = some x → ∃ v, w.cell? (a.add k) = some v ∧ VI w (fun _ => False) (f x) v := by
   intro n
   induction n with
   | zero => intro _; exact ⟨[], rfl, (fun a h => by cases h), fun k x h => by simp at h⟩
   | succ n ih =>
    intro hn
    obtain ⟨zs, h1, h2, h3⟩ := ih (by omega)
    obtain ⟨x, v, hx, hv, hvi⟩ := each n (by omega)
    refine ⟨zs ++ [x], by simp [h1], fun y hy => ?_, fun k y hy => ?_⟩
    ·rcases List.mem_append.1 hy with h | h
     ·exact h2 y h
     ·rw [List.mem_singleton.1 h]; exact hx
    ·rw [List.getElem?_append] at hy
     split at hy
     ·exact h3 k y hy
     ·rename_i hge
      have hkn : k = n := by
       rcases Nat.lt_or_ge (k - zs.length) 1 with h | h
       ·omega
       ·rw [List.getElem?_eq_none (by simpa using h)] at hy; cases hy
      subst hkn
      rw [h1, Nat.sub_self] at hy
      cases hy
      exact ⟨v, hv, hvi⟩
  obtain ⟨zs, h1, h2, h3⟩ := hk len (Nat.le_refl _)
  refine ⟨zs, h2, by unfold maxLen at hm; omega, ?_⟩
  by_cases h0 : len = 0
  ·have : zs = [] := List.eq_nil_of_length_eq_zero (by omega)
   subst this
   subst h0
   exact .sl0 _ _ _
  ·obtain ⟨vs, hvs⟩ : ∃ vs : Nat → Value, ∀ k, k < len → w.cell? (a.add k) = some (vs k) := ⟨fun k => (w.cell? (a.add k)).getD undef, fun k hk2 => by
    obtain ⟨_, v, _, hv, _⟩ := each k hk2
    simp [hv]⟩
   refine .sl vs (fun e => ?_) (by rw [List.length_map, h1, Nat.mul_one]) hl (fun h => h) (fun k d hk2 => ?_) (fun k d hk2 => ?_)
   ·have := congrArg List.length e
    rw [List.length_map, h1] at this
    exact h0 (by simpa using this)
   ·have hlt := (List.getElem?_eq_some_iff.1 hk2).1
    rw [List.length_map, h1] at hlt
    exact hvs k hlt
   ·rw [List.getElem?_map, Option.map_eq_some_iff] at hk2
    obtain ⟨x, hx, rfl⟩ := hk2
    obtain ⟨v, hv, hvi⟩ := h3 k x hx
    have hlt := (List.getElem?_eq_some_iff.1 hx).1
    have := hvs k (by omega)
    rw [hv] at this
    cases this
    exact hvi
end
end Nat32
namespace Nat32
open Go Go.Dat
def ixS : List Bs → Bs → Int
 | [], _ => -1
 | x :: l, s => if x = s then 0 else if ixS l s < 0 then -1 else ixS l s + 1
section
variable {α : Type} {f : α → List DV} {n : Nat}
theorem fm_len (hf : ∀ a, (f a).length = n) : ∀ l : List α, (l.flatMap f).length = l.length * n
 | [] => by simp
 | a :: l => by rw [List.flatMap_cons, List.length_append, hf, fm_len hf l, List.length_cons, Nat.succ_mul, Nat.add_comm]
theorem fm_drop (hf : ∀ a, (f a).length = n) : ∀ (l : List α) (i : Nat), (l.flatMap f).drop (i * n) = (l.drop i).flatMap f
 | l, 0 => by simp
 | [], i + 1 => by simp
 | a :: l, i + 1 => by
  have e : (f a ++ l.flatMap f).drop n = l.flatMap f := by rw [← hf a, List.drop_left]
  rw [List.flatMap_cons, List.drop_succ_cons, ← fm_drop hf l i, Nat.succ_mul, Nat.add_comm, ← List.drop_drop, e]
theorem fm_take (hf : ∀ a, (f a).length = n) : ∀ (l : List α) (i : Nat), (l.flatMap f).take (i * n) = (l.take i).flatMap f
 | l, 0 => by simp
 | [], i + 1 => by simp
 | a :: l, i + 1 => by
  rw [List.flatMap_cons, List.take_succ_cons, List.flatMap_cons, ← fm_take hf l i, Nat.succ_mul, List.take_append, hf]
  rw [List.take_of_length_le (by rw [hf]; omega), Nat.add_sub_cancel]
theorem fm_win (hf : ∀ a, (f a).length = n) (d : α) {l : List α} {i j k : Nat} (h : i < l.length) (hk : j + k ≤ n) : ((l.flatMap f).drop (i * n + j)).take k = ((f (l.getD i d)).drop j).take k := by
 rw [← List.drop_drop, fm_drop hf, List.drop_eq_getElem_cons h, List.flatMap_cons, List.drop_append, List.take_append]
 have e : l.getD i d = l[i] := by rw [List.getD_eq_getElem?_getD, List.getElem?_eq_getElem h]; rfl
 rw [e, List.length_drop, hf, show k - (n - j) = 0 by omega, List.take_zero, List.append_nil]
theorem fm_rf (hf : ∀ a, ∀ d ∈ f a, d.rf = true) (l : List α) : ∀ d ∈ l.flatMap f, d.rf = true := by
 intro d hd
 obtain ⟨a, _, h⟩ := List.mem_flatMap.1 hd
 exact hf a d h
theorem fm_one (hf : ∀ a, ∀ d ∈ f a, d.one = true) (l : List α) : ∀ d ∈ l.flatMap f, d.one = true := by
 intro d hd
 obtain ⟨a, _, h⟩ := List.mem_flatMap.1 hd
 exact hf a d h
theorem fm_snoc (l : List α) (a : α) : l.flatMap f ++ f a = (l ++ [a]).flatMap f := by simp
end
abbrev XN := Bool × List Nat × List Nat
def xnC (x : XN) : List DV := [.bool x.1, .sl 1 (us x.2.1), .sl 1 (us x.2.2)]
def qX (r : Rat) : XN := (decide (r.num < 0), limbs r.num.natAbs, dn r.den)
structure Fx where
 nm : Bs
 kd : Int
 ms : List Bs
 un : XN
deriving Inhabited
structure Tc where
 mi : Bool
 va : XN
 lv : Int
deriving Inhabited
structure Kx where
 nm : Bs
 kd : Int
 le : List Bs
 ce : List Tc
deriving Inhabited
end Nat32
namespace Nat32
open Go Go.Dat
section
variable {α : Type} (p : α → Bool)
def ixP : List α → Int
 | [] => -1
 | x :: l => if p x then 0 else if ixP l < 0 then -1 else ixP l + 1
theorem ixP_bd : ∀ l : List α, -1 ≤ ixP p l ∧ ixP p l < l.length
 | [] => by simp [ixP]
 | x :: l => by
  have := ixP_bd l
  simp only [ixP, List.length_cons]
  split
  ·omega
  ·split <;> omega
theorem ixP_any : ∀ l : List α, decide (0 ≤ ixP p l) = l.any p
 | [] => rfl
 | x :: l => by
  have h1 := ixP_any l
  have h2 := ixP_bd p l
  rw [List.any_cons, ← h1]
  have e : ixP p (x :: l) = if p x = true then 0 else if ixP p l < 0 then -1 else ixP p l + 1 := rfl
  by_cases hp : p x = true
  ·rw [if_pos hp] at e
   rw [hp, e]; rfl
  ·rw [if_neg hp] at e
   rw [Bool.eq_false_iff.2 hp, Bool.false_or]
   refine decide_eq_decide.2 ?_
   rw [e]
   split <;> omega
variable {p} (d : α)
theorem ixP_at : ∀ {l : List α} {i : Nat}, i < l.length → p (l.getD i d) = true → (∀ j, j < i → p (l.getD j d) = false) → ixP p l = i
 | [], i, h, _, _ => absurd h (Nat.not_lt_zero _)
 | x :: l, 0, _, h1, _ => by
  have : p x = true := h1
  simp only [ixP]; rw [if_pos this]; rfl
 | x :: l, i + 1, h, h1, h2 => by
  have h3 := ixP_at (l := l) (i := i) (by simp at h; omega) h1 fun j hj => h2 (j + 1) (by omega)
  have h4 : p x = false := h2 0 (by omega)
  simp only [ixP]
  rw [h4, if_neg (by decide), h3, if_neg (by omega)]; omega
theorem ixP_no : ∀ {l : List α}, (∀ j, j < l.length → p (l.getD j d) = false) → ixP p l = -1
 | [], _ => rfl
 | x :: l, h => by
  have h3 := ixP_no (l := l) fun j hj => h (j + 1) (by simp; omega)
  have h4 : p x = false := h 0 (by simp)
  simp only [ixP]
  rw [h4, if_neg (by decide), h3]; rfl
end
theorem memG {α : Type} [Inhabited α] {l : List α} {i : Nat} (h : i < l.length) : l.getD i default ∈ l := by
 rw [List.getD_eq_getElem?_getD, List.getElem?_eq_getElem h]; exact List.getElem_mem h
def xnV (x : XN) : Rat := rv x.1 x.2.1 x.2.2
end Nat32
namespace Nat32
open Go Go.Dat
variable (pq : Bs → Option Rat)
noncomputable def readR (f : Fx) (lv : List Bs) (ce : List Tc) (s : Bs) : Int × List Bs × List Tc :=
 if 0 ≤ ixS f.ms s then (0, lv, ce ++ [⟨true, (false, [], []), 0⟩])
 else if f.kd = 1 then match pq s with
  | none => (4, lv, ce)
  | some x => (0, lv, ce ++ [⟨false, qX (x * xnV f.un), 0⟩])
 else if ixS lv s < 0 then
  if lv.length = 32 then (2, lv, ce) else (0, lv ++ [s], ce ++ [⟨false, (false, [], []), lv.length⟩])
 else (0, lv, ce ++ [⟨false, (false, [], []), ixS lv s⟩])
end Nat32
namespace Nat32
open Go Go.Dat
variable (pq : Bs → Option Rat)
abbrev Tx := List Bs × List Tc
noncomputable def colStep (f : Fx) (s : Bs) (x : Tx) : Int × Tx := if f.kd = 3 then (0, x) else ((readR pq f x.1 x.2 s).1, (readR pq f x.1 x.2 s).2)
noncomputable def rowR (fs : List Fx) (r : List Bs) (T : List Tx) : Nat → Int × List Tx
 | 0 => (0, T)
 | k + 1 => if (rowR fs r T k).1 ≠ 0 then rowR fs r T k else
  ((colStep pq (fs.getD k default) (r.getD k []) ((rowR fs r T k).2.getD k default)).1, (rowR fs r T k).2.set k (colStep pq (fs.getD k default) (r.getD k []) ((rowR fs r T k).2.getD k default)).2)
noncomputable def recR (fs : List Fx) (recs : List (List Bs)) : Nat → (Int × Int) × List Tx
 | 0 => ((0, 0), fs.map fun _ => ([], []))
 | i + 1 => if (recR fs recs i).1.2 ≠ 0 then recR fs recs i else
  if (recs.getD i []).length ≠ fs.length then (((i + 1 : Nat), 6), (recR fs recs i).2) else
  if (rowR pq fs (recs.getD i []) (recR fs recs i).2 fs.length).1 ≠ 0 then (((i + 1 : Nat), (rowR pq fs (recs.getD i []) (recR fs recs i).2 fs.length).1), (recR fs recs i).2) else
  ((0, 0), (rowR pq fs (recs.getD i []) (recR fs recs i).2 fs.length).2)
end Nat32
namespace Nat32
open Go Go.Dat
theorem getD_set_ne {S : List Kx} {k j : Nat} (x : Kx) (h : j ≠ k) : (S.set k x).getD j default = S.getD j default := by
 rw [List.getD_eq_getElem?_getD, List.getElem?_set_ne (Ne.symm h), ← List.getD_eq_getElem?_getD]
theorem take_snocD {α : Type} (d : α) {l : List α} {i : Nat} (h : i < l.length) : l.take (i + 1) = l.take i ++ [l.getD i d] := by
 rw [List.take_add_one, List.getElem?_eq_getElem h, List.getD_eq_getElem?_getD, List.getElem?_eq_getElem h]; rfl
theorem drop_consD {α : Type} (d : α) {l : List α} {i : Nat} (h : i < l.length) : l.drop i = l.getD i d :: l.drop (i + 1) := by
 rw [List.drop_eq_getElem_cons h, List.getD_eq_getElem?_getD, List.getElem?_eq_getElem h]; rfl
theorem fm_set {α : Type} {f : α → List DV} {n : Nat} (hf : ∀ a, (f a).length = n) {l : List α} {i : Nat} (x : α) (h : i < l.length) : (l.flatMap f).take (i * n) ++ f x ++ (l.flatMap f).drop (i * n + n) = (l.set i x).flatMap f := by
 have e : i * n + n = (i + 1) * n := by rw [Nat.succ_mul]
 rw [fm_take hf, e, fm_drop hf, List.set_eq_take_append_cons_drop, if_pos h, List.flatMap_append, List.flatMap_cons, List.append_assoc]
def filI {α : Type} (p : α → Bool) (S : List α) (i j : Nat) (A : List α) : Prop := A.length = S.length ∧ i < j ∧ j ≤ S.length ∧ A.take i = (S.take j).filter (fun x => !p x) ∧ A.drop j = S.drop j
section
variable {α : Type} {p : α → Bool} {S A : List α} {i j : Nat} (d : α)
theorem filI_get (h : filI p S i j A) (hj : j < S.length) : A.getD j d = S.getD j d := by
 have h5 := h.2.2.2.2
 rw [drop_consD d (by rw [h.1]; exact hj), drop_consD d hj] at h5
 exact (List.cons.inj h5).1
theorem filI_keep (h : filI p S i j A) (hj : j < S.length) (hp : p (S.getD j d) = false) : filI p S (i + 1) (j + 1) (A.set i (S.getD j d)) := by
 obtain ⟨h1, h2, h3, h4, h5⟩ := h
 refine ⟨by rw [List.length_set, h1], by omega, by omega, ?_, ?_⟩
 ·rw [take_snocD d (by rw [List.length_set]; omega), List.take_set_of_le (Nat.le_refl i), h4, take_snocD d hj, List.filter_append]
  have : (A.set i (S.getD j d)).getD i d = S.getD j d := by
   rw [List.getD_eq_getElem?_getD, List.getElem?_set_self (by omega)]; rfl
  rw [this, List.filter_cons, hp]; rfl
 ·rw [List.drop_set_of_lt (by omega)]
  rw [drop_consD d (by rw [h1]; exact hj), drop_consD d hj] at h5
  exact (List.cons.inj h5).2
theorem filI_skip (h : filI p S i j A) (hj : j < S.length) (hp : p (S.getD j d) = true) : filI p S i (j + 1) A := by
 obtain ⟨h1, h2, h3, h4, h5⟩ := h
 refine ⟨h1, by omega, by omega, ?_, ?_⟩
 ·rw [h4, take_snocD d hj, List.filter_append, List.filter_cons, hp]; simp
 ·rw [drop_consD d (by rw [h1]; exact hj), drop_consD d hj] at h5
  exact (List.cons.inj h5).2
theorem filI_end (h : filI p S i S.length A) : A.take i = S.filter (fun x => !p x) := by
 rw [h.2.2.2.1, List.take_length]
end
section
variable {α : Type} (p : α → Bool)
theorem ixP_neg : ∀ {l : List α}, ixP p l = -1 → l.filter (fun x => !p x) = l
 | [], _ => rfl
 | x :: l, h => by
  have hb := ixP_bd p l
  simp only [ixP] at h
  split at h
  ·omega
  ·rename_i hp
   split at h
   ·have := ixP_neg (l := l) (by omega)
    rw [List.filter_cons, if_pos (by simpa using hp), this]
   ·omega
theorem ixP_pos (d : α) : ∀ {l : List α} {k : Nat}, ixP p l = k → k < l.length ∧ p (l.getD k d) = true ∧ (l.take k).filter (fun x => !p x) = l.take k
 | [], k, h => by simp [ixP] at h
 | x :: l, k, h => by
  simp only [ixP] at h
  split at h
  ·rename_i hp
   obtain rfl : k = 0 := by omega
   exact ⟨by simp, hp, rfl⟩
  ·rename_i hp
   split at h
   ·omega
   ·match k with
    | 0 => omega
    | k + 1 =>
     obtain ⟨h1, h2, h3⟩ := ixP_pos d (l := l) (k := k) (by omega)
     refine ⟨by simp; omega, h2, ?_⟩
     rw [List.take_succ_cons, List.filter_cons, if_pos (by simpa using hp), h3]
theorem filI_zero (d : α) {l : List α} {k : Nat} (h : ixP p l = k) : filI p l k (k + 1) l := by
 obtain ⟨h1, h2, h3⟩ := ixP_pos p d h
 refine ⟨rfl, by omega, by omega, ?_, rfl⟩
 rw [take_snocD d h1, List.filter_append, h3, List.filter_cons, h2]; simp
end
end Nat32
namespace Nat32
open Go Go.Dat
def numC (r : Rat) : List DV := xnC (qX r)
theorem numC_len (r : Rat) : (numC r).length = 3 := rfl
theorem numC_rf (r : Rat) : ∀ d ∈ numC r, d.rf = true := by
 intro d hd
 simp only [numC, xnC, List.mem_cons, List.not_mem_nil, or_false] at hd
 rcases hd with rfl | rfl | rfl <;> rfl
theorem numC_one (r : Rat) : ∀ d ∈ numC r, d.one = true := by
 intro d hd
 simp only [numC, xnC, List.mem_cons, List.not_mem_nil, or_false] at hd
 rcases hd with rfl | rfl | rfl <;> rfl
def nums (l : List Rat) : List DV := l.flatMap numC
theorem nums_len (l : List Rat) : (nums l).length = l.length * 3 := fm_len numC_len l
theorem nums_rf (l : List Rat) : ∀ d ∈ nums l, d.rf = true := fm_rf numC_rf l
theorem nums_snoc (l : List Rat) (r : Rat) : nums l ++ numC r = nums (l ++ [r]) := fm_snoc l r
def rwL (k : Nat) (f : Nat → Rat) : List Rat := (List.range k).map f
theorem rwL_len (k : Nat) (f : Nat → Rat) : (rwL k f).length = k := by unfold rwL; rw [List.length_map, List.length_range]
theorem rwL_get {k j : Nat} (h : j < k) (f : Nat → Rat) (d : Rat) : (rwL k f).getD j d = f j := by
 unfold rwL; rw [List.getD_eq_getElem?_getD, List.getElem?_map, List.getElem?_range h]; rfl
theorem rwL_congr {k : Nat} {f g : Nat → Rat} (h : ∀ j, j < k → f j = g j) : rwL k f = rwL k g :=
 List.map_congr_left fun j hj => h j (List.mem_range.1 hj)
theorem rwL_succ (k : Nat) (f : Nat → Rat) : rwL (k + 1) f = rwL k f ++ [f k] := by
 unfold rwL; rw [List.range_succ, List.map_append]; rfl
def rwC (k : Nat) (f : Nat → Rat) : List DV := nums (rwL k f)
theorem rwC_len (k : Nat) (f : Nat → Rat) : (rwC k f).length = k * 3 := by unfold rwC; rw [nums_len, rwL_len]
theorem rwC_rf (k : Nat) (f : Nat → Rat) : ∀ d ∈ rwC k f, d.rf = true := nums_rf _
theorem rwC_congr {k : Nat} {f g : Nat → Rat} (h : ∀ j, j < k → f j = g j) : rwC k f = rwC k g := congrArg nums (rwL_congr h)
theorem rwC_win {k j : Nat} (h : j < k) (f : Nat → Rat) : ((rwC k f).drop (j * 3)).take 3 = numC (f j) := by
 have := fm_win (j := 0) (k := 3) numC_len (0 : Rat) (l := rwL k f) (i := j) (by rw [rwL_len]; exact h) (Nat.le_refl _)
 rw [rwL_get h] at this
 exact this
theorem rwC_set {k j : Nat} (h : j < k) (f : Nat → Rat) (q : Rat) : (rwC k f).take (j * 3) ++ numC q ++ (rwC k f).drop (j * 3 + 3) = rwC k fun c => if c = j then q else f c := by
 unfold rwC nums
 rw [fm_set numC_len q (by rw [rwL_len]; exact h)]
 congr 1
 apply List.ext_getElem?
 intro c
 unfold rwL
 rw [List.getElem?_set, List.length_map, List.length_range, List.getElem?_map, List.getElem?_map]
 by_cases e : j = c
 ·subst e; rw [if_pos rfl, if_pos h, List.getElem?_range h, Option.map_some, if_pos rfl]
 ·rw [if_neg e]
  by_cases hc : c < k
  ·rw [List.getElem?_range hc, Option.map_some, Option.map_some, if_neg (Ne.symm e)]
  ·rw [List.getElem?_eq_none (by rw [List.length_range]; omega)]; rfl
theorem Q_zero : numC 0 = [.bool false, .sl 1 [], .sl 1 []] := by
 unfold numC qX xnC
 have h0 : limbs 0 = [] := by unfold limbs; rfl
 have e : (0 : Rat).num.natAbs = 0 := rfl
 have e2 : dn (0 : Rat).den = [] := rfl
 rw [e, h0, e2]; rfl
def cM (b k n : Nat) : List DV := (List.range n).map fun i => .osl 3 (b + i) 0 k
theorem cM_len (b k n : Nat) : (cM b k n).length = n := by unfold cM; rw [List.length_map, List.length_range]
theorem cM_get {b k n i : Nat} (h : i < n) (d : DV) : (cM b k n).getD i d = .osl 3 (b + i) 0 k := by
 unfold cM; rw [List.getD_eq_getElem?_getD, List.getElem?_map, List.getElem?_range h]; rfl
theorem cM_fix {b k n : Nat} {f : DV → DV} (h : ∀ i, i < n → f (.osl 3 (b + i) 0 k) = .osl 3 (b + i) 0 k) : (cM b k n).map f = cM b k n := by
 unfold cM; rw [List.map_map]; exact List.map_congr_left fun i hi => h i (List.mem_range.1 hi)
theorem cM_purge {b k n o : Nat} (h : o < b ∨ b + n ≤ o) : (cM b k n).map (purge o) = cM b k n := cM_fix fun i hi => by
 have e : b + i ≠ o := by omega
 simp [purge, DV.has, e]
theorem cM_frz {b k n o : Nat} (cs : List DV) (h : o < b ∨ b + n ≤ o) : (cM b k n).map (frz o cs) = cM b k n := cM_fix fun i hi => by
 have e : b + i ≠ o := by omega
 simp only [frz]; rw [if_neg e]
theorem cM_rn {b k n : Nat} {f : Nat → Option Nat} (h : ∀ i, i < n → f (b + i) = some (b + i)) : (cM b k n).map (rn f) = cM b k n := cM_fix fun i hi => by
 simp [rn, h i hi]
theorem cM_succ (b k n : Nat) : cM b k (n + 1) = cM b k n ++ [.osl 3 (b + n) 0 k] := by
 unfold cM; rw [List.range_succ, List.map_append]; rfl
def DM (b n : Nat) (g : Nat → List DV) : Hp := (List.range n).map fun i => (b + i, g i)
theorem lkH_append (p : Nat) : ∀ A B : Hp, lkH (A ++ B) p = match lkH A p with | some c => some c | none => lkH B p
 | [], B => by simp [lkH]
 | (k, d) :: A, B => by
  simp only [List.cons_append, lkH]
  by_cases e : k = p
  ·rw [if_pos e, if_pos e]
  ·rw [if_neg e, if_neg e]; exact lkH_append p A B
theorem DM_succ (b n : Nat) (g : Nat → List DV) : DM b (n + 1) g = DM b n g ++ [(b + n, g n)] := by
 unfold DM; rw [List.range_succ, List.map_append]; rfl
theorem DM_lk (b : Nat) (g : Nat → List DV) (p : Nat) : ∀ n, lkH (DM b n g) p = if b ≤ p ∧ p < b + n then some (g (p - b)) else none
 | 0 => by rw [if_neg (by omega)]; rfl
 | n + 1 => by
  rw [DM_succ, lkH_append, DM_lk b g p n]
  by_cases e : b ≤ p ∧ p < b + n
  ·rw [if_pos e, if_pos (by omega)]
  ·rw [if_neg e]
   simp only [lkH]
   by_cases e2 : b + n = p
   ·subst e2; rw [if_pos rfl, if_pos (by omega), Nat.add_sub_cancel_left]
   ·rw [if_neg e2, if_neg (by omega)]
theorem DM_at {b n i : Nat} (h : i < n) (g : Nat → List DV) : lkH (DM b n g) (b + i) = some (g i) := by
 rw [DM_lk, if_pos (by omega), Nat.add_sub_cancel_left]
theorem DM_no {b n p : Nat} (h : p < b ∨ b + n ≤ p) (g : Nat → List DV) : lkH (DM b n g) p = none := by
 rw [DM_lk, if_neg (by omega)]
theorem DM_map {b n : Nat} {g : Nat → List DV} {f : DV → DV} (h : ∀ i, i < n → (g i).map f = g i) : mapH f (DM b n g) = DM b n g := by
 have key : ∀ l : List Nat, (∀ i ∈ l, (g i).map f = g i) → mapH f (l.map fun i => (b + i, g i)) = l.map fun i => (b + i, g i) := fun l => by
  induction l with
  | nil => intro _; rfl
  | cons a l ih =>
   intro hl
   simp only [List.map_cons, mapH]
   rw [hl a List.mem_cons_self, ih fun i hi => hl i (List.mem_cons_of_mem _ hi)]
 exact key _ fun i hi => h i (List.mem_range.1 hi)
theorem DM_congr {b n : Nat} {g g' : Nat → List DV} (h : ∀ i, i < n → g i = g' i) : DM b n g = DM b n g' := by
 unfold DM; exact List.map_congr_left fun i hi => by rw [h i (List.mem_range.1 hi)]
def mtD (n k : Nat) (M : Mt) : List DV := (List.range n).map fun i => .sl 3 (rwC k (M i))
theorem mtD_len (n k : Nat) (M : Mt) : (mtD n k M).length = n := by unfold mtD; rw [List.length_map, List.length_range]
theorem mtD_rf (n k : Nat) (M : Mt) : ∀ d ∈ mtD n k M, d.rf = true := by
 intro d hd
 unfold mtD at hd
 obtain ⟨i, _, rfl⟩ := List.mem_map.1 hd
 have := rwC_rf k (M i)
 simp [DV.rf, List.all_eq_true.2 this]
theorem mtD_congr {n k : Nat} {M M' : Mt} (h : ∀ i, i < n → ∀ j, j < k → M i j = M' i j) : mtD n k M = mtD n k M' := by
 unfold mtD; exact List.map_congr_left fun i hi => by rw [rwC_congr (h i (List.mem_range.1 hi))]
theorem mtD_get {n k i : Nat} (h : i < n) (M : Mt) (d : DV) : (mtD n k M).getD i d = .sl 3 (rwC k (M i)) := by
 unfold mtD; rw [List.getD_eq_getElem?_getD, List.getElem?_map, List.getElem?_range h]; rfl
def rowsD (rs : List (List DV)) : List DV := rs.map (.sl 3)
theorem rowsD_len (rs : List (List DV)) : (rowsD rs).length = rs.length := List.length_map _
theorem rowsD_get {rs : List (List DV)} {i : Nat} (h : i < rs.length) (d : DV) : (rowsD rs).getD i d = .sl 3 (rs.getD i []) := by
 unfold rowsD; rw [List.getD_eq_getElem?_getD, List.getD_eq_getElem?_getD, List.getElem?_map, List.getElem?_eq_getElem h]; rfl
def frmR (rs : List (List DV)) : Bool := decide (rs.length ≤ 96) && rs.all fun r => decide (1 ≤ r.length / 3) && decide (r.length / 3 ≤ 96) && decide (r.length / 3 = (rs.getD 0 []).length / 3)
theorem frmR_no {rs : List (List DV)} {i : Nat} (hi : i < rs.length) (h : ¬ (1 ≤ (rs.getD i []).length / 3 ∧ (rs.getD i []).length / 3 ≤ 96 ∧ (rs.getD i []).length / 3 = (rs.getD 0 []).length / 3)) : frmR rs = false := by
 cases e : frmR rs with
 | false => rfl
 | true =>
  exfalso; apply h
  unfold frmR at e
  simp only [Bool.and_eq_true, List.all_eq_true, decide_eq_true_eq] at e
  have hm : rs.getD i [] ∈ rs := by rw [List.getD_eq_getElem?_getD, List.getElem?_eq_getElem hi]; exact List.getElem_mem hi
  have := e.2 _ hm
  exact ⟨this.1.1, this.1.2, this.2⟩
theorem frmR_yes {rs : List (List DV)} (hl : rs.length ≤ 96) (h : ∀ i, i < rs.length → 1 ≤ (rs.getD i []).length / 3 ∧ (rs.getD i []).length / 3 ≤ 96 ∧ (rs.getD i []).length / 3 = (rs.getD 0 []).length / 3) : frmR rs = true := by
 unfold frmR
 simp only [Bool.and_eq_true, List.all_eq_true, decide_eq_true_eq]
 refine ⟨hl, fun r hr => ?_⟩
 obtain ⟨i, hi, rfl⟩ := List.getElem_of_mem hr
 have := h i hi
 rw [show rs.getD i [] = rs[i] by rw [List.getD_eq_getElem?_getD, List.getElem?_eq_getElem hi]; rfl] at this
 exact ⟨⟨this.1, this.2.1⟩, this.2.2⟩
theorem mtD_rows (n k : Nat) (M : Mt) : mtD n k M = rowsD ((List.range n).map fun i => rwC k (M i)) := by unfold mtD rowsD; rw [List.map_map]; rfl
end Nat32
namespace Go.Dat
open Go
theorem W_rnf {F : FnD} {c : DC} {Q : Ex → Fr → Hp → Prop} {fr : Fr} {H : Hp} (fw bk : Nat → Option Nat) (hfb : ∀ p q, fw p = some q ↔ bk q = some p) (hd : ∀ o, (lkH H o).isSome = true → (fw o).isSome = true)
  (hty : ∀ p q, fw p = some q → p = q ∨ (p < 786432 ∧ q < 786432)) (H2 : Hp) (hH2 : ∀ q, lkH H2 q = (bk q).bind fun p => (lkH H p).map (List.map (rn fw)))
  (h : W F c Q (mapF (rn fw) fr) H2) : W F c Q fr H := by
 intro code hc G L a w hn hR
 obtain ⟨L', hL'⟩ : ∃ L' : Nat → Option Nat, L' = fun q => (bk q).bind L := ⟨_, rfl⟩
 have e1 : ∀ q b, L' q = some b → ∃ p, fw p = some q ∧ L p = some b := fun q b hq => by
  rw [hL'] at hq
  simp only [Option.bind_eq_some_iff] at hq
  obtain ⟨p, hp1, hp2⟩ := hq
  exact ⟨p, (hfb p q).2 hp1, hp2⟩
 have e2 : ∀ p q b, fw p = some q → L p = some b → L' q = some b := fun p q b h1 h2 => by
  rw [hL']
  simp only [(hfb p q).1 h1, Option.bind_some, h2]
 have hAv : ∀ b, Av G.S L' b → Av G.S L b := by
  rintro b (hS | ⟨q, hq⟩)
  ·exact .inl hS
  ·obtain ⟨p, _, h2⟩ := e1 q b hq
   exact .inr ⟨p, h2⟩
 have hV : ∀ d v, V w L (Av G.S L) d v → V w L' (Av G.S L') (rn fw d) v := fun d v hv => hv.rn fw hAv e2
 refine h code hc G L' a w hn ⟨hR.size, hR.defers, fun s => ?_, ⟨?_, ?_, ?_, ?_, ?_⟩, hR.ext, hR.sLt, ?_, ?_, hR.shp⟩
 ·have h1 := hV _ _ (hR.slots s)
  have e : den F.vs [] (mapF (rn fw) fr) s = rn fw (den F.vs [] fr s) := by
   simp only [den, lk_mapF _ (rn_undef _)]
   split
   ·rfl
   ·simp only [lk, rn_undef]
  rw [e]; exact h1
 ·intro q b hq
  obtain ⟨p, h1, h2⟩ := e1 q b hq
  obtain ⟨cs, hcs⟩ := hR.heap.dom p b h2
  refine ⟨cs.map (rn fw), ?_⟩
  show lkH H2 q = _
  rw [hH2, (hfb p q).1 h1, Option.bind_some]
  have hcs' : lkH H p = some cs := hcs
  rw [hcs']; rfl
 ·intro q cells hq
  have hq' : lkH H2 q = some cells := hq
  rw [hH2, Option.bind_eq_some_iff] at hq'
  obtain ⟨p, hp1, hq'⟩ := hq'
  rw [Option.map_eq_some_iff] at hq'
  obtain ⟨cs, hcs, rfl⟩ := hq'
  have hlp := (hfb p q).2 hp1
  rcases hR.heap.obj p cs hcs with ⟨h1, h2⟩ | ⟨b, us, T, h1, h2, h3, h4⟩
  ·refine .inl ⟨?_, by rw [h2]; rfl⟩
   rw [hL']
   simp only [hp1, Option.bind_some, h1]
  ·refine .inr ⟨b, us, T, e2 p q b hlp h1, h2, by simpa using h3, fun k d v g1 g2 => ?_⟩
   rw [List.getElem?_map, Option.map_eq_some_iff] at g1
   obtain ⟨d0, hd0, rfl⟩ := g1
   exact hV _ _ (h4 k d0 v hd0 g2)
 ·intro q q' b hq hq'
  obtain ⟨p, h1, h2⟩ := e1 q b hq
  obtain ⟨p', h3, h4⟩ := e1 q' b hq'
  have := hR.heap.inj p p' b h2 h4
  subst this
  rw [h1] at h3; exact Option.some.inj h3
 ·intro q b hq
  obtain ⟨p, _, h2⟩ := e1 q b hq
  exact hR.heap.notS p b h2
 ·intro q b hq
  obtain ⟨p, h1, h2⟩ := e1 q b hq
  have h3 := hR.heap.ty p b h2
  rcases hty p q h1 with e | ⟨g1, g2⟩
  ·rw [← e]; exact h3
  ·exact (show tyNo q from .inl g2).ok w b
 ·intro q b hq
  obtain ⟨p, _, h2⟩ := e1 q b hq
  exact hR.own p b h2
 ·intro o b ho
  obtain ⟨h1, h2⟩ := hR.keep o b ho
  obtain ⟨cells, hc1⟩ := hR.heap.dom o b h1
  obtain ⟨q, hq⟩ := Option.isSome_iff_exists.1 (hd o (by
   have hc1' : lkH H o = some cells := hc1
   rw [hc1']; rfl))
  rcases hty o q hq with e | ⟨g1, _⟩
  ·exact ⟨e2 o o b (by rw [hq, e]) h1, h2⟩
  ·omega
end Go.Dat
namespace Nat32
def BS (r : Rat) (m : Nat) : Prop := r.num.natAbs < 2 ^ m ∧ r.den < 2 ^ m
theorem BS.mono {r : Rat} {m n : Nat} (h : BS r m) (hm : m ≤ n) : BS r n :=
 ⟨Nat.lt_of_lt_of_le h.1 (Nat.pow_le_pow_right (by decide) hm), Nat.lt_of_lt_of_le h.2 (Nat.pow_le_pow_right (by decide) hm)⟩
theorem BS_mk {z : Int} {d m : Nat} (h : d ≠ 0) (h1 : z.natAbs < 2 ^ m) (h2 : d < 2 ^ m) : BS (mkRat z d) m := by
 have hg : 0 < Nat.gcd z.natAbs d := Nat.gcd_pos_of_pos_right _ (Nat.pos_of_ne_zero h)
 have hd : ((Nat.gcd z.natAbs d : Nat) : Int) ∣ z := Int.ofNat_dvd_left.2 (Nat.gcd_dvd_left z.natAbs d)
 unfold BS
 rw [Rat.num_mkRat, Rat.den_mkRat, if_neg h, if_neg h, Nat.gcd_comm d, (ediv_gcd hd hg).1]
 exact ⟨Nat.lt_of_le_of_lt (Nat.div_le_self _ _) h1, Nat.lt_of_le_of_lt (Nat.div_le_self _ _) h2⟩
theorem bmul {a b m n : Nat} (h1 : a < 2 ^ m) (h2 : b < 2 ^ n) : a * b < 2 ^ (m + n) := by
 rw [Nat.pow_add]
 exact Nat.lt_of_le_of_lt (Nat.mul_le_mul_left a (Nat.le_of_lt h2)) ((Nat.mul_lt_mul_right (Nat.two_pow_pos n)).2 h1)
theorem BS_add {x y : Rat} {m n : Nat} (h1 : BS x m) (h2 : BS y n) : BS (x + y) (m + n + 1) := by
 rw [Rat.add_def']
 have e1 := bmul h1.1 h2.2
 have e2 := bmul h1.2 h2.1
 have e3 := bmul h1.2 h2.2
 have hp : 2 ^ (m + n + 1) = 2 ^ (m + n) + 2 ^ (m + n) := by rw [Nat.pow_succ]; omega
 refine BS_mk (Nat.mul_ne_zero x.den_nz y.den_nz) ?_ (by rw [hp]; omega)
 have a1 : (x.num * (y.den : Int)).natAbs = x.num.natAbs * y.den := by rw [Int.natAbs_mul, Int.natAbs_natCast]
 have a2 : (y.num * (x.den : Int)).natAbs = x.den * y.num.natAbs := by rw [Int.natAbs_mul, Int.natAbs_natCast, Nat.mul_comm]
 rw [hp]
 omega
theorem BS_mul {x y : Rat} {m n : Nat} (h1 : BS x m) (h2 : BS y n) : BS (x * y) (m + n) := by
 rw [Rat.mul_def']
 exact BS_mk (Nat.mul_ne_zero x.den_nz y.den_nz) (by rw [Int.natAbs_mul]; exact bmul h1.1 h2.1) (bmul h1.2 h2.2)
theorem BS_neg {x : Rat} {m : Nat} (h : BS x m) : BS (-x) m := by unfold BS; rw [Rat.neg_num, Rat.neg_den, Int.natAbs_neg]; exact h
theorem BS_sub {x y : Rat} {m n : Nat} (h1 : BS x m) (h2 : BS y n) : BS (x - y) (m + n + 1) := by
 rw [Rat.sub_eq_add_neg]; exact BS_add h1 (BS_neg h2)
theorem BS_divInt {z e : Int} {m : Nat} (he : e ≠ 0) (h1 : z.natAbs < 2 ^ m) (h2 : e.natAbs < 2 ^ m) : BS (Rat.divInt z e) m := by
 rcases Int.lt_or_gt_of_ne he with h | h
 ·rw [divInt_neg z h]; exact BS_mk (by omega) (by rwa [Int.natAbs_neg]) h2
 ·rw [divInt_pos z h]; exact BS_mk (by omega) h1 h2
theorem BS_div {x y : Rat} {m n : Nat} (hy : y ≠ 0) (h1 : BS x m) (h2 : BS y n) : BS (x / y) (m + n) := by
 rw [← rat_quo]
 refine BS_divInt (Int.mul_ne_zero (by have := x.den_nz; omega) (fun e => hy (Rat.num_eq_zero.1 e))) ?_ ?_
 ·rw [Int.natAbs_mul, Int.natAbs_natCast]; exact bmul h1.1 h2.2
 ·rw [Int.natAbs_mul, Int.natAbs_natCast]; exact bmul h1.2 h2.1
theorem BS_1 : BS 1 1 := ⟨by decide, by decide⟩
theorem BS_0 : BS 0 1 := ⟨by decide, by decide⟩
theorem RB_bs {r : Rat} {m l : Nat} (h : BS r m) (hm : m ≤ 32 * l) : RB r l := by
 have e : (4294967296 : Nat) ^ l = 2 ^ (32 * l) := by rw [Nat.pow_mul]
 have hp : 2 ^ m ≤ 2 ^ (32 * l) := Nat.pow_le_pow_right (by decide) hm
 unfold RB
 rw [limbs_len, limbs_len, e]
 exact ⟨Nat.lt_of_lt_of_le h.1 hp, Nat.lt_of_lt_of_le h.2 hp⟩
def MS (n k : Nat) (M : Mt) (m : Nat) : Prop := ∀ i, i < n → ∀ j, j < k → BS (M i j) m
theorem MS.mono {n k m m' : Nat} {M : Mt} (h : MS n k M m) (hm : m ≤ m') : MS n k M m' := fun i hi j hj => (h i hi j hj).mono hm
theorem MS.swap {n k a b m : Nat} {M : Mt} (h : MS n k M m) (ha : a < n) (hb : b < n) : MS n k (swapM a b M) m := fun i hi j hj => by
 unfold swapM
 split
 ·exact h b hb j hj
 ·split
  ·exact h a ha j hj
  ·exact h i hi j hj
theorem MS.elimM {n k t j m : Nat} {M : Mt} (h : MS n k M m) (ht : t < n) (hj : j < k) (hne : M t j ≠ 0) : MS n k (elimM t j M) (4 * m + 2) := fun i hi c hc => by
 have h1 : BS (M t c * (1 / M t j)) (m + (1 + m)) := BS_mul (h t ht c hc) (BS_div hne BS_1 (h t ht j hj))
 unfold Nat32.elimM
 split
 ·exact h1.mono (by omega)
 ·exact (BS_add (h i hi c hc) (BS_mul h1 (BS_neg (h i hi j hj)))).mono (by omega)
def gB (b : Nat) : Nat → Nat
 | 0 => b
 | t + 1 => 4 * gB b t + 2
def eB (b : Nat) : Nat → Nat
 | 0 => b
 | t + 1 => 4 * eB b t + 1
theorem eB_mono (b : Nat) : ∀ {s t : Nat}, s ≤ t → eB b s ≤ eB b t
 | s, 0, h => by rw [Nat.le_zero.1 h]; exact Nat.le_refl _
 | s, t + 1, h => by
  rcases Nat.lt_or_ge s (t + 1) with g | g
  ·have := eB_mono b (show s ≤ t by omega)
   simp only [eB]; omega
  ·rw [show s = t + 1 by omega]; exact Nat.le_refl _
def uB (b : Nat) : Nat → Nat
 | 0 => 0
 | i + 1 => 2 * uB b i + 2 * eB b i + 2
def ES (n k : Nat) (M : Mt) (b t : Nat) : Prop := ∀ i, i < n → ∀ j, j < k → BS (M i j) (eB b (min i t))
def US (n k : Nat) (M : Mt) (b i : Nat) : Prop := ∀ r, r < n → ∀ j, j < k → BS (M r j) (if r < i then uB b i else eB b r)
theorem ES.next {n k b t at_ j : Nat} {M : Mt} (h : ES n k M b t) (ha : t ≤ at_) (han : at_ < n) (hj : j < k) (hne : M at_ j ≠ 0) : ES n k (elimD t j n (swapM t at_ M)) b (t + 1) := by
 have hn : t < n := by omega
 have hS : ∀ i, i < n → ∀ c, c < k → BS (swapM t at_ M i c) (eB b (min i t)) := fun i hi c hc => by
  unfold swapM
  by_cases e1 : i = t
  ·rw [if_pos e1]; have := h at_ han c hc; rw [show min at_ t = t by omega] at this; rw [e1, Nat.min_self]; exact this
  ·rw [if_neg e1]
   by_cases e2 : i = at_
   ·rw [if_pos e2]; have := h t hn c hc; rw [Nat.min_self] at this; rw [show min i t = t by omega]; exact this
   ·rw [if_neg e2]; exact h i hi c hc
 have hne' : swapM t at_ M t j ≠ 0 := by unfold swapM; rw [if_pos rfl]; exact hne
 generalize swapM t at_ M = S at *
 intro i hi c hc
 have ht := hS t hn
 rw [Nat.min_self] at ht
 have hic := hS i hi c hc
 unfold elimD
 by_cases e : t < i ∧ i < n
 ·rw [if_pos e]
  rw [show min i (t + 1) = t + 1 by omega]
  have hij := hS i hi j hj
  rw [show min i t = t by omega] at hic hij
  exact (BS_sub hic (BS_mul (BS_div hne' hij (ht j hj)) (ht c hc))).mono (by simp only [eB]; omega)
 ·rw [if_neg e]
  exact hic.mono (eB_mono b (by omega))
theorem ES.US {n k b t : Nat} {M : Mt} (h : ES n k M b t) (ht : ∀ i, min i t ≤ i) : US n k M b 0 := fun r hr j hj => by
 rw [if_neg (Nat.not_lt_zero _)]
 exact (h r hr j hj).mono (eB_mono b (ht r))
theorem US.next {n k b i p : Nat} {M : Mt} (h : US n k M b i) (hi : i < n) (hp : p < k) (hne : M i p ≠ 0) : US n k (elimU i p i (sclM i p M)) b (i + 1) := by
 intro r hr j hj
 have hS1 : sclM i p M i p = 1 := by unfold sclM; rw [if_pos rfl]; grind
 have hSi : ∀ c, c < k → BS (sclM i p M i c) (2 * eB b i) := fun c hc => by
  unfold sclM; rw [if_pos rfl]
  have h1 := h i hi c hc
  have h2 := h i hi p hp
  rw [if_neg (Nat.lt_irrefl i)] at h1 h2
  exact (BS_div hne h1 h2).mono (by omega)
 have hSr : ∀ c, r ≠ i → sclM i p M r c = M r c := fun c hne => by unfold sclM; rw [if_neg hne]
 unfold elimU
 by_cases e : r < i
 ·rw [if_pos e, if_pos (by omega), hS1, hSr j (by omega), hSr p (by omega)]
  have h1 := h r hr j hj
  have h2 := h r hr p hp
  rw [if_pos e] at h1 h2
  have hd : M r p / 1 = M r p := by grind
  rw [hd]
  exact (BS_sub h1 (BS_mul h2 (hSi j hj))).mono (by simp only [uB]; omega)
 ·rw [if_neg e]
  by_cases e2 : r = i
  ·subst e2; rw [if_pos (by omega)]; exact (hSi j hj).mono (by simp only [uB]; omega)
  ·rw [if_neg (by omega), hSr j e2]
   have h1 := h r hr j hj
   rwa [if_neg e] at h1
end Nat32
namespace Nat32
open Go Go.Dat
def swp (a b p : Nat) : Nat := if p = a then b else if p = b then a else p
def swF (a b p : Nat) : Option Nat := some (swp a b p)
theorem swp_swp (a b p : Nat) : swp a b (swp a b p) = p := by
 unfold swp
 by_cases e1 : p = a
 ·rw [if_pos e1]
  by_cases e2 : b = a
  ·rw [if_pos e2, e1, e2]
  ·rw [if_neg e2, if_pos rfl, e1]
 ·rw [if_neg e1]
  by_cases e2 : p = b
  ·rw [if_pos e2, if_pos rfl, e2]
  ·rw [if_neg e2, if_neg e1, if_neg e2]
theorem swp_a (a b : Nat) : swp a b a = b := by unfold swp; rw [if_pos rfl]
theorem swp_b (a b : Nat) : swp a b b = a := by
 unfold swp
 by_cases e : b = a
 ·rw [if_pos e, e]
 ·rw [if_neg e, if_pos rfl]
theorem swp_n {a b p : Nat} (h1 : p ≠ a) (h2 : p ≠ b) : swp a b p = p := by unfold swp; rw [if_neg h1, if_neg h2]
theorem swF_n {a b p : Nat} (h1 : p ≠ a) (h2 : p ≠ b) : swF a b p = some p := by unfold swF; rw [swp_n h1 h2]
theorem rn_swF (a b s p o n : Nat) : rn (swF a b) (.osl s p o n) = .osl s (swp a b p) o n := by simp [rn, swF]
theorem W_swp {F : FnD} {c : DC} {Q : Ex → Fr → Hp → Prop} {fr : Fr} {H : Hp} (a b : Nat) (ha : a < 786432) (hb : b < 786432) (H2 : Hp) (hH2 : ∀ q, lkH H2 q = (lkH H (swp a b q)).map (List.map (rn (swF a b)))) (h : W F c Q (mapF (rn (swF a b)) fr) H2) : W F c Q fr H := by
 refine W_rnf (swF a b) (swF a b) (fun p q => ?_) (fun o _ => rfl) (fun p q h => ?_) H2 (fun q => ?_) h
 ·unfold swF
  constructor
  ·intro h; rw [← Option.some.inj h, swp_swp]
  ·intro h; rw [← Option.some.inj h, swp_swp]
 ·unfold swF at h
  have := Option.some.inj h
  subst this
  by_cases e1 : p = a
  ·right; subst e1; rw [swp_a]; exact ⟨ha, hb⟩
  ·by_cases e2 : p = b
   ·right; subst e2; rw [swp_b]; exact ⟨hb, ha⟩
   ·left; rw [swp_n e1 e2]
 ·rw [hH2]; rfl
theorem cM_set {b k i : Nat} (rest : List DV) (x : DV) : (cM b k i ++ .nils :: rest).set i x = cM b k i ++ x :: rest := by
 rw [List.set_append_right _ _ (by rw [cM_len]; exact Nat.le_refl _), cM_len, Nat.sub_self]; rfl
def mHp (c b n k : Nat) (M : Mt) : Hp := (c, cM b k n) :: DM b n fun i => rwC k (M i)
theorem mHp_c (c b n k : Nat) (M : Mt) : lkH (mHp c b n k M) c = some (cM b k n) := by unfold mHp; simp [lkH]
theorem mHp_row {c b n k i : Nat} (M : Mt) (hi : i < n) (hc : c < b ∨ b + n ≤ c) : lkH (mHp c b n k M) (b + i) = some (rwC k (M i)) := by
 unfold mHp
 simp only [lkH]
 rw [if_neg (by omega), DM_at hi]
theorem mHp_lk {c b n k : Nat} (M : Mt) (p : Nat) : lkH (mHp c b n k M) p = if c = p then some (cM b k n) else if b ≤ p ∧ p < b + n then some (rwC k (M (p - b))) else none := by
 unfold mHp
 simp only [lkH]
 rw [DM_lk]
theorem add_row {o c b k i : Nat} {z : List DV} {g : Nat → List DV} {rest : List DV} {H : Hp} (hz : ∀ d ∈ z, d.rf = true) (hg : ∀ j, j < i → ∀ d ∈ g j, d.rf = true) (hgi : g i = z) (hrest : ∀ d ∈ rest, d.rf = true) (ho : o < b) (hc : c < b) (hoc : o ≠ c)
  (h1 : lkH H o = some z) (h2 : lkH H c = some (cM b k i ++ .osl 3 o 0 k :: rest)) (h3 : ∀ p, p ≠ o → p ≠ c → lkH H p = lkH (DM b i g) p) (q : Nat) :
  lkH ((c, cM b k (i + 1) ++ rest) :: DM b (i + 1) g) q = (lkH H (swp o (b + i) q)).map (List.map (rn (swF o (b + i)))) := by
 simp only [lkH]
 by_cases e1 : c = q
 ·subst e1
  rw [if_pos rfl, swp_n (Ne.symm hoc) (by omega), h2, Option.map_some, List.map_append, List.map_cons, cM_rn fun j hj => swF_n (by omega) (by omega), rn_swF, swp_a, map_rf _ hrest, cM_succ, List.append_assoc]
  rfl
 ·rw [if_neg e1, DM_lk]
  by_cases e2 : q = b + i
  ·subst e2
   rw [if_pos (by omega), swp_b, h1, Option.map_some, map_rf _ hz, Nat.add_sub_cancel_left, hgi]
  ·by_cases e3 : q = o
   ·subst e3
    rw [if_neg (by omega), swp_a, h3 _ (by omega) (by omega), DM_no (by omega)]; rfl
   ·rw [swp_n e3 e2, h3 q e3 (fun e => e1 e.symm), DM_lk]
    by_cases e4 : b ≤ q ∧ q < b + i
    ·rw [if_pos e4, if_pos (by omega), Option.map_some, map_rf _ (hg _ (by omega))]
    ·rw [if_neg e4, if_neg (by omega)]; rfl
def fwC (o b p : Nat) : Option Nat := if p = o then some 1000 else if b ≤ p ∧ p < b + 10000 then some (p - b + 100000) else none
def bkC (o b q : Nat) : Option Nat := if q = 1000 then some o else if 100000 ≤ q ∧ q < 110000 then some (q - 100000 + b) else none
theorem fbC {o b : Nat} (ho : o < b ∨ b + 10000 ≤ o) (p q : Nat) : fwC o b p = some q ↔ bkC o b q = some p := by
 unfold fwC bkC
 constructor
 ·intro h
  split at h
  ·cases h; rename_i e; rw [if_pos rfl, e]
  ·split at h
   ·cases h; rw [if_neg (by omega), if_pos (by omega)]; congr 1; omega
   ·cases h
 ·intro h
  split at h
  ·cases h; rename_i e; rw [if_pos rfl, e]
  ·split at h
   ·cases h; rw [if_neg (by omega), if_pos (by omega)]; congr 1; omega
   ·cases h
theorem repl_nils (m : Nat) : ∀ d ∈ List.replicate m DV.nils, d.rf = true := fun d hd => by rw [(List.mem_replicate.1 hd).2]; rfl
theorem rep_nils (n : Nat) : rep n [DV.nils] = List.replicate n .nils := rfl
theorem rwC_0 (k : Nat) : rwC k (fun _ => 0) = rep k [.bool false, .sl 1 [], .sl 1 []] := by
 show nums (rwL k fun _ => 0) = (List.replicate k _).flatten
 unfold rwL nums
 induction k with
 | zero => rfl
 | succ k ih =>
  rw [List.range_succ, List.map_append, List.flatMap_append, ih, List.replicate_succ', List.flatten_append, List.map_cons, List.map_nil, List.flatMap_cons, List.flatMap_nil, Q_zero]; rfl
theorem zero_wk (k j : Nat) (d d' : DV) (h : (rep k [DV.bool false, .nils, .nils])[j]? = some d) (h' : (rwC k fun _ => 0)[j]? = some d') (w : World) (L : Nat → Option Nat) (A : Nat → Prop) (v : Value) (hv : V w L A d v) : V w L A d' v := by
 rw [rwC_0] at h'
 induction k generalizing j with
 | zero => cases h
 | succ k ih =>
  have e1 : ∀ x y z : DV, rep (k + 1) [x, y, z] = [x, y, z] ++ rep k [x, y, z] := fun x y z => by
   show (List.replicate (k + 1) [x, y, z]).flatten = [x, y, z] ++ (List.replicate k [x, y, z]).flatten
   rw [List.replicate_succ, List.flatten_cons]
  rw [e1] at h h'
  match j, h, h' with
  | 0, h, h' => cases h; cases h'; exact hv
  | 1, h, h' => cases h; cases h'; exact wk_nils 1 w L A v hv
  | 2, h, h' => cases h; cases h'; exact wk_nils 1 w L A v hv
  | j + 3, h, h' => exact ih j h h'
theorem mHp_swp {c c' b n k : Nat} (M : Mt) (hc : c < b) (hc' : c' < b) (q : Nat) : lkH (mHp c' b n k M) q = (lkH (mHp c b n k M) (swp c c' q)).map (List.map (rn (swF c c'))) := by
 rw [mHp_lk, mHp_lk]
 by_cases e1 : q = c'
 ·subst e1
  rw [if_pos rfl, swp_b, if_pos rfl, Option.map_some, cM_rn fun j hj => swF_n (by omega) (by omega)]
 ·rw [if_neg (Ne.symm e1)]
  by_cases e2 : q = c
  ·subst e2
   rw [swp_a, if_neg e1, if_neg (by omega), if_neg (by omega)]; rfl
  ·rw [swp_n e2 e1, if_neg (Ne.symm e2)]
   split
   ·rw [Option.map_some, map_rf _ (rwC_rf _ _)]
   ·rfl
theorem Ret_mat {b n k v c : Nat} {M : Mt} {fr : Fr} {H : Hp} (hc : c < b ∨ b + n ≤ c) (h : lk fr v = .osl 1 c 0 n) (hH : ∀ p, lkH H p = lkH (mHp c b n k M) p) :
  RetPR [.t v] [] (fun r H' => r = .osl 1 c 0 n ∧ H' = mHp c b n k M) .ret fr H := by
 have nc : nmH (mHp c b n k M) c = some c := by unfold nmH; rw [mHp_c]; rfl
 have nr : ∀ i, i < n → nmH (mHp c b n k M) (b + i) = some (b + i) := fun i hi => by unfold nmH; rw [mHp_row M hi hc]; rfl
 refine ⟨.inr rfl, [lk fr v], .osl 1 c 0 n, mHp c b n k M, ⟨rfl, rfl⟩, fun o _ h => (by cases h), rfl, ?_, fun o x ho => ?_⟩
 ·show rn _ (lk fr v) = _
  rw [h]; simp [rn, nc]
 ·refine ⟨x, by rw [hH, ho], ?_⟩
  rw [mHp_lk] at ho
  split at ho
  ·cases ho; exact cM_rn nr
  ·split at ho
   ·cases ho; exact map_rf _ (rwC_rf _ _)
   ·cases ho
theorem tmodG (k : Int) {n : Nat} (hn : 0 < n) : -(n : Int) < k.tmod n ∧ k.tmod n < n ∧ (k.tmod n < 0 → k.tmod n + n = k % n) ∧ (¬ k.tmod n < 0 → k.tmod n = k % n) := by
 have hp : (0 : Int) < (n : Int) := by omega
 have h1 := Int.emod_nonneg k (show (n : Int) ≠ 0 by omega)
 have h2 := Int.emod_lt_of_pos k hp
 by_cases h : 0 ≤ k
 ·rw [Int.tmod_eq_emod_of_nonneg h]; omega
 ·obtain ⟨m, hm⟩ : ∃ m : Nat, k = -(m : Int) := ⟨k.natAbs, by omega⟩
  subst hm
  rw [Int.neg_tmod, Int.tmod_eq_emod_of_nonneg (by omega)]
  have h3 := Int.emod_nonneg (m : Int) (show (n : Int) ≠ 0 by omega)
  have h4 := Int.emod_lt_of_pos (m : Int) hp
  have h5 := Int.emod_add_mul_ediv (m : Int) n
  have h6 := Int.emod_add_mul_ediv (-(m : Int)) n
  clear h1 h2 h6
  refine ⟨by omega, by omega, fun h => ?_, fun h => ?_⟩
  ·have hm : (n : Int) * (-((m : Int) / n) - 1) = -((n : Int) * ((m : Int) / n)) - n := by rw [Int.mul_sub, Int.mul_neg, Int.mul_one]
   have e : -(m : Int) = ((n : Int) - (m : Int) % n) + n * (-((m : Int) / n) - 1) := by omega
   have key : (-(m : Int)) % n = (n : Int) - (m : Int) % n := by
    rw [e, Int.add_mul_emod_self_left]
    exact Int.emod_eq_of_lt (by omega) (by omega)
   omega
  ·have e0 : (m : Int) % n = 0 := by omega
   have hm : (n : Int) * (-((m : Int) / n)) = -((n : Int) * ((m : Int) / n)) := Int.mul_neg _ _
   have e : -(m : Int) = 0 + n * (-((m : Int) / n)) := by omega
   have key : (-(m : Int)) % n = 0 := by
    rw [e, Int.add_mul_emod_self_left]; rfl
   omega
theorem xnV_q (r : Rat) : xnV (qX r) = r := rv_Q r
theorem map_rn_id {f : Nat → Option Nat} (hf : ∀ o, f o = some o) (cs : List DV) : cs.map (rn f) = cs := by rw [← rnL_map, rnL_id hf]
theorem callC_mat {F : FnD} {os : List DOper} {dst : Dst} {f : Nat} {ds : List DV} {te fr : Fr} {H : Hp} {K : Fr → Fr → Hp → Prop} (hp : F.pure = false) (o b n k : Nat) (M : Mt) (ho : o < 100000) (hb : 100000 ≤ b ∧ b ≤ 600000) (hn : n ≤ 10000)
  (hrf : ds.all DV.rf = true) (hno : ∀ p, p = o ∨ (b ≤ p ∧ p < b + 10000) → lkH H p = none)
  (hc : MRel F.P f ds [] (fun r H' => r = .osl 1 1000 0 n ∧ H' = mHp 1000 100000 n k M))
  (H2 : Hp) (hH2 : ∀ p, lkH H2 p = if p = o ∨ (b ≤ p ∧ p < b + 10000) then lkH (mHp o b n k M) p else lkH H p)
  (hK : regW F os (dst.onT te (.osl 1 o 0 n)) (dst.onX fr (.osl 1 o 0 n)) H2 K) : callC F os dst f ds te fr H K := by
 have hob : o < b ∨ b + 10000 ≤ o := .inl (by omega)
 have hdom : ∀ p q, fwC o b p = some q → (p = o ∧ q = 1000) ∨ ((b ≤ p ∧ p < b + 10000) ∧ q = p - b + 100000) := fun p q h => by
  unfold fwC at h
  split at h
  ·rename_i e; cases h; exact .inl ⟨e, rfl⟩
  ·split at h
   ·rename_i e; cases h; exact .inr ⟨e, rfl⟩
   ·cases h
 have hpg : pgN H (fwC o b) = some := funext fun p => by
  unfold pgN
  cases hq : fwC o b p with
  | none => rfl
  | some q =>
   simp only
   have : lkH H p = none := hno p (by rcases hdom p q hq with h | h; exact .inl h.1; exact .inr h.1)
   rw [this]; simp
 have hds : ds.map (rn (fwC o b)) = ds := map_rf _ (List.all_eq_true.1 hrf)
 refine callC_rel hp (fwC o b) (bkC o b) (fbC hob) (fun p q h1 h2 => ?_) (fun p q h1 => ?_) (Hc := []) (fun q => ?_) (by rw [hds]; exact hc) ?_
 ·rcases hdom p q h1 with h | h <;> omega
 ·exact tyNo.eq (.inl (by rcases hdom p q h1 with h | h <;> omega)) (.inl (by rcases hdom p q h1 with h | h <;> omega))
 ·cases hq : bkC o b q with
  | none => rfl
  | some p =>
   have := hdom p q ((fbC hob p q).2 hq)
   rw [Option.bind_some, hno p (by rcases this with h | h; exact .inl h.1; exact .inr h.1)]; rfl
 ·rintro r Hc' ⟨rfl, rfl⟩
  have bo : bkC o b 1000 = some o := by unfold bkC; rw [if_pos rfl]
  have br : ∀ i, i < n → bkC o b (100000 + i) = some (b + i) := fun i hi => by
   unfold bkC; rw [if_neg (by omega), if_pos (by omega)]; exact congrArg some (by omega)
  have hr : rn (bkC o b) (.osl 1 1000 0 n) = .osl 1 o 0 n := by simp [rn, bo]
  refine ⟨H2, fun p => ?_, ?_⟩
  ·rw [hH2, hpg]
   cases hq : fwC o b p with
   | none =>
    simp only
    have : ¬ (p = o ∨ (b ≤ p ∧ p < b + 10000)) := fun h => by
     unfold fwC at hq
     by_cases e : p = o
     ·rw [if_pos e] at hq; cases hq
     ·rw [if_neg e, if_pos (by omega)] at hq; cases hq
    rw [if_neg this]
    cases lkH H p with
    | none => rfl
    | some c => rw [Option.map_some, map_rn_id (fun _ => rfl)]
   | some q =>
    simp only
    rcases hdom p q hq with ⟨h1, h2⟩ | ⟨h1, h2⟩
    ·subst h2
     rw [if_pos (.inl h1), h1, mHp_c, mHp_c, Option.map_some]
     congr 1
     unfold cM
     rw [List.map_map]
     refine List.map_congr_left fun i hi => ?_
     have := List.mem_range.1 hi
     simp [rn, br i this]
    ·subst h2
     rw [if_pos (.inr h1), mHp_lk, mHp_lk, if_neg (show ¬ o = p by omega), if_neg (show ¬ 1000 = p - b + 100000 by omega)]
     by_cases e : p < b + n
     ·rw [if_pos (show b ≤ p ∧ p < b + n by omega), if_pos (show 100000 ≤ p - b + 100000 ∧ p - b + 100000 < 100000 + n by omega), Option.map_some, map_rf _ (rwC_rf _ _)]
      rw [show p - b + 100000 - 100000 = p - b by omega]
     ·rw [if_neg (show ¬ (b ≤ p ∧ p < b + n) by omega), if_neg (show ¬ (100000 ≤ p - b + 100000 ∧ p - b + 100000 < 100000 + n) by omega)]; rfl
  ·rw [hpg, mapF_id (fun _ => rfl), mapF_id (fun _ => rfl), hr]; exact hK
def mtX (x : List (List XN)) : Mt := fun i j => xnV ((x.getD i []).getD j default)
def xrs (x : List (List XN)) : List DV := rowsD (x.map fun r => r.flatMap xnC)
theorem xnC_len (x : XN) : (xnC x).length = 3 := rfl
theorem xnC_rf (x : XN) : ∀ d ∈ xnC x, d.rf = true := by
 intro d hd
 simp only [xnC, List.mem_cons, List.not_mem_nil, or_false] at hd
 rcases hd with rfl | rfl | rfl <;> rfl
theorem xrs_len (x : List (List XN)) : (xrs x).length = x.length := by unfold xrs; rw [rowsD_len, List.length_map]
theorem xrs_row {x : List (List XN)} {i : Nat} (h : i < x.length) : (x.map fun r => r.flatMap xnC).getD i [] = (x.getD i []).flatMap xnC := by
 rw [List.getD_eq_getElem?_getD, List.getD_eq_getElem?_getD, List.getElem?_map, List.getElem?_eq_getElem h]; rfl
theorem xrs_get {x : List (List XN)} {i : Nat} (h : i < x.length) (d : DV) : (xrs x).getD i d = .sl 3 ((x.getD i []).flatMap xnC) := by
 unfold xrs; rw [rowsD_get (by rw [List.length_map]; exact h), xrs_row h]
def prtM (M : Mt) (i j : Nat) : Mt := fun r c => if r < i ∨ (r = i ∧ c < j) then M r c else 0
theorem setM_H {c b n k i : Nat} {M M' : Mt} {X : List DV} {D : Hp} (hD : DM b n (fun r => rwC k (M r)) = D) (hi : i < n) (hc : c < b ∨ b + n ≤ c) (hX : X = rwC k (M' i)) (ho : ∀ r, r < n → r ≠ i → ∀ j, j < k → M r j = M' r j) (p : Nat) :
  lkH ((c, cM b k n) :: setH D (b + i) X) p = lkH (mHp c b n k M') p := by
 subst hD
 rw [mHp_lk]
 simp only [lkH]
 by_cases e : c = p
 ·rw [if_pos e, if_pos e]
 ·rw [if_neg e, if_neg e, lkH_setH]
  by_cases e2 : p = b + i
  ·rw [if_pos e2, if_pos (by omega), hX]
   have : p - b = i := by omega
   rw [this]
  ·rw [if_neg e2, DM_lk]
   by_cases e3 : b ≤ p ∧ p < b + n
   ·rw [if_pos e3, if_pos e3, rwC_congr (ho (p - b) (by omega) (by omega))]
   ·rw [if_neg e3, if_neg e3]
theorem rm_mat {o c b n k : Nat} {M : Mt} {H : Hp} {cs : List DV} (ho : o < b) (hoc : o ≠ c) (h : ∀ p, p ≠ o → lkH H p = lkH (mHp c b n k M) p) (p : Nat) : lkH (rmH o cs H) p = lkH (mHp c b n k M) p := by
 rw [lkH_rmH]
 by_cases e : p = o
 ·rw [if_pos e, mHp_lk, if_neg (by omega), if_neg (by omega)]
 ·rw [if_neg e, h p e, mHp_lk]
  split
  ·rw [Option.map_some, cM_frz cs (.inl ho)]
  ·split
   ·rw [Option.map_some, map_frz o cs (rwC_rf _ _)]
   ·rfl
theorem prtM_next (M : Mt) (i j : Nat) : (∀ c, (if c = j then M i j else prtM M i j i c) = prtM M i (j + 1) i c) ∧ ∀ r c, r ≠ i → prtM M i j r c = prtM M i (j + 1) r c := by
 constructor
 ·intro c
  unfold prtM
  by_cases e : c = j
  ·subst e; rw [if_pos rfl, if_pos (.inr ⟨rfl, by omega⟩)]
  ·rw [if_neg e]
   by_cases e2 : c < j
   ·rw [if_pos (.inr ⟨rfl, e2⟩), if_pos (.inr ⟨rfl, by omega⟩)]
   ·rw [if_neg (by omega), if_neg (by omega)]
 ·intro r c hr
  unfold prtM
  by_cases e : r < i
  ·rw [if_pos (.inl e), if_pos (.inl e)]
  ·rw [if_neg (by omega), if_neg (by omega)]
def intsD (ps : List Nat) : List DV := ps.map fun p : Nat => DV.int .i64 (p : Int)
theorem intsD_len (ps : List Nat) : (intsD ps).length = ps.length := List.length_map _
theorem intsD_rf (ps : List Nat) : ∀ d ∈ intsD ps, d.rf = true := by
 intro d hd; obtain ⟨p, _, rfl⟩ := List.mem_map.1 hd; rfl
theorem intsD_snoc (ps : List Nat) (j : Nat) : intsD ps ++ [.int .i64 j] = intsD (ps ++ [j]) := by unfold intsD; simp
theorem intsD_get {ps : List Nat} {i : Nat} (h : i < ps.length) (d : DV) : (intsD ps).getD i d = .int .i64 (ps.getD i 0) := by
 unfold intsD; rw [List.getD_eq_getElem?_getD, List.getElem?_map, List.getElem?_eq_getElem h, List.getD_eq_getElem?_getD, List.getElem?_eq_getElem h]; rfl
theorem rdo_mat {c b n k at_ : Nat} {M : Mt} {H : Hp} (h1 : lkH H c = some (cM b k n)) (h2 : ∀ i, i < n → lkH H (b + i) = some (rwC k (M i))) (ha : at_ ≤ n) :
  rdo H 2 (.osl 1 c at_ (n - at_)) = .sl 1 (rowsD ((List.range (n - at_)).map fun i => rwC k (M (at_ + i)))) := by
 show (match lkH H c with | some cells => _ | none => _) = _
 rw [h1]
 simp only
 rw [if_pos ⟨by decide, by rw [cM_len]; omega⟩]
 congr 1
 unfold rowsD
 rw [List.map_map]
 apply List.ext_getElem?
 intro i
 rw [List.getElem?_map, List.getElem?_take, List.getElem?_drop, List.getElem?_map]
 by_cases hi : i < n - at_
 ·rw [if_pos (by omega), List.getElem?_range hi]
  unfold cM
  rw [List.getElem?_map, List.getElem?_range (by omega), Option.map_some, Option.map_some, Option.map_some]
  congr 1
  show (match lkH H (b + (at_ + i)) with | some cells => _ | none => _) = DV.sl 3 (rwC k (M (at_ + i)))
  rw [h2 _ (by omega)]
  simp only
  have hl := rwC_len k (M (at_ + i))
  rw [if_pos ⟨by decide, by omega⟩, List.drop_zero, List.take_of_length_le (by omega)]
  congr 1
  conv => rhs; rw [← List.map_id (rwC k (M (at_ + i)))]
  exact List.map_congr_left fun d hd => rdo_rf H 0 (rwC_rf _ _ d hd)
 ·rw [if_neg (by omega), List.getElem?_eq_none (by rw [List.length_range]; omega)]; rfl
theorem rdo_mat0 {c b n k : Nat} {M : Mt} {H : Hp} (h1 : lkH H c = some (cM b k n)) (h2 : ∀ i, i < n → lkH H (b + i) = some (rwC k (M i))) : rdo H 2 (.osl 1 c 0 n) = .sl 1 (mtD n k M) := by
 have := rdo_mat (at_ := 0) h1 h2 (Nat.zero_le _)
 rw [Nat.sub_zero] at this
 rw [this, mtD_rows]
 simp
theorem swap_H {o c b n k a a' : Nat} {M : Mt} {X C : List DV} {H : Hp} (ha : a < n) (ha' : a' < n) (hc : c < b ∨ b + n ≤ c) (ho : o < b) (hoc : o ≠ c) (hX : ∀ d ∈ X, d.rf = true)
  (hC : C = ((cM b k n).set a (.osl 3 (b + a') 0 k)).set a' (.osl 3 (b + a) 0 k)) (h1 : lkH H o = some X) (h2 : lkH H c = some C) (h3 : ∀ p, p ≠ o → p ≠ c → lkH H p = lkH (DM b n fun i => rwC k (M i)) p) (q : Nat) :
  lkH ((o, X) :: mHp c b n k (swapM a a' M)) q = (lkH H (swp (b + a) (b + a') q)).map (List.map (rn (swF (b + a) (b + a')))) := by
 simp only [lkH]
 by_cases e1 : o = q
 ·subst e1
  rw [if_pos rfl, swp_n (by omega) (by omega), h1, Option.map_some, map_rf _ hX]
 ·rw [if_neg e1, mHp_lk]
  by_cases e2 : c = q
  ·subst e2
   rw [if_pos rfl, swp_n (by omega) (by omega), h2, Option.map_some, hC]
   congr 1
   apply List.ext_getElem?
   intro i
   rw [List.getElem?_map, List.getElem?_set, List.getElem?_set]
   unfold cM
   simp only [List.length_map, List.length_range, List.length_set, List.getElem?_map]
   by_cases hi : i < n
   ·rw [List.getElem?_range hi]
    by_cases g1 : a' = i
    ·subst g1; rw [if_pos rfl, if_pos hi, Option.map_some, Option.map_some, rn_swF, swp_a]
    ·rw [if_neg g1]
     by_cases g2 : a = i
     ·subst g2; rw [if_pos rfl, if_pos hi, Option.map_some, Option.map_some, rn_swF, swp_b]
     ·rw [if_neg g2, Option.map_some, Option.map_some, rn_swF, swp_n (by omega) (by omega)]
   ·rw [List.getElem?_eq_none (by rw [List.length_range]; omega)]
    by_cases g1 : a' = i
    ·omega
    ·rw [if_neg g1]
     by_cases g2 : a = i
     ·omega
     ·rw [if_neg g2]; rfl
  ·rw [if_neg e2]
   by_cases e3 : b ≤ q ∧ q < b + n
   ·rw [if_pos e3]
    have hs : b ≤ swp (b + a) (b + a') q ∧ swp (b + a) (b + a') q < b + n := by
     unfold swp
     by_cases g1 : q = b + a
     ·rw [if_pos g1]; omega
     ·rw [if_neg g1]
      by_cases g2 : q = b + a'
      ·rw [if_pos g2]; omega
      ·rw [if_neg g2]; exact e3
    rw [h3 _ (by omega) (by omega), DM_lk, if_pos hs, Option.map_some, map_rf _ (rwC_rf _ _)]
    congr 2
    unfold swp swapM
    by_cases g1 : q = b + a
    ·rw [if_pos g1]
     funext j
     rw [if_pos (by omega), show b + a' - b = a' by omega]
    ·rw [if_neg g1]
     by_cases g2 : q = b + a'
     ·rw [if_pos g2]
      funext j
      rw [if_neg (by omega), if_pos (by omega), show b + a - b = a by omega]
     ·rw [if_neg g2]
      funext j
      rw [if_neg (by omega), if_neg (by omega)]
   ·rw [if_neg e3, swp_n (by omega) (by omega), h3 _ (fun e => e1 e.symm) (fun e => e2 e.symm), DM_lk, if_neg e3]; rfl
def elR (c : Nat) (R P : Nat → Rat) : Nat → Rat := fun j => R j - (R c / P c) * P j
def fw2 (r t p : Nat) : Option Nat := if p = r then some 1048576 else if p = t then some 1048577 else none
def bk2 (r t q : Nat) : Option Nat := if q = 1048576 then some r else if q = 1048577 then some t else none
theorem fb2' {r t : Nat} (h : r ≠ t) (p q : Nat) : fw2 r t p = some q ↔ bk2 r t q = some p := by
 unfold fw2 bk2
 constructor
 ·intro e
  split at e
  ·cases e; rename_i g; rw [if_pos rfl, g]
  ·split at e
   ·cases e; rename_i g; rw [if_neg (by omega), if_pos rfl, g]
   ·cases e
 ·intro e
  split at e
  ·cases e; rename_i g; rw [if_pos rfl, g]
  ·split at e
   ·cases e; rename_i g; rw [if_neg (Ne.symm h), if_pos rfl, g]
   ·cases e
theorem callC_el {F : FnD} {os : List DOper} {dst : Dst} {f : Nat} {te fr : Fr} {H : Hp} {K : Fr → Fr → Hp → Prop} (hp : F.pure = false) {r t k c : Nat} {R P : Nat → Rat} (hrt : r ≠ t) (hr1 : r < 786432) (ht1 : t < 786432) (hr : lkH H r = some (rwC k R)) (ht : lkH H t = some (rwC k P))
  (hc : MRel F.P f [.osl 3 1048576 0 k, .osl 3 1048577 0 k, .int .i64 c] [(1048576, rwC k R), (1048577, rwC k P)] (fun r H' => r = .tup [] ∧ H' = [(1048576, rwC k (elR c R P)), (1048577, rwC k P)]))
  (hK : regW F os (dst.onT te (.tup [])) (dst.onX fr (.tup [])) (setH H r (rwC k (elR c R P))) K) : callC F os dst f [.osl 3 r 0 k, .osl 3 t 0 k, .int .i64 c] te fr H K := by
 have fr_ : fw2 r t r = some 1048576 := by unfold fw2; rw [if_pos rfl]
 have ft_ : fw2 r t t = some 1048577 := by unfold fw2; rw [if_neg (Ne.symm hrt), if_pos rfl]
 have fn_ : ∀ p, p ≠ r → p ≠ t → fw2 r t p = none := fun p h1 h2 => by unfold fw2; rw [if_neg h1, if_neg h2]
 have hdom : ∀ p q, fw2 r t p = some q → (p = r ∧ q = 1048576) ∨ (p = t ∧ q = 1048577) := fun p q h => by
  unfold fw2 at h
  split at h
  ·rename_i e; cases h; exact .inl ⟨e, rfl⟩
  ·split at h
   ·rename_i e; cases h; exact .inr ⟨e, rfl⟩
   ·cases h
 have hpg : pgN H (fw2 r t) = some := funext fun p => by
  unfold pgN
  cases hq : fw2 r t p with
  | none => rfl
  | some q =>
   simp only
   have : ¬ q < 1048576 := by rcases hdom p q hq with h | h <;> omega
   rw [if_neg (fun h => this h.1)]
 have hds : [DV.osl 3 r 0 k, .osl 3 t 0 k, .int .i64 c].map (rn (fw2 r t)) = [.osl 3 1048576 0 k, .osl 3 1048577 0 k, .int .i64 c] := by simp [rn, fr_, ft_]
 refine callC_rel hp (fw2 r t) (bk2 r t) (fb2' hrt) (fun p q h1 h2 => ?_) (fun p q h1 => ?_) (Hc := [(1048576, rwC k R), (1048577, rwC k P)]) (fun q => ?_) (by rw [hds]; exact hc) ?_
 ·rcases hdom p q h1 with h | h <;> omega
 ·refine tyNo.eq (.inl ?_) (.inr ?_)
  ·rcases hdom p q h1 with h | h <;> omega
  ·rcases hdom p q h1 with h | h <;> omega
 ·simp only [lkH]
  unfold bk2
  by_cases e1 : 1048576 = q
  ·rw [if_pos e1, if_pos e1.symm, Option.bind_some, hr, Option.map_some, map_rf _ (rwC_rf _ _)]
  ·rw [if_neg e1, if_neg (Ne.symm e1)]
   by_cases e2 : 1048577 = q
   ·rw [if_pos e2, if_pos e2.symm, Option.bind_some, ht, Option.map_some, map_rf _ (rwC_rf _ _)]
   ·rw [if_neg e2, if_neg (Ne.symm e2)]; rfl
 ·rintro r' Hc' ⟨rfl, rfl⟩
  refine ⟨setH H r (rwC k (elR c R P)), fun p => ?_, ?_⟩
  ·rw [lkH_setH, hpg]
   by_cases e1 : p = r
   ·subst e1
    rw [if_pos rfl, fr_]
    simp only [lkH, if_true, Option.map_some]
    rw [map_rf _ (rwC_rf _ _)]
   ·rw [if_neg e1]
    by_cases e2 : p = t
    ·subst e2
     rw [ft_]
     simp only [lkH]
     rw [if_neg (by omega), if_pos trivial, Option.map_some, map_rf _ (rwC_rf _ _), ht]
    ·rw [fn_ p e1 e2]
     simp only
     cases lkH H p with
     | none => rfl
     | some cs => rw [Option.map_some, map_rn_id (fun _ => rfl)]
  ·rw [hpg, mapF_id (fun _ => rfl), mapF_id (fun _ => rfl)]
   have : rn (bk2 r t) (.tup []) = .tup [] := rfl
   rw [this]; exact hK
theorem el_H {o c b n k t j s : Nat} {S : Mt} {X : List DV} {H : Hp} (hs : s < n) (hts : t < s) (hc : c < b ∨ b + n ≤ c) (ho : o < b) (hoc : o ≠ c) (hH : ∀ p, lkH H p = lkH ((o, X) :: mHp c b n k (elimD t j s S)) p) (p : Nat) :
  lkH (setH H (b + s) (rwC k (elR j (elimD t j s S s) (elimD t j s S t)))) p = lkH ((o, X) :: mHp c b n k (elimD t j (s + 1) S)) p := by
 rw [lkH_setH, hH]
 simp only [lkH]
 by_cases e1 : o = p
 ·rw [if_pos e1, if_pos e1, if_neg (by omega)]
 ·rw [if_neg e1, if_neg e1, mHp_lk, mHp_lk]
  by_cases e2 : c = p
  ·rw [if_pos e2, if_pos e2, if_neg (by omega)]
  ·rw [if_neg e2, if_neg e2]
   by_cases e3 : p = b + s
   ·subst e3
    rw [if_pos rfl, if_pos (by omega), Nat.add_sub_cancel_left]
    refine congrArg some (rwC_congr fun i _ => ?_)
    rw [elimD_next hts, elimD_at (by omega), elimD_at (by omega)]; rfl
   ·rw [if_neg e3]
    by_cases e4 : b ≤ p ∧ p < b + n
    ·rw [if_pos e4, if_pos e4]
     refine congrArg some (rwC_congr fun i _ => ?_)
     unfold elimD
     by_cases g : t < p - b ∧ p - b < s
     ·rw [if_pos g, if_pos (by omega)]
     ·rw [if_neg g, if_neg (by omega)]
    ·rw [if_neg e4, if_neg e4]
theorem pre_c {o c b n k : Nat} {X : List DV} {M : Mt} (h : o ≠ c) : lkH ((o, X) :: mHp c b n k M) c = some (cM b k n) := by
 simp only [lkH]; rw [if_neg h, mHp_c]
theorem pre_row {o c b n k i : Nat} {X : List DV} {M : Mt} (hi : i < n) (hc : c < b ∨ b + n ≤ c) (ho : o < b) : lkH ((o, X) :: mHp c b n k M) (b + i) = some (rwC k (M i)) := by
 simp only [lkH]; rw [if_neg (by omega), mHp_row M hi hc]
theorem rm_pre {o' o c b n k : Nat} {X : List DV} {M : Mt} {H : Hp} {cs : List DV} (ho' : o' < b) (hoc' : o' ≠ c) (hoo : o' ≠ o) (hX : ∀ d ∈ X, d.rf = true) (h : ∀ p, p ≠ o' → lkH H p = lkH ((o, X) :: mHp c b n k M) p) (p : Nat) : lkH (rmH o' cs H) p = lkH ((o, X) :: mHp c b n k M) p := by
 rw [lkH_rmH]
 by_cases e : p = o'
 ·rw [if_pos e]
  simp only [lkH]
  rw [if_neg (by omega), mHp_lk, if_neg (by omega), if_neg (by omega)]
 ·rw [if_neg e, h p e]
  simp only [lkH]
  by_cases e1 : o = p
  ·rw [if_pos e1, Option.map_some, map_frz o' cs hX]
  ·rw [if_neg e1, mHp_lk]
   split
   ·rw [Option.map_some, cM_frz cs (.inl ho')]
   ·split
    ·rw [Option.map_some, map_frz o' cs (rwC_rf _ _)]
    ·rfl
theorem first_yes (p : Nat → Bool) : ∀ n, (∀ i, i < n → p i = false) ∨ ∃ i, i < n ∧ p i = true ∧ ∀ j, j < i → p j = false
 | 0 => .inl fun i hi => absurd hi (Nat.not_lt_zero _)
 | n + 1 => by
  rcases first_yes p n with h | ⟨i, h1, h2, h3⟩
  ·cases hp : p n with
   | true => exact .inr ⟨n, Nat.lt_succ_self n, hp, h⟩
   | false =>
    refine .inl fun i hi => ?_
    rcases Nat.lt_or_ge i n with g | g
    ·exact h i g
    ·rw [show i = n by omega]; exact hp
  ·exact .inr ⟨i, by omega, h2, h3⟩
theorem ixP_first (p : Nat → Bool) (n : Nat) : (ixP p (List.range n) = -1 ∧ ∀ i, i < n → p i = false) ∨ ∃ q, q < n ∧ ixP p (List.range n) = q ∧ p q = true ∧ ∀ j, j < q → p j = false := by
 have hg : ∀ i, i < n → (List.range n).getD i 0 = i := fun i hi => by rw [List.getD_eq_getElem?_getD, List.getElem?_range hi]; rfl
 have hl : (List.range n).length = n := List.length_range
 rcases first_yes p n with h | ⟨i, h1, h2, h3⟩
 ·exact .inl ⟨ixP_no 0 (fun j hj => by rw [hl] at hj; rw [hg j hj]; exact h j hj), h⟩
 ·exact .inr ⟨i, h1, ixP_at 0 (by rw [hl]; exact h1) (by rw [hg i h1]; exact h2) (fun j hj => by rw [hg j (by omega)]; exact h3 j hj), h2, h3⟩
theorem Ret_ech {b n k v v' : Nat} {M M0 : Mt} {xs : List DV} {od : Bool} {fr : Fr} {H : Hp} {Q : DV → Hp → Prop} (hb : b + n ≤ 1048576) (h1 : lk fr v = .sl 1 xs) (h2 : lk fr v' = .bool od) (hH : ∀ p, lkH H p = lkH (mHp 1048576 b n k M) p)
  (hQ : Q (.tup [.sl 1 xs, .bool od]) (mHp 1048576 b n k M)) : RetPR [.t v, .t v'] (mHp 1048576 b n k M0) Q .ret fr H := by
 have nc : nmH (mHp 1048576 b n k M) 1048576 = some 1048576 := by unfold nmH; rw [mHp_c]; rfl
 have nr : ∀ i, i < n → nmH (mHp 1048576 b n k M) (b + i) = some (b + i) := fun i hi => by unfold nmH; rw [mHp_row M hi (by omega)]; rfl
 refine ⟨.inr rfl, [lk fr v, lk fr v'], _, mHp 1048576 b n k M, hQ, fun o ho h => ?_, rfl, ?_, fun o x ho => ?_⟩
 ·rw [mHp_lk] at h ⊢
  by_cases e : 1048576 = o
  ·rw [if_pos e]; rfl
  ·rw [if_neg e, if_neg (by omega)] at h; cases h
 ·rw [h1, h2]
  show rn _ (.tup [.sl 1 xs, .bool od]) = _
  exact rn_rf _ _ (by simp [DV.rf, DV.rfL])
 ·refine ⟨x, by rw [hH, ho], ?_⟩
  rw [mHp_lk] at ho
  split at ho
  ·cases ho; exact cM_rn nr
  ·split at ho
   ·cases ho; exact map_rf _ (rwC_rf _ _)
   ·cases ho
theorem rr_size {n k : Nat} {M : Mt} {b : Nat} (hM : MS n k M b) : MS n k (rrM n k M) (gB b (rrP n k M).length) := by
 have key : ∀ j, j ≤ k → ∃ R ps, IsRp n k j R ps ∧ KerEq n k M R ∧ MS n k R (gB b ps.length) := by
  intro j
  induction j with
  | zero => exact fun _ => ⟨M, [], IsRp.nil n k M, KerEq.refl _ _ _, hM⟩
  | succ j ih =>
   intro hj
   obtain ⟨R, ps, h1, h2, h3⟩ := ih (by omega)
   by_cases h : ∀ i, ps.length ≤ i → i < n → R i j = 0
   ·exact ⟨R, ps, h1.skip h, h2, h3⟩
   ·obtain ⟨i, hi⟩ := Classical.not_forall.1 h
    have g1 : ps.length ≤ i := Classical.byContradiction fun g => hi fun g' => absurd g' g
    have g2 : i < n := Classical.byContradiction fun g => hi fun _ g' => absurd g' g
    have g3 : R i j ≠ 0 := fun g => hi fun _ _ => g
    obtain ⟨e1, e2⟩ := gstep h1 (by omega) g1 g2 g3
    refine ⟨_, _, e1, h2.trans e2, ?_⟩
    have hl : (ps ++ [j]).length = ps.length + 1 := by simp
    rw [hl]
    refine (h3.swap (a := ps.length) (b := i) (by omega) g2).elimM (by omega) (by omega) ?_
    unfold swapM; rw [if_pos rfl]; exact g3
 obtain ⟨R, ps, h1, h2, h3⟩ := key k (Nat.le_refl k)
 obtain ⟨e1, e2⟩ := rr_eq h1 h2
 rw [← e1]
 intro i hi j hj
 rw [← e2 i hi j hj]
 exact h3 i hi j hj
theorem rrP_len (n k : Nat) (M : Mt) : (rrP n k M).length ≤ n := (rr_is n k M).1.len
theorem mHp_congr {c b n k : Nat} {M M' : Mt} (h : ∀ i, i < n → ∀ j, j < k → M i j = M' i j) : mHp c b n k M = mHp c b n k M' := by
 unfold mHp; rw [DM_congr fun i hi => rwC_congr (h i hi)]
def fwM (c b p : Nat) : Option Nat := if p = c then some 1048576 else if b ≤ p ∧ p < b + 10000 then some (p - b + 100000) else none
def bkM (c b q : Nat) : Option Nat := if q = 1048576 then some c else if 100000 ≤ q ∧ q < 110000 then some (q - 100000 + b) else none
theorem fbM {c b : Nat} (hc : c < b ∨ b + 10000 ≤ c) (p q : Nat) : fwM c b p = some q ↔ bkM c b q = some p := by
 unfold fwM bkM
 constructor
 ·intro h
  split at h
  ·cases h; rename_i e; rw [if_pos rfl, e]
  ·split at h
   ·cases h; rw [if_neg (by omega), if_pos (by omega)]; exact congrArg some (by omega)
   ·cases h
 ·intro h
  split at h
  ·cases h; rename_i e; rw [if_pos rfl, e]
  ·split at h
   ·cases h; rw [if_neg (by omega), if_pos (by omega)]; exact congrArg some (by omega)
   ·cases h
theorem callC_lendM {F : FnD} {os : List DOper} {dst : Dst} {f : Nat} {te fr : Fr} {H : Hp} {K : Fr → Fr → Hp → Prop} (hp : F.pure = false) (c b n k : Nat) (M : Mt) {Q : Mt → DV → Prop} (hb : 100000 ≤ b ∧ b ≤ 600000) (hc : c < 100000 ∨ c = 1048576) (hn : n ≤ 10000)
  (hH : ∀ p, lkH H p = lkH (mHp c b n k M) p) (hR : ∀ M' r, Q M' r → r.rf = true)
  (hm : MRel F.P f [.osl 1 1048576 0 n] (mHp 1048576 100000 n k M) fun r H' => ∃ M', H' = mHp 1048576 100000 n k M' ∧ Q M' r)
  (hK : ∀ M' r, Q M' r → regW F os (dst.onT (mapF (rn (pgN H (fwM c b))) te) r) (dst.onX (mapF (rn (pgN H (fwM c b))) fr) r) (mHp c b n k M') K) : callC F os dst f [.osl 1 c 0 n] te fr H K := by
 have hcb : c < b ∨ b + 10000 ≤ c := by omega
 have hdom : ∀ p q, fwM c b p = some q → (p = c ∧ q = 1048576) ∨ ((b ≤ p ∧ p < b + 10000) ∧ q = p - b + 100000) := fun p q h => by
  unfold fwM at h
  split at h
  ·rename_i e; cases h; exact .inl ⟨e, rfl⟩
  ·split at h
   ·rename_i e; cases h; exact .inr ⟨e, rfl⟩
   ·cases h
 have fc : fwM c b c = some 1048576 := by unfold fwM; rw [if_pos rfl]
 have bc : bkM c b 1048576 = some c := by unfold bkM; rw [if_pos rfl]
 have fr_ : ∀ i, i < n → fwM c b (b + i) = some (100000 + i) := fun i hi => by
  unfold fwM; rw [if_neg (by omega), if_pos (by omega)]; exact congrArg some (by omega)
 have br_ : ∀ i, i < n → bkM c b (100000 + i) = some (b + i) := fun i hi => by
  unfold bkM; rw [if_neg (by omega), if_pos (by omega)]; exact congrArg some (by omega)
 have hds : [DV.osl 1 c 0 n].map (rn (fwM c b)) = [.osl 1 1048576 0 n] := by simp [rn, fc]
 have hcm : ∀ {f : Nat → Option Nat} {x y : Nat}, (∀ i, i < n → f (x + i) = some (y + i)) → (cM x k n).map (rn f) = cM y k n := fun {f x y} h => by
  unfold cM
  rw [List.map_map]
  refine List.map_congr_left fun i hi => ?_
  have := List.mem_range.1 hi
  simp [rn, h i this]
 refine callC_rel hp (fwM c b) (bkM c b) (fbM hcb) (fun p q h1 h2 => ?_) (fun p q h1 => ?_) (Hc := mHp 1048576 100000 n k M) (fun q => ?_) (by rw [hds]; exact hm) ?_
 ·rcases hdom p q h1 with h | h <;> omega
 ·rcases hdom p q h1 with h | h
  ·exact tyNo.eq (by unfold tyNo; omega) (.inr (by omega))
  ·exact tyNo.eq (.inl (by omega)) (.inl (by omega))
 ·cases hq : bkM c b q with
  | none =>
   rw [mHp_lk]
   unfold bkM at hq
   by_cases e1 : q = 1048576
   ·rw [if_pos e1] at hq; cases hq
   ·rw [if_neg e1] at hq
    by_cases e2 : 100000 ≤ q ∧ q < 110000
    ·rw [if_pos e2] at hq; cases hq
    ·rw [if_neg (show ¬ 1048576 = q by omega), if_neg (show ¬ (100000 ≤ q ∧ q < 100000 + n) by omega)]; rfl
  | some p =>
   rcases hdom p q ((fbM hcb p q).2 hq) with ⟨h1, h2⟩ | ⟨h1, h2⟩
   ·subst h1; subst h2
    rw [mHp_c, Option.bind_some, hH, mHp_c, Option.map_some, hcm fr_]
   ·rw [Option.bind_some, hH, mHp_lk, mHp_lk, if_neg (show ¬ 1048576 = q by omega), if_neg (show ¬ c = p by omega)]
    by_cases e : p < b + n
    ·rw [if_pos (show 100000 ≤ q ∧ q < 100000 + n by omega), if_pos (show b ≤ p ∧ p < b + n by omega), Option.map_some, map_rf _ (rwC_rf _ _), show q - 100000 = p - b by omega]
    ·rw [if_neg (show ¬ (100000 ≤ q ∧ q < 100000 + n) by omega), if_neg (show ¬ (b ≤ p ∧ p < b + n) by omega)]; rfl
 ·rintro r Hc' ⟨M', rfl, hQ⟩
  refine ⟨mHp c b n k M', fun p => ?_, ?_⟩
  ·cases hq : fwM c b p with
   | none =>
    simp only
    have h1 : lkH H p = none := by
     rw [hH, mHp_lk]
     unfold fwM at hq
     by_cases e1 : p = c
     ·rw [if_pos e1] at hq; cases hq
     ·rw [if_neg e1] at hq
      by_cases e2 : b ≤ p ∧ p < b + 10000
      ·rw [if_pos e2] at hq; cases hq
      ·rw [if_neg (Ne.symm e1), if_neg (by omega)]
    rw [h1, ← h1, hH, mHp_lk, mHp_lk] 
    rw [hH, mHp_lk] at h1
    by_cases e1 : c = p
    ·rw [if_pos e1] at h1; cases h1
    ·rw [if_neg e1] at h1 ⊢
     by_cases e2 : b ≤ p ∧ p < b + n
     ·rw [if_pos e2] at h1; cases h1
     ·rw [if_neg e2, if_neg e1, if_neg e2]; rfl
   | some q =>
    simp only
    rcases hdom p q hq with ⟨h1, h2⟩ | ⟨h1, h2⟩
    ·subst h1; subst h2
     rw [mHp_c, mHp_c, Option.map_some, hcm br_]
    ·rw [mHp_lk, mHp_lk, if_neg (show ¬ c = p by omega), if_neg (show ¬ 1048576 = q by omega)]
     by_cases e : p < b + n
     ·rw [if_pos (show b ≤ p ∧ p < b + n by omega), if_pos (show 100000 ≤ q ∧ q < 100000 + n by omega), Option.map_some, map_rf _ (rwC_rf _ _), show q - 100000 = p - b by omega]
     ·rw [if_neg (show ¬ (b ≤ p ∧ p < b + n) by omega), if_neg (show ¬ (100000 ≤ q ∧ q < 100000 + n) by omega)]; rfl
  ·rw [rn_rf _ r (hR M' r hQ)]; exact hK M' r hQ
theorem pgN_c {c b : Nat} {H : Hp} : pgN H (fwM c b) c = some c := by
 unfold pgN fwM; rw [if_pos rfl]; simp
theorem elU_H {c b n k t j s : Nat} {S : Mt} {H : Hp} (hs : s < n) (hts : s < t) (hc : c < b ∨ b + n ≤ c) (hH : ∀ p, lkH H p = lkH (mHp c b n k (elimU t j s S)) p) (p : Nat) :
  lkH (setH H (b + s) (rwC k (elR j (elimU t j s S s) (elimU t j s S t)))) p = lkH (mHp c b n k (elimU t j (s + 1) S)) p := by
 rw [lkH_setH, hH, mHp_lk, mHp_lk]
 by_cases e2 : c = p
 ·rw [if_pos e2, if_pos e2, if_neg (by omega)]
 ·rw [if_neg e2, if_neg e2]
  by_cases e3 : p = b + s
  ·subst e3
   rw [if_pos rfl, if_pos (by omega), Nat.add_sub_cancel_left]
   refine congrArg some (rwC_congr fun i _ => ?_)
   rw [elimU_at (Nat.le_refl s), elimU_at (by omega)]
   unfold elimU
   rw [if_pos (by omega)]; rfl
  ·rw [if_neg e3]
   by_cases e4 : b ≤ p ∧ p < b + n
   ·rw [if_pos e4, if_pos e4]
    refine congrArg some (rwC_congr fun i _ => ?_)
    unfold elimU
    by_cases g : p - b < s
    ·rw [if_pos g, if_pos (by omega)]
    ·rw [if_neg g, if_neg (by omega)]
   ·rw [if_neg e4, if_neg e4]
def sclP (t p j : Nat) (M : Mt) : Mt := fun r c => if r = t ∧ c < j then M t c / M t p else M r c
theorem sclP_0 (t p : Nat) (M : Mt) : sclP t p 0 M = M := by
 funext r c; unfold sclP; rw [if_neg (by omega)]
theorem sclP_end {t p k : Nat} {M : Mt} (r c : Nat) (hc : c < k) : sclP t p k M r c = sclM t p M r c := by
 unfold sclP sclM
 by_cases e : r = t
 ·rw [if_pos ⟨e, hc⟩, if_pos e]
 ·rw [if_neg (fun h => e h.1), if_neg e]
theorem sclP_at {t p j : Nat} {M : Mt} : sclP t p j M t j = M t j := by unfold sclP; rw [if_neg (by omega)]
theorem sclP_next (t p j : Nat) (M : Mt) : (∀ c, (if c = j then M t j / M t p else sclP t p j M t c) = sclP t p (j + 1) M t c) ∧ ∀ r c, r ≠ t → sclP t p j M r c = sclP t p (j + 1) M r c := by
 constructor
 ·intro c
  unfold sclP
  by_cases e : c = j
  ·subst e; rw [if_pos rfl, if_pos ⟨rfl, by omega⟩]
  ·rw [if_neg e]
   by_cases e2 : c < j
   ·rw [if_pos ⟨rfl, e2⟩, if_pos ⟨rfl, by omega⟩]
   ·rw [if_neg (by omega), if_neg (by omega)]
 ·intro r c hr
  unfold sclP
  rw [if_neg (fun h => hr h.1), if_neg (fun h => hr h.1)]
theorem Ret_lent {b n k v : Nat} {M M0 : Mt} {xs : List DV} {fr : Fr} {H : Hp} {Q : DV → Hp → Prop} (hb : b + n ≤ 1048576) (h1 : lk fr v = .sl 1 xs) (hH : ∀ p, lkH H p = lkH (mHp 1048576 b n k M) p)
  (hQ : Q (.sl 1 xs) (mHp 1048576 b n k M)) : RetPR [.t v] (mHp 1048576 b n k M0) Q .ret fr H := by
 have nc : nmH (mHp 1048576 b n k M) 1048576 = some 1048576 := by unfold nmH; rw [mHp_c]; rfl
 have nr : ∀ i, i < n → nmH (mHp 1048576 b n k M) (b + i) = some (b + i) := fun i hi => by unfold nmH; rw [mHp_row M hi (by omega)]; rfl
 refine ⟨.inr rfl, [lk fr v], _, mHp 1048576 b n k M, hQ, fun o ho h => ?_, rfl, ?_, fun o x ho => ?_⟩
 ·rw [mHp_lk] at h ⊢
  by_cases e : 1048576 = o
  ·rw [if_pos e]; rfl
  ·rw [if_neg e, if_neg (by omega)] at h; cases h
 ·rw [h1]
  show rn _ (.sl 1 xs) = _
  exact rn_rf _ _ (by simp [DV.rf])
 ·refine ⟨x, by rw [hH, ho], ?_⟩
  rw [mHp_lk] at ho
  split at ho
  ·cases ho; exact cM_rn nr
  ·split at ho
   ·cases ho; exact map_rf _ (rwC_rf _ _)
   ·cases ho
theorem setP_H {c b n k i : Nat} {M M' : Mt} {Z : List DV} (hi : i < n) (hc : c < b ∨ b + n ≤ c) (hZ : Z = rwC k (M' i)) (ho : ∀ r, r < n → r ≠ i → ∀ j, j < k → M r j = M' r j) (q : Nat) :
  lkH ((b + i, Z) :: (c, cM b k n) :: DM b n fun r => rwC k (M r)) q = lkH (mHp c b n k M') q := by
 rw [mHp_lk]
 simp only [lkH]
 by_cases e : b + i = q
 ·subst e
  rw [if_pos rfl, if_neg (by omega), if_pos (by omega), Nat.add_sub_cancel_left, hZ]
 ·rw [if_neg e]
  by_cases e2 : c = q
  ·rw [if_pos e2, if_pos e2]
  ·rw [if_neg e2, if_neg e2, DM_lk]
   by_cases e3 : b ≤ q ∧ q < b + n
   ·rw [if_pos e3, if_pos e3, rwC_congr (ho (q - b) (by omega) (by omega))]
   ·rw [if_neg e3, if_neg e3]
theorem Exp_row {b k i : Nat} {f : Nat → Rat} {H : Hp} (h : lkH H (b + i) = some (rwC k f)) : Exp (lkH H) (.osl 3 (b + i) 0 k) (.sl 3 (rwC k f)) := by
 have hl := rwC_len k f
 refine .osl h (by decide) (by omega) hl fun j d r hd hr => ?_
 rw [List.drop_zero, List.take_of_length_le (by omega)] at hd
 rw [hd] at hr; cases hr
 exact .imm (rwC_rf k f d (List.mem_of_getElem? hd))
theorem Exp_mat {c b n k : Nat} {M : Mt} {H : Hp} (h1 : lkH H c = some (cM b k n)) (h2 : ∀ i, i < n → lkH H (b + i) = some (rwC k (M i))) : Exp (lkH H) (.osl 1 c 0 n) (.sl 1 (mtD n k M)) := by
 have hl := cM_len b k n
 refine .osl h1 (by decide) (by omega) (by rw [mtD_len]; omega) fun j d r hd hr => ?_
 rw [List.drop_zero, List.take_of_length_le (by omega)] at hd
 have hj : j < n := by
  have := (List.getElem?_eq_some_iff.1 hd).1; omega
 unfold cM at hd
 unfold mtD at hr
 rw [List.getElem?_map, List.getElem?_range hj] at hd hr
 cases hd; cases hr
 exact Exp_row (h2 j hj)
theorem PCalls_of_mat {P : Program} {f : Nat} {ds : List DV} {b n k : Nat} {M : Mt} (hb : 1000 < b) (h : MRel P f ds [] fun r H' => r = .osl 1 1000 0 n ∧ H' = mHp 1000 b n k M) : PCalls P f ds (.sl 1 (mtD n k M)) := by
 intro A w us hT hA hs hv
 refine (h A (fun _ => none) w us hT (by intro o b h; cases h) ⟨(by intro o b h; cases h), (by intro o c h; cases h), (by intro o p b h; cases h), (by intro o b h; cases h), (by intro o b h; cases h)⟩ hA hs fun j d v h1 h2 => .imm ((hv j d v h1 h2).mono fun x _ hx => ⟨rfl, ?_⟩)).mono ?_
 ·rintro (g | ⟨o, g⟩)
  ·exact hx g
  ·cases g
 ·rintro e w' ⟨v, L', r, H', ⟨rfl, rfl⟩, rfl, hH, hV, hx, _, _, _⟩
  have := rdo_V hH 2 _ _ hV
  rw [rdo_mat0 (mHp_c _ _ _ _ _) (fun i hi => mHp_row _ hi (.inl hb))] at this
  exact ⟨v, rfl, this, hx.mono fun _ _ ⟨o, ho⟩ => by cases ho⟩
def xOf (n k : Nat) (M : Mt) : List (List XN) := (List.range n).map fun i => (rwL k (M i)).map qX
theorem xOf_len (n k : Nat) (M : Mt) : (xOf n k M).length = n := by unfold xOf; rw [List.length_map, List.length_range]
theorem xOf_row {n k i : Nat} (h : i < n) (M : Mt) : (xOf n k M).getD i [] = (rwL k (M i)).map qX := by
 unfold xOf; rw [List.getD_eq_getElem?_getD, List.getElem?_map, List.getElem?_range h]; rfl
theorem xOf_rowl {n k i : Nat} (h : i < n) (M : Mt) : ((xOf n k M).getD i []).length = k := by rw [xOf_row h, List.length_map, rwL_len]
theorem xOf_at {n k i j : Nat} (h : i < n) (hj : j < k) (M : Mt) : ((xOf n k M).getD i []).getD j default = qX (M i j) := by
 rw [xOf_row h, List.getD_eq_getElem?_getD, List.getElem?_map]
 unfold rwL
 rw [List.getElem?_map, List.getElem?_range hj]; rfl
theorem xOf_D (n k : Nat) (M : Mt) : xrs (xOf n k M) = mtD n k M := by
 rw [mtD_rows]
 unfold xrs xOf
 rw [List.map_map]
 congr 1
 refine List.map_congr_left fun i _ => ?_
 simp only [Function.comp_apply]
 unfold rwC nums
 rw [List.flatMap_map]; rfl
theorem xOf_M {n k : Nat} (M : Mt) : ∀ i, i < n → ∀ j, j < k → mtX (xOf n k M) i j = M i j := fun i hi j hj => by
 unfold mtX; rw [xOf_at hi hj, xnV_q]
theorem xOf_ok {n k : Nat} {M : Mt} {m : Nat} (hM : MS n k M m) (hm : m ≤ 140800) : ∀ i, i < n → ∀ j, j < k → lim (((xOf n k M).getD i []).getD j default).2.1 ∧ lim (((xOf n k M).getD i []).getD j default).2.2 ∧ (((xOf n k M).getD i []).getD j default).2.1.length ≤ 4400 ∧ (((xOf n k M).getD i []).getD j default).2.2.length ≤ 4400 := fun i hi j hj => by
 rw [xOf_at hi hj]
 have h := RB_bs (l := 4400) (hM i hi j hj) (by omega)
 exact ⟨lim_limbs _, lim_dn _, h.1, Nat.le_trans (dn_len _) h.2⟩
noncomputable def aliD (n k : Nat) (M : Mt) : DV := .tup [.sl 1 ((List.range k).map fun c => .bool (decide (c ∈ rrP n k M))), .sl 1 (mtD k (rrP n k M).length fun c a => rrM n k M a c), .int .i64 0]
def trnP (M : Mt) (i j : Nat) : Mt := fun r c => if c < i ∨ (c = i ∧ r < j) then M c r else 0
theorem trnP_next (M : Mt) (i j : Nat) : (∀ c, (if c = i then M i j else trnP M i j j c) = trnP M i (j + 1) j c) ∧ ∀ r c, r ≠ j → trnP M i j r c = trnP M i (j + 1) r c := by
 constructor
 ·intro c
  unfold trnP
  by_cases e : c = i
  ·subst e; rw [if_pos rfl, if_pos (.inr ⟨rfl, by omega⟩)]
  ·rw [if_neg e]
   by_cases e2 : c < i
   ·rw [if_pos (.inl e2), if_pos (.inl e2)]
   ·rw [if_neg (by omega), if_neg (by omega)]
 ·intro r c hr
  unfold trnP
  by_cases e : c < i
  ·rw [if_pos (.inl e), if_pos (.inl e)]
  ·by_cases e2 : c = i ∧ r < j
   ·rw [if_pos (.inr e2), if_pos (.inr ⟨e2.1, by omega⟩)]
   ·rw [if_neg (by omega), if_neg (by omega)]
theorem any_memN (c : Nat) (l : List Nat) : (l.any fun p => decide (c = p)) = decide (c ∈ l) := by
 rw [Bool.eq_iff_iff, List.any_eq_true, decide_eq_true_eq]
 constructor
 ·rintro ⟨x, h1, h2⟩; rw [decide_eq_true_eq] at h2; rw [h2]; exact h1
 ·intro h; exact ⟨c, h, by simp⟩
theorem rwC_take {n p : Nat} (h : p ≤ n) (f : Nat → Rat) : (rwC n f).take (p * 3) = rwC p f := by
 unfold rwC nums
 rw [fm_take numC_len]
 unfold rwL
 rw [← List.map_take, List.take_range, Nat.min_eq_left h]
def blD (ps : List Nat) (c : Nat) : List DV := (List.range c).map fun c => .bool (decide (c ∈ ps))
theorem blD_len (ps : List Nat) (c : Nat) : (blD ps c).length = c := by unfold blD; rw [List.length_map, List.length_range]
theorem blD_rf (ps : List Nat) (c : Nat) : ∀ d ∈ blD ps c, d.rf = true := by
 intro d hd; obtain ⟨_, _, rfl⟩ := List.mem_map.1 hd; rfl
theorem blD_succ (ps : List Nat) (c : Nat) : blD ps c ++ [.bool (decide (c ∈ ps))] = blD ps (c + 1) := by
 unfold blD; rw [List.range_succ, List.map_append]; rfl
theorem mtD_succ (n k : Nat) (M : Mt) : mtD n k M ++ [.sl 3 (rwC k (M n))] = mtD (n + 1) k M := by
 unfold mtD; rw [List.range_succ, List.map_append]; rfl
theorem Exp_flat {o sz m : Nat} {cells : List DV} {H : Hp} (h : lkH H o = some cells) (hz : sz ≠ 0) (hl : cells.length = m * sz) (hr : ∀ d ∈ cells, d.rf = true) : Exp (lkH H) (.osl sz o 0 m) (.sl sz cells) := by
 refine .osl h hz (by omega) hl fun j d r hd hr' => ?_
 rw [List.drop_zero, List.take_of_length_le (by omega)] at hd
 rw [hd] at hr'; cases hr'
 exact .imm (hr d (List.mem_of_getElem? hd))
theorem mtD_set {n k i : Nat} (M : Mt) (f : Nat → Rat) (h : i < n) : (mtD n k M).set i (.sl 3 (rwC k f)) = mtD n k fun r => if r = i then f else M r := by
 apply List.ext_getElem?
 intro j
 unfold mtD
 rw [List.getElem?_set, List.length_map, List.length_range, List.getElem?_map, List.getElem?_map]
 by_cases e : i = j
 ·subst e; rw [if_pos rfl, if_pos h, List.getElem?_range h, Option.map_some]; simp only [if_true]
 ·rw [if_neg e]
  by_cases hj : j < n
  ·rw [List.getElem?_range hj, Option.map_some, Option.map_some]; simp only [if_neg (Ne.symm e)]
  ·rw [List.getElem?_eq_none (by rw [List.length_range]; omega)]; rfl
theorem mtD_swap {n k a b : Nat} (M : Mt) (ha : a < n) (hb : b < n) : ((mtD n k M).set b (.sl 3 (rwC k (M a)))).set a (.sl 3 (rwC k (M b))) = mtD n k (swapM a b M) := by
 rw [mtD_set M (M a) hb, mtD_set _ (M b) ha]
 refine congrArg (mtD n k) ?_
 funext r c
 unfold swapM
 by_cases e : r = a
 ·rw [if_pos e, if_pos e]
 ·rw [if_neg e, if_neg e]
  by_cases e2 : r = b
  ·rw [if_pos e2, if_pos e2]
  ·rw [if_neg e2, if_neg e2]
def elP (t j i : Nat) (S : Mt) : Mt := fun r c => if r = t then S t c * (1 / S t j) else if r < i then S r c + S t c * (1 / S t j) * (-(S r j)) else S r c
theorem elP_0 (t j : Nat) (S : Mt) : (fun r => if r = t then (fun c => S t c * (1 / S t j)) else S r) = elP t j 0 S := by
 funext r c
 unfold elP
 by_cases e : r = t
 ·rw [if_pos e, if_pos e]
 ·rw [if_neg e, if_neg e, if_neg (Nat.not_lt_zero r)]
theorem elP_end {t j n : Nat} {S : Mt} : ∀ r, r < n → ∀ c, elP t j n S r c = elimM t j S r c := fun r hr c => by
 unfold elP elimM
 by_cases e : r = t
 ·rw [if_pos e, if_pos e]
 ·rw [if_neg e, if_neg e, if_pos hr]
theorem elP_t (t j i : Nat) (S : Mt) (c : Nat) : elP t j i S t c = S t c * (1 / S t j) := by unfold elP; rw [if_pos rfl]
theorem elP_i {t j i : Nat} {S : Mt} (h : i ≠ t) : elP t j i S i = S i := by funext c; unfold elP; rw [if_neg h, if_neg (Nat.lt_irrefl i)]
theorem elP_skip (t j : Nat) (S : Mt) : elP t j t S = elP t j (t + 1) S := by
 funext r c
 unfold elP
 by_cases e : r = t
 ·rw [if_pos e, if_pos e]
 ·rw [if_neg e, if_neg e]
  by_cases e2 : r < t
  ·rw [if_pos e2, if_pos (by omega)]
  ·rw [if_neg e2, if_neg (by omega)]
theorem elP_next {t j i : Nat} {S : Mt} (h : i ≠ t) : (fun r => if r = i then (fun c => S i c + elP t j i S t c * (-(S i j))) else elP t j i S r) = elP t j (i + 1) S := by
 funext r c
 by_cases e : r = i
 ·subst e
  rw [if_pos rfl, elP_t]
  unfold elP
  rw [if_neg h, if_pos (by omega)]
 ·rw [if_neg e]
  unfold elP
  by_cases e1 : r = t
  ·rw [if_pos e1, if_pos e1]
  ·rw [if_neg e1, if_neg e1]
   by_cases e2 : r < i
   ·rw [if_pos e2, if_pos (by omega)]
   ·rw [if_neg e2, if_neg (by omega)]
theorem callC_any {F : FnD} {os : List DOper} {dst : Dst} {f : Nat} {ds : List DV} {te fr : Fr} {H : Hp} {K : Fr → Fr → Hp → Prop} (hp : F.pure = false) {Q : DV → Prop} (hrf : ds.all DV.rf = true)
  (hc : MRel F.P f ds [] fun r H' => Q r ∧ H' = []) (hQ : ∀ r, Q r → r.rf = true) (hK : ∀ r, Q r → regW F os (dst.onT te r) (dst.onX fr r) H K) : callC F os dst f ds te fr H K := by
 have hpg : pgN H (fun _ => none) = some := funext fun p => rfl
 have hds : ds.map (rn fun _ => none) = ds := map_rf _ (List.all_eq_true.1 hrf)
 refine callC_rel hp (fun _ => none) (fun _ => none) (fun p q => ⟨fun h => (by cases h), fun h => (by cases h)⟩) (fun p q h => (by cases h)) (fun p q h => (by cases h)) (Hc := []) (fun q => rfl) (by rw [hds]; exact hc) ?_
 rintro r Hc' ⟨hr, rfl⟩
 refine ⟨H, fun p => ?_, ?_⟩
 ·rw [hpg]
  show lkH H p = (lkH H p).map _
  cases lkH H p with
  | none => rfl
  | some c => rw [Option.map_some, map_rn_id (fun _ => rfl)]
 ·rw [hpg, mapF_id (fun _ => rfl), mapF_id (fun _ => rfl), rn_rf _ r (hQ r hr)]; exact hK r hr
theorem rdo_flat {o sz m : Nat} {cells : List DV} {H : Hp} (h : lkH H o = some cells) (hz : sz ≠ 0) (hl : cells.length = m * sz) (hr : ∀ d ∈ cells, d.rf = true) : rdo H 1 (.osl sz o 0 m) = .sl sz cells := by
 show (match lkH H o with | some cells => _ | none => _) = _
 rw [h]
 simp only
 rw [if_pos ⟨hz, by omega⟩, List.drop_zero, List.take_of_length_le (by omega)]
 congr 1
 conv => rhs; rw [← List.map_id cells]
 exact List.map_congr_left fun d hd => rdo_rf H 0 (hr d hd)
def fstR (M : Mt) (n j t a : Nat) : Prop := t ≤ a ∧ a ≤ n ∧ ∀ r, t ≤ r → r < a → M r j = 0
theorem blD_get {ps : List Nat} {k i : Nat} (h : i < k) (d : DV) : (blD ps k).getD i d = .bool (decide (i ∈ ps)) := by
 unfold blD; rw [List.getD_eq_getElem?_getD, List.getElem?_map, List.getElem?_range h]; rfl
end Nat32
namespace Nat32
open Go Go.Dat
open Go.Lib (decDigits)
def idx (p : UInt8 → Bool) (l : List UInt8) : Int := if fi p l < l.length then (fi p l : Int) else -1
end Nat32
namespace Nat32
open Go Go.Dat
def scT (c : Rat) (x : Tc) : Tc := ⟨x.mi, qX (xnV x.va * c), x.lv⟩
def scX (c : Rat) (t : Tx) : Tx := (t.1, t.2.map (scT c))
def scL (k : Nat) (c : Rat) (T : List Tx) : List Tx := T.set k (scX c (T.getD k default))
section
variable {pq : Bs → Option Rat} {fs : List Fx} {k : Nat} {c : Rat} (hk : k < fs.length) (h1 : (fs.getD k default).kd = 1)
include hk h1
omit hk h1 in
omit h1 in
omit hk h1 in
end
end Nat32
namespace Nat32
open Go Go.Dat
def numQ (z : Int) : Rat := Rat.divInt (z % 61 - 30) (1 + (Int.tdiv z 61) % 4)
def usL : List DV → Option (List Nat)
 | [] => some []
 | .int .u32 z :: r => if 0 ≤ z ∧ z < 4294967296 then (usL r).map (z.toNat :: ·) else none
 | _ => none
theorem usL_ok : ∀ {ds : List DV} {l : List Nat}, usL ds = some l → ds = us l ∧ lim l
 | [], l, h => by simp only [usL, Option.some.injEq] at h; subst h; exact ⟨rfl, lim_nil⟩
 | d :: ds, l, h => by
  unfold usL at h
  split at h
  ·rename_i e; cases e
  ·rename_i e
   cases e
   split at h
   ·rename_i hz
    rw [Option.map_eq_some_iff] at h
    obtain ⟨m, hm, rfl⟩ := h
    obtain ⟨h1, h2⟩ := usL_ok hm
    refine ⟨?_, ?_⟩
    ·rw [h1]
     simp only [us, List.map_cons, List.cons.injEq, and_true]
     unfold u32; rw [Int.toNat_of_nonneg hz.1]
    ·intro x hx
     rcases List.mem_cons.1 hx with rfl | hx
     ·omega
     ·exact h2 x hx
   ·cases h
  ·cases h
def usOf : DV → Option (List Nat)
 | .sl s xs => if s = 1 then usL xs else none
 | .nils => some []
 | _ => none
theorem usOf_ok {d : DV} {l : List Nat} (h : usOf d = some l) : WkD d (.sl 1 (us l)) ∧ lim l := by
 unfold usOf at h
 split at h
 ·split at h
  ·rename_i hs
   subst hs
   obtain ⟨h1, h2⟩ := usL_ok h
   rw [h1]; exact ⟨WkD.refl _, h2⟩
  ·cases h
 ·cases h; exact ⟨WkD.nils 1, lim_nil⟩
 ·cases h
def xnOf : DV → Option XN
 | .agg [.bool b, x, y] => (usOf x).bind fun l => (usOf y).map fun m => (b, l, m)
 | _ => none
theorem xnOf_ok {d : DV} {x : XN} (h : xnOf d = some x) : WkD d (.agg (xnC x)) ∧ lim x.2.1 ∧ lim x.2.2 := by
 unfold xnOf at h
 split at h
 ·rename_i b p q
  rw [Option.bind_eq_some_iff] at h
  obtain ⟨l, h1, h⟩ := h
  rw [Option.map_eq_some_iff] at h
  obtain ⟨m, h2, rfl⟩ := h
  obtain ⟨a1, a2⟩ := usOf_ok h1
  obtain ⟨b1, b2⟩ := usOf_ok h2
  exact ⟨WkD.agg (.cons (WkD.refl _) (.cons a1 (.cons b1 .nil))), a2, b2⟩
 ·cases h
def k1 (f : XN → Option DV) : List DV → Option DV
 | [d] => (xnOf d).bind f
 | _ => none
theorem k1_ok {P : Program} {fn : Nat} {f : XN → Option DV} (h : ∀ x r, lim x.2.1 → lim x.2.2 → f x = some r → PCalls P fn [.agg (xnC x)] r) : ∀ ds r, k1 f ds = some r → PCalls P fn ds r := fun ds r hr => by
 unfold k1 at hr
 split at hr
 ·rw [Option.bind_eq_some_iff] at hr
  obtain ⟨x, h1, h2⟩ := hr
  obtain ⟨a, b, c⟩ := xnOf_ok h1
  exact PCalls_wk (.cons a .nil) (h x r b c h2)
 ·cases hr
def k2 (f : XN → XN → Option DV) : List DV → Option DV
 | [d, e] => (xnOf d).bind fun x => (xnOf e).bind fun y => f x y
 | _ => none
theorem k2_ok {P : Program} {fn : Nat} {f : XN → XN → Option DV} (h : ∀ x y r, lim x.2.1 → lim x.2.2 → lim y.2.1 → lim y.2.2 → f x y = some r → PCalls P fn [.agg (xnC x), .agg (xnC y)] r) : ∀ ds r, k2 f ds = some r → PCalls P fn ds r := fun ds r hr => by
 unfold k2 at hr
 split at hr
 ·rw [Option.bind_eq_some_iff] at hr
  obtain ⟨x, h1, hr⟩ := hr
  rw [Option.bind_eq_some_iff] at hr
  obtain ⟨y, h2, h3⟩ := hr
  obtain ⟨a, b, c⟩ := xnOf_ok h1
  obtain ⟨a', b', c'⟩ := xnOf_ok h2
  exact PCalls_wk (.cons a (.cons a' .nil)) (h x y r b c b' c' h3)
 ·cases hr
def smX (m : Nat) (x : XN) : Bool := decide (x.2.1.length ≤ m) && decide (x.2.2.length ≤ m)
theorem smX_ok {m : Nat} {x : XN} (h : smX m x = true) : x.2.1.length ≤ m ∧ x.2.2.length ≤ m := by
 unfold smX at h
 simpa using h
def kI (f : Int → Option DV) : List DV → Option DV
 | [.int .i64 z] => if -9223372036854775808 ≤ z ∧ z ≤ 9223372036854775807 then f z else none
 | _ => none
theorem kI_ok {P : Program} {fn : Nat} {f : Int → Option DV} (h : ∀ z r, -9223372036854775808 ≤ z → z ≤ 9223372036854775807 → f z = some r → PCalls P fn [.int .i64 z] r) : ∀ ds r, kI f ds = some r → PCalls P fn ds r := fun ds r hr => by
 unfold kI at hr
 split at hr
 ·split at hr
  ·rename_i hz; exact h _ r hz.1 hz.2 hr
  ·cases hr
 ·cases hr
structure Fac where
 nm : List UInt8
 pw : Int
 deriving Inhabited, DecidableEq
def fcC (f : Fac) : List DV := [.str f.nm, .int .i64 f.pw]
theorem fcC_len (f : Fac) : (fcC f).length = 2 := rfl
def fcs (l : List Fac) : List DV := l.flatMap fcC
theorem fcs_len (l : List Fac) : (fcs l).length = l.length * 2 := fm_len fcC_len l
theorem fcC_rf (f : Fac) : ∀ d ∈ fcC f, d.rf = true := by
 intro d hd
 simp only [fcC, List.mem_cons, List.not_mem_nil, or_false] at hd
 rcases hd with rfl | rfl <;> rfl
theorem fcC_one (f : Fac) : ∀ d ∈ fcC f, d.one = true := by
 intro d hd
 simp only [fcC, List.mem_cons, List.not_mem_nil, or_false] at hd
 rcases hd with rfl | rfl <;> rfl
theorem fcs_rf (l : List Fac) : ∀ d ∈ fcs l, d.rf = true := fm_rf fcC_rf l
theorem fcs_one (l : List Fac) : ∀ d ∈ fcs l, d.one = true := fm_one fcC_one l
theorem rep2 (m : Nat) (a b : DV) (h : [a, b].all DV.rf = true) : (rep m [a, b]).length = m * 2 ∧ ∀ x ∈ rep m [a, b], x.rf = true := by
 show ((List.replicate m [a, b]).flatten).length = m * 2 ∧ ∀ x ∈ (List.replicate m [a, b]).flatten, x.rf = true
 constructor
 ·induction m with
  | zero => rfl
  | succ m ih => rw [List.replicate_succ, List.flatten_cons, List.length_append, ih]; show 2 + m * 2 = _; omega
 ·intro x hx
  obtain ⟨l, h1, h2⟩ := List.mem_flatten.1 hx
  rw [(List.mem_replicate.1 h1).2] at h2
  exact List.all_eq_true.1 h x h2
def ctE (k n i j : Nat) : Int :=
 let b : Bool → Int := fun c => if c then 1 else 0
 if k = 1 then b (decide (i = j + 1)) else if k = 2 then b (decide (i = j)) - b (decide (i = n - 1)) else if k = 3 then (j + 1) * b (decide (i = j + 1)) - b (decide (i ≤ j)) else b (decide (i = j))
def ctC (k n : Nat) : Nat := if k = 4 then n else n - 1
def ctD (k n : Nat) : DV := .tup [.sl 1 ((List.range n).map fun i => .sl 3 ((List.range (ctC k n)).flatMap fun j => xnC (qX (ctE k n i j)))), .int .i64 0]
def ctK : List DV → Option DV
 | [.int .i64 k, .int .i64 n] => if 1 ≤ k ∧ k ≤ 4 ∧ 2 ≤ n ∧ n ≤ 3 then some (ctD k.toNat n.toNat) else none
 | _ => none
def codK : List DV → Option DV
 | [.el B 0, .sl 2 [.str n, .int .i64 p], .agg [.str n', .int .i64 p']] => if B.all DV.rf && decide (B.length = 6) && decide (n = n') && decide (p = p') then (match B.getD 3 .undef with
  | .bool true => some (B.getD 5 .undef)
  | .bool false => some (.int .i64 4)
  | _ => none) else none
 | _ => none
def mdM (l : List Int) (k : Nat) : Mt := fun i j => numQ (l.getD (i * k + j) 0)
theorem numQ_BS (z : Int) : BS (numQ z) 5 := by
 have b1 := Int.emod_nonneg z (show (61 : Int) ≠ 0 by decide)
 have b2 := Int.emod_lt_of_pos z (show (0 : Int) < 61 by decide)
 have b3 := Int.emod_nonneg (Int.tdiv z 61) (show (4 : Int) ≠ 0 by decide)
 have b4 := Int.emod_lt_of_pos (Int.tdiv z 61) (show (0 : Int) < 4 by decide)
 unfold numQ
 exact BS_divInt (by omega) (by omega) (by omega)
theorem BS_sum {m : Nat} {f : Nat → Rat} : ∀ {n : Nat}, (∀ i, i < n → BS (f i) m) → BS (sumQ n f) (1 + n * (m + 1))
 | 0, _ => BS_0.mono (by omega)
 | n + 1, h => by
  have h1 := BS_sum (n := n) fun i hi => h i (by omega)
  have := BS_add h1 (h n (by omega))
  refine BS.mono this ?_
  rw [Nat.succ_mul]; omega
def fltP (ps : List Nat) (c : Nat) : List Nat := (List.range c).filter fun x => decide (x ∈ ps)
theorem fltP_succ (ps : List Nat) (c : Nat) : fltP ps (c + 1) = if c ∈ ps then fltP ps c ++ [c] else fltP ps c := by
 unfold fltP
 rw [List.range_succ, List.filter_append]
 by_cases h : c ∈ ps <;> simp [h]
theorem fltP_all {n k : Nat} {R : Mt} {ps : List Nat} (h : IsR n k R ps) : fltP ps k = ps := by
 refine inc_ext ?_ (inc_pw h.inc) fun x => ?_
 ·exact List.Pairwise.filter _ List.pairwise_lt_range
 ·unfold fltP
  rw [List.mem_filter, List.mem_range]
  refine ⟨fun g => of_decide_eq_true g.2, fun g => ⟨?_, decide_eq_true g⟩⟩
  obtain ⟨a, ha, rfl⟩ := piv_ix g
  exact h.lt a ha
theorem fltP_len (ps : List Nat) (c : Nat) : (fltP ps c).length ≤ c := by
 unfold fltP
 have := List.length_filter_le (fun x => decide (x ∈ ps)) (List.range c)
 rwa [List.length_range] at this
section
open Go.RowKit Go.ChangeShapes Go.WideShapes Go.Joins Go.Deep
variable {H : Type} {enc : TypeId × Value → H} {P : Program} {w : World} {base : Nat} {spare : Nat → Bool} {held : Bool}
theorem vi_intsB {r : Reach} {b0 : Nat} {t e : TypeId} {v : Value} {d : DataW H} {p : List MemPlace} (ht : P.underlying t = some (.slice e)) (he : P.underlying e = some (.int .i64)) (hc : P.cellsOf e = 1)
  (hv : Value.okWide P w r b0 t v) (h : DataW.Trod enc P w base spare held t v d p) : ∃ l : List Int, l.length ≤ 9223372036854775807 ∧ (∀ z ∈ l, -9223372036854775808 ≤ z ∧ z ≤ 9223372036854775807) ∧ VI w (fun _ => False) (.sl 1 (l.map (.int .i64))) v := by
 obtain ⟨a, len, cap, rfl⟩ := okWide_slice ht hv
 obtain ⟨fuel, hf⟩ := h
 obtain ⟨l, h1, h2, h3⟩ := vi_slice (w := w) (enc := enc) (base := base) (spare := spare) (held := held) (DV.int .i64) (fun z => -9223372036854775808 ≤ z ∧ z ≤ 9223372036854775807) ht hc (fun n u y hy => by
  obtain ⟨z, hz, _, hw⟩ := DataW.trod_int he hy
  simp only [List.cons.injEq, and_true] at hz
  subst hz
  unfold Lit.wf at hw
  simp only [Bool.and_eq_true, decide_eq_true_eq] at hw
  exact ⟨z, hw, .int _ _⟩) (by simpa [Value.cells] using hf)
 exact ⟨l, h2, h1, h3⟩
end
end Nat32
namespace Nat32
open Go Go.Dat Go.RowKit Go.ChangeShapes Go.WideShapes Go.Joins Go.Deep
inductive Ty where
 | int (k : IntKind)
 | bool
 | str
 | sl (e : Ty)
 | unit
 | pair (f r : Ty)
def Ty.size : Ty → Nat
 | .unit => 0
 | .pair f r => f.size + r.size
 | _ => 1
def IsD : Ty → List DV → Prop
 | .int k, ds => ∃ n, (Lit.int k n).wf = true ∧ ds = [.int k n]
 | .bool, ds => ∃ b, ds = [.bool b]
 | .str, ds => ∃ s : Bs, s.length ≤ 9223372036854775807 ∧ ds = [.str s]
 | .sl e, ds => ∃ zs : List (List DV), (∀ z ∈ zs, IsD e z) ∧ zs.length ≤ 9223372036854775807 ∧ ds = [.sl e.size zs.flatten]
 | .unit, ds => ds = []
 | .pair f r, ds => ∃ a b, IsD f a ∧ IsD r b ∧ ds = a ++ b
theorem IsD.len : ∀ {τ : Ty} {ds : List DV}, IsD τ ds → ds.length = τ.size
 | .int k, _, ⟨_, _, h⟩ => by rw [h]; rfl
 | .bool, _, ⟨_, h⟩ => by rw [h]; rfl
 | .str, _, ⟨_, _, h⟩ => by rw [h]; rfl
 | .sl e, _, ⟨_, _, _, h⟩ => by rw [h]; rfl
 | .unit, _, h => by rw [show _ = [] from h]; rfl
 | .pair f r, _, ⟨a, b, ha, hb, h⟩ => by rw [h, List.length_append, ha.len, hb.len]; rfl
section
variable (P : Program)
end
section
variable {H : Type} {enc : TypeId × Value → H} {P : Program} {w : World} {base : Nat} {spare : Nat → Bool} {held : Bool}
end
end Nat32
