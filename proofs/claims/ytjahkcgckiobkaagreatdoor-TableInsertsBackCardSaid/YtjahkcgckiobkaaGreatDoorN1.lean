/- Lemmas of the walk; no conditions beyond those that each states. -/
import Derived.Lib.SplitLaws
import Derived.OpenShut
import Derived.Below
import Derived.Lib.SmallJoins
import Derived.ShutString
import Derived.Lib.ItoaNum
import Derived.Lib.Repeat
import Derived.Lib.Bytealg
import Derived.Lib.IndexAny
import Derived.Lib.TrimByte
import Derived.Lib.Strings
import Derived.Test.YtjahkcgckiobkaaGreatDoorD2
import Derived.Test.YtjahkcgckiobkaaGreatDoorD3
set_option linter.unusedSimpArgs false
set_option linter.unusedVariables false
set_option linter.unnecessarySimpa false
set_option maxHeartbeats 4000000
namespace Nat32
def B : Nat := 4294967296
def nv : List Nat → Nat
 | [] => 0
 | x :: r => x + 4294967296 * nv r
def limbs (n : Nat) : List Nat := if h : n = 0 then [] else (n % 4294967296) :: limbs (n / 4294967296)
 termination_by n
 decreasing_by omega
def lim (a : List Nat) : Prop := ∀ x ∈ a, x < 4294967296
def vld (a : List Nat) : Bool := decide (a.length = 0 ∨ a.getD (a.length - 1) 0 ≠ 0)
def val (a : List Nat) : List Nat := if vld a then a else []
def trimN (a : List Nat) : Nat → Nat
 | 0 => 0
 | n + 1 => if a.getD n 0 = 0 then trimN a n else n + 1
def trimL (a : List Nat) : List Nat := a.take (trimN a a.length)
theorem limbs_zero : limbs 0 = [] := by rw [limbs]; simp
theorem limbs_pos {n : Nat} (h : n ≠ 0) : limbs n = (n % 4294967296) :: limbs (n / 4294967296) := by rw [limbs]; simp [h]
theorem limbs_eq_nil {n : Nat} : limbs n = [] ↔ n = 0 := by
 constructor
 ·intro h; rcases Nat.eq_zero_or_pos n with e | e
  ·exact e
  ·rw [limbs_pos (by omega)] at h; cases h
 ·rintro rfl; exact limbs_zero
theorem nv_limbs (n : Nat) : nv (limbs n) = n := by
 induction n using Nat.strongRecOn with
 | _ n ih =>
  by_cases h : n = 0
  ·subst h; rw [limbs_zero]; rfl
  ·rw [limbs_pos h, nv, ih _ (by omega)]; omega
theorem lim_limbs (n : Nat) : lim (limbs n) := by
 induction n using Nat.strongRecOn with
 | _ n ih =>
  by_cases h : n = 0
  ·subst h; rw [limbs_zero]; intro x hx; cases hx
  ·rw [limbs_pos h]
   intro x hx
   rcases List.mem_cons.1 hx with e | e
   ·subst e; omega
   ·exact ih _ (by omega) x e
theorem lim_nil : lim [] := by intro x hx; cases hx
theorem lim_cons {x : Nat} {r : List Nat} : lim (x :: r) ↔ x < 4294967296 ∧ lim r := by
 constructor
 ·intro h; exact ⟨h x (by simp), fun y hy => h y (by simp [hy])⟩
 ·rintro ⟨h1, h2⟩ y hy
  rcases List.mem_cons.1 hy with e | e
  ·subst e; exact h1
  ·exact h2 y e
theorem lim_take {a : List Nat} (h : lim a) (n : Nat) : lim (a.take n) := fun x hx => h x (List.mem_of_mem_take hx)
theorem lim_getD {a : List Nat} (h : lim a) (k : Nat) : a.getD k 0 < 4294967296 := by
 rw [List.getD_eq_getElem?_getD]
 cases e : a[k]? with
 | none => simp
 | some x => exact h x (List.mem_of_getElem? e)
theorem vld_cons {x y : Nat} {r : List Nat} : vld (x :: y :: r) = vld (y :: r) := by
 unfold vld
 simp [List.getD_eq_getElem?_getD]
theorem limbs_nv {a : List Nat} (hl : lim a) (hv : vld a = true) : limbs (nv a) = a := by
 induction a with
 | nil => exact limbs_zero
 | cons x r ih =>
  obtain ⟨hx, hr⟩ := lim_cons.1 hl
  cases r with
  | nil =>
   have : x ≠ 0 := by simpa [vld] using hv
   simp only [nv, Nat.mul_zero, Nat.add_zero]
   rw [limbs_pos this, Nat.mod_eq_of_lt hx, Nat.div_eq_of_lt hx, limbs_zero]
  | cons y r =>
   rw [vld_cons] at hv
   have h := ih hr hv
   have hne : nv (y :: r) ≠ 0 := by
    intro e; rw [e, limbs_zero] at h; cases h
   rw [nv, limbs_pos (by omega)]
   have e1 : (x + 4294967296 * nv (y :: r)) % 4294967296 = x := by omega
   have e2 : (x + 4294967296 * nv (y :: r)) / 4294967296 = nv (y :: r) := by omega
   rw [e1, e2, h]
theorem nv_app (a b : List Nat) : nv (a ++ b) = nv a + 4294967296 ^ a.length * nv b := by
 induction a with
 | nil => simp [nv]
 | cons x a ih =>
  simp only [List.cons_append, nv, ih, List.length_cons, Nat.pow_succ, Nat.mul_add]
  rw [← Nat.mul_assoc, Nat.mul_comm (4294967296 ^ a.length) 4294967296]
  omega
theorem take_succ_getD {a : List Nat} {n : Nat} (h : n < a.length) : a.take (n + 1) = a.take n ++ [a.getD n 0] := by
 rw [List.take_succ_eq_append_getElem h, List.getD_eq_getElem?_getD, List.getElem?_eq_getElem h]; rfl
theorem nv_take_succ {a : List Nat} {n : Nat} (h : n < a.length) : nv (a.take (n + 1)) = nv (a.take n) + 4294967296 ^ n * a.getD n 0 := by
 rw [take_succ_getD h, nv_app]
 rw [List.length_take, Nat.min_eq_left (by omega)]; simp [nv]
theorem trimN_le (a : List Nat) : ∀ n, trimN a n ≤ n
 | 0 => Nat.le_refl _
 | n + 1 => by
  have := trimN_le a n
  simp only [trimN]; split <;> omega
theorem trimN_spec (a : List Nat) : ∀ n, n ≤ a.length → nv (a.take (trimN a n)) = nv (a.take n) ∧ vld (a.take (trimN a n)) = true
 | 0, _ => by simp [trimN, nv, vld]
 | n + 1, h => by
  simp only [trimN]
  split
  ·rename_i h0
   obtain ⟨h1, h2⟩ := trimN_spec a n (by omega)
   refine ⟨?_, h2⟩
   rw [h1, nv_take_succ (by omega), h0]; omega
  ·rename_i h0
   refine ⟨rfl, ?_⟩
   unfold vld
   rw [take_succ_getD (by omega)]
   simp only [decide_eq_true_eq]
   right
   have hl : (a.take n).length = n := by simp; omega
   simp only [List.length_append, hl, List.length_singleton, Nat.add_sub_cancel]
   rw [List.getD_eq_getElem?_getD, List.getElem?_append_right (by omega), hl]
   simpa using h0
theorem trimL_limbs {a : List Nat} (hl : lim a) : trimL a = limbs (nv a) := by
 obtain ⟨h1, h2⟩ := trimN_spec a a.length (Nat.le_refl _)
 rw [List.take_length] at h1
 have := limbs_nv (lim_take hl (trimN a a.length)) h2
 rw [h1] at this
 exact this.symm
theorem lim_val {a : List Nat} (h : lim a) : lim (val a) := by unfold val; split; exact h; exact lim_nil
theorem vld_val (a : List Nat) : vld (val a) = true := by
 unfold val
 by_cases h : vld a = true
 ·rw [if_pos h]; exact h
 ·rw [if_neg h]; rfl
def vn (a : List Nat) : Nat := nv (val a)
theorem val_limbs {a : List Nat} (h : lim a) : val a = limbs (vn a) := (limbs_nv (lim_val h) (vld_val a)).symm
theorem val_len (a : List Nat) : (val a).length ≤ a.length := by unfold val; split <;> simp
theorem vld_limbs (n : Nat) : vld (limbs n) = true := by
 have : ∀ n, ∀ k, k ≤ n → vld (limbs k) = true := by
  intro n
  induction n with
  | zero => intro k hk; have : k = 0 := by omega
            subst this; rw [limbs_zero]; rfl
  | succ n ih =>
   intro k hk
   by_cases h : k = 0
   ·subst h; rw [limbs_zero]; rfl
   ·rw [limbs_pos h]
    by_cases h2 : k / 4294967296 = 0
    ·rw [h2, limbs_zero]
     have : k % 4294967296 ≠ 0 := by omega
     simp [vld, this]
    ·have := ih (k / 4294967296) (by omega)
     rw [limbs_pos h2] at this ⊢
     rw [vld_cons]; exact this
 exact this n n (Nat.le_refl _)
theorem vn_limbs (n : Nat) : vn (limbs n) = n := by rw [vn, val, vld_limbs, if_pos rfl, nv_limbs]
theorem limbs_inj {m n : Nat} (h : limbs m = limbs n) : m = n := by rw [← nv_limbs m, h, nv_limbs]
theorem nv_lt {a : List Nat} (h : lim a) : nv a < 4294967296 ^ a.length := by
 induction a with
 | nil => simp [nv]
 | cons x r ih =>
  obtain ⟨hx, hr⟩ := lim_cons.1 h
  have := ih hr
  simp only [nv, List.length_cons, Nat.pow_succ]
  omega
theorem limbs_len {n k : Nat} : (limbs n).length ≤ k ↔ n < 4294967296 ^ k := by
 constructor
 ·intro h
  have := nv_lt (lim_limbs n)
  rw [nv_limbs] at this
  exact Nat.lt_of_lt_of_le this (Nat.pow_le_pow_right (by decide) h)
 ·intro h
  induction k generalizing n with
  | zero => have : n = 0 := by simpa using h
            subst this; rw [limbs_zero]; simp
  | succ k ih =>
   by_cases h0 : n = 0
   ·subst h0; rw [limbs_zero]; simp
   ·rw [limbs_pos h0]
    have := ih (n := n / 4294967296) (by rw [Nat.div_lt_iff_lt_mul (by decide), ← Nat.pow_succ]; exact h)
    simp only [List.length_cons]; omega
end Nat32
namespace Nat32
open Go Go.Dat
def u32 (n : Nat) : DV := .int .u32 n
def us (xs : List Nat) : List DV := xs.map u32
theorem us_length (xs : List Nat) : (us xs).length = xs.length := by simp [us]
theorem us_getD {xs : List Nat} {k : Nat} (h : k < xs.length) : (us xs).getD k .undef = .int .u32 (xs.getD k 0 : Nat) := by
 simp [us, List.getD_eq_getElem?_getD, List.getElem?_map, List.getElem?_eq_getElem h, u32]
theorem us_take (xs : List Nat) (k : Nat) : (us xs).take k = us (xs.take k) := by simp [us, List.map_take]
theorem us_nil : us [] = [] := rfl
theorem us_rf (xs : List Nat) : (us xs).all DV.rf = true := by simp [us, u32, DV.rf]
theorem us_one (xs : List Nat) : (∀ d ∈ us xs, d.one = true) = True := by simp [us, u32, DV.one]
theorem us_purge (o : Nat) (xs : List Nat) : (us xs).map (purge o) = us xs := by simp [us, u32, purge_int]
theorem us_set (xs : List Nat) (k n : Nat) : (us xs).set k (.int .u32 n) = us (xs.set k n) := by simp [us, u32, List.map_set]
theorem us_rep (n : Nat) : rep n [DV.int .u32 0] = us (List.replicate n 0) := by simp [us, u32, rep]
theorem us2 (x y : Nat) : [DV.int .u32 x, DV.int .u32 y] = us [x, y] := rfl
theorem frz_us {o len : Nat} {q : List Nat} (h : len = q.length) : frz o (us q) (.osl 1 o 0 len) = .sl 1 (us q) := by
 subst h
 rw [frz_osl_eq o (us q) 0 q.length (by decide) (by simp [us_length])]
 simp [← us_length]
def cmpN (x y : Nat) : Int := if x < y then -1 else if y < x then 1 else 0
theorem cmp_len_lt {x y : Nat} (h : (limbs x).length < (limbs y).length) : x < y := by
 have h1 : ¬ (limbs y).length ≤ (limbs x).length := by omega
 rw [limbs_len] at h1
 have h2 := limbs_len.1 (Nat.le_refl (limbs x).length)
 omega
theorem nv_split {a : List Nat} {m : Nat} (h : m < a.length) : nv a = nv (a.take m) + 4294967296 ^ m * (a.getD m 0 + 4294967296 * nv (a.drop (m + 1))) := by
 have e : a = a.take m ++ (a.getD m 0 :: a.drop (m + 1)) := by
  rw [List.getD_eq_getElem?_getD, List.getElem?_eq_getElem h]; simp
 have := nv_app (a.take m) (a.getD m 0 :: a.drop (m + 1))
 rw [← e, List.length_take, Nat.min_eq_left (by omega)] at this
 rw [this]; rfl
theorem nv_lt_of {a b : List Nat} {m : Nat} (ha : lim a) (hma : m < a.length) (hmb : m < b.length) (hd : a.drop (m + 1) = b.drop (m + 1)) (h : a.getD m 0 < b.getD m 0) : nv a < nv b := by
 rw [nv_split hma, nv_split hmb, hd]
 have h1 := nv_lt (lim_take ha m)
 rw [List.length_take, Nat.min_eq_left (by omega)] at h1
 have h2 : 4294967296 ^ m * (a.getD m 0 + 4294967296 * nv (b.drop (m + 1)) + 1) ≤ 4294967296 ^ m * (b.getD m 0 + 4294967296 * nv (b.drop (m + 1))) := Nat.mul_le_mul_left _ (by omega)
 rw [Nat.mul_add, Nat.mul_one] at h2
 omega
theorem drop_step {a b : List Nat} {m : Nat} (hma : m < a.length) (hmb : m < b.length) (hd : a.drop (m + 1) = b.drop (m + 1)) (h : a.getD m 0 = b.getD m 0) : a.drop m = b.drop m := by
 rw [List.drop_eq_getElem_cons hma, List.drop_eq_getElem_cons hmb, hd]
 congr 1
 rw [List.getD_eq_getElem?_getD, List.getElem?_eq_getElem hma, List.getD_eq_getElem?_getD, List.getElem?_eq_getElem hmb] at h
 exact h
theorem cmp_of_ne {x y : Nat} (h : (limbs x).length ≠ (limbs y).length) : cmpN x y = if (limbs x).length < (limbs y).length then -1 else 1 := by
 unfold cmpN
 by_cases h1 : (limbs x).length < (limbs y).length
 ·rw [if_pos (cmp_len_lt h1), if_pos h1]
 ·have := cmp_len_lt (x := y) (y := x) (by omega)
  rw [if_neg (by omega), if_pos this, if_neg h1]
theorem take_step {a b : List Nat} {n : Nat} (hna : n < a.length) (hnb : n < b.length) (ht : a.take n = b.take n) (h : a.getD n 0 = b.getD n 0) : a.take (n + 1) = b.take (n + 1) := by
 rw [take_succ_getD hna, take_succ_getD hnb, ht, h]
end Nat32
namespace Go.Dat
open Go
theorem or_nat64 (a b : Nat) (ha : a < 18446744073709551616) (hb : b < 18446744073709551616) : bitE .or .u64 (a : Int) (b : Int) = ((a ||| b : Nat) : Int) := by
 unfold bitE
 have e1 : (BitVec.ofInt IntKind.u64.bits (a : Int)).toNat = a := by
  rw [BitVec.ofInt_natCast, BitVec.toNat_ofNat]
  exact Nat.mod_eq_of_lt ha
 have e2 : (BitVec.ofInt IntKind.u64.bits (b : Int)).toNat = b := by
  rw [BitVec.ofInt_natCast, BitVec.toNat_ofNat]
  exact Nat.mod_eq_of_lt hb
 simp only [BitVec.toNat_or, e1, e2]
 rw [IntKind.wrap_u64]
 have : a ||| b < 2 ^ 64 := Nat.or_lt_two_pow (by simpa using ha) (by simpa using hb)
 omega
theorem or_add {h x : Nat} (hx : x < 4294967296) : (4294967296 * h) ||| x = 4294967296 * h + x := by
 have := Nat.two_pow_add_eq_or_of_lt (i := 32) (b := x) hx h
 simpa using this.symm
theorem or32 {h x : Nat} (hx : x < 4294967296) (hs : 4294967296 * h + x < 18446744073709551616) :
  bitE .or .u64 ((h : Int) * 2 ^ min (Int.toNat 32) IntKind.u64.bits % 18446744073709551616) ((x : Int) % 18446744073709551616) = ((4294967296 * h + x : Nat) : Int) := by
 have e : (2 ^ min (Int.toNat 32) IntKind.u64.bits : Int) = ((4294967296 : Nat) : Int) := by decide
 rw [e, show (h : Int) * ((4294967296 : Nat) : Int) % 18446744073709551616 = ((4294967296 * h : Nat) : Int) by omega, show (x : Int) % 18446744073709551616 = (x : Int) by omega, or_nat64 _ _ (by omega) (by omega), or_add hx]
end Go.Dat
namespace Nat32
theorem lim_drop {a : List Nat} (h : lim a) (n : Nat) : lim (a.drop n) := fun x hx => h x (List.mem_of_mem_drop hx)
theorem nv_drop {a : List Nat} {m : Nat} (h : m < a.length) : nv (a.drop m) = a.getD m 0 + 4294967296 * nv (a.drop (m + 1)) := by
 rw [List.drop_eq_getElem_cons h, List.getD_eq_getElem?_getD, List.getElem?_eq_getElem h]; rfl
end Nat32
namespace Nat32
open Go Go.Dat
theorem tdiv_nat (a b : Nat) : ((a : Int)).tdiv (b : Int) = ((a / b : Nat) : Int) := (Int.ofNat_tdiv a b).symm
theorem tmod_nat (a b : Nat) : ((a : Int)).tmod (b : Int) = ((a % b : Nat) : Int) := (Int.ofNat_tmod a b).symm
theorem set_rep (m q : Nat) (ds : List Nat) : (List.replicate (m + 1) 0 ++ ds).set m q = List.replicate m 0 ++ (q :: ds) := by
 induction m with
 | zero => rfl
 | succ m ih => rw [List.replicate_succ, List.cons_append, List.set_cons_succ, ih]; rfl
theorem div_lt {hi lo y : Nat} (h1 : hi < y) (h2 : lo < 4294967296) : (4294967296 * hi + lo) / y < 4294967296 := by
 rw [Nat.div_lt_iff_lt_mul (by omega)]
 have : 4294967296 * (hi + 1) ≤ 4294967296 * y := Nat.mul_le_mul_left _ h1
 omega
theorem div_step {N d x : Nat} (hd : 0 < d) : (x + 4294967296 * N) / d = (4294967296 * (N % d) + x) / d + 4294967296 * (N / d) ∧ (x + 4294967296 * N) % d = (4294967296 * (N % d) + x) % d := by
 have h : x + 4294967296 * N = (4294967296 * (N % d) + x) + d * (4294967296 * (N / d)) := by
  have := Nat.div_add_mod N d
  have e : d * (4294967296 * (N / d)) = 4294967296 * (d * (N / d)) := by
   rw [← Nat.mul_assoc, Nat.mul_comm d, Nat.mul_assoc]
  rw [e]; omega
 rw [h]
 exact ⟨by rw [Nat.add_mul_div_left _ _ hd], by rw [Nat.add_mul_mod_self_left]⟩
theorem limbs_one {x : Nat} (h0 : x ≠ 0) (h : x < 4294967296) : limbs x = [x] := by
 rw [limbs_pos h0, Nat.mod_eq_of_lt h, Nat.div_eq_of_lt h, limbs_zero]
theorem nv_take_succ' {a : List Nat} (n : Nat) : nv (a.take (n + 1)) = nv (a.take n) + 4294967296 ^ n * a.getD n 0 := by
 by_cases h : n < a.length
 ·exact nv_take_succ h
 ·rw [List.take_of_length_le (by omega), List.take_of_length_le (by omega)]
  have : a.getD n 0 = 0 := by rw [List.getD_eq_getElem?_getD, List.getElem?_eq_none (by omega)]; rfl
  rw [this]; omega
theorem set_app (k v : Nat) (ds : List Nat) : (ds ++ List.replicate (k + 1) 0).set ds.length v = (ds ++ [v]) ++ List.replicate k 0 := by
 rw [List.set_append_right _ _ (Nat.le_refl _)]
 simp [List.replicate_succ]
theorem add_step {X Y D P x y c : Nat} (h : D + P * c = X + Y) : (D + P * ((x + y + c) % 4294967296)) + (P * 4294967296) * ((x + y + c) / 4294967296) = (X + P * x) + (Y + P * y) := by
 have h1 := Nat.div_add_mod (x + y + c) 4294967296
 have h2 : P * ((x + y + c) % 4294967296) + (P * 4294967296) * ((x + y + c) / 4294967296) = P * (x + y + c) := by
  rw [Nat.mul_assoc, ← Nat.mul_add]; congr 1; omega
 rw [Nat.mul_add, Nat.mul_add] at h2
 omega
def oap (o : Nat) : List Nat → DV
 | [] => .nils
 | x :: r => .osl 1 o 0 (r.length + 1)
def hap (o : Nat) : List Nat → Hp
 | [] => []
 | x :: r => [(o, us (x :: r))]
theorem one1 (k : IntKind) (n : Int) : (∀ d ∈ [DV.int k n], d.one = true) = True := by simp [DV.one]
theorem rf1 (k : IntKind) (n : Int) : (∀ d ∈ [DV.int k n], d.rf = true) = True := by simp [DV.rf]
theorem us_snoc (q : List Nat) (x : Nat) : us q ++ [DV.int .u32 x] = us (q ++ [x]) := by simp [us, u32]
theorem bit31 {v : Nat} (h : v < 4294967296) : v / 2147483648 = (v.testBit 31).toNat := by
 rw [Nat.testBit_eq_decide_div_mod_eq]
 have : v / 2 ^ 31 % 2 = v / 2147483648 := by omega
 rw [this]
 have h2 : v / 2147483648 = 0 ∨ v / 2147483648 = 1 := by omega
 rcases h2 with e | e <;> rw [e] <;> rfl
theorem ofInt32 (a : Nat) (ha : a < 4294967296) : (BitVec.ofInt IntKind.u32.bits (a : Int)).toNat = a := by
 rw [BitVec.ofInt_natCast, BitVec.toNat_ofNat]; exact Nat.mod_eq_of_lt ha
theorem and_nat32 (a b : Nat) (ha : a < 4294967296) (hb : b < 4294967296) : bitE .and .u32 (a : Int) (b : Int) = ((a &&& b : Nat) : Int) := by
 unfold bitE
 simp only [BitVec.toNat_and, ofInt32 a ha, ofInt32 b hb]
 rw [IntKind.wrap_u32]
 have : a &&& b < 2 ^ 32 := Nat.and_lt_two_pow _ (by simpa using hb)
 omega
theorem or_nat32 (a b : Nat) (ha : a < 4294967296) (hb : b < 4294967296) : bitE .or .u32 (a : Int) (b : Int) = ((a ||| b : Nat) : Int) := by
 unfold bitE
 simp only [BitVec.toNat_or, ofInt32 a ha, ofInt32 b hb]
 rw [IntKind.wrap_u32]
 have : a ||| b < 2 ^ 32 := Nat.or_lt_two_pow (by simpa using ha) (by simpa using hb)
 omega
theorem xor_nat32 (a b : Nat) (ha : a < 4294967296) (hb : b < 4294967296) : bitE .xor .u32 (a : Int) (b : Int) = ((a ^^^ b : Nat) : Int) := by
 unfold bitE
 simp only [BitVec.toNat_xor, ofInt32 a ha, ofInt32 b hb]
 rw [IntKind.wrap_u32]
 have : a ^^^ b < 2 ^ 32 := Nat.xor_lt_two_pow (by simpa using ha) (by simpa using hb)
 omega
theorem not_nat32 (a : Nat) (ha : a < 4294967296) : bitE .xor .u32 4294967295 (a : Int) = ((4294967295 ^^^ a : Nat) : Int) := xor_nat32 4294967295 a (by decide) ha
def bor (x y c : Nat) : Nat := if x < y + c then 1 else 0
theorem bor_bits {x y c d : Nat} (hx : x < 4294967296) (hy : y < 4294967296) (hc : c ≤ 1) (hd : d < 4294967296) (he : d = x - y - c ∧ y + c ≤ x ∨ d + y + c = x + 4294967296 ∧ x < y + c) :
  (((4294967295 ^^^ x) &&& y) ||| ((4294967295 ^^^ (x ^^^ y)) &&& d)) / 2147483648 = bor x y c := by
 have l1 : (4294967295 ^^^ x) < 2 ^ 32 := Nat.xor_lt_two_pow (by decide) (by simpa using hx)
 have l2 : x ^^^ y < 2 ^ 32 := Nat.xor_lt_two_pow (by simpa using hx) (by simpa using hy)
 have l3 : (4294967295 ^^^ (x ^^^ y)) < 2 ^ 32 := Nat.xor_lt_two_pow (by decide) l2
 have l4 : ((4294967295 ^^^ x) &&& y) < 2 ^ 32 := Nat.and_lt_two_pow _ (by simpa using hy)
 have l5 : ((4294967295 ^^^ (x ^^^ y)) &&& d) < 2 ^ 32 := Nat.and_lt_two_pow _ (by simpa using hd)
 have l6 := Nat.or_lt_two_pow l4 l5
 rw [bit31 (by simpa using l6)]
 simp only [Nat.testBit_or, Nat.testBit_and, Nat.testBit_xor]
 have t (v : Nat) (hv : v < 4294967296) : v.testBit 31 = decide (2147483648 ≤ v) := by
  rw [Nat.testBit_eq_decide_div_mod_eq, decide_eq_decide]; omega
 rw [t x hx, t y hy, t d hd, t 4294967295 (by decide)]
 unfold bor
 by_cases h1 : 2147483648 ≤ x <;> by_cases h2 : 2147483648 ≤ y <;> by_cases h3 : 2147483648 ≤ d <;> simp [h1, h2, h3] <;> omega
end Nat32
namespace Nat32
theorem sub_step {X Y D P x y c : Nat} (hx : x < 4294967296) (hy : y < 4294967296) (hc : c ≤ 1) (h : D + Y = X + P * c) :
  (D + P * ((x + 4294967296 - y - c) % 4294967296)) + (Y + P * y) = (X + P * x) + (P * 4294967296) * (1 - (x + 4294967296 - y - c) / 4294967296) ∧ (x + 4294967296 - y - c) / 4294967296 ≤ 1 := by
 have h1 := Nat.div_add_mod (x + 4294967296 - y - c) 4294967296
 have h2 : (x + 4294967296 - y - c) / 4294967296 ≤ 1 := by omega
 refine ⟨?_, h2⟩
 generalize (x + 4294967296 - y - c) % 4294967296 = dg at h1 ⊢
 generalize hq : (x + 4294967296 - y - c) / 4294967296 = q at h1 h2 ⊢
 have h3 : dg + y + c = x + 4294967296 * (1 - q) := by omega
 have h4 : P * dg + P * y + P * c = P * x + P * 4294967296 * (1 - q) := by
  rw [Nat.mul_assoc P 4294967296, ← Nat.mul_add, ← Nat.mul_add, ← Nat.mul_add, h3]
 omega
end Nat32
namespace Nat32
open Go Go.Dat
theorem bor_expr {x y c d : Nat} (hx : x < 4294967296) (hy : y < 4294967296) (hc : c ≤ 1) (hd : d < 4294967296) (he : d = x - y - c ∧ y + c ≤ x ∨ d + y + c = x + 4294967296 ∧ x < y + c) :
  (bitE .or .u32 (bitE .and .u32 (bitE .xor .u32 4294967295 (x : Int)) (y : Int)) (bitE .and .u32 (bitE .xor .u32 4294967295 (bitE .xor .u32 (x : Int) (y : Int))) (d : Int))).fdiv (2 ^ min (Int.toNat 31) IntKind.u32.bits) = ((bor x y c : Nat) : Int) := by
 have l1 : (4294967295 ^^^ x) < 2 ^ 32 := Nat.xor_lt_two_pow (by decide) (by simpa using hx)
 have l2 : x ^^^ y < 2 ^ 32 := Nat.xor_lt_two_pow (by simpa using hx) (by simpa using hy)
 have l3 : (4294967295 ^^^ (x ^^^ y)) < 2 ^ 32 := Nat.xor_lt_two_pow (by decide) l2
 have l4 : ((4294967295 ^^^ x) &&& y) < 2 ^ 32 := Nat.and_lt_two_pow _ (by simpa using hy)
 have l5 : ((4294967295 ^^^ (x ^^^ y)) &&& d) < 2 ^ 32 := Nat.and_lt_two_pow _ (by simpa using hd)
 rw [not_nat32 x hx, and_nat32 _ y (by simpa using l1) hy, xor_nat32 x y hx hy, not_nat32 _ (by simpa using l2), and_nat32 _ d (by simpa using l3) hd, or_nat32 _ _ (by simpa using l4) (by simpa using l5)]
 have e : (2 ^ min (Int.toNat 31) IntKind.u32.bits : Int) = ((2147483648 : Nat) : Int) := by decide
 rw [e, fdiv_nat, bor_bits hx hy hc hd he]
theorem nv_rep (n : Nat) : nv (List.replicate n 0) = 0 := by
 induction n with
 | zero => rfl
 | succ n ih => rw [List.replicate_succ, nv, ih]
theorem nv_rep_app (n : Nat) (q : List Nat) : nv (List.replicate n 0 ++ q) = 4294967296 ^ n * nv q := by
 rw [nv_app, nv_rep, List.length_replicate]; omega
theorem mul_le {a v : Nat} (h1 : a < 4294967296) (h2 : v < 4294967296) : a * v ≤ 18446744065119617025 := by
 have := Nat.mul_le_mul (show a ≤ 4294967295 by omega) (show v ≤ 4294967295 by omega)
 omega
theorem mul_w {a v : Nat} (h1 : a < 4294967296) (h2 : v < 4294967296) : IntKind.u64.wrap ((a : Int) * (v : Int)) = ((a * v : Nat) : Int) := by
 have := mul_le h1 h2
 rw [mul_nat]
 generalize a * v = p at this ⊢
 exact wu64 (by omega) (by omega)
theorem mul_w2 {a v c : Nat} (h1 : a < 4294967296) (h2 : v < 4294967296) (h3 : c < 4294967296) : IntKind.u64.wrap (((a * v : Nat) : Int) + (c : Int)) = ((a * v + c : Nat) : Int) := by
 have := mul_le h1 h2
 generalize a * v = p at this ⊢
 rw [wu64 (by omega) (by omega)]; omega
theorem mul_step {D P T a v c : Nat} (h : D + P * c = T * v) : (D + P * ((a * v + c) % 4294967296)) + (P * 4294967296) * ((a * v + c) / 4294967296) = (T + P * a) * v := by
 have h1 := Nat.div_add_mod (a * v + c) 4294967296
 have h2 : P * ((a * v + c) % 4294967296) + (P * 4294967296) * ((a * v + c) / 4294967296) = P * (a * v + c) := by
  rw [Nat.mul_assoc, ← Nat.mul_add]; congr 1; omega
 rw [Nat.mul_add] at h2
 rw [Nat.add_mul, Nat.mul_assoc P a v, ← h]
 omega
theorem mul_div_lt {a v c : Nat} (h1 : a < 4294967296) (h2 : v < 4294967296) (h3 : c < 4294967296) : (a * v + c) / 4294967296 < 4294967296 := by
 have := mul_le h1 h2
 generalize a * v = p at this ⊢
 omega
theorem mul_lt_pow {x v n : Nat} (h1 : x < 4294967296 ^ n) (h2 : v < 4294967296) : x * v < 4294967296 ^ (n + 1) := by
 rw [Nat.pow_succ]
 exact Nat.mul_lt_mul_of_lt_of_le h1 (by omega) (Nat.pos_of_ne_zero (by intro h; omega))
theorem len_mul {x y m n : Nat} (h1 : (limbs x).length ≤ m) (h2 : (limbs y).length ≤ n) : (limbs (x * y)).length ≤ m + n := by
 rw [limbs_len] at h1 h2 ⊢
 rw [Nat.pow_add]
 exact Nat.mul_lt_mul_of_lt_of_le h1 (Nat.le_of_lt h2) (Nat.pos_of_ne_zero (by intro h; rw [h] at h2; omega))
theorem c_zero {N P c : Nat} (h : N + P * c < P) : c = 0 := by
 rcases Nat.eq_zero_or_pos c with e | e
 ·exact e
 ·have := Nat.mul_le_mul_left P e
  rw [Nat.mul_one] at this
  omega
theorem sub_ex {x y c : Nat} (hx : x < 4294967296) (hy : y < 4294967296) (hc : c ≤ 1) : ∃ d b, d + y + c = x + 4294967296 * b ∧ d < 4294967296 ∧ b ≤ 1 := by
 by_cases h : x < y + c
 ·obtain ⟨d, hd⟩ : ∃ d, x + 4294967296 = y + c + d := Nat.exists_eq_add_of_le (by omega)
  exact ⟨d, 1, by omega, by omega, by omega⟩
 ·obtain ⟨d, hd⟩ : ∃ d, x = y + c + d := Nat.exists_eq_add_of_le (by omega)
  exact ⟨d, 0, by omega, by omega, by omega⟩
theorem sub_step' {X Y D P x y c d b : Nat} (h : D + Y = X + P * c) (hd : d + y + c = x + 4294967296 * b) : (D + P * d) + (Y + P * y) = (X + P * x) + (P * 4294967296) * b := by
 have h4 : P * d + P * y + P * c = P * x + P * 4294967296 * b := by
  rw [Nat.mul_assoc P 4294967296, ← Nat.mul_add, ← Nat.mul_add, ← Nat.mul_add, hd]
 omega
theorem sub_wrap' {x y c d b : Nat} (hd : d + y + c = x + 4294967296 * b) (h : d < 4294967296) : IntKind.u32.wrap (IntKind.u32.wrap ((x : Int) - (y : Int)) - (c : Int)) = (d : Int) := by
 rw [IntKind.wrap_u32, IntKind.wrap_u32]; omega
theorem bor_expr' {x y c d b : Nat} (hx : x < 4294967296) (hy : y < 4294967296) (hc : c ≤ 1) (hd : d + y + c = x + 4294967296 * b) (h : d < 4294967296) (hb : b ≤ 1) :
  (bitE .or .u32 (bitE .and .u32 (bitE .xor .u32 4294967295 (x : Int)) (y : Int)) (bitE .and .u32 (bitE .xor .u32 4294967295 (bitE .xor .u32 (x : Int) (y : Int))) (d : Int))).fdiv (2 ^ min (Int.toNat 31) IntKind.u32.bits) = (b : Int) := by
 have hb2 : b = 0 ∨ b = 1 := by omega
 rw [bor_expr hx hy hc h (by omega)]
 unfold bor
 split <;> omega
theorem nv_set {l : List Nat} {k v : Nat} (h : k < l.length) : nv (l.set k v) + 4294967296 ^ k * l.getD k 0 = nv l + 4294967296 ^ k * v := by
 induction l generalizing k with
 | nil => simp at h
 | cons x l ih =>
  cases k with
  | zero => simp only [List.set_cons_zero, nv, List.getD_cons_zero, Nat.pow_zero, Nat.one_mul]; omega
  | succ k =>
   have := ih (k := k) (by simpa using h)
   simp only [List.set_cons_succ, nv, List.getD_cons_succ, Nat.pow_succ]
   have e1 : 4294967296 ^ k * 4294967296 * l.getD k 0 = 4294967296 * (4294967296 ^ k * l.getD k 0) := by
    rw [Nat.mul_comm (4294967296 ^ k) 4294967296, Nat.mul_assoc]
   have e2 : 4294967296 ^ k * 4294967296 * v = 4294967296 * (4294967296 ^ k * v) := by
    rw [Nat.mul_comm (4294967296 ^ k) 4294967296, Nat.mul_assoc]
   rw [e1, e2]; omega
theorem lim_set {l : List Nat} {k v : Nat} (h : lim l) (hv : v < 4294967296) : lim (l.set k v) := by
 intro z hz
 rcases List.mem_or_eq_of_mem_set hz with e | e
 ·exact h z e
 ·rw [e]; exact hv
theorem getD_set_ne' {l : List Nat} {j k v : Nat} (h : k ≠ j) : (l.set k v).getD j 0 = l.getD j 0 := by
 rw [List.getD_eq_getElem?_getD, List.getD_eq_getElem?_getD, List.getElem?_set_ne h]
theorem mac_w {a v c o : Nat} (h1 : a < 4294967296) (h2 : v < 4294967296) (h3 : c < 4294967296) (h4 : o < 4294967296) : a * v + o + c < 18446744073709551616 ∧ (a * v + o + c) / 4294967296 < 4294967296 := by
 have := mul_le h1 h2
 generalize a * v = p at this ⊢
 omega
theorem mac_step {D E P R c o s : Nat} (h : D + P * c = R) (hs : E + P * o = D + P * (s % 4294967296)) {av : Nat} (hq : s = av + o + c) : E + P * 4294967296 * (s / 4294967296) = R + P * av := by
 have h1 := Nat.div_add_mod s 4294967296
 have h2 : P * (s % 4294967296) + P * 4294967296 * (s / 4294967296) = P * s := by
  rw [Nat.mul_assoc, ← Nat.mul_add]; congr 1; omega
 have h3 : P * s = P * av + P * o + P * c := by rw [hq, Nat.mul_add, Nat.mul_add]
 omega
end Nat32
namespace Nat32
def dig : Nat → Nat → List Nat
 | 0, _ => []
 | k + 1, x => x % 4294967296 :: dig k (x / 4294967296)
theorem dig_length (k x : Nat) : (dig k x).length = k := by
 induction k generalizing x with
 | zero => rfl
 | succ k ih => simp [dig, ih]
theorem dig_lim (k x : Nat) : lim (dig k x) := by
 induction k generalizing x with
 | zero => exact lim_nil
 | succ k ih => rw [dig, lim_cons]; exact ⟨Nat.mod_lt _ (by decide), ih _⟩
theorem nv_dig (k x : Nat) : nv (dig k x) = x % 4294967296 ^ k := by
 induction k generalizing x with
 | zero => simp [dig, nv, Nat.mod_one]
 | succ k ih => rw [dig, nv, ih, Nat.pow_succ', Nat.mod_mul]
theorem nv_inj {a b : List Nat} (ha : lim a) (hb : lim b) (hl : a.length = b.length) (h : nv a = nv b) : a = b := by
 induction a generalizing b with
 | nil => cases b with
  | nil => rfl
  | cons y b => simp at hl
 | cons x a ih => cases b with
  | nil => simp at hl
  | cons y b =>
   obtain ⟨h1, h2⟩ := lim_cons.1 ha
   obtain ⟨h3, h4⟩ := lim_cons.1 hb
   simp only [nv] at h
   have e1 : x = y := by omega
   have e2 : nv a = nv b := by omega
   rw [e1, ih h2 h4 (by simpa using hl) e2]
theorem dig_of {a : List Nat} {k x : Nat} (h : lim a) (hl : a.length = k) (hv : nv a = x % 4294967296 ^ k) : a = dig k x :=
 nv_inj h (dig_lim _ _) (by rw [hl, dig_length]) (by rw [hv, nv_dig])
theorem nv_split_at (a : List Nat) (k : Nat) (h : k ≤ a.length) : nv a = nv (a.take k) + 4294967296 ^ k * nv (a.drop k) := by
 have := nv_app (a.take k) (a.drop k)
 rw [List.take_append_drop, List.length_take, Nat.min_eq_left h] at this
 exact this
def gq (T W : Nat) : Nat := min (T / W) 4294967295
theorem gq_lt {T W q k : Nat} (h : gq T W ≤ q) (hc : 4294967296 ≤ q ∨ T < q * W) (hW : 0 < W) (hk : q = k + 1) : gq T W ≤ k := by
 unfold gq at h ⊢
 rcases hc with h9 | h9
 ·omega
 ·have h1 : T / W < q := (Nat.div_lt_iff_lt_mul hW).2 h9
  generalize T / W = z at *
  omega
theorem lin1 {p s r u0 t B : Nat} (h1 : p + r = t) (h2 : r * B + u0 < s) : t * B + u0 < p * B + s := by
 subst h1; rw [Nat.add_mul]; omega
theorem gq_step {u2 u1 u0 v1 v0 q r : Nat} (hq : q * v1 + r = u2 * 4294967296 + u1) (hv : 0 < v1) (h : gq ((u2 * 4294967296 + u1) * 4294967296 + u0) (v1 * 4294967296 + v0) ≤ q)
  (hc : 4294967296 ≤ q ∨ r * 4294967296 + u0 < q * v0) :
  0 < q ∧ gq ((u2 * 4294967296 + u1) * 4294967296 + u0) (v1 * 4294967296 + v0) ≤ q - 1 ∧ (q - 1) * v1 + (r + v1) = u2 * 4294967296 + u1 := by
 have h0 : 0 < q := by
  rcases hc with h | h
  ·omega
  ·rcases Nat.eq_zero_or_pos q with e | e
   ·subst e; omega
   ·exact e
 obtain ⟨k, hk⟩ : ∃ k, q = k + 1 := ⟨q - 1, by omega⟩
 refine ⟨h0, ?_, ?_⟩
 ·rw [hk, Nat.add_sub_cancel]
  refine gq_lt h (hc.imp_right fun h9 => ?_) (by omega) hk
  have h2 : q * (v1 * 4294967296 + v0) = q * v1 * 4294967296 + q * v0 := by rw [Nat.mul_add, ← Nat.mul_assoc]
  exact Nat.lt_of_lt_of_eq (lin1 hq h9) h2.symm
 ·subst hk
  rw [Nat.add_mul, Nat.one_mul] at hq
  simp only [Nat.add_sub_cancel]
  omega
theorem gq_first {T W top u2 u1 u0 v1 v0 : Nat} (htop : u2 * 4294967296 + u1 = top) (h0 : u0 < 4294967296) (hv : 0 < v1) (hT : (u2 * 4294967296 + u1) * 4294967296 + u0 = T) (hW : v1 * 4294967296 + v0 = W) : gq T W ≤ top / v1 := by
 refine Nat.le_trans (Nat.min_le_left _ _) ((Nat.le_div_iff_mul_le hv).2 ?_)
 have hT' : T = top * 4294967296 + u0 := by omega
 have h1 : T / W * W ≤ T := Nat.div_mul_le_self T W
 generalize T / W = z at *
 rcases Nat.lt_or_ge top (z * v1) with e | e
 ·have h2 : z * W = z * v1 * 4294967296 + z * v0 := by rw [← hW, Nat.mul_add, ← Nat.mul_assoc]
  omega
 ·exact e
theorem gq_exit {u2 u1 u0 v1 v0 q r : Nat} (hq : q * v1 + r = u2 * 4294967296 + u1) (hu1 : u1 < 4294967296) (hu : u2 ≤ v1) (hv0 : v0 < 4294967296) (hv : 0 < v1)
  (h : gq ((u2 * 4294967296 + u1) * 4294967296 + u0) (v1 * 4294967296 + v0) ≤ q) (hc : 4294967296 ≤ r ∨ (q < 4294967296 ∧ q * v0 ≤ r * 4294967296 + u0)) :
  q = gq ((u2 * 4294967296 + u1) * 4294967296 + u0) (v1 * 4294967296 + v0) := by
 have hqB : q < 4294967296 := by
  rcases hc with h1 | h1
  ·rcases Nat.lt_or_ge q 4294967296 with e | e
   ·exact e
   ·have h2 := Nat.mul_le_mul e (Nat.le_refl v1)
    generalize q * v1 = p at *
    omega
  ·exact h1.1
 have hle : q * v0 ≤ r * 4294967296 + u0 := by
  rcases hc with h1 | h1
  ·have h2 := mul_le hqB hv0
   generalize q * v0 = s at *
   omega
  ·exact h1.2
 have : q ≤ ((u2 * 4294967296 + u1) * 4294967296 + u0) / (v1 * 4294967296 + v0) := by
  have h2 : q * (v1 * 4294967296 + v0) = q * v1 * 4294967296 + q * v0 := by rw [Nat.mul_add, ← Nat.mul_assoc]
  refine (Nat.le_div_iff_mul_le (by omega)).2 (Nat.le_trans (Nat.le_of_eq h2) ?_)
  clear h hc h2
  omega
 unfold gq at h ⊢
 omega
theorem gq_spec {U V T W P Ul Vl : Nat} (hU : U = T * P + Ul) (hUl : Ul < P) (hV : V = W * P + Vl) (hVl : Vl < P) (hVn : 4294967296 * P ≤ V) (hlt : U < 4294967296 * V) (hW : 0 < W) :
  U / V ≤ gq T W ∧ gq T W ≤ U / V + 1 := by
 have hP : 0 < P := by omega
 have hV0 : 0 < V := by
  have := Nat.mul_pos hW hP
  omega
 constructor
 ·have h1 : U / V ≤ T / W := by
   rw [Nat.le_div_iff_mul_le hW]
   have h2 : U / V * V ≤ U := Nat.div_mul_le_self U V
   have h3 : U / V * (W * P) ≤ U / V * V := Nat.mul_le_mul_left _ (by omega)
   rw [← Nat.mul_assoc] at h3
   generalize U / V * W = x at *
   rcases Nat.lt_or_ge T x with e | e
   ·have := Nat.mul_le_mul_right P e
    rw [Nat.succ_mul] at this
    omega
   ·exact e
  have h4 : U / V < 4294967296 := by rw [Nat.div_lt_iff_lt_mul hV0]; exact hlt
  unfold gq; omega
 ·have h1 : gq T W * W ≤ T := Nat.le_trans (Nat.mul_le_mul_right _ (Nat.min_le_left _ _)) (Nat.div_mul_le_self T W)
  have h2 : gq T W < 4294967296 := by unfold gq; omega
  generalize gq T W = q at h1 h2 ⊢
  have h3 : q * V ≤ U + V := by
   have h4 : q * W * P ≤ T * P := Nat.mul_le_mul_right _ h1
   have h5 : q * Vl ≤ 4294967296 * P := Nat.mul_le_mul (by omega) (by omega)
   rw [hV, Nat.mul_add, ← Nat.mul_assoc]
   omega
  have h6 : q ≤ (U + V) / V := by rw [Nat.le_div_iff_mul_le hV0]; exact h3
  rw [Nat.add_div_right _ hV0] at h6
  exact h6
theorem red_step {D Y X P c b q y x d b' : Nat} (h : D + q * Y = X + P * (c + b)) (hd : d + (c + q * y) % 4294967296 + b = x + 4294967296 * b') :
  (D + P * d) + q * (Y + P * y) = (X + P * x) + P * 4294967296 * ((c + q * y) / 4294967296 + b') := by
 have h1 := Nat.div_add_mod (c + q * y) 4294967296
 have e1 : q * (P * y) = P * (q * y) := by rw [← Nat.mul_assoc, Nat.mul_comm q P, Nat.mul_assoc]
 have h2 : P * d + P * ((c + q * y) % 4294967296) + P * b = P * x + P * 4294967296 * b' := by
  rw [Nat.mul_assoc P 4294967296, ← Nat.mul_add, ← Nat.mul_add, ← Nat.mul_add, hd]
 have h3 : P * ((c + q * y) % 4294967296) + P * 4294967296 * ((c + q * y) / 4294967296) = P * c + P * (q * y) := by
  rw [Nat.mul_assoc P 4294967296, ← Nat.mul_add, ← Nat.mul_add]; congr 1; omega
 rw [Nat.mul_add, Nat.mul_add, e1]
 rw [Nat.mul_add] at h
 omega
theorem red_carry {P c q Y y : Nat} (h : P * c ≤ q * Y) : P * 4294967296 * ((c + q * y) / 4294967296) ≤ q * (Y + P * y) := by
 have e1 : q * (P * y) = P * (q * y) := by rw [← Nat.mul_assoc, Nat.mul_comm q P, Nat.mul_assoc]
 have h1 := Nat.div_mul_le_self (c + q * y) 4294967296
 have h2 : P * (4294967296 * ((c + q * y) / 4294967296)) ≤ P * (c + q * y) := Nat.mul_le_mul_left _ (by omega)
 rw [Nat.mul_assoc, Nat.mul_add, e1]
 rw [Nat.mul_add] at h2
 omega
theorem red_fin {D U V q M c b : Nat} (h : D + q * V = U + M * (c + b)) (hc : M * c ≤ q * V) (hq : q * V < M) (hD : D < M) (_hU : U < M) (hb : b ≤ 1) :
  (b ≠ 0 ↔ U < q * V) ∧ D = (U + M - q * V) % M := by
 have hc0 : c = 0 := by
  rcases Nat.eq_zero_or_pos c with e | e
  ·exact e
  ·have := Nat.mul_le_mul_left M e; rw [Nat.mul_one] at this; omega
 subst hc0
 rw [Nat.zero_add] at h
 have hb2 : b = 0 ∨ b = 1 := by omega
 rcases hb2 with e | e <;> subst e
 ·refine ⟨by omega, ?_⟩
  have : U + M - q * V = D + M := by omega
  rw [this, Nat.add_mod_right, Nat.mod_eq_of_lt hD]
 ·refine ⟨by omega, ?_⟩
  have : U + M - q * V = D := by omega
  rw [this, Nat.mod_eq_of_lt hD]
theorem kn_over {U V q M : Nat} (h1 : U / V ≤ q) (h2 : q ≤ U / V + 1) (h : U < q * V) (_hV : V ≤ M) (hV0 : 0 < V) (_hq : q * V < M) : q - 1 = U / V ∧ ((U + M - q * V) % M + V) % M = U % V := by
 have e : q = U / V + 1 := by
  rcases Nat.lt_or_ge (U / V) q with e | e
  ·omega
  ·have : q = U / V := by omega
   have h3 := Nat.div_mul_le_self U V
   rw [← this] at h3; exact absurd h (by omega)
 subst e
 refine ⟨Nat.add_sub_cancel _ _, ?_⟩
 have h4 := Nat.div_add_mod' U V
 have h5 := Nat.mod_lt U hV0
 rw [Nat.add_mul, Nat.one_mul] at h _hq ⊢
 rw [Nat.mod_eq_of_lt (show U + M - (U / V * V + V) < M by omega)]
 have : U + M - (U / V * V + V) + V = U % V + M := by omega
 rw [this, Nat.add_mod_right, Nat.mod_eq_of_lt (by omega)]
theorem kn_fit {U V q M : Nat} (h1 : U / V ≤ q) (_h2 : q ≤ U / V + 1) (h : ¬ U < q * V) (hV : V ≤ M) (hV0 : 0 < V) : q = U / V ∧ (U + M - q * V) % M = U % V := by
 have e : q = U / V := by
  have : q ≤ U / V := by rw [Nat.le_div_iff_mul_le hV0]; omega
  omega
 subst e
 refine ⟨rfl, ?_⟩
 have h4 := Nat.div_add_mod' U V
 have h5 := Nat.mod_lt U hV0
 have : U + M - U / V * V = U % V + M := by omega
 rw [this, Nat.add_mod_right, Nat.mod_eq_of_lt (by omega)]
end Nat32
namespace Nat32
open Go Go.Dat
def blen (x : Nat) : Nat := if x = 0 then 0 else Nat.log2 x + 1
theorem blen_lt {x : Nat} : x < 2 ^ blen x := by
 unfold blen
 split
 ·rename_i h; subst h; decide
 ·exact Nat.lt_log2_self
theorem blen_le {x : Nat} (h : x ≠ 0) : 2 ^ (blen x - 1) ≤ x := by
 unfold blen
 rw [if_neg h, Nat.add_sub_cancel]
 exact Nat.log2_self_le h
theorem blen_of {x k : Nat} (h1 : 2 ^ k ≤ x) (h2 : x < 2 ^ (k + 1)) : blen x = k + 1 := by
 have h0 : x ≠ 0 := by have := Nat.two_pow_pos k; omega
 unfold blen
 rw [if_neg h0, (Nat.log2_eq_iff h0).2 ⟨h1, h2⟩]
theorem blen_shr {x k : Nat} (h : 2 ^ k ≤ x) : blen x = blen (x / 2 ^ k) + k := by
 have h0 : x / 2 ^ k ≠ 0 := by
  have := Nat.div_pos h (Nat.two_pow_pos k)
  omega
 have h1 := blen_le h0
 have h2 := blen_lt (x := x / 2 ^ k)
 have hb : 0 < blen (x / 2 ^ k) := by unfold blen; rw [if_neg h0]; omega
 obtain ⟨m, hm⟩ : ∃ m, blen (x / 2 ^ k) = m + 1 := ⟨blen (x / 2 ^ k) - 1, by omega⟩
 rw [hm] at h1 h2 ⊢
 rw [Nat.add_sub_cancel] at h1
 have e : m + 1 + k = (m + k) + 1 := by omega
 rw [e]
 refine blen_of ?_ ?_
 ·rw [Nat.pow_add]
  exact Nat.le_trans (Nat.mul_le_mul_right _ h1) (Nat.div_mul_le_self _ _)
 ·rw [show m + k + 1 = (m + 1) + k by omega, Nat.pow_add]
  exact (Nat.div_lt_iff_lt_mul (Nat.two_pow_pos k)).1 h2
theorem blen_le_of {x k : Nat} (h : x < 2 ^ k) : blen x ≤ k := by
 rcases Nat.lt_or_ge k (blen x) with e | e
 ·have h0 : x ≠ 0 := by rintro rfl; simp [blen] at e
  have h1 := blen_le h0
  have h2 := Nat.pow_le_pow_right (n := 2) (by decide) (show k ≤ blen x - 1 by omega)
  omega
 ·exact e
theorem lz_spec {x : Nat} (h0 : x ≠ 0) (h : x < 4294967296) : 32 - blen x ≤ 31 ∧ 2147483648 ≤ x * 2 ^ (32 - blen x) ∧ x * 2 ^ (32 - blen x) < 4294967296 := by
 have h1 := blen_le h0
 have h2 := blen_lt (x := x)
 have h3 := blen_le_of (k := 32) (by simpa using h)
 have hb : 0 < blen x := by unfold blen; rw [if_neg h0]; omega
 refine ⟨by omega, ?_, ?_⟩
 ·have h4 := Nat.mul_le_mul_right (2 ^ (32 - blen x)) h1
  rw [← Nat.pow_add, show blen x - 1 + (32 - blen x) = 31 by omega] at h4
  exact h4
 ·have h4 := Nat.mul_lt_mul_of_pos_right h2 (Nat.two_pow_pos (32 - blen x))
  rw [← Nat.pow_add, show blen x + (32 - blen x) = 32 by omega] at h4
  exact h4
theorem shl_lt {x k : Nat} (h : x < 4294967296) (hk : k ≤ 31) : x * 2 ^ k < 18446744073709551616 ∧ x * 2 ^ k / 4294967296 < 2 ^ k := by
 have h1 : x * 2 ^ k < 4294967296 * 2 ^ k := Nat.mul_lt_mul_of_pos_right h (Nat.two_pow_pos k)
 have h2 : (2 : Nat) ^ k ≤ 2 ^ 31 := Nat.pow_le_pow_right (by decide) hk
 refine ⟨by omega, ?_⟩
 rw [Nat.div_lt_iff_lt_mul (by decide), Nat.mul_comm (2 ^ k)]
 exact h1
theorem or_low {c x k : Nat} (hc : c < 2 ^ k) (hk : k ≤ 31) (_hx : x < 4294967296) : c ||| (x * 2 ^ k % 4294967296) = x * 2 ^ k % 4294967296 + c := by
 have e : x * 2 ^ k % 4294967296 = 2 ^ k * (x % 2 ^ (32 - k)) := by
  have : (4294967296 : Nat) = 2 ^ k * 2 ^ (32 - k) := by rw [← Nat.pow_add, show k + (32 - k) = 32 by omega]
  rw [this, Nat.mul_comm x, Nat.mul_mod_mul_left]
 rw [e, Nat.or_comm]
 exact (Nat.two_pow_add_eq_or_of_lt hc _).symm
theorem sh_step {D P X c x y : Nat} (h : D + P * c = X * y) : (D + P * (x * y % 4294967296 + c)) + P * 4294967296 * (x * y / 4294967296) = (X + P * x) * y := by
 have h1 := Nat.div_add_mod (x * y) 4294967296
 have h2 : P * (x * y % 4294967296) + P * 4294967296 * (x * y / 4294967296) = P * (x * y) := by
  rw [Nat.mul_assoc P 4294967296, ← Nat.mul_add]; congr 1; omega
 rw [Nat.mul_add, Nat.add_mul, Nat.mul_assoc P x y]
 omega
theorem shr2 {x y z k : Nat} (hk : k ≤ 31) : ((4294967296 * y + x) / 2 ^ k) % 4294967296 = ((x + 4294967296 * (y + 4294967296 * z)) / 2 ^ k) % 4294967296 := by
 have e : (x + 4294967296 * (y + 4294967296 * z)) = (4294967296 * y + x) + 2 ^ k * (2 ^ (32 - k) * (4294967296 * z)) := by
  rw [← Nat.mul_assoc, ← Nat.pow_add, show k + (32 - k) = 32 by omega]
  omega
 rw [e, Nat.add_mul_div_left _ _ (Nat.two_pow_pos k), show 2 ^ (32 - k) * (4294967296 * z) = 4294967296 * (2 ^ (32 - k) * z) by rw [← Nat.mul_assoc, Nat.mul_comm (2 ^ (32 - k)), Nat.mul_assoc], Nat.add_mul_mod_self_left]
theorem us_frz (o : Nat) (c : List DV) (xs : List Nat) : (us xs).map (frz o c) = us xs := by simp [us, u32, frz_int]
theorem set_mid (d : List Nat) (c v : Nat) (r : List Nat) : (d ++ c :: r).set d.length v = d ++ v :: r := by
 rw [List.set_append_right _ _ (Nat.le_refl _)]; simp
theorem set_mid1 (d : List Nat) (c x v : Nat) (r : List Nat) : (d ++ c :: x :: r).set (d.length + 1) v = d ++ c :: v :: r := by
 rw [List.set_append_right _ _ (Nat.le_add_right _ _)]; simp
theorem getD_mid (d : List Nat) (c : Nat) (r : List Nat) : (d ++ c :: r).getD d.length 0 = c := by
 simp [List.getD_eq_getElem?_getD]
theorem lim_append {a b : List Nat} : lim (a ++ b) ↔ lim a ∧ lim b := by
 constructor
 ·intro h; exact ⟨fun x hx => h x (List.mem_append.2 (.inl hx)), fun x hx => h x (List.mem_append.2 (.inr hx))⟩
 ·rintro ⟨h1, h2⟩ x hx
  rcases List.mem_append.1 hx with h | h
  ·exact h1 x h
  ·exact h2 x h
theorem nv_snoc (d : List Nat) (c : Nat) : nv (d ++ [c]) = nv d + 4294967296 ^ d.length * c := by
 rw [nv_app]; simp [nv]
theorem shl_w {x k : Nat} (h : x < 4294967296) (hk : k ≤ 31) : IntKind.u64.wrap ((x : Int) * 2 ^ min k IntKind.u64.bits) = ((x * 2 ^ k : Nat) : Int) := by
 have h1 := (shl_lt h hk).1
 have e : min k IntKind.u64.bits = k := by
  have : IntKind.u64.bits = 64 := rfl
  omega
 rw [e, show ((2 : Int) ^ k) = ((2 ^ k : Nat) : Int) by simp, mul_nat]
 generalize x * 2 ^ k = p at h1 ⊢
 exact wu64 (by omega) (by omega)
theorem shr_w (a k : Nat) (hk : k ≤ 31) : ((a : Int)).fdiv (2 ^ min k IntKind.u64.bits) = ((a / 2 ^ k : Nat) : Int) := by
 have e : min k IntKind.u64.bits = k := by
  have : IntKind.u64.bits = 64 := rfl
  omega
 rw [e, show ((2 : Int) ^ k) = ((2 ^ k : Nat) : Int) by simp, fdiv_nat]
theorem or_low32 {c x k : Nat} (hc : c < 2 ^ k) (hk : k ≤ 31) (hx : x < 4294967296) : bitE .or .u32 (c : Int) ((x * 2 ^ k % 4294967296 : Nat) : Int) = ((x * 2 ^ k % 4294967296 + c : Nat) : Int) := by
 have h2 : (2 : Nat) ^ k ≤ 2 ^ 31 := Nat.pow_le_pow_right (by decide) hk
 rw [or_nat32 _ _ (by omega) (Nat.mod_lt _ (by decide)), or_low hc hk hx]
theorem pow_le31 {k : Nat} (hk : k ≤ 31) : (2 : Nat) ^ k ≤ 2147483648 := by
 have h2 : (2 : Nat) ^ k ≤ 2 ^ 31 := Nat.pow_le_pow_right (by decide) hk
 simpa using h2
theorem low_lt {c x k : Nat} (hc : c < 2 ^ k) (hk : k ≤ 31) : x * 2 ^ k % 4294967296 + c < 4294967296 := by
 have e : x * 2 ^ k % 4294967296 = 2 ^ k * (x % 2 ^ (32 - k)) := by
  have : (4294967296 : Nat) = 2 ^ k * 2 ^ (32 - k) := by rw [← Nat.pow_add, show k + (32 - k) = 32 by omega]
  rw [this, Nat.mul_comm x, Nat.mul_mod_mul_left]
 have h1 : x % 2 ^ (32 - k) + 1 ≤ 2 ^ (32 - k) := Nat.mod_lt _ (Nat.two_pow_pos _)
 have h2 := Nat.mul_le_mul_left (2 ^ k) h1
 rw [← Nat.pow_add, show k + (32 - k) = 32 by omega, Nat.mul_add] at h2
 omega
end Nat32
namespace Nat32
theorem nv_single (a : List Nat) (m : Nat) (h : a.length = m + 1) : nv (a.drop m) = a.getD m 0 := by
 rw [nv_drop (by omega), List.drop_of_length_le (by omega)]; simp [nv]
theorem top2 (a : List Nat) (n : Nat) (h : a.length = n + 2) : nv a = (a.getD (n + 1) 0 * 4294967296 + a.getD n 0) * 4294967296 ^ n + nv (a.take n) := by
 rw [nv_split (m := n) (by omega), nv_single a (n + 1) (by omega), Nat.mul_comm (4294967296 ^ n)]
 rw [show a.getD n 0 + 4294967296 * a.getD (n + 1) 0 = a.getD (n + 1) 0 * 4294967296 + a.getD n 0 by omega]; omega
theorem top3 (a : List Nat) (n : Nat) (h : a.length = n + 3) : nv a = ((a.getD (n + 2) 0 * 4294967296 + a.getD (n + 1) 0) * 4294967296 + a.getD n 0) * 4294967296 ^ n + nv (a.take n) := by
 rw [nv_split (m := n) (by omega), nv_drop (a := a) (m := n + 1) (by omega), nv_single a (n + 2) (by omega), Nat.mul_comm (4294967296 ^ n)]
 rw [show a.getD n 0 + 4294967296 * (a.getD (n + 1) 0 + 4294967296 * a.getD (n + 2) 0) = (a.getD (n + 2) 0 * 4294967296 + a.getD (n + 1) 0) * 4294967296 + a.getD n 0 by omega]; omega
theorem nv_take_lt {a : List Nat} (h : lim a) {n : Nat} (hn : n ≤ a.length) : nv (a.take n) < 4294967296 ^ n := by
 have := nv_lt (lim_take h n)
 rwa [List.length_take, Nat.min_eq_left hn] at this
theorem limbs_len_eq {x n : Nat} (h1 : x < 4294967296 ^ (n + 1)) (h2 : 4294967296 ^ n ≤ x) : (limbs x).length = n + 1 := by
 have h3 := limbs_len.2 h1
 rcases Nat.lt_or_ge (limbs x).length (n + 1) with e | e
 ·have := limbs_len.1 (show (limbs x).length ≤ n by omega)
  omega
 ·omega
theorem limbs_top_ne {y n : Nat} (h : (limbs y).length = n + 1) : (limbs y).getD n 0 ≠ 0 := by
 have := vld_limbs y
 unfold vld at this
 rw [h, Nat.add_sub_cancel] at this
 simpa using this
theorem norm_V {y n : Nat} (h : (limbs y).length = n + 1) : 32 - blen ((limbs y).getD n 0) ≤ 31 ∧ y * 2 ^ (32 - blen ((limbs y).getD n 0)) < 4294967296 ^ (n + 1) ∧ 4294967296 ^ n * 2147483648 ≤ y * 2 ^ (32 - blen ((limbs y).getD n 0)) := by
 have h0 := limbs_top_ne h
 have hl := lim_getD (lim_limbs y) n
 have hs := nv_split (a := limbs y) (m := n) (by omega)
 rw [nv_limbs, List.drop_of_length_le (by omega)] at hs
 have hlow := nv_take_lt (lim_limbs y) (n := n) (by omega)
 simp only [nv, Nat.mul_zero, Nat.add_zero] at hs
 generalize (limbs y).getD n 0 = t at *
 obtain ⟨k1, k2, k3⟩ := lz_spec h0 hl
 have hb := blen_le_of (k := 32) (show t < 2 ^ 32 by omega)
 have htt : (t + 1) * 2 ^ (32 - blen t) ≤ 4294967296 := by
  have h4 := Nat.mul_le_mul_right (2 ^ (32 - blen t)) (show t + 1 ≤ 2 ^ blen t from blen_lt)
  rw [← Nat.pow_add, show blen t + (32 - blen t) = 32 by omega] at h4
  exact h4
 refine ⟨k1, ?_, ?_⟩
 ·have h5 : y * 2 ^ (32 - blen t) < (4294967296 ^ n * (t + 1)) * 2 ^ (32 - blen t) := Nat.mul_lt_mul_of_pos_right (by rw [hs, Nat.mul_add]; omega) (Nat.two_pow_pos _)
  have h6 := Nat.mul_le_mul_left (4294967296 ^ n) htt
  rw [← Nat.mul_assoc] at h6
  rw [Nat.pow_succ]
  omega
 ·have h5 : 4294967296 ^ n * t * 2 ^ (32 - blen t) ≤ y * 2 ^ (32 - blen t) := Nat.mul_le_mul_right _ (by omega)
  have h6 := Nat.mul_le_mul_left (4294967296 ^ n) k2
  rw [← Nat.mul_assoc] at h6
  omega
theorem init_lt {x k V n m : Nat} (hx : x < 4294967296 ^ (m + n)) (hk : k ≤ 31) (hV : 4294967296 ^ n * 2147483648 ≤ V) {u : List Nat} (hl : m ≤ u.length) (hu : nv u = x * 2 ^ k) : nv (u.drop m) < V := by
 have h1 := nv_split_at u m hl
 have h2 : x * 2 ^ k < 4294967296 ^ (m + n) * 2147483648 := Nat.mul_lt_mul_of_lt_of_le hx (pow_le31 hk) (by decide)
 rw [Nat.pow_add, Nat.mul_assoc, ← hu] at h2
 have h3 : 4294967296 ^ m * nv (u.drop m) < 4294967296 ^ m * (4294967296 ^ n * 2147483648) := by omega
 have := Nat.lt_of_mul_lt_mul_left h3
 omega
structure Step (u : List Nat) (V i n : Nat) : Prop where
 eq : nv (u.drop i) = nv ((u.drop i).take (n + 3))
 lt : nv (u.drop i) < 4294967296 * V
 cells : u = u.take i ++ (u.drop i).take (n + 3) ++ u.drop (i + (n + 3))
 slen : ((u.drop i).take (n + 3)).length = n + 3
 g2 : ((u.drop i).take (n + 3)).getD (n + 2) 0 = u.getD (i + n + 2) 0
 g1 : ((u.drop i).take (n + 3)).getD (n + 1) 0 = u.getD (i + n + 1) 0
 g0 : ((u.drop i).take (n + 3)).getD n 0 = u.getD (i + n) 0
 rest : nv (u.drop (i + (n + 3))) = 0
theorem getD_cut (u : List Nat) (i k j : Nat) (h : j < k) : ((u.drop i).take k).getD j 0 = u.getD (i + j) 0 := by
 simp [List.getD_eq_getElem?_getD, List.getElem?_take, h, List.getElem?_drop]
theorem z_zero {x t P z V Q : Nat} (h : x = t + P * z) (hx : x < 4294967296 * V) (hV : V < Q) (hP : P = Q * 4294967296) : z = 0 := by
 rcases Nat.eq_zero_or_pos z with e | e
 ·exact e
 ·have h1 := Nat.mul_le_mul_left P e
  rw [Nat.mul_one] at h1
  omega
theorem up_lt {x y V : Nat} (hx : x < 4294967296) (hR : y < V) : x + 4294967296 * y < 4294967296 * V := by omega
theorem step_of {u : List Nat} {V i n : Nat} (lu : lim u) (hl : i + (n + 3) ≤ u.length) (hR : nv (u.drop (i + 1)) < V) (hV : V < 4294967296 ^ (n + 2)) : Step u V i n := by
 have hlt : nv (u.drop i) < 4294967296 * V := by
  rw [nv_drop (a := u) (m := i) (by omega)]; exact up_lt (lim_getD lu i) hR
 have hs := nv_split_at (u.drop i) (n + 3) (by simp; omega)
 rw [List.drop_drop] at hs
 have hz : nv (u.drop (i + (n + 3))) = 0 := z_zero hs hlt hV (Nat.pow_succ (n := 4294967296) (m := n + 2))
 refine ⟨?_, hlt, ?_, by simp; omega, getD_cut u i (n + 3) (n + 2) (by omega), getD_cut u i (n + 3) (n + 1) (by omega), getD_cut u i (n + 3) n (by omega), hz⟩
 ·rw [hs, hz, Nat.mul_zero, Nat.add_zero]
 ·rw [List.append_assoc, show u.drop (i + (n + 3)) = (u.drop i).drop (n + 3) by rw [List.drop_drop], List.take_append_drop, List.take_append_drop]
theorem v1_pos {V v1 v0 P Vl : Nat} (hv : V = (v1 * 4294967296 + v0) * P + Vl) (hVl : Vl < P) (h0 : v0 < 4294967296) (hVn : P * 4294967296 * 2147483648 ≤ V) : 0 < v1 := by
 rcases Nat.eq_zero_or_pos v1 with e | e
 ·subst e
  rw [Nat.zero_mul, Nat.zero_add] at hv
  have h3 : v0 * P ≤ 4294967295 * P := Nat.mul_le_mul_right P (by clear hv hVn; omega)
  generalize v0 * P = z at *
  omega
 ·exact e
theorem tw_lt {U V T W P Ul Vl : Nat} (hu : U = T * P + Ul) (hv : V = W * P + Vl) (hVl : Vl < P) (hlt : U < 4294967296 * V) : T < 4294967296 * (W + 1) := by
 have h1 : V < (W + 1) * P := by rw [Nat.add_mul, Nat.one_mul]; omega
 have h2 : T * P < (4294967296 * (W + 1)) * P := by
  rw [Nat.mul_assoc]
  generalize (W + 1) * P = z at *
  omega
 exact Nat.lt_of_mul_lt_mul_right h2
theorem u2_le {u2 u1 u0 v1 v0 : Nat} (h0 : v0 < 4294967296) (h : (u2 * 4294967296 + u1) * 4294967296 + u0 < 4294967296 * (v1 * 4294967296 + v0 + 1)) : u2 ≤ v1 := by omega
theorem half_le {P V : Nat} (h : P * 4294967296 * 2147483648 ≤ V) : 4294967296 * P ≤ V := by omega
theorem step_guess {u : List Nat} {V i n : Nat} (lu : lim u) (hS : Step u V i n) (hVl : V < 4294967296 ^ (n + 2)) (hVn : 4294967296 ^ (n + 1) * 2147483648 ≤ V) :
  u.getD (i + n + 2) 0 ≤ (limbs V).getD (n + 1) 0 ∧ 0 < (limbs V).getD (n + 1) 0 ∧
  nv (u.drop i) / V ≤ gq ((u.getD (i + n + 2) 0 * 4294967296 + u.getD (i + n + 1) 0) * 4294967296 + u.getD (i + n) 0) ((limbs V).getD (n + 1) 0 * 4294967296 + (limbs V).getD n 0) ∧
  gq ((u.getD (i + n + 2) 0 * 4294967296 + u.getD (i + n + 1) 0) * 4294967296 + u.getD (i + n) 0) ((limbs V).getD (n + 1) 0 * 4294967296 + (limbs V).getD n 0) ≤ nv (u.drop i) / V + 1 := by
 have hlen : (limbs V).length = n + 2 := limbs_len_eq hVl (Nat.le_trans (Nat.le_mul_of_pos_right _ (by decide)) hVn)
 have hv := top2 (limbs V) n hlen
 have hvl := nv_take_lt (lim_limbs V) (n := n) (by omega)
 have ls := lim_take (lim_drop lu i) (n + 3)
 have hu := top3 _ n hS.slen
 have hul := nv_take_lt ls (n := n) (by rw [hS.slen]; omega)
 rw [← hS.eq, hS.g2, hS.g1, hS.g0] at hu
 rw [nv_limbs] at hv
 have h0v := lim_getD (lim_limbs V) n
 have hlt := hS.lt
 rw [Nat.pow_succ] at hVn
 have hv1 := v1_pos hv hvl h0v hVn
 exact ⟨u2_le h0v (tw_lt hu hv hvl hlt), hv1, gq_spec hu hul hv hvl (half_le hVn) hlt (Nat.lt_of_lt_of_le (Nat.mul_pos hv1 (by decide)) (Nat.le_add_right _ _))⟩
theorem step_sum {A u q V i n : Nat} {us qs : List Nat} (hA : A = 4294967296 ^ (i + 1) * nv qs * V + nv us) (hu : nv us = u + 4294967296 ^ i * n) (hq : q = n / V) :
  A = 4294967296 ^ i * nv (q :: qs) * V + (u + 4294967296 ^ i * (n % V)) := by
 subst hq
 have h1 := Nat.div_add_mod' n V
 simp only [nv]
 rw [hA, hu, Nat.pow_succ]
 have e1 : 4294967296 ^ i * n = 4294967296 ^ i * (n / V * V) + 4294967296 ^ i * (n % V) := by rw [← Nat.mul_add, h1]
 have e2 : 4294967296 ^ i * (n / V + 4294967296 * nv qs) * V = 4294967296 ^ i * (n / V * V) + 4294967296 ^ i * 4294967296 * nv qs * V := by
  rw [Nat.mul_add, Nat.add_mul]
  simp only [Nat.mul_assoc]
 rw [e1, e2]; omega
theorem div_fin {A V q r : Nat} (h : A = q * V + r) (hr : r < V) : q = A / V ∧ r = A % V := by
 subst h
 have h0 : 0 < V := by omega
 rw [Nat.add_comm, Nat.add_mul_div_right _ _ h0, Nat.add_mul_mod_self_right, Nat.div_eq_of_lt hr, Nat.mod_eq_of_lt hr]
 exact ⟨by omega, rfl⟩
theorem dig_snoc (k x : Nat) : dig (k + 1) x = dig k x ++ [x / 4294967296 ^ k % 4294967296] := by
 induction k generalizing x with
 | zero => simp [dig]
 | succ k ih =>
  rw [dig, ih, dig, Nat.div_div_eq_div_mul, ← Nat.pow_succ']
  rfl
theorem drop_div {u : List Nat} (lu : lim u) (i : Nat) (h : i ≤ u.length) : nv u / 4294967296 ^ i = nv (u.drop i) := by
 have h1 := nv_split_at u i h
 have h2 := nv_take_lt lu h
 rw [h1, Nat.add_mul_div_left _ _ (by omega), Nat.div_eq_of_lt h2, Nat.zero_add]
theorem back {u : List Nat} (lu : lim u) {i k : Nat} (hi : i + 1 < u.length) (hk : k ≤ 31) : (u.getD (i + 1) 0 * 4294967296 + u.getD i 0) / 2 ^ k % 4294967296 = nv u / 2 ^ k / 4294967296 ^ i % 4294967296 := by
 rw [Nat.div_div_eq_div_mul, Nat.mul_comm (2 ^ k), ← Nat.div_div_eq_div_mul, drop_div lu i (by omega), nv_drop (a := u) (m := i) (by omega), nv_drop (a := u) (m := i + 1) (by omega), ← shr2 hk, Nat.mul_comm 4294967296]
theorem qv_lt {q V n : Nat} (hq : q < 4294967296) (hV : V < 4294967296 ^ (n + 2)) : q * V < 4294967296 ^ (n + 3) := by
 have h1 : 4294967296 ^ (n + 3) = 4294967296 ^ (n + 2) * 4294967296 := Nat.pow_succ 4294967296 (n + 2)
 rw [h1, Nat.mul_comm q]
 exact Nat.mul_lt_mul_of_lt_of_le hV (Nat.le_of_lt hq) (by decide)
theorem le_pow3 {V n : Nat} (hV : V < 4294967296 ^ (n + 2)) : V ≤ 4294967296 ^ (n + 3) :=
 Nat.le_of_lt (Nat.lt_of_lt_of_le hV (Nat.pow_le_pow_right (by decide) (by omega)))
theorem nv_put {p s t : List Nat} {n i U r : Nat} (hp : p.length = i) (_hs : s.length = n + 3) (ht : nv t = 0) (hU : nv s = U) : nv (p ++ s ++ t) = nv p + 4294967296 ^ i * U ∧ (r < 4294967296 ^ (n + 3) → nv (p ++ dig (n + 3) r ++ t) = nv p + 4294967296 ^ i * r ∧ nv ((p ++ dig (n + 3) r ++ t).drop i) = r) := by
 refine ⟨?_, fun hr => ⟨?_, ?_⟩⟩
 ·rw [nv_app, nv_app, ht, Nat.mul_zero, Nat.add_zero, hp, hU]
 ·rw [nv_app, nv_app, ht, Nat.mul_zero, Nat.add_zero, hp, nv_dig, Nat.mod_eq_of_lt hr]
 ·rw [List.append_assoc, List.drop_append, List.drop_of_length_le (by omega), hp, Nat.sub_self, List.drop_zero, List.nil_append, nv_app, ht, Nat.mul_zero, Nat.add_zero, nv_dig, Nat.mod_eq_of_lt hr]
end Nat32
namespace Nat32
open Go Go.Dat
theorem tdiv32 (i : Nat) : ((i : Int)).tdiv 32 = ((i / 32 : Nat) : Int) := tdiv_nat i 32
theorem tmod32 (i : Nat) : ((i : Int)).tmod 32 = ((i % 32 : Nat) : Int) := tmod_nat i 32
theorem shr_w32 (a k : Nat) (hk : k ≤ 31) : ((a : Int)).fdiv (2 ^ min k IntKind.u32.bits) = ((a / 2 ^ k : Nat) : Int) := by
 have e : min k IntKind.u32.bits = k := by
  have : IntKind.u32.bits = 32 := rfl
  omega
 rw [e, show ((2 : Int) ^ k) = ((2 ^ k : Nat) : Int) by simp, fdiv_nat]
theorem and_oneU {z : Nat} (h : z < 4294967296) : bitE .and .u32 (z : Int) 1 = ((z % 2 : Nat) : Int) := by
 have := and_nat32 z 1 h (by decide)
 rw [Nat.and_one_is_mod] at this
 exact this
theorem bit_of {a : List Nat} (la : lim a) (i : Nat) (h : i / 32 < a.length) : a.getD (i / 32) 0 / 2 ^ (i % 32) % 2 = nv a / 2 ^ i % 2 := by
 have e : 2 ^ i = 4294967296 ^ (i / 32) * 2 ^ (i % 32) := by
  rw [show (4294967296 : Nat) = 2 ^ 32 from rfl, ← Nat.pow_mul, ← Nat.pow_add, Nat.div_add_mod]
 rw [e, ← Nat.div_div_eq_div_mul, drop_div la _ (by omega), nv_drop h]
 generalize a.getD (i / 32) 0 = x
 generalize nv (a.drop (i / 32 + 1)) = z
 have hm : i % 32 < 32 := Nat.mod_lt _ (by decide)
 generalize i % 32 = m at hm
 have e2 : x + 4294967296 * z = x + 2 ^ m * (2 * (2 ^ (31 - m) * z)) := by
  rw [← Nat.mul_assoc, ← Nat.mul_assoc, ← Nat.pow_succ, ← Nat.pow_add, show m + 1 + (31 - m) = 32 by omega]
 rw [e2, Nat.add_mul_div_left _ _ (Nat.two_pow_pos m), Nat.add_mul_mod_self_left]
theorem bit_step (x i : Nat) : x / 2 ^ i = 2 * (x / 2 ^ (i + 1)) + x / 2 ^ i % 2 := by
 rw [Nat.pow_succ, ← Nat.div_div_eq_div_mul]; omega
theorem len_mono {x y : Nat} (h : x ≤ y) : (limbs x).length ≤ (limbs y).length :=
 limbs_len.2 (Nat.lt_of_le_of_lt h (limbs_len.1 (Nat.le_refl _)))
theorem len_double {x n : Nat} (h : (limbs x).length ≤ n) : (limbs (2 * x + 1)).length ≤ n + 1 := by
 rw [limbs_len] at h ⊢
 rw [Nat.pow_succ]; omega
theorem pow32 (n : Nat) : (4294967296 : Nat) ^ n = 2 ^ (32 * n) := by rw [show (4294967296 : Nat) = 2 ^ 32 from rfl, ← Nat.pow_mul]
end Nat32
namespace Nat32
theorem len_pow {x m : Nat} (h : (limbs x).length ≤ m) (i : Nat) : (limbs (x ^ i)).length ≤ i * m + 1 := by
 induction i with
 | zero => rw [Nat.pow_zero, limbs_one (by decide) (by decide)]; simp
 | succ i ih =>
  rw [Nat.pow_succ, Nat.add_mul, Nat.one_mul]
  have := len_mul ih h
  omega
end Nat32
namespace Nat32
open Go Go.Dat
def iv (neg : Bool) (a : List Nat) : Int := if neg then -((vn a : Nat) : Int) else ((vn a : Nat) : Int)
def I (z : Int) : DV := .agg [.bool (decide (z < 0)), .sl 1 (us (limbs z.natAbs))]
def X (neg : Bool) (a : List Nat) : DV := .agg [.bool neg, .sl 1 (us a)]
def vldI (neg : Bool) (a : List Nat) : Bool := vld a && (decide (0 < a.length) || !neg)
theorem iv_I (z : Int) : iv (decide (z < 0)) (limbs z.natAbs) = z := by
 unfold iv
 rw [vn_limbs]
 by_cases h : z < 0
 ·rw [if_pos (decide_eq_true h)]; omega
 ·rw [if_neg (by simpa using h)]; omega
theorem limbs_len0 {n : Nat} : 0 < (limbs n).length ↔ 0 < n := by
 rcases Nat.eq_zero_or_pos n with e | e
 ·subst e; rw [limbs_zero]; simp
 ·constructor
  ·intro _; exact e
  ·intro _
   rcases Nat.eq_zero_or_pos (limbs n).length with h | h
   ·have := limbs_eq_nil.1 (List.eq_nil_of_length_eq_zero h); omega
   ·exact h
theorem vldI_I (z : Int) : vldI (decide (z < 0)) (limbs z.natAbs) = true := by
 unfold vldI
 rw [vld_limbs, Bool.true_and, Bool.or_eq_true]
 by_cases h : z < 0
 ·exact .inl (decide_eq_true (limbs_len0.2 (by omega)))
 ·exact .inr (by simp [h])
theorem X_I {neg : Bool} {a : List Nat} (la : lim a) (h : vldI neg a = true) : X neg a = I (iv neg a) := by
 unfold vldI at h
 rw [Bool.and_eq_true, Bool.or_eq_true] at h
 obtain ⟨hv, h2⟩ := h
 have ha : limbs (vn a) = a := by rw [← val_limbs la, val, hv, if_pos rfl]
 unfold X I iv
 cases neg with
 | false =>
  simp only [Bool.false_eq_true, if_false, Int.natAbs_natCast, ha]
  rw [decide_eq_false (by omega)]
 | true =>
  have h3 : 0 < a.length := by
   rcases h2 with h | h
   ·exact of_decide_eq_true h
   ·cases h
  have h4 : 0 < vn a := by rw [← limbs_len0, ha]; exact h3
  simp only [if_true, Int.natAbs_neg, Int.natAbs_natCast, ha]
  rw [decide_eq_true (by omega)]
theorem iv_inv {neg : Bool} {a : List Nat} (h : vldI neg a = false) : iv neg a = 0 := by
 unfold vldI at h
 unfold iv
 have h0 : vn a = 0 := by
  by_cases hv : vld a = true
  ·rw [hv, Bool.true_and, Bool.or_eq_false_iff] at h
   have : a = [] := List.eq_nil_of_length_eq_zero (by have := of_decide_eq_false h.1; omega)
   subst this; rfl
  ·unfold vn val; rw [if_neg hv]; rfl
 rw [h0]; split <;> rfl
def sgn (neg : Bool) (n : Nat) : Int := if neg then -(n : Int) else n
theorem sgn_abs (neg : Bool) (n : Nat) : (sgn neg n).natAbs = n := by unfold sgn; split <;> omega
theorem sgn_lt (neg : Bool) (n : Nat) : decide (sgn neg n < 0) = (neg && decide (0 < n)) := by
 unfold sgn
 cases neg with
 | false => simp only [Bool.false_eq_true, if_false, Bool.false_and]; exact decide_eq_false (by omega)
 | true => simp only [if_true, Bool.true_and]; rw [decide_eq_decide]; omega
theorem sgn_self (z : Int) : sgn (decide (z < 0)) z.natAbs = z := by
 unfold sgn
 by_cases h : z < 0
 ·rw [if_pos (decide_eq_true h)]; omega
 ·rw [if_neg (by simpa using h)]; omega
theorem sgn_not (z : Int) : sgn (!decide (z < 0)) z.natAbs = -z := by
 unfold sgn
 by_cases h : z < 0
 ·rw [if_neg (by simp [h])]; omega
 ·rw [if_pos (by simp [h])]; omega
theorem add_same {x y : Int} (h : decide (x < 0) = decide (y < 0)) : sgn (decide (x < 0)) (x.natAbs + y.natAbs) = x + y := by
 rw [decide_eq_decide] at h
 unfold sgn
 by_cases hx : x < 0
 ·rw [if_pos (decide_eq_true hx)]; have := h.1 hx; omega
 ·rw [if_neg (by simpa using hx)]; have : ¬ y < 0 := fun k => hx (h.2 k); omega
theorem add_left {x y : Int} (h : ¬ decide (x < 0) = decide (y < 0)) (hle : y.natAbs ≤ x.natAbs) : sgn (decide (x < 0)) (x.natAbs - y.natAbs) = x + y := by
 rw [decide_eq_decide] at h
 unfold sgn
 by_cases hx : x < 0
 ·rw [if_pos (decide_eq_true hx)]; have : ¬ y < 0 := fun k => h ⟨fun _ => k, fun _ => hx⟩; omega
 ·rw [if_neg (by simpa using hx)]; have : y < 0 := by
   rcases Int.lt_or_le y 0 with k | k
   ·exact k
   ·exact absurd (show x < 0 ↔ y < 0 from ⟨fun a => absurd a hx, fun a => absurd a (by omega)⟩) h
  omega
theorem add_right {x y : Int} (h : ¬ decide (x < 0) = decide (y < 0)) (hle : ¬ y.natAbs ≤ x.natAbs) : sgn (decide (y < 0)) (y.natAbs - x.natAbs) = x + y := by
 have := add_left (x := y) (y := x) (fun k => h k.symm) (by omega)
 rw [this, Int.add_comm]
theorem mul_sgn (x y : Int) : sgn (!(decide (x < 0) == decide (y < 0))) (x.natAbs * y.natAbs) = x * y := by
 have hxy := Int.natAbs_mul x y
 unfold sgn
 by_cases hx : x < 0 <;> by_cases hy : y < 0
 ·have h := Int.mul_pos_of_neg_of_neg hx hy
  simp [hx, hy]; rw [← Int.natCast_mul, ← hxy]; omega
 ·have h : x * y ≤ 0 := Int.mul_nonpos_of_nonpos_of_nonneg (by omega) (by omega)
  simp [hx, hy]; rw [← Int.natCast_mul, ← hxy]; omega
 ·have h : x * y ≤ 0 := Int.mul_nonpos_of_nonneg_of_nonpos (by omega) (by omega)
  simp [hx, hy]; rw [← Int.natCast_mul, ← hxy]; omega
 ·have h : 0 ≤ x * y := Int.mul_nonneg (by omega) (by omega)
  simp [hx, hy]; rw [← Int.natCast_mul, ← hxy]; omega
theorem sign_len {z : Int} : (limbs z.natAbs).length = 0 ↔ z = 0 := by
 constructor
 ·intro h
  have := limbs_eq_nil.1 (List.eq_nil_of_length_eq_zero h)
  omega
 ·rintro rfl; rw [show (0 : Int).natAbs = 0 from rfl, limbs_zero]; rfl
theorem ediv_uniq {x y q r : Int} (h : x = q * y + r) (h0 : 0 ≤ r) (h1 : r < y.natAbs) : q = x / y ∧ r = x % y := by
 have h2 : r + y * q = x := by rw [h, Int.mul_comm y q, Int.add_comm]
 rcases Int.lt_or_le 0 y with hy | hy
 ·have := (Int.ediv_emod_unique hy).2 ⟨h2, h0, by omega⟩
  exact ⟨this.1.symm, this.2.symm⟩
 ·have := (Int.ediv_emod_unique' (show y < 0 by omega)).2 ⟨h2, h0, by omega⟩
  exact ⟨this.1.symm, this.2.symm⟩
def cellT (wd : Nat → Nat) (j : Nat) (s : List UInt8) : List UInt8 := (if 0 < j then [32, 32] else []) ++ (List.replicate (wd j - s.length) 32 ++ s)
def rowT (wd : Nat → Nat) (r : List (List UInt8)) (k : Nat) : List UInt8 := (List.range k).flatMap fun j => cellT wd j (r.getD j [])
def colT (wd : Nat → Nat) (recs : List (List (List UInt8))) (n i : Nat) : List UInt8 := (List.range i).flatMap fun i => rowT wd (recs.getD i []) n ++ [10]
def strL (r : List (List UInt8)) : List DV := r.map DV.str
def recD (recs : List (List (List UInt8))) : List DV := recs.map fun r => .sl 1 (strL r)
def part (a z : DV) (i k : Nat) : List DV := List.replicate i a ++ List.replicate (k - i) z
abbrev Bs := List UInt8
def fl (ps : List Bs) : List Bs := ps.filter fun p => decide (p ≠ [])
def letU (c : UInt8) : Bool := (decide (97 ≤ c.toNat) && decide (c.toNat ≤ 122)) || (decide (65 ≤ c.toNat) && decide (c.toNat ≤ 90))
def innU (c : UInt8) : Bool := letU c || (decide (48 ≤ c.toNat) && decide (c.toNat ≤ 57)) || decide (c.toNat = 95) || decide (c.toNat = 46)
def power : Bs := [112, 111, 119, 101, 114]
def nameB (s : Bs) : Bool := decide (1 ≤ s.length) && (decide (s.length ≤ 32) && (letU (s.getD 0 0) && (decide (¬ s = power) && s.all innU)))
def ixS : List Bs → Bs → Int
 | [], _ => -1
 | x :: l, s => if x = s then 0 else if ixS l s < 0 then -1 else ixS l s + 1
theorem ixS_bd (s : Bs) : ∀ l : List Bs, -1 ≤ ixS l s ∧ ixS l s < l.length
 | [] => by simp [ixS]
 | x :: l => by
  have := ixS_bd s l
  simp only [ixS, List.length_cons]
  split
  ·omega
  ·split <;> omega
theorem ixS_none {s : Bs} : ∀ {l : List Bs}, s ∉ l → ixS l s = -1
 | [], _ => rfl
 | x :: l, h => by
  simp only [List.mem_cons, not_or] at h
  have := ixS_none h.2
  simp only [ixS]
  rw [if_neg (Ne.symm h.1), this]; rfl
theorem ixS_at {s : Bs} : ∀ {l : List Bs} {i : Nat}, i < l.length → l.getD i [] = s → (∀ j, j < i → l.getD j [] ≠ s) → ixS l s = i
 | [], i, h, _, _ => absurd h (Nat.not_lt_zero _)
 | x :: l, 0, _, h1, _ => by
  have : x = s := h1
  simp only [ixS]; rw [if_pos this]; rfl
 | x :: l, i + 1, h, h1, h2 => by
  have h3 := ixS_at (l := l) (i := i) (by simp at h; omega) h1 fun j hj => h2 (j + 1) (by omega)
  have h4 : x ≠ s := h2 0 (by omega)
  simp only [ixS]
  rw [if_neg h4, h3, if_neg (by omega)]; omega
theorem ixS_no {s : Bs} {l : List Bs} (h : ∀ j, j < l.length → l.getD j [] ≠ s) : ixS l s = -1 := by
 refine ixS_none fun hm => ?_
 obtain ⟨j, hj⟩ := List.mem_iff_getElem?.1 hm
 have hlt := (List.getElem?_eq_some_iff.1 hj).1
 exact h j hlt (by rw [List.getD_eq_getElem?_getD, hj]; rfl)
def namesB (l : List Bs) : Bool := (List.range l.length).all fun i => nameB (l.getD i []) && decide (ixS (l.take i) (l.getD i []) < 0)
theorem namesB_true {l : List Bs} (h : ∀ i, i < l.length → (nameB (l.getD i []) && decide (ixS (l.take i) (l.getD i []) < 0)) = true) : namesB l = true :=
 List.all_eq_true.2 fun i hi => h i (List.mem_range.1 hi)
theorem namesB_false {l : List Bs} {i : Nat} (hi : i < l.length) (h : (nameB (l.getD i []) && decide (ixS (l.take i) (l.getD i []) < 0)) = false) : namesB l = false := by
 cases hn : namesB l with
 | false => rfl
 | true => rw [List.all_eq_true.1 hn i (List.mem_range.2 hi)] at h; cases h
theorem all_false {p : UInt8 → Bool} {s : Bs} {i : Nat} (hi : i < s.length) (h : p (s.getD i 0) = false) : s.all p = false := by
 cases hn : s.all p with
 | false => rfl
 | true =>
  rw [List.getD_eq_getElem?_getD, List.getElem?_eq_getElem hi, Option.getD_some] at h
  rw [show p s[i] = true from List.all_eq_true.1 hn _ (List.getElem_mem hi)] at h
  cases h
theorem all_of {p : UInt8 → Bool} {s : Bs} (h : ∀ i, i < s.length → p (s.getD i 0) = true) : s.all p = true := by
 refine List.all_eq_true.2 fun x hx => ?_
 obtain ⟨i, hi⟩ := List.mem_iff_getElem?.1 hx
 have hlt := (List.getElem?_eq_some_iff.1 hi).1
 have := h i hlt
 rwa [List.getD_eq_getElem?_getD, hi] at this
theorem mem_getD {l : List Bs} {i : Nat} (h : i < l.length) : l.getD i [] ∈ l := by
 rw [List.getD_eq_getElem?_getD, List.getElem?_eq_getElem h]; exact List.getElem_mem h
theorem iv_abs (neg : Bool) (a : List Nat) : (iv neg a).natAbs = vn a := by unfold iv; split <;> omega
theorem iv_len {a : List Nat} (la : lim a) (neg : Bool) : (limbs (iv neg a).natAbs).length ≤ a.length := by
 rw [iv_abs, ← val_limbs la]; exact val_len a
def imod (x y : Int) : Int := if y = 0 then 0 else x % y
theorem sgn_mul (x y : Int) (n : Nat) : sgn (!(decide (x < 0) == decide (y < 0))) n * y = sgn (decide (x < 0)) (n * y.natAbs) := by
 obtain ⟨K, hK⟩ : ∃ K : Nat, K = y.natAbs := ⟨_, rfl⟩
 rw [← hK]
 by_cases h1 : x < 0 <;> by_cases h2 : y < 0
 ·have e : y = -(K : Int) := by omega
  simp only [h1, h2, decide_true]
  rw [e]; show ((n : Int)) * -(K : Int) = -((n * K : Nat) : Int)
  rw [Int.mul_neg, Int.natCast_mul]
 ·have e : y = (K : Int) := by omega
  simp only [h1, h2, decide_true, decide_false]
  rw [e]; show (-(n : Int)) * (K : Int) = -((n * K : Nat) : Int)
  rw [Int.neg_mul, Int.natCast_mul]
 ·have e : y = -(K : Int) := by omega
  simp only [h1, h2, decide_true, decide_false]
  rw [e]; show (-(n : Int)) * -(K : Int) = ((n * K : Nat) : Int)
  rw [Int.neg_mul, Int.mul_neg, Int.neg_neg, Int.natCast_mul]
 ·have e : y = (K : Int) := by omega
  simp only [h1, h2, decide_false]
  rw [e]; show ((n : Int)) * (K : Int) = ((n * K : Nat) : Int)
  rw [Int.natCast_mul]
theorem sgn_add (b : Bool) (m n : Nat) : sgn b (m + n) = sgn b m + sgn b n := by unfold sgn; split <;> omega
theorem div_plain (x y : Int) (hy : y ≠ 0) (hx : ¬ (x < 0 ∧ 0 < x.natAbs % y.natAbs)) : sgn (!(decide (x < 0) == decide (y < 0))) (x.natAbs / y.natAbs) = x / y ∧ sgn false (x.natAbs % y.natAbs) = x % y := by
 have h0 : 0 < y.natAbs := by omega
 have hm := Nat.mod_lt x.natAbs h0
 have hd := Nat.div_add_mod' x.natAbs y.natAbs
 have hs := sgn_self x
 rw [← hd, sgn_add, ← sgn_mul] at hs
 have hr : sgn (decide (x < 0)) (x.natAbs % y.natAbs) = sgn false (x.natAbs % y.natAbs) := by
  by_cases h1 : x < 0
  ·have hz : x.natAbs % y.natAbs = 0 := by
    rcases Nat.eq_zero_or_pos (x.natAbs % y.natAbs) with e | e
    ·exact e
    ·exact absurd ⟨h1, e⟩ hx
   rw [hz]; unfold sgn; split <;> rfl
  ·rw [decide_eq_false h1]
 rw [hr] at hs
 exact ediv_uniq hs.symm (Int.natCast_nonneg _) (by show ((x.natAbs % y.natAbs : Nat) : Int) < _; omega)
theorem div_fix (x y : Int) (hy : y ≠ 0) (h1 : x < 0) (h2 : 0 < x.natAbs % y.natAbs) : sgn (!(decide (x < 0) == decide (y < 0))) (x.natAbs / y.natAbs + 1) = x / y ∧ sgn false (y.natAbs - x.natAbs % y.natAbs) = x % y := by
 have h0 : 0 < y.natAbs := by omega
 have hm := Nat.mod_lt x.natAbs h0
 have hd := Nat.div_add_mod' x.natAbs y.natAbs
 have hq := sgn_mul x y (x.natAbs / y.natAbs + 1)
 rw [Nat.add_mul, Nat.one_mul] at hq
 refine ediv_uniq ?_ (Int.natCast_nonneg _) (by show ((y.natAbs - x.natAbs % y.natAbs : Nat) : Int) < _; omega)
 rw [hq]
 show x = sgn (decide (x < 0)) (x.natAbs / y.natAbs * y.natAbs + y.natAbs) + ((y.natAbs - x.natAbs % y.natAbs : Nat) : Int)
 rw [decide_eq_true h1]
 show x = -((x.natAbs / y.natAbs * y.natAbs + y.natAbs : Nat) : Int) + ((y.natAbs - x.natAbs % y.natAbs : Nat) : Int)
 generalize x.natAbs % y.natAbs = m at *
 generalize x.natAbs / y.natAbs * y.natAbs = t at *
 omega
end Nat32
namespace Nat32
open Go.Lib (decDigits repeatL)
def isD (c : UInt8) : Bool := decide (48 ≤ c.toNat) && decide (c.toNat ≤ 57)
def dval (n : Nat) (l : List UInt8) : Nat := l.foldl (fun n c => 10 * n + (c.toNat - 48)) n
theorem dval_nil (n : Nat) : dval n [] = n := rfl
theorem dval_cons (n : Nat) (c : UInt8) (l : List UInt8) : dval n (c :: l) = dval (10 * n + (c.toNat - 48)) l := by unfold dval; rw [List.foldl_cons]
theorem dval_append (n : Nat) (l m : List UInt8) : dval n (l ++ m) = dval (dval n l) m := List.foldl_append ..
theorem dval_acc (l : List UInt8) : ∀ n, dval n l = n * 10 ^ l.length + dval 0 l := by
 induction l with
 | nil => intro n; rw [dval_nil, dval_nil, List.length_nil, Nat.pow_zero]; omega
 | cons c l ih =>
  intro n
  rw [dval_cons, dval_cons, ih (10 * n + (c.toNat - 48)), ih (10 * 0 + (c.toNat - 48)), List.length_cons, Nat.pow_succ]
  generalize 10 ^ l.length = p
  generalize c.toNat - 48 = d
  generalize dval 0 l = v
  rw [Nat.add_mul, Nat.add_mul, Nat.mul_comm 10 n, Nat.mul_assoc, Nat.mul_comm 10 p]
  omega
theorem dval_lt (l : List UInt8) (h : l.all isD = true) : dval 0 l < 10 ^ l.length := by
 induction l with
 | nil => simp [dval]
 | cons c l ih =>
  simp only [List.all_cons, Bool.and_eq_true, isD, decide_eq_true_eq] at h
  have := ih h.2
  rw [dval_cons, dval_acc, List.length_cons, Nat.pow_succ]
  have h2 : (10 * 0 + (c.toNat - 48)) * 10 ^ l.length ≤ 9 * 10 ^ l.length := Nat.mul_le_mul_right _ (by omega)
  omega
def okD (l : List UInt8) : Bool := !(l.isEmpty || decide (4000 < l.length) || (decide (l.head? = some 48) && decide (1 < l.length))) && l.all isD
end Nat32
namespace Nat32
open Go Go.Dat
theorem vn_limbs_of_vld {a : List Nat} (la : lim a) (h : vld a = true) : limbs (vn a) = a := by rw [vn, val, if_pos h]; exact limbs_nv la h
theorem limbs_1 : limbs 1 = [1] := limbs_one (by decide) (by decide)
theorem vnl {a : List Nat} (hl : lim a) : (limbs (vn a)).length ≤ a.length := by
 rw [← val_limbs hl]; exact val_len a
def dn (d : Nat) : List Nat := if d = 1 then [] else limbs d
def Q (r : Rat) : DV := .agg [.bool (decide (r.num < 0)), .sl 1 (us (limbs r.num.natAbs)), .sl 1 (us (dn r.den))]
def XQ (neg : Bool) (a d : List Nat) : DV := .agg [.bool neg, .sl 1 (us a), .sl 1 (us d)]
def vldQ (neg : Bool) (a d : List Nat) : Bool := vldI neg a && vld d && (decide (d.length = 0) || (decide (0 < a.length) && decide (¬ vn d = 1) && decide (1 = Nat.gcd (vn a) (vn d))))
def rv (neg : Bool) (a d : List Nat) : Rat := if vldQ neg a d then mkRat (iv neg a) (if d.length = 0 then 1 else vn d) else 0
theorem lim_dn (d : Nat) : lim (dn d) := by unfold dn; split; exact lim_nil; exact lim_limbs _
theorem vld_dn (d : Nat) : vld (dn d) = true := by unfold dn; split; rfl; exact vld_limbs _
theorem dn_len (d : Nat) : (dn d).length ≤ (limbs d).length := by unfold dn; split; simp; exact Nat.le_refl _
theorem dn_one : dn 1 = [] := rfl
theorem dn_len0 {d : Nat} (h : d ≠ 0) : (dn d).length = 0 ↔ d = 1 := by
 unfold dn
 by_cases h1 : d = 1
 ·rw [if_pos h1]; simp [h1]
 ·rw [if_neg h1]
  constructor
  ·intro e; exact absurd (limbs_eq_nil.1 (List.eq_nil_of_length_eq_zero e)) h
  ·intro e; exact absurd e h1
theorem vn_dn {d : Nat} (h : d ≠ 1) : vn (dn d) = d := by unfold dn; rw [if_neg h, vn_limbs]
theorem vldQ_Q (r : Rat) : vldQ (decide (r.num < 0)) (limbs r.num.natAbs) (dn r.den) = true := by
 unfold vldQ
 rw [vldI_I, vld_dn, Bool.true_and, Bool.true_and]
 by_cases h1 : r.den = 1
 ·rw [h1, dn_one]; rfl
 ·have h0 : 0 < r.num.natAbs := by
   rcases Nat.eq_zero_or_pos r.num.natAbs with e | e
   ·exfalso
    have := r.reduced
    rw [e, Nat.coprime_zero_left] at this
    exact h1 this
   ·exact e
  rw [vn_dn h1, vn_limbs, decide_eq_true (limbs_len0.2 h0), decide_eq_true (show ¬ r.den = 1 from h1), decide_eq_true (show 1 = Nat.gcd r.num.natAbs r.den from (show Nat.gcd r.num.natAbs r.den = 1 from r.reduced).symm)]
  simp
theorem rv_Q (r : Rat) : rv (decide (r.num < 0)) (limbs r.num.natAbs) (dn r.den) = r := by
 unfold rv
 rw [vldQ_Q, if_pos rfl, iv_I]
 by_cases h1 : r.den = 1
 ·rw [h1, dn_one, if_pos (show ([] : List Nat).length = 0 from rfl)]
  have := Rat.mkRat_self r
  rwa [h1] at this
 ·rw [if_neg (fun e => h1 ((dn_len0 r.den_nz).1 e)), vn_dn h1, Rat.mkRat_self]
theorem rv_inv {neg : Bool} {a d : List Nat} (h : vldQ neg a d = false) : rv neg a d = 0 := by unfold rv; rw [h]; rfl
theorem rv_parts {neg : Bool} {a d : List Nat} (ld : lim d) (h : vldQ neg a d = true) : (rv neg a d).num = iv neg a ∧ (rv neg a d).den = (if d.length = 0 then 1 else vn d) := by
 unfold rv
 rw [h, if_pos rfl]
 by_cases h0 : d.length = 0
 ·rw [if_pos h0]
  rw [Rat.num_mkRat, Rat.den_mkRat]
  simp
 ·rw [if_neg h0]
  have hv := h
  unfold vldQ at hv
  simp only [Bool.and_eq_true, Bool.or_eq_true, decide_eq_true_eq, h0, false_or] at hv
  obtain ⟨⟨_, hd⟩, ⟨h1, h2⟩, h3⟩ := hv
  replace h3 := h3.symm
  have hne : vn d ≠ 0 := by
   intro e
   rw [e, Nat.gcd_zero_right] at h3
   have : vn d ≠ 0 := by
    have hl := vn_limbs_of_vld ld hd
    intro e2
    rw [e2, limbs_zero] at hl
    rw [← hl] at h0
    exact h0 rfl
   exact this e
  rw [Rat.num_mkRat, Rat.den_mkRat, if_neg hne, if_neg hne, iv_abs, Nat.gcd_comm, h3]
  simp
theorem XQ_Q {neg : Bool} {a d : List Nat} (la : lim a) (ld : lim d) (h : vldQ neg a d = true) : XQ neg a d = Q (rv neg a d) := by
 obtain ⟨h1, h2⟩ := rv_parts ld h
 have hv := h
 unfold vldQ at hv
 simp only [Bool.and_eq_true] at hv
 obtain ⟨⟨hi, hd⟩, h3⟩ := hv
 have hx := X_I la hi
 unfold X I at hx
 injection hx with hx
 injection hx with e1 hx
 injection hx with e2 _
 unfold XQ Q
 rw [h1, h2, e1, e2]
 have e3 : dn (if d.length = 0 then 1 else vn d) = d := by
  by_cases h0 : d.length = 0
  ·rw [if_pos h0, dn_one, List.eq_nil_of_length_eq_zero h0]
  ·rw [if_neg h0]
   simp only [Bool.or_eq_true, Bool.and_eq_true, decide_eq_true_eq, h0, false_or] at h3
   unfold dn
   rw [if_neg h3.1.2]
   exact vn_limbs_of_vld ld hd
 rw [e3]
theorem rv_den (neg : Bool) (a d : List Nat) (ld : lim d) : (limbs (rv neg a d).den).length ≤ max 1 d.length := by
 by_cases h : vldQ neg a d = true
 ·rw [(rv_parts ld h).2]
  by_cases h0 : d.length = 0
  ·rw [if_pos h0, limbs_1]; simp; omega
  ·rw [if_neg h0]; exact Nat.le_trans (vnl ld) (by omega)
 ·rw [rv_inv (by simpa using h), show (0 : Rat).den = 1 from rfl, limbs_1]; simp; omega
theorem rv_num (neg : Bool) (a d : List Nat) (la : lim a) (ld : lim d) : (limbs (rv neg a d).num.natAbs).length ≤ a.length := by
 by_cases h : vldQ neg a d = true
 ·rw [(rv_parts ld h).1]; exact iv_len la neg
 ·rw [rv_inv (by simpa using h), show (0 : Rat).num.natAbs = 0 from rfl, limbs_zero]; simp
theorem ediv_gcd {z : Int} {g : Nat} (h : (g : Int) ∣ z) (hg : 0 < g) : (z / (g : Int)).natAbs = z.natAbs / g ∧ decide (z / (g : Int) < 0) = decide (z < 0) := by
 obtain ⟨c, rfl⟩ := h
 have hg' : (0 : Int) < g := by omega
 rw [Int.mul_ediv_cancel_left _ (by omega), Int.natAbs_mul, Int.natAbs_natCast, Nat.mul_div_cancel_left _ hg]
 refine ⟨rfl, ?_⟩
 rw [decide_eq_decide]
 constructor
 ·intro hc; exact Int.mul_neg_of_pos_of_neg hg' hc
 ·intro hc
  rcases Int.lt_or_le c 0 with k | k
  ·exact k
  ·have := Int.mul_nonneg (Int.le_of_lt hg') k; omega
theorem Q_low (z : Int) (d : Nat) (h : d ≠ 0) : Q (mkRat z d) = .agg [.bool (decide (z < 0)), .sl 1 (us (limbs (z.natAbs / Nat.gcd z.natAbs d))), .sl 1 (us (dn (d / Nat.gcd z.natAbs d)))] := by
 have hg : 0 < Nat.gcd z.natAbs d := Nat.gcd_pos_of_pos_right _ (Nat.pos_of_ne_zero h)
 have hd : ((Nat.gcd z.natAbs d : Nat) : Int) ∣ z := by
  have := Nat.gcd_dvd_left z.natAbs d
  exact Int.ofNat_dvd_left.2 this
 obtain ⟨e1, e2⟩ := ediv_gcd hd hg
 unfold Q
 rw [Rat.num_mkRat, Rat.den_mkRat, if_neg h, if_neg h, Nat.gcd_comm d, e1, e2]
theorem Q_int (z : Int) : Q (z : Rat) = .agg [.bool (decide (z < 0)), .sl 1 (us (limbs z.natAbs)), .sl 1 []] := by
 unfold Q
 rw [Rat.num_intCast, Rat.den_intCast, dn_one, us_nil]
theorem Q0 : Q 0 = .agg [.bool false, .sl 1 [], .sl 1 []] := by
 have := Q_int 0
 rw [show ((0 : Int) : Rat) = 0 from rfl, show (0 : Int).natAbs = 0 from rfl, limbs_zero, us_nil] at this
 exact this
theorem divInt_pos (z : Int) {e : Int} (h : 0 < e) : Rat.divInt z e = mkRat z e.natAbs := by
 obtain ⟨n, rfl⟩ := Int.eq_ofNat_of_zero_le (Int.le_of_lt h)
 exact Rat.divInt_ofNat z n
theorem divInt_neg (z : Int) {e : Int} (h : e < 0) : Rat.divInt z e = mkRat (-z) e.natAbs := by
 rw [← Rat.neg_divInt_neg, divInt_pos _ (by omega), Int.natAbs_neg]
theorem rat_addI {x y : Rat} (hx : x.den = 1) (hy : y.den = 1) : x + y = ((x.num + y.num : Int) : Rat) := by
 rw [Rat.add_def', hx, hy]
 simp [Rat.mkRat_one]
theorem rat_mulI {x y : Rat} (hx : x.den = 1) (hy : y.den = 1) : x * y = ((x.num * y.num : Int) : Rat) := by
 rw [Rat.mul_def', hx, hy]
 simp [Rat.mkRat_one]
def RB (r : Rat) (m : Nat) : Prop := (limbs r.num.natAbs).length ≤ m ∧ (limbs r.den).length ≤ m
theorem RB.mono {r : Rat} {m n : Nat} (h : RB r m) (hm : m ≤ n) : RB r n := ⟨Nat.le_trans h.1 hm, Nat.le_trans h.2 hm⟩
theorem RB_rv {neg : Bool} {a d : List Nat} {m : Nat} (la : lim a) (ld : lim d) (ha : a.length ≤ m) (hd : d.length ≤ m) (hm : 1 ≤ m) : RB (rv neg a d) m :=
 ⟨Nat.le_trans (rv_num neg a d la ld) ha, Nat.le_trans (rv_den neg a d ld) (by omega)⟩
theorem RB_mk {z : Int} {d m : Nat} (h : d ≠ 0) (h1 : (limbs z.natAbs).length ≤ m) (h2 : (limbs d).length ≤ m) : RB (mkRat z d) m := by
 have hg : 0 < Nat.gcd z.natAbs d := Nat.gcd_pos_of_pos_right _ (Nat.pos_of_ne_zero h)
 have hd : ((Nat.gcd z.natAbs d : Nat) : Int) ∣ z := Int.ofNat_dvd_left.2 (Nat.gcd_dvd_left z.natAbs d)
 unfold RB
 rw [Rat.num_mkRat, Rat.den_mkRat, if_neg h, if_neg h, Nat.gcd_comm d, (ediv_gcd hd hg).1]
 exact ⟨Nat.le_trans (len_mono (Nat.div_le_self _ _)) h1, Nat.le_trans (len_mono (Nat.div_le_self _ _)) h2⟩
theorem RB_neg {x : Rat} {m : Nat} (h : RB x m) : RB (-x) m := by unfold RB; rw [Rat.neg_num, Rat.neg_den, Int.natAbs_neg]; exact h
end Nat32
namespace Nat32
open Go Go.Dat
open Go.Lib (decDigits)
def fi (p : UInt8 → Bool) : List UInt8 → Nat
 | [] => 0
 | c :: t => if p c then 0 else fi p t + 1
theorem fi_le (p : UInt8 → Bool) : ∀ l, fi p l ≤ l.length
 | [] => Nat.le_refl _
 | c :: t => by
  unfold fi
  split
  ·exact Nat.zero_le _
  ·have := fi_le p t; simp; omega
def is47 (c : UInt8) : Bool := decide (c = 47)
def is46 (c : UInt8) : Bool := decide (c = 46)
def isE (c : UInt8) : Bool := decide (c = 101) || decide (c = 69)
def digs (f : List UInt8) : Bool := decide (0 < f.length) && f.all isD
def decN (m : List UInt8) : List UInt8 := m.take (fi is46 m)
def decF (m : List UInt8) : List UInt8 := m.drop (fi is46 m + 1)
def decOk (m : List UInt8) : Bool := okD (decN m) && (decide (fi is46 m = m.length) || digs (decF m)) && decide ((decN m).length + (decF m).length ≤ 4000)
def expD (e : List UInt8) : List UInt8 := if e.head? = some 45 then e.tail else e
def expOk (e : List UInt8) : Bool := okD (expD e) && decide (dval 0 (expD e) ≤ 40)
def scl (neg : Bool) (n : Int) (d k : Nat) : Rat := if neg then mkRat n (d * 10 ^ k) else mkRat (n * 10 ^ k) d
def unsQ (s : List UInt8) : Option Rat :=
 if fi is47 s < s.length then
  if okD (s.take (fi is47 s)) && okD (s.drop (fi is47 s + 1)) && decide (0 < dval 0 (s.drop (fi is47 s + 1))) then some (mkRat (dval 0 (s.take (fi is47 s)) : Nat) (dval 0 (s.drop (fi is47 s + 1)))) else none
 else if fi isE s < s.length then
  if expOk (s.drop (fi isE s + 1)) && decOk (s.take (fi isE s)) then
   some (scl (decide ((s.drop (fi isE s + 1)).head? = some 45)) (dval 0 (decN (s.take (fi isE s)) ++ decF (s.take (fi isE s))) : Nat) (10 ^ (decF (s.take (fi isE s))).length) (dval 0 (expD (s.drop (fi isE s + 1)))))
  else none
 else if decOk s then some (mkRat (dval 0 (decN s ++ decF s) : Nat) (10 ^ (decF s).length)) else none
def negQ (neg : Bool) (r : Option Rat) : Option Rat := if neg then r.map (fun x => -x) else r
def parseQ (l : List UInt8) : Option Rat := negQ (decide (l.head? = some 45)) (unsQ (if l.head? = some 45 then l.tail else l))
def resQ (r : Option Rat) : DV := match r with | some x => .tup [Q x, .bool true] | none => .tup [Q 0, .bool false]
theorem okD_iff' (l : List UInt8) : okD l = true ↔ l ≠ [] ∧ l.length ≤ 4000 ∧ ¬ (l.head? = some 48 ∧ 1 < l.length) ∧ l.all isD = true := by
 unfold okD
 cases l with
 | nil => simp
 | cons c l =>
  simp only [List.isEmpty_cons, Bool.false_or, Bool.and_eq_true, Bool.not_eq_true', Bool.or_eq_false_iff, decide_eq_false_iff_not, Bool.and_eq_false_iff]
  constructor
  ·rintro ⟨⟨h1, h2⟩, h3⟩
   exact ⟨by simp, by omega, fun h => h2.elim (fun e => e h.1) (fun e => e h.2), h3⟩
  ·rintro ⟨_, h1, h2, h3⟩
   refine ⟨⟨by omega, ?_⟩, h3⟩
   by_cases e : (c :: l).head? = some 48
   ·exact .inr fun h => h2 ⟨e, h⟩
   ·exact .inl e
def isC (c x : UInt8) : Bool := decide (x = c)
theorem isC47 : isC 47 = is47 := rfl
theorem isC46 : isC 46 = is46 := rfl
def idx (p : UInt8 → Bool) (l : List UInt8) : Int := if fi p l < l.length then (fi p l : Int) else -1
theorem idx_step (p : UInt8 → Bool) (b : UInt8) (l : List UInt8) : idx p (b :: l) = if p b then 0 else if idx p l = -1 then -1 else idx p l + 1 := by
 by_cases h : p b = true
 ·have e1 : fi p (b :: l) = 0 := by simp [fi, h]
  rw [if_pos h]
  unfold idx
  simp only [e1, List.length_cons]
  split <;> omega
 ·have e1 : fi p (b :: l) = fi p l + 1 := by simp [fi, h]
  rw [if_neg h]
  unfold idx
  simp only [e1, List.length_cons]
  (repeat' split) <;> omega
theorem beq_dec (a b : UInt8) : (a == b) = decide (a = b) := by
 by_cases h : a = b
 ·rw [decide_eq_true h, h]; exact beq_self_eq_true b
 ·rw [decide_eq_false h]; exact beq_eq_false_iff_ne.2 h
theorem indexByte_idx (c : UInt8) : ∀ l : List UInt8, Lib.indexByte l c = idx (isC c) l
 | [] => rfl
 | b :: l => by
  rw [idx_step, Lib.indexByte, indexByte_idx c l]
  have e : (b == c) = isC c b := by unfold isC; exact beq_dec b c
  rw [e]
  simp only [beq_iff_eq]
theorem indexAny_idx : ∀ l : List UInt8, Lib.indexAny l [101, 69] = idx isE l
 | [] => rfl
 | b :: l => by
  rw [idx_step, Lib.indexAny, indexAny_idx l]
  have e : ([101, 69] : List UInt8).contains b = isE b := by
   unfold isE
   simp only [List.contains_cons, List.contains_nil, Bool.or_false, beq_dec]
  rw [e]
  simp only [beq_iff_eq]
theorem idx_ge (p : UInt8 → Bool) (l : List UInt8) : decide (0 ≤ idx p l) = decide (fi p l < l.length) := by
 rw [decide_eq_decide]; unfold idx; split <;> omega
theorem idx_of {p : UInt8 → Bool} {l : List UInt8} (h : fi p l < l.length) : idx p l = (fi p l : Int) := by unfold idx; rw [if_pos h]
theorem hasPrefix45 (l : List UInt8) : Lib.hasPrefix l [45] = decide (l.head? = some 45) := by
 unfold Lib.hasPrefix
 cases l with
 | nil => rfl
 | cons c t =>
  rw [List.head?_cons]
  by_cases h : c = 45
  ·subst h; simp [List.isPrefixOf]
  ·rw [decide_eq_false (fun e => h (Option.some.inj e))]
   simp [List.isPrefixOf]; exact fun e => h e.symm
theorem trimPrefix45 (l : List UInt8) : Lib.trimPrefix l [45] = expD l := by
 unfold Lib.trimPrefix expD
 rw [hasPrefix45]
 by_cases h : l.head? = some 45
 ·rw [if_pos (decide_eq_true h), if_pos h]; exact List.drop_one
 ·rw [if_neg (by simpa using h), if_neg h]
def sig (l : List UInt8) : List UInt8 := if Lib.trimLeftB l 48 = [] then [48] else Lib.trimLeftB l 48
theorem trimL_cons (c : UInt8) (l : List UInt8) : Lib.trimLeftB (c :: l) 48 = if c = 48 then Lib.trimLeftB l 48 else c :: l := by
 unfold Lib.trimLeftB
 rw [List.dropWhile_cons]
 by_cases h : c = 48
 ·rw [if_pos h, if_pos (by simp [h])]
 ·rw [if_neg h, if_neg (by simpa using h)]
theorem trimL_len : ∀ l : List UInt8, (Lib.trimLeftB l 48).length ≤ l.length
 | [] => Nat.le_refl _
 | c :: l => by
  rw [trimL_cons]
  split
  ·exact Nat.le_trans (trimL_len l) (by simp)
  ·exact Nat.le_refl _
theorem trimL_spec : ∀ l : List UInt8, l.all isD = true → (Lib.trimLeftB l 48).all isD = true ∧ ¬ (Lib.trimLeftB l 48).head? = some 48 ∧ dval 0 (Lib.trimLeftB l 48) = dval 0 l
 | [], _ => ⟨rfl, by simp [Lib.trimLeftB], rfl⟩
 | c :: l, h => by
  rw [trimL_cons]
  rw [List.all_cons, Bool.and_eq_true] at h
  by_cases hc : c = 48
  ·rw [if_pos hc]
   obtain ⟨h1, h2, h3⟩ := trimL_spec l h.2
   refine ⟨h1, h2, h3.trans ?_⟩
   subst hc
   rw [dval_cons]; rfl
  ·rw [if_neg hc]
   exact ⟨by rw [List.all_cons, h.1, h.2]; rfl, by rw [List.head?_cons]; exact fun e => hc (Option.some.inj e), rfl⟩
theorem sig_ok {l : List UInt8} (h : l.all isD = true) (hl : l.length ≤ 4000) : okD (sig l) = true ∧ dval 0 (sig l) = dval 0 l := by
 obtain ⟨h1, h2, h3⟩ := trimL_spec l h
 have h4 := trimL_len l
 unfold sig
 by_cases h0 : Lib.trimLeftB l 48 = []
 ·rw [if_pos h0]
  rw [h0] at h3
  exact ⟨rfl, h3⟩
 ·rw [if_neg h0]
  exact ⟨(okD_iff' _).2 ⟨h0, by omega, fun h => h2 h.1, h1⟩, h3⟩
def expV (e : List UInt8) : Int := if e.head? = some 45 then -((dval 0 (expD e) : Nat) : Int) else ((dval 0 (expD e) : Nat) : Int)
def expR (e : List UInt8) : DV := if expOk e then .tup [.int .i64 (expV e), .bool true] else .tup [.int .i64 0, .bool false]
def pn (a : List UInt8) : Nat := if okD a then dval 0 a else 0
def mantP (m : List UInt8) (k : Int) : Option (Nat × Nat) :=
 if decOk m then
  if k < 0 then some (dval 0 (decN m ++ decF m), 10 ^ (decF m).length * 10 ^ k.natAbs) else some (dval 0 (decN m ++ decF m) * 10 ^ k.natAbs, 10 ^ (decF m).length)
 else none
def unsP (s : List UInt8) : Option (Nat × Nat) :=
 if fi is47 s < s.length then
  if okD (s.take (fi is47 s)) && okD (s.drop (fi is47 s + 1)) && decide (0 < dval 0 (s.drop (fi is47 s + 1))) then some (dval 0 (s.take (fi is47 s)), dval 0 (s.drop (fi is47 s + 1))) else none
 else if fi isE s < s.length then
  if expOk (s.drop (fi isE s + 1)) then mantP (s.take (fi isE s)) (expV (s.drop (fi isE s + 1))) else none
 else mantP s 0
theorem expV_lt (e : List UInt8) : expV e < 0 ↔ e.head? = some 45 ∧ 0 < dval 0 (expD e) := by
 unfold expV
 by_cases h : e.head? = some 45
 ·rw [if_pos h]; constructor
  ·intro k; exact ⟨h, by omega⟩
  ·intro k; have := k.2; omega
 ·rw [if_neg h]; constructor
  ·intro k; omega
  ·intro k; exact absurd k.1 h
theorem expV_abs (e : List UInt8) : (expV e).natAbs = dval 0 (expD e) := by unfold expV; split <;> omega
theorem unsQ_P (s : List UInt8) : unsQ s = (unsP s).map fun p => mkRat (p.1 : Nat) p.2 := by
 unfold unsQ unsP
 by_cases h1 : fi is47 s < s.length
 ·rw [if_pos h1, if_pos h1]
  split <;> rfl
 ·rw [if_neg h1, if_neg h1]
  by_cases h2 : fi isE s < s.length
  ·rw [if_pos h2, if_pos h2]
   generalize s.drop (fi isE s + 1) = e
   generalize s.take (fi isE s) = m
   by_cases h3 : expOk e = true
   ·rw [h3, Bool.true_and, if_pos rfl]
    unfold mantP
    by_cases h4 : decOk m = true
    ·rw [h4, if_pos rfl, if_pos rfl]
     rw [expV_abs]
     by_cases h5 : expV e < 0
     ·have h6 := (expV_lt e).1 h5
      rw [if_pos h5, decide_eq_true h6.1]
      rfl
     ·rw [if_neg h5]
      by_cases h6 : e.head? = some 45
      ·have h7 : dval 0 (expD e) = 0 := by
        have : ¬ 0 < dval 0 (expD e) := fun k => h5 ((expV_lt e).2 ⟨h6, k⟩)
        omega
       rw [decide_eq_true h6, h7]
       unfold scl
       simp
      ·rw [decide_eq_false h6]
       unfold scl
       simp
    ·have h4 : decOk m = false := by simpa using h4
     rw [h4]; rfl
   ·have h3 : expOk e = false := by simpa using h3
    rw [h3, Bool.false_and]; rfl
  ·rw [if_neg h2, if_neg h2]
   unfold mantP
   by_cases h4 : decOk s = true
   ·rw [h4, if_pos rfl, if_pos rfl, if_neg (by decide)]
    simp
   ·have h4 : decOk s = false := by simpa using h4
    rw [h4]; rfl
theorem mantP_pos {m : List UInt8} {k : Int} {n d : Nat} (h : mantP m k = some (n, d)) : 0 < d := by
 unfold mantP at h
 split at h
 ·split at h
  ·simp only [Option.some.injEq, Prod.mk.injEq] at h
   rw [← h.2]; exact Nat.mul_pos (Nat.pow_pos (by decide)) (Nat.pow_pos (by decide))
  ·simp only [Option.some.injEq, Prod.mk.injEq] at h
   rw [← h.2]; exact Nat.pow_pos (by decide)
 ·cases h
theorem unsP_pos {s : List UInt8} {n d : Nat} (h : unsP s = some (n, d)) : 0 < d := by
 unfold unsP at h
 split at h
 ·split at h
  ·rename_i h1
   simp only [Bool.and_eq_true, decide_eq_true_eq] at h1
   simp only [Option.some.injEq, Prod.mk.injEq] at h
   rw [← h.2]; exact h1.2
  ·cases h
 ·split at h
  ·split at h
   ·exact mantP_pos h
   ·cases h
  ·exact mantP_pos h
theorem parseQ_P (l : List UInt8) : parseQ l = (unsP (expD l)).map fun p => mkRat (sgn (decide (l.head? = some 45)) p.1) p.2 := by
 unfold parseQ
 rw [show (if l.head? = some 45 then l.tail else l) = expD l from rfl, unsQ_P]
 unfold negQ
 by_cases h : l.head? = some 45
 ·rw [decide_eq_true h, if_pos rfl]
  cases unsP (expD l) with
  | none => rfl
  | some p => simp only [Option.map_some, Rat.neg_mkRat]; rfl
 ·rw [decide_eq_false h, if_neg (by decide)]
  rfl
theorem okD_all {l : List UInt8} (h : okD l = true) : l.all isD = true := ((okD_iff' l).1 h).2.2.2
theorem dval_le {l : List UInt8} (h : l.all isD = true) {m : Nat} (hm : l.length ≤ m) : (limbs (dval 0 l)).length ≤ m :=
 limbs_len.2 (Nat.lt_of_lt_of_le (dval_lt l h) (Nat.le_trans (Nat.pow_le_pow_left (by decide) _) (Nat.pow_le_pow_right (by decide) hm)))
theorem ten_le (k : Nat) : (limbs (10 ^ k)).length ≤ k + 1 := by
 rw [limbs_len]
 refine Nat.lt_of_le_of_lt (Nat.pow_le_pow_left (show 10 ≤ 4294967296 by decide) k) ?_
 exact Nat.pow_lt_pow_right (by decide) (by omega)
theorem decN_len (m : List UInt8) : (decN m).length + (decF m).length ≤ m.length := by
 unfold decN decF; rw [List.length_take, List.length_drop]; omega
theorem decOk_all {m : List UInt8} (h : decOk m = true) : (decN m ++ decF m).all isD = true ∧ (decN m ++ decF m).length ≤ 4000 := by
 unfold decOk at h
 simp only [Bool.and_eq_true, Bool.or_eq_true, decide_eq_true_eq] at h
 obtain ⟨⟨h1, h2⟩, h3⟩ := h
 refine ⟨?_, by rw [List.length_append]; exact h3⟩
 rw [List.all_append, okD_all h1, Bool.true_and]
 rcases h2 with h2 | h2
 ·unfold decF; rw [h2, List.drop_eq_nil_of_le (by omega)]; rfl
 ·unfold digs at h2; rw [Bool.and_eq_true] at h2; exact h2.2
theorem mantP_len {m : List UInt8} {k : Int} {n d : Nat} (h : mantP m k = some (n, d)) (hl : m.length ≤ 900) (hk : k.natAbs ≤ 40) : (limbs n).length ≤ 941 ∧ (limbs d).length ≤ 942 := by
 have hd := decN_len m
 unfold mantP at h
 split at h
 ·rename_i ho
  obtain ⟨h1, h2⟩ := decOk_all ho
  have hv := dval_le h1 (m := 900) (by rw [List.length_append]; omega)
  have t1 := ten_le (decF m).length
  have t2 := ten_le k.natAbs
  split at h
  ·simp only [Option.some.injEq, Prod.mk.injEq] at h
   rw [← h.1, ← h.2]
   exact ⟨by omega, Nat.le_trans (len_mul t1 t2) (by omega)⟩
  ·simp only [Option.some.injEq, Prod.mk.injEq] at h
   rw [← h.1, ← h.2]
   exact ⟨Nat.le_trans (len_mul hv t2) (by omega), by omega⟩
 ·cases h
theorem expOk_le {e : List UInt8} (h : expOk e = true) : (expV e).natAbs ≤ 40 := by
 rw [expV_abs]
 unfold expOk at h
 simp only [Bool.and_eq_true, decide_eq_true_eq] at h
 exact h.2
theorem unsP_len {s : List UInt8} {n d : Nat} (h : unsP s = some (n, d)) (hl : s.length ≤ 900) : (limbs n).length ≤ 941 ∧ (limbs d).length ≤ 942 := by
 unfold unsP at h
 split at h
 ·split at h
  ·rename_i h1
   simp only [Bool.and_eq_true, decide_eq_true_eq] at h1
   simp only [Option.some.injEq, Prod.mk.injEq] at h
   rw [← h.1, ← h.2]
   exact ⟨dval_le (okD_all h1.1.1) (by rw [List.length_take]; omega), dval_le (okD_all h1.1.2) (by rw [List.length_drop]; omega)⟩
  ·cases h
 ·split at h
  ·split at h
   ·rename_i h1
    exact mantP_len h (by rw [List.length_take]; omega) (expOk_le h1)
   ·cases h
  ·exact mantP_len h hl (by decide)
end Nat32
namespace Nat32
open Go Go.Dat
variable {α : Type} (pq : Bs → Option α)
theorem memR_getD {β : Type} {l : List (List β)} {i : Nat} (h : i < l.length) : l.getD i [] ∈ l := by
 rw [List.getD_eq_getElem?_getD, List.getElem?_eq_getElem h]; exact List.getElem_mem h
end Nat32
namespace Nat32
open Go Go.Dat
section
variable {α : Type} {f : α → List DV} {n : Nat}
theorem fm_len (hf : ∀ a, (f a).length = n) : ∀ l : List α, (l.flatMap f).length = l.length * n
 | [] => by simp
 | a :: l => by rw [List.flatMap_cons, List.length_append, hf, fm_len hf l, List.length_cons, Nat.succ_mul, Nat.add_comm]
theorem fm_drop (hf : ∀ a, (f a).length = n) : ∀ (l : List α) (i : Nat), (l.flatMap f).drop (i * n) = (l.drop i).flatMap f
 | l, 0 => by simp
 | [], i + 1 => by simp
 | a :: l, i + 1 => by
  have e : (f a ++ l.flatMap f).drop n = l.flatMap f := by rw [← hf a, List.drop_left]
  rw [List.flatMap_cons, List.drop_succ_cons, ← fm_drop hf l i, Nat.succ_mul, Nat.add_comm, ← List.drop_drop, e]
theorem fm_take (hf : ∀ a, (f a).length = n) : ∀ (l : List α) (i : Nat), (l.flatMap f).take (i * n) = (l.take i).flatMap f
 | l, 0 => by simp
 | [], i + 1 => by simp
 | a :: l, i + 1 => by
  rw [List.flatMap_cons, List.take_succ_cons, List.flatMap_cons, ← fm_take hf l i, Nat.succ_mul, List.take_append, hf]
  rw [List.take_of_length_le (by rw [hf]; omega), Nat.add_sub_cancel]
theorem fm_win (hf : ∀ a, (f a).length = n) (d : α) {l : List α} {i j k : Nat} (h : i < l.length) (hk : j + k ≤ n) : ((l.flatMap f).drop (i * n + j)).take k = ((f (l.getD i d)).drop j).take k := by
 rw [← List.drop_drop, fm_drop hf, List.drop_eq_getElem_cons h, List.flatMap_cons, List.drop_append, List.take_append]
 have e : l.getD i d = l[i] := by rw [List.getD_eq_getElem?_getD, List.getElem?_eq_getElem h]; rfl
 rw [e, List.length_drop, hf, show k - (n - j) = 0 by omega, List.take_zero, List.append_nil]
theorem fm_at (hf : ∀ a, (f a).length = n) (d : α) {l : List α} {i j : Nat} (h : i < l.length) (hj : j < n) (x : DV) : (l.flatMap f).getD (i * n + j) x = (f (l.getD i d)).getD j x := by
 have h1 := fm_win hf d (l := l) (i := i) (j := j) (k := 1) h (by omega)
 have e1 : i * n + j < (l.flatMap f).length := by
  rw [fm_len hf]
  have : (i + 1) * n ≤ l.length * n := Nat.mul_le_mul_right n h
  rw [Nat.succ_mul] at this; omega
 have e2 : j < (f (l.getD i d)).length := by rw [hf]; exact hj
 rw [List.drop_eq_getElem_cons e1, List.drop_eq_getElem_cons e2] at h1
 simp only [List.take_succ_cons, List.take_zero, List.cons.injEq, and_true] at h1
 rw [List.getD_eq_getElem?_getD, List.getElem?_eq_getElem e1, List.getD_eq_getElem?_getD, List.getElem?_eq_getElem e2, Option.getD_some, Option.getD_some, h1]
theorem fm_rf (hf : ∀ a, ∀ d ∈ f a, d.rf = true) (l : List α) : ∀ d ∈ l.flatMap f, d.rf = true := by
 intro d hd
 obtain ⟨a, _, h⟩ := List.mem_flatMap.1 hd
 exact hf a d h
theorem fm_one (hf : ∀ a, ∀ d ∈ f a, d.one = true) (l : List α) : ∀ d ∈ l.flatMap f, d.one = true := by
 intro d hd
 obtain ⟨a, _, h⟩ := List.mem_flatMap.1 hd
 exact hf a d h
theorem fm_snoc (l : List α) (a : α) : l.flatMap f ++ f a = (l ++ [a]).flatMap f := by simp
end
abbrev XN := Bool × List Nat × List Nat
def xnC (x : XN) : List DV := [.bool x.1, .sl 1 (us x.2.1), .sl 1 (us x.2.2)]
def qX (r : Rat) : XN := (decide (r.num < 0), limbs r.num.natAbs, dn r.den)
structure Fx where
 nm : Bs
 kd : Int
 ms : List Bs
 un : XN
deriving Inhabited
def fxC (f : Fx) : List DV := [.str f.nm, .int .i64 f.kd, .sl 1 (strL f.ms), .bool f.un.1, .sl 1 (us f.un.2.1), .sl 1 (us f.un.2.2)]
theorem fxC_len (f : Fx) : (fxC f).length = 6 := rfl
def fxs (l : List Fx) : List DV := l.flatMap fxC
theorem fxs_len (l : List Fx) : (fxs l).length = l.length * 6 := fm_len fxC_len l
theorem fxC_rf (f : Fx) : ∀ d ∈ fxC f, d.rf = true := by
 intro d hd
 simp only [fxC, List.mem_cons, List.not_mem_nil, or_false] at hd
 rcases hd with rfl | rfl | rfl | rfl | rfl | rfl <;> rfl
structure Tc where
 mi : Bool
 va : XN
 lv : Int
deriving Inhabited
def cxC (c : Tc) : List DV := [.bool c.mi, .bool c.va.1, .sl 1 (us c.va.2.1), .sl 1 (us c.va.2.2), .int .i64 c.lv]
theorem cxC_len (f : Tc) : (cxC f).length = 5 := rfl
def cxs (l : List Tc) : List DV := l.flatMap cxC
theorem cxs_len (l : List Tc) : (cxs l).length = l.length * 5 := fm_len cxC_len l
theorem cxC_rf (f : Tc) : ∀ d ∈ cxC f, d.rf = true := by
 intro d hd
 simp only [cxC, List.mem_cons, List.not_mem_nil, or_false] at hd
 rcases hd with rfl | rfl | rfl | rfl | rfl <;> rfl
theorem cxC_one (f : Tc) : ∀ d ∈ cxC f, d.one = true := by
 intro d hd
 simp only [cxC, List.mem_cons, List.not_mem_nil, or_false] at hd
 rcases hd with rfl | rfl | rfl | rfl | rfl <;> rfl
theorem cxs_rf (l : List Tc) : ∀ d ∈ cxs l, d.rf = true := fm_rf cxC_rf l
theorem cxs_one (l : List Tc) : ∀ d ∈ cxs l, d.one = true := fm_one cxC_one l
structure Kx where
 nm : Bs
 kd : Int
 le : List Bs
 ce : List Tc
deriving Inhabited
def kxC (k : Kx) : List DV := [.str k.nm, .int .i64 k.kd, .sl 1 (strL k.le), .sl 5 (cxs k.ce)]
theorem kxC_len (f : Kx) : (kxC f).length = 4 := rfl
def kxs (l : List Kx) : List DV := l.flatMap kxC
theorem kxs_len (l : List Kx) : (kxs l).length = l.length * 4 := fm_len kxC_len l
end Nat32
namespace Nat32
open Go Go.Dat
section
variable {α : Type} (p : α → Bool)
def ixP : List α → Int
 | [] => -1
 | x :: l => if p x then 0 else if ixP l < 0 then -1 else ixP l + 1
theorem ixP_bd : ∀ l : List α, -1 ≤ ixP p l ∧ ixP p l < l.length
 | [] => by simp [ixP]
 | x :: l => by
  have := ixP_bd l
  simp only [ixP, List.length_cons]
  split
  ·omega
  ·split <;> omega
theorem ixP_any : ∀ l : List α, decide (0 ≤ ixP p l) = l.any p
 | [] => rfl
 | x :: l => by
  have h1 := ixP_any l
  have h2 := ixP_bd p l
  rw [List.any_cons, ← h1]
  have e : ixP p (x :: l) = if p x = true then 0 else if ixP p l < 0 then -1 else ixP p l + 1 := rfl
  by_cases hp : p x = true
  ·rw [if_pos hp] at e
   rw [hp, e]; rfl
  ·rw [if_neg hp] at e
   rw [Bool.eq_false_iff.2 hp, Bool.false_or]
   refine decide_eq_decide.2 ?_
   rw [e]
   split <;> omega
variable {p} (d : α)
theorem ixP_at : ∀ {l : List α} {i : Nat}, i < l.length → p (l.getD i d) = true → (∀ j, j < i → p (l.getD j d) = false) → ixP p l = i
 | [], i, h, _, _ => absurd h (Nat.not_lt_zero _)
 | x :: l, 0, _, h1, _ => by
  have : p x = true := h1
  simp only [ixP]; rw [if_pos this]; rfl
 | x :: l, i + 1, h, h1, h2 => by
  have h3 := ixP_at (l := l) (i := i) (by simp at h; omega) h1 fun j hj => h2 (j + 1) (by omega)
  have h4 : p x = false := h2 0 (by omega)
  simp only [ixP]
  rw [h4, if_neg (by decide), h3, if_neg (by omega)]; omega
theorem ixP_no : ∀ {l : List α}, (∀ j, j < l.length → p (l.getD j d) = false) → ixP p l = -1
 | [], _ => rfl
 | x :: l, h => by
  have h3 := ixP_no (l := l) fun j hj => h (j + 1) (by simp; omega)
  have h4 : p x = false := h 0 (by simp)
  simp only [ixP]
  rw [h4, if_neg (by decide), h3]; rfl
end
theorem memG {α : Type} [Inhabited α] {l : List α} {i : Nat} (h : i < l.length) : l.getD i default ∈ l := by
 rw [List.getD_eq_getElem?_getD, List.getElem?_eq_getElem h]; exact List.getElem_mem h
def okN0 (x : XN) : Prop := lim x.2.1 ∧ lim x.2.2 ∧ x.2.1.length ≤ 300 ∧ x.2.2.length ≤ 300
def xnV (x : XN) : Rat := rv x.1 x.2.1 x.2.2
def rdB (f : Fx) : Bool := if f.kd = 1 then vldQ f.un.1 f.un.2.1 f.un.2.2 && decide (¬ (xnV f.un).num.sign = 0) else decide (f.kd = 2) || decide (f.kd = 3)
def fnmL (l : List Fx) : List Bs := l.map Fx.nm
theorem fnmL_len (l : List Fx) : (fnmL l).length = l.length := List.length_map _
end Nat32
namespace Nat32
open Go Go.Dat
variable (pq : Bs → Option Rat)
noncomputable def readR (f : Fx) (lv : List Bs) (ce : List Tc) (s : Bs) : Int × List Bs × List Tc :=
 if 0 ≤ ixS f.ms s then (0, lv, ce ++ [⟨true, (false, [], []), 0⟩])
 else if f.kd = 1 then match pq s with
  | none => (4, lv, ce)
  | some x => (0, lv, ce ++ [⟨false, qX (x * xnV f.un), 0⟩])
 else if ixS lv s < 0 then
  if lv.length = 32 then (2, lv, ce) else (0, lv ++ [s], ce ++ [⟨false, (false, [], []), lv.length⟩])
 else (0, lv, ce ++ [⟨false, (false, [], []), ixS lv s⟩])
end Nat32
namespace Nat32
open Go Go.Dat
open Go.Lib (decDigits)
theorem mantP_9 {B : Nat} {m : List UInt8} {k : Int} {n d : Nat} (h : mantP m k = some (n, d)) (hl : m.length ≤ B) (hk : k.natAbs ≤ 40) : n ≤ 10 ^ (B + 40) ∧ d ≤ 10 ^ (B + 40) := by
 have hd := decN_len m
 unfold mantP at h
 split at h
 ·rename_i ho
  obtain ⟨h1, h2⟩ := decOk_all ho
  have hv := Nat.le_of_lt (dval_lt _ h1)
  rw [List.length_append] at hv
  have hp : ∀ a b, a ≤ B → b ≤ 40 → (10 : Nat) ^ a * 10 ^ b ≤ 10 ^ (B + 40) := fun a b ha hb => by
   rw [← Nat.pow_add]; exact Nat.pow_le_pow_right (by decide) (by omega)
  have hq : ∀ a, a ≤ B → (10 : Nat) ^ a ≤ 10 ^ (B + 40) := fun a ha => Nat.pow_le_pow_right (by decide) (by omega)
  split at h
  ·simp only [Option.some.injEq, Prod.mk.injEq] at h
   rw [← h.1, ← h.2]
   exact ⟨Nat.le_trans hv (hq _ (by omega)), hp _ _ (by omega) hk⟩
  ·simp only [Option.some.injEq, Prod.mk.injEq] at h
   rw [← h.1, ← h.2]
   exact ⟨Nat.le_trans (Nat.mul_le_mul_right _ hv) (hp _ _ (by omega) hk), hq _ (by omega)⟩
 ·cases h
theorem unsP_9 {B : Nat} {s : List UInt8} {n d : Nat} (h : unsP s = some (n, d)) (hl : s.length ≤ B) : n ≤ 10 ^ (B + 40) ∧ d ≤ 10 ^ (B + 40) := by
 unfold unsP at h
 split at h
 ·split at h
  ·rename_i h1
   simp only [Bool.and_eq_true, decide_eq_true_eq] at h1
   simp only [Option.some.injEq, Prod.mk.injEq] at h
   rw [← h.1, ← h.2]
   have key : ∀ l : List UInt8, okD l = true → l.length ≤ B → dval 0 l ≤ 10 ^ (B + 40) := fun l hl1 hl2 =>
    Nat.le_trans (Nat.le_of_lt (dval_lt l (okD_all hl1))) (Nat.pow_le_pow_right (by decide) (by omega))
   exact ⟨key _ h1.1.1 (by rw [List.length_take]; omega), key _ h1.1.2 (by rw [List.length_drop]; omega)⟩
  ·cases h
 ·split at h
  ·split at h
   ·rename_i h1
    exact mantP_9 h (by rw [List.length_take]; omega) (expOk_le h1)
   ·cases h
  ·exact mantP_9 h hl (by decide)
theorem len9 {n x : Nat} (h : n ≤ 10 ^ x) (hx : x ≤ 490) : (limbs n).length ≤ 100 := by
 rw [limbs_len]
 obtain ⟨y, hy⟩ : ∃ y : Nat, y = 99 := ⟨_, rfl⟩
 rw [show (100 : Nat) = y + 1 by omega]
 have e1 : (10 : Nat) ^ x ≤ 10 ^ (9 * y) := Nat.pow_le_pow_right (by decide) (by omega)
 rw [Nat.pow_mul] at e1
 have e2 : ((10 : Nat) ^ 9) ^ y ≤ 4294967296 ^ y := Nat.pow_le_pow_left (by decide) _
 have e3 : (4294967296 : Nat) ^ y < 4294967296 ^ (y + 1) := Nat.pow_lt_pow_right (by decide) (by omega)
 exact Nat.lt_of_le_of_lt (Nat.le_trans h (Nat.le_trans e1 e2)) e3
end Nat32
namespace Nat32
open Go Go.Dat
def ai (j : Nat) : Nat := 100000 + 2 * j
def bi (j : Nat) : Nat := 100001 + 2 * j
def colO (j : Nat) (k : Kx) : List DV := [.str k.nm, .int .i64 k.kd, .osl 1 (ai j) 0 k.le.length, .osl 5 (bi j) 0 k.ce.length]
def contO : Nat → List Kx → List DV
 | _, [] => []
 | j, k :: S => colO j k ++ contO (j + 1) S
def DD : Nat → List Kx → Hp
 | _, [] => []
 | j, k :: S => (ai j, strL k.le) :: (bi j, cxs k.ce) :: DD (j + 1) S
theorem contO_len : ∀ (j : Nat) (S : List Kx), (contO j S).length = S.length * 4
 | _, [] => rfl
 | j, k :: S => by
  rw [contO, List.length_append, contO_len (j + 1) S, List.length_cons]
  show 4 + S.length * 4 = (S.length + 1) * 4
  omega
theorem contO_split : ∀ (j : Nat) (S : List Kx) (i : Nat), i < S.length → contO j S = contO j (S.take i) ++ colO (j + i) (S.getD i default) ++ contO (j + i + 1) (S.drop (i + 1))
 | _, [], i, h => absurd h (Nat.not_lt_zero _)
 | j, k :: S, 0, _ => by simp [contO]
 | j, k :: S, i + 1, h => by
  have ih := contO_split (j + 1) S i (by simp at h; omega)
  rw [List.take_succ_cons, contO, contO, ih, List.drop_succ_cons, List.getD_cons_succ]
  rw [show j + 1 + i = j + (i + 1) by omega, List.append_assoc, List.append_assoc, List.append_assoc]
theorem contO_set (j : Nat) (S : List Kx) (i : Nat) (k : Kx) (h : i < S.length) : contO j (S.set i k) = contO j (S.take i) ++ colO (j + i) k ++ contO (j + i + 1) (S.drop (i + 1)) := by
 have h' : i < (S.set i k).length := by simpa using h
 rw [contO_split j (S.set i k) i h']
 rw [List.take_set_of_le (Nat.le_refl i), List.drop_set_of_lt (by omega)]
 have : (S.set i k).getD i default = k := by
  rw [List.getD_eq_getElem?_getD, List.getElem?_set_self h]; rfl
 rw [this]
theorem strL_rf' (l : List Bs) : ∀ d ∈ strL l, d.rf = true := by
 intro d hd
 unfold strL at hd
 obtain ⟨r, _, rfl⟩ := List.mem_map.1 hd
 rfl
theorem DD_ok : ∀ (j : Nat) (S : List Kx), j + S.length ≤ 1000 → okHD (DD j S)
 | _, [], _ => fun e he => by cases he
 | j, k :: S, h => fun e he => by
  rw [List.length_cons] at h
  simp only [DD, List.mem_cons] at he
  rcases he with rfl | rfl | he
  ·exact ⟨by simp only [ai]; omega, strL_rf' _⟩
  ·exact ⟨by simp only [bi]; omega, cxs_rf _⟩
  ·exact DD_ok (j + 1) S (by omega) e he
theorem DD_lk : ∀ (j : Nat) (S : List Kx) (p : Nat), lkH (DD j S) p = if ai j ≤ p ∧ p < ai (j + S.length) then (if p % 2 = 0 then some (strL (S.getD ((p - ai j) / 2) default).le) else some (cxs (S.getD ((p - ai j) / 2) default).ce)) else none
 | j, [], p => by
  rw [if_neg (by simp only [List.length_nil, Nat.add_zero]; omega)]; rfl
 | j, k :: S, p => by
  simp only [DD, lkH]
  by_cases h1 : ai j = p
  ·subst h1
   rw [if_pos rfl, if_pos (by simp only [ai, List.length_cons]; omega), if_pos (by simp only [ai]; omega)]
   simp
  ·rw [if_neg h1]
   by_cases h2 : bi j = p
   ·subst h2
    rw [if_pos rfl, if_pos (by simp only [ai, bi, List.length_cons]; omega), if_neg (by simp only [bi]; omega)]
    have : (bi j - ai j) / 2 = 0 := by simp only [ai, bi]; omega
    rw [this]; rfl
   ·rw [if_neg h2, DD_lk (j + 1) S p, List.length_cons]
    have e : j + 1 + S.length = j + (S.length + 1) := by omega
    rw [e]
    by_cases h3 : ai (j + 1) ≤ p ∧ p < ai (j + (S.length + 1))
    ·have h4 : ai j ≤ p ∧ p < ai (j + (S.length + 1)) := ⟨by have := h3.1; simp only [ai] at *; omega, h3.2⟩
     rw [if_pos h3, if_pos h4]
     have e2 : (p - ai j) / 2 = (p - ai (j + 1)) / 2 + 1 := by have := h3.1; simp only [ai] at *; omega
     rw [e2, List.getD_cons_succ]
    ·rw [if_neg h3, if_neg]
     rintro ⟨h5, h6⟩
     exact h3 ⟨by simp only [ai, bi] at *; omega, h6⟩
def drp (a b : Nat) (H : Hp) : Hp := H.filter fun e => decide (e.1 ≠ a ∧ e.1 ≠ b)
theorem lkH_drp (a b : Nat) : ∀ (H : Hp) (p : Nat), lkH (drp a b H) p = if p = a ∨ p = b then none else lkH H p
 | [], p => by simp [drp, lkH]
 | (k, c) :: H, p => by
  have ih := lkH_drp a b H p
  unfold drp at ih ⊢
  rw [List.filter_cons]
  by_cases hk : k ≠ a ∧ k ≠ b
  ·rw [if_pos (by simpa using hk)]
   simp only [lkH]
   by_cases e : k = p
   ·subst e
    rw [if_pos rfl, if_neg (fun h => h.elim hk.1 hk.2), if_pos rfl]
   ·rw [if_neg e, ih, if_neg e]
  ·rw [if_neg (by simpa using hk), ih]
   simp only [lkH]
   by_cases e : p = a ∨ p = b
   ·rw [if_pos e, if_pos e]
   ·rw [if_neg e, if_neg e, if_neg]
    rintro rfl
    exact hk ⟨fun h => e (.inl h), fun h => e (.inr h)⟩
theorem drp_ok {a b : Nat} {H : Hp} (h : okHD H) : okHD (drp a b H) := fun e he => h e (List.mem_filter.1 he).1
variable (pq : Bs → Option Rat)
abbrev Tx := List Bs × List Tc
noncomputable def colStep (f : Fx) (s : Bs) (x : Tx) : Int × Tx := if f.kd = 3 then (0, x) else ((readR pq f x.1 x.2 s).1, (readR pq f x.1 x.2 s).2)
noncomputable def rowR (fs : List Fx) (r : List Bs) (T : List Tx) : Nat → Int × List Tx
 | 0 => (0, T)
 | k + 1 => if (rowR fs r T k).1 ≠ 0 then rowR fs r T k else
  ((colStep pq (fs.getD k default) (r.getD k []) ((rowR fs r T k).2.getD k default)).1, (rowR fs r T k).2.set k (colStep pq (fs.getD k default) (r.getD k []) ((rowR fs r T k).2.getD k default)).2)
noncomputable def recR (fs : List Fx) (recs : List (List Bs)) : Nat → (Int × Int) × List Tx
 | 0 => ((0, 0), fs.map fun _ => ([], []))
 | i + 1 => if (recR fs recs i).1.2 ≠ 0 then recR fs recs i else
  if (recs.getD i []).length ≠ fs.length then (((i + 1 : Nat), 6), (recR fs recs i).2) else
  if (rowR pq fs (recs.getD i []) (recR fs recs i).2 fs.length).1 ≠ 0 then (((i + 1 : Nat), (rowR pq fs (recs.getD i []) (recR fs recs i).2 fs.length).1), (recR fs recs i).2) else
  ((0, 0), (rowR pq fs (recs.getD i []) (recR fs recs i).2 fs.length).2)
theorem rowR_len (fs : List Fx) (r : List Bs) (T : List Tx) : ∀ k, (rowR pq fs r T k).2.length = T.length
 | 0 => rfl
 | k + 1 => by
  have := rowR_len fs r T k
  simp only [rowR]
  split
  ·exact this
  ·rw [List.length_set]; exact this
theorem recR_len (fs : List Fx) (recs : List (List Bs)) : ∀ i, (recR pq fs recs i).2.length = fs.length
 | 0 => by simp [recR]
 | i + 1 => by
  have := recR_len fs recs i
  simp only [recR]
  split
  ·exact this
  ·split
   ·exact this
   ·split
    ·exact this
    ·rw [rowR_len]; exact this
theorem rowR_stop (fs : List Fx) (r : List Bs) (T : List Tx) {k : Nat} (h : (rowR pq fs r T k).1 ≠ 0) : ∀ {m : Nat}, k ≤ m → rowR pq fs r T m = rowR pq fs r T k
 | m, hm => by
  induction m with
  | zero => rw [show k = 0 by omega]
  | succ m ih =>
   by_cases e : k = m + 1
   ·rw [e]
   ·have := ih (by omega)
    simp only [rowR]
    rw [this, if_pos h]
theorem recR_stop (fs : List Fx) (recs : List (List Bs)) {k : Nat} (h : (recR pq fs recs k).1.2 ≠ 0) : ∀ {m : Nat}, k ≤ m → recR pq fs recs m = recR pq fs recs k
 | m, hm => by
  induction m with
  | zero => rw [show k = 0 by omega]
  | succ m ih =>
   by_cases e : k = m + 1
   ·rw [e]
   ·have := ih (by omega)
    simp only [recR]
    rw [this, if_pos h]
theorem readR_sz (f : Fx) (lv : List Bs) (ce : List Tc) (s : Bs) (h : lv.length ≤ 32) : (readR pq f lv ce s).2.1.length ≤ 32 ∧ (readR pq f lv ce s).2.2.length ≤ ce.length + 1 := by
 unfold readR
 split
 ·exact ⟨h, by simp⟩
 ·split
  ·split
   ·exact ⟨h, by simp⟩
   ·exact ⟨h, by simp⟩
  ·split
   ·split
    ·exact ⟨h, by simp⟩
    ·exact ⟨by simp; omega, by simp⟩
   ·exact ⟨h, by simp⟩
def szT (n : Nat) (x : Tx) : Prop := x.1.length ≤ 32 ∧ x.2.length ≤ n
theorem colStep_sz (f : Fx) (s : Bs) {x : Tx} {n : Nat} (h : szT n x) : szT (n + 1) (colStep pq f s x).2 := by
 unfold colStep
 split
 ·exact ⟨h.1, Nat.le_succ_of_le h.2⟩
 ·have := readR_sz pq f x.1 x.2 s h.1
  exact ⟨this.1, Nat.le_trans this.2 (Nat.succ_le_succ h.2)⟩
theorem gset_ne {α : Type} [Inhabited α] {S : List α} {k j : Nat} (x : α) (h : j ≠ k) : (S.set k x).getD j default = S.getD j default := by
 rw [List.getD_eq_getElem?_getD, List.getElem?_set_ne (Ne.symm h), ← List.getD_eq_getElem?_getD]
theorem gset_eq {α : Type} [Inhabited α] {S : List α} {k : Nat} (x : α) (h : k < S.length) : (S.set k x).getD k default = x := by
 rw [List.getD_eq_getElem?_getD, List.getElem?_set_self h]; rfl
theorem rowR_sz (fs : List Fx) (r : List Bs) {T : List Tx} {n : Nat} (h : ∀ j, j < T.length → szT n (T.getD j default)) : ∀ k j, j < T.length → szT (n + 1) ((rowR pq fs r T k).2.getD j default) ∧ (k ≤ j → szT n ((rowR pq fs r T k).2.getD j default))
 | 0, j, hj => ⟨⟨(h j hj).1, Nat.le_succ_of_le (h j hj).2⟩, fun _ => h j hj⟩
 | k + 1, j, hj => by
  have ih := rowR_sz fs r h k j hj
  simp only [rowR]
  split
  ·exact ⟨ih.1, fun hk => ih.2 (by omega)⟩
  ·by_cases e : j = k
   ·subst e
    rw [gset_eq _ (by rw [rowR_len]; exact hj)]
    exact ⟨colStep_sz pq _ _ (ih.2 (Nat.le_refl _)), fun hk => by omega⟩
   ·rw [gset_ne _ e]
    exact ⟨ih.1, fun hk => ih.2 (by omega)⟩
theorem recR_sz (fs : List Fx) (recs : List (List Bs)) : ∀ i j, j < fs.length → szT i ((recR pq fs recs i).2.getD j default)
 | 0, j, hj => by
  simp only [recR]
  rw [List.getD_eq_getElem?_getD, List.getElem?_map, List.getElem?_eq_getElem hj]
  exact ⟨Nat.zero_le _, Nat.zero_le _⟩
 | i + 1, j, hj => by
  have ih := recR_sz fs recs i
  have hs : szT (i + 1) ((recR pq fs recs i).2.getD j default) := ⟨(ih j hj).1, Nat.le_succ_of_le (ih j hj).2⟩
  simp only [recR]
  split
  ·exact hs
  ·split
   ·exact hs
   ·split
    ·exact hs
    ·exact (rowR_sz pq fs _ (n := i) (fun j hj => ih j (by rw [recR_len] at hj; exact hj)) _ j (by rw [recR_len]; exact hj)).1
end Nat32
namespace Nat32
open Go Go.Dat
def fwdc (k n p : Nat) : Option Nat := if p = 34 then some 1048576 else if p = ai k then some 1000 else if p = bi k then some 1001 else if 100000 ≤ p ∧ p < 100000 + 2 * n then some p else none
def backc (k n q : Nat) : Option Nat := if q = 1048576 then some 34 else if q = 1000 then some (ai k) else if q = 1001 then some (bi k) else if 100000 ≤ q ∧ q < 100000 + 2 * n ∧ q ≠ ai k ∧ q ≠ bi k then some q else none
theorem fbc {k n : Nat} (hn : n ≤ 1000) (p q : Nat) : fwdc k n p = some q ↔ backc k n q = some p := by
 unfold fwdc backc ai bi
 constructor
 ·intro e
  split at e
  ·cases e; subst p; simp
  ·split at e
   ·cases e; subst p; simp
   ·split at e
    ·cases e; subst p; simp
    ·split at e
     ·cases e
      rw [if_neg (by omega), if_neg (by omega), if_neg (by omega), if_pos (by omega)]
     ·cases e
 ·intro e
  split at e
  ·cases e; subst q; simp
  ·split at e
   ·cases e; subst q; rw [if_neg (by omega), if_pos rfl]
   ·split at e
    ·cases e; subst q; rw [if_neg (by omega), if_neg (by omega), if_pos rfl]
    ·split at e
     ·cases e
      rw [if_neg (by omega), if_neg (by omega), if_neg (by omega), if_pos (by omega)]
     ·cases e
def lowN : DV → Bool
 | .ptr o _ => decide (o < 100000)
 | .osl _ o _ _ => decide (o < 100000)
 | .undef => true
 | d => d.rf
theorem lowN_rn {f : Nat → Option Nat} (hf : ∀ o, o < 100000 → f o = some o) {d : DV} (h : lowN d = true) : rn f d = d := by
 cases d with
 | ptr o z => simp only [lowN, decide_eq_true_eq] at h; simp [rn, hf o h]
 | osl s o z n => simp only [lowN, decide_eq_true_eq] at h; simp [rn, hf o h]
 | undef => rfl
 | _ => exact rn_rf f _ h
theorem lowN_map {f : Nat → Option Nat} (hf : ∀ o, o < 100000 → f o = some o) : ∀ {fr : Fr}, fr.all (fun e => lowN e.2) = true → mapF (rn f) fr = fr
 | [], _ => rfl
 | (k, d) :: r, h => by
  simp only [List.all_cons, Bool.and_eq_true] at h
  simp only [mapF]
  rw [lowN_rn hf h.1, lowN_map hf h.2]
theorem colO_rn {k n : Nat} (hn : n ≤ 1000) (hk : k < n) : ∀ (j : Nat) (S : List Kx), (j + S.length ≤ k ∨ k < j) → j + S.length ≤ n → (contO j S).map (rn (fwdc k n)) = contO j S
 | _, [], _, _ => rfl
 | j, x :: S, h, h2 => by
  rw [List.length_cons] at h h2
  rw [contO, List.map_append, colO_rn hn hk (j + 1) S (by omega) (by omega)]
  have e1 : fwdc k n (ai j) = some (ai j) := by unfold fwdc ai bi; rw [if_neg (by omega), if_neg (by omega), if_neg (by omega), if_pos (by omega)]
  have e2 : fwdc k n (bi j) = some (bi j) := by unfold fwdc ai bi; rw [if_neg (by omega), if_neg (by omega), if_neg (by omega), if_pos (by omega)]
  simp [colO, rn, e1, e2]
theorem colO_nr {k n : Nat} (hn : n ≤ 1000) (hk : k < n) : ∀ (j : Nat) (S : List Kx), (j + S.length ≤ k ∨ k < j) → j + S.length ≤ n → (contO j S).map (rn (backc k n)) = contO j S
 | _, [], _, _ => rfl
 | j, x :: S, h, h2 => by
  rw [List.length_cons] at h h2
  rw [contO, List.map_append, colO_nr hn hk (j + 1) S (by omega) (by omega)]
  have e1 : backc k n (ai j) = some (ai j) := by unfold backc ai bi; rw [if_neg (by omega), if_neg (by omega), if_neg (by omega), if_pos (by omega)]
  have e2 : backc k n (bi j) = some (bi j) := by unfold backc ai bi; rw [if_neg (by omega), if_neg (by omega), if_neg (by omega), if_pos (by omega)]
  simp [colO, rn, e1, e2]
theorem DD_a {S : List Kx} {k : Nat} (hk : k < S.length) : lkH (DD 0 S) (ai k) = some (strL (S.getD k default).le) := by
 rw [DD_lk, if_pos (by simp only [ai]; omega), if_pos (by simp only [ai]; omega)]
 have : (ai k - ai 0) / 2 = k := by simp only [ai]; omega
 rw [this]
theorem DD_b {S : List Kx} {k : Nat} (hk : k < S.length) : lkH (DD 0 S) (bi k) = some (cxs (S.getD k default).ce) := by
 rw [DD_lk, if_pos (by simp only [ai, bi]; omega), if_neg (by simp only [bi]; omega)]
 have : (bi k - ai 0) / 2 = k := by simp only [ai, bi]; omega
 rw [this]
theorem getD_set_ne {S : List Kx} {k j : Nat} (x : Kx) (h : j ≠ k) : (S.set k x).getD j default = S.getD j default := by
 rw [List.getD_eq_getElem?_getD, List.getElem?_set_ne (Ne.symm h), ← List.getD_eq_getElem?_getD]
theorem getD_set_eq {S : List Kx} {k : Nat} (x : Kx) (h : k < S.length) : (S.set k x).getD k default = x := by
 rw [List.getD_eq_getElem?_getD, List.getElem?_set_self h]; rfl
theorem DD_set {S : List Kx} {k : Nat} (x : Kx) {p : Nat} (h1 : p ≠ ai k) (h2 : p ≠ bi k) : lkH (DD 0 (S.set k x)) p = lkH (DD 0 S) p := by
 rw [DD_lk, DD_lk, List.length_set]
 by_cases h : ai 0 ≤ p ∧ p < ai (0 + S.length)
 ·rw [if_pos h, if_pos h]
  have hj : (p - ai 0) / 2 ≠ k := by simp only [ai, bi] at *; omega
  rw [getD_set_ne x hj]
 ·rw [if_neg h, if_neg h]
theorem callC_col {F : FnD} {os : List DOper} {dst : Dst} {f : Nat} {te fr : Fr} {H : Hp} {K : Fr → Fr → Hp → Prop} (hp : F.pure = false) (S : List Kx) (k : Nat) (hk : k < S.length) (hS : S.length ≤ 1000) (A B : DV) (hA : A.rf = true) (hB : B.rf = true)
  (h34 : lkH H 34 = some (contO 0 S)) (hDD : ∀ p, 100000 ≤ p → lkH H p = lkH (DD 0 S) p) (hlo : ∀ p c, lkH H p = some c → p < 100000 → p ≠ 34 → ∀ d ∈ c, d.rf = true) (e : Int) (lv : List Bs) (ce : List Tc) (kk : Nat) (hkk : kk = k * 4)
  (hc : MRel F.P f [.ptr 1048576 (contO 0 (S.take k)).length, A, B] ((1000, strL (S.getD k default).le) :: (1001, cxs (S.getD k default).ce) ::
   (1048576, wnd (contO 0 (S.take k)) (contO (k + 1) (S.drop (k + 1))) (.str (S.getD k default).nm) (.int .i64 (S.getD k default).kd) (.osl 1 1000 0 (S.getD k default).le.length) (.osl 5 1001 0 (S.getD k default).ce.length)) :: drp (ai k) (bi k) (DD 0 S))
   fun r H' => r = .int .i64 e ∧ H' = (1000, strL lv) :: (1001, cxs ce) :: (1048576, wnd (contO 0 (S.take k)) (contO (k + 1) (S.drop (k + 1))) (.str (S.getD k default).nm) (.int .i64 (S.getD k default).kd) (.osl 1 1000 0 lv.length) (.osl 5 1001 0 ce.length)) :: drp (ai k) (bi k) (DD 0 S))
  (hte : te.all (fun e => lowN e.2) = true) (hfr : fr.all (fun e => lowN e.2) = true) (H2 : Hp)
  (hH2 : ∀ p, lkH H2 p = if p = 34 then some (contO 0 (S.set k ⟨(S.getD k default).nm, (S.getD k default).kd, lv, ce⟩)) else if 100000 ≤ p then lkH (DD 0 (S.set k ⟨(S.getD k default).nm, (S.getD k default).kd, lv, ce⟩)) p else lkH H p)
  (hK : regW F os (dst.onT te (.int .i64 e)) (dst.onX fr (.int .i64 e)) H2 K) : callC F os dst f [.ptr 34 kk, A, B] te fr H K := by
 subst hkk
 have hl4 : (contO 0 (S.take k)).length = k * 4 := by rw [contO_len, List.length_take, Nat.min_eq_left (by omega)]
 have hpg : ∀ o, o < 100000 → pgN H (fwdc k S.length) o = some o := fun o ho => by
  unfold pgN
  by_cases e : o = 34
  ·subst e
   have : fwdc k S.length 34 = some 1048576 := rfl
   rw [this]; simp
  ·have : fwdc k S.length o = none := by unfold fwdc ai bi; rw [if_neg e, if_neg (by omega), if_neg (by omega), if_neg (by omega)]
   rw [this]
 have f34 : fwdc k S.length 34 = some 1048576 := rfl
 have fa : fwdc k S.length (ai k) = some 1000 := by unfold fwdc; rw [if_neg (by simp only [ai]; omega), if_pos rfl]
 have fb : fwdc k S.length (bi k) = some 1001 := by unfold fwdc; rw [if_neg (by simp only [bi]; omega), if_neg (by simp only [ai, bi]; omega), if_pos rfl]
 have ba : backc k S.length 1000 = some (ai k) := rfl
 have bb : backc k S.length 1001 = some (bi k) := rfl
 have hok := DD_ok 0 S (by omega)
 have tk : (S.take k).length = k := by rw [List.length_take]; omega
 have dk : (S.drop (k + 1)).length = S.length - (k + 1) := List.length_drop
 refine callC_rel hp (fwdc k S.length) (backc k S.length) (fbc hS) (fun p q h1 h2 => ?_) (fun p q h1 => ?_) (Hc := _) (fun q => ?_) (by
  have : [DV.ptr 34 (k * 4), A, B].map (rn (fwdc k S.length)) = [.ptr 1048576 (contO 0 (S.take k)).length, A, B] := by
   rw [hl4]; simp [rn, f34, rn_rf _ A hA, rn_rf _ B hB]
  rw [this]; exact hc) ?_
 ·unfold fwdc ai bi at h1
  split at h1
  ·omega
  ·split at h1
   ·omega
   ·split at h1
    ·omega
    ·split at h1
     ·omega
     ·cases h1
 ·refine tyNo.eq ?_ ?_
  ·unfold fwdc ai bi at h1; unfold tyNo
   split at h1
   ·omega
   ·split at h1
    ·omega
    ·split at h1
     ·omega
     ·split at h1
      ·omega
      ·cases h1
  ·unfold fwdc ai bi at h1; unfold tyNo
   split at h1
   ·cases h1; omega
   ·split at h1
    ·cases h1; omega
    ·split at h1
     ·cases h1; omega
     ·split at h1
      ·cases h1; omega
      ·cases h1
 ·show lkH (_ :: _ :: _ :: _) q = _
  simp only [lkH]
  by_cases e1 : 1000 = q
  ·subst e1
   rw [if_pos rfl, ba, Option.bind_some, hDD _ (by simp only [ai]; omega), DD_a hk, Option.map_some, map_rf _ (strL_rf' _)]
  ·rw [if_neg e1]
   by_cases e2 : 1001 = q
   ·subst e2
    rw [if_pos rfl, bb, Option.bind_some, hDD _ (by simp only [bi]; omega), DD_b hk, Option.map_some, map_rf _ (cxs_rf _)]
   ·rw [if_neg e2]
    by_cases e3 : 1048576 = q
    ·subst e3
     have : backc k S.length 1048576 = some 34 := rfl
     rw [if_pos rfl, this, Option.bind_some, h34, Option.map_some, contO_split 0 S k hk, List.map_append, List.map_append, colO_rn hS hk 0 _ (by omega) (by omega), colO_rn hS hk _ _ (by omega) (by omega), Nat.zero_add]
     simp [wnd, colO, rn, fa, fb]
    ·rw [if_neg e3, lkH_drp]
     unfold backc
     rw [if_neg (Ne.symm e3), if_neg (Ne.symm e1), if_neg (Ne.symm e2)]
     by_cases e4 : q = ai k ∨ q = bi k
     ·rw [if_pos e4, if_neg (fun h => e4.elim h.2.2.1 h.2.2.2), Option.bind_none]
     ·rw [if_neg e4]
      by_cases e5 : 100000 ≤ q ∧ q < 100000 + 2 * S.length
      ·rw [if_pos ⟨e5.1, e5.2, fun h => e4 (.inl h), fun h => e4 (.inr h)⟩, Option.bind_some, hDD q e5.1]
       cases hq : lkH (DD 0 S) q with
       | none => rfl
       | some c => rw [Option.map_some, map_rf _ (hok.lk hq).2]
      ·rw [if_neg (fun h => e5 ⟨h.1, h.2.1⟩), Option.bind_none, DD_lk, if_neg]
       simp only [ai]; omega
 ·rintro r Hc' ⟨rfl, rfl⟩
  refine ⟨H2, fun p => ?_, ?_⟩
  ·rw [hH2]
   by_cases e1 : p = 34
   ·subst e1
    rw [if_pos rfl, f34]
    show _ = Option.map _ (lkH _ 1048576)
    have e34 : lkH ((1000, strL lv) :: (1001, cxs ce) :: (1048576, wnd (contO 0 (S.take k)) (contO (k + 1) (S.drop (k + 1))) (.str (S.getD k default).nm) (.int .i64 (S.getD k default).kd) (.osl 1 1000 0 lv.length) (.osl 5 1001 0 ce.length)) :: drp (ai k) (bi k) (DD 0 S)) 1048576 = some (wnd (contO 0 (S.take k)) (contO (k + 1) (S.drop (k + 1))) (.str (S.getD k default).nm) (.int .i64 (S.getD k default).kd) (.osl 1 1000 0 lv.length) (.osl 5 1001 0 ce.length)) := rfl
    rw [e34, Option.map_some, contO_set 0 S k _ hk]
    unfold wnd
    rw [List.map_append, List.map_append, colO_nr hS hk 0 _ (by omega) (by omega), colO_nr hS hk _ _ (by omega) (by omega), Nat.zero_add]
    simp [colO, rn, ba, bb]
   ·rw [if_neg e1]
    by_cases e2 : p = ai k
    ·subst e2
     rw [if_pos (by simp only [ai]; omega), fa, DD_a (by simpa using hk), getD_set_eq _ hk]
     show _ = Option.map _ (some (strL lv))
     rw [Option.map_some, map_rf _ (strL_rf' _)]
    ·by_cases e3 : p = bi k
     ·subst e3
      rw [if_pos (by simp only [bi]; omega), fb, DD_b (by simpa using hk), getD_set_eq _ hk]
      show _ = Option.map _ (some (cxs ce))
      rw [Option.map_some, map_rf _ (cxs_rf _)]
     ·by_cases e4 : 100000 ≤ p
      ·rw [if_pos e4, DD_set _ e2 e3]
       by_cases e5 : p < 100000 + 2 * S.length
       ·have fp : fwdc k S.length p = some p := by unfold fwdc; rw [if_neg e1, if_neg e2, if_neg e3, if_pos ⟨e4, e5⟩]
        rw [fp]
        simp only [lkH]
        by_cases e6 : 1048576 = p
        ·omega
        ·rw [if_neg (by omega), if_neg (by omega), if_neg e6, lkH_drp, if_neg (fun h => h.elim e2 e3)]
         cases hq : lkH (DD 0 S) p with
         | none => rfl
         | some c => rw [Option.map_some, map_rf _ (hok.lk hq).2]
       ·have fp : fwdc k S.length p = none := by unfold fwdc; rw [if_neg e1, if_neg e2, if_neg e3, if_neg (by omega)]
        rw [fp]
        simp only
        rw [hDD p e4]
        have : lkH (DD 0 S) p = none := by rw [DD_lk, if_neg]; simp only [ai]; omega
        rw [this]; rfl
      ·rw [if_neg e4]
       have fp : fwdc k S.length p = none := by unfold fwdc; rw [if_neg e1, if_neg e2, if_neg e3, if_neg (by omega)]
       rw [fp]
       simp only
       cases hq : lkH H p with
       | none => rfl
       | some c => rw [Option.map_some, map_rf _ (hlo p c hq (by omega) e1)]
  ·rw [lowN_map hpg hte, lowN_map hpg hfr]
   exact hK
def nilC (S : List Kx) : List DV := S.flatMap fun k => [.str k.nm, .int .i64 k.kd, .nils, .nils]
theorem nilC_len (S : List Kx) : (nilC S).length = S.length * 4 := fm_len (f := fun k : Kx => [DV.str k.nm, .int .i64 k.kd, .nils, .nils]) (n := 4) (fun _ => rfl) S
theorem contO_snoc (j : Nat) (S : List Kx) (i : Nat) (h : i < S.length) : contO j (S.take (i + 1)) = contO j (S.take i) ++ colO (j + i) (S.getD i default) := by
 have hl : i < (S.take (i + 1)).length := by rw [List.length_take]; omega
 rw [contO_split j (S.take (i + 1)) i hl, List.take_take, Nat.min_eq_left (Nat.le_succ i)]
 have e1 : (S.take (i + 1)).getD i default = S.getD i default := by
  rw [List.getD_eq_getElem?_getD, List.getD_eq_getElem?_getD, List.getElem?_take_of_lt (Nat.lt_succ_self i)]
 have e2 : (S.take (i + 1)).drop (i + 1) = [] := List.drop_eq_nil_of_le (by rw [List.length_take]; omega)
 rw [e1, e2, contO, List.append_nil]
theorem nilC_cons (S : List Kx) (i : Nat) (h : i < S.length) : nilC (S.drop i) = [.str (S.getD i default).nm, .int .i64 (S.getD i default).kd, .nils, .nils] ++ nilC (S.drop (i + 1)) := by
 rw [List.drop_eq_getElem_cons h]
 have e : S.getD i default = S[i] := by rw [List.getD_eq_getElem?_getD, List.getElem?_eq_getElem h]; rfl
 rw [e]; rfl
theorem W_owns {F : FnD} {c : DC} {Q : Ex → Fr → Hp → Prop} {fr : Fr} (o : Nat) (ho : o < 100000) (S : List Kx) (hS : S.length ≤ 1000) (he : ∀ i, i < S.length → (S.getD i default).le = [] ∧ (S.getD i default).ce = []) (H' : Hp) (h34 : lkH H' o = some (contO 0 S)) (hDD : ∀ p, 100000 ≤ p → lkH H' p = lkH (DD 0 S) p) (h : W F c Q fr H') :
  ∀ (n m : Nat), n + m = S.length → ∀ (H : Hp), lkH H o = some (contO 0 (S.take m) ++ nilC (S.drop m)) → (∀ p, 100000 ≤ p → lkH H p = lkH (DD 0 (S.take m)) p) → (∀ p, p < 100000 → p ≠ o → lkH H p = lkH H' p) → W F c Q fr H
 | 0, m, hm, H, k34, kDD, klo => by
  obtain rfl : m = S.length := by omega
  refine W_ext H' (fun p => ?_) h
  by_cases e : p = o
  ·subst e
   rw [k34, h34, List.take_length, List.drop_length]
   simp [nilC]
  ·by_cases e2 : 100000 ≤ p
   ·rw [kDD p e2, hDD p e2, List.take_length]
   ·exact klo p (by omega) e
 | n + 1, m, hm, H, k34, kDD, klo => by
  have hlt : m < S.length := by omega
  have tl : (S.take m).length = m := by rw [List.length_take]; omega
  have cl : (contO 0 (S.take m)).length = m * 4 := by rw [contO_len, tl]
  obtain ⟨hle, hce⟩ := he m hlt
  have hna : lkH H (ai m) = none := by
   rw [kDD _ (by simp only [ai]; omega), DD_lk, if_neg]
   rw [tl]; simp only [ai]; omega
  have hnb : lkH H (bi m) = none := by
   rw [kDD _ (by simp only [bi]; omega), DD_lk, if_neg]
   rw [tl]; simp only [ai, bi]; omega
  rw [nilC_cons S m hlt] at k34
  have g2 : (contO 0 (S.take m) ++ ([DV.str (S.getD m default).nm, .int .i64 (S.getD m default).kd, .nils, .nils] ++ nilC (S.drop (m + 1))))[m * 4 + 2]? = some .nils := by
   rw [← cl, List.getElem?_append_right (by omega), Nat.add_sub_cancel_left]; rfl
  refine W_ownc o (m * 4 + 2) 1 (ai m) k34 g2 hna ?_
  have s2 : (contO 0 (S.take m) ++ ([DV.str (S.getD m default).nm, .int .i64 (S.getD m default).kd, .nils, .nils] ++ nilC (S.drop (m + 1)))).set (m * 4 + 2) (.osl 1 (ai m) 0 0) = contO 0 (S.take m) ++ ([DV.str (S.getD m default).nm, .int .i64 (S.getD m default).kd, .osl 1 (ai m) 0 0, .nils] ++ nilC (S.drop (m + 1))) := by
   rw [← cl, List.set_append_right _ _ (by omega), Nat.add_sub_cancel_left]; rfl
  rw [s2]
  have k34' : lkH (setH (setH H o (contO 0 (S.take m) ++ ([DV.str (S.getD m default).nm, .int .i64 (S.getD m default).kd, .osl 1 (ai m) 0 0, .nils] ++ nilC (S.drop (m + 1))))) (ai m) []) o = some (contO 0 (S.take m) ++ ([DV.str (S.getD m default).nm, .int .i64 (S.getD m default).kd, .osl 1 (ai m) 0 0, .nils] ++ nilC (S.drop (m + 1)))) := by
   rw [lkH_setH, lkH_setH, if_neg (by simp only [ai]; omega), if_pos rfl]
  have g3 : (contO 0 (S.take m) ++ ([DV.str (S.getD m default).nm, .int .i64 (S.getD m default).kd, .osl 1 (ai m) 0 0, .nils] ++ nilC (S.drop (m + 1))))[m * 4 + 3]? = some .nils := by
   rw [← cl, List.getElem?_append_right (by omega), Nat.add_sub_cancel_left]; rfl
  refine W_ownc o (m * 4 + 3) 5 (bi m) k34' g3 (by rw [lkH_setH, lkH_setH, if_neg (by simp only [ai, bi]; omega), if_neg (by simp only [bi]; omega)]; exact hnb) ?_
  have s3 : (contO 0 (S.take m) ++ ([DV.str (S.getD m default).nm, .int .i64 (S.getD m default).kd, .osl 1 (ai m) 0 0, .nils] ++ nilC (S.drop (m + 1)))).set (m * 4 + 3) (.osl 5 (bi m) 0 0) = contO 0 (S.take (m + 1)) ++ nilC (S.drop (m + 1)) := by
   rw [← cl, List.set_append_right _ _ (by omega), Nat.add_sub_cancel_left, contO_snoc 0 S m hlt, Nat.zero_add, List.append_assoc]
   unfold colO
   rw [hle, hce]; rfl
  rw [s3]
  refine W_owns o ho S hS he H' h34 hDD h n (m + 1) (by omega) _ ?_ (fun p hp => ?_) (fun p hp h3 => ?_)
  ·rw [lkH_setH, lkH_setH, if_neg (by simp only [bi]; omega), if_pos rfl]
  ·rw [lkH_setH, lkH_setH, lkH_setH, lkH_setH]
   have tl' : (S.take (m + 1)).length = m + 1 := by rw [List.length_take]; omega
   have gt : ∀ j, j < m + 1 → (S.take (m + 1)).getD j default = S.getD j default := fun j hj => by
    rw [List.getD_eq_getElem?_getD, List.getD_eq_getElem?_getD, List.getElem?_take_of_lt hj]
   by_cases e1 : p = bi m
   ·subst e1
    rw [if_pos rfl, DD_b (by omega), gt m (by omega), hce]; rfl
   ·rw [if_neg e1, if_neg (by omega)]
    by_cases e2 : p = ai m
    ·subst e2
     rw [if_pos rfl, DD_a (by omega), gt m (by omega), hle]; rfl
    ·rw [if_neg e2, if_neg (by omega), kDD p hp, DD_lk, DD_lk, tl, tl']
     by_cases e3 : ai 0 ≤ p ∧ p < ai (0 + m)
     ·have e4 : ai 0 ≤ p ∧ p < ai (0 + (m + 1)) := ⟨e3.1, by have := e3.2; simp only [ai] at *; omega⟩
      rw [if_pos e3, if_pos e4]
      have hj : (p - ai 0) / 2 < m := by simp only [ai] at *; omega
      rw [gt _ (by omega)]
      have : (S.take m).getD ((p - ai 0) / 2) default = S.getD ((p - ai 0) / 2) default := by
       rw [List.getD_eq_getElem?_getD, List.getD_eq_getElem?_getD, List.getElem?_take_of_lt hj]
      rw [this]
     ·rw [if_neg e3, if_neg]
      simp only [ai, bi] at *; omega
  ·rw [lkH_setH, lkH_setH, lkH_setH, lkH_setH, if_neg (by simp only [bi]; omega), if_neg h3, if_neg (by simp only [ai]; omega), if_neg h3]
   exact klo p hp h3
def mkK (f : Fx) (t : Tx) : Kx := ⟨f.nm, f.kd, t.1, t.2⟩
def asm (fs : List Fx) (T : List Tx) : List Kx := (List.range fs.length).map fun j => mkK (fs.getD j default) (T.getD j default)
theorem asm_len (fs : List Fx) (T : List Tx) : (asm fs T).length = fs.length := by unfold asm; simp
theorem asm_get {fs : List Fx} {T : List Tx} {j : Nat} (h : j < fs.length) : (asm fs T).getD j default = mkK (fs.getD j default) (T.getD j default) := by
 unfold asm
 rw [List.getD_eq_getElem?_getD, List.getElem?_map, List.getElem?_range h]; rfl
theorem asm_set {fs : List Fx} {T : List Tx} {k : Nat} (t : Tx) (h : k < T.length) : asm fs (T.set k t) = (asm fs T).set k (mkK (fs.getD k default) t) := by
 apply List.ext_getElem?
 intro j
 by_cases hj : j < fs.length
 ·rw [List.getElem?_set]
  unfold asm
  rw [List.getElem?_map, List.getElem?_range hj, Option.map_some]
  by_cases e : k = j
  ·subst e
   rw [if_pos rfl, if_pos (by simpa using hj), gset_eq t h]
  ·rw [if_neg e, List.getElem?_map, List.getElem?_range hj, Option.map_some, gset_ne t (Ne.symm e)]
 ·rw [List.getElem?_eq_none (by rw [asm_len]; omega), List.getElem?_eq_none (by rw [List.length_set, asm_len]; omega)]
def tabK (fs : List Fx) (T : List Tx) : List Kx := (asm fs T).filter fun x => decide (x.kd ≠ 3)
def badT (row : Int) (e : Int) : DV := .tup [.agg [.int .i64 0, .sl 4 []], .int .i64 row, .int .i64 e]
noncomputable def bldR (fs : List Fx) (recs : List (List Bs)) : DV :=
 if 32 < fs.length ∨ 1024 < recs.length then badT 0 2 else
 if namesB (fnmL fs) = false then badT 0 8 else
 if (fs.any fun f => !rdB f) = true then badT 0 4 else
 if (recR parseQ fs recs recs.length).1.2 ≠ 0 then badT (recR parseQ fs recs recs.length).1.1 (recR parseQ fs recs recs.length).1.2 else
 .tup [.agg [.int .i64 recs.length, .sl 4 (kxs (tabK fs (recR parseQ fs recs recs.length).2))], .int .i64 0, .int .i64 0]
theorem kxC_rf (f : Kx) : ∀ d ∈ kxC f, d.rf = true := by
 intro d hd
 simp only [kxC, List.mem_cons, List.not_mem_nil, or_false] at hd
 rcases hd with rfl | rfl | rfl | rfl <;> rfl
theorem kxC_one (f : Kx) : ∀ d ∈ kxC f, d.one = true := by
 intro d hd
 simp only [kxC, List.mem_cons, List.not_mem_nil, or_false] at hd
 rcases hd with rfl | rfl | rfl | rfl <;> rfl
theorem kxs_rf (l : List Kx) : ∀ d ∈ kxs l, d.rf = true := fm_rf kxC_rf l
theorem frz_low {o : Nat} (ho : 100000 ≤ o) (cs : List DV) {d : DV} (h : lowN d = true) : frz o cs d = d := by
 have key : ∀ d : DV, d.rf = true → frz o cs d = d := fun d hd => by
  have := map_frz o cs (cs := [d]) (by simpa using hd)
  simpa using this
 cases d with
 | ptr p z =>
  simp only [lowN, decide_eq_true_eq] at h
  have e : p ≠ o := by omega
  simp [frz, purge, DV.has, e]
 | osl s p z n => simp only [lowN, decide_eq_true_eq] at h; simp only [frz]; rw [if_neg (by omega)]
 | undef => exact frz_undef o cs
 | _ => exact key _ h
theorem frz_lowF {o : Nat} (ho : 100000 ≤ o) (cs : List DV) : ∀ {fr : Fr}, fr.all (fun e => lowN e.2) = true → mapF (frz o cs) fr = fr
 | [], _ => rfl
 | (k, d) :: r, h => by
  simp only [List.all_cons, Bool.and_eq_true] at h
  simp only [mapF]
  rw [frz_low ho cs h.1, frz_lowF ho cs h.2]
theorem frz_contO {o : Nat} (cs : List DV) : ∀ (j : Nat) (S : List Kx), o < ai j → (contO j S).map (frz o cs) = contO j S
 | _, [], _ => rfl
 | j, k :: S, h => by
  rw [contO, List.map_append, frz_contO cs (j + 1) S (by simp only [ai] at *; omega)]
  have e1 : ai j ≠ o := by omega
  have e2 : bi j ≠ o := by simp only [ai, bi] at *; omega
  simp [colO, frz, purge, DV.has, e1, e2]
theorem W_frzs {F : FnD} {c : DC} {Q : Ex → Fr → Hp → Prop} {fr : Fr} (o : Nat) (ho : o < 100000) (S : List Kx) (hS : S.length ≤ 1000) (H' : Hp) (h34 : lkH H' o = some (kxs S)) (hno : ∀ p, 100000 ≤ p → lkH H' p = none) (hrf : ∀ p c, lkH H' p = some c → ∀ d ∈ c, d.rf = true)
  (hfr : fr.all (fun e => lowN e.2) = true) (h : W F c Q fr H') :
  ∀ (n m : Nat), n + m = S.length → ∀ (H : Hp), lkH H o = some (kxs (S.take m) ++ contO m (S.drop m)) → (∀ p, 100000 ≤ p → lkH H p = lkH (DD m (S.drop m)) p) → (∀ p, p < 100000 → p ≠ o → lkH H p = lkH H' p) → W F c Q fr H
 | 0, m, hm, H, k34, kDD, klo => by
  obtain rfl : m = S.length := by omega
  refine W_ext H' (fun p => ?_) h
  by_cases e : p = o
  ·subst e
   rw [k34, h34, List.take_length, List.drop_length]
   simp [contO]
  ·by_cases e2 : 100000 ≤ p
   ·rw [kDD p e2, hno p e2, List.drop_length]; rfl
   ·exact klo p (by omega) e
 | n + 1, m, hm, H, k34, kDD, klo => by
  have hlt : m < S.length := by omega
  obtain ⟨k, hk⟩ : ∃ k, k = S[m] := ⟨_, rfl⟩
  have hdr : S.drop m = k :: S.drop (m + 1) := by rw [hk]; exact List.drop_eq_getElem_cons hlt
  have htk : S.take (m + 1) = S.take m ++ [k] := by rw [hk]; rw [List.take_add_one, List.getElem?_eq_getElem hlt]; rfl
  rw [hdr] at k34
  have kDD' : ∀ p, 100000 ≤ p → lkH H p = if ai m = p then some (strL k.le) else if bi m = p then some (cxs k.ce) else lkH (DD (m + 1) (S.drop (m + 1))) p := fun p hp => by
   rw [kDD p hp, hdr]; rfl
  have hall : ∀ {l : List DV}, (∀ d ∈ l, d.rf = true) → l.all DV.rf = true := fun h => List.all_eq_true.2 h
  have a1 : (100000 : Nat) ≤ ai m := by simp only [ai]; omega
  have b1 : (100000 : Nat) ≤ bi m := by simp only [bi]; omega
  have ab : ai m ≠ bi m := by simp only [ai, bi]; omega
  have alt : ai m < 1048576 := by simp only [ai]; omega
  have blt : bi m < 1048576 := by simp only [bi]; omega
  have ha : lkH H (ai m) = some (strL k.le) := by rw [kDD' _ a1, if_pos rfl]
  refine W_freeze (ai m) ha (hall (strL_rf' _)) ?_ alt
  rw [frz_lowF a1 _ hfr]
  have hb : lkH (rmH (ai m) (strL k.le) H) (bi m) = some (cxs k.ce) := by
   rw [lkH_rmH, if_neg (Ne.symm ab), kDD' _ b1, if_neg ab, if_pos rfl, Option.map_some, map_frz _ _ (cxs_rf _)]
  refine W_freeze (bi m) hb (hall (cxs_rf _)) ?_ blt
  rw [frz_lowF b1 _ hfr]
  refine W_frzs o ho S hS H' h34 hno hrf hfr h n (m + 1) (by omega) _ ?_ (fun p hp => ?_) (fun p hp h3 => ?_)
  ·rw [lkH_rmH, if_neg (by omega), lkH_rmH, if_neg (by omega), k34, Option.map_some, Option.map_some]
   rw [List.map_append, List.map_append, map_frz _ _ (kxs_rf _), map_frz _ _ (kxs_rf _), contO, List.map_append, List.map_append, frz_contO _ _ _ (by simp only [ai]; omega), frz_contO _ _ _ (by simp only [ai, bi]; omega), htk]
   have e1 : ((colO m k).map (frz (ai m) (strL k.le))).map (frz (bi m) (cxs k.ce)) = kxC k := by
    have l1 : (strL k.le).length = k.le.length := List.length_map _
    have l2 := cxs_len k.ce
    simp [colO, kxC, frz, purge, DV.has, Ne.symm ab, l1, l2]
    constructor
    ·rw [List.take_of_length_le (by omega)]
    ·rw [List.take_of_length_le (by omega)]
   rw [e1]
   unfold kxs
   rw [List.flatMap_append, List.flatMap_cons, List.flatMap_nil, List.append_nil, List.append_assoc]
  ·rw [lkH_rmH, lkH_rmH]
   have hok := DD_ok (m + 1) (S.drop (m + 1)) (by rw [List.length_drop]; omega)
   by_cases e1 : p = bi m
   ·subst e1
    rw [if_pos rfl, DD_lk, if_neg]; simp only [ai, bi]; omega
   ·by_cases e2 : p = ai m
    ·subst e2
     rw [if_neg ab, if_pos rfl, DD_lk, if_neg]; rfl
     simp only [ai]; omega
    ·rw [if_neg e1, if_neg e2, kDD' p hp, if_neg (Ne.symm e2), if_neg (Ne.symm e1)]
     cases hq : lkH (DD (m + 1) (S.drop (m + 1))) p with
     | none => rfl
     | some c => rw [Option.map_some, Option.map_some, map_frz _ _ (hok.lk hq).2, map_frz _ _ (hok.lk hq).2]
  ·rw [lkH_rmH, lkH_rmH, if_neg (by omega), if_neg (by omega), klo p hp h3]
   cases hq : lkH H' p with
   | none => rfl
   | some c => rw [Option.map_some, Option.map_some, map_frz _ _ (hrf p c hq), map_frz _ _ (hrf p c hq)]
theorem take_snocD {α : Type} (d : α) {l : List α} {i : Nat} (h : i < l.length) : l.take (i + 1) = l.take i ++ [l.getD i d] := by
 rw [List.take_add_one, List.getElem?_eq_getElem h, List.getD_eq_getElem?_getD, List.getElem?_eq_getElem h]; rfl
theorem drop_consD {α : Type} (d : α) {l : List α} {i : Nat} (h : i < l.length) : l.drop i = l.getD i d :: l.drop (i + 1) := by
 rw [List.drop_eq_getElem_cons h, List.getD_eq_getElem?_getD, List.getElem?_eq_getElem h]; rfl
theorem fm_set {α : Type} {f : α → List DV} {n : Nat} (hf : ∀ a, (f a).length = n) {l : List α} {i : Nat} (x : α) (h : i < l.length) : (l.flatMap f).take (i * n) ++ f x ++ (l.flatMap f).drop (i * n + n) = (l.set i x).flatMap f := by
 have e : i * n + n = (i + 1) * n := by rw [Nat.succ_mul]
 rw [fm_take hf, e, fm_drop hf, List.set_eq_take_append_cons_drop, if_pos h, List.flatMap_append, List.flatMap_cons, List.append_assoc]
def filI {α : Type} (p : α → Bool) (S : List α) (i j : Nat) (A : List α) : Prop := A.length = S.length ∧ i < j ∧ j ≤ S.length ∧ A.take i = (S.take j).filter (fun x => !p x) ∧ A.drop j = S.drop j
section
variable {α : Type} {p : α → Bool} {S A : List α} {i j : Nat} (d : α)
theorem filI_get (h : filI p S i j A) (hj : j < S.length) : A.getD j d = S.getD j d := by
 have h5 := h.2.2.2.2
 rw [drop_consD d (by rw [h.1]; exact hj), drop_consD d hj] at h5
 exact (List.cons.inj h5).1
theorem filI_keep (h : filI p S i j A) (hj : j < S.length) (hp : p (S.getD j d) = false) : filI p S (i + 1) (j + 1) (A.set i (S.getD j d)) := by
 obtain ⟨h1, h2, h3, h4, h5⟩ := h
 refine ⟨by rw [List.length_set, h1], by omega, by omega, ?_, ?_⟩
 ·rw [take_snocD d (by rw [List.length_set]; omega), List.take_set_of_le (Nat.le_refl i), h4, take_snocD d hj, List.filter_append]
  have : (A.set i (S.getD j d)).getD i d = S.getD j d := by
   rw [List.getD_eq_getElem?_getD, List.getElem?_set_self (by omega)]; rfl
  rw [this, List.filter_cons, hp]; rfl
 ·rw [List.drop_set_of_lt (by omega)]
  rw [drop_consD d (by rw [h1]; exact hj), drop_consD d hj] at h5
  exact (List.cons.inj h5).2
theorem filI_skip (h : filI p S i j A) (hj : j < S.length) (hp : p (S.getD j d) = true) : filI p S i (j + 1) A := by
 obtain ⟨h1, h2, h3, h4, h5⟩ := h
 refine ⟨h1, by omega, by omega, ?_, ?_⟩
 ·rw [h4, take_snocD d hj, List.filter_append, List.filter_cons, hp]; simp
 ·rw [drop_consD d (by rw [h1]; exact hj), drop_consD d hj] at h5
  exact (List.cons.inj h5).2
theorem filI_end (h : filI p S i S.length A) : A.take i = S.filter (fun x => !p x) := by
 rw [h.2.2.2.1, List.take_length]
end
section
variable {α : Type} (p : α → Bool)
theorem ixP_neg : ∀ {l : List α}, ixP p l = -1 → l.filter (fun x => !p x) = l
 | [], _ => rfl
 | x :: l, h => by
  have hb := ixP_bd p l
  simp only [ixP] at h
  split at h
  ·omega
  ·rename_i hp
   split at h
   ·have := ixP_neg (l := l) (by omega)
    rw [List.filter_cons, if_pos (by simpa using hp), this]
   ·omega
theorem ixP_pos (d : α) : ∀ {l : List α} {k : Nat}, ixP p l = k → k < l.length ∧ p (l.getD k d) = true ∧ (l.take k).filter (fun x => !p x) = l.take k
 | [], k, h => by simp [ixP] at h
 | x :: l, k, h => by
  simp only [ixP] at h
  split at h
  ·rename_i hp
   obtain rfl : k = 0 := by omega
   exact ⟨by simp, hp, rfl⟩
  ·rename_i hp
   split at h
   ·omega
   ·match k with
    | 0 => omega
    | k + 1 =>
     obtain ⟨h1, h2, h3⟩ := ixP_pos d (l := l) (k := k) (by omega)
     refine ⟨by simp; omega, h2, ?_⟩
     rw [List.take_succ_cons, List.filter_cons, if_pos (by simpa using hp), h3]
theorem filI_zero (d : α) {l : List α} {k : Nat} (h : ixP p l = k) : filI p l k (k + 1) l := by
 obtain ⟨h1, h2, h3⟩ := ixP_pos p d h
 refine ⟨rfl, by omega, by omega, ?_, rfl⟩
 rw [take_snocD d h1, List.filter_append, h3, List.filter_cons, h2]; simp
end
theorem rep4 (m : Nat) (a b c d : DV) (h : [a, b, c, d].all DV.rf = true) : (rep m [a, b, c, d]).length = m * 4 ∧ ∀ x ∈ rep m [a, b, c, d], x.rf = true := by
 show ((List.replicate m [a, b, c, d]).flatten).length = m * 4 ∧ ∀ x ∈ (List.replicate m [a, b, c, d]).flatten, x.rf = true
 constructor
 ·induction m with
  | zero => rfl
  | succ m ih => rw [List.replicate_succ, List.flatten_cons, List.length_append, ih]; show 4 + m * 4 = _; omega
 ·intro x hx
  obtain ⟨l, h1, h2⟩ := List.mem_flatten.1 hx
  rw [(List.mem_replicate.1 h1).2] at h2
  exact List.all_eq_true.1 h x h2
end Nat32
namespace Nat32
open Go Go.Dat
theorem contO_fix {f : DV → DV} (hr : ∀ d : DV, d.rf = true → f d = d) (ho : ∀ s o n, 100000 ≤ o → f (.osl s o 0 n) = .osl s o 0 n) : ∀ (j : Nat) (S : List Kx), (contO j S).map f = contO j S
 | _, [] => rfl
 | j, k :: S => by
  rw [contO, List.map_append, contO_fix hr ho (j + 1) S]
  simp only [colO, List.map_cons, List.map_nil]
  rw [hr _ rfl, hr _ rfl, ho _ _ _ (by simp only [ai]; omega), ho _ _ _ (by simp only [bi]; omega)]
theorem contO_frz {o : Nat} (h : o < 100000) (cs : List DV) (j : Nat) (S : List Kx) : (contO j S).map (frz o cs) = contO j S :=
 contO_fix (fun d hd => by
  have := map_frz o cs (cs := [d]) (by simpa using hd)
  simpa using this) (fun s p n hp => by simp only [frz]; rw [if_neg (by omega)]) j S
theorem contO_ok (D : Hp) : ∀ (j : Nat) (S : List Kx), (∀ i, j ≤ i → i < j + S.length → (lkH D (ai i)).isSome = true ∧ (lkH D (bi i)).isSome = true) → ∀ d ∈ contO j S, okO D d
 | _, [], _, d, hd => by cases hd
 | j, k :: S, h, d, hd => by
  rw [contO, List.mem_append] at hd
  rw [List.length_cons] at h
  rcases hd with hd | hd
  ·obtain ⟨h1, h2⟩ := h j (Nat.le_refl j) (by omega)
   simp only [colO, List.mem_cons, List.not_mem_nil, or_false] at hd
   rcases hd with rfl | rfl | rfl | rfl
   ·exact .inl rfl
   ·exact .inl rfl
   ·exact .inr ⟨_, _, _, rfl, h1⟩
   ·exact .inr ⟨_, _, _, rfl, h2⟩
  ·exact contO_ok D (j + 1) S (fun i h1 h2 => h i (by omega) (by omega)) d hd
theorem drp_some {S : List Kx} {k i : Nat} (hi : i < S.length) (h : i ≠ k) : (lkH (drp (ai k) (bi k) (DD 0 S)) (ai i)).isSome = true ∧ (lkH (drp (ai k) (bi k) (DD 0 S)) (bi i)).isSome = true := by
 constructor
 ·rw [lkH_drp, if_neg (by simp only [ai, bi]; omega), DD_a hi]; rfl
 ·rw [lkH_drp, if_neg (by simp only [ai, bi]; omega), DD_b hi]; rfl
theorem nb_ok {S : List Kx} {k : Nat} (hk : k < S.length) : (∀ d ∈ contO 0 (S.take k), okO (drp (ai k) (bi k) (DD 0 S)) d) ∧ ∀ d ∈ contO (k + 1) (S.drop (k + 1)), okO (drp (ai k) (bi k) (DD 0 S)) d := by
 constructor
 ·refine contO_ok _ 0 _ fun i h1 h2 => ?_
  rw [List.length_take] at h2
  exact drp_some (by omega) (by omega)
 ·refine contO_ok _ (k + 1) _ fun i h1 h2 => ?_
  rw [List.length_drop] at h2
  exact drp_some (by omega) (by omega)
theorem DD_none {S : List Kx} {p : Nat} (h : p < 100000) : lkH (DD 0 S) p = none := by
 rw [DD_lk, if_neg]; simp only [ai]; omega
theorem col_H2 (a b : List DV) (S S' : List Kx) (p : Nat) : lkH ((4, a) :: (13, b) :: (34, contO 0 S') :: DD 0 S') p =
  if p = 34 then some (contO 0 S') else if 100000 ≤ p then lkH (DD 0 S') p else lkH ((4, a) :: (13, b) :: (34, contO 0 S) :: DD 0 S) p := by
 simp only [lkH]
 by_cases e1 : p = 34
 ·subst e1; rfl
 ·rw [if_neg e1]
  by_cases e2 : 100000 ≤ p
  ·rw [if_pos e2, if_neg (by omega), if_neg (by omega), if_neg (by omega)]
  ·rw [if_neg e2]
   by_cases e3 : 4 = p
   ·rw [if_pos e3, if_pos e3]
   ·rw [if_neg e3, if_neg e3]
    by_cases e4 : 13 = p
    ·rw [if_pos e4, if_pos e4]
    ·rw [if_neg e4, if_neg e4, if_neg (by omega), if_neg (by omega), DD_none (by omega), DD_none (by omega)]
theorem col_DD (a b : List DV) (S : List Kx) (p : Nat) (h : 100000 ≤ p) : lkH ((4, a) :: (13, b) :: (34, contO 0 S) :: DD 0 S) p = lkH (DD 0 S) p := by
 simp only [lkH]
 rw [if_neg (by omega), if_neg (by omega), if_neg (by omega)]
theorem col_lo {a b : List DV} {S : List Kx} (ha : ∀ d ∈ a, d.rf = true) (hb : ∀ d ∈ b, d.rf = true) (p : Nat) (c : List DV) (h : lkH ((4, a) :: (13, b) :: (34, contO 0 S) :: DD 0 S) p = some c) (h1 : p < 100000) (h2 : p ≠ 34) : ∀ d ∈ c, d.rf = true := by
 simp only [lkH] at h
 by_cases e3 : 4 = p
 ·rw [if_pos e3] at h; cases h; exact ha
 ·rw [if_neg e3] at h
  by_cases e4 : 13 = p
  ·rw [if_pos e4] at h; cases h; exact hb
  ·rw [if_neg e4, if_neg (by omega), DD_none h1] at h; cases h
def col0 : Kx := ⟨[], 0, [], []⟩
def colF (f : Fx) : Kx := ⟨f.nm, f.kd, [], []⟩
def P1 (fs : List Fx) (i : Nat) : List Kx := (fs.take i).map colF ++ List.replicate (fs.length - i) col0
theorem P1_len {fs : List Fx} {i : Nat} (h : i ≤ fs.length) : (P1 fs i).length = fs.length := by
 unfold P1; rw [List.length_append, List.length_map, List.length_take, List.length_replicate]; omega
theorem P1_zero (fs : List Fx) : rep fs.length [.str [], .int .i64 0, .nils, .nils] = nilC (P1 fs 0) := by
 show (List.replicate fs.length _).flatten = _
 unfold P1 nilC
 rw [List.take_zero, List.map_nil, List.nil_append, Nat.sub_zero]
 induction fs.length with
 | zero => rfl
 | succ n ih => rw [List.replicate_succ, List.replicate_succ, List.flatten_cons, List.flatMap_cons, ih]; rfl
theorem P1_next {fs : List Fx} {i : Nat} (h : i < fs.length) : (P1 fs i).set i (colF (fs.getD i default)) = P1 fs (i + 1) := by
 unfold P1
 have hl : ((fs.take i).map colF).length = i := by rw [List.length_map, List.length_take]; omega
 rw [List.set_append_right _ _ (by omega), hl, Nat.sub_self, show fs.length - i = (fs.length - (i + 1)) + 1 by omega, List.replicate_succ, List.set_cons_zero, take_snocD default h, List.map_append, List.append_assoc]
 rfl
theorem P1_end (fs : List Fx) : P1 fs fs.length = asm fs (fs.map fun _ => ([], [])) := by
 unfold P1 asm
 rw [List.take_length, Nat.sub_self, List.replicate_zero, List.append_nil]
 apply List.ext_getElem?
 intro j
 by_cases hj : j < fs.length
 ·rw [List.getElem?_map, List.getElem?_map, List.getElem?_range hj, List.getElem?_eq_getElem hj, Option.map_some, Option.map_some]
  have e1 : fs.getD j default = fs[j] := by rw [List.getD_eq_getElem?_getD, List.getElem?_eq_getElem hj]; rfl
  have e2 : (fs.map fun _ => (([], []) : Tx)).getD j default = ([], []) := by rw [List.getD_eq_getElem?_getD, List.getElem?_map, List.getElem?_eq_getElem hj]; rfl
  rw [e1, e2]; rfl
 ·rw [List.getElem?_eq_none (by simpa using hj), List.getElem?_eq_none (by simpa using hj)]
theorem nilC_set {S : List Kx} {i : Nat} (nm : Bs) (kd : Int) (h : i < S.length) : (nilC S).take (i * 4) ++ [.str nm, .int .i64 kd, .nils, .nils] ++ (nilC S).drop (i * 4 + 4) = nilC (S.set i ⟨nm, kd, [], []⟩) :=
 fm_set (f := fun k : Kx => [DV.str k.nm, .int .i64 k.kd, .nils, .nils]) (n := 4) (fun _ => rfl) ⟨nm, kd, [], []⟩ h
theorem nilC_one (S : List Kx) : ∀ d ∈ nilC S, d.rf = true := by
 intro d hd
 unfold nilC at hd
 obtain ⟨k, _, h⟩ := List.mem_flatMap.1 hd
 simp only [List.mem_cons, List.not_mem_nil, or_false] at h
 rcases h with rfl | rfl | rfl | rfl <;> rfl
def gout (o p : Nat) : Option Nat := if p = o then none else some p
theorem callC_mv1 {F : FnD} {os : List DOper} {dst : Dst} {f : Nat} {te fr : Fr} {H : Hp} {K : Fr → Fr → Hp → Prop} (hp : F.pure = false) (o z n : Nat) (v R : DV) {cells : List DV} (ho : o < 100000) (h34 : lkH H o = some cells) (hcr : ∀ d ∈ cells, d.rf = true) (hv : v.rf = true) (hR : R.rf = true)
  (hc : MRel F.P f [.osl z 1000 0 n, v] [(1000, cells)] fun r H' => r = R ∧ H' = []) (H2 : Hp) (hH2 : ∀ p, lkH H2 p = if p = o then none else (lkH H p).map (List.map (rn (gout o))))
  (hK : regW F os (dst.onT (mapF (rn (gout o)) te) R) (dst.onX (mapF (rn (gout o)) fr) R) H2 K) : callC F os dst f [.osl z o 0 n, v] te fr H K := by
 obtain ⟨fw, hfw⟩ : ∃ fw : Nat → Option Nat, fw = fun p => if p = o then some 1000 else none := ⟨_, rfl⟩
 obtain ⟨bk, hbk⟩ : ∃ bk : Nat → Option Nat, bk = fun q => if q = 1000 then some o else none := ⟨_, rfl⟩
 have fo : fw o = some 1000 := by rw [hfw]; simp
 have fn : ∀ p, p ≠ o → fw p = none := fun p hp => by rw [hfw]; simp [hp]
 have hg : pgN H fw = gout o := funext fun p => by
  unfold pgN gout
  by_cases e : p = o
  ·subst e; rw [fo, if_pos rfl]; simp [h34]
  ·rw [fn p e, if_neg e]
 refine callC_rel hp fw bk (fun p q => ?_) (fun p q h1 h2 => ?_) (fun p q h1 => ?_) (Hc := [(1000, cells)]) (fun q => ?_) (by
  have : [DV.osl z o 0 n, v].map (rn fw) = [.osl z 1000 0 n, v] := by simp [rn, fo, rn_rf _ v hv]
  rw [this]; exact hc) ?_
 ·rw [hfw, hbk]
  simp only
  constructor
  ·intro h; split at h
   ·cases h; rename_i e; subst e; simp
   ·cases h
  ·intro h; split at h
   ·cases h; rename_i e; subst e; simp
   ·cases h
 ·by_cases e : p = o
  ·omega
  ·rw [fn p e] at h1; cases h1
 ·by_cases e : p = o
  ·subst e; rw [fo] at h1; cases h1
   refine tyNo.eq ?_ ?_ <;> (unfold tyNo; omega)
  ·rw [fn p e] at h1; cases h1
 ·rw [hbk]
  simp only [lkH]
  by_cases e : q = 1000
  ·subst e
   rw [if_pos rfl, if_pos rfl, Option.bind_some, h34, Option.map_some, map_rf _ hcr]
  ·rw [if_neg e, if_neg (Ne.symm e)]; rfl
 ·rintro r Hc' ⟨rfl, rfl⟩
  refine ⟨H2, fun p => ?_, ?_⟩
  ·rw [hH2]
   by_cases e : p = o
   ·subst e; rw [if_pos rfl, fo]; rfl
   ·rw [if_neg e, fn p e, hg]
  ·rw [hg, rn_rf _ _ hR]; exact hK
theorem bldR_err {fs : List Fx} {recs : List (List Bs)} (h1 : ¬ (32 < fs.length ∨ 1024 < recs.length)) (hnb : namesB (fnmL fs) = true) (hrd : (fs.any fun f => !rdB f) = false) {i : Nat} (hi : i < recs.length) {e : Int} (he : e ≠ 0)
  (h : (recR parseQ fs recs (i + 1)).1 = (((i + 1 : Nat) : Int), e)) : bldR fs recs = badT ((i + 1 : Nat) : Int) e := by
 have h0 : (recR parseQ fs recs (i + 1)).1.2 ≠ 0 := by rw [h]; exact he
 unfold bldR
 rw [if_neg h1, hnb, if_neg (by decide), hrd, if_neg (by decide), recR_stop parseQ fs recs h0 hi, if_pos h0, h]
theorem bldR_ok {fs : List Fx} {recs : List (List Bs)} (h1 : ¬ (32 < fs.length ∨ 1024 < recs.length)) (hnb : namesB (fnmL fs) = true) (hrd : (fs.any fun f => !rdB f) = false) (h : (recR parseQ fs recs recs.length).1.2 = 0) :
  bldR fs recs = .tup [.agg [.int .i64 recs.length, .sl 4 (kxs (tabK fs (recR parseQ fs recs recs.length).2))], .int .i64 0, .int .i64 0] := by
 unfold bldR
 rw [if_neg h1, hnb, if_neg (by decide), hrd, if_neg (by decide), if_neg (by simpa using h)]
section
variable {pq : Bs → Option Rat} {fs : List Fx} {recs : List (List Bs)} {i : Nat} (h0 : (recR pq fs recs i).1.2 = 0)
include h0
theorem recR_shape (h : (recs.getD i []).length ≠ fs.length) : (recR pq fs recs (i + 1)).1 = (((i + 1 : Nat) : Int), 6) := by
 simp only [recR]
 rw [if_neg (by simpa using h0), if_pos h]
theorem recR_row (h : (recs.getD i []).length = fs.length) {e : Int} (he : e ≠ 0) (hr : (rowR pq fs (recs.getD i []) (recR pq fs recs i).2 fs.length).1 = e) : (recR pq fs recs (i + 1)).1 = (((i + 1 : Nat) : Int), e) := by
 simp only [recR]
 rw [if_neg (by simpa using h0), if_neg (by simpa using h), hr, if_pos he]
theorem recR_good (h : (recs.getD i []).length = fs.length) (hr : (rowR pq fs (recs.getD i []) (recR pq fs recs i).2 fs.length).1 = 0) : recR pq fs recs (i + 1) = ((0, 0), (rowR pq fs (recs.getD i []) (recR pq fs recs i).2 fs.length).2) := by
 simp only [recR]
 rw [if_neg (by simpa using h0), if_neg (by simpa using h), hr, if_neg (by simp)]
end
section
variable {pq : Bs → Option Rat} {fs : List Fx} {r : List Bs} {T : List Tx} {k : Nat} (h0 : (rowR pq fs r T k).1 = 0)
include h0
theorem rowR_next : rowR pq fs r T (k + 1) = ((colStep pq (fs.getD k default) (r.getD k []) ((rowR pq fs r T k).2.getD k default)).1, (rowR pq fs r T k).2.set k (colStep pq (fs.getD k default) (r.getD k []) ((rowR pq fs r T k).2.getD k default)).2) := by
 simp only [rowR]
 rw [if_neg (by simpa using h0)]
theorem rowR_bad (he : (colStep pq (fs.getD k default) (r.getD k []) ((rowR pq fs r T k).2.getD k default)).1 ≠ 0) {n : Nat} (hn : k < n) : (rowR pq fs r T n).1 = (colStep pq (fs.getD k default) (r.getD k []) ((rowR pq fs r T k).2.getD k default)).1 := by
 have h1 := rowR_next h0
 have h2 : (rowR pq fs r T (k + 1)).1 ≠ 0 := by rw [h1]; exact he
 rw [rowR_stop pq fs r T h2 hn, h1]
end
theorem colStep_skip {pq : Bs → Option Rat} {f : Fx} (h : f.kd = 3) (s : Bs) (x : Tx) : colStep pq f s x = (0, x) := by unfold colStep; rw [if_pos h]
theorem colStep_read {pq : Bs → Option Rat} {f : Fx} (h : f.kd ≠ 3) (s : Bs) (x : Tx) : colStep pq f s x = ((readR pq f x.1 x.2 s).1, (readR pq f x.1 x.2 s).2) := by unfold colStep; rw [if_neg h]
theorem set_self {α : Type} [Inhabited α] (l : List α) (k : Nat) : l.set k (l.getD k default) = l := by
 apply List.ext_getElem?
 intro j
 rw [List.getElem?_set]
 by_cases e : k = j
 ·subst e
  rw [if_pos rfl]
  split
  ·rename_i h; rw [List.getD_eq_getElem?_getD, List.getElem?_eq_getElem h]; rfl
  ·rename_i h; rw [List.getElem?_eq_none (by omega)]
 ·rw [if_neg e]
end Nat32
namespace Nat32
open Go Go.Dat
def zerB (x : XN) : Bool := vldQ x.1 x.2.1 x.2.2 && decide ((xnV x).num.sign = 0)
def fitB (k : Kx) (x : Tc) : Bool :=
 if x.mi then zerB x.va && decide (x.lv = 0) else if k.kd = 1 then vldQ x.va.1 x.va.2.1 x.va.2.2 && decide (x.lv = 0) else zerB x.va && decide (0 ≤ x.lv) && decide (x.lv < k.le.length)
def shpB (k : Kx) (n : Int) : Bool := (decide (k.kd = 1) || decide (k.kd = 2)) && !(decide (k.kd = 1) && decide (0 < k.le.length)) && decide (k.le.length ≤ 32) && decide ((k.ce.length : Int) = n)
def dstB (l : List Bs) : Bool := (List.range l.length).all fun i => decide (ixS (l.take i) (l.getD i []) < 0)
def colB (k : Kx) (n : Int) : Bool := shpB k n && dstB k.le && k.ce.all (fitB k)
def knmL (l : List Kx) : List Bs := l.map Kx.nm
theorem knmL_len (l : List Kx) : (knmL l).length = l.length := List.length_map _
def tabB (n : Int) (S : List Kx) : Bool := decide (0 ≤ n) && decide (n ≤ 1024) && decide (S.length ≤ 32) && namesB (knmL S) && S.all fun k => colB k n
theorem dstB_no {l : List Bs} {i : Nat} (hi : i < l.length) (h : ¬ ixS (l.take i) (l.getD i []) < 0) : dstB l = false := by
 unfold dstB
 rw [List.all_eq_false]
 exact ⟨i, List.mem_range.2 hi, by simpa using h⟩
theorem dstB_yes {l : List Bs} (h : ∀ i, i < l.length → ixS (l.take i) (l.getD i []) < 0) : dstB l = true := by
 unfold dstB
 rw [List.all_eq_true]
 exact fun i hi => by simpa using h i (List.mem_range.1 hi)
theorem any_not {α : Type} (p : α → Bool) : ∀ l : List α, (l.any fun x => !p x) = !l.all p
 | [] => rfl
 | x :: l => by rw [List.any_cons, List.all_cons, any_not p l]; cases p x <;> rfl
theorem zerB_0 : zerB (false, [], []) = true := by decide +kernel
theorem tmodG (k : Int) {n : Nat} (hn : 0 < n) : -(n : Int) < k.tmod n ∧ k.tmod n < n ∧ (k.tmod n < 0 → k.tmod n + n = k % n) ∧ (¬ k.tmod n < 0 → k.tmod n = k % n) := by
 have hp : (0 : Int) < (n : Int) := by omega
 have h1 := Int.emod_nonneg k (show (n : Int) ≠ 0 by omega)
 have h2 := Int.emod_lt_of_pos k hp
 by_cases h : 0 ≤ k
 ·rw [Int.tmod_eq_emod_of_nonneg h]; omega
 ·obtain ⟨m, hm⟩ : ∃ m : Nat, k = -(m : Int) := ⟨k.natAbs, by omega⟩
  subst hm
  rw [Int.neg_tmod, Int.tmod_eq_emod_of_nonneg (by omega)]
  have h3 := Int.emod_nonneg (m : Int) (show (n : Int) ≠ 0 by omega)
  have h4 := Int.emod_lt_of_pos (m : Int) hp
  have h5 := Int.emod_add_mul_ediv (m : Int) n
  have h6 := Int.emod_add_mul_ediv (-(m : Int)) n
  clear h1 h2 h6
  refine ⟨by omega, by omega, fun h => ?_, fun h => ?_⟩
  ·have hm : (n : Int) * (-((m : Int) / n) - 1) = -((n : Int) * ((m : Int) / n)) - n := by rw [Int.mul_sub, Int.mul_neg, Int.mul_one]
   have e : -(m : Int) = ((n : Int) - (m : Int) % n) + n * (-((m : Int) / n) - 1) := by omega
   have key : (-(m : Int)) % n = (n : Int) - (m : Int) % n := by
    rw [e, Int.add_mul_emod_self_left]
    exact Int.emod_eq_of_lt (by omega) (by omega)
   omega
  ·have e0 : (m : Int) % n = 0 := by omega
   have hm : (n : Int) * (-((m : Int) / n)) = -((n : Int) * ((m : Int) / n)) := Int.mul_neg _ _
   have e : -(m : Int) = 0 + n * (-((m : Int) / n)) := by omega
   have key : (-(m : Int)) % n = 0 := by
    rw [e, Int.add_mul_emod_self_left]; rfl
   omega
def canC (c : Tc) : Tc := ⟨c.mi, qX (xnV c.va), c.lv⟩
def canK (k : Kx) (ce : List Tc) : Kx := ⟨k.nm, k.kd, k.le, ce.map canC⟩
def withK (cells : Nat → Kx → List Tc) (S : List Kx) (i : Nat) : List Kx := (List.range i).map fun j => canK (S.getD j default) (cells j (S.getD j default))
theorem withK_len (cells : Nat → Kx → List Tc) (S : List Kx) (i : Nat) : (withK cells S i).length = i := by unfold withK; simp
theorem withK_succ (cells : Nat → Kx → List Tc) (S : List Kx) (i : Nat) : withK cells S (i + 1) = withK cells S i ++ [canK (S.getD i default) (cells i (S.getD i default))] := by
 unfold withK; rw [List.range_succ, List.map_append]; rfl
theorem rv_00 : rv false [] [] = 0 := by decide +kernel
theorem xnV_q (r : Rat) : xnV (qX r) = r := rv_Q r
theorem canC_canC (c : Tc) : canC (canC c) = canC c := by unfold canC; simp only [xnV_q]
def selC (rows : List Nat) (k : Kx) : List Tc := rows.map fun r => k.ce.getD r default
theorem okN0_RB {r : Rat} (h : RB r 300) : okN0 (qX r) := ⟨lim_limbs _, lim_dn _, h.1, Nat.le_trans (dn_len _) h.2⟩
theorem RB_xnV {x : XN} (h : okN0 x) : RB (xnV x) 300 := RB_rv h.1 h.2.1 h.2.2.1 h.2.2.2 (by decide)
theorem okN0_can {c : Tc} (h : okN0 c.va) : okN0 (canC c).va := okN0_RB (RB_xnV h)
theorem zerB_can {x : XN} (h : zerB x = true) : zerB (qX (xnV x)) = true := by
 unfold zerB at *
 rw [Bool.and_eq_true] at h ⊢
 exact ⟨vldQ_Q _, by rw [xnV_q]; exact h.2⟩
theorem fitB_can {k k' : Kx} (h1 : k'.kd = k.kd) (h2 : k'.le = k.le) {c : Tc} (h : fitB k c = true) : fitB k' (canC c) = true := by
 unfold fitB at *
 rw [h1, h2]
 have hv : vldQ (canC c).va.1 (canC c).va.2.1 (canC c).va.2.2 = true := vldQ_Q _
 show (if c.mi = true then zerB (qX (xnV c.va)) && decide (c.lv = 0) else if k.kd = 1 then vldQ (canC c).va.1 (canC c).va.2.1 (canC c).va.2.2 && decide (c.lv = 0) else zerB (qX (xnV c.va)) && decide (0 ≤ c.lv) && decide (c.lv < k.le.length)) = true
 split
 ·rename_i h3
  rw [if_pos h3, Bool.and_eq_true] at h
  rw [zerB_can h.1, h.2]; rfl
 ·rename_i h3
  rw [if_neg h3] at h
  split
  ·rename_i h4
   rw [if_pos h4, Bool.and_eq_true] at h
   rw [hv, h.2]; rfl
  ·rename_i h4
   rw [if_neg h4, Bool.and_eq_true, Bool.and_eq_true] at h
   rw [zerB_can h.1.1, h.1.2, h.2]; rfl
def selK (rows : List Nat) (S : List Kx) : List Kx := withK (fun _ k => selC rows k) S S.length
theorem selK_len (rows : List Nat) (S : List Kx) : (selK rows S).length = S.length := withK_len _ _ _
theorem selK_eq (rows : List Nat) (S : List Kx) : selK rows S = S.map fun k => canK k (selC rows k) := by
 unfold selK withK
 apply List.ext_getElem?
 intro j
 by_cases hj : j < S.length
 ·have e : S.getD j default = S[j] := by rw [List.getD_eq_getElem?_getD, List.getElem?_eq_getElem hj]; rfl
  rw [List.getElem?_map, List.getElem?_map, List.getElem?_range hj, List.getElem?_eq_getElem hj]
  show some (canK (S.getD j default) (selC rows (S.getD j default))) = some (canK S[j] (selC rows S[j]))
  rw [e]
 ·rw [List.getElem?_eq_none (by simpa using hj), List.getElem?_eq_none (by simpa using hj)]
theorem selK_ce (rows : List Nat) (S : List Kx) : ∀ k ∈ selK rows S, k.ce.length = rows.length := fun k' hk' => by
 rw [selK_eq] at hk'
 obtain ⟨k, _, rfl⟩ := List.mem_map.1 hk'
 show ((selC rows k).map canC).length = _
 unfold selC; simp
theorem xnC_can {x : XN} (la : lim x.2.1) (ld : lim x.2.2) (h : vldQ x.1 x.2.1 x.2.2 = true) : xnC (qX (xnV x)) = xnC x := by
 have := XQ_Q (neg := x.1) la ld h
 exact (DV.agg.inj this).symm
theorem all_eq {n : Nat} {l : List Tc} (h : l.length = n) : (List.range n).map (fun r => l.getD r default) = l := by
 apply List.ext_getElem?
 intro j
 by_cases hj : j < n
 ·rw [List.getElem?_map, List.getElem?_range hj, List.getElem?_eq_getElem (by omega)]
  show some (l.getD j default) = _
  rw [List.getD_eq_getElem?_getD, List.getElem?_eq_getElem (by omega)]; rfl
 ·rw [List.getElem?_eq_none (by simpa using hj), List.getElem?_eq_none (by omega)]
theorem selK_all {n : Nat} {S : List Kx} (hce : ∀ k ∈ S, k.ce.length = n) (hc : ∀ k ∈ S, ∀ c ∈ k.ce, xnC (canC c).va = xnC c.va) : kxs (selK (List.range n) S) = kxs S := by
 rw [selK_eq]
 unfold kxs
 rw [List.flatMap_map]
 have : ∀ k ∈ S, kxC (canK k (selC (List.range n) k)) = kxC k := fun k hk => by
  have e : cxs ((selC (List.range n) k).map canC) = cxs k.ce := by
   unfold selC
   rw [all_eq (hce k hk)]
   unfold cxs
   rw [List.flatMap_map]
   have : ∀ c ∈ k.ce, cxC (canC c) = cxC c := fun c hcm => by
    have h1 := hc k hk c hcm
    have h2 : cxC (canC c) = [DV.bool c.mi] ++ xnC (canC c).va ++ [.int .i64 c.lv] := rfl
    have h3 : cxC c = [DV.bool c.mi] ++ xnC c.va ++ [.int .i64 c.lv] := rfl
    rw [h2, h3, h1]
   rw [List.flatMap_def, List.flatMap_def, List.map_congr_left this]
  show [DV.str k.nm, .int .i64 k.kd, .sl 1 (strL k.le), .sl 5 (cxs ((selC (List.range n) k).map canC))] = _
  rw [e]; rfl
 rw [List.flatMap_def, List.flatMap_def, List.map_congr_left this]
def insC (a : Nat) (x : List Tc) (i : Nat) (k : Kx) : List Tc := k.ce.take a ++ [x.getD i default] ++ k.ce.drop a
def delC (a : Nat) (k : Kx) : List Tc := k.ce.take a ++ k.ce.drop (a + 1)
def insK (a : Nat) (x : List Tc) (S : List Kx) : List Kx := withK (insC a x) S S.length
def delK (a : Nat) (S : List Kx) : List Kx := withK (fun _ k => delC a k) S S.length
def rowC (a : Nat) (S : List Kx) : List Tc := S.map fun k => k.ce.getD a default
def canS (S : List Kx) : List Kx := withK (fun _ k => k.ce) S S.length
theorem withK_at (cells : Nat → Kx → List Tc) (S : List Kx) {n j : Nat} (h : j < n) : (withK cells S n)[j]? = some (canK (S.getD j default) (cells j (S.getD j default))) := by
 unfold withK
 rw [List.getElem?_map, List.getElem?_range h]; rfl
theorem withK_get (cells : Nat → Kx → List Tc) (S : List Kx) {n j : Nat} (h : j < n) : (withK cells S n).getD j default = canK (S.getD j default) (cells j (S.getD j default)) := by
 rw [List.getD_eq_getElem?_getD, withK_at cells S h]; rfl
theorem withK_of {n : Nat} {T : List Kx} {cells : Nat → Kx → List Tc} {S : List Kx} (hT : T.length = n) (h : ∀ j, j < n → T.getD j default = canK (S.getD j default) (cells j (S.getD j default))) : T = withK cells S n := by
 apply List.ext_getElem?
 intro j
 by_cases hj : j < n
 ·rw [withK_at cells S hj, ← h j hj, List.getD_eq_getElem?_getD, List.getElem?_eq_getElem (by omega)]; rfl
 ·rw [List.getElem?_eq_none (by omega), List.getElem?_eq_none (by rw [withK_len]; omega)]
theorem canK_congr {k k' : Kx} {L L' : List Tc} (h1 : k.nm = k'.nm) (h2 : k.kd = k'.kd) (h3 : k.le = k'.le) (h4 : L.map canC = L'.map canC) : canK k L = canK k' L' := by
 unfold canK; rw [h1, h2, h3, h4]
theorem map_can (L : List Tc) : (L.map canC).map canC = L.map canC := by
 rw [List.map_map]
 exact List.map_congr_left fun c _ => canC_canC c
theorem del_ins {a : Nat} {S : List Kx} (x : List Tc) (h : ∀ k ∈ S, a ≤ k.ce.length) : delK a (insK a x S) = canS S := by
 refine withK_of (by unfold delK; rw [withK_len]; exact withK_len _ _ _) fun j hj => ?_
 have hj2 : j < (insK a x S).length := by unfold insK; rw [withK_len]; exact hj
 unfold delK
 rw [withK_get _ _ hj2]
 have e : (insK a x S).getD j default = canK (S.getD j default) (insC a x j (S.getD j default)) := withK_get _ _ hj
 rw [e]
 refine canK_congr rfl rfl rfl ?_
 have hk := h _ (memG hj)
 generalize S.getD j default = k at *
 have el : (k.ce.take a).length = a := by rw [List.length_take]; omega
 show (((insC a x j k).map canC).take a ++ ((insC a x j k).map canC).drop (a + 1)).map canC = k.ce.map canC
 rw [← List.map_take, ← List.map_drop, ← List.map_append, map_can]
 congr 1
 unfold insC
 rw [List.append_assoc, List.take_left' el, ← List.drop_drop, List.drop_left' el]
 exact List.take_append_drop _ _
theorem row_ins {a : Nat} {S : List Kx} {x : List Tc} (hx : x.length = S.length) (h : ∀ k ∈ S, a ≤ k.ce.length) : rowC a (insK a x S) = x.map canC := by
 apply List.ext_getElem?
 intro j
 by_cases hj : j < S.length
 ·have e : (insK a x S)[j]? = some (canK (S.getD j default) (insC a x j (S.getD j default))) := withK_at _ _ hj
  unfold rowC
  rw [List.getElem?_map, e, List.getElem?_map, List.getElem?_eq_getElem (by omega)]
  have hk := h _ (memG hj)
  generalize S.getD j default = k at *
  have el : (k.ce.take a).length = a := by rw [List.length_take]; omega
  show some ((((insC a x j k).map canC)).getD a default) = some (canC x[j])
  unfold insC
  rw [List.append_assoc, List.getD_eq_getElem?_getD, List.getElem?_map, List.getElem?_append_right (by omega), el, Nat.sub_self, List.singleton_append, List.getElem?_cons_zero, List.getD_eq_getElem?_getD, List.getElem?_eq_getElem (by omega)]
  rfl
 ·rw [List.getElem?_eq_none (by unfold rowC; rw [List.length_map]; unfold insK; rw [withK_len]; omega), List.getElem?_eq_none (by rw [List.length_map]; omega)]
theorem rowC_len (a : Nat) (S : List Kx) : (rowC a S).length = S.length := List.length_map _
theorem rowC_get {a : Nat} {S : List Kx} {j : Nat} (h : j < S.length) : (rowC a S).getD j default = (S.getD j default).ce.getD a default := by
 unfold rowC
 rw [List.getD_eq_getElem?_getD, List.getElem?_map, List.getElem?_eq_getElem h, List.getD_eq_getElem?_getD (l := S), List.getElem?_eq_getElem h]; rfl
theorem map_getD {l : List Tc} {j : Nat} (h : j < l.length) : (l.map canC).getD j default = canC (l.getD j default) := by
 rw [List.getD_eq_getElem?_getD, List.getElem?_map, List.getElem?_eq_getElem h, List.getD_eq_getElem?_getD, List.getElem?_eq_getElem h]; rfl
theorem ins_del {a : Nat} {S : List Kx} (h : ∀ k ∈ S, a < k.ce.length) : insK a ((rowC a S).map canC) (delK a S) = canS S := by
 have hl : (delK a S).length = S.length := withK_len _ _ _
 refine withK_of (by unfold insK; rw [withK_len, hl]) fun j hj => ?_
 unfold insK
 rw [hl, withK_get _ _ hj]
 have e : (delK a S).getD j default = canK (S.getD j default) (delC a (S.getD j default)) := withK_get _ _ hj
 rw [e]
 refine canK_congr rfl rfl rfl ?_
 have hx : ((rowC a S).map canC).getD j default = canC ((S.getD j default).ce.getD a default) := by
  rw [map_getD (by rw [rowC_len]; exact hj), rowC_get hj]
 have hk := h _ (memG hj)
 unfold insC
 rw [hx]
 generalize S.getD j default = k at *
 have el : (k.ce.take a).length = a := by rw [List.length_take]; omega
 show ((((delC a k).map canC).take a ++ [canC (k.ce.getD a default)]) ++ ((delC a k).map canC).drop a).map canC = k.ce.map canC
 have e2 : [canC (k.ce.getD a default)] = [k.ce.getD a default].map canC := rfl
 rw [e2, ← List.map_take, ← List.map_drop, ← List.map_append, ← List.map_append, map_can]
 congr 1
 unfold delC
 rw [List.take_left' el, List.drop_left' el, List.append_assoc, List.singleton_append, ← drop_consD default hk]
 exact List.take_append_drop _ _
theorem canS_sel {n : Nat} {S : List Kx} (hce : ∀ k ∈ S, k.ce.length = n) : canS S = selK (List.range n) S := by
 refine withK_of (withK_len _ _ _) fun j hj => ?_
 unfold canS
 rw [withK_get _ _ hj]
 unfold selC
 rw [all_eq (hce _ (memG hj))]
theorem withK_nm (cells : Nat → Kx → List Tc) (S : List Kx) : knmL (withK cells S S.length) = knmL S := by
 apply List.ext_getElem?
 intro j
 unfold knmL
 rw [List.getElem?_map, List.getElem?_map]
 by_cases hj : j < S.length
 ·rw [withK_at _ _ hj, List.getElem?_eq_getElem hj, List.getD_eq_getElem?_getD, List.getElem?_eq_getElem hj]; rfl
 ·rw [List.getElem?_eq_none (by rw [withK_len]; omega), List.getElem?_eq_none (by omega)]
theorem withK_mem {cells : Nat → Kx → List Tc} {S : List Kx} {k' : Kx} (h : k' ∈ withK cells S S.length) : ∃ i, i < S.length ∧ k' = canK (S.getD i default) (cells i (S.getD i default)) := by
 unfold withK at h
 obtain ⟨i, hi, rfl⟩ := List.mem_map.1 h
 exact ⟨i, List.mem_range.1 hi, rfl⟩
theorem withK_valid {n : Int} {n' : Nat} {S : List Kx} {cells : Nat → Kx → List Tc} (h : tabB n S = true) (hn : n' ≤ 1024) (hl : ∀ i, i < S.length → (cells i (S.getD i default)).length = n') (hf : ∀ i, i < S.length → ∀ c ∈ cells i (S.getD i default), fitB (S.getD i default) c = true) :
  tabB n' (withK cells S S.length) = true := by
 unfold tabB at *
 simp only [Bool.and_eq_true, decide_eq_true_eq, List.all_eq_true] at h ⊢
 obtain ⟨⟨⟨⟨_, _⟩, h3⟩, h4⟩, h5⟩ := h
 refine ⟨⟨⟨⟨by omega, by omega⟩, by rw [withK_len]; exact h3⟩, by rw [withK_nm]; exact h4⟩, fun k' hk' => ?_⟩
 obtain ⟨i, hi, rfl⟩ := withK_mem hk'
 have hc := h5 _ (memG hi)
 have hl' := hl i hi
 have hf' := hf i hi
 generalize cells i (S.getD i default) = L at *
 generalize S.getD i default = k at *
 unfold colB at *
 simp only [Bool.and_eq_true, List.all_eq_true] at hc ⊢
 obtain ⟨⟨c1, c2⟩, c3⟩ := hc
 refine ⟨⟨?_, c2⟩, fun c hcm => ?_⟩
 ·unfold shpB at *
  simp only [Bool.and_eq_true, decide_eq_true_eq] at c1 ⊢
  refine ⟨c1.1, ?_⟩
  show ((L.map canC).length : Int) = n'
  rw [List.length_map, hl']
 ·show fitB (canK k L) c = true
  obtain ⟨c0, hc0, rfl⟩ := List.mem_map.1 (show c ∈ L.map canC from hcm)
  exact fitB_can (k := k) rfl rfl (hf' _ hc0)
theorem tab_fit {n : Int} {S : List Kx} (h : tabB n S = true) : ∀ k ∈ S, ∀ c ∈ k.ce, fitB k c = true := by
 unfold tabB at h
 simp only [Bool.and_eq_true, List.all_eq_true] at h
 intro k hk c hc
 have := h.2 k hk
 unfold colB at this
 simp only [Bool.and_eq_true, List.all_eq_true] at this
 exact this.2 c hc
theorem fit_can {k : Kx} {c : Tc} (la : lim c.va.2.1) (ld : lim c.va.2.2) (h : fitB k c = true) : xnC (canC c).va = xnC c.va := by
 refine xnC_can la ld ?_
 have z : zerB c.va = true → vldQ c.va.1 c.va.2.1 c.va.2.2 = true := fun hz => by
  unfold zerB at hz
  exact (Bool.and_eq_true _ _ ▸ hz).1
 unfold fitB at h
 split at h
 ·rw [Bool.and_eq_true] at h; exact z h.1
 ·split at h
  ·rw [Bool.and_eq_true] at h; exact h.1
  ·rw [Bool.and_eq_true, Bool.and_eq_true] at h; exact z h.1.1
theorem cxs_can {l : List Tc} (h : ∀ c ∈ l, xnC (canC c).va = xnC c.va) : cxs (l.map canC) = cxs l := by
 unfold cxs
 rw [List.flatMap_map]
 have : ∀ c ∈ l, cxC (canC c) = cxC c := fun c hcm => by
  have h1 := h c hcm
  have h2 : cxC (canC c) = [DV.bool c.mi] ++ xnC (canC c).va ++ [.int .i64 c.lv] := rfl
  have h3 : cxC c = [DV.bool c.mi] ++ xnC c.va ++ [.int .i64 c.lv] := rfl
  rw [h2, h3, h1]
 rw [List.flatMap_def, List.flatMap_def, List.map_congr_left this]
theorem ins_len {a : Nat} {x : List Tc} {i : Nat} {k : Kx} : (insC a x i k).length = k.ce.length + 1 := by
 unfold insC
 rw [List.length_append, List.length_append, List.length_take, List.length_drop, List.length_singleton]; omega
theorem del_len {a : Nat} {k : Kx} (h : a < k.ce.length) : (delC a k).length = k.ce.length - 1 := by
 unfold delC
 rw [List.length_append, List.length_take, List.length_drop]; omega
theorem ins_mem {a : Nat} {x : List Tc} {i : Nat} {k : Kx} {c : Tc} (h : c ∈ insC a x i k) : c ∈ k.ce ∨ c = x.getD i default := by
 unfold insC at h
 rcases List.mem_append.1 h with h | h
 ·rcases List.mem_append.1 h with h | h
  ·exact .inl (List.mem_of_mem_take h)
  ·exact .inr (List.mem_singleton.1 h)
 ·exact .inl (List.mem_of_mem_drop h)
theorem del_mem {a : Nat} {k : Kx} {c : Tc} (h : c ∈ delC a k) : c ∈ k.ce := by
 unfold delC at h
 rcases List.mem_append.1 h with h | h
 ·exact List.mem_of_mem_take h
 ·exact List.mem_of_mem_drop h
theorem cxs_ins {a : Nat} {x : List Tc} {i : Nat} {k : Kx} : cxs (insC a x i k) = (cxs k.ce).take (a * 5) ++ cxC (x.getD i default) ++ (cxs k.ce).drop (a * 5) := by
 unfold insC cxs
 rw [fm_take cxC_len, fm_drop cxC_len, List.flatMap_append, List.flatMap_append, List.flatMap_singleton]
theorem cxs_del {a : Nat} {k : Kx} : cxs (delC a k) = (cxs k.ce).take (a * 5) ++ (cxs k.ce).drop ((a + 1) * 5) := by
 unfold delC cxs
 rw [fm_take cxC_len, fm_drop cxC_len, List.flatMap_append]
end Nat32
namespace Nat32
open Go Go.Dat Go.RowKit Go.ChangeShapes Go.WideShapes Go.Joins Go.Deep
inductive Ty where
 | int (k : IntKind)
 | bool
 | str
 | sl (e : Ty)
 | unit
 | pair (f r : Ty)
def Ty.size : Ty → Nat
 | .unit => 0
 | .pair f r => f.size + r.size
 | _ => 1
def IsD : Ty → List DV → Prop
 | .int k, ds => ∃ n, (Lit.int k n).wf = true ∧ ds = [.int k n]
 | .bool, ds => ∃ b, ds = [.bool b]
 | .str, ds => ∃ s : Bs, s.length ≤ 9223372036854775807 ∧ ds = [.str s]
 | .sl e, ds => ∃ zs : List (List DV), (∀ z ∈ zs, IsD e z) ∧ zs.length ≤ 9223372036854775807 ∧ ds = [.sl e.size zs.flatten]
 | .unit, ds => ds = []
 | .pair f r, ds => ∃ a b, IsD f a ∧ IsD r b ∧ ds = a ++ b
theorem IsD.len : ∀ {τ : Ty} {ds : List DV}, IsD τ ds → ds.length = τ.size
 | .int k, _, ⟨_, _, h⟩ => by rw [h]; rfl
 | .bool, _, ⟨_, h⟩ => by rw [h]; rfl
 | .str, _, ⟨_, _, h⟩ => by rw [h]; rfl
 | .sl e, _, ⟨_, _, _, h⟩ => by rw [h]; rfl
 | .unit, _, h => by rw [show _ = [] from h]; rfl
 | .pair f r, _, ⟨a, b, ha, hb, h⟩ => by rw [h, List.length_append, ha.len, hb.len]; rfl
section
variable (P : Program)
def fitX : Ty → Sum TypeId (List Field × Nat) → Bool
 | .int k, .inl t => match P.underlying t with | some (.int k') => decide (k = k') | _ => false
 | .bool, .inl t => match P.underlying t with | some .bool => true | _ => false
 | .str, .inl t => match P.underlying t with | some .string => true | _ => false
 | .sl e, .inl t => match P.underlying t with | some (.slice u) => P.cellsOf u == e.size && e.size != 0 && fitX e (.inl u) | _ => false
 | .unit, .inr ([], _) => true
 | .pair a r, .inl t => match P.underlying t with
  | some (.struct fs) => match fs.toList with
   | f :: fs' => f.offset == 0 && P.cellsOf f.type == a.size && P.cellsOf t == a.size + r.size && fitX a (.inl f.type) && fitX r (.inr (fs', a.size))
   | [] => false
  | _ => false
 | .pair a r, .inr (f :: fs', off) => f.offset == off && P.cellsOf f.type == a.size && fitX a (.inl f.type) && fitX r (.inr (fs', off + a.size))
 | _, _ => false
end
section
variable {H : Type} {enc : TypeId × Value → H} {P : Program} {w : World} {base : Nat} {spare : Nat → Bool} {held : Bool}
theorem flat_get {α : Type} {n : Nat} : ∀ {zs : List (List α)}, (∀ z ∈ zs, z.length = n) → ∀ {k : Nat} {d : α}, zs.flatten[k]? = some d → ∃ i j z, k = i * n + j ∧ j < n ∧ i < zs.length ∧ zs[i]? = some z ∧ z[j]? = some d
 | [], _, k, d, h => by simp at h
 | z :: zs, hz, k, d, h => by
  have h0 := hz z (by simp)
  rw [List.flatten_cons, List.getElem?_append] at h
  split at h
  ·rename_i hlt
   exact ⟨0, k, z, by simp, by omega, by simp, rfl, h⟩
  ·rename_i hge
   obtain ⟨i, j, y, e1, e2, e3, e4, e5⟩ := flat_get (fun y hy => hz y (by simp [hy])) h
   refine ⟨i + 1, j, y, ?_, e2, by simp; exact e3, e4, e5⟩
   rw [Nat.add_mul]; omega
theorem flat_len {α : Type} {n : Nat} : ∀ {zs : List (List α)}, (∀ z ∈ zs, z.length = n) → zs.flatten.length = zs.length * n
 | [], _ => by simp
 | z :: zs, hz => by
  rw [List.flatten_cons, List.length_append, hz z (by simp), flat_len (fun y hy => hz y (by simp [hy])), List.length_cons, Nat.add_mul]
  omega
theorem list_of {α : Type} {p : Nat → α → Prop} : ∀ (n : Nat), (∀ i, i < n → ∃ x, p i x) → ∃ l : List α, l.length = n ∧ ∀ i x, l[i]? = some x → p i x
 | 0, _ => ⟨[], rfl, fun i x h => by simp at h⟩
 | n + 1, h => by
  obtain ⟨l, h1, h2⟩ := list_of n fun i hi => h i (by omega)
  obtain ⟨x, hx⟩ := h n (by omega)
  refine ⟨l ++ [x], by simp [h1], fun i y hy => ?_⟩
  rw [List.getElem?_append] at hy
  split at hy
  ·exact h2 i y hy
  ·rename_i hge
   have : i - l.length = 0 := by
    rcases Nat.lt_or_ge (i - l.length) 1 with h | h
    ·omega
    ·rw [List.getElem?_eq_none (by simpa using h)] at hy; cases hy
   rw [this] at hy
   cases hy
   rw [show i = n by omega]; exact hx
theorem trod_D : ∀ (τ : Ty), (∀ (t : TypeId) (n : Nat) (cs : List Value) (y : DataW H × List MemPlace), fitX P τ (.inl t) = true → DataW.trod enc P w base spare held n t cs = some y →
   ∃ ds, IsD τ ds ∧ cs.length = τ.size ∧ ∀ (k : Nat) d v, ds[k]? = some d → cs[k]? = some v → VI w (fun _ => False) d v) ∧
  (∀ (fs : List Field) (off n : Nat) (cs : List Value), fitX P τ (.inr (fs, off)) = true → (∀ (i : Nat) f, fs[i]? = some f → ∃ y, DataW.trod enc P w base spare held n f.type ((cs.drop f.offset).take (P.cellsOf f.type)) = some y) →
   ∃ ds, IsD τ ds ∧ ∀ (k : Nat) d v, ds[k]? = some d → cs[off + k]? = some v → VI w (fun _ => False) d v)
 | .int k => by
  refine ⟨fun t n cs y hf hy => ?_, fun fs off n cs hf _ => by simp [fitX] at hf⟩
  simp only [fitX] at hf
  split at hf
  ·rename_i k' ht
   have e : k = k' := by simpa using hf
   subst e
   obtain ⟨z, rfl, hw, _⟩ := DataW.trod_int ht hy
   refine ⟨[.int k z], ⟨z, by first | exact hw | exact hw.1 | simp_all, rfl⟩, rfl, fun j d v h1 h2 => ?_⟩
   match j with
   | 0 => simp at h1 h2; subst h1; subst h2; exact .int _ _
   | j + 1 => simp at h1
  ·cases hf
 | .bool => by
  refine ⟨fun t n cs y hf hy => ?_, fun fs off n cs hf _ => by simp [fitX] at hf⟩
  simp only [fitX] at hf
  split at hf
  ·rename_i ht
   obtain ⟨b, rfl, _⟩ := DataW.trod_bool ht hy
   refine ⟨[.bool b], ⟨b, rfl⟩, rfl, fun j d v h1 h2 => ?_⟩
   match j with
   | 0 => simp at h1 h2; subst h1; subst h2; exact .bool _
   | j + 1 => simp at h1
  ·cases hf
 | .str => by
  refine ⟨fun t n cs y hf hy => ?_, fun fs off n cs hf _ => by simp [fitX] at hf⟩
  simp only [fitX] at hf
  split at hf
  ·rename_i ht
   obtain ⟨s, rfl, _, hl⟩ := DataW.trod_string ht hy
   refine ⟨[.str s.data.toList], ⟨_, by unfold maxLen at hl; simpa using hl, rfl⟩, rfl, fun j d v h1 h2 => ?_⟩
   match j with
   | 0 =>
    simp at h1 h2; subst h1; subst h2
    have : (Value.string s) = .string ⟨s.data.toList.toArray⟩ := by cases s; simp
    rw [this]; exact .str _
   | j + 1 => simp at h1
  ·cases hf
 | .sl e => by
  have ih := trod_D e
  refine ⟨fun t n cs y hf hy => ?_, fun fs off n cs hf _ => by simp [fitX] at hf⟩
  simp only [fitX] at hf
  split at hf
  ·rename_i u ht
   simp only [Bool.and_eq_true, beq_iff_eq, bne_iff_ne, ne_eq] at hf
   obtain ⟨⟨hc, h0⟩, hfe⟩ := hf
   have fin : ∀ (zs : List (List DV)) (v : Value), (∀ z ∈ zs, IsD e z) → zs.length ≤ 9223372036854775807 → VI w (fun _ => False) (.sl e.size zs.flatten) v → cs = [v] →
     ∃ ds, IsD (.sl e) ds ∧ cs.length = Ty.size (.sl e) ∧ ∀ (k : Nat) d v, ds[k]? = some d → cs[k]? = some v → VI w (fun _ => False) d v := by
    rintro zs v h1 h2 h3 rfl
    refine ⟨[.sl e.size zs.flatten], ⟨zs, h1, h2, rfl⟩, rfl, fun j d v' g1 g2 => ?_⟩
    match j with
    | 0 => simp at g1 g2; subst g1; subst g2; exact h3
    | j + 1 => simp at g1
   rcases DataW.trod_slice ht hy with ⟨rfl, _⟩ | ⟨a, len, cap, elems, rest, m, _, rfl, _, hb, hl, hm, hlen, hcells, _, _⟩
   ·exact fin [] _ (fun z h => by cases h) (Nat.zero_le _) (.sl0 _ _ _) rfl
   ·have each : ∀ i, i < len → ∃ (x : List DV × List Value), IsD e x.1 ∧ x.2.length = e.size ∧ (∀ j, j < e.size → w.cell? (a.add (i * e.size + j)) = x.2[j]?) ∧ ∀ (k : Nat) d v, x.1[k]? = some d → x.2[k]? = some v → VI w (fun _ => False) d v := fun i hi => by
     have h1 := hcells i hi
     rw [hc] at h1
     obtain ⟨z, hz⟩ : ∃ z, elems[i]? = some z := ⟨_, List.getElem?_eq_getElem (by omega)⟩
     rw [hz, Option.bind_eq_some_iff] at h1
     obtain ⟨cs, h2, h3⟩ := h1
     obtain ⟨_, g2, g3⟩ := World.cells?_some h2
     obtain ⟨ds, k1, k2, k3⟩ := ih.1 u m cs z hfe h3
     refine ⟨(ds, cs), k1, g2, fun j hj => ?_, k3⟩
     rw [← g3 j hj, Dat.add_add]
    obtain ⟨l, hl1, hl2⟩ := list_of len each
    have hzl : ∀ z ∈ l.map (·.1), z.length = e.size := fun z hz => by
     obtain ⟨x, hx, rfl⟩ := List.mem_map.1 hz
     obtain ⟨i, hi⟩ := List.mem_iff_getElem?.1 hx
     exact (hl2 i x hi).1.len
    refine fin (l.map (·.1)) (.slice (some a) len cap) (fun z hz => ?_) (by rw [List.length_map, hl1]; unfold maxLen at hm; omega) ?_ rfl
    ·obtain ⟨x, hx, rfl⟩ := List.mem_map.1 hz
     obtain ⟨i, hi⟩ := List.mem_iff_getElem?.1 hx
     exact (hl2 i x hi).1
    ·by_cases hz : len = 0
     ·have : l = [] := List.eq_nil_of_length_eq_zero (by omega)
      subst this
      subst hz
      exact .sl0 _ _ _
     ·have hfl := flat_len hzl
      rw [List.length_map, hl1] at hfl
      have hpos : 0 < len * e.size := Nat.mul_pos (Nat.pos_of_ne_zero hz) (Nat.pos_of_ne_zero h0)
      refine .sl (fun k => (w.cell? (a.add k)).getD undef) (fun e' => ?_) hfl hl (fun h => h) (fun k d hk => ?_) (fun k d hk => ?_)
      ·rw [e'] at hfl; simp at hfl; omega
      ·obtain ⟨i, j, z, rfl, hj, hi, hzi, hzj⟩ := flat_get hzl hk
       rw [List.getElem?_map, Option.map_eq_some_iff] at hzi
       obtain ⟨x, hx, rfl⟩ := hzi
       obtain ⟨x1, x2, x3, x4⟩ := hl2 i x hx
       obtain ⟨v, hv⟩ := exists_get (l := x.2) (k := j) (by omega)
       rw [x3 j hj, hv]; rfl
      ·obtain ⟨i, j, z, rfl, hj, hi, hzi, hzj⟩ := flat_get hzl hk
       rw [List.getElem?_map, Option.map_eq_some_iff] at hzi
       obtain ⟨x, hx, rfl⟩ := hzi
       obtain ⟨x1, x2, x3, x4⟩ := hl2 i x hx
       obtain ⟨v, hv⟩ := exists_get (l := x.2) (k := j) (by omega)
       rw [x3 j hj, hv]
       exact x4 j d v hzj hv
  ·cases hf
 | .unit => by
  refine ⟨fun t n cs y hf hy => by simp [fitX] at hf, fun fs off n cs hf _ => ⟨[], rfl, fun k d v h1 _ => by simp at h1⟩⟩
 | .pair f r => by
  have iha := trod_D f
  have ihr := trod_D r
  have join : ∀ (g : Field) (fs' : List Field) (off n : Nat) (cs : List Value), g.offset = off → P.cellsOf g.type = f.size → fitX P f (.inl g.type) = true → fitX P r (.inr (fs', off + f.size)) = true →
    (∀ (i : Nat) h, (g :: fs')[i]? = some h → ∃ y, DataW.trod enc P w base spare held n h.type ((cs.drop h.offset).take (P.cellsOf h.type)) = some y) →
    ∃ ds, IsD (.pair f r) ds ∧ ∀ (k : Nat) d v, ds[k]? = some d → cs[off + k]? = some v → VI w (fun _ => False) d v := by
   intro g fs' off n cs e1 e2 e3 e4 hall
   obtain ⟨y, hy⟩ := hall 0 g rfl
   obtain ⟨da, a1, a2, a3⟩ := iha.1 _ _ _ _ e3 hy
   obtain ⟨dr, b1, b2⟩ := ihr.2 fs' (off + f.size) n cs e4 fun i h hi => hall (i + 1) h hi
   refine ⟨da ++ dr, ⟨da, dr, a1, b1, rfl⟩, fun k d v h1 h2 => ?_⟩
   rw [List.getElem?_append] at h1
   have hlen := a1.len
   split at h1
   ·rename_i hlt
    refine a3 k d v h1 ?_
    rw [e1, e2, List.getElem?_take, if_pos (by omega), List.getElem?_drop]; exact h2
   ·rename_i hge
    refine b2 (k - da.length) d v h1 ?_
    rw [show off + f.size + (k - da.length) = off + k by omega]; exact h2
  refine ⟨fun t n cs y hf hy => ?_, fun fs off n cs hf hall => ?_⟩
  ·simp only [fitX] at hf
   split at hf
   ·rename_i fs ht
    split at hf
    ·rename_i g fs' hfs
     simp only [Bool.and_eq_true, beq_iff_eq] at hf
     obtain ⟨⟨⟨⟨e1, e2⟩, e3⟩, e4⟩, e5⟩ := hf
     obtain ⟨xs, m, _, _, hlc, hxl, hget⟩ := DataW.trod_struct ht hy
     obtain ⟨ds, h1, h2⟩ := join g fs' 0 m cs e1 e2 e4 (by rw [Nat.zero_add]; exact e5) fun i h hi => by
      have hi' : fs[i]? = some h := by rw [← Array.getElem?_toList, hfs]; exact hi
      have hlt : i < xs.length := by rw [hxl]; exact (Array.getElem?_eq_some_iff.1 hi').1
      exact ⟨xs[i], by rw [hget i h hi', List.getElem?_eq_getElem hlt]⟩
     exact ⟨ds, h1, hlc.trans e3, fun k d v g1 g2 => h2 k d v g1 (by rw [Nat.zero_add]; exact g2)⟩
    ·cases hf
   ·cases hf
  ·cases fs with
   | nil => simp [fitX] at hf
   | cons g fs' =>
    simp only [fitX, Bool.and_eq_true, beq_iff_eq] at hf
    obtain ⟨⟨⟨e1, e2⟩, e4⟩, e5⟩ := hf
    exact join g fs' off n cs e1 e2 e4 e5 hall
theorem vi_D {r : Reach} {b0 : Nat} {t : TypeId} {v : Value} {d : DataW H} {p : List MemPlace} {a b : Ty} (hf : fitX P (.pair a b) (.inl t) = true)
  (hv : Value.okWide P w r b0 t v) (h : DataW.Trod enc P w base spare held t v d p) : ∃ ds, IsD (.pair a b) ds ∧ VI w (fun _ => False) (.agg ds) v := by
 obtain ⟨fuel, hfu⟩ := h
 have hs : ∃ fs, P.underlying t = some (.struct fs) := by
  simp only [fitX] at hf
  split at hf
  ·rename_i fs ht; exact ⟨fs, ht⟩
  ·cases hf
 obtain ⟨fs, ht⟩ := hs
 obtain ⟨cs, rfl, _⟩ := okWide_struct ht hv
 obtain ⟨ds, h1, h2, h3⟩ := (trod_D (.pair a b)).1 t fuel _ _ hf hfu
 have hcs : (Value.agg cs).cells.toList = cs.toList := by simp [Value.cells]
 rw [hcs] at h2 h3
 exact ⟨ds, h1, .agg (by rw [h1.len, ← h2]; simp) fun k d v g1 g2 => h3 k d v g1 (by simpa using g2)⟩
theorem vi_S {r : Reach} {b0 : Nat} {t : TypeId} {v : Value} {d : DataW H} {p : List MemPlace} {e : Ty} (hf : fitX P (.sl e) (.inl t) = true)
  (hv : Value.okWide P w r b0 t v) (h : DataW.Trod enc P w base spare held t v d p) : ∃ zs : List (List DV), (∀ z ∈ zs, IsD e z) ∧ zs.length ≤ 9223372036854775807 ∧ VI w (fun _ => False) (.sl e.size zs.flatten) v := by
 obtain ⟨fuel, hfu⟩ := h
 have hs : ∃ u, P.underlying t = some (.slice u) := by
  simp only [fitX] at hf
  split at hf
  ·rename_i u ht; exact ⟨u, ht⟩
  ·cases hf
 obtain ⟨u, ht⟩ := hs
 obtain ⟨A, len, cap, rfl⟩ := okWide_slice ht hv
 obtain ⟨ds, ⟨zs, h1, h2, rfl⟩, h3, h4⟩ := (trod_D (.sl e)).1 t fuel _ _ hf hfu
 have hcs : (Value.slice A len cap).cells.toList = [.slice A len cap] := by simp [Value.cells]
 rw [hcs] at h4
 exact ⟨zs, h1, h2, h4 0 _ _ rfl rfl⟩
end
def ratT : Ty := .pair (.pair .bool (.pair (.sl (.int .u32)) .unit)) (.pair (.sl (.int .u32)) .unit)
theorem IsD.u32s {ds : List DV} (h : IsD (.sl (.int .u32)) ds) : ∃ xs : List Nat, lim xs ∧ xs.length ≤ 9223372036854775807 ∧ ds = [.sl 1 (us xs)] := by
 obtain ⟨zs, h1, h2, rfl⟩ := h
 have : ∀ zs : List (List DV), (∀ z ∈ zs, IsD (.int .u32) z) → ∃ xs : List Nat, lim xs ∧ xs.length = zs.length ∧ zs.flatten = us xs := by
  intro zs
  induction zs with
  | nil => intro _; exact ⟨[], lim_nil, rfl, rfl⟩
  | cons z zs ih =>
   intro h
   obtain ⟨xs, k1, k2, k3⟩ := ih fun z hz => h z (by simp [hz])
   obtain ⟨n, hw, rfl⟩ := h z (by simp)
   have hb := bounds_u32 hw
   refine ⟨n.toNat :: xs, fun x hx => ?_, by simp [k2], ?_⟩
   ·rcases List.mem_cons.1 hx with rfl | hx
    ·omega
    ·exact k1 x hx
   ·rw [List.flatten_cons, k3]
    show [DV.int .u32 n] ++ us xs = u32 n.toNat :: us xs
    unfold u32
    rw [show ((n.toNat : Nat) : Int) = n by omega]; rfl
 obtain ⟨xs, k1, k2, k3⟩ := this zs h1
 exact ⟨xs, k1, by omega, by rw [k3]; rfl⟩
theorem IsD.rat {ds : List DV} (h : IsD ratT ds) : ∃ (neg : Bool) (a d : List Nat), lim a ∧ lim d ∧ a.length ≤ 9223372036854775807 ∧ d.length ≤ 9223372036854775807 ∧ ds = [.bool neg, .sl 1 (us a), .sl 1 (us d)] := by
 obtain ⟨i, r, ⟨b, m, ⟨neg, rfl⟩, ⟨m1, u1, hm, hu1, rfl⟩, rfl⟩, ⟨dn, u2, hd, hu2, rfl⟩, rfl⟩ := h
 obtain ⟨a, a1, a2, rfl⟩ := hm.u32s
 obtain ⟨d, d1, d2, rfl⟩ := hd.u32s
 rw [show u1 = [] from hu1, show u2 = [] from hu2]
 exact ⟨neg, a, d, a1, d1, a2, d2, rfl⟩
end Nat32
