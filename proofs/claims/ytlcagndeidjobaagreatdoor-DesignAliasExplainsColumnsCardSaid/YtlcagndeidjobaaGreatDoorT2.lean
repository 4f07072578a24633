/- Lemmas of the walk; no conditions beyond those that each states. -/
import Derived.Shelf.Small.Bits
import Derived.Shelf.Strconv.Itoa0
import Derived.Shelf.Strconv.Itoa1
import Derived.Shelf.LaysM
import Derived.Shelf.Strconv.Itoa2
import Derived.Shelf.Strconv.Itoa3
import Derived.Shelf.Slices.Turned
import Derived.Test.YtlcagndeidjobaaGreatDoorProg
import Derived.Lib.ItoaNum
import Derived.Lib.Repeat
import Derived.Laws.RangeAny
import Derived.Lib.DecodeN
import Derived.WalkMore
import Derived.Shelf.RegionOpenPlain
import Derived.Laws.Runes
import Derived.Lib.OthersKept
import Derived.WalkKit
import Derived.Carry
import Derived.OpenShut
import Derived.Below
import Derived.HandedShaped
import Derived.Handed
import Derived.Test.YtlcagndeidjobaaGreatDoorD2
import Derived.Test.YtlcagndeidjobaaGreatDoorT1
import Derived.Test.YtlcagndeidjobaaGreatDoorN1
import Derived.Test.YtlcagndeidjobaaGreatDoorD3
import Derived.Test.YtlcagndeidjobaaGreatDoorC1
set_option linter.unusedSimpArgs false
set_option linter.unusedVariables false
set_option linter.unnecessarySimpa false
set_option maxHeartbeats 4000000
namespace Go.Proofs.YtlcagndeidjobaaGreatDoor
open Go Go.Dat Go.Proofs Nat32
open Go.Lib (decDigits)
theorem pFromInt_calls (v : Int) (h1 : -9223372036854775808 ≤ v) (h2 : v ≤ 9223372036854775807) : PCalls Tryz.prog 44 [.int .i64 v] (Q (v : Rat)) := by
 have ci := sFromInt_calls v h1 h2
 rw [Q_int]
 refine PCalls_of ispFromInt (by simp [fnpFromInt]) ?_
 unfold codepFromInt
 repeat (first | refine zQ (zA @I.eq_1 (zA @cS (zA @cT (zA @nbpFromInt cI)))) ?_ | refine cP ci ?_ | exact zT)
 exact W_ret (RetP_c rfl rfl rfl (Exp_bsn _ _ _ _ rfl))
theorem pSign_calls (neg : Bool) (a d : List Nat) (ha : a.length ≤ 9000) (hd : d.length ≤ 9000) (la : lim a) (ld : lim d) : PCalls Tryz.prog 28 [XQ neg a d] (.int .i64 (rv neg a d).num.sign) := by
 have v1 := pTake_calls neg a d ha hd la ld
 have k1 : RB (rv neg a d) 9000 := RB_rv la ld ha hd (by decide)
 generalize rv neg a d = x at *
 have cs := sSignL x.num k1.1
 refine PCalls_of ispSign (by simp [fnpSign]) ?_
 unfold codepSign
 repeat (first | refine zQ (zA @XQ.eq_1 (zA @Q.eq_1 (zA @cS (zA @cT (zA @nbpSign cI))))) ?_ | refine cP v1 ?_ | refine cP cs ?_ | exact zT)
theorem pSignL (x : Rat) (h1 : RB x 9000) : PCalls Tryz.prog 28 [Q x] (.int .i64 x.num.sign) := by
 have := pSign_calls (decide (x.num < 0)) (limbs x.num.natAbs) (dn x.den) h1.1 (RB_dn h1) (lim_limbs _) (lim_dn _)
 rwa [rv_Q] at this
theorem pNeg_calls (neg : Bool) (a d : List Nat) (ha : a.length ≤ 9000) (hd : d.length ≤ 9000) (la : lim a) (ld : lim d) : PCalls Tryz.prog 185 [XQ neg a d] (Q (-(rv neg a d))) := by
 have v1 := pTake_calls neg a d ha hd la ld
 have k1 : RB (rv neg a d) 9000 := RB_rv la ld ha hd (by decide)
 generalize rv neg a d = x at *
 have cs := sNegL x.num k1.1
 refine PCalls_of ispNeg (by simp [fnpNeg]) ?_
 unfold codepNeg
 repeat (first | refine zQ (zA @XQ.eq_1 (zA @Q.eq_1 (zA @I.eq_1 (zA @cS (zA @cT (zA @nbpNeg cI)))))) ?_ | refine cP v1 ?_ | refine cP cs ?_ | exact zT)
theorem pNegL (x : Rat) (h1 : RB x 9000) : PCalls Tryz.prog 185 [Q x] (Q (-x)) := by
 have := pNeg_calls (decide (x.num < 0)) (limbs x.num.natAbs) (dn x.den) h1.1 (RB_dn h1) (lim_limbs _) (lim_dn _)
 rwa [rv_Q] at this
theorem den_mul_ne (x y : Rat) : ((x.den : Int) * (y.den : Int)) ≠ 0 := Int.mul_ne_zero (by have := x.den_nz; omega) (by have := y.den_nz; omega)
theorem add_divInt (x y : Rat) : Rat.divInt (x.num * y.den + y.num * x.den) ((x.den : Int) * (y.den : Int)) = x + y := by
 rw [Rat.add_def', ← Int.natCast_mul, Rat.divInt_ofNat]
theorem mul_divInt (x y : Rat) : Rat.divInt (x.num * y.num) ((x.den : Int) * (y.den : Int)) = x * y := by
 rw [Rat.mul_def', ← Int.natCast_mul, Rat.divInt_ofNat]
set_option maxHeartbeats 1000000 in
theorem pAdd_calls (n1 : Bool) (a d : List Nat) (n2 : Bool) (b e : List Nat) (ha : a.length ≤ 4400) (hd : d.length ≤ 4400) (hb : b.length ≤ 4400) (he : e.length ≤ 4400) (la : lim a) (ld : lim d) (lb : lim b) (le : lim e) :
  PCalls Tryz.prog 26 [XQ n1 a d, XQ n2 b e] (Q (rv n1 a d + rv n2 b e)) := by
 have v1 := pTake_calls n1 a d (by omega) (by omega) la ld
 have v2 := pTake_calls n2 b e (by omega) (by omega) lb le
 have k1 : RB (rv n1 a d) 4400 := RB_rv la ld ha hd (by decide)
 have k2 : RB (rv n2 b e) 4400 := RB_rv lb le hb he (by decide)
 generalize rv n1 a d = x at *
 generalize rv n2 b e = y at *
 rw [← add_divInt]
 have t1 := sMulL x.num y.den (Nat.le_trans k1.1 (by decide)) (il_nat (Nat.le_trans k2.2 (by decide)))
 have t2 := sMulL y.num x.den (Nat.le_trans k2.1 (by decide)) (il_nat (Nat.le_trans k1.2 (by decide)))
 have t3 := sMulL x.den y.den (il_nat (Nat.le_trans k1.2 (by decide))) (il_nat (Nat.le_trans k2.2 (by decide)))
 have b1 := il_mul k1.1 (il_nat k2.2)
 have b2 := il_mul k2.1 (il_nat k1.2)
 have b4 := il_mul (il_nat k1.2) (il_nat k2.2)
 have b3 := il_add b1 b2
 have ca := sAddL (x.num * y.den) (y.num * x.den) (Nat.le_trans b1 (by decide)) (Nat.le_trans b2 (by decide))
 have cl := p_over_calls (x.num * y.den + y.num * x.den) ((x.den : Int) * (y.den : Int)) (den_mul_ne x y) (Nat.le_trans b3 (by decide)) (Nat.le_trans b4 (by decide))
 have c1 := pDen_calls x (k1.mono (by decide))
 have c2 := pDen_calls y (k2.mono (by decide))
 clear k1 k2 b1 b2 b3 b4
 refine PCalls_of ispAdd (by simp [fnpAdd]) ?_
 unfold codepAdd
 repeat (first | refine zQ (zA @XQ.eq_1 (zA @Q.eq_1 (zA @I.eq_1 (zA @cS (zA @cT (zA @nbpAdd cI)))))) ?_ | refine cP v1 ?_ | refine cP v2 ?_ | refine cP c1 ?_ | refine cP c2 ?_ | refine cP t1 ?_ | refine cP t2 ?_ | refine cP t3 ?_ | refine cP ca ?_ | refine cP cl ?_ | exact zT)
theorem pAddL (x y : Rat) (h1 : RB x 4400) (h2 : RB y 4400) : PCalls Tryz.prog 26 [Q x, Q y] (Q (x + y)) := by
 have := pAdd_calls (decide (x.num < 0)) (limbs x.num.natAbs) (dn x.den) (decide (y.num < 0)) (limbs y.num.natAbs) (dn y.den) h1.1 (RB_dn h1) h2.1 (RB_dn h2) (lim_limbs _) (lim_dn _) (lim_limbs _) (lim_dn _)
 rwa [rv_Q, rv_Q] at this
set_option maxHeartbeats 1000000 in
theorem pMul_calls (n1 : Bool) (a d : List Nat) (n2 : Bool) (b e : List Nat) (ha : a.length ≤ 4400) (hd : d.length ≤ 4400) (hb : b.length ≤ 4400) (he : e.length ≤ 4400) (la : lim a) (ld : lim d) (lb : lim b) (le : lim e) :
  PCalls Tryz.prog 27 [XQ n1 a d, XQ n2 b e] (Q (rv n1 a d * rv n2 b e)) := by
 have v1 := pTake_calls n1 a d (by omega) (by omega) la ld
 have v2 := pTake_calls n2 b e (by omega) (by omega) lb le
 have k1 : RB (rv n1 a d) 4400 := RB_rv la ld ha hd (by decide)
 have k2 : RB (rv n2 b e) 4400 := RB_rv lb le hb he (by decide)
 generalize rv n1 a d = x at *
 generalize rv n2 b e = y at *
 rw [← mul_divInt]
 have t1 := sMulL x.num y.num (Nat.le_trans k1.1 (by decide)) (Nat.le_trans k2.1 (by decide))
 have t3 := sMulL x.den y.den (il_nat (Nat.le_trans k1.2 (by decide))) (il_nat (Nat.le_trans k2.2 (by decide)))
 have b1 := il_mul k1.1 k2.1
 have b4 := il_mul (il_nat k1.2) (il_nat k2.2)
 have cl := p_over_calls (x.num * y.num) ((x.den : Int) * (y.den : Int)) (den_mul_ne x y) (Nat.le_trans b1 (by decide)) (Nat.le_trans b4 (by decide))
 have c1 := pDen_calls x (k1.mono (by decide))
 have c2 := pDen_calls y (k2.mono (by decide))
 clear k1 k2 b1 b4
 refine PCalls_of ispMul (by simp [fnpMul]) ?_
 unfold codepMul
 repeat (first | refine zQ (zA @XQ.eq_1 (zA @Q.eq_1 (zA @I.eq_1 (zA @cS (zA @cT (zA @nbpMul cI)))))) ?_ | refine cP v1 ?_ | refine cP v2 ?_ | refine cP c1 ?_ | refine cP c2 ?_ | refine cP t1 ?_ | refine cP t3 ?_ | refine cP cl ?_ | exact zT)
theorem pMulL (x y : Rat) (h1 : RB x 4400) (h2 : RB y 4400) : PCalls Tryz.prog 27 [Q x, Q y] (Q (x * y)) := by
 have := pMul_calls (decide (x.num < 0)) (limbs x.num.natAbs) (dn x.den) (decide (y.num < 0)) (limbs y.num.natAbs) (dn y.den) h1.1 (RB_dn h1) h2.1 (RB_dn h2) (lim_limbs _) (lim_dn _) (lim_limbs _) (lim_dn _)
 rwa [rv_Q, rv_Q] at this
theorem num_ne {y : Rat} (h : y ≠ 0) : y.num ≠ 0 := fun e => h (Rat.num_eq_zero.1 e)
set_option maxHeartbeats 1000000 in
theorem pQuo_calls (n1 : Bool) (a d : List Nat) (n2 : Bool) (b e : List Nat) (hy : rv n2 b e ≠ 0) (ha : a.length ≤ 4400) (hd : d.length ≤ 4400) (hb : b.length ≤ 4400) (he : e.length ≤ 4400) (la : lim a) (ld : lim d) (lb : lim b) (le : lim e) :
  PCalls Tryz.prog 187 [XQ n1 a d, XQ n2 b e] (Q (rv n1 a d / rv n2 b e)) := by
 have v1 := pTake_calls n1 a d (by omega) (by omega) la ld
 have v2 := pTake_calls n2 b e (by omega) (by omega) lb le
 have k1 : RB (rv n1 a d) 4400 := RB_rv la ld ha hd (by decide)
 have k2 : RB (rv n2 b e) 4400 := RB_rv lb le hb he (by decide)
 generalize rv n1 a d = x at *
 generalize rv n2 b e = y at *
 rw [← rat_quo]
 have t1 := sMulL x.num y.den (Nat.le_trans k1.1 (by decide)) (il_nat (Nat.le_trans k2.2 (by decide)))
 have t3 := sMulL x.den y.num (il_nat (Nat.le_trans k1.2 (by decide))) (Nat.le_trans k2.1 (by decide))
 have b1 := il_mul k1.1 (il_nat k2.2)
 have b4 := il_mul (il_nat k1.2) k2.1
 have cl := p_over_calls (x.num * y.den) ((x.den : Int) * y.num) (Int.mul_ne_zero (by have := x.den_nz; omega) (num_ne hy)) (Nat.le_trans b1 (by decide)) (Nat.le_trans b4 (by decide))
 have c1 := pDen_calls x (k1.mono (by decide))
 have c2 := pDen_calls y (k2.mono (by decide))
 clear k1 k2 b1 b4
 refine PCalls_of ispQuo (by simp [fnpQuo]) ?_
 unfold codepQuo
 repeat (first | refine zQ (zA @XQ.eq_1 (zA @Q.eq_1 (zA @I.eq_1 (zA @cS (zA @cT (zA @nbpQuo cI)))))) ?_ | refine cP v1 ?_ | refine cP v2 ?_ | refine cP c1 ?_ | refine cP c2 ?_ | refine cP t1 ?_ | refine cP t3 ?_ | refine cP cl ?_ | exact zT)
theorem pQuoL (x y : Rat) (hy : y ≠ 0) (h1 : RB x 4400) (h2 : RB y 4400) : PCalls Tryz.prog 187 [Q x, Q y] (Q (x / y)) := by
 have := pQuo_calls (decide (x.num < 0)) (limbs x.num.natAbs) (dn x.den) (decide (y.num < 0)) (limbs y.num.natAbs) (dn y.den) (by rw [rv_Q]; exact hy) h1.1 (RB_dn h1) h2.1 (RB_dn h2) (lim_limbs _) (lim_dn _) (lim_limbs _) (lim_dn _)
 rwa [rv_Q, rv_Q] at this
def divR (x y : Rat) : DV := if y = 0 then .tup [Q 0, .int .i64 5] else .tup [Q (x / y), .int .i64 0]
theorem sign0 (y : Rat) : decide (y.num.sign = 0) = decide (y = 0) := by
 rw [decide_eq_decide]
 exact ⟨fun h => Rat.num_eq_zero.1 (Int.sign_eq_zero_iff_zero.1 h), fun h => by rw [h]; rfl⟩
theorem mkR_div (x y : Rat) : mkR (x.num * y.den) (y.num * x.den) = divR x y := by
 unfold mkR divR
 by_cases hy : y = 0
 ·rw [if_pos hy, if_pos (by rw [hy]; simp)]
 ·rw [if_neg hy, if_neg (Int.mul_ne_zero (num_ne hy) (by have := x.den_nz; omega)), Int.mul_comm y.num, rat_quo]
theorem qDiv_calls (n1 : Bool) (a d : List Nat) (n2 : Bool) (b e : List Nat) (ha : a.length ≤ 4400) (hd : d.length ≤ 4400) (hb : b.length ≤ 4400) (he : e.length ≤ 4400) (la : lim a) (ld : lim d) (lb : lim b) (le : lim e) :
  PCalls Tryz.prog 182 [XQ n1 a d, XQ n2 b e] (divR (rv n1 a d) (rv n2 b e)) := by
 have v1 := q_value_calls n1 a d (by omega) (by omega) la ld
 have v2 := q_value_calls n2 b e (by omega) (by omega) lb le
 have k1 : RB (rv n1 a d) 4400 := RB_rv la ld ha hd (by decide)
 have k2 : RB (rv n2 b e) 4400 := RB_rv lb le hb he (by decide)
 generalize rv n1 a d = x at *
 generalize rv n2 b e = y at *
 have t1 := q_times_calls x.num y.den (Nat.le_trans k1.1 (by decide)) (Nat.le_trans k2.2 (by decide))
 have t2 := q_times_calls y.num x.den (Nat.le_trans k2.1 (by decide)) (Nat.le_trans k1.2 (by decide))
 have b1 := il_mul k1.1 (il_nat k2.2)
 have b2 := il_mul k2.1 (il_nat k1.2)
 have cm := qMake_calls (decide (x.num * y.den < 0)) (limbs (x.num * y.den).natAbs) (decide (y.num * x.den < 0)) (limbs (y.num * x.den).natAbs) (Nat.le_trans b1 (by decide)) (Nat.le_trans b2 (by decide)) (lim_limbs _) (lim_limbs _)
 rw [iv_I, iv_I, mkR_div] at cm
 have c1 := q_den_calls x
 have c2 := q_den_calls y
 clear k1 k2 b1 b2
 refine PCalls_of isqDiv (by simp [fnqDiv]) ?_
 unfold codeqDiv
 unfold divR at cm ⊢
 by_cases hy : y = 0
 ·rw [if_pos hy] at cm ⊢
  repeat (first | refine zQ (zA @XQ.eq_1 (zA @X.eq_1 (zA @Q.eq_1 (zA @I.eq_1 (zA @cS (zA @cT (zA @nbqDiv cI))))))) ?_ | refine cP v1 ?_ | refine cP v2 ?_ | refine cP c1 ?_ | refine cP c2 ?_ | refine cP t1 ?_ | refine cP t2 ?_ | refine cP cm ?_ | exact zT)
  exact W_ret (RetP_ct rfl rfl rfl (.imm rfl) (.imm rfl))
 ·rw [if_neg hy] at cm ⊢
  repeat (first | refine zQ (zA @XQ.eq_1 (zA @X.eq_1 (zA @Q.eq_1 (zA @I.eq_1 (zA @cS (zA @cT (zA @nbqDiv cI))))))) ?_ | refine cP v1 ?_ | refine cP v2 ?_ | refine cP c1 ?_ | refine cP c2 ?_ | refine cP t1 ?_ | refine cP t2 ?_ | refine cP cm ?_ | exact zT)
  exact W_ret (RetP_ct rfl rfl rfl (.imm rfl) (.imm rfl))
theorem limbs_inj {x y : Nat} (h : limbs x = limbs y) : x = y := by
 have := congrArg vn h; rwa [vn_limbs, vn_limbs] at this
theorem sSameG (x y : Int) (h1 : il x ≤ 9000) (h2 : il y ≤ 9000) : PCalls Tryz.prog 60 [I x, I y] (.bool (decide (x = y))) := by
 have ss := rSame_calls (limbs x.natAbs) (limbs y.natAbs) (Nat.le_trans h1 (by decide)) (Nat.le_trans h2 (by decide))
 refine PCalls_of issSame (by simp [fnsSame]) ?_
 unfold codesSame
 by_cases hb : decide (x < 0) = decide (y < 0)
 ·have e : decide (limbs x.natAbs = limbs y.natAbs) = decide (x = y) := by
   rw [decide_eq_decide] at hb ⊢
   constructor
   ·intro h
    have := limbs_inj h
    by_cases hx : x < 0
    ·have := hb.1 hx; omega
    ·have : ¬ y < 0 := fun k => hx (hb.2 k); omega
   ·rintro rfl; rfl
  have hbb : (decide (x < 0) == decide (y < 0)) = true := by rw [hb]; simp
  rw [e] at ss
  repeat (first | refine zQ (zA @I.eq_1 (zA @cS (zA @nbsSame (zA hbb cI)))) ?_ | refine cP ss ?_ | exact zT)
 ·have hbb : (decide (x < 0) == decide (y < 0)) = false := by simpa using hb
  have e : decide (x = y) = false := decide_eq_false (fun h => hb (by rw [h]))
  rw [e]
  repeat (first | refine zQ (zA @I.eq_1 (zA @cS (zA @nbsSame (zA hbb cI)))) ?_ | refine cP ss ?_ | exact zT)
theorem dn_inj {d e : Nat} (hd : d ≠ 0) (he : e ≠ 0) (h : dn d = dn e) : d = e := by
 by_cases h1 : d = 1
 ·have : (dn e).length = 0 := by rw [← h, h1]; rfl
  rw [h1, (dn_len0 he).1 this]
 ·by_cases h2 : e = 1
  ·have : (dn d).length = 0 := by rw [h, h2]; rfl
   exact absurd ((dn_len0 hd).1 this) h1
  ·unfold dn at h
   rw [if_neg h1, if_neg h2] at h
   exact limbs_inj h
theorem pSameL (x y : Rat) (h1 : RB x 9000) (h2 : RB y 9000) : PCalls Tryz.prog 29 [Q x, Q y] (.bool (decide (x = y))) := by
 have c1 := sSameG x.num y.num h1.1 h2.1
 have c2 := rSame_calls (dn x.den) (dn y.den) (Nat.le_trans (RB_dn h1) (by decide)) (Nat.le_trans (RB_dn h2) (by decide))
 refine PCalls_of ispSame (by simp [fnpSame]) ?_
 unfold codepSame
 by_cases hn : x.num = y.num
 ·rw [decide_eq_true hn] at c1
  have e : decide (dn x.den = dn y.den) = decide (x = y) := by
   rw [decide_eq_decide]
   exact ⟨fun h => Rat.ext hn (dn_inj x.den_nz y.den_nz h), fun h => by rw [h]⟩
  rw [e] at c2
  repeat (first | refine zQ (zA @Q.eq_1 (zA @cS (zA @cT (zA @nbpSame cI)))) ?_ | refine cP c1 ?_ | refine cP c2 ?_ | exact zT)
 ·rw [decide_eq_false hn] at c1
  rw [decide_eq_false (show ¬ x = y from fun h => hn (by rw [h]))]
  repeat (first | refine zQ (zA @Q.eq_1 (zA @cS (zA @cT (zA @nbpSame cI)))) ?_ | refine cP c1 ?_ | refine cP c2 ?_ | exact zT)
end Go.Proofs.YtlcagndeidjobaaGreatDoor
namespace Go.Proofs.YtlcagndeidjobaaGreatDoor
open Go Go.Dat Go.Proofs Go.RowKit Nat32
theorem mrFormed_calls (rs : List (List DV)) (hl : rs.length ≤ 1000000) (hr : ∀ i, (rs.getD i []).length ≤ 1000000) : PCalls Tryz.prog 110 [.sl 1 (rowsD rs)] (.bool (frmR rs)) := by
 have hlen := rowsD_len rs
 refine PCalls_of ismrFormed (by simp [fnmrFormed]) ?_
 unfold codemrFormed
 by_cases h96 : 96 < rs.length
 ·have d96 : decide ((96 : Int) < (rs.length : Int)) = true := decide_eq_true (by omega)
  have hf : frmR rs = false := by unfold frmR; rw [decide_eq_false (by omega)]; rfl
  rw [hf]
  refine zS (zA hlen d96) ?_
  refine wT ?_
  refine zR ?_
  exact W_ret (RetP_1 (.imm rfl))
 ·have d96 : decide ((96 : Int) < (rs.length : Int)) = false := decide_eq_false (by omega)
  refine zS (zA hlen d96) ?_
  refine wFs ?_
  refine zR ?_
  refine W_loop (σ := Nat) (fun i => [(0, .sl 1 (rowsD rs)), (3, .int .i64 i)]) (fun _ => []) (fun i => i ≤ rs.length ∧ ∀ j, j < i → 1 ≤ (rs.getD j []).length / 3 ∧ (rs.getD j []).length / 3 ≤ 96 ∧ (rs.getD j []).length / 3 = (rs.getD 0 []).length / 3) (fun i => rs.length - i) 0 ⟨Nat.zero_le _, by simp⟩ ?_ rfl ?_
  ·simp [subF, lk]
  ·rintro i ⟨hi, hall⟩
   try simp only at hi hall ⊢
   by_cases hlt : i < rs.length
   ·have dl : decide ((i : Int) < (rs.length : Int)) = true := decide_eq_true (by omega)
    have ei : (i : Int).toNat = i := Int.toNat_natCast i
    have e1 : ((i : Int) + 1) = ((i + 1 : Nat) : Int) := by omega
    have e0 : Int.toNat 0 = 0 := rfl
    have hg := rowsD_get hlt .undef
    have hg0 := rowsD_get (rs := rs) (i := 0) (by omega) .undef
    have hno := frmR_no hlt
    have hri := hr i
    have hr0 := hr 0
    have hnx : (1 ≤ (rs.getD i []).length / 3 ∧ (rs.getD i []).length / 3 ≤ 96 ∧ (rs.getD i []).length / 3 = (rs.getD 0 []).length / 3) → ∀ j, j < i + 1 → 1 ≤ (rs.getD j []).length / 3 ∧ (rs.getD j []).length / 3 ≤ 96 ∧ (rs.getD j []).length / 3 = (rs.getD 0 []).length / 3 := fun h j hj => by
     rcases Nat.lt_or_ge j i with g | g
     ·exact hall j g
     ·obtain rfl : j = i := by omega
      exact h
    generalize rs.getD i [] = X at *
    generalize rs.getD 0 [] = Y at *
    obtain ⟨a, ha⟩ : ∃ a, a = X.length / 3 := ⟨_, rfl⟩
    obtain ⟨b, hb⟩ : ∃ b, b = Y.length / 3 := ⟨_, rfl⟩
    rw [← ha, ← hb] at hno hnx
    have ha2 := ha.symm
    have hb2 := hb.symm
    by_cases c1 : a < 1
    ·have d1 : decide ((a : Int) < 1) = true := decide_eq_true (by omega)
     rw [hno (by omega)]
     refine zS (zA dl (zA hlen (zA ei (zA hg (zA hg0 (zA ha2 (zA hb2 d1))))))) ?_
     refine wTs ?_
     refine zS (zA dl (zA hlen (zA ei (zA hg (zA hg0 (zA ha2 (zA hb2 d1))))))) ?_
     refine wT ?_
     refine zR ?_
     exact W_ret (RetP_1 (.imm rfl))
    ·have d1 : decide ((a : Int) < 1) = false := decide_eq_false (by omega)
     by_cases c2 : 96 < a
     ·have d2 : decide ((96 : Int) < (a : Int)) = true := decide_eq_true (by omega)
      rw [hno (by omega)]
      refine zS (zA dl (zA hlen (zA ei (zA hg (zA hg0 (zA ha2 (zA hb2 (zA d1 d2)))))))) ?_
      refine wTs ?_
      refine zS (zA dl (zA hlen (zA ei (zA hg (zA hg0 (zA ha2 (zA hb2 (zA d1 d2)))))))) ?_
      refine wT ?_
      refine zR ?_
      exact W_ret (RetP_1 (.imm rfl))
     ·have d2 : decide ((96 : Int) < (a : Int)) = false := decide_eq_false (by omega)
      by_cases c3 : a = b
      ·have d3 : decide (¬ (a : Int) = (b : Int)) = false := decide_eq_false (by omega)
       have hnx2 := hnx (by omega)
       refine zS (zA dl (zA hlen (zA ei (zA hg (zA hg0 (zA ha2 (zA hb2 (zA d1 (zA d2 (zA d3 e0)))))))))) ?_
       refine wTs ?_
       refine zS (zA dl (zA hlen (zA ei (zA hg (zA hg0 (zA ha2 (zA hb2 (zA d1 (zA d2 (zA d3 e0)))))))))) ?_
       refine wFs ?_
       refine zS e1 ?_
       exact ⟨i + 1, ⟨by omega, hnx2⟩, by omega, by simp [subF, lk]⟩
      ·have d3 : decide (¬ (a : Int) = (b : Int)) = true := decide_eq_true (by omega)
       rw [hno (by omega)]
       refine zS (zA dl (zA hlen (zA ei (zA hg (zA hg0 (zA ha2 (zA hb2 (zA d1 (zA d2 (zA d3 e0)))))))))) ?_
       refine wTs ?_
       refine zS (zA dl (zA hlen (zA ei (zA hg (zA hg0 (zA ha2 (zA hb2 (zA d1 (zA d2 (zA d3 e0)))))))))) ?_
       refine wT ?_
       refine zR ?_
       exact W_ret (RetP_1 (.imm rfl))
   ·have dl : decide ((i : Int) < (rs.length : Int)) = false := decide_eq_false (by omega)
    rw [frmR_yes (by omega) fun j hj => hall j (by omega)]
    refine zS (zA dl hlen) ?_
    refine W_cond rfl (fun h => by cases h) (fun _ => W_exit ?_)
    refine zR ?_
    exact W_ret (RetP_1 (.imm rfl))
theorem mx_formed_calls (rs : List (List DV)) (hl : rs.length ≤ 1000000) (hr : ∀ i, (rs.getD i []).length ≤ 1000000) : PCalls Tryz.prog 104 [.sl 1 (rowsD rs)] (.bool (frmR rs)) := by
 have hlen := rowsD_len rs
 refine PCalls_of ismx_formed (by simp [fnmx_formed]) ?_
 unfold codemx_formed
 by_cases h96 : 96 < rs.length
 ·have d96 : decide ((96 : Int) < (rs.length : Int)) = true := decide_eq_true (by omega)
  have hf : frmR rs = false := by unfold frmR; rw [decide_eq_false (by omega)]; rfl
  rw [hf]
  refine zS (zA hlen d96) ?_
  refine wT ?_
  refine zR ?_
  exact W_ret (RetP_1 (.imm rfl))
 ·have d96 : decide ((96 : Int) < (rs.length : Int)) = false := decide_eq_false (by omega)
  refine zS (zA hlen d96) ?_
  refine wFs ?_
  refine zS hlen ?_
  refine W_loop (σ := Nat) (fun i => [(0, .sl 1 (rowsD rs)), (8, .sl 1 (rowsD rs)), (9, .int .i64 rs.length), (10, .int .i64 i)]) (fun _ => []) (fun i => i ≤ rs.length ∧ ∀ j, j < i → 1 ≤ (rs.getD j []).length / 3 ∧ (rs.getD j []).length / 3 ≤ 96 ∧ (rs.getD j []).length / 3 = (rs.getD 0 []).length / 3) (fun i => rs.length - i) 0 ⟨Nat.zero_le _, by simp⟩ ?_ rfl ?_
  ·simp [subF, lk]
  ·rintro i ⟨hi, hall⟩
   try simp only at hi hall ⊢
   by_cases hlt : i < rs.length
   ·have dl : decide ((i : Int) < (rs.length : Int)) = true := decide_eq_true (by omega)
    have ei : (i : Int).toNat = i := Int.toNat_natCast i
    have e1 : ((i : Int) + 1) = ((i + 1 : Nat) : Int) := by omega
    have e0 : Int.toNat 0 = 0 := rfl
    have hg := rowsD_get hlt .undef
    have hg0 := rowsD_get (rs := rs) (i := 0) (by omega) .undef
    have hno := frmR_no hlt
    have hri := hr i
    have hr0 := hr 0
    have hnx : (1 ≤ (rs.getD i []).length / 3 ∧ (rs.getD i []).length / 3 ≤ 96 ∧ (rs.getD i []).length / 3 = (rs.getD 0 []).length / 3) → ∀ j, j < i + 1 → 1 ≤ (rs.getD j []).length / 3 ∧ (rs.getD j []).length / 3 ≤ 96 ∧ (rs.getD j []).length / 3 = (rs.getD 0 []).length / 3 := fun h j hj => by
     rcases Nat.lt_or_ge j i with g | g
     ·exact hall j g
     ·obtain rfl : j = i := by omega
      exact h
    generalize rs.getD i [] = X at *
    generalize rs.getD 0 [] = Y at *
    obtain ⟨a, ha⟩ : ∃ a, a = X.length / 3 := ⟨_, rfl⟩
    obtain ⟨b, hb⟩ : ∃ b, b = Y.length / 3 := ⟨_, rfl⟩
    rw [← ha, ← hb] at hno hnx
    have ha2 := ha.symm
    have hb2 := hb.symm
    by_cases c1 : a = 0
    ·have d1 : decide ((a : Int) = 0) = true := decide_eq_true (by omega)
     rw [hno (by omega)]
     refine zS (zA dl (zA hlen (zA ei (zA hg (zA hg0 (zA ha2 (zA hb2 d1))))))) ?_
     refine wTs ?_
     refine zS (zA dl (zA hlen (zA ei (zA hg (zA hg0 (zA ha2 (zA hb2 d1))))))) ?_
     refine wT ?_
     refine zR ?_
     exact W_ret (RetP_1 (.imm rfl))
    ·have d1 : decide ((a : Int) = 0) = false := decide_eq_false (by omega)
     by_cases c2 : 96 < a
     ·have d2 : decide ((96 : Int) < (a : Int)) = true := decide_eq_true (by omega)
      rw [hno (by omega)]
      refine zS (zA dl (zA hlen (zA ei (zA hg (zA hg0 (zA ha2 (zA hb2 (zA d1 d2)))))))) ?_
      refine wTs ?_
      refine zS (zA dl (zA hlen (zA ei (zA hg (zA hg0 (zA ha2 (zA hb2 (zA d1 d2)))))))) ?_
      refine wT ?_
      refine zR ?_
      exact W_ret (RetP_1 (.imm rfl))
     ·have d2 : decide ((96 : Int) < (a : Int)) = false := decide_eq_false (by omega)
      by_cases c3 : a = b
      ·have d3 : decide (¬ (a : Int) = (b : Int)) = false := decide_eq_false (by omega)
       have hnx2 := hnx (by omega)
       refine zS (zA dl (zA hlen (zA ei (zA hg (zA hg0 (zA ha2 (zA hb2 (zA d1 (zA d2 (zA d3 e0)))))))))) ?_
       refine wTs ?_
       refine zS (zA dl (zA hlen (zA ei (zA hg (zA hg0 (zA ha2 (zA hb2 (zA d1 (zA d2 (zA d3 e0)))))))))) ?_
       refine wFs ?_
       refine zS e1 ?_
       exact ⟨i + 1, ⟨by omega, hnx2⟩, by omega, by simp [subF, lk]⟩
      ·have d3 : decide (¬ (a : Int) = (b : Int)) = true := decide_eq_true (by omega)
       rw [hno (by omega)]
       refine zS (zA dl (zA hlen (zA ei (zA hg (zA hg0 (zA ha2 (zA hb2 (zA d1 (zA d2 (zA d3 e0)))))))))) ?_
       refine wTs ?_
       refine zS (zA dl (zA hlen (zA ei (zA hg (zA hg0 (zA ha2 (zA hb2 (zA d1 (zA d2 (zA d3 e0)))))))))) ?_
       refine wT ?_
       refine zR ?_
       exact W_ret (RetP_1 (.imm rfl))
   ·have dl : decide ((i : Int) < (rs.length : Int)) = false := decide_eq_false (by omega)
    rw [frmR_yes (by omega) fun j hj => hall j (by omega)]
    refine zS (zA dl hlen) ?_
    refine W_cond rfl (fun h => by cases h) (fun _ => W_exit ?_)
    refine zR ?_
    exact W_ret (RetP_1 (.imm rfl))
theorem mrColumns_calls (rs : List (List DV)) (hl : rs.length ≤ 1000000) (hr : (rs.getD 0 []).length ≤ 1000000) : PCalls Tryz.prog 54 [.sl 1 (rowsD rs)] (.int .i64 ((rs.getD 0 []).length / 3 : Nat)) := by
 have hlen := rowsD_len rs
 refine PCalls_of ismrColumns (by simp [fnmrColumns]) ?_
 unfold codemrColumns
 by_cases h0 : rs.length = 0
 ·have d0 : decide ((rs.length : Int) = 0) = true := decide_eq_true (by omega)
  obtain rfl : rs = [] := List.eq_nil_of_length_eq_zero h0
  have hz : ((((([] : List (List DV)).getD 0 []).length / 3 : Nat)) : Int) = 0 := rfl
  rw [hz]
  refine zS (zA hlen d0) ?_
  refine wT ?_
  refine zR ?_
  exact W_ret (RetP_1 (.imm rfl))
 ·have d0 : decide ((rs.length : Int) = 0) = false := decide_eq_false (by omega)
  have hg0 := rowsD_get (rs := rs) (i := 0) (by omega) .undef
  have e0 : Int.toNat 0 = 0 := rfl
  refine zS (zA hlen d0) ?_
  refine wFs ?_
  refine zS (zA hlen (zA hg0 e0)) ?_
  exact W_ret (RetP_1 (.imm rfl))
theorem mx_columns_calls (rs : List (List DV)) (hl : rs.length ≤ 1000000) (hr : (rs.getD 0 []).length ≤ 1000000) : PCalls Tryz.prog 108 [.sl 1 (rowsD rs)] (.int .i64 ((rs.getD 0 []).length / 3 : Nat)) := by
 have hlen := rowsD_len rs
 refine PCalls_of ismx_columns (by simp [fnmx_columns]) ?_
 unfold codemx_columns
 by_cases h0 : rs.length = 0
 ·have d0 : decide ((rs.length : Int) = 0) = true := decide_eq_true (by omega)
  obtain rfl : rs = [] := List.eq_nil_of_length_eq_zero h0
  have hz : ((((([] : List (List DV)).getD 0 []).length / 3 : Nat)) : Int) = 0 := rfl
  rw [hz]
  refine zS (zA hlen d0) ?_
  refine wT ?_
  refine zR ?_
  exact W_ret (RetP_1 (.imm rfl))
 ·have d0 : decide ((rs.length : Int) = 0) = false := decide_eq_false (by omega)
  have hg0 := rowsD_get (rs := rs) (i := 0) (by omega) .undef
  have e0 : Int.toNat 0 = 0 := rfl
  refine zS (zA hlen d0) ?_
  refine wFs ?_
  refine zS (zA hlen (zA hg0 e0)) ?_
  exact W_ret (RetP_1 (.imm rfl))
theorem goodB {r : Rat} {m : Nat} (h : BS r m) (hm : m ≤ 140800) : RB r 4400 := RB_bs h (by omega)
theorem qDivN {x y : Rat} {m p : Nat} (hy : y ≠ 0) (h1 : BS x m) (h2 : BS y p) (hm : m ≤ 140800) (hp : p ≤ 140800) : PCalls Tryz.prog 182 [.agg (numC x), .agg (numC y)] (.tup [.agg (numC (x / y)), .int .i64 0]) := by
 have g1 := goodB h1 hm
 have g2 := goodB h2 hp
 have := qDiv_calls (decide (x.num < 0)) (limbs x.num.natAbs) (dn x.den) (decide (y.num < 0)) (limbs y.num.natAbs) (dn y.den) g1.1 (RB_dn g1) g2.1 (RB_dn g2) (lim_limbs _) (lim_dn _) (lim_limbs _) (lim_dn _)
 rw [rv_Q, rv_Q] at this
 unfold divR at this
 rw [if_neg hy] at this
 exact this
theorem qMulN {x y : Rat} {m p : Nat} (h1 : BS x m) (h2 : BS y p) (hm : m ≤ 140800) (hp : p ≤ 140800) : PCalls Tryz.prog 157 [.agg (numC x), .agg (numC y)] (.agg (numC (x * y))) := qMulL x y (goodB h1 hm) (goodB h2 hp)
theorem qSubN {x y : Rat} {m p : Nat} (h1 : BS x m) (h2 : BS y p) (hm : m ≤ 140800) (hp : p ≤ 140800) : PCalls Tryz.prog 236 [.agg (numC x), .agg (numC y)] (.agg (numC (x - y))) := qSubL x y (goodB h1 hm) (goodB h2 hp)
theorem qSignN {x : Rat} {m : Nat} (h1 : BS x m) (hm : m ≤ 140800) : PCalls Tryz.prog 234 [.agg (numC x)] (.int .i64 x.num.sign) := qSignL x ((goodB h1 hm).mono (by decide))
theorem Ret_el {a b x y : List DV} {e : Ex} {fr : Fr} {H : Hp} (he : e = .norm ∨ e = .ret) (ha : ∀ d ∈ a, d.rf = true) (hb : ∀ d ∈ b, d.rf = true) (h1 : lkH H 1048576 = some a) (h2 : lkH H 1048577 = some b) :
  RetPR [] [(1048576, x), (1048577, y)] (fun r H' => r = .tup [] ∧ H' = [(1048576, a), (1048577, b)]) e fr H := by
 refine ⟨he, [], .tup [], [(1048576, a), (1048577, b)], ⟨rfl, rfl⟩, fun o ho h => ?_, rfl, rfl, fun o c h => ?_⟩
 ·simp only [lkH] at h ⊢
  by_cases e1 : 1048576 = o
  ·rw [if_pos e1]; rfl
  ·rw [if_neg e1] at h ⊢
   by_cases e2 : 1048577 = o
   ·rw [if_pos e2]; rfl
   ·rw [if_neg e2] at h; cases h
 ·simp only [lkH] at h
  by_cases e1 : 1048576 = o
  ·rw [if_pos e1] at h; cases h; subst e1; exact ⟨a, h1, map_rf _ ha⟩
  ·rw [if_neg e1] at h
   by_cases e2 : 1048577 = o
   ·rw [if_pos e2] at h; cases h; subst e2; exact ⟨b, h2, map_rf _ hb⟩
   ·rw [if_neg e2] at h; cases h
set_option maxHeartbeats 1000000 in
theorem mx_eliminate_rel (k c : Nat) (R P : Nat → Rat) (m p : Nat) (hc : c < k) (hk : k ≤ 1000) (hR : ∀ j, j < k → BS (R j) m) (hP : ∀ j, j < k → BS (P j) p) (hne : P c ≠ 0) (hm : m + p + p ≤ 140800) :
  MRel Tryz.prog 183 [.osl 3 1048576 0 k, .osl 3 1048577 0 k, .int .i64 c] [(1048576, rwC k R), (1048577, rwC k P)] (fun r H' => r = .tup [] ∧ H' = [(1048576, rwC k (elR c R P)), (1048577, rwC k P)]) := by
 have hlR := rwC_len k R
 have hlP := rwC_len k P
 have ec : (c : Int).toNat = c := Int.toNat_natCast c
 have hwR := rwC_win hc R
 have hwP := rwC_win hc P
 have cd := qDivN hne (hR c hc) (hP c hc) (by omega) (by omega)
 have cs := qSignN (BS_div hne (hR c hc) (hP c hc)) (by omega)
 have hbf := BS_div hne (hR c hc) (hP c hc)
 have hcc : ∀ x : Rat, (DV.agg (numC x)).cells? = some (numC x) := fun _ => rfl
 have hn3 := numC_len
 have ht3 : ∀ x : Rat, (numC x).take 3 = numC x := fun _ => rfl
 refine MRel_of ismx_eliminate (by simp [fnmx_eliminate]) ?_
 unfold codemx_eliminate
 generalize hf : R c / P c = f at *
 refine zS (zA hlR (zA hlP (zA ec (zA hwR (zA hwP @List.drop_zero.{0}))))) ?_
 refine cP cd ?_
 refine zS (zA hcc (zA hn3 (zA ht3 (zA @cS hf)))) ?_
 refine cP cs ?_
 have hz : decide (f.num.sign = 0) = decide (f = 0) := sign0 f
 by_cases h0 : f = 0
 ·have dz : decide (f = 0) = true := decide_eq_true h0
  refine zS (zA hz dz) ?_
  refine wT ?_
  have e1 : elR c R P = R := by funext j; unfold elR; rw [hf, h0]; grind
  rw [e1]
  exact W_ret (Ret_el (.inr rfl) (rwC_rf k R) (rwC_rf k P) rfl rfl)
 ·have dz : decide (f = 0) = false := decide_eq_false h0
  refine zS (zA hz dz) ?_
  refine wFs ?_
  have hkk : k * 3 / 3 = k := by omega
  refine zS (zA hlP hkk) ?_
  refine W_loop (σ := Nat) (fun i => [(0, .osl 3 1048576 0 k), (6, .ptr 6 0), (25, .osl 3 1048577 0 k), (26, .int .i64 k), (27, .int .i64 i)]) (fun i => [(6, numC f), (1048576, rwC k fun t => if t < i then elR c R P t else R t), (1048577, rwC k P)]) (fun i => i ≤ k) (fun i => k - i) 0 (Nat.zero_le _) ?_ (by simp) ?_
  ·simp [subF, lk]
  ·intro i hi
   try simp only at hi ⊢
   by_cases hlt : i < k
   ·have dl : decide ((i : Int) < (k : Int)) = true := decide_eq_true (by omega)
    have ei : (i : Int).toNat = i := Int.toNat_natCast i
    have e1 : ((i : Int) + 1) = ((i + 1 : Nat) : Int) := by omega
    have hg := rwC_win hlt (fun t => if t < i then elR c R P t else R t)
    rw [if_neg (Nat.lt_irrefl i)] at hg
    have hgP := rwC_win hlt P
    have hst := rwC_set hlt (fun t => if t < i then elR c R P t else R t) (R i - f * P i)
    have hnx : rwC k (fun t => if t = i then R i - f * P i else (fun t => if t < i then elR c R P t else R t) t) = rwC k fun t => if t < i + 1 then elR c R P t else R t := rwC_congr fun t _ => by
     simp only
     by_cases e : t = i
     ·subst e; rw [if_pos rfl, if_pos (by omega)]; unfold elR; rw [hf]
     ·rw [if_neg e]
      by_cases e2 : t < i
      ·rw [if_pos e2, if_pos (by omega)]
      ·rw [if_neg e2, if_neg (by omega)]
    rw [hnx] at hst
    have cm := qMulN hbf (hP i hlt) (by omega) (by omega)
    have cb := qSubN (hR i hlt) (BS_mul hbf (hP i hlt)) (by omega) (by omega)
    have hlX := rwC_len k (fun t => if t < i then elR c R P t else R t)
    have hrZ := rwC_rf k (fun t => if t < i + 1 then elR c R P t else R t)
    generalize hX : rwC k (fun t => if t < i then elR c R P t else R t) = X at *
    generalize hZ : rwC k (fun t => if t < i + 1 then elR c R P t else R t) = Z at *
    generalize R i - f * P i = q at *
    repeat (first | refine W_seq ?_ | refine W_reg ?_ | refine W_regd ?_ | refine W_regs ?_ | refine W_regp ?_ | refine W_block ?_ | refine And.intro (by omega) ?_ | simp (maxSteps := 1000000) (disch := omega) only [cA, cB, cN, FnD.nb, lk, lkH, Dst.onT, Dst.onX, Dst.slot, setF, setH, mapF, mapH, initF, binE, unE, cnt, boundE, newsE, freshE, freshT, opE, rmH, blkQ, frz_us, Nat.reduceEqDiff, Nat.reduceLT, Nat.reduceAdd, Nat.reduceMul, Nat.reduceMod, ↓reduceIte, reduceCtorEq, Nat.reduceLeDiff, dl])
    refine wTs ?_
    repeat (first | refine W_seq ?_ | refine W_reg ?_ | refine W_regd ?_ | refine W_regs ?_ | refine W_regp ?_ | refine W_block ?_ | refine And.intro (by omega) ?_ | simp (maxSteps := 1000000) (disch := omega) only [cA, cB, cN, FnD.nb, lk, lkH, Dst.onT, Dst.onX, Dst.slot, setF, setH, mapF, mapH, initF, binE, unE, cnt, boundE, newsE, freshE, freshT, opE, rmH, blkQ, frz_us, Nat.reduceEqDiff, Nat.reduceLT, Nat.reduceAdd, Nat.reduceMul, Nat.reduceMod, ↓reduceIte, reduceCtorEq, Nat.reduceLeDiff, ei, hlP, hgP, hg, hcc, hn3, ht3, cS, List.drop_zero])
    refine cP cm ?_
    repeat (first | refine W_seq ?_ | refine W_reg ?_ | refine W_regd ?_ | refine W_regs ?_ | refine W_regp ?_ | refine W_block ?_ | refine And.intro (by omega) ?_ | simp (maxSteps := 1000000) (disch := omega) only [cA, cB, cN, FnD.nb, lk, lkH, Dst.onT, Dst.onX, Dst.slot, setF, setH, mapF, mapH, initF, binE, unE, cnt, boundE, newsE, freshE, freshT, opE, rmH, blkQ, frz_us, Nat.reduceEqDiff, Nat.reduceLT, Nat.reduceAdd, Nat.reduceMul, Nat.reduceMod, ↓reduceIte, reduceCtorEq, Nat.reduceLeDiff, hcc, hn3, ht3, cS])
    refine cP cb ?_
    simp (maxSteps := 1000000) (disch := omega) only [cA, cB, cN, FnD.nb, lk, lkH, Dst.onT, Dst.onX, Dst.slot, setF, setH, mapF, mapH, initF, binE, unE, cnt, boundE, newsE, freshE, freshT, opE, rmH, blkQ, frz_us, Nat.reduceEqDiff, Nat.reduceLT, Nat.reduceAdd, Nat.reduceMul, Nat.reduceMod, ↓reduceIte, reduceCtorEq, Nat.reduceLeDiff, ei, hcc, hn3, ht3, cS, hlX, hst]
    repeat refine ⟨by omega, ?_⟩
    refine W_freeze 9 (cells := numC (P i)) rfl (List.all_eq_true.2 (numC_rf _)) ?_
    have f1 := map_frz 9 (numC (P i)) hrZ
    have f2 := map_frz 9 (numC (P i)) (rwC_rf k P)
    have f3 := map_frz 9 (numC (P i)) (numC_rf f)
    refine zS (zA e1 (zA f1 (zA f2 (zA f3 @frz_osl_ne)))) ?_
    exact ⟨i + 1, by omega, by omega, by simp [subF, lk, frz, purge, DV.has], by rw [hZ]⟩
   ·obtain rfl : i = k := by omega
    have dl : decide ((i : Int) < (i : Int)) = false := decide_eq_false (by omega)
    have hfin : rwC i (fun t => if t < i then elR c R P t else R t) = rwC i (elR c R P) := rwC_congr fun t ht => by rw [if_pos ht]
    rw [hfin]
    refine zS dl ?_
    refine W_cond rfl (fun h => by cases h) (fun _ => W_exit ?_)
    refine zR ?_
    exact Ret_el (.inl rfl) (rwC_rf i _) (rwC_rf i P) rfl rfl
set_option maxHeartbeats 1000000 in
theorem mx_zero_rel (n k : Nat) (hn : n ≤ 1000) (hk : k ≤ 1000) : MRel Tryz.prog 107 [.int .i64 n, .int .i64 k] [] (fun r H' => r = .osl 1 1000 0 n ∧ H' = mHp 1000 100000 n k fun _ _ => 0) := by
 have en : (n : Int).toNat = n := Int.toNat_natCast n
 have ek : (k : Int).toNat = k := Int.toNat_natCast k
 refine MRel_of ismx_zero (by simp [fnmx_zero]) ?_
 unfold codemx_zero
 repeat (first | refine W_seq ?_ | refine W_reg ?_ | refine W_regd ?_ | refine W_regs ?_ | refine W_regp ?_ | refine W_block ?_ | refine And.intro (by omega) ?_ | simp (maxSteps := 1000000) (disch := omega) only [cA, cB, cN, FnD.nb, lk, lkH, Dst.onT, Dst.onX, Dst.slot, setF, setH, mapF, mapH, initF, binE, unE, cnt, boundE, newsE, freshE, freshT, opE, rmH, blkQ, frz_us, Nat.reduceEqDiff, Nat.reduceLT, Nat.reduceAdd, Nat.reduceMul, Nat.reduceMod, ↓reduceIte, reduceCtorEq, Nat.reduceLeDiff, en, ek])
 refine W_loop (σ := Nat) (fun i => [(1, .int .i64 k), (5, .osl 1 8 0 n), (10, .int .i64 n), (11, .int .i64 i)]) (fun i => (8, cM 100000 k i ++ List.replicate (n - i) .nils) :: DM 100000 i fun _ => rwC k fun _ => 0) (fun i => i ≤ n) (fun i => n - i) 0 (Nat.zero_le _) ?_ ?_ ?_
 ·simp [subF, lk]
 ·rw [rep_nils]; simp [cM, DM]
 ·intro i hi
  try simp only at hi ⊢
  by_cases hlt : i < n
  ·have dl : decide ((i : Int) < (n : Int)) = true := decide_eq_true (by omega)
   have ei : (i : Int).toNat = i := Int.toNat_natCast i
   have e1 : ((i : Int) + 1) = ((i + 1 : Nat) : Int) := by omega
   have hC2 : cM 100000 k i ++ List.replicate (n - i) DV.nils = cM 100000 k i ++ .nils :: List.replicate (n - (i + 1)) .nils := by
    rw [show n - i = (n - (i + 1)) + 1 by omega, List.replicate_succ]
   have hCl : (cM 100000 k i ++ List.replicate (n - i) DV.nils).length = n := by rw [List.length_append, cM_len, List.length_replicate]; omega
   generalize hC : cM 100000 k i ++ List.replicate (n - i) DV.nils = C at *
   have hD17 : lkH (DM 100000 i fun _ => rwC k fun _ => 0) 17 = none := DM_no (by omega) _
   generalize hD : (DM 100000 i fun _ => rwC k fun _ => 0) = D at *
   repeat (first | refine W_seq ?_ | refine W_reg ?_ | refine W_regd ?_ | refine W_regs ?_ | refine W_regp ?_ | refine W_block ?_ | refine And.intro (by omega) ?_ | simp (maxSteps := 1000000) (disch := omega) only [cA, cB, cN, FnD.nb, lk, lkH, Dst.onT, Dst.onX, Dst.slot, setF, setH, mapF, mapH, initF, binE, unE, cnt, boundE, newsE, freshE, freshT, opE, rmH, blkQ, frz_us, Nat.reduceEqDiff, Nat.reduceLT, Nat.reduceAdd, Nat.reduceMul, Nat.reduceMod, ↓reduceIte, reduceCtorEq, Nat.reduceLeDiff, dl])
   refine wTs ?_
   refine W_seq ?_
   refine W_block ?_
   refine W_seq ?_
   refine W_reg ?_
   simp (maxSteps := 1000000) (disch := omega) only [cA, cB, cN, FnD.nb, lk, lkH, Dst.onT, Dst.onX, Dst.slot, setF, setH, mapF, mapH, initF, binE, unE, cnt, boundE, newsE, freshE, freshT, opE, rmH, blkQ, frz_us, Nat.reduceEqDiff, Nat.reduceLT, Nat.reduceAdd, Nat.reduceMul, Nat.reduceMod, ↓reduceIte, reduceCtorEq, Nat.reduceLeDiff]
   refine W_reg ?_
   simp (maxSteps := 1000000) (disch := omega) only [cA, cB, cN, FnD.nb, lk, lkH, Dst.onT, Dst.onX, Dst.slot, setF, setH, mapF, mapH, initF, binE, unE, cnt, boundE, newsE, freshE, freshT, opE, rmH, blkQ, frz_us, Nat.reduceEqDiff, Nat.reduceLT, Nat.reduceAdd, Nat.reduceMul, Nat.reduceMod, ↓reduceIte, reduceCtorEq, Nat.reduceLeDiff, ei, hCl, ek, hD17, Option.isNone_none]
   repeat refine ⟨by omega, ?_⟩
   refine ⟨⟨rfl, hlt⟩, ?_⟩
   refine W_wkc 17 (cells := rep k [.bool false, .nils, .nils]) (cells' := rwC k fun _ => 0) (by simp [lkH, lkH_setH]) (by rw [rwC_len]; show k * 3 = ((List.replicate k _).flatten).length; simp) (zero_wk k) ?_
   refine W_swp 17 (100000 + i) (by omega) (by omega) ((8, cM 100000 k (i + 1) ++ List.replicate (n - (i + 1)) .nils) :: DM 100000 (i + 1) fun _ => rwC k fun _ => 0) (fun q => ?_) ?_
   ·refine add_row (z := rwC k fun _ => 0) (rwC_rf k _) (fun j _ => rwC_rf k _) rfl (repl_nils _) (by omega) (by omega) (by omega) (by simp [lkH_setH]) ?_ (fun p h1 h2 => ?_) q
    ·rw [lkH_setH, if_neg (by omega)]
     simp only [lkH, if_true]
     rw [hC2, cM_set]
    ·rw [lkH_setH, if_neg h1]
     simp only [lkH]
     rw [if_neg (Ne.symm h2), lkH_setH, if_neg h1, ← hD]
   have s8 : swF 17 (100000 + i) 8 = some 8 := swF_n (by omega) (by omega)
   repeat (first | refine W_seq ?_ | refine W_reg ?_ | refine W_regd ?_ | refine W_regs ?_ | refine W_regp ?_ | refine W_block ?_ | refine And.intro (by omega) ?_ | simp (maxSteps := 1000000) (disch := omega) only [cA, cB, cN, FnD.nb, lk, lkH, Dst.onT, Dst.onX, Dst.slot, setF, setH, mapF, mapH, initF, binE, unE, cnt, boundE, newsE, freshE, freshT, opE, rmH, blkQ, frz_us, Nat.reduceEqDiff, Nat.reduceLT, Nat.reduceAdd, Nat.reduceMul, Nat.reduceMod, ↓reduceIte, reduceCtorEq, Nat.reduceLeDiff, e1, rn, s8])
   exact ⟨i + 1, by omega, by omega, by simp [subF, lk], rfl⟩
  ·obtain rfl : i = n := by omega
   have dl : decide ((i : Int) < (i : Int)) = false := decide_eq_false (by omega)
   refine zS dl ?_
   refine W_cond rfl (fun h => by cases h) (fun _ => W_exit ?_)
   refine zR ?_
   refine W_swp 8 1000 (by omega) (by omega) (mHp 1000 100000 i k fun _ _ => 0) (fun q => ?_) ?_
   ·have e0 : ((8, cM 100000 k i ++ List.replicate (i - i) DV.nils) :: DM 100000 i fun x => rwC k fun x => 0) = mHp 8 100000 i k fun _ _ => 0 := by
     rw [Nat.sub_self, List.replicate_zero, List.append_nil]; rfl
    rw [e0]
    exact mHp_swp _ (by omega) (by omega) q
   have s8 : swF 8 1000 8 = some 1000 := rfl
   repeat (first | refine W_seq ?_ | refine W_reg ?_ | refine W_regd ?_ | refine W_regs ?_ | refine W_regp ?_ | refine W_block ?_ | refine And.intro (by omega) ?_ | simp (maxSteps := 1000000) (disch := omega) only [cA, cB, cN, FnD.nb, lk, lkH, Dst.onT, Dst.onX, Dst.slot, setF, setH, mapF, mapH, initF, binE, unE, cnt, boundE, newsE, freshE, freshT, opE, rmH, blkQ, frz_us, Nat.reduceEqDiff, Nat.reduceLT, Nat.reduceAdd, Nat.reduceMul, Nat.reduceMod, ↓reduceIte, reduceCtorEq, Nat.reduceLeDiff, rn, s8])
   exact W_ret (Ret_mat (by omega) rfl fun p => rfl)
theorem qTakeN {x : XN} (l1 : lim x.2.1) (l2 : lim x.2.2) (h1 : x.2.1.length ≤ 4400) (h2 : x.2.2.length ≤ 4400) : PCalls Tryz.prog 38 [.agg (xnC x), .agg [.bool false, .nils, .nils]] (.agg (numC (xnV x))) := by
 have h0 : xnV (false, [], []) = 0 := by
  have e : qX 0 = (false, [], []) := by
   unfold qX
   have h0 : limbs 0 = [] := by unfold limbs; rfl
   have e : (0 : Rat).num.natAbs = 0 := rfl
   rw [e, h0]; rfl
  rw [← e]; exact xnV_q 0
 have := qAdd_calls x.1 x.2.1 x.2.2 false [] [] h1 h2 (by decide) (by decide) l1 l2 lim_nil lim_nil
 have e2 : rv x.1 x.2.1 x.2.2 + rv false [] [] = xnV x := by
  show xnV x + xnV (false, [], []) = xnV x
  rw [h0, Rat.add_zero]
 rw [e2] at this
 exact PCalls_wk (.cons (WkD.refl _) (.cons (WkD.agg (.cons (WkD.refl _) (.cons (WkD.nils 1) (.cons (WkD.nils 1) .nil)))) .nil)) this
set_option maxHeartbeats 1000000 in
theorem mx_copied_rel (x : List (List XN)) (n k : Nat) (hn : x.length = n) (hn1 : n ≤ 1000) (hk1 : k ≤ 1000) (h0 : n = 0 → k = 0) (hk : ∀ i, i < n → (x.getD i []).length = k)
  (hl : ∀ i, i < n → ∀ j, j < k → lim ((x.getD i []).getD j default).2.1 ∧ lim ((x.getD i []).getD j default).2.2 ∧ ((x.getD i []).getD j default).2.1.length ≤ 4400 ∧ ((x.getD i []).getD j default).2.2.length ≤ 4400) :
  MRel Tryz.prog 105 [.sl 1 (xrs x)] [] (fun r H' => r = .osl 1 1000 0 n ∧ H' = mHp 1000 100000 n k (mtX x)) := by
 have hxl := xrs_len x
 rw [hn] at hxl
 have cc : PCalls Tryz.prog 108 [.sl 1 (xrs x)] (.int .i64 k) := by
  have := mx_columns_calls (x.map fun r => r.flatMap xnC) (by rw [List.length_map]; omega) (by
   by_cases e : n = 0
   ·rw [List.eq_nil_of_length_eq_zero (by omega : x.length = 0)]; decide
   ·rw [xrs_row (by omega), fm_len xnC_len, hk 0 (by omega)]; omega)
  have e2 : ((x.map fun r => r.flatMap xnC).getD 0 []).length / 3 = k := by
   by_cases e : n = 0
   ·rw [List.eq_nil_of_length_eq_zero (by omega : x.length = 0), h0 e]; rfl
   ·rw [xrs_row (by omega), fm_len xnC_len, hk 0 (by omega)]; omega
  rw [e2] at this
  exact this
 have cz := mx_zero_rel n k hn1 hk1
 refine MRel_of ismx_copied (by simp [fnmx_copied]) ?_
 unfold codemx_copied
 refine zS hxl ?_
 refine cP cc ?_
 repeat (first | refine W_seq ?_ | refine W_reg ?_ | refine W_regd ?_ | refine W_regs ?_ | refine W_regp ?_ | refine W_block ?_ | refine And.intro (by omega) ?_ | simp (maxSteps := 1000000) (disch := omega) only [cA, cB, cN, FnD.nb, lk, lkH, Dst.onT, Dst.onX, Dst.slot, setF, setH, mapF, mapH, initF, binE, unE, cnt, boundE, newsE, freshE, freshT, opE, rmH, blkQ, frz_us, Nat.reduceEqDiff, Nat.reduceLT, Nat.reduceAdd, Nat.reduceMul, Nat.reduceMod, ↓reduceIte, reduceCtorEq, Nat.reduceLeDiff])
 refine callC_mat rfl 12 100000 n k (fun _ _ => 0) (by omega) (by omega) (by omega) rfl (fun p _ => rfl) cz (mHp 12 100000 n k fun _ _ => 0) (fun p => ?_) ?_
 ·by_cases e : p = 12 ∨ (100000 ≤ p ∧ p < 100000 + 10000)
  ·rw [if_pos e]
  ·rw [if_neg e, mHp_lk, if_neg (by omega), if_neg (by omega)]; rfl
 repeat (first | refine W_seq ?_ | refine W_reg ?_ | refine W_regd ?_ | refine W_regs ?_ | refine W_regp ?_ | refine W_block ?_ | refine And.intro (by omega) ?_ | simp (maxSteps := 1000000) (disch := omega) only [cA, cB, cN, FnD.nb, lk, lkH, Dst.onT, Dst.onX, Dst.slot, setF, setH, mapF, mapH, initF, binE, unE, cnt, boundE, newsE, freshE, freshT, opE, rmH, blkQ, frz_us, Nat.reduceEqDiff, Nat.reduceLT, Nat.reduceAdd, Nat.reduceMul, Nat.reduceMod, ↓reduceIte, reduceCtorEq, Nat.reduceLeDiff, hxl])
 refine W_loop (σ := Nat) (fun i => [(3, .osl 1 12 0 n), (13, .sl 1 (xrs x)), (14, .int .i64 n), (15, .int .i64 i)]) (fun i => mHp 12 100000 n k (prtM (mtX x) i 0)) (fun i => i ≤ n) (fun i => n - i) 0 (Nat.zero_le _) ?_ ?_ ?_
 ·simp [subF, lk]
 ·have : prtM (mtX x) 0 0 = fun _ _ => 0 := by funext r c; unfold prtM; rw [if_neg (by omega)]
  rw [this]
 ·intro i hi
  try simp only at hi ⊢
  by_cases hlt : i < n
  ·have dl : decide ((i : Int) < (n : Int)) = true := decide_eq_true (by omega)
   have ei : (i : Int).toNat = i := Int.toNat_natCast i
   have e1 : ((i : Int) + 1) = ((i + 1 : Nat) : Int) := by omega
   have hg := xrs_get (x := x) (i := i) (by omega) .undef
   have hkl : ((x.getD i []).flatMap xnC).length = k * 3 := by rw [fm_len xnC_len, hk i hlt]
   have hkk : k * 3 / 3 = k := by omega
   repeat (first | refine W_seq ?_ | refine W_reg ?_ | refine W_regd ?_ | refine W_regs ?_ | refine W_regp ?_ | refine W_block ?_ | refine And.intro (by omega) ?_ | simp (maxSteps := 1000000) (disch := omega) only [cA, cB, cN, FnD.nb, lk, lkH, Dst.onT, Dst.onX, Dst.slot, setF, setH, mapF, mapH, initF, binE, unE, cnt, boundE, newsE, freshE, freshT, opE, rmH, blkQ, frz_us, Nat.reduceEqDiff, Nat.reduceLT, Nat.reduceAdd, Nat.reduceMul, Nat.reduceMod, ↓reduceIte, reduceCtorEq, Nat.reduceLeDiff, dl])
   refine wTs ?_
   refine W_seq ?_
   refine W_block ?_
   repeat (first | refine W_seq ?_ | refine W_reg ?_ | refine W_regd ?_ | refine W_regs ?_ | refine W_regp ?_ | refine W_block ?_ | refine And.intro (by omega) ?_ | simp (maxSteps := 1000000) (disch := omega) only [cA, cB, cN, FnD.nb, lk, lkH, Dst.onT, Dst.onX, Dst.slot, setF, setH, mapF, mapH, initF, binE, unE, cnt, boundE, newsE, freshE, freshT, opE, rmH, blkQ, frz_us, Nat.reduceEqDiff, Nat.reduceLT, Nat.reduceAdd, Nat.reduceMul, Nat.reduceMod, ↓reduceIte, reduceCtorEq, Nat.reduceLeDiff, ei, hxl, hg, hkl, hkk])
   refine W_loop (σ := Nat) (fun j => [(3, .osl 1 12 0 n), (4, .int .i64 i), (13, .sl 1 (xrs x)), (14, .int .i64 n), (15, .int .i64 i), (20, .sl 3 ((x.getD i []).flatMap xnC)), (21, .int .i64 k), (22, .int .i64 j)]) (fun j => mHp 12 100000 n k (prtM (mtX x) i j)) (fun j => j ≤ k) (fun j => k - j) 0 (Nat.zero_le _) ?_ rfl ?_
   ·simp [subF, lk]
   ·intro j hj
    try simp only at hj ⊢
    by_cases hlj : j < k
    ·have dj : decide ((j : Int) < (k : Int)) = true := decide_eq_true (by omega)
     have ej : (j : Int).toNat = j := Int.toNat_natCast j
     have e2 : ((j : Int) + 1) = ((j + 1 : Nat) : Int) := by omega
     have hw : (((x.getD i []).flatMap xnC).drop (j * 3)).take 3 = xnC ((x.getD i []).getD j default) := by
      have := fm_win (j := 0) (k := 3) xnC_len (default : XN) (l := x.getD i []) (i := j) (by rw [hk i hlt]; exact hlj) (Nat.le_refl _)
      exact this
     obtain ⟨l1, l2, l3, l4⟩ := hl i hlt j hlj
     have ct := qTakeN l1 l2 l3 l4
     have hv : xnV ((x.getD i []).getD j default) = mtX x i j := rfl
     rw [hv] at ct
     have hcc : (DV.agg (xnC ((x.getD i []).getD j default))).cells? = some (xnC ((x.getD i []).getD j default)) := rfl
     have hcn : (DV.agg (numC (mtX x i j))).cells? = some (numC (mtX x i j)) := rfl
     have h33 := xnC_len ((x.getD i []).getD j default)
     have htk : (xnC ((x.getD i []).getD j default)).take 3 = xnC ((x.getD i []).getD j default) := rfl
     have hfx := xnC_rf ((x.getD i []).getD j default)
     generalize xnC ((x.getD i []).getD j default) = XC at *
     have hXr : ([DV.agg XC, .agg [.bool false, .nils, .nils]].all DV.rf) = true := by
      rw [List.all_cons, DV.rf_agg, List.all_eq_true.2 hfx]; rfl
     have hXa : XC.all DV.rf = true := List.all_eq_true.2 hfx
     have hn3 := numC_len (mtX x i j)
     have hCl := cM_len 100000 k n
     have hCg := cM_get (b := 100000) (k := k) hlt .undef
     obtain ⟨p, hp⟩ : ∃ p, p = 100000 + i := ⟨_, rfl⟩
     have n7 : ¬ 7 = p := by omega
     have n12 : ¬ 12 = p := by omega
     have m7 : ¬ p < 7 := by omega
     have m12 : ¬ p < 12 := by omega
     rw [← hp] at hCg
     have hDp : lkH (DM 100000 n fun r => rwC k (prtM (mtX x) i j r)) p = some (rwC k (prtM (mtX x) i j i)) := by rw [hp]; exact DM_at hlt _
     have hrl := rwC_len k (prtM (mtX x) i j i)
     have hst := rwC_set hlj (prtM (mtX x) i j i) (mtX x i j)
     have hD7 := DM_no (b := 100000) (n := n) (p := 7) (by omega) fun r => rwC k (prtM (mtX x) i j r)
     have hunf : mHp 12 100000 n k (prtM (mtX x) i j) = (12, cM 100000 k n) :: DM 100000 n fun r => rwC k (prtM (mtX x) i j r) := rfl
     rw [hunf]
     generalize hD : (DM 100000 n fun r => rwC k (prtM (mtX x) i j r)) = D at *
     refine zS dj ?_
     refine wTs ?_
     refine W_seq ?_
     refine W_block ?_
     refine W_seq ?_
     refine W_reg ?_
     simp (maxSteps := 1000000) (disch := omega) only [cA, cB, cN, FnD.nb, lk, lkH, Dst.onT, Dst.onX, Dst.slot, setF, setH, mapF, mapH, initF, binE, unE, cnt, boundE, newsE, freshE, freshT, opE, rmH, blkQ, frz_us, Nat.reduceEqDiff, Nat.reduceLT, Nat.reduceAdd, Nat.reduceMul, Nat.reduceMod, ↓reduceIte, reduceCtorEq, Nat.reduceLeDiff, ej, hkl, hw, hcc, h33, htk, cS, hD7, Option.isNone_none, List.drop_zero]
     repeat refine ⟨by omega, ?_⟩
     refine W_regd ?_
     simp (maxSteps := 1000000) (disch := omega) only [cA, cB, cN, FnD.nb, lk, lkH, Dst.onT, Dst.onX, Dst.slot, setF, setH, mapF, mapH, initF, binE, unE, cnt, boundE, newsE, freshE, freshT, opE, rmH, blkQ, frz_us, Nat.reduceEqDiff, Nat.reduceLT, Nat.reduceAdd, Nat.reduceMul, Nat.reduceMod, ↓reduceIte, reduceCtorEq, Nat.reduceLeDiff, ei, hCl, hCg, hcc, h33, htk, cS, List.drop_zero]
     repeat refine ⟨by omega, ?_⟩
     refine callC_pure ct hXr ?_
     refine zE (zA ej (zA n7 (zA n12 (zA m7 (zA m12 (zA hDp (zA hrl (zA hcn (zA hn3 (zA hst @cS)))))))))) ?_
     repeat refine ⟨by omega, ?_⟩
     refine W_freeze 7 (cells := XC) rfl hXa ?_
     have hnx := prtM_next (mtX x) i j
     refine W_ext (mHp 12 100000 n k (prtM (mtX x) i (j + 1))) (rm_mat (by omega) (by omega) fun q hq => ?_) ?_
     ·show lkH ((7, XC) :: _) q = _
      simp only [lkH]
      rw [if_neg (Ne.symm hq), hp]
      exact setM_H hD hlt (by omega) (rwC_congr fun c _ => hnx.1 c) (fun r _ hr c _ => hnx.2 r c hr) q
     refine zS (zA e2 @frz_osl_ne) ?_
     exact ⟨j + 1, by omega, by omega, by simp [subF, lk], rfl⟩
    ·obtain rfl : j = k := by omega
     have dj : decide ((j : Int) < (j : Int)) = false := decide_eq_false (by omega)
     have hfin : ∀ p, lkH (mHp 12 100000 n j (prtM (mtX x) i j)) p = lkH (mHp 12 100000 n j (prtM (mtX x) (i + 1) 0)) p := fun p => by
      rw [mHp_lk, mHp_lk]
      split
      ·rfl
      ·split
       ·refine congrArg some (rwC_congr fun c hc => ?_)
        unfold prtM
        by_cases e : p - 100000 < i
        ·rw [if_pos (.inl e), if_pos (.inl (by omega))]
        ·by_cases e' : p - 100000 = i
         ·rw [if_pos (.inr ⟨e', hc⟩), if_pos (.inl (by omega))]
         ·rw [if_neg (by omega), if_neg (by omega)]
       ·rfl
     refine W_ext _ hfin ?_
     refine zS dj ?_
     refine W_cond rfl (fun h => by cases h) (fun _ => W_exit ?_)
     repeat (first | refine W_seq ?_ | refine W_reg ?_ | refine W_regd ?_ | refine W_regs ?_ | refine W_regp ?_ | refine W_block ?_ | refine And.intro (by omega) ?_ | simp (maxSteps := 1000000) (disch := omega) only [cA, cB, cN, FnD.nb, lk, lkH, Dst.onT, Dst.onX, Dst.slot, setF, setH, mapF, mapH, initF, binE, unE, cnt, boundE, newsE, freshE, freshT, opE, rmH, blkQ, frz_us, Nat.reduceEqDiff, Nat.reduceLT, Nat.reduceAdd, Nat.reduceMul, Nat.reduceMod, ↓reduceIte, reduceCtorEq, Nat.reduceLeDiff, e1])
     exact ⟨i + 1, by omega, by omega, by simp [subF, lk], rfl⟩
  ·obtain rfl : i = n := by omega
   have dl : decide ((i : Int) < (i : Int)) = false := decide_eq_false (by omega)
   refine zS dl ?_
   refine W_cond rfl (fun h => by cases h) (fun _ => W_exit ?_)
   repeat (first | refine W_seq ?_ | refine W_reg ?_ | refine W_regd ?_ | refine W_regs ?_ | refine W_regp ?_ | refine W_block ?_ | refine And.intro (by omega) ?_ | simp (maxSteps := 1000000) (disch := omega) only [cA, cB, cN, FnD.nb, lk, lkH, Dst.onT, Dst.onX, Dst.slot, setF, setH, mapF, mapH, initF, binE, unE, cnt, boundE, newsE, freshE, freshT, opE, rmH, blkQ, frz_us, Nat.reduceEqDiff, Nat.reduceLT, Nat.reduceAdd, Nat.reduceMul, Nat.reduceMod, ↓reduceIte, reduceCtorEq, Nat.reduceLeDiff])
   have hfin : ∀ q, lkH (mHp 12 100000 i k (prtM (mtX x) i 0)) q = lkH (mHp 12 100000 i k (mtX x)) q := fun q => by
    rw [mHp_lk, mHp_lk]
    split
    ·rfl
    ·split
     ·refine congrArg some (rwC_congr fun c hc => ?_)
      unfold prtM
      rw [if_pos (.inl (by omega))]
     ·rfl
   refine W_ext _ hfin ?_
   refine W_swp 12 1000 (by omega) (by omega) (mHp 1000 100000 i k (mtX x)) (mHp_swp _ (by omega) (by omega)) ?_
   have s12 : swF 12 1000 12 = some 1000 := rfl
   repeat (first | refine W_seq ?_ | refine W_reg ?_ | refine W_regd ?_ | refine W_regs ?_ | refine W_regp ?_ | refine W_block ?_ | refine And.intro (by omega) ?_ | simp (maxSteps := 1000000) (disch := omega) only [cA, cB, cN, FnD.nb, lk, lkH, Dst.onT, Dst.onX, Dst.slot, setF, setH, mapF, mapH, initF, binE, unE, cnt, boundE, newsE, freshE, freshT, opE, rmH, blkQ, frz_us, Nat.reduceEqDiff, Nat.reduceLT, Nat.reduceAdd, Nat.reduceMul, Nat.reduceMod, ↓reduceIte, reduceCtorEq, Nat.reduceLeDiff, rn, s12])
   exact W_ret (Ret_mat (by omega) rfl fun p => rfl)
theorem slIFRow_calls (rs : List (List DV)) (hl : rs.length ≤ 1000000) (p : Nat → Bool) (v : DV) (g : Nat) (cs : List DV) (hv : isClo v g cs) (hcs : cs.all DV.rf = true) (hg : Callable Tryz.prog g) (hrf : ∀ i, i < rs.length → (rs.getD i []).all DV.rf = true)
  (hc : ∀ i, i < rs.length → PCalls Tryz.prog g ([.sl 3 (rs.getD i [])] ++ cs) (.bool (p i))) : PCalls Tryz.prog 232 [.sl 1 (rowsD rs), v] (.int .i64 (ixP p (List.range rs.length))) := by
 have hlen := rowsD_len rs
 have hgr : ∀ i, i < rs.length → (List.range rs.length).getD i default = i := fun i hi => by
  rw [List.getD_eq_getElem?_getD, List.getElem?_range hi]; rfl
 have hrl : (List.range rs.length).length = rs.length := List.length_range
 refine PCalls_of isslIFRow (by simp [fnslIFRow]) ?_
 unfold codeslIFRow
 repeat (first | refine W_seq ?_ | refine W_reg ?_ | refine W_regd ?_ | refine W_regs ?_ | refine W_regp ?_ | refine W_block ?_ | refine And.intro (by omega) ?_ | simp (maxSteps := 1000000) (disch := omega) only [cA, cB, cN, FnD.nb, lk, lkH, Dst.onT, Dst.onX, Dst.slot, setF, setH, mapF, mapH, initF, binE, unE, cnt, boundE, newsE, freshE, freshT, opE, rmH, blkQ, frz_us, Nat.reduceEqDiff, Nat.reduceLT, Nat.reduceAdd, Nat.reduceMul, Nat.reduceMod, ↓reduceIte, reduceCtorEq, Nat.reduceLeDiff, hlen])
 refine W_loop (σ := Nat) (fun i => [(0, .sl 1 (rowsD rs)), (1, v), (7, .int .i64 rs.length), (8, .int .i64 i)]) (fun _ => []) (fun i => i ≤ rs.length ∧ ∀ j, j < i → p j = false) (fun i => rs.length - i) 0 ⟨Nat.zero_le _, by simp⟩ ?_ rfl ?_
 ·simp [subF, lk]
 ·rintro i ⟨hi, hall⟩
  try simp only at hi hall ⊢
  by_cases hlt : i < rs.length
  ·have dl : decide ((i : Int) < (rs.length : Int)) = true := decide_eq_true (by omega)
   have ei : (i : Int).toNat = i := Int.toNat_natCast i
   have e1 : ((i : Int) + 1) = ((i + 1 : Nat) : Int) := by omega
   have hw := rowsD_get hlt .undef
   have cf := hc i hlt
   have hrr := hrf i hlt
   generalize rs.getD i [] = X at *
   repeat (first | refine W_seq ?_ | refine W_reg ?_ | refine W_regd ?_ | refine W_regs ?_ | refine W_regp ?_ | refine W_block ?_ | refine And.intro (by omega) ?_ | simp (maxSteps := 1000000) (disch := omega) only [cA, cB, cN, FnD.nb, lk, lkH, Dst.onT, Dst.onX, Dst.slot, setF, setH, mapF, mapH, initF, binE, unE, cnt, boundE, newsE, freshE, freshT, opE, rmH, blkQ, frz_us, Nat.reduceEqDiff, Nat.reduceLT, Nat.reduceAdd, Nat.reduceMul, Nat.reduceMod, ↓reduceIte, reduceCtorEq, Nat.reduceLeDiff, dl])
   refine wTs ?_
   refine W_seq ?_
   refine W_block ?_
   refine W_seq ?_
   refine W_reg ?_
   simp (maxSteps := 1000000) (disch := omega) only [cA, cB, cN, FnD.nb, lk, lkH, Dst.onT, Dst.onX, Dst.slot, setF, setH, mapF, mapH, initF, binE, unE, cnt, boundE, newsE, freshE, freshT, opE, rmH, blkQ, frz_us, Nat.reduceEqDiff, Nat.reduceLT, Nat.reduceAdd, Nat.reduceMul, Nat.reduceMod, ↓reduceIte, reduceCtorEq, Nat.reduceLeDiff]
   refine W_seq ?_
   refine W_callV [om 11 1, om 12 0, om 13 5, ot 14 (.iad 1 (.t 12) (.t 13)), ot 15 (.ld (.t 14))] [] (.x 16) (.t 11) [.t 15] rfl ?_
   simp (maxSteps := 1000000) (disch := omega) only [cA, cB, cN, FnD.nb, lk, lkH, Dst.onT, Dst.onX, Dst.slot, setF, setH, mapF, mapH, initF, binE, unE, cnt, boundE, newsE, freshE, freshT, opE, rmH, blkQ, frz_us, Nat.reduceEqDiff, Nat.reduceLT, Nat.reduceAdd, Nat.reduceMul, Nat.reduceMod, ↓reduceIte, reduceCtorEq, Nat.reduceLeDiff, ei, hlen, hw]
   refine ⟨⟨by omega, by omega⟩, by omega, g, cs, hv, hg, callR_pure cf (by
    rw [List.all_append, hcs]
    simp only [List.map_cons, List.map_nil, List.all_cons, List.all_nil, Bool.and_true]
    simp [DV.rf, hrr]) ?_⟩
   cases hp : p i
   ·have hnx : ∀ j, j < i + 1 → p j = false := fun j hj => by
     rcases Nat.lt_or_ge j i with h | h
     ·exact hall j h
     ·obtain rfl : j = i := by omega
      exact hp
    refine zR ?_
    refine wFs ?_
    refine zS e1 ?_
    exact ⟨i + 1, ⟨by omega, hnx⟩, by omega, by simp [subF, lk]⟩
   ·have hx := ixP_at (p := p) (l := List.range rs.length) default (i := i) (by rw [hrl]; exact hlt) (by rw [hgr i hlt]; exact hp) (fun j hj => by rw [hgr j (by omega)]; exact hall j hj)
    rw [hx]
    refine zR ?_
    refine wT ?_
    refine zR ?_
    exact W_ret (RetP_1 (.imm rfl))
  ·have dl : decide ((i : Int) < (rs.length : Int)) = false := decide_eq_false (by omega)
   have hno := ixP_no (p := p) (l := List.range rs.length) default (fun j hj => by rw [hrl] at hj; rw [hgr j hj]; exact hall j (by omega))
   rw [hno]
   refine zS dl ?_
   refine W_cond rfl (fun h => by cases h) (fun _ => W_exit ?_)
   refine zR ?_
   exact W_ret (RetP_1 (.imm rfl))
theorem call_ech1 : Callable Tryz.prog 233 := ⟨_, Tryz.func233, by kernel_rfl, by kernel_rfl⟩
theorem mx_echelon1_calls (k c : Nat) (f : Nat → Rat) (m : Nat) (hc : c < k) (hk : k ≤ 1000) (hf : BS (f c) m) (hm : m ≤ 140800) : PCalls Tryz.prog 233 [.sl 3 (rwC k f), .el [.int .i64 c] 0] (.bool (!decide (f c = 0))) := by
 have hl := rwC_len k f
 have ec : (c : Int).toNat = c := Int.toNat_natCast c
 have hw := rwC_win hc f
 have cs := qSignN hf hm
 have hz : decide (¬ (f c).num.sign = 0) = !decide (f c = 0) := by
  rw [← sign0]; simp
 refine PCalls_of ismx_echelon1 (by simp [fnmx_echelon1]) ?_
 unfold codemx_echelon1
 refine zS (zA hl (zA ec hw)) ?_
 refine cP cs ?_
 refine zS hz ?_
 exact W_ret (RetP_1 (.imm rfl))
theorem mxCol (n k : Nat) (M : Mt) (hn : n ≤ 1000) (hk : k ≤ 1000) (h0 : n = 0 → k = 0) : PCalls Tryz.prog 108 [.sl 1 (mtD n k M)] (.int .i64 k) := by
 have hl : (((List.range n).map fun i => rwC k (M i)).getD 0 []).length = k * 3 := by
  by_cases e : n = 0
  ·rw [h0 e, e, List.range_zero]; rfl
  ·rw [List.getD_eq_getElem?_getD, List.getElem?_map, List.getElem?_range (by omega)]
   exact rwC_len _ _
 have := mx_columns_calls ((List.range n).map fun i => rwC k (M i)) (by simp; omega) (by omega)
 rw [← mtD_rows, hl, show k * 3 / 3 = k by omega] at this
 exact this
def echQ (n k : Nat) (M0 : Mt) (b : Nat) (r : DV) (H' : Hp) : Prop := ∃ ps od M, r = .tup [.sl 1 (intsD ps), .bool od] ∧ H' = mHp 1048576 100000 n k M ∧ IsBp n k 0 M ps ∧ KerEq n k M0 M ∧ ES n k M b ps.length
set_option maxHeartbeats 2000000 in
theorem mx_echelon_rel (n k b : Nat) (M0 : Mt) (hn : n ≤ 1000) (hk : k ≤ 1000) (h0 : n = 0 → k = 0) (hB : ∀ t, t < n → 3 * eB b t ≤ 140800) (hM : ES n k M0 b 0) :
  MRel Tryz.prog 181 [.osl 1 1048576 0 n] (mHp 1048576 100000 n k M0) (echQ n k M0 b) := by
 have cc := mxCol n k M0 hn hk h0
 refine MRel_of ismx_echelonS (by simp [fnmx_echelonS]) ?_
 unfold codemx_echelonS
 refine W_seq ?_
 refine W_reg ?_
 simp (maxSteps := 1000000) (disch := omega) only [cA, cB, cN, FnD.nb, lk, lkH, Dst.onT, Dst.onX, Dst.slot, setF, setH, mapF, mapH, initF, binE, unE, cnt, boundE, newsE, freshE, freshT, opE, rmH, blkQ, frz_us, Nat.reduceEqDiff, Nat.reduceLT, Nat.reduceAdd, Nat.reduceMul, Nat.reduceMod, ↓reduceIte, reduceCtorEq, Nat.reduceLeDiff]
 have h200 : ∀ M : Mt, lkH (mHp 1048576 100000 n k M) 200 = none := fun M => by rw [mHp_lk, if_neg (by omega), if_neg (by omega)]
 refine W_own 2 1 200 rfl (h200 M0) ?_
 refine W_ext ((200, intsD []) :: mHp 1048576 100000 n k M0) (fun p => ?_) ?_
 ·rw [lkH_setH]
  simp only [lkH]
  by_cases e : p = 200
  ·rw [if_pos e, if_pos e.symm]; rfl
  ·rw [if_neg e, if_neg (Ne.symm e)]
 have hrd2 : [DV.osl 1 1048576 0 n].map (rdo ((200, intsD []) :: mHp 1048576 100000 n k M0) 2) = [.sl 1 (mtD n k M0)] := by
  rw [List.map_cons, List.map_nil, rdo_mat0 (b := 100000) (M := M0) (pre_c (by decide)) fun i hi => pre_row hi (by omega) (by omega)]
 refine zR ?_
 refine callC_readN rfl 2 cc hrd2 rfl ?_
 refine zR ?_
 refine W_loop (σ := Mt × List Nat × Bool × Nat) (fun s => [(0, .osl 1 1048576 0 n), (2, .osl 1 200 0 s.2.1.length), (3, .bool s.2.2.1), (10, .int .i64 k), (11, .int .i64 s.2.2.2)]) (fun s => (200, intsD s.2.1) :: mHp 1048576 100000 n k s.1)
  (fun s => s.2.2.2 ≤ k ∧ IsBp n s.2.2.2 0 s.1 s.2.1 ∧ KerEq n k M0 s.1 ∧ ES n k s.1 b s.2.1.length ∧ (s.2.1.length < n ∨ n = 0)) (fun s => k - s.2.2.2) (M0, [], false, 0) ⟨Nat.zero_le _, IsBp.nil n M0, KerEq.refl _ _ _, hM, by show 0 < n ∨ n = 0; omega⟩ ?_ rfl ?_
 ·simp [subF, lk]
 ·rintro ⟨M, ps, od, j⟩ ⟨hj, hE, hK, hS, hpn0⟩
  try simp only at hj hE hK hS hpn0 ⊢
  by_cases hlt : j < k
  ·have dl : decide ((j : Int) < (k : Int)) = true := decide_eq_true (by omega)
   have ej : (j : Int).toNat = j := Int.toNat_natCast j
   have e1 : ((j : Int) + 1) = ((j + 1 : Nat) : Int) := by omega
   have hpl := hE.len
   have hpn : ps.length < n := by
    rcases hpn0 with h | h
    ·exact h
    ·have := h0 h; omega
   have hil := intsD_len ps
   have hcl := cM_len 100000 k n
   have hD4 := DM_no (b := 100000) (n := n) (p := 4) (by omega) fun r => rwC k (M r)
   refine zS dl ?_
   refine wTs ?_
   refine W_seq ?_
   refine W_block ?_
   have hunf : mHp 1048576 100000 n k M = (1048576, cM 100000 k n) :: DM 100000 n fun r => rwC k (M r) := rfl
   rw [hunf]
   refine W_seq ?_
   refine W_reg ?_
   refine zE (zA hD4 @Option.isNone_none.{0}) ?_
   repeat refine ⟨by omega, ?_⟩
   refine W_freezeP 4 (cells := [.int .i64 j]) rfl rfl ?_
   refine W_ext ((200, intsD ps) :: mHp 1048576 100000 n k M) (rm_pre (by omega) (by omega) (by omega) (intsD_rf ps) fun p hp => ?_) ?_
   ·rw [hunf]
    simp only [lkH]
    rw [if_neg (Ne.symm hp)]
   have f4 : frzp 4 [.int .i64 j] (.ptr 4 0) = .el [.int .i64 j] 0 := by simp [frzp]
   have fo : ∀ z o n, frzp 4 [.int .i64 j] (.osl z (o + 5) 0 n) = .osl z (o + 5) 0 n := fun z o n => by simp [frzp, frz]
   have fo1 := fo 1 1048571 n
   have fo2 := fo 1 195 ps.length
   have fi : ∀ k m, frzp 4 [.int .i64 j] (.int k m) = .int k m := fun k m => by simp [frzp, frz, purge, DV.has]
   have fb : ∀ m, frzp 4 [.int .i64 j] (.bool m) = .bool m := fun m => by simp [frzp, frz, purge, DV.has]
   have hrd3 : [DV.osl 1 1048576 ps.length (n - ps.length), .clo 233 [.el [.int .i64 j] 0]].map (rdo ((200, intsD ps) :: mHp 1048576 100000 n k M) 2) = [.sl 1 (rowsD ((List.range (n - ps.length)).map fun i => rwC k (M (ps.length + i)))), .clo 233 [.el [.int .i64 j] 0]] := by
    rw [List.map_cons, List.map_cons, List.map_nil, rdo_mat (b := 100000) (M := M) (pre_c (by decide)) (fun i hi => pre_row hi (by omega) (by omega)) hpl, rdo_rf _ _ rfl]
   have hrl : ((List.range (n - ps.length)).map fun i => rwC k (M (ps.length + i))).length = n - ps.length := by rw [List.length_map, List.length_range]
   have hrg : ∀ i, i < n - ps.length → ((List.range (n - ps.length)).map fun i => rwC k (M (ps.length + i))).getD i [] = rwC k (M (ps.length + i)) := fun i hi => by
    rw [List.getD_eq_getElem?_getD, List.getElem?_map, List.getElem?_range hi]; rfl
   have hbd : ∀ i, i < n → ∀ c, c < k → BS (M i c) (eB b (min i ps.length)) := hS
   have hb3 : ∀ i, i < n → eB b (min i ps.length) ≤ 140800 := fun i hi => by
    have := hB (min i ps.length) (by omega); omega
   have ci := slIFRow_calls ((List.range (n - ps.length)).map fun i => rwC k (M (ps.length + i))) (by rw [hrl]; omega) (fun i => !decide (M (ps.length + i) j = 0)) (.clo 233 [.el [.int .i64 j] 0]) 233 [.el [.int .i64 j] 0] (.inl rfl) rfl call_ech1
    (fun i hi => by rw [hrl] at hi; rw [hrg i hi]; exact List.all_eq_true.2 (rwC_rf _ _))
    (fun i hi => by
     rw [hrl] at hi; rw [hrg i hi]
     exact mx_echelon1_calls k j (M (ps.length + i)) _ hlt hk (hbd _ (by omega) j hlt) (hb3 _ (by omega)))
   rw [hrl] at ci
   repeat (first | refine W_seq ?_ | refine W_reg ?_ | refine W_regd ?_ | refine W_regs ?_ | refine W_regp ?_ | refine W_block ?_ | refine And.intro (by omega) ?_ | simp (maxSteps := 1000000) (disch := omega) only [cA, cB, cN, FnD.nb, lk, lkH, Dst.onT, Dst.onX, Dst.slot, setF, setH, mapF, mapH, initF, binE, unE, cnt, boundE, newsE, freshE, freshT, opE, rmH, blkQ, frz_us, Nat.reduceEqDiff, Nat.reduceLT, Nat.reduceAdd, Nat.reduceMul, Nat.reduceMod, ↓reduceIte, reduceCtorEq, Nat.reduceLeDiff, f4, fo1, fo2, fi, fb, hil, hcl])
   refine ⟨?_, callC_readN rfl 2 ci hrd3 rfl ?_⟩
   ·intro d hd; rw [List.mem_singleton.1 hd]; rfl
   have hB3 := hB ps.length hpn
   rcases ixP_first (fun i => !decide (M (ps.length + i) j = 0)) (n - ps.length) with ⟨hx, hall⟩ | ⟨q, hq, hx, hne, hfst⟩
   ·rw [hx]
    have d1 : decide ((-1 : Int) < 0) = true := rfl
    refine zS d1 ?_
    refine W_cond rfl (fun _ => W_exit ?_) (fun h => by cases h)
    refine zS e1 ?_
    refine ⟨(M, ps, od, j + 1), ⟨by show j + 1 ≤ k; omega, hE.skip fun i h1 h2 => ?_, hK, hS, hpn0⟩, by show k - (j + 1) < k - j; omega, by simp [subF, lk], rfl⟩
    have := hall (i - ps.length) (by omega)
    rw [show ps.length + (i - ps.length) = i by omega] at this
    simpa using this
   ·rw [hx]
    have hne' : M (ps.length + q) j ≠ 0 := by simpa using hne
    have d1 : decide ((q : Int) < 0) = false := decide_eq_false (by omega)
    have eaq : ((ps.length : Int) + (q : Int)) = ((ps.length + q : Nat) : Int) := by omega
    have ea : (ps.length : Int).toNat = ps.length := Int.toNat_natCast _
    have eb : ((ps.length + q : Nat) : Int).toNat = ps.length + q := Int.toNat_natCast _
    have hgA := cM_get (b := 100000) (k := k) (i := ps.length) hpn .undef
    have hgB := cM_get (b := 100000) (k := k) (n := n) (i := ps.length + q) (by omega) .undef
    repeat (first | refine W_seq ?_ | refine W_reg ?_ | refine W_regd ?_ | refine W_regs ?_ | refine W_regp ?_ | refine W_block ?_ | refine And.intro (by omega) ?_ | simp (maxSteps := 1000000) (disch := omega) only [cA, cB, cN, FnD.nb, lk, lkH, Dst.onT, Dst.onX, Dst.slot, setF, setH, mapF, mapH, initF, binE, unE, cnt, boundE, newsE, freshE, freshT, opE, rmH, blkQ, frz_us, Nat.reduceEqDiff, Nat.reduceLT, Nat.reduceAdd, Nat.reduceMul, Nat.reduceMod, ↓reduceIte, reduceCtorEq, Nat.reduceLeDiff, d1])
    refine wFs ?_
    rw [hunf]
    refine W_seq ?_
    refine W_regs ?_
    simp (maxSteps := 1000000) (disch := omega) only [cA, cB, cN, FnD.nb, lk, lkH, Dst.onT, Dst.onX, Dst.slot, setF, setH, mapF, mapH, initF, binE, unE, cnt, boundE, newsE, freshE, freshT, opE, rmH, blkQ, frz_us, Nat.reduceEqDiff, Nat.reduceLT, Nat.reduceAdd, Nat.reduceMul, Nat.reduceMod, ↓reduceIte, reduceCtorEq, Nat.reduceLeDiff, eaq, ea, eb, hcl, hgA, hgB]
    repeat refine ⟨by omega, ?_⟩
    refine ⟨⟨rfl, hpn⟩, ⟨by omega, by omega⟩, ⟨rfl, by rw [List.length_set, hcl]; omega⟩, ?_⟩
    refine W_swp (100000 + ps.length) (100000 + (ps.length + q)) (by omega) (by omega) ((200, intsD ps) :: mHp 1048576 100000 n k (swapM ps.length (ps.length + q) M)) (fun p => swap_H hpn (by omega) (by omega) (by omega) (by omega) (intsD_rf ps) rfl ?_ ?_ (fun p' h1 h2 => ?_) p) ?_
    ·simp [lkH]
    ·simp [lkH]
    ·simp only [lkH]
     rw [if_neg (Ne.symm h1), if_neg (Ne.symm h2)]
    obtain ⟨S, hSd⟩ : ∃ S, S = swapM ps.length (ps.length + q) M := ⟨_, rfl⟩
    have hnext := estep hE hlt (show ps.length ≤ ps.length + q by omega) (by omega) hne'
    have hsize := hS.next (show ps.length ≤ ps.length + q by omega) (by omega) hlt hne'
    have hSz : ∀ r, ps.length ≤ r → r < n → ∀ c, c < k → BS (S r c) (eB b ps.length) := fun r h1 h2 c hc => by
     rw [hSd]; unfold swapM
     split
     ·have := hS (ps.length + q) (by omega) c hc
      rwa [show min (ps.length + q) ps.length = ps.length by omega] at this
     ·split
      ·have := hS ps.length hpn c hc
       rwa [Nat.min_self] at this
      ·have := hS r h2 c hc
       rwa [show min r ps.length = ps.length by omega] at this
    have hSt : S ps.length j ≠ 0 := by rw [hSd]; unfold swapM; rw [if_pos rfl]; exact hne'
    rw [← hSd] at hnext hsize ⊢
    have s1 : swF (100000 + ps.length) (100000 + (ps.length + q)) 1048576 = some 1048576 := swF_n (by omega) (by omega)
    have s2 : swF (100000 + ps.length) (100000 + (ps.length + q)) 200 = some 200 := swF_n (by omega) (by omega)
    have hunS : mHp 1048576 100000 n k S = (1048576, cM 100000 k n) :: DM 100000 n fun r => rwC k (S r) := rfl
    have hpD : mapH (purge 200) (DM 100000 n fun r => rwC k (S r)) = DM 100000 n fun r => rwC k (S r) := DM_map fun i _ => map_purge 200 (rwC_rf _ _)
    have hpC : (cM 100000 k n).map (purge 200) = cM 100000 k n := cM_purge (.inl (by omega))
    have hpX : (intsD ps ++ [DV.int .i64 j]).map (purge 200) = intsD (ps ++ [j]) := by rw [intsD_snoc]; exact map_purge 200 (intsD_rf _)
    have p1 : purge 200 (DV.osl 1 1048576 0 n) = .osl 1 1048576 0 n := by simp [purge, DV.has]
    have p2 : ∀ m, purge 200 (DV.osl 1 200 0 m) = .undef := fun m => by simp [purge, DV.has]
    have hD47 := DM_no (b := 100000) (n := n) (p := 47) (by omega) fun r => rwC k (S r)
    rw [hunS]
    repeat (first | refine W_seq ?_ | refine W_reg ?_ | refine W_regd ?_ | refine W_regs ?_ | refine W_regp ?_ | refine W_block ?_ | refine And.intro (by omega) ?_ | simp (maxSteps := 1000000) (disch := omega) only [cA, cB, cN, FnD.nb, lk, lkH, Dst.onT, Dst.onX, Dst.slot, setF, setH, mapF, mapH, initF, binE, unE, cnt, boundE, newsE, freshE, freshT, opE, rmH, blkQ, frz_us, Nat.reduceEqDiff, Nat.reduceLT, Nat.reduceAdd, Nat.reduceMul, Nat.reduceMod, ↓reduceIte, reduceCtorEq, Nat.reduceLeDiff, rn, s1, s2, hil, hD47])
    refine ⟨by simp [DV.rf], ⟨by omega, by omega, fun h => h, by simp [DV.one]⟩, ?_⟩
    rw [hpD, hpC, hpX, ← hunS]
    generalize (!(od == decide (¬ (q : Int) = 0))) = od'
    have hil2 := intsD_len (ps ++ [j])
    have hpl2 : (ps ++ [j]).length = ps.length + 1 := by simp
    rw [← hpl2]
    obtain ⟨hE2, hK2⟩ := hnext
    have hK2 := hK.trans hK2
    rw [← hpl2] at hsize
    have e51 : ((ps.length : Int) + 1) = ((ps.length + 1 : Nat) : Int) := by omega
    have e52 : ((ps.length + 1 : Nat) : Int).toNat = ps.length + 1 := Int.toNat_natCast _
    generalize hps : ps ++ [j] = ps2 at *
    by_cases hlast : ps.length + 1 = n
    ·have d0 : decide ((0 : Int) < 0) = false := rfl
     have d2 : decide ((ps2.length : Int) = (n : Int)) = true := decide_eq_true (by omega)
     refine zS (zA e51 (zA e52 (zA @List.length_nil.{0} @Nat.zero_div))) ?_
     refine W_loop (σ := Unit) (fun _ => [(0, .osl 1 1048576 0 n), (2, .osl 1 200 0 ps2.length), (3, .bool od'), (53, .int .i64 0), (54, .int .i64 0)]) (fun _ => (200, intsD ps2) :: mHp 1048576 100000 n k S) (fun _ => True) (fun _ => 0) () trivial ?_ rfl ?_
     ·simp [subF, lk]
     ·rintro ⟨⟩ -
      refine zS d0 ?_
      refine W_cond rfl (fun h => by cases h) (fun _ => W_exit ?_)
      refine zS (zA hil2 d2) ?_
      refine W_cond rfl (fun _ => W_exit ?_) (fun h => by cases h)
      have eD : elimD ps.length j n S = S := by rw [← hlast]; exact elimD_0 _ _ _
      rw [eD] at hE2 hK2 hsize
      show W _ _ _ _ _
      refine W_freeze 200 (cells := intsD ps2) rfl (List.all_eq_true.2 (intsD_rf _)) ?_
      refine W_ext (mHp 1048576 100000 n k S) (rm_mat (by omega) (by omega) fun p hp => ?_) ?_
      ·simp only [lkH]; rw [if_neg (Ne.symm hp)]
      have hz2 : frz 200 (intsD ps2) (.osl 1 200 0 (ps2).length) = .sl 1 (intsD ps2) := by
       have hl := intsD_len ps2
       simp [frz, hl]
       rw [List.take_of_length_le (by omega)]
      have hz0 : frz 200 (intsD ps2) (.osl 1 1048576 0 n) = .osl 1 1048576 0 n := by simp [frz]
      refine zS (zA hz2 hz0) ?_
      exact W_ret (Ret_ech (by omega) rfl rfl (fun p => rfl) ⟨ps2, od', S, rfl, rfl, hE2.full hlt (by omega), hK2, hsize⟩)
    ·have hlt1 : ps.length + 1 < n := by omega
     refine zS (zA e51 e52) ?_
     have eD0 : elimD ps.length j (ps.length + 1 + 0) S = S := elimD_0 _ _ _
     refine W_loop (σ := Nat) (fun i => [(0, .osl 1 1048576 0 n), (2, .osl 1 200 0 ps2.length), (3, .bool od'), (4, .el [.int .i64 j] 0), (5, .int .i64 ps.length), (10, .int .i64 k), (11, .int .i64 j), (52, .osl 1 1048576 (ps.length + 1) (n - (ps.length + 1))), (53, .int .i64 ((n - (ps.length + 1) : Nat) : Int)), (54, .int .i64 i)])
      (fun i => (200, intsD ps2) :: mHp 1048576 100000 n k (elimD ps.length j (ps.length + 1 + i) S)) (fun i => i ≤ n - (ps.length + 1)) (fun i => n - (ps.length + 1) - i) 0 (Nat.zero_le _) ?_ (by rw [eD0]) ?_
     ·simp [subF, lk]
     ·intro i hi
      try simp only at hi ⊢
      by_cases hli : i < n - (ps.length + 1)
      ·have di : decide ((i : Int) < ((n - (ps.length + 1) : Nat) : Int)) = true := decide_eq_true (by omega)
       have ei : (i : Int).toNat = i := Int.toNat_natCast i
       have ei1 : ((i : Int) + 1) = ((i + 1 : Nat) : Int) := by omega
       have hgr := cM_get (b := 100000) (k := k) (n := n) (i := ps.length + 1 + i) (by omega) .undef
       refine zS di ?_
       refine wTs ?_
       obtain ⟨E, hEd⟩ : ∃ E, E = elimD ps.length j (ps.length + 1 + i) S := ⟨_, rfl⟩
       rw [← hEd]
       have hunE : mHp 1048576 100000 n k E = (1048576, cM 100000 k n) :: DM 100000 n fun r => rwC k (E r) := rfl
       rw [hunE]
       refine W_seq ?_
       refine W_block ?_
       refine W_seq ?_
       refine W_reg ?_
       refine zE (zA ei (zA hcl hgr)) ?_
       repeat refine ⟨by omega, ?_⟩
       refine W_regs ?_
       refine zE (zA ea (zA hcl hgA)) ?_
       repeat refine ⟨by omega, ?_⟩
       rw [← hunE]
       have eR : E (ps.length + 1 + i) = S (ps.length + 1 + i) := by rw [hEd]; exact elimD_at (by omega)
       have eT : E ps.length = S ps.length := by rw [hEd]; exact elimD_at (by omega)
       have hel := mx_eliminate_rel k j (E (ps.length + 1 + i)) (E ps.length) (eB b ps.length) (eB b ps.length) hlt hk (fun c hc => by rw [eR]; exact hSz _ (by omega) (by omega) c hc) (fun c hc => by rw [eT]; exact hSz _ (by omega) hpn c hc) (by rw [eT]; exact hSt) (by omega)
       refine callC_el rfl (by omega) (by omega) (by omega) (pre_row (by omega) (by omega) (by omega)) (pre_row hpn (by omega) (by omega)) hel ?_
       refine zD ?_
       refine W_ext ((200, intsD ps2) :: mHp 1048576 100000 n k (elimD ps.length j (ps.length + 1 + (i + 1)) S)) (fun p => by
        rw [hEd]
        exact el_H (t := ps.length) (s := ps.length + 1 + i) (S := S) (by omega) (by omega) (by omega) (by omega) (by omega) (fun _ => rfl) p) ?_
       refine zS ei1 ?_
       exact ⟨i + 1, by omega, by omega, by simp [subF, lk], rfl⟩
      ·have di : decide ((i : Int) < ((n - (ps.length + 1) : Nat) : Int)) = false := decide_eq_false (by omega)
       have eDn : elimD ps.length j (ps.length + 1 + i) S = elimD ps.length j n S := by rw [show ps.length + 1 + i = n by omega]
       rw [eDn]
       have d2 : decide ((ps2.length : Int) = (n : Int)) = false := decide_eq_false (by omega)
       have hcl2 := hcl
       refine zS di ?_
       refine W_cond rfl (fun h => by cases h) (fun _ => W_exit ?_)
       refine zS (zA hil2 d2) ?_
       refine wFs ?_
       refine zS e1 ?_
       exact ⟨(elimD ps.length j n S, ps2, od', j + 1), ⟨by show j + 1 ≤ k; omega, hE2, hK2, hsize, by show ps2.length < n ∨ n = 0; omega⟩, by show k - (j + 1) < k - j; omega, by simp [subF, lk], rfl⟩
  ·obtain rfl : j = k := by omega
   have dl : decide ((j : Int) < (j : Int)) = false := decide_eq_false (by omega)
   refine zS dl ?_
   refine W_cond rfl (fun h => by cases h) (fun _ => W_exit ?_)
   show W _ _ _ _ _
   refine W_freeze 200 (cells := intsD ps) rfl (List.all_eq_true.2 (intsD_rf _)) ?_
   refine W_ext (mHp 1048576 100000 n j M) (rm_mat (by omega) (by omega) fun p hp => ?_) ?_
   ·simp only [lkH]; rw [if_neg (Ne.symm hp)]
   have hz2 : frz 200 (intsD ps) (.osl 1 200 0 (ps).length) = .sl 1 (intsD ps) := by
    have hl := intsD_len ps
    simp [frz, hl]
    rw [List.take_of_length_le (by omega)]
   have hz0 : frz 200 (intsD ps) (.osl 1 1048576 0 n) = .osl 1 1048576 0 n := by simp [frz]
   refine zS (zA hz2 hz0) ?_
   exact W_ret (Ret_ech (by omega) rfl rfl (fun p => rfl) ⟨ps, od, M, rfl, rfl, hE, hK, hS⟩)
def redQ (n k : Nat) (M0 : Mt) (M' : Mt) (r : DV) : Prop := M' = rrM n k M0 ∧ r = .sl 1 (intsD (rrP n k M0))
set_option maxHeartbeats 4000000 in
theorem mx_reduce_rel (n k b : Nat) (M0 : Mt) (hn : n ≤ 1000) (hk : k ≤ 1000) (h0 : n = 0 → k = 0) (hB : ∀ t, t < n → 3 * eB b t ≤ 140800) (hU : ∀ t, t < n → uB b t + 4 * eB b t ≤ 140800) (hM : MS n k M0 b) :
  MRel Tryz.prog 106 [.osl 1 1048576 0 n] (mHp 1048576 100000 n k M0) (fun r H' => ∃ M', H' = mHp 1048576 100000 n k M' ∧ redQ n k M0 M' r) := by
 have hM0 : ES n k M0 b 0 := fun i hi j hj => (hM i hi j hj).mono (by rw [Nat.min_zero]; exact Nat.le_refl _)
 have hech := mx_echelon_rel n k b M0 hn hk h0 hB hM0
 refine MRel_of ismx_reduce (by simp [fnmx_reduce]) ?_
 unfold codemx_reduce
 refine zR ?_
 refine callC_lendM rfl 1048576 100000 n k M0 (Q := fun M r => ∃ ps od, r = .tup [.sl 1 (intsD ps), .bool od] ∧ IsBp n k 0 M ps ∧ KerEq n k M0 M ∧ ES n k M b ps.length) (by omega) (.inr rfl) (by omega) (fun _ => rfl) ?_ (hech.mono ?_) ?_
 ·rintro M' r ⟨ps, od, rfl, -⟩; simp [DV.rf, DV.rfL]
 ·rintro r H' ⟨ps, od, M, h1, h2, h3⟩; exact ⟨M, h2, ps, od, h1, h3⟩
 rintro M1 r ⟨ps, od, rfl, hE1, hK1, hS1⟩
 have hpc := pgN_c (c := 1048576) (b := 100000) (H := mHp 1048576 100000 n k M0)
 have hil := intsD_len ps
 have hpl := hE1.len
 repeat (first | refine W_seq ?_ | refine W_reg ?_ | refine W_regd ?_ | refine W_regs ?_ | refine W_regp ?_ | refine W_block ?_ | refine And.intro (by omega) ?_ | simp (maxSteps := 1000000) (disch := omega) only [cA, cB, cN, FnD.nb, lk, lkH, Dst.onT, Dst.onX, Dst.slot, setF, setH, mapF, mapH, initF, binE, unE, cnt, boundE, newsE, freshE, freshT, opE, rmH, blkQ, frz_us, Nat.reduceEqDiff, Nat.reduceLT, Nat.reduceAdd, Nat.reduceMul, Nat.reduceMod, ↓reduceIte, reduceCtorEq, Nat.reduceLeDiff, rn, hpc, hil])
 refine W_loop (σ := Mt × Nat) (fun s => [(0, .osl 1 1048576 0 n), (3, .sl 1 (intsD ps)), (17, .sl 1 (intsD ps)), (18, .int .i64 ps.length), (19, .int .i64 s.2)]) (fun s => mHp 1048576 100000 n k s.1)
  (fun s => IsBp n k s.2 s.1 ps ∧ KerEq n k M0 s.1 ∧ US n k s.1 b s.2) (fun s => ps.length - s.2) (M1, 0) ⟨hE1, hK1, ES.US hS1 fun i => Nat.min_le_left _ _⟩ ?_ rfl ?_
 ·simp [subF, lk]
 ·rintro ⟨M, i⟩ ⟨hE, hK, hS⟩
  try simp only at hE hK hS ⊢
  have hile := hE.le
  by_cases hlt : i < ps.length
  ·have dl : decide ((i : Int) < (ps.length : Int)) = true := decide_eq_true (by omega)
   have ei : (i : Int).toNat = i := Int.toNat_natCast i
   have e1 : ((i : Int) + 1) = ((i + 1 : Nat) : Int) := by omega
   have hin : i < n := by omega
   have hpi := intsD_get hlt .undef
   have hck := hE.lt i hlt
   have hnz := hE.nz i hlt
   obtain ⟨c, hcd⟩ : ∃ c, c = ps.getD i 0 := ⟨_, rfl⟩
   rw [← hcd] at hpi hck hnz
   have ec : (c : Int).toNat = c := Int.toNat_natCast c
   have hcl := cM_len 100000 k n
   have hgi := cM_get (b := 100000) (k := k) hin .undef
   obtain ⟨p, hp⟩ : ∃ p, p = 100000 + i := ⟨_, rfl⟩
   have n7 : ¬ 7 = p := by omega
   have n9 : ¬ 9 = p := by omega
   have nc : ¬ 1048576 = p := by omega
   have m7 : ¬ p < 7 := by omega
   have m9 : ¬ p < 9 := by omega
   have mc : p < 1048576 := by omega
   rw [← hp] at hgi
   have hDp : ∀ M : Mt, lkH (DM 100000 n fun r => rwC k (M r)) p = some (rwC k (M i)) := fun M => by rw [hp]; exact DM_at hin _
   have hrl := fun M : Mt => rwC_len k (M i)
   have hkk : k * 3 / 3 = k := by omega
   have hw := rwC_win hck (M i)
   have hcc : ∀ x : Rat, (DV.agg (numC x)).cells? = some (numC x) := fun _ => rfl
   have hn3 := numC_len
   have ht3 : ∀ x : Rat, (numC x).take 3 = numC x := fun _ => rfl
   have hD7 := fun M : Mt => DM_no (b := 100000) (n := n) (p := 7) (by omega) fun r => rwC k (M r)
   have hD9 := fun M : Mt => DM_no (b := 100000) (n := n) (p := 9) (by omega) fun r => rwC k (M r)
   have hunf : ∀ M : Mt, mHp 1048576 100000 n k M = (1048576, cM 100000 k n) :: DM 100000 n fun r => rwC k (M r) := fun _ => rfl
   refine zS dl ?_
   refine wTs ?_
   rw [hunf M]
   refine W_seq ?_
   refine W_block ?_
   have hDpM := hDp M
   have hrlM := hrl M
   have hD7M := hD7 M
   refine zS (zA ei (zA ec (zA hil (zA hpi (zA hcl (zA hgi (zA nc (zA hDpM (zA hrlM (zA hw (zA hkk (zA hcc (zA hn3 (zA ht3 (zA @cS (zA hD7M (zA @Option.isNone_none.{0} @List.drop_zero.{0}))))))))))))))))) ?_
   rw [← hunf M]
   have hby := hS i hin c hck
   rw [if_neg (Nat.lt_irrefl i)] at hby
   have hB3 := hB i hin
   have hU3 := hU i hin
   refine W_loop (σ := Nat) (fun j => [(0, .osl 1 1048576 0 n), (3, .sl 1 (intsD ps)), (5, .int .i64 i), (6, .int .i64 c), (7, .ptr 7 0), (17, .sl 1 (intsD ps)), (18, .int .i64 ps.length), (19, .int .i64 i), (34, .osl 3 p 0 k), (35, .int .i64 k), (36, .int .i64 j)])
    (fun j => (7, numC (M i c)) :: mHp 1048576 100000 n k (sclP i c j M)) (fun j => j ≤ k) (fun j => k - j) 0 (Nat.zero_le _) ?_ (by rw [sclP_0]) ?_
   ·simp [subF, lk]
   ·intro j hj
    try simp only at hj ⊢
    by_cases hlj : j < k
    ·have dj : decide ((j : Int) < (k : Int)) = true := decide_eq_true (by omega)
     have ej : (j : Int).toNat = j := Int.toNat_natCast j
     have e2 : ((j : Int) + 1) = ((j + 1 : Nat) : Int) := by omega
     have hbj := hS i hin j hlj
     rw [if_neg (Nat.lt_irrefl i)] at hbj
     have cd := qDivN hnz hbj hby (by omega) (by omega)
     obtain ⟨E, hEd⟩ : ∃ E, E = sclP i c j M := ⟨_, rfl⟩
     have hEij : E i j = M i j := by rw [hEd]; exact sclP_at
     have hwj := rwC_win hlj (E i)
     rw [hEij] at hwj
     have hst := rwC_set hlj (E i) (M i j / M i c)
     have hDpE := hDp E
     have hrlE := hrl E
     have hD9E := hD9 E
     rw [← hEd, hunf E]
     refine zS dj ?_
     refine wTs ?_
     refine W_seq ?_
     refine W_block ?_
     refine W_seq ?_
     refine W_reg ?_
     refine zE (zA ej (zA n7 (zA nc (zA m7 (zA mc (zA hDpE (zA hrlE (zA hwj (zA hcc (zA hn3 (zA ht3 (zA @cS (zA hD9E (zA @Option.isNone_none.{0} @List.drop_zero.{0})))))))))))))) ?_
     repeat refine ⟨by omega, ?_⟩
     refine W_regd ?_
     refine zE (zA ei (zA hcl (zA hgi (zA hcc (zA hn3 (zA ht3 (zA @cS @List.drop_zero.{0}))))))) ?_
     repeat refine ⟨by omega, ?_⟩
     refine cP cd ?_
     refine zE (zA ej (zA n7 (zA n9 (zA nc (zA m7 (zA m9 (zA mc (zA hDpE (zA hrlE (zA hcc (zA hn3 (zA ht3 (zA @cS (zA hst @List.drop_zero.{0})))))))))))))) ?_
     repeat refine ⟨by omega, ?_⟩
     refine W_freeze 9 (cells := numC (M i j)) rfl (List.all_eq_true.2 (numC_rf _)) ?_
     have hnx := sclP_next i c j M
     refine W_ext ((7, numC (M i c)) :: mHp 1048576 100000 n k (sclP i c (j + 1) M)) (rm_pre (by omega) (by omega) (by omega) (numC_rf _) fun q hq => ?_) ?_
     ·simp only [lkH]
      by_cases e7 : 7 = q
      ·rw [if_pos e7, if_pos e7]
      ·rw [if_neg e7, if_neg e7, if_neg (Ne.symm hq)]
       have := setP_H (c := 1048576) (b := 100000) (n := n) (k := k) (i := i) (M := E) (M' := sclP i c (j + 1) M) (Z := rwC k fun t => if t = j then M i j / M i c else E i t) hin (by omega) (rwC_congr fun t _ => by rw [hEd]; exact hnx.1 t) (fun r _ hr t _ => by rw [hEd]; exact hnx.2 r t hr) q
       rw [← hp] at this
       exact this
     have f9 : ∀ cs, frz 9 cs (.osl 3 p 0 k) = .osl 3 p 0 k := fun cs => by simp only [frz]; rw [if_neg (Ne.symm n9)]
     have f9b : ∀ cs, frz 9 cs (.osl 1 1048576 0 n) = .osl 1 1048576 0 n := fun cs => by simp [frz]
     have f97 : ∀ cs, frz 9 cs (.ptr 7 0) = .ptr 7 0 := fun cs => by simp [frz, purge, DV.has]
     refine zS (zA e2 (zA f9 (zA f9b f97))) ?_
     exact ⟨j + 1, by omega, by omega, by simp [subF, lk], rfl⟩
    ·have dj : decide ((j : Int) < (k : Int)) = false := decide_eq_false (by omega)
     have ejk : j = k := by omega
     refine W_ext ((7, numC (M i c)) :: mHp 1048576 100000 n k (sclM i c M)) (fun q => by rw [ejk, mHp_congr fun r _ t ht => sclP_end r t ht]) ?_
     refine W_freeze 7 (cells := numC (M i c)) rfl (List.all_eq_true.2 (numC_rf _)) ?_
     obtain ⟨S, hSd⟩ : ∃ S, S = sclM i c M := ⟨_, rfl⟩
     rw [← hSd]
     refine W_ext (mHp 1048576 100000 n k S) (rm_mat (by omega) (by omega) fun q hq => by simp only [lkH]; rw [if_neg (Ne.symm hq)]) ?_
     have f7 : ∀ cs, frz 7 cs (.osl 3 p 0 k) = .osl 3 p 0 k := fun cs => by simp only [frz]; rw [if_neg (Ne.symm n7)]
     have f7b : ∀ cs, frz 7 cs (.osl 1 1048576 0 n) = .osl 1 1048576 0 n := fun cs => by simp [frz]
     refine zS (zA dj (zA f7 f7b)) ?_
     refine W_cond rfl (fun h => by cases h) (fun _ => W_exit ?_)
     have hnext := bstep (k := k) hE hlt
     rw [← hcd] at hnext
     obtain ⟨hE2, hK2⟩ := hnext
     have hS2 := hS.next hin hck hnz
     rw [← hSd] at hE2 hK2 hS2
     have hS1 : S i c = 1 := by rw [hSd]; unfold sclM; rw [if_pos rfl]; grind
     have hbS : ∀ t, t < k → BS (S i t) (2 * eB b i) := fun t ht => by
      rw [hSd]; unfold sclM; rw [if_pos rfl]
      have h1 := hS i hin t ht
      rw [if_neg (Nat.lt_irrefl i)] at h1
      exact (BS_div hnz h1 hby).mono (by omega)
     have hbR : ∀ r, r < i → ∀ t, t < k → BS (S r t) (uB b i) := fun r hr t ht => by
      rw [hSd]; unfold sclM; rw [if_neg (by omega)]
      have h1 := hS r (by omega) t ht
      rwa [if_pos hr] at h1
     by_cases hi0 : i = 0
     ·have d0 : decide ((0 : Int) < 0) = false := rfl
      have hU0 : elimU i c i S = S := by rw [hi0]; exact elimU_0 _ _ _
      rw [hU0] at hE2 hK2 hS2
      subst hi0
      repeat (first | refine W_seq ?_ | refine W_reg ?_ | refine W_regd ?_ | refine W_regs ?_ | refine W_regp ?_ | refine W_block ?_ | refine And.intro (by omega) ?_ | simp (maxSteps := 1000000) (disch := omega) only [cA, cB, cN, FnD.nb, lk, lkH, Dst.onT, Dst.onX, Dst.slot, setF, setH, mapF, mapH, initF, binE, unE, cnt, boundE, newsE, freshE, freshT, opE, rmH, blkQ, frz_us, Nat.reduceEqDiff, Nat.reduceLT, Nat.reduceAdd, Nat.reduceMul, Nat.reduceMod, ↓reduceIte, reduceCtorEq, Nat.reduceLeDiff, ei, List.length_nil, Nat.zero_div])
      refine W_loop (σ := Unit) (fun _ => [(0, .osl 1 1048576 0 n), (3, .sl 1 (intsD ps)), (17, .sl 1 (intsD ps)), (18, .int .i64 ps.length), (19, .int .i64 (0 : Nat)), (57, .int .i64 0), (58, .int .i64 0)]) (fun _ => mHp 1048576 100000 n k S) (fun _ => True) (fun _ => 0) () trivial ?_ rfl ?_
      ·simp [subF, lk]
      ·rintro ⟨⟩ -
       repeat (first | refine W_seq ?_ | refine W_reg ?_ | refine W_regd ?_ | refine W_regs ?_ | refine W_regp ?_ | refine W_block ?_ | refine And.intro (by omega) ?_ | simp (maxSteps := 1000000) (disch := omega) only [cA, cB, cN, FnD.nb, lk, lkH, Dst.onT, Dst.onX, Dst.slot, setF, setH, mapF, mapH, initF, binE, unE, cnt, boundE, newsE, freshE, freshT, opE, rmH, blkQ, frz_us, Nat.reduceEqDiff, Nat.reduceLT, Nat.reduceAdd, Nat.reduceMul, Nat.reduceMod, ↓reduceIte, reduceCtorEq, Nat.reduceLeDiff, d0])
       refine W_cond rfl (fun h => by cases h) (fun _ => W_exit ?_)
       refine zS e1 ?_
       exact ⟨(S, 0 + 1), ⟨hE2, hK.trans hK2, hS2⟩, by show ps.length - (0 + 1) < ps.length - 0; omega, by simp [subF, lk], rfl⟩
     ·have hi0' : 0 < i := by omega
      refine zS ei ?_
      refine W_loop (σ := Nat) (fun s => [(0, .osl 1 1048576 0 n), (3, .sl 1 (intsD ps)), (5, .int .i64 i), (6, .int .i64 c), (17, .sl 1 (intsD ps)), (18, .int .i64 ps.length), (19, .int .i64 i), (56, .osl 1 1048576 0 i), (57, .int .i64 i), (58, .int .i64 s)])
       (fun s => mHp 1048576 100000 n k (elimU i c s S)) (fun s => s ≤ i) (fun s => i - s) 0 (Nat.zero_le _) ?_ (by rw [elimU_0]) ?_
      ·simp [subF, lk]
      ·intro s hs
       try simp only at hs ⊢
       by_cases hls : s < i
       ·have ds : decide ((s : Int) < (i : Int)) = true := decide_eq_true (by omega)
        have es : (s : Int).toNat = s := Int.toNat_natCast s
        have es1 : ((s : Int) + 1) = ((s + 1 : Nat) : Int) := by omega
        have hgs := cM_get (b := 100000) (k := k) (n := n) (i := s) (by omega) .undef
        obtain ⟨E, hEd⟩ : ∃ E, E = elimU i c s S := ⟨_, rfl⟩
        have eR : E s = S s := by rw [hEd]; exact elimU_at (Nat.le_refl s)
        have eT : E i = S i := by rw [hEd]; exact elimU_at (by omega)
        have hel := mx_eliminate_rel k c (E s) (E i) (uB b i) (2 * eB b i) hck hk (fun t ht => by rw [eR]; exact hbR s hls t ht) (fun t ht => by rw [eT]; exact hbS t ht) (by rw [eT, hS1]; decide) (by omega)
        rw [← hEd, hunf E]
        refine zS ds ?_
        refine wTs ?_
        refine W_seq ?_
        refine W_block ?_
        refine W_seq ?_
        refine W_reg ?_
        refine zE (zA es (zA hcl hgs)) ?_
        repeat refine ⟨by omega, ?_⟩
        refine W_reg ?_
        refine zE (zA ei (zA hcl hgi)) ?_
        repeat refine ⟨by omega, ?_⟩
        rw [← hunf E, hp]
        refine callC_el rfl (by omega) (by omega) (by omega) (mHp_row _ (by omega) (by omega)) (mHp_row _ hin (by omega)) hel ?_
        refine zD ?_
        refine W_ext (mHp 1048576 100000 n k (elimU i c (s + 1) S)) (fun q => by
         rw [hEd]
         exact elU_H (t := i) (s := s) (S := S) (by omega) hls (by omega) (fun _ => rfl) q) ?_
        refine zS es1 ?_
        exact ⟨s + 1, by omega, by omega, by simp [subF, lk], rfl⟩
       ·have ds : decide ((s : Int) < (i : Int)) = false := decide_eq_false (by omega)
        have hsi : s = i := by omega
        rw [hsi]
        rw [hsi] at ds
        refine zS ds ?_
        refine W_cond rfl (fun h => by cases h) (fun _ => W_exit ?_)
        repeat (first | refine W_seq ?_ | refine W_reg ?_ | refine W_regd ?_ | refine W_regs ?_ | refine W_regp ?_ | refine W_block ?_ | refine And.intro (by omega) ?_ | simp (maxSteps := 1000000) (disch := omega) only [cA, cB, cN, FnD.nb, lk, lkH, Dst.onT, Dst.onX, Dst.slot, setF, setH, mapF, mapH, initF, binE, unE, cnt, boundE, newsE, freshE, freshT, opE, rmH, blkQ, frz_us, Nat.reduceEqDiff, Nat.reduceLT, Nat.reduceAdd, Nat.reduceMul, Nat.reduceMod, ↓reduceIte, reduceCtorEq, Nat.reduceLeDiff, e1])
        exact ⟨(elimU i c i S, i + 1), ⟨hE2, hK.trans hK2, hS2⟩, by show ps.length - (i + 1) < ps.length - i; omega, by simp [subF, lk], rfl⟩
  ·have hie : i = ps.length := by omega
   rw [hie] at hE hS
   obtain ⟨r1, r2⟩ := rr_eq hE.isR hK
   have dl : decide ((i : Int) < (ps.length : Int)) = false := decide_eq_false (by omega)
   rw [mHp_congr r2, r1]
   rw [r1] at dl
   repeat (first | refine W_seq ?_ | refine W_reg ?_ | refine W_regd ?_ | refine W_regs ?_ | refine W_regp ?_ | refine W_block ?_ | refine And.intro (by omega) ?_ | simp (maxSteps := 1000000) (disch := omega) only [cA, cB, cN, FnD.nb, lk, lkH, Dst.onT, Dst.onX, Dst.slot, setF, setH, mapF, mapH, initF, binE, unE, cnt, boundE, newsE, freshE, freshT, opE, rmH, blkQ, frz_us, Nat.reduceEqDiff, Nat.reduceLT, Nat.reduceAdd, Nat.reduceMul, Nat.reduceMod, ↓reduceIte, reduceCtorEq, Nat.reduceLeDiff, dl])
   refine W_cond rfl (fun h => by cases h) (fun _ => W_exit ?_)
   refine zR ?_
   exact W_ret (Ret_lent (by omega) rfl (fun p => rfl) ⟨_, rfl, rfl, rfl⟩)
theorem RetP_3x {j k l : Nat} {r s t : DV} {fr : Fr} {H : Hp} (h1 : Exp (lkH H) (lk fr j) r) (h2 : Exp (lkH H) (lk fr k) s) (h3 : Exp (lkH H) (lk fr l) t) : RetP [.t j, .t k, .t l] (.tup [r, s, t]) .ret fr H :=
 ⟨.inr rfl, _, rfl, .tup rfl fun i d x hd hx => by
  match i with
  | 0 => simp at hd hx; subst hd; subst hx; exact h1
  | 1 => simp at hd hx; subst hd; subst hx; exact h2
  | 2 => simp at hd hx; subst hd; subst hx; exact h3
  | i + 3 => simp at hd⟩
structure mtOK (x : List (List XN)) (n k b : Nat) : Prop where
 len : x.length = n
 n1 : n ≤ 90
 k1 : k ≤ 90
 z : n = 0 → k = 0
 row : ∀ i, i < n → (x.getD i []).length = k
 pos : n ≠ 0 → 1 ≤ k
 lm : ∀ i, i < n → ∀ j, j < k → lim ((x.getD i []).getD j default).2.1 ∧ lim ((x.getD i []).getD j default).2.2 ∧ ((x.getD i []).getD j default).2.1.length ≤ 4400 ∧ ((x.getD i []).getD j default).2.2.length ≤ 4400
 sz : MS n k (mtX x) b
theorem mtOK.frm {x : List (List XN)} {n k b : Nat} (h : mtOK x n k b) : frmR (x.map fun r => r.flatMap xnC) = true := by
 have h1 := h.n1
 have h2 := h.k1
 have hl := h.len
 refine frmR_yes (by rw [List.length_map]; omega) fun i hi => ?_
 rw [List.length_map] at hi
 rw [xrs_row hi, xrs_row (by omega), fm_len xnC_len, fm_len xnC_len, h.row i (by omega), h.row 0 (by omega)]
 have := h.pos (by omega)
 omega
theorem mtOK.formed {x : List (List XN)} {n k b : Nat} (h : mtOK x n k b) : PCalls Tryz.prog 104 [.sl 1 (xrs x)] (.bool true) := by
 have := mx_formed_calls (x.map fun r => r.flatMap xnC) (by rw [List.length_map, h.len]; have := h.n1; omega) (fun i => by
  by_cases hi : i < x.length
  ·rw [xrs_row hi, fm_len xnC_len, h.row i (by rw [← h.len]; exact hi)]; have := h.k1; omega
  ·rw [List.getD_eq_getElem?_getD, List.getElem?_eq_none (by rw [List.length_map]; omega)]; exact Nat.zero_le _)
 rw [h.frm] at this
 exact this
theorem mxReduce_calls {x : List (List XN)} {n k b : Nat} (h : mtOK x n k b) (hB : ∀ t, t < n → 3 * eB b t ≤ 140800) (hU : ∀ t, t < n → uB b t + 4 * eB b t ≤ 140800) :
  PCalls Tryz.prog 50 [.sl 1 (xrs x)] (.tup [.sl 1 (mtD n k (rrM n k (mtX x))), .sl 1 (intsD (rrP n k (mtX x))), .int .i64 0]) := by
 have cf := h.formed
 have h1 := h.n1
 have h2 := h.k1
 have cc := mx_copied_rel x n k h.len (by omega) (by omega) h.z h.row h.lm
 have cr := mx_reduce_rel n k b (mtX x) (by omega) (by omega) h.z hB hU h.sz
 refine PCalls_of ismxReduce (by simp [fnmxReduce]) ?_
 unfold codemxReduce
 refine zR ?_
 refine cP cf ?_
 refine zR ?_
 refine wFs ?_
 refine zR ?_
 refine callC_mat rfl 9 100000 n k (mtX x) (by omega) (by omega) (by omega) rfl (fun p _ => rfl) cc (mHp 9 100000 n k (mtX x)) (fun p => ?_) ?_
 ·by_cases e : p = 9 ∨ (100000 ≤ p ∧ p < 100000 + 10000)
  ·rw [if_pos e]
  ·rw [if_neg e, mHp_lk, if_neg (by omega), if_neg (by omega)]; rfl
 refine zR ?_
 refine callC_lendM rfl 9 100000 n k (mtX x) (Q := redQ n k (mtX x)) (by omega) (by omega) (by omega) (fun _ => rfl) ?_ cr ?_
 ·rintro M' r ⟨_, rfl⟩; simp [DV.rf]
 rintro M' r ⟨rfl, rfl⟩
 have hpc := pgN_c (c := 9) (b := 100000) (H := mHp 9 100000 n k (mtX x))
 repeat (first | refine W_seq ?_ | refine W_reg ?_ | refine W_regd ?_ | refine W_regs ?_ | refine W_regp ?_ | refine W_block ?_ | refine And.intro (by omega) ?_ | simp (maxSteps := 1000000) (disch := omega) only [cA, cB, cN, FnD.nb, lk, lkH, Dst.onT, Dst.onX, Dst.slot, setF, setH, mapF, mapH, initF, binE, unE, cnt, boundE, newsE, freshE, freshT, opE, rmH, blkQ, frz_us, Nat.reduceEqDiff, Nat.reduceLT, Nat.reduceAdd, Nat.reduceMul, Nat.reduceMod, ↓reduceIte, reduceCtorEq, Nat.reduceLeDiff, rn, hpc])
 exact W_ret (RetP_3x (Exp_mat (b := 100000) (mHp_c _ _ _ _ _) fun i hi => mHp_row _ hi (by omega)) (.imm rfl) (.imm rfl))
set_option maxHeartbeats 2000000 in
theorem mxTranspose_calls {n k m : Nat} {M : Mt} (h1 : n ≤ 90) (h2 : k ≤ 90) (hz : n = 0 → k = 0) (hp : n ≠ 0 → 1 ≤ k) (hM : MS n k M m) (hm : m ≤ 140800) : PCalls Tryz.prog 51 [.sl 1 (mtD n k M)] (.tup [.sl 1 (mtD k n fun i j => M j i), .int .i64 0]) := by
 have hok : mtOK (xOf n k M) n k m := ⟨xOf_len n k M, h1, h2, hz, fun i hi => xOf_rowl hi M, hp, xOf_ok hM hm, fun i hi j hj => by rw [xOf_M M i hi j hj]; exact hM i hi j hj⟩
 have cf := hok.formed
 rw [xOf_D] at cf
 have cc := mxCol n k M (by omega) (by omega) hz
 have cz := mx_zero_rel k n (by omega) (by omega)
 have cp := PCalls_of_mat (by omega) (mx_copied_rel (xOf n k M) n k hok.len (by omega) (by omega) hz hok.row hok.lm)
 rw [xOf_D, mtD_congr (xOf_M M)] at cp
 have hml := mtD_len n k M
 refine PCalls_of ismxTranspose (by simp [fnmxTranspose]) ?_
 unfold codemxTranspose
 refine zR ?_
 refine cP cf ?_
 refine zR ?_
 refine wFs ?_
 refine zR ?_
 refine cP cc ?_
 refine zS hml ?_
 refine callC_mat rfl 16 100000 k n (fun _ _ => 0) (by omega) (by omega) (by omega) rfl (fun p _ => rfl) cz (mHp 16 100000 k n fun _ _ => 0) (fun p => ?_) ?_
 ·by_cases e : p = 16 ∨ (100000 ≤ p ∧ p < 100000 + 10000)
  ·rw [if_pos e]
  ·rw [if_neg e, mHp_lk, if_neg (by omega), if_neg (by omega)]; rfl
 repeat (first | refine W_seq ?_ | refine W_reg ?_ | refine W_regd ?_ | refine W_regs ?_ | refine W_regp ?_ | refine W_block ?_ | refine And.intro (by omega) ?_ | simp (maxSteps := 1000000) (disch := omega) only [cA, cB, cN, FnD.nb, lk, lkH, Dst.onT, Dst.onX, Dst.slot, setF, setH, mapF, mapH, initF, binE, unE, cnt, boundE, newsE, freshE, freshT, opE, rmH, blkQ, frz_us, Nat.reduceEqDiff, Nat.reduceLT, Nat.reduceAdd, Nat.reduceMul, Nat.reduceMod, ↓reduceIte, reduceCtorEq, Nat.reduceLeDiff])
 refine cP cp ?_
 repeat (first | refine W_seq ?_ | refine W_reg ?_ | refine W_regd ?_ | refine W_regs ?_ | refine W_regp ?_ | refine W_block ?_ | refine And.intro (by omega) ?_ | simp (maxSteps := 1000000) (disch := omega) only [cA, cB, cN, FnD.nb, lk, lkH, Dst.onT, Dst.onX, Dst.slot, setF, setH, mapF, mapH, initF, binE, unE, cnt, boundE, newsE, freshE, freshT, opE, rmH, blkQ, frz_us, Nat.reduceEqDiff, Nat.reduceLT, Nat.reduceAdd, Nat.reduceMul, Nat.reduceMod, ↓reduceIte, reduceCtorEq, Nat.reduceLeDiff, hml])
 refine W_loop (σ := Nat) (fun i => [(4, .osl 1 16 0 k), (18, .sl 1 (mtD n k M)), (19, .int .i64 n), (20, .int .i64 i)]) (fun i => mHp 16 100000 k n (trnP M i 0)) (fun i => i ≤ n) (fun i => n - i) 0 (Nat.zero_le _) ?_ ?_ ?_
 ·simp [subF, lk]
 ·have : trnP M 0 0 = fun _ _ => 0 := by funext r c; unfold trnP; rw [if_neg (by omega)]
  rw [this]
 ·intro i hi
  try simp only at hi ⊢
  by_cases hlt : i < n
  ·have dl : decide ((i : Int) < (n : Int)) = true := decide_eq_true (by omega)
   have ei : (i : Int).toNat = i := Int.toNat_natCast i
   have e1 : ((i : Int) + 1) = ((i + 1 : Nat) : Int) := by omega
   have hg := mtD_get (k := k) hlt M .undef
   have hkl := rwC_len k (M i)
   have hkk : k * 3 / 3 = k := by omega
   refine zS dl ?_
   refine wTs ?_
   refine W_seq ?_
   refine W_block ?_
   refine zS (zA ei (zA hml (zA hg (zA hkl hkk)))) ?_
   refine W_loop (σ := Nat) (fun j => [(4, .osl 1 16 0 k), (5, .int .i64 i), (18, .sl 1 (mtD n k M)), (19, .int .i64 n), (20, .int .i64 i), (25, .sl 3 (rwC k (M i))), (26, .int .i64 k), (27, .int .i64 j)]) (fun j => mHp 16 100000 k n (trnP M i j)) (fun j => j ≤ k) (fun j => k - j) 0 (Nat.zero_le _) ?_ rfl ?_
   ·simp [subF, lk]
   ·intro j hj
    try simp only at hj ⊢
    by_cases hlj : j < k
    ·have dj : decide ((j : Int) < (k : Int)) = true := decide_eq_true (by omega)
     have ej : (j : Int).toNat = j := Int.toNat_natCast j
     have e2 : ((j : Int) + 1) = ((j + 1 : Nat) : Int) := by omega
     have hw := rwC_win hlj (M i)
     have hcn : (DV.agg (numC (M i j))).cells? = some (numC (M i j)) := rfl
     have hn3 := numC_len (M i j)
     have ht3 : (numC (M i j)).take 3 = numC (M i j) := rfl
     have hCl := cM_len 100000 n k
     have hCg := cM_get (b := 100000) (k := n) hlj .undef
     obtain ⟨p, hp⟩ : ∃ p, p = 100000 + j := ⟨_, rfl⟩
     have n8 : ¬ 8 = p := by omega
     have n16 : ¬ 16 = p := by omega
     have m8 : ¬ p < 8 := by omega
     have m16 : ¬ p < 16 := by omega
     rw [← hp] at hCg
     have hDp : lkH (DM 100000 k fun r => rwC n (trnP M i j r)) p = some (rwC n (trnP M i j j)) := by rw [hp]; exact DM_at hlj _
     have hrl := rwC_len n (trnP M i j j)
     have hst := rwC_set hlt (trnP M i j j) (M i j)
     have hD8 := DM_no (b := 100000) (n := k) (p := 8) (by omega) fun r => rwC n (trnP M i j r)
     have hunf : mHp 16 100000 k n (trnP M i j) = (16, cM 100000 n k) :: DM 100000 k fun r => rwC n (trnP M i j r) := rfl
     rw [hunf]
     generalize hD : (DM 100000 k fun r => rwC n (trnP M i j r)) = D at *
     refine zS dj ?_
     refine wTs ?_
     refine W_seq ?_
     refine W_block ?_
     refine W_seq ?_
     refine W_reg ?_
     refine zE (zA ej (zA hkl (zA hw (zA hcn (zA hn3 (zA ht3 (zA @cS (zA hD8 (zA @Option.isNone_none.{0} @List.drop_zero.{0}))))))))) ?_
     repeat refine ⟨by omega, ?_⟩
     refine W_regd ?_
     refine zE (zA ei (zA ej (zA hCl (zA hCg (zA n8 (zA n16 (zA m8 (zA m16 (zA hDp (zA hrl (zA hcn (zA hn3 (zA ht3 (zA @cS (zA hst @List.drop_zero.{0}))))))))))))))) ?_
     repeat refine ⟨by omega, ?_⟩
     refine W_freeze 8 (cells := numC (M i j)) rfl (List.all_eq_true.2 (numC_rf _)) ?_
     have hnx := trnP_next M i j
     refine W_ext (mHp 16 100000 k n (trnP M i (j + 1))) (rm_mat (by omega) (by omega) fun q hq => ?_) ?_
     ·show lkH ((8, numC (M i j)) :: _) q = _
      simp only [lkH]
      rw [if_neg (Ne.symm hq), hp]
      exact setM_H hD hlj (by omega) (rwC_congr fun c _ => hnx.1 c) (fun r _ hr c _ => hnx.2 r c hr) q
     refine zS (zA e2 @frz_osl_ne) ?_
     exact ⟨j + 1, by omega, by omega, by simp [subF, lk], rfl⟩
    ·have dj : decide ((j : Int) < (k : Int)) = false := decide_eq_false (by omega)
     have hfin : ∀ r, r < k → ∀ c, c < n → trnP M i j r c = trnP M (i + 1) 0 r c := fun r hr c _ => by
      unfold trnP
      by_cases e : c < i
      ·rw [if_pos (.inl e), if_pos (.inl (by omega))]
      ·by_cases e' : c = i
       ·rw [if_pos (.inr ⟨e', by omega⟩), if_pos (.inl (by omega))]
       ·rw [if_neg (by omega), if_neg (by omega)]
     rw [mHp_congr hfin]
     refine zS dj ?_
     refine W_cond rfl (fun h => by cases h) (fun _ => W_exit ?_)
     refine zS e1 ?_
     exact ⟨i + 1, by omega, by omega, by simp [subF, lk], rfl⟩
  ·have dl : decide ((i : Int) < (n : Int)) = false := decide_eq_false (by omega)
   have hfin : ∀ r, r < k → ∀ c, c < n → trnP M i 0 r c = (fun r c => M c r) r c := fun r hr c hc => by
    unfold trnP; rw [if_pos (.inl (by omega))]
   rw [mHp_congr hfin]
   refine zS dl ?_
   refine W_cond rfl (fun h => by cases h) (fun _ => W_exit ?_)
   refine zR ?_
   exact W_ret (RetP_2 (Exp_mat (b := 100000) (mHp_c _ _ _ _ _) fun i hi => mHp_row _ hi (by omega)) (.imm rfl))
theorem slIndexI_calls (ps : List Nat) (c : Nat) (hl : ps.length ≤ 1000000) : PCalls Tryz.prog 109 [.sl 1 (intsD ps), .int .i64 c] (.int .i64 (ixP (fun p => decide (c = p)) ps)) := by
 have hll := intsD_len ps
 refine PCalls_of isslIndexI (by simp [fnslIndexI]) ?_
 unfold codeslIndexI
 refine zS hll ?_
 refine W_loop (σ := Nat) (fun i => [(0, .sl 1 (intsD ps)), (1, .int .i64 c), (7, .int .i64 ps.length), (8, .int .i64 i)]) (fun _ => []) (fun i => i ≤ ps.length ∧ ∀ j, j < i → (fun p => decide (c = p)) (ps.getD j 0) = false) (fun i => ps.length - i) 0 ⟨Nat.zero_le _, by simp⟩ ?_ rfl ?_
 ·simp [subF, lk]
 ·rintro i ⟨hi, hall⟩
  try simp only at hi hall ⊢
  by_cases hlt : i < ps.length
  ·have dl : decide ((i : Int) < (ps.length : Int)) = true := decide_eq_true (by omega)
   have ei : (i : Int).toNat = i := Int.toNat_natCast i
   have e1 : ((i : Int) + 1) = ((i + 1 : Nat) : Int) := by omega
   have hg := intsD_get hlt .undef
   by_cases he : c = ps.getD i 0
   ·have hx := ixP_at (p := fun p => decide (c = p)) 0 hlt (decide_eq_true he) hall
    generalize ps.getD i 0 = y at *
    have de : decide ((c : Int) = (y : Int)) = true := decide_eq_true (by omega)
    rw [hx]
    refine zS dl ?_
    refine wTs ?_
    refine zS (zA ei (zA hg (zA hll de))) ?_
    refine wT ?_
    refine zR ?_
    exact W_ret (RetP_1 (.imm rfl))
   ·have hnx : ∀ j, j < i + 1 → (fun p => decide (c = p)) (ps.getD j 0) = false := fun j hj => by
     rcases Nat.lt_or_ge j i with h | h
     ·exact hall j h
     ·obtain rfl : j = i := by omega
      exact decide_eq_false he
    generalize ps.getD i 0 = y at *
    have de : decide ((c : Int) = (y : Int)) = false := decide_eq_false (by omega)
    refine zS dl ?_
    refine wTs ?_
    repeat (first | refine W_seq ?_ | refine W_reg ?_ | refine W_regd ?_ | refine W_regs ?_ | refine W_regp ?_ | refine W_block ?_ | refine And.intro (by omega) ?_ | simp (maxSteps := 1000000) (disch := omega) only [cA, cB, cN, FnD.nb, lk, lkH, Dst.onT, Dst.onX, Dst.slot, setF, setH, mapF, mapH, initF, binE, unE, cnt, boundE, newsE, freshE, freshT, opE, rmH, blkQ, frz_us, Nat.reduceEqDiff, Nat.reduceLT, Nat.reduceAdd, Nat.reduceMul, Nat.reduceMod, ↓reduceIte, reduceCtorEq, Nat.reduceLeDiff, ei, hg, hll, de])
    refine wFs ?_
    repeat (first | refine W_seq ?_ | refine W_reg ?_ | refine W_regd ?_ | refine W_regs ?_ | refine W_regp ?_ | refine W_block ?_ | refine And.intro (by omega) ?_ | simp (maxSteps := 1000000) (disch := omega) only [cA, cB, cN, FnD.nb, lk, lkH, Dst.onT, Dst.onX, Dst.slot, setF, setH, mapF, mapH, initF, binE, unE, cnt, boundE, newsE, freshE, freshT, opE, rmH, blkQ, frz_us, Nat.reduceEqDiff, Nat.reduceLT, Nat.reduceAdd, Nat.reduceMul, Nat.reduceMod, ↓reduceIte, reduceCtorEq, Nat.reduceLeDiff, e1])
    exact ⟨i + 1, ⟨by omega, hnx⟩, by omega, by simp [subF, lk]⟩
  ·have dl : decide ((i : Int) < (ps.length : Int)) = false := decide_eq_false (by omega)
   rw [ixP_no (p := fun p => decide (c = p)) 0 fun j hj => hall j (by omega)]
   repeat (first | refine W_seq ?_ | refine W_reg ?_ | refine W_regd ?_ | refine W_regs ?_ | refine W_regp ?_ | refine W_block ?_ | refine And.intro (by omega) ?_ | simp (maxSteps := 1000000) (disch := omega) only [cA, cB, cN, FnD.nb, lk, lkH, Dst.onT, Dst.onX, Dst.slot, setF, setH, mapF, mapH, initF, binE, unE, cnt, boundE, newsE, freshE, freshT, opE, rmH, blkQ, frz_us, Nat.reduceEqDiff, Nat.reduceLT, Nat.reduceAdd, Nat.reduceMul, Nat.reduceMod, ↓reduceIte, reduceCtorEq, Nat.reduceLeDiff, dl])
   refine W_cond rfl (fun h => by cases h) (fun _ => W_exit ?_)
   repeat (first | refine W_seq ?_ | refine W_reg ?_ | refine W_regd ?_ | refine W_regs ?_ | refine W_regp ?_ | refine W_block ?_ | refine And.intro (by omega) ?_ | simp (maxSteps := 1000000) (disch := omega) only [cA, cB, cN, FnD.nb, lk, lkH, Dst.onT, Dst.onX, Dst.slot, setF, setH, mapF, mapH, initF, binE, unE, cnt, boundE, newsE, freshE, freshT, opE, rmH, blkQ, frz_us, Nat.reduceEqDiff, Nat.reduceLT, Nat.reduceAdd, Nat.reduceMul, Nat.reduceMod, ↓reduceIte, reduceCtorEq, Nat.reduceLeDiff])
   exact W_ret (RetP_1 (.imm rfl))
theorem slContainsI_calls (ps : List Nat) (c : Nat) (hl : ps.length ≤ 1000000) : PCalls Tryz.prog 52 [.sl 1 (intsD ps), .int .i64 c] (.bool (decide (c ∈ ps))) := by
 have ci := slIndexI_calls ps c hl
 have hx := ixP_any (fun p => decide (c = p)) ps
 rw [any_memN] at hx
 refine PCalls_of isslContainsI (by simp [fnslContainsI]) ?_
 unfold codeslContainsI
 refine zR ?_
 refine cP ci ?_
 refine zS hx ?_
 exact W_ret (RetP_1 (.imm rfl))
set_option maxHeartbeats 2000000 in
theorem dgAlias_calls {x : List (List XN)} {n k b : Nat} (h : mtOK x n k b) (hB : ∀ t, t < n → 3 * eB b t ≤ 140800) (hU : ∀ t, t < n → uB b t + 4 * eB b t ≤ 140800) (hG : ∀ t, t ≤ n → gB b t ≤ 140800) :
  PCalls Tryz.prog 21 [.sl 1 (xrs x)] (aliD n k (mtX x)) := by
 have cr := mxReduce_calls h hB hU
 have hpn := rrP_len n k (mtX x)
 have ct := mxTranspose_calls (M := rrM n k (mtX x)) h.n1 h.k1 h.z h.pos (rr_size h.sz) (hG _ hpn)
 have h1 := h.n1
 have h2 := h.k1
 unfold aliD
 have hbl : ((List.range k).map fun c => DV.bool (decide (c ∈ rrP n k (mtX x)))) = blD (rrP n k (mtX x)) k := rfl
 rw [hbl]
 generalize rrM n k (mtX x) = R at *
 generalize rrP n k (mtX x) = ps at *
 have hil := intsD_len ps
 have htl := mtD_len k n fun i j => R j i
 refine PCalls_of isdgAlias (by simp [fndgAlias]) ?_
 unfold codedgAlias
 refine W_seq ?_
 refine W_reg ?_
 refine zD ?_
 refine W_own 2 1 200 rfl rfl ?_
 refine W_own 3 1 201 rfl rfl ?_
 refine zR ?_
 refine cP cr ?_
 refine zR ?_
 refine wFs ?_
 refine zR ?_
 refine cP ct ?_
 refine zS htl ?_
 refine W_loop (σ := Nat) (fun c => [(2, .osl 1 200 0 c), (3, .osl 1 201 0 c), (4, .int .i64 0), (6, .sl 1 (intsD ps)), (25, .sl 1 (mtD k n fun i j => R j i)), (26, .int .i64 k), (27, .int .i64 c)]) (fun c => [(200, blD ps c), (201, mtD c ps.length fun i j => R j i)]) (fun c => c ≤ k) (fun c => k - c) 0 (Nat.zero_le _) ?_ ?_ ?_
 ·simp [subF, lk]
 ·rfl
 ·intro c hc
  try simp only at hc ⊢
  by_cases hlt : c < k
  ·have dl : decide ((c : Int) < (k : Int)) = true := decide_eq_true (by omega)
   have ec : (c : Int).toNat = c := Int.toNat_natCast c
   have ep : (ps.length : Int).toNat = ps.length := Int.toNat_natCast _
   have e1 : ((c : Int) + 1) = ((c + 1 : Nat) : Int) := by omega
   have hg := mtD_get (k := n) hlt (fun i j => R j i) .undef
   have hrl := rwC_len n fun j => R j c
   have hcnt : n * 3 / 3 = n := by omega
   have htk := rwC_take hpn fun j => R j c
   have ck := slContainsI_calls ps c (by omega)
   have hb1 := blD_len ps c
   have hb2 := blD_succ ps c
   have hb3 := map_purge 200 (blD_rf ps (c + 1))
   have hb4 := map_purge 201 (blD_rf ps (c + 1))
   have hm1 := mtD_len c ps.length fun i j => R j i
   have hm2 := mtD_succ c ps.length fun i j => R j i
   have hm3 := map_purge 200 (mtD_rf c ps.length fun i j => R j i)
   have hm4 := map_purge 201 (mtD_rf (c + 1) ps.length fun i j => R j i)
   refine zS dl ?_
   refine wTs ?_
   refine W_seq ?_
   refine W_block ?_
   refine zS (zA ec (zA htl hg)) ?_
   refine cP ck ?_
   have hl1 : ∀ z : Bool, laid [DV.bool false] [(0, 1, .bool z)] = some [.bool z] := fun _ => rfl
   have hl2 : ∀ X, laid [DV.nils] [(0, 1, .sl 3 X)] = some [.sl 3 X] := fun _ => rfl
   refine zS (zA hb1 hl1) ?_
   refine ⟨by simp [DV.rf], ⟨by omega, by omega, fun h => h, by simp [DV.one]⟩, ?_⟩
   rw [hb2, hb3, hm3]
   refine zS (zA hb1 (zA hl1 (zA hil (zA ep (zA hrl (zA hcnt (zA hm1 (zA hl2 (zA htk (zA @List.drop_zero.{0} @Nat.zero_mul)))))))))) ?_
   refine ⟨by simp [DV.rf], ⟨by omega, by omega, fun h => h, by simp [DV.one]⟩, ?_⟩
   rw [hb4, hm2, hm4]
   refine zS e1 ?_
   exact ⟨c + 1, by omega, by omega, by simp [subF, lk], rfl⟩
  ·obtain rfl : c = k := by omega
   have dl : decide ((c : Int) < (c : Int)) = false := decide_eq_false (by omega)
   refine zS dl ?_
   refine W_cond rfl (fun h => by cases h) (fun _ => W_exit ?_)
   refine zR ?_
   exact W_ret (RetP_3x (Exp_flat rfl (by decide) (by rw [blD_len]; omega) (blD_rf _ _)) (Exp_flat rfl (by decide) (by rw [mtD_len]; omega) (mtD_rf _ _ _)) (.imm rfl))
theorem pTakeList_calls (l : List XN) (hl : l.length ≤ 1000) (ho : ∀ j, j < l.length → lim (l.getD j default).2.1 ∧ lim (l.getD j default).2.2 ∧ (l.getD j default).2.1.length ≤ 4400 ∧ (l.getD j default).2.2.length ≤ 4400) :
  PCalls Tryz.prog 237 [.sl 3 (l.flatMap xnC)] (.sl 3 (rwC l.length fun j => xnV (l.getD j default))) := by
 have hln : (l.flatMap xnC).length / 3 = l.length := by rw [fm_len xnC_len]; omega
 have hlen := fm_len xnC_len l
 refine PCalls_of ispTakeList (by simp [fnpTakeList]) ?_
 unfold codepTakeList
 refine zR ?_
 refine W_own 3 3 200 rfl rfl ?_
 repeat (first | refine W_seq ?_ | refine W_reg ?_ | refine W_regd ?_ | refine W_regs ?_ | refine W_regp ?_ | refine W_block ?_ | refine And.intro (by omega) ?_ | simp (maxSteps := 1000000) (disch := omega) only [cA, cB, cN, FnD.nb, lk, lkH, Dst.onT, Dst.onX, Dst.slot, setF, setH, mapF, mapH, initF, binE, unE, cnt, boundE, newsE, freshE, freshT, opE, rmH, blkQ, frz_us, Nat.reduceEqDiff, Nat.reduceLT, Nat.reduceAdd, Nat.reduceMul, Nat.reduceMod, ↓reduceIte, reduceCtorEq, Nat.reduceLeDiff])
 refine W_loop (σ := Nat) (fun i => [(0, .sl 3 (l.flatMap xnC)), (3, .osl 3 200 0 i), (4, .int .i64 i)]) (fun i => [(200, rwC i fun j => xnV (l.getD j default))]) (fun i => i ≤ l.length) (fun i => l.length - i) 0 (Nat.zero_le _) ?_ rfl ?_
 ·simp [subF, lk]
 ·intro i hi
  try simp only at hi ⊢
  by_cases hlt : i < l.length
  ·have dl : decide ((i : Int) < (l.length : Int)) = true := decide_eq_true (by omega)
   have ei : (i : Int).toNat = i := Int.toNat_natCast i
   have e1 : ((i : Int) + 1) = ((i + 1 : Nat) : Int) := by omega
   have hw : ((l.flatMap xnC).drop (i * 3)).take 3 = xnC (l.getD i default) := fm_win (j := 0) (k := 3) xnC_len (default : XN) hlt (Nat.le_refl _)
   obtain ⟨l1, l2, l3, l4⟩ := ho i hlt
   have ct : PCalls Tryz.prog 43 [.agg (xnC (l.getD i default))] (.agg (numC (xnV (l.getD i default)))) := pTake_calls _ _ _ (by omega) (by omega) l1 l2
   have hXr := xnC_rf (l.getD i default)
   have hrl := rwC_len i fun j => xnV (l.getD j default)
   have hsn : rwC i (fun j => xnV (l.getD j default)) ++ numC (xnV (l.getD i default)) = rwC (i + 1) fun j => xnV (l.getD j default) := by
    unfold rwC; rw [nums_snoc, rwL_succ]
   have hpg := map_purge 200 (rwC_rf (i + 1) fun j => xnV (l.getD j default))
   have hld : laid [DV.bool false, .nils, .nils] [(0, 3, .agg (numC (xnV (l.getD i default))))] = some (numC (xnV (l.getD i default))) := rfl
   have hq3 := numC_len (xnV (l.getD i default))
   have hq4 := numC_one (xnV (l.getD i default))
   have hq5 := numC_rf (xnV (l.getD i default))
   generalize xnV (l.getD i default) = q at *
   generalize xnC (l.getD i default) = X at *
   have hXa : ([DV.agg X].all DV.rf) = true := by rw [List.all_cons, DV.rf_agg, List.all_eq_true.2 hXr]; rfl
   generalize numC q = QC at *
   repeat (first | refine W_seq ?_ | refine W_reg ?_ | refine W_regd ?_ | refine W_regs ?_ | refine W_regp ?_ | refine W_block ?_ | refine And.intro (by omega) ?_ | simp (maxSteps := 1000000) (disch := omega) only [cA, cB, cN, FnD.nb, lk, lkH, Dst.onT, Dst.onX, Dst.slot, setF, setH, mapF, mapH, initF, binE, unE, cnt, boundE, newsE, freshE, freshT, opE, rmH, blkQ, frz_us, Nat.reduceEqDiff, Nat.reduceLT, Nat.reduceAdd, Nat.reduceMul, Nat.reduceMod, ↓reduceIte, reduceCtorEq, Nat.reduceLeDiff, dl, hln])
   refine wTs ?_
   repeat (first | refine W_seq ?_ | refine W_reg ?_ | refine W_regd ?_ | refine W_regs ?_ | refine W_regp ?_ | refine W_block ?_ | refine And.intro (by omega) ?_ | simp (maxSteps := 1000000) (disch := omega) only [cA, cB, cN, FnD.nb, lk, lkH, Dst.onT, Dst.onX, Dst.slot, setF, setH, mapF, mapH, initF, binE, unE, cnt, boundE, newsE, freshE, freshT, opE, rmH, blkQ, frz_us, Nat.reduceEqDiff, Nat.reduceLT, Nat.reduceAdd, Nat.reduceMul, Nat.reduceMod, ↓reduceIte, reduceCtorEq, Nat.reduceLeDiff, ei, hlen, hw, List.drop_zero])
   refine callC_pure ct hXa ?_
   repeat (first | refine W_seq ?_ | refine W_reg ?_ | refine W_regd ?_ | refine W_regs ?_ | refine W_regp ?_ | refine W_block ?_ | refine And.intro (by omega) ?_ | simp (maxSteps := 1000000) (disch := omega) only [cA, cB, cN, FnD.nb, lk, lkH, Dst.onT, Dst.onX, Dst.slot, setF, setH, mapF, mapH, initF, binE, unE, cnt, boundE, newsE, freshE, freshT, opE, rmH, blkQ, frz_us, Nat.reduceEqDiff, Nat.reduceLT, Nat.reduceAdd, Nat.reduceMul, Nat.reduceMod, ↓reduceIte, reduceCtorEq, Nat.reduceLeDiff, hld, hrl, hq3])
   refine ⟨⟨by omega, by omega, fun h => h, hq4⟩, ?_⟩
   rw [hsn, hpg]
   refine zS e1 ?_
   exact ⟨i + 1, by omega, by omega, by simp [subF, lk], rfl⟩
  ·have dl : decide ((i : Int) < (l.length : Int)) = false := decide_eq_false (by omega)
   obtain rfl : i = l.length := by omega
   refine zS (zA dl hln) ?_
   refine W_cond rfl (fun h => by cases h) (fun _ => W_exit ?_)
   refine zR ?_
   exact W_ret (RetP_1 (Exp_flat rfl (by decide) (rwC_len _ _) (rwC_rf _ _)))
theorem mrTake_M {x : List (List XN)} {n k b : Nat} (h : mtOK x n k b) : MRel Tryz.prog 184 [.sl 1 (xrs x)] [] fun r H' => r = .osl 1 200 0 n ∧ H' = [(200, mtD n k (mtX x))] := by
 have hxl := xrs_len x
 rw [h.len] at hxl
 have h1 := h.n1
 have h2 := h.k1
 refine MRel_of ismrTake (by simp [fnmrTake]) ?_
 unfold codemrTake
 refine zR ?_
 refine W_own 3 1 200 rfl rfl ?_
 refine zR ?_
 refine W_loop (σ := Nat) (fun i => [(0, .sl 1 (xrs x)), (3, .osl 1 200 0 i), (4, .int .i64 i)]) (fun i => [(200, mtD i k (mtX x))]) (fun i => i ≤ n) (fun i => n - i) 0 (Nat.zero_le _) ?_ rfl ?_
 ·simp [subF, lk]
 ·intro i hi
  try simp only at hi ⊢
  by_cases hlt : i < n
  ·have dl : decide ((i : Int) < (n : Int)) = true := decide_eq_true (by omega)
   have ei : (i : Int).toNat = i := Int.toNat_natCast i
   have e1 : ((i : Int) + 1) = ((i + 1 : Nat) : Int) := by omega
   have hg := xrs_get (x := x) (i := i) (by rw [h.len]; exact hlt) .undef
   have hrow := h.row i hlt
   have ct := pTakeList_calls (x.getD i []) (by omega) (fun j hj => h.lm i hlt j (by omega))
   rw [hrow] at ct
   have ct' : PCalls Tryz.prog 237 [.sl 3 ((x.getD i []).flatMap xnC)] (.sl 3 (rwC k (mtX x i))) := ct
   have hll := mtD_len i k (mtX x)
   have hsn := mtD_succ i k (mtX x)
   have hpg := map_purge 200 (mtD_rf (i + 1) k (mtX x))
   have hld : ∀ X, laid [DV.nils] [(0, 1, .sl 3 X)] = some [.sl 3 X] := fun _ => rfl
   refine zS (zA dl hxl) ?_
   refine wTs ?_
   refine zS (zA ei (zA hxl hg)) ?_
   refine cP ct' ?_
   refine zS (zA hld hll) ?_
   refine ⟨by simp [DV.rf], ⟨by omega, by omega, fun h => h, by simp [DV.one]⟩, ?_⟩
   rw [hsn, hpg]
   refine zS e1 ?_
   exact ⟨i + 1, by omega, by omega, by simp [subF, lk], rfl⟩
  ·have dl : decide ((i : Int) < (n : Int)) = false := decide_eq_false (by omega)
   obtain rfl : i = n := by omega
   refine zS (zA dl hxl) ?_
   refine W_cond rfl (fun h => by cases h) (fun _ => W_exit ?_)
   refine zR ?_
   exact W_ret (Ret_new rfl rfl (mtD_rf _ _ _))
theorem pMulN {x y : Rat} {m p : Nat} (h1 : BS x m) (h2 : BS y p) (hm : m ≤ 140800) (hp : p ≤ 140800) : PCalls Tryz.prog 27 [.agg (numC x), .agg (numC y)] (.agg (numC (x * y))) := pMulL x y (goodB h1 hm) (goodB h2 hp)
theorem pAddN {x y : Rat} {m p : Nat} (h1 : BS x m) (h2 : BS y p) (hm : m ≤ 140800) (hp : p ≤ 140800) : PCalls Tryz.prog 26 [.agg (numC x), .agg (numC y)] (.agg (numC (x + y))) := pAddL x y (goodB h1 hm) (goodB h2 hp)
theorem pQuoN {x y : Rat} {m p : Nat} (hy : y ≠ 0) (h1 : BS x m) (h2 : BS y p) (hm : m ≤ 140800) (hp : p ≤ 140800) : PCalls Tryz.prog 187 [.agg (numC x), .agg (numC y)] (.agg (numC (x / y))) := pQuoL x y hy (goodB h1 hm) (goodB h2 hp)
theorem pNegN {x : Rat} {m : Nat} (h1 : BS x m) (hm : m ≤ 288000) : PCalls Tryz.prog 185 [.agg (numC x)] (.agg (numC (-x))) := pNegL x (RB_bs h1 (by omega))
theorem pSignN {x : Rat} {m : Nat} (h1 : BS x m) (hm : m ≤ 288000) : PCalls Tryz.prog 28 [.agg (numC x)] (.int .i64 x.num.sign) := pSignL x (RB_bs h1 (by omega))
theorem rwC_snoc (i : Nat) (f : Nat → Rat) : rwC i f ++ numC (f i) = rwC (i + 1) f := by unfold rwC; rw [nums_snoc, rwL_succ]
theorem mrTimes_calls {k m p : Nat} {f : Nat → Rat} {c : Rat} (hk : k ≤ 1000) (hf : ∀ j, j < k → BS (f j) m) (hc : BS c p) (hm : m ≤ 140800) (hp : p ≤ 140800) : PCalls Tryz.prog 186 [.sl 3 (rwC k f), .agg (numC c)] (.sl 3 (rwC k fun j => f j * c)) := by
 have hlen := rwC_len k f
 have hln : k * 3 / 3 = k := by omega
 have hcc : (DV.agg (numC c)).cells? = some (numC c) := rfl
 have hn3 := numC_len c
 have ht3 : (numC c).take 3 = numC c := rfl
 have hcr := numC_rf c
 refine PCalls_of ismrTimes (by simp [fnmrTimes]) ?_
 unfold codemrTimes
 refine zS hcc ?_
 refine W_own 5 3 200 rfl rfl ?_
 refine zR ?_
 refine W_loop (σ := Nat) (fun i => [(0, .sl 3 (rwC k f)), (3, .ptr 3 0), (5, .osl 3 200 0 i), (6, .int .i64 i)]) (fun i => [(3, numC c), (200, rwC i fun j => f j * c)]) (fun i => i ≤ k) (fun i => k - i) 0 (Nat.zero_le _) ?_ rfl ?_
 ·simp [subF, lk]
 ·intro i hi
  try simp only at hi ⊢
  by_cases hlt : i < k
  ·have dl : decide ((i : Int) < (k : Int)) = true := decide_eq_true (by omega)
   have ei : (i : Int).toNat = i := Int.toNat_natCast i
   have e1 : ((i : Int) + 1) = ((i + 1 : Nat) : Int) := by omega
   have hw := rwC_win hlt f
   have ct := pMulN (hf i hlt) hc hm hp
   have hrl := rwC_len i fun j => f j * c
   have hsn := rwC_snoc i fun j => f j * c
   have hpg := map_purge 200 (rwC_rf (i + 1) fun j => f j * c)
   have hpc := map_purge 200 hcr
   have hq := numC_one (f i * c)
   have hld : laid [DV.bool false, .nils, .nils] [(0, 3, .agg (numC (f i * c)))] = some (numC (f i * c)) := rfl
   have hq3 := numC_len (f i * c)
   refine zS (zA dl (zA hlen hln)) ?_
   refine wTs ?_
   repeat (first | refine W_seq ?_ | refine W_reg ?_ | refine W_regd ?_ | refine W_regs ?_ | refine W_regp ?_ | refine W_block ?_ | refine And.intro (by omega) ?_ | simp (maxSteps := 1000000) (disch := omega) only [cA, cB, cN, FnD.nb, lk, lkH, Dst.onT, Dst.onX, Dst.slot, setF, setH, mapF, mapH, initF, binE, unE, cnt, boundE, newsE, freshE, freshT, opE, rmH, blkQ, frz_us, Nat.reduceEqDiff, Nat.reduceLT, Nat.reduceAdd, Nat.reduceMul, Nat.reduceMod, ↓reduceIte, reduceCtorEq, Nat.reduceLeDiff, ei, hlen, hw, hn3, ht3, List.drop_zero])
   refine cP ct ?_
   have h33 : 3 / 3 = 1 := rfl
   have hp3 : purge 200 (.ptr 3 0) = .ptr 3 0 := by simp [purge, DV.has]
   repeat (first | refine W_seq ?_ | refine W_reg ?_ | refine W_regd ?_ | refine W_regs ?_ | refine W_regp ?_ | refine W_block ?_ | refine And.intro (by omega) ?_ | simp (maxSteps := 1000000) (disch := omega) only [cA, cB, cN, FnD.nb, lk, lkH, Dst.onT, Dst.onX, Dst.slot, setF, setH, mapF, mapH, initF, binE, unE, cnt, boundE, newsE, freshE, freshT, opE, rmH, blkQ, frz_us, Nat.reduceEqDiff, Nat.reduceLT, Nat.reduceAdd, Nat.reduceMul, Nat.reduceMod, ↓reduceIte, reduceCtorEq, Nat.reduceLeDiff, hld, hrl, hq3, h33])
   refine ⟨numC_rf _, ⟨by omega, by omega, fun h => h, hq⟩, ?_⟩
   rw [hsn, hpg, hpc]
   refine zS (zA e1 hp3) ?_
   exact ⟨i + 1, by omega, by omega, by simp [subF, lk], rfl⟩
  ·have dl : decide ((i : Int) < (k : Int)) = false := decide_eq_false (by omega)
   obtain rfl : i = k := by omega
   refine zS (zA dl (zA hlen hln)) ?_
   refine W_cond rfl (fun h => by cases h) (fun _ => W_exit ?_)
   refine zR ?_
   exact W_ret (RetP_1 (Exp_flat rfl (by decide) (rwC_len _ _) (rwC_rf _ _)))
theorem mrPlus_calls {k m p : Nat} {f g : Nat → Rat} (hk : k ≤ 1000) (hf : ∀ j, j < k → BS (f j) m) (hg : ∀ j, j < k → BS (g j) p) (hm : m ≤ 140800) (hp : p ≤ 140800) : PCalls Tryz.prog 188 [.sl 3 (rwC k f), .sl 3 (rwC k g)] (.sl 3 (rwC k fun j => f j + g j)) := by
 have hlen := rwC_len k f
 have hleg := rwC_len k g
 have hln : k * 3 / 3 = k := by omega
 refine PCalls_of ismrPlus (by simp [fnmrPlus]) ?_
 unfold codemrPlus
 refine zR ?_
 refine W_own 5 3 200 rfl rfl ?_
 refine zR ?_
 refine W_loop (σ := Nat) (fun i => [(0, .sl 3 (rwC k f)), (1, .sl 3 (rwC k g)), (5, .osl 3 200 0 i), (6, .int .i64 i)]) (fun i => [(200, rwC i fun j => f j + g j)]) (fun i => i ≤ k) (fun i => k - i) 0 (Nat.zero_le _) ?_ rfl ?_
 ·simp [subF, lk]
 ·intro i hi
  try simp only at hi ⊢
  by_cases hlt : i < k
  ·have dl : decide ((i : Int) < (k : Int)) = true := decide_eq_true (by omega)
   have ei : (i : Int).toNat = i := Int.toNat_natCast i
   have e1 : ((i : Int) + 1) = ((i + 1 : Nat) : Int) := by omega
   have hw := rwC_win hlt f
   have hwg := rwC_win hlt g
   have ct := pAddN (hf i hlt) (hg i hlt) hm hp
   have hrl := rwC_len i fun j => f j + g j
   have hsn := rwC_snoc i fun j => f j + g j
   have hpg := map_purge 200 (rwC_rf (i + 1) fun j => f j + g j)
   have hq := numC_one (f i + g i)
   have hld : laid [DV.bool false, .nils, .nils] [(0, 3, .agg (numC (f i + g i)))] = some (numC (f i + g i)) := rfl
   have hq3 := numC_len (f i + g i)
   refine zS (zA dl (zA hlen hln)) ?_
   refine wTs ?_
   refine zS (zA ei (zA hlen (zA hleg (zA hw (zA hwg @List.drop_zero.{0}))))) ?_
   refine cP ct ?_
   have h33 : 3 / 3 = 1 := rfl
   refine zS (zA hld (zA hrl (zA hq3 h33))) ?_
   refine ⟨numC_rf _, ⟨by omega, by omega, fun h => h, hq⟩, ?_⟩
   rw [hsn, hpg]
   refine zS e1 ?_
   exact ⟨i + 1, by omega, by omega, by simp [subF, lk], rfl⟩
  ·have dl : decide ((i : Int) < (k : Int)) = false := decide_eq_false (by omega)
   obtain rfl : i = k := by omega
   refine zS (zA dl (zA hlen hln)) ?_
   refine W_cond rfl (fun h => by cases h) (fun _ => W_exit ?_)
   refine zR ?_
   exact W_ret (RetP_1 (Exp_flat rfl (by decide) (rwC_len _ _) (rwC_rf _ _)))
theorem mrCol (n k : Nat) (M : Mt) (hn : n ≤ 1000) (hk : k ≤ 1000) (h0 : n = 0 → k = 0) : PCalls Tryz.prog 54 [.sl 1 (mtD n k M)] (.int .i64 k) := by
 have hl : (((List.range n).map fun i => rwC k (M i)).getD 0 []).length = k * 3 := by
  by_cases e : n = 0
  ·rw [h0 e, e, List.range_zero]; rfl
  ·rw [List.getD_eq_getElem?_getD, List.getElem?_map, List.getElem?_range (by omega)]
   exact rwC_len _ _
 have := mrColumns_calls ((List.range n).map fun i => rwC k (M i)) (by simp; omega) (by omega)
 rw [← mtD_rows, hl, show k * 3 / 3 = k by omega] at this
 exact this
def rdcQ (n k : Nat) (M0 : Mt) (r : DV) : Prop := ∃ q : Rat, r = .tup [.sl 1 (mtD n k (rrM n k M0)), .sl 1 (intsD (rrP n k M0)), .agg (numC q)]
set_option maxHeartbeats 8000000 in
theorem mr_reduce_rel {x : List (List XN)} {n k b : Nat} (h : mtOK x n k b) (hG : ∀ t, t < n → 3 * gB b t + 2 ≤ 140800) (hG2 : ∀ t, t ≤ n → gB b t ≤ 140800) :
  MRel Tryz.prog 111 [.sl 1 (xrs x)] [] (fun r H' => rdcQ n k (mtX x) r ∧ H' = []) := by
 have hT := mrTake_M h
 have h1 := h.n1
 have h2 := h.k1
 obtain ⟨M0, hM0⟩ : ∃ M0, M0 = mtX x := ⟨_, rfl⟩
 have hsz := h.sz
 have hz := h.z
 rw [← hM0] at hT hsz ⊢
 have c1 : PCalls Tryz.prog 44 [.int .i64 1] (.agg (numC 1)) := pFromInt_calls 1 (by decide) (by decide)
 have hcc : ∀ x : Rat, (DV.agg (numC x)).cells? = some (numC x) := fun _ => rfl
 have hn3 := numC_len
 have ht3 : ∀ x : Rat, (numC x).take 3 = numC x := fun _ => rfl
 have hxr : [DV.sl 1 (xrs x)].all DV.rf = true := rfl
 refine MRel_of ismr_reduce (by simp [fnmr_reduce]) ?_
 unfold codemr_reduce
 refine zR ?_
 refine callC_newS 12 hT rfl (mtD_rf _ _ _) (by decide) (by decide) (by decide) rfl (by simp [DV.rf]) ?_
 refine zD ?_
 refine W_seq ?_
 refine W_reg ?_
 refine zD ?_
 refine W_own 5 1 200 rfl rfl ?_
 refine zR ?_
 refine cP c1 ?_
 refine zS (zA hcc (zA hn3 ht3)) ?_
 refine W_loop (σ := Mt × List Nat × Rat × Nat) (fun s => [(0, .osl 1 12 0 n), (4, .ptr 4 0), (5, .osl 1 200 0 s.2.1.length), (6, .ptr 6 0), (7, .int .i64 s.2.2.2)]) (fun s => [(4, [.bool false, .nils, .nils]), (6, numC s.2.2.1), (12, mtD n k s.1), (200, intsD s.2.1)])
  (fun s => s.2.2.2 ≤ k ∧ IsRp n k s.2.2.2 s.1 s.2.1 ∧ KerEq n k M0 s.1 ∧ MS n k s.1 (gB b s.2.1.length) ∧ BS s.2.2.1 (gB b s.2.1.length + 1)) (fun s => k - s.2.2.2) (M0, [], 1, 0) ⟨Nat.zero_le _, IsRp.nil n k M0, KerEq.refl _ _ _, hsz, BS_1.mono (by show 1 ≤ b + 1; omega)⟩ ?_ rfl ?_
 ·simp [subF, lk]
 ·rintro ⟨M, ps, q, j⟩ ⟨hj, hE, hK, hS, hq⟩
  try simp only at hj hE hK hS hq ⊢
  have ccol := mrCol n k M (by omega) (by omega) hz
  have hml := mtD_len n k M
  have hrc : [DV.osl 1 12 0 n].map (rdo [(4, [.bool false, .nils, .nils]), (6, numC q), (12, mtD n k M), (200, intsD ps)] 1) = [.sl 1 (mtD n k M)] := by
   rw [List.map_cons, List.map_nil, rdo_flat (cells := mtD n k M) rfl (by decide) (by omega) (mtD_rf _ _ _)]
  refine zR ?_
  refine callC_readN rfl 1 ccol hrc rfl ?_
  by_cases hlt : j < k
  ·have dl : decide ((j : Int) < (k : Int)) = true := decide_eq_true (by omega)
   refine zS dl ?_
   refine wTs ?_
   have hil := intsD_len ps
   have hpl := hE.len
   have ej : (j : Int).toNat = j := Int.toNat_natCast j
   have e1 : ((j : Int) + 1) = ((j + 1 : Nat) : Int) := by omega
   have hrl := fun i => rwC_len k (M i)
   refine W_seq ?_
   refine W_block ?_
   refine zS hil ?_
   refine W_loop (σ := Nat) (fun a => [(0, .osl 1 12 0 n), (4, .ptr 4 0), (5, .osl 1 200 0 ps.length), (6, .ptr 6 0), (7, .int .i64 j), (8, .int .i64 ps.length), (9, .int .i64 a)]) (fun _ => [(4, [.bool false, .nils, .nils]), (6, numC q), (12, mtD n k M), (200, intsD ps)])
    (fun a => fstR M n j ps.length a) (fun a => n - a) ps.length ⟨Nat.le_refl _, hpl, fun r h1 h2 => by omega⟩ ?_ rfl ?_
   ·simp [subF, lk]
   ·rintro a ⟨ha1, ha2, hfst⟩
    try simp only at ha1 ha2 hfst ⊢
    have ea : (a : Int).toNat = a := Int.toNat_natCast a
    by_cases hla : a < n
    ·have da : decide ((a : Int) < (n : Int)) = true := decide_eq_true (by omega)
     have hga := mtD_get (k := k) hla M .undef
     have hwa := rwC_win hlt (M a)
     have hrla := hrl a
     have cs := pSignN (hS a hla j hlt) (by have := hG2 _ hpl; omega)
     have hz := sign0 (M a j)
     by_cases hzero : M a j = 0
     ·have dz : decide (M a j = 0) = true := decide_eq_true hzero
      refine zS (zA da (zA ea (zA hml (zA hga (zA ej (zA hrla (zA hwa @List.drop_zero.{0}))))))) ?_
      refine cP cs ?_
      have e2 : ((a : Int) + 1) = ((a + 1 : Nat) : Int) := by omega
      repeat (first | refine W_seq ?_ | refine W_reg ?_ | refine W_regd ?_ | refine W_regs ?_ | refine W_regp ?_ | refine W_block ?_ | refine And.intro (by omega) ?_ | simp (maxSteps := 1000000) (disch := omega) only [cA, cB, cN, FnD.nb, lk, lkH, Dst.onT, Dst.onX, Dst.slot, setF, setH, mapF, mapH, initF, binE, unE, cnt, boundE, newsE, freshE, freshT, opE, rmH, blkQ, frz_us, Nat.reduceEqDiff, Nat.reduceLT, Nat.reduceAdd, Nat.reduceMul, Nat.reduceMod, ↓reduceIte, reduceCtorEq, Nat.reduceLeDiff, hz, dz])
      refine wTs ?_
      repeat (first | refine W_seq ?_ | refine W_reg ?_ | refine W_regd ?_ | refine W_regs ?_ | refine W_regp ?_ | refine W_block ?_ | refine And.intro (by omega) ?_ | simp (maxSteps := 1000000) (disch := omega) only [cA, cB, cN, FnD.nb, lk, lkH, Dst.onT, Dst.onX, Dst.slot, setF, setH, mapF, mapH, initF, binE, unE, cnt, boundE, newsE, freshE, freshT, opE, rmH, blkQ, frz_us, Nat.reduceEqDiff, Nat.reduceLT, Nat.reduceAdd, Nat.reduceMul, Nat.reduceMod, ↓reduceIte, reduceCtorEq, Nat.reduceLeDiff, e2])
      refine ⟨a + 1, ⟨by omega, by omega, fun r g1 g2 => ?_⟩, by omega, by simp [subF, lk]⟩
      by_cases e : r = a
      ·rw [e]; exact hzero
      ·exact hfst r g1 (by omega)
     ·have dz : decide (M a j = 0) = false := decide_eq_false hzero
      refine zS (zA da (zA ea (zA hml (zA hga (zA ej (zA hrla (zA hwa @List.drop_zero.{0}))))))) ?_
      refine cP cs ?_
      refine zS (zA hz dz) ?_
      refine W_cond rfl (fun h => by cases h) (fun _ => W_exit ?_)
      have dan : decide ((a : Int) = (n : Int)) = false := decide_eq_false (by omega)
      refine zS dan ?_
      refine wFs ?_
      have hpn : ps.length < n := by omega
      have hG3 := hG _ hpn
      obtain ⟨S, hSd⟩ : ∃ S, S = swapM ps.length a M := ⟨_, rfl⟩
      have hpiv := gstep hE hlt ha1 hla hzero
      have hszS : MS n k S (gB b ps.length) := by rw [hSd]; exact hS.swap hpn hla
      have hSt : S ps.length j ≠ 0 := by rw [hSd]; unfold swapM; rw [if_pos rfl]; exact hzero
      have hszE := hszS.elimM hpn hlt hSt
      rw [← hSd] at hpiv
      refine W_seq ?_
      refine W_join (ι := Rat) (fun q' => BS q' (gB b ps.length + 1)) (fun _ => [(0, .osl 1 12 0 n), (4, .ptr 4 0), (5, .osl 1 200 0 ps.length), (6, .ptr 6 0), (7, .int .i64 j), (8, .int .i64 ps.length)]) (fun q' => [(4, [.bool false, .nils, .nils]), (6, numC q'), (12, mtD n k S), (200, intsD ps)]) ?_ ?_
      ·by_cases hat : a = ps.length
       ·have dat : decide (¬ (a : Int) = (ps.length : Int)) = false := decide_eq_false (by omega)
        refine zS dat ?_
        refine wFs ?_
        refine ⟨q, hq, by simp [subF, lk], ?_⟩
        have : S = M := by
         rw [hSd, hat]; funext r c; unfold swapM
         by_cases e : r = ps.length
         ·rw [if_pos e, e]
         ·rw [if_neg e, if_neg e]
        rw [this]
       ·have dat : decide (¬ (a : Int) = (ps.length : Int)) = true := decide_eq_true (by omega)
        have ept : (ps.length : Int).toNat = ps.length := Int.toNat_natCast _
        have hgt := mtD_get (k := k) hpn M .undef
        have hsw := mtD_swap (k := k) M hpn hla
        have cn := pNegN hq (by omega)
        refine zS dat ?_
        refine wT ?_
        refine zS (zA ea (zA ept (zA hml (zA hga hgt)))) ?_
        refine ⟨⟨rfl, hla⟩, ⟨by omega, by omega⟩, ⟨rfl, by rw [List.length_set, hml]; exact hpn⟩, ?_⟩
        rw [hsw, ← hSd]
        refine zS (zA hn3 ht3) ?_
        refine cP cn ?_
        refine zS (zA hcc (zA hn3 ht3)) ?_
        exact ⟨-q, BS_neg hq, by simp [subF, lk], rfl⟩
      ·rintro q' hq'
       have ept : (ps.length : Int).toNat = ps.length := Int.toNat_natCast _
       have hmlS := mtD_len n k S
       have hgt := mtD_get (k := k) hpn S .undef
       have hrt := rwC_len k (S ps.length)
       have hwt := rwC_win hlt (S ps.length)
       have cm := pMulN hq' (hszS _ hpn j hlt) (by omega) (by omega)
       have cq := pQuoN hSt BS_1 (hszS _ hpn j hlt) (by omega) (by omega)
       have ct := mrTimes_calls (k := k) (by omega) (fun c hc => hszS _ hpn c hc) (BS_div hSt BS_1 (hszS _ hpn j hlt)) (by omega) (by omega)
       have hset := mtD_set (k := k) S (fun c => S ps.length c * (1 / S ps.length j)) hpn
       rw [elP_0] at hset
       refine zS (zA ept (zA ej (zA hmlS (zA hgt (zA hrt (zA hwt (zA hn3 (zA ht3 @List.drop_zero.{0})))))))) ?_
       refine cP cm ?_
       refine zS (zA ept (zA ej (zA hmlS (zA hgt (zA hrt (zA hwt (zA hcc (zA hn3 (zA ht3 @List.drop_zero.{0}))))))))) ?_
       refine cP c1 ?_
       refine zS (zA ept (zA ej (zA hmlS (zA hgt (zA hrt (zA hwt (zA hcc (zA hn3 (zA ht3 @List.drop_zero.{0}))))))))) ?_
       refine cP cq ?_
       refine zR ?_
       refine cP ct ?_
       refine zS (zA ept hmlS) ?_
       refine ⟨⟨rfl, hpn⟩, ?_⟩
       have h6 : ∀ a b : Rat, List.take 0 (numC a) ++ numC b ++ List.drop 3 (numC a) = numC b := fun _ _ => rfl
       rw [h6, hset]
       have hq2 : BS (q' * S ps.length j) (gB b (ps.length + 1) + 1) := (BS_mul hq' (hszS _ hpn j hlt)).mono (by simp only [gB]; omega)
       generalize q' * S ps.length j = q2 at *
       have hbt : ∀ c, c < k → BS (S ps.length c * (1 / S ps.length j)) (2 * gB b ps.length + 1) := fun c hc => (BS_mul (hszS _ hpn c hc) (BS_div hSt BS_1 (hszS _ hpn j hlt))).mono (by omega)
       refine zR ?_
       refine W_loop (σ := Nat) (fun i => [(0, .osl 1 12 0 n), (4, .ptr 4 0), (5, .osl 1 200 0 ps.length), (6, .ptr 6 0), (7, .int .i64 j), (8, .int .i64 ps.length), (10, .int .i64 i)]) (fun i => [(4, [.bool false, .nils, .nils]), (6, numC q2), (12, mtD n k (elP ps.length j i S)), (200, intsD ps)])
        (fun i => i ≤ n) (fun i => n - i) 0 (Nat.zero_le _) ?_ rfl ?_
       ·simp [subF, lk]
       ·intro i hi
        try simp only at hi ⊢
        obtain ⟨E, hEd⟩ : ∃ E, E = elP ps.length j i S := ⟨_, rfl⟩
        have hmlE := mtD_len n k E
        rw [← hEd]
        by_cases hli : i < n
        ·have di : decide ((i : Int) < (n : Int)) = true := decide_eq_true (by omega)
         have ei : (i : Int).toNat = i := Int.toNat_natCast i
         have ei1 : ((i : Int) + 1) = ((i + 1 : Nat) : Int) := by omega
         refine zS (zA di hmlE) ?_
         refine wTs ?_
         by_cases hit : i = ps.length
         ·have dit : decide (¬ (i : Int) = (ps.length : Int)) = false := decide_eq_false (by omega)
          refine zS dit ?_
          refine wFs ?_
          refine zS ei1 ?_
          refine ⟨i + 1, by omega, by omega, by simp [subF, lk], ?_⟩
          rw [hEd, hit, elP_skip]
         ·have dit : decide (¬ (i : Int) = (ps.length : Int)) = true := decide_eq_true (by omega)
          have hgi := mtD_get (k := k) hli E .undef
          have hgT := mtD_get (k := k) hpn E .undef
          have eEi : E i = S i := by rw [hEd]; exact elP_i hit
          have eEt : E ps.length = fun c => S ps.length c * (1 / S ps.length j) := by rw [hEd]; funext c; exact elP_t _ _ _ _ _
          rw [eEi] at hgi
          have hri := rwC_len k (S i)
          have hwi := rwC_win hlt (S i)
          have cn := pNegN (hszS i hli j hlt) (by omega)
          have ct2 := mrTimes_calls (k := k) (f := E ps.length) (c := -(S i j)) (by omega) (fun c hc => by rw [eEt]; exact hbt c hc) (BS_neg (hszS i hli j hlt)) (by omega) (by omega)
          have cpl := mrPlus_calls (k := k) (f := S i) (g := fun c => E ps.length c * (-(S i j))) (p := 3 * gB b ps.length + 1) (by omega) (fun c hc => hszS i hli c hc) (fun c hc => by rw [eEt]; exact (BS_mul (hbt c hc) (BS_neg (hszS i hli j hlt))).mono (by omega)) (by omega) (by omega)
          have hset2 := mtD_set (k := k) E (fun c => S i c + E ps.length c * (-(S i j))) hli
          have hnx := elP_next (j := j) (S := S) hit
          rw [← hEd] at hnx
          rw [hnx] at hset2
          refine zS dit ?_
          refine wT ?_
          refine zS (zA ei (zA ej (zA ept (zA hmlE (zA hgi (zA hgT (zA hri (zA hwi @List.drop_zero.{0})))))))) ?_
          refine cP cn ?_
          refine zR ?_
          refine cP ct2 ?_
          refine zR ?_
          refine cP cpl ?_
          refine zS (zA ei hmlE) ?_
          refine ⟨⟨rfl, hli⟩, ?_⟩
          rw [hset2]
          refine zS ei1 ?_
          exact ⟨i + 1, by omega, by omega, by simp [subF, lk], rfl⟩
        ·have di : decide ((i : Int) < (n : Int)) = false := decide_eq_false (by omega)
         have hin : i = n := by omega
         have hfin : mtD n k E = mtD n k (elimM ps.length j S) := mtD_congr fun r hr c _ => by rw [hEd, hin]; exact elP_end r hr c
         have hpX : (intsD ps ++ [DV.int .i64 j]).map (purge 200) = intsD (ps ++ [j]) := by rw [intsD_snoc]; exact map_purge 200 (intsD_rf _)
         have hpM := map_purge 200 (mtD_rf n k (elimM ps.length j S))
         have hpq := map_purge 200 (numC_rf q2)
         have hpb : [DV.bool false, .nils, .nils].map (purge 200) = [.bool false, .nils, .nils] := rfl
         have pp : ∀ o, purge 200 (.ptr (o) 0) = if o = 200 then .undef else .ptr o 0 := fun o => by
          by_cases e : o = 200
          ·rw [if_pos e, e]; simp [purge, DV.has]
          ·rw [if_neg e]; simp [purge, DV.has, e]
         have pp4 := pp 4
         have pp6 := pp 6
         rw [if_neg (by decide)] at pp4 pp6
         have pm : purge 200 (.osl 1 12 0 n) = .osl 1 12 0 n := by simp [purge, DV.has]
         have hl1 : laid [DV.int .i64 0] [(0, 1, .int .i64 (j : Int))] = some [.int .i64 j] := rfl
         have hpl2 : (ps ++ [j]).length = ps.length + 1 := by simp
         rw [hfin]
         refine zS (zA di (zA hmlE @mtD_len)) ?_
         refine W_cond rfl (fun h => by cases h) (fun _ => W_exit ?_)
         refine zS (zA hil hl1) ?_
         refine ⟨by simp [DV.rf], ⟨by omega, by omega, fun h => h, by simp [DV.one]⟩, ?_⟩
         rw [hpX, hpM, hpq]
         refine zS (zA e1 (zA pp4 (zA @pp6 pm))) ?_
         refine ⟨(elimM ps.length j S, ps ++ [j], q2, j + 1), ⟨by show j + 1 ≤ k; omega, hpiv.1, hK.trans hpiv.2, by rw [hpl2]; exact hszE, by rw [hpl2]; exact hq2⟩, by show k - (j + 1) < k - j; omega, by simp [subF, lk, hpl2], ?_⟩
         first | rfl | simp [DV.rf, purge, DV.has]
    ·have han : a = n := by omega
     have da : decide ((a : Int) < (n : Int)) = false := decide_eq_false (by omega)
     have dan : decide ((a : Int) = (n : Int)) = true := decide_eq_true (by omega)
     refine zS (zA da (zA ea hml)) ?_
     refine W_cond rfl (fun h => by cases h) (fun _ => W_exit ?_)
     refine zS (zA dan hml) ?_
     refine W_cond rfl (fun _ => W_exit ?_) (fun h => by cases h)
     refine zS e1 ?_
     exact ⟨(M, ps, q, j + 1), ⟨by show j + 1 ≤ k; omega, hE.skip fun r g1 g2 => hfst r g1 (by omega), hK, hS, hq⟩, by show k - (j + 1) < k - j; omega, by simp [subF, lk], rfl⟩
  ·have hjk : j = k := by omega
   have dl : decide ((j : Int) < (k : Int)) = false := decide_eq_false (by omega)
   rw [hjk] at hE
   obtain ⟨r1, r2⟩ := rr_eq hE hK
   refine zS dl ?_
   refine W_cond rfl (fun h => by cases h) (fun _ => W_exit ?_)
   show W _ _ _ _ _
   have hil := intsD_len ps
   have g1 : frz 12 (mtD n k M) (.osl 1 12 0 n) = .sl 1 (mtD n k M) := by
    simp [frz, hml]; rw [List.take_of_length_le (by omega)]
   have g2 : frz 200 (intsD ps) (.osl 1 200 0 ps.length) = .sl 1 (intsD ps) := by
    simp [frz, hil]; rw [List.take_of_length_le (by omega)]
   have g3 : frz 12 (mtD n k M) (.osl 1 200 0 ps.length) = .osl 1 200 0 ps.length := by simp [frz]
   have g4 : ∀ cs, frz 12 cs (.ptr 4 0) = .ptr 4 0 := fun cs => by simp [frz, purge, DV.has]
   have g5 : ∀ cs, frz 12 cs (.ptr 6 0) = .ptr 6 0 := fun cs => by simp [frz, purge, DV.has]
   have g6 : ∀ cs, frz 200 cs (.ptr 4 0) = .ptr 4 0 := fun cs => by simp [frz, purge, DV.has]
   have g7 : ∀ cs, frz 200 cs (.ptr 6 0) = .ptr 6 0 := fun cs => by simp [frz, purge, DV.has]
   have g8 := map_frz 12 (mtD n k M) (intsD_rf ps)
   have g9 := map_frz 12 (mtD n k M) (numC_rf q)
   have g10 := map_frz 200 (intsD ps) (numC_rf q)
   refine W_freeze 12 (cells := mtD n k M) rfl (List.all_eq_true.2 (mtD_rf _ _ _)) ?_
   refine zE (zA g1 (zA g3 (zA g4 (zA g5 (zA g8 g9))))) ?_
   refine W_freeze 200 (cells := intsD ps) rfl (List.all_eq_true.2 (intsD_rf _)) ?_
   simp (maxSteps := 1000000) (disch := omega) only [cA, cB, cN, FnD.nb, lk, lkH, Dst.onT, Dst.onX, Dst.slot, setF, setH, mapF, mapH, initF, binE, unE, cnt, boundE, newsE, freshE, freshT, opE, rmH, blkQ, frz_us, Nat.reduceEqDiff, Nat.reduceLT, Nat.reduceAdd, Nat.reduceMul, Nat.reduceMod, ↓reduceIte, reduceCtorEq, Nat.reduceLeDiff, g2, g6, g7, g10]
   repeat (first | refine W_seq ?_ | refine W_reg ?_ | refine W_regd ?_ | refine W_regs ?_ | refine W_regp ?_ | refine W_block ?_ | refine And.intro (by omega) ?_ | simp (maxSteps := 1000000) (disch := omega) only [cA, cB, cN, FnD.nb, lk, lkH, Dst.onT, Dst.onX, Dst.slot, setF, setH, mapF, mapH, initF, binE, unE, cnt, boundE, newsE, freshE, freshT, opE, rmH, blkQ, frz_us, Nat.reduceEqDiff, Nat.reduceLT, Nat.reduceAdd, Nat.reduceMul, Nat.reduceMod, ↓reduceIte, reduceCtorEq, Nat.reduceLeDiff, hcc, hn3, ht3, List.drop_zero])
   have hq0 : List.take 0 [DV.bool false, .nils, .nils] ++ numC q ++ List.drop 3 [DV.bool false, .nils, .nils] = numC q := rfl
   have hR : mtD n k M = mtD n k (rrM n k M0) := mtD_congr fun i hi c hc => r2 i hi c hc
   try rw [hq0]
   rw [hR, r1]
   refine W_ret ⟨.inr rfl, [.sl 1 (mtD n k (rrM n k M0)), .sl 1 (intsD (rrP n k M0)), .agg (numC q)], _, [], ⟨⟨q, rfl⟩, rfl⟩, fun _ _ h => (by cases h), ?_, ?_, fun _ _ h => (by cases h)⟩
   ·simp [resDs, resD1, lk, lkH, resmr_reduce]
    rw [if_pos (by rw [hn3]; exact Nat.le_refl 3)]; rfl
   ·exact rn_rf _ _ rfl
theorem mtOK.formedR {x : List (List XN)} {n k b : Nat} (h : mtOK x n k b) : PCalls Tryz.prog 110 [.sl 1 (xrs x)] (.bool true) := by
 have := mrFormed_calls (x.map fun r => r.flatMap xnC) (by rw [List.length_map, h.len]; have := h.n1; omega) (fun i => by
  by_cases hi : i < x.length
  ·rw [xrs_row hi, fm_len xnC_len, h.row i (by rw [← h.len]; exact hi)]; have := h.k1; omega
  ·rw [List.getD_eq_getElem?_getD, List.getElem?_eq_none (by rw [List.length_map]; omega)]; exact Nat.zero_le _)
 rw [h.frm] at this
 exact this
theorem mrReduce_calls {x : List (List XN)} {n k b : Nat} (h : mtOK x n k b) (hG : ∀ t, t < n → 3 * gB b t + 2 ≤ 140800) (hG2 : ∀ t, t ≤ n → gB b t ≤ 140800) :
  PCalls Tryz.prog 53 [.sl 1 (xrs x)] (.tup [.sl 1 (mtD n k (rrM n k (mtX x))), .sl 1 (intsD (rrP n k (mtX x))), .int .i64 0]) := by
 have cf := h.formedR
 have cr := mr_reduce_rel h hG hG2
 have hcc : ∀ x : Rat, (DV.agg (numC x)).cells? = some (numC x) := fun _ => rfl
 have hn3 := numC_len
 refine PCalls_of ismrReduce (by simp [fnmrReduce]) ?_
 unfold codemrReduce
 refine zR ?_
 refine cP cf ?_
 refine zR ?_
 refine wFs ?_
 refine zR ?_
 refine callC_any rfl rfl cr ?_ ?_
 ·rintro r ⟨q, rfl⟩; rfl
 rintro r ⟨q, rfl⟩
 refine zS (zA hcc hn3) ?_
 exact W_ret (RetP_3x (.imm rfl) (.imm rfl) (.imm rfl))
theorem mrRank_calls {x : List (List XN)} {n k b : Nat} (h : mtOK x n k b) (hG : ∀ t, t < n → 3 * gB b t + 2 ≤ 140800) (hG2 : ∀ t, t ≤ n → gB b t ≤ 140800) :
  PCalls Tryz.prog 25 [.sl 1 (xrs x)] (.tup [.int .i64 (rrP n k (mtX x)).length, .int .i64 0]) := by
 have cr := mrReduce_calls h hG hG2
 have hil := intsD_len (rrP n k (mtX x))
 have hpn := rrP_len n k (mtX x)
 have h1 := h.n1
 refine PCalls_of ismrRank (by simp [fnmrRank]) ?_
 unfold codemrRank
 refine zR ?_
 refine cP cr ?_
 refine zS hil ?_
 exact W_ret (RetP_2 (.imm rfl) (.imm rfl))
theorem goW_clr {F : FnD} {os : List DOper} {dst : Dst} {te fr : Fr} {H : Hp} {K : Fr → Fr → Hp → Prop} (sz : Nat) (z : List DV) (x : Opd) : goW F os dst te fr H K (.clr sz z x) = stepW F os dst te fr H K (opE F.nb dst.slot (ev te fr) (lkH H) (.clr sz z x)) := rfl
end Go.Proofs.YtlcagndeidjobaaGreatDoor
namespace Go.Proofs.YtlcagndeidjobaaGreatDoor
open Go Go.Dat Go.Proofs Go.RowKit Go.Shelf Nat32
theorem pFraction_calls (a b : Int) (ha : a.natAbs ≤ 1000000) (hb : b ≠ 0) (hb2 : b.natAbs ≤ 1000000) : PCalls Tryz.prog 62 [.int .i64 a, .int .i64 b] (Q (Rat.divInt a b)) := by
 have c1 := sFromInt_calls a (by omega) (by omega)
 have c2 := sFromInt_calls b (by omega) (by omega)
 have il1 : ∀ z : Int, z.natAbs ≤ 1000000 → il z ≤ 9000 := fun z hz => Nat.le_trans (limbs_len.2 (show z.natAbs < 4294967296 ^ 1 by omega)) (by decide)
 have c3 := p_over_calls a b hb (il1 a ha) (il1 b hb2)
 refine PCalls_of ispFraction (by simp [fnpFraction]) ?_
 unfold codepFraction
 generalize Rat.divInt a b = r at *
 have hx3 : (xnC (qX r)).length = 3 := rfl
 have hcc : (Q r).cells? = some (xnC (qX r)) := rfl
 repeat (first | refine zP ?_ | refine cP c1 ?_ | refine cP c2 ?_ | refine cP c3 ?_ | exact zT)
 refine zS (zA hcc (zA hx3 @cS)) ?_
 exact W_ret (RetP_c rfl rfl rfl (.imm rfl))
end Go.Proofs.YtlcagndeidjobaaGreatDoor
namespace Go.Proofs.YtlcagndeidjobaaGreatDoor
open Go Go.Dat Go.Proofs Go.RowKit Nat32
theorem mdModG (k : Int) (n : Nat) (hn : 0 < n) (hn2 : n ≤ 1000000) : PCalls Tryz.prog 11 [.int .i64 k, .int .i64 n] (.int .i64 (k % n)) := by
 obtain ⟨h1, h2, h3, h4⟩ := tmodG k hn
 have hne : (n : Int) ≠ 0 := by omega
 refine PCalls_of ismdMod (by simp [fnmdMod]) ?_
 unfold codemdMod
 by_cases h : k.tmod n < 0
 ·have d : decide (k.tmod n < 0) = true := decide_eq_true h
  rw [← h3 h]
  refine zS d ?_
  refine wT ?_
  refine zR ?_
  exact W_ret (RetP_1 (.imm rfl))
 ·have d : decide (k.tmod n < 0) = false := decide_eq_false h
  rw [← h4 h]
  refine zS d ?_
  refine wFs ?_
  refine zR ?_
  exact W_ret (RetP_1 (.imm rfl))
end Go.Proofs.YtlcagndeidjobaaGreatDoor
namespace Go.Proofs.YtlcagndeidjobaaGreatDoor
open Go Go.Dat Go.Proofs Go.RowKit Go.Shelf Nat32
theorem mdNumber_calls (z : Int) (hz : -9223372036854775808 ≤ z ∧ z ≤ 9223372036854775807) : PCalls Tryz.prog 30 [.int .i64 z] (.agg (xnC (qX (numQ z)))) := by
 have m1 := mdModG z 61 (by decide) (by decide)
 have m2 := mdModG (Int.tdiv z 61) 4 (by decide) (by decide)
 have b1 := Int.emod_nonneg z (show (61 : Int) ≠ 0 by decide)
 have b2 := Int.emod_lt_of_pos z (show (0 : Int) < 61 by decide)
 have b3 := Int.emod_nonneg (Int.tdiv z 61) (show (4 : Int) ≠ 0 by decide)
 have b4 := Int.emod_lt_of_pos (Int.tdiv z 61) (show (0 : Int) < 4 by decide)
 have cf : PCalls Tryz.prog 62 [.int .i64 (z % 61 - 30), .int .i64 (1 + (Int.tdiv z 61) % 4)] (Q (numQ z)) := pFraction_calls (z % 61 - 30) (1 + (Int.tdiv z 61) % 4) (by omega) (by omega) (by omega)
 have hq : Q (numQ z) = .agg (xnC (qX (numQ z))) := rfl
 rw [hq] at cf
 have hcc : (DV.agg (xnC (qX (numQ z)))).cells? = some (xnC (qX (numQ z))) := rfl
 have h3 : (xnC (qX (numQ z))).length = 3 := rfl
 have hrf : (DV.agg (xnC (qX (numQ z)))).rf = true := rfl
 have htd : -9223372036854775808 ≤ Int.tdiv z 61 ∧ Int.tdiv z 61 ≤ 9223372036854775807 := by
  by_cases h : 0 ≤ z
  ·rw [Int.tdiv_eq_ediv_of_nonneg h]; omega
  ·obtain ⟨n, hn⟩ : ∃ n : Nat, z = -(n : Int) := ⟨z.natAbs, by omega⟩
   rw [hn, Int.neg_tdiv, Int.tdiv_eq_ediv_of_nonneg (by omega)]; omega
 refine PCalls_of ismdNumber (by simp [fnmdNumber]) ?_
 unfold codemdNumber
 generalize xnC (qX (numQ z)) = X at *
 have e61 : ((61 : Nat) : Int) = 61 := rfl
 have e4 : ((4 : Nat) : Int) = 4 := rfl
 rw [e61] at m1
 rw [e4] at m2
 refine zR ?_
 refine cP m1 ?_
 refine zR ?_
 refine cP m2 ?_
 refine zR ?_
 refine cP cf ?_
 refine zS (zA hcc (zA h3 @cS)) ?_
 exact W_ret (RetP_c rfl rfl h3 (.imm hrf))
theorem x_qFromInt : ∀ ds r, kI (fun z => some (Q (z : Rat))) ds = some r → PCalls Tryz.prog 80 ds r := kI_ok fun z r h1 h2 h => by cases h; exact qFromInt_calls z h1 h2
theorem x_pFromInt : ∀ ds r, kI (fun z => some (Q (z : Rat))) ds = some r → PCalls Tryz.prog 44 ds r := kI_ok fun z r h1 h2 h => by cases h; exact pFromInt_calls z h1 h2
theorem x_mdNumber : ∀ ds r, kI (fun z => some (.agg (xnC (qX (numQ z))))) ds = some r → PCalls Tryz.prog 30 ds r := kI_ok fun z r h1 h2 h => by cases h; exact mdNumber_calls z ⟨h1, h2⟩
theorem x_qSign : ∀ ds r, k1 (fun x => if smX 9000 x then some (.int .i64 (xnV x).num.sign) else none) ds = some r → PCalls Tryz.prog 234 ds r := k1_ok fun x r l1 l2 h => by
 split at h
 ·rename_i hs; cases h; obtain ⟨g1, g2⟩ := smX_ok hs; exact qSign_calls _ _ _ g1 g2 l1 l2
 ·cases h
theorem x_qValid : ∀ ds r, k1 (fun x => if smX 9000 x then some (.bool (vldQ x.1 x.2.1 x.2.2)) else none) ds = some r → PCalls Tryz.prog 158 ds r := k1_ok fun x r l1 l2 h => by
 split at h
 ·rename_i hs; cases h; obtain ⟨g1, g2⟩ := smX_ok hs; exact qValid_calls _ _ _ g1 g2 l1 l2
 ·cases h
theorem x_qAdd : ∀ ds r, k2 (fun x y => if smX 4400 x && smX 4400 y then some (Q (xnV x + xnV y)) else none) ds = some r → PCalls Tryz.prog 38 ds r := k2_ok fun x y r l1 l2 l3 l4 h => by
 split at h
 ·rename_i hs
  cases h
  rw [Bool.and_eq_true] at hs
  obtain ⟨g1, g2⟩ := smX_ok hs.1
  obtain ⟨g3, g4⟩ := smX_ok hs.2
  exact qAdd_calls _ _ _ _ _ _ g1 g2 g3 g4 l1 l2 l3 l4
 ·cases h
theorem x_qMul : ∀ ds r, k2 (fun x y => if smX 4400 x && smX 4400 y then some (Q (xnV x * xnV y)) else none) ds = some r → PCalls Tryz.prog 157 ds r := k2_ok fun x y r l1 l2 l3 l4 h => by
 split at h
 ·rename_i hs
  cases h
  rw [Bool.and_eq_true] at hs
  obtain ⟨g1, g2⟩ := smX_ok hs.1
  obtain ⟨g3, g4⟩ := smX_ok hs.2
  exact qMul_calls _ _ _ _ _ _ g1 g2 g3 g4 l1 l2 l3 l4
 ·cases h
theorem x_pSame : ∀ ds r, k2 (fun x y => if smX 9000 x && smX 9000 y && decide (x = qX (xnV x)) && decide (y = qX (xnV y)) then some (.bool (decide (xnV x = xnV y))) else none) ds = some r → PCalls Tryz.prog 29 ds r := k2_ok fun x y r l1 l2 l3 l4 h => by
 split at h
 ·rename_i hs
  cases h
  simp only [Bool.and_eq_true, decide_eq_true_eq] at hs
  obtain ⟨⟨⟨s1, s2⟩, e1⟩, e2⟩ := hs
  obtain ⟨g1, g2⟩ := smX_ok s1
  obtain ⟨g3, g4⟩ := smX_ok s2
  have := pSameL (xnV x) (xnV y) (RB_rv l1 l2 g1 g2 (by decide)) (RB_rv l3 l4 g3 g4 (by decide))
  have q1 : Q (xnV x) = .agg (xnC x) := by
   have h0 : Q (xnV x) = .agg (xnC (qX (xnV x))) := rfl
   rw [h0, ← e1]
  have q2 : Q (xnV y) = .agg (xnC y) := by
   have h0 : Q (xnV y) = .agg (xnC (qX (xnV y))) := rfl
   rw [h0, ← e2]
  rw [q1, q2] at this
  exact this
 ·cases h
end Go.Proofs.YtlcagndeidjobaaGreatDoor
namespace Go.Proofs.YtlcagndeidjobaaGreatDoor
open Go Go.Dat Go.Proofs Go.RowKit Nat32
theorem goW_clrF {F : FnD} {os : List DOper} {dst : Dst} {te fr : Fr} {H : Hp} {K : Fr → Fr → Hp → Prop} (sz : Nat) (z : List DV) (x : Opd) : goW F os dst te fr H K (.clr sz z x) = stepW F os dst te fr H K (opE F.nb dst.slot (ev te fr) (lkH H) (.clr sz z x)) := rfl
theorem Ret_datF {k z o : Nat} {X : List DV} {c : List DV} {fr : Fr} {H : Hp} (ho : o < 1048576) (hd : lk fr k = .sl z X) : RetPR [.t k] [(o, c)] (fun r H' => r = .sl z X ∧ H' = []) .ret fr H := by
 refine ⟨.inr rfl, [.sl z X], .sl z X, [], ⟨rfl, rfl⟩, fun p hp h => ?_, by simp [resDs, resD1, hd], by simp only [oneOf]; exact rn_rf _ _ rfl, fun p c h => by cases h⟩
 simp only [lkH] at h
 rw [if_neg (by omega)] at h; cases h
theorem slIFFac_calls (l : List Fac) (hl : l.length ≤ 1000000) (p : Fac → Bool) (v : DV) (g : Nat) (cs : List DV) (hv : isClo v g cs) (hcs : cs.all DV.rf = true) (hg : Callable Tryz.prog g) (hc : ∀ f ∈ l, PCalls Tryz.prog g ([.agg (fcC f)] ++ cs) (.bool (p f))) : PCalls Tryz.prog 242 [.sl 2 (fcs l), v] (.int .i64 (ixP p l)) := by
 have hln : (fcs l).length / 2 = l.length := by rw [fcs_len]; omega
 have hlen := fcs_len l
 refine PCalls_of isslIFFac (by simp [fnslIFFac]) ?_
 unfold codeslIFFac
 refine zS hln ?_
 refine W_loop (σ := Nat) (fun i => [(0, .sl 2 (fcs l)), (1, v), (7, .int .i64 l.length), (8, .int .i64 i)]) (fun _ => []) (fun i => i ≤ l.length ∧ ∀ j, j < i → p (l.getD j default) = false) (fun i => l.length - i) 0 ⟨Nat.zero_le _, by simp⟩ ?_ rfl ?_
 ·simp [subF, lk]
 ·rintro i ⟨hi, hall⟩
  try simp only at hi hall ⊢
  by_cases hlt : i < l.length
  ·have dl : decide ((i : Int) < (l.length : Int)) = true := decide_eq_true (by omega)
   have ei : (i : Int).toNat = i := Int.toNat_natCast i
   have e1 : ((i : Int) + 1) = ((i + 1 : Nat) : Int) := by omega
   have hw : ((fcs l).drop (i * 2)).take 2 = fcC (l.getD i default) := fm_win (j := 0) fcC_len default hlt (Nat.le_refl _)
   have cf := hc _ (memG hlt)
   have hb6 : i * 2 + 2 ≤ (fcs l).length := by omega
   refine zS dl ?_
   refine wTs ?_
   refine W_seq ?_
   refine W_block ?_
   refine W_seq ?_
   refine W_reg ?_
   refine zD ?_
   refine W_seq ?_
   refine W_callV [om 11 1, om 12 0, om 13 5, ot 14 (.iad 2 (.t 12) (.t 13)), ot 15 (.ldn 2 (.t 14))] [] (.x 16) (.t 11) [.t 15] rfl ?_
   refine zE (zA ei (zA hlen hw)) ?_
   refine ⟨⟨by omega, by omega⟩, by omega, g, cs, hv, hg, callR_pure cf (by rw [List.all_append, hcs]; rfl) ?_⟩
   cases hp : p (l.getD i default)
   ·have hnx : ∀ j, j < i + 1 → p (l.getD j default) = false := fun j hj => by
     rcases Nat.lt_or_ge j i with h | h
     ·exact hall j h
     ·obtain rfl : j = i := by omega
      exact hp
    refine zR ?_
    refine wFs ?_
    refine zS e1 ?_
    exact ⟨i + 1, ⟨by omega, hnx⟩, by omega, by simp [subF, lk]⟩
   ·have hx := ixP_at default hlt hp hall
    rw [hx]
    refine zR ?_
    refine wT ?_
    refine zR ?_
    exact W_ret (RetP_1 (.imm rfl))
  ·have dl : decide ((i : Int) < (l.length : Int)) = false := decide_eq_false (by omega)
   rw [ixP_no default fun j hj => hall j (by omega)]
   refine zS dl ?_
   refine W_cond rfl (fun h => by cases h) (fun _ => W_exit ?_)
   refine zR ?_
   exact W_ret (RetP_1 (.imm rfl))
set_option maxHeartbeats 1000000 in
theorem slDFFac_rel (S : List Fac) (hl : S.length ≤ 1000000) (p : Fac → Bool) (v : DV) (g : Nat) (cs : List DV) (hv : isClo v g cs) (hcs : cs.all DV.rf = true) (hvr : v.rf = true) (hg : Callable Tryz.prog g) (hc : ∀ f, PCalls Tryz.prog g ([.agg (fcC f)] ++ cs) (.bool (p f))) :
  MRel Tryz.prog 214 [.osl 2 1000 0 S.length, v] [(1000, fcs S)] (fun r H' => r = .sl 2 (fcs (S.filter fun x => !p x)) ∧ H' = []) := by
 have ci := slIFFac_calls S hl p v g cs hv hcs hg fun f _ => hc f
 have hlen := fcs_len S
 have hrl := fcs_rf S
 have hsq : [DV.osl 2 1000 0 S.length, v].map (slo 1000 (fcs S)) = [.sl 2 (fcs S), v] := by
  have h2 : slo 1000 (fcs S) v = v := by
   cases v <;> first | (cases hvr; done) | simp [slo, hvr] | rfl
  have h3 : slo 1000 (fcs S) (.osl 2 1000 0 S.length) = .sl 2 (fcs S) := by
   simp [slo, hlen]
   rw [List.take_of_length_le (by omega)]
  rw [List.map_cons, List.map_cons, List.map_nil, h2, h3]
 have hv0 : purge 7 v = v := purge_of_rf 7 hvr
 have hv1 : ∀ cs, frz 7 cs v = v := fun cs => by
  have := map_frz 7 cs (cs := [v]) (by simpa using hvr)
  simpa using this
 have hb := ixP_bd p S
 have hneg := @ixP_neg _ p S
 have hzero := fun k => @filI_zero _ p default S k
 refine MRel_of isslDFFac (by simp [fnslDFFac]) ?_
 unfold codeslDFFac
 generalize hK : ixP p S = K at *
 refine zR ?_
 refine callC_readS rfl 1000 ci rfl hrl hsq rfl ?_
 by_cases hk : K = -1
 ·have dk : decide (K = -1) = true := decide_eq_true hk
  rw [hneg hk]
  refine zS dk ?_
  refine wT ?_
  refine W_freeze 1000 (cells := fcs S) rfl (List.all_eq_true.2 hrl) ?_
  have hfz : frz 1000 (fcs S) (.osl 2 1000 0 S.length) = .sl 2 (fcs S) := by
   simp [frz, hlen]
   rw [List.take_of_length_le (by omega)]
  refine zS hfz ?_
  exact W_ret (Ret_datF (by decide) rfl)
 ·have dk : decide (K = -1) = false := decide_eq_false hk
  obtain ⟨k, rfl⟩ : ∃ k : Nat, K = k := ⟨K.toNat, by omega⟩
  have hF := hzero k rfl
  refine zS dk ?_
  refine wFs ?_
  have e1 : ((k : Int) + 1) = ((k + 1 : Nat) : Int) := by omega
  refine zS e1 ?_
  refine W_loop (σ := Nat × Nat × List Fac) (fun s => [(0, .osl 2 1000 0 S.length), (1, v), (5, .int .i64 s.1), (6, .int .i64 s.2.1)]) (fun s => [(1000, fcs s.2.2)]) (fun s => filI p S s.1 s.2.1 s.2.2) (fun s : Nat × Nat × List Fac => S.length - s.2.1) (k, k + 1, S) hF ?_ rfl ?_
  ·simp [subF, lk]
  ·rintro ⟨i, j, A⟩ hI
   try simp only at hI ⊢
   have hAl := hI.1
   have hij := hI.2.1
   have hjl := hI.2.2.1
   have hAx := fcs_len A
   by_cases hlt : j < S.length
   ·have dl : decide ((j : Int) < (S.length : Int)) = true := decide_eq_true (by omega)
    have ei : (i : Int).toNat = i := Int.toNat_natCast i
    have ej : (j : Int).toNat = j := Int.toNat_natCast j
    have e1 : ((i : Int) + 1) = ((i + 1 : Nat) : Int) := by omega
    have e2 : ((j : Int) + 1) = ((j + 1 : Nat) : Int) := by omega
    have hw : ((fcs A).drop (j * 2)).take 2 = fcC (S.getD j default) := by
     rw [← filI_get default hI hlt]
     exact fm_win (j := 0) fcC_len default (by omega) (Nat.le_refl _)
    have hb4 : j * 2 + 2 ≤ (fcs A).length := by omega
    have hset : (fcs A).take (i * 2) ++ fcC (S.getD j default) ++ (fcs A).drop (i * 2 + 2) = fcs (A.set i (S.getD j default)) := fm_set fcC_len _ (by omega)
    have cf := hc (S.getD j default)
    have hkeep := filI_keep default hI hlt
    have hskip := filI_skip default hI hlt
    have hcc : (DV.agg (fcC (S.getD j default))).cells? = some (fcC (S.getD j default)) := rfl
    have hcl := fcC_len (S.getD j default)
    have htk : (fcC (S.getD j default)).take 2 = fcC (S.getD j default) := rfl
    have hCrf := fcC_rf (S.getD j default)
    have hCa : (fcC (S.getD j default)).all DV.rf = true := List.all_eq_true.2 hCrf
    generalize hX : S.getD j default = x at *
    generalize hC : fcC x = C at *
    refine zS dl ?_
    refine wTs ?_
    refine W_seq ?_
    refine W_block ?_
    refine W_seq ?_
    refine W_reg ?_
    refine zE (zA ei (zA ej (zA hAx (zA hw (zA hcc (zA hcl (zA htk (zA @List.drop_zero.{0} @cS)))))))) ?_
    refine ⟨⟨by omega, by omega⟩, by omega, ?_⟩
    refine W_seq ?_
    refine W_callV [om 26 1, ot 27 (.ldn 2 (.x 7))] [ox 29 (.un .not (.t 28))] (.t 28) (.t 26) [.t 27] rfl ?_
    refine zE (zA ei (zA ej (zA hAx (zA hw (zA hcc (zA hcl (zA htk (zA @List.drop_zero.{0} @cS)))))))) ?_
    refine ⟨g, cs, hv, hg, callR_pure cf (by simp only [List.cons_append, List.nil_append, List.all_cons, DV.rf_agg, hCa, hcs, Bool.and_self]) ?_⟩
    cases hp : p x
    ·refine zR ?_
     refine wT ?_
     have hf1 := map_frz 7 C (fcs_rf (A.set i x))
     refine W_seq ?_
     refine W_reg ?_
     refine zE (zA ei (zA ej (zA hAx (zA hw (zA hcc (zA hcl (zA htk (zA @List.drop_zero.{0} @cS)))))))) ?_
     refine ⟨⟨by omega, by omega⟩, by omega, ?_⟩
     rw [hset]
     refine W_freeze 7 (cells := C) rfl hCa ?_
     refine zS (zA e1 (zA e2 (zA hf1 hv1))) ?_
     exact ⟨(i + 1, j + 1, A.set i x), hkeep hp, by show S.length - (j + 1) < S.length - j; omega, by simp [subF, lk, frz_osl_ne], rfl⟩
    ·refine zR ?_
     refine wFs ?_
     have hf1 := map_frz 7 C (fcs_rf A)
     refine W_freeze 7 (cells := C) rfl hCa ?_
     refine zS (zA e2 (zA hf1 hv1)) ?_
     exact ⟨(i, j + 1, A), hskip hp, by show S.length - (j + 1) < S.length - j; omega, by simp [subF, lk, frz_osl_ne], rfl⟩
   ·have dl : decide ((j : Int) < (S.length : Int)) = false := decide_eq_false (by omega)
    obtain rfl : j = S.length := by omega
    have hend := filI_end hI
    have ei : (i : Int).toNat = i := Int.toNat_natCast i
    refine zS dl ?_
    refine W_cond rfl (fun h => by cases h) (fun _ => W_exit ?_)
    obtain ⟨hr1, hr2⟩ := rep2 (S.length - i) (.str []) (.int .i64 0) rfl
    simp (maxSteps := 1000000) (disch := omega) only [cA, cB, cN, FnD.nb, lk, lkH, Dst.onT, Dst.onX, Dst.slot, setF, setH, mapF, mapH, initF, binE, unE, cnt, boundE, newsE, freshE, freshT, opE, rmH, blkQ, frz_us, Nat.reduceEqDiff, Nat.reduceLT, Nat.reduceAdd, Nat.reduceMul, Nat.reduceMod, ↓reduceIte, reduceCtorEq, Nat.reduceLeDiff]
    refine W_seq ?_
    refine W_reg ?_
    simp (maxSteps := 1000000) (disch := omega) only [cA, cB, cN, FnD.nb, lk, lkH, Dst.onT, Dst.onX, Dst.slot, setF, setH, mapF, mapH, initF, binE, unE, cnt, boundE, newsE, freshE, freshT, opE, rmH, blkQ, frz_us, Nat.reduceEqDiff, Nat.reduceLT, Nat.reduceAdd, Nat.reduceMul, Nat.reduceMod, ↓reduceIte, reduceCtorEq, Nat.reduceLeDiff, goW_clrF, ei, hAx]
    refine ⟨⟨by omega, by omega⟩, by omega, ?_⟩
    have hil : i < S.length := by omega
    have htA : (fcs A).take (i * 2) = fcs (S.filter fun x => !p x) := by
     rw [← hend]; exact fm_take fcC_len A i
    have hlT : ((fcs A).take (i * 2)).length = i * 2 := by rw [List.length_take]; omega
    have hdA : (fcs A).drop (i * 2 + (S.length - i) * 2) = [] := List.drop_eq_nil_of_le (by omega)
    rw [hdA, List.append_nil, htA]
    rw [htA] at hlT
    obtain ⟨Z, hZ⟩ : ∃ Z, Z = fcs (S.filter fun x => !p x) ++ rep (S.length - i) [DV.str [], .int .i64 0] := ⟨_, rfl⟩
    have hZl : Z.length = S.length * 2 := by rw [hZ, List.length_append, hr1, hlT]; omega
    have hZr : ∀ d ∈ Z, d.rf = true := fun d hd => by
     rw [hZ, List.mem_append] at hd
     rcases hd with hd | hd
     ·exact fcs_rf _ d hd
     ·exact hr2 d hd
    have hZt : Z.take (i * 2) = fcs (S.filter fun x => !p x) := by rw [hZ, ← hlT, List.take_left]
    rw [← hZ]
    refine W_freeze 1000 (cells := Z) rfl (List.all_eq_true.2 hZr) ?_
    have hfz : frz 1000 Z (.osl 2 1000 0 S.length) = .sl 2 Z := by
     simp [frz, hZl]
     rw [List.take_of_length_le (by omega)]
    have hv2 : frz 1000 Z v = v := by
     have := map_frz 1000 Z (cs := [v]) (by simpa using hvr)
     simpa using this
    have hZc : Z.length / 2 = S.length := by omega
    refine zS (zA hfz (zA hv2 (zA ei (zA hZc (zA hZt (zA @List.drop_zero.{0} @Nat.zero_mul)))))) ?_
    exact W_ret (Ret_datF (by decide) rfl)
theorem slCloneP_M (l : List Fac) (hl : l.length ≤ 1000000) : MRel Tryz.prog 215 [.sl 2 (fcs l)] [] fun r H' => r = .osl 2 5 0 l.length ∧ H' = [(5, fcs l)] := by
 have hll := fcs_len l
 have hrf := fcs_rf l
 refine MRel_of isslCloneP (by simp [fnslCloneP]) ?_
 unfold codeslCloneP
 by_cases h : l = []
 ·subst h
  refine W_seq ?_
  refine W_reg ?_
  refine zD ?_
  refine W_seq ?_
  refine W_seq ?_
  refine W_isnil [om 3 0] (.x 4) false (.t 3) rfl ?_
  refine zD ?_
  refine ⟨⟨2, rfl⟩, fun b => ?_⟩
  cases b
  ·refine wFs ?_
   refine zR ?_
   refine ⟨⟨by decide, by decide, fun h => h, by intro d hd; cases hd⟩, ?_⟩
   exact W_ret (Ret_new rfl rfl (by intro d hd; cases hd))
  ·refine wT ?_
   refine zR ?_
   refine W_own 2 2 5 rfl rfl ?_
   exact W_ret (Ret_new rfl rfl (by intro d hd; cases hd))
 ·have hne : ¬ fcs l = [] := fun e => h (List.eq_nil_of_length_eq_zero (by rw [e] at hll; simp at hll; omega))
  have hpg := map_purge 5 hrf
  have hl5 : (fcs l).length / 2 = l.length := by omega
  refine zR ?_
  refine wFs ?_
  refine zS (zA hll (zA hl5 (zA hpg @List.nil_append.{0}))) ?_
  refine ⟨⟨by omega, by omega, fun h => h, fcs_one l⟩, ?_⟩
  rw [show 0 / 2 + l.length * 2 / 2 = l.length by omega]
  exact W_ret (Ret_new rfl rfl hrf)
theorem call_cd1 : Callable Tryz.prog 216 := ⟨_, Tryz.func216, by kernel_rfl, by kernel_rfl⟩
theorem goW_eqsF {F : FnD} {os : List DOper} {dst : Dst} {te fr : Fr} {H : Hp} {K : Fr → Fr → Hp → Prop} (b : Bool) (l : List (Nat × Nat)) (x y : Opd) : goW F os dst te fr H K (.eqs b l x y) = stepW F os dst te fr H K (opE F.nb dst.slot (ev te fr) (lkH H) (.eqs b l x y)) := rfl
theorem dg_coded1P_calls (x f : Fac) : PCalls Tryz.prog 216 [.agg (fcC x), .el (fcC f) 0] (.bool (decide (x = f))) := by
 have hq : decide (x = f) = if decide (x.nm = f.nm) then decide (x.pw = f.pw) else false := by
  obtain ⟨a, b⟩ := x
  obtain ⟨c, d⟩ := f
  simp only [Fac.mk.injEq]
  by_cases h : a = c <;> by_cases h2 : b = d <;> simp [h, h2]
 refine PCalls_of isdg_coded1P (by simp [fndg_coded1P]) ?_
 unfold codedg_coded1P
 refine zS (zA @cS @fcC.eq_1) ?_
 refine ⟨by simp [DV.rf], ?_⟩
 refine W_seq ?_
 refine W_reg ?_
 refine zE (zA @goW_eqsF (zA @cS @List.drop_zero.{0})) ?_
 have he : eqsD [DV.str x.nm, .int .i64 x.pw] [.str f.nm, .int .i64 f.pw] [(0, 2), (1, 0)] = some (decide (x = f)) := by
  rw [hq]
  by_cases h : x.nm = f.nm <;> by_cases h2 : x.pw = f.pw <;> simp [eqsD, eqD, h, h2]
 rw [he]
 simp only [Option.map_some]
 refine zD ?_
 exact W_ret (RetP_1 (.imm rfl))
set_option maxHeartbeats 1000000 in
theorem dg_codedP_calls (B : List DV) (t : List Fac) (f : Fac) (c : DV) (r : Bool) (hB : B.all DV.rf = true) (hl : B.length = 6) (hc : B.getD 5 .undef = c) (hcr : c.rf = true) (ht : t.length ≤ 1000000)
  (hp : PCalls Tryz.prog 217 [.el B 0, .sl 2 (fcs (t.filter fun x => !decide (x = f)))] (.bool r)) :
  PCalls Tryz.prog 154 [.el B 0, .sl 2 (fcs t), .agg (fcC f)] (if r then c else .int .i64 4) := by
 have hN := slCloneP_M t ht
 have hD := slDFFac_rel t ht (fun x => decide (x = f)) (.clo 216 [.el (fcC f) 0]) 216 [.el (fcC f) 0] (.inl rfl) (by simp [DV.rf, fcC]) (by simp [DV.rf, fcC]) call_cd1 fun x => dg_coded1P_calls x f
 have rfB : (DV.el B 0).rf = true := by simp [DV.rf]
 have rE : ∀ g, rn g (.el B 0) = .el B 0 := fun g => rn_rf _ _ rfB
 have rS : ∀ g, rn g (.sl 2 (fcs t)) = .sl 2 (fcs t) := fun g => rn_rf _ _ (by simp [DV.rf])
 unfold fcC at hD
 refine PCalls_of isdg_codedP (by simp [fndg_codedP]) ?_
 unfold codedg_codedP
 refine zS (zA @cS @fcC.eq_1) ?_
 refine ⟨by simp [DV.rf], ?_⟩
 refine zR ?_
 refine callC_newS 200 hN rfl (fcs_rf _) (by decide) (by decide) (by decide) rfl (by simp [DV.rf]) ?_
 refine zE rfB ?_
 refine ⟨by simp [DV.rf], ?_⟩
 have rC : ∀ g, rn g (.clo 216 [.el [.str f.nm, .int .i64 f.pw] 0]) = .clo 216 [.el [.str f.nm, .int .i64 f.pw] 0] := fun g => rn_rf _ _ (by simp [DV.rf])
 have rF : ∀ g, rn g (.el [.str f.nm, .int .i64 f.pw] 0) = .el [.str f.nm, .int .i64 f.pw] 0 := fun g => rn_rf _ _ (by simp [DV.rf])
 have rA : ∀ g, rn g (.agg [.str f.nm, .int .i64 f.pw]) = .agg [.str f.nm, .int .i64 f.pw] := fun g => rn_rf _ _ (by simp [DV.rf, DV.rfL])
 refine callC_mv rfl 200 _ _ (by decide) rfl (fcs_rf _) (by simp [DV.rf]) (by simp [rC]; simp [rn, fwG1]) hD [] (fun p => ?_) ?_
 ·simp only [lkH]
  by_cases e : p = 200
  ·rw [if_pos e]
  ·rw [if_neg e, if_neg (Ne.symm e)]; rfl
 simp (maxSteps := 1000000) (disch := omega) only [cA, cB, cN, FnD.nb, lk, lkH, Dst.onT, Dst.onX, Dst.slot, setF, setH, mapF, mapH, initF, binE, unE, cnt, boundE, newsE, freshE, freshT, opE, rmH, blkQ, frz_us, Nat.reduceEqDiff, Nat.reduceLT, Nat.reduceAdd, Nat.reduceMul, Nat.reduceMod, ↓reduceIte, reduceCtorEq, Nat.reduceLeDiff, rE, rS, rC, rF, rA, rn, gone1]
 have hg5 : B.getD 5 .undef = c := hc
 repeat (first | refine zQ (zA hc hl) ?_ | refine cP hp ?_ | exact zT)
 cases r
 ·refine wFs ?_
  refine zR ?_
  exact W_ret (RetP_1 (.imm rfl))
 ·refine wT ?_
  refine zS (zA hc hl) ?_
  exact W_ret (RetP_1 (.imm hcr))
theorem upd_1 (w : World) (n : Nat) (es : Array MapEntry) (clock : Nat) (k : Int) (v : Value) (h : w.heap[n]? = some (.map es clock)) (hf : Instr.findNow (.int .i64) (.int .i64 k) es.toList 0 = some none) :
  (Instr.mapUpdate 256 (.map (some n)) (.int .i64 k) v).run Tryz.prog w = .ok () { w with heap := w.heap.setIfInBounds n (.map (es.push ⟨.int .i64 k, v, clock⟩) (clock + 1)) } := by
 have hu : Tryz.prog.underlying 256 = some (.map 3 255) := by kernel_rfl
 have hu3 : Tryz.prog.underlying 3 = some (.int .i64) := by kernel_rfl
 unfold Instr.mapUpdate underlying program
 simp only [bind, Sem.bind, pure, Sem.run, hu, getObj, h]
 unfold Instr.checkKey Instr.findKey underlying program
 simp only [bind, Sem.bind, pure, Sem.run, hu3, hf, setObj, h]
theorem upd_2 (w : World) (es : Array MapEntry) (clock : Nat) (k : Int) (v : Value) (hf : Instr.findNow (.int .i64) (.int .i64 k) es.toList 0 = some none) :
  (Instr.mapUpdate 256 (.map (some w.heap.size)) (.int .i64 k) v).run Tryz.prog (w.alloc (.map es clock)) = .ok () (w.alloc (.map (es.push ⟨.int .i64 k, v, clock⟩) (clock + 1))) := by
 have h : (w.alloc (.map es clock)).heap[w.heap.size]? = some (.map es clock) := by unfold World.alloc; exact Array.getElem?_push_size
 rw [upd_1 _ _ es clock k v h hf]
 unfold World.alloc
 congr 2
 apply Array.ext_getElem?
 intro i
 simp only [Array.getElem?_setIfInBounds, Array.getElem?_push, Array.size_push]
 by_cases e : w.heap.size = i
 ·subst e; simp
 ·simp [e, Ne.symm e]
def entV : Array MapEntry := #[⟨.int .i64 4, .func (.func 260) #[] #[], 0⟩, ⟨.int .i64 1, .func (.func 262) #[] #[], 1⟩, ⟨.int .i64 2, .func (.func 263) #[] #[], 2⟩, ⟨.int .i64 3, .func (.func 264) #[] #[], 3⟩]
set_option maxHeartbeats 1000000 in
set_option maxRecDepth 100000 in
theorem ent_calls (w : World) : Calls Tryz.prog 245 #[] w fun e w' => e = .returned (.map (some w.heap.size)) ∧ w' = w.alloc (.map entV 4) := by
 have hmm := @run_makeMap Tryz.prog
 have h1 := upd_2 w #[] 0 4 (.func (.func 260) #[] #[]) rfl
 have h2 := upd_2 w #[⟨.int .i64 4, .func (.func 260) #[] #[], 0⟩] 1 1 (.func (.func 262) #[] #[]) rfl
 have h3 := upd_2 w #[⟨.int .i64 4, .func (.func 260) #[] #[], 0⟩, ⟨.int .i64 1, .func (.func 262) #[] #[], 1⟩] 2 2 (.func (.func 263) #[] #[]) rfl
 have h4 := upd_2 w #[⟨.int .i64 4, .func (.func 260) #[] #[], 0⟩, ⟨.int .i64 1, .func (.func 262) #[] #[], 1⟩, ⟨.int .i64 2, .func (.func 263) #[] #[], 2⟩] 3 3 (.func (.func 264) #[] #[]) rfl
 simp only [List.push_toArray, List.cons_append, List.nil_append, Nat.zero_add, Nat.reduceAdd] at h1 h2 h3 h4
 go_enter Tryz.func245, Tryz.ntmps245
 go_wp2
 go_ret
 exact ⟨rfl, rfl⟩
theorem look_1 (w : World) (k : Int) (g : Nat) (h : (w.alloc (.map entV 4)).heap[w.heap.size]? = some (.map entV 4)) (hk : (k = 1 ∧ g = 262) ∨ (k = 2 ∧ g = 263) ∨ (k = 3 ∧ g = 264) ∨ (k = 4 ∧ g = 260)) :
  (Instr.lookup 256 (.map (some w.heap.size)) (.int .i64 k) false).run Tryz.prog (w.alloc (.map entV 4)) = .ok (.func (.func g) #[] #[]) (w.alloc (.map entV 4)) := by
 have hu : Tryz.prog.underlying 256 = some (.map 3 255) := by kernel_rfl
 have hu3 : Tryz.prog.underlying 3 = some (.int .i64) := by kernel_rfl
 have hf : ∃ i, Instr.findNow (.int .i64) (.int .i64 k) entV.toList 0 = some (some (i, .func (.func g) #[] #[])) := by
  rcases hk with ⟨rfl, rfl⟩ | ⟨rfl, rfl⟩ | ⟨rfl, rfl⟩ | ⟨rfl, rfl⟩ <;> exact ⟨_, rfl⟩
 obtain ⟨i, hf⟩ := hf
 unfold Instr.lookup underlying program
 simp only [bind, Sem.bind, pure, Sem.run, hu, getObj, h]
 unfold Instr.checkKey Instr.findKey underlying program
 simp only [bind, Sem.bind, pure, Sem.run, hu3, hf]
 rfl
noncomputable def cmR : Code := match Tryz.f211.body with | some (.seq _ (.seq _ (.seq r _))) => r | _ => .skip
set_option maxHeartbeats 1000000 in
set_option maxRecDepth 100000 in
theorem cm_r3 (k : Int) (g : Nat) (hk : (k = 1 ∧ g = 262) ∨ (k = 2 ∧ g = 263) ∨ (k = 3 ∧ g = 264) ∨ (k = 4 ∧ g = 260)) {fr : Fr} (f0 : lk fr 0 = .int .i64 k) {Q : Ex → Fr → Hp → Prop} (hQ : Q .norm (setF fr 6 (.fn g)) []) : WC fnctMatrixE cmR Q fr [] := by
 intro G L a w hK hn hR
 have hn1 : G.n = 54 := hn.1
 have s0 := hR.slots 0
 rw [show den fnctMatrixE.vs [] fr 0 = lk fr 0 from rfl, f0] at s0
 have e0 := s0.inv_int
 have hl := look_1 w k g (by unfold World.alloc; exact Array.getElem?_push_size) hk
 obtain ⟨tmps, defers⟩ := a
 simp only at e0
 have hz : tmps.size = 54 := by have := hR.size; rw [hn1] at this; exact this
 have e0' : tmps[0]'(by omega) = .int .i64 k := by
  rw [Array.getD_eq_getD_getElem?, Array.getElem?_eq_getElem (by omega)] at e0; exact e0
 show Code.wp Tryz.prog cmR _ _ w
 unfold cmR Tryz.f211
 dsimp only
 go_wp2_with (go_at_call 245; refine (ent_calls w).mono ?_; rintro e w5 ⟨rfl, rfl⟩)
 all_goals first | (exfalso; omega) | skip
 have hR2 := hR.still (Ext.alloc (fun _ => False) w (.map entV 4))
 refine ⟨L, _, [], .norm, ⟨by simp [hz, hn1], hR2.defers, fun s => ?_, hR2.heap, hR2.ext, hR2.sLt, hR2.own, hR2.keep, hR2.shp⟩, rfl, hQ⟩
 have h := hR2.slots s
 simp only [den] at h ⊢
 split
 ·rename_i hs
  rw [if_pos hs] at h
  rw [lk_setF]
  by_cases e6 : s = 6
  ·subst e6
   rw [if_pos rfl, Array.getD_eq_getD_getElem?, Array.getElem?_setIfInBounds_self_of_lt (by simp; omega)]
   exact .imm (.fn g)
  ·rw [if_neg e6]
   have n14 : s ≠ 14 := fun e => by subst e; revert hs; decide
   have n15 : s ≠ 15 := fun e => by subst e; revert hs; decide
   have n16 : s ≠ 16 := fun e => by subst e; revert hs; decide
   rw [Array.getD_eq_getD_getElem?] at h ⊢
   rw [Array.getElem?_setIfInBounds_ne (Ne.symm e6), Array.getElem?_setIfInBounds_ne (Ne.symm n16), Array.getElem?_setIfInBounds_ne (Ne.symm n15), Array.getElem?_setIfInBounds_ne (Ne.symm n14)]
   exact h
 ·exact .imm (.undef _)
noncomputable def cmA : Code := match Tryz.f211.body with | some (.seq a _) => a | _ => .skip
noncomputable def cmB : Code := match Tryz.f211.body with | some (.seq _ (.seq b _)) => b | _ => .skip
noncomputable def cmZ : Code := match Tryz.f211.body with | some (.seq _ (.seq _ (.seq _ c))) => c | _ => .skip
noncomputable def cmBd : DC := match codectMatrixE with | .seq _ (.seq b _) => b | _ => .skip
noncomputable def cmZd : DC := match codectMatrixE with | .seq _ (.seq _ (.seq _ c)) => c | _ => .skip
noncomputable def tbC : Tb := ([(244, ⟨fnct_inRange, codect_inRange, resct_inRange⟩), (246, ⟨fnct_columns, codect_columns, resct_columns⟩), (260, ⟨fnct_entries1, codect_entries1, resct_entries1⟩), (262, ⟨fnct_entries2, codect_entries2, resct_entries2⟩), (263, ⟨fnct_entries3, codect_entries3, resct_entries3⟩), (264, ⟨fnct_entries4, codect_entries4, resct_entries4⟩), (261, ⟨fnct_bit, codect_bit, resct_bit⟩)], [(80, kI (fun z => some (Q (z : Rat))))])
theorem tbC_ok : TOK Tryz.prog tbC := by
 have h := TOK.ext x_qFromInt (TOK.nil (P := Tryz.prog))
 have h := TOK.cons (f := 261) (e := ⟨fnct_bit, codect_bit, resct_bit⟩) ⟨rfl, rfl, isct_bit, _, Tryz.func261, by kernel_rfl, by kernel_rfl⟩ h
 have h := TOK.cons (f := 264) (e := ⟨fnct_entries4, codect_entries4, resct_entries4⟩) ⟨rfl, rfl, isct_entries4, _, Tryz.func264, by kernel_rfl, by kernel_rfl⟩ h
 have h := TOK.cons (f := 263) (e := ⟨fnct_entries3, codect_entries3, resct_entries3⟩) ⟨rfl, rfl, isct_entries3, _, Tryz.func263, by kernel_rfl, by kernel_rfl⟩ h
 have h := TOK.cons (f := 262) (e := ⟨fnct_entries2, codect_entries2, resct_entries2⟩) ⟨rfl, rfl, isct_entries2, _, Tryz.func262, by kernel_rfl, by kernel_rfl⟩ h
 have h := TOK.cons (f := 260) (e := ⟨fnct_entries1, codect_entries1, resct_entries1⟩) ⟨rfl, rfl, isct_entries1, _, Tryz.func260, by kernel_rfl, by kernel_rfl⟩ h
 have h := TOK.cons (f := 246) (e := ⟨fnct_columns, codect_columns, resct_columns⟩) ⟨rfl, rfl, isct_columns, _, Tryz.func246, by kernel_rfl, by kernel_rfl⟩ h
 have h := TOK.cons (f := 244) (e := ⟨fnct_inRange, codect_inRange, resct_inRange⟩) ⟨rfl, rfl, isct_inRange, _, Tryz.func244, by kernel_rfl, by kernel_rfl⟩ h
 exact h
theorem ctMatrix_of (k n : Nat) (g : Nat) (hk : ((k : Int) = 1 ∧ g = 262) ∨ ((k : Int) = 2 ∧ g = 263) ∨ ((k : Int) = 3 ∧ g = 264) ∨ ((k : Int) = 4 ∧ g = 260))
  (hB : evN tbC 400 fnctMatrixE cmBd [(0, .int .i64 k), (1, .int .i64 n), (4, .nils), (5, .int .i64 0)] [] 1000 = some (.norm, [(0, .int .i64 k), (1, .int .i64 n), (4, .nils), (5, .int .i64 0), (13, .bool false)], [], 1000))
  (hZ : retC (evN tbC 400 fnctMatrixE cmZd [(0, .int .i64 k), (1, .int .i64 n), (4, .nils), (5, .int .i64 0), (6, .fn g), (13, .bool false)] [] 1000) resctMatrixE (ctD k n) = true) : PCalls Tryz.prog 211 [.int .i64 k, .int .i64 n] (ctD k n) := by
 have hbody : Tryz.f211.body = some (.seq cmA (.seq cmB (.seq cmR cmZ))) := rfl
 refine PCalls_ofC (F := fnctMatrixE) Tryz.func211 hbody rfl rfl (by kernel_rfl) (by simp [fnctMatrixE]) ?_
 refine WC_seq (WC_of (c := .reg [ox 4 (.mv (.c .nils)),ox 5 (.mv (oi 0))]) (by kernel_rfl) ?_)
 refine zR ?_
 refine WC_seq (WC_evN tbC_ok (c := cmBd) (by kernel_rfl) rfl rfl hB ?_)
 refine WC_seq (cm_r3 k g hk rfl ?_)
 exact WC_evR tbC_ok (c := cmZd) (by kernel_rfl) rfl rfl hZ
theorem x_ctMatrix : ∀ ds r, ctK ds = some r → PCalls Tryz.prog 211 ds r := by
 intro ds r h
 unfold ctK at h
 split at h
 ·rename_i k n
  split at h
  ·rename_i hkn
   cases h
   obtain ⟨k, rfl⟩ : ∃ m : Nat, k = m := ⟨k.toNat, by omega⟩
   obtain ⟨n, rfl⟩ : ∃ m : Nat, n = m := ⟨n.toNat, by omega⟩
   rw [Int.toNat_natCast, Int.toNat_natCast]
   have hk : k = 1 ∨ k = 2 ∨ k = 3 ∨ k = 4 := by omega
   have hn : n = 2 ∨ n = 3 := by omega
   rcases hk with rfl | rfl | rfl | rfl <;> rcases hn with rfl | rfl
   ·exact ctMatrix_of 1 2 262 (by simp) (by kernel_rfl) (by kernel_rfl)
   ·exact ctMatrix_of 1 3 262 (by simp) (by kernel_rfl) (by kernel_rfl)
   ·exact ctMatrix_of 2 2 263 (by simp) (by kernel_rfl) (by kernel_rfl)
   ·exact ctMatrix_of 2 3 263 (by simp) (by kernel_rfl) (by kernel_rfl)
   ·exact ctMatrix_of 3 2 264 (by simp) (by kernel_rfl) (by kernel_rfl)
   ·exact ctMatrix_of 3 3 264 (by simp) (by kernel_rfl) (by kernel_rfl)
   ·exact ctMatrix_of 4 2 260 (by simp) (by kernel_rfl) (by kernel_rfl)
   ·exact ctMatrix_of 4 3 260 (by simp) (by kernel_rfl) (by kernel_rfl)
  ·cases h
 ·cases h
theorem dg_presentP_nil (B : List DV) (r : Bool) (hB : B.all DV.rf = true) (hl : B.length = 6) (h3 : B.getD 3 .undef = .bool r) : PCalls Tryz.prog 217 [.el B 0, .sl 2 []] (.bool r) := by
 refine PCalls_of isdg_presentP (by simp [fndg_presentP]) ?_
 unfold codedg_presentP
 have d0 : decide ((0 : Int) = 0) = true := rfl
 repeat (first | refine W_seq ?_ | refine W_reg ?_ | refine W_regd ?_ | refine W_regs ?_ | refine W_regp ?_ | refine W_block ?_ | refine And.intro (by omega) ?_ | simp (maxSteps := 1000000) (disch := omega) only [cA, cB, cN, FnD.nb, lk, lkH, Dst.onT, Dst.onX, Dst.slot, setF, setH, mapF, mapH, initF, binE, unE, cnt, boundE, newsE, freshE, freshT, opE, rmH, blkQ, frz_us, Nat.reduceEqDiff, Nat.reduceLT, Nat.reduceAdd, Nat.reduceMul, Nat.reduceMod, ↓reduceIte, reduceCtorEq, Nat.reduceLeDiff, hl, d0, cS])
 refine ⟨by simp [DV.rf], ?_⟩
 repeat (first | refine W_seq ?_ | refine W_reg ?_ | refine W_regd ?_ | refine W_regs ?_ | refine W_regp ?_ | refine W_block ?_ | refine And.intro (by omega) ?_ | simp (maxSteps := 1000000) (disch := omega) only [cA, cB, cN, FnD.nb, lk, lkH, Dst.onT, Dst.onX, Dst.slot, setF, setH, mapF, mapH, initF, binE, unE, cnt, boundE, newsE, freshE, freshT, opE, rmH, blkQ, frz_us, Nat.reduceEqDiff, Nat.reduceLT, Nat.reduceAdd, Nat.reduceMul, Nat.reduceMod, ↓reduceIte, reduceCtorEq, Nat.reduceLeDiff, hl, d0, cS, List.length_nil, Nat.zero_div])
 refine wT ?_
 refine zS (zA hl h3) ?_
 exact W_ret (RetP_1 (.imm rfl))
theorem x_cod : ∀ ds r, codK ds = some r → PCalls Tryz.prog 154 ds r := by
 intro ds r h
 unfold codK at h
 split at h
 ·rename_i B n p n' p'
  split at h
  ·rename_i hc
   simp only [Bool.and_eq_true, decide_eq_true_eq] at hc
   obtain ⟨⟨⟨hB, hl⟩, rfl⟩, rfl⟩ := hc
   have hm : B.getD 5 .undef ∈ B := by
    rw [List.getD_eq_getElem?_getD, List.getElem?_eq_getElem (by omega)]; exact List.getElem_mem _
   have h5 := List.all_eq_true.1 hB _ hm
   have key : ∀ b : Bool, B.getD 3 .undef = .bool b → PCalls Tryz.prog 154 [.el B 0, .sl 2 [.str n, .int .i64 p], .agg [.str n, .int .i64 p]] (if b then B.getD 5 .undef else .int .i64 4) := fun b hb => by
    have hp := dg_presentP_nil B b hB hl hb
    exact dg_codedP_calls B [⟨n, p⟩] ⟨n, p⟩ (B.getD 5 .undef) b hB hl rfl h5 (by show 1 ≤ 1000000; omega) (by
     have e : fcs ([(⟨n, p⟩ : Fac)].filter fun x => !decide (x = ⟨n, p⟩)) = [] := by simp [fcs]
     rw [e]; exact hp)
   split at h
   ·rename_i hb; cases h; exact key true hb
   ·rename_i hb; cases h; exact key false hb
   ·cases h
  ·cases h
 ·cases h
abbrev vI (n : Int) : DV := .int .i64 n
def awX : DV := .agg [.sl 1 [vI 1, vI 2, vI 3], .nils, .sl 1 [vI 0, vI 1, vI 2], .sl 1 [vI 0, vI 1, vI 0]]
def awT : DV := .agg [vI 3, .sl 4 [.str [121], vI 1, .nils, .sl 5 [.bool false, .bool true, .sl 1 [.int .u32 29], .sl 1 [], vI 0, .bool false, .bool true, .sl 1 [.int .u32 28], .sl 1 [], vI 0, .bool false, .bool true, .sl 1 [.int .u32 27], .sl 1 [], vI 0], .str [120], vI 1, .nils, .sl 5 [.bool false, .bool true, .sl 1 [.int .u32 30], .sl 1 [], vI 0, .bool false, .bool true, .sl 1 [.int .u32 30], .sl 1 [], vI 0, .bool false, .bool true, .sl 1 [.int .u32 30], .sl 1 [], vI 0], .str [103], vI 2, .sl 1 [.str [97], .str [98], .str [99]], .sl 5 [.bool false, .bool false, .nils, .nils, vI 0, .bool false, .bool false, .nils, .nils, vI 1, .bool false, .bool false, .nils, .nils, vI 2], .str [104], vI 2, .sl 1 [.str [117], .str [118]], .sl 5 [.bool false, .bool false, .nils, .nils, vI 0, .bool false, .bool false, .nils, .nils, vI 1, .bool false, .bool false, .nils, .nils, vI 0]]]
def awM : DV := .agg [.str [121], .bool true, .sl 1 [.sl 2 [.str [104], vI 1]]]
def awL : DV := .agg [.str [121], .bool false, .sl 1 [.sl 2 [.str [104], vI 1]]]
def awB : DV := .tup [.agg [.sl 1 [.str [40, 73, 110, 116, 101, 114, 99, 101, 112, 116, 41], .str [104, 61, 118]], .sl 1 [.sl 3 [.bool false, .sl 1 [.int .u32 1], .sl 1 [], .bool false, .sl 1 [], .sl 1 []], .sl 3 [.bool false, .sl 1 [.int .u32 1], .sl 1 [], .bool false, .sl 1 [.int .u32 1], .sl 1 []], .sl 3 [.bool false, .sl 1 [.int .u32 1], .sl 1 [], .bool false, .sl 1 [], .sl 1 []]], .sl 3 [.bool true, .sl 1 [.int .u32 29], .sl 1 [], .bool true, .sl 1 [.int .u32 28], .sl 1 [], .bool true, .sl 1 [.int .u32 27], .sl 1 []], .sl 1 [vI 0, vI 1, vI 2]], vI 0]
def awC : DV := .tup [.agg [.sl 1 [.str [104, 61, 117], .str [104, 61, 118]], .sl 1 [.sl 3 [.bool false, .sl 1 [.int .u32 1], .sl 1 [], .bool false, .sl 1 [], .sl 1 []], .sl 3 [.bool false, .sl 1 [], .sl 1 [], .bool false, .sl 1 [.int .u32 1], .sl 1 []], .sl 3 [.bool false, .sl 1 [.int .u32 1], .sl 1 [], .bool false, .sl 1 [], .sl 1 []]], .sl 3 [.bool true, .sl 1 [.int .u32 29], .sl 1 [], .bool true, .sl 1 [.int .u32 28], .sl 1 [], .bool true, .sl 1 [.int .u32 27], .sl 1 []], .sl 1 [vI 0, vI 1, vI 2]], vI 0]
noncomputable def awK : List (Nat × (List DV → Option DV)) := [(154, codK), (211, ctK), (29, k2 fun x y => if smX 9000 x && smX 9000 y && decide (x = qX (xnV x)) && decide (y = qX (xnV y)) then some (.bool (decide (xnV x = xnV y))) else none), (157, k2 fun x y => if smX 4400 x && smX 4400 y then some (Q (xnV x * xnV y)) else none), (38, k2 fun x y => if smX 4400 x && smX 4400 y then some (Q (xnV x + xnV y)) else none), (158, k1 fun x => if smX 9000 x then some (.bool (vldQ x.1 x.2.1 x.2.2)) else none), (234, k1 fun x => if smX 9000 x then some (.int .i64 (xnV x).num.sign) else none), (30, kI fun z => some (.agg (xnC (qX (numQ z))))), (44, kI fun z => some (Q (z : Rat))), (80, kI fun z => some (Q (z : Rat)))]
theorem aw_K : TOK Tryz.prog ([], awK) := by
 have h := TOK.nil (P := Tryz.prog)
 replace h := TOK.ext x_qFromInt h
 replace h := TOK.ext x_pFromInt h
 replace h := TOK.ext x_mdNumber h
 replace h := TOK.ext x_qSign h
 replace h := TOK.ext x_qValid h
 replace h := TOK.ext x_qAdd h
 replace h := TOK.ext x_qMul h
 replace h := TOK.ext x_pSame h
 replace h := TOK.ext x_ctMatrix h
 replace h := TOK.ext x_cod h
 exact h
theorem aw_T : PCalls Tryz.prog 8 [awX] awT := by
 have h := aw_K
 replace h := h.f Tryz.func31 [0,1,4,8] [] (by kernel_rfl)
 replace h := h.f Tryz.func32 [0,1,4,6] [] (by kernel_rfl)
 replace h := h.f Tryz.func8 [0,1,2,3,4,5,6,7,8,21] [72] (by kernel_rfl)
 exact PCalls_ev h 4000 (by kernel_rfl)
theorem aw_M : PCalls Tryz.prog 9 [.str [121,32,126,32,104]] awM := by
 have h := aw_K
 replace h := h.f Tryz.func120 [0,2,3,7,27] [] (by kernel_rfl)
 replace h := h.f Tryz.func121 [0,2,3,21,25,32] [] (by kernel_rfl)
 replace h := h.f Tryz.func122 [0,1,4,8] [] (by kernel_rfl)
 replace h := h.f Tryz.func123 [0,2,3,7] [] (by kernel_rfl)
 replace h := h.f Tryz.func124 [0,1,4,5,12,19,26,33] [] (by kernel_rfl)
 replace h := h.f Tryz.func125 [0,1,2,4,5,6,12] [8] (by kernel_rfl)
 replace h := h.f Tryz.func126 [0,23] [] (by kernel_rfl)
 replace h := h.f Tryz.func127 [0,1,4,5,6,7,16,26,32] [] (by kernel_rfl)
 replace h := h.f Tryz.func128 [0,1,2,4,5,15,30] [] (by kernel_rfl)
 replace h := h.f Tryz.func129 [0,1,2,4,5,10] [] (by kernel_rfl)
 replace h := h.f Tryz.func130 [0,1,3,4,5,9,17] [] (by kernel_rfl)
 replace h := h.f Tryz.func131 [0,1,4,5,6,10,19] [] (by kernel_rfl)
 replace h := h.f Tryz.func132 [0,1,4,5,6,12,21] [] (by kernel_rfl)
 replace h := h.f Tryz.func133 [0,2,3,7,15] [] (by kernel_rfl)
 replace h := h.f Tryz.func134 [0,2,3,10,13] [] (by kernel_rfl)
 replace h := h.f Tryz.func194 [0,2] [] (by kernel_rfl)
 replace h := h.f Tryz.func195 [0,2] [] (by kernel_rfl)
 replace h := h.f Tryz.func196 [0,2,3,4,5,6,8,21,35] [] (by kernel_rfl)
 replace h := h.f Tryz.func240 [0,2,3,50] [] (by kernel_rfl)
 replace h := h.f Tryz.func33 [0,2,3,4,5,6,9,33,40,53] [] (by kernel_rfl)
 replace h := h.f Tryz.func34 [0,1,2,3,4,5,6,8,9,10,11,14,38,46,52,61] [] (by kernel_rfl)
 replace h := h.f Tryz.func63 [0,2,3,8] [] (by kernel_rfl)
 replace h := h.f Tryz.func64 [0,1,7] [] (by kernel_rfl)
 replace h := h.f Tryz.func65 [0,1,4,5,6,8,20] [] (by kernel_rfl)
 replace h := h.f Tryz.func66 [0,2,21] [] (by kernel_rfl)
 replace h := h.f Tryz.func68 [0,1,2,3,28,33,42] [] (by kernel_rfl)
 replace h := h.f Tryz.func69 [0,2,3,4,5,9,25] [] (by kernel_rfl)
 replace h := h.f Tryz.func70 [0,1,2,6,7,8,9,10,11,12,13,14,15,16,30,40,54,63,67] [] (by kernel_rfl)
 replace h := h.f Tryz.func71 [0,1,2,6,7,8,9,10,11,12,13,14,22,24,25,28,46,49,54,62,75,77,81,86,91,96] [] (by kernel_rfl)
 replace h := h.f Tryz.func72 [0,1,4,5,9,17] [] (by kernel_rfl)
 replace h := h.f Tryz.func73 [0,2,3,5] [] (by kernel_rfl)
 replace h := h.f Tryz.func74 [0,1,4,5,6,10,18] [] (by kernel_rfl)
 replace h := h.f Tryz.func9 [0,2,3,6] [] (by kernel_rfl)
 exact PCalls_ev h 4000 (by kernel_rfl)
theorem aw_L : PCalls Tryz.prog 9 [.str [121,32,126,32,104,32,45,32,49]] awL := by
 have h := aw_K
 replace h := h.f Tryz.func120 [0,2,3,7,27] [] (by kernel_rfl)
 replace h := h.f Tryz.func121 [0,2,3,21,25,32] [] (by kernel_rfl)
 replace h := h.f Tryz.func122 [0,1,4,8] [] (by kernel_rfl)
 replace h := h.f Tryz.func123 [0,2,3,7] [] (by kernel_rfl)
 replace h := h.f Tryz.func124 [0,1,4,5,12,19,26,33] [] (by kernel_rfl)
 replace h := h.f Tryz.func125 [0,1,2,4,5,6,12] [8] (by kernel_rfl)
 replace h := h.f Tryz.func126 [0,23] [] (by kernel_rfl)
 replace h := h.f Tryz.func127 [0,1,4,5,6,7,16,26,32] [] (by kernel_rfl)
 replace h := h.f Tryz.func128 [0,1,2,4,5,15,30] [] (by kernel_rfl)
 replace h := h.f Tryz.func129 [0,1,2,4,5,10] [] (by kernel_rfl)
 replace h := h.f Tryz.func130 [0,1,3,4,5,9,17] [] (by kernel_rfl)
 replace h := h.f Tryz.func131 [0,1,4,5,6,10,19] [] (by kernel_rfl)
 replace h := h.f Tryz.func132 [0,1,4,5,6,12,21] [] (by kernel_rfl)
 replace h := h.f Tryz.func133 [0,2,3,7,15] [] (by kernel_rfl)
 replace h := h.f Tryz.func134 [0,2,3,10,13] [] (by kernel_rfl)
 replace h := h.f Tryz.func194 [0,2] [] (by kernel_rfl)
 replace h := h.f Tryz.func195 [0,2] [] (by kernel_rfl)
 replace h := h.f Tryz.func196 [0,2,3,4,5,6,8,21,35] [] (by kernel_rfl)
 replace h := h.f Tryz.func240 [0,2,3,50] [] (by kernel_rfl)
 replace h := h.f Tryz.func33 [0,2,3,4,5,6,9,33,40,53] [] (by kernel_rfl)
 replace h := h.f Tryz.func34 [0,1,2,3,4,5,6,8,9,10,11,14,38,46,52,61] [] (by kernel_rfl)
 replace h := h.f Tryz.func63 [0,2,3,8] [] (by kernel_rfl)
 replace h := h.f Tryz.func64 [0,1,7] [] (by kernel_rfl)
 replace h := h.f Tryz.func65 [0,1,4,5,6,8,20] [] (by kernel_rfl)
 replace h := h.f Tryz.func66 [0,2,21] [] (by kernel_rfl)
 replace h := h.f Tryz.func68 [0,1,2,3,28,33,42] [] (by kernel_rfl)
 replace h := h.f Tryz.func69 [0,2,3,4,5,9,25] [] (by kernel_rfl)
 replace h := h.f Tryz.func70 [0,1,2,6,7,8,9,10,11,12,13,14,15,16,30,40,54,63,67] [] (by kernel_rfl)
 replace h := h.f Tryz.func71 [0,1,2,6,7,8,9,10,11,12,13,14,22,24,25,28,46,49,54,62,75,77,81,86,91,96] [] (by kernel_rfl)
 replace h := h.f Tryz.func72 [0,1,4,5,9,17] [] (by kernel_rfl)
 replace h := h.f Tryz.func73 [0,2,3,5] [] (by kernel_rfl)
 replace h := h.f Tryz.func74 [0,1,4,5,6,10,18] [] (by kernel_rfl)
 replace h := h.f Tryz.func9 [0,2,3,6] [] (by kernel_rfl)
 exact PCalls_ev h 4000 (by kernel_rfl)
theorem aw_B : PCalls Tryz.prog 12 [awT, awM, vI 1] awB := by
 have h := aw_K
 replace h := h.f Tryz.func12 [0,1,2,3,4,6,7,8,9,10,11,12,14,15,17,18,20,22,33,38,43,54,59,60,61,62,76,77,78,79,82,83,84,85,91,92,93,94] [1000004,2000027] (by kernel_rfl)
 replace h := h.f Tryz.func138 [0,2,3,4,5,6,7,8,21] [] (by kernel_rfl)
 replace h := h.f Tryz.func139 [0,1,2,3,5,7,8,9,10] [] (by kernel_rfl)
 replace h := h.f Tryz.func140 [0,1,4] [] (by kernel_rfl)
 replace h := h.f Tryz.func141 [0,1,2,3] [] (by kernel_rfl)
 replace h := h.f Tryz.func142 [0,1,2,4,5,6,38,40,41,42,43,52] [2000002] (by kernel_rfl)
 replace h := h.f Tryz.func143 [0,2,4,21,23,24,25,26,48] [] (by kernel_rfl)
 replace h := h.f Tryz.func144 [0,1,2] [] (by kernel_rfl)
 replace h := h.f Tryz.func145 [0,1,3,4] [] (by kernel_rfl)
 replace h := h.f Tryz.func146 [0,1,4] [] (by kernel_rfl)
 replace h := h.f Tryz.func149 [0,1,4,5,7,8,9,16] [] (by kernel_rfl)
 replace h := h.f Tryz.func150 [0,1,2,3] [] (by kernel_rfl)
 replace h := h.f Tryz.func153 [0,1,2,4,6,7,9,11,12,13,32,33,34,35] [] (by kernel_rfl)
 replace h := h.f Tryz.func155 [0,1,4,5,7,8,9,16] [] (by kernel_rfl)
 replace h := h.f Tryz.func198 [0,1,4] [] (by kernel_rfl)
 replace h := h.f Tryz.func199 [0,1,4,5,7,8,9,16] [] (by kernel_rfl)
 replace h := h.f Tryz.func200 [0,1,4] [] (by kernel_rfl)
 replace h := h.f Tryz.func201 [0,1,2,3] [] (by kernel_rfl)
 replace h := h.f Tryz.func202 [0,1,2,3,4,5,15,24] [] (by kernel_rfl)
 replace h := h.f Tryz.func203 [0,2] [] (by kernel_rfl)
 replace h := h.f Tryz.func204 [0,1,3,4,5,7,8,9,16] [] (by kernel_rfl)
 replace h := h.f Tryz.func205 [0,1,4,5,7,8,9,16] [] (by kernel_rfl)
 replace h := h.f Tryz.func212 [0,1,4,5,6,7,12,16,17,18,20,28,38] [] (by kernel_rfl)
 replace h := h.f Tryz.func213 [0,1,2,4] [] (by kernel_rfl)
 replace h := h.f Tryz.func241 [0,1,4,5,7,8,9,16] [] (by kernel_rfl)
 replace h := h.f Tryz.func244 [0,1,4] [] (by kernel_rfl)
 replace h := h.f Tryz.func246 [0,1,4,6] [] (by kernel_rfl)
 replace h := h.f Tryz.func35 [0,2,3,4,5,7,9,23,35,50,59,64,65,66,67,70,71,72,73,86] [] (by kernel_rfl)
 replace h := h.f Tryz.func36 [0,2,3,4,5,7,8,9,10,11,12,14,19,31,32,33,34,40,41,42,43,65,70,75,76,77,78] [] (by kernel_rfl)
 replace h := h.f Tryz.func37 [0,1,4] [] (by kernel_rfl)
 replace h := h.f Tryz.func75 [0,1,2] [2000001] (by kernel_rfl)
 replace h := h.f Tryz.func76 [0,1,2,3,4,5,6,16,18,19,20,21,48,49,50,51,52,65,72] [] (by kernel_rfl)
 replace h := h.f Tryz.func77 [0,1,2,4,5,6,8,9,10,11,14,15,16,17,18,26,37,38,39,44] [] (by kernel_rfl)
 replace h := h.f Tryz.func78 [0,1,2,3,5,7,12,13,14,15,18,19,20,21] [10] (by kernel_rfl)
 replace h := h.f Tryz.func79 [0,2] [] (by kernel_rfl)
 replace h := h.f Tryz.func81 [0,1,2,5,6,7,14] [] (by kernel_rfl)
 replace h := h.f Tryz.func82 [0,1,4] [] (by kernel_rfl)
 replace h := h.f Tryz.func83 [0,1,2] [] (by kernel_rfl)
 replace h := h.f Tryz.func85 [0,1,2,4,7] [] (by kernel_rfl)
 exact PCalls_ev h 4000 (by kernel_rfl)
theorem aw_C : PCalls Tryz.prog 12 [awT, awL, vI 1] awC := by
 have h := aw_K
 replace h := h.f Tryz.func12 [0,1,2,3,4,6,7,8,9,10,11,12,14,15,17,18,20,22,33,38,43,54,59,60,61,62,76,77,78,79,82,83,84,85,91,92,93,94] [1000004,2000027] (by kernel_rfl)
 replace h := h.f Tryz.func138 [0,2,3,4,5,6,7,8,21] [] (by kernel_rfl)
 replace h := h.f Tryz.func139 [0,1,2,3,5,7,8,9,10] [] (by kernel_rfl)
 replace h := h.f Tryz.func140 [0,1,4] [] (by kernel_rfl)
 replace h := h.f Tryz.func141 [0,1,2,3] [] (by kernel_rfl)
 replace h := h.f Tryz.func142 [0,1,2,4,5,6,38,40,41,42,43,52] [2000002] (by kernel_rfl)
 replace h := h.f Tryz.func143 [0,2,4,21,23,24,25,26,48] [] (by kernel_rfl)
 replace h := h.f Tryz.func144 [0,1,2] [] (by kernel_rfl)
 replace h := h.f Tryz.func145 [0,1,3,4] [] (by kernel_rfl)
 replace h := h.f Tryz.func146 [0,1,4] [] (by kernel_rfl)
 replace h := h.f Tryz.func149 [0,1,4,5,7,8,9,16] [] (by kernel_rfl)
 replace h := h.f Tryz.func150 [0,1,2,3] [] (by kernel_rfl)
 replace h := h.f Tryz.func153 [0,1,2,4,6,7,9,11,12,13,32,33,34,35] [] (by kernel_rfl)
 replace h := h.f Tryz.func155 [0,1,4,5,7,8,9,16] [] (by kernel_rfl)
 replace h := h.f Tryz.func198 [0,1,4] [] (by kernel_rfl)
 replace h := h.f Tryz.func199 [0,1,4,5,7,8,9,16] [] (by kernel_rfl)
 replace h := h.f Tryz.func200 [0,1,4] [] (by kernel_rfl)
 replace h := h.f Tryz.func201 [0,1,2,3] [] (by kernel_rfl)
 replace h := h.f Tryz.func202 [0,1,2,3,4,5,15,24] [] (by kernel_rfl)
 replace h := h.f Tryz.func203 [0,2] [] (by kernel_rfl)
 replace h := h.f Tryz.func204 [0,1,3,4,5,7,8,9,16] [] (by kernel_rfl)
 replace h := h.f Tryz.func205 [0,1,4,5,7,8,9,16] [] (by kernel_rfl)
 replace h := h.f Tryz.func212 [0,1,4,5,6,7,12,16,17,18,20,28,38] [] (by kernel_rfl)
 replace h := h.f Tryz.func213 [0,1,2,4] [] (by kernel_rfl)
 replace h := h.f Tryz.func241 [0,1,4,5,7,8,9,16] [] (by kernel_rfl)
 replace h := h.f Tryz.func244 [0,1,4] [] (by kernel_rfl)
 replace h := h.f Tryz.func246 [0,1,4,6] [] (by kernel_rfl)
 replace h := h.f Tryz.func35 [0,2,3,4,5,7,9,23,35,50,59,64,65,66,67,70,71,72,73,86] [] (by kernel_rfl)
 replace h := h.f Tryz.func36 [0,2,3,4,5,7,8,9,10,11,12,14,19,31,32,33,34,40,41,42,43,65,70,75,76,77,78] [] (by kernel_rfl)
 replace h := h.f Tryz.func37 [0,1,4] [] (by kernel_rfl)
 replace h := h.f Tryz.func75 [0,1,2] [2000001] (by kernel_rfl)
 replace h := h.f Tryz.func76 [0,1,2,3,4,5,6,16,18,19,20,21,48,49,50,51,52,65,72] [] (by kernel_rfl)
 replace h := h.f Tryz.func77 [0,1,2,4,5,6,8,9,10,11,14,15,16,17,18,26,37,38,39,44] [] (by kernel_rfl)
 replace h := h.f Tryz.func78 [0,1,2,3,5,7,12,13,14,15,18,19,20,21] [10] (by kernel_rfl)
 replace h := h.f Tryz.func79 [0,2] [] (by kernel_rfl)
 replace h := h.f Tryz.func81 [0,1,2,5,6,7,14] [] (by kernel_rfl)
 replace h := h.f Tryz.func82 [0,1,4] [] (by kernel_rfl)
 replace h := h.f Tryz.func83 [0,1,2] [] (by kernel_rfl)
 replace h := h.f Tryz.func85 [0,1,2,4,7] [] (by kernel_rfl)
 exact PCalls_ev h 4000 (by kernel_rfl)
theorem ld_awake_calls : PCalls Tryz.prog 14 [] (.bool true) := by
 have h := aw_K
 replace h := TOK.ans aw_T h
 replace h := TOK.ans aw_M h
 replace h := TOK.ans aw_L h
 replace h := TOK.ans aw_B h
 replace h := TOK.ans aw_C h
 replace h := h.f Tryz.func14 [0,1,2,3,4,5] [] (by kernel_rfl)
 replace h := h.f Tryz.func47 [0,1,4,5,10,14,25] [] (by kernel_rfl)
 replace h := h.f Tryz.func17 [0,1,4,5,10,14,26] [] (by kernel_rfl)
 exact PCalls_ev h 4000 (by kernel_rfl)
theorem mdAt_calls (l : List Int) (i : Nat) (hl : l.length ≤ 9223372036854775807) : PCalls Tryz.prog 31 [.sl 1 (l.map (.int .i64)), .int .i64 i] (.int .i64 (l.getD i 0)) := by
 have hln : (l.map (DV.int .i64)).length = l.length := List.length_map _
 refine PCalls_of ismdAt (by simp [fnmdAt]) ?_
 unfold codemdAt
 by_cases h : i < l.length
 ·have d1 : decide ((i : Int) < (l.length : Int)) = true := decide_eq_true (by omega)
  have ei : (i : Int).toNat = i := Int.toNat_natCast i
  have hg : (l.map (DV.int .i64)).getD i .undef = .int .i64 (l.getD i 0) := by
   rw [List.getD_eq_getElem?_getD, List.getElem?_map, List.getElem?_eq_getElem h, List.getD_eq_getElem?_getD, List.getElem?_eq_getElem h]; rfl
  refine zS (zA hln d1) ?_
  refine wT ?_
  refine zS (zA hln (zA ei hg)) ?_
  exact W_ret (RetP_1 (.imm rfl))
 ·have d1 : decide ((i : Int) < (l.length : Int)) = false := decide_eq_false (by omega)
  have hg : l.getD i 0 = 0 := by rw [List.getD_eq_getElem?_getD, List.getElem?_eq_none (by omega)]; rfl
  rw [hg]
  refine zS (zA hln d1) ?_
  refine wFs ?_
  refine zR ?_
  exact W_ret (RetP_1 (.imm rfl))
theorem getD_bd {l : List Int} (hb : ∀ z ∈ l, -9223372036854775808 ≤ z ∧ z ≤ 9223372036854775807) (i : Nat) : -9223372036854775808 ≤ l.getD i 0 ∧ l.getD i 0 ≤ 9223372036854775807 := by
 by_cases h : i < l.length
 ·rw [List.getD_eq_getElem?_getD, List.getElem?_eq_getElem h]; exact hb _ (List.getElem_mem h)
 ·rw [List.getD_eq_getElem?_getD, List.getElem?_eq_none (by omega)]; decide
theorem mdMatrix_calls (n k : Nat) (l : List Int) (h1 : n ≤ 90) (h2 : k ≤ 90) (hl : l.length ≤ 9223372036854775807) (hb : ∀ z ∈ l, -9223372036854775808 ≤ z ∧ z ≤ 9223372036854775807) :
  PCalls Tryz.prog 24 [.int .i64 n, .int .i64 k, .sl 1 (l.map (.int .i64))] (.sl 1 (mtD n k (mdM l k))) := by
 refine PCalls_of ismdMatrix (by simp [fnmdMatrix]) ?_
 unfold codemdMatrix
 refine W_seq ?_
 refine W_reg ?_
 refine zD ?_
 refine W_seq ?_
 refine W_reg ?_
 refine zD ?_
 refine W_own 7 1 200 rfl rfl ?_
 refine zR ?_
 refine W_loop (σ := Nat) (fun i => [(0, .int .i64 n), (1, .int .i64 k), (2, .sl 1 (l.map (.int .i64))), (7, .osl 1 200 0 i), (8, .int .i64 i)]) (fun i => [(200, mtD i k (mdM l k))]) (fun i => i ≤ n) (fun i => n - i) 0 (Nat.zero_le _) ?_ rfl ?_
 ·simp [subF, lk]
 ·intro i hi
  try simp only at hi ⊢
  by_cases hlt : i < n
  ·have dl : decide ((i : Int) < (n : Int)) = true := decide_eq_true (by omega)
   have ei1 : ((i : Int) + 1) = ((i + 1 : Nat) : Int) := by omega
   refine zS dl ?_
   refine wTs ?_
   refine W_seq ?_
   refine W_block ?_
   refine W_seq ?_
   refine W_reg ?_
   refine zD ?_
   refine W_own 9 3 201 rfl rfl ?_
   refine zR ?_
   refine W_loop (σ := Nat) (fun j => [(0, .int .i64 n), (1, .int .i64 k), (2, .sl 1 (l.map (.int .i64))), (7, .osl 1 200 0 i), (8, .int .i64 i), (9, .osl 3 201 0 j), (10, .int .i64 j)]) (fun j => [(200, mtD i k (mdM l k)), (201, rwC j (mdM l k i))]) (fun j => j ≤ k) (fun j => k - j) 0 (Nat.zero_le _) ?_ ?_ ?_
   ·simp [subF, lk]
   ·rfl
   ·intro j hj
    try simp only at hj ⊢
    by_cases hlj : j < k
    ·have dj : decide ((j : Int) < (k : Int)) = true := decide_eq_true (by omega)
     have ej1 : ((j : Int) + 1) = ((j + 1 : Nat) : Int) := by omega
     have hik : i * k ≤ 8100 := Nat.le_trans (Nat.mul_le_mul (show i ≤ 90 by omega) h2) (by decide)
     have em : (i : Int) * (k : Int) = ((i * k : Nat) : Int) := (Int.natCast_mul i k).symm
     have ea : ((i * k : Nat) : Int) + (j : Int) = ((i * k + j : Nat) : Int) := (Int.natCast_add _ _).symm
     have ca := mdAt_calls l (i * k + j) hl
     have cn := mdNumber_calls (l.getD (i * k + j) 0) (getD_bd hb _)
     have hq : xnC (qX (numQ (l.getD (i * k + j) 0))) = numC (mdM l k i j) := rfl
     rw [hq] at cn
     generalize l.getD (i * k + j) 0 = z at *
     generalize i * k = ik at *
     have hrl := rwC_len j (mdM l k i)
     have hsn := rwC_snoc j (mdM l k i)
     have hp1 := map_purge 201 (rwC_rf (j + 1) (mdM l k i))
     have hp2 := map_purge 201 (mtD_rf i k (mdM l k))
     have hld : laid [DV.bool false, .nils, .nils] [(0, 3, .agg (numC (mdM l k i j)))] = some (numC (mdM l k i j)) := rfl
     have hq3 := numC_len (mdM l k i j)
     have hq4 := numC_one (mdM l k i j)
     have hq5 := numC_rf (mdM l k i j)
     have h33 : 3 / 3 = 1 := rfl
     refine zS dj ?_
     refine wTs ?_
     refine zS (zA em ea) ?_
     refine cP ca ?_
     refine zR ?_
     refine cP cn ?_
     refine zS (zA hld (zA hrl (zA hq3 h33))) ?_
     refine ⟨⟨by omega, by omega, fun h => h, hq4⟩, ?_⟩
     rw [hsn, hp1, hp2]
     refine zS ej1 ?_
     exact ⟨j + 1, by omega, by omega, by simp [subF, lk], rfl⟩
    ·have hje : j = k := by omega
     have dj : decide ((j : Int) < (k : Int)) = false := decide_eq_false (by omega)
     rw [hje] at dj ⊢
     have hrl3 := rwC_len k (mdM l k i)
     have z1 : frz 201 (rwC k (mdM l k i)) (.osl 3 201 0 k) = .sl 3 (rwC k (mdM l k i)) := by
      simp [frz, hrl3]; rw [List.take_of_length_le (by omega)]
     have z2 : ∀ cs m, frz 201 cs (.osl 1 200 0 m) = .osl 1 200 0 m := fun cs m => by simp [frz]
     have z5 := map_frz 201 (rwC k (mdM l k i)) (mtD_rf i k (mdM l k))
     have hm1 := mtD_len i k (mdM l k)
     have hm2 := mtD_succ i k (mdM l k)
     have hm4 := map_purge 200 (mtD_rf (i + 1) k (mdM l k))
     have hl2 : ∀ X, laid [DV.nils] [(0, 1, .sl 3 X)] = some [.sl 3 X] := fun _ => rfl
     refine W_freeze 201 (cells := rwC k (mdM l k i)) rfl (List.all_eq_true.2 (rwC_rf _ _)) ?_
     refine zS (zA z1 (zA z2 (zA z5 dj))) ?_
     refine W_cond rfl (fun h => by cases h) (fun _ => W_exit ?_)
     refine zS (zA hl2 hm1) ?_
     refine ⟨by simp [DV.rf], ⟨by omega, by omega, fun h => h, by simp [DV.one]⟩, ?_⟩
     rw [hm2, hm4]
     refine zS ei1 ?_
     exact ⟨i + 1, by omega, by omega, by simp [subF, lk], rfl⟩
  ·have dl : decide ((i : Int) < (n : Int)) = false := decide_eq_false (by omega)
   have hin : i = n := by omega
   rw [hin] at dl ⊢
   refine zS dl ?_
   refine W_cond rfl (fun h => by cases h) (fun _ => W_exit ?_)
   refine zR ?_
   exact W_ret (RetP_1 (Exp_flat rfl (by decide) (by rw [mtD_len]; omega) (mtD_rf _ _ _)))
theorem eB5 : ∀ t, t < 5 → 3 * eB 5 t ≤ 140800 ∧ uB 5 t + 4 * eB 5 t ≤ 140800 ∧ 3 * gB 5 t + 2 ≤ 140800 := by decide
theorem gB5 : ∀ t, t < 6 → gB 5 t ≤ 5802 := by decide
theorem zero_wk1 (j : Nat) (d d' : DV) (h : [DV.bool false, .nils, .nils][j]? = some d) (h' : (numC 0)[j]? = some d') (w : World) (L : Nat → Option Nat) (A : Nat → Prop) (v : Value) (hv : V w L A d v) : V w L A d' v := zero_wk 1 j d d' h h' w L A v hv
set_option maxHeartbeats 4000000 in
theorem ldExp_data (n0 k0 : Nat) (l : List Int) (hn0 : n0 < 256) (hk0 : k0 < 256) (hl : l.length ≤ 9223372036854775807) (hb : ∀ z ∈ l, -9223372036854775808 ≤ z ∧ z ≤ 9223372036854775807) :
  PCalls Tryz.prog 7 [.int .u8 n0, .int .u8 k0, .sl 1 (l.map (.int .i64))] (.bool true) := by
 have hA := ld_awake_calls
 obtain ⟨n, hn⟩ : ∃ n, n = 1 + n0 % 5 := ⟨_, rfl⟩
 obtain ⟨k, hk⟩ : ∃ k, k = 1 + k0 % 5 := ⟨_, rfl⟩
 have tn : Int.tmod (n0 : Int) 5 = ((n0 % 5 : Nat) : Int) := rfl
 have tk : Int.tmod (k0 : Int) 5 = ((k0 % 5 : Nat) : Int) := rfl
 have en : 1 + ((n0 % 5 : Nat) : Int) = (n : Int) := by omega
 have ek : 1 + ((k0 % 5 : Nat) : Int) = (k : Int) := by omega
 have cm := mdMatrix_calls n k l (by omega) (by omega) hl hb
 have hM0 : MS n k (mdM l k) 5 := fun i _ j _ => numQ_BS _
 have hok : mtOK (xOf n k (mdM l k)) n k 5 := ⟨xOf_len n k _, by omega, by omega, by omega, fun i hi => xOf_rowl hi _, by omega, xOf_ok hM0 (by decide), fun i hi j hj => by rw [xOf_M _ i hi j hj]; exact hM0 i hi j hj⟩
 have ca := dgAlias_calls hok (fun t ht => (eB5 t (by omega)).1) (fun t ht => (eB5 t (by omega)).2.1) (fun t ht => Nat.le_trans (gB5 t (by omega)) (by decide))
 have cr := mrRank_calls hok (fun t ht => (eB5 t (by omega)).2.2) (fun t ht => Nat.le_trans (gB5 t (by omega)) (by decide))
 rw [xOf_D, ← mtD_congr (xOf_M (mdM l k))] at ca cr
 rw [← mtD_congr (xOf_M (mdM l k))] at cm
 have hMs := hok.sz
 have hsz := rr_size hok.sz
 obtain ⟨hR, hK⟩ := rr_is n k (mtX (xOf n k (mdM l k)))
 have hpn := rrP_len n k (mtX (xOf n k (mdM l k)))
 unfold aliD at ca
 have hbl : ((List.range k).map fun c => DV.bool (decide (c ∈ rrP n k (mtX (xOf n k (mdM l k)))))) = blD (rrP n k (mtX (xOf n k (mdM l k)))) k := rfl
 rw [hbl] at ca
 clear hbl hok hM0
 generalize rrM n k (mtX (xOf n k (mdM l k))) = R at *
 generalize rrP n k (mtX (xOf n k (mdM l k))) = ps at *
 generalize mtX (xOf n k (mdM l k)) = M at *
 have hG := gB5 ps.length (by omega)
 have hfa := fltP_all hR
 have hml := mtD_len n k M
 have hg0 := mtD_get (k := k) (show 0 < n by omega) M .undef
 have hkl := rwC_len k (M 0)
 have hkk : k * 3 / 3 = k := by omega
 have hb1 := blD_len ps k
 have hby := mtD_len k ps.length fun c a => R a c
 have hil := intsD_len ps
 have d0 : decide (¬ (0 : Int) = 0) = false := rfl
 have ez : (0 : Int).toNat = 0 := rfl
 have dnt : ∀ [h : Decidable (¬ True)], @decide (¬ True) h = false := by intro h; exact decide_eq_false (fun g => g trivial)
 refine PCalls_of isldDesignAliasExplainsColumns (by simp [fnldDesignAliasExplainsColumns]) ?_
 unfold codeldDesignAliasExplainsColumns
 refine zS (zA tn (zA tk (zA en ek))) ?_
 refine cP cm ?_
 refine zR ?_
 refine cP ca ?_
 repeat (first | refine W_seq ?_ | refine W_reg ?_ | refine W_regd ?_ | refine W_regs ?_ | refine W_regp ?_ | refine W_block ?_ | refine And.intro (by omega) ?_ | simp (maxSteps := 1000000) (disch := omega) only [cA, cB, cN, FnD.nb, lk, lkH, Dst.onT, Dst.onX, Dst.slot, setF, setH, mapF, mapH, initF, binE, unE, cnt, boundE, newsE, freshE, freshT, opE, rmH, blkQ, frz_us, Nat.reduceEqDiff, Nat.reduceLT, Nat.reduceAdd, Nat.reduceMul, Nat.reduceMod, ↓reduceIte, reduceCtorEq, Nat.reduceLeDiff])
 refine cP cr ?_
 repeat (first | refine W_seq ?_ | refine W_reg ?_ | refine W_regd ?_ | refine W_regs ?_ | refine W_regp ?_ | refine W_block ?_ | refine And.intro (by omega) ?_ | simp (maxSteps := 1000000) (disch := omega) only [cA, cB, cN, FnD.nb, lk, lkH, Dst.onT, Dst.onX, Dst.slot, setF, setH, mapF, mapH, initF, binE, unE, cnt, boundE, newsE, freshE, freshT, opE, rmH, blkQ, frz_us, Nat.reduceEqDiff, Nat.reduceLT, Nat.reduceAdd, Nat.reduceMul, Nat.reduceMod, ↓reduceIte, reduceCtorEq, Nat.reduceLeDiff, d0, dnt, ez, hml, hg0, hkl, hkk, hb1, hby])
 refine wFs ?_
 refine W_seq ?_
 refine W_reg ?_
 refine zD ?_
 refine W_own 13 1 200 rfl rfl ?_
 refine zR ?_
 refine W_loop (σ := Nat) (fun i => [(7, .sl 1 (mtD n k M)), (8, .sl 1 (blD ps k)), (9, .sl 1 (mtD k ps.length fun c a => R a c)), (11, .int .i64 ps.length), (13, .osl 1 200 0 (fltP ps i).length), (14, .int .i64 i)]) (fun i => [(200, intsD (fltP ps i))]) (fun i => i ≤ k) (fun i => k - i) 0 (Nat.zero_le _) ?_ ?_ ?_
 ·simp [subF, lk, fltP]
 ·rfl
 ·intro i hi
  try simp only at hi ⊢
  by_cases hlt : i < k
  ·have dl : decide ((i : Int) < (k : Int)) = true := decide_eq_true (by omega)
   have ei : (i : Int).toNat = i := Int.toNat_natCast i
   have e1 : ((i : Int) + 1) = ((i + 1 : Nat) : Int) := by omega
   have hgc := blD_get (ps := ps) hlt .undef
   have hfl := fltP_len ps i
   have hfs := fltP_succ ps i
   have hal := intsD_len (fltP ps i)
   by_cases hm : i ∈ ps
   ·rw [decide_eq_true hm] at hgc
    rw [if_pos hm] at hfs
    have hsn := intsD_snoc (fltP ps i) i
    have hpu := map_purge 200 (intsD_rf (fltP ps i ++ [i]))
    have hlen : (fltP ps (i + 1)).length = (fltP ps i).length + 1 := by rw [hfs, List.length_append]; rfl
    have hl1 : ∀ z : Int, laid [DV.int .i64 0] [(0, 1, .int .i64 z)] = some [.int .i64 z] := fun _ => rfl
    refine zS (zA dl hb1) ?_
    refine wTs ?_
    refine zS (zA ei (zA hb1 hgc)) ?_
    refine wT ?_
    refine zS (zA hl1 hal) ?_
    refine ⟨by simp [DV.rf], ⟨by omega, by omega, fun h => h, by simp [DV.one]⟩, ?_⟩
    rw [hsn, hpu]
    refine zS e1 ?_
    exact ⟨i + 1, by omega, by omega, by simp [subF, lk, hlen], by simp only [hfs]⟩
   ·rw [decide_eq_false hm] at hgc
    rw [if_neg hm] at hfs
    refine zS (zA dl hb1) ?_
    refine wTs ?_
    refine zS (zA ei (zA hb1 hgc)) ?_
    refine wFs ?_
    refine zS e1 ?_
    exact ⟨i + 1, by omega, by omega, by simp [subF, lk, hfs], by simp only [hfs]⟩
  ·have hik : i = k := by omega
   have dl : decide ((i : Int) < (k : Int)) = false := decide_eq_false (by omega)
   rw [hik] at dl ⊢
   rw [hfa]
   have z1 : frz 200 (intsD ps) (.osl 1 200 0 ps.length) = .sl 1 (intsD ps) := by
    simp [frz, hil]; rw [List.take_of_length_le (by omega)]
   refine W_freeze 200 (cells := intsD ps) rfl (List.all_eq_true.2 (intsD_rf _)) ?_
   refine zS (zA z1 (zA dl hb1)) ?_
   refine W_cond rfl (fun h => by cases h) (fun _ => W_exit ?_)
   refine zS (zA hil dnt) ?_
   refine wFs ?_
   refine zR ?_
   refine W_loop (σ := Nat) (fun j => [(7, .sl 1 (mtD n k M)), (8, .sl 1 (blD ps k)), (9, .sl 1 (mtD k ps.length fun c a => R a c)), (11, .int .i64 ps.length), (13, .sl 1 (intsD ps)), (15, .int .i64 j)]) (fun _ => []) (fun j => j ≤ k) (fun j => k - j) 0 (Nat.zero_le _) ?_ rfl ?_
   ·simp [subF, lk]
   ·intro j hj
    try simp only at hj ⊢
    by_cases hlj : j < k
    ·have dj : decide ((j : Int) < (k : Int)) = true := decide_eq_true (by omega)
     have ej : (j : Int).toNat = j := Int.toNat_natCast j
     have ej1 : ((j : Int) + 1) = ((j + 1 : Nat) : Int) := by omega
     have hgy := mtD_get (k := ps.length) hlj (fun c a => R a c) .undef
     have hyl := rwC_len ps.length fun a => R a j
     have hyy : ps.length * 3 / 3 = ps.length := by omega
     refine zS (zA dj hb1) ?_
     refine wTs ?_
     refine zS (zA ej (zA hby (zA hgy (zA hyl (zA hyy dnt))))) ?_
     refine wFs ?_
     refine zR ?_
     refine W_loop (σ := Nat) (fun i => [(7, .sl 1 (mtD n k M)), (8, .sl 1 (blD ps k)), (9, .sl 1 (mtD k ps.length fun c a => R a c)), (11, .int .i64 ps.length), (13, .sl 1 (intsD ps)), (15, .int .i64 j), (16, .int .i64 i)]) (fun _ => []) (fun i => i ≤ n) (fun i => n - i) 0 (Nat.zero_le _) ?_ rfl ?_
     ·simp [subF, lk]
     ·intro i hi
      try simp only at hi ⊢
      by_cases hli : i < n
      ·have di : decide ((i : Int) < (n : Int)) = true := decide_eq_true (by omega)
       have ei : (i : Int).toNat = i := Int.toNat_natCast i
       have ei1 : ((i : Int) + 1) = ((i + 1 : Nat) : Int) := by omega
       have hgx := mtD_get (k := k) hli M .undef
       have hxl := rwC_len k (M i)
       have hex := hR.explains hK hli hlj
       obtain ⟨F, hF⟩ : ∃ F : Nat → Rat, F = fun a => R a j * M i (ps.getD a 0) := ⟨_, rfl⟩
       rw [← hF] at hex
       have hFa : ∀ a, R a j * M i (ps.getD a 0) = F a := fun a => by rw [hF]
       have hFb : ∀ a, a < ps.length → BS (F a) (5802 + 5) := fun a ha => by
        rw [hF]; exact BS_mul ((hsz a (by omega) j hlj).mono hG) (hMs i hli _ (hR.lt a ha))
       have hSb : ∀ a, a ≤ ps.length → BS (sumQ a F) 140800 := fun a ha => by
        refine (BS_sum fun c hc => hFb c (by omega)).mono ?_
        have : a * (5802 + 5 + 1) ≤ 5 * (5802 + 5 + 1) := Nat.mul_le_mul_right _ (by omega)
        omega
       refine zS (zA di hml) ?_
       refine wTs ?_
       refine zS @cS ?_
       refine W_wkc 17 (cells := [DV.bool false, .nils, .nils]) (cells' := numC 0) rfl rfl zero_wk1 ?_
       refine zR ?_
       refine W_loop (σ := Nat) (fun a => [(7, .sl 1 (mtD n k M)), (8, .sl 1 (blD ps k)), (9, .sl 1 (mtD k ps.length fun c a => R a c)), (11, .int .i64 ps.length), (13, .sl 1 (intsD ps)), (15, .int .i64 j), (16, .int .i64 i), (17, .ptr 17 0), (18, .int .i64 a)]) (fun a => [(17, numC (sumQ a F))]) (fun a => a ≤ ps.length) (fun a => ps.length - a) 0 (Nat.zero_le _) ?_ ?_ ?_
       ·simp [subF, lk]
       ·rfl
       ·intro a ha
        try simp only at ha ⊢
        by_cases hla : a < ps.length
        ·have da : decide ((a : Int) < (ps.length : Int)) = true := decide_eq_true (by omega)
         have ea : (a : Int).toNat = a := Int.toNat_natCast a
         have ea1 : ((a : Int) + 1) = ((a + 1 : Nat) : Int) := by omega
         have hgp := intsD_get hla .undef
         have hy := hR.lt a hla
         have hwy := rwC_win hla fun a => R a j
         have hwx := rwC_win hy (M i)
         have c1 := pMulN ((hsz a (by omega) j hlj).mono hG) (hMs i hli _ hy) (by decide) (by decide)
         rw [hFa] at c1
         have c2 := pAddN (hSb a (by omega)) ((hFb a hla).mono (by decide)) (Nat.le_refl _) (Nat.le_refl _)
         have hs : sumQ a F + F a = sumQ (a + 1) F := rfl
         rw [hs] at c2
         have hleft := hR.left a hla j
         have c3 := pSignN ((hsz a (by omega) j hlj).mono hG) (show 5802 ≤ 288000 by decide)
         have hcc : ∀ x : Rat, (DV.agg (numC x)).cells? = some (numC x) := fun _ => rfl
         have hn3 := numC_len
         have ht3 : ∀ x : Rat, (numC x).take 3 = numC x := fun _ => rfl
         have ey : ((ps.getD a 0 : Nat) : Int).toNat = ps.getD a 0 := Int.toNat_natCast _
         generalize ps.getD a 0 = y at *
         refine zS da ?_
         refine wTs ?_
         refine W_seq ?_
         refine W_block ?_
         refine W_seq ?_
         refine W_regd ?_
         refine zE (zA ei (zA ej (zA ea (zA ey (zA hby (zA hgy (zA hyl (zA hwy (zA hml (zA hgx (zA hxl (zA hwx (zA hil (zA hgp (zA hcc (zA hn3 (zA ht3 (zA @cS @List.drop_zero.{0})))))))))))))))))) ?_
         repeat refine ⟨by omega, ?_⟩
         refine cP c1 ?_
         refine zD ?_
         repeat refine ⟨by omega, ?_⟩
         refine cP c2 ?_
         refine zE (zA hcc (zA hn3 (zA ht3 (zA @cS @List.drop_zero.{0})))) ?_
         repeat refine ⟨by omega, ?_⟩
         by_cases hyj : j < y
         ·have dy : decide ((j : Int) < (y : Int)) = true := decide_eq_true (by omega)
          have c4 : PCalls Tryz.prog 28 [.agg (numC (R a j))] (.int .i64 0) := by
           rw [hleft hyj] at c3 ⊢; exact c3
          refine zS (zA ea (zA ej (zA hil (zA hgp (zA dy (zA hby (zA hgy (zA hyl (zA hwy (zA hcc (zA hn3 (zA ht3 @List.drop_zero.{0})))))))))))) ?_
          refine cP c4 ?_
          refine zS (zA dnt d0) ?_
          refine wFs ?_
          refine zS ea1 ?_
          exact ⟨a + 1, by omega, by omega, by simp [subF, lk], rfl⟩
         ·have dy : decide ((j : Int) < (y : Int)) = false := decide_eq_false (by omega)
          repeat (first | refine W_seq ?_ | refine W_reg ?_ | refine W_regd ?_ | refine W_regs ?_ | refine W_regp ?_ | refine W_block ?_ | refine And.intro (by omega) ?_ | simp (maxSteps := 1000000) (disch := omega) only [cA, cB, cN, FnD.nb, lk, lkH, Dst.onT, Dst.onX, Dst.slot, setF, setH, mapF, mapH, initF, binE, unE, cnt, boundE, newsE, freshE, freshT, opE, rmH, blkQ, frz_us, Nat.reduceEqDiff, Nat.reduceLT, Nat.reduceAdd, Nat.reduceMul, Nat.reduceMod, ↓reduceIte, reduceCtorEq, Nat.reduceLeDiff, ea, ej, hil, hgp, dy])
          refine wFs ?_
          repeat (first | refine W_seq ?_ | refine W_reg ?_ | refine W_regd ?_ | refine W_regs ?_ | refine W_regp ?_ | refine W_block ?_ | refine And.intro (by omega) ?_ | simp (maxSteps := 1000000) (disch := omega) only [cA, cB, cN, FnD.nb, lk, lkH, Dst.onT, Dst.onX, Dst.slot, setF, setH, mapF, mapH, initF, binE, unE, cnt, boundE, newsE, freshE, freshT, opE, rmH, blkQ, frz_us, Nat.reduceEqDiff, Nat.reduceLT, Nat.reduceAdd, Nat.reduceMul, Nat.reduceMod, ↓reduceIte, reduceCtorEq, Nat.reduceLeDiff, ea1])
          exact ⟨a + 1, by omega, by omega, by simp [subF, lk], rfl⟩
        ·have hae : a = ps.length := by omega
         have da : decide ((a : Int) < (ps.length : Int)) = false := decide_eq_false (by omega)
         rw [hae] at da ⊢
         rw [hex]
         have hwj := rwC_win hlj (M i)
         have hxb : RB (M i j) 9000 := RB_bs (hMs i hli j hlj) (by decide)
         have cs : PCalls Tryz.prog 29 [.agg (numC (M i j)), .agg (numC (M i j))] (.bool true) := by
          have := pSameL (M i j) (M i j) hxb hxb
          rwa [decide_eq_true rfl] at this
         have hn3 := numC_len (M i j)
         have ht3 : (numC (M i j)).take 3 = numC (M i j) := rfl
         have hcc : (DV.agg (numC (M i j))).cells? = some (numC (M i j)) := rfl
         refine zS da ?_
         refine W_cond rfl (fun h => by cases h) (fun _ => W_exit ?_)
         refine zS (zA ei (zA ej (zA hml (zA hgx (zA hxl (zA hwj (zA hcc (zA hn3 (zA ht3 @List.drop_zero.{0}))))))))) ?_
         refine cP cs ?_
         refine zR ?_
         refine wFs ?_
         refine W_freeze 17 (cells := numC (M i j)) rfl (List.all_eq_true.2 (numC_rf _)) ?_
         refine zS ei1 ?_
         refine ⟨i + 1, by omega, by omega, ?_⟩
         simp [subF, lk]
      ·have di : decide ((i : Int) < (n : Int)) = false := decide_eq_false (by omega)
       refine zS (zA di hml) ?_
       refine W_cond rfl (fun h => by cases h) (fun _ => W_exit ?_)
       refine zS ej1 ?_
       refine ⟨j + 1, by omega, by omega, ?_⟩
       simp [subF, lk]
    ·have dj : decide ((j : Int) < (k : Int)) = false := decide_eq_false (by omega)
     refine zS (zA dj hb1) ?_
     refine W_cond rfl (fun h => by cases h) (fun _ => W_exit ?_)
     refine zR ?_
     refine cP hA ?_
     refine zR ?_
     exact W_ret (RetP_1 (.imm rfl))
theorem ldExp_calls (a0 a1 : Int) (l : List Int) (hl : l.length ≤ 9223372036854775807) (hb : ∀ z ∈ l, -9223372036854775808 ≤ z ∧ z ≤ 9223372036854775807) :
  PCalls Tryz.prog 7 [.int .u8 (UInt8.ofNat a0.toNat).toNat, .int .u8 (UInt8.ofNat a1.toNat).toNat, .sl 1 (l.map (.int .i64))] (.bool true) :=
 ldExp_data _ _ l (UInt8.toNat_lt _) (UInt8.toNat_lt _) hl hb
theorem law_of {f : Nat} {ds : List DV} {vs : Array Value} {w : World} (hc : PCalls Tryz.prog f ds (.bool true)) (hT : Tab Tryz.prog w) (hs : vs.size = ds.length) (hv : ∀ (k : Nat) d v, ds[k]? = some d → vs[k]? = some v → VI w (fun _ => False) d v) :
  Calls Tryz.prog f vs w fun e w' => e = .returned (.bool true) ∧ Below w.heap.size w w' := by
 refine (hc (fun _ => False) w vs hT (fun b h => h.elim) hs hv).mono ?_
 rintro e w' ⟨v, rfl, hvi, hx⟩
 refine ⟨?_, hx.os, hx.tape, hx.output, hx.size, fun k hk => hx.block k hk id⟩
 cases hvi; rfl
theorem max_shaped {w : World} (h : w.ShapedOpen Tryz.prog) : ∀ g, Tryz.prog.globalNamed maxName = some g → g < w.heap.size ∧ ∃ m, w.cell? ⟨g, 0, none⟩ = some (.int .i64 m) := by
 intro g hg
 rw [show Tryz.prog.globalNamed maxName = none by kernel_rfl] at hg
 cases hg
theorem handed_and_shaped {H : Type} {enc : TypeId × Value → H} {a : Assume} {C : Checked} {os : Os} {f : FuncId} {fn : Func} {s : ChangeSpec} {conds : List PathCond} {apart fresh handsOn again : Bool} {X : World → Array Value → Prop}
  (hX : ∀ (w w' : World) (args : Array Value), w.heap = w'.heap → X w args → X w' args)
  (own : ownKnob C.prog.godebug = none) (started : os.Started) (noInit : C.prog.inits.idxOf? f = none) (hfn : C.prog.funcs[f]? = some fn)
  (witness : ∃ (w : World) (tape : Tape) (i : Input), w.os = os ∧ (w.forCall tape i).Shaped C.prog ∧ i.vars = [] ∧ Input.okWide C.prog (w.forCall tape i) .any w.heap.size f i ∧
   ((s.pre enc C.prog fn conds apart (w.forCall tape i).memory i.args ∧ X (w.forCall tape i).memory i.args) ∧ sizedMet enc C.prog fn (OpenSpec.ofChange s) apart (w.forCall tape i).memory i.args) ∧ a.holds C.prog (lone (Frame.enter C.prog f i.args .normal) [] (w.forCall tape i)))
  (contract : ∀ (W : World) (base : Nat) (args : Array Value) (ds gs : List (DataW H)) (before : List MemPlace),
   (∀ (j : Nat) t v, fn.params[j]? = some t → args[j]? = some v → Value.okWide C.prog W .any base t v) →
   DataW.Whole enc C.prog fn.params.toList s.vars apart W args.toList ds gs before → X W args → W.ShapedOpen C.prog →
   Calls C.prog f args W fun e W' => ∃ v, e = .returned v ∧ s.post enc C.prog fn apart fresh handsOn again W args v W') :
  ReturnsInHanded a C os f .any (fun w args => (s.pre enc C.prog fn conds apart w args ∧ X w args) ∧ sizedMet enc C.prog fn (OpenSpec.ofChange s) apart w args) (s.post enc C.prog fn apart fresh handsOn again) := by
 refine returnsInHanded_of_calls own started noInit witness ?_
 intro w tape i _ hsh _ hok hpre _
 obtain ⟨_, _, _, fn', hfn', _, _, _, _, hval⟩ := hok
 obtain rfl : fn' = fn := Option.some.inj (hfn'.symm.trans hfn)
 obtain ⟨⟨⟨ds, gs, before, hw, _⟩, hx⟩, _⟩ := hpre
 refine (contract (w.forCall tape i) w.heap.size i.args ds gs before hval (DataW.Whole.of_heap (w' := w.forCall tape i) (by rfl) hw) (hX _ _ _ (by rfl) hx) hsh).mono ?_
 rintro e W' ⟨v, rfl, hp⟩
 exact ChangeSpec.post_blind hp
theorem vi_u8 (w : World) (A : Nat → Prop) {a : Int} (h : (Lit.int .u8 a).wf = true) : VI w A (.int .u8 (UInt8.ofNat a.toNat).toNat) (.int .u8 a) := by
 have h2 := bounds_u8 h
 have : ((UInt8.ofNat a.toNat).toNat : Int) = a := by
  rw [UInt8.toNat_ofNat']
  omega
 exact .int' this
end Go.Proofs.YtlcagndeidjobaaGreatDoor
