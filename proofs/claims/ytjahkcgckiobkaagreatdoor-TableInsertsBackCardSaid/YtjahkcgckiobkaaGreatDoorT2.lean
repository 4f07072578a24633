/- Lemmas of the walk; no conditions beyond those that each states. -/
import Derived.Laws.RangeAny
import Derived.Lib.DecodeN
import Derived.WalkMore
import Derived.Shelf.RegionOpenPlain
import Derived.Laws.Runes
import Derived.Lib.OthersKept
import Derived.Test.YtjahkcgckiobkaaGreatDoorD2
import Derived.Test.YtjahkcgckiobkaaGreatDoorT1
import Derived.Test.YtjahkcgckiobkaaGreatDoorC1
import Derived.Test.YtjahkcgckiobkaaGreatDoorN1
import Derived.Test.YtjahkcgckiobkaaGreatDoorD3
set_option linter.unusedSimpArgs false
set_option linter.unusedVariables false
set_option linter.unnecessarySimpa false
set_option maxHeartbeats 4000000
namespace Go.Proofs.YtjahkcgckiobkaaGreatDoor
open Go Go.Dat Go.Proofs Nat32
open Go.Lib (decDigits)
theorem RB_dn {r : Rat} {m : Nat} (h : RB r m) : (dn r.den).length ≤ m := Nat.le_trans (dn_len _) h.2
theorem iv_nat (n : Nat) : iv false (limbs n) = (n : Int) := by unfold iv; simp [vn_limbs]
theorem q_times_calls (z : Int) (n : Nat) (h1 : il z ≤ 1000) (h2 : (limbs n).length ≤ 1000) : PCalls Tryz.prog 144 [I z, .sl 1 (us (limbs n))] (I (z * n)) := by
 have cm := iMul_calls (decide (z < 0)) (limbs z.natAbs) false (limbs n) (Nat.le_trans h1 (by decide)) (by omega) (lim_limbs _) (lim_limbs _)
 rw [iv_I, iv_nat] at cm
 refine PCalls_of isq_times (by simp [fnq_times]) ?_
 unfold codeq_times
 repeat (first | refine zQ (zA @I.eq_1 (zA @X.eq_1 (zA @cS (zA @cT (zA @nbq_times cI))))) ?_ | refine cP cm ?_ | exact zT)
theorem dk1 (r : Rat) : decide (((dn r.den).length : Int) = 0) = decide (r.den = 1) := by
 rw [decide_eq_decide, ← dn_len0 r.den_nz]; omega
theorem il_nat {n m : Nat} (h : (limbs n).length ≤ m) : il (n : Int) ≤ m := by unfold il; rw [Int.natAbs_natCast]; exact h
set_option maxHeartbeats 1000000 in
theorem qAdd_calls (n1 : Bool) (a d : List Nat) (n2 : Bool) (b e : List Nat) (ha : a.length ≤ 400) (hd : d.length ≤ 400) (hb : b.length ≤ 400) (he : e.length ≤ 400) (la : lim a) (ld : lim d) (lb : lim b) (le : lim e) :
  PCalls Tryz.prog 111 [XQ n1 a d, XQ n2 b e] (Q (rv n1 a d + rv n2 b e)) := by
 have v1 := q_value_calls n1 a d (by omega) (by omega) la ld
 have v2 := q_value_calls n2 b e (by omega) (by omega) lb le
 have k1 : RB (rv n1 a d) 400 := RB_rv la ld ha hd (by decide)
 have k2 : RB (rv n2 b e) 400 := RB_rv lb le hb he (by decide)
 generalize rv n1 a d = x at *
 generalize rv n2 b e = y at *
 have kx := dk1 x
 have ky := dk1 y
 refine PCalls_of isqAdd (by simp [fnqAdd]) ?_
 unfold codeqAdd
 by_cases hx : x.den = 1 ∧ y.den = 1
 ·rw [rat_addI hx.1 hx.2, Q_int]
  rw [decide_eq_true hx.1] at kx
  rw [decide_eq_true hx.2] at ky
  have ca := iAddL x.num y.num (Nat.le_trans k1.1 (by decide)) (Nat.le_trans k2.1 (by decide))
  clear k1 k2
  repeat (first | refine zQ (zA @XQ.eq_1 (zA @Q.eq_1 (zA @cS (zA @cT (zA @nbqAdd (zA @us_length (zA kx (zA ky cI)))))))) ?_ | refine cP v1 ?_ | refine cP v2 ?_ | exact zT)
  refine wT ?_
  repeat (first | refine zQ (zA @I.eq_1 (zA @cS (zA @cT (zA @nbqAdd cI)))) ?_ | refine cP ca ?_ | exact zT)
  exact W_ret (RetP_c rfl rfl rfl (Exp_bsn _ _ _ _ rfl))
 ·rw [Rat.add_def']
  have t1 := q_times_calls x.num y.den (Nat.le_trans k1.1 (by decide)) (Nat.le_trans k2.2 (by decide))
  have t2 := q_times_calls y.num x.den (Nat.le_trans k2.1 (by decide)) (Nat.le_trans k1.2 (by decide))
  have b1 := il_mul k1.1 (il_nat k2.2)
  have b2 := il_mul k2.1 (il_nat k1.2)
  have b3 := il_add b1 b2
  have ca := iAddL (x.num * y.den) (y.num * x.den) (Nat.le_trans b1 (by decide)) (Nat.le_trans b2 (by decide))
  have cm := nMulL x.den y.den (Nat.le_trans k1.2 (by decide)) (Nat.le_trans k2.2 (by decide))
  have cl := q_lowest_calls (x.num * y.den + y.num * x.den) (x.den * y.den) (Nat.mul_ne_zero x.den_nz y.den_nz) (Nat.le_trans b3 (by decide)) (Nat.le_trans (len_mul k1.2 k2.2) (by decide))
  have c1 := q_den_calls x
  have c2 := q_den_calls y
  clear k1 k2 b1 b2 b3
  by_cases h1 : x.den = 1
  ·rw [decide_eq_true h1] at kx
   rw [decide_eq_false (fun h2 => hx ⟨h1, h2⟩)] at ky
   clear hx h1
   repeat (first | refine zQ (zA @XQ.eq_1 (zA @Q.eq_1 (zA @cS (zA @cT (zA @nbqAdd (zA @us_length (zA kx (zA ky cI)))))))) ?_ | refine cP v1 ?_ | refine cP v2 ?_ | exact zT)
   refine wFs ?_
   repeat (first | refine zQ (zA @I.eq_1 (zA @Q.eq_1 (zA @cS (zA @cT (zA @nbqAdd cI))))) ?_ | refine cP c1 ?_ | refine cP c2 ?_ | refine cP t1 ?_ | refine cP t2 ?_ | refine cP ca ?_ | refine cP cm ?_ | refine cP cl ?_ | exact zT)
  ·rw [decide_eq_false h1] at kx
   clear hx h1
   repeat (first | refine zQ (zA @XQ.eq_1 (zA @Q.eq_1 (zA @cS (zA @cT (zA @nbqAdd (zA @us_length (zA kx (zA ky cI)))))))) ?_ | refine cP v1 ?_ | refine cP v2 ?_ | exact zT)
   refine wFs ?_
   repeat (first | refine zQ (zA @I.eq_1 (zA @Q.eq_1 (zA @cS (zA @cT (zA @nbqAdd cI))))) ?_ | refine cP c1 ?_ | refine cP c2 ?_ | refine cP t1 ?_ | refine cP t2 ?_ | refine cP ca ?_ | refine cP cm ?_ | refine cP cl ?_ | exact zT)
set_option maxHeartbeats 1000000 in
theorem qMul_calls (n1 : Bool) (a d : List Nat) (n2 : Bool) (b e : List Nat) (ha : a.length ≤ 400) (hd : d.length ≤ 400) (hb : b.length ≤ 400) (he : e.length ≤ 400) (la : lim a) (ld : lim d) (lb : lim b) (le : lim e) :
  PCalls Tryz.prog 91 [XQ n1 a d, XQ n2 b e] (Q (rv n1 a d * rv n2 b e)) := by
 have v1 := q_value_calls n1 a d (by omega) (by omega) la ld
 have v2 := q_value_calls n2 b e (by omega) (by omega) lb le
 have k1 : RB (rv n1 a d) 400 := RB_rv la ld ha hd (by decide)
 have k2 : RB (rv n2 b e) 400 := RB_rv lb le hb he (by decide)
 generalize rv n1 a d = x at *
 generalize rv n2 b e = y at *
 have kx := dk1 x
 have ky := dk1 y
 have ca := iMulL x.num y.num (Nat.le_trans k1.1 (by decide)) (Nat.le_trans k2.1 (by decide))
 refine PCalls_of isqMul (by simp [fnqMul]) ?_
 unfold codeqMul
 by_cases hx : x.den = 1 ∧ y.den = 1
 ·rw [rat_mulI hx.1 hx.2, Q_int]
  rw [decide_eq_true hx.1] at kx
  rw [decide_eq_true hx.2] at ky
  clear k1 k2
  repeat (first | refine zQ (zA @XQ.eq_1 (zA @Q.eq_1 (zA @cS (zA @cT (zA @nbqMul (zA @us_length (zA kx (zA ky cI)))))))) ?_ | refine cP v1 ?_ | refine cP v2 ?_ | exact zT)
  refine wT ?_
  repeat (first | refine zQ (zA @I.eq_1 (zA @cS (zA @cT (zA @nbqMul cI)))) ?_ | refine cP ca ?_ | exact zT)
  exact W_ret (RetP_c rfl rfl rfl (Exp_bsn _ _ _ _ rfl))
 ·rw [Rat.mul_def']
  have b1 := il_mul k1.1 k2.1
  have cm := nMulL x.den y.den (Nat.le_trans k1.2 (by decide)) (Nat.le_trans k2.2 (by decide))
  have cl := q_lowest_calls (x.num * y.num) (x.den * y.den) (Nat.mul_ne_zero x.den_nz y.den_nz) (Nat.le_trans b1 (by decide)) (Nat.le_trans (len_mul k1.2 k2.2) (by decide))
  have c1 := q_den_calls x
  have c2 := q_den_calls y
  clear k1 k2 b1
  by_cases h1 : x.den = 1
  ·rw [decide_eq_true h1] at kx
   rw [decide_eq_false (fun h2 => hx ⟨h1, h2⟩)] at ky
   clear hx h1
   repeat (first | refine zQ (zA @XQ.eq_1 (zA @Q.eq_1 (zA @cS (zA @cT (zA @nbqMul (zA @us_length (zA kx (zA ky cI)))))))) ?_ | refine cP v1 ?_ | refine cP v2 ?_ | exact zT)
   refine wFs ?_
   repeat (first | refine zQ (zA @I.eq_1 (zA @Q.eq_1 (zA @cS (zA @cT (zA @nbqMul cI))))) ?_ | refine cP c1 ?_ | refine cP c2 ?_ | refine cP ca ?_ | refine cP cm ?_ | refine cP cl ?_ | exact zT)
  ·rw [decide_eq_false h1] at kx
   clear hx h1
   repeat (first | refine zQ (zA @XQ.eq_1 (zA @Q.eq_1 (zA @cS (zA @cT (zA @nbqMul (zA @us_length (zA kx (zA ky cI)))))))) ?_ | refine cP v1 ?_ | refine cP v2 ?_ | exact zT)
   refine wFs ?_
   repeat (first | refine zQ (zA @I.eq_1 (zA @Q.eq_1 (zA @cS (zA @cT (zA @nbqMul cI))))) ?_ | refine cP c1 ?_ | refine cP c2 ?_ | refine cP ca ?_ | refine cP cm ?_ | refine cP cl ?_ | exact zT)
theorem qSign_calls (neg : Bool) (a d : List Nat) (ha : a.length ≤ 1000) (hd : d.length ≤ 1000) (la : lim a) (ld : lim d) : PCalls Tryz.prog 89 [XQ neg a d] (.int .i64 (rv neg a d).num.sign) := by
 have v1 := q_value_calls neg a d ha hd la ld
 have k1 : RB (rv neg a d) 1000 := RB_rv la ld ha hd (by decide)
 generalize rv neg a d = x at *
 have cs := iSignL x.num (Nat.le_trans k1.1 (by decide))
 refine PCalls_of isqSign (by simp [fnqSign]) ?_
 unfold codeqSign
 repeat (first | refine zQ (zA @XQ.eq_1 (zA @Q.eq_1 (zA @cS (zA @cT (zA @nbqSign cI))))) ?_ | refine cP v1 ?_ | refine cP cs ?_ | exact zT)
theorem sign_neg (z : Int) : decide (z.sign < 0) = decide (z < 0) := by rw [decide_eq_decide]; exact ⟨fun h => Int.sign_neg_iff.1 h, fun h => Int.sign_neg_iff.2 h⟩
theorem sSignL (x : Int) (h1 : il x ≤ 900) : PCalls Tryz.prog 51 [I x] (.int .i64 x.sign) := by
 have := sSign_calls (decide (x < 0)) (limbs x.natAbs) (Nat.le_trans h1 (by decide)) (lim_limbs _)
 rwa [iv_I] at this
theorem sNegL (x : Int) (h1 : il x ≤ 900) : PCalls Tryz.prog 98 [I x] (I (-x)) := by
 have := sNeg_calls (decide (x < 0)) (limbs x.natAbs) h1 (lim_limbs _)
 rwa [iv_I] at this
theorem sDivL (x y : Int) (h1 : il x ≤ 900) (h2 : il y ≤ 900) : PCalls Tryz.prog 100 [I x, I y] (.tup [I (x / y), I (imod x y), .bool (decide (¬ y = 0))]) := by
 have := sDiv_calls (decide (x < 0)) (limbs x.natAbs) (decide (y < 0)) (limbs y.natAbs) h1 h2 (lim_limbs _) (lim_limbs _)
 rwa [iv_I, iv_I] at this
theorem sGcdL (x y : Int) (h1 : il x ≤ 900) (h2 : il y ≤ 900) : PCalls Tryz.prog 99 [I x, I y] (.sl 1 (us (limbs (Nat.gcd x.natAbs y.natAbs)))) := by
 have := sGcd_calls (decide (x < 0)) (limbs x.natAbs) (decide (y < 0)) (limbs y.natAbs) h1 h2 (lim_limbs _) (lim_limbs _)
 rwa [iv_I, iv_I] at this
theorem I_nat (n : Nat) : I (n : Int) = .agg [.bool false, .sl 1 (us (limbs n))] := by
 unfold I; rw [decide_eq_false (by omega), Int.natAbs_natCast]
theorem p_one_calls (n : Nat) : PCalls Tryz.prog 101 [.sl 1 (us (limbs n))] (.bool (decide (n = 1))) := by
 refine PCalls_of isp_one (by simp [fnp_one]) ?_
 unfold codep_one
 have e0 : (Int.toNat 0) = 0 := rfl
 by_cases h0 : n = 0
 ·subst h0
  have k : decide (((limbs 0).length : Int) = 1) = false := by rw [limbs_zero]; rfl
  rw [decide_eq_false (show ¬ (0 : Nat) = 1 by decide)]
  refine zS (zA @us_length (zA @k cI)) ?_
  exact W_ret (RetP_1 (.imm rfl))
 ·by_cases h1 : n < 4294967296
  ·have e : us (limbs n) = [.int .u32 (n : Int)] := by rw [limbs_one h0 h1]; rfl
   have k : decide (((n : Nat) : Int) = 1) = decide (n = 1) := by rw [decide_eq_decide]; omega
   have k1 : decide (((1 : Nat) : Int) = 1) = true := rfl
   rw [e]
   refine zS (zA e0 (zA @k (zA k1 (zA @List.length_singleton.{0} cI)))) ?_
   exact W_ret (RetP_1 (.imm rfl))
  ·have hl : 1 < (limbs n).length := by
    rcases Nat.lt_or_ge 1 (limbs n).length with h | h
    ·exact h
    ·have := limbs_len.1 h
     rw [Nat.pow_one] at this
     omega
   have k : decide (((limbs n).length : Int) = 1) = false := decide_eq_false (by omega)
   rw [decide_eq_false (show ¬ n = 1 by omega)]
   refine zS (zA @us_length (zA @k cI)) ?_
   exact W_ret (RetP_1 (.imm rfl))
theorem pValid_calls (neg : Bool) (a d : List Nat) (ha : a.length ≤ 900) (hd : d.length ≤ 900) (la : lim a) (ld : lim d) : PCalls Tryz.prog 93 [XQ neg a d] (.bool (vldQ neg a d)) := by
 have c1 := sValid_calls neg a (by omega)
 have c2 := rValid_calls d (by omega)
 have c4 := rGcd_calls a d (by omega) (by omega) la ld
 have c5 := p_one_calls (Nat.gcd (vn a) (vn d))
 have e5 : ∀ n : Nat, decide (n = 1) = decide (1 = n) := fun n => by rw [decide_eq_decide]; exact eq_comm
 rw [e5] at c5
 have c3 := p_one_calls (vn d)
 have ed := vn_limbs_of_vld ld
 refine PCalls_of ispValid (by simp [fnpValid]) ?_
 unfold codepValid vldQ
 generalize hV : vldI neg a = p1 at *
 generalize vld d = p2 at *
 generalize Nat.gcd (vn a) (vn d) = G at *
 clear e5
 have k1 : decide ((0 : Int) < a.length) = decide (0 < a.length) := by rw [decide_eq_decide]; omega
 have k2 : decide ((d.length : Int) = 0) = decide (d.length = 0) := by rw [decide_eq_decide]; omega
 cases p1
 ·simp only [Bool.false_and]
  repeat (first | refine zQ (zA @XQ.eq_1 (zA @X.eq_1 (zA @cS (zA @cT (zA @nbpValid (zA @us_length cI)))))) ?_ | refine cP c1 ?_ | refine cP c2 ?_ | exact zT)
  refine wT ?_
  refine zS (zA @cS (zA @nbpValid cI)) ?_
  exact W_ret (RetP_1 (.imm rfl))
 ·cases p2
  ·simp only [Bool.true_and, Bool.false_and]
   repeat (first | refine zQ (zA @XQ.eq_1 (zA @X.eq_1 (zA @cS (zA @cT (zA @nbpValid (zA @us_length cI)))))) ?_ | refine cP c1 ?_ | refine cP c2 ?_ | exact zT)
   refine wT ?_
   refine zS (zA @cS (zA @nbpValid cI)) ?_
   exact W_ret (RetP_1 (.imm rfl))
  ·simp only [Bool.true_and]
   rw [ed rfl] at c3
   by_cases h0 : d.length = 0
   ·have hD : ¬ vn d = 1 := by rw [List.eq_nil_of_length_eq_zero h0]; decide
    rw [decide_eq_false hD] at c3
    rw [decide_eq_true h0] at k2 ⊢
    simp only [Bool.true_or]
    repeat (first | refine zQ (zA @XQ.eq_1 (zA @X.eq_1 (zA @cS (zA @cT (zA @nbpValid (zA @us_length (zA k2 cI))))))) ?_ | refine cP c1 ?_ | refine cP c2 ?_ | refine cP c3 ?_ | exact zT)
    refine wFs ?_
    repeat (first | refine zQ (zA @XQ.eq_1 (zA @X.eq_1 (zA @cS (zA @cT (zA @nbpValid (zA @us_length (zA k2 cI))))))) ?_ | refine cP c1 ?_ | refine cP c2 ?_ | exact zT)
   ·rw [decide_eq_false h0] at k2 ⊢
    simp only [Bool.false_or]
    by_cases hD : vn d = 1
    ·rw [decide_eq_true hD] at c3
     rw [decide_eq_false (show ¬ ¬ vn d = 1 from fun h => h hD)]
     simp only [Bool.false_and, Bool.and_false]
     repeat (first | refine zQ (zA @XQ.eq_1 (zA @X.eq_1 (zA @cS (zA @cT (zA @nbpValid (zA @us_length (zA k2 cI))))))) ?_ | refine cP c1 ?_ | refine cP c2 ?_ | refine cP c3 ?_ | exact zT)
     refine wT ?_
     refine zS (zA @cS (zA @nbpValid cI)) ?_
     exact W_ret (RetP_1 (.imm rfl))
    ·rw [decide_eq_false hD] at c3
     rw [decide_eq_true (show ¬ vn d = 1 from hD)]
     simp only [Bool.and_true]
     by_cases ha0 : 0 < a.length
     ·rw [decide_eq_true ha0] at k1 ⊢
      simp only [Bool.true_and]
      repeat (first | refine zQ (zA @XQ.eq_1 (zA @X.eq_1 (zA @cS (zA @cT (zA @nbpValid (zA @us_length (zA k1 (zA k2 cI)))))))) ?_ | refine cP c1 ?_ | refine cP c2 ?_ | refine cP c3 ?_ | exact zT)
      refine wFs ?_
      repeat (first | refine zQ (zA @XQ.eq_1 (zA @X.eq_1 (zA @cS (zA @cT (zA @nbpValid (zA @us_length (zA k1 (zA k2 cI)))))))) ?_ | refine cP c4 ?_ | refine cP c5 ?_ | exact zT)
     ·rw [decide_eq_false ha0] at k1 ⊢
      simp only [Bool.false_and]
      repeat (first | refine zQ (zA @XQ.eq_1 (zA @X.eq_1 (zA @cS (zA @cT (zA @nbpValid (zA @us_length (zA k1 (zA k2 cI)))))))) ?_ | refine cP c1 ?_ | refine cP c2 ?_ | refine cP c3 ?_ | exact zT)
      refine wFs ?_
      repeat (first | refine zQ (zA @XQ.eq_1 (zA @X.eq_1 (zA @cS (zA @cT (zA @nbpValid (zA @us_length (zA k1 (zA k2 cI)))))))) ?_ | refine cP c4 ?_ | refine cP c5 ?_ | exact zT)
theorem Q_mk (z : Int) (d : Nat) (h : d ≠ 0) : Q (mkRat z d) = .agg [.bool (decide (z / ((Nat.gcd z.natAbs d : Nat) : Int) < 0)), .sl 1 (us (limbs (z / ((Nat.gcd z.natAbs d : Nat) : Int)).natAbs)), .sl 1 (us (dn (d / Nat.gcd z.natAbs d)))] := by
 unfold Q
 rw [Rat.num_mkRat, Rat.den_mkRat, if_neg h, if_neg h, Nat.gcd_comm d]
theorem p_over_calls (x y : Int) (hy : y ≠ 0) (h1 : il x ≤ 900) (h2 : il y ≤ 900) : PCalls Tryz.prog 53 [I x, I y] (Q (Rat.divInt x y)) := by
 have cs := sSignL y h2
 have e1 := sign_neg y
 refine PCalls_of isp_over (by simp [fnp_over]) ?_
 unfold codep_over
 have key : ∃ (z : Int) (d : Nat), d ≠ 0 ∧ Rat.divInt x y = mkRat z d ∧ il z ≤ 900 ∧ (limbs d).length ≤ 900 ∧ (y < 0 → -x = z ∧ -y = (d : Int)) ∧ (¬ y < 0 → x = z ∧ y = (d : Int)) := by
  by_cases hn : y < 0
  ·exact ⟨-x, y.natAbs, by omega, divInt_neg x hn, by rw [il_neg]; exact h1, h2, fun _ => ⟨rfl, by omega⟩, fun h => absurd hn h⟩
  ·exact ⟨x, y.natAbs, by omega, divInt_pos x (by omega), h1, h2, fun h => absurd h hn, fun _ => ⟨rfl, by omega⟩⟩
 obtain ⟨z, d, hd, hq, lz, ld, kn, kp⟩ := key
 rw [hq, Q_mk z d hd]
 have hgl : (limbs (Nat.gcd z.natAbs d)).length ≤ 900 := Nat.le_trans (len_mono (Nat.gcd_le_right _ (Nat.pos_of_ne_zero hd))) ld
 have cg := sGcdL z (d : Int) lz (il_nat ld)
 rw [Int.natAbs_natCast] at cg
 have c1 := sDivL z ((Nat.gcd z.natAbs d : Nat) : Int) lz (il_nat hgl)
 have c2 := sDivL (d : Int) ((Nat.gcd z.natAbs d : Nat) : Int) (il_nat ld) (il_nat hgl)
 rw [show ((d : Int) / ((Nat.gcd z.natAbs d : Nat) : Int)) = ((d / Nat.gcd z.natAbs d : Nat) : Int) from rfl, I_nat (Nat.gcd z.natAbs d), I_nat (d / Nat.gcd z.natAbs d)] at c2
 rw [I_nat (Nat.gcd z.natAbs d)] at c1
 have c3 := p_one_calls (d / Nat.gcd z.natAbs d)
 rw [I_nat d] at c2 cg
 have hdn : ¬ d / Nat.gcd z.natAbs d = 1 → dn (d / Nat.gcd z.natAbs d) = limbs (d / Nat.gcd z.natAbs d) := fun h => by unfold dn; rw [if_neg h]
 have hdn1 : d / Nat.gcd z.natAbs d = 1 → dn (d / Nat.gcd z.natAbs d) = [] := fun h => by rw [h, dn_one]
 generalize hG : ((Nat.gcd z.natAbs d : Nat) : Int) = GI at *
 generalize Nat.gcd z.natAbs d = G at *
 generalize d / G = E at *
 generalize z / GI = Z at *
 by_cases hn : y < 0
 ·rw [decide_eq_true hn] at e1
  obtain ⟨k1, k2⟩ := kn hn
  have cn1 := sNegL x h1
  have cn2 := sNegL y h2
  rw [k1] at cn1
  rw [k2, I_nat] at cn2
  by_cases hE : E = 1
  ·rw [hdn1 hE]
   rw [decide_eq_true hE] at c3
   clear hdn hdn1 kn kp
   repeat (first | refine zQ (zA @I.eq_1 (zA @cS (zA @cT (zA @nbp_over (zA e1 cI))))) ?_ | refine cP cs ?_ | exact zT)
   refine wT ?_
   repeat (first | refine zQ (zA @I.eq_1 (zA @cS (zA @cT (zA @nbp_over cI)))) ?_ | refine cP cn1 ?_ | refine cP cn2 ?_ | refine cP cg ?_ | refine cP c1 ?_ | refine cP c2 ?_ | refine cP c3 ?_ | exact zT)
   refine wT ?_
   refine zS (zA @I.eq_1 (zA @cS (zA @cT (zA @nbp_over cI)))) ?_
   exact W_ret (RetP_c rfl rfl rfl (Exp_bsn _ _ _ _ rfl))
  ·rw [hdn hE]
   rw [decide_eq_false hE] at c3
   clear hdn hdn1 kn kp
   repeat (first | refine zQ (zA @I.eq_1 (zA @cS (zA @cT (zA @nbp_over (zA e1 cI))))) ?_ | refine cP cs ?_ | exact zT)
   refine wT ?_
   repeat (first | refine zQ (zA @I.eq_1 (zA @cS (zA @cT (zA @nbp_over cI)))) ?_ | refine cP cn1 ?_ | refine cP cn2 ?_ | refine cP cg ?_ | refine cP c1 ?_ | refine cP c2 ?_ | refine cP c3 ?_ | exact zT)
   refine wFs ?_
   refine zS (zA @I.eq_1 (zA @cS (zA @cT (zA @nbp_over cI)))) ?_
   exact W_ret (RetP_c rfl rfl rfl (.imm rfl))
 ·rw [decide_eq_false hn] at e1
  obtain ⟨k1, k2⟩ := kp hn
  subst k1
  rw [k2, I_nat]
  rw [k2, I_nat] at cs
  rw [k2] at e1
  by_cases hE : E = 1
  ·rw [hdn1 hE]
   rw [decide_eq_true hE] at c3
   clear hdn hdn1 kn kp
   repeat (first | refine zQ (zA @I.eq_1 (zA @cS (zA @cT (zA @nbp_over (zA e1 cI))))) ?_ | refine cP cs ?_ | exact zT)
   refine wFs ?_
   repeat (first | refine zQ (zA @I.eq_1 (zA @cS (zA @cT (zA @nbp_over cI)))) ?_ | refine cP cg ?_ | refine cP c1 ?_ | refine cP c2 ?_ | refine cP c3 ?_ | exact zT)
   refine wT ?_
   refine zS (zA @I.eq_1 (zA @cS (zA @cT (zA @nbp_over cI)))) ?_
   exact W_ret (RetP_c rfl rfl rfl (Exp_bsn _ _ _ _ rfl))
  ·rw [hdn hE]
   rw [decide_eq_false hE] at c3
   clear hdn hdn1 kn kp
   repeat (first | refine zQ (zA @I.eq_1 (zA @cS (zA @cT (zA @nbp_over (zA e1 cI))))) ?_ | refine cP cs ?_ | exact zT)
   refine wFs ?_
   repeat (first | refine zQ (zA @I.eq_1 (zA @cS (zA @cT (zA @nbp_over cI)))) ?_ | refine cP cg ?_ | refine cP c1 ?_ | refine cP c2 ?_ | refine cP c3 ?_ | exact zT)
   refine wFs ?_
   refine zS (zA @I.eq_1 (zA @cS (zA @cT (zA @nbp_over cI)))) ?_
   exact W_ret (RetP_c rfl rfl rfl (.imm rfl))
theorem limbs_inj {x y : Nat} (h : limbs x = limbs y) : x = y := by
 have := congrArg vn h; rwa [vn_limbs, vn_limbs] at this
theorem sSameG (x y : Int) (h1 : il x ≤ 900) (h2 : il y ≤ 900) : PCalls Tryz.prog 56 [I x, I y] (.bool (decide (x = y))) := by
 have ss := rSame_calls (limbs x.natAbs) (limbs y.natAbs) (Nat.le_trans h1 (by decide)) (Nat.le_trans h2 (by decide))
 refine PCalls_of issSame (by simp [fnsSame]) ?_
 unfold codesSame
 by_cases hb : decide (x < 0) = decide (y < 0)
 ·have e : decide (limbs x.natAbs = limbs y.natAbs) = decide (x = y) := by
   rw [decide_eq_decide] at hb ⊢
   constructor
   ·intro h
    have := limbs_inj h
    by_cases hx : x < 0
    ·have := hb.1 hx; omega
    ·have : ¬ y < 0 := fun k => hx (hb.2 k); omega
   ·rintro rfl; rfl
  have hbb : (decide (x < 0) == decide (y < 0)) = true := by rw [hb]; simp
  rw [e] at ss
  repeat (first | refine zQ (zA @I.eq_1 (zA @cS (zA @nbsSame (zA hbb cI)))) ?_ | refine cP ss ?_ | exact zT)
 ·have hbb : (decide (x < 0) == decide (y < 0)) = false := by simpa using hb
  have e : decide (x = y) = false := decide_eq_false (fun h => hb (by rw [h]))
  rw [e]
  repeat (first | refine zQ (zA @I.eq_1 (zA @cS (zA @nbsSame (zA hbb cI)))) ?_ | refine cP ss ?_ | exact zT)
theorem dn_inj {d e : Nat} (hd : d ≠ 0) (he : e ≠ 0) (h : dn d = dn e) : d = e := by
 by_cases h1 : d = 1
 ·have : (dn e).length = 0 := by rw [← h, h1]; rfl
  rw [h1, (dn_len0 he).1 this]
 ·by_cases h2 : e = 1
  ·have : (dn d).length = 0 := by rw [h, h2]; rfl
   exact absurd ((dn_len0 hd).1 this) h1
  ·unfold dn at h
   rw [if_neg h1, if_neg h2] at h
   exact limbs_inj h
theorem pSameL (x y : Rat) (h1 : RB x 900) (h2 : RB y 900) : PCalls Tryz.prog 20 [Q x, Q y] (.bool (decide (x = y))) := by
 have c1 := sSameG x.num y.num h1.1 h2.1
 have c2 := rSame_calls (dn x.den) (dn y.den) (Nat.le_trans (RB_dn h1) (by decide)) (Nat.le_trans (RB_dn h2) (by decide))
 refine PCalls_of ispSame (by simp [fnpSame]) ?_
 unfold codepSame
 by_cases hn : x.num = y.num
 ·rw [decide_eq_true hn] at c1
  have e : decide (dn x.den = dn y.den) = decide (x = y) := by
   rw [decide_eq_decide]
   exact ⟨fun h => Rat.ext hn (dn_inj x.den_nz y.den_nz h), fun h => by rw [h]⟩
  rw [e] at c2
  repeat (first | refine zQ (zA @Q.eq_1 (zA @cS (zA @cT (zA @nbpSame cI)))) ?_ | refine cP c1 ?_ | refine cP c2 ?_ | exact zT)
 ·rw [decide_eq_false hn] at c1
  rw [decide_eq_false (show ¬ x = y from fun h => hn (by rw [h]))]
  repeat (first | refine zQ (zA @Q.eq_1 (zA @cS (zA @cT (zA @nbpSame cI)))) ?_ | refine cP c1 ?_ | refine cP c2 ?_ | exact zT)
theorem pSameT (x : Rat) (h1 : RB x 900) : PCalls Tryz.prog 20 [Q x, Q x] (.bool true) := by
 have := pSameL x x h1 h1
 rwa [decide_eq_true rfl] at this
end Go.Proofs.YtjahkcgckiobkaaGreatDoor
namespace Go.Proofs.YtjahkcgckiobkaaGreatDoor
open Go Go.Dat Go.Proofs Nat32
def parseR (l : List UInt8) : DV := if okD l then .tup [.sl 1 (us (limbs (dval 0 l))), .bool true] else .tup [.sl 1 [], .bool false]
theorem parseR_bad {l : List UInt8} (h : okD l = false) : parseR l = .tup [.sl 1 [], .bool false] := by unfold parseR; rw [h]; rfl
def accD (l : List UInt8) (i : Nat) : DV := if i = 0 then .nils else .sl 1 (us (limbs (dval 0 (l.take i))))
theorem okD_iff (l : List UInt8) : okD l = true ↔ l ≠ [] ∧ l.length ≤ 4000 ∧ ¬ (l.head? = some 48 ∧ 1 < l.length) ∧ l.all isD = true := by
 unfold okD
 cases l with
 | nil => simp
 | cons c l =>
  simp only [List.isEmpty_cons, Bool.false_or, Bool.and_eq_true, Bool.not_eq_true', Bool.or_eq_false_iff, decide_eq_false_iff_not, Bool.and_eq_false_iff]
  constructor
  ·rintro ⟨⟨h1, h2⟩, h3⟩
   exact ⟨by simp, by omega, fun h => h2.elim (fun e => e h.1) (fun e => e h.2), h3⟩
  ·rintro ⟨_, h1, h2, h3⟩
   refine ⟨⟨by omega, ?_⟩, h3⟩
   by_cases e : (c :: l).head? = some 48
   ·exact .inr fun h => h2 ⟨e, h⟩
   ·exact .inl e
theorem dval_len {l : List UInt8} (h : l.all isD = true) {m : Nat} (hm : l.length ≤ m) : (limbs (dval 0 l)).length ≤ m :=
 limbs_len.2 (Nat.lt_of_lt_of_le (dval_lt l h) (Nat.le_trans (Nat.pow_le_pow_left (by decide) _) (Nat.pow_le_pow_right (by decide) hm)))
theorem take_all {l : List UInt8} {i : Nat} (hi : i < l.length) (h : (l.take i).all isD = true) (hd : isD l[i] = true) : (l.take (i + 1)).all isD = true := by
 rw [List.take_succ_eq_append_getElem hi, List.all_append, h]; simp [hd]
theorem take_dval {l : List UInt8} {i : Nat} (hi : i < l.length) : dval 0 (l.take (i + 1)) = dval 0 (l.take i) * 10 + (l[i].toNat - 48) := by
 rw [List.take_succ_eq_append_getElem hi, dval_append, dval_cons, dval_nil, Nat.mul_comm]
theorem byteD_get {g : List UInt8} {j : Nat} (h : j < g.length) : (g.map byteD).getD j .undef = .int .u8 (g[j].toNat : Nat) := by
 rw [List.getD_eq_getElem?_getD, List.getElem?_map, List.getElem?_eq_getElem h]; rfl
theorem byteD_get? {g : List UInt8} {j : Nat} (h : j < g.length) : (g.map byteD)[j]? = some (.int .u8 (g[j].toNat : Nat)) := by
 rw [List.getElem?_map, List.getElem?_eq_getElem h]; rfl
theorem seg_len {l : List UInt8} {at' e : Nat} (h : e ≤ l.length) : ((l.take e).drop at').length = e - at' := by
 rw [List.length_drop, List.length_take]; omega
theorem take_seg {l : List UInt8} {at' e : Nat} (h : at' ≤ e) : l.take e = l.take at' ++ (l.take e).drop at' := by
 have := List.take_append_drop at' (l.take e)
 rw [List.take_take, Nat.min_eq_left h] at this
 exact this.symm
theorem dval_seg {l : List UInt8} {at' e : Nat} (h : at' ≤ e) (he : e ≤ l.length) (h9 : at' = 0 ∨ e - at' = 9) : dval 0 (l.take at') * 1000000000 + dval 0 ((l.take e).drop at') = dval 0 (l.take e) := by
 rcases h9 with rfl | h9
 ·rw [List.take_zero, dval_nil, List.drop_zero]; omega
 ·have e1 := take_seg (l := l) h
  have e2 := congrArg (dval 0) e1
  rw [dval_append, dval_acc _ (dval 0 (l.take at'))] at e2
  rw [e2, seg_len he, h9]
theorem accD_cases (l : List UInt8) (i : Nat) : accD l i = .nils ∨ ∃ xs, accD l i = .sl 1 xs := by
 unfold accD
 by_cases h : i = 0
 ·rw [if_pos h]; exact .inl rfl
 ·rw [if_neg h]; exact .inr ⟨_, rfl⟩
theorem accD_nMul (l : List UInt8) (i : Nat) (hd : (limbs (dval 0 (l.take i))).length ≤ 10000) : PCalls Tryz.prog 125 [accD l i, .sl 1 (us (limbs 1000000000))] (.sl 1 (us (limbs (dval 0 (l.take i) * 1000000000)))) := by
 have h := nMulL (dval 0 (l.take i)) 1000000000 hd (by rw [limbs_one (by decide) (by decide)]; simp)
 unfold accD
 by_cases h0 : i = 0
 ·subst h0
  rw [if_pos rfl]
  refine PCalls_nz 1 ?_
  rw [List.take_zero, dval_nil, Nat.zero_mul, limbs_zero] at h
  rw [List.take_zero, dval_nil, Nat.zero_mul, limbs_zero]
  exact h
 ·rw [if_neg h0]; exact h
set_option maxHeartbeats 4000000 in
theorem nParse_calls (l : List UInt8) : PCalls Tryz.prog 155 [.str l] (parseR l) := by
 refine PCalls_of isnParse (by simp [fnnParse]) ?_
 unfold codenParse
 by_cases hn : l = []
 ·subst hn
  have hb : okD [] = false := rfl
  rw [parseR_bad hb]
  refine zS (zA @decide_true cI) ?_
  refine wT ?_
  refine zS cI ?_
  exact W_ret (RetP_2 (.nils _) (.imm rfl))
 ·have hpos : 0 < l.length := List.length_pos_iff.2 hn
  have dn : decide (l = []) = false := decide_eq_false hn
  by_cases h4 : 4000 < l.length
  ·have d4 : decide ((4000 : Int) < l.length) = true := decide_eq_true (by omega)
   have hb : okD l = false := by
    rw [← Bool.not_eq_true, okD_iff]
    exact fun h => by omega
   rw [parseR_bad hb]
   refine zS (zA dn (zA d4 cI)) ?_
   refine wT ?_
   refine zS cI ?_
   exact W_ret (RetP_2 (.nils _) (.imm rfl))
  ·have d4 : decide ((4000 : Int) < l.length) = false := decide_eq_false (by omega)
   have e0 : (Int.toNat 0) = 0 := rfl
   have ebd : byteD (l.getD 0 0) = .int .u8 ((l.getD 0 0).toNat : Nat) := rfl
   by_cases h48 : (l.getD 0 0).toNat = 48
   ·have d2 : decide ((((l.getD 0 0).toNat : Nat) : Int) = 48) = true := decide_eq_true (by omega)
    by_cases h1 : 1 < l.length
    ·have d1 : decide ((1 : Int) < l.length) = true := decide_eq_true (by omega)
     have hz : l.head? = some 48 ∧ 1 < l.length := ⟨by
      cases l with
      | nil => exact absurd rfl hn
      | cons c r => simp only [List.getD_cons_zero] at h48; rw [List.head?_cons, ← UInt8.toNat_inj.1 (show c.toNat = (48 : UInt8).toNat from h48)], h1⟩
     have hb : okD l = false := by
      rw [← Bool.not_eq_true, okD_iff]
      exact fun h => h.2.2.1 hz
     rw [parseR_bad hb]
     refine zS (zA dn (zA d4 (zA d1 (zA e0 (zA ebd (zA d2 cI)))))) ?_
     refine wT ?_
     refine zS cI ?_
     exact W_ret (RetP_2 (.nils _) (.imm rfl))
    ·have d1 : decide ((1 : Int) < l.length) = false := decide_eq_false (by omega)
     have hz : ¬ (l.head? = some 48 ∧ 1 < l.length) := fun h => h1 h.2
     refine zS (zA dn (zA d4 (zA d1 (zA e0 (zA ebd (zA d2 cI)))))) ?_
     refine wFs ?_
     clear d1 d2 ebd h48 h1
     have r9 : ((l.length : Int).tmod 9) = ((l.length % 9 : Nat) : Int) := by
      rw [Int.tmod_eq_emod_of_nonneg (by omega)]; omega
     refine zS (zA r9 cI) ?_
     refine W_loop (σ := Nat) (fun i => [(0, .str l), (2, accD l i), (3, .bool false), (4, .int .i64 (l.length % 9 : Nat)), (5, .int .i64 i)]) (fun _ => []) (fun i => i ≤ l.length ∧ (l.take i).all isD = true ∧ (i = 0 ∨ (l.length - i) % 9 = 0)) (fun i => l.length - i) 0 (And.intro (Nat.zero_le _) (And.intro rfl (.inl rfl))) ?_ rfl ?_
     ·simp [subF, lk, accD]
     ·rintro i ⟨hi, hall, h9⟩
      by_cases hlt : i < l.length
      ·have dl : decide ((i : Int) < l.length) = true := decide_eq_true (by omega)
       refine zS (zA dl cI) ?_
       refine wTs ?_
       have ti : (i : Int).toNat = i := Int.toNat_natCast i
       by_cases hi0 : i = 0
       ·have di : decide ((i : Int) = 0) = true := decide_eq_true (by omega)
        by_cases hf : 0 < l.length % 9
        ·have df : decide ((0 : Int) < (l.length % 9 : Nat)) = true := decide_eq_true (by omega)
         have he1 : i < l.length % 9 := by omega
         have he2 : l.length % 9 ≤ l.length := Nat.mod_le _ _
         have he4 : i = 0 ∨ l.length % 9 - i = 9 := .inl hi0
         have he3 : l.length % 9 - i ≤ 9 := by omega
         have he5 : (l.length - l.length % 9) % 9 = 0 := by omega
         have te : ((l.length % 9 : Nat) : Int).toNat = l.length % 9 := Int.toNat_natCast _
         refine zS (zA di (zA df cI)) ?_
         refine wT ?_
         have hg := seg_len (l := l) (at' := i) (e := (l.length % 9)) he2
         have hseg := take_seg (l := l) (at' := i) (e := (l.length % 9)) (Nat.le_of_lt he1)
         have hval := dval_seg (l := l) (at' := i) (e := (l.length % 9)) (Nat.le_of_lt he1) he2 he4
         have hmem : ∀ c ∈ (l.take (l.length % 9)).drop i, c ∈ l := fun c h => List.mem_of_mem_take (List.mem_of_mem_drop h)
         refine zS (zA ti (zA te cI)) ?_
         generalize (l.take (l.length % 9)).drop i = g at *
         have hglen : ((g.map byteD).length) = g.length := List.length_map ..
         refine zS (zA hglen cI) ?_
         refine W_loop (σ := Nat) (fun j => [(0, .str l), (2, accD l i), (3, .bool false), (4, .int .i64 (l.length % 9 : Nat)), (5, .int .i64 i), (6, .int .i64 ((l.length % 9) : Nat)), (47, .sl 1 (g.map byteD)), (48, .int .i64 g.length), (49, .int .i64 j), (7, .int .u64 (dval 0 (g.take j) : Nat))]) (fun _ => []) (fun j => j ≤ g.length ∧ (g.take j).all isD = true) (fun j => g.length - j) 0 (And.intro (Nat.zero_le _) rfl) ?_ rfl ?_
         ·simp [subF, lk, dval_nil]
         ·rintro j ⟨hj, hgall⟩
          by_cases hjl : j < g.length
          ·have dj : decide ((j : Int) < g.length) = true := decide_eq_true (by omega)
           refine zS (zA dj cI) ?_
           refine wTs ?_
           have tj : (j : Int).toNat = j := Int.toNat_natCast j
           have hg1 := byteD_get hjl
           have hg2 := byteD_get? hjl
           have hta := take_all hjl hgall
           have htd := take_dval hjl
           have hmc := hmem g[j] (List.getElem_mem hjl)
           have hv : dval 0 (g.take j) < 1000000000 := Nat.lt_of_lt_of_le (dval_lt _ hgall) (Nat.le_trans (Nat.pow_le_pow_right (by decide) (show (g.take j).length ≤ 9 by rw [List.length_take]; omega)) (by decide))
           generalize g[j] = c at *
           generalize dval 0 (g.take j) = v at *
           have hk : c.toNat < 256 := UInt8.toNat_lt c
           have j1 : ((j : Int) + 1) = ((j + 1 : Nat) : Int) := by omega
           clear hval hseg
           by_cases hd : isD c = true
           ·have hd' := hd
            simp only [isD, Bool.and_eq_true, decide_eq_true_eq] at hd'
            have d5 : decide ((c.toNat : Int) < 48) = false := decide_eq_false (by omega)
            have d6 : decide ((57 : Int) < c.toNat) = false := decide_eq_false (by omega)
            have e8 : (c.toNat : Int) - 48 = ((c.toNat - 48 : Nat) : Int) := by omega
            have e10 : 10 * (v : Int) + ((c.toNat - 48 : Nat) : Int) = ((dval 0 (g.take (j + 1)) : Nat) : Int) := by rw [htd]; omega
            have hta' := hta hd
            clear hta htd hgall hall hmem
            (replace hta' := Hid.mk hta')
            refine zS (zA tj (zA hg1 (zA hg2 (zA d5 (zA d6 cI))))) ?_
            refine wFs ?_
            refine zS (zA e8 (zA e10 (zA j1 cI))) ?_
            exact ⟨j + 1, And.intro hjl hta'.out, by omega, by simp [subF, lk]⟩
           ·have hb : okD l = false := by
             rw [← Bool.not_eq_true, okD_iff]
             exact fun h => hd (List.all_eq_true.1 h.2.2.2 c hmc)
            rw [parseR_bad hb]
            clear hta htd hall hgall hmem
            by_cases h5 : c.toNat < 48
            ·have d5 : decide ((c.toNat : Int) < 48) = true := decide_eq_true (by omega)
             refine zS (zA tj (zA hg1 (zA hg2 (zA d5 cI)))) ?_
             refine wT ?_
             refine zS cI ?_
             exact W_ret (RetP_2 (.nils _) (.imm rfl))
            ·have d5 : decide ((c.toNat : Int) < 48) = false := decide_eq_false (by omega)
             have d6 : decide ((57 : Int) < c.toNat) = true := decide_eq_true (by
              simp only [isD, Bool.and_eq_true, decide_eq_true_eq] at hd
              omega)
             refine zS (zA tj (zA hg1 (zA hg2 (zA d5 (zA d6 cI))))) ?_
             refine wT ?_
             refine zS cI ?_
             exact W_ret (RetP_2 (.nils _) (.imm rfl))
          ·have dj : decide ((j : Int) < g.length) = false := decide_eq_false (by omega)
           obtain rfl : j = g.length := by omega
           rw [List.take_length] at hgall ⊢
           have u9 : [DV.int .u32 1000000000] = us (limbs 1000000000) := by rw [limbs_one (by decide) (by decide)]; rfl
           have hl9 : (limbs 1000000000).length ≤ 1 := by rw [limbs_one (by decide) (by decide)]; simp
           have hv : dval 0 g < 1000000000 := Nat.lt_of_lt_of_le (dval_lt _ hgall) (Nat.le_trans (Nat.pow_le_pow_right (by decide) (show g.length ≤ 9 by omega)) (by decide))
           have hdl := dval_len hall (m := 4000) (by simp; omega)
           have ct := accD_nMul l i (by omega)
           have cf := nFromUint_calls (dval 0 g) (by omega)
           have hm := len_mul hdl hl9
           have ca := nAddL (dval 0 (l.take i) * 1000000000) (dval 0 g) (by omega) (Nat.le_trans (limbs_len.2 (show dval 0 g < 4294967296 ^ 1 by omega)) (by decide))
           rw [hval] at ca
           have hac : accD l (l.length % 9) = .sl 1 (us (limbs (dval 0 (l.take (l.length % 9))))) := by unfold accD; rw [if_neg (by omega)]
           rw [← hac] at ca
           have halle : (l.take (l.length % 9)).all isD = true := by rw [hseg, List.all_append, hall, hgall]; rfl
           have hacc := accD_cases l i
           clear hval hseg hall hgall hm hdl hl9 hac hmem
           (replace halle := Hid.mk halle)
           rcases hacc with e | ⟨xs, e⟩
           ·rw [e] at ct ⊢
            refine zS (zA dj cI) ?_
            refine W_cond rfl (fun h => by cases h) (fun _ => W_exit ?_)
            repeat (first | refine zQ (zA u9 (zA @us_rfd cI)) ?_ | refine cP ct ?_ | refine cP cf ?_ | refine cP ca ?_ | exact zT)
            exact ⟨(l.length % 9), And.intro he2 (And.intro halle.out (.inr he5)), by omega, by simp [subF, lk]⟩
           ·rw [e] at ct ⊢
            refine zS (zA dj cI) ?_
            refine W_cond rfl (fun h => by cases h) (fun _ => W_exit ?_)
            repeat (first | refine zQ (zA u9 (zA @us_rfd cI)) ?_ | refine cP ct ?_ | refine cP cf ?_ | refine cP ca ?_ | exact zT)
            exact ⟨(l.length % 9), And.intro he2 (And.intro halle.out (.inr he5)), by omega, by simp [subF, lk]⟩
        ·have df : decide ((0 : Int) < (l.length % 9 : Nat)) = false := decide_eq_false (by omega)
         have he1 : i < i + 9 := by omega
         have he2 : i + 9 ≤ l.length := by omega
         have he4 : i = 0 ∨ i + 9 - i = 9 := .inl hi0
         have he3 : i + 9 - i ≤ 9 := by omega
         have he5 : (l.length - (i + 9)) % 9 = 0 := by omega
         have ei9 : (i : Int) + 9 = ((i + 9 : Nat) : Int) := by omega
         have te : ((i + 9 : Nat) : Int).toNat = i + 9 := Int.toNat_natCast _
         refine zS (zA di (zA df (zA ei9 cI))) ?_
         refine wFs ?_
         have hg := seg_len (l := l) (at' := i) (e := (i + 9)) he2
         have hseg := take_seg (l := l) (at' := i) (e := (i + 9)) (Nat.le_of_lt he1)
         have hval := dval_seg (l := l) (at' := i) (e := (i + 9)) (Nat.le_of_lt he1) he2 he4
         have hmem : ∀ c ∈ (l.take (i + 9)).drop i, c ∈ l := fun c h => List.mem_of_mem_take (List.mem_of_mem_drop h)
         refine zS (zA ti (zA te cI)) ?_
         generalize (l.take (i + 9)).drop i = g at *
         have hglen : ((g.map byteD).length) = g.length := List.length_map ..
         refine zS (zA hglen cI) ?_
         refine W_loop (σ := Nat) (fun j => [(0, .str l), (2, accD l i), (3, .bool false), (4, .int .i64 (l.length % 9 : Nat)), (5, .int .i64 i), (6, .int .i64 ((i + 9) : Nat)), (47, .sl 1 (g.map byteD)), (48, .int .i64 g.length), (49, .int .i64 j), (7, .int .u64 (dval 0 (g.take j) : Nat))]) (fun _ => []) (fun j => j ≤ g.length ∧ (g.take j).all isD = true) (fun j => g.length - j) 0 (And.intro (Nat.zero_le _) rfl) ?_ rfl ?_
         ·simp [subF, lk, dval_nil]
         ·rintro j ⟨hj, hgall⟩
          by_cases hjl : j < g.length
          ·have dj : decide ((j : Int) < g.length) = true := decide_eq_true (by omega)
           refine zS (zA dj cI) ?_
           refine wTs ?_
           have tj : (j : Int).toNat = j := Int.toNat_natCast j
           have hg1 := byteD_get hjl
           have hg2 := byteD_get? hjl
           have hta := take_all hjl hgall
           have htd := take_dval hjl
           have hmc := hmem g[j] (List.getElem_mem hjl)
           have hv : dval 0 (g.take j) < 1000000000 := Nat.lt_of_lt_of_le (dval_lt _ hgall) (Nat.le_trans (Nat.pow_le_pow_right (by decide) (show (g.take j).length ≤ 9 by rw [List.length_take]; omega)) (by decide))
           generalize g[j] = c at *
           generalize dval 0 (g.take j) = v at *
           have hk : c.toNat < 256 := UInt8.toNat_lt c
           have j1 : ((j : Int) + 1) = ((j + 1 : Nat) : Int) := by omega
           clear hval hseg
           by_cases hd : isD c = true
           ·have hd' := hd
            simp only [isD, Bool.and_eq_true, decide_eq_true_eq] at hd'
            have d5 : decide ((c.toNat : Int) < 48) = false := decide_eq_false (by omega)
            have d6 : decide ((57 : Int) < c.toNat) = false := decide_eq_false (by omega)
            have e8 : (c.toNat : Int) - 48 = ((c.toNat - 48 : Nat) : Int) := by omega
            have e10 : 10 * (v : Int) + ((c.toNat - 48 : Nat) : Int) = ((dval 0 (g.take (j + 1)) : Nat) : Int) := by rw [htd]; omega
            have hta' := hta hd
            clear hta htd hgall hall hmem
            (replace hta' := Hid.mk hta')
            refine zS (zA tj (zA hg1 (zA hg2 (zA d5 (zA d6 cI))))) ?_
            refine wFs ?_
            refine zS (zA e8 (zA e10 (zA j1 cI))) ?_
            exact ⟨j + 1, And.intro hjl hta'.out, by omega, by simp [subF, lk]⟩
           ·have hb : okD l = false := by
             rw [← Bool.not_eq_true, okD_iff]
             exact fun h => hd (List.all_eq_true.1 h.2.2.2 c hmc)
            rw [parseR_bad hb]
            clear hta htd hall hgall hmem
            by_cases h5 : c.toNat < 48
            ·have d5 : decide ((c.toNat : Int) < 48) = true := decide_eq_true (by omega)
             refine zS (zA tj (zA hg1 (zA hg2 (zA d5 cI)))) ?_
             refine wT ?_
             refine zS cI ?_
             exact W_ret (RetP_2 (.nils _) (.imm rfl))
            ·have d5 : decide ((c.toNat : Int) < 48) = false := decide_eq_false (by omega)
             have d6 : decide ((57 : Int) < c.toNat) = true := decide_eq_true (by
              simp only [isD, Bool.and_eq_true, decide_eq_true_eq] at hd
              omega)
             refine zS (zA tj (zA hg1 (zA hg2 (zA d5 (zA d6 cI))))) ?_
             refine wT ?_
             refine zS cI ?_
             exact W_ret (RetP_2 (.nils _) (.imm rfl))
          ·have dj : decide ((j : Int) < g.length) = false := decide_eq_false (by omega)
           obtain rfl : j = g.length := by omega
           rw [List.take_length] at hgall ⊢
           have u9 : [DV.int .u32 1000000000] = us (limbs 1000000000) := by rw [limbs_one (by decide) (by decide)]; rfl
           have hl9 : (limbs 1000000000).length ≤ 1 := by rw [limbs_one (by decide) (by decide)]; simp
           have hv : dval 0 g < 1000000000 := Nat.lt_of_lt_of_le (dval_lt _ hgall) (Nat.le_trans (Nat.pow_le_pow_right (by decide) (show g.length ≤ 9 by omega)) (by decide))
           have hdl := dval_len hall (m := 4000) (by simp; omega)
           have ct := accD_nMul l i (by omega)
           have cf := nFromUint_calls (dval 0 g) (by omega)
           have hm := len_mul hdl hl9
           have ca := nAddL (dval 0 (l.take i) * 1000000000) (dval 0 g) (by omega) (Nat.le_trans (limbs_len.2 (show dval 0 g < 4294967296 ^ 1 by omega)) (by decide))
           rw [hval] at ca
           have hac : accD l (i + 9) = .sl 1 (us (limbs (dval 0 (l.take (i + 9))))) := by unfold accD; rw [if_neg (by omega)]
           rw [← hac] at ca
           have halle : (l.take (i + 9)).all isD = true := by rw [hseg, List.all_append, hall, hgall]; rfl
           have hacc := accD_cases l i
           clear hval hseg hall hgall hm hdl hl9 hac hmem
           (replace halle := Hid.mk halle)
           rcases hacc with e | ⟨xs, e⟩
           ·rw [e] at ct ⊢
            refine zS (zA dj cI) ?_
            refine W_cond rfl (fun h => by cases h) (fun _ => W_exit ?_)
            repeat (first | refine zQ (zA u9 (zA @us_rfd cI)) ?_ | refine cP ct ?_ | refine cP cf ?_ | refine cP ca ?_ | exact zT)
            exact ⟨(i + 9), And.intro he2 (And.intro halle.out (.inr he5)), by omega, by simp [subF, lk]⟩
           ·rw [e] at ct ⊢
            refine zS (zA dj cI) ?_
            refine W_cond rfl (fun h => by cases h) (fun _ => W_exit ?_)
            repeat (first | refine zQ (zA u9 (zA @us_rfd cI)) ?_ | refine cP ct ?_ | refine cP cf ?_ | refine cP ca ?_ | exact zT)
            exact ⟨(i + 9), And.intro he2 (And.intro halle.out (.inr he5)), by omega, by simp [subF, lk]⟩
       ·have di : decide ((i : Int) = 0) = false := decide_eq_false (by omega)
        have he1 : i < i + 9 := by omega
        have he2 : i + 9 ≤ l.length := by omega
        have he4 : i = 0 ∨ i + 9 - i = 9 := .inr (by omega)
        have he3 : i + 9 - i ≤ 9 := by omega
        have he5 : (l.length - (i + 9)) % 9 = 0 := by omega
        have ei9 : (i : Int) + 9 = ((i + 9 : Nat) : Int) := by omega
        have te : ((i + 9 : Nat) : Int).toNat = i + 9 := Int.toNat_natCast _
        refine zS (zA di (zA ei9 cI)) ?_
        refine wFs ?_
        have hg := seg_len (l := l) (at' := i) (e := (i + 9)) he2
        have hseg := take_seg (l := l) (at' := i) (e := (i + 9)) (Nat.le_of_lt he1)
        have hval := dval_seg (l := l) (at' := i) (e := (i + 9)) (Nat.le_of_lt he1) he2 he4
        have hmem : ∀ c ∈ (l.take (i + 9)).drop i, c ∈ l := fun c h => List.mem_of_mem_take (List.mem_of_mem_drop h)
        refine zS (zA ti (zA te cI)) ?_
        generalize (l.take (i + 9)).drop i = g at *
        have hglen : ((g.map byteD).length) = g.length := List.length_map ..
        refine zS (zA hglen cI) ?_
        refine W_loop (σ := Nat) (fun j => [(0, .str l), (2, accD l i), (3, .bool false), (4, .int .i64 (l.length % 9 : Nat)), (5, .int .i64 i), (6, .int .i64 ((i + 9) : Nat)), (47, .sl 1 (g.map byteD)), (48, .int .i64 g.length), (49, .int .i64 j), (7, .int .u64 (dval 0 (g.take j) : Nat))]) (fun _ => []) (fun j => j ≤ g.length ∧ (g.take j).all isD = true) (fun j => g.length - j) 0 (And.intro (Nat.zero_le _) rfl) ?_ rfl ?_
        ·simp [subF, lk, dval_nil]
        ·rintro j ⟨hj, hgall⟩
         by_cases hjl : j < g.length
         ·have dj : decide ((j : Int) < g.length) = true := decide_eq_true (by omega)
          refine zS (zA dj cI) ?_
          refine wTs ?_
          have tj : (j : Int).toNat = j := Int.toNat_natCast j
          have hg1 := byteD_get hjl
          have hg2 := byteD_get? hjl
          have hta := take_all hjl hgall
          have htd := take_dval hjl
          have hmc := hmem g[j] (List.getElem_mem hjl)
          have hv : dval 0 (g.take j) < 1000000000 := Nat.lt_of_lt_of_le (dval_lt _ hgall) (Nat.le_trans (Nat.pow_le_pow_right (by decide) (show (g.take j).length ≤ 9 by rw [List.length_take]; omega)) (by decide))
          generalize g[j] = c at *
          generalize dval 0 (g.take j) = v at *
          have hk : c.toNat < 256 := UInt8.toNat_lt c
          have j1 : ((j : Int) + 1) = ((j + 1 : Nat) : Int) := by omega
          clear hval hseg
          by_cases hd : isD c = true
          ·have hd' := hd
           simp only [isD, Bool.and_eq_true, decide_eq_true_eq] at hd'
           have d5 : decide ((c.toNat : Int) < 48) = false := decide_eq_false (by omega)
           have d6 : decide ((57 : Int) < c.toNat) = false := decide_eq_false (by omega)
           have e8 : (c.toNat : Int) - 48 = ((c.toNat - 48 : Nat) : Int) := by omega
           have e10 : 10 * (v : Int) + ((c.toNat - 48 : Nat) : Int) = ((dval 0 (g.take (j + 1)) : Nat) : Int) := by rw [htd]; omega
           have hta' := hta hd
           clear hta htd hgall hall hmem
           (replace hta' := Hid.mk hta')
           refine zS (zA tj (zA hg1 (zA hg2 (zA d5 (zA d6 cI))))) ?_
           refine wFs ?_
           refine zS (zA e8 (zA e10 (zA j1 cI))) ?_
           exact ⟨j + 1, And.intro hjl hta'.out, by omega, by simp [subF, lk]⟩
          ·have hb : okD l = false := by
            rw [← Bool.not_eq_true, okD_iff]
            exact fun h => hd (List.all_eq_true.1 h.2.2.2 c hmc)
           rw [parseR_bad hb]
           clear hta htd hall hgall hmem
           by_cases h5 : c.toNat < 48
           ·have d5 : decide ((c.toNat : Int) < 48) = true := decide_eq_true (by omega)
            refine zS (zA tj (zA hg1 (zA hg2 (zA d5 cI)))) ?_
            refine wT ?_
            refine zS cI ?_
            exact W_ret (RetP_2 (.nils _) (.imm rfl))
           ·have d5 : decide ((c.toNat : Int) < 48) = false := decide_eq_false (by omega)
            have d6 : decide ((57 : Int) < c.toNat) = true := decide_eq_true (by
             simp only [isD, Bool.and_eq_true, decide_eq_true_eq] at hd
             omega)
            refine zS (zA tj (zA hg1 (zA hg2 (zA d5 (zA d6 cI))))) ?_
            refine wT ?_
            refine zS cI ?_
            exact W_ret (RetP_2 (.nils _) (.imm rfl))
         ·have dj : decide ((j : Int) < g.length) = false := decide_eq_false (by omega)
          obtain rfl : j = g.length := by omega
          rw [List.take_length] at hgall ⊢
          have u9 : [DV.int .u32 1000000000] = us (limbs 1000000000) := by rw [limbs_one (by decide) (by decide)]; rfl
          have hl9 : (limbs 1000000000).length ≤ 1 := by rw [limbs_one (by decide) (by decide)]; simp
          have hv : dval 0 g < 1000000000 := Nat.lt_of_lt_of_le (dval_lt _ hgall) (Nat.le_trans (Nat.pow_le_pow_right (by decide) (show g.length ≤ 9 by omega)) (by decide))
          have hdl := dval_len hall (m := 4000) (by simp; omega)
          have ct := accD_nMul l i (by omega)
          have cf := nFromUint_calls (dval 0 g) (by omega)
          have hm := len_mul hdl hl9
          have ca := nAddL (dval 0 (l.take i) * 1000000000) (dval 0 g) (by omega) (Nat.le_trans (limbs_len.2 (show dval 0 g < 4294967296 ^ 1 by omega)) (by decide))
          rw [hval] at ca
          have hac : accD l (i + 9) = .sl 1 (us (limbs (dval 0 (l.take (i + 9))))) := by unfold accD; rw [if_neg (by omega)]
          rw [← hac] at ca
          have halle : (l.take (i + 9)).all isD = true := by rw [hseg, List.all_append, hall, hgall]; rfl
          have hacc := accD_cases l i
          clear hval hseg hall hgall hm hdl hl9 hac hmem
          (replace halle := Hid.mk halle)
          rcases hacc with e | ⟨xs, e⟩
          ·rw [e] at ct ⊢
           refine zS (zA dj cI) ?_
           refine W_cond rfl (fun h => by cases h) (fun _ => W_exit ?_)
           repeat (first | refine zQ (zA u9 (zA @us_rfd cI)) ?_ | refine cP ct ?_ | refine cP cf ?_ | refine cP ca ?_ | exact zT)
           exact ⟨(i + 9), And.intro he2 (And.intro halle.out (.inr he5)), by omega, by simp [subF, lk]⟩
          ·rw [e] at ct ⊢
           refine zS (zA dj cI) ?_
           refine W_cond rfl (fun h => by cases h) (fun _ => W_exit ?_)
           repeat (first | refine zQ (zA u9 (zA @us_rfd cI)) ?_ | refine cP ct ?_ | refine cP cf ?_ | refine cP ca ?_ | exact zT)
           exact ⟨(i + 9), And.intro he2 (And.intro halle.out (.inr he5)), by omega, by simp [subF, lk]⟩
      ·have hil : i = l.length := by omega
       subst hil
       have dl : decide ((l.length : Int) < l.length) = false := decide_eq_false (by omega)
       rw [List.take_length] at hall
       have hb : okD l = true := (okD_iff l).2 ⟨hn, by omega, hz, hall⟩
       have hr : parseR l = .tup [.sl 1 (us (limbs (dval 0 l))), .bool true] := by unfold parseR; rw [hb]; rfl
       have hac : accD l l.length = .sl 1 (us (limbs (dval 0 l))) := by unfold accD; rw [if_neg (by omega), List.take_length]
       rw [hr, hac]
       refine zS (zA dl cI) ?_
       refine W_cond rfl (fun h => by cases h) (fun _ => W_exit ?_)
       refine zS cI ?_
       exact W_ret (RetP_2 (.imm rfl) (.imm rfl))
   ·have d2 : decide ((((l.getD 0 0).toNat : Nat) : Int) = 48) = false := decide_eq_false (by omega)
    have hz : ¬ (l.head? = some 48 ∧ 1 < l.length) := fun h => h48 (by
     cases l with
     | nil => exact absurd rfl hn
     | cons c r =>
      have h1 := h.1
      rw [List.head?_cons, Option.some.injEq] at h1
      rw [List.getD_cons_zero, h1]; rfl)
    refine zS (zA dn (zA d4 (zA e0 (zA ebd (zA d2 cI))))) ?_
    refine wFs ?_
    clear d2 ebd h48
    have r9 : ((l.length : Int).tmod 9) = ((l.length % 9 : Nat) : Int) := by
     rw [Int.tmod_eq_emod_of_nonneg (by omega)]; omega
    refine zS (zA r9 cI) ?_
    refine W_loop (σ := Nat) (fun i => [(0, .str l), (2, accD l i), (3, .bool false), (4, .int .i64 (l.length % 9 : Nat)), (5, .int .i64 i)]) (fun _ => []) (fun i => i ≤ l.length ∧ (l.take i).all isD = true ∧ (i = 0 ∨ (l.length - i) % 9 = 0)) (fun i => l.length - i) 0 (And.intro (Nat.zero_le _) (And.intro rfl (.inl rfl))) ?_ rfl ?_
    ·simp [subF, lk, accD]
    ·rintro i ⟨hi, hall, h9⟩
     by_cases hlt : i < l.length
     ·have dl : decide ((i : Int) < l.length) = true := decide_eq_true (by omega)
      refine zS (zA dl cI) ?_
      refine wTs ?_
      have ti : (i : Int).toNat = i := Int.toNat_natCast i
      by_cases hi0 : i = 0
      ·have di : decide ((i : Int) = 0) = true := decide_eq_true (by omega)
       by_cases hf : 0 < l.length % 9
       ·have df : decide ((0 : Int) < (l.length % 9 : Nat)) = true := decide_eq_true (by omega)
        have he1 : i < l.length % 9 := by omega
        have he2 : l.length % 9 ≤ l.length := Nat.mod_le _ _
        have he4 : i = 0 ∨ l.length % 9 - i = 9 := .inl hi0
        have he3 : l.length % 9 - i ≤ 9 := by omega
        have he5 : (l.length - l.length % 9) % 9 = 0 := by omega
        have te : ((l.length % 9 : Nat) : Int).toNat = l.length % 9 := Int.toNat_natCast _
        refine zS (zA di (zA df cI)) ?_
        refine wT ?_
        have hg := seg_len (l := l) (at' := i) (e := (l.length % 9)) he2
        have hseg := take_seg (l := l) (at' := i) (e := (l.length % 9)) (Nat.le_of_lt he1)
        have hval := dval_seg (l := l) (at' := i) (e := (l.length % 9)) (Nat.le_of_lt he1) he2 he4
        have hmem : ∀ c ∈ (l.take (l.length % 9)).drop i, c ∈ l := fun c h => List.mem_of_mem_take (List.mem_of_mem_drop h)
        refine zS (zA ti (zA te cI)) ?_
        generalize (l.take (l.length % 9)).drop i = g at *
        have hglen : ((g.map byteD).length) = g.length := List.length_map ..
        refine zS (zA hglen cI) ?_
        refine W_loop (σ := Nat) (fun j => [(0, .str l), (2, accD l i), (3, .bool false), (4, .int .i64 (l.length % 9 : Nat)), (5, .int .i64 i), (6, .int .i64 ((l.length % 9) : Nat)), (47, .sl 1 (g.map byteD)), (48, .int .i64 g.length), (49, .int .i64 j), (7, .int .u64 (dval 0 (g.take j) : Nat))]) (fun _ => []) (fun j => j ≤ g.length ∧ (g.take j).all isD = true) (fun j => g.length - j) 0 (And.intro (Nat.zero_le _) rfl) ?_ rfl ?_
        ·simp [subF, lk, dval_nil]
        ·rintro j ⟨hj, hgall⟩
         by_cases hjl : j < g.length
         ·have dj : decide ((j : Int) < g.length) = true := decide_eq_true (by omega)
          refine zS (zA dj cI) ?_
          refine wTs ?_
          have tj : (j : Int).toNat = j := Int.toNat_natCast j
          have hg1 := byteD_get hjl
          have hg2 := byteD_get? hjl
          have hta := take_all hjl hgall
          have htd := take_dval hjl
          have hmc := hmem g[j] (List.getElem_mem hjl)
          have hv : dval 0 (g.take j) < 1000000000 := Nat.lt_of_lt_of_le (dval_lt _ hgall) (Nat.le_trans (Nat.pow_le_pow_right (by decide) (show (g.take j).length ≤ 9 by rw [List.length_take]; omega)) (by decide))
          generalize g[j] = c at *
          generalize dval 0 (g.take j) = v at *
          have hk : c.toNat < 256 := UInt8.toNat_lt c
          have j1 : ((j : Int) + 1) = ((j + 1 : Nat) : Int) := by omega
          clear hval hseg
          by_cases hd : isD c = true
          ·have hd' := hd
           simp only [isD, Bool.and_eq_true, decide_eq_true_eq] at hd'
           have d5 : decide ((c.toNat : Int) < 48) = false := decide_eq_false (by omega)
           have d6 : decide ((57 : Int) < c.toNat) = false := decide_eq_false (by omega)
           have e8 : (c.toNat : Int) - 48 = ((c.toNat - 48 : Nat) : Int) := by omega
           have e10 : 10 * (v : Int) + ((c.toNat - 48 : Nat) : Int) = ((dval 0 (g.take (j + 1)) : Nat) : Int) := by rw [htd]; omega
           have hta' := hta hd
           clear hta htd hgall hall hmem
           (replace hta' := Hid.mk hta')
           refine zS (zA tj (zA hg1 (zA hg2 (zA d5 (zA d6 cI))))) ?_
           refine wFs ?_
           refine zS (zA e8 (zA e10 (zA j1 cI))) ?_
           exact ⟨j + 1, And.intro hjl hta'.out, by omega, by simp [subF, lk]⟩
          ·have hb : okD l = false := by
            rw [← Bool.not_eq_true, okD_iff]
            exact fun h => hd (List.all_eq_true.1 h.2.2.2 c hmc)
           rw [parseR_bad hb]
           clear hta htd hall hgall hmem
           by_cases h5 : c.toNat < 48
           ·have d5 : decide ((c.toNat : Int) < 48) = true := decide_eq_true (by omega)
            refine zS (zA tj (zA hg1 (zA hg2 (zA d5 cI)))) ?_
            refine wT ?_
            refine zS cI ?_
            exact W_ret (RetP_2 (.nils _) (.imm rfl))
           ·have d5 : decide ((c.toNat : Int) < 48) = false := decide_eq_false (by omega)
            have d6 : decide ((57 : Int) < c.toNat) = true := decide_eq_true (by
             simp only [isD, Bool.and_eq_true, decide_eq_true_eq] at hd
             omega)
            refine zS (zA tj (zA hg1 (zA hg2 (zA d5 (zA d6 cI))))) ?_
            refine wT ?_
            refine zS cI ?_
            exact W_ret (RetP_2 (.nils _) (.imm rfl))
         ·have dj : decide ((j : Int) < g.length) = false := decide_eq_false (by omega)
          obtain rfl : j = g.length := by omega
          rw [List.take_length] at hgall ⊢
          have u9 : [DV.int .u32 1000000000] = us (limbs 1000000000) := by rw [limbs_one (by decide) (by decide)]; rfl
          have hl9 : (limbs 1000000000).length ≤ 1 := by rw [limbs_one (by decide) (by decide)]; simp
          have hv : dval 0 g < 1000000000 := Nat.lt_of_lt_of_le (dval_lt _ hgall) (Nat.le_trans (Nat.pow_le_pow_right (by decide) (show g.length ≤ 9 by omega)) (by decide))
          have hdl := dval_len hall (m := 4000) (by simp; omega)
          have ct := accD_nMul l i (by omega)
          have cf := nFromUint_calls (dval 0 g) (by omega)
          have hm := len_mul hdl hl9
          have ca := nAddL (dval 0 (l.take i) * 1000000000) (dval 0 g) (by omega) (Nat.le_trans (limbs_len.2 (show dval 0 g < 4294967296 ^ 1 by omega)) (by decide))
          rw [hval] at ca
          have hac : accD l (l.length % 9) = .sl 1 (us (limbs (dval 0 (l.take (l.length % 9))))) := by unfold accD; rw [if_neg (by omega)]
          rw [← hac] at ca
          have halle : (l.take (l.length % 9)).all isD = true := by rw [hseg, List.all_append, hall, hgall]; rfl
          have hacc := accD_cases l i
          clear hval hseg hall hgall hm hdl hl9 hac hmem
          (replace halle := Hid.mk halle)
          rcases hacc with e | ⟨xs, e⟩
          ·rw [e] at ct ⊢
           refine zS (zA dj cI) ?_
           refine W_cond rfl (fun h => by cases h) (fun _ => W_exit ?_)
           repeat (first | refine zQ (zA u9 (zA @us_rfd cI)) ?_ | refine cP ct ?_ | refine cP cf ?_ | refine cP ca ?_ | exact zT)
           exact ⟨(l.length % 9), And.intro he2 (And.intro halle.out (.inr he5)), by omega, by simp [subF, lk]⟩
          ·rw [e] at ct ⊢
           refine zS (zA dj cI) ?_
           refine W_cond rfl (fun h => by cases h) (fun _ => W_exit ?_)
           repeat (first | refine zQ (zA u9 (zA @us_rfd cI)) ?_ | refine cP ct ?_ | refine cP cf ?_ | refine cP ca ?_ | exact zT)
           exact ⟨(l.length % 9), And.intro he2 (And.intro halle.out (.inr he5)), by omega, by simp [subF, lk]⟩
       ·have df : decide ((0 : Int) < (l.length % 9 : Nat)) = false := decide_eq_false (by omega)
        have he1 : i < i + 9 := by omega
        have he2 : i + 9 ≤ l.length := by omega
        have he4 : i = 0 ∨ i + 9 - i = 9 := .inl hi0
        have he3 : i + 9 - i ≤ 9 := by omega
        have he5 : (l.length - (i + 9)) % 9 = 0 := by omega
        have ei9 : (i : Int) + 9 = ((i + 9 : Nat) : Int) := by omega
        have te : ((i + 9 : Nat) : Int).toNat = i + 9 := Int.toNat_natCast _
        refine zS (zA di (zA df (zA ei9 cI))) ?_
        refine wFs ?_
        have hg := seg_len (l := l) (at' := i) (e := (i + 9)) he2
        have hseg := take_seg (l := l) (at' := i) (e := (i + 9)) (Nat.le_of_lt he1)
        have hval := dval_seg (l := l) (at' := i) (e := (i + 9)) (Nat.le_of_lt he1) he2 he4
        have hmem : ∀ c ∈ (l.take (i + 9)).drop i, c ∈ l := fun c h => List.mem_of_mem_take (List.mem_of_mem_drop h)
        refine zS (zA ti (zA te cI)) ?_
        generalize (l.take (i + 9)).drop i = g at *
        have hglen : ((g.map byteD).length) = g.length := List.length_map ..
        refine zS (zA hglen cI) ?_
        refine W_loop (σ := Nat) (fun j => [(0, .str l), (2, accD l i), (3, .bool false), (4, .int .i64 (l.length % 9 : Nat)), (5, .int .i64 i), (6, .int .i64 ((i + 9) : Nat)), (47, .sl 1 (g.map byteD)), (48, .int .i64 g.length), (49, .int .i64 j), (7, .int .u64 (dval 0 (g.take j) : Nat))]) (fun _ => []) (fun j => j ≤ g.length ∧ (g.take j).all isD = true) (fun j => g.length - j) 0 (And.intro (Nat.zero_le _) rfl) ?_ rfl ?_
        ·simp [subF, lk, dval_nil]
        ·rintro j ⟨hj, hgall⟩
         by_cases hjl : j < g.length
         ·have dj : decide ((j : Int) < g.length) = true := decide_eq_true (by omega)
          refine zS (zA dj cI) ?_
          refine wTs ?_
          have tj : (j : Int).toNat = j := Int.toNat_natCast j
          have hg1 := byteD_get hjl
          have hg2 := byteD_get? hjl
          have hta := take_all hjl hgall
          have htd := take_dval hjl
          have hmc := hmem g[j] (List.getElem_mem hjl)
          have hv : dval 0 (g.take j) < 1000000000 := Nat.lt_of_lt_of_le (dval_lt _ hgall) (Nat.le_trans (Nat.pow_le_pow_right (by decide) (show (g.take j).length ≤ 9 by rw [List.length_take]; omega)) (by decide))
          generalize g[j] = c at *
          generalize dval 0 (g.take j) = v at *
          have hk : c.toNat < 256 := UInt8.toNat_lt c
          have j1 : ((j : Int) + 1) = ((j + 1 : Nat) : Int) := by omega
          clear hval hseg
          by_cases hd : isD c = true
          ·have hd' := hd
           simp only [isD, Bool.and_eq_true, decide_eq_true_eq] at hd'
           have d5 : decide ((c.toNat : Int) < 48) = false := decide_eq_false (by omega)
           have d6 : decide ((57 : Int) < c.toNat) = false := decide_eq_false (by omega)
           have e8 : (c.toNat : Int) - 48 = ((c.toNat - 48 : Nat) : Int) := by omega
           have e10 : 10 * (v : Int) + ((c.toNat - 48 : Nat) : Int) = ((dval 0 (g.take (j + 1)) : Nat) : Int) := by rw [htd]; omega
           have hta' := hta hd
           clear hta htd hgall hall hmem
           (replace hta' := Hid.mk hta')
           refine zS (zA tj (zA hg1 (zA hg2 (zA d5 (zA d6 cI))))) ?_
           refine wFs ?_
           refine zS (zA e8 (zA e10 (zA j1 cI))) ?_
           exact ⟨j + 1, And.intro hjl hta'.out, by omega, by simp [subF, lk]⟩
          ·have hb : okD l = false := by
            rw [← Bool.not_eq_true, okD_iff]
            exact fun h => hd (List.all_eq_true.1 h.2.2.2 c hmc)
           rw [parseR_bad hb]
           clear hta htd hall hgall hmem
           by_cases h5 : c.toNat < 48
           ·have d5 : decide ((c.toNat : Int) < 48) = true := decide_eq_true (by omega)
            refine zS (zA tj (zA hg1 (zA hg2 (zA d5 cI)))) ?_
            refine wT ?_
            refine zS cI ?_
            exact W_ret (RetP_2 (.nils _) (.imm rfl))
           ·have d5 : decide ((c.toNat : Int) < 48) = false := decide_eq_false (by omega)
            have d6 : decide ((57 : Int) < c.toNat) = true := decide_eq_true (by
             simp only [isD, Bool.and_eq_true, decide_eq_true_eq] at hd
             omega)
            refine zS (zA tj (zA hg1 (zA hg2 (zA d5 (zA d6 cI))))) ?_
            refine wT ?_
            refine zS cI ?_
            exact W_ret (RetP_2 (.nils _) (.imm rfl))
         ·have dj : decide ((j : Int) < g.length) = false := decide_eq_false (by omega)
          obtain rfl : j = g.length := by omega
          rw [List.take_length] at hgall ⊢
          have u9 : [DV.int .u32 1000000000] = us (limbs 1000000000) := by rw [limbs_one (by decide) (by decide)]; rfl
          have hl9 : (limbs 1000000000).length ≤ 1 := by rw [limbs_one (by decide) (by decide)]; simp
          have hv : dval 0 g < 1000000000 := Nat.lt_of_lt_of_le (dval_lt _ hgall) (Nat.le_trans (Nat.pow_le_pow_right (by decide) (show g.length ≤ 9 by omega)) (by decide))
          have hdl := dval_len hall (m := 4000) (by simp; omega)
          have ct := accD_nMul l i (by omega)
          have cf := nFromUint_calls (dval 0 g) (by omega)
          have hm := len_mul hdl hl9
          have ca := nAddL (dval 0 (l.take i) * 1000000000) (dval 0 g) (by omega) (Nat.le_trans (limbs_len.2 (show dval 0 g < 4294967296 ^ 1 by omega)) (by decide))
          rw [hval] at ca
          have hac : accD l (i + 9) = .sl 1 (us (limbs (dval 0 (l.take (i + 9))))) := by unfold accD; rw [if_neg (by omega)]
          rw [← hac] at ca
          have halle : (l.take (i + 9)).all isD = true := by rw [hseg, List.all_append, hall, hgall]; rfl
          have hacc := accD_cases l i
          clear hval hseg hall hgall hm hdl hl9 hac hmem
          (replace halle := Hid.mk halle)
          rcases hacc with e | ⟨xs, e⟩
          ·rw [e] at ct ⊢
           refine zS (zA dj cI) ?_
           refine W_cond rfl (fun h => by cases h) (fun _ => W_exit ?_)
           repeat (first | refine zQ (zA u9 (zA @us_rfd cI)) ?_ | refine cP ct ?_ | refine cP cf ?_ | refine cP ca ?_ | exact zT)
           exact ⟨(i + 9), And.intro he2 (And.intro halle.out (.inr he5)), by omega, by simp [subF, lk]⟩
          ·rw [e] at ct ⊢
           refine zS (zA dj cI) ?_
           refine W_cond rfl (fun h => by cases h) (fun _ => W_exit ?_)
           repeat (first | refine zQ (zA u9 (zA @us_rfd cI)) ?_ | refine cP ct ?_ | refine cP cf ?_ | refine cP ca ?_ | exact zT)
           exact ⟨(i + 9), And.intro he2 (And.intro halle.out (.inr he5)), by omega, by simp [subF, lk]⟩
      ·have di : decide ((i : Int) = 0) = false := decide_eq_false (by omega)
       have he1 : i < i + 9 := by omega
       have he2 : i + 9 ≤ l.length := by omega
       have he4 : i = 0 ∨ i + 9 - i = 9 := .inr (by omega)
       have he3 : i + 9 - i ≤ 9 := by omega
       have he5 : (l.length - (i + 9)) % 9 = 0 := by omega
       have ei9 : (i : Int) + 9 = ((i + 9 : Nat) : Int) := by omega
       have te : ((i + 9 : Nat) : Int).toNat = i + 9 := Int.toNat_natCast _
       refine zS (zA di (zA ei9 cI)) ?_
       refine wFs ?_
       have hg := seg_len (l := l) (at' := i) (e := (i + 9)) he2
       have hseg := take_seg (l := l) (at' := i) (e := (i + 9)) (Nat.le_of_lt he1)
       have hval := dval_seg (l := l) (at' := i) (e := (i + 9)) (Nat.le_of_lt he1) he2 he4
       have hmem : ∀ c ∈ (l.take (i + 9)).drop i, c ∈ l := fun c h => List.mem_of_mem_take (List.mem_of_mem_drop h)
       refine zS (zA ti (zA te cI)) ?_
       generalize (l.take (i + 9)).drop i = g at *
       have hglen : ((g.map byteD).length) = g.length := List.length_map ..
       refine zS (zA hglen cI) ?_
       refine W_loop (σ := Nat) (fun j => [(0, .str l), (2, accD l i), (3, .bool false), (4, .int .i64 (l.length % 9 : Nat)), (5, .int .i64 i), (6, .int .i64 ((i + 9) : Nat)), (47, .sl 1 (g.map byteD)), (48, .int .i64 g.length), (49, .int .i64 j), (7, .int .u64 (dval 0 (g.take j) : Nat))]) (fun _ => []) (fun j => j ≤ g.length ∧ (g.take j).all isD = true) (fun j => g.length - j) 0 (And.intro (Nat.zero_le _) rfl) ?_ rfl ?_
       ·simp [subF, lk, dval_nil]
       ·rintro j ⟨hj, hgall⟩
        by_cases hjl : j < g.length
        ·have dj : decide ((j : Int) < g.length) = true := decide_eq_true (by omega)
         refine zS (zA dj cI) ?_
         refine wTs ?_
         have tj : (j : Int).toNat = j := Int.toNat_natCast j
         have hg1 := byteD_get hjl
         have hg2 := byteD_get? hjl
         have hta := take_all hjl hgall
         have htd := take_dval hjl
         have hmc := hmem g[j] (List.getElem_mem hjl)
         have hv : dval 0 (g.take j) < 1000000000 := Nat.lt_of_lt_of_le (dval_lt _ hgall) (Nat.le_trans (Nat.pow_le_pow_right (by decide) (show (g.take j).length ≤ 9 by rw [List.length_take]; omega)) (by decide))
         generalize g[j] = c at *
         generalize dval 0 (g.take j) = v at *
         have hk : c.toNat < 256 := UInt8.toNat_lt c
         have j1 : ((j : Int) + 1) = ((j + 1 : Nat) : Int) := by omega
         clear hval hseg
         by_cases hd : isD c = true
         ·have hd' := hd
          simp only [isD, Bool.and_eq_true, decide_eq_true_eq] at hd'
          have d5 : decide ((c.toNat : Int) < 48) = false := decide_eq_false (by omega)
          have d6 : decide ((57 : Int) < c.toNat) = false := decide_eq_false (by omega)
          have e8 : (c.toNat : Int) - 48 = ((c.toNat - 48 : Nat) : Int) := by omega
          have e10 : 10 * (v : Int) + ((c.toNat - 48 : Nat) : Int) = ((dval 0 (g.take (j + 1)) : Nat) : Int) := by rw [htd]; omega
          have hta' := hta hd
          clear hta htd hgall hall hmem
          (replace hta' := Hid.mk hta')
          refine zS (zA tj (zA hg1 (zA hg2 (zA d5 (zA d6 cI))))) ?_
          refine wFs ?_
          refine zS (zA e8 (zA e10 (zA j1 cI))) ?_
          exact ⟨j + 1, And.intro hjl hta'.out, by omega, by simp [subF, lk]⟩
         ·have hb : okD l = false := by
           rw [← Bool.not_eq_true, okD_iff]
           exact fun h => hd (List.all_eq_true.1 h.2.2.2 c hmc)
          rw [parseR_bad hb]
          clear hta htd hall hgall hmem
          by_cases h5 : c.toNat < 48
          ·have d5 : decide ((c.toNat : Int) < 48) = true := decide_eq_true (by omega)
           refine zS (zA tj (zA hg1 (zA hg2 (zA d5 cI)))) ?_
           refine wT ?_
           refine zS cI ?_
           exact W_ret (RetP_2 (.nils _) (.imm rfl))
          ·have d5 : decide ((c.toNat : Int) < 48) = false := decide_eq_false (by omega)
           have d6 : decide ((57 : Int) < c.toNat) = true := decide_eq_true (by
            simp only [isD, Bool.and_eq_true, decide_eq_true_eq] at hd
            omega)
           refine zS (zA tj (zA hg1 (zA hg2 (zA d5 (zA d6 cI))))) ?_
           refine wT ?_
           refine zS cI ?_
           exact W_ret (RetP_2 (.nils _) (.imm rfl))
        ·have dj : decide ((j : Int) < g.length) = false := decide_eq_false (by omega)
         obtain rfl : j = g.length := by omega
         rw [List.take_length] at hgall ⊢
         have u9 : [DV.int .u32 1000000000] = us (limbs 1000000000) := by rw [limbs_one (by decide) (by decide)]; rfl
         have hl9 : (limbs 1000000000).length ≤ 1 := by rw [limbs_one (by decide) (by decide)]; simp
         have hv : dval 0 g < 1000000000 := Nat.lt_of_lt_of_le (dval_lt _ hgall) (Nat.le_trans (Nat.pow_le_pow_right (by decide) (show g.length ≤ 9 by omega)) (by decide))
         have hdl := dval_len hall (m := 4000) (by simp; omega)
         have ct := accD_nMul l i (by omega)
         have cf := nFromUint_calls (dval 0 g) (by omega)
         have hm := len_mul hdl hl9
         have ca := nAddL (dval 0 (l.take i) * 1000000000) (dval 0 g) (by omega) (Nat.le_trans (limbs_len.2 (show dval 0 g < 4294967296 ^ 1 by omega)) (by decide))
         rw [hval] at ca
         have hac : accD l (i + 9) = .sl 1 (us (limbs (dval 0 (l.take (i + 9))))) := by unfold accD; rw [if_neg (by omega)]
         rw [← hac] at ca
         have halle : (l.take (i + 9)).all isD = true := by rw [hseg, List.all_append, hall, hgall]; rfl
         have hacc := accD_cases l i
         clear hval hseg hall hgall hm hdl hl9 hac hmem
         (replace halle := Hid.mk halle)
         rcases hacc with e | ⟨xs, e⟩
         ·rw [e] at ct ⊢
          refine zS (zA dj cI) ?_
          refine W_cond rfl (fun h => by cases h) (fun _ => W_exit ?_)
          repeat (first | refine zQ (zA u9 (zA @us_rfd cI)) ?_ | refine cP ct ?_ | refine cP cf ?_ | refine cP ca ?_ | exact zT)
          exact ⟨(i + 9), And.intro he2 (And.intro halle.out (.inr he5)), by omega, by simp [subF, lk]⟩
         ·rw [e] at ct ⊢
          refine zS (zA dj cI) ?_
          refine W_cond rfl (fun h => by cases h) (fun _ => W_exit ?_)
          repeat (first | refine zQ (zA u9 (zA @us_rfd cI)) ?_ | refine cP ct ?_ | refine cP cf ?_ | refine cP ca ?_ | exact zT)
          exact ⟨(i + 9), And.intro he2 (And.intro halle.out (.inr he5)), by omega, by simp [subF, lk]⟩
     ·have hil : i = l.length := by omega
      subst hil
      have dl : decide ((l.length : Int) < l.length) = false := decide_eq_false (by omega)
      rw [List.take_length] at hall
      have hb : okD l = true := (okD_iff l).2 ⟨hn, by omega, hz, hall⟩
      have hr : parseR l = .tup [.sl 1 (us (limbs (dval 0 l))), .bool true] := by unfold parseR; rw [hb]; rfl
      have hac : accD l l.length = .sl 1 (us (limbs (dval 0 l))) := by unfold accD; rw [if_neg (by omega), List.take_length]
      rw [hr, hac]
      refine zS (zA dl cI) ?_
      refine W_cond rfl (fun h => by cases h) (fun _ => W_exit ?_)
      refine zS cI ?_
      exact W_ret (RetP_2 (.imm rfl) (.imm rfl))
end Go.Proofs.YtjahkcgckiobkaaGreatDoor
namespace Go.Proofs.YtjahkcgckiobkaaGreatDoor
open Go Go.Dat Go.Proofs Nat32 Go.RowKit
open Go.Lib (decDigits)
theorem islIndex1 (l : List UInt8) (c : UInt8) : PCalls Tryz.prog 190 [.str l, .str [c]] (.int .i64 (idx (isC c) l)) :=
 PCalls_str2 (fun _ _ => .int _ _) fun w => (Tryz.stringslite_Index_one ⟨l.toArray⟩ c w).mono fun e w' h => ⟨by rw [h.1, indexByte_idx], by rw [h.2]; exact Below.refl _ _⟩
theorem cutPrefixD (l : List UInt8) : PCalls Tryz.prog 121 [.str l, .str [45]] (.tup [.str (expD l), .bool (decide (l.head? = some 45))]) :=
 PCalls_str2 (fun _ _ => VI_strbool _ _) fun w => (Tryz.strings_CutPrefix ⟨l.toArray⟩ ⟨[45].toArray⟩ w).mono fun e w' h => ⟨by rw [h.1, ← trimPrefix45, ← hasPrefix45], by rw [h.2]; exact Below.refl _ _⟩
theorem trimLeftD (l : List UInt8) : PCalls Tryz.prog 180 [.str l, .str [48]] (.str (Lib.trimLeftB l 48)) :=
 PCalls_str2 (fun _ _ => .str _) fun w => (Tryz.strings_TrimLeft_one ⟨l.toArray⟩ 48 (by decide) w).mono fun e w' h => ⟨h.1, by rw [h.2]; exact Below.refl _ _⟩
def A7 (l : List UInt8) : Prop := (∀ b ∈ l, b.toNat < 128) ∨ 8 < l.length
theorem indexAnyD (l : List UInt8) (h7 : A7 l) (hl : l.length ≤ 100000) : PCalls Tryz.prog 156 [.str l, .str [101, 69]] (.int .i64 (idx isE l)) := by
 have hc : ∀ (j : Nat) b, ([101, 69] : List UInt8)[j]? = some b → b.toNat < 128 := fun j b hb => by
  have := List.mem_of_getElem? hb
  simp at this
  rcases this with rfl | rfl <;> decide
 have hz : (⟨l.toArray⟩ : ByteArray).size = l.length := by simp [ByteArray.size]
 rcases h7 with ha | h8
 ·exact PCalls_str2 (fun _ _ => .int _ _) fun w => (Tryz.strings_IndexAny_laid ⟨l.toArray⟩ ⟨[101, 69].toArray⟩ w (by omega) (by decide) (fun j b hb => ha b (List.mem_of_getElem? hb)) hc).mono fun e w' h => ⟨by rw [h.1, ← indexAny_idx], h.2⟩
 ·refine PCalls_str2 (fun _ _ => .int _ _) fun w => (Tryz.strings_IndexAny_long (zero_of_info (n := 256) (by kernel_rfl)).1 ⟨l.toArray⟩ ⟨[101, 69].toArray⟩ w (by decide) (by omega) (by omega) (by decide) hc).mono fun e w' h => ⟨by rw [h.1, ← indexAny_idx], ?_⟩
  rw [h.2]
  exact ((Below.refl _ _).alloc (Nat.le_refl _) _).alloc (by simp) _
def cutR (p : UInt8 → Bool) (l : List UInt8) : DV := if fi p l < l.length then .tup [.str (l.take (fi p l)), .str (l.drop (fi p l + 1)), .bool true] else .tup [.str l, .str [], .bool false]
theorem islCut_calls (l : List UInt8) (c : UInt8) (hl : l.length ≤ 100000) : PCalls Tryz.prog 175 [.str l, .str [c]] (cutR (isC c) l) := by
 have ci := islIndex1 l c
 have hge := idx_ge (isC c) l
 refine PCalls_of isislCut (by simp [fnislCut]) ?_
 unfold codeislCut cutR
 by_cases h : fi (isC c) l < l.length
 ·rw [if_pos h]
  rw [decide_eq_true h] at hge
  rw [idx_of h] at ci hge
  generalize fi (isC c) l = i at *
  have e1 : ((i : Int) + ((1 : Nat) : Int)).toNat = i + 1 := by omega
  have e2 : (l.take l.length).drop (i + 1) = l.drop (i + 1) := by rw [List.take_length]
  have e3 : (l.take i).drop 0 = l.take i := rfl
  repeat (first | refine zQ (zA hge cI) ?_ | refine cP ci ?_ | exact zT)
  refine wT ?_
  refine zS (zA e1 (zA e2 (zA e3 (zA @List.length_singleton.{0} (zA @List.take_length.{0} cI))))) ?_
  exact W_ret (RetP_3 (.imm rfl) (.imm rfl) (.imm rfl))
 ·rw [if_neg h]
  rw [decide_eq_false h] at hge
  repeat (first | refine zQ (zA hge cI) ?_ | refine cP ci ?_ | exact zT)
  refine wFs ?_
  refine zS cI ?_
  exact W_ret (RetP_3 (.imm rfl) (.imm rfl) (.imm rfl))
theorem strCut_calls (l : List UInt8) (c : UInt8) (hl : l.length ≤ 100000) : PCalls Tryz.prog 154 [.str l, .str [c]] (cutR (isC c) l) := by
 have ci := islCut_calls l c hl
 refine PCalls_of isstrCut (by simp [fnstrCut]) ?_
 unfold codestrCut
 unfold cutR at ci ⊢
 by_cases h : fi (isC c) l < l.length
 ·rw [if_pos h] at ci ⊢
  repeat (first | refine zQ cI ?_ | refine cP ci ?_ | exact zT)
  exact W_ret (RetP_3 (.imm rfl) (.imm rfl) (.imm rfl))
 ·rw [if_neg h] at ci ⊢
  repeat (first | refine zQ cI ?_ | refine cP ci ?_ | exact zT)
  exact W_ret (RetP_3 (.imm rfl) (.imm rfl) (.imm rfl))
theorem ten_len (k : Nat) : (limbs (10 ^ k)).length ≤ k + 1 := by
 rw [limbs_len]
 refine Nat.lt_of_le_of_lt (Nat.pow_le_pow_left (show 10 ≤ 4294967296 by decide) k) ?_
 exact Nat.pow_lt_pow_right (by decide) (by omega)
theorem l10 : [DV.int .u32 10] = us (limbs 10) := by rw [limbs_one (by decide) (by decide)]; rfl
theorem limbs10 : (limbs 10).length ≤ 1 := by rw [limbs_one (by decide) (by decide)]; simp
theorem nPow10 (k : Nat) (h : k ≤ 64) : PCalls Tryz.prog 181 [.sl 1 (us (limbs 10)), .int .i64 k] (.sl 1 (us (limbs (10 ^ k)))) := by
 have := nPower_calls (limbs 10) k (Nat.le_trans limbs10 (by decide)) (lim_limbs _)
 unfold pw at this
 rwa [if_neg (by omega), Int.toNat_natCast, vn_limbs] at this
theorem q_ten_calls (k : Nat) (hk : k ≤ 5000) : PCalls Tryz.prog 160 [.int .i64 k] (.sl 1 (us (limbs (10 ^ k)))) := by
 refine PCalls_of isq_ten (by simp [fnq_ten]) ?_
 unfold codeq_ten
 have hone := q_one_calls
 repeat (first | refine zQ cI ?_ | refine cP hone ?_ | exact zT)
 refine W_loop (σ := Nat) (fun i => [(0, .int .i64 i), (2, .nils), (3, .sl 1 (us (limbs (10 ^ (k - i)))))]) (fun _ => []) (fun i => i ≤ k) (fun i => i) k (Nat.le_refl _) ?_ rfl ?_
 ·simp [subF, lk]
 ·rintro i hi
  try simp only at hi ⊢
  have hl := ten_len (k - i)
  by_cases h : 64 < i
  ·have d : decide ((64 : Int) < i) = true := decide_eq_true (by omega)
   have c1 := nPow10 64 (Nat.le_refl _)
   have c2 := nMulL (10 ^ (k - i)) (10 ^ 64) (by omega) (Nat.le_trans (ten_len 64) (by decide))
   rw [← Nat.pow_add, show k - i + 64 = k - (i - 64) by omega] at c2
   have e1 : (i : Int) - 64 = ((i - 64 : Nat) : Int) := by omega
   generalize 10 ^ 64 = T at *
   refine zS (zA d cI) ?_
   refine wTs ?_
   repeat (first | refine zQ (zA @l10 (zA @us_rfd (zA e1 cI))) ?_ | refine cP c1 ?_ | refine cP c2 ?_ | exact zT)
   exact ⟨i - 64, by omega, by omega, by simp [subF, lk]⟩
  ·have d : decide ((64 : Int) < i) = false := decide_eq_false (by omega)
   have c1 := nPow10 i (by omega)
   have c2 := nMulL (10 ^ (k - i)) (10 ^ i) (by omega) (Nat.le_trans (ten_len i) (by omega))
   rw [← Nat.pow_add, show k - i + i = k by omega] at c2
   refine zS (zA d cI) ?_
   refine W_cond rfl (fun h => by cases h) (fun _ => W_exit ?_)
   repeat (first | refine zQ (zA @l10 (zA @us_rfd cI)) ?_ | refine cP c1 ?_ | refine cP c2 ?_ | exact zT)
theorem q_significant_calls (l : List UInt8) : PCalls Tryz.prog 159 [.str l] (.str (sig l)) := by
 have ct := trimLeftD l
 refine PCalls_of isq_significant (by simp [fnq_significant]) ?_
 unfold codeq_significant sig
 generalize Lib.trimLeftB l 48 = T at *
 by_cases h : T = []
 ·have d : decide (T = []) = true := decide_eq_true h
  rw [if_pos h]
  repeat (first | refine zQ (zA d cI) ?_ | refine cP ct ?_ | exact zT)
  refine wT ?_
  refine zS cI ?_
  exact W_ret (RetP_1 (.imm rfl))
 ·have d : decide (T = []) = false := decide_eq_false h
  rw [if_neg h]
  repeat (first | refine zQ (zA d cI) ?_ | refine cP ct ?_ | exact zT)
  refine wFs ?_
  refine zS cI ?_
  exact W_ret (RetP_1 (.imm rfl))
end Go.Proofs.YtjahkcgckiobkaaGreatDoor
namespace Go.Proofs
open Go.Shelf Go.RowKit Go.Lib
variable {P : Program} {ρ : Ren}
def eE : ByteArray := ⟨[101, 69].toArray⟩
set_option maxHeartbeats 8000000 in
set_option maxRecDepth 1000000 in
theorem IR_err (L : Lays.n152 P ρ) (w : World) :
  Calls P (ρ.f 152) #[.string eE, .int .i32 65533] w fun e w' => e = .returned (.int .i64 (-1)) ∧ Below w.heap.size w w' := by
 have mixed := L.mixed
 have t3 := L.t3; have a3 := L.a3; have z3 := L.z3; have v3 := L.v3
 have t4 := L.t4; have a4 := L.a4; have z4 := L.z4; have v4 := L.v4
 have t5 := L.t5; have a5 := L.a5; have z5 := L.z5; have v5 := L.v5
 have t9 := L.t9; have a9 := L.a9; have z9 := L.z9; have v9 := L.v9
 have t21 := L.t21; have a21 := L.a21; have z21 := L.z21; have v21 := L.v21
 have hsz : eE.size = 2 := rfl
 go_enter L.f152, Body.n152_ntmps ρ
 go_wp2
 go_loopg [5, 6] 2 (fun g _ _ wx => ∃ i : Nat, i + g = 2 ∧ wx = w.iter eE i)
 case atStart => exact ⟨0, by omega, rfl⟩
 case round =>
  obtain ⟨i, hig, rfl⟩ := hrel
  cases gk with
  | zero =>
   obtain rfl : i = 2 := by omega
   have hnx := run_next_end (P := P) w eE 2
   go_wp2
   go_ret
   exact ⟨rfl, (Below.refl _ _).alloc (Nat.le_refl _) _⟩
  | succ g =>
   have hi : i < eE.size := by rw [hsz]; omega
   obtain ⟨x, hx⟩ : ∃ x : UInt8, eE[i]'hi = x := ⟨_, rfl⟩
   have hx128 : x.toNat < 128 := by
    rw [← hx]
    have : i = 0 ∨ i = 1 := by omega
    rcases this with rfl | rfl
    ·show (101 : UInt8).toNat < 128; decide
    ·show (69 : UInt8).toNat < 128; decide
   have hnx := fun ty => run_next_ascii (P := P) w eE i ty hi (by rw [hx]; exact hx128)
   rw [hx] at hnx
   have hne : ((x.toNat : Int) == 65533) = false := beq_eq_false_iff_ne.2 (by omega)
   clear hx
   go_wp2
   go_roundg g
   case measure => omega
   case rel => exact ⟨i + 1, by omega, rfl⟩
set_option maxHeartbeats 8000000 in
set_option maxRecDepth 1000000 in
theorem IR_hi (L : Lays.n152 P ρ) (r : Int) (w : World) (h0 : 128 ≤ r) (h1 : r ≠ 65533) :
  Calls P (ρ.f 152) #[.string eE, .int .i32 r] w fun e w' => e = .returned (.int .i64 (-1)) ∧ Below w.heap.size w w' := by
 have mixed := L.mixed
 have t3 := L.t3; have a3 := L.a3; have z3 := L.z3; have v3 := L.v3
 have t4 := L.t4; have a4 := L.a4; have z4 := L.z4; have v4 := L.v4
 have t5 := L.t5; have a5 := L.a5; have z5 := L.z5; have v5 := L.v5
 have t9 := L.t9; have a9 := L.a9; have z9 := L.z9; have v9 := L.v9
 have t21 := L.t21; have a21 := L.a21; have z21 := L.z21; have v21 := L.v21
 have e119 : ∀ args w, (callFunc (ρ.f 119) args).run P w = .ok (.enter (ρ.f 119) args) w := enters_of L.f119 (by kernel_rfl) rfl
 have e137 : ∀ args w, (callFunc (ρ.f 137) args).run P w = .ok (.enter (ρ.f 137) args) w := enters_of L.f137 (by kernel_rfl) rfl
 have hsz : eE.size = 2 := rfl
 have d0 : decide ((0 : Int) ≤ r) = true := decide_eq_true (by omega)
 have d1 : decide (r < 128) = false := decide_eq_false (by omega)
 have hne : (r == 65533) = false := beq_eq_false_iff_ne.2 h1
 have hcv : ∀ w, (convert (ρ.t 21) (ρ.t 9) (.int .i32 r)).run P w = .ok (.string (Utf8.encode r)) w := fun w => run_convert_int_string w _ _ .i32 r (by rw [L.t21]; rfl) L.t9
 have hfacts : Lib.validRune r = true → 2 ≤ (Utf8.encode r).size ∧ (Utf8.encode r).size ≤ 4 ∧ ∀ h : (Utf8.encode r).size - 1 < (Utf8.encode r).size, 128 ≤ ((Utf8.encode r)[(Utf8.encode r).size - 1]'h).toNat := fun h => by
  have h2 : Utf8.valid r = true := by
   simp only [Lib.validRune, decide_eq_true_eq] at h
   simp only [Utf8.valid, Bool.or_eq_true, Bool.and_eq_true, decide_eq_true_eq]
   omega
  exact encode_facts r h2 h0
 go_enter L.f152, Body.n152_ntmps ρ
 cases hv : Lib.validRune r
 ·go_wp2_with (go_at_fn (ρ.f 119); refine (Any.utf8_ValidRune { L with } _ _).mono ?_; rintro e w' ⟨rfl, hw⟩; rw [hw, hv])
  go_ret
  exact ⟨rfl, Below.refl _ _⟩
 ·go_wp2_with (go_at_fn (ρ.f 119); refine (Any.utf8_ValidRune { L with } _ _).mono ?_; rintro e w' ⟨rfl, hw⟩; rw [hw, hv])
  apply wp_scope_straight
  obtain ⟨y2, y4, yb⟩ := hfacts hv
  clear hfacts
  by_cases h3 : (Utf8.encode r).size = 2
  ·have hw : wrap64 (((Utf8.encode r).size : Int) - 1) = 1 := by rw [h3]; unfold wrap64; omega
   obtain ⟨y, hy⟩ : ∃ y : UInt8, (Utf8.encode r)[1]'(by omega) = y := ⟨_, rfl⟩
   have hyb : 128 ≤ y.toNat := by
    have := yb (by omega)
    simp only [h3] at this
    rw [← hy]; exact this
   have he1 : eE[1]'(by decide) = 69 := rfl
   have hne2 : ((69 : UInt8) == y) = false := beq_eq_false_iff_ne.2 (fun e => by rw [← e] at hyb; revert hyb; decide)
   clear yb hcv
   go_wp2
   go_loopg [9] 1 (fun g s9 wx => g = 1 ∧ s9 = .int .i64 1 ∧ wx = w)
   case atStart => exact ⟨rfl, rfl, rfl⟩
   case round =>
    obtain ⟨rfl, rfl, rfl⟩ := hrel
    have hlt : decide ((1 : Int) < (eE.size : Int)) = true := decide_eq_true (by rw [hsz]; omega)
    have hi1 : 1 < eE.size := by rw [hsz]; omega
    have hi2 : 1 < (Utf8.encode r).size := by omega
    have hw2 : IntKind.i64.wrap 2 = 2 := by decide
    have hb2 : (2 : Int) ≤ (eE.size : Int) := by rw [hsz]; omega
    have hsl : ∀ w, (Instr.slice (ρ.t 9) (.string eE) (some (.int .i64 2)) none none).run P w = .ok (.string ⟨#[]⟩) w := fun w => by
     rw [run_slice_string_from_if w _ _ _ _ L.t9, if_pos ⟨by decide, hb2⟩]; rfl
    go_wp2
    apply wp_scope_straight
    go_wp2_with fail
    go_quiet_o (fail)
    go_wp2_with fail
    go_quiet_o (first | (refine (Any.strings_IndexByte { L with } _ _ _).mono ?_; rintro e w'' ⟨rfl, rfl⟩; exact ⟨rfl, _, rfl⟩))
    have hib : Lib.indexByte ([] : List UInt8) y = -1 := rfl
    go_wp2_with fail
    simp (config := {zetaDelta := true}) only [Exit.noGoto_ret, Exit.inBlock, Exit.then]
    go_ret
    exact ⟨rfl, ⟨rfl, rfl, rfl, Nat.le_refl _, fun _ _ => rfl⟩⟩
  ·have hw : wrap64 (((Utf8.encode r).size : Int) - 1) = ((Utf8.encode r).size : Int) - 1 := by unfold wrap64; omega
   go_wp2
   go_loopg [9] 1 (fun g s9 wx => g = 1 ∧ s9 = .int .i64 (((Utf8.encode r).size : Int) - 1) ∧ wx = w)
   case atStart => exact ⟨rfl, rfl, rfl⟩
   case round =>
    obtain ⟨rfl, rfl, rfl⟩ := hrel
    have hlt : decide (((Utf8.encode r).size : Int) - 1 < (eE.size : Int)) = false := decide_eq_false (by rw [hsz]; omega)
    go_wp2
    simp (config := {zetaDelta := true}) only [Exit.noGoto_ret, Exit.inBlock, Exit.then]
    go_ret
    exact ⟨rfl, Below.refl _ _⟩
end Go.Proofs
namespace Go.Proofs
open Go.Shelf Go.RowKit Go.Lib
variable {P : Program} {ρ : Ren}
theorem get!_at (s : ByteArray) (i : Nat) (h : i < s.size) : s.get! i = s[i]'h := by
 cases s with
 | mk d =>
  show d[i]! = d[i]
  exact getElem!_pos d i h
set_option maxRecDepth 100000 in
set_option maxHeartbeats 2000000 in
theorem decodeN_hi (n b0 b1 b2 b3 : Nat) (hn : 1 ≤ n) (h0 : 128 ≤ b0) : 128 ≤ (decodeN n b0 b1 b2 b3).1 ∧ 1 ≤ (decodeN n b0 b1 b2 b3).2 ∧ (decodeN n b0 b1 b2 b3).2 ≤ n ∧ (decodeN n b0 b1 b2 b3).2 ≤ 4 ∧
  (1 < (decodeN n b0 b1 b2 b3).2 → 128 ≤ b1) ∧ (2 < (decodeN n b0 b1 b2 b3).2 → 128 ≤ b2) ∧ (3 < (decodeN n b0 b1 b2 b3).2 → 128 ≤ b3) := by
 unfold decodeN
 repeat' split
 all_goals (try simp only)
 all_goals omega
theorem dec_hi (s : ByteArray) (i : Nat) (h : i < s.size) (h0 : 128 ≤ (s[i]'h).toNat) : 128 ≤ (Utf8.decode s i).1 ∧ 1 ≤ (Utf8.decode s i).2 ∧ i + (Utf8.decode s i).2 ≤ s.size ∧
  ∀ j (hj : j < s.size), i ≤ j → j < i + (Utf8.decode s i).2 → 128 ≤ (s[j]'hj).toNat := by
 have e := decode_at s i
 rw [← get!_at s i h] at h0
 obtain ⟨a1, a2, a3, a4, a5, a6, a7⟩ := decodeN_hi (s.size - i) (s.get! i).toNat (s.get! (i + 1)).toNat (s.get! (i + 2)).toNat (s.get! (i + 3)).toNat (by omega) h0
 rw [← e] at a1 a2 a3 a4 a5 a6 a7
 refine ⟨a1, a2, by omega, fun j hj h1 h2 => ?_⟩
 rw [← get!_at s j hj]
 have : j = i ∨ j = i + 1 ∨ j = i + 2 ∨ j = i + 3 := by omega
 rcases this with rfl | rfl | rfl | rfl
 ·exact h0
 ·exact a5 (by omega)
 ·exact a6 (by omega)
 ·exact a7 (by omega)
theorem eE_list : eE.data.toList = [101, 69] := rfl
theorem noany_hi {s : ByteArray} {i k : Nat} (h : NoAny s.data.toList eE.data.toList i) (hi : ∀ j (hj : j < s.size), i ≤ j → j < i + k → 128 ≤ (s[j]'hj).toNat) : NoAny s.data.toList eE.data.toList (i + k) := fun j b hj hb => by
 rcases Nat.lt_or_ge j i with h1 | h1
 ·exact h j b h1 hb
 ·have hlt : j < s.size := by have := (List.getElem?_eq_some_iff.1 hb).1; rwa [← Lib.size_eq] at this
  have h2 := hi j hlt h1 hj
  rw [Lib.data_getElem? s j hlt, Option.some.injEq] at hb
  rw [hb] at h2
  rw [eE_list]
  cases h3 : ([101, 69] : List UInt8).contains b with
  | false => rfl
  | true =>
   rw [List.contains_iff_mem] at h3
   simp at h3
   rcases h3 with rfl | rfl
   ·revert h2; decide
   ·revert h2; decide
theorem Below_iterAt {w W : World} {s : ByteArray} {p q : Nat} (hb : Below w.heap.size w W) (hk : W.heap[w.heap.size]? = some (.stringIter s p)) : Below w.heap.size w (W.iterAt w.heap.size s q) := by
 refine ⟨hb.os, hb.tape, hb.output, ?_, fun k hk => ?_⟩
 ·show w.heap.size ≤ (W.heap.setIfInBounds _ _).size
  rw [Array.size_setIfInBounds]; exact hb.size
 ·show (W.heap.setIfInBounds _ _)[k]? = _
  rw [Array.getElem?_setIfInBounds, if_neg (by omega)]
  exact hb.block k hk
set_option maxHeartbeats 8000000 in
set_option maxRecDepth 1000000 in
theorem IA_short (L : Lays.n153 P ρ) (s : ByteArray) (w : World) (h8 : s.size ≤ 8) :
  Calls P (ρ.f 153) #[.string s, .string eE] w fun e w' => e = .returned (.int .i64 (Lib.indexAny s.data.toList eE.data.toList)) ∧ Below w.heap.size w w' := by
 have hemp : eE.toList.isEmpty = false := by
  rw [Lib.toList_data]; rfl
 have hsz : eE.size = 2 := rfl
 have hn1 : ((eE.size : Int) == 1) = false := beq_eq_false_iff_ne.2 (by rw [hsz]; omega)
 have h8z : decide ((8 : Int) < (s.size : Int)) = false := decide_eq_false (by omega)
 have t3 := L.t3; have a3 := L.a3; have z3 := L.z3; have v3 := L.v3
 have t4 := L.t4; have a4 := L.a4; have z4 := L.z4; have v4 := L.v4
 have t5 := L.t5; have a5 := L.a5; have z5 := L.z5; have v5 := L.v5
 have t9 := L.t9; have a9 := L.a9; have z9 := L.z9; have v9 := L.v9
 have t21 := L.t21; have a21 := L.a21; have z21 := L.z21; have v21 := L.v21
 have e152 : ∀ args w, (callFunc (ρ.f 152) args).run P w = .ok (.enter (ρ.f 152) args) w := enters_of L.f152 (by kernel_rfl) rfl
 have e226 : ∀ args w, (callFunc (ρ.f 226) args).run P w = .ok (.enter (ρ.f 226) args) w := enters_of L.f226 (by kernel_rfl) rfl
 go_enter L.f153, Body.n153_ntmps ρ
 go_wp2_with (go_at_fn (ρ.f 226); refine (Any.strings_shouldUseASCIISet { L with } _ _).mono ?_; rintro e w' ⟨rfl, hw⟩; rw [hw, h8z])
 go_loopg [9, 10] s.size (fun g _ _ wx => ∃ i : Nat, i + g = s.size ∧ wx.heap[w.heap.size]? = some (.stringIter s i) ∧ Below w.heap.size w wx ∧ Lib.NoAny s.data.toList eE.data.toList i)
 case atStart => exact ⟨0, by omega, World.iter_heap _ _ _, (Below.refl _ _).alloc (Nat.le_refl _) _, Lib.NoAny.zero _ _⟩
 case round =>
  obtain ⟨i, hig, hit, hbel, hno⟩ := hrel
  have HN : Aside (NoAny s.data.toList eE.data.toList i) := hno
  have HB : Aside (Below w.heap.size w wr) := hbel
  have hsw : w.heap.size < wr.heap.size := (Array.getElem?_eq_some_iff.1 hit).1
  clear hno hbel
  cases gk with
  | zero =>
   obtain rfl : i = s.size := by omega
   have hnx := fun ty => run_next_end_at (P := P) wr w.heap.size s s.size ty hit (Nat.lt_irrefl _)
   go_wp2
   go_ret
   exact ⟨by rw [Lib.indexAny_none (by rw [← Lib.size_eq]; exact HN.out)]; rfl, HB.out⟩
  | succ g =>
   have hi : i < s.size := by omega
   by_cases hx128 : (s[i]'hi).toNat < 128
   ·have HB2 : Aside (Below w.heap.size w (wr.iterAt w.heap.size s (i + 1))) := Below_iterAt HB.out hit
    have HI2 := iterAt_heap wr w.heap.size s i (i + 1) hit
    have hnx := fun ty => run_next_ascii_at (P := P) wr w.heap.size s i ty hit hi hx128
    obtain ⟨x, hx⟩ : ∃ x : UInt8, s[i]'hi = x := ⟨_, rfl⟩
    have hxl : s.data.toList[i]? = some x := by rw [← hx]; exact Lib.data_getElem? s i hi
    rw [hx] at hnx hx128
    have Hx : Aside (s.data.toList[i]? = some x) := hxl
    clear hxl hx
    have hcon := Lib.contains_iff_indexByte eE.data.toList x
    have hback : ((x.toNat : Int)).toNat.toUInt8 = x := by simp
    cases hin : eE.data.toList.contains x
    ·rw [hin] at hcon
     have hlt : ¬ ((0 : Int) ≤ Lib.indexByte eE.data.toList x) := of_decide_eq_false hcon.symm
     clear hcon
     go_wp2_with (go_at_fn (ρ.f 152); refine (Any.strings_IndexRune_ascii { L with } _ _ _ (by omega) (by omega)).mono ?_; rintro e w' ⟨rfl, hw⟩; rw [hw, hback])
     go_roundg g
     case measure => omega
     case rel => exact ⟨i + 1, by omega, HI2, HB2.out, HN.out.succ Hx.out hin⟩
    ·rw [hin] at hcon
     have hge : (0 : Int) ≤ Lib.indexByte eE.data.toList x := of_decide_eq_true hcon.symm
     clear hcon
     go_wp2_with (go_at_fn (ρ.f 152); refine (Any.strings_IndexRune_ascii { L with } _ _ _ (by omega) (by omega)).mono ?_; rintro e w' ⟨rfl, hw⟩; rw [hw, hback])
     go_ret
     exact ⟨by rw [Lib.indexAny_hit HN.out Hx.out hin]; rfl, HB2.out⟩
   ·obtain ⟨c1, c2, c3, c4⟩ := dec_hi s i hi (by omega)
    have hnx := fun ty => run_next_any_at (P := P) wr w.heap.size s i ty hit hi
    have hno2 := noany_hi HN.out c4
    clear c4
    generalize (Utf8.decode s i).2 = k at *
    generalize (Utf8.decode s i).1 = c at *
    have HN2 : Aside (NoAny s.data.toList eE.data.toList (i + k)) := hno2
    clear hno2
    have HB2 : Aside (Below w.heap.size w (wr.iterAt w.heap.size s (i + k))) := Below_iterAt HB.out hit
    have HI2 := iterAt_heap wr w.heap.size s i (i + k) hit
    have hsw2 : w.heap.size < (wr.iterAt w.heap.size s (i + k)).heap.size := (Array.getElem?_eq_some_iff.1 HI2).1
    generalize wr.iterAt w.heap.size s (i + k) = W2 at *
    have hm1 : ¬ ((0 : Int) ≤ -1) := by omega
    by_cases hc : c = 65533
    ·subst hc
     go_wp2_with (go_at_fn (ρ.f 152); refine (IR_err { L with } _).mono ?_; rintro e w' ⟨rfl, hw⟩)
     go_roundg (g + 1 - k)
     case measure => omega
     case rel => exact ⟨i + k, by omega, (hw.block _ hsw2).trans HI2, HB2.out.trans ⟨hw.os, hw.tape, hw.output, hw.size, fun j hj => hw.block j (by omega)⟩, HN2.out⟩
    ·have hcz : (c : Int) ≠ 65533 := by omega
     go_wp2_with (go_at_fn (ρ.f 152); refine (IR_hi { L with } _ _ (by omega) hcz).mono ?_; rintro e w' ⟨rfl, hw⟩)
     go_roundg (g + 1 - k)
     case measure => omega
     case rel => exact ⟨i + k, by omega, (hw.block _ hsw2).trans HI2, HB2.out.trans ⟨hw.os, hw.tape, hw.output, hw.size, fun j hj => hw.block j (by omega)⟩, HN2.out⟩
end Go.Proofs
namespace Go.Proofs.YtjahkcgckiobkaaGreatDoor
open Go Go.Dat Go.Proofs Nat32 Go.RowKit
open Go.Lib (decDigits)
theorem bs_getD {l : List UInt8} {k : Nat} (h : k < l.length) : (l.map byteD).getD k .undef = .int .u8 ((l.getD k 0).toNat : Nat) := by
 simp [List.getD_eq_getElem?_getD, h, byteD]
theorem q_digits_calls (l : List UInt8) (hl : l.length ≤ 100000) : PCalls Tryz.prog 158 [.str l] (.bool (digs l)) := by
 refine PCalls_of isq_digits (by simp [fnq_digits]) ?_
 unfold codeq_digits
 refine zS (zA @List.length_map.{0,0} cI) ?_
 refine W_loop (σ := Nat) (fun i => [(0, .str l), (2, .bool false), (6, .sl 1 (l.map byteD)), (7, .int .i64 l.length), (8, .int .i64 i)]) (fun _ => []) (fun i => i ≤ l.length ∧ (l.take i).all isD = true) (fun i => l.length - i) 0 (And.intro (Nat.zero_le _) rfl) ?_ rfl ?_
 ·simp [subF, lk]
 ·rintro i ⟨hi, hall⟩
  try simp only at hi hall ⊢
  by_cases hlt : i < l.length
  ·have dl : decide ((i : Int) < l.length) = true := decide_eq_true (by omega)
   have ei : (i : Int).toNat = i := Int.toNat_natCast i
   have hgd := bs_getD hlt
   have hg2 : l.getD i 0 = l[i] := by rw [List.getD_eq_getElem?_getD, List.getElem?_eq_getElem hlt]; rfl
   rw [hg2] at hgd
   have hta := take_all hlt hall
   have hmem : l[i] ∈ l := List.getElem_mem hlt
   clear hg2
   generalize l[i] = c at *
   have hk : c.toNat < 256 := UInt8.toNat_lt c
   have e1 : ((i : Int) + 1) = ((i + 1 : Nat) : Int) := by omega
   have hbad : ¬ isD c = true → digs l = false := fun h => by
    unfold digs
    rw [Bool.and_eq_false_iff]
    right
    rw [← Bool.not_eq_true]
    exact fun k => h (List.all_eq_true.1 k c hmem)
   refine zS (zA dl cI) ?_
   refine wTs ?_
   by_cases hd : isD c = true
   ·have hd' := hd
    simp only [isD, Bool.and_eq_true, decide_eq_true_eq] at hd'
    have d5 : decide (((c.toNat : Nat) : Int) < 48) = false := decide_eq_false (by omega)
    have d6 : decide ((57 : Int) < ((c.toNat : Nat) : Int)) = false := decide_eq_false (by omega)
    have hta' := hta hd
    clear hta hall hd hbad hmem
    (replace hta' := Hid.mk hta')
    refine zS (zA ei (zA hgd (zA d5 (zA d6 (zA @List.length_map.{0,0} cI))))) ?_
    refine wFs ?_
    refine zS (zA e1 cI) ?_
    exact ⟨i + 1, And.intro hlt hta'.out, by omega, by simp [subF, lk]⟩
   ·rw [hbad hd]
    clear hta hall hbad hmem
    by_cases h5 : c.toNat < 48
    ·have d5 : decide (((c.toNat : Nat) : Int) < 48) = true := decide_eq_true (by omega)
     refine zS (zA ei (zA hgd (zA d5 (zA @List.length_map.{0,0} cI)))) ?_
     refine wT ?_
     refine zS cI ?_
     exact W_ret (RetP_1 (.imm rfl))
    ·have h57 : 57 < c.toNat := by
      simp only [isD, Bool.and_eq_true, decide_eq_true_eq] at hd
      omega
     have d5 : decide (((c.toNat : Nat) : Int) < 48) = false := decide_eq_false (by omega)
     have d6 : decide ((57 : Int) < ((c.toNat : Nat) : Int)) = true := decide_eq_true (by omega)
     clear hd
     refine zS (zA ei (zA hgd (zA d5 (zA d6 (zA @List.length_map.{0,0} cI))))) ?_
     refine wT ?_
     refine zS cI ?_
     exact W_ret (RetP_1 (.imm rfl))
  ·have dl : decide ((i : Int) < l.length) = false := decide_eq_false (by omega)
   have hil : i = l.length := by omega
   have hdg : digs l = decide (¬ l = []) := by
    unfold digs
    rw [hil, List.take_length] at hall
    rw [hall, Bool.and_true]
    cases l <;> simp
   rw [hdg]
   refine zS (zA dl cI) ?_
   refine W_cond rfl (fun h => by cases h) (fun _ => W_exit ?_)
   refine zS cI ?_
   exact W_ret (RetP_1 (.imm rfl))
theorem nUint_pn (a : List UInt8) (hl : a.length ≤ 1000) : PCalls Tryz.prog 148 [.sl 1 (us (limbs (pn a)))] (uintR (pn a)) := by
 have hx : (limbs (pn a)).length ≤ 1000 := by
  unfold pn
  by_cases h : okD a = true
  ·rw [if_pos h]; exact dval_le (okD_all h) hl
  ·rw [if_neg h, limbs_zero]; simp
 have := nUint_calls (limbs (pn a)) (by omega) (lim_limbs _)
 rwa [vn_limbs] at this
theorem parseR_pn (a : List UInt8) : parseR a = .tup [.sl 1 (us (limbs (pn a))), .bool (okD a)] := by
 unfold parseR pn
 by_cases h : okD a = true
 ·rw [h]; rfl
 ·rw [show okD a = false by simpa using h]
  simp [limbs_zero, us_nil]
theorem nParse_pn (a : List UInt8) : PCalls Tryz.prog 155 [.str a] (.tup [.sl 1 (us (limbs (pn a))), .bool (okD a)]) := by
 have := nParse_calls a
 rwa [parseR_pn] at this
theorem uintR_small {x : Nat} (h : x < 18446744073709551616) : uintR x = .tup [.int .u64 x, .bool true] := by
 unfold uintR
 rw [if_neg (by have := limbs_len.2 (show x < 4294967296 ^ 2 by omega); omega)]
theorem uintR_big {x : Nat} (h : ¬ x < 18446744073709551616) : uintR x = .tup [.int .u64 0, .bool false] := by
 unfold uintR
 rw [if_pos ?_]
 rcases Nat.lt_or_ge 2 (limbs x).length with k | k
 ·exact k
 ·have := limbs_len.1 k
  omega
theorem q_exponent_calls (e : List UInt8) (hl : e.length ≤ 1000) : PCalls Tryz.prog 157 [.str e] (expR e) := by
 have c1 := cutPrefixD e
 have hel : (expD e).length ≤ 1000 := by
  unfold expD; split
  ·rw [List.length_tail]; omega
  ·exact hl
 have c2 := nParse_pn (expD e)
 have c3 := nUint_pn (expD e) hel
 refine PCalls_of isq_exponent (by simp [fnq_exponent]) ?_
 unfold codeq_exponent expR expOk expV
 unfold pn at c2 c3
 generalize expD e = D at *
 by_cases ho : okD D = true
 ·rw [ho, if_pos rfl] at c2
  rw [ho, if_pos rfl] at c3
  rw [ho, Bool.true_and]
  generalize dval 0 D = v at *
  by_cases hs : v < 18446744073709551616
  ·rw [uintR_small hs] at c3
   by_cases h40 : v ≤ 40
   ·have d40 : decide ((40 : Int) < (v : Int)) = false := decide_eq_false (by omega)
    rw [if_pos (decide_eq_true h40)]
    clear hs
    by_cases hn : e.head? = some 45
    ·rw [decide_eq_true hn] at c1
     rw [if_pos hn]
     repeat (first | refine zQ (zA d40 cI) ?_ | refine cP c1 ?_ | refine cP c2 ?_ | refine cP c3 ?_ | exact zT)
     refine wFs ?_
     refine zS cI ?_
     refine wT ?_
     refine zS (zA @Int.zero_sub cI) ?_
     exact W_ret (RetP_2 (.imm rfl) (.imm rfl))
    ·rw [decide_eq_false hn] at c1
     rw [if_neg hn]
     repeat (first | refine zQ (zA d40 cI) ?_ | refine cP c1 ?_ | refine cP c2 ?_ | refine cP c3 ?_ | exact zT)
     refine wFs ?_
     refine zS cI ?_
     refine wFs ?_
     refine zS cI ?_
     exact W_ret (RetP_2 (.imm rfl) (.imm rfl))
   ·have d40 : decide ((40 : Int) < (v : Int)) = true := decide_eq_true (by omega)
    rw [if_neg (by simpa using h40)]
    repeat (first | refine zQ (zA d40 cI) ?_ | refine cP c1 ?_ | refine cP c2 ?_ | refine cP c3 ?_ | exact zT)
    refine wT ?_
    refine zS cI ?_
    exact W_ret (RetP_2 (.imm rfl) (.imm rfl))
  ·rw [uintR_big hs] at c3
   rw [if_neg (by simp; omega)]
   clear hs
   repeat (first | refine zQ cI ?_ | refine cP c1 ?_ | refine cP c2 ?_ | refine cP c3 ?_ | exact zT)
   refine wT ?_
   refine zS cI ?_
   exact W_ret (RetP_2 (.imm rfl) (.imm rfl))
 ·have ho : okD D = false := by simpa using ho
  rw [ho] at c2 c3 ⊢
  simp only [Bool.false_eq_true, if_false] at c2 c3
  rw [Bool.false_and, if_neg (by decide)]
  rw [uintR_small (by decide)] at c3
  repeat (first | refine zQ cI ?_ | refine cP c1 ?_ | refine cP c2 ?_ | refine cP c3 ?_ | exact zT)
  refine wT ?_
  refine zS cI ?_
  exact W_ret (RetP_2 (.imm rfl) (.imm rfl))
def pairR (r : Option (Nat × Nat)) : DV := match r with
 | some p => .tup [.sl 1 (us (limbs p.1)), .sl 1 (us (limbs p.2)), .bool true]
 | none => .tup [.sl 1 [], .sl 1 [], .bool false]
def tailU : DC := match codeq_unsigned with | .seq _ (.seq _ (.seq _ (.seq _ t))) => t | _ => .skip
theorem cut46 (m : List UInt8) (hl : m.length ≤ 100000) : PCalls Tryz.prog 154 [.str m, .str [46]] (.tup [.str (decN m), .str (decF m), .bool (decide (fi is46 m < m.length))]) := by
 have cc := strCut_calls m 46 hl
 rw [isC46] at cc
 unfold cutR at cc
 unfold decN decF
 by_cases h : fi is46 m < m.length
 ·rw [if_pos h] at cc
  rw [decide_eq_true h]; exact cc
 ·rw [if_neg h] at cc
  rw [decide_eq_false h, List.take_of_length_le (by omega), List.drop_eq_nil_of_le (by omega)]
  exact cc
set_option maxHeartbeats 2000000 in
theorem tail_W (m : List UInt8) (k : Int) (b : Bool) (hm : m.length ≤ 900) (hk : k.natAbs ≤ 40) :
  W fnq_unsigned tailU (RetP resq_unsigned (pairR (mantP m k))) [(0, .str m), (2, .nils), (3, .nils), (4, .bool b), (8, .int .i64 k)] [] := by
 have cc := cut46 m (by omega)
 have c2 := nParse_pn (decN m)
 have c3 := q_digits_calls (decF m) (by have := decN_len m; omega)
 have hNF := decN_len m
 have hfe : decide (fi is46 m = m.length) = !decide (fi is46 m < m.length) := by
  have := fi_le is46 m
  by_cases h : fi is46 m < m.length
  ·rw [decide_eq_true h, decide_eq_false (by omega)]; rfl
  ·rw [decide_eq_false h, decide_eq_true (by omega)]; rfl
 have hgood : decOk m = true → okD (sig (decN m ++ decF m)) = true ∧ dval 0 (sig (decN m ++ decF m)) = dval 0 (decN m ++ decF m) ∧ (limbs (dval 0 (decN m ++ decF m))).length ≤ 900 := fun h => by
  obtain ⟨h1, h2⟩ := decOk_all h
  obtain ⟨h3, h4⟩ := sig_ok h1 h2
  exact ⟨h3, h4, dval_le h1 (by rw [List.length_append]; omega)⟩
 have c5 := q_significant_calls (decN m ++ decF m)
 have c6 := nParse_pn (sig (decN m ++ decF m))
 have c7 := q_ten_calls (decF m).length (by omega)
 have c8 := q_ten_calls k.natAbs (by omega)
 have d4 : decide ((4000 : Int) < ((decN m).length : Int) + ((decF m).length : Int)) = false := decide_eq_false (by omega)
 have d4' : decide ((decN m).length + (decF m).length ≤ 4000) = true := decide_eq_true (by omega)
 have hdef : decOk m = (okD (decN m) && (decide (fi is46 m = m.length) || digs (decF m)) && decide ((decN m).length + (decF m).length ≤ 4000)) := rfl
 have hmant : mantP m k = if decOk m then (if k < 0 then some (dval 0 (decN m ++ decF m), 10 ^ (decF m).length * 10 ^ k.natAbs) else some (dval 0 (decN m ++ decF m) * 10 ^ k.natAbs, 10 ^ (decF m).length)) else none := rfl
 rw [hmant]
 rw [hfe, d4', Bool.and_true] at hdef
 clear hmant hfe d4'
 unfold tailU codeq_unsigned
 dsimp only
 generalize decOk m = ok at *
 generalize decide (fi is46 m < m.length) = pt at *
 generalize decN m = N at *
 generalize decF m = F at *
 by_cases ho : ok = true
 ·obtain ⟨g1, g2, g3⟩ := hgood ho
  have t1 := ten_len F.length
  have t2 := ten_len k.natAbs
  unfold pn at c6
  rw [g1, if_pos rfl, g2] at c6
  subst ho
  rw [if_pos rfl]
  have hN : okD N = true := by
   cases h : okD N
   ·rw [h] at hdef; simp at hdef
   ·rfl
  have hP : pt = true → digs F = true := fun hpt => by
   cases h : digs F
   ·rw [h, hpt] at hdef; simp at hdef
   ·rfl
  rw [hN] at c2
  have m1 := nMulL (10 ^ F.length) (10 ^ k.natAbs) (by omega) (by omega)
  have m2 := nMulL (dval 0 (N ++ F)) (10 ^ k.natAbs) (by omega) (by omega)
  generalize dval 0 (N ++ F) = v at *
  generalize 10 ^ F.length = TF at *
  generalize 10 ^ k.natAbs = TK at *
  clear hgood hdef g1 g2 g3 t1 t2
  by_cases hk0 : k < 0
  ·have dk : decide (k < 0) = true := decide_eq_true hk0
   have ek : (0 : Int) - k = (k.natAbs : Int) := by omega
   rw [if_pos hk0]
   cases pt
   ·repeat (first | refine zQ (zA d4 cI) ?_ | refine cP cc ?_ | refine cP c2 ?_ | refine cP c3 ?_ | exact zT)
    refine wFs ?_
    repeat (first | refine zQ (zA dk cI) ?_ | refine cP c5 ?_ | refine cP c6 ?_ | refine cP c7 ?_ | exact zT)
    refine wT ?_
    repeat (first | refine zQ (zA ek cI) ?_ | refine cP c8 ?_ | refine cP m1 ?_ | exact zT)
    exact W_ret (RetP_3 (.imm rfl) (.imm rfl) (.imm rfl))
   ·rw [hP rfl] at c3
    repeat (first | refine zQ (zA d4 cI) ?_ | refine cP cc ?_ | refine cP c2 ?_ | refine cP c3 ?_ | exact zT)
    refine wFs ?_
    repeat (first | refine zQ (zA dk cI) ?_ | refine cP c5 ?_ | refine cP c6 ?_ | refine cP c7 ?_ | exact zT)
    refine wT ?_
    repeat (first | refine zQ (zA ek cI) ?_ | refine cP c8 ?_ | refine cP m1 ?_ | exact zT)
    exact W_ret (RetP_3 (.imm rfl) (.imm rfl) (.imm rfl))
  ·have dk : decide (k < 0) = false := decide_eq_false hk0
   rw [if_neg hk0]
   have ek : k = (k.natAbs : Int) := by omega
   generalize k.natAbs = kn at *
   subst ek
   cases pt
   ·repeat (first | refine zQ (zA d4 cI) ?_ | refine cP cc ?_ | refine cP c2 ?_ | refine cP c3 ?_ | exact zT)
    refine wFs ?_
    repeat (first | refine zQ (zA dk cI) ?_ | refine cP c5 ?_ | refine cP c6 ?_ | refine cP c7 ?_ | exact zT)
    refine wFs ?_
    repeat (first | refine zQ cI ?_ | refine cP c8 ?_ | refine cP m2 ?_ | exact zT)
    exact W_ret (RetP_3 (.imm rfl) (.imm rfl) (.imm rfl))
   ·rw [hP rfl] at c3
    repeat (first | refine zQ (zA d4 cI) ?_ | refine cP cc ?_ | refine cP c2 ?_ | refine cP c3 ?_ | exact zT)
    refine wFs ?_
    repeat (first | refine zQ (zA dk cI) ?_ | refine cP c5 ?_ | refine cP c6 ?_ | refine cP c7 ?_ | exact zT)
    refine wFs ?_
    repeat (first | refine zQ cI ?_ | refine cP c8 ?_ | refine cP m2 ?_ | exact zT)
    exact W_ret (RetP_3 (.imm rfl) (.imm rfl) (.imm rfl))
 ·have ho' : ok = false := by simpa using ho
  rw [ho'] at hdef
  subst ho'
  rw [if_neg ho]
  clear hgood c5 c6 c7 c8
  cases hN : okD N
  ·rw [hN] at c2
   repeat (first | refine zQ (zA d4 cI) ?_ | refine cP cc ?_ | refine cP c2 ?_ | refine cP c3 ?_ | exact zT)
   refine wT ?_
   refine zS cI ?_
   exact W_ret (RetP_3 (.nils _) (.nils _) (.imm rfl))
  ·rw [hN] at c2 hdef
   have hpt : pt = true := by
    cases pt
    ·simp at hdef
    ·rfl
   subst hpt
   have hF : digs F = false := by simpa using hdef.symm
   rw [hF] at c3
   repeat (first | refine zQ (zA d4 cI) ?_ | refine cP cc ?_ | refine cP c2 ?_ | refine cP c3 ?_ | exact zT)
   refine wT ?_
   refine zS cI ?_
   exact W_ret (RetP_3 (.nils _) (.nils _) (.imm rfl))
def unsR (s : List UInt8) : DV :=
 if fi is47 s < s.length then .tup [.sl 1 (us (limbs (pn (s.take (fi is47 s))))), .sl 1 (us (limbs (pn (s.drop (fi is47 s + 1))))), .bool (okD (s.take (fi is47 s)) && (okD (s.drop (fi is47 s + 1)) && decide (0 < pn (s.drop (fi is47 s + 1)))))]
 else pairR (unsP s)
theorem unsR_some {s : List UInt8} {n d : Nat} (h : unsP s = some (n, d)) : unsR s = pairR (some (n, d)) := by
 unfold unsR
 by_cases h1 : fi is47 s < s.length
 ·rw [if_pos h1]
  unfold unsP at h
  rw [if_pos h1] at h
  split at h
  ·rename_i h2
   simp only [Bool.and_eq_true, decide_eq_true_eq] at h2
   simp only [Option.some.injEq, Prod.mk.injEq] at h
   unfold pn pairR
   simp only [h2.1.1, h2.1.2, if_true, Bool.true_and, h.1, h.2]
   rw [decide_eq_true (by rw [← h.2]; exact h2.2)]
  ·cases h
 ·rw [if_neg h1, h]
theorem unsR_none {s : List UInt8} (h : unsP s = none) : ∃ x y, unsR s = .tup [.sl 1 (us (limbs x)), .sl 1 (us (limbs y)), .bool false] := by
 unfold unsR
 by_cases h1 : fi is47 s < s.length
 ·rw [if_pos h1]
  unfold unsP at h
  rw [if_pos h1] at h
  split at h
  ·cases h
  ·rename_i h2
   refine ⟨pn (s.take (fi is47 s)), pn (s.drop (fi is47 s + 1)), ?_⟩
   suffices hb : (okD (s.take (fi is47 s)) && (okD (s.drop (fi is47 s + 1)) && decide (0 < pn (s.drop (fi is47 s + 1))))) = false by rw [hb]
   rw [← Bool.not_eq_true]
   intro h3
   refine h2 ?_
   simp only [Bool.and_eq_true, decide_eq_true_eq] at h3 ⊢
   refine ⟨⟨h3.1, h3.2.1⟩, ?_⟩
   have := h3.2.2
   unfold pn at this
   rwa [h3.2.1, if_pos rfl] at this
 ·rw [if_neg h1, h]
  exact ⟨0, 0, by rw [limbs_zero]; rfl⟩
theorem I_sgn (b : Bool) (n : Nat) : I (sgn b n) = .agg [.bool (b && decide (0 < n)), .sl 1 (us (limbs n))] := by
 unfold I; rw [sgn_lt, sgn_abs]
theorem indexAnyAll (l : List UInt8) (hl : l.length ≤ 100000) : PCalls Tryz.prog 156 [.str l, .str [101, 69]] (.int .i64 (idx isE l)) := by
 have hz : (⟨l.toArray⟩ : ByteArray).size = l.length := by simp [ByteArray.size]
 by_cases h8 : 8 < l.length
 ·exact indexAnyD l (.inr h8) hl
 ·exact PCalls_str2 (fun _ _ => .int _ _) fun w => (IA_short Tryz.lays153 ⟨l.toArray⟩ w (by omega)).mono fun e w' h => ⟨by rw [h.1, eE_list]; show _ = Ending.returned (.int .i64 (idx isE l)); rw [← indexAny_idx], h.2⟩
set_option maxHeartbeats 2000000 in
theorem q_unsigned_all (s : List UInt8) (hs : s.length ≤ 900) : PCalls Tryz.prog 122 [.str s] (unsR s) := by
 have cs := strCut_calls s 47 (by omega)
 rw [isC47] at cs
 unfold cutR at cs
 have hi := fi_le is47 s
 have hj := fi_le isE s
 refine PCalls_of isq_unsigned (by simp [fnq_unsigned]) ?_
 unfold unsR
 by_cases h1 : fi is47 s < s.length
 ·rw [if_pos h1] at cs ⊢
  generalize s.take (fi is47 s) = A at *
  generalize s.drop (fi is47 s + 1) = B at *
  have c1 := nParse_pn A
  have c2 := nParse_pn B
  unfold codeq_unsigned
  cases hA : okD A
  ·rw [hA] at c1
   simp only [Bool.false_and]
   repeat (first | refine zQ cI ?_ | refine cP cs ?_ | exact zT)
   refine wT ?_
   repeat (first | refine zQ cI ?_ | refine cP c1 ?_ | refine cP c2 ?_ | exact zT)
   exact W_ret (RetP_3 (.imm rfl) (.imm rfl) (.imm rfl))
  ·rw [hA] at c1
   cases hB : okD B
   ·rw [hB] at c2
    simp only [Bool.false_and, Bool.true_and]
    repeat (first | refine zQ cI ?_ | refine cP cs ?_ | exact zT)
    refine wT ?_
    repeat (first | refine zQ cI ?_ | refine cP c1 ?_ | refine cP c2 ?_ | exact zT)
    exact W_ret (RetP_3 (.imm rfl) (.imm rfl) (.imm rfl))
   ·rw [hB] at c2
    simp only [Bool.true_and]
    repeat (first | refine zQ cI ?_ | refine cP cs ?_ | exact zT)
    refine wT ?_
    repeat (first | refine zQ (zA @us_length (zA @len_gt cI)) ?_ | refine cP c1 ?_ | refine cP c2 ?_ | exact zT)
    exact W_ret (RetP_3 (.imm rfl) (.imm rfl) (.imm rfl))
 ·rw [if_neg h1] at cs ⊢
  have ci := indexAnyAll s (by omega)
  have hge := idx_ge isE s
  unfold unsP
  rw [if_neg h1]
  have htail := tail_W
  unfold tailU at htail
  unfold codeq_unsigned at htail ⊢
  dsimp only at htail
  by_cases h2 : fi isE s < s.length
  ·rw [decide_eq_true h2] at hge
   rw [if_pos h2]
   rw [idx_of h2] at ci hge
   have c3 := q_exponent_calls (s.drop (fi isE s + 1)) (by rw [List.length_drop]; omega)
   have e1 : ((fi isE s : Int) + 1).toNat = fi isE s + 1 := by omega
   have e2 : (s.take s.length).drop (fi isE s + 1) = s.drop (fi isE s + 1) := by rw [List.take_length]
   have e3 : (s.take (fi isE s)).drop 0 = s.take (fi isE s) := rfl
   have ht := htail (s.take (fi isE s)) (expV (s.drop (fi isE s + 1))) true (by rw [List.length_take]; omega)
   unfold expR at c3
   have hex := @expOk_le (s.drop (fi isE s + 1))
   clear htail
   generalize expV (s.drop (fi isE s + 1)) = V at *
   cases h3 : expOk (s.drop (fi isE s + 1))
   ·rw [h3, if_neg (by decide)] at c3
    rw [if_neg (by decide)]
    clear ht hex
    repeat (first | refine zQ cI ?_ | refine cP cs ?_ | exact zT)
    refine wFs ?_
    repeat (first | refine zQ (zA hge cI) ?_ | refine cP ci ?_ | exact zT)
    refine wT ?_
    repeat (first | refine zQ (zA e1 (zA e2 (zA @List.take_length.{0} cI))) ?_ | refine cP c3 ?_ | exact zT)
    refine wT ?_
    refine zS cI ?_
    exact W_ret (RetP_3 (.nils _) (.nils _) (.imm rfl))
   ·rw [h3, if_pos rfl] at c3
    rw [if_pos rfl]
    have ht := ht (hex h3)
    clear hex
    repeat (first | refine zQ cI ?_ | refine cP cs ?_ | exact zT)
    refine wFs ?_
    repeat (first | refine zQ (zA hge cI) ?_ | refine cP ci ?_ | exact zT)
    refine wT ?_
    repeat (first | refine zQ (zA e1 (zA e2 (zA @List.take_length.{0} cI))) ?_ | refine cP c3 ?_ | exact zT)
    refine wFs ?_
    refine W_reg ?_
    refine zE (zA e3 cI) ?_
    repeat refine And.intro (by omega) ?_
    refine W_sub ?_ ht
    simp [subF, lk]
  ·rw [decide_eq_false h2] at hge
   rw [if_neg h2]
   have ht := htail s 0 false hs (by decide)
   clear htail
   repeat (first | refine zQ cI ?_ | refine cP cs ?_ | exact zT)
   refine wFs ?_
   repeat (first | refine zQ (zA hge cI) ?_ | refine cP ci ?_ | exact zT)
   refine wFs ?_
   refine W_sub ?_ ht
   simp [subF, lk]
theorem qParse_all (l : List UInt8) (hl : l.length ≤ 900) : PCalls Tryz.prog 90 [.str l] (resQ (parseQ l)) := by
 have c1 := cutPrefixD l
 have hel : (expD l).length ≤ 900 := by
  unfold expD; split
  ·rw [List.length_tail]; omega
  ·exact hl
 have c2 := q_unsigned_all (expD l) hel
 rw [parseQ_P]
 refine PCalls_of isqParse (by simp [fnqParse]) ?_
 unfold codeqParse
 cases h : unsP (expD l) with
 | none =>
  obtain ⟨x, y, e⟩ := unsR_none h
  rw [e] at c2
  rw [Option.map_none]
  unfold resQ
  dsimp only
  rw [Q0]
  repeat (first | refine zQ (zA @cS (zA @cT (zA @nbqParse cI))) ?_ | refine cP c1 ?_ | refine cP c2 ?_ | exact zT)
  refine wT ?_
  refine zS (zA @cS (zA @cT (zA @nbqParse cI))) ?_
  exact W_ret (RetP_ct rfl rfl rfl (Exp_bnn _ _ _) (.imm rfl))
 | some p =>
  obtain ⟨n, d⟩ := p
  rw [unsR_some h] at c2
  unfold pairR at c2
  dsimp only at c2
  have hd := unsP_pos h
  obtain ⟨b1, b2⟩ := unsP_len h hel
  rw [Option.map_some]
  unfold resQ
  dsimp only
  have cl := q_lowest_calls (sgn (decide (l.head? = some 45)) n) d (by omega) (by unfold il; rw [sgn_abs]; omega) (by omega)
  rw [I_sgn] at cl
  clear h b1 b2 hel
  by_cases hn : l.head? = some 45
  ·rw [decide_eq_true hn] at c1 cl ⊢
   rw [Bool.true_and] at cl
   repeat (first | refine zQ (zA @cS (zA @cT (zA @nbqParse cI))) ?_ | refine cP c1 ?_ | refine cP c2 ?_ | exact zT)
   refine wFs ?_
   repeat (first | refine zQ (zA @Q.eq_1 (zA @cS (zA @cT (zA @nbqParse (zA @us_length (zA @len_gt cI)))))) ?_ | refine cP cl ?_ | exact zT)
   exact W_ret (RetP_ct rfl rfl rfl (.imm rfl) (.imm rfl))
  ·rw [decide_eq_false hn] at c1 cl ⊢
   rw [Bool.false_and] at cl
   repeat (first | refine zQ (zA @cS (zA @cT (zA @nbqParse cI))) ?_ | refine cP c1 ?_ | refine cP c2 ?_ | exact zT)
   refine wFs ?_
   repeat (first | refine zQ (zA @Q.eq_1 (zA @cS (zA @cT (zA @nbqParse (zA @us_length (zA @len_gt cI)))))) ?_ | refine cP cl ?_ | exact zT)
   exact W_ret (RetP_ct rfl rfl rfl (.imm rfl) (.imm rfl))
end Go.Proofs.YtjahkcgckiobkaaGreatDoor
namespace Go.Proofs.YtjahkcgckiobkaaGreatDoor
open Go Go.Dat Go.Proofs Nat32 Go.RowKit
open Go.Lib (decDigits repeatL)
def lightB (a d : List Nat) : Bool := decide (a.length ≤ 8) && decide (d.length ≤ 8)
theorem mdLight_calls (neg : Bool) (a d : List Nat) : PCalls Tryz.prog 38 [XQ neg a d] (.bool (lightB a d)) := by
 have k1 : decide ((a.length : Int) ≤ 8) = decide (a.length ≤ 8) := by rw [decide_eq_decide]; omega
 have k2 : decide ((d.length : Int) ≤ 8) = decide (d.length ≤ 8) := by rw [decide_eq_decide]; omega
 refine PCalls_of ismdLight (by simp [fnmdLight]) ?_
 unfold codemdLight lightB
 by_cases h : a.length ≤ 8
 ·rw [decide_eq_true h] at k1 ⊢
  refine zS (zA @XQ.eq_1 (zA @cS (zA @nbmdLight (zA @us_length (zA k1 (zA k2 (zA @Bool.true_and cI))))))) ?_
  exact W_ret (RetP_1 (.imm rfl))
 ·rw [decide_eq_false h] at k1 ⊢
  refine zS (zA @XQ.eq_1 (zA @cS (zA @nbmdLight (zA @us_length (zA k1 (zA k2 (zA @Bool.false_and cI))))))) ?_
  exact W_ret (RetP_1 (.imm rfl))
theorem lightB_spec {a d : List Nat} (h : lightB a d = true) : a.length ≤ 8 ∧ d.length ≤ 8 := by
 unfold lightB at h; simpa using h
end Go.Proofs.YtjahkcgckiobkaaGreatDoor
namespace Go.Proofs.YtjahkcgckiobkaaGreatDoor
open Go Go.Dat Go.Proofs Go.RowKit Nat32
theorem recD_len (recs : List (List Bs)) : (recD recs).length = recs.length := by unfold recD; simp
theorem recD_getD {recs : List (List Bs)} {i : Nat} (h : i < recs.length) : (recD recs).getD i .undef = .sl 1 (strL (recs.getD i [])) := by
 unfold recD
 rw [List.getD_eq_getElem?_getD, List.getD_eq_getElem?_getD, List.getElem?_map, List.getElem?_eq_getElem h]; rfl
def xc0 (r : Rat) : List DV := [.bool (decide (r.num < 0)), .sl 1 (us (limbs r.num.natAbs)), .sl 1 (us (dn r.den))]
theorem xc0_cells (r : Rat) : (DV.agg (xc0 r)).cells? = some (xc0 r) := by
 unfold xc0; simp [DV.cells?, DV.one]
theorem strL_rf (rs : List Bs) : (strL rs).all DV.rf = true := by
 refine List.all_eq_true.2 fun d hd => ?_
 unfold strL at hd
 obtain ⟨r, _, rfl⟩ := List.mem_map.1 hd
 rfl
theorem slCloneS_calls (l : List Bs) (hl : l.length ≤ 1000000) : PCalls Tryz.prog 65 [.sl 1 (strL l)] (.sl 1 (strL l)) := by
 have hll := strL_len l
 have hrf := strL_rf l
 refine PCalls_of isslClS (by simp [fnslClS]) ?_
 unfold codeslClS
 by_cases h : l = []
 ·subst h
  refine W_seq ?_
  refine W_reg ?_
  simp (maxSteps := 1000000) (disch := omega) only [cA, cB, cN, FnD.nb, lk, lkH, Dst.onT, Dst.onX, Dst.slot, setF, setH, mapF, mapH, initF, binE, unE, cnt, boundE, newsE, freshE, freshT, opE, rmH, blkQ, frz_us, Nat.reduceEqDiff, Nat.reduceLT, Nat.reduceAdd, Nat.reduceMul, Nat.reduceMod, ↓reduceIte, reduceCtorEq, Nat.reduceLeDiff]
  refine W_seq ?_
  refine W_seq ?_
  refine W_isnil [om 3 0] (.x 4) false (.t 3) rfl ?_
  simp (maxSteps := 1000000) (disch := omega) only [cA, cB, cN, FnD.nb, lk, lkH, Dst.onT, Dst.onX, Dst.slot, setF, setH, mapF, mapH, initF, binE, unE, cnt, boundE, newsE, freshE, freshT, opE, rmH, blkQ, frz_us, Nat.reduceEqDiff, Nat.reduceLT, Nat.reduceAdd, Nat.reduceMul, Nat.reduceMod, ↓reduceIte, reduceCtorEq, Nat.reduceLeDiff]
  refine ⟨⟨1, rfl⟩, fun b => ?_⟩
  cases b
  ·refine wFs ?_
   repeat (first | refine W_seq ?_ | refine W_reg ?_ | refine W_regd ?_ | refine W_regs ?_ | refine W_regp ?_ | refine W_block ?_ | refine And.intro (by omega) ?_ | simp (maxSteps := 1000000) (disch := omega) only [cA, cB, cN, FnD.nb, lk, lkH, Dst.onT, Dst.onX, Dst.slot, setF, setH, mapF, mapH, initF, binE, unE, cnt, boundE, newsE, freshE, freshT, opE, rmH, blkQ, frz_us, Nat.reduceEqDiff, Nat.reduceLT, Nat.reduceAdd, Nat.reduceMul, Nat.reduceMod, ↓reduceIte, reduceCtorEq, Nat.reduceLeDiff])
   refine ⟨by simp [strL], ?_⟩
   refine W_freeze 5 (cells := []) rfl rfl ?_
   exact W_ret (RetP_1 (.imm rfl))
  ·refine wT ?_
   repeat (first | refine W_seq ?_ | refine W_reg ?_ | refine W_regd ?_ | refine W_regs ?_ | refine W_regp ?_ | refine W_block ?_ | refine And.intro (by omega) ?_ | simp (maxSteps := 1000000) (disch := omega) only [cA, cB, cN, FnD.nb, lk, lkH, Dst.onT, Dst.onX, Dst.slot, setF, setH, mapF, mapH, initF, binE, unE, cnt, boundE, newsE, freshE, freshT, opE, rmH, blkQ, frz_us, Nat.reduceEqDiff, Nat.reduceLT, Nat.reduceAdd, Nat.reduceMul, Nat.reduceMod, ↓reduceIte, reduceCtorEq, Nat.reduceLeDiff])
   refine W_nil 2 1 rfl ?_
   exact W_ret (RetP_1 (.imm rfl))
 ·have hne : ¬ strL l = [] := fun e => h (List.map_eq_nil_iff.1 e)
  have hpg := map_purge 5 (List.all_eq_true.1 (strL_rf l))
  repeat (first | refine W_seq ?_ | refine W_reg ?_ | refine W_regd ?_ | refine W_regs ?_ | refine W_regp ?_ | refine W_block ?_ | refine And.intro (by omega) ?_ | simp (maxSteps := 1000000) (disch := omega) only [cA, cB, cN, FnD.nb, lk, lkH, Dst.onT, Dst.onX, Dst.slot, setF, setH, mapF, mapH, initF, binE, unE, cnt, boundE, newsE, freshE, freshT, opE, rmH, blkQ, frz_us, Nat.reduceEqDiff, Nat.reduceLT, Nat.reduceAdd, Nat.reduceMul, Nat.reduceMod, ↓reduceIte, reduceCtorEq, Nat.reduceLeDiff])
  refine wFs ?_
  repeat (first | refine W_seq ?_ | refine W_reg ?_ | refine W_regd ?_ | refine W_regs ?_ | refine W_regp ?_ | refine W_block ?_ | refine And.intro (by omega) ?_ | simp (maxSteps := 1000000) (disch := omega) only [cA, cB, cN, FnD.nb, lk, lkH, Dst.onT, Dst.onX, Dst.slot, setF, setH, mapF, mapH, initF, binE, unE, cnt, boundE, newsE, freshE, freshT, opE, rmH, blkQ, frz_us, Nat.reduceEqDiff, Nat.reduceLT, Nat.reduceAdd, Nat.reduceMul, Nat.reduceMod, ↓reduceIte, reduceCtorEq, Nat.reduceLeDiff, hll, hpg, List.nil_append])
  refine ⟨⟨by omega, by omega, fun h => h, fun d hd => by obtain ⟨r, _, rfl⟩ := List.mem_map.1 hd; rfl⟩, ?_⟩
  refine W_freeze 5 (cells := strL l) rfl hrf ?_
  have hfz : frz 5 (strL l) (.osl 1 5 0 l.length) = .sl 1 (strL l) := by
   simp [frz, hll]
   rw [List.take_of_length_le (Nat.le_of_eq hll)]
  refine W_ret (RetP_1 ?_)
  show Exp _ (frz 5 (strL l) (.osl 1 5 0 l.length)) _
  rw [hfz]
  exact .imm rfl
theorem fSameList_eq (r : List Bs) (hr : r.length ≤ 9223372036854775807) : PCalls Tryz.prog 50 [.sl 1 (strL r), .sl 1 (strL r)] (.bool true) := by
 have hl := strL_len r
 refine PCalls_of isfSameList (by simp [fnfSameList]) ?_
 unfold codefSameList
 have d0 : decide (¬ (r.length : Int) = (r.length : Int)) = false := by simp
 refine zS (zA hl d0) ?_
 refine wFs ?_
 refine zS hl ?_
 refine W_loop (σ := Nat) (fun i => [(0, .sl 1 (strL r)), (1, .sl 1 (strL r)), (5, .int .i64 i)]) (fun _ => []) (fun i => i ≤ r.length) (fun i => r.length - i) 0 (Nat.zero_le _) ?_ rfl ?_
 ·simp [subF, lk]
 ·intro i hi
  try simp only at hi ⊢
  by_cases hlt : i < r.length
  ·have d1 : decide ((i : Int) < (r.length : Int)) = true := decide_eq_true (by omega)
   have ei : (i : Int).toNat = i := Int.toNat_natCast i
   have e1 : ((i : Int) + 1) = ((i + 1 : Nat) : Int) := by omega
   have hg := strL_getD hlt
   have dn0 : decide (¬ r.getD i [] = r.getD i []) = false := by simp
   generalize r.getD i [] = y at *
   refine zS (zA hl d1) ?_
   refine wTs ?_
   refine zS (zA hl (zA hg (zA ei dn0))) ?_
   refine W_cond (b := false) (by simp [ev, lk]) (fun h => by cases h) (fun _ => W_skip ?_)
   refine zS e1 ?_
   exact ⟨i + 1, by omega, by omega, by simp [subF, lk]⟩
  ·have d1 : decide ((i : Int) < (r.length : Int)) = false := decide_eq_false (by omega)
   refine zS (zA hl d1) ?_
   refine wF ?_
   refine W_exit ?_
   refine zR ?_
   exact W_ret (RetP_1 (.imm rfl))
def okU (x : XN) : Prop := ∃ r : Rat, RB r 900 ∧ x = qX r
theorem get_append_sets {α : Type} {a : List α} {b : List α} {k : Nat} {d : α} (h : (a ++ b)[k]? = some d) : (k < a.length ∧ a[k]? = some d) ∨ (a.length ≤ k ∧ b[k - a.length]? = some d) := by
 by_cases hk : k < a.length
 ·rw [List.getElem?_append_left hk] at h; exact .inl ⟨hk, h⟩
 ·rw [List.getElem?_append_right (by omega)] at h; exact .inr ⟨by omega, h⟩
theorem slDel_M (cells : List DV) (n i : Nat) (hl : cells.length = n * 5) (hi : i < n) (hn : n ≤ 1000000) (hrf : ∀ d ∈ cells, d.rf = true) (hone : ∀ d ∈ cells, d.one = true) :
  MRel Tryz.prog 83 [.osl 5 1000 0 n, .int .i64 i, .int .i64 ((i : Int) + 1)] [(1000, cells)] fun r H' => r = .sl 5 (cells.take (i * 5) ++ cells.drop ((i + 1) * 5)) ∧ H' = [] := by
 intro S L w us hT hTb hH hS hs hv
 obtain ⟨v0, v1, v2, rfl⟩ : ∃ v0 v1 v2, us = #[v0, v1, v2] := by
  obtain ⟨l⟩ := us
  match l, hs with
  | [a, b, c], _ => exact ⟨a, b, c, rfl⟩
 obtain rfl := (hv 1 _ v1 rfl rfl).inv_int
 obtain rfl := (hv 2 _ v2 rfl rfl).inv_int
 rcases (hv 0 _ v0 rfl rfl).inv_osl with ⟨b, c, T, m, hL, rfl, hnc, hsh, hm⟩ | ⟨h0, _⟩
 rotate_left
 ·omega
 obtain ⟨cells', cs, T', hc', hb, hcl, hp⟩ := hH.at_ hL
 obtain rfl : cells = cells' := by
  have : lkH [(1000, cells)] 1000 = some cells := rfl
  rw [this] at hc'; exact Option.some.inj hc'
 have hml : n * 5 ≤ cs.size := by omega
 obtain ⟨vs, hvs⟩ : ∃ vs, vs = cs.toList.take (n * 5) := ⟨_, rfl⟩
 have hvl : vs.length = n * 5 := by rw [hvs, List.length_take, Array.length_toList]; omega
 have hvg : ∀ j v, vs[j]? = some v → j < n * 5 ∧ cs[j]? = some v := fun j v h => by
  rw [hvs, List.getElem?_take] at h
  split at h
  ·rw [Array.getElem?_toList] at h; exact ⟨by omega, h⟩
  ·cases h
 have hpc : ∀ j v, vs[j]? = some v → ∃ d, cells[j]? = some d ∧ V w L (Av S L) d v := fun j v h => by
  obtain ⟨h1, h2⟩ := hvg j v h
  exact ⟨_, List.getElem?_eq_getElem (by omega), hp j _ v (List.getElem?_eq_getElem (by omega)) h2⟩
 refine (slDel_walk b n c i vs w hvl hi hnc hn (fun j v h => by rw [Lib.cell_of_heap hb]; exact (hvg j v h).2) (fun j _ => Lib.frozen_of_heap hb j) fun v hv => ?_).mono ?_
 ·obtain ⟨j, hj⟩ := List.mem_iff_getElem?.1 hv
  obtain ⟨d, h1, h2⟩ := hpc j v hj
  exact h2.oneCell (hone d (List.mem_of_getElem? h1))
 ·rintro e w' ⟨rfl, rfl⟩
  obtain ⟨a1, a2, a3, a4, a5, a6⟩ := setCells_meta b (vs.drop ((i + 1) * 5)) (i * 5) w.drew
  obtain ⟨b1, b2, b3, b4, b5, b6⟩ := setCells_meta b [.bool false, .bool false, .slice none 0 0, .slice none 0 0, .int .i64 0] ((n - 1) * 5) (w.drew.setCells b (i * 5) (vs.drop ((i + 1) * 5)))
  have hsl : (cells.take (i * 5)).length = i * 5 := by rw [List.length_take]; omega
  refine MRel_fin hH (fun o c h => ?_) hS (by rw [List.length_append, List.length_take, List.length_drop]; omega) (by decide) (by omega) (.inl ⟨_, hL⟩) (((Ext.drew _ w).setCells b _ _ (.inl ⟨_, hL⟩)).setCells b _ _ (.inl ⟨_, hL⟩)) (fun k _ => (b6 k).trans (a6 k)) fun k d hk => ?_
  ·simp only [lkH] at h
   split at h
   ·omega
   ·cases h
  ·have hcell : ∀ j, j < n * 5 → ∀ d, cells[j]? = some d → ∃ v, vs[j]? = some v ∧ w.cell? ⟨b, j, none⟩ = some v ∧ VI w (Av S L) d v := fun j hj d hd => by
    have hg := List.getElem?_eq_getElem (l := vs) (i := j) (by omega)
    obtain ⟨_, h2⟩ := hvg j _ hg
    exact ⟨_, hg, by rw [Lib.cell_of_heap hb]; exact h2, (hp j d _ hd h2).rf_imm (hrf d (List.mem_of_getElem? hd))⟩
   rcases get_append_sets hk with ⟨h1, h2⟩ | ⟨h1, h2⟩
   ·rw [hsl] at h1
    rw [List.getElem?_take, if_pos h1] at h2
    obtain ⟨v, _, h3, h4⟩ := hcell k (by omega) d h2
    refine ⟨v, ?_, h4⟩
    rw [World.cell?_setCells_out _ _ _ _ _ (fun _ _ => .inl (by show k < _; omega)), World.cell?_setCells_out _ _ _ _ _ (fun _ _ => .inl h1)]
    exact h3
   ·rw [hsl] at h1 h2
    rw [List.getElem?_drop] at h2
    have hlt := (List.getElem?_eq_some_iff.1 h2).1
    obtain ⟨v, hv1, h3, h4⟩ := hcell _ (by omega) d h2
    refine ⟨v, ?_, h4⟩
    rw [World.cell?_setCells_out _ _ _ _ _ (fun _ _ => .inl (by show k < _; omega))]
    have hdl : (vs.drop ((i + 1) * 5)).length = n * 5 - (i + 1) * 5 := by rw [List.length_drop, hvl]
    have := World.cell?_setCells_in b (vs.drop ((i + 1) * 5)) (i * 5) w.drew (fun j hj => by
     rw [hdl] at hj
     obtain ⟨v', _, h5, _⟩ := hcell (i * 5 + j) (by omega) _ (List.getElem?_eq_getElem (by omega))
     show (w.cell? _).isSome = true
     rw [h5]; rfl) (k - i * 5) (by omega)
    rw [show i * 5 + (k - i * 5) = k by omega] at this
    rw [this, ← List.getElem?_eq_getElem, List.getElem?_drop]
    exact hv1
theorem osl_row {w : World} {S : Nat → Prop} {L : Nat → Option Nat} {H : Hp} {cells : List DV} {o b n c m : Nat} {T : TypeId} (hH : HOK w S L (lkH H)) (hL : L o = some b) (hlk : lkH H o = some cells) (hl : cells.length = n * 5) (hnc : n ≤ c) (hsh : w.shape? b = some (T, m)) (hm : 0 + c * 5 ≤ m)
  (hrf : ∀ d ∈ cells, d.rf = true) (hone : ∀ d ∈ cells, d.one = true) : ∃ (vs : List Value) (cs : Array Value) (T' : TypeId), w.heap[b]? = some (.cells cs T' (0, 0)) ∧ c * 5 ≤ cs.size ∧ vs.length = n * 5 ∧ (∀ j v, vs[j]? = some v → w.cell? ⟨b, j, none⟩ = some v) ∧ (∀ v ∈ vs, v.oneCell' = true) ∧
  ∀ j, j < n * 5 → ∀ d, cells[j]? = some d → ∃ v, vs[j]? = some v ∧ w.cell? ⟨b, j, none⟩ = some v ∧ VI w (Av S L) d v := by
 obtain ⟨cells', cs, T', hc', hb, hcl, hp⟩ := hH.at_ hL
 obtain rfl : cells = cells' := by rw [hlk] at hc'; exact Option.some.inj hc'
 have hms : m = cs.size := by simp [World.shape?, hb] at hsh; omega
 have hvl : (cs.toList.take (n * 5)).length = n * 5 := by rw [List.length_take, Array.length_toList]; omega
 have hvg : ∀ j v, (cs.toList.take (n * 5))[j]? = some v → j < n * 5 ∧ cs[j]? = some v := fun j v h => by
  rw [List.getElem?_take] at h
  split at h
  ·rw [Array.getElem?_toList] at h; exact ⟨by omega, h⟩
  ·cases h
 refine ⟨cs.toList.take (n * 5), cs, T', hb, by omega, hvl, fun j v h => by rw [Lib.cell_of_heap hb]; exact (hvg j v h).2, fun v hv => ?_, fun j hj d hd => ?_⟩
 ·obtain ⟨j, hj⟩ := List.mem_iff_getElem?.1 hv
  obtain ⟨h1, h2⟩ := hvg j v hj
  exact (hp j _ v (List.getElem?_eq_getElem (by omega)) h2).oneCell (hone _ (List.getElem_mem _))
 ·have hg := List.getElem?_eq_getElem (l := cs.toList.take (n * 5)) (i := j) (by omega)
  obtain ⟨_, h2⟩ := hvg j _ hg
  exact ⟨_, hg, by rw [Lib.cell_of_heap hb]; exact h2, (hp j d _ hd h2).rf_imm (hrf d (List.mem_of_getElem? hd))⟩
theorem cell_in {w : World} {b o k : Nat} {vs : List Value} {v : Value} (h : ∀ j, j < vs.length → (w.cell? ⟨b, o + j, none⟩).isSome = true) (ho : o ≤ k) (hv : vs[k - o]? = some v) : (w.setCells b o vs).cell? ⟨b, k, none⟩ = some v := by
 have hlt := (List.getElem?_eq_some_iff.1 hv).1
 have := World.cell?_setCells_in b vs o w h (k - o) hlt
 rw [show o + (k - o) = k by omega] at this
 rw [this, ← List.getElem?_eq_getElem]; exact hv
theorem cell_out {w : World} {b o k : Nat} {vs : List Value} (h : k < o ∨ o + vs.length ≤ k) : (w.setCells b o vs).cell? ⟨b, k, none⟩ = w.cell? ⟨b, k, none⟩ :=
 World.cell?_setCells_out b vs o w _ fun _ _ => h
theorem slIns_M1 (cells x5 : List DV) (n i : Nat) (hl : cells.length = n * 5) (hx : x5.length = 5) (hi : i < n) (hn : n ≤ 100000) (hrf : ∀ d ∈ cells, d.rf = true) (hone : ∀ d ∈ cells, d.one = true) (hrx : ∀ d ∈ x5, d.rf = true) (hox : ∀ d ∈ x5, d.one = true) :
  MRel Tryz.prog 80 [.osl 5 1000 0 n, .int .i64 i, .osl 5 1001 0 1] [(1000, cells), (1001, x5)] fun r H' => r = .sl 5 (cells.take (i * 5) ++ x5 ++ cells.drop (i * 5)) ∧ H' = [] := by
 intro S L w us hT hTb hH hS hs hv
 obtain ⟨v0, v1, v2, rfl⟩ : ∃ v0 v1 v2, us = #[v0, v1, v2] := by
  obtain ⟨l⟩ := us
  match l, hs with
  | [a, b, c], _ => exact ⟨a, b, c, rfl⟩
 obtain rfl := (hv 1 _ v1 rfl rfl).inv_int
 rcases (hv 0 _ v0 rfl rfl).inv_osl with ⟨b, c, T, m, hL, rfl, hnc, hsh, hm⟩ | ⟨h0, _⟩
 rotate_left
 ·omega
 rcases (hv 2 _ v2 rfl rfl).inv_osl with ⟨vb, vc, T2, m2, hL2, rfl, hnc2, hsh2, hm2⟩ | ⟨h0, _⟩
 rotate_left
 ·omega
 have hne : vb ≠ b := fun e => by
  subst e
  have := hH.inj _ _ _ hL hL2
  omega
 obtain ⟨vs, cs, T', hb, hcs, hvl, hvc, hv1, hcell⟩ := osl_row hH hL rfl hl hnc hsh hm hrf hone
 obtain ⟨xs, cs2, T2', hb2, hcs2, hxl, hxc, hx1, hxcell⟩ := osl_row hH hL2 (o := 1001) rfl (n := 1) (by omega) hnc2 hsh2 hm2 hrx hox
 have hsl : (cells.take (i * 5)).length = i * 5 := by rw [List.length_take]; omega
 have hlow : ∀ o c, lkH [(1000, cells), (1001, x5)] o = some c → o < 1048576 := fun o c h => by
  simp only [lkH] at h
  split at h
  ·omega
  ·split at h
   ·omega
   ·cases h
 have hRl : (cells.take (i * 5) ++ x5 ++ cells.drop (i * 5)).length = (n + 1) * 5 := by
  rw [List.length_append, List.length_append, List.length_take, List.length_drop]; omega
 have hdl : (vs.drop (i * 5)).length = n * 5 - i * 5 := by rw [List.length_drop, hvl]
 have hvw : vb < w.heap.size := hH.lt hL2
 have hbw : b < w.heap.size := hH.lt hL
 by_cases hroom : n + 1 ≤ c
 ·refine (slIns_shift b n c i vb vc vs xs w hvl (by omega) hi (by omega) hroom hne hvc (fun j hj => by rw [Lib.cell_of_heap hb, Array.getElem?_eq_getElem (by omega)]; rfl) (fun j _ => Lib.frozen_of_heap hb j) hxc hv1 hx1 T2' T' cs2.size cs.size (by simp [World.shape?, hb2]) (by simp [World.shape?, hb]) (by omega) (Lib.frozen_of_heap hb2 _) (Lib.frozen_of_heap hb2 _)).mono ?_
  rintro e w' ⟨rfl, rfl⟩
  obtain ⟨a1, a2, a3, a4, a5, a6⟩ := setCells_meta b (vs.drop (i * 5)) ((i + 1) * 5) w.drew
  obtain ⟨b1, b2, b3, b4, b5, b6⟩ := setCells_meta b xs (i * 5) (w.drew.setCells b ((i + 1) * 5) (vs.drop (i * 5)))
  refine MRel_fin hH hlow hS hRl (by decide) hroom (.inl ⟨_, hL⟩) (((Ext.drew _ w).setCells b _ _ (.inl ⟨_, hL⟩)).setCells b _ _ (.inl ⟨_, hL⟩)) (fun k _ => (b6 k).trans (a6 k)) fun k d hk => ?_
  have hsome : ∀ j, j < (n + 1) * 5 → (w.drew.cell? ⟨b, j, none⟩).isSome = true := fun j hj => by
   show (w.cell? _).isSome = true
   rw [Lib.cell_of_heap hb, Array.getElem?_eq_getElem (by omega)]; rfl
  rcases get_append_sets hk with ⟨h1, h2⟩ | ⟨h1, h2⟩
  ·rcases get_append_sets h2 with ⟨h3, h4⟩ | ⟨h3, h4⟩
   ·rw [hsl] at h3
    rw [List.getElem?_take, if_pos h3] at h4
    obtain ⟨v, _, h5, h6⟩ := hcell k (by omega) d h4
    refine ⟨v, ?_, h6⟩
    rw [cell_out (.inl h3), cell_out (.inl (by omega))]
    exact h5
   ·rw [hsl] at h3 h4
    have hlt := (List.getElem?_eq_some_iff.1 h4).1
    obtain ⟨v, h5, _, h6⟩ := hxcell _ (by omega) d h4
    exact ⟨v, cell_in (fun j hj => Go.Proofs.isSome_setCells _ _ _ _ (fun t ht => hsome _ (by omega)) _ (hsome _ (by omega))) h3 h5, h6⟩
  ·rw [List.length_append, hsl, hx] at h1 h2
   rw [List.getElem?_drop] at h2
   have hlt := (List.getElem?_eq_some_iff.1 h2).1
   obtain ⟨v, h5, _, h6⟩ := hcell _ (by omega) d h2
   refine ⟨v, ?_, h6⟩
   rw [cell_out (.inr (by omega))]
   exact cell_in (fun t ht => hsome _ (by omega)) (by omega) (by rw [List.getElem?_drop, show i * 5 + (k - (i + 1) * 5) = i * 5 + (k - (i * 5 + 5)) by omega]; exact h5)
 ·refine (slIns_grow b n c i vb vc vs xs w hvl (by omega) hi hnc (by omega) (by omega) hvw hvc hxc hv1 hx1).mono ?_
  rintro e w' ⟨G, ROW, hG, hRs, hRt, rfl, rfl⟩
  obtain ⟨W1, hW1⟩ : ∃ W1, W1 = (w.alloc (.cells ROW 51)).drew := ⟨_, rfl⟩
  rw [← hW1]
  have hE1 : Ext (fun x => ∃ o, L o = some x) w W1 := by rw [hW1]; exact (Ext.alloc _ w _).trans (Ext.drew _ _)
  have hn1 : ∀ j, W1.cell? ⟨w.heap.size, j, none⟩ = ROW[j]? := fun j => by rw [hW1]; exact World.cell?_alloc_at (w := w) ROW 51 _ _ rfl
  obtain ⟨a1, a2, a3, a4, a5, a6⟩ := setCells_meta w.heap.size xs (i * 5) W1
  obtain ⟨b1, b2, b3, b4, b5, b6⟩ := setCells_meta w.heap.size (vs.drop (i * 5)) ((i + 1) * 5) (W1.setCells w.heap.size (i * 5) xs).drew
  refine MRel_fin hH hlow hS hRl (by decide) hG (.inr (Nat.le_refl _)) (((hE1.setCells _ _ _ (.inr (Nat.le_refl _))).trans (Ext.drew _ _)).setCells _ _ _ (.inr (Nat.le_refl _))) (fun k hk => ?_) fun k d hk => ?_
  ·rw [b6]
   show (W1.setCells w.heap.size (i * 5) xs).shape? k = _
   rw [a6]
   refine shape_of_block ?_
   rw [hW1]
   exact Go.RowKit.Below.heap_alloc w _ k hk
  have hsome : ∀ j, j < (n + 1) * 5 → (W1.cell? ⟨w.heap.size, j, none⟩).isSome = true := fun j hj => by
   rw [hn1, Array.getElem?_eq_getElem (by omega)]; rfl
  have hsome2 : ∀ j, j < (n + 1) * 5 → ((W1.setCells w.heap.size (i * 5) xs).drew.cell? ⟨w.heap.size, j, none⟩).isSome = true := fun j hj =>
   Go.Proofs.isSome_setCells _ _ _ W1 (fun t ht => hsome _ (by omega)) _ (hsome _ hj)
  rcases get_append_sets hk with ⟨h1, h2⟩ | ⟨h1, h2⟩
  ·rcases get_append_sets h2 with ⟨h3, h4⟩ | ⟨h3, h4⟩
   ·rw [hsl] at h3
    rw [List.getElem?_take, if_pos h3] at h4
    obtain ⟨v, h5, _, h6⟩ := hcell k (by omega) d h4
    refine ⟨v, ?_, h6⟩
    rw [cell_out (.inl (by omega))]
    show (W1.setCells w.heap.size (i * 5) xs).cell? _ = _
    rw [cell_out (.inl h3), hn1]
    exact hRt k v (by rw [List.getElem?_take, if_pos h3]; exact h5)
   ·rw [hsl] at h3 h4
    have hlt := (List.getElem?_eq_some_iff.1 h4).1
    obtain ⟨v, h5, _, h6⟩ := hxcell _ (by omega) d h4
    refine ⟨v, ?_, h6⟩
    rw [cell_out (.inl (by omega))]
    exact cell_in (w := W1) (fun t ht => hsome _ (by omega)) h3 h5
  ·rw [List.length_append, hsl, hx] at h1 h2
   rw [List.getElem?_drop] at h2
   have hlt := (List.getElem?_eq_some_iff.1 h2).1
   obtain ⟨v, h5, _, h6⟩ := hcell _ (by omega) d h2
   exact ⟨v, cell_in (fun t ht => hsome2 _ (by omega)) (by omega) (by rw [List.getElem?_drop, show i * 5 + (k - (i + 1) * 5) = i * 5 + (k - (i * 5 + 5)) by omega]; exact h5), h6⟩
theorem tReadable_calls (f : Fx) (hu : okN0 f.un) : PCalls Tryz.prog 44 [.agg (fxC f)] (.bool (rdB f)) := by
 obtain ⟨h1, h2, h3, h4⟩ := hu
 have cv : PCalls Tryz.prog 88 [.agg [.bool f.un.1, .sl 1 (us f.un.2.1), .sl 1 (us f.un.2.2)]] (.bool (vldQ f.un.1 f.un.2.1 f.un.2.2)) := qValid_calls _ _ _ (by omega) (by omega) h1 h2
 have cs : PCalls Tryz.prog 89 [.agg [.bool f.un.1, .sl 1 (us f.un.2.1), .sl 1 (us f.un.2.2)]] (.int .i64 (xnV f.un).num.sign) := qSign_calls _ _ _ (by omega) (by omega) h1 h2
 refine PCalls_of istReadable (by simp [fntReadable]) ?_
 unfold codetReadable rdB
 unfold fxC
 by_cases k1 : f.kd = 1
 ·have d1 : decide (f.kd = 1) = true := decide_eq_true k1
  rw [if_pos k1]
  repeat (first | refine W_seq ?_ | refine W_reg ?_ | refine W_regd ?_ | refine W_regs ?_ | refine W_regp ?_ | refine W_block ?_ | refine And.intro (by omega) ?_ | simp (maxSteps := 1000000) (disch := omega) only [cA, cB, cN, FnD.nb, lk, lkH, Dst.onT, Dst.onX, Dst.slot, setF, setH, mapF, mapH, initF, binE, unE, cnt, boundE, newsE, freshE, freshT, opE, rmH, blkQ, frz_us, Nat.reduceEqDiff, Nat.reduceLT, Nat.reduceAdd, Nat.reduceMul, Nat.reduceMod, ↓reduceIte, reduceCtorEq, Nat.reduceLeDiff, cS, d1])
  refine wT ?_
  repeat (first | refine W_seq ?_ | refine W_reg ?_ | refine W_regd ?_ | refine W_regs ?_ | refine W_regp ?_ | refine W_block ?_ | refine And.intro (by omega) ?_ | simp (maxSteps := 1000000) (disch := omega) only [cA, cB, cN, FnD.nb, lk, lkH, Dst.onT, Dst.onX, Dst.slot, setF, setH, mapF, mapH, initF, binE, unE, cnt, boundE, newsE, freshE, freshT, opE, rmH, blkQ, frz_us, Nat.reduceEqDiff, Nat.reduceLT, Nat.reduceAdd, Nat.reduceMul, Nat.reduceMod, ↓reduceIte, reduceCtorEq, Nat.reduceLeDiff, cS, d1])
  refine cP cv ?_
  cases vldQ f.un.1 f.un.2.1 f.un.2.2
  ·refine zS (zA @cS d1) ?_
   exact W_ret (RetP_1 (.imm rfl))
  ·refine zS (zA @cS d1) ?_
   refine cP cs ?_
   refine zS (zA @cS d1) ?_
   exact W_ret (RetP_1 (.imm rfl))
 ·have d1 : decide (f.kd = 1) = false := decide_eq_false k1
  rw [if_neg k1]
  by_cases k2 : f.kd = 2
  ·have d2 : decide (f.kd = 2) = true := decide_eq_true k2
   rw [d2, Bool.true_or]
   refine zS (zA @cS d1) ?_
   refine wF ?_
   refine zS (zA @cS (zA d1 d2)) ?_
   refine wTs ?_
   refine wT ?_
   refine zR ?_
   exact W_ret (RetP_1 (.imm rfl))
  ·have d2 : decide (f.kd = 2) = false := decide_eq_false k2
   rw [d2, Bool.false_or]
   refine zS (zA @cS d1) ?_
   refine wF ?_
   refine zS (zA @cS (zA d1 d2)) ?_
   refine wF ?_
   by_cases k3 : f.kd = 3
   ·have d3 : decide (f.kd = 3) = true := decide_eq_true k3
    rw [d3]
    refine zS (zA @cS d3) ?_
    refine wT ?_
    refine zR ?_
    exact W_ret (RetP_1 (.imm rfl))
   ·have d3 : decide (f.kd = 3) = false := decide_eq_false k3
    rw [d3]
    refine zS (zA @cS d3) ?_
    refine wFs ?_
    refine zR ?_
    exact W_ret (RetP_1 (.imm rfl))
theorem tBuild1_calls (f : Fx) (hu : okN0 f.un) : PCalls Tryz.prog 43 [.agg (fxC f)] (.bool (!rdB f)) := by
 have cr := tReadable_calls f hu
 have hcc : (DV.agg (fxC f)).cells? = some (fxC f) := rfl
 have hcl := fxC_len f
 have htk : (fxC f).take 6 = fxC f := rfl
 refine PCalls_of istBuild1 (by simp [fntBuild1]) ?_
 unfold codetBuild1
 repeat (first | refine W_seq ?_ | refine W_reg ?_ | refine W_regd ?_ | refine W_regs ?_ | refine W_regp ?_ | refine W_block ?_ | refine And.intro (by omega) ?_ | simp (maxSteps := 1000000) (disch := omega) only [cA, cB, cN, FnD.nb, lk, lkH, Dst.onT, Dst.onX, Dst.slot, setF, setH, mapF, mapH, initF, binE, unE, cnt, boundE, newsE, freshE, freshT, opE, rmH, blkQ, frz_us, Nat.reduceEqDiff, Nat.reduceLT, Nat.reduceAdd, Nat.reduceMul, Nat.reduceMod, ↓reduceIte, reduceCtorEq, Nat.reduceLeDiff, cS, hcc, hcl, htk, List.drop_zero])
 refine cP cr ?_
 refine zR ?_
 exact W_ret (RetP_1 (.imm rfl))
theorem slIFField_calls (l : List Fx) (hl : l.length ≤ 1000000) (p : Fx → Bool) (v : DV) (g : Nat) (cs : List DV) (hv : isClo v g cs) (hcs : cs.all DV.rf = true) (hg : Callable Tryz.prog g) (hc : ∀ f ∈ l, PCalls Tryz.prog g ([.agg (fxC f)] ++ cs) (.bool (p f))) : PCalls Tryz.prog 87 [.sl 6 (fxs l), v] (.int .i64 (ixP p l)) := by
 have hln : (fxs l).length / 6 = l.length := by rw [fxs_len]; omega
 have hlen := fxs_len l
 refine PCalls_of isslIFField (by simp [fnslIFField]) ?_
 unfold codeslIFField
 refine zS hln ?_
 refine W_loop (σ := Nat) (fun i => [(0, .sl 6 (fxs l)), (1, v), (7, .int .i64 l.length), (8, .int .i64 i)]) (fun _ => []) (fun i => i ≤ l.length ∧ ∀ j, j < i → p (l.getD j default) = false) (fun i => l.length - i) 0 ⟨Nat.zero_le _, by simp⟩ ?_ rfl ?_
 ·simp [subF, lk]
 ·rintro i ⟨hi, hall⟩
  try simp only at hi hall ⊢
  by_cases hlt : i < l.length
  ·have dl : decide ((i : Int) < (l.length : Int)) = true := decide_eq_true (by omega)
   have ei : (i : Int).toNat = i := Int.toNat_natCast i
   have e1 : ((i : Int) + 1) = ((i + 1 : Nat) : Int) := by omega
   have hw : ((fxs l).drop (i * 6)).take 6 = fxC (l.getD i default) := fm_win (j := 0) fxC_len default hlt (Nat.le_refl _)
   have cf := hc _ (memG hlt)
   have hb6 : i * 6 + 6 ≤ (fxs l).length := by omega
   refine zS dl ?_
   refine wTs ?_
   refine W_seq ?_
   refine W_block ?_
   refine W_seq ?_
   refine W_reg ?_
   simp (maxSteps := 1000000) (disch := omega) only [cA, cB, cN, FnD.nb, lk, lkH, Dst.onT, Dst.onX, Dst.slot, setF, setH, mapF, mapH, initF, binE, unE, cnt, boundE, newsE, freshE, freshT, opE, rmH, blkQ, frz_us, Nat.reduceEqDiff, Nat.reduceLT, Nat.reduceAdd, Nat.reduceMul, Nat.reduceMod, ↓reduceIte, reduceCtorEq, Nat.reduceLeDiff]
   refine W_seq ?_
   refine W_callV [om 11 1, om 12 0, om 13 5, ot 14 (.iad 6 (.t 12) (.t 13)), ot 15 (.ldn 6 (.t 14))] [] (.x 16) (.t 11) [.t 15] rfl ?_
   refine zE (zA ei (zA hlen hw)) ?_
   refine ⟨⟨by omega, by omega⟩, by omega, g, cs, hv, hg, callR_pure cf (by rw [List.all_append, hcs]; rfl) ?_⟩
   cases hp : p (l.getD i default)
   ·have hnx : ∀ j, j < i + 1 → p (l.getD j default) = false := fun j hj => by
     rcases Nat.lt_or_ge j i with h | h
     ·exact hall j h
     ·obtain rfl : j = i := by omega
      exact hp
    refine zR ?_
    refine wFs ?_
    refine zS e1 ?_
    exact ⟨i + 1, ⟨by omega, hnx⟩, by omega, by simp [subF, lk]⟩
   ·have hx := ixP_at default hlt hp hall
    rw [hx]
    refine zR ?_
    refine wT ?_
    refine zR ?_
    exact W_ret (RetP_1 (.imm rfl))
  ·have dl : decide ((i : Int) < (l.length : Int)) = false := decide_eq_false (by omega)
   rw [ixP_no default fun j hj => hall j (by omega)]
   repeat (first | refine W_seq ?_ | refine W_reg ?_ | refine W_regd ?_ | refine W_regs ?_ | refine W_regp ?_ | refine W_block ?_ | refine And.intro (by omega) ?_ | simp (maxSteps := 1000000) (disch := omega) only [cA, cB, cN, FnD.nb, lk, lkH, Dst.onT, Dst.onX, Dst.slot, setF, setH, mapF, mapH, initF, binE, unE, cnt, boundE, newsE, freshE, freshT, opE, rmH, blkQ, frz_us, Nat.reduceEqDiff, Nat.reduceLT, Nat.reduceAdd, Nat.reduceMul, Nat.reduceMod, ↓reduceIte, reduceCtorEq, Nat.reduceLeDiff, dl])
   refine W_cond rfl (fun h => by cases h) (fun _ => W_exit ?_)
   repeat (first | refine W_seq ?_ | refine W_reg ?_ | refine W_regd ?_ | refine W_regs ?_ | refine W_regp ?_ | refine W_block ?_ | refine And.intro (by omega) ?_ | simp (maxSteps := 1000000) (disch := omega) only [cA, cB, cN, FnD.nb, lk, lkH, Dst.onT, Dst.onX, Dst.slot, setF, setH, mapF, mapH, initF, binE, unE, cnt, boundE, newsE, freshE, freshT, opE, rmH, blkQ, frz_us, Nat.reduceEqDiff, Nat.reduceLT, Nat.reduceAdd, Nat.reduceMul, Nat.reduceMod, ↓reduceIte, reduceCtorEq, Nat.reduceLeDiff])
   exact W_ret (RetP_1 (.imm rfl))
theorem slCFField_calls (l : List Fx) (hl : l.length ≤ 1000000) (p : Fx → Bool) (v : DV) (g : Nat) (cs : List DV) (hv : isClo v g cs) (hvr : v.rf = true) (hcs : cs.all DV.rf = true) (hg : Callable Tryz.prog g) (hc : ∀ f ∈ l, PCalls Tryz.prog g ([.agg (fxC f)] ++ cs) (.bool (p f))) : PCalls Tryz.prog 42 [.sl 6 (fxs l), v] (.bool (l.any p)) := by
 have ci := slIFField_calls l hl p v g cs hv hcs hg hc
 have ha := ixP_any p l
 have hrf : List.all [DV.sl 6 (fxs l), v] DV.rf = true := by rw [List.all_cons, List.all_cons, hvr]; rfl
 refine PCalls_of isslCFField (by simp [fnslCFField]) ?_
 unfold codeslCFField
 generalize ixP p l = k at *
 generalize l.any p = b at *
 refine zR ?_
 refine callC_pure ci hrf ?_
 refine zS ha ?_
 exact W_ret (RetP_1 (.imm rfl))
theorem tFieldNames_calls (l : List Fx) (hl : l.length ≤ 1000000) : PCalls Tryz.prog 41 [.sl 6 (fxs l)] (.sl 1 (strL (fnmL l))) := by
 have hln : (fxs l).length / 6 = l.length := by rw [fxs_len]; omega
 have hlen := fxs_len l
 refine PCalls_of istFieldNames (by simp [fntFieldNames]) ?_
 unfold codetFieldNames
 refine zR ?_
 refine W_own 3 1 200 rfl (by simp [lkH]) ?_
 refine zS hln ?_
 refine W_loop (σ := Nat) (fun i => [(3, .osl 1 200 0 i), (6, .sl 6 (fxs l)), (7, .int .i64 l.length), (8, .int .i64 i)]) (fun i => [(200, strL ((fnmL l).take i))]) (fun i => i ≤ l.length) (fun i => l.length - i) 0 (Nat.zero_le _) ?_ rfl ?_
 ·simp [subF, lk]
 ·intro i hi
  try simp only at hi ⊢
  by_cases hlt : i < l.length
  ·have dl : decide ((i : Int) < (l.length : Int)) = true := decide_eq_true (by omega)
   have ei : (i : Int).toNat = i := Int.toNat_natCast i
   have e1 : ((i : Int) + 1) = ((i + 1 : Nat) : Int) := by omega
   have hw : ((fxs l).drop (i * 6)).take 6 = fxC (l.getD i default) := fm_win (j := 0) fxC_len default hlt (Nat.le_refl _)
   have htk : strL ((fnmL l).take i) ++ [.str (l.getD i default).nm] = strL ((fnmL l).take (i + 1)) := by
    unfold strL
    rw [List.take_add_one, List.map_append]
    unfold fnmL
    rw [List.getElem?_map, List.getElem?_eq_getElem hlt, List.getD_eq_getElem?_getD, List.getElem?_eq_getElem hlt]
    rfl
   have hl1 : (strL ((fnmL l).take i)).length = i := by rw [strL_len, List.length_take, fnmL_len]; omega
   have hpg := map_purge 200 (List.all_eq_true.1 (strL_rf ((fnmL l).take (i + 1))))
   have hfz := map_frz 5 (fxC (l.getD i default)) (List.all_eq_true.1 (strL_rf ((fnmL l).take (i + 1))))
   have hpF := map_purge 200 (fxC_rf (l.getD i default))
   have hcc : (DV.agg (fxC (l.getD i default))).cells? = some (fxC (l.getD i default)) := rfl
   have hcl := fxC_len (l.getD i default)
   have htf : (fxC (l.getD i default)).take 6 = fxC (l.getD i default) := rfl
   have hg0 : (fxC (l.getD i default)).getD 0 .undef = .str (l.getD i default).nm := rfl
   have hrf := fxC_rf (l.getD i default)
   have hrfa : ((fxC (l.getD i default)).all DV.rf) = true := List.all_eq_true.2 hrf
   generalize strL ((fnmL l).take i) = Y at *
   generalize hZ : strL ((fnmL l).take (i + 1)) = Z at *
   generalize (l.getD i default).nm = nm at *
   generalize fxC (l.getD i default) = C at *
   refine zS dl ?_
   refine wTs ?_
   repeat (first | refine W_seq ?_ | refine W_reg ?_ | refine W_regd ?_ | refine W_regs ?_ | refine W_regp ?_ | refine W_block ?_ | refine And.intro (by omega) ?_ | simp (maxSteps := 1000000) (disch := omega) only [cA, cB, cN, FnD.nb, lk, lkH, Dst.onT, Dst.onX, Dst.slot, setF, setH, mapF, mapH, initF, binE, unE, cnt, boundE, newsE, freshE, freshT, opE, rmH, blkQ, frz_us, Nat.reduceEqDiff, Nat.reduceLT, Nat.reduceAdd, Nat.reduceMul, Nat.reduceMod, ↓reduceIte, reduceCtorEq, Nat.reduceLeDiff, ei, hw, hlen, hcc, hcl, htf, List.drop_zero, cS, hg0])
   refine ⟨by simp [DV.rf], ⟨hl1, by omega, by omega, fun h => h, by simp [DV.one]⟩, ?_⟩
   rw [htk, hpg, hpF]
   refine W_freeze 5 (cells := C) rfl hrfa ?_
   repeat (first | refine W_seq ?_ | refine W_reg ?_ | refine W_regd ?_ | refine W_regs ?_ | refine W_regp ?_ | refine W_block ?_ | refine And.intro (by omega) ?_ | simp (maxSteps := 1000000) (disch := omega) only [cA, cB, cN, FnD.nb, lk, lkH, Dst.onT, Dst.onX, Dst.slot, setF, setH, mapF, mapH, initF, binE, unE, cnt, boundE, newsE, freshE, freshT, opE, rmH, blkQ, frz_us, Nat.reduceEqDiff, Nat.reduceLT, Nat.reduceAdd, Nat.reduceMul, Nat.reduceMod, ↓reduceIte, reduceCtorEq, Nat.reduceLeDiff, e1, hfz])
   exact ⟨i + 1, by omega, by omega, by simp [subF, lk, frz_osl_ne], by rw [hZ]⟩
  ·have dl : decide ((i : Int) < (l.length : Int)) = false := decide_eq_false (by omega)
   obtain rfl : i = l.length := by omega
   have htl : (fnmL l).take l.length = fnmL l := List.take_of_length_le (by rw [fnmL_len]; exact Nat.le_refl _)
   rw [htl]
   have hrf := strL_rf (fnmL l)
   have hsl : (strL (fnmL l)).length = l.length := by rw [strL_len, fnmL_len]
   generalize strL (fnmL l) = Z at *
   refine zS dl ?_
   refine W_cond rfl (fun h => by cases h) (fun _ => W_exit ?_)
   refine zR ?_
   refine W_freeze 200 (cells := Z) rfl hrf ?_
   have hfz : frz 200 Z (.osl 1 200 0 l.length) = .sl 1 Z := by
    simp [frz, hsl]
    rw [List.take_of_length_le (by omega)]
   refine W_ret (RetP_1 ?_)
   show Exp _ (frz 200 Z (.osl 1 200 0 l.length)) _
   rw [hfz]
   exact .imm rfl
def rdQ (pre post : List DV) (D : Hp) (x y : DV) (R : Int × List Bs × List Tc) (r : DV) (H' : Hp) : Prop :=
 r = .int .i64 R.1 ∧ H' = (1000, strL R.2.1) :: (1001, cxs R.2.2) :: (1048576, wnd pre post x y (.osl 1 1000 0 R.2.1.length) (.osl 5 1001 0 R.2.2.length)) :: D
theorem Ret_read {pre post : List DV} {D : Hp} {x y : DV} {R : Int × List Bs × List Tc} {k : Nat} {fr : Fr} {H H0 : Hp} (hD : okHD D) (hp : ∀ d ∈ pre, okO D d) (hq : ∀ d ∈ post, okO D d) (hx : x.rf = true) (hy : y.rf = true)
  (h0 : ∀ o, 1048576 ≤ o → (lkH H0 o).isSome = true → o = 1048576)
  (hd : lk fr k = .int .i64 R.1) (h1 : lkH H 1000 = some (strL R.2.1)) (h2 : lkH H 1001 = some (cxs R.2.2))
  (h3 : lkH H 1048576 = some (wnd pre post x y (.osl 1 1000 0 R.2.1.length) (.osl 5 1001 0 R.2.2.length))) (h4 : ∀ p, 100000 ≤ p → p < 200000 → lkH H p = lkH D p) :
  RetPR [.t k] H0 (rdQ pre post D x y R) .ret fr H := by
 obtain ⟨C, hC⟩ : ∃ C, C = wnd pre post x y (.osl 1 1000 0 R.2.1.length) (.osl 5 1001 0 R.2.2.length) := ⟨_, rfl⟩
 obtain ⟨H', hH'⟩ : ∃ H', H' = (1000, strL R.2.1) :: (1001, cxs R.2.2) :: (1048576, C) :: D := ⟨_, rfl⟩
 have hl : ∀ p, lkH H' p = if 1000 = p then some (strL R.2.1) else if 1001 = p then some (cxs R.2.2) else if 1048576 = p then some C else lkH D p := fun p => by rw [hH']; rfl
 have n1 : nmH H' 1000 = some 1000 := by unfold nmH; rw [hl]; rfl
 have n2 : nmH H' 1001 = some 1001 := by unfold nmH; rw [hl]; rfl
 have hok : ∀ d, okO D d → rn (nmH H') d = d := by
  rintro d (h | ⟨s, o, n, rfl, ho⟩)
  ·exact rn_rf _ d h
  ·obtain ⟨c, hc⟩ := Option.isSome_iff_exists.1 ho
   have hr := (hD.lk hc).1
   have e : lkH H' o = some c := by rw [hl, if_neg (by omega), if_neg (by omega), if_neg (by omega), hc]
   have : nmH H' o = some o := by unfold nmH; rw [e]; rfl
   simp [rn, this]
 refine ⟨.inr rfl, [lk fr k], .int .i64 R.1, H', ⟨rfl, by rw [hH', hC]⟩, fun o ho h => ?_, rfl, ?_, fun o c h => ?_⟩
 ·rw [h0 o ho h, hl]; rfl
 ·show rn _ (lk fr k) = _
  rw [hd]; rfl
 ·rw [hl] at h
  split at h
  ·rename_i e; subst e; cases h
   exact ⟨_, h1, map_rf _ (List.all_eq_true.1 (strL_rf _))⟩
  ·split at h
   ·rename_i e; subst e; cases h
    exact ⟨_, h2, map_rf _ (cxs_rf _)⟩
   ·split at h
    ·rename_i e; subst e; cases h
     refine ⟨_, h3, ?_⟩
     rw [wnd_map (fun d hd => hok d (hp d hd)) (fun d hd => hok d (hq d hd)), hC, rn_rf _ x hx, rn_rf _ y hy]
     simp [rn, n1, n2]
    ·have hr := (hD.lk h)
     exact ⟨c, by rw [h4 o hr.1.1 hr.1.2, h], map_rf _ hr.2⟩
theorem parseQ_RB1 {l : List UInt8} (hl : l.length ≤ 450) {x : Rat} (h : parseQ l = some x) : RB x 100 := by
 have key : ∀ {s : List UInt8}, s.length ≤ 450 → ∀ {x : Rat}, unsQ s = some x → RB x 100 := by
  intro s hs x h
  rw [unsQ_P, Option.map_eq_some_iff] at h
  obtain ⟨⟨n, d⟩, hp, rfl⟩ := h
  obtain ⟨b1, b2⟩ := unsP_9 hp hs
  exact RB_mk (show d ≠ 0 by have := unsP_pos hp; omega) (by rw [Int.natAbs_natCast]; exact len9 b1 (by decide)) (len9 b2 (by decide))
 unfold parseQ at h
 by_cases h45 : l.head? = some 45
 ·rw [decide_eq_true h45, if_pos h45] at h
  unfold negQ at h
  rw [if_pos rfl, Option.map_eq_some_iff] at h
  obtain ⟨y, hy, rfl⟩ := h
  exact RB_neg (key (by rw [List.length_tail]; omega) hy)
 ·rw [decide_eq_false h45, if_neg h45] at h
  exact key hl h
theorem lk_skip {k p : Nat} {c : List DV} {r : Hp} (h : ¬ k = p) : lkH ((k, c) :: r) p = lkH r p := by simp only [lkH]; rw [if_neg h]
theorem wk_append {X ys ys' : List DV} {w : World} {L : Nat → Option Nat} {A : Nat → Prop} {v : Value} (h : ∀ (k : Nat) d d', ys[k]? = some d → ys'[k]? = some d' → V w L A d v → V w L A d' v) (k : Nat) (d d' : DV)
  (h1 : (X ++ ys)[k]? = some d) (h2 : (X ++ ys')[k]? = some d') (hv : V w L A d v) : V w L A d' v := by
 rcases Nat.lt_or_ge k X.length with hk | hk
 ·rw [List.getElem?_append_left hk] at h1 h2
  rw [h1] at h2; cases h2; exact hv
 ·rw [List.getElem?_append_right hk] at h1 h2
  exact h _ d d' h1 h2 hv
theorem cx_wk (ce : List Tc) (b : Bool) (n : Int) (k : Nat) (d d' : DV) (h : (cxs ce ++ [DV.bool b, .bool false, .nils, .nils, .int .i64 n])[k]? = some d) (h' : (cxs (ce ++ [⟨b, (false, [], []), n⟩]))[k]? = some d') (w : World) (L : Nat → Option Nat) (A : Nat → Prop) (v : Value) (hv : V w L A d v) : V w L A d' v := by
 have e : cxs (ce ++ [⟨b, (false, [], []), n⟩]) = cxs ce ++ cxC ⟨b, (false, [], []), n⟩ := (fm_snoc ce _).symm
 rw [e] at h'
 refine wk_append (fun j x x' h1 h2 hv => ?_) k d d' h h' hv
 match j, h1, h2 with
 | 0, h1, h2 => cases h1; cases h2; exact hv
 | 1, h1, h2 => cases h1; cases h2; exact hv
 | 2, h1, h2 => cases h1; cases h2; exact wk_nils 1 w L A v hv
 | 3, h1, h2 => cases h1; cases h2; exact wk_nils 1 w L A v hv
 | 4, h1, h2 => cases h1; cases h2; exact hv
 | j + 5, h1, h2 => cases h1
theorem tRead_rel (pre post : List DV) (D : Hp) (nm : Bs) (kd : Int) (lv : List Bs) (ce : List Tc) (f : Fx) (s : Bs) (hD : okHD D) (hp : ∀ d ∈ pre, okO D d) (hq : ∀ d ∈ post, okO D d)
  (hu : okN0 f.un) (hm : f.ms.length ≤ 1000000) (hs : s.length ≤ 450) (hlv : lv.length ≤ 1000000) (hce : ce.length ≤ 1000000) :
  MRel Tryz.prog 45 [.ptr 1048576 pre.length, .agg (fxC f), .str s] ((1000, strL lv) :: (1001, cxs ce) :: (1048576, wnd pre post (.str nm) (.int .i64 kd) (.osl 1 1000 0 lv.length) (.osl 5 1001 0 ce.length)) :: D)
   (rdQ pre post D (.str nm) (.int .i64 kd) (readR parseQ f lv ce s)) := by
 have hpD := hD.purge
 have hml := strL_len f.ms
 have hcc : (DV.agg (fxC f)).cells? = some (fxC f) := rfl
 have hcl := fxC_len f
 have g2 : (fxC f).getD 2 .undef = .sl 1 (strL f.ms) := rfl
 have g1 : (fxC f).getD 1 .undef = .int .i64 f.kd := rfl
 have g3 : ((fxC f).drop 3).take 3 = xnC f.un := rfl
 have ck := slContainsS_calls f.ms s (by omega)
 have hw2 : ∀ l c : DV, (wnd pre post (.str nm) (.int .i64 kd) l c).getD (pre.length + 2) .undef = l := fun l c => wnd_getD (by decide) _
 have hw3 : ∀ l c : DV, (wnd pre post (.str nm) (.int .i64 kd) l c).getD (pre.length + 3) .undef = c := fun l c => wnd_getD (by decide) _
 have hwl : ∀ l c : DV, (wnd pre post (.str nm) (.int .i64 kd) l c).length = pre.length + 4 + post.length := fun l c => wnd_len
 have hwp : ∀ (l c : DV) (o : Nat), o < 100000 → (wnd pre post (.str nm) (.int .i64 kd) l c).map (purge o) = wnd pre post (.str nm) (.int .i64 kd) (purge o l) (purge o c) := fun l c o ho => wnd_map (fun d hd => (hp d hd).purge hD ho) (fun d hd => (hq d hd).purge hD ho)
 have hs2 : ∀ l c d : DV, (wnd pre post (.str nm) (.int .i64 kd) l c).set (pre.length + 2) d = wnd pre post (.str nm) (.int .i64 kd) d c := fun l c d => wnd_set2 d
 have hs3 : ∀ l c d : DV, (wnd pre post (.str nm) (.int .i64 kd) l c).set (pre.length + 3) d = wnd pre post (.str nm) (.int .i64 kd) l d := fun l c d => wnd_set3 d
 have hD7 : lkH D 7 = none := hD.no (by omega)
 have hD4 : lkH D 4 = none := hD.no (by omega)
 have hld0 : ∀ (b : Bool) (n : Int), laid [.bool false, .bool false, .nils, .nils, .int .i64 0] [(0, 5, .agg [.bool b, .bool false, .nils, .nils, .int .i64 n])] = some [.bool b, .bool false, .nils, .nils, .int .i64 n] := fun _ _ => rfl
 have hxl := cxs_len ce
 have q1 : ∀ k, purge 1001 (DV.ptr 1048576 k) = DV.ptr 1048576 k := fun k => by simp [purge, DV.has]
 have q2 : ∀ z n, purge 1001 (DV.osl z 1000 0 n) = DV.osl z 1000 0 n := fun z n => by simp [purge, DV.has]
 have q3 : ∀ z n, purge 1001 (DV.osl z 1001 0 n) = DV.undef := fun z n => by simp [purge, DV.has]
 have hpS := fun l => map_purge 1001 (List.all_eq_true.1 (strL_rf l))
 have hpX0 : ∀ (b : Bool) (n : Int), (cxs ce ++ [DV.bool b, DV.bool false, DV.nils, DV.nils, DV.int .i64 n]).map (purge 1001) = cxs ce ++ [DV.bool b, DV.bool false, DV.nils, DV.nils, DV.int .i64 n] := fun b n => map_purge 1001 fun d hd => by
  rcases List.mem_append.1 hd with h | h
  ·exact cxs_rf _ d h
  ·simp only [List.mem_cons, List.not_mem_nil, or_false] at h
   rcases h with rfl | rfl | rfl | rfl | rfl <;> rfl
 have p1 : ∀ k, purge 1000 (DV.ptr 1048576 k) = DV.ptr 1048576 k := fun k => by simp [purge, DV.has]
 have p2 : ∀ z n, purge 1000 (DV.osl z 1001 0 n) = DV.osl z 1001 0 n := fun z n => by simp [purge, DV.has]
 have p3 : ∀ z n, purge 1000 (DV.osl z 1000 0 n) = DV.undef := fun z n => by simp [purge, DV.has]
 have hpA : (strL lv ++ [DV.str s]).map (purge 1000) = strL (lv ++ [s]) := by
  have e : strL lv ++ [DV.str s] = strL (lv ++ [s]) := by unfold strL; simp
  rw [e]; exact map_purge 1000 (List.all_eq_true.1 (strL_rf _))
 have hpX := map_purge 1000 (cxs_rf ce)
 have hwp0 := fun l c => hwp l c 1000 (by decide)
 have hwp1 := fun l c => hwp l c 1001 (by decide)
 have h0 : ∀ o, 1048576 ≤ o → (lkH ((1000, strL lv) :: (1001, cxs ce) :: (1048576, wnd pre post (.str nm) (.int .i64 kd) (.osl 1 1000 0 lv.length) (.osl 5 1001 0 ce.length)) :: D) o).isSome = true → o = 1048576 := fun o ho h => by
  simp only [lkH] at h
  rw [if_neg (show ¬ 1000 = o by omega), if_neg (show ¬ 1001 = o by omega)] at h
  by_cases e : 1048576 = o
  ·exact e.symm
  ·rw [if_neg e, hD.no (by omega)] at h; cases h
 generalize hF : fxC f = FC at *
 refine MRel_of istRead (by simp [fntRead]) ?_
 unfold codetRead
 generalize hWW : wnd pre post (.str nm) (.int .i64 kd) = WW at *
 refine zS (zA hcc (zA hD4 g2)) ?_
 refine cP ck ?_
 by_cases hms : 0 ≤ ixS f.ms s
 ·have dm : decide (0 ≤ ixS f.ms s) = true := decide_eq_true hms
  have hR : readR parseQ f lv ce s = (0, lv, ce ++ [⟨true, (false, [], []), 0⟩]) := by unfold readR; rw [if_pos hms]
  rw [hR, dm]
  refine zR ?_
  refine wT ?_
  refine zS (zA hw3 (zA hwl (zA @cS hld0))) ?_
  refine ⟨by simp [DV.rf], ⟨hxl, by omega, by omega, fun h => h, by simp [DV.one]⟩, ?_⟩
  refine zS (zA q1 (zA q2 (zA q3 (zA hpD (zA hwp1 (zA hwl (zA hw3 (zA hs3 (zA hpS hpX0))))))))) ?_
  refine ⟨⟨rfl, by omega⟩, ?_⟩
  refine zR ?_
  refine W_wkc 1001 (cells := cxs ce ++ [.bool true, .bool false, .nils, .nils, .int .i64 0]) (cells' := cxs (ce ++ [⟨true, (false, [], []), 0⟩])) rfl (by rw [cxs_len, List.length_append, List.length_append, hxl]; show (ce.length + 1) * 5 = ce.length * 5 + 5; omega) (cx_wk ce true 0) ?_
  refine W_ret ?_
  refine Ret_read hD hp hq rfl rfl h0 rfl rfl rfl ?_ ?_
  ·show some (WW _ _) = _
   rw [← hWW, List.length_append]; rfl
  ·intro p h1 h2
   rw [lkH_setH, if_neg (by omega)]
   repeat rw [lk_skip (by omega)]
 ·have dm : decide (0 ≤ ixS f.ms s) = false := decide_eq_false hms
  rw [dm]
  have cp := qParse_all s (by omega)
  refine zR ?_
  refine wFs ?_
  by_cases k1 : f.kd = 1
  ·have d1 : decide (f.kd = 1) = true := decide_eq_true k1
   refine zS (zA g1 (zA hcl d1)) ?_
   refine wT ?_
   refine zR ?_
   refine cP cp ?_
   cases hps : parseQ s with
   | none =>
    have hR : readR parseQ f lv ce s = (4, lv, ce) := by unfold readR; rw [if_neg hms, if_pos k1, hps]
    rw [hR]
    rw [show resQ none = .tup [.agg (xc0 0), .bool false] from rfl]
    have hxc := xc0_cells 0
    have hx3 : (xc0 0).length = 3 := rfl
    have h33 : (xc0 0).take 3 = xc0 0 := rfl
    refine zS (zA hxc (zA hx3 (zA h33 (zA @cS hD7)))) ?_
    refine wT ?_
    repeat (first | refine W_seq ?_ | refine W_reg ?_ | refine W_regd ?_ | refine W_regs ?_ | refine W_regp ?_ | refine W_block ?_ | refine And.intro (by omega) ?_ | simp (maxSteps := 1000000) (disch := omega) only [cA, cB, cN, FnD.nb, lk, lkH, Dst.onT, Dst.onX, Dst.slot, setF, setH, mapF, mapH, initF, binE, unE, cnt, boundE, newsE, freshE, freshT, opE, rmH, blkQ, frz_us, Nat.reduceEqDiff, Nat.reduceLT, Nat.reduceAdd, Nat.reduceMul, Nat.reduceMod, ↓reduceIte, reduceCtorEq, Nat.reduceLeDiff])
    refine W_ret ?_
    refine Ret_read hD hp hq rfl rfl h0 rfl rfl rfl ?_ ?_
    ·show some (WW _ _) = _
     rw [← hWW]
    ·intro p h1 h2
     repeat rw [lk_skip (by omega)]
   | some x =>
    have hR : readR parseQ f lv ce s = (0, lv, ce ++ [⟨false, qX (x * xnV f.un), 0⟩]) := by unfold readR; rw [if_neg hms, if_pos k1, hps]
    rw [hR]
    rw [show resQ (some x) = .tup [.agg (xc0 x), .bool true] from rfl]
    have hxc := xc0_cells x
    have hx3 : (xc0 x).length = 3 := rfl
    have h33 : (xc0 x).take 3 = xc0 x := rfl
    repeat (first | refine W_seq ?_ | refine W_reg ?_ | refine W_regd ?_ | refine W_regs ?_ | refine W_regp ?_ | refine W_block ?_ | refine And.intro (by omega) ?_ | simp (maxSteps := 1000000) (disch := omega) only [cA, cB, cN, FnD.nb, lk, lkH, Dst.onT, Dst.onX, Dst.slot, setF, setH, mapF, mapH, initF, binE, unE, cnt, boundE, newsE, freshE, freshT, opE, rmH, blkQ, frz_us, Nat.reduceEqDiff, Nat.reduceLT, Nat.reduceAdd, Nat.reduceMul, Nat.reduceMod, ↓reduceIte, reduceCtorEq, Nat.reduceLeDiff, hxc, hx3, h33, cS, hD7])
    refine wFs ?_
    have cm : PCalls Tryz.prog 91 [.agg (xc0 x), .agg (xnC f.un)] (.agg (xnC (qX (x * xnV f.un)))) := by
     have hx := parseQ_RB1 (by omega) hps
     have := qMul_calls (decide (x.num < 0)) (limbs x.num.natAbs) (dn x.den) f.un.1 f.un.2.1 f.un.2.2 (Nat.le_trans hx.1 (by decide)) (Nat.le_trans (RB_dn hx) (by decide)) (by have := hu.2.2.1; omega) (by have := hu.2.2.2; omega) (lim_limbs _) (lim_dn _) hu.1 hu.2.1
     rwa [rv_Q] at this
    repeat (first | refine W_seq ?_ | refine W_reg ?_ | refine W_regd ?_ | refine W_regs ?_ | refine W_regp ?_ | refine W_block ?_ | refine And.intro (by omega) ?_ | simp (maxSteps := 1000000) (disch := omega) only [cA, cB, cN, FnD.nb, lk, lkH, Dst.onT, Dst.onX, Dst.slot, setF, setH, mapF, mapH, initF, binE, unE, cnt, boundE, newsE, freshE, freshT, opE, rmH, blkQ, frz_us, Nat.reduceEqDiff, Nat.reduceLT, Nat.reduceAdd, Nat.reduceMul, Nat.reduceMod, ↓reduceIte, reduceCtorEq, Nat.reduceLeDiff, hxc, hx3, h33, cS, hcl, g3, hw3, hwl, List.drop_zero])
    refine cP cm ?_
    generalize qX (x * xnV f.un) = q at *
    have hlq : laid [DV.bool false, .bool false, .nils, .nils, .int .i64 0] [(1, 3, .agg (xnC q))] = some (cxC ⟨false, q, 0⟩) := rfl
    have hl5 : laid [DV.bool false, .bool false, .nils, .nils, .int .i64 0] [(0, 5, .agg (cxC ⟨false, q, 0⟩))] = some (cxC ⟨false, q, 0⟩) := rfl
    have hc5 := cxC_len ⟨false, q, 0⟩
    have hsn : cxs ce ++ cxC ⟨false, q, 0⟩ = cxs (ce ++ [⟨false, q, 0⟩]) := fm_snoc ce _
    have hpq := map_purge 1001 (cxs_rf (ce ++ [⟨false, q, 0⟩]))
    have hone := cxC_one ⟨false, q, 0⟩
    have hrfq := cxC_rf ⟨false, q, 0⟩
    generalize cxC ⟨false, q, 0⟩ = cq at *
    repeat (first | refine W_seq ?_ | refine W_reg ?_ | refine W_regd ?_ | refine W_regs ?_ | refine W_regp ?_ | refine W_block ?_ | refine And.intro (by omega) ?_ | simp (maxSteps := 1000000) (disch := omega) only [cA, cB, cN, FnD.nb, lk, lkH, Dst.onT, Dst.onX, Dst.slot, setF, setH, mapF, mapH, initF, binE, unE, cnt, boundE, newsE, freshE, freshT, opE, rmH, blkQ, frz_us, Nat.reduceEqDiff, Nat.reduceLT, Nat.reduceAdd, Nat.reduceMul, Nat.reduceMod, ↓reduceIte, reduceCtorEq, Nat.reduceLeDiff, hlq, hl5, hc5])
    refine ⟨⟨hxl, by omega, by omega, fun h => h, hone⟩, ?_⟩
    refine zS (zA q1 (zA q2 (zA q3 (zA hpD (zA hwp1 (zA hwl (zA hw3 (zA hs3 (zA hpS (zA hsn hpq)))))))))) ?_
    refine ⟨⟨rfl, by omega⟩, ?_⟩
    refine zR ?_
    refine W_ret ?_
    refine Ret_read hD hp hq rfl rfl h0 rfl rfl rfl ?_ ?_
    ·show some (WW _ _) = _
     rw [← hWW, List.length_append]; rfl
    ·intro p h1 h2
     repeat rw [lk_skip (by omega)]
  ·have d1 : decide (f.kd = 1) = false := decide_eq_false k1
   refine zS (zA g1 (zA hcl d1)) ?_
   refine wFs ?_
   have ci := slIndexS_calls lv s (by omega)
   have hsl := strL_len lv
   have hrl := List.all_eq_true.1 (strL_rf lv)
   have hfz : frz 1000 (strL lv) (.osl 1 1000 0 lv.length) = .sl 1 (strL lv) := by
    simp [frz, hsl]
    rw [List.take_of_length_le (Nat.le_of_eq hsl)]
   have hsq : [DV.osl 1 1000 0 lv.length, .str s].map (slo 1000 (strL lv)) = [.sl 1 (strL lv), .str s] := by
    simp [slo, hsl, DV.rf]
    rw [List.take_of_length_le (Nat.le_of_eq hsl)]
   have hbd := ixS_bd s lv
   refine zS (zA q1 (zA q2 (zA hw2 (zA hw3 hwl)))) ?_
   refine callC_readS rfl 1000 ci rfl hrl hsq rfl ?_
   by_cases hneg : ixS lv s < 0
   ·have dn : decide (ixS lv s < 0) = true := decide_eq_true hneg
    refine zS dn ?_
    refine wT ?_
    by_cases h32 : lv.length = 32
    ·have d32 : decide ((lv.length : Int) = 32) = true := decide_eq_true (by omega)
     have hR : readR parseQ f lv ce s = (2, lv, ce) := by unfold readR; rw [if_neg hms, if_neg k1, if_pos hneg, if_pos h32]
     rw [hR]
     refine zS (zA q1 (zA q2 (zA hw2 (zA hw3 (zA hwl d32))))) ?_
     refine wT ?_
     refine zR ?_
     refine W_ret ?_
     refine Ret_read hD hp hq rfl rfl h0 rfl rfl rfl ?_ ?_
     ·show some (WW _ _) = _
      rw [← hWW]
     ·intro p h1 h2
      repeat rw [lk_skip (by omega)]
    ·have d32 : decide ((lv.length : Int) = 32) = false := decide_eq_false (by omega)
     have hR : readR parseQ f lv ce s = (0, lv ++ [s], ce ++ [⟨false, (false, [], []), lv.length⟩]) := by unfold readR; rw [if_neg hms, if_neg k1, if_pos hneg, if_neg h32]
     rw [hR]
     repeat (first | refine W_seq ?_ | refine W_reg ?_ | refine W_regd ?_ | refine W_regs ?_ | refine W_regp ?_ | refine W_block ?_ | refine And.intro (by omega) ?_ | simp (maxSteps := 1000000) (disch := omega) only [cA, cB, cN, FnD.nb, lk, lkH, Dst.onT, Dst.onX, Dst.slot, setF, setH, mapF, mapH, initF, binE, unE, cnt, boundE, newsE, freshE, freshT, opE, rmH, blkQ, frz_us, Nat.reduceEqDiff, Nat.reduceLT, Nat.reduceAdd, Nat.reduceMul, Nat.reduceMod, ↓reduceIte, reduceCtorEq, Nat.reduceLeDiff, q1, q2, hw2, hw3, hwl, d32])
     refine wFs ?_
     repeat (first | refine W_seq ?_ | refine W_reg ?_ | refine W_regd ?_ | refine W_regs ?_ | refine W_regp ?_ | refine W_block ?_ | refine And.intro (by omega) ?_ | simp (maxSteps := 1000000) (disch := omega) only [cA, cB, cN, FnD.nb, lk, lkH, Dst.onT, Dst.onX, Dst.slot, setF, setH, mapF, mapH, initF, binE, unE, cnt, boundE, newsE, freshE, freshT, opE, rmH, blkQ, frz_us, Nat.reduceEqDiff, Nat.reduceLT, Nat.reduceAdd, Nat.reduceMul, Nat.reduceMod, ↓reduceIte, reduceCtorEq, Nat.reduceLeDiff, q1, q2, hw2, hw3, hwl, d32, cS])
     refine ⟨by simp [DV.rf], ⟨hsl, by omega, by omega, fun h => h, by simp [DV.one]⟩, ?_⟩
     repeat (first | refine W_seq ?_ | refine W_reg ?_ | refine W_regd ?_ | refine W_regs ?_ | refine W_regp ?_ | refine W_block ?_ | refine And.intro (by omega) ?_ | simp (maxSteps := 1000000) (disch := omega) only [cA, cB, cN, FnD.nb, lk, lkH, Dst.onT, Dst.onX, Dst.slot, setF, setH, mapF, mapH, initF, binE, unE, cnt, boundE, newsE, freshE, freshT, opE, rmH, blkQ, frz_us, Nat.reduceEqDiff, Nat.reduceLT, Nat.reduceAdd, Nat.reduceMul, Nat.reduceMod, ↓reduceIte, reduceCtorEq, Nat.reduceLeDiff, p1, p2, p3, hpD, hwp0, hwl, hw2, hs2, hpA, hpX])
     refine ⟨⟨rfl, by omega⟩, ?_⟩
     repeat (first | refine W_seq ?_ | refine W_reg ?_ | refine W_regd ?_ | refine W_regs ?_ | refine W_regp ?_ | refine W_block ?_ | refine And.intro (by omega) ?_ | simp (maxSteps := 1000000) (disch := omega) only [cA, cB, cN, FnD.nb, lk, lkH, Dst.onT, Dst.onX, Dst.slot, setF, setH, mapF, mapH, initF, binE, unE, cnt, boundE, newsE, freshE, freshT, opE, rmH, blkQ, frz_us, Nat.reduceEqDiff, Nat.reduceLT, Nat.reduceAdd, Nat.reduceMul, Nat.reduceMod, ↓reduceIte, reduceCtorEq, Nat.reduceLeDiff, q1, q2, hw2, hw3, hwl, cS, hld0])
     refine ⟨by simp [DV.rf], ⟨hxl, by omega, by omega, fun h => h, by simp [DV.one]⟩, by rw [List.length_map, hwl]; omega, ?_⟩
     rw [hwp1, q2, q3, hs3, hpD, hpS, hpX0]
     refine zR ?_
     refine W_wkc 1001 (cells := cxs ce ++ [.bool false, .bool false, .nils, .nils, .int .i64 lv.length]) (cells' := cxs (ce ++ [⟨false, (false, [], []), lv.length⟩])) rfl (by rw [cxs_len, List.length_append, List.length_append, hxl]; show (ce.length + 1) * 5 = ce.length * 5 + 5; omega) (cx_wk ce false lv.length) ?_
     refine W_ret ?_
     refine Ret_read hD hp hq rfl rfl h0 rfl rfl rfl ?_ ?_
     ·show some (WW _ _) = _
      rw [← hWW, List.length_append, List.length_append]; rfl
     ·intro p h1 h2
      rw [lkH_setH, if_neg (by omega)]
      repeat rw [lk_skip (by omega)]
   ·have dn : decide (ixS lv s < 0) = false := decide_eq_false hneg
    have hR : readR parseQ f lv ce s = (0, lv, ce ++ [⟨false, (false, [], []), ixS lv s⟩]) := by unfold readR; rw [if_neg hms, if_neg k1, if_neg hneg]
    rw [hR]
    generalize ixS lv s = z at *
    refine zS dn ?_
    refine wFs ?_
    refine zS (zA hw3 (zA hwl (zA @cS hld0))) ?_
    refine ⟨by simp [DV.rf], ⟨hxl, by omega, by omega, fun h => h, by simp [DV.one]⟩, ?_⟩
    refine zS (zA q1 (zA q2 (zA q3 (zA hpD (zA hwp1 (zA hwl (zA hw3 (zA hs3 (zA hpS hpX0))))))))) ?_
    refine ⟨⟨rfl, by omega⟩, ?_⟩
    refine zR ?_
    refine W_wkc 1001 (cells := cxs ce ++ [.bool false, .bool false, .nils, .nils, .int .i64 z]) (cells' := cxs (ce ++ [⟨false, (false, [], []), z⟩])) rfl (by rw [cxs_len, List.length_append, List.length_append, hxl]; show (ce.length + 1) * 5 = ce.length * 5 + 5; omega) (cx_wk ce false z) ?_
    refine W_ret ?_
    refine Ret_read hD hp hq rfl rfl h0 rfl rfl rfl ?_ ?_
    ·show some (WW _ _) = _
     rw [← hWW, List.length_append]; rfl
    ·intro p h1 h2
     rw [lkH_setH, if_neg (by omega)]
     repeat rw [lk_skip (by omega)]
theorem Exp_in {h : Heap} (n : Int) (sz : Nat) : Exp h (.agg [.int .i64 n, .nils]) (.agg [.int .i64 n, .sl sz []]) := .agg rfl fun k d r h1 h2 => by
 match k, h1, h2 with
 | 0, h1, h2 => cases h1; cases h2; exact .imm rfl
 | 1, h1, h2 => cases h1; cases h2; exact .nils _
 | k + 2, h1, h2 => cases h1
theorem Ret_bad {fr : Fr} {H : Hp} {row e : Int} (h1 : lk fr 4 = .ptr 4 0) (h2 : lkH H 4 = some [.int .i64 0, .nils]) (h3 : lk fr 5 = .int .i64 row) (h4 : lk fr 6 = .int .i64 e) : RetP [.cn 2 4, .t 5, .t 6] (badT row e) .ret fr H :=
 RetP_ctt h1 h2 rfl (Exp_in 0 4) (by rw [h3]; exact .imm rfl) (by rw [h4]; exact .imm rfl)
theorem tBuild_limit (l : List Fx) (recs : List (List Bs)) (hl : l.length ≤ 1000000) (hr : recs.length ≤ 1000000) (h : 32 < l.length ∨ 1024 < recs.length) : PCalls Tryz.prog 13 [.sl 6 (fxs l), .sl 1 (recD recs)] (badT 0 2) := by
 have hln : (fxs l).length / 6 = l.length := by rw [fxs_len]; omega
 have hrl := recD_len recs
 refine PCalls_of istBld (by simp [fntBld]) ?_
 unfold codetBld
 by_cases h1 : 32 < l.length
 ·have d1 : decide ((32 : Int) < (l.length : Int)) = true := decide_eq_true (by omega)
  refine zS (zA hln (zA hrl d1)) ?_
  refine wT ?_
  refine zS @cS ?_
  exact W_ret (Ret_bad rfl rfl rfl rfl)
 ·have d1 : decide ((32 : Int) < (l.length : Int)) = false := decide_eq_false (by omega)
  have h2 : 1024 < recs.length := h.resolve_left h1
  have d2 : decide ((1024 : Int) < (recs.length : Int)) = true := decide_eq_true (by omega)
  refine zS (zA hln (zA hrl (zA d1 d2))) ?_
  refine wT ?_
  refine zS @cS ?_
  exact W_ret (Ret_bad rfl rfl rfl rfl)
theorem goW_clr {F : FnD} {os : List DOper} {dst : Dst} {te fr : Fr} {H : Hp} {K : Fr → Fr → Hp → Prop} (sz : Nat) (z : List DV) (x : Opd) : goW F os dst te fr H K (.clr sz z x) = stepW F os dst te fr H K (opE F.nb dst.slot (ev te fr) (lkH H) (.clr sz z x)) := rfl
theorem tBuild2_calls (k : Kx) : PCalls Tryz.prog 47 [.agg (kxC k)] (.bool (decide (k.kd = 3))) := by
 have hcc : (DV.agg (kxC k)).cells? = some (kxC k) := rfl
 have hcl := kxC_len k
 have hg1 : (kxC k).getD 1 .undef = .int .i64 k.kd := rfl
 refine PCalls_of istBuild2 (by simp [fntBuild2]) ?_
 unfold codetBuild2
 repeat (first | refine W_seq ?_ | refine W_reg ?_ | refine W_regd ?_ | refine W_regs ?_ | refine W_regp ?_ | refine W_block ?_ | refine And.intro (by omega) ?_ | simp (maxSteps := 1000000) (disch := omega) only [cA, cB, cN, FnD.nb, lk, lkH, Dst.onT, Dst.onX, Dst.slot, setF, setH, mapF, mapH, initF, binE, unE, cnt, boundE, newsE, freshE, freshT, opE, rmH, blkQ, frz_us, Nat.reduceEqDiff, Nat.reduceLT, Nat.reduceAdd, Nat.reduceMul, Nat.reduceMod, ↓reduceIte, reduceCtorEq, Nat.reduceLeDiff, cS, hcc, hcl, hg1])
 exact W_ret (RetP_1 (.imm rfl))
theorem slIFCol_calls (l : List Kx) (hl : l.length ≤ 1000000) (p : Kx → Bool) (v : DV) (g : Nat) (cs : List DV) (hv : isClo v g cs) (hcs : cs.all DV.rf = true) (hg : Callable Tryz.prog g) (hc : ∀ f ∈ l, PCalls Tryz.prog g ([.agg (kxC f)] ++ cs) (.bool (p f))) : PCalls Tryz.prog 92 [.sl 4 (kxs l), v] (.int .i64 (ixP p l)) := by
 have hln : (kxs l).length / 4 = l.length := by rw [kxs_len]; omega
 have hlen := kxs_len l
 refine PCalls_of isslIFCol (by simp [fnslIFCol]) ?_
 unfold codeslIFCol
 refine zS hln ?_
 refine W_loop (σ := Nat) (fun i => [(0, .sl 4 (kxs l)), (1, v), (7, .int .i64 l.length), (8, .int .i64 i)]) (fun _ => []) (fun i => i ≤ l.length ∧ ∀ j, j < i → p (l.getD j default) = false) (fun i => l.length - i) 0 ⟨Nat.zero_le _, by simp⟩ ?_ rfl ?_
 ·simp [subF, lk]
 ·rintro i ⟨hi, hall⟩
  try simp only at hi hall ⊢
  by_cases hlt : i < l.length
  ·have dl : decide ((i : Int) < (l.length : Int)) = true := decide_eq_true (by omega)
   have ei : (i : Int).toNat = i := Int.toNat_natCast i
   have e1 : ((i : Int) + 1) = ((i + 1 : Nat) : Int) := by omega
   have hw : ((kxs l).drop (i * 4)).take 4 = kxC (l.getD i default) := fm_win (j := 0) kxC_len default hlt (Nat.le_refl _)
   have cf := hc _ (memG hlt)
   have hb6 : i * 4 + 4 ≤ (kxs l).length := by omega
   refine zS dl ?_
   refine wTs ?_
   refine W_seq ?_
   refine W_block ?_
   refine W_seq ?_
   refine W_reg ?_
   refine zD ?_
   refine W_seq ?_
   refine W_callV [om 11 1, om 12 0, om 13 5, ot 14 (.iad 4 (.t 12) (.t 13)), ot 15 (.ldn 4 (.t 14))] [] (.x 16) (.t 11) [.t 15] rfl ?_
   refine zE (zA ei (zA hlen hw)) ?_
   refine ⟨⟨by omega, by omega⟩, by omega, g, cs, hv, hg, callR_pure cf (by rw [List.all_append, hcs]; rfl) ?_⟩
   cases hp : p (l.getD i default)
   ·have hnx : ∀ j, j < i + 1 → p (l.getD j default) = false := fun j hj => by
     rcases Nat.lt_or_ge j i with h | h
     ·exact hall j h
     ·obtain rfl : j = i := by omega
      exact hp
    refine zR ?_
    refine wFs ?_
    refine zS e1 ?_
    exact ⟨i + 1, ⟨by omega, hnx⟩, by omega, by simp [subF, lk]⟩
   ·have hx := ixP_at default hlt hp hall
    rw [hx]
    refine zR ?_
    refine wT ?_
    refine zR ?_
    exact W_ret (RetP_1 (.imm rfl))
  ·have dl : decide ((i : Int) < (l.length : Int)) = false := decide_eq_false (by omega)
   rw [ixP_no default fun j hj => hall j (by omega)]
   refine zS dl ?_
   refine W_cond rfl (fun h => by cases h) (fun _ => W_exit ?_)
   refine zR ?_
   exact W_ret (RetP_1 (.imm rfl))
theorem Ret_dat {k z o : Nat} {X : List DV} {c : List DV} {fr : Fr} {H : Hp} (ho : o < 1048576) (hd : lk fr k = .sl z X) : RetPR [.t k] [(o, c)] (fun r H' => r = .sl z X ∧ H' = []) .ret fr H := by
 refine ⟨.inr rfl, [.sl z X], .sl z X, [], ⟨rfl, rfl⟩, fun p hp h => ?_, by simp [resDs, resD1, hd], by simp only [oneOf]; exact rn_rf _ _ rfl, fun p c h => by cases h⟩
 simp only [lkH] at h
 rw [if_neg (by omega)] at h; cases h
set_option maxHeartbeats 1000000 in
theorem slDFCol_rel (S : List Kx) (hl : S.length ≤ 1000000) (p : Kx → Bool) (v : DV) (g : Nat) (hv : isClo v g []) (hvr : v.rf = true) (hg : Callable Tryz.prog g) (hc : ∀ f, PCalls Tryz.prog g [.agg (kxC f)] (.bool (p f))) :
  MRel Tryz.prog 46 [.osl 4 1000 0 S.length, v] [(1000, kxs S)] (fun r H' => r = .sl 4 (kxs (S.filter fun x => !p x)) ∧ H' = []) := by
 have ci := slIFCol_calls S hl p v g [] hv rfl hg fun f _ => hc f
 have hlen := kxs_len S
 have hrl := kxs_rf S
 have hsq : [DV.osl 4 1000 0 S.length, v].map (slo 1000 (kxs S)) = [.sl 4 (kxs S), v] := by
  have h2 : slo 1000 (kxs S) v = v := by
   cases v <;> first | (cases hvr; done) | simp [slo, hvr] | rfl
  have h3 : slo 1000 (kxs S) (.osl 4 1000 0 S.length) = .sl 4 (kxs S) := by
   simp [slo, hlen]
   rw [List.take_of_length_le (by omega)]
  rw [List.map_cons, List.map_cons, List.map_nil, h2, h3]
 have hv0 : purge 7 v = v := purge_of_rf 7 hvr
 have hv1 : ∀ cs, frz 7 cs v = v := fun cs => by
  have := map_frz 7 cs (cs := [v]) (by simpa using hvr)
  simpa using this
 have hb := ixP_bd p S
 have hneg := @ixP_neg _ p S
 have hzero := fun k => @filI_zero _ p default S k
 refine MRel_of isslDFCol (by simp [fnslDFCol]) ?_
 unfold codeslDFCol
 generalize hK : ixP p S = K at *
 refine zR ?_
 refine callC_readS rfl 1000 ci rfl hrl hsq rfl ?_
 by_cases hk : K = -1
 ·have dk : decide (K = -1) = true := decide_eq_true hk
  rw [hneg hk]
  refine zS dk ?_
  refine wT ?_
  refine W_freeze 1000 (cells := kxs S) rfl (List.all_eq_true.2 hrl) ?_
  have hfz : frz 1000 (kxs S) (.osl 4 1000 0 S.length) = .sl 4 (kxs S) := by
   simp [frz, hlen]
   rw [List.take_of_length_le (by omega)]
  refine zS hfz ?_
  exact W_ret (Ret_dat (by decide) rfl)
 ·have dk : decide (K = -1) = false := decide_eq_false hk
  obtain ⟨k, rfl⟩ : ∃ k : Nat, K = k := ⟨K.toNat, by omega⟩
  have hF := hzero k rfl
  refine zS dk ?_
  refine wFs ?_
  have e1 : ((k : Int) + 1) = ((k + 1 : Nat) : Int) := by omega
  refine zS e1 ?_
  refine W_loop (σ := Nat × Nat × List Kx) (fun s => [(0, .osl 4 1000 0 S.length), (1, v), (5, .int .i64 s.1), (6, .int .i64 s.2.1)]) (fun s => [(1000, kxs s.2.2)]) (fun s => filI p S s.1 s.2.1 s.2.2) (fun s : Nat × Nat × List Kx => S.length - s.2.1) (k, k + 1, S) hF ?_ rfl ?_
  ·simp [subF, lk]
  ·rintro ⟨i, j, A⟩ hI
   try simp only at hI ⊢
   have hAl := hI.1
   have hij := hI.2.1
   have hjl := hI.2.2.1
   have hAx := kxs_len A
   by_cases hlt : j < S.length
   ·have dl : decide ((j : Int) < (S.length : Int)) = true := decide_eq_true (by omega)
    have ei : (i : Int).toNat = i := Int.toNat_natCast i
    have ej : (j : Int).toNat = j := Int.toNat_natCast j
    have e1 : ((i : Int) + 1) = ((i + 1 : Nat) : Int) := by omega
    have e2 : ((j : Int) + 1) = ((j + 1 : Nat) : Int) := by omega
    have hw : ((kxs A).drop (j * 4)).take 4 = kxC (S.getD j default) := by
     rw [← filI_get default hI hlt]
     exact fm_win (j := 0) kxC_len default (by omega) (Nat.le_refl _)
    have hb4 : j * 4 + 4 ≤ (kxs A).length := by omega
    have hset : (kxs A).take (i * 4) ++ kxC (S.getD j default) ++ (kxs A).drop (i * 4 + 4) = kxs (A.set i (S.getD j default)) := fm_set kxC_len _ (by omega)
    have cf := hc (S.getD j default)
    have hkeep := filI_keep default hI hlt
    have hskip := filI_skip default hI hlt
    have hcc : (DV.agg (kxC (S.getD j default))).cells? = some (kxC (S.getD j default)) := rfl
    have hcl := kxC_len (S.getD j default)
    have htk : (kxC (S.getD j default)).take 4 = kxC (S.getD j default) := rfl
    have hCrf := kxC_rf (S.getD j default)
    have hCa : (kxC (S.getD j default)).all DV.rf = true := List.all_eq_true.2 hCrf
    generalize hX : S.getD j default = x at *
    generalize hC : kxC x = C at *
    refine zS dl ?_
    refine wTs ?_
    refine W_seq ?_
    refine W_block ?_
    refine W_seq ?_
    refine W_reg ?_
    refine zE (zA ei (zA ej (zA hAx (zA hw (zA hcc (zA hcl (zA htk (zA @List.drop_zero.{0} @cS)))))))) ?_
    refine ⟨⟨by omega, by omega⟩, by omega, ?_⟩
    refine W_seq ?_
    refine W_callV [om 26 1, ot 27 (.ldn 4 (.x 7))] [ox 29 (.un .not (.t 28))] (.t 28) (.t 26) [.t 27] rfl ?_
    refine zE (zA ei (zA ej (zA hAx (zA hw (zA hcc (zA hcl (zA htk (zA @List.drop_zero.{0} @cS)))))))) ?_
    refine ⟨g, [], hv, hg, callR_pure cf (by simp [DV.rf_agg, hCa]) ?_⟩
    cases hp : p x
    ·refine zR ?_
     refine wT ?_
     have hf1 := map_frz 7 C (kxs_rf (A.set i x))
     refine W_seq ?_
     refine W_reg ?_
     refine zE (zA ei (zA ej (zA hAx (zA hw (zA hcc (zA hcl (zA htk (zA @List.drop_zero.{0} @cS)))))))) ?_
     refine ⟨⟨by omega, by omega⟩, by omega, ?_⟩
     rw [hset]
     refine W_freeze 7 (cells := C) rfl hCa ?_
     refine zS (zA e1 (zA e2 (zA hf1 hv1))) ?_
     exact ⟨(i + 1, j + 1, A.set i x), hkeep hp, by show S.length - (j + 1) < S.length - j; omega, by simp [subF, lk, frz_osl_ne], rfl⟩
    ·refine zR ?_
     refine wFs ?_
     have hf1 := map_frz 7 C (kxs_rf A)
     refine W_freeze 7 (cells := C) rfl hCa ?_
     refine zS (zA e2 (zA hf1 hv1)) ?_
     exact ⟨(i, j + 1, A), hskip hp, by show S.length - (j + 1) < S.length - j; omega, by simp [subF, lk, frz_osl_ne], rfl⟩
   ·have dl : decide ((j : Int) < (S.length : Int)) = false := decide_eq_false (by omega)
    obtain rfl : j = S.length := by omega
    have hend := filI_end hI
    have ei : (i : Int).toNat = i := Int.toNat_natCast i
    refine zS dl ?_
    refine W_cond rfl (fun h => by cases h) (fun _ => W_exit ?_)
    obtain ⟨hr1, hr2⟩ := rep4 (S.length - i) (.str []) (.int .i64 0) .nils .nils rfl
    refine zD ?_
    refine W_seq ?_
    refine W_reg ?_
    refine zE (zA @goW_clr (zA ei hAx)) ?_
    refine ⟨⟨by omega, by omega⟩, by omega, by omega, ?_⟩
    have hil : i < S.length := by omega
    have htA : (kxs A).take (i * 4) = kxs (S.filter fun x => !p x) := by
     rw [← hend]; exact fm_take kxC_len A i
    have hlT : ((kxs A).take (i * 4)).length = i * 4 := by rw [List.length_take]; omega
    have hdA : (kxs A).drop (i * 4 + (S.length - i) * 4) = [] := List.drop_eq_nil_of_le (by omega)
    rw [hdA, List.append_nil, htA]
    rw [htA] at hlT
    obtain ⟨Z, hZ⟩ : ∃ Z, Z = kxs (S.filter fun x => !p x) ++ rep (S.length - i) [DV.str [], .int .i64 0, .nils, .nils] := ⟨_, rfl⟩
    have hZl : Z.length = S.length * 4 := by rw [hZ, List.length_append, hr1, hlT]; omega
    have hZr : ∀ d ∈ Z, d.rf = true := fun d hd => by
     rw [hZ, List.mem_append] at hd
     rcases hd with hd | hd
     ·exact kxs_rf _ d hd
     ·exact hr2 d hd
    have hZt : Z.take (i * 4) = kxs (S.filter fun x => !p x) := by rw [hZ, ← hlT, List.take_left]
    rw [← hZ]
    refine W_freeze 1000 (cells := Z) rfl (List.all_eq_true.2 hZr) ?_
    have hfz : frz 1000 Z (.osl 4 1000 0 S.length) = .sl 4 Z := by
     simp [frz, hZl]
     rw [List.take_of_length_le (by omega)]
    have hv2 : frz 1000 Z v = v := by
     have := map_frz 1000 Z (cs := [v]) (by simpa using hvr)
     simpa using this
    have hZc : Z.length / 4 = S.length := by omega
    refine zS (zA hfz (zA hv2 (zA ei (zA hZc (zA hZt (zA @List.drop_zero.{0} @Nat.zero_mul)))))) ?_
    exact W_ret (Ret_dat (by decide) rfl)
theorem tFits_calls (k : Kx) (x : Tc) (hx : okN0 x.va) : PCalls Tryz.prog 78 [.agg (kxC k), .agg (cxC x)] (.bool (fitB k x)) := by
 obtain ⟨u1, u2, u3, u4⟩ := hx
 have cv : PCalls Tryz.prog 88 [.agg (xnC x.va)] (.bool (vldQ x.va.1 x.va.2.1 x.va.2.2)) := qValid_calls _ _ _ (by omega) (by omega) u1 u2
 have cs : PCalls Tryz.prog 89 [.agg (xnC x.va)] (.int .i64 (xnV x.va).num.sign) := qSign_calls _ _ _ (by omega) (by omega) u1 u2
 have hck : (DV.agg (kxC k)).cells? = some (kxC k) := rfl
 have hcx : (DV.agg (cxC x)).cells? = some (cxC x) := rfl
 have l4 := kxC_len k
 have l5 := cxC_len x
 have n0 : (cxC x).getD 0 .undef = .bool x.mi := rfl
 have n1 : ((cxC x).drop 1).take 3 = xnC x.va := rfl
 have n4 : (cxC x).getD 4 .undef = .int .i64 x.lv := rfl
 have m1 : (kxC k).getD 1 .undef = .int .i64 k.kd := rfl
 have m2 : (kxC k).getD 2 .undef = .sl 1 (strL k.le) := rfl
 have hll := strL_len k.le
 refine PCalls_of istFits (by simp [fntFits]) ?_
 unfold codetFits fitB zerB
 have hlv : decide (x.lv < (k.le.length : Int)) = decide (x.lv < k.le.length) := rfl
 generalize vldQ x.va.1 x.va.2.1 x.va.2.2 = v at *
 generalize (xnV x.va).num.sign = z at *
 obtain ⟨bz, dz⟩ : ∃ b, decide (z = 0) = b := ⟨_, rfl⟩
 obtain ⟨b1, d1⟩ : ∃ b, decide (k.kd = 1) = b := ⟨_, rfl⟩
 obtain ⟨b0, d0⟩ : ∃ b, decide (0 ≤ x.lv) = b := ⟨_, rfl⟩
 obtain ⟨bl, dl⟩ : ∃ b, decide (x.lv = 0) = b := ⟨_, rfl⟩
 have hk1 : (if k.kd = 1 then v && decide (x.lv = 0) else (v && decide (z = 0)) && decide (0 ≤ x.lv) && decide (x.lv < k.le.length)) = if b1 = true then v && bl else (v && bz) && b0 && decide (x.lv < k.le.length) := by
  rw [← d1, dz, d0, dl]
  by_cases h : k.kd = 1 <;> simp [h]
 rw [hk1, dz, dl]
 cases hm : x.mi
 all_goals rw [hm] at n0
 ·have hif : (if (false : Bool) = true then (v && bz) && bl else (if b1 = true then v && bl else (v && bz) && b0 && decide (x.lv < k.le.length))) = (if b1 = true then v && bl else (v && bz) && b0 && decide (x.lv < k.le.length)) := rfl
  rw [hif]
  cases b1
  ·have hi2 : (if (false : Bool) = true then v && bl else (v && bz) && b0 && decide (x.lv < k.le.length)) = ((v && bz) && b0 && decide (x.lv < k.le.length)) := rfl
   rw [hi2]
   cases v
   ·refine zS (zA hck (zA hcx (zA l4 (zA l5 (zA n0 (zA n1 (zA n4 (zA m1 (zA m2 (zA hll (zA dz (zA d1 (zA d0 (zA dl (zA @cS @List.drop_zero.{0}))))))))))))))) ?_
    refine cP cv ?_
    refine zS (zA hck (zA hcx (zA l4 (zA l5 (zA n0 (zA n1 (zA n4 (zA m1 (zA m2 (zA hll (zA dz (zA d1 (zA d0 (zA dl (zA @cS @List.drop_zero.{0}))))))))))))))) ?_
    refine wF ?_
    refine zS (zA hck (zA hcx (zA l4 (zA l5 (zA n0 (zA n1 (zA n4 (zA m1 (zA m2 (zA hll (zA dz (zA d1 (zA d0 (zA dl (zA @cS @List.drop_zero.{0}))))))))))))))) ?_
    refine wFs ?_
    refine zS (zA hck (zA hcx (zA l4 (zA l5 (zA n0 (zA n1 (zA n4 (zA m1 (zA m2 (zA hll (zA dz (zA d1 (zA d0 (zA dl (zA @cS @List.drop_zero.{0}))))))))))))))) ?_
    exact W_ret (RetP_1 (.imm rfl))
   ·cases bz <;> cases b0
    all_goals
     refine zS (zA hck (zA hcx (zA l4 (zA l5 (zA n0 (zA n1 (zA n4 (zA m1 (zA m2 (zA hll (zA dz (zA d1 (zA d0 (zA dl (zA @cS @List.drop_zero.{0}))))))))))))))) ?_
     refine cP cv ?_
     refine zS (zA hck (zA hcx (zA l4 (zA l5 (zA n0 (zA n1 (zA n4 (zA m1 (zA m2 (zA hll (zA dz (zA d1 (zA d0 (zA dl (zA @cS @List.drop_zero.{0}))))))))))))))) ?_
     refine cP cs ?_
     refine zS (zA hck (zA hcx (zA l4 (zA l5 (zA n0 (zA n1 (zA n4 (zA m1 (zA m2 (zA hll (zA dz (zA d1 (zA d0 (zA dl (zA @cS @List.drop_zero.{0}))))))))))))))) ?_
     refine wF ?_
     refine zS (zA hck (zA hcx (zA l4 (zA l5 (zA n0 (zA n1 (zA n4 (zA m1 (zA m2 (zA hll (zA dz (zA d1 (zA d0 (zA dl (zA @cS @List.drop_zero.{0}))))))))))))))) ?_
     refine wFs ?_
     refine zS (zA hck (zA hcx (zA l4 (zA l5 (zA n0 (zA n1 (zA n4 (zA m1 (zA m2 (zA hll (zA dz (zA d1 (zA d0 (zA dl (zA @cS @List.drop_zero.{0}))))))))))))))) ?_
     exact W_ret (RetP_1 (.imm rfl))
  ·have hi2 : (if (true : Bool) = true then v && bl else (v && bz) && b0 && decide (x.lv < k.le.length)) = (v && bl) := rfl
   rw [hi2]
   cases v
   ·refine zS (zA hck (zA hcx (zA l4 (zA l5 (zA n0 (zA n1 (zA n4 (zA m1 (zA m2 (zA hll (zA dz (zA d1 (zA d0 (zA dl (zA @cS @List.drop_zero.{0}))))))))))))))) ?_
    refine cP cv ?_
    refine zS (zA hck (zA hcx (zA l4 (zA l5 (zA n0 (zA n1 (zA n4 (zA m1 (zA m2 (zA hll (zA dz (zA d1 (zA d0 (zA dl (zA @cS @List.drop_zero.{0}))))))))))))))) ?_
    refine wF ?_
    refine zS (zA hck (zA hcx (zA l4 (zA l5 (zA n0 (zA n1 (zA n4 (zA m1 (zA m2 (zA hll (zA dz (zA d1 (zA d0 (zA dl (zA @cS @List.drop_zero.{0}))))))))))))))) ?_
    refine wT ?_
    refine zS (zA hck (zA hcx (zA l4 (zA l5 (zA n0 (zA n1 (zA n4 (zA m1 (zA m2 (zA hll (zA dz (zA d1 (zA d0 (zA dl (zA @cS @List.drop_zero.{0}))))))))))))))) ?_
    refine cP cv ?_
    refine zS (zA hck (zA hcx (zA l4 (zA l5 (zA n0 (zA n1 (zA n4 (zA m1 (zA m2 (zA hll (zA dz (zA d1 (zA d0 (zA dl (zA @cS @List.drop_zero.{0}))))))))))))))) ?_
    exact W_ret (RetP_1 (.imm rfl))
   ·refine zS (zA hck (zA hcx (zA l4 (zA l5 (zA n0 (zA n1 (zA n4 (zA m1 (zA m2 (zA hll (zA dz (zA d1 (zA d0 (zA dl (zA @cS @List.drop_zero.{0}))))))))))))))) ?_
    refine cP cv ?_
    refine zS (zA hck (zA hcx (zA l4 (zA l5 (zA n0 (zA n1 (zA n4 (zA m1 (zA m2 (zA hll (zA dz (zA d1 (zA d0 (zA dl (zA @cS @List.drop_zero.{0}))))))))))))))) ?_
    refine cP cs ?_
    refine zS (zA hck (zA hcx (zA l4 (zA l5 (zA n0 (zA n1 (zA n4 (zA m1 (zA m2 (zA hll (zA dz (zA d1 (zA d0 (zA dl (zA @cS @List.drop_zero.{0}))))))))))))))) ?_
    refine wF ?_
    refine zS (zA hck (zA hcx (zA l4 (zA l5 (zA n0 (zA n1 (zA n4 (zA m1 (zA m2 (zA hll (zA dz (zA d1 (zA d0 (zA dl (zA @cS @List.drop_zero.{0}))))))))))))))) ?_
    refine wT ?_
    refine zS (zA hck (zA hcx (zA l4 (zA l5 (zA n0 (zA n1 (zA n4 (zA m1 (zA m2 (zA hll (zA dz (zA d1 (zA d0 (zA dl (zA @cS @List.drop_zero.{0}))))))))))))))) ?_
    refine cP cv ?_
    refine zS (zA hck (zA hcx (zA l4 (zA l5 (zA n0 (zA n1 (zA n4 (zA m1 (zA m2 (zA hll (zA dz (zA d1 (zA d0 (zA dl (zA @cS @List.drop_zero.{0}))))))))))))))) ?_
    exact W_ret (RetP_1 (.imm rfl))
 ·have hif : (if (true : Bool) = true then (v && bz) && bl else (if b1 = true then v && bl else (v && bz) && b0 && decide (x.lv < k.le.length))) = ((v && bz) && bl) := rfl
  rw [hif]
  cases v
  ·refine zS (zA hck (zA hcx (zA l4 (zA l5 (zA n0 (zA n1 (zA n4 (zA m1 (zA m2 (zA hll (zA dz (zA d1 (zA d0 (zA dl (zA @cS @List.drop_zero.{0}))))))))))))))) ?_
   refine cP cv ?_
   refine zS (zA hck (zA hcx (zA l4 (zA l5 (zA n0 (zA n1 (zA n4 (zA m1 (zA m2 (zA hll (zA dz (zA d1 (zA d0 (zA dl (zA @cS @List.drop_zero.{0}))))))))))))))) ?_
   refine wT ?_
   refine zS (zA hck (zA hcx (zA l4 (zA l5 (zA n0 (zA n1 (zA n4 (zA m1 (zA m2 (zA hll (zA dz (zA d1 (zA d0 (zA dl (zA @cS @List.drop_zero.{0}))))))))))))))) ?_
   exact W_ret (RetP_1 (.imm rfl))
  ·cases bz
   all_goals
    refine zS (zA hck (zA hcx (zA l4 (zA l5 (zA n0 (zA n1 (zA n4 (zA m1 (zA m2 (zA hll (zA dz (zA d1 (zA d0 (zA dl (zA @cS @List.drop_zero.{0}))))))))))))))) ?_
    refine cP cv ?_
    refine zS (zA hck (zA hcx (zA l4 (zA l5 (zA n0 (zA n1 (zA n4 (zA m1 (zA m2 (zA hll (zA dz (zA d1 (zA d0 (zA dl (zA @cS @List.drop_zero.{0}))))))))))))))) ?_
    refine cP cs ?_
    refine zS (zA hck (zA hcx (zA l4 (zA l5 (zA n0 (zA n1 (zA n4 (zA m1 (zA m2 (zA hll (zA dz (zA d1 (zA d0 (zA dl (zA @cS @List.drop_zero.{0}))))))))))))))) ?_
    refine wT ?_
    refine zS (zA hck (zA hcx (zA l4 (zA l5 (zA n0 (zA n1 (zA n4 (zA m1 (zA m2 (zA hll (zA dz (zA d1 (zA d0 (zA dl (zA @cS @List.drop_zero.{0}))))))))))))))) ?_
    exact W_ret (RetP_1 (.imm rfl))
theorem slIFCell_calls (l : List Tc) (hl : l.length ≤ 1000000) (p : Tc → Bool) (v : DV) (g : Nat) (cs : List DV) (hv : isClo v g cs) (hcs : cs.all DV.rf = true) (hg : Callable Tryz.prog g) (hc : ∀ f ∈ l, PCalls Tryz.prog g ([.agg (cxC f)] ++ cs) (.bool (p f))) : PCalls Tryz.prog 139 [.sl 5 (cxs l), v] (.int .i64 (ixP p l)) := by
 have hln : (cxs l).length / 5 = l.length := by rw [cxs_len]; omega
 have hlen := cxs_len l
 refine PCalls_of isslIFCell (by simp [fnslIFCell]) ?_
 unfold codeslIFCell
 refine zS hln ?_
 refine W_loop (σ := Nat) (fun i => [(0, .sl 5 (cxs l)), (1, v), (7, .int .i64 l.length), (8, .int .i64 i)]) (fun _ => []) (fun i => i ≤ l.length ∧ ∀ j, j < i → p (l.getD j default) = false) (fun i => l.length - i) 0 ⟨Nat.zero_le _, by simp⟩ ?_ rfl ?_
 ·simp [subF, lk]
 ·rintro i ⟨hi, hall⟩
  try simp only at hi hall ⊢
  by_cases hlt : i < l.length
  ·have dl : decide ((i : Int) < (l.length : Int)) = true := decide_eq_true (by omega)
   have ei : (i : Int).toNat = i := Int.toNat_natCast i
   have e1 : ((i : Int) + 1) = ((i + 1 : Nat) : Int) := by omega
   have hw : ((cxs l).drop (i * 5)).take 5 = cxC (l.getD i default) := fm_win (j := 0) cxC_len default hlt (Nat.le_refl _)
   have cf := hc _ (memG hlt)
   have hb6 : i * 5 + 5 ≤ (cxs l).length := by omega
   refine zS dl ?_
   refine wTs ?_
   refine W_seq ?_
   refine W_block ?_
   refine W_seq ?_
   refine W_reg ?_
   refine zD ?_
   refine W_seq ?_
   refine W_callV [om 11 1, om 12 0, om 13 5, ot 14 (.iad 5 (.t 12) (.t 13)), ot 15 (.ldn 5 (.t 14))] [] (.x 16) (.t 11) [.t 15] rfl ?_
   refine zE (zA ei (zA hlen hw)) ?_
   refine ⟨⟨by omega, by omega⟩, by omega, g, cs, hv, hg, callR_pure cf (by rw [List.all_append, hcs]; rfl) ?_⟩
   cases hp : p (l.getD i default)
   ·have hnx : ∀ j, j < i + 1 → p (l.getD j default) = false := fun j hj => by
     rcases Nat.lt_or_ge j i with h | h
     ·exact hall j h
     ·obtain rfl : j = i := by omega
      exact hp
    refine zR ?_
    refine wFs ?_
    refine zS e1 ?_
    exact ⟨i + 1, ⟨by omega, hnx⟩, by omega, by simp [subF, lk]⟩
   ·have hx := ixP_at default hlt hp hall
    rw [hx]
    refine zR ?_
    refine wT ?_
    refine zR ?_
    exact W_ret (RetP_1 (.imm rfl))
  ·have dl : decide ((i : Int) < (l.length : Int)) = false := decide_eq_false (by omega)
   rw [ixP_no default fun j hj => hall j (by omega)]
   refine zS dl ?_
   refine W_cond rfl (fun h => by cases h) (fun _ => W_exit ?_)
   refine zR ?_
   exact W_ret (RetP_1 (.imm rfl))
theorem slCFCell_calls (l : List Tc) (hl : l.length ≤ 1000000) (p : Tc → Bool) (v : DV) (g : Nat) (cs : List DV) (hv : isClo v g cs) (hvr : v.rf = true) (hcs : cs.all DV.rf = true) (hg : Callable Tryz.prog g) (hc : ∀ f ∈ l, PCalls Tryz.prog g ([.agg (cxC f)] ++ cs) (.bool (p f))) : PCalls Tryz.prog 104 [.sl 5 (cxs l), v] (.bool (l.any p)) := by
 have ci := slIFCell_calls l hl p v g cs hv hcs hg hc
 have ha := ixP_any p l
 have hrf : List.all [DV.sl 5 (cxs l), v] DV.rf = true := by rw [List.all_cons, List.all_cons, hvr]; rfl
 refine PCalls_of isslCFCell (by simp [fnslCFCell]) ?_
 unfold codeslCFCell
 generalize ixP p l = k at *
 generalize l.any p = b at *
 refine zR ?_
 refine callC_pure ci hrf ?_
 refine zS ha ?_
 exact W_ret (RetP_1 (.imm rfl))
theorem slCFCol_calls (l : List Kx) (hl : l.length ≤ 1000000) (p : Kx → Bool) (v : DV) (g : Nat) (cs : List DV) (hv : isClo v g cs) (hvr : v.rf = true) (hcs : cs.all DV.rf = true) (hg : Callable Tryz.prog g) (hc : ∀ f ∈ l, PCalls Tryz.prog g ([.agg (kxC f)] ++ cs) (.bool (p f))) : PCalls Tryz.prog 59 [.sl 4 (kxs l), v] (.bool (l.any p)) := by
 have ci := slIFCol_calls l hl p v g cs hv hcs hg hc
 have ha := ixP_any p l
 have hrf : List.all [DV.sl 4 (kxs l), v] DV.rf = true := by rw [List.all_cons, List.all_cons, hvr]; rfl
 refine PCalls_of isslCFCol (by simp [fnslCFCol]) ?_
 unfold codeslCFCol
 generalize ixP p l = k at *
 generalize l.any p = b at *
 refine zR ?_
 refine callC_pure ci hrf ?_
 refine zS ha ?_
 exact W_ret (RetP_1 (.imm rfl))
theorem tColNames_calls (n : Int) (l : List Kx) (hl : l.length ≤ 1000000) : PCalls Tryz.prog 58 [.agg [.int .i64 n, .sl 4 (kxs l)]] (.sl 1 (strL (knmL l))) := by
 have hln : (kxs l).length / 4 = l.length := by rw [kxs_len]; omega
 have hlen := kxs_len l
 have hca : (DV.agg [.int .i64 n, .sl 4 (kxs l)]).cells? = some [.int .i64 n, .sl 4 (kxs l)] := rfl
 refine PCalls_of istColNames (by simp [fntColNames]) ?_
 unfold codetColNames
 refine zS hca ?_
 refine W_own 3 1 200 rfl (by simp [lkH]) ?_
 refine zS (zA hln @cS) ?_
 refine W_loop (σ := Nat) (fun i => [(3, .osl 1 200 0 i), (7, .sl 4 (kxs l)), (8, .int .i64 l.length), (9, .int .i64 i)]) (fun i => [(1, [.int .i64 n, .sl 4 (kxs l)]), (200, strL ((knmL l).take i))]) (fun i => i ≤ l.length) (fun i => l.length - i) 0 (Nat.zero_le _) ?_ rfl ?_
 ·simp [subF, lk]
 ·intro i hi
  try simp only at hi ⊢
  by_cases hlt : i < l.length
  ·have dl : decide ((i : Int) < (l.length : Int)) = true := decide_eq_true (by omega)
   have ei : (i : Int).toNat = i := Int.toNat_natCast i
   have e1 : ((i : Int) + 1) = ((i + 1 : Nat) : Int) := by omega
   have hw : ((kxs l).drop (i * 4)).take 4 = kxC (l.getD i default) := fm_win (j := 0) kxC_len default hlt (Nat.le_refl _)
   have htk : strL ((knmL l).take i) ++ [.str (l.getD i default).nm] = strL ((knmL l).take (i + 1)) := by
    unfold strL
    rw [List.take_add_one, List.map_append]
    unfold knmL
    rw [List.getElem?_map, List.getElem?_eq_getElem hlt, List.getD_eq_getElem?_getD, List.getElem?_eq_getElem hlt]
    rfl
   have hl1 : (strL ((knmL l).take i)).length = i := by rw [strL_len, List.length_take, knmL_len]; omega
   have hpg := map_purge 200 (List.all_eq_true.1 (strL_rf ((knmL l).take (i + 1))))
   have hfz := map_frz 5 (kxC (l.getD i default)) (List.all_eq_true.1 (strL_rf ((knmL l).take (i + 1))))
   have hpF := map_purge 200 (kxC_rf (l.getD i default))
   have hcl := kxC_len (l.getD i default)
   have htf : (kxC (l.getD i default)).take 4 = kxC (l.getD i default) := rfl
   have hg0 : (kxC (l.getD i default)).getD 0 .undef = .str (l.getD i default).nm := rfl
   have hone : ((kxC (l.getD i default)).all DV.one) = true := List.all_eq_true.2 (kxC_one _)
   have hrf := kxC_rf (l.getD i default)
   have hrfa : ((kxC (l.getD i default)).all DV.rf) = true := List.all_eq_true.2 hrf
   generalize strL ((knmL l).take i) = Y at *
   generalize hZ : strL ((knmL l).take (i + 1)) = Z at *
   generalize (l.getD i default).nm = nm at *
   generalize kxC (l.getD i default) = C at *
   refine zS dl ?_
   refine wTs ?_
   refine zS (zA ei (zA hw (zA hlen (zA hone (zA hcl (zA htf (zA @List.drop_zero.{0} (zA @cS hg0)))))))) ?_
   refine ⟨by simp [DV.rf], ⟨hl1, by omega, by omega, fun h => h, by simp [DV.one]⟩, ?_⟩
   rw [htk, hpg, hpF]
   refine W_freeze 5 (cells := C) rfl hrfa ?_
   refine zS (zA e1 hfz) ?_
   exact ⟨i + 1, by omega, by omega, by simp [subF, lk, frz_osl_ne], by rw [hZ]⟩
  ·have dl : decide ((i : Int) < (l.length : Int)) = false := decide_eq_false (by omega)
   obtain rfl : i = l.length := by omega
   have htl : (knmL l).take l.length = knmL l := List.take_of_length_le (by rw [knmL_len]; exact Nat.le_refl _)
   rw [htl]
   have hrf := strL_rf (knmL l)
   have hsl : (strL (knmL l)).length = l.length := by rw [strL_len, knmL_len]
   generalize strL (knmL l) = Z at *
   refine W_freeze 200 (cells := Z) rfl hrf ?_
   have hfz : frz 200 Z (.osl 1 200 0 l.length) = .sl 1 Z := by
    simp [frz, hsl]
    rw [List.take_of_length_le (by omega)]
   refine zS (zA dl hfz) ?_
   refine W_cond rfl (fun h => by cases h) (fun _ => W_exit ?_)
   refine zR ?_
   exact W_ret (RetP_1 (.imm rfl))
theorem tColumn1_calls (k : Kx) (x : Tc) (hx : okN0 x.va) : PCalls Tryz.prog 105 [.agg (cxC x), .el (kxC k) 0] (.bool (!fitB k x)) := by
 have cf := tFits_calls k x hx
 have hcx : (DV.agg (cxC x)).cells? = some (cxC x) := rfl
 have l4 := kxC_len k
 have l5 := cxC_len x
 have t4 : (kxC k).take 4 = kxC k := rfl
 have t5 : (cxC x).take 5 = cxC x := rfl
 refine PCalls_of istColumn1 (by simp [fntColumn1]) ?_
 unfold codetColumn1
 refine zS (zA hcx (zA l4 (zA l5 (zA t4 (zA t5 (zA @cS @List.drop_zero.{0})))))) ?_
 refine callC_pure cf (by simp [DV.rf_agg, List.all_eq_true.2 (kxC_rf k), List.all_eq_true.2 (cxC_rf x)]) ?_
 refine zR ?_
 exact W_ret (RetP_1 (.imm rfl))
theorem call_c1 : Callable Tryz.prog 105 := ⟨_, Tryz.func105, by kernel_rfl, by kernel_rfl⟩
theorem call_v1 : Callable Tryz.prog 60 := ⟨_, Tryz.func60, by kernel_rfl, by kernel_rfl⟩
theorem tClm_calls (k : Kx) (n : Int) (hk1 : k.le.length ≤ 1000000) (hk2 : k.ce.length ≤ 1000000) (hk : ∀ c ∈ k.ce, okN0 c.va) : PCalls Tryz.prog 61 [.agg (kxC k), .int .i64 n] (.bool (colB k n)) := by
 have hck : (DV.agg (kxC k)).cells? = some (kxC k) := rfl
 have l4 := kxC_len k
 have m1 : (kxC k).getD 1 .undef = .int .i64 k.kd := rfl
 have m2 : (kxC k).getD 2 .undef = .sl 1 (strL k.le) := rfl
 have m3 : (kxC k).getD 3 .undef = .sl 5 (cxs k.ce) := rfl
 have hll := strL_len k.le
 have hcl : (cxs k.ce).length / 5 = k.ce.length := by rw [cxs_len]; omega
 have hCrf := kxC_rf k
 have hCa : (kxC k).all DV.rf = true := List.all_eq_true.2 hCrf
 have hone : (kxC k).all DV.one = true := List.all_eq_true.2 (kxC_one k)
 have cc := slCFCell_calls k.ce hk2 (fun x => !fitB k x) (.clo 105 [.el (kxC k) 0]) 105 [.el (kxC k) 0] (.inl rfl) (by simp [DV.rf]) rfl call_c1 (fun x hx => tColumn1_calls k x (hk x hx))
 rw [any_not] at cc
 have hne : kxC k ≠ [] := by unfold kxC; simp
 generalize hC : kxC k = C at *
 obtain ⟨b1, d1⟩ : ∃ b, decide (k.kd = 1) = b := ⟨_, rfl⟩
 obtain ⟨b2, d2⟩ : ∃ b, decide (k.kd = 2) = b := ⟨_, rfl⟩
 obtain ⟨bl, dl⟩ : ∃ b, decide (0 < k.le.length) = b := ⟨_, rfl⟩
 obtain ⟨bm, dm⟩ : ∃ b, decide (k.le.length ≤ 32) = b := ⟨_, rfl⟩
 obtain ⟨bn, dn⟩ : ∃ b, decide ((k.ce.length : Int) = n) = b := ⟨_, rfl⟩
 have e1 : decide (¬ k.kd = 1) = !b1 := by rw [← d1]; simp
 have e2 : decide (¬ k.kd = 2) = !b2 := by rw [← d2]; simp
 have el : decide ((0 : Int) < (k.le.length : Int)) = bl := by rw [← dl]; exact decide_eq_decide.2 (by omega)
 have em : decide ((32 : Int) < (k.le.length : Int)) = !bm := by rw [← dm]; by_cases h : k.le.length ≤ 32 <;> simp [h] <;> omega
 have en : decide (¬ (k.ce.length : Int) = n) = !bn := by rw [← dn]; simp
 refine PCalls_of istClm (by simp [fntClm]) ?_
 unfold codetClm colB
 have hsh : shpB k n = ((b1 || b2) && !(b1 && bl) && bm && bn) := by unfold shpB; rw [d1, d2, dl, dm, dn]
 rw [hsh]
 refine zS (zA hck (zA hone @cS)) ?_
 refine ⟨⟨hne, hCrf⟩, ?_⟩
 by_cases hb : ((b1 || b2) && !(b1 && bl) && bm && bn) = true
 ·rw [hb, Bool.true_and]
  cases b1 <;> cases b2 <;> cases bl <;> cases bm <;> cases bn
  all_goals first
   | (exact absurd hb (by decide))
   | skip
  all_goals
   clear hb hsh
   refine zS (zA hck (zA hone (zA l4 (zA m1 (zA m2 (zA m3 (zA hll (zA hcl (zA d1 (zA e1 (zA e2 (zA el (zA em (zA en (zA @cS (zA @Bool.not_true @Bool.not_false)))))))))))))))) ?_
   refine wFs ?_
   clear d1 d2 dl dm dn e1 e2 el em en
   refine zS (zA l4 (zA m2 hll)) ?_
   refine W_loop (σ := Nat) (fun i => [(2, .el C 0), (40, .sl 1 (strL k.le)), (41, .int .i64 k.le.length), (42, .int .i64 i)]) (fun _ => []) (fun i => i ≤ k.le.length ∧ ∀ j, j < i → ixS (k.le.take j) (k.le.getD j []) < 0) (fun i => k.le.length - i) 0 ⟨Nat.zero_le _, by simp⟩ ?_ rfl ?_
   ·simp [subF, lk]
   ·rintro i ⟨hi, hall⟩
    try simp only at hi hall ⊢
    by_cases hlt : i < k.le.length
    ·have dl : decide ((i : Int) < (k.le.length : Int)) = true := decide_eq_true (by omega)
     have ei : (i : Int).toNat = i := Int.toNat_natCast i
     have e1 : ((i : Int) + 1) = ((i + 1 : Nat) : Int) := by omega
     have hg := strL_getD hlt
     have hts : (strL k.le).take i = strL (k.le.take i) := by unfold strL; rw [List.map_take]
     have cx := slContainsS_calls (k.le.take i) (k.le.getD i []) (by rw [List.length_take]; omega)
     have hno := @dstB_no k.le i hlt
     generalize hT : strL (k.le.take i) = T at *
     refine zS dl ?_
     refine wTs ?_
     refine zS (zA ei (zA hg (zA hll (zA l4 (zA m2 (zA hts (zA @Nat.mul_one (zA @Nat.zero_mul (zA @List.drop_zero.{0} @Nat.div_one))))))))) ?_
     refine cP cx ?_
     by_cases hx : ixS (k.le.take i) (k.le.getD i []) < 0
     ·have dx : decide (0 ≤ ixS (k.le.take i) (k.le.getD i [])) = false := decide_eq_false (by omega)
      refine zS dx ?_
      refine wFs ?_
      refine zS e1 ?_
      exact ⟨i + 1, ⟨by omega, fun j hj => by
       rcases Nat.lt_or_ge j i with h2 | h2
       ·exact hall j h2
       ·obtain rfl : j = i := by omega
        exact hx⟩, by omega, by simp [subF, lk]⟩
     ·have dx : decide (0 ≤ ixS (k.le.take i) (k.le.getD i [])) = true := decide_eq_true (by omega)
      rw [hno hx, Bool.false_and]
      refine zS dx ?_
      refine wT ?_
      refine zR ?_
      exact W_ret (RetP_1 (.imm rfl))
    ·have dl : decide ((i : Int) < (k.le.length : Int)) = false := decide_eq_false (by omega)
     rw [dstB_yes fun j hj => hall j (by omega)]
     refine zS dl ?_
     refine W_cond rfl (fun h => by cases h) (fun _ => W_exit ?_)
     refine zS (zA l4 (zA m3 @goW_mkf)) ?_
     refine ⟨List.all_eq_true.1 rfl, ?_⟩
     refine callC_pure cc (by simp [DV.rf]) ?_
     refine zS (zA @Bool.not_not @Bool.true_and) ?_
     exact W_ret (RetP_1 (.imm rfl))
 ·have hb' := Bool.eq_false_iff.2 hb
  rw [hb', Bool.false_and, Bool.false_and]
  cases b1 <;> cases b2 <;> cases bl <;> cases bm <;> cases bn
  all_goals first
   | (exact absurd rfl hb)
   | skip
  all_goals
   refine zS (zA hck (zA hone (zA l4 (zA m1 (zA m2 (zA m3 (zA hll (zA hcl (zA d1 (zA e1 (zA e2 (zA el (zA em (zA en (zA @cS (zA @Bool.not_true @Bool.not_false)))))))))))))))) ?_
   refine wT ?_
   refine zR ?_
   exact W_ret (RetP_1 (.imm rfl))
def okT (S : List Kx) : Prop := S.length ≤ 1000000 ∧ ∀ k ∈ S, k.nm.length ≤ 9223372036854775807 ∧ k.le.length ≤ 1000000 ∧ k.ce.length ≤ 1000000 ∧ ∀ c ∈ k.ce, okN0 c.va
theorem tValid1_calls (n : Int) (S : List Kx) (k : Kx) (hk1 : k.le.length ≤ 1000000) (hk2 : k.ce.length ≤ 1000000) (hk : ∀ c ∈ k.ce, okN0 c.va) : PCalls Tryz.prog 60 [.agg (kxC k), .el [.int .i64 n, .sl 4 (kxs S)] 0] (.bool (!colB k n)) := by
 have cc := tClm_calls k n hk1 hk2 hk
 have hck : (DV.agg (kxC k)).cells? = some (kxC k) := rfl
 have l4 := kxC_len k
 have t4 : (kxC k).take 4 = kxC k := rfl
 refine PCalls_of istValid1 (by simp [fntValid1]) ?_
 unfold codetValid1
 refine zS (zA hck (zA l4 (zA t4 (zA @cS @List.drop_zero.{0})))) ?_
 refine callC_pure cc (by simp [DV.rf_agg, List.all_eq_true.2 (kxC_rf k)]; rfl) ?_
 refine zR ?_
 exact W_ret (RetP_1 (.imm rfl))
theorem tVld_calls (n : Int) (S : List Kx) (h : okT S) : PCalls Tryz.prog 21 [.agg [.int .i64 n, .sl 4 (kxs S)]] (.bool (tabB n S)) := by
 obtain ⟨hl, hk⟩ := h
 have hln : (kxs S).length / 4 = S.length := by rw [kxs_len]; omega
 have hca : (DV.agg [.int .i64 n, .sl 4 (kxs S)]).cells? = some [.int .i64 n, .sl 4 (kxs S)] := rfl
 have hB : ([DV.int .i64 n, .sl 4 (kxs S)] ≠ [] ∧ ∀ d ∈ [DV.int .i64 n, .sl 4 (kxs S)], d.rf = true) := ⟨by simp, List.all_eq_true.1 rfl⟩
 have c1 := tColNames_calls n S hl
 have c2 := tNames_calls (knmL S) (by rw [knmL_len]; omega) (fun s hs => by
  unfold knmL at hs
  obtain ⟨f, hf, rfl⟩ := List.mem_map.1 hs
  exact (hk f hf).1)
 have c3 := slCFCol_calls S hl (fun k => !colB k n) (.clo 60 [.el [.int .i64 n, .sl 4 (kxs S)] 0]) 60 [.el [.int .i64 n, .sl 4 (kxs S)] 0] (.inl rfl) (by simp [DV.rf]) rfl call_v1 (fun k h => tValid1_calls n S k (hk k h).2.1 (hk k h).2.2.1 (hk k h).2.2.2)
 rw [any_not] at c3
 refine PCalls_of istVld (by simp [fntVld]) ?_
 unfold codetVld tabB
 obtain ⟨b0, d0⟩ : ∃ b, decide (0 ≤ n) = b := ⟨_, rfl⟩
 obtain ⟨b1, d1⟩ : ∃ b, decide (n ≤ 1024) = b := ⟨_, rfl⟩
 obtain ⟨b2, d2⟩ : ∃ b, decide (S.length ≤ 32) = b := ⟨_, rfl⟩
 have e2 : decide ((S.length : Int) ≤ 32) = b2 := by rw [← d2]; exact decide_eq_decide.2 (by omega)
 rw [d0, d1, d2]
 generalize namesB (knmL S) = b3 at *
 refine zS hca ?_
 refine ⟨hB.2, ?_⟩
 cases b0
 ·refine zS (zA hca (zA @cS (zA hln d0))) ?_
  exact W_ret (RetP_1 (.imm rfl))
 cases b1
 ·refine zS (zA hca (zA @cS (zA hln (zA d0 d1)))) ?_
  exact W_ret (RetP_1 (.imm rfl))
 cases b2
 ·refine zS (zA hca (zA @cS (zA hln (zA d0 (zA d1 e2))))) ?_
  exact W_ret (RetP_1 (.imm rfl))
 refine zS (zA hca (zA @cS (zA hln (zA d0 (zA d1 e2))))) ?_
 refine cP c1 ?_
 refine zR ?_
 refine cP c2 ?_
 cases b3
 ·refine zR ?_
  exact W_ret (RetP_1 (.imm rfl))
 refine zS @goW_mkf ?_
 refine ⟨List.all_eq_true.1 rfl, ?_⟩
 refine callC_pure c3 (by simp [DV.rf]) ?_
 refine zS @Bool.not_not ?_
 exact W_ret (RetP_1 (.imm rfl))
end Go.Proofs.YtjahkcgckiobkaaGreatDoor
namespace Go.Proofs.YtjahkcgckiobkaaGreatDoor
open Go Go.Dat Go.Proofs Go.RowKit Go.Shelf Nat32
theorem pFraction_calls (a b : Int) (ha : a.natAbs ≤ 1000000) (hb : b ≠ 0) (hb2 : b.natAbs ≤ 1000000) : PCalls Tryz.prog 39 [.int .i64 a, .int .i64 b] (Q (Rat.divInt a b)) := by
 have c1 := sFromInt_calls a (by omega) (by omega)
 have c2 := sFromInt_calls b (by omega) (by omega)
 have il1 : ∀ z : Int, z.natAbs ≤ 1000000 → il z ≤ 900 := fun z hz => Nat.le_trans (limbs_len.2 (show z.natAbs < 4294967296 ^ 1 by omega)) (by decide)
 have c3 := p_over_calls a b hb (il1 a ha) (il1 b hb2)
 refine PCalls_of ispFraction (by simp [fnpFraction]) ?_
 unfold codepFraction
 generalize Rat.divInt a b = r at *
 have hx3 : (xnC (qX r)).length = 3 := rfl
 have hcc : (Q r).cells? = some (xnC (qX r)) := rfl
 repeat (first | refine zP ?_ | refine cP c1 ?_ | refine cP c2 ?_ | refine cP c3 ?_ | exact zT)
 refine zS (zA hcc (zA hx3 @cS)) ?_
 exact W_ret (RetP_c rfl rfl rfl (.imm rfl))
def strsB (l : List Bs) : Bool := decide (l.length ≤ 40) && l.all fun s => decide (s.length ≤ 60)
theorem all_yes {α : Type} [Inhabited α] {p : α → Bool} {l : List α} (h : ∀ j, j < l.length → p (l.getD j default) = true) : l.all p = true := by
 rw [List.all_eq_true]
 intro x hx
 obtain ⟨i, hi, rfl⟩ := List.getElem_of_mem hx
 have := h i hi
 rw [List.getD_eq_getElem?_getD, List.getElem?_eq_getElem hi] at this
 simpa using this
theorem all_no {α : Type} [Inhabited α] {p : α → Bool} {l : List α} {i : Nat} (hi : i < l.length) (h : p (l.getD i default) = false) : l.all p = false := by
 rw [List.all_eq_false]
 exact ⟨_, memG hi, by rw [h]; decide⟩
theorem lt_strings_calls (l : List Bs) (hl : l.length ≤ 9223372036854775807) (hs : ∀ s ∈ l, s.length ≤ 9223372036854775807) : PCalls Tryz.prog 22 [.sl 1 (strL l)] (.bool (strsB l)) := by
 have hll := strL_len l
 refine PCalls_of islt_strings (by simp [fnlt_strings]) ?_
 unfold codelt_strings strsB
 by_cases h : l.length ≤ 40
 ·have d1 : decide ((40 : Int) < (l.length : Int)) = false := decide_eq_false (by omega)
  rw [decide_eq_true h, Bool.true_and]
  refine zS (zA hll d1) ?_
  refine wFs ?_
  refine zR ?_
  refine W_loop (σ := Nat) (fun i => [(0, .sl 1 (strL l)), (3, .int .i64 i)]) (fun _ => []) (fun i => i ≤ l.length ∧ ∀ j, j < i → (l.getD j []).length ≤ 60) (fun i => l.length - i) 0 ⟨Nat.zero_le _, by simp⟩ ?_ rfl ?_
  ·simp [subF, lk]
  ·rintro i ⟨hi, hall⟩
   try simp only at hi hall ⊢
   by_cases hlt : i < l.length
   ·have dl : decide ((i : Int) < (l.length : Int)) = true := decide_eq_true (by omega)
    have ei : (i : Int).toNat = i := Int.toNat_natCast i
    have e1 : ((i : Int) + 1) = ((i + 1 : Nat) : Int) := by omega
    have hg := strL_getD hlt
    by_cases hc : (l.getD i []).length ≤ 60
    ·have dc : decide ((60 : Int) < ((l.getD i []).length : Int)) = false := decide_eq_false (by omega)
     refine zS (zA dl hll) ?_
     refine wTs ?_
     refine zS (zA ei (zA hll (zA hg dc))) ?_
     refine wFs ?_
     refine zS e1 ?_
     exact ⟨i + 1, ⟨by omega, fun j hj => by
      rcases Nat.lt_or_ge j i with h2 | h2
      ·exact hall j h2
      ·obtain rfl : j = i := by omega
       exact hc⟩, by omega, by simp [subF, lk]⟩
    ·have dc : decide ((60 : Int) < ((l.getD i []).length : Int)) = true := decide_eq_true (by omega)
     rw [all_no (p := fun s : Bs => decide (s.length ≤ 60)) hlt (decide_eq_false hc)]
     refine zS (zA dl hll) ?_
     refine wTs ?_
     refine zS (zA ei (zA hll (zA hg dc))) ?_
     refine wT ?_
     refine zR ?_
     exact W_ret (RetP_1 (.imm rfl))
   ·have dl : decide ((i : Int) < (l.length : Int)) = false := decide_eq_false (by omega)
    rw [all_yes (p := fun s : Bs => decide (s.length ≤ 60)) fun j hj => decide_eq_true (hall j (by omega))]
    refine zS (zA dl hll) ?_
    refine W_cond rfl (fun h => by cases h) (fun _ => W_exit ?_)
    refine zR ?_
    exact W_ret (RetP_1 (.imm rfl))
 ·have d1 : decide ((40 : Int) < (l.length : Int)) = true := decide_eq_true (by omega)
  rw [decide_eq_false h, Bool.false_and]
  refine zS (zA hll d1) ?_
  refine wT ?_
  refine zR ?_
  exact W_ret (RetP_1 (.imm rfl))
def ligX (x : XN) : Bool := lightB x.2.1 x.2.2
end Go.Proofs.YtjahkcgckiobkaaGreatDoor
namespace Go.Proofs.YtjahkcgckiobkaaGreatDoor
open Go Go.Dat Go.Proofs Go.RowKit Nat32
def celsB (l : List Tc) : Bool := decide (l.length ≤ 40) && l.all fun c => ligX c.va
theorem lt_cells_calls (l : List Tc) (hl : l.length ≤ 9223372036854775807) : PCalls Tryz.prog 33 [.sl 5 (cxs l)] (.bool (celsB l)) := by
 have hln : (cxs l).length / 5 = l.length := by rw [cxs_len]; omega
 have hlen := cxs_len l
 refine PCalls_of islt_cells (by simp [fnlt_cells]) ?_
 unfold codelt_cells celsB
 by_cases h : l.length ≤ 40
 ·have d1 : decide ((40 : Int) < (l.length : Int)) = false := decide_eq_false (by omega)
  rw [decide_eq_true h, Bool.true_and]
  refine zS (zA hln d1) ?_
  refine wFs ?_
  refine zR ?_
  refine W_loop (σ := Nat) (fun i => [(0, .sl 5 (cxs l)), (3, .int .i64 i)]) (fun _ => []) (fun i => i ≤ l.length ∧ ∀ j, j < i → ligX (l.getD j default).va = true) (fun i => l.length - i) 0 ⟨Nat.zero_le _, by simp⟩ ?_ rfl ?_
  ·simp [subF, lk]
  ·rintro i ⟨hi, hall⟩
   try simp only at hi hall ⊢
   by_cases hlt : i < l.length
   ·have dl : decide ((i : Int) < (l.length : Int)) = true := decide_eq_true (by omega)
    have ei : (i : Int).toNat = i := Int.toNat_natCast i
    have e1 : ((i : Int) + 1) = ((i + 1 : Nat) : Int) := by omega
    have hg1 : ((cxs l).drop (i * 5 + 1)).take 3 = xnC (l.getD i default).va := fm_win (j := 1) cxC_len default hlt (by decide)
    have cl : PCalls Tryz.prog 38 [.agg (xnC (l.getD i default).va)] (.bool (ligX (l.getD i default).va)) := mdLight_calls (l.getD i default).va.1 (l.getD i default).va.2.1 (l.getD i default).va.2.2
    refine zS (zA dl hln) ?_
    refine wTs ?_
    refine zS (zA ei (zA hlen hg1)) ?_
    refine cP cl ?_
    cases hc : ligX (l.getD i default).va
    ·rw [all_no (p := fun c : Tc => ligX c.va) hlt hc]
     refine zR ?_
     refine wT ?_
     refine zR ?_
     exact W_ret (RetP_1 (.imm rfl))
    ·refine zR ?_
     refine wFs ?_
     refine zS e1 ?_
     exact ⟨i + 1, ⟨by omega, fun j hj => by
      rcases Nat.lt_or_ge j i with h2 | h2
      ·exact hall j h2
      ·obtain rfl : j = i := by omega
       exact hc⟩, by omega, by simp [subF, lk]⟩
   ·have dl : decide ((i : Int) < (l.length : Int)) = false := decide_eq_false (by omega)
    rw [all_yes (p := fun c : Tc => ligX c.va) fun j hj => hall j (by omega)]
    refine zS (zA dl hln) ?_
    refine W_cond rfl (fun h => by cases h) (fun _ => W_exit ?_)
    refine zR ?_
    exact W_ret (RetP_1 (.imm rfl))
 ·have d1 : decide ((40 : Int) < (l.length : Int)) = true := decide_eq_true (by omega)
  rw [decide_eq_false h, Bool.false_and]
  refine zS (zA hln d1) ?_
  refine wT ?_
  refine zR ?_
  exact W_ret (RetP_1 (.imm rfl))
def kxB (k : Kx) : Bool := decide (k.nm.length ≤ 60) && strsB k.le && celsB k.ce
def tabL (S : List Kx) : Bool := decide (S.length ≤ 40) && S.all kxB
theorem lt_light_calls (n : Int) (S : List Kx) (hl : S.length ≤ 9223372036854775807) (hs : ∀ k ∈ S, (k.le.length ≤ 9223372036854775807 ∧ ∀ s ∈ k.le, s.length ≤ 9223372036854775807) ∧ k.ce.length ≤ 9223372036854775807) : PCalls Tryz.prog 28 [.agg [.int .i64 n, .sl 4 (kxs S)]] (.bool (tabL S)) := by
 have hln : (kxs S).length / 4 = S.length := by rw [kxs_len]; omega
 have hlen := kxs_len S
 have hca : (DV.agg [.int .i64 n, .sl 4 (kxs S)]).cells? = some [.int .i64 n, .sl 4 (kxs S)] := rfl
 refine PCalls_of islt_light (by simp [fnlt_light]) ?_
 unfold codelt_light tabL
 by_cases h : S.length ≤ 40
 ·have d1 : decide ((40 : Int) < (S.length : Int)) = false := decide_eq_false (by omega)
  rw [decide_eq_true h, Bool.true_and]
  refine zS (zA hca (zA @cS (zA hln d1))) ?_
  refine wFs ?_
  refine zR ?_
  refine W_loop (σ := Nat) (fun i => [(1, .ptr 1 0), (3, .int .i64 i)]) (fun _ => [(1, [.int .i64 n, .sl 4 (kxs S)])]) (fun i => i ≤ S.length ∧ ∀ j, j < i → kxB (S.getD j default) = true) (fun i => S.length - i) 0 ⟨Nat.zero_le _, by simp⟩ ?_ rfl ?_
  ·simp [subF, lk]
  ·rintro i ⟨hi, hall⟩
   try simp only at hi hall ⊢
   by_cases hlt : i < S.length
   ·have dl : decide ((i : Int) < (S.length : Int)) = true := decide_eq_true (by omega)
    have ei : (i : Int).toNat = i := Int.toNat_natCast i
    have e1 : ((i : Int) + 1) = ((i + 1 : Nat) : Int) := by omega
    have hg0 : (kxs S).getD (i * 4) .undef = .str (S.getD i default).nm := fm_at (j := 0) kxC_len default hlt (by decide) .undef
    have hg2 : (kxs S).getD (i * 4 + 2) .undef = .sl 1 (strL (S.getD i default).le) := fm_at (j := 2) kxC_len default hlt (by decide) .undef
    have hg3 : (kxs S).getD (i * 4 + 3) .undef = .sl 5 (cxs (S.getD i default).ce) := fm_at (j := 3) kxC_len default hlt (by decide) .undef
    have hm := hs _ (memG hlt)
    have cs := lt_strings_calls (S.getD i default).le hm.1.1 hm.1.2
    have cl := lt_cells_calls (S.getD i default).ce hm.2
    have hno := fun h => all_no (p := kxB) hlt h
    have hnx : kxB (S.getD i default) = true → ∀ j, j < i + 1 → kxB (S.getD j default) = true := fun h j hj => by
     rcases Nat.lt_or_ge j i with h2 | h2
     ·exact hall j h2
     ·obtain rfl : j = i := by omega
      exact h
    generalize S.getD i default = f at *
    refine zS (zA @cS (zA dl hln)) ?_
    refine wTs ?_
    by_cases hc : f.nm.length ≤ 60
    ·have dc : decide ((60 : Int) < (f.nm.length : Int)) = false := decide_eq_false (by omega)
     refine zS (zA @cS (zA ei (zA hlen (zA hg0 (zA hg2 dc))))) ?_
     refine cP cs ?_
     cases hb : strsB f.le
     ·have hf : kxB f = false := by unfold kxB; rw [hb]; simp
      rw [hno hf]
      refine zR ?_
      refine wT ?_
      refine zR ?_
      exact W_ret (RetP_1 (.imm rfl))
     ·refine zS (zA @cS (zA ei (zA hlen hg3))) ?_
      refine cP cl ?_
      cases hb2 : celsB f.ce
      ·have hf : kxB f = false := by unfold kxB; rw [hb2]; simp
       rw [hno hf]
       refine zR ?_
       refine wT ?_
       refine zR ?_
       exact W_ret (RetP_1 (.imm rfl))
      ·have hf : kxB f = true := by unfold kxB; rw [hb, hb2, decide_eq_true hc]; rfl
       refine zR ?_
       refine wFs ?_
       refine zS e1 ?_
       exact ⟨i + 1, ⟨by omega, hnx hf⟩, by omega, by simp [subF, lk]⟩
    ·have dc : decide ((60 : Int) < (f.nm.length : Int)) = true := decide_eq_true (by omega)
     have hf : kxB f = false := by unfold kxB; rw [decide_eq_false hc]; simp
     rw [hno hf]
     refine zS (zA @cS (zA ei (zA hlen (zA hg0 (zA hg2 dc))))) ?_
     refine wT ?_
     refine zR ?_
     exact W_ret (RetP_1 (.imm rfl))
   ·have dl : decide ((i : Int) < (S.length : Int)) = false := decide_eq_false (by omega)
    rw [all_yes (p := kxB) fun j hj => hall j (by omega)]
    refine zS (zA @cS (zA dl hln)) ?_
    refine W_cond rfl (fun h => by cases h) (fun _ => W_exit ?_)
    refine zR ?_
    exact W_ret (RetP_1 (.imm rfl))
 ·have d1 : decide ((40 : Int) < (S.length : Int)) = true := decide_eq_true (by omega)
  rw [decide_eq_false h, Bool.false_and]
  refine zS (zA hca (zA @cS (zA hln d1))) ?_
  refine wT ?_
  refine zR ?_
  exact W_ret (RetP_1 (.imm rfl))
def zeuB (x : XN) : Bool := !x.1 && decide (x.2.1 = []) && decide (x.2.2 = [])
theorem pSameZ (x : XN) (hx : okN0 x) : PCalls Tryz.prog 20 [.agg (xnC x), .agg [.bool false, .nils, .nils]] (.bool (zeuB x)) := by
 refine PCalls_wk (ds' := [.agg (xnC x), .agg (xnC (false, [], []))]) (.cons (WkD.refl _) (.cons (WkD.agg (.cons (WkD.refl _) (.cons (WkD.nils 1) (.cons (WkD.nils 1) .nil)))) .nil)) ?_
 have c1 := rSame_calls x.2.1 [] (by have := hx.2.2.1; omega) (by decide)
 have c2 := rSame_calls x.2.2 [] (by have := hx.2.2.2; omega) (by decide)
 have hcc : (DV.agg (xnC x)).cells? = some (xnC x) := rfl
 have hcz : (DV.agg (xnC (false, [], []))).cells? = some (xnC (false, [], [])) := rfl
 have n0 : (xnC x).getD 0 .undef = .bool x.1 := rfl
 have n2 : (xnC x).getD 2 .undef = .sl 1 (us x.2.2) := rfl
 have nt : (xnC x).take 2 = [.bool x.1, .sl 1 (us x.2.1)] := rfl
 have z2 : (xnC (false, [], [])).getD 2 .undef = .sl 1 (us []) := rfl
 have zt : (xnC (false, [], [])).take 2 = [.bool false, .sl 1 (us [])] := rfl
 have l3 : (xnC x).length = 3 := rfl
 have l3z : (xnC (false, [], [])).length = 3 := rfl
 have cs : PCalls Tryz.prog 56 [.agg [.bool x.1, .sl 1 (us x.2.1)], .agg [.bool false, .sl 1 (us [])]] (.bool (!x.1 && decide (x.2.1 = []))) := by
  refine PCalls_of issSame (by simp [fnsSame]) ?_
  unfold codesSame
  generalize us x.2.1 = a at *
  generalize us ([] : List Nat) = b at *
  have b1 : (false == false) = true := rfl
  have b2 : (true == false) = false := rfl
  cases x.1
  ·refine zS (zA @cS b1) ?_
   refine cP c1 ?_
   refine zS (zA @Bool.not_false @Bool.true_and) ?_
   exact W_ret (RetP_1 (.imm rfl))
  ·refine zS (zA @cS b2) ?_
   exact W_ret (RetP_1 (.imm rfl))
 refine PCalls_of ispSame (by simp [fnpSame]) ?_
 unfold codepSame zeuB
 generalize xnC x = U at *
 generalize xnC (false, [], []) = V at *
 generalize (!x.1 && decide (x.2.1 = [])) = b at *
 refine zS (zA hcc (zA hcz (zA n2 (zA nt (zA z2 (zA zt (zA l3 (zA l3z (zA @cS @List.drop_zero.{0}))))))))) ?_
 refine cP cs ?_
 cases b
 ·refine zR ?_
  exact W_ret (RetP_1 (.imm rfl))
 ·refine zS (zA n2 (zA z2 (zA l3 (zA l3z @cS)))) ?_
  refine cP c2 ?_
  refine zS @Bool.true_and ?_
  exact W_ret (RetP_1 (.imm rfl))
def fitU (k : Kx) (x : Tc) : Bool :=
 if x.mi then zeuB x.va && decide (x.lv = 0) else if k.kd = 1 then vldQ x.va.1 x.va.2.1 x.va.2.2 && decide (x.lv = 0) else zeuB x.va && decide (0 ≤ x.lv) && decide (x.lv < k.le.length)
theorem uFits_calls (k : Kx) (x : Tc) (hx : okN0 x.va) : PCalls Tryz.prog 107 [.agg (kxC k), .agg (cxC x)] (.bool (fitU k x)) := by
 have cz := pSameZ x.va hx
 obtain ⟨u1, u2, u3, u4⟩ := hx
 have cv : PCalls Tryz.prog 93 [.agg (xnC x.va)] (.bool (vldQ x.va.1 x.va.2.1 x.va.2.2)) := pValid_calls _ _ _ (by omega) (by omega) u1 u2
 have hck : (DV.agg (kxC k)).cells? = some (kxC k) := rfl
 have hcx : (DV.agg (cxC x)).cells? = some (cxC x) := rfl
 have l4 := kxC_len k
 have l5 := cxC_len x
 have n0 : (cxC x).getD 0 .undef = .bool x.mi := rfl
 have n1 : ((cxC x).drop 1).take 3 = xnC x.va := rfl
 have n4 : (cxC x).getD 4 .undef = .int .i64 x.lv := rfl
 have m1 : (kxC k).getD 1 .undef = .int .i64 k.kd := rfl
 have m2 : (kxC k).getD 2 .undef = .sl 1 (strL k.le) := rfl
 have hll := strL_len k.le
 refine PCalls_of isuFits (by simp [fnuFits]) ?_
 unfold codeuFits fitU
 generalize vldQ x.va.1 x.va.2.1 x.va.2.2 = v at *
 generalize zeuB x.va = z at *
 obtain ⟨b1, d1⟩ : ∃ b, decide (k.kd = 1) = b := ⟨_, rfl⟩
 obtain ⟨b0, d0⟩ : ∃ b, decide (0 ≤ x.lv) = b := ⟨_, rfl⟩
 obtain ⟨bl, dl⟩ : ∃ b, decide (x.lv = 0) = b := ⟨_, rfl⟩
 have hk1 : (if k.kd = 1 then v && decide (x.lv = 0) else z && decide (0 ≤ x.lv) && decide (x.lv < k.le.length)) = if b1 = true then v && bl else z && b0 && decide (x.lv < k.le.length) := by
  rw [← d1, d0, dl]
  by_cases h : k.kd = 1 <;> simp [h]
 rw [hk1, dl]
 refine zS (zA hck (zA hcx (zA l4 (zA l5 (zA n0 (zA n1 (zA n4 (zA m1 (zA m2 (zA hll (zA d1 (zA d0 (zA dl (zA @cS @List.drop_zero.{0})))))))))))))) ?_
 refine cP cz ?_
 cases hm : x.mi
 all_goals rw [hm] at n0
 ·have hif : (if (false : Bool) = true then z && bl else (if b1 = true then v && bl else z && b0 && decide (x.lv < k.le.length))) = (if b1 = true then v && bl else z && b0 && decide (x.lv < k.le.length)) := rfl
  rw [hif]
  cases b1
  ·have hi2 : (if (false : Bool) = true then v && bl else z && b0 && decide (x.lv < k.le.length)) = (z && b0 && decide (x.lv < k.le.length)) := rfl
   rw [hi2]
   cases z <;> cases b0
   all_goals
    refine zS (zA hck (zA hcx (zA l4 (zA l5 (zA n0 (zA n1 (zA n4 (zA m1 (zA m2 (zA hll (zA d1 (zA d0 (zA dl (zA @cS @List.drop_zero.{0})))))))))))))) ?_
    refine wF ?_
    refine zS (zA hck (zA hcx (zA l4 (zA l5 (zA n0 (zA n1 (zA n4 (zA m1 (zA m2 (zA hll (zA d1 (zA d0 (zA dl (zA @cS @List.drop_zero.{0})))))))))))))) ?_
    refine wFs ?_
    refine zS (zA hck (zA hcx (zA l4 (zA l5 (zA n0 (zA n1 (zA n4 (zA m1 (zA m2 (zA hll (zA d1 (zA d0 (zA dl (zA @cS @List.drop_zero.{0})))))))))))))) ?_
    exact W_ret (RetP_1 (.imm rfl))
  ·have hi2 : (if (true : Bool) = true then v && bl else z && b0 && decide (x.lv < k.le.length)) = (v && bl) := rfl
   rw [hi2]
   cases v
   all_goals
    refine zS (zA hck (zA hcx (zA l4 (zA l5 (zA n0 (zA n1 (zA n4 (zA m1 (zA m2 (zA hll (zA d1 (zA d0 (zA dl (zA @cS @List.drop_zero.{0})))))))))))))) ?_
    refine wF ?_
    refine zS (zA hck (zA hcx (zA l4 (zA l5 (zA n0 (zA n1 (zA n4 (zA m1 (zA m2 (zA hll (zA d1 (zA d0 (zA dl (zA @cS @List.drop_zero.{0})))))))))))))) ?_
    refine wT ?_
    refine zS (zA hck (zA hcx (zA l4 (zA l5 (zA n0 (zA n1 (zA n4 (zA m1 (zA m2 (zA hll (zA d1 (zA d0 (zA dl (zA @cS @List.drop_zero.{0})))))))))))))) ?_
    refine cP cv ?_
    refine zS (zA hck (zA hcx (zA l4 (zA l5 (zA n0 (zA n1 (zA n4 (zA m1 (zA m2 (zA hll (zA d1 (zA d0 (zA dl (zA @cS @List.drop_zero.{0})))))))))))))) ?_
    exact W_ret (RetP_1 (.imm rfl))
 ·have hif : (if (true : Bool) = true then z && bl else (if b1 = true then v && bl else z && b0 && decide (x.lv < k.le.length))) = (z && bl) := rfl
  rw [hif]
  cases z
  all_goals
   refine zS (zA hck (zA hcx (zA l4 (zA l5 (zA n0 (zA n1 (zA n4 (zA m1 (zA m2 (zA hll (zA d1 (zA d0 (zA dl (zA @cS @List.drop_zero.{0})))))))))))))) ?_
   refine wT ?_
   refine zS (zA hck (zA hcx (zA l4 (zA l5 (zA n0 (zA n1 (zA n4 (zA m1 (zA m2 (zA hll (zA d1 (zA d0 (zA dl (zA @cS @List.drop_zero.{0})))))))))))))) ?_
   exact W_ret (RetP_1 (.imm rfl))
end Go.Proofs.YtjahkcgckiobkaaGreatDoor
