/- Lemmas of the walk; no conditions beyond those that each states. -/
import Derived.Test.YtakchfljhihdmaaDoorT3
set_option linter.unusedSimpArgs false
set_option linter.unusedVariables false
set_option linter.unnecessarySimpa false
namespace Go.Proofs.YtakchfljhihdmaaDoor
open Go Go.Dat Go.Proofs Nat32

theorem sToInt_calls (neg : Bool) (a : List Nat) (ha : a.length ≤ 900) (la : lim a) : PCalls Tryd.prog 20 [X neg a] (toIntR (iv neg a)) := by
  have cv := sTake_calls neg a (by omega) la
  have l1 := iv_len la neg
  refine PCalls_of issToInt (by simp [fnsToInt]) ?_
  unfold codesToInt toIntR
  generalize iv neg a = z at *
  have cu := rUint_calls (limbs z.natAbs) (by omega) (lim_limbs _)
  rw [vn_limbs] at cu
  unfold uintR at cu
  by_cases hl : (limbs z.natAbs).length > 2
  · rw [if_pos hl] at cu
    have hb : ¬ z.natAbs < 18446744073709551616 := fun h => by
      have := limbs_len.2 (show z.natAbs < 4294967296 ^ 2 from h)
      omega
    rw [if_neg (by omega)]
    repeat (first | (refine W_seq ?_) | (refine W_reg ?_) | (refine W_regd ?_) | (refine W_block ?_) | (refine And.intro (by omega) ?_) | simp (config := {maxSteps := 1000000}) (disch := omega) only [cA, cB, lk, lkH, Dst.onT, Dst.onX, Dst.slot, setF, setH, mapF, mapH, initF, binE, unE, cnt, boundE, newsE, freshE, opE, rmH, blkQ, frz_us, Nat.reduceEqDiff, Nat.reduceLT, Nat.reduceAdd, ↓reduceIte, reduceCtorEq, Nat.reduceLeDiff, X, I, cS, nbsToInt] | (refine callC_pure (cv) rfl ?_) | (refine callC_pure (cu) rfl ?_) | exact W_ret (RetP_1 (.imm rfl)) | exact W_ret (RetP_c rfl rfl rfl (.imm rfl)))
    refine W_cond rfl (fun _ => ?_) (fun h => by cases h)
    repeat (first | (refine W_seq ?_) | (refine W_reg ?_) | (refine W_regd ?_) | (refine W_block ?_) | (refine And.intro (by omega) ?_) | simp (config := {maxSteps := 1000000}) (disch := omega) only [cA, cB, lk, lkH, Dst.onT, Dst.onX, Dst.slot, setF, setH, mapF, mapH, initF, binE, unE, cnt, boundE, newsE, freshE, opE, rmH, blkQ, frz_us, Nat.reduceEqDiff, Nat.reduceLT, Nat.reduceAdd, ↓reduceIte, reduceCtorEq, Nat.reduceLeDiff])
    exact W_ret (RetP_2 (.imm rfl) (.imm rfl))
  · rw [if_neg hl] at cu
    have hb := limbs_le2 (show (limbs z.natAbs).length ≤ 2 by omega)
    by_cases hg : 9223372036854775808 < z.natAbs
    · have dg : decide (9223372036854775808 < (z.natAbs : Int)) = true := decide_eq_true (by omega)
      rw [if_neg (by omega)]
      (replace dg := Hid.mk dg)
      repeat (first | (refine W_seq ?_) | (refine W_reg ?_) | (refine W_regd ?_) | (refine W_block ?_) | (refine And.intro (by omega) ?_) | simp (config := {maxSteps := 1000000}) (disch := omega) only [cA, cB, lk, lkH, Dst.onT, Dst.onX, Dst.slot, setF, setH, mapF, mapH, initF, binE, unE, cnt, boundE, newsE, freshE, opE, rmH, blkQ, frz_us, Nat.reduceEqDiff, Nat.reduceLT, Nat.reduceAdd, ↓reduceIte, reduceCtorEq, Nat.reduceLeDiff, X, I, cS, nbsToInt, dg.out] | (refine callC_pure (cv) rfl ?_) | (refine callC_pure (cu) rfl ?_) | exact W_ret (RetP_1 (.imm rfl)) | exact W_ret (RetP_c rfl rfl rfl (.imm rfl)))
      refine W_cond rfl (fun _ => ?_) (fun h => by cases h)
      repeat (first | (refine W_seq ?_) | (refine W_reg ?_) | (refine W_regd ?_) | (refine W_block ?_) | (refine And.intro (by omega) ?_) | simp (config := {maxSteps := 1000000}) (disch := omega) only [cA, cB, lk, lkH, Dst.onT, Dst.onX, Dst.slot, setF, setH, mapF, mapH, initF, binE, unE, cnt, boundE, newsE, freshE, opE, rmH, blkQ, frz_us, Nat.reduceEqDiff, Nat.reduceLT, Nat.reduceAdd, ↓reduceIte, reduceCtorEq, Nat.reduceLeDiff])
      exact W_ret (RetP_2 (.imm rfl) (.imm rfl))
    · have dg : decide (9223372036854775808 < (z.natAbs : Int)) = false := decide_eq_false (by omega)
      by_cases he : z.natAbs = 9223372036854775808
      · have de : decide ((z.natAbs : Int) = 9223372036854775808) = true := decide_eq_true (by omega)
        by_cases hz : z < 0
        · have dz : decide (z < 0) = true := decide_eq_true hz
          rw [if_pos (by omega)]
          obtain rfl : z = -9223372036854775808 := by omega
          (replace dg := Hid.mk dg; replace de := Hid.mk de; replace dz := Hid.mk dz)
          repeat (first | (refine W_seq ?_) | (refine W_reg ?_) | (refine W_regd ?_) | (refine W_block ?_) | (refine And.intro (by omega) ?_) | simp (config := {maxSteps := 1000000}) (disch := omega) only [cA, cB, lk, lkH, Dst.onT, Dst.onX, Dst.slot, setF, setH, mapF, mapH, initF, binE, unE, cnt, boundE, newsE, freshE, opE, rmH, blkQ, frz_us, Nat.reduceEqDiff, Nat.reduceLT, Nat.reduceAdd, ↓reduceIte, reduceCtorEq, Nat.reduceLeDiff, X, I, cS, nbsToInt, dg.out, de.out, dz.out] | (refine callC_pure (cv) rfl ?_) | (refine callC_pure (cu) rfl ?_) | exact W_ret (RetP_1 (.imm rfl)) | exact W_ret (RetP_c rfl rfl rfl (.imm rfl)))
          refine W_cond rfl (fun h => by cases h) (fun _ => ?_)
          repeat (first | (refine W_seq ?_) | (refine W_reg ?_) | (refine W_regd ?_) | (refine W_block ?_) | (refine And.intro (by omega) ?_) | simp (config := {maxSteps := 1000000}) (disch := omega) only [cA, cB, lk, lkH, Dst.onT, Dst.onX, Dst.slot, setF, setH, mapF, mapH, initF, binE, unE, cnt, boundE, newsE, freshE, opE, rmH, blkQ, frz_us, Nat.reduceEqDiff, Nat.reduceLT, Nat.reduceAdd, ↓reduceIte, reduceCtorEq, Nat.reduceLeDiff, cS, de.out])
          refine W_cond rfl (fun _ => ?_) (fun h => by cases h)
          repeat (first | (refine W_seq ?_) | (refine W_reg ?_) | (refine W_regd ?_) | (refine W_block ?_) | (refine And.intro (by omega) ?_) | simp (config := {maxSteps := 1000000}) (disch := omega) only [cA, cB, lk, lkH, Dst.onT, Dst.onX, Dst.slot, setF, setH, mapF, mapH, initF, binE, unE, cnt, boundE, newsE, freshE, opE, rmH, blkQ, frz_us, Nat.reduceEqDiff, Nat.reduceLT, Nat.reduceAdd, ↓reduceIte, reduceCtorEq, Nat.reduceLeDiff])
          exact W_ret (RetP_2 (.imm rfl) (.imm rfl))
        · have dz : decide (z < 0) = false := decide_eq_false hz
          rw [if_neg (by omega)]
          (replace dg := Hid.mk dg; replace de := Hid.mk de; replace dz := Hid.mk dz)
          repeat (first | (refine W_seq ?_) | (refine W_reg ?_) | (refine W_regd ?_) | (refine W_block ?_) | (refine And.intro (by omega) ?_) | simp (config := {maxSteps := 1000000}) (disch := omega) only [cA, cB, lk, lkH, Dst.onT, Dst.onX, Dst.slot, setF, setH, mapF, mapH, initF, binE, unE, cnt, boundE, newsE, freshE, opE, rmH, blkQ, frz_us, Nat.reduceEqDiff, Nat.reduceLT, Nat.reduceAdd, ↓reduceIte, reduceCtorEq, Nat.reduceLeDiff, X, I, cS, nbsToInt, dg.out, de.out, dz.out] | (refine callC_pure (cv) rfl ?_) | (refine callC_pure (cu) rfl ?_) | exact W_ret (RetP_1 (.imm rfl)) | exact W_ret (RetP_c rfl rfl rfl (.imm rfl)))
          refine W_cond rfl (fun _ => ?_) (fun h => by cases h)
          repeat (first | (refine W_seq ?_) | (refine W_reg ?_) | (refine W_regd ?_) | (refine W_block ?_) | (refine And.intro (by omega) ?_) | simp (config := {maxSteps := 1000000}) (disch := omega) only [cA, cB, lk, lkH, Dst.onT, Dst.onX, Dst.slot, setF, setH, mapF, mapH, initF, binE, unE, cnt, boundE, newsE, freshE, opE, rmH, blkQ, frz_us, Nat.reduceEqDiff, Nat.reduceLT, Nat.reduceAdd, ↓reduceIte, reduceCtorEq, Nat.reduceLeDiff])
          exact W_ret (RetP_2 (.imm rfl) (.imm rfl))
      · have de : decide ((z.natAbs : Int) = 9223372036854775808) = false := decide_eq_false (by omega)
        rw [if_pos (by omega)]
        by_cases hz : z < 0
        · have dz : decide (z < 0) = true := decide_eq_true hz
          have e1 : IntKind.i64.wrap (-(IntKind.i64.wrap (z.natAbs : Int))) = z := by rw [IntKind.wrap_i64, IntKind.wrap_i64]; omega
          have e2 : 0 - (z.natAbs : Int) = z := by omega
          (replace dg := Hid.mk dg; replace de := Hid.mk de; replace dz := Hid.mk dz)
          repeat (first | (refine W_seq ?_) | (refine W_reg ?_) | (refine W_regd ?_) | (refine W_block ?_) | (refine And.intro (by omega) ?_) | simp (config := {maxSteps := 1000000}) (disch := omega) only [cA, cB, lk, lkH, Dst.onT, Dst.onX, Dst.slot, setF, setH, mapF, mapH, initF, binE, unE, cnt, boundE, newsE, freshE, opE, rmH, blkQ, frz_us, Nat.reduceEqDiff, Nat.reduceLT, Nat.reduceAdd, ↓reduceIte, reduceCtorEq, Nat.reduceLeDiff, X, I, cS, nbsToInt, dg.out, de.out, dz.out] | (refine callC_pure (cv) rfl ?_) | (refine callC_pure (cu) rfl ?_) | exact W_ret (RetP_1 (.imm rfl)) | exact W_ret (RetP_c rfl rfl rfl (.imm rfl)))
          refine W_cond rfl (fun h => by cases h) (fun _ => ?_)
          repeat (first | (refine W_seq ?_) | (refine W_reg ?_) | (refine W_regd ?_) | (refine W_block ?_) | (refine And.intro (by omega) ?_) | simp (config := {maxSteps := 1000000}) (disch := omega) only [cA, cB, lk, lkH, Dst.onT, Dst.onX, Dst.slot, setF, setH, mapF, mapH, initF, binE, unE, cnt, boundE, newsE, freshE, opE, rmH, blkQ, frz_us, Nat.reduceEqDiff, Nat.reduceLT, Nat.reduceAdd, ↓reduceIte, reduceCtorEq, Nat.reduceLeDiff, cS, de.out])
          refine W_cond rfl (fun h => by cases h) (fun _ => ?_)
          repeat (first | (refine W_seq ?_) | (refine W_reg ?_) | (refine W_regd ?_) | (refine W_block ?_) | (refine And.intro (by omega) ?_) | simp (config := {maxSteps := 1000000}) (disch := omega) only [cA, cB, lk, lkH, Dst.onT, Dst.onX, Dst.slot, setF, setH, mapF, mapH, initF, binE, unE, cnt, boundE, newsE, freshE, opE, rmH, blkQ, frz_us, Nat.reduceEqDiff, Nat.reduceLT, Nat.reduceAdd, ↓reduceIte, reduceCtorEq, Nat.reduceLeDiff, cS, dz.out])
          refine W_cond rfl (fun _ => ?_) (fun h => by cases h)
          repeat (first | (refine W_seq ?_) | (refine W_reg ?_) | (refine W_regd ?_) | (refine W_block ?_) | (refine And.intro (by omega) ?_) | simp (config := {maxSteps := 1000000}) (disch := omega) only [cA, cB, lk, lkH, Dst.onT, Dst.onX, Dst.slot, setF, setH, mapF, mapH, initF, binE, unE, cnt, boundE, newsE, freshE, opE, rmH, blkQ, frz_us, Nat.reduceEqDiff, Nat.reduceLT, Nat.reduceAdd, ↓reduceIte, reduceCtorEq, Nat.reduceLeDiff, cS, e1, e2])
          exact W_ret (RetP_2 (.imm rfl) (.imm rfl))
        · have dz : decide (z < 0) = false := decide_eq_false hz
          have e1 : IntKind.i64.wrap (z.natAbs : Int) = z := by rw [IntKind.wrap_i64]; omega
          (replace dg := Hid.mk dg; replace de := Hid.mk de; replace dz := Hid.mk dz)
          repeat (first | (refine W_seq ?_) | (refine W_reg ?_) | (refine W_regd ?_) | (refine W_block ?_) | (refine And.intro (by omega) ?_) | simp (config := {maxSteps := 1000000}) (disch := omega) only [cA, cB, lk, lkH, Dst.onT, Dst.onX, Dst.slot, setF, setH, mapF, mapH, initF, binE, unE, cnt, boundE, newsE, freshE, opE, rmH, blkQ, frz_us, Nat.reduceEqDiff, Nat.reduceLT, Nat.reduceAdd, ↓reduceIte, reduceCtorEq, Nat.reduceLeDiff, X, I, cS, nbsToInt, dg.out, de.out, dz.out] | (refine callC_pure (cv) rfl ?_) | (refine callC_pure (cu) rfl ?_) | exact W_ret (RetP_1 (.imm rfl)) | exact W_ret (RetP_c rfl rfl rfl (.imm rfl)))
          refine W_cond rfl (fun h => by cases h) (fun _ => ?_)
          repeat (first | (refine W_seq ?_) | (refine W_reg ?_) | (refine W_regd ?_) | (refine W_block ?_) | (refine And.intro (by omega) ?_) | simp (config := {maxSteps := 1000000}) (disch := omega) only [cA, cB, lk, lkH, Dst.onT, Dst.onX, Dst.slot, setF, setH, mapF, mapH, initF, binE, unE, cnt, boundE, newsE, freshE, opE, rmH, blkQ, frz_us, Nat.reduceEqDiff, Nat.reduceLT, Nat.reduceAdd, ↓reduceIte, reduceCtorEq, Nat.reduceLeDiff, cS, de.out])
          refine W_cond rfl (fun h => by cases h) (fun _ => ?_)
          repeat (first | (refine W_seq ?_) | (refine W_reg ?_) | (refine W_regd ?_) | (refine W_block ?_) | (refine And.intro (by omega) ?_) | simp (config := {maxSteps := 1000000}) (disch := omega) only [cA, cB, lk, lkH, Dst.onT, Dst.onX, Dst.slot, setF, setH, mapF, mapH, initF, binE, unE, cnt, boundE, newsE, freshE, opE, rmH, blkQ, frz_us, Nat.reduceEqDiff, Nat.reduceLT, Nat.reduceAdd, ↓reduceIte, reduceCtorEq, Nat.reduceLeDiff, cS, dz.out])
          refine W_cond rfl (fun h => by cases h) (fun _ => W_skip ?_)
          repeat (first | (refine W_seq ?_) | (refine W_reg ?_) | (refine W_regd ?_) | (refine W_block ?_) | (refine And.intro (by omega) ?_) | simp (config := {maxSteps := 1000000}) (disch := omega) only [cA, cB, lk, lkH, Dst.onT, Dst.onX, Dst.slot, setF, setH, mapF, mapH, initF, binE, unE, cnt, boundE, newsE, freshE, opE, rmH, blkQ, frz_us, Nat.reduceEqDiff, Nat.reduceLT, Nat.reduceAdd, ↓reduceIte, reduceCtorEq, Nat.reduceLeDiff, cS, e1])
          exact W_ret (RetP_2 (.imm rfl) (.imm rfl))

theorem I_agg (y : Int) : (DV.agg [.bool false, .sl 1 (us (limbs y.natAbs))]) = I (y.natAbs : Int) := by
  unfold I
  rw [show decide ((y.natAbs : Int) < 0) = false from decide_eq_false (by omega), Int.natAbs_natCast]
theorem imod_nn {x y : Int} (hy : ¬ y = 0) : 0 ≤ imod x y ∧ imod x y < y.natAbs := by
  unfold imod
  rw [if_neg hy]
  exact ⟨Int.emod_nonneg x hy, Int.emod_lt x hy⟩
theorem imod_back {x y : Int} (hy : ¬ y = 0) : x / y * y + imod x y = x := by
  unfold imod
  rw [if_neg hy, Int.mul_comm]
  exact Int.mul_ediv_add_emod x y
theorem il_div {x : Int} (y : Int) {m : Nat} (h : il x ≤ m) : il (x / y) ≤ m := Nat.le_trans (len_mono (Int.natAbs_ediv_le_natAbs x y)) h
theorem il_imod {x y : Int} {m : Nat} (h : il y ≤ m) (hy : ¬ y = 0) : il (imod x y) ≤ m := by
  have := imod_nn (x := x) hy
  exact Nat.le_trans (len_mono (show (imod x y).natAbs ≤ y.natAbs by omega)) h

set_option maxHeartbeats 4000000 in
theorem liDividesBack_calls (n1 : Bool) (a : List Nat) (n2 : Bool) (b : List Nat) (la : lim a) (lb : lim b) : PCalls Tryd.prog 5 [X n1 a, X n2 b] (.bool true) := by
  have cf := li_fair_calls n1 a n2 b n1 a
  by_cases hf : fairI n1 a n2 b n1 a = true
  · rw [hf] at cf
    obtain ⟨h1, h2, _, v1, v2, _⟩ := fairI_spec hf
    obtain ⟨x, ex, k1⟩ := ex_I la v1 h1
    obtain ⟨y, ey, k2⟩ := ex_I lb v2 h2
    rw [ex, ey] at cf ⊢
    clear hf v1 v2 h1 h2 ex ey
    refine PCalls_of isliIntegerDividesBack (by simp [fnliIntegerDividesBack]) ?_
    unfold codeliIntegerDividesBack
    by_cases hy : y = 0
    · have hl : decide (((limbs y.natAbs).length : Int) = 0) = true := decide_eq_true (by rw [sign_len.2 hy]; rfl)
      (replace hl := Hid.mk hl)
      repeat (first | (refine W_seq ?_) | (refine W_reg ?_) | (refine W_regd ?_) | (refine W_block ?_) | (refine And.intro (by omega) ?_) | simp (config := {maxSteps := 1000000}) (disch := omega) only [cA, cB, lk, lkH, Dst.onT, Dst.onX, Dst.slot, setF, setH, mapF, mapH, initF, binE, unE, cnt, boundE, newsE, freshE, opE, rmH, blkQ, frz_us, Nat.reduceEqDiff, Nat.reduceLT, Nat.reduceAdd, ↓reduceIte, reduceCtorEq, Nat.reduceLeDiff, I, cS, nbliIntegerDividesBack, us_length, hl.out] | (refine callC_pure (cf) rfl ?_) | (refine callC_pure (li_awake_calls) rfl ?_) | exact W_ret (RetP_1 (.imm rfl)) | exact W_ret (RetP_c rfl rfl rfl (.imm rfl)))
      refine W_cond rfl (fun _ => ?_) (fun h => by cases h)
      repeat (first | (refine W_seq ?_) | (refine W_reg ?_) | (refine W_regd ?_) | (refine W_block ?_) | (refine And.intro (by omega) ?_) | simp (config := {maxSteps := 1000000}) (disch := omega) only [cA, cB, lk, lkH, Dst.onT, Dst.onX, Dst.slot, setF, setH, mapF, mapH, initF, binE, unE, cnt, boundE, newsE, freshE, opE, rmH, blkQ, frz_us, Nat.reduceEqDiff, Nat.reduceLT, Nat.reduceAdd, ↓reduceIte, reduceCtorEq, Nat.reduceLeDiff, I, cS, nbliIntegerDividesBack] | (refine callC_pure (li_awake_calls) rfl ?_) | exact W_ret (RetP_1 (.imm rfl)) | exact W_ret (RetP_c rfl rfl rfl (.imm rfl)))
    · have hl : decide (((limbs y.natAbs).length : Int) = 0) = false := decide_eq_false (fun h => hy (sign_len.1 (by omega)))
      have e0 : decide (¬ y = 0) = true := decide_eq_true hy
      have l1 := il_div y k1
      have l2 := il_imod (x := x) k2 hy
      have l3 := il_mul l1 k2
      have k4 : il (y.natAbs : Int) = il y := by unfold il; rw [Int.natAbs_natCast]
      have m1 := imod_nn (x := x) hy
      have d1 : decide (0 ≤ (imod x y).sign) = true := decide_eq_true (Int.sign_nonneg_iff.2 m1.1)
      have d2 : decide (cmpI (imod x y) (y.natAbs : Int) < 0) = true := decide_eq_true (by unfold cmpI; rw [if_pos m1.2]; decide)
      have c1 := iDivL x y (by omega) (by omega)
      rw [e0] at c1
      have c2 := iMulL (x / y) y (by omega) (by omega)
      have c3 := iAddL (x / y * y) (imod x y) (by omega) (by omega)
      rw [imod_back hy] at c3
      have c4 := iSameL x x rfl (by omega)
      have c5 := iSignL (imod x y) (by omega)
      have c6 := iCompareL (imod x y) (y.natAbs : Int) (by omega) (by omega)
      rw [← I_agg] at c6
      clear l1 l2 l3 m1 k4 k1 k2
      (replace hl := Hid.mk hl; replace d1 := Hid.mk d1; replace d2 := Hid.mk d2)
      repeat (first | (refine W_seq ?_) | (refine W_reg ?_) | (refine W_regd ?_) | (refine W_block ?_) | (refine And.intro (by omega) ?_) | simp (config := {maxSteps := 1000000}) (disch := omega) only [cA, cB, lk, lkH, Dst.onT, Dst.onX, Dst.slot, setF, setH, mapF, mapH, initF, binE, unE, cnt, boundE, newsE, freshE, opE, rmH, blkQ, frz_us, Nat.reduceEqDiff, Nat.reduceLT, Nat.reduceAdd, ↓reduceIte, reduceCtorEq, Nat.reduceLeDiff, I, cS, nbliIntegerDividesBack, us_length, hl.out] | (refine callC_pure (cf) rfl ?_) | (refine callC_pure (li_awake_calls) rfl ?_) | exact W_ret (RetP_1 (.imm rfl)) | exact W_ret (RetP_c rfl rfl rfl (.imm rfl)))
      refine W_cond rfl (fun h => by cases h) (fun _ => W_skip ?_)
      repeat (first | (refine W_seq ?_) | (refine W_reg ?_) | (refine W_regd ?_) | (refine W_block ?_) | (refine And.intro (by omega) ?_) | simp (config := {maxSteps := 1000000}) (disch := omega) only [cA, cB, lk, lkH, Dst.onT, Dst.onX, Dst.slot, setF, setH, mapF, mapH, initF, binE, unE, cnt, boundE, newsE, freshE, opE, rmH, blkQ, frz_us, Nat.reduceEqDiff, Nat.reduceLT, Nat.reduceAdd, ↓reduceIte, reduceCtorEq, Nat.reduceLeDiff, I, cS, nbliIntegerDividesBack, us_length, d1.out, d2.out] | (refine callC_pure (li_awake_calls) rfl ?_) | (refine callC_pure (c1) rfl ?_) | (refine callC_pure (c2) rfl ?_) | (refine callC_pure (c3) rfl ?_) | (refine callC_pure (c4) rfl ?_) | (refine callC_pure (c5) rfl ?_) | (refine callC_pure (c6) rfl ?_) | exact W_ret (RetP_1 (.imm rfl)) | exact W_ret (RetP_c rfl rfl rfl (.imm rfl)))
  · rw [show fairI n1 a n2 b n1 a = false by simpa using hf] at cf
    refine PCalls_of isliIntegerDividesBack (by simp [fnliIntegerDividesBack]) ?_
    unfold codeliIntegerDividesBack
    repeat (first | (refine W_seq ?_) | (refine W_reg ?_) | (refine W_regd ?_) | (refine W_block ?_) | (refine And.intro (by omega) ?_) | simp (config := {maxSteps := 1000000}) (disch := omega) only [cA, cB, lk, lkH, Dst.onT, Dst.onX, Dst.slot, setF, setH, mapF, mapH, initF, binE, unE, cnt, boundE, newsE, freshE, opE, rmH, blkQ, frz_us, Nat.reduceEqDiff, Nat.reduceLT, Nat.reduceAdd, ↓reduceIte, reduceCtorEq, Nat.reduceLeDiff, X, cS, nbliIntegerDividesBack] | (refine callC_pure (cf) rfl ?_) | (refine callC_pure (li_awake_calls) rfl ?_) | exact W_ret (RetP_1 (.imm rfl)) | exact W_ret (RetP_c rfl rfl rfl (.imm rfl)))
    refine W_cond rfl (fun _ => ?_) (fun h => by cases h)
    repeat (first | (refine W_seq ?_) | (refine W_reg ?_) | (refine W_regd ?_) | (refine W_block ?_) | (refine And.intro (by omega) ?_) | simp (config := {maxSteps := 1000000}) (disch := omega) only [cA, cB, lk, lkH, Dst.onT, Dst.onX, Dst.slot, setF, setH, mapF, mapH, initF, binE, unE, cnt, boundE, newsE, freshE, opE, rmH, blkQ, frz_us, Nat.reduceEqDiff, Nat.reduceLT, Nat.reduceAdd, ↓reduceIte, reduceCtorEq, Nat.reduceLeDiff, X, cS, nbliIntegerDividesBack] | (refine callC_pure (li_awake_calls) rfl ?_) | exact W_ret (RetP_1 (.imm rfl)) | exact W_ret (RetP_c rfl rfl rfl (.imm rfl)))

set_option maxHeartbeats 4000000 in
theorem liCalculates_calls (n1 : Bool) (a : List Nat) (n2 : Bool) (b : List Nat) (la : lim a) (lb : lim b) : PCalls Tryd.prog 8 [X n1 a, X n2 b] (.bool true) := by
  have c1 := li_light_calls n1 a
  have c2 := li_light_calls n2 b
  refine PCalls_of isliIntegerCalculates (by simp [fnliIntegerCalculates]) ?_
  unfold codeliIntegerCalculates
  by_cases h1 : a.length ≤ 10
  · rw [decide_eq_true h1] at c1
    by_cases h2 : b.length ≤ 10
    · rw [decide_eq_true h2] at c2
      repeat (first | (refine W_seq ?_) | (refine W_reg ?_) | (refine W_regd ?_) | (refine W_block ?_) | (refine And.intro (by omega) ?_) | simp (config := {maxSteps := 1000000}) (disch := omega) only [cA, cB, lk, lkH, Dst.onT, Dst.onX, Dst.slot, setF, setH, mapF, mapH, initF, binE, unE, cnt, boundE, newsE, freshE, opE, rmH, blkQ, frz_us, Nat.reduceEqDiff, Nat.reduceLT, Nat.reduceAdd, ↓reduceIte, reduceCtorEq, Nat.reduceLeDiff, X, cS, nbliIntegerCalculates] | (refine callC_pure (c1) rfl ?_) | (refine callC_pure (c2) rfl ?_) | exact W_ret (RetP_1 (.imm rfl)) | exact W_ret (RetP_c rfl rfl rfl (.imm rfl)))
      refine W_cond rfl (fun h => by cases h) (fun _ => W_skip ?_)
      have i1 : il (iv n1 a) ≤ 10 := Nat.le_trans (iv_len la n1) h1
      have i2 : il (iv n2 b) ≤ 10 := Nat.le_trans (iv_len lb n2) h2
      have d1 := iDiv_calls n1 a n2 b (by omega) (by omega) la lb
      have d2 := sDiv_calls n1 a n2 b (by omega) (by omega) la lb
      have a1 := iAdd_calls n1 a n2 b (by omega) (by omega) la lb
      have a2 := sAdd_calls n1 a n2 b (by omega) (by omega) la lb
      have s1 := iSub_calls n1 a n2 b (by omega) (by omega) la lb
      have s2 := sSub_calls n1 a n2 b (by omega) (by omega) la lb
      have m1 := iMul_calls n1 a n2 b (by omega) (by omega) la lb
      have m2 := sMul_calls n1 a n2 b (by omega) (by omega) la lb
      have g1 := iGcd_calls n1 a n2 b (by omega) (by omega) la lb
      have g2 := sGcd_calls n1 a n2 b (by omega) (by omega) la lb
      clear c1 c2
      generalize iv n1 a = x at *
      generalize iv n2 b = y at *
      have l1 := il_add i1 i2
      have l2 := il_sub i1 i2
      have l3 := il_mul i1 i2
      have l4 := il_div y i1
      have l5 : il (imod x y) ≤ 10 := by
        by_cases hy : y = 0
        · unfold imod; rw [if_pos hy]; unfold il; rw [show (0 : Int).natAbs = 0 from rfl, limbs_zero]; simp
        · exact il_imod i2 hy
      have l6 : (limbs (Nat.gcd x.natAbs y.natAbs)).length ≤ 11 := by
        by_cases hx : x.natAbs = 0
        · rw [hx, Nat.gcd_zero_left]; exact Nat.le_trans i2 (by decide)
        · exact Nat.le_trans (len_mono (Nat.gcd_le_left _ (Nat.pos_of_ne_zero hx))) (Nat.le_trans i1 (by decide))
      have t1 := iSameL (x + y) (x + y) rfl (by omega)
      have t2 := iSameL (x - y) (x - y) rfl (by omega)
      have t3 := iSameL (x * y) (x * y) rfl (by omega)
      have t4 := iSameL (x / y) (x / y) rfl (by omega)
      have t5 := iSameL (imod x y) (imod x y) rfl (by omega)
      have t6 := sameL (Nat.gcd x.natAbs y.natAbs) (Nat.gcd x.natAbs y.natAbs) rfl (by omega)
      clear l1 l2 l3 l4 l5 l6 i1 i2
      generalize decide (¬ y = 0) = ok at *
      repeat (first | (refine W_seq ?_) | (refine W_reg ?_) | (refine W_regd ?_) | (refine W_block ?_) | (refine And.intro (by omega) ?_) | simp (config := {maxSteps := 1000000}) (disch := omega) only [cA, cB, lk, lkH, Dst.onT, Dst.onX, Dst.slot, setF, setH, mapF, mapH, initF, binE, unE, cnt, boundE, newsE, freshE, opE, rmH, blkQ, frz_us, Nat.reduceEqDiff, Nat.reduceLT, Nat.reduceAdd, ↓reduceIte, reduceCtorEq, Nat.reduceLeDiff, X, I, cS, nbliIntegerCalculates, beq_self_eq_true] | (refine callC_pure (li_awake_calls) rfl ?_) | (refine callC_pure (d1) rfl ?_) | (refine callC_pure (d2) rfl ?_) | (refine callC_pure (a1) rfl ?_) | (refine callC_pure (a2) rfl ?_) | (refine callC_pure (s1) rfl ?_) | (refine callC_pure (s2) rfl ?_) | (refine callC_pure (m1) rfl ?_) | (refine callC_pure (m2) rfl ?_) | (refine callC_pure (g1) rfl ?_) | (refine callC_pure (g2) rfl ?_) | (refine callC_pure (t1) rfl ?_) | (refine callC_pure (t2) rfl ?_) | (refine callC_pure (t3) rfl ?_) | (refine callC_pure (t4) rfl ?_) | (refine callC_pure (t5) rfl ?_) | (refine callC_pure (t6) rfl ?_) | exact W_ret (RetP_1 (.imm rfl)) | exact W_ret (RetP_c rfl rfl rfl (.imm rfl)))
    · rw [decide_eq_false h2] at c2
      repeat (first | (refine W_seq ?_) | (refine W_reg ?_) | (refine W_regd ?_) | (refine W_block ?_) | (refine And.intro (by omega) ?_) | simp (config := {maxSteps := 1000000}) (disch := omega) only [cA, cB, lk, lkH, Dst.onT, Dst.onX, Dst.slot, setF, setH, mapF, mapH, initF, binE, unE, cnt, boundE, newsE, freshE, opE, rmH, blkQ, frz_us, Nat.reduceEqDiff, Nat.reduceLT, Nat.reduceAdd, ↓reduceIte, reduceCtorEq, Nat.reduceLeDiff, X, cS, nbliIntegerCalculates] | (refine callC_pure (c1) rfl ?_) | (refine callC_pure (c2) rfl ?_) | exact W_ret (RetP_1 (.imm rfl)) | exact W_ret (RetP_c rfl rfl rfl (.imm rfl)))
      refine W_cond rfl (fun _ => ?_) (fun h => by cases h)
      repeat (first | (refine W_seq ?_) | (refine W_reg ?_) | (refine W_regd ?_) | (refine W_block ?_) | (refine And.intro (by omega) ?_) | simp (config := {maxSteps := 1000000}) (disch := omega) only [cA, cB, lk, lkH, Dst.onT, Dst.onX, Dst.slot, setF, setH, mapF, mapH, initF, binE, unE, cnt, boundE, newsE, freshE, opE, rmH, blkQ, frz_us, Nat.reduceEqDiff, Nat.reduceLT, Nat.reduceAdd, ↓reduceIte, reduceCtorEq, Nat.reduceLeDiff, X, cS, nbliIntegerCalculates] | (refine callC_pure (li_awake_calls) rfl ?_) | exact W_ret (RetP_1 (.imm rfl)) | exact W_ret (RetP_c rfl rfl rfl (.imm rfl)))
  · rw [decide_eq_false h1] at c1
    repeat (first | (refine W_seq ?_) | (refine W_reg ?_) | (refine W_regd ?_) | (refine W_block ?_) | (refine And.intro (by omega) ?_) | simp (config := {maxSteps := 1000000}) (disch := omega) only [cA, cB, lk, lkH, Dst.onT, Dst.onX, Dst.slot, setF, setH, mapF, mapH, initF, binE, unE, cnt, boundE, newsE, freshE, opE, rmH, blkQ, frz_us, Nat.reduceEqDiff, Nat.reduceLT, Nat.reduceAdd, ↓reduceIte, reduceCtorEq, Nat.reduceLeDiff, X, cS, nbliIntegerCalculates] | (refine callC_pure (c1) rfl ?_) | (refine callC_pure (c2) rfl ?_) | exact W_ret (RetP_1 (.imm rfl)) | exact W_ret (RetP_c rfl rfl rfl (.imm rfl)))
    refine W_cond rfl (fun _ => ?_) (fun h => by cases h)
    repeat (first | (refine W_seq ?_) | (refine W_reg ?_) | (refine W_regd ?_) | (refine W_block ?_) | (refine And.intro (by omega) ?_) | simp (config := {maxSteps := 1000000}) (disch := omega) only [cA, cB, lk, lkH, Dst.onT, Dst.onX, Dst.slot, setF, setH, mapF, mapH, initF, binE, unE, cnt, boundE, newsE, freshE, opE, rmH, blkQ, frz_us, Nat.reduceEqDiff, Nat.reduceLT, Nat.reduceAdd, ↓reduceIte, reduceCtorEq, Nat.reduceLeDiff, X, cS, nbliIntegerCalculates] | (refine callC_pure (li_awake_calls) rfl ?_) | exact W_ret (RetP_1 (.imm rfl)) | exact W_ret (RetP_c rfl rfl rfl (.imm rfl)))
end Go.Proofs.YtakchfljhihdmaaDoor
namespace Go.Proofs.YtakchfljhihdmaaDoor
open Go Go.Dat Go.Proofs Nat32

set_option maxHeartbeats 4000000 in
theorem liValues_calls (n1 : Bool) (a : List Nat) (n2 : Bool) (b : List Nat) (v : Int) (la : lim a) (lb : lim b) (hv1 : -9223372036854775808 ≤ v) (hv2 : v ≤ 9223372036854775807) : PCalls Tryd.prog 4 [X n1 a, X n2 b, .int .i64 v] (.bool true) := by
  have c1 := li_light_calls n1 a
  have c2 := li_light_calls n2 b
  refine PCalls_of isliIntegerValues (by simp [fnliIntegerValues]) ?_
  unfold codeliIntegerValues
  by_cases h1 : a.length ≤ 10
  · rw [decide_eq_true h1] at c1
    by_cases h2 : b.length ≤ 10
    · rw [decide_eq_true h2] at c2
      have hl : (limbs v.natAbs).length ≤ 2 := limbs_len.2 (show v.natAbs < 4294967296 ^ 2 by omega)
      have f1 := iFromInt_calls v hv1 hv2
      have f2 := sFromInt_calls v hv1 hv2
      have f3 := iSameL v v rfl (by unfold il; omega)
      have i1 : il (iv n1 a) ≤ 10 := Nat.le_trans (iv_len la n1) h1
      have t1 := iToInt_calls n1 a (by omega) la
      have t2 := sToInt_calls n1 a (by omega) la
      have v1 := iValid_calls n1 a (by omega)
      have v2 := sValid_calls n1 a (by omega)
      have s1 := iSign_calls n1 a (by omega) la
      have s2 := sSign_calls n1 a (by omega) la
      have g1 := iNeg_calls n1 a (by omega) la
      have g2 := sNeg_calls n1 a (by omega) la
      have k1 := iCompare_calls n1 a n2 b (by omega) (by omega) la lb
      have k2 := sCompare_calls n1 a n2 b (by omega) (by omega) la lb
      have g3 := iSameL (-(iv n1 a)) (-(iv n1 a)) rfl (by rw [il_neg]; omega)
      (replace hv1 := Hid.mk hv1; replace hv2 := Hid.mk hv2; replace hl := Hid.mk hl; replace i1 := Hid.mk i1; replace h1 := Hid.mk h1; replace h2 := Hid.mk h2)
      generalize (iv n1 a).sign = sg at *
      generalize cmpI (iv n1 a) (iv n2 b) = cp at *
      generalize vldI n1 a = vd at *
      repeat (first | (refine W_seq ?_) | (refine W_reg ?_) | (refine W_regd ?_) | (refine W_block ?_) | (refine And.intro (by omega) ?_) | simp (config := {maxSteps := 1000000}) (disch := omega) only [cA, cB, lk, lkH, Dst.onT, Dst.onX, Dst.slot, setF, setH, mapF, mapH, initF, binE, unE, cnt, boundE, newsE, freshE, opE, rmH, blkQ, frz_us, Nat.reduceEqDiff, Nat.reduceLT, Nat.reduceAdd, ↓reduceIte, reduceCtorEq, Nat.reduceLeDiff, X, cS, nbliIntegerValues] | (refine callC_pure (c1) rfl ?_) | (refine callC_pure (c2) rfl ?_) | exact W_ret (RetP_1 (.imm rfl)) | exact W_ret (RetP_c rfl rfl rfl (.imm rfl)))
      refine W_cond rfl (fun h => by cases h) (fun _ => W_skip ?_)
      unfold toIntR at t1 t2
      generalize iv n1 a = x at *
      split at t1
      · next hr =>
        rw [if_pos hr] at t2
        (replace hr := Hid.mk hr)
        repeat (first | (refine W_seq ?_) | (refine W_reg ?_) | (refine W_regd ?_) | (refine W_block ?_) | (refine And.intro (by omega) ?_) | simp (config := {maxSteps := 1000000}) (disch := omega) only [cA, cB, lk, lkH, Dst.onT, Dst.onX, Dst.slot, setF, setH, mapF, mapH, initF, binE, unE, cnt, boundE, newsE, freshE, opE, rmH, blkQ, frz_us, Nat.reduceEqDiff, Nat.reduceLT, Nat.reduceAdd, ↓reduceIte, reduceCtorEq, Nat.reduceLeDiff, X, I, cS, nbliIntegerValues, beq_self_eq_true, decide_true] | (refine callC_pure (li_awake_calls) rfl ?_) | (refine callC_pure (t1) rfl ?_) | (refine callC_pure (t2) rfl ?_) | (refine callC_pure (v1) rfl ?_) | (refine callC_pure (v2) rfl ?_) | (refine callC_pure (f1) rfl ?_) | (refine callC_pure (f2) rfl ?_) | (refine callC_pure (f3) rfl ?_) | (refine callC_pure (s1) rfl ?_) | (refine callC_pure (s2) rfl ?_) | (refine callC_pure (g1) rfl ?_) | (refine callC_pure (g2) rfl ?_) | (refine callC_pure (g3) rfl ?_) | (refine callC_pure (k1) rfl ?_) | (refine callC_pure (k2) rfl ?_) | exact W_ret (RetP_1 (.imm rfl)) | exact W_ret (RetP_c rfl rfl rfl (.imm rfl)))
      · next hr =>
        rw [if_neg hr] at t2
        (replace hr := Hid.mk hr)
        repeat (first | (refine W_seq ?_) | (refine W_reg ?_) | (refine W_regd ?_) | (refine W_block ?_) | (refine And.intro (by omega) ?_) | simp (config := {maxSteps := 1000000}) (disch := omega) only [cA, cB, lk, lkH, Dst.onT, Dst.onX, Dst.slot, setF, setH, mapF, mapH, initF, binE, unE, cnt, boundE, newsE, freshE, opE, rmH, blkQ, frz_us, Nat.reduceEqDiff, Nat.reduceLT, Nat.reduceAdd, ↓reduceIte, reduceCtorEq, Nat.reduceLeDiff, X, I, cS, nbliIntegerValues, beq_self_eq_true, decide_true] | (refine callC_pure (li_awake_calls) rfl ?_) | (refine callC_pure (t1) rfl ?_) | (refine callC_pure (t2) rfl ?_) | (refine callC_pure (v1) rfl ?_) | (refine callC_pure (v2) rfl ?_) | (refine callC_pure (f1) rfl ?_) | (refine callC_pure (f2) rfl ?_) | (refine callC_pure (f3) rfl ?_) | (refine callC_pure (s1) rfl ?_) | (refine callC_pure (s2) rfl ?_) | (refine callC_pure (g1) rfl ?_) | (refine callC_pure (g2) rfl ?_) | (refine callC_pure (g3) rfl ?_) | (refine callC_pure (k1) rfl ?_) | (refine callC_pure (k2) rfl ?_) | exact W_ret (RetP_1 (.imm rfl)) | exact W_ret (RetP_c rfl rfl rfl (.imm rfl)))
    · rw [decide_eq_false h2] at c2
      repeat (first | (refine W_seq ?_) | (refine W_reg ?_) | (refine W_regd ?_) | (refine W_block ?_) | (refine And.intro (by omega) ?_) | simp (config := {maxSteps := 1000000}) (disch := omega) only [cA, cB, lk, lkH, Dst.onT, Dst.onX, Dst.slot, setF, setH, mapF, mapH, initF, binE, unE, cnt, boundE, newsE, freshE, opE, rmH, blkQ, frz_us, Nat.reduceEqDiff, Nat.reduceLT, Nat.reduceAdd, ↓reduceIte, reduceCtorEq, Nat.reduceLeDiff, X, cS, nbliIntegerValues] | (refine callC_pure (c1) rfl ?_) | (refine callC_pure (c2) rfl ?_) | exact W_ret (RetP_1 (.imm rfl)) | exact W_ret (RetP_c rfl rfl rfl (.imm rfl)))
      refine W_cond rfl (fun _ => ?_) (fun h => by cases h)
      repeat (first | (refine W_seq ?_) | (refine W_reg ?_) | (refine W_regd ?_) | (refine W_block ?_) | (refine And.intro (by omega) ?_) | simp (config := {maxSteps := 1000000}) (disch := omega) only [cA, cB, lk, lkH, Dst.onT, Dst.onX, Dst.slot, setF, setH, mapF, mapH, initF, binE, unE, cnt, boundE, newsE, freshE, opE, rmH, blkQ, frz_us, Nat.reduceEqDiff, Nat.reduceLT, Nat.reduceAdd, ↓reduceIte, reduceCtorEq, Nat.reduceLeDiff, X, cS, nbliIntegerValues] | (refine callC_pure (li_awake_calls) rfl ?_) | exact W_ret (RetP_1 (.imm rfl)) | exact W_ret (RetP_c rfl rfl rfl (.imm rfl)))
  · rw [decide_eq_false h1] at c1
    repeat (first | (refine W_seq ?_) | (refine W_reg ?_) | (refine W_regd ?_) | (refine W_block ?_) | (refine And.intro (by omega) ?_) | simp (config := {maxSteps := 1000000}) (disch := omega) only [cA, cB, lk, lkH, Dst.onT, Dst.onX, Dst.slot, setF, setH, mapF, mapH, initF, binE, unE, cnt, boundE, newsE, freshE, opE, rmH, blkQ, frz_us, Nat.reduceEqDiff, Nat.reduceLT, Nat.reduceAdd, ↓reduceIte, reduceCtorEq, Nat.reduceLeDiff, X, cS, nbliIntegerValues] | (refine callC_pure (c1) rfl ?_) | (refine callC_pure (c2) rfl ?_) | exact W_ret (RetP_1 (.imm rfl)) | exact W_ret (RetP_c rfl rfl rfl (.imm rfl)))
    refine W_cond rfl (fun _ => ?_) (fun h => by cases h)
    repeat (first | (refine W_seq ?_) | (refine W_reg ?_) | (refine W_regd ?_) | (refine W_block ?_) | (refine And.intro (by omega) ?_) | simp (config := {maxSteps := 1000000}) (disch := omega) only [cA, cB, lk, lkH, Dst.onT, Dst.onX, Dst.slot, setF, setH, mapF, mapH, initF, binE, unE, cnt, boundE, newsE, freshE, opE, rmH, blkQ, frz_us, Nat.reduceEqDiff, Nat.reduceLT, Nat.reduceAdd, ↓reduceIte, reduceCtorEq, Nat.reduceLeDiff, X, cS, nbliIntegerValues] | (refine callC_pure (li_awake_calls) rfl ?_) | exact W_ret (RetP_1 (.imm rfl)) | exact W_ret (RetP_c rfl rfl rfl (.imm rfl)))
end Go.Proofs.YtakchfljhihdmaaDoor
namespace Go.Proofs.YtakchfljhihdmaaDoor
open Go Go.Dat Go.Proofs Nat32
open Go.Lib (decDigits)

theorem RetP_ct {n j k o : Nat} {r s : DV} {fr : Fr} {H : Hp} {cs : List DV} (h1 : lk fr j = .ptr o 0) (h2 : lkH H o = some cs) (h3 : cs.length = n)
    (e1 : Exp (lkH H) (.agg cs) r) (e2 : Exp (lkH H) (lk fr k) s) : RetP [.cn n j, .t k] (.tup [r, s]) .ret fr H := by
  refine ⟨.inr rfl, [.agg cs, lk fr k], ?_, ?_⟩
  · simp [resDs, resD1, h1, h2, h3, List.take_of_length_le (Nat.le_of_eq h3)]
  · exact .tup rfl fun q d x hd hx => by
      match q with
      | 0 => simp at hd hx; subst hd; subst hx; exact e1
      | 1 => simp at hd hx; subst hd; subst hx; exact e2
      | q + 2 => simp at hd

def fmtI (z : Int) : List UInt8 := if z < 0 then 45 :: decDigits z.natAbs else decDigits z.natAbs
theorem iFormat_calls (neg : Bool) (a : List Nat) (ha : a.length ≤ 900) (la : lim a) : PCalls Tryd.prog 32 [X neg a] (.str (fmtI (iv neg a))) := by
  have cv := i_value_calls neg a (by omega) la
  have cg := iSign_calls neg a (by omega) la
  have l1 := iv_len la neg
  generalize iv neg a = z at *
  have cf := nFormat_calls (limbs z.natAbs) (by omega) (lim_limbs _)
  rw [vn_limbs] at cf
  have hd := dd_limbs (Nat.le_trans l1 ha)
  unfold fmtI
  generalize decDigits z.natAbs = D at *
  refine PCalls_of isiFormat (by simp [fniFormat]) ?_
  unfold codeiFormat
  repeat (first | (refine W_seq ?_) | (refine W_reg ?_) | (refine W_regd ?_) | (refine W_block ?_) | (refine And.intro (by omega) ?_) | simp (config := {maxSteps := 1000000}) (disch := omega) only [cA, cB, lk, lkH, Dst.onT, Dst.onX, Dst.slot, setF, setH, mapF, mapH, initF, binE, unE, cnt, boundE, newsE, freshE, opE, rmH, blkQ, frz_us, Nat.reduceEqDiff, Nat.reduceLT, Nat.reduceAdd, ↓reduceIte, reduceCtorEq, Nat.reduceLeDiff, X, I, cS, nbiFormat] | (refine callC_pure (cv) rfl ?_) | (refine callC_pure (cf) rfl ?_) | (refine callC_pure (cg) rfl ?_) | exact W_ret (RetP_1 (.imm rfl)) | exact W_ret (RetP_c rfl rfl rfl (.imm rfl)))
  by_cases hz : z < 0
  · have ds : decide (z.sign < 0) = true := by rw [Int.sign_eq_neg_one_of_neg hz]; decide
    rw [ds, if_pos hz]
    refine W_cond rfl (fun _ => ?_) (fun h => by cases h)
    have e : [(45 : UInt8)] ++ D = 45 :: D := rfl
    repeat (first | (refine W_seq ?_) | (refine W_reg ?_) | (refine W_regd ?_) | (refine W_block ?_) | (refine And.intro (by omega) ?_) | simp (config := {maxSteps := 1000000}) (disch := omega) only [cA, cB, lk, lkH, Dst.onT, Dst.onX, Dst.slot, setF, setH, mapF, mapH, initF, binE, unE, cnt, boundE, newsE, freshE, opE, rmH, blkQ, frz_us, Nat.reduceEqDiff, Nat.reduceLT, Nat.reduceAdd, ↓reduceIte, reduceCtorEq, Nat.reduceLeDiff, e, List.length_singleton])
    exact W_ret (RetP_1 (.imm rfl))
  · have ds : decide (z.sign < 0) = false := decide_eq_false (by have := Int.sign_nonneg_iff.2 (show 0 ≤ z by omega); omega)
    rw [ds, if_neg hz]
    refine W_cond rfl (fun h => by cases h) (fun _ => W_skip ?_)
    repeat (first | (refine W_seq ?_) | (refine W_reg ?_) | (refine W_regd ?_) | (refine W_block ?_) | (refine And.intro (by omega) ?_) | simp (config := {maxSteps := 1000000}) (disch := omega) only [cA, cB, lk, lkH, Dst.onT, Dst.onX, Dst.slot, setF, setH, mapF, mapH, initF, binE, unE, cnt, boundE, newsE, freshE, opE, rmH, blkQ, frz_us, Nat.reduceEqDiff, Nat.reduceLT, Nat.reduceAdd, ↓reduceIte, reduceCtorEq, Nat.reduceLeDiff])
    exact W_ret (RetP_1 (.imm rfl))
theorem sFormat_calls (neg : Bool) (a : List Nat) (ha : a.length ≤ 900) (la : lim a) : PCalls Tryd.prog 33 [X neg a] (.str (fmtI (iv neg a))) := by
  have cv := sTake_calls neg a (by omega) la
  have l1 := iv_len la neg
  generalize iv neg a = z at *
  have cf := rFormat_calls (limbs z.natAbs) (by omega) (lim_limbs _)
  rw [vn_limbs] at cf
  have hd := dd_limbs (Nat.le_trans l1 ha)
  unfold fmtI
  generalize decDigits z.natAbs = D at *
  refine PCalls_of issFormat (by simp [fnsFormat]) ?_
  unfold codesFormat
  repeat (first | (refine W_seq ?_) | (refine W_reg ?_) | (refine W_regd ?_) | (refine W_block ?_) | (refine And.intro (by omega) ?_) | simp (config := {maxSteps := 1000000}) (disch := omega) only [cA, cB, lk, lkH, Dst.onT, Dst.onX, Dst.slot, setF, setH, mapF, mapH, initF, binE, unE, cnt, boundE, newsE, freshE, opE, rmH, blkQ, frz_us, Nat.reduceEqDiff, Nat.reduceLT, Nat.reduceAdd, ↓reduceIte, reduceCtorEq, Nat.reduceLeDiff, X, I, cS, nbsFormat] | (refine callC_pure (cv) rfl ?_) | exact W_ret (RetP_1 (.imm rfl)) | exact W_ret (RetP_c rfl rfl rfl (.imm rfl)))
  by_cases hz : z < 0
  · have ds : decide (z < 0) = true := decide_eq_true hz
    rw [ds, if_pos hz]
    refine W_cond rfl (fun _ => ?_) (fun h => by cases h)
    have e : [(45 : UInt8)] ++ D = 45 :: D := rfl
    repeat (first | (refine W_seq ?_) | (refine W_reg ?_) | (refine W_regd ?_) | (refine W_block ?_) | (refine And.intro (by omega) ?_) | simp (config := {maxSteps := 1000000}) (disch := omega) only [cA, cB, lk, lkH, Dst.onT, Dst.onX, Dst.slot, setF, setH, mapF, mapH, initF, binE, unE, cnt, boundE, newsE, freshE, opE, rmH, blkQ, frz_us, Nat.reduceEqDiff, Nat.reduceLT, Nat.reduceAdd, ↓reduceIte, reduceCtorEq, Nat.reduceLeDiff, cS, e, List.length_singleton] | (refine callC_pure (cf) rfl ?_) | exact W_ret (RetP_1 (.imm rfl)) | exact W_ret (RetP_c rfl rfl rfl (.imm rfl)))
  · have ds : decide (z < 0) = false := decide_eq_false hz
    rw [ds, if_neg hz]
    refine W_cond rfl (fun h => by cases h) (fun _ => W_skip ?_)
    repeat (first | (refine W_seq ?_) | (refine W_reg ?_) | (refine W_regd ?_) | (refine W_block ?_) | (refine And.intro (by omega) ?_) | simp (config := {maxSteps := 1000000}) (disch := omega) only [cA, cB, lk, lkH, Dst.onT, Dst.onX, Dst.slot, setF, setH, mapF, mapH, initF, binE, unE, cnt, boundE, newsE, freshE, opE, rmH, blkQ, frz_us, Nat.reduceEqDiff, Nat.reduceLT, Nat.reduceAdd, ↓reduceIte, reduceCtorEq, Nat.reduceLeDiff, cS] | (refine callC_pure (cf) rfl ?_) | exact W_ret (RetP_1 (.imm rfl)) | exact W_ret (RetP_c rfl rfl rfl (.imm rfl)))

/-! ### Parse -/
def neg45 (l : List UInt8) : Bool := decide (l.head? = some 45)
def rest45 (l : List UInt8) : List UInt8 := if neg45 l then l.tail else l
def parseI (l : List UInt8) : DV := if okD (rest45 l) && !(neg45 l && decide (dval 0 (rest45 l) = 0)) then .tup [I (sgn (neg45 l) (dval 0 (rest45 l))), .bool true] else .tup [I 0, .bool false]
set_option maxHeartbeats 2000000 in
theorem iParse_calls (l : List UInt8) (hll : l.length ≤ 1000000000) : PCalls Tryd.prog 30 [.str l] (parseI l) := by
  have cp := nParse_calls (rest45 l)
  have cs := i_signed_calls (neg45 l) (dval 0 (rest45 l))
  refine PCalls_of isiParse (by simp [fniParse]) ?_
  unfold codeiParse
  have e0 : (Int.toNat 0) = 0 := rfl
  have e1 : (Int.toNat 1) = 1 := rfl
  by_cases hn : 0 < l.length
  · have dn : decide ((0 : Int) < l.length) = true := decide_eq_true (by omega)
    have ebd : byteD (l.getD 0 0) = .int .u8 ((l.getD 0 0).toNat : Nat) := rfl
    by_cases h45 : neg45 l = true
    · have d45 : decide ((((l.getD 0 0).toNat : Nat) : Int) = 45) = true := decide_eq_true (by
        cases l with
        | nil => simp at hn
        | cons c r =>
          simp only [neg45, List.head?_cons, Option.some.injEq, decide_eq_true_eq] at h45
          rw [List.getD_cons_zero, h45]; rfl)
      have hrest : (l.take l.length).drop 1 = rest45 l := by rw [List.take_length]; unfold rest45; rw [h45, if_pos rfl, List.drop_one]
      rw [h45] at cs
      repeat (first | (refine W_seq ?_) | (refine W_reg ?_) | (refine W_regd ?_) | (refine W_block ?_) | (refine And.intro (by omega) ?_) | simp (config := {maxSteps := 1000000}) (disch := omega) only [cA, cB, lk, lkH, Dst.onT, Dst.onX, Dst.slot, setF, setH, mapF, mapH, initF, binE, unE, cnt, boundE, newsE, freshE, opE, rmH, blkQ, frz_us, Nat.reduceEqDiff, Nat.reduceLT, Nat.reduceAdd, ↓reduceIte, reduceCtorEq, Nat.reduceLeDiff, cS, nbiParse, dn, e0, ebd, d45])
      refine W_cond rfl (fun _ => ?_) (fun h => by cases h)
      repeat (first | (refine W_seq ?_) | (refine W_reg ?_) | (refine W_regd ?_) | (refine W_block ?_) | (refine And.intro (by omega) ?_) | simp (config := {maxSteps := 1000000}) (disch := omega) only [cA, cB, lk, lkH, Dst.onT, Dst.onX, Dst.slot, setF, setH, mapF, mapH, initF, binE, unE, cnt, boundE, newsE, freshE, opE, rmH, blkQ, frz_us, Nat.reduceEqDiff, Nat.reduceLT, Nat.reduceAdd, ↓reduceIte, reduceCtorEq, Nat.reduceLeDiff, e1, hrest])
      by_cases ho : okD (rest45 l) = true
      · have hp : parseR (rest45 l) = .tup [.sl 1 (us (limbs (dval 0 (rest45 l)))), .bool true] := by unfold parseR; rw [ho]; rfl
        rw [hp] at cp
        by_cases hv : dval 0 (rest45 l) = 0
        · have hlen : (limbs (dval 0 (rest45 l))).length = 0 := by rw [hv, limbs_zero]; rfl
          have hr : parseI l = .tup [I 0, .bool false] := by unfold parseI; rw [h45, ho, decide_eq_true hv]; rfl
          rw [hr]
          repeat (first | (refine W_seq ?_) | (refine W_reg ?_) | (refine W_regd ?_) | (refine W_block ?_) | (refine And.intro (by omega) ?_) | simp (config := {maxSteps := 1000000}) (disch := omega) only [cA, cB, lk, lkH, Dst.onT, Dst.onX, Dst.slot, setF, setH, mapF, mapH, initF, binE, unE, cnt, boundE, newsE, freshE, opE, rmH, blkQ, frz_us, Nat.reduceEqDiff, Nat.reduceLT, Nat.reduceAdd, ↓reduceIte, reduceCtorEq, Nat.reduceLeDiff, cS, us_length, hlen] | (refine callC_pure (cp) rfl ?_) | exact W_ret (RetP_1 (.imm rfl)) | exact W_ret (RetP_c rfl rfl rfl (.imm rfl)))
          refine W_cond rfl (fun _ => ?_) (fun h => by simp at h)
          repeat (first | (refine W_seq ?_) | (refine W_reg ?_) | (refine W_regd ?_) | (refine W_block ?_) | (refine And.intro (by omega) ?_) | simp (config := {maxSteps := 1000000}) (disch := omega) only [cA, cB, lk, lkH, Dst.onT, Dst.onX, Dst.slot, setF, setH, mapF, mapH, initF, binE, unE, cnt, boundE, newsE, freshE, opE, rmH, blkQ, frz_us, Nat.reduceEqDiff, Nat.reduceLT, Nat.reduceAdd, ↓reduceIte, reduceCtorEq, Nat.reduceLeDiff, cS, nbiParse])
          exact W_ret (RetP_ct rfl rfl rfl (by rw [I0]; exact Exp_bn _ _) (.imm rfl))
        · have hlen : decide (((limbs (dval 0 (rest45 l))).length : Int) = 0) = false := decide_eq_false fun h => by
            have := (limbs_len (n := dval 0 (rest45 l)) (k := 0)).1 (by omega)
            rw [Nat.pow_zero] at this
            omega
          have hr : parseI l = .tup [I (sgn true (dval 0 (rest45 l))), .bool true] := by unfold parseI; rw [h45, ho, decide_eq_false hv]; rfl
          rw [hr]
          repeat (first | (refine W_seq ?_) | (refine W_reg ?_) | (refine W_regd ?_) | (refine W_block ?_) | (refine And.intro (by omega) ?_) | simp (config := {maxSteps := 1000000}) (disch := omega) only [cA, cB, lk, lkH, Dst.onT, Dst.onX, Dst.slot, setF, setH, mapF, mapH, initF, binE, unE, cnt, boundE, newsE, freshE, opE, rmH, blkQ, frz_us, Nat.reduceEqDiff, Nat.reduceLT, Nat.reduceAdd, ↓reduceIte, reduceCtorEq, Nat.reduceLeDiff, cS, us_length, hlen] | (refine callC_pure (cp) rfl ?_) | exact W_ret (RetP_1 (.imm rfl)) | exact W_ret (RetP_c rfl rfl rfl (.imm rfl)))
          refine W_cond rfl (fun h => by cases h) (fun _ => W_skip ?_)
          repeat (first | (refine W_seq ?_) | (refine W_reg ?_) | (refine W_regd ?_) | (refine W_block ?_) | (refine And.intro (by omega) ?_) | simp (config := {maxSteps := 1000000}) (disch := omega) only [cA, cB, lk, lkH, Dst.onT, Dst.onX, Dst.slot, setF, setH, mapF, mapH, initF, binE, unE, cnt, boundE, newsE, freshE, opE, rmH, blkQ, frz_us, Nat.reduceEqDiff, Nat.reduceLT, Nat.reduceAdd, ↓reduceIte, reduceCtorEq, Nat.reduceLeDiff, cS, I, nbiParse] | (refine callC_pure (cs) rfl ?_) | exact W_ret (RetP_1 (.imm rfl)) | exact W_ret (RetP_c rfl rfl rfl (.imm rfl)))
          exact W_ret (RetP_ct rfl rfl rfl (.imm rfl) (.imm rfl))
      · have ho' : okD (rest45 l) = false := by simpa using ho
        rw [parseR_bad ho'] at cp
        have hr : parseI l = .tup [I 0, .bool false] := by unfold parseI; rw [ho']; rfl
        rw [hr]
        repeat (first | (refine W_seq ?_) | (refine W_reg ?_) | (refine W_regd ?_) | (refine W_block ?_) | (refine And.intro (by omega) ?_) | simp (config := {maxSteps := 1000000}) (disch := omega) only [cA, cB, lk, lkH, Dst.onT, Dst.onX, Dst.slot, setF, setH, mapF, mapH, initF, binE, unE, cnt, boundE, newsE, freshE, opE, rmH, blkQ, frz_us, Nat.reduceEqDiff, Nat.reduceLT, Nat.reduceAdd, ↓reduceIte, reduceCtorEq, Nat.reduceLeDiff, cS] | (refine callC_pure (cp) rfl ?_) | exact W_ret (RetP_1 (.imm rfl)) | exact W_ret (RetP_c rfl rfl rfl (.imm rfl)))
        refine W_cond rfl (fun _ => ?_) (fun h => by simp at h)
        repeat (first | (refine W_seq ?_) | (refine W_reg ?_) | (refine W_regd ?_) | (refine W_block ?_) | (refine And.intro (by omega) ?_) | simp (config := {maxSteps := 1000000}) (disch := omega) only [cA, cB, lk, lkH, Dst.onT, Dst.onX, Dst.slot, setF, setH, mapF, mapH, initF, binE, unE, cnt, boundE, newsE, freshE, opE, rmH, blkQ, frz_us, Nat.reduceEqDiff, Nat.reduceLT, Nat.reduceAdd, ↓reduceIte, reduceCtorEq, Nat.reduceLeDiff, cS, nbiParse])
        exact W_ret (RetP_ct rfl rfl rfl (by rw [I0]; exact Exp_bn _ _) (.imm rfl))
    · have h45' : neg45 l = false := by simpa using h45
      have d45 : decide ((((l.getD 0 0).toNat : Nat) : Int) = 45) = false := decide_eq_false (fun h => h45 (by
        cases l with
        | nil => simp at hn
        | cons c r =>
          rw [List.getD_cons_zero] at h
          have : c.toNat = 45 := by omega
          simp only [neg45, List.head?_cons, Option.some.injEq, decide_eq_true_eq]
          exact UInt8.toNat_inj.1 this))
      have hrest : rest45 l = l := by unfold rest45; rw [h45']; rfl
      rw [h45'] at cs
      repeat (first | (refine W_seq ?_) | (refine W_reg ?_) | (refine W_regd ?_) | (refine W_block ?_) | (refine And.intro (by omega) ?_) | simp (config := {maxSteps := 1000000}) (disch := omega) only [cA, cB, lk, lkH, Dst.onT, Dst.onX, Dst.slot, setF, setH, mapF, mapH, initF, binE, unE, cnt, boundE, newsE, freshE, opE, rmH, blkQ, frz_us, Nat.reduceEqDiff, Nat.reduceLT, Nat.reduceAdd, ↓reduceIte, reduceCtorEq, Nat.reduceLeDiff, cS, nbiParse, dn, e0, ebd, d45])
      refine W_cond rfl (fun h => by cases h) (fun _ => W_skip ?_)
      by_cases ho : okD (rest45 l) = true
      · have hp : parseR (rest45 l) = .tup [.sl 1 (us (limbs (dval 0 (rest45 l)))), .bool true] := by unfold parseR; rw [ho]; rfl
        rw [hp] at cp
        have hr : parseI l = .tup [I (sgn false (dval 0 (rest45 l))), .bool true] := by unfold parseI; rw [h45', ho]; rfl
        rw [hr]
        rw [hrest] at cp cs
        try rw [hrest]
        repeat (first | (refine W_seq ?_) | (refine W_reg ?_) | (refine W_regd ?_) | (refine W_block ?_) | (refine And.intro (by omega) ?_) | simp (config := {maxSteps := 1000000}) (disch := omega) only [cA, cB, lk, lkH, Dst.onT, Dst.onX, Dst.slot, setF, setH, mapF, mapH, initF, binE, unE, cnt, boundE, newsE, freshE, opE, rmH, blkQ, frz_us, Nat.reduceEqDiff, Nat.reduceLT, Nat.reduceAdd, ↓reduceIte, reduceCtorEq, Nat.reduceLeDiff, cS] | (refine callC_pure (cp) rfl ?_) | exact W_ret (RetP_1 (.imm rfl)) | exact W_ret (RetP_c rfl rfl rfl (.imm rfl)))
        refine W_cond rfl (fun h => by cases h) (fun _ => W_skip ?_)
        repeat (first | (refine W_seq ?_) | (refine W_reg ?_) | (refine W_regd ?_) | (refine W_block ?_) | (refine And.intro (by omega) ?_) | simp (config := {maxSteps := 1000000}) (disch := omega) only [cA, cB, lk, lkH, Dst.onT, Dst.onX, Dst.slot, setF, setH, mapF, mapH, initF, binE, unE, cnt, boundE, newsE, freshE, opE, rmH, blkQ, frz_us, Nat.reduceEqDiff, Nat.reduceLT, Nat.reduceAdd, ↓reduceIte, reduceCtorEq, Nat.reduceLeDiff, cS, I, nbiParse] | (refine callC_pure (cs) rfl ?_) | exact W_ret (RetP_1 (.imm rfl)) | exact W_ret (RetP_c rfl rfl rfl (.imm rfl)))
        exact W_ret (RetP_ct rfl rfl rfl (.imm rfl) (.imm rfl))
      · have ho' : okD (rest45 l) = false := by simpa using ho
        rw [parseR_bad ho'] at cp
        have hr : parseI l = .tup [I 0, .bool false] := by unfold parseI; rw [ho']; rfl
        rw [hr]
        rw [hrest] at cp cs
        try rw [hrest]
        repeat (first | (refine W_seq ?_) | (refine W_reg ?_) | (refine W_regd ?_) | (refine W_block ?_) | (refine And.intro (by omega) ?_) | simp (config := {maxSteps := 1000000}) (disch := omega) only [cA, cB, lk, lkH, Dst.onT, Dst.onX, Dst.slot, setF, setH, mapF, mapH, initF, binE, unE, cnt, boundE, newsE, freshE, opE, rmH, blkQ, frz_us, Nat.reduceEqDiff, Nat.reduceLT, Nat.reduceAdd, ↓reduceIte, reduceCtorEq, Nat.reduceLeDiff, cS] | (refine callC_pure (cp) rfl ?_) | exact W_ret (RetP_1 (.imm rfl)) | exact W_ret (RetP_c rfl rfl rfl (.imm rfl)))
        refine W_cond rfl (fun _ => ?_) (fun h => by simp at h)
        repeat (first | (refine W_seq ?_) | (refine W_reg ?_) | (refine W_regd ?_) | (refine W_block ?_) | (refine And.intro (by omega) ?_) | simp (config := {maxSteps := 1000000}) (disch := omega) only [cA, cB, lk, lkH, Dst.onT, Dst.onX, Dst.slot, setF, setH, mapF, mapH, initF, binE, unE, cnt, boundE, newsE, freshE, opE, rmH, blkQ, frz_us, Nat.reduceEqDiff, Nat.reduceLT, Nat.reduceAdd, ↓reduceIte, reduceCtorEq, Nat.reduceLeDiff, cS, nbiParse])
        exact W_ret (RetP_ct rfl rfl rfl (by rw [I0]; exact Exp_bn _ _) (.imm rfl))
  · have dn : decide ((0 : Int) < l.length) = false := decide_eq_false (by omega)
    have hl0 : l = [] := List.length_eq_zero_iff.1 (by omega)
    have h45' : neg45 l = false := by subst hl0; rfl
    have hrest : rest45 l = l := by unfold rest45; rw [h45']; rfl
    rw [h45'] at cs
    repeat (first | (refine W_seq ?_) | (refine W_reg ?_) | (refine W_regd ?_) | (refine W_block ?_) | (refine And.intro (by omega) ?_) | simp (config := {maxSteps := 1000000}) (disch := omega) only [cA, cB, lk, lkH, Dst.onT, Dst.onX, Dst.slot, setF, setH, mapF, mapH, initF, binE, unE, cnt, boundE, newsE, freshE, opE, rmH, blkQ, frz_us, Nat.reduceEqDiff, Nat.reduceLT, Nat.reduceAdd, ↓reduceIte, reduceCtorEq, Nat.reduceLeDiff, cS, nbiParse, dn])
    refine W_cond rfl (fun h => by cases h) (fun _ => W_skip ?_)
    by_cases ho : okD (rest45 l) = true
    · have hp : parseR (rest45 l) = .tup [.sl 1 (us (limbs (dval 0 (rest45 l)))), .bool true] := by unfold parseR; rw [ho]; rfl
      rw [hp] at cp
      have hr : parseI l = .tup [I (sgn false (dval 0 (rest45 l))), .bool true] := by unfold parseI; rw [h45', ho]; rfl
      rw [hr]
      rw [hrest] at cp cs
      try rw [hrest]
      repeat (first | (refine W_seq ?_) | (refine W_reg ?_) | (refine W_regd ?_) | (refine W_block ?_) | (refine And.intro (by omega) ?_) | simp (config := {maxSteps := 1000000}) (disch := omega) only [cA, cB, lk, lkH, Dst.onT, Dst.onX, Dst.slot, setF, setH, mapF, mapH, initF, binE, unE, cnt, boundE, newsE, freshE, opE, rmH, blkQ, frz_us, Nat.reduceEqDiff, Nat.reduceLT, Nat.reduceAdd, ↓reduceIte, reduceCtorEq, Nat.reduceLeDiff, cS] | (refine callC_pure (cp) rfl ?_) | exact W_ret (RetP_1 (.imm rfl)) | exact W_ret (RetP_c rfl rfl rfl (.imm rfl)))
      refine W_cond rfl (fun h => by cases h) (fun _ => W_skip ?_)
      repeat (first | (refine W_seq ?_) | (refine W_reg ?_) | (refine W_regd ?_) | (refine W_block ?_) | (refine And.intro (by omega) ?_) | simp (config := {maxSteps := 1000000}) (disch := omega) only [cA, cB, lk, lkH, Dst.onT, Dst.onX, Dst.slot, setF, setH, mapF, mapH, initF, binE, unE, cnt, boundE, newsE, freshE, opE, rmH, blkQ, frz_us, Nat.reduceEqDiff, Nat.reduceLT, Nat.reduceAdd, ↓reduceIte, reduceCtorEq, Nat.reduceLeDiff, cS, I, nbiParse] | (refine callC_pure (cs) rfl ?_) | exact W_ret (RetP_1 (.imm rfl)) | exact W_ret (RetP_c rfl rfl rfl (.imm rfl)))
      exact W_ret (RetP_ct rfl rfl rfl (.imm rfl) (.imm rfl))
    · have ho' : okD (rest45 l) = false := by simpa using ho
      rw [parseR_bad ho'] at cp
      have hr : parseI l = .tup [I 0, .bool false] := by unfold parseI; rw [ho']; rfl
      rw [hr]
      rw [hrest] at cp cs
      try rw [hrest]
      repeat (first | (refine W_seq ?_) | (refine W_reg ?_) | (refine W_regd ?_) | (refine W_block ?_) | (refine And.intro (by omega) ?_) | simp (config := {maxSteps := 1000000}) (disch := omega) only [cA, cB, lk, lkH, Dst.onT, Dst.onX, Dst.slot, setF, setH, mapF, mapH, initF, binE, unE, cnt, boundE, newsE, freshE, opE, rmH, blkQ, frz_us, Nat.reduceEqDiff, Nat.reduceLT, Nat.reduceAdd, ↓reduceIte, reduceCtorEq, Nat.reduceLeDiff, cS] | (refine callC_pure (cp) rfl ?_) | exact W_ret (RetP_1 (.imm rfl)) | exact W_ret (RetP_c rfl rfl rfl (.imm rfl)))
      refine W_cond rfl (fun _ => ?_) (fun h => by simp at h)
      repeat (first | (refine W_seq ?_) | (refine W_reg ?_) | (refine W_regd ?_) | (refine W_block ?_) | (refine And.intro (by omega) ?_) | simp (config := {maxSteps := 1000000}) (disch := omega) only [cA, cB, lk, lkH, Dst.onT, Dst.onX, Dst.slot, setF, setH, mapF, mapH, initF, binE, unE, cnt, boundE, newsE, freshE, opE, rmH, blkQ, frz_us, Nat.reduceEqDiff, Nat.reduceLT, Nat.reduceAdd, ↓reduceIte, reduceCtorEq, Nat.reduceLeDiff, cS, nbiParse])
      exact W_ret (RetP_ct rfl rfl rfl (by rw [I0]; exact Exp_bn _ _) (.imm rfl))
set_option maxHeartbeats 2000000 in
theorem sParse_calls (l : List UInt8) (hll : l.length ≤ 1000000000) : PCalls Tryd.prog 31 [.str l] (parseI l) := by
  have cp := rParse_calls (rest45 l)
  have cs := s_signed_calls (neg45 l) (dval 0 (rest45 l))
  refine PCalls_of issParse (by simp [fnsParse]) ?_
  unfold codesParse
  have e0 : (Int.toNat 0) = 0 := rfl
  have e1 : (Int.toNat 1) = 1 := rfl
  by_cases hn : 0 < l.length
  · have dn : decide ((0 : Int) < l.length) = true := decide_eq_true (by omega)
    have ebd : byteD (l.getD 0 0) = .int .u8 ((l.getD 0 0).toNat : Nat) := rfl
    by_cases h45 : neg45 l = true
    · have d45 : decide ((((l.getD 0 0).toNat : Nat) : Int) = 45) = true := decide_eq_true (by
        cases l with
        | nil => simp at hn
        | cons c r =>
          simp only [neg45, List.head?_cons, Option.some.injEq, decide_eq_true_eq] at h45
          rw [List.getD_cons_zero, h45]; rfl)
      have hrest : (l.take l.length).drop 1 = rest45 l := by rw [List.take_length]; unfold rest45; rw [h45, if_pos rfl, List.drop_one]
      rw [h45] at cs
      repeat (first | (refine W_seq ?_) | (refine W_reg ?_) | (refine W_regd ?_) | (refine W_block ?_) | (refine And.intro (by omega) ?_) | simp (config := {maxSteps := 1000000}) (disch := omega) only [cA, cB, lk, lkH, Dst.onT, Dst.onX, Dst.slot, setF, setH, mapF, mapH, initF, binE, unE, cnt, boundE, newsE, freshE, opE, rmH, blkQ, frz_us, Nat.reduceEqDiff, Nat.reduceLT, Nat.reduceAdd, ↓reduceIte, reduceCtorEq, Nat.reduceLeDiff, cS, nbsParse, dn, e0, ebd, d45])
      refine W_cond rfl (fun _ => ?_) (fun h => by cases h)
      repeat (first | (refine W_seq ?_) | (refine W_reg ?_) | (refine W_regd ?_) | (refine W_block ?_) | (refine And.intro (by omega) ?_) | simp (config := {maxSteps := 1000000}) (disch := omega) only [cA, cB, lk, lkH, Dst.onT, Dst.onX, Dst.slot, setF, setH, mapF, mapH, initF, binE, unE, cnt, boundE, newsE, freshE, opE, rmH, blkQ, frz_us, Nat.reduceEqDiff, Nat.reduceLT, Nat.reduceAdd, ↓reduceIte, reduceCtorEq, Nat.reduceLeDiff, e1, hrest])
      by_cases ho : okD (rest45 l) = true
      · have hp : parseR (rest45 l) = .tup [.sl 1 (us (limbs (dval 0 (rest45 l)))), .bool true] := by unfold parseR; rw [ho]; rfl
        rw [hp] at cp
        by_cases hv : dval 0 (rest45 l) = 0
        · have hlen : (limbs (dval 0 (rest45 l))).length = 0 := by rw [hv, limbs_zero]; rfl
          have hr : parseI l = .tup [I 0, .bool false] := by unfold parseI; rw [h45, ho, decide_eq_true hv]; rfl
          rw [hr]
          repeat (first | (refine W_seq ?_) | (refine W_reg ?_) | (refine W_regd ?_) | (refine W_block ?_) | (refine And.intro (by omega) ?_) | simp (config := {maxSteps := 1000000}) (disch := omega) only [cA, cB, lk, lkH, Dst.onT, Dst.onX, Dst.slot, setF, setH, mapF, mapH, initF, binE, unE, cnt, boundE, newsE, freshE, opE, rmH, blkQ, frz_us, Nat.reduceEqDiff, Nat.reduceLT, Nat.reduceAdd, ↓reduceIte, reduceCtorEq, Nat.reduceLeDiff, cS, us_length, hlen] | (refine callC_pure (cp) rfl ?_) | exact W_ret (RetP_1 (.imm rfl)) | exact W_ret (RetP_c rfl rfl rfl (.imm rfl)))
          refine W_cond rfl (fun _ => ?_) (fun h => by simp at h)
          repeat (first | (refine W_seq ?_) | (refine W_reg ?_) | (refine W_regd ?_) | (refine W_block ?_) | (refine And.intro (by omega) ?_) | simp (config := {maxSteps := 1000000}) (disch := omega) only [cA, cB, lk, lkH, Dst.onT, Dst.onX, Dst.slot, setF, setH, mapF, mapH, initF, binE, unE, cnt, boundE, newsE, freshE, opE, rmH, blkQ, frz_us, Nat.reduceEqDiff, Nat.reduceLT, Nat.reduceAdd, ↓reduceIte, reduceCtorEq, Nat.reduceLeDiff, cS, nbsParse])
          exact W_ret (RetP_ct rfl rfl rfl (by rw [I0]; exact Exp_bn _ _) (.imm rfl))
        · have hlen : decide (((limbs (dval 0 (rest45 l))).length : Int) = 0) = false := decide_eq_false fun h => by
            have := (limbs_len (n := dval 0 (rest45 l)) (k := 0)).1 (by omega)
            rw [Nat.pow_zero] at this
            omega
          have hr : parseI l = .tup [I (sgn true (dval 0 (rest45 l))), .bool true] := by unfold parseI; rw [h45, ho, decide_eq_false hv]; rfl
          rw [hr]
          repeat (first | (refine W_seq ?_) | (refine W_reg ?_) | (refine W_regd ?_) | (refine W_block ?_) | (refine And.intro (by omega) ?_) | simp (config := {maxSteps := 1000000}) (disch := omega) only [cA, cB, lk, lkH, Dst.onT, Dst.onX, Dst.slot, setF, setH, mapF, mapH, initF, binE, unE, cnt, boundE, newsE, freshE, opE, rmH, blkQ, frz_us, Nat.reduceEqDiff, Nat.reduceLT, Nat.reduceAdd, ↓reduceIte, reduceCtorEq, Nat.reduceLeDiff, cS, us_length, hlen] | (refine callC_pure (cp) rfl ?_) | exact W_ret (RetP_1 (.imm rfl)) | exact W_ret (RetP_c rfl rfl rfl (.imm rfl)))
          refine W_cond rfl (fun h => by cases h) (fun _ => W_skip ?_)
          repeat (first | (refine W_seq ?_) | (refine W_reg ?_) | (refine W_regd ?_) | (refine W_block ?_) | (refine And.intro (by omega) ?_) | simp (config := {maxSteps := 1000000}) (disch := omega) only [cA, cB, lk, lkH, Dst.onT, Dst.onX, Dst.slot, setF, setH, mapF, mapH, initF, binE, unE, cnt, boundE, newsE, freshE, opE, rmH, blkQ, frz_us, Nat.reduceEqDiff, Nat.reduceLT, Nat.reduceAdd, ↓reduceIte, reduceCtorEq, Nat.reduceLeDiff, cS, I, nbsParse] | (refine callC_pure (cs) rfl ?_) | exact W_ret (RetP_1 (.imm rfl)) | exact W_ret (RetP_c rfl rfl rfl (.imm rfl)))
          exact W_ret (RetP_ct rfl rfl rfl (.imm rfl) (.imm rfl))
      · have ho' : okD (rest45 l) = false := by simpa using ho
        rw [parseR_bad ho'] at cp
        have hr : parseI l = .tup [I 0, .bool false] := by unfold parseI; rw [ho']; rfl
        rw [hr]
        repeat (first | (refine W_seq ?_) | (refine W_reg ?_) | (refine W_regd ?_) | (refine W_block ?_) | (refine And.intro (by omega) ?_) | simp (config := {maxSteps := 1000000}) (disch := omega) only [cA, cB, lk, lkH, Dst.onT, Dst.onX, Dst.slot, setF, setH, mapF, mapH, initF, binE, unE, cnt, boundE, newsE, freshE, opE, rmH, blkQ, frz_us, Nat.reduceEqDiff, Nat.reduceLT, Nat.reduceAdd, ↓reduceIte, reduceCtorEq, Nat.reduceLeDiff, cS] | (refine callC_pure (cp) rfl ?_) | exact W_ret (RetP_1 (.imm rfl)) | exact W_ret (RetP_c rfl rfl rfl (.imm rfl)))
        refine W_cond rfl (fun _ => ?_) (fun h => by simp at h)
        repeat (first | (refine W_seq ?_) | (refine W_reg ?_) | (refine W_regd ?_) | (refine W_block ?_) | (refine And.intro (by omega) ?_) | simp (config := {maxSteps := 1000000}) (disch := omega) only [cA, cB, lk, lkH, Dst.onT, Dst.onX, Dst.slot, setF, setH, mapF, mapH, initF, binE, unE, cnt, boundE, newsE, freshE, opE, rmH, blkQ, frz_us, Nat.reduceEqDiff, Nat.reduceLT, Nat.reduceAdd, ↓reduceIte, reduceCtorEq, Nat.reduceLeDiff, cS, nbsParse])
        exact W_ret (RetP_ct rfl rfl rfl (by rw [I0]; exact Exp_bn _ _) (.imm rfl))
    · have h45' : neg45 l = false := by simpa using h45
      have d45 : decide ((((l.getD 0 0).toNat : Nat) : Int) = 45) = false := decide_eq_false (fun h => h45 (by
        cases l with
        | nil => simp at hn
        | cons c r =>
          rw [List.getD_cons_zero] at h
          have : c.toNat = 45 := by omega
          simp only [neg45, List.head?_cons, Option.some.injEq, decide_eq_true_eq]
          exact UInt8.toNat_inj.1 this))
      have hrest : rest45 l = l := by unfold rest45; rw [h45']; rfl
      rw [h45'] at cs
      repeat (first | (refine W_seq ?_) | (refine W_reg ?_) | (refine W_regd ?_) | (refine W_block ?_) | (refine And.intro (by omega) ?_) | simp (config := {maxSteps := 1000000}) (disch := omega) only [cA, cB, lk, lkH, Dst.onT, Dst.onX, Dst.slot, setF, setH, mapF, mapH, initF, binE, unE, cnt, boundE, newsE, freshE, opE, rmH, blkQ, frz_us, Nat.reduceEqDiff, Nat.reduceLT, Nat.reduceAdd, ↓reduceIte, reduceCtorEq, Nat.reduceLeDiff, cS, nbsParse, dn, e0, ebd, d45])
      refine W_cond rfl (fun h => by cases h) (fun _ => W_skip ?_)
      by_cases ho : okD (rest45 l) = true
      · have hp : parseR (rest45 l) = .tup [.sl 1 (us (limbs (dval 0 (rest45 l)))), .bool true] := by unfold parseR; rw [ho]; rfl
        rw [hp] at cp
        have hr : parseI l = .tup [I (sgn false (dval 0 (rest45 l))), .bool true] := by unfold parseI; rw [h45', ho]; rfl
        rw [hr]
        rw [hrest] at cp cs
        try rw [hrest]
        repeat (first | (refine W_seq ?_) | (refine W_reg ?_) | (refine W_regd ?_) | (refine W_block ?_) | (refine And.intro (by omega) ?_) | simp (config := {maxSteps := 1000000}) (disch := omega) only [cA, cB, lk, lkH, Dst.onT, Dst.onX, Dst.slot, setF, setH, mapF, mapH, initF, binE, unE, cnt, boundE, newsE, freshE, opE, rmH, blkQ, frz_us, Nat.reduceEqDiff, Nat.reduceLT, Nat.reduceAdd, ↓reduceIte, reduceCtorEq, Nat.reduceLeDiff, cS] | (refine callC_pure (cp) rfl ?_) | exact W_ret (RetP_1 (.imm rfl)) | exact W_ret (RetP_c rfl rfl rfl (.imm rfl)))
        refine W_cond rfl (fun h => by cases h) (fun _ => W_skip ?_)
        repeat (first | (refine W_seq ?_) | (refine W_reg ?_) | (refine W_regd ?_) | (refine W_block ?_) | (refine And.intro (by omega) ?_) | simp (config := {maxSteps := 1000000}) (disch := omega) only [cA, cB, lk, lkH, Dst.onT, Dst.onX, Dst.slot, setF, setH, mapF, mapH, initF, binE, unE, cnt, boundE, newsE, freshE, opE, rmH, blkQ, frz_us, Nat.reduceEqDiff, Nat.reduceLT, Nat.reduceAdd, ↓reduceIte, reduceCtorEq, Nat.reduceLeDiff, cS, I, nbsParse] | (refine callC_pure (cs) rfl ?_) | exact W_ret (RetP_1 (.imm rfl)) | exact W_ret (RetP_c rfl rfl rfl (.imm rfl)))
        exact W_ret (RetP_ct rfl rfl rfl (.imm rfl) (.imm rfl))
      · have ho' : okD (rest45 l) = false := by simpa using ho
        rw [parseR_bad ho'] at cp
        have hr : parseI l = .tup [I 0, .bool false] := by unfold parseI; rw [ho']; rfl
        rw [hr]
        rw [hrest] at cp cs
        try rw [hrest]
        repeat (first | (refine W_seq ?_) | (refine W_reg ?_) | (refine W_regd ?_) | (refine W_block ?_) | (refine And.intro (by omega) ?_) | simp (config := {maxSteps := 1000000}) (disch := omega) only [cA, cB, lk, lkH, Dst.onT, Dst.onX, Dst.slot, setF, setH, mapF, mapH, initF, binE, unE, cnt, boundE, newsE, freshE, opE, rmH, blkQ, frz_us, Nat.reduceEqDiff, Nat.reduceLT, Nat.reduceAdd, ↓reduceIte, reduceCtorEq, Nat.reduceLeDiff, cS] | (refine callC_pure (cp) rfl ?_) | exact W_ret (RetP_1 (.imm rfl)) | exact W_ret (RetP_c rfl rfl rfl (.imm rfl)))
        refine W_cond rfl (fun _ => ?_) (fun h => by simp at h)
        repeat (first | (refine W_seq ?_) | (refine W_reg ?_) | (refine W_regd ?_) | (refine W_block ?_) | (refine And.intro (by omega) ?_) | simp (config := {maxSteps := 1000000}) (disch := omega) only [cA, cB, lk, lkH, Dst.onT, Dst.onX, Dst.slot, setF, setH, mapF, mapH, initF, binE, unE, cnt, boundE, newsE, freshE, opE, rmH, blkQ, frz_us, Nat.reduceEqDiff, Nat.reduceLT, Nat.reduceAdd, ↓reduceIte, reduceCtorEq, Nat.reduceLeDiff, cS, nbsParse])
        exact W_ret (RetP_ct rfl rfl rfl (by rw [I0]; exact Exp_bn _ _) (.imm rfl))
  · have dn : decide ((0 : Int) < l.length) = false := decide_eq_false (by omega)
    have hl0 : l = [] := List.length_eq_zero_iff.1 (by omega)
    have h45' : neg45 l = false := by subst hl0; rfl
    have hrest : rest45 l = l := by unfold rest45; rw [h45']; rfl
    rw [h45'] at cs
    repeat (first | (refine W_seq ?_) | (refine W_reg ?_) | (refine W_regd ?_) | (refine W_block ?_) | (refine And.intro (by omega) ?_) | simp (config := {maxSteps := 1000000}) (disch := omega) only [cA, cB, lk, lkH, Dst.onT, Dst.onX, Dst.slot, setF, setH, mapF, mapH, initF, binE, unE, cnt, boundE, newsE, freshE, opE, rmH, blkQ, frz_us, Nat.reduceEqDiff, Nat.reduceLT, Nat.reduceAdd, ↓reduceIte, reduceCtorEq, Nat.reduceLeDiff, cS, nbsParse, dn])
    refine W_cond rfl (fun h => by cases h) (fun _ => W_skip ?_)
    by_cases ho : okD (rest45 l) = true
    · have hp : parseR (rest45 l) = .tup [.sl 1 (us (limbs (dval 0 (rest45 l)))), .bool true] := by unfold parseR; rw [ho]; rfl
      rw [hp] at cp
      have hr : parseI l = .tup [I (sgn false (dval 0 (rest45 l))), .bool true] := by unfold parseI; rw [h45', ho]; rfl
      rw [hr]
      rw [hrest] at cp cs
      try rw [hrest]
      repeat (first | (refine W_seq ?_) | (refine W_reg ?_) | (refine W_regd ?_) | (refine W_block ?_) | (refine And.intro (by omega) ?_) | simp (config := {maxSteps := 1000000}) (disch := omega) only [cA, cB, lk, lkH, Dst.onT, Dst.onX, Dst.slot, setF, setH, mapF, mapH, initF, binE, unE, cnt, boundE, newsE, freshE, opE, rmH, blkQ, frz_us, Nat.reduceEqDiff, Nat.reduceLT, Nat.reduceAdd, ↓reduceIte, reduceCtorEq, Nat.reduceLeDiff, cS] | (refine callC_pure (cp) rfl ?_) | exact W_ret (RetP_1 (.imm rfl)) | exact W_ret (RetP_c rfl rfl rfl (.imm rfl)))
      refine W_cond rfl (fun h => by cases h) (fun _ => W_skip ?_)
      repeat (first | (refine W_seq ?_) | (refine W_reg ?_) | (refine W_regd ?_) | (refine W_block ?_) | (refine And.intro (by omega) ?_) | simp (config := {maxSteps := 1000000}) (disch := omega) only [cA, cB, lk, lkH, Dst.onT, Dst.onX, Dst.slot, setF, setH, mapF, mapH, initF, binE, unE, cnt, boundE, newsE, freshE, opE, rmH, blkQ, frz_us, Nat.reduceEqDiff, Nat.reduceLT, Nat.reduceAdd, ↓reduceIte, reduceCtorEq, Nat.reduceLeDiff, cS, I, nbsParse] | (refine callC_pure (cs) rfl ?_) | exact W_ret (RetP_1 (.imm rfl)) | exact W_ret (RetP_c rfl rfl rfl (.imm rfl)))
      exact W_ret (RetP_ct rfl rfl rfl (.imm rfl) (.imm rfl))
    · have ho' : okD (rest45 l) = false := by simpa using ho
      rw [parseR_bad ho'] at cp
      have hr : parseI l = .tup [I 0, .bool false] := by unfold parseI; rw [ho']; rfl
      rw [hr]
      rw [hrest] at cp cs
      try rw [hrest]
      repeat (first | (refine W_seq ?_) | (refine W_reg ?_) | (refine W_regd ?_) | (refine W_block ?_) | (refine And.intro (by omega) ?_) | simp (config := {maxSteps := 1000000}) (disch := omega) only [cA, cB, lk, lkH, Dst.onT, Dst.onX, Dst.slot, setF, setH, mapF, mapH, initF, binE, unE, cnt, boundE, newsE, freshE, opE, rmH, blkQ, frz_us, Nat.reduceEqDiff, Nat.reduceLT, Nat.reduceAdd, ↓reduceIte, reduceCtorEq, Nat.reduceLeDiff, cS] | (refine callC_pure (cp) rfl ?_) | exact W_ret (RetP_1 (.imm rfl)) | exact W_ret (RetP_c rfl rfl rfl (.imm rfl)))
      refine W_cond rfl (fun _ => ?_) (fun h => by simp at h)
      repeat (first | (refine W_seq ?_) | (refine W_reg ?_) | (refine W_regd ?_) | (refine W_block ?_) | (refine And.intro (by omega) ?_) | simp (config := {maxSteps := 1000000}) (disch := omega) only [cA, cB, lk, lkH, Dst.onT, Dst.onX, Dst.slot, setF, setH, mapF, mapH, initF, binE, unE, cnt, boundE, newsE, freshE, opE, rmH, blkQ, frz_us, Nat.reduceEqDiff, Nat.reduceLT, Nat.reduceAdd, ↓reduceIte, reduceCtorEq, Nat.reduceLeDiff, cS, nbsParse])
      exact W_ret (RetP_ct rfl rfl rfl (by rw [I0]; exact Exp_bn _ _) (.imm rfl))
end Go.Proofs.YtakchfljhihdmaaDoor
namespace Go.Proofs.YtakchfljhihdmaaDoor
open Go Go.Dat Go.Proofs Nat32
open Go.Lib (decDigits)

theorem rest_len (l : List UInt8) : (rest45 l).length ≤ l.length := by
  unfold rest45
  split
  · rw [List.length_tail]; omega
  · exact Nat.le_refl _
theorem fmtI_len {z : Int} {m : Nat} (h : il z ≤ m) : (fmtI z).length ≤ 10 * m + 2 := by
  have := dd_limbs (n := z.natAbs) h
  unfold fmtI
  split
  · rw [List.length_cons]; omega
  · omega
set_option maxHeartbeats 4000000 in
theorem liWrites_calls (neg : Bool) (a : List Nat) (l : List UInt8) (la : lim a) : PCalls Tryd.prog 7 [X neg a, .str l] (.bool true) := by
  have c1 := li_light_calls neg a
  refine PCalls_of isliIntegerWrites (by simp [fnliIntegerWrites]) ?_
  unfold codeliIntegerWrites
  by_cases h1 : a.length ≤ 10
  · rw [decide_eq_true h1] at c1
    by_cases h2 : 100 < l.length
    · have d2 : decide ((100 : Int) < l.length) = true := decide_eq_true (by omega)
      repeat (first | (refine W_seq ?_) | (refine W_reg ?_) | (refine W_regd ?_) | (refine W_block ?_) | (refine And.intro (by omega) ?_) | simp (config := {maxSteps := 1000000}) (disch := omega) only [cA, cB, lk, lkH, Dst.onT, Dst.onX, Dst.slot, setF, setH, mapF, mapH, initF, binE, unE, cnt, boundE, newsE, freshE, opE, rmH, blkQ, frz_us, Nat.reduceEqDiff, Nat.reduceLT, Nat.reduceAdd, ↓reduceIte, reduceCtorEq, Nat.reduceLeDiff, X, cS, nbliIntegerWrites, d2] | (refine callC_pure (c1) rfl ?_) | exact W_ret (RetP_1 (.imm rfl)) | exact W_ret (RetP_c rfl rfl rfl (.imm rfl)))
      refine W_cond rfl (fun _ => ?_) (fun h => by cases h)
      repeat (first | (refine W_seq ?_) | (refine W_reg ?_) | (refine W_regd ?_) | (refine W_block ?_) | (refine And.intro (by omega) ?_) | simp (config := {maxSteps := 1000000}) (disch := omega) only [cA, cB, lk, lkH, Dst.onT, Dst.onX, Dst.slot, setF, setH, mapF, mapH, initF, binE, unE, cnt, boundE, newsE, freshE, opE, rmH, blkQ, frz_us, Nat.reduceEqDiff, Nat.reduceLT, Nat.reduceAdd, ↓reduceIte, reduceCtorEq, Nat.reduceLeDiff, X, cS, nbliIntegerWrites] | (refine callC_pure (li_awake_calls) rfl ?_) | exact W_ret (RetP_1 (.imm rfl)) | exact W_ret (RetP_c rfl rfl rfl (.imm rfl)))
    · have d2 : decide ((100 : Int) < l.length) = false := decide_eq_false (by omega)
      have p1 := iParse_calls l (by omega)
      have p2 := sParse_calls l (by omega)
      have f1 := iFormat_calls neg a (by omega) la
      have f2 := sFormat_calls neg a (by omega) la
      have hr := rest_len l
      have sm : ∀ b (v : Nat), (limbs v).length ≤ 1000 → PCalls Tryd.prog 12 [I (sgn b v), I (sgn b v)] (.bool true) := fun b v hv => sameI _ _ rfl (by rw [sgn_abs]; omega)
      have s0 := sameI 0 0 rfl (by rw [show (0 : Int).natAbs = 0 from rfl, limbs_zero]; simp)
      generalize fmtI (iv neg a) = F at *
      repeat (first | (refine W_seq ?_) | (refine W_reg ?_) | (refine W_regd ?_) | (refine W_block ?_) | (refine And.intro (by omega) ?_) | simp (config := {maxSteps := 1000000}) (disch := omega) only [cA, cB, lk, lkH, Dst.onT, Dst.onX, Dst.slot, setF, setH, mapF, mapH, initF, binE, unE, cnt, boundE, newsE, freshE, opE, rmH, blkQ, frz_us, Nat.reduceEqDiff, Nat.reduceLT, Nat.reduceAdd, ↓reduceIte, reduceCtorEq, Nat.reduceLeDiff, X, cS, nbliIntegerWrites, d2] | (refine callC_pure (c1) rfl ?_) | exact W_ret (RetP_1 (.imm rfl)) | exact W_ret (RetP_c rfl rfl rfl (.imm rfl)))
      refine W_cond rfl (fun h => by cases h) (fun _ => W_skip ?_)
      unfold parseI at p1 p2
      by_cases hc : (okD (rest45 l) && !(neg45 l && decide (dval 0 (rest45 l) = 0))) = true
      · rw [if_pos hc] at p1 p2
        have ho : okD (rest45 l) = true := by rw [Bool.and_eq_true] at hc; exact hc.1
        have hs := sm (neg45 l) (dval 0 (rest45 l)) (dval_len ((okD_iff _).1 ho).2.2.2 (by omega))
        generalize sgn (neg45 l) (dval 0 (rest45 l)) = z at *
        clear hc ho sm hr
        repeat (first | (refine W_seq ?_) | (refine W_reg ?_) | (refine W_regd ?_) | (refine W_block ?_) | (refine And.intro (by omega) ?_) | simp (config := {maxSteps := 1000000}) (disch := omega) only [cA, cB, lk, lkH, Dst.onT, Dst.onX, Dst.slot, setF, setH, mapF, mapH, initF, binE, unE, cnt, boundE, newsE, freshE, opE, rmH, blkQ, frz_us, Nat.reduceEqDiff, Nat.reduceLT, Nat.reduceAdd, ↓reduceIte, reduceCtorEq, Nat.reduceLeDiff, X, I, cS, nbliIntegerWrites, decide_true, beq_self_eq_true] | (refine callC_pure (li_awake_calls) rfl ?_) | (refine callC_pure (p1) rfl ?_) | (refine callC_pure (p2) rfl ?_) | (refine callC_pure (f1) rfl ?_) | (refine callC_pure (f2) rfl ?_) | (refine callC_pure (hs) rfl ?_) | exact W_ret (RetP_1 (.imm rfl)) | exact W_ret (RetP_c rfl rfl rfl (.imm rfl)))
      · rw [if_neg hc] at p1 p2
        clear hc sm hr
        repeat (first | (refine W_seq ?_) | (refine W_reg ?_) | (refine W_regd ?_) | (refine W_block ?_) | (refine And.intro (by omega) ?_) | simp (config := {maxSteps := 1000000}) (disch := omega) only [cA, cB, lk, lkH, Dst.onT, Dst.onX, Dst.slot, setF, setH, mapF, mapH, initF, binE, unE, cnt, boundE, newsE, freshE, opE, rmH, blkQ, frz_us, Nat.reduceEqDiff, Nat.reduceLT, Nat.reduceAdd, ↓reduceIte, reduceCtorEq, Nat.reduceLeDiff, X, I, cS, nbliIntegerWrites, decide_true, beq_self_eq_true] | (refine callC_pure (li_awake_calls) rfl ?_) | (refine callC_pure (p1) rfl ?_) | (refine callC_pure (p2) rfl ?_) | (refine callC_pure (f1) rfl ?_) | (refine callC_pure (f2) rfl ?_) | (refine callC_pure (s0) rfl ?_) | exact W_ret (RetP_1 (.imm rfl)) | exact W_ret (RetP_c rfl rfl rfl (.imm rfl)))
  · rw [decide_eq_false h1] at c1
    repeat (first | (refine W_seq ?_) | (refine W_reg ?_) | (refine W_regd ?_) | (refine W_block ?_) | (refine And.intro (by omega) ?_) | simp (config := {maxSteps := 1000000}) (disch := omega) only [cA, cB, lk, lkH, Dst.onT, Dst.onX, Dst.slot, setF, setH, mapF, mapH, initF, binE, unE, cnt, boundE, newsE, freshE, opE, rmH, blkQ, frz_us, Nat.reduceEqDiff, Nat.reduceLT, Nat.reduceAdd, ↓reduceIte, reduceCtorEq, Nat.reduceLeDiff, X, cS, nbliIntegerWrites] | (refine callC_pure (c1) rfl ?_) | exact W_ret (RetP_1 (.imm rfl)) | exact W_ret (RetP_c rfl rfl rfl (.imm rfl)))
    refine W_cond rfl (fun _ => ?_) (fun h => by cases h)
    repeat (first | (refine W_seq ?_) | (refine W_reg ?_) | (refine W_regd ?_) | (refine W_block ?_) | (refine And.intro (by omega) ?_) | simp (config := {maxSteps := 1000000}) (disch := omega) only [cA, cB, lk, lkH, Dst.onT, Dst.onX, Dst.slot, setF, setH, mapF, mapH, initF, binE, unE, cnt, boundE, newsE, freshE, opE, rmH, blkQ, frz_us, Nat.reduceEqDiff, Nat.reduceLT, Nat.reduceAdd, ↓reduceIte, reduceCtorEq, Nat.reduceLeDiff, X, cS, nbliIntegerWrites] | (refine callC_pure (li_awake_calls) rfl ?_) | exact W_ret (RetP_1 (.imm rfl)) | exact W_ret (RetP_c rfl rfl rfl (.imm rfl)))
end Go.Proofs.YtakchfljhihdmaaDoor
