/- Lemmas of the walk; no conditions beyond those that each states. -/
import Derived.Shelf.Strings.Builder1
import Derived.Shelf.Strings.Builder2
import Derived.Shelf.Strings.OnBuilder
import Derived.Shelf.Strings.Trim
import Derived.Shelf.Small.Utf8
import Derived.Shelf.Small.Bits
import Derived.Shelf.Small.Strs
import Derived.Shelf.Small.Wraps
import Derived.Shelf.Strings.BuilderF
import Derived.Shelf.Strings.BuilderK
import Derived.Shelf.Strings.Builder2Cap
import Derived.Shelf.Strconv.Itoa0
import Derived.Shelf.Strconv.Itoa1
import Derived.Shelf.LaysM
import Derived.Shelf.Strconv.Itoa2
import Derived.Shelf.Strconv.Itoa3
import Derived.Shelf.Strings.Search1
import Derived.Shelf.Strings.Search2
import Derived.Shelf.Strings.Cut
import Derived.Shelf.Strings.Shaped
import Derived.Shelf.Strings.Prefix
import Derived.Shelf.Strings.Runes
import Derived.Shelf.Strings.IndexAny
import Derived.Shelf.Strings.AsciiSet
import Derived.Shelf.Strings.IndexAnyAll
import Derived.Shelf.Bits.Mul64
import Derived.Shelf.Strings.Repeat
import Derived.Shelf.Unicode.DecodeSlow
import Derived.Shelf.Strings.BuilderCap
import Derived.Ground.Names2Prog
import Derived.Shelf.Slices.ReverseS
import Derived.Shelf.Slices.Cells
import Derived.Test.YteiagmmfapbaiaaGreatDoorProg
import Derived.Test.YteiagmmfapbaiaaGreatDoorT2
import Derived.Test.YteiagmmfapbaiaaGreatDoorN1
import Derived.Test.YteiagmmfapbaiaaGreatDoorD2
set_option linter.unusedSimpArgs false
set_option linter.unusedVariables false
set_option linter.unnecessarySimpa false
namespace Go.Proofs.YteiagmmfapbaiaaGreatDoor
open Go Go.Dat Go.Proofs Nat32
open Go.Lib (decDigits)
theorem us1L' : [DV.int .u32 1] = us (limbs 1) := us1L
theorem limbs1_le {m : Nat} (h : 1 ≤ m) : (limbs 1).length ≤ m := by rw [limbs1]; exact h
theorem q_one_calls : PCalls Tryz.prog 79 [] (.sl 1 (us (limbs 1))) := by
  refine PCalls_of isq_one (by simp [fnq_one]) ?_
  unfold codeq_one
  repeat (first | (refine W_seq ?_) | (refine W_reg ?_) | (refine W_regd ?_) | (refine W_block ?_) | (refine And.intro (by omega) ?_) | simp (maxSteps := 1000000) (disch := omega) only [cA, cB, lk, lkH, Dst.onT, Dst.onX, Dst.slot, setF, setH, mapF, mapH, initF, binE, unE, cnt, boundE, newsE, freshE, opE, rmH, blkQ, frz_us, Nat.reduceEqDiff, Nat.reduceLT, Nat.reduceAdd, ↓reduceIte, reduceCtorEq, Nat.reduceLeDiff, us_rfd, us1L])
  exact W_ret (RetP_1 (.imm rfl))
theorem cmp_one (n : Nat) : decide (cmpN n 1 = 0) = decide (n = 1) := by
  rw [decide_eq_decide]; unfold cmpN; (repeat' split) <;> omega
theorem cmp_one' (n : Nat) : decide (cmpN n 1 = 0) = decide (1 = n) := by
  rw [decide_eq_decide]; unfold cmpN; (repeat' split) <;> omega
theorem nCmp1 (d : List Nat) (hd : d.length ≤ 1000) (ld : lim d) : PCalls Tryz.prog 77 [.sl 1 (us d), .sl 1 (us (limbs 1))] (.int .i64 (cmpN (vn d) 1)) := by
  have := nCmp_calls d (limbs 1) (by omega) (limbs1_le (by decide)) ld (lim_limbs _)
  rwa [vn_limbs] at this
theorem qValid_calls (neg : Bool) (a d : List Nat) (ha : a.length ≤ 1000) (hd : d.length ≤ 1000) (la : lim a) (ld : lim d) : PCalls Tryz.prog 26 [XQ neg a d] (.bool (vldQ neg a d)) := by
  have c1 := iValid_calls neg a (by omega)
  have c2 := nValid_calls d (by omega)
  have c3 := nCmp1 d hd ld
  have c4 := nGcd_calls a d (by omega) (by omega) la ld
  have hg : (limbs (Nat.gcd (vn a) (vn d))).length ≤ 1000 := by
    by_cases h : vn a = 0
    · rw [h, Nat.gcd_zero_left]; exact Nat.le_trans (vn_len ld) hd
    · exact Nat.le_trans (len_mono (Nat.gcd_le_left _ (Nat.pos_of_ne_zero h))) (Nat.le_trans (vn_len la) ha)
  have c5 := nCmp1 (limbs (Nat.gcd (vn a) (vn d))) hg (lim_limbs _)
  rw [vn_limbs] at c5
  have e3 := cmp_one (vn d)
  have e5 := cmp_one' (Nat.gcd (vn a) (vn d))
  refine PCalls_of isqValid (by simp [fnqValid]) ?_
  unfold codeqValid vldQ
  generalize vldI neg a = p1 at *
  generalize vld d = p2 at *
  generalize Nat.gcd (vn a) (vn d) = G at *
  generalize vn d = D at *
  clear hg
  have k1 : decide ((a.length : Int) = 0) = !decide (0 < a.length) := by
    by_cases h : 0 < a.length
    · rw [decide_eq_true h, decide_eq_false (by omega)]; rfl
    · rw [decide_eq_false h, decide_eq_true (by omega)]; rfl
  have k2 : decide ((d.length : Int) = 0) = decide (d.length = 0) := by rw [decide_eq_decide]; omega
  cases p1
  · simp only [Bool.false_and]
    repeat (first | (refine W_seq ?_) | (refine W_reg ?_) | (refine W_regd ?_) | (refine W_block ?_) | (refine And.intro (by omega) ?_) | simp (maxSteps := 1000000) (disch := omega) only [cA, cB, lk, lkH, Dst.onT, Dst.onX, Dst.slot, setF, setH, mapF, mapH, initF, binE, unE, cnt, boundE, newsE, freshE, opE, rmH, blkQ, frz_us, Nat.reduceEqDiff, Nat.reduceLT, Nat.reduceAdd, ↓reduceIte, reduceCtorEq, Nat.reduceLeDiff, XQ, X, cS, cT, nbqValid, us_length] | (refine callC_pure (c1) rfl ?_) | (refine callC_pure (c2) rfl ?_) | exact W_ret (RetP_1 (.imm rfl)) | exact W_ret (RetP_c rfl rfl rfl (.imm rfl)))
    refine W_cond rfl (fun _ => ?_) (fun h => by cases h)
    repeat (first | (refine W_seq ?_) | (refine W_reg ?_) | (refine W_regd ?_) | (refine W_block ?_) | (refine And.intro (by omega) ?_) | simp (maxSteps := 1000000) (disch := omega) only [cA, cB, lk, lkH, Dst.onT, Dst.onX, Dst.slot, setF, setH, mapF, mapH, initF, binE, unE, cnt, boundE, newsE, freshE, opE, rmH, blkQ, frz_us, Nat.reduceEqDiff, Nat.reduceLT, Nat.reduceAdd, ↓reduceIte, reduceCtorEq, Nat.reduceLeDiff, cS, cT, nbqValid])
    exact W_ret (RetP_1 (.imm rfl))
  · cases p2
    · simp only [Bool.true_and, Bool.false_and]
      repeat (first | (refine W_seq ?_) | (refine W_reg ?_) | (refine W_regd ?_) | (refine W_block ?_) | (refine And.intro (by omega) ?_) | simp (maxSteps := 1000000) (disch := omega) only [cA, cB, lk, lkH, Dst.onT, Dst.onX, Dst.slot, setF, setH, mapF, mapH, initF, binE, unE, cnt, boundE, newsE, freshE, opE, rmH, blkQ, frz_us, Nat.reduceEqDiff, Nat.reduceLT, Nat.reduceAdd, ↓reduceIte, reduceCtorEq, Nat.reduceLeDiff, XQ, X, cS, cT, nbqValid, us_length] | (refine callC_pure (c1) rfl ?_) | (refine callC_pure (c2) rfl ?_) | exact W_ret (RetP_1 (.imm rfl)) | exact W_ret (RetP_c rfl rfl rfl (.imm rfl)))
      refine W_cond rfl (fun _ => ?_) (fun h => by cases h)
      repeat (first | (refine W_seq ?_) | (refine W_reg ?_) | (refine W_regd ?_) | (refine W_block ?_) | (refine And.intro (by omega) ?_) | simp (maxSteps := 1000000) (disch := omega) only [cA, cB, lk, lkH, Dst.onT, Dst.onX, Dst.slot, setF, setH, mapF, mapH, initF, binE, unE, cnt, boundE, newsE, freshE, opE, rmH, blkQ, frz_us, Nat.reduceEqDiff, Nat.reduceLT, Nat.reduceAdd, ↓reduceIte, reduceCtorEq, Nat.reduceLeDiff, cS, cT, nbqValid])
      exact W_ret (RetP_1 (.imm rfl))
    · simp only [Bool.true_and]
      by_cases h0 : d.length = 0
      · rw [decide_eq_true h0] at k2 ⊢
        simp only [Bool.true_or]
        repeat (first | (refine W_seq ?_) | (refine W_reg ?_) | (refine W_regd ?_) | (refine W_block ?_) | (refine And.intro (by omega) ?_) | simp (maxSteps := 1000000) (disch := omega) only [cA, cB, lk, lkH, Dst.onT, Dst.onX, Dst.slot, setF, setH, mapF, mapH, initF, binE, unE, cnt, boundE, newsE, freshE, opE, rmH, blkQ, frz_us, Nat.reduceEqDiff, Nat.reduceLT, Nat.reduceAdd, ↓reduceIte, reduceCtorEq, Nat.reduceLeDiff, XQ, X, cS, cT, nbqValid, us_length, k2] | (refine callC_pure (c1) rfl ?_) | (refine callC_pure (c2) rfl ?_) | exact W_ret (RetP_1 (.imm rfl)) | exact W_ret (RetP_c rfl rfl rfl (.imm rfl)))
        refine W_cond rfl (fun h => by cases h) (fun _ => ?_)
        repeat (first | (refine W_seq ?_) | (refine W_reg ?_) | (refine W_regd ?_) | (refine W_block ?_) | (refine And.intro (by omega) ?_) | simp (maxSteps := 1000000) (disch := omega) only [cA, cB, lk, lkH, Dst.onT, Dst.onX, Dst.slot, setF, setH, mapF, mapH, initF, binE, unE, cnt, boundE, newsE, freshE, opE, rmH, blkQ, frz_us, Nat.reduceEqDiff, Nat.reduceLT, Nat.reduceAdd, ↓reduceIte, reduceCtorEq, Nat.reduceLeDiff, XQ, X, cS, cT, nbqValid, us_length, k2] | (refine callC_pure (c1) rfl ?_) | (refine callC_pure (c2) rfl ?_) | exact W_ret (RetP_1 (.imm rfl)) | exact W_ret (RetP_c rfl rfl rfl (.imm rfl)))
        refine W_cond rfl (fun _ => ?_) (fun h => by cases h)
        repeat (first | (refine W_seq ?_) | (refine W_reg ?_) | (refine W_regd ?_) | (refine W_block ?_) | (refine And.intro (by omega) ?_) | simp (maxSteps := 1000000) (disch := omega) only [cA, cB, lk, lkH, Dst.onT, Dst.onX, Dst.slot, setF, setH, mapF, mapH, initF, binE, unE, cnt, boundE, newsE, freshE, opE, rmH, blkQ, frz_us, Nat.reduceEqDiff, Nat.reduceLT, Nat.reduceAdd, ↓reduceIte, reduceCtorEq, Nat.reduceLeDiff, cS, cT, nbqValid])
        exact W_ret (RetP_1 (.imm rfl))
      · rw [decide_eq_false h0] at k2 ⊢
        simp only [Bool.false_or]
        by_cases ha0 : 0 < a.length
        · rw [decide_eq_true ha0] at k1 ⊢
          simp only [Bool.true_and]
          by_cases hD : D = 1
          · rw [decide_eq_true hD] at e3
            rw [decide_eq_false (show ¬ ¬ D = 1 from fun h => h hD)]
            simp only [Bool.false_and]
            repeat (first | (refine W_seq ?_) | (refine W_reg ?_) | (refine W_regd ?_) | (refine W_block ?_) | (refine And.intro (by omega) ?_) | simp (maxSteps := 1000000) (disch := omega) only [cA, cB, lk, lkH, Dst.onT, Dst.onX, Dst.slot, setF, setH, mapF, mapH, initF, binE, unE, cnt, boundE, newsE, freshE, opE, rmH, blkQ, frz_us, Nat.reduceEqDiff, Nat.reduceLT, Nat.reduceAdd, ↓reduceIte, reduceCtorEq, Nat.reduceLeDiff, XQ, X, cS, cT, nbqValid, us_length, k1, k2, e3] | (refine callC_pure (c1) rfl ?_) | (refine callC_pure (c2) rfl ?_) | exact W_ret (RetP_1 (.imm rfl)) | exact W_ret (RetP_c rfl rfl rfl (.imm rfl)))
            refine W_cond rfl (fun h => by cases h) (fun _ => ?_)
            repeat (first | (refine W_seq ?_) | (refine W_reg ?_) | (refine W_regd ?_) | (refine W_block ?_) | (refine And.intro (by omega) ?_) | simp (maxSteps := 1000000) (disch := omega) only [cA, cB, lk, lkH, Dst.onT, Dst.onX, Dst.slot, setF, setH, mapF, mapH, initF, binE, unE, cnt, boundE, newsE, freshE, opE, rmH, blkQ, frz_us, Nat.reduceEqDiff, Nat.reduceLT, Nat.reduceAdd, ↓reduceIte, reduceCtorEq, Nat.reduceLeDiff, XQ, X, cS, cT, nbqValid, us_length, k1, k2, e3] | (refine callC_pure (c1) rfl ?_) | (refine callC_pure (c2) rfl ?_) | exact W_ret (RetP_1 (.imm rfl)) | exact W_ret (RetP_c rfl rfl rfl (.imm rfl)))
            refine W_cond rfl (fun h => by cases h) (fun _ => ?_)
            repeat (first | (refine W_seq ?_) | (refine W_reg ?_) | (refine W_regd ?_) | (refine W_block ?_) | (refine And.intro (by omega) ?_) | simp (maxSteps := 1000000) (disch := omega) only [cA, cB, lk, lkH, Dst.onT, Dst.onX, Dst.slot, setF, setH, mapF, mapH, initF, binE, unE, cnt, boundE, newsE, freshE, opE, rmH, blkQ, frz_us, Nat.reduceEqDiff, Nat.reduceLT, Nat.reduceAdd, ↓reduceIte, reduceCtorEq, Nat.reduceLeDiff, XQ, X, cS, cT, nbqValid, us_length, k1, k2, e3] | (refine callC_pure (q_one_calls) rfl ?_) | (refine callC_pure (c3) rfl ?_) | exact W_ret (RetP_1 (.imm rfl)) | exact W_ret (RetP_c rfl rfl rfl (.imm rfl)))
            refine W_cond rfl (fun _ => ?_) (fun h => by cases h)
            repeat (first | (refine W_seq ?_) | (refine W_reg ?_) | (refine W_regd ?_) | (refine W_block ?_) | (refine And.intro (by omega) ?_) | simp (maxSteps := 1000000) (disch := omega) only [cA, cB, lk, lkH, Dst.onT, Dst.onX, Dst.slot, setF, setH, mapF, mapH, initF, binE, unE, cnt, boundE, newsE, freshE, opE, rmH, blkQ, frz_us, Nat.reduceEqDiff, Nat.reduceLT, Nat.reduceAdd, ↓reduceIte, reduceCtorEq, Nat.reduceLeDiff, cS, cT, nbqValid])
            exact W_ret (RetP_1 (.imm rfl))
          · rw [decide_eq_false hD] at e3
            rw [decide_eq_true hD]
            simp only [Bool.true_and]
            repeat (first | (refine W_seq ?_) | (refine W_reg ?_) | (refine W_regd ?_) | (refine W_block ?_) | (refine And.intro (by omega) ?_) | simp (maxSteps := 1000000) (disch := omega) only [cA, cB, lk, lkH, Dst.onT, Dst.onX, Dst.slot, setF, setH, mapF, mapH, initF, binE, unE, cnt, boundE, newsE, freshE, opE, rmH, blkQ, frz_us, Nat.reduceEqDiff, Nat.reduceLT, Nat.reduceAdd, ↓reduceIte, reduceCtorEq, Nat.reduceLeDiff, XQ, X, cS, cT, nbqValid, us_length, k1, k2, e3] | (refine callC_pure (c1) rfl ?_) | (refine callC_pure (c2) rfl ?_) | exact W_ret (RetP_1 (.imm rfl)) | exact W_ret (RetP_c rfl rfl rfl (.imm rfl)))
            refine W_cond rfl (fun h => by cases h) (fun _ => ?_)
            repeat (first | (refine W_seq ?_) | (refine W_reg ?_) | (refine W_regd ?_) | (refine W_block ?_) | (refine And.intro (by omega) ?_) | simp (maxSteps := 1000000) (disch := omega) only [cA, cB, lk, lkH, Dst.onT, Dst.onX, Dst.slot, setF, setH, mapF, mapH, initF, binE, unE, cnt, boundE, newsE, freshE, opE, rmH, blkQ, frz_us, Nat.reduceEqDiff, Nat.reduceLT, Nat.reduceAdd, ↓reduceIte, reduceCtorEq, Nat.reduceLeDiff, XQ, X, cS, cT, nbqValid, us_length, k1, k2, e3] | (refine callC_pure (c1) rfl ?_) | (refine callC_pure (c2) rfl ?_) | exact W_ret (RetP_1 (.imm rfl)) | exact W_ret (RetP_c rfl rfl rfl (.imm rfl)))
            refine W_cond rfl (fun h => by cases h) (fun _ => ?_)
            repeat (first | (refine W_seq ?_) | (refine W_reg ?_) | (refine W_regd ?_) | (refine W_block ?_) | (refine And.intro (by omega) ?_) | simp (maxSteps := 1000000) (disch := omega) only [cA, cB, lk, lkH, Dst.onT, Dst.onX, Dst.slot, setF, setH, mapF, mapH, initF, binE, unE, cnt, boundE, newsE, freshE, opE, rmH, blkQ, frz_us, Nat.reduceEqDiff, Nat.reduceLT, Nat.reduceAdd, ↓reduceIte, reduceCtorEq, Nat.reduceLeDiff, XQ, X, cS, cT, nbqValid, us_length, k1, k2, e3] | (refine callC_pure (q_one_calls) rfl ?_) | (refine callC_pure (c3) rfl ?_) | exact W_ret (RetP_1 (.imm rfl)) | exact W_ret (RetP_c rfl rfl rfl (.imm rfl)))
            refine W_cond rfl (fun h => by cases h) (fun _ => W_skip ?_)
            repeat (first | (refine W_seq ?_) | (refine W_reg ?_) | (refine W_regd ?_) | (refine W_block ?_) | (refine And.intro (by omega) ?_) | simp (maxSteps := 1000000) (disch := omega) only [cA, cB, lk, lkH, Dst.onT, Dst.onX, Dst.slot, setF, setH, mapF, mapH, initF, binE, unE, cnt, boundE, newsE, freshE, opE, rmH, blkQ, frz_us, Nat.reduceEqDiff, Nat.reduceLT, Nat.reduceAdd, ↓reduceIte, reduceCtorEq, Nat.reduceLeDiff, XQ, X, cS, cT, nbqValid, us_length, k1, k2, e3, e5] | (refine callC_pure (c4) rfl ?_) | (refine callC_pure (q_one_calls) rfl ?_) | (refine callC_pure (c5) rfl ?_) | exact W_ret (RetP_1 (.imm rfl)) | exact W_ret (RetP_c rfl rfl rfl (.imm rfl)))
        · rw [decide_eq_false ha0] at k1 ⊢
          simp only [Bool.false_and]
          repeat (first | (refine W_seq ?_) | (refine W_reg ?_) | (refine W_regd ?_) | (refine W_block ?_) | (refine And.intro (by omega) ?_) | simp (maxSteps := 1000000) (disch := omega) only [cA, cB, lk, lkH, Dst.onT, Dst.onX, Dst.slot, setF, setH, mapF, mapH, initF, binE, unE, cnt, boundE, newsE, freshE, opE, rmH, blkQ, frz_us, Nat.reduceEqDiff, Nat.reduceLT, Nat.reduceAdd, ↓reduceIte, reduceCtorEq, Nat.reduceLeDiff, XQ, X, cS, cT, nbqValid, us_length, k1, k2, e3] | (refine callC_pure (c1) rfl ?_) | (refine callC_pure (c2) rfl ?_) | exact W_ret (RetP_1 (.imm rfl)) | exact W_ret (RetP_c rfl rfl rfl (.imm rfl)))
          refine W_cond rfl (fun h => by cases h) (fun _ => ?_)
          repeat (first | (refine W_seq ?_) | (refine W_reg ?_) | (refine W_regd ?_) | (refine W_block ?_) | (refine And.intro (by omega) ?_) | simp (maxSteps := 1000000) (disch := omega) only [cA, cB, lk, lkH, Dst.onT, Dst.onX, Dst.slot, setF, setH, mapF, mapH, initF, binE, unE, cnt, boundE, newsE, freshE, opE, rmH, blkQ, frz_us, Nat.reduceEqDiff, Nat.reduceLT, Nat.reduceAdd, ↓reduceIte, reduceCtorEq, Nat.reduceLeDiff, XQ, X, cS, cT, nbqValid, us_length, k1, k2, e3] | (refine callC_pure (c1) rfl ?_) | (refine callC_pure (c2) rfl ?_) | exact W_ret (RetP_1 (.imm rfl)) | exact W_ret (RetP_c rfl rfl rfl (.imm rfl)))
          refine W_cond rfl (fun h => by cases h) (fun _ => ?_)
          repeat (first | (refine W_seq ?_) | (refine W_reg ?_) | (refine W_regd ?_) | (refine W_block ?_) | (refine And.intro (by omega) ?_) | simp (maxSteps := 1000000) (disch := omega) only [cA, cB, lk, lkH, Dst.onT, Dst.onX, Dst.slot, setF, setH, mapF, mapH, initF, binE, unE, cnt, boundE, newsE, freshE, opE, rmH, blkQ, frz_us, Nat.reduceEqDiff, Nat.reduceLT, Nat.reduceAdd, ↓reduceIte, reduceCtorEq, Nat.reduceLeDiff, XQ, X, cS, cT, nbqValid, us_length, k1, k2, e3] | (refine callC_pure (q_one_calls) rfl ?_) | (refine callC_pure (c3) rfl ?_) | exact W_ret (RetP_1 (.imm rfl)) | exact W_ret (RetP_c rfl rfl rfl (.imm rfl)))
          refine W_cond rfl (fun _ => ?_) (fun h => by cases h)
          repeat (first | (refine W_seq ?_) | (refine W_reg ?_) | (refine W_regd ?_) | (refine W_block ?_) | (refine And.intro (by omega) ?_) | simp (maxSteps := 1000000) (disch := omega) only [cA, cB, lk, lkH, Dst.onT, Dst.onX, Dst.slot, setF, setH, mapF, mapH, initF, binE, unE, cnt, boundE, newsE, freshE, opE, rmH, blkQ, frz_us, Nat.reduceEqDiff, Nat.reduceLT, Nat.reduceAdd, ↓reduceIte, reduceCtorEq, Nat.reduceLeDiff, cS, cT, nbqValid])
          exact W_ret (RetP_1 (.imm rfl))
theorem q_value_calls (neg : Bool) (a d : List Nat) (ha : a.length ≤ 1000) (hd : d.length ≤ 1000) (la : lim a) (ld : lim d) : PCalls Tryz.prog 67 [XQ neg a d] (Q (rv neg a d)) := by
  have cv := qValid_calls neg a d ha hd la ld
  refine PCalls_of isq_value (by simp [fnq_value]) ?_
  unfold codeq_value
  by_cases hv : vldQ neg a d = true
  · rw [hv] at cv
    rw [← XQ_Q la ld hv]
    repeat (first | (refine W_seq ?_) | (refine W_reg ?_) | (refine W_regd ?_) | (refine W_block ?_) | (refine And.intro (by omega) ?_) | simp (maxSteps := 1000000) (disch := omega) only [cA, cB, lk, lkH, Dst.onT, Dst.onX, Dst.slot, setF, setH, mapF, mapH, initF, binE, unE, cnt, boundE, newsE, freshE, opE, rmH, blkQ, frz_us, Nat.reduceEqDiff, Nat.reduceLT, Nat.reduceAdd, ↓reduceIte, reduceCtorEq, Nat.reduceLeDiff, XQ, cS, cT, nbq_value] | (refine callC_pure (cv) rfl ?_) | exact W_ret (RetP_1 (.imm rfl)) | exact W_ret (RetP_c rfl rfl rfl (.imm rfl)))
    refine W_cond rfl (fun _ => ?_) (fun h => by cases h)
    repeat (first | (refine W_seq ?_) | (refine W_reg ?_) | (refine W_regd ?_) | (refine W_block ?_) | (refine And.intro (by omega) ?_) | simp (maxSteps := 1000000) (disch := omega) only [cA, cB, lk, lkH, Dst.onT, Dst.onX, Dst.slot, setF, setH, mapF, mapH, initF, binE, unE, cnt, boundE, newsE, freshE, opE, rmH, blkQ, frz_us, Nat.reduceEqDiff, Nat.reduceLT, Nat.reduceAdd, ↓reduceIte, reduceCtorEq, Nat.reduceLeDiff, XQ, cS, cT, nbq_value] | (refine callC_pure (cv) rfl ?_) | exact W_ret (RetP_1 (.imm rfl)) | exact W_ret (RetP_c rfl rfl rfl (.imm rfl)))
  · have hv : vldQ neg a d = false := by simpa using hv
    rw [hv] at cv
    rw [rv_inv hv, Q0]
    repeat (first | (refine W_seq ?_) | (refine W_reg ?_) | (refine W_regd ?_) | (refine W_block ?_) | (refine And.intro (by omega) ?_) | simp (maxSteps := 1000000) (disch := omega) only [cA, cB, lk, lkH, Dst.onT, Dst.onX, Dst.slot, setF, setH, mapF, mapH, initF, binE, unE, cnt, boundE, newsE, freshE, opE, rmH, blkQ, frz_us, Nat.reduceEqDiff, Nat.reduceLT, Nat.reduceAdd, ↓reduceIte, reduceCtorEq, Nat.reduceLeDiff, XQ, cS, cT, nbq_value] | (refine callC_pure (cv) rfl ?_) | exact W_ret (RetP_1 (.imm rfl)) | exact W_ret (RetP_c rfl rfl rfl (.imm rfl)))
    refine W_cond rfl (fun h => by cases h) (fun _ => W_skip ?_)
    repeat (first | (refine W_seq ?_) | (refine W_reg ?_) | (refine W_regd ?_) | (refine W_block ?_) | (refine And.intro (by omega) ?_) | simp (maxSteps := 1000000) (disch := omega) only [cA, cB, lk, lkH, Dst.onT, Dst.onX, Dst.slot, setF, setH, mapF, mapH, initF, binE, unE, cnt, boundE, newsE, freshE, opE, rmH, blkQ, frz_us, Nat.reduceEqDiff, Nat.reduceLT, Nat.reduceAdd, ↓reduceIte, reduceCtorEq, Nat.reduceLeDiff, cS, cT, nbq_value])
    exact W_ret (RetP_c rfl rfl rfl (Exp_bnn _ _ _))
theorem q_den_calls (r : Rat) : PCalls Tryz.prog 76 [Q r] (.sl 1 (us (limbs r.den))) := by
  refine PCalls_of isq_den (by simp [fnq_den]) ?_
  unfold codeq_den
  by_cases h : r.den = 1
  · have k : decide (((dn r.den).length : Int) = 0) = true := decide_eq_true (by have := (dn_len0 r.den_nz).2 h; omega)
    rw [h]
    rw [h] at k
    repeat (first | (refine W_seq ?_) | (refine W_reg ?_) | (refine W_regd ?_) | (refine W_block ?_) | (refine And.intro (by omega) ?_) | simp (maxSteps := 1000000) (disch := omega) only [cA, cB, lk, lkH, Dst.onT, Dst.onX, Dst.slot, setF, setH, mapF, mapH, initF, binE, unE, cnt, boundE, newsE, freshE, opE, rmH, blkQ, frz_us, Nat.reduceEqDiff, Nat.reduceLT, Nat.reduceAdd, ↓reduceIte, reduceCtorEq, Nat.reduceLeDiff, Q, h, cS, cT, nbq_den, us_length, k] | (refine callC_pure (q_one_calls) rfl ?_) | exact W_ret (RetP_1 (.imm rfl)) | exact W_ret (RetP_c rfl rfl rfl (.imm rfl)))
    refine W_cond rfl (fun _ => ?_) (fun h => by cases h)
    repeat (first | (refine W_seq ?_) | (refine W_reg ?_) | (refine W_regd ?_) | (refine W_block ?_) | (refine And.intro (by omega) ?_) | simp (maxSteps := 1000000) (disch := omega) only [cA, cB, lk, lkH, Dst.onT, Dst.onX, Dst.slot, setF, setH, mapF, mapH, initF, binE, unE, cnt, boundE, newsE, freshE, opE, rmH, blkQ, frz_us, Nat.reduceEqDiff, Nat.reduceLT, Nat.reduceAdd, ↓reduceIte, reduceCtorEq, Nat.reduceLeDiff, cS, cT, nbq_den] | (refine callC_pure (q_one_calls) rfl ?_) | exact W_ret (RetP_1 (.imm rfl)) | exact W_ret (RetP_c rfl rfl rfl (.imm rfl)))
  · have k : decide (((dn r.den).length : Int) = 0) = false := decide_eq_false (fun e => h ((dn_len0 r.den_nz).1 (by omega)))
    have e : limbs r.den = dn r.den := by unfold dn; rw [if_neg h]
    rw [e]
    repeat (first | (refine W_seq ?_) | (refine W_reg ?_) | (refine W_regd ?_) | (refine W_block ?_) | (refine And.intro (by omega) ?_) | simp (maxSteps := 1000000) (disch := omega) only [cA, cB, lk, lkH, Dst.onT, Dst.onX, Dst.slot, setF, setH, mapF, mapH, initF, binE, unE, cnt, boundE, newsE, freshE, opE, rmH, blkQ, frz_us, Nat.reduceEqDiff, Nat.reduceLT, Nat.reduceAdd, ↓reduceIte, reduceCtorEq, Nat.reduceLeDiff, Q, cS, cT, nbq_den, us_length, k] | (refine callC_pure (q_one_calls) rfl ?_) | exact W_ret (RetP_1 (.imm rfl)) | exact W_ret (RetP_c rfl rfl rfl (.imm rfl)))
    refine W_cond rfl (fun h => by cases h) (fun _ => W_skip ?_)
    repeat (first | (refine W_seq ?_) | (refine W_reg ?_) | (refine W_regd ?_) | (refine W_block ?_) | (refine And.intro (by omega) ?_) | simp (maxSteps := 1000000) (disch := omega) only [cA, cB, lk, lkH, Dst.onT, Dst.onX, Dst.slot, setF, setH, mapF, mapH, initF, binE, unE, cnt, boundE, newsE, freshE, opE, rmH, blkQ, frz_us, Nat.reduceEqDiff, Nat.reduceLT, Nat.reduceAdd, ↓reduceIte, reduceCtorEq, Nat.reduceLeDiff, cS, cT, nbq_den] | (refine callC_pure (q_one_calls) rfl ?_) | exact W_ret (RetP_1 (.imm rfl)) | exact W_ret (RetP_c rfl rfl rfl (.imm rfl)))
theorem q_lowest_calls (z : Int) (d : Nat) (h : d ≠ 0) (h1 : il z ≤ 1000) (h2 : (limbs d).length ≤ 1000) : PCalls Tryz.prog 56 [I z, .sl 1 (us (limbs d))] (Q (mkRat z d)) := by
  have hg : 0 < Nat.gcd z.natAbs d := Nat.gcd_pos_of_pos_right _ (Nat.pos_of_ne_zero h)
  have hgl : (limbs (Nat.gcd z.natAbs d)).length ≤ 1000 := Nat.le_trans (len_mono (Nat.gcd_le_right _ (Nat.pos_of_ne_zero h))) h2
  rw [Q_low z d h]
  unfold il at h1
  have c1 := nGcd_calls (limbs z.natAbs) (limbs d) (by omega) (by omega) (lim_limbs _) (lim_limbs _)
  rw [vn_limbs, vn_limbs] at c1
  have c2 := nDivL z.natAbs (Nat.gcd z.natAbs d) (by omega) (by omega)
  have c3 := nDivL d (Nat.gcd z.natAbs d) (by omega) (by omega)
  have c4 := nCmp1 (limbs (d / Nat.gcd z.natAbs d)) (Nat.le_trans (len_mono (Nat.div_le_self _ _)) h2) (lim_limbs _)
  rw [vn_limbs] at c4
  have e4 := cmp_one (d / Nat.gcd z.natAbs d)
  have hne : d / Nat.gcd z.natAbs d ≠ 0 := fun e => by
    have := Nat.div_pos (Nat.gcd_le_right z.natAbs (Nat.pos_of_ne_zero h)) hg
    omega
  generalize Nat.gcd z.natAbs d = G at *
  generalize d / G = E at *
  generalize z.natAbs / G = Z at *
  refine PCalls_of isq_lowest (by simp [fnq_lowest]) ?_
  unfold codeq_lowest
  by_cases hE : E = 1
  · rw [decide_eq_true hE] at e4
    rw [hE, dn_one]
    repeat (first | (refine W_seq ?_) | (refine W_reg ?_) | (refine W_regd ?_) | (refine W_block ?_) | (refine And.intro (by omega) ?_) | simp (maxSteps := 1000000) (disch := omega) only [cA, cB, lk, lkH, Dst.onT, Dst.onX, Dst.slot, setF, setH, mapF, mapH, initF, binE, unE, cnt, boundE, newsE, freshE, opE, rmH, blkQ, frz_us, Nat.reduceEqDiff, Nat.reduceLT, Nat.reduceAdd, ↓reduceIte, reduceCtorEq, Nat.reduceLeDiff, I, cS, cT, nbq_lowest, e4] | (refine callC_pure (c1) rfl ?_) | (refine callC_pure (c2) rfl ?_) | (refine callC_pure (c3) rfl ?_) | (refine callC_pure (q_one_calls) rfl ?_) | (refine callC_pure (c4) rfl ?_) | exact W_ret (RetP_1 (.imm rfl)) | exact W_ret (RetP_c rfl rfl rfl (.imm rfl)))
    refine W_cond rfl (fun _ => ?_) (fun h => by cases h)
    repeat (first | (refine W_seq ?_) | (refine W_reg ?_) | (refine W_regd ?_) | (refine W_block ?_) | (refine And.intro (by omega) ?_) | simp (maxSteps := 1000000) (disch := omega) only [cA, cB, lk, lkH, Dst.onT, Dst.onX, Dst.slot, setF, setH, mapF, mapH, initF, binE, unE, cnt, boundE, newsE, freshE, opE, rmH, blkQ, frz_us, Nat.reduceEqDiff, Nat.reduceLT, Nat.reduceAdd, ↓reduceIte, reduceCtorEq, Nat.reduceLeDiff, cS, cT, nbq_lowest])
    exact W_ret (RetP_c rfl rfl rfl (Exp_bsn _ _ _ _ rfl))
  · rw [decide_eq_false hE] at e4
    have e : dn E = limbs E := by unfold dn; rw [if_neg hE]
    rw [e]
    repeat (first | (refine W_seq ?_) | (refine W_reg ?_) | (refine W_regd ?_) | (refine W_block ?_) | (refine And.intro (by omega) ?_) | simp (maxSteps := 1000000) (disch := omega) only [cA, cB, lk, lkH, Dst.onT, Dst.onX, Dst.slot, setF, setH, mapF, mapH, initF, binE, unE, cnt, boundE, newsE, freshE, opE, rmH, blkQ, frz_us, Nat.reduceEqDiff, Nat.reduceLT, Nat.reduceAdd, ↓reduceIte, reduceCtorEq, Nat.reduceLeDiff, I, cS, cT, nbq_lowest, e4] | (refine callC_pure (c1) rfl ?_) | (refine callC_pure (c2) rfl ?_) | (refine callC_pure (c3) rfl ?_) | (refine callC_pure (q_one_calls) rfl ?_) | (refine callC_pure (c4) rfl ?_) | exact W_ret (RetP_1 (.imm rfl)) | exact W_ret (RetP_c rfl rfl rfl (.imm rfl)))
    refine W_cond rfl (fun h => by cases h) (fun _ => W_skip ?_)
    repeat (first | (refine W_seq ?_) | (refine W_reg ?_) | (refine W_regd ?_) | (refine W_block ?_) | (refine And.intro (by omega) ?_) | simp (maxSteps := 1000000) (disch := omega) only [cA, cB, lk, lkH, Dst.onT, Dst.onX, Dst.slot, setF, setH, mapF, mapH, initF, binE, unE, cnt, boundE, newsE, freshE, opE, rmH, blkQ, frz_us, Nat.reduceEqDiff, Nat.reduceLT, Nat.reduceAdd, ↓reduceIte, reduceCtorEq, Nat.reduceLeDiff, cS, cT, nbq_lowest])
    exact W_ret (RetP_c rfl rfl rfl (.imm rfl))
end Go.Proofs.YteiagmmfapbaiaaGreatDoor
namespace Go.Proofs.YteiagmmfapbaiaaGreatDoor
open Go Go.Dat Go.Proofs Nat32
open Go.Lib (decDigits)
theorem RB_dn {r : Rat} {m : Nat} (h : RB r m) : (dn r.den).length ≤ m := Nat.le_trans (dn_len _) h.2
theorem q_valueL (r : Rat) (h : RB r 1000) : PCalls Tryz.prog 67 [Q r] (Q r) := by
  have := q_value_calls (decide (r.num < 0)) (limbs r.num.natAbs) (dn r.den) h.1 (RB_dn h) (lim_limbs _) (lim_dn _)
  rwa [rv_Q] at this
theorem iv_nat (n : Nat) : iv false (limbs n) = (n : Int) := by unfold iv; simp [vn_limbs]
theorem q_times_calls (z : Int) (n : Nat) (h1 : il z ≤ 1000) (h2 : (limbs n).length ≤ 1000) : PCalls Tryz.prog 93 [I z, .sl 1 (us (limbs n))] (I (z * n)) := by
  have cm := iMul_calls (decide (z < 0)) (limbs z.natAbs) false (limbs n) (Nat.le_trans h1 (by decide)) (by omega) (lim_limbs _) (lim_limbs _)
  rw [iv_I, iv_nat] at cm
  refine PCalls_of isq_times (by simp [fnq_times]) ?_
  unfold codeq_times
  repeat (first | (refine W_seq ?_) | (refine W_reg ?_) | (refine W_regd ?_) | (refine W_block ?_) | (refine And.intro (by omega) ?_) | simp (maxSteps := 1000000) (disch := omega) only [cA, cB, lk, lkH, Dst.onT, Dst.onX, Dst.slot, setF, setH, mapF, mapH, initF, binE, unE, cnt, boundE, newsE, freshE, opE, rmH, blkQ, frz_us, Nat.reduceEqDiff, Nat.reduceLT, Nat.reduceAdd, ↓reduceIte, reduceCtorEq, Nat.reduceLeDiff, I, X, cS, cT, nbq_times] | (refine callC_pure (cm) rfl ?_) | exact W_ret (RetP_1 (.imm rfl)) | exact W_ret (RetP_c rfl rfl rfl (.imm rfl)))
theorem dk1 (r : Rat) : decide (((dn r.den).length : Int) = 0) = decide (r.den = 1) := by
  rw [decide_eq_decide, ← dn_len0 r.den_nz]; omega
theorem il_nat {n m : Nat} (h : (limbs n).length ≤ m) : il (n : Int) ≤ m := by unfold il; rw [Int.natAbs_natCast]; exact h
set_option maxHeartbeats 1000000 in
theorem qAdd_calls (n1 : Bool) (a d : List Nat) (n2 : Bool) (b e : List Nat) (ha : a.length ≤ 400) (hd : d.length ≤ 400) (hb : b.length ≤ 400) (he : e.length ≤ 400) (la : lim a) (ld : lim d) (lb : lim b) (le : lim e) :
    PCalls Tryz.prog 33 [XQ n1 a d, XQ n2 b e] (Q (rv n1 a d + rv n2 b e)) := by
  have v1 := q_value_calls n1 a d (by omega) (by omega) la ld
  have v2 := q_value_calls n2 b e (by omega) (by omega) lb le
  have k1 : RB (rv n1 a d) 400 := RB_rv la ld ha hd (by decide)
  have k2 : RB (rv n2 b e) 400 := RB_rv lb le hb he (by decide)
  generalize rv n1 a d = x at *
  generalize rv n2 b e = y at *
  have kx := dk1 x
  have ky := dk1 y
  refine PCalls_of isqAdd (by simp [fnqAdd]) ?_
  unfold codeqAdd
  by_cases hx : x.den = 1 ∧ y.den = 1
  · rw [rat_addI hx.1 hx.2, Q_int]
    rw [decide_eq_true hx.1] at kx
    rw [decide_eq_true hx.2] at ky
    have ca := iAddL x.num y.num (Nat.le_trans k1.1 (by decide)) (Nat.le_trans k2.1 (by decide))
    clear k1 k2
    repeat (first | (refine W_seq ?_) | (refine W_reg ?_) | (refine W_regd ?_) | (refine W_block ?_) | (refine And.intro (by omega) ?_) | simp (maxSteps := 1000000) (disch := omega) only [cA, cB, lk, lkH, Dst.onT, Dst.onX, Dst.slot, setF, setH, mapF, mapH, initF, binE, unE, cnt, boundE, newsE, freshE, opE, rmH, blkQ, frz_us, Nat.reduceEqDiff, Nat.reduceLT, Nat.reduceAdd, ↓reduceIte, reduceCtorEq, Nat.reduceLeDiff, XQ, Q, cS, cT, nbqAdd, us_length, kx, ky] | (refine callC_pure (v1) rfl ?_) | (refine callC_pure (v2) rfl ?_) | exact W_ret (RetP_1 (.imm rfl)) | exact W_ret (RetP_c rfl rfl rfl (.imm rfl)))
    refine W_cond rfl (fun _ => ?_) (fun h => by cases h)
    repeat (first | (refine W_seq ?_) | (refine W_reg ?_) | (refine W_regd ?_) | (refine W_block ?_) | (refine And.intro (by omega) ?_) | simp (maxSteps := 1000000) (disch := omega) only [cA, cB, lk, lkH, Dst.onT, Dst.onX, Dst.slot, setF, setH, mapF, mapH, initF, binE, unE, cnt, boundE, newsE, freshE, opE, rmH, blkQ, frz_us, Nat.reduceEqDiff, Nat.reduceLT, Nat.reduceAdd, ↓reduceIte, reduceCtorEq, Nat.reduceLeDiff, I, cS, cT, nbqAdd] | (refine callC_pure (ca) rfl ?_) | exact W_ret (RetP_1 (.imm rfl)) | exact W_ret (RetP_c rfl rfl rfl (.imm rfl)))
    exact W_ret (RetP_c rfl rfl rfl (Exp_bsn _ _ _ _ rfl))
  · rw [Rat.add_def']
    have t1 := q_times_calls x.num y.den (Nat.le_trans k1.1 (by decide)) (Nat.le_trans k2.2 (by decide))
    have t2 := q_times_calls y.num x.den (Nat.le_trans k2.1 (by decide)) (Nat.le_trans k1.2 (by decide))
    have b1 := il_mul k1.1 (il_nat k2.2)
    have b2 := il_mul k2.1 (il_nat k1.2)
    have b3 := il_add b1 b2
    have ca := iAddL (x.num * y.den) (y.num * x.den) (Nat.le_trans b1 (by decide)) (Nat.le_trans b2 (by decide))
    have cm := nMulL x.den y.den (Nat.le_trans k1.2 (by decide)) (Nat.le_trans k2.2 (by decide))
    have cl := q_lowest_calls (x.num * y.den + y.num * x.den) (x.den * y.den) (Nat.mul_ne_zero x.den_nz y.den_nz) (Nat.le_trans b3 (by decide)) (Nat.le_trans (len_mul k1.2 k2.2) (by decide))
    have c1 := q_den_calls x
    have c2 := q_den_calls y
    clear k1 k2 b1 b2 b3
    by_cases h1 : x.den = 1
    · rw [decide_eq_true h1] at kx
      rw [decide_eq_false (fun h2 => hx ⟨h1, h2⟩)] at ky
      clear hx h1
      repeat (first | (refine W_seq ?_) | (refine W_reg ?_) | (refine W_regd ?_) | (refine W_block ?_) | (refine And.intro (by omega) ?_) | simp (maxSteps := 1000000) (disch := omega) only [cA, cB, lk, lkH, Dst.onT, Dst.onX, Dst.slot, setF, setH, mapF, mapH, initF, binE, unE, cnt, boundE, newsE, freshE, opE, rmH, blkQ, frz_us, Nat.reduceEqDiff, Nat.reduceLT, Nat.reduceAdd, ↓reduceIte, reduceCtorEq, Nat.reduceLeDiff, XQ, Q, cS, cT, nbqAdd, us_length, kx, ky] | (refine callC_pure (v1) rfl ?_) | (refine callC_pure (v2) rfl ?_) | exact W_ret (RetP_1 (.imm rfl)) | exact W_ret (RetP_c rfl rfl rfl (.imm rfl)))
      refine W_cond rfl (fun h => by cases h) (fun _ => W_skip ?_)
      repeat (first | (refine W_seq ?_) | (refine W_reg ?_) | (refine W_regd ?_) | (refine W_block ?_) | (refine And.intro (by omega) ?_) | simp (maxSteps := 1000000) (disch := omega) only [cA, cB, lk, lkH, Dst.onT, Dst.onX, Dst.slot, setF, setH, mapF, mapH, initF, binE, unE, cnt, boundE, newsE, freshE, opE, rmH, blkQ, frz_us, Nat.reduceEqDiff, Nat.reduceLT, Nat.reduceAdd, ↓reduceIte, reduceCtorEq, Nat.reduceLeDiff, I, Q, cS, cT, nbqAdd] | (refine callC_pure (c1) rfl ?_) | (refine callC_pure (c2) rfl ?_) | (refine callC_pure (t1) rfl ?_) | (refine callC_pure (t2) rfl ?_) | (refine callC_pure (ca) rfl ?_) | (refine callC_pure (cm) rfl ?_) | (refine callC_pure (cl) rfl ?_) | exact W_ret (RetP_1 (.imm rfl)) | exact W_ret (RetP_c rfl rfl rfl (.imm rfl)))
    · rw [decide_eq_false h1] at kx
      clear hx h1
      repeat (first | (refine W_seq ?_) | (refine W_reg ?_) | (refine W_regd ?_) | (refine W_block ?_) | (refine And.intro (by omega) ?_) | simp (maxSteps := 1000000) (disch := omega) only [cA, cB, lk, lkH, Dst.onT, Dst.onX, Dst.slot, setF, setH, mapF, mapH, initF, binE, unE, cnt, boundE, newsE, freshE, opE, rmH, blkQ, frz_us, Nat.reduceEqDiff, Nat.reduceLT, Nat.reduceAdd, ↓reduceIte, reduceCtorEq, Nat.reduceLeDiff, XQ, Q, cS, cT, nbqAdd, us_length, kx, ky] | (refine callC_pure (v1) rfl ?_) | (refine callC_pure (v2) rfl ?_) | exact W_ret (RetP_1 (.imm rfl)) | exact W_ret (RetP_c rfl rfl rfl (.imm rfl)))
      refine W_cond rfl (fun h => by cases h) (fun _ => W_skip ?_)
      repeat (first | (refine W_seq ?_) | (refine W_reg ?_) | (refine W_regd ?_) | (refine W_block ?_) | (refine And.intro (by omega) ?_) | simp (maxSteps := 1000000) (disch := omega) only [cA, cB, lk, lkH, Dst.onT, Dst.onX, Dst.slot, setF, setH, mapF, mapH, initF, binE, unE, cnt, boundE, newsE, freshE, opE, rmH, blkQ, frz_us, Nat.reduceEqDiff, Nat.reduceLT, Nat.reduceAdd, ↓reduceIte, reduceCtorEq, Nat.reduceLeDiff, I, Q, cS, cT, nbqAdd] | (refine callC_pure (c1) rfl ?_) | (refine callC_pure (c2) rfl ?_) | (refine callC_pure (t1) rfl ?_) | (refine callC_pure (t2) rfl ?_) | (refine callC_pure (ca) rfl ?_) | (refine callC_pure (cm) rfl ?_) | (refine callC_pure (cl) rfl ?_) | exact W_ret (RetP_1 (.imm rfl)) | exact W_ret (RetP_c rfl rfl rfl (.imm rfl)))
theorem qAddL (x y : Rat) (h1 : RB x 400) (h2 : RB y 400) : PCalls Tryz.prog 33 [Q x, Q y] (Q (x + y)) := by
  have := qAdd_calls (decide (x.num < 0)) (limbs x.num.natAbs) (dn x.den) (decide (y.num < 0)) (limbs y.num.natAbs) (dn y.den) h1.1 (RB_dn h1) h2.1 (RB_dn h2) (lim_limbs _) (lim_dn _) (lim_limbs _) (lim_dn _)
  rwa [rv_Q, rv_Q] at this
set_option maxHeartbeats 1000000 in
theorem qMul_calls (n1 : Bool) (a d : List Nat) (n2 : Bool) (b e : List Nat) (ha : a.length ≤ 400) (hd : d.length ≤ 400) (hb : b.length ≤ 400) (he : e.length ≤ 400) (la : lim a) (ld : lim d) (lb : lim b) (le : lim e) :
    PCalls Tryz.prog 37 [XQ n1 a d, XQ n2 b e] (Q (rv n1 a d * rv n2 b e)) := by
  have v1 := q_value_calls n1 a d (by omega) (by omega) la ld
  have v2 := q_value_calls n2 b e (by omega) (by omega) lb le
  have k1 : RB (rv n1 a d) 400 := RB_rv la ld ha hd (by decide)
  have k2 : RB (rv n2 b e) 400 := RB_rv lb le hb he (by decide)
  generalize rv n1 a d = x at *
  generalize rv n2 b e = y at *
  have kx := dk1 x
  have ky := dk1 y
  have ca := iMulL x.num y.num (Nat.le_trans k1.1 (by decide)) (Nat.le_trans k2.1 (by decide))
  refine PCalls_of isqMul (by simp [fnqMul]) ?_
  unfold codeqMul
  by_cases hx : x.den = 1 ∧ y.den = 1
  · rw [rat_mulI hx.1 hx.2, Q_int]
    rw [decide_eq_true hx.1] at kx
    rw [decide_eq_true hx.2] at ky
    clear k1 k2
    repeat (first | (refine W_seq ?_) | (refine W_reg ?_) | (refine W_regd ?_) | (refine W_block ?_) | (refine And.intro (by omega) ?_) | simp (maxSteps := 1000000) (disch := omega) only [cA, cB, lk, lkH, Dst.onT, Dst.onX, Dst.slot, setF, setH, mapF, mapH, initF, binE, unE, cnt, boundE, newsE, freshE, opE, rmH, blkQ, frz_us, Nat.reduceEqDiff, Nat.reduceLT, Nat.reduceAdd, ↓reduceIte, reduceCtorEq, Nat.reduceLeDiff, XQ, Q, cS, cT, nbqMul, us_length, kx, ky] | (refine callC_pure (v1) rfl ?_) | (refine callC_pure (v2) rfl ?_) | exact W_ret (RetP_1 (.imm rfl)) | exact W_ret (RetP_c rfl rfl rfl (.imm rfl)))
    refine W_cond rfl (fun _ => ?_) (fun h => by cases h)
    repeat (first | (refine W_seq ?_) | (refine W_reg ?_) | (refine W_regd ?_) | (refine W_block ?_) | (refine And.intro (by omega) ?_) | simp (maxSteps := 1000000) (disch := omega) only [cA, cB, lk, lkH, Dst.onT, Dst.onX, Dst.slot, setF, setH, mapF, mapH, initF, binE, unE, cnt, boundE, newsE, freshE, opE, rmH, blkQ, frz_us, Nat.reduceEqDiff, Nat.reduceLT, Nat.reduceAdd, ↓reduceIte, reduceCtorEq, Nat.reduceLeDiff, I, cS, cT, nbqMul] | (refine callC_pure (ca) rfl ?_) | exact W_ret (RetP_1 (.imm rfl)) | exact W_ret (RetP_c rfl rfl rfl (.imm rfl)))
    exact W_ret (RetP_c rfl rfl rfl (Exp_bsn _ _ _ _ rfl))
  · rw [Rat.mul_def']
    have b1 := il_mul k1.1 k2.1
    have cm := nMulL x.den y.den (Nat.le_trans k1.2 (by decide)) (Nat.le_trans k2.2 (by decide))
    have cl := q_lowest_calls (x.num * y.num) (x.den * y.den) (Nat.mul_ne_zero x.den_nz y.den_nz) (Nat.le_trans b1 (by decide)) (Nat.le_trans (len_mul k1.2 k2.2) (by decide))
    have c1 := q_den_calls x
    have c2 := q_den_calls y
    clear k1 k2 b1
    by_cases h1 : x.den = 1
    · rw [decide_eq_true h1] at kx
      rw [decide_eq_false (fun h2 => hx ⟨h1, h2⟩)] at ky
      clear hx h1
      repeat (first | (refine W_seq ?_) | (refine W_reg ?_) | (refine W_regd ?_) | (refine W_block ?_) | (refine And.intro (by omega) ?_) | simp (maxSteps := 1000000) (disch := omega) only [cA, cB, lk, lkH, Dst.onT, Dst.onX, Dst.slot, setF, setH, mapF, mapH, initF, binE, unE, cnt, boundE, newsE, freshE, opE, rmH, blkQ, frz_us, Nat.reduceEqDiff, Nat.reduceLT, Nat.reduceAdd, ↓reduceIte, reduceCtorEq, Nat.reduceLeDiff, XQ, Q, cS, cT, nbqMul, us_length, kx, ky] | (refine callC_pure (v1) rfl ?_) | (refine callC_pure (v2) rfl ?_) | exact W_ret (RetP_1 (.imm rfl)) | exact W_ret (RetP_c rfl rfl rfl (.imm rfl)))
      refine W_cond rfl (fun h => by cases h) (fun _ => W_skip ?_)
      repeat (first | (refine W_seq ?_) | (refine W_reg ?_) | (refine W_regd ?_) | (refine W_block ?_) | (refine And.intro (by omega) ?_) | simp (maxSteps := 1000000) (disch := omega) only [cA, cB, lk, lkH, Dst.onT, Dst.onX, Dst.slot, setF, setH, mapF, mapH, initF, binE, unE, cnt, boundE, newsE, freshE, opE, rmH, blkQ, frz_us, Nat.reduceEqDiff, Nat.reduceLT, Nat.reduceAdd, ↓reduceIte, reduceCtorEq, Nat.reduceLeDiff, I, Q, cS, cT, nbqMul] | (refine callC_pure (c1) rfl ?_) | (refine callC_pure (c2) rfl ?_) | (refine callC_pure (ca) rfl ?_) | (refine callC_pure (cm) rfl ?_) | (refine callC_pure (cl) rfl ?_) | exact W_ret (RetP_1 (.imm rfl)) | exact W_ret (RetP_c rfl rfl rfl (.imm rfl)))
    · rw [decide_eq_false h1] at kx
      clear hx h1
      repeat (first | (refine W_seq ?_) | (refine W_reg ?_) | (refine W_regd ?_) | (refine W_block ?_) | (refine And.intro (by omega) ?_) | simp (maxSteps := 1000000) (disch := omega) only [cA, cB, lk, lkH, Dst.onT, Dst.onX, Dst.slot, setF, setH, mapF, mapH, initF, binE, unE, cnt, boundE, newsE, freshE, opE, rmH, blkQ, frz_us, Nat.reduceEqDiff, Nat.reduceLT, Nat.reduceAdd, ↓reduceIte, reduceCtorEq, Nat.reduceLeDiff, XQ, Q, cS, cT, nbqMul, us_length, kx, ky] | (refine callC_pure (v1) rfl ?_) | (refine callC_pure (v2) rfl ?_) | exact W_ret (RetP_1 (.imm rfl)) | exact W_ret (RetP_c rfl rfl rfl (.imm rfl)))
      refine W_cond rfl (fun h => by cases h) (fun _ => W_skip ?_)
      repeat (first | (refine W_seq ?_) | (refine W_reg ?_) | (refine W_regd ?_) | (refine W_block ?_) | (refine And.intro (by omega) ?_) | simp (maxSteps := 1000000) (disch := omega) only [cA, cB, lk, lkH, Dst.onT, Dst.onX, Dst.slot, setF, setH, mapF, mapH, initF, binE, unE, cnt, boundE, newsE, freshE, opE, rmH, blkQ, frz_us, Nat.reduceEqDiff, Nat.reduceLT, Nat.reduceAdd, ↓reduceIte, reduceCtorEq, Nat.reduceLeDiff, I, Q, cS, cT, nbqMul] | (refine callC_pure (c1) rfl ?_) | (refine callC_pure (c2) rfl ?_) | (refine callC_pure (ca) rfl ?_) | (refine callC_pure (cm) rfl ?_) | (refine callC_pure (cl) rfl ?_) | exact W_ret (RetP_1 (.imm rfl)) | exact W_ret (RetP_c rfl rfl rfl (.imm rfl)))
theorem qMulL (x y : Rat) (h1 : RB x 400) (h2 : RB y 400) : PCalls Tryz.prog 37 [Q x, Q y] (Q (x * y)) := by
  have := qMul_calls (decide (x.num < 0)) (limbs x.num.natAbs) (dn x.den) (decide (y.num < 0)) (limbs y.num.natAbs) (dn y.den) h1.1 (RB_dn h1) h2.1 (RB_dn h2) (lim_limbs _) (lim_dn _) (lim_limbs _) (lim_dn _)
  rwa [rv_Q, rv_Q] at this
theorem qSign_calls (neg : Bool) (a d : List Nat) (ha : a.length ≤ 1000) (hd : d.length ≤ 1000) (la : lim a) (ld : lim d) : PCalls Tryz.prog 41 [XQ neg a d] (.int .i64 (rv neg a d).num.sign) := by
  have v1 := q_value_calls neg a d ha hd la ld
  have k1 : RB (rv neg a d) 1000 := RB_rv la ld ha hd (by decide)
  generalize rv neg a d = x at *
  have cs := iSignL x.num (Nat.le_trans k1.1 (by decide))
  refine PCalls_of isqSign (by simp [fnqSign]) ?_
  unfold codeqSign
  repeat (first | (refine W_seq ?_) | (refine W_reg ?_) | (refine W_regd ?_) | (refine W_block ?_) | (refine And.intro (by omega) ?_) | simp (maxSteps := 1000000) (disch := omega) only [cA, cB, lk, lkH, Dst.onT, Dst.onX, Dst.slot, setF, setH, mapF, mapH, initF, binE, unE, cnt, boundE, newsE, freshE, opE, rmH, blkQ, frz_us, Nat.reduceEqDiff, Nat.reduceLT, Nat.reduceAdd, ↓reduceIte, reduceCtorEq, Nat.reduceLeDiff, XQ, Q, cS, cT, nbqSign] | (refine callC_pure (v1) rfl ?_) | (refine callC_pure (cs) rfl ?_) | exact W_ret (RetP_1 (.imm rfl)) | exact W_ret (RetP_c rfl rfl rfl (.imm rfl)))
theorem qSignL (x : Rat) (h1 : RB x 1000) : PCalls Tryz.prog 41 [Q x] (.int .i64 x.num.sign) := by
  have := qSign_calls (decide (x.num < 0)) (limbs x.num.natAbs) (dn x.den) h1.1 (RB_dn h1) (lim_limbs _) (lim_dn _)
  rwa [rv_Q] at this
theorem dn_eq (d : Nat) : limbs (vn (dn d)) = dn d := vn_limbs_of_vld (lim_dn d) (vld_dn d)
theorem qNeg_calls (neg : Bool) (a d : List Nat) (ha : a.length ≤ 1000) (hd : d.length ≤ 1000) (la : lim a) (ld : lim d) : PCalls Tryz.prog 48 [XQ neg a d] (Q (-(rv neg a d))) := by
  have v1 := q_value_calls neg a d ha hd la ld
  have k1 : RB (rv neg a d) 1000 := RB_rv la ld ha hd (by decide)
  generalize rv neg a d = x at *
  have cs := iNegL x.num (Nat.le_trans k1.1 (by decide))
  have ca := nAdd_calls (dn x.den) [] (Nat.le_trans (RB_dn k1) (by decide)) (by decide) (lim_dn _) lim_nil
  rw [show vn [] = 0 from rfl, Nat.add_zero, dn_eq, us_nil] at ca
  refine PCalls_of isqNeg (by simp [fnqNeg]) ?_
  unfold codeqNeg
  repeat (first | (refine W_seq ?_) | (refine W_reg ?_) | (refine W_regd ?_) | (refine W_block ?_) | (refine And.intro (by omega) ?_) | simp (maxSteps := 1000000) (disch := omega) only [cA, cB, lk, lkH, Dst.onT, Dst.onX, Dst.slot, setF, setH, mapF, mapH, initF, binE, unE, cnt, boundE, newsE, freshE, opE, rmH, blkQ, frz_us, Nat.reduceEqDiff, Nat.reduceLT, Nat.reduceAdd, ↓reduceIte, reduceCtorEq, Nat.reduceLeDiff, XQ, Q, I, cS, cT, nbqNeg] | (refine callC_pure (v1) rfl ?_) | (refine callC_pure (cs) rfl ?_) | (refine callC_pure (PCalls_nz1 1 (ca)) rfl ?_) | exact W_ret (RetP_1 (.imm rfl)) | exact W_ret (RetP_c rfl rfl rfl (.imm rfl)))
theorem qNegL (x : Rat) (h1 : RB x 1000) : PCalls Tryz.prog 48 [Q x] (Q (-x)) := by
  have := qNeg_calls (decide (x.num < 0)) (limbs x.num.natAbs) (dn x.den) h1.1 (RB_dn h1) (lim_limbs _) (lim_dn _)
  rwa [rv_Q] at this
theorem sign_neg (z : Int) : decide (z.sign < 0) = decide (z < 0) := by rw [decide_eq_decide]; exact ⟨fun h => Int.sign_neg_iff.1 h, fun h => Int.sign_neg_iff.2 h⟩
theorem qAbs_calls (neg : Bool) (a d : List Nat) (ha : a.length ≤ 1000) (hd : d.length ≤ 1000) (la : lim a) (ld : lim d) : PCalls Tryz.prog 45 [XQ neg a d] (Q (absQ (rv neg a d))) := by
  have cs := qSign_calls neg a d ha hd la ld
  have cn := qNeg_calls neg a d ha hd la ld
  have k1 : RB (rv neg a d) 1000 := RB_rv la ld ha hd (by decide)
  generalize rv neg a d = x at *
  have cn2 := qNegL (-x) (RB_neg k1)
  rw [Rat.neg_neg] at cn2
  have e := sign_neg x.num
  refine PCalls_of isqAbs (by simp [fnqAbs]) ?_
  unfold codeqAbs absQ
  by_cases h : x.num < 0
  · rw [if_pos h]
    rw [decide_eq_true h] at e
    repeat (first | (refine W_seq ?_) | (refine W_reg ?_) | (refine W_regd ?_) | (refine W_block ?_) | (refine And.intro (by omega) ?_) | simp (maxSteps := 1000000) (disch := omega) only [cA, cB, lk, lkH, Dst.onT, Dst.onX, Dst.slot, setF, setH, mapF, mapH, initF, binE, unE, cnt, boundE, newsE, freshE, opE, rmH, blkQ, frz_us, Nat.reduceEqDiff, Nat.reduceLT, Nat.reduceAdd, ↓reduceIte, reduceCtorEq, Nat.reduceLeDiff, XQ, Q, cS, cT, nbqAbs, e] | (refine callC_pure (cs) rfl ?_) | exact W_ret (RetP_1 (.imm rfl)) | exact W_ret (RetP_c rfl rfl rfl (.imm rfl)))
    refine W_cond rfl (fun _ => ?_) (fun h => by cases h)
    repeat (first | (refine W_seq ?_) | (refine W_reg ?_) | (refine W_regd ?_) | (refine W_block ?_) | (refine And.intro (by omega) ?_) | simp (maxSteps := 1000000) (disch := omega) only [cA, cB, lk, lkH, Dst.onT, Dst.onX, Dst.slot, setF, setH, mapF, mapH, initF, binE, unE, cnt, boundE, newsE, freshE, opE, rmH, blkQ, frz_us, Nat.reduceEqDiff, Nat.reduceLT, Nat.reduceAdd, ↓reduceIte, reduceCtorEq, Nat.reduceLeDiff, XQ, Q, cS, cT, nbqAbs] | (refine callC_pure (cn) rfl ?_) | exact W_ret (RetP_1 (.imm rfl)) | exact W_ret (RetP_c rfl rfl rfl (.imm rfl)))
  · rw [if_neg h]
    rw [decide_eq_false h] at e
    repeat (first | (refine W_seq ?_) | (refine W_reg ?_) | (refine W_regd ?_) | (refine W_block ?_) | (refine And.intro (by omega) ?_) | simp (maxSteps := 1000000) (disch := omega) only [cA, cB, lk, lkH, Dst.onT, Dst.onX, Dst.slot, setF, setH, mapF, mapH, initF, binE, unE, cnt, boundE, newsE, freshE, opE, rmH, blkQ, frz_us, Nat.reduceEqDiff, Nat.reduceLT, Nat.reduceAdd, ↓reduceIte, reduceCtorEq, Nat.reduceLeDiff, XQ, Q, cS, cT, nbqAbs, e] | (refine callC_pure (cs) rfl ?_) | exact W_ret (RetP_1 (.imm rfl)) | exact W_ret (RetP_c rfl rfl rfl (.imm rfl)))
    refine W_cond rfl (fun h => by cases h) (fun _ => W_skip ?_)
    repeat (first | (refine W_seq ?_) | (refine W_reg ?_) | (refine W_regd ?_) | (refine W_block ?_) | (refine And.intro (by omega) ?_) | simp (maxSteps := 1000000) (disch := omega) only [cA, cB, lk, lkH, Dst.onT, Dst.onX, Dst.slot, setF, setH, mapF, mapH, initF, binE, unE, cnt, boundE, newsE, freshE, opE, rmH, blkQ, frz_us, Nat.reduceEqDiff, Nat.reduceLT, Nat.reduceAdd, ↓reduceIte, reduceCtorEq, Nat.reduceLeDiff, XQ, Q, cS, cT, nbqAbs] | (refine callC_pure (cn) rfl ?_) | (refine callC_pure (cn2) rfl ?_) | exact W_ret (RetP_1 (.imm rfl)) | exact W_ret (RetP_c rfl rfl rfl (.imm rfl)))
theorem qAbsL (x : Rat) (h1 : RB x 1000) : PCalls Tryz.prog 45 [Q x] (Q (absQ x)) := by
  have := qAbs_calls (decide (x.num < 0)) (limbs x.num.natAbs) (dn x.den) h1.1 (RB_dn h1) (lim_limbs _) (lim_dn _)
  rwa [rv_Q] at this
theorem qFromInt_calls (v : Int) (h1 : -9223372036854775808 ≤ v) (h2 : v ≤ 9223372036854775807) : PCalls Tryz.prog 46 [.int .i64 v] (Q (v : Rat)) := by
  have ci := iFromInt_calls v h1 h2
  rw [Q_int]
  refine PCalls_of isqFromInt (by simp [fnqFromInt]) ?_
  unfold codeqFromInt
  repeat (first | (refine W_seq ?_) | (refine W_reg ?_) | (refine W_regd ?_) | (refine W_block ?_) | (refine And.intro (by omega) ?_) | simp (maxSteps := 1000000) (disch := omega) only [cA, cB, lk, lkH, Dst.onT, Dst.onX, Dst.slot, setF, setH, mapF, mapH, initF, binE, unE, cnt, boundE, newsE, freshE, opE, rmH, blkQ, frz_us, Nat.reduceEqDiff, Nat.reduceLT, Nat.reduceAdd, ↓reduceIte, reduceCtorEq, Nat.reduceLeDiff, I, cS, cT, nbqFromInt] | (refine callC_pure (ci) rfl ?_) | exact W_ret (RetP_1 (.imm rfl)) | exact W_ret (RetP_c rfl rfl rfl (.imm rfl)))
  exact W_ret (RetP_c rfl rfl rfl (Exp_bsn _ _ _ _ rfl))
theorem qCompare_calls (n1 : Bool) (a d : List Nat) (n2 : Bool) (b e : List Nat) (ha : a.length ≤ 400) (hd : d.length ≤ 400) (hb : b.length ≤ 400) (he : e.length ≤ 400) (la : lim a) (ld : lim d) (lb : lim b) (le : lim e) :
    PCalls Tryz.prog 42 [XQ n1 a d, XQ n2 b e] (.int .i64 (cmpQ (rv n1 a d) (rv n2 b e))) := by
  have v1 := q_value_calls n1 a d (by omega) (by omega) la ld
  have v2 := q_value_calls n2 b e (by omega) (by omega) lb le
  have k1 : RB (rv n1 a d) 400 := RB_rv la ld ha hd (by decide)
  have k2 : RB (rv n2 b e) 400 := RB_rv lb le hb he (by decide)
  generalize rv n1 a d = x at *
  generalize rv n2 b e = y at *
  have t1 := q_times_calls x.num y.den (Nat.le_trans k1.1 (by decide)) (Nat.le_trans k2.2 (by decide))
  have t2 := q_times_calls y.num x.den (Nat.le_trans k2.1 (by decide)) (Nat.le_trans k1.2 (by decide))
  have b1 := il_mul k1.1 (il_nat k2.2)
  have b2 := il_mul k2.1 (il_nat k1.2)
  have cc := iCompareL (x.num * y.den) (y.num * x.den) (Nat.le_trans b1 (by decide)) (Nat.le_trans b2 (by decide))
  rw [cmpQ_I] at cc
  have c1 := q_den_calls x
  have c2 := q_den_calls y
  clear k1 k2 b1 b2
  refine PCalls_of isqCompare (by simp [fnqCompare]) ?_
  unfold codeqCompare
  repeat (first | (refine W_seq ?_) | (refine W_reg ?_) | (refine W_regd ?_) | (refine W_block ?_) | (refine And.intro (by omega) ?_) | simp (maxSteps := 1000000) (disch := omega) only [cA, cB, lk, lkH, Dst.onT, Dst.onX, Dst.slot, setF, setH, mapF, mapH, initF, binE, unE, cnt, boundE, newsE, freshE, opE, rmH, blkQ, frz_us, Nat.reduceEqDiff, Nat.reduceLT, Nat.reduceAdd, ↓reduceIte, reduceCtorEq, Nat.reduceLeDiff, XQ, Q, I, cS, cT, nbqCompare] | (refine callC_pure (v1) rfl ?_) | (refine callC_pure (v2) rfl ?_) | (refine callC_pure (c1) rfl ?_) | (refine callC_pure (c2) rfl ?_) | (refine callC_pure (t1) rfl ?_) | (refine callC_pure (t2) rfl ?_) | (refine callC_pure (cc) rfl ?_) | exact W_ret (RetP_1 (.imm rfl)) | exact W_ret (RetP_c rfl rfl rfl (.imm rfl)))
theorem qCompareL (x y : Rat) (h1 : RB x 400) (h2 : RB y 400) : PCalls Tryz.prog 42 [Q x, Q y] (.int .i64 (cmpQ x y)) := by
  have := qCompare_calls (decide (x.num < 0)) (limbs x.num.natAbs) (dn x.den) (decide (y.num < 0)) (limbs y.num.natAbs) (dn y.den) h1.1 (RB_dn h1) h2.1 (RB_dn h2) (lim_limbs _) (lim_dn _) (lim_limbs _) (lim_dn _)
  rwa [rv_Q, rv_Q] at this
theorem qSub_calls (n1 : Bool) (a d : List Nat) (n2 : Bool) (b e : List Nat) (ha : a.length ≤ 400) (hd : d.length ≤ 400) (hb : b.length ≤ 400) (he : e.length ≤ 400) (la : lim a) (ld : lim d) (lb : lim b) (le : lim e) :
    PCalls Tryz.prog 35 [XQ n1 a d, XQ n2 b e] (Q (rv n1 a d - rv n2 b e)) := by
  have cn := qNeg_calls n2 b e (by omega) (by omega) lb le
  have k2 : RB (rv n2 b e) 400 := RB_rv lb le hb he (by decide)
  generalize rv n2 b e = y at *
  have k3 := RB_neg k2
  have ca := qAdd_calls n1 a d (decide ((-y).num < 0)) (limbs (-y).num.natAbs) (dn (-y).den) ha hd k3.1 (RB_dn k3) la ld (lim_limbs _) (lim_dn _)
  rw [rv_Q, ← Rat.sub_eq_add_neg] at ca
  refine PCalls_of isqSub (by simp [fnqSub]) ?_
  unfold codeqSub
  repeat (first | (refine W_seq ?_) | (refine W_reg ?_) | (refine W_regd ?_) | (refine W_block ?_) | (refine And.intro (by omega) ?_) | simp (maxSteps := 1000000) (disch := omega) only [cA, cB, lk, lkH, Dst.onT, Dst.onX, Dst.slot, setF, setH, mapF, mapH, initF, binE, unE, cnt, boundE, newsE, freshE, opE, rmH, blkQ, frz_us, Nat.reduceEqDiff, Nat.reduceLT, Nat.reduceAdd, ↓reduceIte, reduceCtorEq, Nat.reduceLeDiff, XQ, Q, cS, cT, nbqSub] | (refine callC_pure (cn) rfl ?_) | (refine callC_pure (ca) rfl ?_) | exact W_ret (RetP_1 (.imm rfl)) | exact W_ret (RetP_c rfl rfl rfl (.imm rfl)))
theorem qSubL (x y : Rat) (h1 : RB x 400) (h2 : RB y 400) : PCalls Tryz.prog 35 [Q x, Q y] (Q (x - y)) := by
  have := qSub_calls (decide (x.num < 0)) (limbs x.num.natAbs) (dn x.den) (decide (y.num < 0)) (limbs y.num.natAbs) (dn y.den) h1.1 (RB_dn h1) h2.1 (RB_dn h2) (lim_limbs _) (lim_dn _) (lim_limbs _) (lim_dn _)
  rwa [rv_Q, rv_Q] at this
theorem qFloor_calls (neg : Bool) (a d : List Nat) (ha : a.length ≤ 1000) (hd : d.length ≤ 1000) (la : lim a) (ld : lim d) : PCalls Tryz.prog 52 [XQ neg a d] (I (rv neg a d).floor) := by
  have v1 := q_value_calls neg a d ha hd la ld
  have k1 : RB (rv neg a d) 1000 := RB_rv la ld ha hd (by decide)
  generalize rv neg a d = x at *
  have c1 := q_den_calls x
  have cd := iDiv_calls (decide (x.num < 0)) (limbs x.num.natAbs) false (limbs x.den) (Nat.le_trans k1.1 (by decide)) (Nat.le_trans k1.2 (by decide)) (lim_limbs _) (lim_limbs _)
  rw [iv_I, iv_nat, ← Rat.floor_def] at cd
  refine PCalls_of isqFloor (by simp [fnqFloor]) ?_
  unfold codeqFloor
  repeat (first | (refine W_seq ?_) | (refine W_reg ?_) | (refine W_regd ?_) | (refine W_block ?_) | (refine And.intro (by omega) ?_) | simp (maxSteps := 1000000) (disch := omega) only [cA, cB, lk, lkH, Dst.onT, Dst.onX, Dst.slot, setF, setH, mapF, mapH, initF, binE, unE, cnt, boundE, newsE, freshE, opE, rmH, blkQ, frz_us, Nat.reduceEqDiff, Nat.reduceLT, Nat.reduceAdd, ↓reduceIte, reduceCtorEq, Nat.reduceLeDiff, XQ, Q, X, I, cS, cT, nbqFloor] | (refine callC_pure (v1) rfl ?_) | (refine callC_pure (c1) rfl ?_) | (refine callC_pure (cd) rfl ?_) | exact W_ret (RetP_1 (.imm rfl)) | exact W_ret (RetP_c rfl rfl rfl (.imm rfl)))
theorem qFloorL (x : Rat) (h1 : RB x 1000) : PCalls Tryz.prog 52 [Q x] (I x.floor) := by
  have := qFloor_calls (decide (x.num < 0)) (limbs x.num.natAbs) (dn x.den) h1.1 (RB_dn h1) (lim_limbs _) (lim_dn _)
  rwa [rv_Q] at this
def mkR (x y : Int) : DV := if y = 0 then .tup [Q 0, .int .i64 5] else .tup [Q (Rat.divInt x y), .int .i64 0]
theorem vldI_of_ne {neg : Bool} {a : List Nat} (h : iv neg a ≠ 0) : vldI neg a = true := by
  by_cases hv : vldI neg a = true
  · exact hv
  · exact absurd (iv_inv (by simpa using hv)) h
theorem X_mag {neg : Bool} {a : List Nat} (la : lim a) (h : iv neg a ≠ 0) : a = limbs (iv neg a).natAbs := by
  have hx := X_I la (vldI_of_ne h)
  unfold X I at hx
  injection hx with hx
  injection hx with e1 hx
  injection hx with e2 _
  injection e2 with _ e2
  have hva := vn_limbs_of_vld la (show vld a = true by have := vldI_of_ne h; unfold vldI at this; rw [Bool.and_eq_true] at this; exact this.1)
  rw [iv_abs, hva]
theorem qMake_calls (n1 : Bool) (a : List Nat) (n2 : Bool) (b : List Nat) (ha : a.length ≤ 900) (hb : b.length ≤ 900) (la : lim a) (lb : lim b) : PCalls Tryz.prog 14 [X n1 a, X n2 b] (mkR (iv n1 a) (iv n2 b)) := by
  have cs := iSign_calls n2 b (by omega) lb
  have cn := iNeg_calls n1 a (by omega) la
  have c1 := iAdd_calls n1 a false [] (by omega) (by decide) la lim_nil
  rw [show iv false [] = 0 from rfl, Int.add_zero] at c1
  have l1 := iv_len la n1
  have l2 := iv_len lb n2
  have hm := @X_mag n2 b lb
  have c2 := iAddL (-(iv n1 a)) 0 (by unfold il; rw [Int.natAbs_neg]; omega) (by unfold il; rw [show (0 : Int).natAbs = 0 from rfl, limbs_zero]; exact Nat.zero_le _)
  rw [Int.add_zero, I0] at c2
  generalize iv n1 a = x at *
  generalize iv n2 b = y at *
  refine PCalls_of isqMake (by simp [fnqMake]) ?_
  unfold codeqMake mkR
  have e1 := sign_neg y
  by_cases hy : y = 0
  · rw [if_pos hy, Q0]
    have e2 : decide (y.sign = 0) = true := by rw [hy]; rfl
    repeat (first | (refine W_seq ?_) | (refine W_reg ?_) | (refine W_regd ?_) | (refine W_block ?_) | (refine And.intro (by omega) ?_) | simp (maxSteps := 1000000) (disch := omega) only [cA, cB, lk, lkH, Dst.onT, Dst.onX, Dst.slot, setF, setH, mapF, mapH, initF, binE, unE, cnt, boundE, newsE, freshE, opE, rmH, blkQ, frz_us, Nat.reduceEqDiff, Nat.reduceLT, Nat.reduceAdd, ↓reduceIte, reduceCtorEq, Nat.reduceLeDiff, X, cS, cT, nbqMake, e2] | (refine callC_pure (cs) rfl ?_) | exact W_ret (RetP_1 (.imm rfl)) | exact W_ret (RetP_c rfl rfl rfl (.imm rfl)))
    refine W_cond rfl (fun _ => ?_) (fun h => by cases h)
    repeat (first | (refine W_seq ?_) | (refine W_reg ?_) | (refine W_regd ?_) | (refine W_block ?_) | (refine And.intro (by omega) ?_) | simp (maxSteps := 1000000) (disch := omega) only [cA, cB, lk, lkH, Dst.onT, Dst.onX, Dst.slot, setF, setH, mapF, mapH, initF, binE, unE, cnt, boundE, newsE, freshE, opE, rmH, blkQ, frz_us, Nat.reduceEqDiff, Nat.reduceLT, Nat.reduceAdd, ↓reduceIte, reduceCtorEq, Nat.reduceLeDiff, cS, cT, nbqMake])
    exact W_ret (RetP_ct rfl rfl rfl (Exp_bnn _ _ _) (.imm rfl))
  · rw [if_neg hy]
    have e2 : decide (y.sign = 0) = false := decide_eq_false (fun h => hy (Int.sign_eq_zero_iff_zero.1 h))
    have hb' := hm hy
    by_cases hn : y < 0
    · rw [decide_eq_true hn] at e1
      rw [divInt_neg x hn]
      have cl := q_lowest_calls (-x) y.natAbs (by omega) (by unfold il; rw [Int.natAbs_neg]; omega) (by omega)
      rw [← hb'] at cl
      repeat (first | (refine W_seq ?_) | (refine W_reg ?_) | (refine W_regd ?_) | (refine W_block ?_) | (refine And.intro (by omega) ?_) | simp (maxSteps := 1000000) (disch := omega) only [cA, cB, lk, lkH, Dst.onT, Dst.onX, Dst.slot, setF, setH, mapF, mapH, initF, binE, unE, cnt, boundE, newsE, freshE, opE, rmH, blkQ, frz_us, Nat.reduceEqDiff, Nat.reduceLT, Nat.reduceAdd, ↓reduceIte, reduceCtorEq, Nat.reduceLeDiff, X, cS, cT, nbqMake, e2] | (refine callC_pure (cs) rfl ?_) | exact W_ret (RetP_1 (.imm rfl)) | exact W_ret (RetP_c rfl rfl rfl (.imm rfl)))
      refine W_cond rfl (fun h => by cases h) (fun _ => W_skip ?_)
      repeat (first | (refine W_seq ?_) | (refine W_reg ?_) | (refine W_regd ?_) | (refine W_block ?_) | (refine And.intro (by omega) ?_) | simp (maxSteps := 1000000) (disch := omega) only [cA, cB, lk, lkH, Dst.onT, Dst.onX, Dst.slot, setF, setH, mapF, mapH, initF, binE, unE, cnt, boundE, newsE, freshE, opE, rmH, blkQ, frz_us, Nat.reduceEqDiff, Nat.reduceLT, Nat.reduceAdd, ↓reduceIte, reduceCtorEq, Nat.reduceLeDiff, X, cS, cT, nbqMake, e1] | (refine callC_pure (cs) rfl ?_) | exact W_ret (RetP_1 (.imm rfl)) | exact W_ret (RetP_c rfl rfl rfl (.imm rfl)))
      refine W_cond rfl (fun _ => ?_) (fun h => by cases h)
      repeat (first | (refine W_seq ?_) | (refine W_reg ?_) | (refine W_regd ?_) | (refine W_block ?_) | (refine And.intro (by omega) ?_) | simp (maxSteps := 1000000) (disch := omega) only [cA, cB, lk, lkH, Dst.onT, Dst.onX, Dst.slot, setF, setH, mapF, mapH, initF, binE, unE, cnt, boundE, newsE, freshE, opE, rmH, blkQ, frz_us, Nat.reduceEqDiff, Nat.reduceLT, Nat.reduceAdd, ↓reduceIte, reduceCtorEq, Nat.reduceLeDiff, X, I, Q, cS, cT, nbqMake] | (refine callC_pure (cn) rfl ?_) | (refine callC_pure (PCalls_nz1 1 (c2)) rfl ?_) | (refine callC_pure (cl) rfl ?_) | exact W_ret (RetP_1 (.imm rfl)) | exact W_ret (RetP_c rfl rfl rfl (.imm rfl)))
      exact W_ret (RetP_ct rfl rfl rfl (.imm rfl) (.imm rfl))
    · rw [decide_eq_false hn] at e1
      rw [divInt_pos x (by omega)]
      have cl := q_lowest_calls x y.natAbs (by omega) (by unfold il; omega) (by omega)
      rw [← hb'] at cl
      repeat (first | (refine W_seq ?_) | (refine W_reg ?_) | (refine W_regd ?_) | (refine W_block ?_) | (refine And.intro (by omega) ?_) | simp (maxSteps := 1000000) (disch := omega) only [cA, cB, lk, lkH, Dst.onT, Dst.onX, Dst.slot, setF, setH, mapF, mapH, initF, binE, unE, cnt, boundE, newsE, freshE, opE, rmH, blkQ, frz_us, Nat.reduceEqDiff, Nat.reduceLT, Nat.reduceAdd, ↓reduceIte, reduceCtorEq, Nat.reduceLeDiff, X, cS, cT, nbqMake, e2] | (refine callC_pure (cs) rfl ?_) | exact W_ret (RetP_1 (.imm rfl)) | exact W_ret (RetP_c rfl rfl rfl (.imm rfl)))
      refine W_cond rfl (fun h => by cases h) (fun _ => W_skip ?_)
      repeat (first | (refine W_seq ?_) | (refine W_reg ?_) | (refine W_regd ?_) | (refine W_block ?_) | (refine And.intro (by omega) ?_) | simp (maxSteps := 1000000) (disch := omega) only [cA, cB, lk, lkH, Dst.onT, Dst.onX, Dst.slot, setF, setH, mapF, mapH, initF, binE, unE, cnt, boundE, newsE, freshE, opE, rmH, blkQ, frz_us, Nat.reduceEqDiff, Nat.reduceLT, Nat.reduceAdd, ↓reduceIte, reduceCtorEq, Nat.reduceLeDiff, X, cS, cT, nbqMake, e1] | (refine callC_pure (cs) rfl ?_) | exact W_ret (RetP_1 (.imm rfl)) | exact W_ret (RetP_c rfl rfl rfl (.imm rfl)))
      refine W_cond rfl (fun h => by cases h) (fun _ => W_skip ?_)
      repeat (first | (refine W_seq ?_) | (refine W_reg ?_) | (refine W_regd ?_) | (refine W_block ?_) | (refine And.intro (by omega) ?_) | simp (maxSteps := 1000000) (disch := omega) only [cA, cB, lk, lkH, Dst.onT, Dst.onX, Dst.slot, setF, setH, mapF, mapH, initF, binE, unE, cnt, boundE, newsE, freshE, opE, rmH, blkQ, frz_us, Nat.reduceEqDiff, Nat.reduceLT, Nat.reduceAdd, ↓reduceIte, reduceCtorEq, Nat.reduceLeDiff, X, I, Q, cS, cT, nbqMake] | (refine callC_pure (PCalls_nz1 1 (c1)) rfl ?_) | (refine callC_pure (cl) rfl ?_) | exact W_ret (RetP_1 (.imm rfl)) | exact W_ret (RetP_c rfl rfl rfl (.imm rfl)))
      exact W_ret (RetP_ct rfl rfl rfl (.imm rfl) (.imm rfl))
end Go.Proofs.YteiagmmfapbaiaaGreatDoor
namespace Go.Proofs.YteiagmmfapbaiaaGreatDoor
open Go Go.Dat Go.Proofs Nat32
open Go.Lib (decDigits)
theorem sSignL (x : Int) (h1 : il x ≤ 900) : PCalls Tryz.prog 24 [I x] (.int .i64 x.sign) := by
  have := sSign_calls (decide (x < 0)) (limbs x.natAbs) (Nat.le_trans h1 (by decide)) (lim_limbs _)
  rwa [iv_I] at this
theorem sNegL (x : Int) (h1 : il x ≤ 900) : PCalls Tryz.prog 98 [I x] (I (-x)) := by
  have := sNeg_calls (decide (x < 0)) (limbs x.natAbs) h1 (lim_limbs _)
  rwa [iv_I] at this
theorem sAddL (x y : Int) (h1 : il x ≤ 900) (h2 : il y ≤ 900) : PCalls Tryz.prog 82 [I x, I y] (I (x + y)) := by
  have := sAdd_calls (decide (x < 0)) (limbs x.natAbs) (decide (y < 0)) (limbs y.natAbs) h1 h2 (lim_limbs _) (lim_limbs _)
  rwa [iv_I, iv_I] at this
theorem sMulL (x y : Int) (h1 : il x ≤ 900) (h2 : il y ≤ 900) : PCalls Tryz.prog 25 [I x, I y] (I (x * y)) := by
  have := sMul_calls (decide (x < 0)) (limbs x.natAbs) (decide (y < 0)) (limbs y.natAbs) h1 h2 (lim_limbs _) (lim_limbs _)
  rwa [iv_I, iv_I] at this
theorem sDivL (x y : Int) (h1 : il x ≤ 900) (h2 : il y ≤ 900) : PCalls Tryz.prog 100 [I x, I y] (.tup [I (x / y), I (imod x y), .bool (decide (¬ y = 0))]) := by
  have := sDiv_calls (decide (x < 0)) (limbs x.natAbs) (decide (y < 0)) (limbs y.natAbs) h1 h2 (lim_limbs _) (lim_limbs _)
  rwa [iv_I, iv_I] at this
theorem sGcdL (x y : Int) (h1 : il x ≤ 900) (h2 : il y ≤ 900) : PCalls Tryz.prog 105 [I x, I y] (.sl 1 (us (limbs (Nat.gcd x.natAbs y.natAbs)))) := by
  have := sGcd_calls (decide (x < 0)) (limbs x.natAbs) (decide (y < 0)) (limbs y.natAbs) h1 h2 (lim_limbs _) (lim_limbs _)
  rwa [iv_I, iv_I] at this
theorem I_nat (n : Nat) : I (n : Int) = .agg [.bool false, .sl 1 (us (limbs n))] := by
  unfold I; rw [decide_eq_false (by omega), Int.natAbs_natCast]
theorem p_one_calls (n : Nat) : PCalls Tryz.prog 91 [.sl 1 (us (limbs n))] (.bool (decide (n = 1))) := by
  refine PCalls_of isp_one (by simp [fnp_one]) ?_
  unfold codep_one
  have e0 : (Int.toNat 0) = 0 := rfl
  by_cases h0 : n = 0
  · subst h0
    have k : decide (((limbs 0).length : Int) = 1) = false := by rw [limbs_zero]; rfl
    rw [decide_eq_false (show ¬ (0 : Nat) = 1 by decide)]
    repeat (first | (refine W_seq ?_) | (refine W_reg ?_) | (refine W_regd ?_) | (refine W_block ?_) | (refine And.intro (by omega) ?_) | simp (maxSteps := 1000000) (disch := omega) only [cA, cB, lk, lkH, Dst.onT, Dst.onX, Dst.slot, setF, setH, mapF, mapH, initF, binE, unE, cnt, boundE, newsE, freshE, opE, rmH, blkQ, frz_us, Nat.reduceEqDiff, Nat.reduceLT, Nat.reduceAdd, ↓reduceIte, reduceCtorEq, Nat.reduceLeDiff, us_length, k])
    exact W_ret (RetP_1 (.imm rfl))
  · by_cases h1 : n < 4294967296
    · have e : us (limbs n) = [.int .u32 (n : Int)] := by rw [limbs_one h0 h1]; rfl
      have k : decide (((n : Nat) : Int) = 1) = decide (n = 1) := by rw [decide_eq_decide]; omega
      have k1 : decide (((1 : Nat) : Int) = 1) = true := rfl
      rw [e]
      repeat (first | (refine W_seq ?_) | (refine W_reg ?_) | (refine W_regd ?_) | (refine W_block ?_) | (refine And.intro (by omega) ?_) | simp (maxSteps := 1000000) (disch := omega) only [cA, cB, lk, lkH, Dst.onT, Dst.onX, Dst.slot, setF, setH, mapF, mapH, initF, binE, unE, cnt, boundE, newsE, freshE, opE, rmH, blkQ, frz_us, Nat.reduceEqDiff, Nat.reduceLT, Nat.reduceAdd, ↓reduceIte, reduceCtorEq, Nat.reduceLeDiff, e0, k, k1, List.length_singleton])
      exact W_ret (RetP_1 (.imm rfl))
    · have hl : 1 < (limbs n).length := by
        rcases Nat.lt_or_ge 1 (limbs n).length with h | h
        · exact h
        · have := limbs_len.1 h
          rw [Nat.pow_one] at this
          omega
      have k : decide (((limbs n).length : Int) = 1) = false := decide_eq_false (by omega)
      rw [decide_eq_false (show ¬ n = 1 by omega)]
      repeat (first | (refine W_seq ?_) | (refine W_reg ?_) | (refine W_regd ?_) | (refine W_block ?_) | (refine And.intro (by omega) ?_) | simp (maxSteps := 1000000) (disch := omega) only [cA, cB, lk, lkH, Dst.onT, Dst.onX, Dst.slot, setF, setH, mapF, mapH, initF, binE, unE, cnt, boundE, newsE, freshE, opE, rmH, blkQ, frz_us, Nat.reduceEqDiff, Nat.reduceLT, Nat.reduceAdd, ↓reduceIte, reduceCtorEq, Nat.reduceLeDiff, us_length, k])
      exact W_ret (RetP_1 (.imm rfl))
theorem pValid_calls (neg : Bool) (a d : List Nat) (ha : a.length ≤ 900) (hd : d.length ≤ 900) (la : lim a) (ld : lim d) : PCalls Tryz.prog 30 [XQ neg a d] (.bool (vldQ neg a d)) := by
  have c1 := sValid_calls neg a (by omega)
  have c2 := rValid_calls d (by omega)
  have c4 := rGcd_calls a d (by omega) (by omega) la ld
  have c5 := p_one_calls (Nat.gcd (vn a) (vn d))
  have e5 : ∀ n : Nat, decide (n = 1) = decide (1 = n) := fun n => by rw [decide_eq_decide]; exact eq_comm
  rw [e5] at c5
  have c3 := p_one_calls (vn d)
  have ed := vn_limbs_of_vld ld
  refine PCalls_of ispValid (by simp [fnpValid]) ?_
  unfold codepValid vldQ
  generalize hV : vldI neg a = p1 at *
  generalize vld d = p2 at *
  generalize Nat.gcd (vn a) (vn d) = G at *
  clear e5
  have k1 : decide ((0 : Int) < a.length) = decide (0 < a.length) := by rw [decide_eq_decide]; omega
  have k2 : decide ((d.length : Int) = 0) = decide (d.length = 0) := by rw [decide_eq_decide]; omega
  cases p1
  · simp only [Bool.false_and]
    repeat (first | (refine W_seq ?_) | (refine W_reg ?_) | (refine W_regd ?_) | (refine W_block ?_) | (refine And.intro (by omega) ?_) | simp (maxSteps := 1000000) (disch := omega) only [cA, cB, lk, lkH, Dst.onT, Dst.onX, Dst.slot, setF, setH, mapF, mapH, initF, binE, unE, cnt, boundE, newsE, freshE, opE, rmH, blkQ, frz_us, Nat.reduceEqDiff, Nat.reduceLT, Nat.reduceAdd, ↓reduceIte, reduceCtorEq, Nat.reduceLeDiff, XQ, X, cS, cT, nbpValid, us_length] | (refine callC_pure (c1) rfl ?_) | (refine callC_pure (c2) rfl ?_) | exact W_ret (RetP_1 (.imm rfl)) | exact W_ret (RetP_c rfl rfl rfl (.imm rfl)))
    refine W_cond rfl (fun _ => ?_) (fun h => by cases h)
    repeat (first | (refine W_seq ?_) | (refine W_reg ?_) | (refine W_regd ?_) | (refine W_block ?_) | (refine And.intro (by omega) ?_) | simp (maxSteps := 1000000) (disch := omega) only [cA, cB, lk, lkH, Dst.onT, Dst.onX, Dst.slot, setF, setH, mapF, mapH, initF, binE, unE, cnt, boundE, newsE, freshE, opE, rmH, blkQ, frz_us, Nat.reduceEqDiff, Nat.reduceLT, Nat.reduceAdd, ↓reduceIte, reduceCtorEq, Nat.reduceLeDiff, cS, nbpValid])
    exact W_ret (RetP_1 (.imm rfl))
  · cases p2
    · simp only [Bool.true_and, Bool.false_and]
      repeat (first | (refine W_seq ?_) | (refine W_reg ?_) | (refine W_regd ?_) | (refine W_block ?_) | (refine And.intro (by omega) ?_) | simp (maxSteps := 1000000) (disch := omega) only [cA, cB, lk, lkH, Dst.onT, Dst.onX, Dst.slot, setF, setH, mapF, mapH, initF, binE, unE, cnt, boundE, newsE, freshE, opE, rmH, blkQ, frz_us, Nat.reduceEqDiff, Nat.reduceLT, Nat.reduceAdd, ↓reduceIte, reduceCtorEq, Nat.reduceLeDiff, XQ, X, cS, cT, nbpValid, us_length] | (refine callC_pure (c1) rfl ?_) | (refine callC_pure (c2) rfl ?_) | exact W_ret (RetP_1 (.imm rfl)) | exact W_ret (RetP_c rfl rfl rfl (.imm rfl)))
      refine W_cond rfl (fun _ => ?_) (fun h => by cases h)
      repeat (first | (refine W_seq ?_) | (refine W_reg ?_) | (refine W_regd ?_) | (refine W_block ?_) | (refine And.intro (by omega) ?_) | simp (maxSteps := 1000000) (disch := omega) only [cA, cB, lk, lkH, Dst.onT, Dst.onX, Dst.slot, setF, setH, mapF, mapH, initF, binE, unE, cnt, boundE, newsE, freshE, opE, rmH, blkQ, frz_us, Nat.reduceEqDiff, Nat.reduceLT, Nat.reduceAdd, ↓reduceIte, reduceCtorEq, Nat.reduceLeDiff, cS, nbpValid])
      exact W_ret (RetP_1 (.imm rfl))
    · simp only [Bool.true_and]
      rw [ed rfl] at c3
      by_cases h0 : d.length = 0
      · have hD : ¬ vn d = 1 := by rw [List.eq_nil_of_length_eq_zero h0]; decide
        rw [decide_eq_false hD] at c3
        rw [decide_eq_true h0] at k2 ⊢
        simp only [Bool.true_or]
        repeat (first | (refine W_seq ?_) | (refine W_reg ?_) | (refine W_regd ?_) | (refine W_block ?_) | (refine And.intro (by omega) ?_) | simp (maxSteps := 1000000) (disch := omega) only [cA, cB, lk, lkH, Dst.onT, Dst.onX, Dst.slot, setF, setH, mapF, mapH, initF, binE, unE, cnt, boundE, newsE, freshE, opE, rmH, blkQ, frz_us, Nat.reduceEqDiff, Nat.reduceLT, Nat.reduceAdd, ↓reduceIte, reduceCtorEq, Nat.reduceLeDiff, XQ, X, cS, cT, nbpValid, us_length, k2] | (refine callC_pure (c1) rfl ?_) | (refine callC_pure (c2) rfl ?_) | (refine callC_pure (c3) rfl ?_) | exact W_ret (RetP_1 (.imm rfl)) | exact W_ret (RetP_c rfl rfl rfl (.imm rfl)))
        refine W_cond rfl (fun h => by cases h) (fun _ => W_skip ?_)
        repeat (first | (refine W_seq ?_) | (refine W_reg ?_) | (refine W_regd ?_) | (refine W_block ?_) | (refine And.intro (by omega) ?_) | simp (maxSteps := 1000000) (disch := omega) only [cA, cB, lk, lkH, Dst.onT, Dst.onX, Dst.slot, setF, setH, mapF, mapH, initF, binE, unE, cnt, boundE, newsE, freshE, opE, rmH, blkQ, frz_us, Nat.reduceEqDiff, Nat.reduceLT, Nat.reduceAdd, ↓reduceIte, reduceCtorEq, Nat.reduceLeDiff, XQ, X, cS, cT, nbpValid, us_length, k2] | (refine callC_pure (c1) rfl ?_) | (refine callC_pure (c2) rfl ?_) | exact W_ret (RetP_1 (.imm rfl)) | exact W_ret (RetP_c rfl rfl rfl (.imm rfl)))
      · rw [decide_eq_false h0] at k2 ⊢
        simp only [Bool.false_or]
        by_cases hD : vn d = 1
        · rw [decide_eq_true hD] at c3
          rw [decide_eq_false (show ¬ ¬ vn d = 1 from fun h => h hD)]
          simp only [Bool.false_and, Bool.and_false]
          repeat (first | (refine W_seq ?_) | (refine W_reg ?_) | (refine W_regd ?_) | (refine W_block ?_) | (refine And.intro (by omega) ?_) | simp (maxSteps := 1000000) (disch := omega) only [cA, cB, lk, lkH, Dst.onT, Dst.onX, Dst.slot, setF, setH, mapF, mapH, initF, binE, unE, cnt, boundE, newsE, freshE, opE, rmH, blkQ, frz_us, Nat.reduceEqDiff, Nat.reduceLT, Nat.reduceAdd, ↓reduceIte, reduceCtorEq, Nat.reduceLeDiff, XQ, X, cS, cT, nbpValid, us_length, k2] | (refine callC_pure (c1) rfl ?_) | (refine callC_pure (c2) rfl ?_) | (refine callC_pure (c3) rfl ?_) | exact W_ret (RetP_1 (.imm rfl)) | exact W_ret (RetP_c rfl rfl rfl (.imm rfl)))
          refine W_cond rfl (fun _ => ?_) (fun h => by cases h)
          repeat (first | (refine W_seq ?_) | (refine W_reg ?_) | (refine W_regd ?_) | (refine W_block ?_) | (refine And.intro (by omega) ?_) | simp (maxSteps := 1000000) (disch := omega) only [cA, cB, lk, lkH, Dst.onT, Dst.onX, Dst.slot, setF, setH, mapF, mapH, initF, binE, unE, cnt, boundE, newsE, freshE, opE, rmH, blkQ, frz_us, Nat.reduceEqDiff, Nat.reduceLT, Nat.reduceAdd, ↓reduceIte, reduceCtorEq, Nat.reduceLeDiff, cS, nbpValid])
          exact W_ret (RetP_1 (.imm rfl))
        · rw [decide_eq_false hD] at c3
          rw [decide_eq_true (show ¬ vn d = 1 from hD)]
          simp only [Bool.and_true]
          by_cases ha0 : 0 < a.length
          · rw [decide_eq_true ha0] at k1 ⊢
            simp only [Bool.true_and]
            repeat (first | (refine W_seq ?_) | (refine W_reg ?_) | (refine W_regd ?_) | (refine W_block ?_) | (refine And.intro (by omega) ?_) | simp (maxSteps := 1000000) (disch := omega) only [cA, cB, lk, lkH, Dst.onT, Dst.onX, Dst.slot, setF, setH, mapF, mapH, initF, binE, unE, cnt, boundE, newsE, freshE, opE, rmH, blkQ, frz_us, Nat.reduceEqDiff, Nat.reduceLT, Nat.reduceAdd, ↓reduceIte, reduceCtorEq, Nat.reduceLeDiff, XQ, X, cS, cT, nbpValid, us_length, k1, k2] | (refine callC_pure (c1) rfl ?_) | (refine callC_pure (c2) rfl ?_) | (refine callC_pure (c3) rfl ?_) | exact W_ret (RetP_1 (.imm rfl)) | exact W_ret (RetP_c rfl rfl rfl (.imm rfl)))
            refine W_cond rfl (fun h => by cases h) (fun _ => W_skip ?_)
            repeat (first | (refine W_seq ?_) | (refine W_reg ?_) | (refine W_regd ?_) | (refine W_block ?_) | (refine And.intro (by omega) ?_) | simp (maxSteps := 1000000) (disch := omega) only [cA, cB, lk, lkH, Dst.onT, Dst.onX, Dst.slot, setF, setH, mapF, mapH, initF, binE, unE, cnt, boundE, newsE, freshE, opE, rmH, blkQ, frz_us, Nat.reduceEqDiff, Nat.reduceLT, Nat.reduceAdd, ↓reduceIte, reduceCtorEq, Nat.reduceLeDiff, XQ, X, cS, cT, nbpValid, us_length, k1, k2] | (refine callC_pure (c4) rfl ?_) | (refine callC_pure (c5) rfl ?_) | exact W_ret (RetP_1 (.imm rfl)) | exact W_ret (RetP_c rfl rfl rfl (.imm rfl)))
          · rw [decide_eq_false ha0] at k1 ⊢
            simp only [Bool.false_and]
            repeat (first | (refine W_seq ?_) | (refine W_reg ?_) | (refine W_regd ?_) | (refine W_block ?_) | (refine And.intro (by omega) ?_) | simp (maxSteps := 1000000) (disch := omega) only [cA, cB, lk, lkH, Dst.onT, Dst.onX, Dst.slot, setF, setH, mapF, mapH, initF, binE, unE, cnt, boundE, newsE, freshE, opE, rmH, blkQ, frz_us, Nat.reduceEqDiff, Nat.reduceLT, Nat.reduceAdd, ↓reduceIte, reduceCtorEq, Nat.reduceLeDiff, XQ, X, cS, cT, nbpValid, us_length, k1, k2] | (refine callC_pure (c1) rfl ?_) | (refine callC_pure (c2) rfl ?_) | (refine callC_pure (c3) rfl ?_) | exact W_ret (RetP_1 (.imm rfl)) | exact W_ret (RetP_c rfl rfl rfl (.imm rfl)))
            refine W_cond rfl (fun h => by cases h) (fun _ => W_skip ?_)
            repeat (first | (refine W_seq ?_) | (refine W_reg ?_) | (refine W_regd ?_) | (refine W_block ?_) | (refine And.intro (by omega) ?_) | simp (maxSteps := 1000000) (disch := omega) only [cA, cB, lk, lkH, Dst.onT, Dst.onX, Dst.slot, setF, setH, mapF, mapH, initF, binE, unE, cnt, boundE, newsE, freshE, opE, rmH, blkQ, frz_us, Nat.reduceEqDiff, Nat.reduceLT, Nat.reduceAdd, ↓reduceIte, reduceCtorEq, Nat.reduceLeDiff, XQ, X, cS, cT, nbpValid, us_length, k1, k2] | (refine callC_pure (c4) rfl ?_) | (refine callC_pure (c5) rfl ?_) | exact W_ret (RetP_1 (.imm rfl)) | exact W_ret (RetP_c rfl rfl rfl (.imm rfl)))
theorem vldQ_parts {neg : Bool} {a d : List Nat} (h : vldQ neg a d = true) : vldI neg a = true ∧ vld d = true := by
  unfold vldQ at h
  simp only [Bool.and_eq_true] at h
  exact h.1
theorem pTake_calls (neg : Bool) (a d : List Nat) (ha : a.length ≤ 900) (hd : d.length ≤ 900) (la : lim a) (ld : lim d) : PCalls Tryz.prog 70 [XQ neg a d] (Q (rv neg a d)) := by
  have cv := pValid_calls neg a d ha hd la ld
  have c1 := sTake_calls neg a (by omega) la
  have c2 := rTake_calls d (by omega) ld
  refine PCalls_of ispTake (by simp [fnpTake]) ?_
  unfold codepTake
  by_cases hv : vldQ neg a d = true
  · rw [hv] at cv
    obtain ⟨v1, v2⟩ := vldQ_parts hv
    rw [← X_I la v1] at c1
    rw [vn_limbs_of_vld ld v2] at c2
    rw [← XQ_Q la ld hv]
    repeat (first | (refine W_seq ?_) | (refine W_reg ?_) | (refine W_regd ?_) | (refine W_block ?_) | (refine And.intro (by omega) ?_) | simp (maxSteps := 1000000) (disch := omega) only [cA, cB, lk, lkH, Dst.onT, Dst.onX, Dst.slot, setF, setH, mapF, mapH, initF, binE, unE, cnt, boundE, newsE, freshE, opE, rmH, blkQ, frz_us, Nat.reduceEqDiff, Nat.reduceLT, Nat.reduceAdd, ↓reduceIte, reduceCtorEq, Nat.reduceLeDiff, XQ, X, cS, cT, nbpTake] | (refine callC_pure (cv) rfl ?_) | exact W_ret (RetP_1 (.imm rfl)) | exact W_ret (RetP_c rfl rfl rfl (.imm rfl)))
    refine W_cond rfl (fun h => by cases h) (fun _ => W_skip ?_)
    repeat (first | (refine W_seq ?_) | (refine W_reg ?_) | (refine W_regd ?_) | (refine W_block ?_) | (refine And.intro (by omega) ?_) | simp (maxSteps := 1000000) (disch := omega) only [cA, cB, lk, lkH, Dst.onT, Dst.onX, Dst.slot, setF, setH, mapF, mapH, initF, binE, unE, cnt, boundE, newsE, freshE, opE, rmH, blkQ, frz_us, Nat.reduceEqDiff, Nat.reduceLT, Nat.reduceAdd, ↓reduceIte, reduceCtorEq, Nat.reduceLeDiff, XQ, X, cS, cT, nbpTake] | (refine callC_pure (c1) rfl ?_) | (refine callC_pure (c2) rfl ?_) | exact W_ret (RetP_1 (.imm rfl)) | exact W_ret (RetP_c rfl rfl rfl (.imm rfl)))
  · have hv : vldQ neg a d = false := by simpa using hv
    rw [hv] at cv
    rw [rv_inv hv, Q0]
    repeat (first | (refine W_seq ?_) | (refine W_reg ?_) | (refine W_regd ?_) | (refine W_block ?_) | (refine And.intro (by omega) ?_) | simp (maxSteps := 1000000) (disch := omega) only [cA, cB, lk, lkH, Dst.onT, Dst.onX, Dst.slot, setF, setH, mapF, mapH, initF, binE, unE, cnt, boundE, newsE, freshE, opE, rmH, blkQ, frz_us, Nat.reduceEqDiff, Nat.reduceLT, Nat.reduceAdd, ↓reduceIte, reduceCtorEq, Nat.reduceLeDiff, XQ, cS, nbpTake] | (refine callC_pure (cv) rfl ?_) | exact W_ret (RetP_1 (.imm rfl)) | exact W_ret (RetP_c rfl rfl rfl (.imm rfl)))
    refine W_cond rfl (fun _ => ?_) (fun h => by cases h)
    repeat (first | (refine W_seq ?_) | (refine W_reg ?_) | (refine W_regd ?_) | (refine W_block ?_) | (refine And.intro (by omega) ?_) | simp (maxSteps := 1000000) (disch := omega) only [cA, cB, lk, lkH, Dst.onT, Dst.onX, Dst.slot, setF, setH, mapF, mapH, initF, binE, unE, cnt, boundE, newsE, freshE, opE, rmH, blkQ, frz_us, Nat.reduceEqDiff, Nat.reduceLT, Nat.reduceAdd, ↓reduceIte, reduceCtorEq, Nat.reduceLeDiff, cS, nbpTake])
    exact W_ret (RetP_c rfl rfl rfl (Exp_bnn _ _ _))
theorem pTakeL (r : Rat) (h : RB r 900) : PCalls Tryz.prog 70 [Q r] (Q r) := by
  have := pTake_calls (decide (r.num < 0)) (limbs r.num.natAbs) (dn r.den) h.1 (RB_dn h) (lim_limbs _) (lim_dn _)
  rwa [rv_Q] at this
theorem pDen_calls (r : Rat) (h : RB r 1000) : PCalls Tryz.prog 29 [Q r] (I (r.den : Int)) := by
  have c2 := rTake_calls (dn r.den) (Nat.le_trans (RB_dn h) (by decide)) (lim_dn _)
  rw [dn_eq] at c2
  refine PCalls_of ispDen (by simp [fnpDen]) ?_
  unfold codepDen
  rw [I_nat]
  have k := dk1 r
  by_cases h : r.den = 1
  · rw [decide_eq_true h] at k
    have e : limbs r.den = limbs 1 := by rw [h]
    rw [e]
    repeat (first | (refine W_seq ?_) | (refine W_reg ?_) | (refine W_regd ?_) | (refine W_block ?_) | (refine And.intro (by omega) ?_) | simp (maxSteps := 1000000) (disch := omega) only [cA, cB, lk, lkH, Dst.onT, Dst.onX, Dst.slot, setF, setH, mapF, mapH, initF, binE, unE, cnt, boundE, newsE, freshE, opE, rmH, blkQ, frz_us, Nat.reduceEqDiff, Nat.reduceLT, Nat.reduceAdd, ↓reduceIte, reduceCtorEq, Nat.reduceLeDiff, Q, cS, cT, nbpDen, us_length, k] | (refine callC_pure (c2) rfl ?_) | exact W_ret (RetP_1 (.imm rfl)) | exact W_ret (RetP_c rfl rfl rfl (.imm rfl)))
    refine W_cond rfl (fun _ => ?_) (fun h => by cases h)
    repeat (first | (refine W_seq ?_) | (refine W_reg ?_) | (refine W_regd ?_) | (refine W_block ?_) | (refine And.intro (by omega) ?_) | simp (maxSteps := 1000000) (disch := omega) only [cA, cB, lk, lkH, Dst.onT, Dst.onX, Dst.slot, setF, setH, mapF, mapH, initF, binE, unE, cnt, boundE, newsE, freshE, opE, rmH, blkQ, frz_us, Nat.reduceEqDiff, Nat.reduceLT, Nat.reduceAdd, ↓reduceIte, reduceCtorEq, Nat.reduceLeDiff, cS, cT, nbpDen, us1L, us_rfd])
    exact W_ret (RetP_c rfl rfl rfl (.imm rfl))
  · rw [decide_eq_false h] at k
    have e : limbs r.den = dn r.den := by unfold dn; rw [if_neg h]
    rw [e]
    repeat (first | (refine W_seq ?_) | (refine W_reg ?_) | (refine W_regd ?_) | (refine W_block ?_) | (refine And.intro (by omega) ?_) | simp (maxSteps := 1000000) (disch := omega) only [cA, cB, lk, lkH, Dst.onT, Dst.onX, Dst.slot, setF, setH, mapF, mapH, initF, binE, unE, cnt, boundE, newsE, freshE, opE, rmH, blkQ, frz_us, Nat.reduceEqDiff, Nat.reduceLT, Nat.reduceAdd, ↓reduceIte, reduceCtorEq, Nat.reduceLeDiff, Q, cS, cT, nbpDen, us_length, k] | (refine callC_pure (c2) rfl ?_) | exact W_ret (RetP_1 (.imm rfl)) | exact W_ret (RetP_c rfl rfl rfl (.imm rfl)))
    refine W_cond rfl (fun h => by cases h) (fun _ => W_skip ?_)
    repeat (first | (refine W_seq ?_) | (refine W_reg ?_) | (refine W_regd ?_) | (refine W_block ?_) | (refine And.intro (by omega) ?_) | simp (maxSteps := 1000000) (disch := omega) only [cA, cB, lk, lkH, Dst.onT, Dst.onX, Dst.slot, setF, setH, mapF, mapH, initF, binE, unE, cnt, boundE, newsE, freshE, opE, rmH, blkQ, frz_us, Nat.reduceEqDiff, Nat.reduceLT, Nat.reduceAdd, ↓reduceIte, reduceCtorEq, Nat.reduceLeDiff, cS, cT, nbpDen] | (refine callC_pure (c2) rfl ?_) | exact W_ret (RetP_1 (.imm rfl)) | exact W_ret (RetP_c rfl rfl rfl (.imm rfl)))
theorem Q_mk (z : Int) (d : Nat) (h : d ≠ 0) : Q (mkRat z d) = .agg [.bool (decide (z / ((Nat.gcd z.natAbs d : Nat) : Int) < 0)), .sl 1 (us (limbs (z / ((Nat.gcd z.natAbs d : Nat) : Int)).natAbs)), .sl 1 (us (dn (d / Nat.gcd z.natAbs d)))] := by
  unfold Q
  rw [Rat.num_mkRat, Rat.den_mkRat, if_neg h, if_neg h, Nat.gcd_comm d]
theorem p_over_calls (x y : Int) (hy : y ≠ 0) (h1 : il x ≤ 900) (h2 : il y ≤ 900) : PCalls Tryz.prog 58 [I x, I y] (Q (Rat.divInt x y)) := by
  have cs := sSignL y h2
  have e1 := sign_neg y
  refine PCalls_of isp_over (by simp [fnp_over]) ?_
  unfold codep_over
  have key : ∃ (z : Int) (d : Nat), d ≠ 0 ∧ Rat.divInt x y = mkRat z d ∧ il z ≤ 900 ∧ (limbs d).length ≤ 900 ∧ (y < 0 → -x = z ∧ -y = (d : Int)) ∧ (¬ y < 0 → x = z ∧ y = (d : Int)) := by
    by_cases hn : y < 0
    · exact ⟨-x, y.natAbs, by omega, divInt_neg x hn, by rw [il_neg]; exact h1, h2, fun _ => ⟨rfl, by omega⟩, fun h => absurd hn h⟩
    · exact ⟨x, y.natAbs, by omega, divInt_pos x (by omega), h1, h2, fun h => absurd h hn, fun _ => ⟨rfl, by omega⟩⟩
  obtain ⟨z, d, hd, hq, lz, ld, kn, kp⟩ := key
  rw [hq, Q_mk z d hd]
  have hgl : (limbs (Nat.gcd z.natAbs d)).length ≤ 900 := Nat.le_trans (len_mono (Nat.gcd_le_right _ (Nat.pos_of_ne_zero hd))) ld
  have cg := sGcdL z (d : Int) lz (il_nat ld)
  rw [Int.natAbs_natCast] at cg
  have c1 := sDivL z ((Nat.gcd z.natAbs d : Nat) : Int) lz (il_nat hgl)
  have c2 := sDivL (d : Int) ((Nat.gcd z.natAbs d : Nat) : Int) (il_nat ld) (il_nat hgl)
  rw [show ((d : Int) / ((Nat.gcd z.natAbs d : Nat) : Int)) = ((d / Nat.gcd z.natAbs d : Nat) : Int) from rfl, I_nat (Nat.gcd z.natAbs d), I_nat (d / Nat.gcd z.natAbs d)] at c2
  rw [I_nat (Nat.gcd z.natAbs d)] at c1
  have c3 := p_one_calls (d / Nat.gcd z.natAbs d)
  rw [I_nat d] at c2 cg
  have hdn : ¬ d / Nat.gcd z.natAbs d = 1 → dn (d / Nat.gcd z.natAbs d) = limbs (d / Nat.gcd z.natAbs d) := fun h => by unfold dn; rw [if_neg h]
  have hdn1 : d / Nat.gcd z.natAbs d = 1 → dn (d / Nat.gcd z.natAbs d) = [] := fun h => by rw [h, dn_one]
  generalize hG : ((Nat.gcd z.natAbs d : Nat) : Int) = GI at *
  generalize Nat.gcd z.natAbs d = G at *
  generalize d / G = E at *
  generalize z / GI = Z at *
  by_cases hn : y < 0
  · rw [decide_eq_true hn] at e1
    obtain ⟨k1, k2⟩ := kn hn
    have cn1 := sNegL x h1
    have cn2 := sNegL y h2
    rw [k1] at cn1
    rw [k2, I_nat] at cn2
    by_cases hE : E = 1
    · rw [hdn1 hE]
      rw [decide_eq_true hE] at c3
      clear hdn hdn1 kn kp
      repeat (first | (refine W_seq ?_) | (refine W_reg ?_) | (refine W_regd ?_) | (refine W_block ?_) | (refine And.intro (by omega) ?_) | simp (maxSteps := 1000000) (disch := omega) only [cA, cB, lk, lkH, Dst.onT, Dst.onX, Dst.slot, setF, setH, mapF, mapH, initF, binE, unE, cnt, boundE, newsE, freshE, opE, rmH, blkQ, frz_us, Nat.reduceEqDiff, Nat.reduceLT, Nat.reduceAdd, ↓reduceIte, reduceCtorEq, Nat.reduceLeDiff, I, cS, cT, nbp_over, e1] | (refine callC_pure (cs) rfl ?_) | exact W_ret (RetP_1 (.imm rfl)) | exact W_ret (RetP_c rfl rfl rfl (.imm rfl)))
      refine W_cond rfl (fun _ => ?_) (fun h => by cases h)
      repeat (first | (refine W_seq ?_) | (refine W_reg ?_) | (refine W_regd ?_) | (refine W_block ?_) | (refine And.intro (by omega) ?_) | simp (maxSteps := 1000000) (disch := omega) only [cA, cB, lk, lkH, Dst.onT, Dst.onX, Dst.slot, setF, setH, mapF, mapH, initF, binE, unE, cnt, boundE, newsE, freshE, opE, rmH, blkQ, frz_us, Nat.reduceEqDiff, Nat.reduceLT, Nat.reduceAdd, ↓reduceIte, reduceCtorEq, Nat.reduceLeDiff, I, cS, cT, nbp_over] | (refine callC_pure (cn1) rfl ?_) | (refine callC_pure (cn2) rfl ?_) | (refine callC_pure (cg) rfl ?_) | (refine callC_pure (c1) rfl ?_) | (refine callC_pure (c2) rfl ?_) | (refine callC_pure (c3) rfl ?_) | exact W_ret (RetP_1 (.imm rfl)) | exact W_ret (RetP_c rfl rfl rfl (.imm rfl)))
      refine W_cond rfl (fun _ => ?_) (fun h => by cases h)
      repeat (first | (refine W_seq ?_) | (refine W_reg ?_) | (refine W_regd ?_) | (refine W_block ?_) | (refine And.intro (by omega) ?_) | simp (maxSteps := 1000000) (disch := omega) only [cA, cB, lk, lkH, Dst.onT, Dst.onX, Dst.slot, setF, setH, mapF, mapH, initF, binE, unE, cnt, boundE, newsE, freshE, opE, rmH, blkQ, frz_us, Nat.reduceEqDiff, Nat.reduceLT, Nat.reduceAdd, ↓reduceIte, reduceCtorEq, Nat.reduceLeDiff, I, cS, cT, nbp_over])
      exact W_ret (RetP_c rfl rfl rfl (Exp_bsn _ _ _ _ rfl))
    · rw [hdn hE]
      rw [decide_eq_false hE] at c3
      clear hdn hdn1 kn kp
      repeat (first | (refine W_seq ?_) | (refine W_reg ?_) | (refine W_regd ?_) | (refine W_block ?_) | (refine And.intro (by omega) ?_) | simp (maxSteps := 1000000) (disch := omega) only [cA, cB, lk, lkH, Dst.onT, Dst.onX, Dst.slot, setF, setH, mapF, mapH, initF, binE, unE, cnt, boundE, newsE, freshE, opE, rmH, blkQ, frz_us, Nat.reduceEqDiff, Nat.reduceLT, Nat.reduceAdd, ↓reduceIte, reduceCtorEq, Nat.reduceLeDiff, I, cS, cT, nbp_over, e1] | (refine callC_pure (cs) rfl ?_) | exact W_ret (RetP_1 (.imm rfl)) | exact W_ret (RetP_c rfl rfl rfl (.imm rfl)))
      refine W_cond rfl (fun _ => ?_) (fun h => by cases h)
      repeat (first | (refine W_seq ?_) | (refine W_reg ?_) | (refine W_regd ?_) | (refine W_block ?_) | (refine And.intro (by omega) ?_) | simp (maxSteps := 1000000) (disch := omega) only [cA, cB, lk, lkH, Dst.onT, Dst.onX, Dst.slot, setF, setH, mapF, mapH, initF, binE, unE, cnt, boundE, newsE, freshE, opE, rmH, blkQ, frz_us, Nat.reduceEqDiff, Nat.reduceLT, Nat.reduceAdd, ↓reduceIte, reduceCtorEq, Nat.reduceLeDiff, I, cS, cT, nbp_over] | (refine callC_pure (cn1) rfl ?_) | (refine callC_pure (cn2) rfl ?_) | (refine callC_pure (cg) rfl ?_) | (refine callC_pure (c1) rfl ?_) | (refine callC_pure (c2) rfl ?_) | (refine callC_pure (c3) rfl ?_) | exact W_ret (RetP_1 (.imm rfl)) | exact W_ret (RetP_c rfl rfl rfl (.imm rfl)))
      refine W_cond rfl (fun h => by cases h) (fun _ => W_skip ?_)
      repeat (first | (refine W_seq ?_) | (refine W_reg ?_) | (refine W_regd ?_) | (refine W_block ?_) | (refine And.intro (by omega) ?_) | simp (maxSteps := 1000000) (disch := omega) only [cA, cB, lk, lkH, Dst.onT, Dst.onX, Dst.slot, setF, setH, mapF, mapH, initF, binE, unE, cnt, boundE, newsE, freshE, opE, rmH, blkQ, frz_us, Nat.reduceEqDiff, Nat.reduceLT, Nat.reduceAdd, ↓reduceIte, reduceCtorEq, Nat.reduceLeDiff, I, cS, cT, nbp_over])
      exact W_ret (RetP_c rfl rfl rfl (.imm rfl))
  · rw [decide_eq_false hn] at e1
    obtain ⟨k1, k2⟩ := kp hn
    subst k1
    rw [k2, I_nat]
    rw [k2, I_nat] at cs
    rw [k2] at e1
    by_cases hE : E = 1
    · rw [hdn1 hE]
      rw [decide_eq_true hE] at c3
      clear hdn hdn1 kn kp
      repeat (first | (refine W_seq ?_) | (refine W_reg ?_) | (refine W_regd ?_) | (refine W_block ?_) | (refine And.intro (by omega) ?_) | simp (maxSteps := 1000000) (disch := omega) only [cA, cB, lk, lkH, Dst.onT, Dst.onX, Dst.slot, setF, setH, mapF, mapH, initF, binE, unE, cnt, boundE, newsE, freshE, opE, rmH, blkQ, frz_us, Nat.reduceEqDiff, Nat.reduceLT, Nat.reduceAdd, ↓reduceIte, reduceCtorEq, Nat.reduceLeDiff, I, cS, cT, nbp_over, e1] | (refine callC_pure (cs) rfl ?_) | exact W_ret (RetP_1 (.imm rfl)) | exact W_ret (RetP_c rfl rfl rfl (.imm rfl)))
      refine W_cond rfl (fun h => by cases h) (fun _ => W_skip ?_)
      repeat (first | (refine W_seq ?_) | (refine W_reg ?_) | (refine W_regd ?_) | (refine W_block ?_) | (refine And.intro (by omega) ?_) | simp (maxSteps := 1000000) (disch := omega) only [cA, cB, lk, lkH, Dst.onT, Dst.onX, Dst.slot, setF, setH, mapF, mapH, initF, binE, unE, cnt, boundE, newsE, freshE, opE, rmH, blkQ, frz_us, Nat.reduceEqDiff, Nat.reduceLT, Nat.reduceAdd, ↓reduceIte, reduceCtorEq, Nat.reduceLeDiff, I, cS, cT, nbp_over] | (refine callC_pure (cg) rfl ?_) | (refine callC_pure (c1) rfl ?_) | (refine callC_pure (c2) rfl ?_) | (refine callC_pure (c3) rfl ?_) | exact W_ret (RetP_1 (.imm rfl)) | exact W_ret (RetP_c rfl rfl rfl (.imm rfl)))
      refine W_cond rfl (fun _ => ?_) (fun h => by cases h)
      repeat (first | (refine W_seq ?_) | (refine W_reg ?_) | (refine W_regd ?_) | (refine W_block ?_) | (refine And.intro (by omega) ?_) | simp (maxSteps := 1000000) (disch := omega) only [cA, cB, lk, lkH, Dst.onT, Dst.onX, Dst.slot, setF, setH, mapF, mapH, initF, binE, unE, cnt, boundE, newsE, freshE, opE, rmH, blkQ, frz_us, Nat.reduceEqDiff, Nat.reduceLT, Nat.reduceAdd, ↓reduceIte, reduceCtorEq, Nat.reduceLeDiff, I, cS, cT, nbp_over])
      exact W_ret (RetP_c rfl rfl rfl (Exp_bsn _ _ _ _ rfl))
    · rw [hdn hE]
      rw [decide_eq_false hE] at c3
      clear hdn hdn1 kn kp
      repeat (first | (refine W_seq ?_) | (refine W_reg ?_) | (refine W_regd ?_) | (refine W_block ?_) | (refine And.intro (by omega) ?_) | simp (maxSteps := 1000000) (disch := omega) only [cA, cB, lk, lkH, Dst.onT, Dst.onX, Dst.slot, setF, setH, mapF, mapH, initF, binE, unE, cnt, boundE, newsE, freshE, opE, rmH, blkQ, frz_us, Nat.reduceEqDiff, Nat.reduceLT, Nat.reduceAdd, ↓reduceIte, reduceCtorEq, Nat.reduceLeDiff, I, cS, cT, nbp_over, e1] | (refine callC_pure (cs) rfl ?_) | exact W_ret (RetP_1 (.imm rfl)) | exact W_ret (RetP_c rfl rfl rfl (.imm rfl)))
      refine W_cond rfl (fun h => by cases h) (fun _ => W_skip ?_)
      repeat (first | (refine W_seq ?_) | (refine W_reg ?_) | (refine W_regd ?_) | (refine W_block ?_) | (refine And.intro (by omega) ?_) | simp (maxSteps := 1000000) (disch := omega) only [cA, cB, lk, lkH, Dst.onT, Dst.onX, Dst.slot, setF, setH, mapF, mapH, initF, binE, unE, cnt, boundE, newsE, freshE, opE, rmH, blkQ, frz_us, Nat.reduceEqDiff, Nat.reduceLT, Nat.reduceAdd, ↓reduceIte, reduceCtorEq, Nat.reduceLeDiff, I, cS, cT, nbp_over] | (refine callC_pure (cg) rfl ?_) | (refine callC_pure (c1) rfl ?_) | (refine callC_pure (c2) rfl ?_) | (refine callC_pure (c3) rfl ?_) | exact W_ret (RetP_1 (.imm rfl)) | exact W_ret (RetP_c rfl rfl rfl (.imm rfl)))
      refine W_cond rfl (fun h => by cases h) (fun _ => W_skip ?_)
      repeat (first | (refine W_seq ?_) | (refine W_reg ?_) | (refine W_regd ?_) | (refine W_block ?_) | (refine And.intro (by omega) ?_) | simp (maxSteps := 1000000) (disch := omega) only [cA, cB, lk, lkH, Dst.onT, Dst.onX, Dst.slot, setF, setH, mapF, mapH, initF, binE, unE, cnt, boundE, newsE, freshE, opE, rmH, blkQ, frz_us, Nat.reduceEqDiff, Nat.reduceLT, Nat.reduceAdd, ↓reduceIte, reduceCtorEq, Nat.reduceLeDiff, I, cS, cT, nbp_over])
      exact W_ret (RetP_c rfl rfl rfl (.imm rfl))
end Go.Proofs.YteiagmmfapbaiaaGreatDoor
namespace Go.Proofs.YteiagmmfapbaiaaGreatDoor
open Go Go.Dat Go.Proofs Nat32
open Go.Lib (decDigits)
theorem pFromInt_calls (v : Int) (h1 : -9223372036854775808 ≤ v) (h2 : v ≤ 9223372036854775807) : PCalls Tryz.prog 47 [.int .i64 v] (Q (v : Rat)) := by
  have ci := sFromInt_calls v h1 h2
  rw [Q_int]
  refine PCalls_of ispFromInt (by simp [fnpFromInt]) ?_
  unfold codepFromInt
  repeat (first | (refine W_seq ?_) | (refine W_reg ?_) | (refine W_regd ?_) | (refine W_block ?_) | (refine And.intro (by omega) ?_) | simp (maxSteps := 1000000) (disch := omega) only [cA, cB, lk, lkH, Dst.onT, Dst.onX, Dst.slot, setF, setH, mapF, mapH, initF, binE, unE, cnt, boundE, newsE, freshE, opE, rmH, blkQ, frz_us, Nat.reduceEqDiff, Nat.reduceLT, Nat.reduceAdd, ↓reduceIte, reduceCtorEq, Nat.reduceLeDiff, I, cS, cT, nbpFromInt] | (refine callC_pure (ci) rfl ?_) | exact W_ret (RetP_1 (.imm rfl)) | exact W_ret (RetP_c rfl rfl rfl (.imm rfl)))
  exact W_ret (RetP_c rfl rfl rfl (Exp_bsn _ _ _ _ rfl))
theorem pSign_calls (neg : Bool) (a d : List Nat) (ha : a.length ≤ 900) (hd : d.length ≤ 900) (la : lim a) (ld : lim d) : PCalls Tryz.prog 40 [XQ neg a d] (.int .i64 (rv neg a d).num.sign) := by
  have v1 := pTake_calls neg a d ha hd la ld
  have k1 : RB (rv neg a d) 900 := RB_rv la ld ha hd (by decide)
  generalize rv neg a d = x at *
  have cs := sSignL x.num k1.1
  refine PCalls_of ispSign (by simp [fnpSign]) ?_
  unfold codepSign
  repeat (first | (refine W_seq ?_) | (refine W_reg ?_) | (refine W_regd ?_) | (refine W_block ?_) | (refine And.intro (by omega) ?_) | simp (maxSteps := 1000000) (disch := omega) only [cA, cB, lk, lkH, Dst.onT, Dst.onX, Dst.slot, setF, setH, mapF, mapH, initF, binE, unE, cnt, boundE, newsE, freshE, opE, rmH, blkQ, frz_us, Nat.reduceEqDiff, Nat.reduceLT, Nat.reduceAdd, ↓reduceIte, reduceCtorEq, Nat.reduceLeDiff, XQ, Q, cS, cT, nbpSign] | (refine callC_pure (v1) rfl ?_) | (refine callC_pure (cs) rfl ?_) | exact W_ret (RetP_1 (.imm rfl)) | exact W_ret (RetP_c rfl rfl rfl (.imm rfl)))
theorem pSignL (x : Rat) (h1 : RB x 900) : PCalls Tryz.prog 40 [Q x] (.int .i64 x.num.sign) := by
  have := pSign_calls (decide (x.num < 0)) (limbs x.num.natAbs) (dn x.den) h1.1 (RB_dn h1) (lim_limbs _) (lim_dn _)
  rwa [rv_Q] at this
theorem pNeg_calls (neg : Bool) (a d : List Nat) (ha : a.length ≤ 900) (hd : d.length ≤ 900) (la : lim a) (ld : lim d) : PCalls Tryz.prog 49 [XQ neg a d] (Q (-(rv neg a d))) := by
  have v1 := pTake_calls neg a d ha hd la ld
  have k1 : RB (rv neg a d) 900 := RB_rv la ld ha hd (by decide)
  generalize rv neg a d = x at *
  have cs := sNegL x.num k1.1
  refine PCalls_of ispNeg (by simp [fnpNeg]) ?_
  unfold codepNeg
  repeat (first | (refine W_seq ?_) | (refine W_reg ?_) | (refine W_regd ?_) | (refine W_block ?_) | (refine And.intro (by omega) ?_) | simp (maxSteps := 1000000) (disch := omega) only [cA, cB, lk, lkH, Dst.onT, Dst.onX, Dst.slot, setF, setH, mapF, mapH, initF, binE, unE, cnt, boundE, newsE, freshE, opE, rmH, blkQ, frz_us, Nat.reduceEqDiff, Nat.reduceLT, Nat.reduceAdd, ↓reduceIte, reduceCtorEq, Nat.reduceLeDiff, XQ, Q, I, cS, cT, nbpNeg] | (refine callC_pure (v1) rfl ?_) | (refine callC_pure (cs) rfl ?_) | exact W_ret (RetP_1 (.imm rfl)) | exact W_ret (RetP_c rfl rfl rfl (.imm rfl)))
theorem pNegL (x : Rat) (h1 : RB x 900) : PCalls Tryz.prog 49 [Q x] (Q (-x)) := by
  have := pNeg_calls (decide (x.num < 0)) (limbs x.num.natAbs) (dn x.den) h1.1 (RB_dn h1) (lim_limbs _) (lim_dn _)
  rwa [rv_Q] at this
theorem pAbs_calls (neg : Bool) (a d : List Nat) (ha : a.length ≤ 900) (hd : d.length ≤ 900) (la : lim a) (ld : lim d) : PCalls Tryz.prog 50 [XQ neg a d] (Q (absQ (rv neg a d))) := by
  have cs := pSign_calls neg a d ha hd la ld
  have cn := pNeg_calls neg a d ha hd la ld
  have ct := pTake_calls neg a d ha hd la ld
  generalize rv neg a d = x at *
  have e := sign_neg x.num
  refine PCalls_of ispAbs (by simp [fnpAbs]) ?_
  unfold codepAbs absQ
  by_cases h : x.num < 0
  · rw [if_pos h]
    rw [decide_eq_true h] at e
    repeat (first | (refine W_seq ?_) | (refine W_reg ?_) | (refine W_regd ?_) | (refine W_block ?_) | (refine And.intro (by omega) ?_) | simp (maxSteps := 1000000) (disch := omega) only [cA, cB, lk, lkH, Dst.onT, Dst.onX, Dst.slot, setF, setH, mapF, mapH, initF, binE, unE, cnt, boundE, newsE, freshE, opE, rmH, blkQ, frz_us, Nat.reduceEqDiff, Nat.reduceLT, Nat.reduceAdd, ↓reduceIte, reduceCtorEq, Nat.reduceLeDiff, XQ, Q, cS, cT, nbpAbs, e] | (refine callC_pure (cs) rfl ?_) | exact W_ret (RetP_1 (.imm rfl)) | exact W_ret (RetP_c rfl rfl rfl (.imm rfl)))
    refine W_cond rfl (fun _ => ?_) (fun h => by cases h)
    repeat (first | (refine W_seq ?_) | (refine W_reg ?_) | (refine W_regd ?_) | (refine W_block ?_) | (refine And.intro (by omega) ?_) | simp (maxSteps := 1000000) (disch := omega) only [cA, cB, lk, lkH, Dst.onT, Dst.onX, Dst.slot, setF, setH, mapF, mapH, initF, binE, unE, cnt, boundE, newsE, freshE, opE, rmH, blkQ, frz_us, Nat.reduceEqDiff, Nat.reduceLT, Nat.reduceAdd, ↓reduceIte, reduceCtorEq, Nat.reduceLeDiff, XQ, Q, cS, cT, nbpAbs] | (refine callC_pure (cn) rfl ?_) | exact W_ret (RetP_1 (.imm rfl)) | exact W_ret (RetP_c rfl rfl rfl (.imm rfl)))
  · rw [if_neg h]
    rw [decide_eq_false h] at e
    repeat (first | (refine W_seq ?_) | (refine W_reg ?_) | (refine W_regd ?_) | (refine W_block ?_) | (refine And.intro (by omega) ?_) | simp (maxSteps := 1000000) (disch := omega) only [cA, cB, lk, lkH, Dst.onT, Dst.onX, Dst.slot, setF, setH, mapF, mapH, initF, binE, unE, cnt, boundE, newsE, freshE, opE, rmH, blkQ, frz_us, Nat.reduceEqDiff, Nat.reduceLT, Nat.reduceAdd, ↓reduceIte, reduceCtorEq, Nat.reduceLeDiff, XQ, Q, cS, cT, nbpAbs, e] | (refine callC_pure (cs) rfl ?_) | exact W_ret (RetP_1 (.imm rfl)) | exact W_ret (RetP_c rfl rfl rfl (.imm rfl)))
    refine W_cond rfl (fun h => by cases h) (fun _ => W_skip ?_)
    repeat (first | (refine W_seq ?_) | (refine W_reg ?_) | (refine W_regd ?_) | (refine W_block ?_) | (refine And.intro (by omega) ?_) | simp (maxSteps := 1000000) (disch := omega) only [cA, cB, lk, lkH, Dst.onT, Dst.onX, Dst.slot, setF, setH, mapF, mapH, initF, binE, unE, cnt, boundE, newsE, freshE, opE, rmH, blkQ, frz_us, Nat.reduceEqDiff, Nat.reduceLT, Nat.reduceAdd, ↓reduceIte, reduceCtorEq, Nat.reduceLeDiff, XQ, Q, cS, cT, nbpAbs] | (refine callC_pure (ct) rfl ?_) | exact W_ret (RetP_1 (.imm rfl)) | exact W_ret (RetP_c rfl rfl rfl (.imm rfl)))
theorem pAbsL (x : Rat) (h1 : RB x 900) : PCalls Tryz.prog 50 [Q x] (Q (absQ x)) := by
  have := pAbs_calls (decide (x.num < 0)) (limbs x.num.natAbs) (dn x.den) h1.1 (RB_dn h1) (lim_limbs _) (lim_dn _)
  rwa [rv_Q] at this
theorem den_mul_ne (x y : Rat) : ((x.den : Int) * (y.den : Int)) ≠ 0 := Int.mul_ne_zero (by have := x.den_nz; omega) (by have := y.den_nz; omega)
theorem add_divInt (x y : Rat) : Rat.divInt (x.num * y.den + y.num * x.den) ((x.den : Int) * (y.den : Int)) = x + y := by
  rw [Rat.add_def', ← Int.natCast_mul, Rat.divInt_ofNat]
theorem mul_divInt (x y : Rat) : Rat.divInt (x.num * y.num) ((x.den : Int) * (y.den : Int)) = x * y := by
  rw [Rat.mul_def', ← Int.natCast_mul, Rat.divInt_ofNat]
set_option maxHeartbeats 1000000 in
theorem pAdd_calls (n1 : Bool) (a d : List Nat) (n2 : Bool) (b e : List Nat) (ha : a.length ≤ 300) (hd : d.length ≤ 300) (hb : b.length ≤ 300) (he : e.length ≤ 300) (la : lim a) (ld : lim d) (lb : lim b) (le : lim e) :
    PCalls Tryz.prog 34 [XQ n1 a d, XQ n2 b e] (Q (rv n1 a d + rv n2 b e)) := by
  have v1 := pTake_calls n1 a d (by omega) (by omega) la ld
  have v2 := pTake_calls n2 b e (by omega) (by omega) lb le
  have k1 : RB (rv n1 a d) 300 := RB_rv la ld ha hd (by decide)
  have k2 : RB (rv n2 b e) 300 := RB_rv lb le hb he (by decide)
  generalize rv n1 a d = x at *
  generalize rv n2 b e = y at *
  rw [← add_divInt]
  have t1 := sMulL x.num y.den (Nat.le_trans k1.1 (by decide)) (il_nat (Nat.le_trans k2.2 (by decide)))
  have t2 := sMulL y.num x.den (Nat.le_trans k2.1 (by decide)) (il_nat (Nat.le_trans k1.2 (by decide)))
  have t3 := sMulL x.den y.den (il_nat (Nat.le_trans k1.2 (by decide))) (il_nat (Nat.le_trans k2.2 (by decide)))
  have b1 := il_mul k1.1 (il_nat k2.2)
  have b2 := il_mul k2.1 (il_nat k1.2)
  have b4 := il_mul (il_nat k1.2) (il_nat k2.2)
  have b3 := il_add b1 b2
  have ca := sAddL (x.num * y.den) (y.num * x.den) (Nat.le_trans b1 (by decide)) (Nat.le_trans b2 (by decide))
  have cl := p_over_calls (x.num * y.den + y.num * x.den) ((x.den : Int) * (y.den : Int)) (den_mul_ne x y) (Nat.le_trans b3 (by decide)) (Nat.le_trans b4 (by decide))
  have c1 := pDen_calls x (k1.mono (by decide))
  have c2 := pDen_calls y (k2.mono (by decide))
  clear k1 k2 b1 b2 b3 b4
  refine PCalls_of ispAdd (by simp [fnpAdd]) ?_
  unfold codepAdd
  repeat (first | (refine W_seq ?_) | (refine W_reg ?_) | (refine W_regd ?_) | (refine W_block ?_) | (refine And.intro (by omega) ?_) | simp (maxSteps := 1000000) (disch := omega) only [cA, cB, lk, lkH, Dst.onT, Dst.onX, Dst.slot, setF, setH, mapF, mapH, initF, binE, unE, cnt, boundE, newsE, freshE, opE, rmH, blkQ, frz_us, Nat.reduceEqDiff, Nat.reduceLT, Nat.reduceAdd, ↓reduceIte, reduceCtorEq, Nat.reduceLeDiff, XQ, Q, I, cS, cT, nbpAdd] | (refine callC_pure (v1) rfl ?_) | (refine callC_pure (v2) rfl ?_) | (refine callC_pure (c1) rfl ?_) | (refine callC_pure (c2) rfl ?_) | (refine callC_pure (t1) rfl ?_) | (refine callC_pure (t2) rfl ?_) | (refine callC_pure (t3) rfl ?_) | (refine callC_pure (ca) rfl ?_) | (refine callC_pure (cl) rfl ?_) | exact W_ret (RetP_1 (.imm rfl)) | exact W_ret (RetP_c rfl rfl rfl (.imm rfl)))
theorem pAddL (x y : Rat) (h1 : RB x 300) (h2 : RB y 300) : PCalls Tryz.prog 34 [Q x, Q y] (Q (x + y)) := by
  have := pAdd_calls (decide (x.num < 0)) (limbs x.num.natAbs) (dn x.den) (decide (y.num < 0)) (limbs y.num.natAbs) (dn y.den) h1.1 (RB_dn h1) h2.1 (RB_dn h2) (lim_limbs _) (lim_dn _) (lim_limbs _) (lim_dn _)
  rwa [rv_Q, rv_Q] at this
theorem pSub_calls (n1 : Bool) (a d : List Nat) (n2 : Bool) (b e : List Nat) (ha : a.length ≤ 300) (hd : d.length ≤ 300) (hb : b.length ≤ 300) (he : e.length ≤ 300) (la : lim a) (ld : lim d) (lb : lim b) (le : lim e) :
    PCalls Tryz.prog 36 [XQ n1 a d, XQ n2 b e] (Q (rv n1 a d - rv n2 b e)) := by
  have cn := pNeg_calls n2 b e (by omega) (by omega) lb le
  have k2 : RB (rv n2 b e) 300 := RB_rv lb le hb he (by decide)
  generalize rv n2 b e = y at *
  have k3 := RB_neg k2
  have ca := pAdd_calls n1 a d (decide ((-y).num < 0)) (limbs (-y).num.natAbs) (dn (-y).den) ha hd k3.1 (RB_dn k3) la ld (lim_limbs _) (lim_dn _)
  rw [rv_Q, ← Rat.sub_eq_add_neg] at ca
  refine PCalls_of ispSub (by simp [fnpSub]) ?_
  unfold codepSub
  repeat (first | (refine W_seq ?_) | (refine W_reg ?_) | (refine W_regd ?_) | (refine W_block ?_) | (refine And.intro (by omega) ?_) | simp (maxSteps := 1000000) (disch := omega) only [cA, cB, lk, lkH, Dst.onT, Dst.onX, Dst.slot, setF, setH, mapF, mapH, initF, binE, unE, cnt, boundE, newsE, freshE, opE, rmH, blkQ, frz_us, Nat.reduceEqDiff, Nat.reduceLT, Nat.reduceAdd, ↓reduceIte, reduceCtorEq, Nat.reduceLeDiff, XQ, Q, cS, cT, nbpSub] | (refine callC_pure (cn) rfl ?_) | (refine callC_pure (ca) rfl ?_) | exact W_ret (RetP_1 (.imm rfl)) | exact W_ret (RetP_c rfl rfl rfl (.imm rfl)))
theorem pSubL (x y : Rat) (h1 : RB x 300) (h2 : RB y 300) : PCalls Tryz.prog 36 [Q x, Q y] (Q (x - y)) := by
  have := pSub_calls (decide (x.num < 0)) (limbs x.num.natAbs) (dn x.den) (decide (y.num < 0)) (limbs y.num.natAbs) (dn y.den) h1.1 (RB_dn h1) h2.1 (RB_dn h2) (lim_limbs _) (lim_dn _) (lim_limbs _) (lim_dn _)
  rwa [rv_Q, rv_Q] at this
theorem pCompare_calls (n1 : Bool) (a d : List Nat) (n2 : Bool) (b e : List Nat) (ha : a.length ≤ 300) (hd : d.length ≤ 300) (hb : b.length ≤ 300) (he : e.length ≤ 300) (la : lim a) (ld : lim d) (lb : lim b) (le : lim e) :
    PCalls Tryz.prog 51 [XQ n1 a d, XQ n2 b e] (.int .i64 (cmpQ (rv n1 a d) (rv n2 b e))) := by
  have cn := pSub_calls n1 a d n2 b e ha hd hb he la ld lb le
  have k1 : RB (rv n1 a d) 300 := RB_rv la ld ha hd (by decide)
  have k2 : RB (rv n2 b e) 300 := RB_rv lb le hb he (by decide)
  have cs := pSignL (rv n1 a d - rv n2 b e) ((RB_sub k1 k2).mono (by decide))
  rw [sign_sub] at cs
  generalize rv n1 a d - rv n2 b e = z at *
  generalize cmpQ (rv n1 a d) (rv n2 b e) = c at *
  refine PCalls_of ispCompare (by simp [fnpCompare]) ?_
  unfold codepCompare
  repeat (first | (refine W_seq ?_) | (refine W_reg ?_) | (refine W_regd ?_) | (refine W_block ?_) | (refine And.intro (by omega) ?_) | simp (maxSteps := 1000000) (disch := omega) only [cA, cB, lk, lkH, Dst.onT, Dst.onX, Dst.slot, setF, setH, mapF, mapH, initF, binE, unE, cnt, boundE, newsE, freshE, opE, rmH, blkQ, frz_us, Nat.reduceEqDiff, Nat.reduceLT, Nat.reduceAdd, ↓reduceIte, reduceCtorEq, Nat.reduceLeDiff, XQ, Q, cS, cT, nbpCompare] | (refine callC_pure (cn) rfl ?_) | (refine callC_pure (cs) rfl ?_) | exact W_ret (RetP_1 (.imm rfl)) | exact W_ret (RetP_c rfl rfl rfl (.imm rfl)))
theorem pCompareL (x y : Rat) (h1 : RB x 300) (h2 : RB y 300) : PCalls Tryz.prog 51 [Q x, Q y] (.int .i64 (cmpQ x y)) := by
  have := pCompare_calls (decide (x.num < 0)) (limbs x.num.natAbs) (dn x.den) (decide (y.num < 0)) (limbs y.num.natAbs) (dn y.den) h1.1 (RB_dn h1) h2.1 (RB_dn h2) (lim_limbs _) (lim_dn _) (lim_limbs _) (lim_dn _)
  rwa [rv_Q, rv_Q] at this
set_option maxHeartbeats 1000000 in
theorem pMul_calls (n1 : Bool) (a d : List Nat) (n2 : Bool) (b e : List Nat) (ha : a.length ≤ 300) (hd : d.length ≤ 300) (hb : b.length ≤ 300) (he : e.length ≤ 300) (la : lim a) (ld : lim d) (lb : lim b) (le : lim e) :
    PCalls Tryz.prog 38 [XQ n1 a d, XQ n2 b e] (Q (rv n1 a d * rv n2 b e)) := by
  have v1 := pTake_calls n1 a d (by omega) (by omega) la ld
  have v2 := pTake_calls n2 b e (by omega) (by omega) lb le
  have k1 : RB (rv n1 a d) 300 := RB_rv la ld ha hd (by decide)
  have k2 : RB (rv n2 b e) 300 := RB_rv lb le hb he (by decide)
  generalize rv n1 a d = x at *
  generalize rv n2 b e = y at *
  rw [← mul_divInt]
  have t1 := sMulL x.num y.num (Nat.le_trans k1.1 (by decide)) (Nat.le_trans k2.1 (by decide))
  have t3 := sMulL x.den y.den (il_nat (Nat.le_trans k1.2 (by decide))) (il_nat (Nat.le_trans k2.2 (by decide)))
  have b1 := il_mul k1.1 k2.1
  have b4 := il_mul (il_nat k1.2) (il_nat k2.2)
  have cl := p_over_calls (x.num * y.num) ((x.den : Int) * (y.den : Int)) (den_mul_ne x y) (Nat.le_trans b1 (by decide)) (Nat.le_trans b4 (by decide))
  have c1 := pDen_calls x (k1.mono (by decide))
  have c2 := pDen_calls y (k2.mono (by decide))
  clear k1 k2 b1 b4
  refine PCalls_of ispMul (by simp [fnpMul]) ?_
  unfold codepMul
  repeat (first | (refine W_seq ?_) | (refine W_reg ?_) | (refine W_regd ?_) | (refine W_block ?_) | (refine And.intro (by omega) ?_) | simp (maxSteps := 1000000) (disch := omega) only [cA, cB, lk, lkH, Dst.onT, Dst.onX, Dst.slot, setF, setH, mapF, mapH, initF, binE, unE, cnt, boundE, newsE, freshE, opE, rmH, blkQ, frz_us, Nat.reduceEqDiff, Nat.reduceLT, Nat.reduceAdd, ↓reduceIte, reduceCtorEq, Nat.reduceLeDiff, XQ, Q, I, cS, cT, nbpMul] | (refine callC_pure (v1) rfl ?_) | (refine callC_pure (v2) rfl ?_) | (refine callC_pure (c1) rfl ?_) | (refine callC_pure (c2) rfl ?_) | (refine callC_pure (t1) rfl ?_) | (refine callC_pure (t3) rfl ?_) | (refine callC_pure (cl) rfl ?_) | exact W_ret (RetP_1 (.imm rfl)) | exact W_ret (RetP_c rfl rfl rfl (.imm rfl)))
theorem pMulL (x y : Rat) (h1 : RB x 300) (h2 : RB y 300) : PCalls Tryz.prog 38 [Q x, Q y] (Q (x * y)) := by
  have := pMul_calls (decide (x.num < 0)) (limbs x.num.natAbs) (dn x.den) (decide (y.num < 0)) (limbs y.num.natAbs) (dn y.den) h1.1 (RB_dn h1) h2.1 (RB_dn h2) (lim_limbs _) (lim_dn _) (lim_limbs _) (lim_dn _)
  rwa [rv_Q, rv_Q] at this
theorem num_ne {y : Rat} (h : y ≠ 0) : y.num ≠ 0 := fun e => h (Rat.num_eq_zero.1 e)
set_option maxHeartbeats 1000000 in
theorem pQuo_calls (n1 : Bool) (a d : List Nat) (n2 : Bool) (b e : List Nat) (hy : rv n2 b e ≠ 0) (ha : a.length ≤ 300) (hd : d.length ≤ 300) (hb : b.length ≤ 300) (he : e.length ≤ 300) (la : lim a) (ld : lim d) (lb : lim b) (le : lim e) :
    PCalls Tryz.prog 94 [XQ n1 a d, XQ n2 b e] (Q (rv n1 a d / rv n2 b e)) := by
  have v1 := pTake_calls n1 a d (by omega) (by omega) la ld
  have v2 := pTake_calls n2 b e (by omega) (by omega) lb le
  have k1 : RB (rv n1 a d) 300 := RB_rv la ld ha hd (by decide)
  have k2 : RB (rv n2 b e) 300 := RB_rv lb le hb he (by decide)
  generalize rv n1 a d = x at *
  generalize rv n2 b e = y at *
  rw [← rat_quo]
  have t1 := sMulL x.num y.den (Nat.le_trans k1.1 (by decide)) (il_nat (Nat.le_trans k2.2 (by decide)))
  have t3 := sMulL x.den y.num (il_nat (Nat.le_trans k1.2 (by decide))) (Nat.le_trans k2.1 (by decide))
  have b1 := il_mul k1.1 (il_nat k2.2)
  have b4 := il_mul (il_nat k1.2) k2.1
  have cl := p_over_calls (x.num * y.den) ((x.den : Int) * y.num) (Int.mul_ne_zero (by have := x.den_nz; omega) (num_ne hy)) (Nat.le_trans b1 (by decide)) (Nat.le_trans b4 (by decide))
  have c1 := pDen_calls x (k1.mono (by decide))
  have c2 := pDen_calls y (k2.mono (by decide))
  clear k1 k2 b1 b4
  refine PCalls_of ispQuo (by simp [fnpQuo]) ?_
  unfold codepQuo
  repeat (first | (refine W_seq ?_) | (refine W_reg ?_) | (refine W_regd ?_) | (refine W_block ?_) | (refine And.intro (by omega) ?_) | simp (maxSteps := 1000000) (disch := omega) only [cA, cB, lk, lkH, Dst.onT, Dst.onX, Dst.slot, setF, setH, mapF, mapH, initF, binE, unE, cnt, boundE, newsE, freshE, opE, rmH, blkQ, frz_us, Nat.reduceEqDiff, Nat.reduceLT, Nat.reduceAdd, ↓reduceIte, reduceCtorEq, Nat.reduceLeDiff, XQ, Q, I, cS, cT, nbpQuo] | (refine callC_pure (v1) rfl ?_) | (refine callC_pure (v2) rfl ?_) | (refine callC_pure (c1) rfl ?_) | (refine callC_pure (c2) rfl ?_) | (refine callC_pure (t1) rfl ?_) | (refine callC_pure (t3) rfl ?_) | (refine callC_pure (cl) rfl ?_) | exact W_ret (RetP_1 (.imm rfl)) | exact W_ret (RetP_c rfl rfl rfl (.imm rfl)))
theorem pQuoL (x y : Rat) (hy : y ≠ 0) (h1 : RB x 300) (h2 : RB y 300) : PCalls Tryz.prog 94 [Q x, Q y] (Q (x / y)) := by
  have := pQuo_calls (decide (x.num < 0)) (limbs x.num.natAbs) (dn x.den) (decide (y.num < 0)) (limbs y.num.natAbs) (dn y.den) (by rw [rv_Q]; exact hy) h1.1 (RB_dn h1) h2.1 (RB_dn h2) (lim_limbs _) (lim_dn _) (lim_limbs _) (lim_dn _)
  rwa [rv_Q, rv_Q] at this
def divR (x y : Rat) : DV := if y = 0 then .tup [Q 0, .int .i64 5] else .tup [Q (x / y), .int .i64 0]
theorem sign0 (y : Rat) : decide (y.num.sign = 0) = decide (y = 0) := by
  rw [decide_eq_decide]
  exact ⟨fun h => Rat.num_eq_zero.1 (Int.sign_eq_zero_iff_zero.1 h), fun h => by rw [h]; rfl⟩
theorem pDiv_calls (n1 : Bool) (a d : List Nat) (n2 : Bool) (b e : List Nat) (ha : a.length ≤ 300) (hd : d.length ≤ 300) (hb : b.length ≤ 300) (he : e.length ≤ 300) (la : lim a) (ld : lim d) (lb : lim b) (le : lim e) :
    PCalls Tryz.prog 32 [XQ n1 a d, XQ n2 b e] (divR (rv n1 a d) (rv n2 b e)) := by
  have cs := pSign_calls n2 b e (by omega) (by omega) lb le
  have cq := fun h => pQuo_calls n1 a d n2 b e h ha hd hb he la ld lb le
  generalize rv n1 a d = x at *
  generalize rv n2 b e = y at *
  have e1 := sign0 y
  refine PCalls_of ispDiv (by simp [fnpDiv]) ?_
  unfold codepDiv divR
  by_cases hy : y = 0
  · rw [if_pos hy, Q0]
    rw [decide_eq_true hy] at e1
    repeat (first | (refine W_seq ?_) | (refine W_reg ?_) | (refine W_regd ?_) | (refine W_block ?_) | (refine And.intro (by omega) ?_) | simp (maxSteps := 1000000) (disch := omega) only [cA, cB, lk, lkH, Dst.onT, Dst.onX, Dst.slot, setF, setH, mapF, mapH, initF, binE, unE, cnt, boundE, newsE, freshE, opE, rmH, blkQ, frz_us, Nat.reduceEqDiff, Nat.reduceLT, Nat.reduceAdd, ↓reduceIte, reduceCtorEq, Nat.reduceLeDiff, XQ, cS, cT, nbpDiv, e1] | (refine callC_pure (cs) rfl ?_) | exact W_ret (RetP_1 (.imm rfl)) | exact W_ret (RetP_c rfl rfl rfl (.imm rfl)))
    refine W_cond rfl (fun _ => ?_) (fun h => by cases h)
    repeat (first | (refine W_seq ?_) | (refine W_reg ?_) | (refine W_regd ?_) | (refine W_block ?_) | (refine And.intro (by omega) ?_) | simp (maxSteps := 1000000) (disch := omega) only [cA, cB, lk, lkH, Dst.onT, Dst.onX, Dst.slot, setF, setH, mapF, mapH, initF, binE, unE, cnt, boundE, newsE, freshE, opE, rmH, blkQ, frz_us, Nat.reduceEqDiff, Nat.reduceLT, Nat.reduceAdd, ↓reduceIte, reduceCtorEq, Nat.reduceLeDiff, cS, cT, nbpDiv])
    exact W_ret (RetP_ct rfl rfl rfl (Exp_bnn _ _ _) (.imm rfl))
  · rw [if_neg hy]
    rw [decide_eq_false hy] at e1
    have cq := cq hy
    repeat (first | (refine W_seq ?_) | (refine W_reg ?_) | (refine W_regd ?_) | (refine W_block ?_) | (refine And.intro (by omega) ?_) | simp (maxSteps := 1000000) (disch := omega) only [cA, cB, lk, lkH, Dst.onT, Dst.onX, Dst.slot, setF, setH, mapF, mapH, initF, binE, unE, cnt, boundE, newsE, freshE, opE, rmH, blkQ, frz_us, Nat.reduceEqDiff, Nat.reduceLT, Nat.reduceAdd, ↓reduceIte, reduceCtorEq, Nat.reduceLeDiff, XQ, cS, cT, nbpDiv, e1] | (refine callC_pure (cs) rfl ?_) | exact W_ret (RetP_1 (.imm rfl)) | exact W_ret (RetP_c rfl rfl rfl (.imm rfl)))
    refine W_cond rfl (fun h => by cases h) (fun _ => W_skip ?_)
    repeat (first | (refine W_seq ?_) | (refine W_reg ?_) | (refine W_regd ?_) | (refine W_block ?_) | (refine And.intro (by omega) ?_) | simp (maxSteps := 1000000) (disch := omega) only [cA, cB, lk, lkH, Dst.onT, Dst.onX, Dst.slot, setF, setH, mapF, mapH, initF, binE, unE, cnt, boundE, newsE, freshE, opE, rmH, blkQ, frz_us, Nat.reduceEqDiff, Nat.reduceLT, Nat.reduceAdd, ↓reduceIte, reduceCtorEq, Nat.reduceLeDiff, XQ, Q, cS, cT, nbpDiv] | (refine callC_pure (cq) rfl ?_) | exact W_ret (RetP_1 (.imm rfl)) | exact W_ret (RetP_c rfl rfl rfl (.imm rfl)))
    exact W_ret (RetP_ct rfl rfl rfl (.imm rfl) (.imm rfl))
theorem mkR_div (x y : Rat) : mkR (x.num * y.den) (y.num * x.den) = divR x y := by
  unfold mkR divR
  by_cases hy : y = 0
  · rw [if_pos hy, if_pos (by rw [hy]; simp)]
  · rw [if_neg hy, if_neg (Int.mul_ne_zero (num_ne hy) (by have := x.den_nz; omega)), Int.mul_comm y.num, rat_quo]
theorem qDiv_calls (n1 : Bool) (a d : List Nat) (n2 : Bool) (b e : List Nat) (ha : a.length ≤ 400) (hd : d.length ≤ 400) (hb : b.length ≤ 400) (he : e.length ≤ 400) (la : lim a) (ld : lim d) (lb : lim b) (le : lim e) :
    PCalls Tryz.prog 31 [XQ n1 a d, XQ n2 b e] (divR (rv n1 a d) (rv n2 b e)) := by
  have v1 := q_value_calls n1 a d (by omega) (by omega) la ld
  have v2 := q_value_calls n2 b e (by omega) (by omega) lb le
  have k1 : RB (rv n1 a d) 400 := RB_rv la ld ha hd (by decide)
  have k2 : RB (rv n2 b e) 400 := RB_rv lb le hb he (by decide)
  generalize rv n1 a d = x at *
  generalize rv n2 b e = y at *
  have t1 := q_times_calls x.num y.den (Nat.le_trans k1.1 (by decide)) (Nat.le_trans k2.2 (by decide))
  have t2 := q_times_calls y.num x.den (Nat.le_trans k2.1 (by decide)) (Nat.le_trans k1.2 (by decide))
  have b1 := il_mul k1.1 (il_nat k2.2)
  have b2 := il_mul k2.1 (il_nat k1.2)
  have cm := qMake_calls (decide (x.num * y.den < 0)) (limbs (x.num * y.den).natAbs) (decide (y.num * x.den < 0)) (limbs (y.num * x.den).natAbs) (Nat.le_trans b1 (by decide)) (Nat.le_trans b2 (by decide)) (lim_limbs _) (lim_limbs _)
  rw [iv_I, iv_I, mkR_div] at cm
  have c1 := q_den_calls x
  have c2 := q_den_calls y
  clear k1 k2 b1 b2
  refine PCalls_of isqDiv (by simp [fnqDiv]) ?_
  unfold codeqDiv
  unfold divR at cm ⊢
  by_cases hy : y = 0
  · rw [if_pos hy] at cm ⊢
    repeat (first | (refine W_seq ?_) | (refine W_reg ?_) | (refine W_regd ?_) | (refine W_block ?_) | (refine And.intro (by omega) ?_) | simp (maxSteps := 1000000) (disch := omega) only [cA, cB, lk, lkH, Dst.onT, Dst.onX, Dst.slot, setF, setH, mapF, mapH, initF, binE, unE, cnt, boundE, newsE, freshE, opE, rmH, blkQ, frz_us, Nat.reduceEqDiff, Nat.reduceLT, Nat.reduceAdd, ↓reduceIte, reduceCtorEq, Nat.reduceLeDiff, XQ, X, Q, I, cS, cT, nbqDiv] | (refine callC_pure (v1) rfl ?_) | (refine callC_pure (v2) rfl ?_) | (refine callC_pure (c1) rfl ?_) | (refine callC_pure (c2) rfl ?_) | (refine callC_pure (t1) rfl ?_) | (refine callC_pure (t2) rfl ?_) | (refine callC_pure (cm) rfl ?_) | exact W_ret (RetP_1 (.imm rfl)) | exact W_ret (RetP_c rfl rfl rfl (.imm rfl)))
    exact W_ret (RetP_ct rfl rfl rfl (.imm rfl) (.imm rfl))
  · rw [if_neg hy] at cm ⊢
    repeat (first | (refine W_seq ?_) | (refine W_reg ?_) | (refine W_regd ?_) | (refine W_block ?_) | (refine And.intro (by omega) ?_) | simp (maxSteps := 1000000) (disch := omega) only [cA, cB, lk, lkH, Dst.onT, Dst.onX, Dst.slot, setF, setH, mapF, mapH, initF, binE, unE, cnt, boundE, newsE, freshE, opE, rmH, blkQ, frz_us, Nat.reduceEqDiff, Nat.reduceLT, Nat.reduceAdd, ↓reduceIte, reduceCtorEq, Nat.reduceLeDiff, XQ, X, Q, I, cS, cT, nbqDiv] | (refine callC_pure (v1) rfl ?_) | (refine callC_pure (v2) rfl ?_) | (refine callC_pure (c1) rfl ?_) | (refine callC_pure (c2) rfl ?_) | (refine callC_pure (t1) rfl ?_) | (refine callC_pure (t2) rfl ?_) | (refine callC_pure (cm) rfl ?_) | exact W_ret (RetP_1 (.imm rfl)) | exact W_ret (RetP_c rfl rfl rfl (.imm rfl)))
    exact W_ret (RetP_ct rfl rfl rfl (.imm rfl) (.imm rfl))
theorem pMake_calls (n1 : Bool) (a : List Nat) (n2 : Bool) (b : List Nat) (ha : a.length ≤ 900) (hb : b.length ≤ 900) (la : lim a) (lb : lim b) : PCalls Tryz.prog 15 [X n1 a, X n2 b] (mkR (iv n1 a) (iv n2 b)) := by
  have cs := sSign_calls n2 b (by omega) lb
  have c1 := sTake_calls n1 a (by omega) la
  have c2 := sTake_calls n2 b (by omega) lb
  have l1 := iv_len la n1
  have l2 := iv_len lb n2
  have cl := fun h => p_over_calls (iv n1 a) (iv n2 b) h (Nat.le_trans l1 ha) (Nat.le_trans l2 hb)
  generalize iv n1 a = x at *
  generalize iv n2 b = y at *
  refine PCalls_of ispMake (by simp [fnpMake]) ?_
  unfold codepMake mkR
  by_cases hy : y = 0
  · rw [if_pos hy, Q0]
    have e2 : decide (y.sign = 0) = true := by rw [hy]; rfl
    repeat (first | (refine W_seq ?_) | (refine W_reg ?_) | (refine W_regd ?_) | (refine W_block ?_) | (refine And.intro (by omega) ?_) | simp (maxSteps := 1000000) (disch := omega) only [cA, cB, lk, lkH, Dst.onT, Dst.onX, Dst.slot, setF, setH, mapF, mapH, initF, binE, unE, cnt, boundE, newsE, freshE, opE, rmH, blkQ, frz_us, Nat.reduceEqDiff, Nat.reduceLT, Nat.reduceAdd, ↓reduceIte, reduceCtorEq, Nat.reduceLeDiff, X, cS, cT, nbpMake, e2] | (refine callC_pure (cs) rfl ?_) | exact W_ret (RetP_1 (.imm rfl)) | exact W_ret (RetP_c rfl rfl rfl (.imm rfl)))
    refine W_cond rfl (fun _ => ?_) (fun h => by cases h)
    repeat (first | (refine W_seq ?_) | (refine W_reg ?_) | (refine W_regd ?_) | (refine W_block ?_) | (refine And.intro (by omega) ?_) | simp (maxSteps := 1000000) (disch := omega) only [cA, cB, lk, lkH, Dst.onT, Dst.onX, Dst.slot, setF, setH, mapF, mapH, initF, binE, unE, cnt, boundE, newsE, freshE, opE, rmH, blkQ, frz_us, Nat.reduceEqDiff, Nat.reduceLT, Nat.reduceAdd, ↓reduceIte, reduceCtorEq, Nat.reduceLeDiff, cS, cT, nbpMake])
    exact W_ret (RetP_ct rfl rfl rfl (Exp_bnn _ _ _) (.imm rfl))
  · rw [if_neg hy]
    have e2 : decide (y.sign = 0) = false := decide_eq_false (fun h => hy (Int.sign_eq_zero_iff_zero.1 h))
    have cl := cl hy
    repeat (first | (refine W_seq ?_) | (refine W_reg ?_) | (refine W_regd ?_) | (refine W_block ?_) | (refine And.intro (by omega) ?_) | simp (maxSteps := 1000000) (disch := omega) only [cA, cB, lk, lkH, Dst.onT, Dst.onX, Dst.slot, setF, setH, mapF, mapH, initF, binE, unE, cnt, boundE, newsE, freshE, opE, rmH, blkQ, frz_us, Nat.reduceEqDiff, Nat.reduceLT, Nat.reduceAdd, ↓reduceIte, reduceCtorEq, Nat.reduceLeDiff, X, cS, cT, nbpMake, e2] | (refine callC_pure (cs) rfl ?_) | exact W_ret (RetP_1 (.imm rfl)) | exact W_ret (RetP_c rfl rfl rfl (.imm rfl)))
    refine W_cond rfl (fun h => by cases h) (fun _ => W_skip ?_)
    repeat (first | (refine W_seq ?_) | (refine W_reg ?_) | (refine W_regd ?_) | (refine W_block ?_) | (refine And.intro (by omega) ?_) | simp (maxSteps := 1000000) (disch := omega) only [cA, cB, lk, lkH, Dst.onT, Dst.onX, Dst.slot, setF, setH, mapF, mapH, initF, binE, unE, cnt, boundE, newsE, freshE, opE, rmH, blkQ, frz_us, Nat.reduceEqDiff, Nat.reduceLT, Nat.reduceAdd, ↓reduceIte, reduceCtorEq, Nat.reduceLeDiff, X, I, Q, cS, cT, nbpMake] | (refine callC_pure (c1) rfl ?_) | (refine callC_pure (c2) rfl ?_) | (refine callC_pure (cl) rfl ?_) | exact W_ret (RetP_1 (.imm rfl)) | exact W_ret (RetP_c rfl rfl rfl (.imm rfl)))
    exact W_ret (RetP_ct rfl rfl rfl (.imm rfl) (.imm rfl))
theorem pFloor_calls (neg : Bool) (a d : List Nat) (ha : a.length ≤ 900) (hd : d.length ≤ 900) (la : lim a) (ld : lim d) : PCalls Tryz.prog 53 [XQ neg a d] (I (rv neg a d).floor) := by
  have v1 := pTake_calls neg a d ha hd la ld
  have k1 : RB (rv neg a d) 900 := RB_rv la ld ha hd (by decide)
  generalize rv neg a d = x at *
  have c1 := pDen_calls x (k1.mono (by decide))
  have cd := sDivL x.num (x.den : Int) k1.1 (il_nat k1.2)
  rw [← Rat.floor_def] at cd
  refine PCalls_of ispFloor (by simp [fnpFloor]) ?_
  unfold codepFloor
  repeat (first | (refine W_seq ?_) | (refine W_reg ?_) | (refine W_regd ?_) | (refine W_block ?_) | (refine And.intro (by omega) ?_) | simp (maxSteps := 1000000) (disch := omega) only [cA, cB, lk, lkH, Dst.onT, Dst.onX, Dst.slot, setF, setH, mapF, mapH, initF, binE, unE, cnt, boundE, newsE, freshE, opE, rmH, blkQ, frz_us, Nat.reduceEqDiff, Nat.reduceLT, Nat.reduceAdd, ↓reduceIte, reduceCtorEq, Nat.reduceLeDiff, XQ, Q, X, I, cS, cT, nbpFloor] | (refine callC_pure (v1) rfl ?_) | (refine callC_pure (c1) rfl ?_) | (refine callC_pure (cd) rfl ?_) | exact W_ret (RetP_1 (.imm rfl)) | exact W_ret (RetP_c rfl rfl rfl (.imm rfl)))
theorem pFloorL (x : Rat) (h1 : RB x 900) : PCalls Tryz.prog 53 [Q x] (I x.floor) := by
  have := pFloor_calls (decide (x.num < 0)) (limbs x.num.natAbs) (dn x.den) h1.1 (RB_dn h1) (lim_limbs _) (lim_dn _)
  rwa [rv_Q] at this
theorem limbs_inj {x y : Nat} (h : limbs x = limbs y) : x = y := by
  have := congrArg vn h; rwa [vn_limbs, vn_limbs] at this
theorem sSameG (x y : Int) (h1 : il x ≤ 900) (h2 : il y ≤ 900) : PCalls Tryz.prog 27 [I x, I y] (.bool (decide (x = y))) := by
  have ss := rSame_calls (limbs x.natAbs) (limbs y.natAbs) (Nat.le_trans h1 (by decide)) (Nat.le_trans h2 (by decide))
  refine PCalls_of issSame (by simp [fnsSame]) ?_
  unfold codesSame
  by_cases hb : decide (x < 0) = decide (y < 0)
  · have e : decide (limbs x.natAbs = limbs y.natAbs) = decide (x = y) := by
      rw [decide_eq_decide] at hb ⊢
      constructor
      · intro h
        have := limbs_inj h
        by_cases hx : x < 0
        · have := hb.1 hx; omega
        · have : ¬ y < 0 := fun k => hx (hb.2 k); omega
      · rintro rfl; rfl
    have hbb : (decide (x < 0) == decide (y < 0)) = true := by rw [hb]; simp
    rw [e] at ss
    repeat (first | (refine W_seq ?_) | (refine W_reg ?_) | (refine W_regd ?_) | (refine W_block ?_) | (refine And.intro (by omega) ?_) | simp (maxSteps := 1000000) (disch := omega) only [cA, cB, lk, lkH, Dst.onT, Dst.onX, Dst.slot, setF, setH, mapF, mapH, initF, binE, unE, cnt, boundE, newsE, freshE, opE, rmH, blkQ, frz_us, Nat.reduceEqDiff, Nat.reduceLT, Nat.reduceAdd, ↓reduceIte, reduceCtorEq, Nat.reduceLeDiff, I, cS, nbsSame, hbb] | (refine callC_pure (ss) rfl ?_) | exact W_ret (RetP_1 (.imm rfl)) | exact W_ret (RetP_c rfl rfl rfl (.imm rfl)))
  · have hbb : (decide (x < 0) == decide (y < 0)) = false := by simpa using hb
    have e : decide (x = y) = false := decide_eq_false (fun h => hb (by rw [h]))
    rw [e]
    repeat (first | (refine W_seq ?_) | (refine W_reg ?_) | (refine W_regd ?_) | (refine W_block ?_) | (refine And.intro (by omega) ?_) | simp (maxSteps := 1000000) (disch := omega) only [cA, cB, lk, lkH, Dst.onT, Dst.onX, Dst.slot, setF, setH, mapF, mapH, initF, binE, unE, cnt, boundE, newsE, freshE, opE, rmH, blkQ, frz_us, Nat.reduceEqDiff, Nat.reduceLT, Nat.reduceAdd, ↓reduceIte, reduceCtorEq, Nat.reduceLeDiff, I, cS, nbsSame, hbb] | (refine callC_pure (ss) rfl ?_) | exact W_ret (RetP_1 (.imm rfl)) | exact W_ret (RetP_c rfl rfl rfl (.imm rfl)))
theorem dn_inj {d e : Nat} (hd : d ≠ 0) (he : e ≠ 0) (h : dn d = dn e) : d = e := by
  by_cases h1 : d = 1
  · have : (dn e).length = 0 := by rw [← h, h1]; rfl
    rw [h1, (dn_len0 he).1 this]
  · by_cases h2 : e = 1
    · have : (dn d).length = 0 := by rw [h, h2]; rfl
      exact absurd ((dn_len0 hd).1 this) h1
    · unfold dn at h
      rw [if_neg h1, if_neg h2] at h
      exact limbs_inj h
theorem pSameL (x y : Rat) (h1 : RB x 900) (h2 : RB y 900) : PCalls Tryz.prog 16 [Q x, Q y] (.bool (decide (x = y))) := by
  have c1 := sSameG x.num y.num h1.1 h2.1
  have c2 := rSame_calls (dn x.den) (dn y.den) (Nat.le_trans (RB_dn h1) (by decide)) (Nat.le_trans (RB_dn h2) (by decide))
  refine PCalls_of ispSame (by simp [fnpSame]) ?_
  unfold codepSame
  by_cases hn : x.num = y.num
  · rw [decide_eq_true hn] at c1
    have e : decide (dn x.den = dn y.den) = decide (x = y) := by
      rw [decide_eq_decide]
      exact ⟨fun h => Rat.ext hn (dn_inj x.den_nz y.den_nz h), fun h => by rw [h]⟩
    rw [e] at c2
    repeat (first | (refine W_seq ?_) | (refine W_reg ?_) | (refine W_regd ?_) | (refine W_block ?_) | (refine And.intro (by omega) ?_) | simp (maxSteps := 1000000) (disch := omega) only [cA, cB, lk, lkH, Dst.onT, Dst.onX, Dst.slot, setF, setH, mapF, mapH, initF, binE, unE, cnt, boundE, newsE, freshE, opE, rmH, blkQ, frz_us, Nat.reduceEqDiff, Nat.reduceLT, Nat.reduceAdd, ↓reduceIte, reduceCtorEq, Nat.reduceLeDiff, Q, cS, cT, nbpSame] | (refine callC_pure (c1) rfl ?_) | (refine callC_pure (c2) rfl ?_) | exact W_ret (RetP_1 (.imm rfl)) | exact W_ret (RetP_c rfl rfl rfl (.imm rfl)))
  · rw [decide_eq_false hn] at c1
    rw [decide_eq_false (show ¬ x = y from fun h => hn (by rw [h]))]
    repeat (first | (refine W_seq ?_) | (refine W_reg ?_) | (refine W_regd ?_) | (refine W_block ?_) | (refine And.intro (by omega) ?_) | simp (maxSteps := 1000000) (disch := omega) only [cA, cB, lk, lkH, Dst.onT, Dst.onX, Dst.slot, setF, setH, mapF, mapH, initF, binE, unE, cnt, boundE, newsE, freshE, opE, rmH, blkQ, frz_us, Nat.reduceEqDiff, Nat.reduceLT, Nat.reduceAdd, ↓reduceIte, reduceCtorEq, Nat.reduceLeDiff, Q, cS, cT, nbpSame] | (refine callC_pure (c1) rfl ?_) | (refine callC_pure (c2) rfl ?_) | exact W_ret (RetP_1 (.imm rfl)) | exact W_ret (RetP_c rfl rfl rfl (.imm rfl)))
theorem pSameT (x : Rat) (h1 : RB x 900) : PCalls Tryz.prog 16 [Q x, Q x] (.bool true) := by
  have := pSameL x x h1 h1
  rwa [decide_eq_true rfl] at this
end Go.Proofs.YteiagmmfapbaiaaGreatDoor
namespace Go.Proofs
open Go.Shelf
def Tryz.lays156_ren : Go.Shelf.Ren := ⟨fun | 156 => 122 | 165 => 133 | 166 => 134 | 169 => 136 | 240 => 160 | 241 => 161 | 276 => 173 | 277 => 174 | n => n, fun | 31 => 101 | 9 => 9 | 3 => 3 | 4 => 4 | 0 => 0 | 20 => 20 | 72 => 118 | 76 => 122 | 70 => 116 | 37 => 108 | 75 => 121 | 127 => 144 | 164 => 152 | 5 => 5 | 80 => 125 | n => n, fun | n => n⟩
theorem Tryz.lays156 : Go.Proofs.Lays.n156 Tryz.prog Tryz.lays156_ren := {
  mixed := by kernel_rfl
  f156 := Tryz.func122.trans (congrArg some (by kernel_rfl))
  f165 := Tryz.func133.trans (congrArg some (by kernel_rfl))
  f166 := Tryz.func134.trans (congrArg some (by kernel_rfl))
  f169 := Tryz.func136.trans (congrArg some (by kernel_rfl))
  f240 := Tryz.func160.trans (congrArg some (by kernel_rfl))
  f241 := Tryz.func161.trans (congrArg some (by kernel_rfl))
  f276 := Tryz.func173.trans (congrArg some (by kernel_rfl))
  f277 := Tryz.func174.trans (congrArg some (by kernel_rfl))
  t0 := Tryz.underlying0
  a0 := Tryz.isAgg0
  z0 := Tryz.sizeOf0
  v0 := Tryz.zeroValue0
  t3 := Tryz.underlying3
  a3 := Tryz.isAgg3
  z3 := Tryz.sizeOf3
  v3 := Tryz.zeroValue3
  t4 := Tryz.underlying4
  a4 := Tryz.isAgg4
  z4 := Tryz.sizeOf4
  v4 := Tryz.zeroValue4
  t9 := Tryz.underlying9
  a9 := Tryz.isAgg9
  z9 := Tryz.sizeOf9
  v9 := Tryz.zeroValue9
  t20 := Tryz.underlying20
  a20 := Tryz.isAgg20
  z20 := Tryz.sizeOf20
  v20 := Tryz.zeroValue20
  t31 := Tryz.underlying101
  a31 := Tryz.isAgg101
  z31 := Tryz.sizeOf101
  v31 := Tryz.zeroValue101
  t37 := Tryz.underlying108
  a37 := Tryz.isAgg108
  z37 := Tryz.sizeOf108
  v37 := Tryz.zeroValue108
  t70 := Tryz.underlying116
  a70 := Tryz.isAgg116
  z70 := Tryz.sizeOf116
  v70 := Tryz.zeroValue116
  t72 := Tryz.underlying118
  a72 := Tryz.isAgg118
  z72 := Tryz.sizeOf118
  v72 := Tryz.zeroValue118
  t75 := Tryz.underlying121
  a75 := Tryz.isAgg121
  z75 := Tryz.sizeOf121
  v75 := Tryz.zeroValue121
  t76 := Tryz.underlying122
  a76 := Tryz.isAgg122
  z76 := Tryz.sizeOf122
  v76 := Tryz.zeroValue122
  t127 := Tryz.underlying144
  a127 := Tryz.isAgg144
  z127 := Tryz.sizeOf144
  v127 := Tryz.zeroValue144
  t164 := Tryz.underlying152
  a164 := Tryz.isAgg152
  z164 := Tryz.sizeOf152
  v164 := Tryz.zeroValue152 }
theorem Tryz.Builder_Extra_156 : Builder.Extra Tryz.prog Tryz.lays156_ren := {
  sizeBuilder := by kernel_rfl
  liesBuilder := by kernel_rfl
  t5 := Tryz.underlying5
  a5 := Tryz.isAgg5
  z5 := Tryz.sizeOf5
  v5 := Tryz.zeroValue5
  infoByte := by kernel_rfl
  cellsByte := by kernel_rfl
  sizeByte := by kernel_rfl
  neB5 := by decide }
open Go.RowKit in
theorem Tryz.strings_Join (bk o c : Nat) (xs : List ByteArray) (sep : ByteArray) (w : World) (hcells : ∀ (j : Nat) x, xs[j]? = some x → w.cell? ⟨bk, o + j, none⟩ = some (.string x)) (hbk : bk < w.heap.size) (hN : xs.length ≤ 140737488355328) (hcap : xs.length ≤ c) (hlen : (Lib.join (xs.map (·.data.toList)) sep.data.toList).length ≤ 140737488355328) :
    Calls Tryz.prog 122 #[.slice (some ⟨bk, o, none⟩) xs.length c, .string sep] w fun e w' => e = .returned (.string ⟨(Lib.join (xs.map (·.data.toList)) sep.data.toList).toArray⟩) ∧ Below w.heap.size w w' := Any.strings_Join Tryz.lays156 Tryz.Builder_Extra_156 bk o c xs sep w hcells hbk hN hcap hlen
def Tryz.lays161_ren : Go.Shelf.Ren := ⟨fun | 161 => 147 | 231 => 168 | 227 => 145 | 233 => 169 | 235 => 170 | 228 => 146 | 197 => 177 | 151 => 178 | 260 => 185 | 152 => 143 | 137 => 164 | 119 => 165 | 224 => 166 | 225 => 167 | 217 => 175 | 266 => 183 | n => n, fun | 9 => 9 | 4 => 4 | 3 => 3 | 5 => 5 | 117 => 131 | 116 => 130 | 0 => 0 | 124 => 148 | 105 => 155 | 21 => 21 | 119 => 168 | 46 => 100 | 139 => 171 | 138 => 170 | n => n, fun | 3 => 3 | 4 => 4 | n => n⟩
theorem Tryz.lays161 : Go.Proofs.Lays.n161 Tryz.prog Tryz.lays161_ren := {
  mixed := by kernel_rfl
  f119 := Tryz.func165.trans (congrArg some (by kernel_rfl))
  f137 := Tryz.func164.trans (congrArg some (by kernel_rfl))
  f151 := Tryz.func178.trans (congrArg some (by kernel_rfl))
  f152 := Tryz.func143.trans (congrArg some (by kernel_rfl))
  f161 := Tryz.func147.trans (congrArg some (by kernel_rfl))
  f197 := Tryz.func177.trans (congrArg some (by kernel_rfl))
  f217 := Tryz.func175.trans (congrArg some (by kernel_rfl))
  f224 := Tryz.func166.trans (congrArg some (by kernel_rfl))
  f225 := Tryz.func167.trans (congrArg some (by kernel_rfl))
  f227 := Tryz.func145.trans (congrArg some (by kernel_rfl))
  f228 := Tryz.func146.trans (congrArg some (by kernel_rfl))
  f231 := Tryz.func168.trans (congrArg some (by kernel_rfl))
  f233 := Tryz.func169.trans (congrArg some (by kernel_rfl))
  f235 := Tryz.func170.trans (congrArg some (by kernel_rfl))
  f260 := Tryz.func185.trans (congrArg some (by kernel_rfl))
  f266 := Tryz.func183.trans (congrArg some (by kernel_rfl))
  t0 := Tryz.underlying0
  a0 := Tryz.isAgg0
  z0 := Tryz.sizeOf0
  v0 := Tryz.zeroValue0
  t3 := Tryz.underlying3
  a3 := Tryz.isAgg3
  z3 := Tryz.sizeOf3
  v3 := Tryz.zeroValue3
  t4 := Tryz.underlying4
  a4 := Tryz.isAgg4
  z4 := Tryz.sizeOf4
  v4 := Tryz.zeroValue4
  t5 := Tryz.underlying5
  a5 := Tryz.isAgg5
  z5 := Tryz.sizeOf5
  v5 := Tryz.zeroValue5
  t9 := Tryz.underlying9
  a9 := Tryz.isAgg9
  z9 := Tryz.sizeOf9
  v9 := Tryz.zeroValue9
  t21 := Tryz.underlying21
  a21 := Tryz.isAgg21
  z21 := Tryz.sizeOf21
  v21 := Tryz.zeroValue21
  t46 := Tryz.underlying100
  a46 := Tryz.isAgg100
  z46 := Tryz.sizeOf100
  v46 := Tryz.zeroValue100
  t105 := Tryz.underlying155
  a105 := Tryz.isAgg155
  z105 := Tryz.sizeOf155
  v105 := Tryz.zeroValue155
  t116 := Tryz.underlying130
  a116 := Tryz.isAgg130
  z116 := Tryz.sizeOf130
  t117 := Tryz.underlying131
  a117 := Tryz.isAgg131
  z117 := Tryz.sizeOf131
  v117 := Tryz.zeroValue131
  t119 := Tryz.underlying168
  a119 := Tryz.isAgg168
  z119 := Tryz.sizeOf168
  t124 := Tryz.underlying148
  a124 := Tryz.isAgg148
  z124 := Tryz.sizeOf148
  v124 := Tryz.zeroValue148
  t138 := Tryz.underlying170
  a138 := Tryz.isAgg170
  z138 := Tryz.sizeOf170
  v138 := Tryz.zeroValue170
  t139 := Tryz.underlying171
  a139 := Tryz.isAgg171
  z139 := Tryz.sizeOf171
  v139 := Tryz.zeroValue171
  g3 := by kernel_rfl
  g4 := by kernel_rfl }
open Go.RowKit in
theorem Tryz.strings_TrimLeft_one (s : ByteArray) (c : UInt8) (hc : c.toNat < 128) (w : World) :
    Calls Tryz.prog 147 #[.string s, .string ⟨#[c]⟩] w fun e w' => e = .returned (.string ⟨(Lib.trimLeftB s.data.toList c).toArray⟩) ∧ w' = w := Any.strings_TrimLeft_one Tryz.lays161 s c hc w
def Tryz.lays103_ren : Go.Shelf.Ren := ⟨fun | 103 => 60 | 210 => 106 | 206 => 141 | n => n, fun | 9 => 9 | 4 => 4 | 24 => 59 | 3 => 3 | n => n, fun | n => n⟩
theorem Tryz.lays103 : Go.Proofs.Lays.n103 Tryz.prog Tryz.lays103_ren := {
  mixed := by kernel_rfl
  f103 := Tryz.func60.trans (congrArg some (by kernel_rfl))
  f206 := Tryz.func141.trans (congrArg some (by kernel_rfl))
  f210 := Tryz.func106.trans (congrArg some (by kernel_rfl))
  t3 := Tryz.underlying3
  a3 := Tryz.isAgg3
  z3 := Tryz.sizeOf3
  v3 := Tryz.zeroValue3
  t4 := Tryz.underlying4
  a4 := Tryz.isAgg4
  z4 := Tryz.sizeOf4
  v4 := Tryz.zeroValue4
  t9 := Tryz.underlying9
  a9 := Tryz.isAgg9
  z9 := Tryz.sizeOf9
  v9 := Tryz.zeroValue9
  t24 := Tryz.underlying59
  a24 := Tryz.isAgg59
  z24 := Tryz.sizeOf59
  v24 := Tryz.zeroValue59 }
open Go.RowKit in
theorem Tryz.strings_CutPrefix (s p : ByteArray) (w : World) :
    Calls Tryz.prog 60 #[.string s, .string p] w fun e w' => e = .returned (.tuple #[.string ⟨(Lib.trimPrefix s.data.toList p.data.toList).toArray⟩, .bool (Lib.hasPrefix s.data.toList p.data.toList)]) ∧ w' = w := Any.strings_CutPrefix Tryz.lays103 s p w
def Tryz.laysM171_ren : Go.Shelf.Ren := ⟨fun | 171 => 120 | 243 => 150 | 246 => 171 | 283 => 179 | 284 => 180 | 285 => 181 | 286 => 182 | 129 => 187 | 317 => 186 | 318 => 188 | 319 => 189 | 320 => 190 | 337 => 191 | 338 => 192 | n => n, fun | 3 => 3 | 9 => 9 | 2 => 2 | 4 => 4 | 171 => 158 | 0 => 0 | 53 => 67 | 37 => 108 | 5 => 5 | 173 => 161 | 212 => 165 | 51 => 51 | 20 => 20 | 213 => 166 | 46 => 100 | 232 => 172 | 233 => 173 | n => n, fun | 17 => 2 | 18 => 5 | 19 => 6 | n => n⟩
theorem Tryz.laysM171 : Go.Proofs.LaysM.n171 Tryz.prog Tryz.laysM171_ren := {
  mixed := by kernel_rfl
  f129 := Tryz.func187.trans (congrArg some (by kernel_rfl))
  f171 := Tryz.func120.trans (congrArg some (by kernel_rfl))
  f243 := Tryz.func150.trans (congrArg some (by kernel_rfl))
  f246 := Tryz.func171.trans (congrArg some (by kernel_rfl))
  f283 := Tryz.func179.trans (congrArg some (by kernel_rfl))
  f284 := Tryz.func180.trans (congrArg some (by kernel_rfl))
  f285 := Tryz.func181.trans (congrArg some (by kernel_rfl))
  f286 := Tryz.func182.trans (congrArg some (by kernel_rfl))
  f317 := Tryz.func186.trans (congrArg some (by kernel_rfl))
  f318 := Tryz.func188.trans (congrArg some (by kernel_rfl))
  f319 := Tryz.func189.trans (congrArg some (by kernel_rfl))
  f320 := Tryz.func190.trans (congrArg some (by kernel_rfl))
  f337 := Tryz.func191.trans (congrArg some (by kernel_rfl))
  f338 := Tryz.func192.trans (congrArg some (by kernel_rfl))
  t0 := Tryz.underlying0
  a0 := Tryz.isAgg0
  z0 := Tryz.sizeOf0
  v0 := Tryz.zeroValue0
  t2 := Tryz.underlying2
  a2 := Tryz.isAgg2
  z2 := Tryz.sizeOf2
  v2 := Tryz.zeroValue2
  t3 := Tryz.underlying3
  a3 := Tryz.isAgg3
  z3 := Tryz.sizeOf3
  v3 := Tryz.zeroValue3
  t4 := Tryz.underlying4
  a4 := Tryz.isAgg4
  z4 := Tryz.sizeOf4
  v4 := Tryz.zeroValue4
  t5 := Tryz.underlying5
  a5 := Tryz.isAgg5
  z5 := Tryz.sizeOf5
  v5 := Tryz.zeroValue5
  t9 := Tryz.underlying9
  a9 := Tryz.isAgg9
  z9 := Tryz.sizeOf9
  v9 := Tryz.zeroValue9
  t20 := Tryz.underlying20
  a20 := Tryz.isAgg20
  z20 := Tryz.sizeOf20
  v20 := Tryz.zeroValue20
  t37 := Tryz.underlying108
  a37 := Tryz.isAgg108
  z37 := Tryz.sizeOf108
  v37 := Tryz.zeroValue108
  t46 := Tryz.underlying100
  a46 := Tryz.isAgg100
  z46 := Tryz.sizeOf100
  v46 := Tryz.zeroValue100
  t51 := Tryz.underlying51
  a51 := Tryz.isAgg51
  z51 := Tryz.sizeOf51
  v51 := Tryz.zeroValue51
  t53 := Tryz.underlying67
  a53 := Tryz.isAgg67
  z53 := Tryz.sizeOf67
  v53 := Tryz.zeroValue67
  t171 := Tryz.underlying158
  a171 := Tryz.isAgg158
  z171 := Tryz.sizeOf158
  v171 := Tryz.zeroValue158
  t173 := Tryz.underlying161
  a173 := Tryz.isAgg161
  z173 := Tryz.sizeOf161
  v173 := Tryz.zeroValue161
  t212 := Tryz.underlying165
  a212 := Tryz.isAgg165
  z212 := Tryz.sizeOf165
  v212 := Tryz.zeroValue165
  t213 := Tryz.underlying166
  a213 := Tryz.isAgg166
  z213 := Tryz.sizeOf166
  t232 := Tryz.underlying172
  a232 := Tryz.isAgg172
  z232 := Tryz.sizeOf172
  v232 := Tryz.zeroValue172
  t233 := Tryz.underlying173
  a233 := Tryz.isAgg173
  z233 := Tryz.sizeOf173
  v233 := Tryz.zeroValue173
  g17 := by kernel_rfl
  g18 := by kernel_rfl
  g19 := by kernel_rfl
  i0 := by kernel_rfl
  i2 := by kernel_rfl
  i3 := by kernel_rfl
  i4 := by kernel_rfl
  i5 := by kernel_rfl
  i9 := by kernel_rfl
  i20 := by kernel_rfl
  i37 := by kernel_rfl
  i46 := by kernel_rfl
  i51 := by kernel_rfl
  i53 := by kernel_rfl
  i171 := by kernel_rfl
  i173 := by kernel_rfl
  i212 := by kernel_rfl
  i232 := by kernel_rfl
  i233 := by kernel_rfl
  m17 := by kernel_rfl
  m18 := by kernel_rfl
  m19 := by kernel_rfl }
open Go.RowKit Go.Sort Go.Lib in
theorem Tryz.strconv_Itoa (n : Int) (h0 : -9223372036854775808 ≤ n) (h1 : n ≤ 9223372036854775807) (w : World) (htab : Lib.TabIs Tryz.prog w "internal/strconv.uint64pow10" .u64 Lib.pow10Tab) :
    Calls Tryz.prog 120 #[.int .i64 n] w fun e w' => e = .returned (.string ⟨(Lib.itoa n).toArray⟩) ∧ ∃ k os, w' = grow (w.drewN k) os := Any.strconv_Itoa Tryz.laysM171 n h0 h1 w htab
def Tryz.lays219_ren : Go.Shelf.Ren := ⟨fun | 219 => 163 | 217 => 175 | 225 => 167 | 224 => 166 | 267 => 176 | 266 => 183 | 314 => 184 | n => n, fun | 9 => 9 | 3 => 3 | 4 => 4 | 5 => 5 | 46 => 100 | 146 => 111 | 51 => 51 | n => n, fun | 1 => 1 | n => n⟩
theorem Tryz.lays219 : Go.Proofs.Lays.n219 Tryz.prog Tryz.lays219_ren := {
  mixed := by kernel_rfl
  f217 := Tryz.func175.trans (congrArg some (by kernel_rfl))
  f219 := Tryz.func163.trans (congrArg some (by kernel_rfl))
  f224 := Tryz.func166.trans (congrArg some (by kernel_rfl))
  f225 := Tryz.func167.trans (congrArg some (by kernel_rfl))
  f266 := Tryz.func183.trans (congrArg some (by kernel_rfl))
  f267 := Tryz.func176.trans (congrArg some (by kernel_rfl))
  f314 := Tryz.func184.trans (congrArg some (by kernel_rfl))
  t3 := Tryz.underlying3
  a3 := Tryz.isAgg3
  z3 := Tryz.sizeOf3
  v3 := Tryz.zeroValue3
  t4 := Tryz.underlying4
  a4 := Tryz.isAgg4
  z4 := Tryz.sizeOf4
  v4 := Tryz.zeroValue4
  t5 := Tryz.underlying5
  a5 := Tryz.isAgg5
  z5 := Tryz.sizeOf5
  v5 := Tryz.zeroValue5
  t9 := Tryz.underlying9
  a9 := Tryz.isAgg9
  z9 := Tryz.sizeOf9
  v9 := Tryz.zeroValue9
  t46 := Tryz.underlying100
  a46 := Tryz.isAgg100
  z46 := Tryz.sizeOf100
  v46 := Tryz.zeroValue100
  t51 := Tryz.underlying51
  a51 := Tryz.isAgg51
  z51 := Tryz.sizeOf51
  v51 := Tryz.zeroValue51
  t146 := Tryz.underlying111
  a146 := Tryz.isAgg111
  z146 := Tryz.sizeOf111
  v146 := Tryz.zeroValue111
  g1 := by kernel_rfl }
open Go.RowKit Go.Lib in
theorem Tryz.stringslite_Index_one (s : ByteArray) (c : UInt8) (w : World) :
    Calls Tryz.prog 163 #[.string s, .string ⟨#[c]⟩] w fun e w' => e = .returned (.int .i64 (Lib.indexByte s.data.toList c)) ∧ w' = w := Any.stringslite_Index_one Tryz.lays219 s c w
def Tryz.lays153_ren : Go.Shelf.Ren := ⟨fun | 153 => 109 | 152 => 143 | 226 => 144 | 227 => 145 | 228 => 146 | 137 => 164 | 119 => 165 | 224 => 166 | 225 => 167 | 217 => 175 | 266 => 183 | n => n, fun | 9 => 9 | 3 => 3 | 4 => 4 | 5 => 5 | 21 => 21 | 117 => 131 | 116 => 130 | 0 => 0 | 46 => 100 | 124 => 148 | n => n, fun | n => n⟩
theorem Tryz.lays153 : Go.Proofs.Lays.n153 Tryz.prog Tryz.lays153_ren := {
  mixed := by kernel_rfl
  f119 := Tryz.func165.trans (congrArg some (by kernel_rfl))
  f137 := Tryz.func164.trans (congrArg some (by kernel_rfl))
  f152 := Tryz.func143.trans (congrArg some (by kernel_rfl))
  f153 := Tryz.func109.trans (congrArg some (by kernel_rfl))
  f217 := Tryz.func175.trans (congrArg some (by kernel_rfl))
  f224 := Tryz.func166.trans (congrArg some (by kernel_rfl))
  f225 := Tryz.func167.trans (congrArg some (by kernel_rfl))
  f226 := Tryz.func144.trans (congrArg some (by kernel_rfl))
  f227 := Tryz.func145.trans (congrArg some (by kernel_rfl))
  f228 := Tryz.func146.trans (congrArg some (by kernel_rfl))
  f266 := Tryz.func183.trans (congrArg some (by kernel_rfl))
  t0 := Tryz.underlying0
  a0 := Tryz.isAgg0
  z0 := Tryz.sizeOf0
  v0 := Tryz.zeroValue0
  t3 := Tryz.underlying3
  a3 := Tryz.isAgg3
  z3 := Tryz.sizeOf3
  v3 := Tryz.zeroValue3
  t4 := Tryz.underlying4
  a4 := Tryz.isAgg4
  z4 := Tryz.sizeOf4
  v4 := Tryz.zeroValue4
  t5 := Tryz.underlying5
  a5 := Tryz.isAgg5
  z5 := Tryz.sizeOf5
  v5 := Tryz.zeroValue5
  t9 := Tryz.underlying9
  a9 := Tryz.isAgg9
  z9 := Tryz.sizeOf9
  v9 := Tryz.zeroValue9
  t21 := Tryz.underlying21
  a21 := Tryz.isAgg21
  z21 := Tryz.sizeOf21
  v21 := Tryz.zeroValue21
  t46 := Tryz.underlying100
  a46 := Tryz.isAgg100
  z46 := Tryz.sizeOf100
  v46 := Tryz.zeroValue100
  t116 := Tryz.underlying130
  a116 := Tryz.isAgg130
  z116 := Tryz.sizeOf130
  t117 := Tryz.underlying131
  a117 := Tryz.isAgg131
  z117 := Tryz.sizeOf131
  v117 := Tryz.zeroValue131
  t124 := Tryz.underlying148
  a124 := Tryz.isAgg148
  z124 := Tryz.sizeOf148
  v124 := Tryz.zeroValue148 }
open Go.RowKit Go.Lib in
theorem Tryz.strings_IndexAny_long (hv116 : ∀ w, (zeroValue 130).run Tryz.prog w = .ok (.agg (Array.replicate 256 (.bool false))) w) (s chars : ByteArray) (w : World) (h2 : 2 ≤ chars.size) (h8 : 8 < s.size) (hs : s.size < 4294967281) (hcs : chars.size < 4294967281) (hascii : ∀ (j : Nat) b, chars.data.toList[j]? = some b → b.toNat < 128) :
    Calls Tryz.prog 109 #[.string s, .string chars] w fun e w' => e = .returned (.int .i64 (Lib.indexAny s.data.toList chars.data.toList)) ∧ w' = ((w.alloc (.cells (Lib.setCells chars.data.toList) 130)).alloc (.cells (Lib.setCells chars.data.toList) 130)) := Any.strings_IndexAny_long Tryz.lays153 hv116 (by kernel_rfl) s chars w h2 h8 hs hcs hascii
open Go.RowKit Go.Lib in
theorem Tryz.strings_IndexAny_laid (s chars : ByteArray) (w : World) (hs : s.size < 4294967281) (hcs : chars.size < 4294967281) (has : ∀ (j : Nat) b, s.data.toList[j]? = some b → b.toNat < 128) (hac : ∀ (j : Nat) b, chars.data.toList[j]? = some b → b.toNat < 128) :
    Calls Tryz.prog 109 #[.string s, .string chars] w fun e w' => e = .returned (.int .i64 (Lib.indexAny s.data.toList chars.data.toList)) ∧ Below w.heap.size w w' := Any.strings_IndexAny_laid Tryz.lays153 (by kernel_rfl) s chars w hs hcs has hac
def Tryz.lays105_ren : Go.Shelf.Ren := ⟨fun | 105 => 80 | 212 => 131 | 99 => 132 | 165 => 133 | 166 => 134 | 170 => 135 | 169 => 136 | 263 => 158 | 264 => 159 | 206 => 141 | 240 => 160 | 241 => 161 | 276 => 173 | 277 => 174 | n => n, fun | 9 => 9 | 3 => 3 | 4 => 4 | 20 => 20 | 0 => 0 | 46 => 100 | 109 => 113 | 5 => 5 | 72 => 118 | 76 => 122 | 51 => 51 | 146 => 111 | 53 => 67 | 148 => 142 | 70 => 116 | 37 => 108 | 75 => 121 | 127 => 144 | 164 => 152 | 80 => 125 | n => n, fun | n => n⟩
theorem Tryz.lays105 : Go.Proofs.Lays.n105 Tryz.prog Tryz.lays105_ren := {
  mixed := by kernel_rfl
  f99 := Tryz.func132.trans (congrArg some (by kernel_rfl))
  f105 := Tryz.func80.trans (congrArg some (by kernel_rfl))
  f165 := Tryz.func133.trans (congrArg some (by kernel_rfl))
  f166 := Tryz.func134.trans (congrArg some (by kernel_rfl))
  f169 := Tryz.func136.trans (congrArg some (by kernel_rfl))
  f170 := Tryz.func135.trans (congrArg some (by kernel_rfl))
  f206 := Tryz.func141.trans (congrArg some (by kernel_rfl))
  f212 := Tryz.func131.trans (congrArg some (by kernel_rfl))
  f240 := Tryz.func160.trans (congrArg some (by kernel_rfl))
  f241 := Tryz.func161.trans (congrArg some (by kernel_rfl))
  f263 := Tryz.func158.trans (congrArg some (by kernel_rfl))
  f264 := Tryz.func159.trans (congrArg some (by kernel_rfl))
  f276 := Tryz.func173.trans (congrArg some (by kernel_rfl))
  f277 := Tryz.func174.trans (congrArg some (by kernel_rfl))
  t0 := Tryz.underlying0
  a0 := Tryz.isAgg0
  z0 := Tryz.sizeOf0
  v0 := Tryz.zeroValue0
  t3 := Tryz.underlying3
  a3 := Tryz.isAgg3
  z3 := Tryz.sizeOf3
  v3 := Tryz.zeroValue3
  t4 := Tryz.underlying4
  a4 := Tryz.isAgg4
  z4 := Tryz.sizeOf4
  v4 := Tryz.zeroValue4
  t5 := Tryz.underlying5
  a5 := Tryz.isAgg5
  z5 := Tryz.sizeOf5
  v5 := Tryz.zeroValue5
  t9 := Tryz.underlying9
  a9 := Tryz.isAgg9
  z9 := Tryz.sizeOf9
  v9 := Tryz.zeroValue9
  t20 := Tryz.underlying20
  a20 := Tryz.isAgg20
  z20 := Tryz.sizeOf20
  v20 := Tryz.zeroValue20
  t37 := Tryz.underlying108
  a37 := Tryz.isAgg108
  z37 := Tryz.sizeOf108
  v37 := Tryz.zeroValue108
  t46 := Tryz.underlying100
  a46 := Tryz.isAgg100
  z46 := Tryz.sizeOf100
  v46 := Tryz.zeroValue100
  t51 := Tryz.underlying51
  a51 := Tryz.isAgg51
  z51 := Tryz.sizeOf51
  v51 := Tryz.zeroValue51
  t53 := Tryz.underlying67
  a53 := Tryz.isAgg67
  z53 := Tryz.sizeOf67
  v53 := Tryz.zeroValue67
  t70 := Tryz.underlying116
  a70 := Tryz.isAgg116
  z70 := Tryz.sizeOf116
  v70 := Tryz.zeroValue116
  t72 := Tryz.underlying118
  a72 := Tryz.isAgg118
  z72 := Tryz.sizeOf118
  v72 := Tryz.zeroValue118
  t75 := Tryz.underlying121
  a75 := Tryz.isAgg121
  z75 := Tryz.sizeOf121
  v75 := Tryz.zeroValue121
  t76 := Tryz.underlying122
  a76 := Tryz.isAgg122
  z76 := Tryz.sizeOf122
  v76 := Tryz.zeroValue122
  t109 := Tryz.underlying113
  a109 := Tryz.isAgg113
  z109 := Tryz.sizeOf113
  v109 := Tryz.zeroValue113
  t127 := Tryz.underlying144
  a127 := Tryz.isAgg144
  z127 := Tryz.sizeOf144
  v127 := Tryz.zeroValue144
  t146 := Tryz.underlying111
  a146 := Tryz.isAgg111
  z146 := Tryz.sizeOf111
  v146 := Tryz.zeroValue111
  t148 := Tryz.underlying142
  a148 := Tryz.isAgg142
  z148 := Tryz.sizeOf142
  v148 := Tryz.zeroValue142
  t164 := Tryz.underlying152
  a164 := Tryz.isAgg152
  z164 := Tryz.sizeOf152
  v164 := Tryz.zeroValue152 }
theorem Tryz.Builder_Extra_105 : Builder.Extra Tryz.prog Tryz.lays105_ren := {
  sizeBuilder := by kernel_rfl
  liesBuilder := by kernel_rfl
  t5 := Tryz.underlying5
  a5 := Tryz.isAgg5
  z5 := Tryz.sizeOf5
  v5 := Tryz.zeroValue5
  infoByte := by kernel_rfl
  cellsByte := by kernel_rfl
  sizeByte := by kernel_rfl
  neB5 := by decide }
open Go.RowKit Go.Lib in
theorem Tryz.strings_Repeat (s : ByteArray) (c : Nat) (w : World) (hc : c ≤ 9223372036854775807) (hlen : s.size * c ≤ 140737488355328) :
    Calls Tryz.prog 80 #[.string s, .int .i64 c] w fun e w' => e = .returned (.string ⟨(Lib.repeatL s.data.toList c).toArray⟩) ∧ Below w.heap.size w w' := Any.strings_Repeat Tryz.lays105 Tryz.Builder_Extra_105 s c w hc hlen
def Tryz.laysNm217_ren : Go.Shelf.Ren := ⟨fun | 17 => 121 | n => n, fun | 24 => 101 | 9 => 9 | 3 => 3 | 4 => 4 | 0 => 0 | n => n, fun | n => n⟩
theorem Tryz.laysNm217 : Go.Proofs.Lays2.n17 Tryz.prog Tryz.laysNm217_ren := {
  mixed := by kernel_rfl
  f17 := Tryz.func121.trans (congrArg some (by kernel_rfl))
  t0 := Tryz.underlying0
  a0 := Tryz.isAgg0
  z0 := Tryz.sizeOf0
  v0 := Tryz.zeroValue0
  t3 := Tryz.underlying3
  a3 := Tryz.isAgg3
  z3 := Tryz.sizeOf3
  v3 := Tryz.zeroValue3
  t4 := Tryz.underlying4
  a4 := Tryz.isAgg4
  z4 := Tryz.sizeOf4
  v4 := Tryz.zeroValue4
  t9 := Tryz.underlying9
  a9 := Tryz.isAgg9
  z9 := Tryz.sizeOf9
  v9 := Tryz.zeroValue9
  t24 := Tryz.underlying101
  a24 := Tryz.isAgg101
  z24 := Tryz.sizeOf101
  v24 := Tryz.zeroValue101 }
open Go.RowKit Go.Lib Go.Sort in
theorem Tryz.slices_Reverse_string (blk off cap : Nat) (zs : List (List UInt8)) (w : World) (hH : Holds encStr w blk off zs.toArray) (hsz : zs.length ≤ 9223372036854775807) :
    Calls Tryz.prog 121 #[.slice (some ⟨blk, off, none⟩) zs.length cap] w fun e w' => e = .returned (.tuple #[]) ∧ ∃ n, w' = putRow encStr (Sort.ahead w n) blk off zs.reverse.toArray := Any.slices_Reverse_string Tryz.laysNm217 blk off cap zs w hH hsz
end Go.Proofs
namespace Go.Proofs.YteiagmmfapbaiaaGreatDoor
open Go Go.Dat Go.Proofs Nat32
open Go.Lib (decDigits repeatL)
theorem scItoaD (n : Nat) (hn : n ≤ 4294967295) : PCalls Tryz.prog 120 [.int .i64 n] (.str (decDigits n)) := by
  obtain ⟨g, hg⟩ := Option.isSome_iff_exists.1 (show (Tryz.prog.globalNamed tabName).isSome = true by kernel_rfl)
  refine PCalls_itoa hg fun w ht => ?_
  have h := Tryz.strconv_Itoa (n : Int) (by omega) (by omega) w ht
  have e : Go.Lib.itoa (n : Int) = decDigits n := by unfold Go.Lib.itoa; rw [if_neg (by omega), Int.toNat_natCast]
  rwa [e] at h
theorem repeatD (l : List UInt8) (n : Nat) (hl : l.length ≤ 10000) (hn : n ≤ 10000) : PCalls Tryz.prog 80 [.str l, .int .i64 n] (.str (repeatL l n)) := by
  refine PCalls_strint fun w => ?_
  have hs : (⟨l.toArray⟩ : ByteArray).size = l.length := by simp [ByteArray.size]
  have h := Tryz.strings_Repeat ⟨l.toArray⟩ n w (by omega) (by rw [hs]; exact Nat.le_trans (Nat.mul_le_mul hl hn) (by decide))
  exact h
theorem joinD (ls : List (List UInt8)) (sep : List UInt8) (h0 : 0 < ls.length) (hl : ls.length ≤ 100000) (hj : (Go.Lib.join ls sep).length ≤ 1000000) :
    WCalls Tryz.prog 122 [.osl 1 1048576 0 ls.length, .str sep] (strs ls) (.str (Go.Lib.join ls sep)) (strs ls) := by
  refine WCalls_join h0 fun bk c w hc hb hcap => ?_
  have e1 : (ls.map fun l => (⟨l.toArray⟩ : ByteArray)).map (·.data.toList) = ls := by
    rw [List.map_map]; exact (List.map_congr_left fun l _ => by simp).trans (List.map_id _)
  have h := Tryz.strings_Join bk 0 c (ls.map fun l => (⟨l.toArray⟩ : ByteArray)) ⟨sep.toArray⟩ w hc hb (by simp; omega) (by simpa using hcap) (by rw [e1]; simp only; omega)
  rw [e1, List.length_map] at h
  exact h
theorem reverseD (ls : List (List UInt8)) (h0 : 0 < ls.length) (hl : ls.length ≤ 100000) : WCalls Tryz.prog 121 [.osl 1 1048576 0 ls.length] (strs ls) (.tup []) (strs ls.reverse) :=
  WCalls_reverse h0 fun blk cap w hH => Tryz.slices_Reverse_string blk 0 cap ls w hH (by omega)
theorem rFormat_calls (a : List Nat) (ha : a.length ≤ 900) (la : lim a) : PCalls Tryz.prog 72 [.sl 1 (us a)] (.str (decDigits (vn a))) := by
  have c1 := rTake_calls a (by omega) la
  have h1 := vn_len la
  refine PCalls_of isrFormat (by simp [fnrFormat]) ?_
  unfold coderFormat
  generalize vn a = N at *
  repeat (first | (refine W_seq ?_) | (refine W_reg ?_) | (refine W_regd ?_) | (refine W_block ?_) | (refine And.intro (by omega) ?_) | simp (maxSteps := 1000000) (disch := omega) only [cA, cB, lk, lkH, Dst.onT, Dst.onX, Dst.slot, setF, setH, mapF, mapH, initF, binE, unE, cnt, boundE, newsE, freshE, opE, rmH, blkQ, frz_us, Nat.reduceEqDiff, Nat.reduceLT, Nat.reduceAdd, ↓reduceIte, reduceCtorEq, Nat.reduceLeDiff] | (refine callC_pure (c1) rfl ?_) | exact W_ret (RetP_1 (.imm rfl)) | exact W_ret (RetP_c rfl rfl rfl (.imm rfl)))
  refine W_loop (σ := Nat × List UInt8) (fun s => [(0, .sl 1 (us (limbs s.1))), (3, .str s.2)]) (fun _ => []) (fun s => decDigits s.1 ++ s.2 = decDigits N ∧ (limbs s.1).length ≤ 900) (fun s => s.1) (N, []) ⟨by simp, Nat.le_trans h1 ha⟩ ?_ rfl ?_
  · simp [subF, lk]
  · rintro ⟨n, s⟩ ⟨hs, hl⟩
    simp only at hs hl ⊢
    have l10 : [DV.int .u32 10] = us (limbs 10) := by rw [limbs_one (by decide) (by decide)]; rfl
    have c2 := rDivL n 10 (by omega) (by rw [limbs_one (by decide) (by decide)]; simp)
    have em : dmod n 10 = n % 10 := by unfold dmod; rw [if_neg (by decide)]
    rw [em, decide_eq_true (show 0 < 10 by decide)] at c2
    have hd : n % 10 < 10 := Nat.mod_lt _ (by decide)
    have c3 := rLimb_calls (limbs (n % 10)) 0 (by have := limbs_len.2 (show n % 10 < 4294967296 ^ 1 by omega); omega) (lim_limbs _)
    have eg : (limbs (n % 10)).getD 0 0 = n % 10 := by
      by_cases h0 : n % 10 = 0
      · rw [h0, limbs_zero]; rfl
      · rw [limbs_one (by omega) (by omega)]; rfl
    rw [eg] at c3
    have e8 : ((48 : Int) + ((n % 10 : Nat) : Int)) = ((48 + n % 10 : Nat) : Int) := by omega
    have eb : bytesOf [DV.int .u8 ((48 + n % 10 : Nat) : Int)] = some [UInt8.ofNat (48 + n % 10)] := by
      show some [UInt8.ofNat (((48 + n % 10 : Nat) : Int)).toNat] = _
      rw [Int.toNat_natCast]
    have hn2 := dd_limbs (Nat.le_trans h1 ha)
    have hsl := congrArg List.length hs
    rw [List.length_append] at hsl
    have e1 : ∀ l : List UInt8, [UInt8.ofNat (48 + n % 10)] ++ l = UInt8.ofNat (48 + n % 10) :: l := fun _ => rfl
    by_cases hq : n < 10
    · have h0 : (limbs (n / 10)).length = 0 := by rw [Nat.div_eq_of_lt hq, limbs_zero]; rfl
      have hf : UInt8.ofNat (48 + n % 10) :: s = decDigits N := by rw [← hs, dd_lt hq, Nat.mod_eq_of_lt hq]; rfl
      repeat (first | (refine W_seq ?_) | (refine W_reg ?_) | (refine W_regd ?_) | (refine W_block ?_) | (refine And.intro (by omega) ?_) | simp (maxSteps := 1000000) (disch := omega) only [cA, cB, lk, lkH, Dst.onT, Dst.onX, Dst.slot, setF, setH, mapF, mapH, initF, binE, unE, cnt, boundE, newsE, freshE, opE, rmH, blkQ, frz_us, Nat.reduceEqDiff, Nat.reduceLT, Nat.reduceAdd, ↓reduceIte, reduceCtorEq, Nat.reduceLeDiff, l10, us_rfd, e8, eb, List.mem_singleton, forall_eq, DV.rf, us_length, h0, e1, hf] | (refine callC_pure (c2) rfl ?_) | (refine callC_pure (c3) rfl ?_) | exact W_ret (RetP_1 (.imm rfl)) | exact W_ret (RetP_c rfl rfl rfl (.imm rfl)))
      refine W_cond rfl (fun _ => ?_) (fun h => by simp at h)
      repeat (first | (refine W_seq ?_) | (refine W_reg ?_) | (refine W_regd ?_) | (refine W_block ?_) | (refine And.intro (by omega) ?_) | simp (maxSteps := 1000000) (disch := omega) only [cA, cB, lk, lkH, Dst.onT, Dst.onX, Dst.slot, setF, setH, mapF, mapH, initF, binE, unE, cnt, boundE, newsE, freshE, opE, rmH, blkQ, frz_us, Nat.reduceEqDiff, Nat.reduceLT, Nat.reduceAdd, ↓reduceIte, reduceCtorEq, Nat.reduceLeDiff])
      exact W_ret (RetP_1 (.imm rfl))
    · have hl2 : (limbs (n / 10)).length ≤ 900 := Nat.le_trans (len_mono (Nat.div_le_self n 10)) hl
      have h0 : decide (((limbs (n / 10)).length : Int) = 0) = false := decide_eq_false fun h => by
        have := (limbs_len (n := n / 10) (k := 0)).1 (by omega)
        rw [Nat.pow_zero] at this
        omega
      have hf : decDigits (n / 10) ++ (UInt8.ofNat (48 + n % 10) :: s) = decDigits N := by rw [← hs, dd_ge hq, List.append_assoc]; rfl
      repeat (first | (refine W_seq ?_) | (refine W_reg ?_) | (refine W_regd ?_) | (refine W_block ?_) | (refine And.intro (by omega) ?_) | simp (maxSteps := 1000000) (disch := omega) only [cA, cB, lk, lkH, Dst.onT, Dst.onX, Dst.slot, setF, setH, mapF, mapH, initF, binE, unE, cnt, boundE, newsE, freshE, opE, rmH, blkQ, frz_us, Nat.reduceEqDiff, Nat.reduceLT, Nat.reduceAdd, ↓reduceIte, reduceCtorEq, Nat.reduceLeDiff, l10, us_rfd, e8, eb, List.mem_singleton, forall_eq, DV.rf, us_length, h0, e1] | (refine callC_pure (c2) rfl ?_) | (refine callC_pure (c3) rfl ?_) | exact W_ret (RetP_1 (.imm rfl)) | exact W_ret (RetP_c rfl rfl rfl (.imm rfl)))
      refine W_cond rfl (fun h => by cases h) (fun _ => W_skip ?_)
      repeat (first | (refine W_seq ?_) | (refine W_reg ?_) | (refine W_regd ?_) | (refine W_block ?_) | (refine And.intro (by omega) ?_) | simp (maxSteps := 1000000) (disch := omega) only [cA, cB, lk, lkH, Dst.onT, Dst.onX, Dst.slot, setF, setH, mapF, mapH, initF, binE, unE, cnt, boundE, newsE, freshE, opE, rmH, blkQ, frz_us, Nat.reduceEqDiff, Nat.reduceLT, Nat.reduceAdd, ↓reduceIte, reduceCtorEq, Nat.reduceLeDiff])
      exact ⟨(n / 10, UInt8.ofNat (48 + n % 10) :: s), And.intro hf hl2, Nat.div_lt_self (by omega) (by decide), by simp [subF, lk]⟩
theorem join_flat (ls : List (List UInt8)) : Go.Lib.join ls [] = ls.flatten := by
  unfold Go.Lib.join List.intercalate
  induction ls with
  | nil => rfl
  | cons a l ih =>
    cases l with
    | nil => rfl
    | cons b l => rw [List.intersperse_cons_cons, List.flatten_cons, List.flatten_cons, ih]; rfl
def gsD (gs : List (List UInt8)) : DV := if gs = [] then .nils else .osl 1 35 0 gs.length
def gsH (gs : List (List UInt8)) : Hp := if gs = [] then [] else [(35, strs gs)]
theorem gsD_snoc (gs : List (List UInt8)) (g : List UInt8) : gsD (gs ++ [g]) = .osl 1 35 0 (gs.length + 1) := by unfold gsD; rw [if_neg (by simp)]; simp
theorem gsH_snoc (gs : List (List UInt8)) (g : List UInt8) : gsH (gs ++ [g]) = [(35, strs (gs ++ [g]))] := by unfold gsH; rw [if_neg (by simp)]
theorem grp_ne (n : Nat) : 0 < (grp n).length := by
  unfold grp
  have := List.length_pos_iff.2 (dd_ne (n % 1000000000))
  split
  · exact this
  · rw [List.length_append]; omega
set_option maxHeartbeats 1000000 in
theorem nFormat_calls (a : List Nat) (ha : a.length ≤ 900) (la : lim a) : PCalls Tryz.prog 69 [.sl 1 (us a)] (.str (decDigits (vn a))) := by
  have c1 := nValue_calls a (by omega) la
  have h1 := vn_len la
  refine PCalls_of isnFormat (by simp [fnnFormat]) ?_
  unfold codenFormat
  generalize vn a = N at *
  by_cases hN : N = 0
  · subst hN
    have h0 : (limbs 0).length = 0 := by rw [limbs_zero]; rfl
    repeat (first | (refine W_seq ?_) | (refine W_reg ?_) | (refine W_regd ?_) | (refine W_block ?_) | (refine And.intro (by omega) ?_) | simp (maxSteps := 1000000) (disch := omega) only [cA, cB, lk, lkH, Dst.onT, Dst.onX, Dst.slot, setF, setH, mapF, mapH, initF, binE, unE, cnt, boundE, newsE, freshE, opE, rmH, blkQ, frz_us, Nat.reduceEqDiff, Nat.reduceLT, Nat.reduceAdd, ↓reduceIte, reduceCtorEq, Nat.reduceLeDiff, us_length, h0] | (refine callC_pure (c1) rfl ?_) | exact W_ret (RetP_1 (.imm rfl)) | exact W_ret (RetP_c rfl rfl rfl (.imm rfl)))
    refine W_cond rfl (fun _ => ?_) (fun h => by simp at h)
    have e0 : decDigits 0 = [48] := by rw [dd_lt (by decide)]; rfl
    rw [e0]
    repeat (first | (refine W_seq ?_) | (refine W_reg ?_) | (refine W_regd ?_) | (refine W_block ?_) | (refine And.intro (by omega) ?_) | simp (maxSteps := 1000000) (disch := omega) only [cA, cB, lk, lkH, Dst.onT, Dst.onX, Dst.slot, setF, setH, mapF, mapH, initF, binE, unE, cnt, boundE, newsE, freshE, opE, rmH, blkQ, frz_us, Nat.reduceEqDiff, Nat.reduceLT, Nat.reduceAdd, ↓reduceIte, reduceCtorEq, Nat.reduceLeDiff])
    exact W_ret (RetP_1 (.imm rfl))
  · have h0 : decide (((limbs N).length : Int) = 0) = false := decide_eq_false fun h => by
      have := (limbs_len (n := N) (k := 0)).1 (by omega)
      rw [Nat.pow_zero] at this
      omega
    repeat (first | (refine W_seq ?_) | (refine W_reg ?_) | (refine W_regd ?_) | (refine W_block ?_) | (refine And.intro (by omega) ?_) | simp (maxSteps := 1000000) (disch := omega) only [cA, cB, lk, lkH, Dst.onT, Dst.onX, Dst.slot, setF, setH, mapF, mapH, initF, binE, unE, cnt, boundE, newsE, freshE, opE, rmH, blkQ, frz_us, Nat.reduceEqDiff, Nat.reduceLT, Nat.reduceAdd, ↓reduceIte, reduceCtorEq, Nat.reduceLeDiff, us_length, h0] | (refine callC_pure (c1) rfl ?_) | exact W_ret (RetP_1 (.imm rfl)) | exact W_ret (RetP_c rfl rfl rfl (.imm rfl)))
    refine W_cond rfl (fun h => by cases h) (fun _ => W_skip ?_)
    repeat (first | (refine W_seq ?_) | (refine W_reg ?_) | (refine W_regd ?_) | (refine W_block ?_) | (refine And.intro (by omega) ?_) | simp (maxSteps := 1000000) (disch := omega) only [cA, cB, lk, lkH, Dst.onT, Dst.onX, Dst.slot, setF, setH, mapF, mapH, initF, binE, unE, cnt, boundE, newsE, freshE, opE, rmH, blkQ, frz_us, Nat.reduceEqDiff, Nat.reduceLT, Nat.reduceAdd, ↓reduceIte, reduceCtorEq, Nat.reduceLeDiff])
    have hdl := dd_limbs (Nat.le_trans h1 ha)
    have hE : ddE N = decDigits N := by unfold ddE; rw [if_neg hN]
    refine W_loop (σ := Nat × List (List UInt8)) (fun s => [(0, .sl 1 (us (limbs s.1))), (3, gsD s.2)]) (fun s => gsH s.2) (fun s => ddE s.1 ++ s.2.reverse.flatten = ddE N ∧ (limbs s.1).length ≤ 900 ∧ s.2.length ≤ s.2.reverse.flatten.length) (fun s => s.1) (N, []) ⟨by simp, Nat.le_trans h1 ha, by simp⟩ ?_ rfl ?_
    · simp [subF, lk, gsD]
    · rintro ⟨n, gs⟩ ⟨hs, hl, hg⟩
      simp only at hs hl hg ⊢
      have hsl := congrArg List.length hs
      rw [List.length_append, hE] at hsl
      by_cases hn : n = 0
      · subst hn
        have h00 : (limbs 0).length = 0 := by rw [limbs_zero]; rfl
        have hgs : gs ≠ [] := by
          rintro rfl
          rw [hE] at hs
          exact dd_ne N (by rw [← hs]; simp [ddE])
        have hgl : 0 < gs.length := List.length_pos_iff.2 hgs
        have hres : Go.Lib.join gs.reverse [] = decDigits N := by rw [join_flat, ← hE, ← hs]; simp [ddE]
        have c2 := reverseD gs hgl (by omega)
        have c3 := joinD gs.reverse [] (by simpa using hgl) (by simp; omega) (by rw [hres]; omega)
        rw [hres, List.length_reverse] at c3
        have ed : gsD gs = .osl 1 35 0 gs.length := by unfold gsD; rw [if_neg hgs]
        have eh : gsH gs = [(35, strs gs)] := by unfold gsH; rw [if_neg hgs]
        have hrf : (strs gs).all DV.rf = true := by simp [strs, DV.rf]
        have hrf2 : (strs gs.reverse).all DV.rf = true := by simp [strs, DV.rf]
        have hne : strs gs ≠ [] := by simpa [strs] using hgs
        have hne2 : strs gs.reverse ≠ [] := by simpa [strs] using hgs
        rw [ed, eh]
        repeat (first | (refine W_seq ?_) | (refine W_reg ?_) | (refine W_regd ?_) | (refine W_block ?_) | (refine And.intro (by omega) ?_) | simp (maxSteps := 1000000) (disch := omega) only [cA, cB, lk, lkH, Dst.onT, Dst.onX, Dst.slot, setF, setH, mapF, mapH, initF, binE, unE, cnt, boundE, newsE, freshE, opE, rmH, blkQ, frz_us, Nat.reduceEqDiff, Nat.reduceLT, Nat.reduceAdd, ↓reduceIte, reduceCtorEq, Nat.reduceLeDiff, us_length, h00])
        refine W_cond rfl (fun h => by simp at h) (fun _ => W_exit ?_)
        repeat (first | (refine W_seq ?_) | (refine W_reg ?_) | (refine W_regd ?_) | (refine W_block ?_) | (refine And.intro (by omega) ?_) | simp (maxSteps := 1000000) (disch := omega) only [cA, cB, lk, lkH, Dst.onT, Dst.onX, Dst.slot, setF, setH, mapF, mapH, initF, binE, unE, cnt, boundE, newsE, freshE, opE, rmH, blkQ, frz_us, Nat.reduceEqDiff, Nat.reduceLT, Nat.reduceAdd, ↓reduceIte, reduceCtorEq, Nat.reduceLeDiff])
        refine callC_lend rfl 35 (cells := strs gs) (by simp [lkH]) hrf hne c2 ?_
        repeat (first | (refine W_seq ?_) | (refine W_reg ?_) | (refine W_regd ?_) | (refine W_block ?_) | (refine And.intro (by omega) ?_) | simp (maxSteps := 1000000) (disch := omega) only [cA, cB, lk, lkH, Dst.onT, Dst.onX, Dst.slot, setF, setH, mapF, mapH, initF, binE, unE, cnt, boundE, newsE, freshE, opE, rmH, blkQ, frz_us, Nat.reduceEqDiff, Nat.reduceLT, Nat.reduceAdd, ↓reduceIte, reduceCtorEq, Nat.reduceLeDiff])
        refine callC_lend rfl 35 (cells := strs gs.reverse) (by simp [lkH, setH]) hrf2 hne2 c3 ?_
        repeat (first | (refine W_seq ?_) | (refine W_reg ?_) | (refine W_regd ?_) | (refine W_block ?_) | (refine And.intro (by omega) ?_) | simp (maxSteps := 1000000) (disch := omega) only [cA, cB, lk, lkH, Dst.onT, Dst.onX, Dst.slot, setF, setH, mapF, mapH, initF, binE, unE, cnt, boundE, newsE, freshE, opE, rmH, blkQ, frz_us, Nat.reduceEqDiff, Nat.reduceLT, Nat.reduceAdd, ↓reduceIte, reduceCtorEq, Nat.reduceLeDiff])
        exact W_ret (RetP_1 (.imm rfl))
      · have hlp : decide ((0 : Int) < (limbs n).length) = true := decide_eq_true (by
          have := (limbs_len (n := n) (k := 0))
          rw [Nat.pow_zero] at this
          omega)
        have hr : n % 1000000000 < 1000000000 := Nat.mod_lt _ (by decide)
        have c2 := nShort_calls n 1000000000 (by omega) (by decide) (by decide)
        have c3 := scItoaD (n % 1000000000) (by omega)
        have hs2 : ddE (n / 1000000000) ++ (gs ++ [grp n]).reverse.flatten = ddE N := by
          rw [← hs, ddE_step (by omega : 0 < n)]; simp
        have hl2 : (limbs (n / 1000000000)).length ≤ 900 := Nat.le_trans (len_mono (Nat.div_le_self _ _)) hl
        have hg2 : (gs ++ [grp n]).length ≤ (gs ++ [grp n]).reverse.flatten.length := by
          have := grp_ne n
          simp only [List.length_append, List.length_singleton, List.reverse_append, List.reverse_singleton, List.singleton_append, List.flatten_cons]
          omega
        have hmu : n / 1000000000 < n := Nat.div_lt_self (by omega) (by decide)
        have hgl : gs.length ≤ 10000 := by omega
        have hrl : (decDigits (n % 1000000000)).length ≤ 9 := dd_len (k := 8) hr
        by_cases hq : n / 1000000000 = 0
        · have h00 : (limbs (n / 1000000000)).length = 0 := by rw [hq, limbs_zero]; rfl
          have hgr : grp n = decDigits (n % 1000000000) := by unfold grp; rw [if_pos hq]
          rw [← hgr] at c3
          have hcat : True = True := rfl
          by_cases he : gs = []
          · subst he
            clear hs hg hsl c1 hdl hE
            (replace hs2 := Hid.mk hs2; replace hg2 := Hid.mk hg2; replace hl2 := Hid.mk hl2; replace hmu := Hid.mk hmu)
            repeat (first | (refine W_seq ?_) | (refine W_reg ?_) | (refine W_regd ?_) | (refine W_block ?_) | (refine And.intro (by omega) ?_) | simp (maxSteps := 1000000) (disch := omega) only [cA, cB, lk, lkH, Dst.onT, Dst.onX, Dst.slot, setF, setH, mapF, mapH, initF, binE, unE, cnt, boundE, newsE, freshE, opE, rmH, blkQ, frz_us, Nat.reduceEqDiff, Nat.reduceLT, Nat.reduceAdd, ↓reduceIte, reduceCtorEq, Nat.reduceLeDiff, us_length, hlp, gsD, gsH])
            refine W_cond rfl (fun _ => W_skip ?_) (fun h => by cases h)
            repeat (first | (refine W_seq ?_) | (refine W_reg ?_) | (refine W_regd ?_) | (refine W_block ?_) | (refine And.intro (by omega) ?_) | simp (maxSteps := 1000000) (disch := omega) only [cA, cB, lk, lkH, Dst.onT, Dst.onX, Dst.slot, setF, setH, mapF, mapH, initF, binE, unE, cnt, boundE, newsE, freshE, opE, rmH, blkQ, frz_us, Nat.reduceEqDiff, Nat.reduceLT, Nat.reduceAdd, ↓reduceIte, reduceCtorEq, Nat.reduceLeDiff] | (refine callC_pure (c2) rfl ?_) | (refine callC_pure (c3) rfl ?_) | exact W_ret (RetP_1 (.imm rfl)) | exact W_ret (RetP_c rfl rfl rfl (.imm rfl)))
            repeat (first | (refine W_seq ?_) | (refine W_reg ?_) | (refine W_regd ?_) | (refine W_block ?_) | (refine And.intro (by omega) ?_) | simp (maxSteps := 1000000) (disch := omega) only [cA, cB, lk, lkH, Dst.onT, Dst.onX, Dst.slot, setF, setH, mapF, mapH, initF, binE, unE, cnt, boundE, newsE, freshE, opE, rmH, blkQ, frz_us, Nat.reduceEqDiff, Nat.reduceLT, Nat.reduceAdd, ↓reduceIte, reduceCtorEq, Nat.reduceLeDiff, us_length, h00])
            refine W_cond rfl (fun h => by simp at h) (fun _ => W_skip ?_)
            repeat (first | (refine W_seq ?_) | (refine W_reg ?_) | (refine W_regd ?_) | (refine W_block ?_) | (refine And.intro (by omega) ?_) | simp (maxSteps := 1000000) (disch := omega) only [cA, cB, lk, lkH, Dst.onT, Dst.onX, Dst.slot, setF, setH, mapF, mapH, initF, binE, unE, cnt, boundE, newsE, freshE, opE, rmH, blkQ, frz_us, Nat.reduceEqDiff, Nat.reduceLT, Nat.reduceAdd, ↓reduceIte, reduceCtorEq, Nat.reduceLeDiff, laid_str, newsE, cS, DV.rf, List.mem_singleton, forall_eq, nbnFormat, hcat])
            exact ⟨(n / 1000000000, [] ++ [grp n]), And.intro hs2.out (And.intro hl2.out hg2.out), hmu.out, by simp [subF, lk], by simp [strs]⟩
          · have ed : gsD gs = .osl 1 35 0 gs.length := by unfold gsD; rw [if_neg he]
            have eh : gsH gs = [(35, strs gs)] := by unfold gsH; rw [if_neg he]
            have hsn : (strs gs).length = gs.length := by simp [strs]
            have hpu : (strs gs ++ [DV.str (grp n)]).map (purge 35) = strs (gs ++ [grp n]) := by
              simp only [strs, List.map_append, List.map_map, List.map_singleton]
              rfl
            rw [ed, eh]
            clear hs hg hsl c1 hdl hE
            (replace hs2 := Hid.mk hs2; replace hg2 := Hid.mk hg2; replace hl2 := Hid.mk hl2; replace hmu := Hid.mk hmu)
            repeat (first | (refine W_seq ?_) | (refine W_reg ?_) | (refine W_regd ?_) | (refine W_block ?_) | (refine And.intro (by omega) ?_) | simp (maxSteps := 1000000) (disch := omega) only [cA, cB, lk, lkH, Dst.onT, Dst.onX, Dst.slot, setF, setH, mapF, mapH, initF, binE, unE, cnt, boundE, newsE, freshE, opE, rmH, blkQ, frz_us, Nat.reduceEqDiff, Nat.reduceLT, Nat.reduceAdd, ↓reduceIte, reduceCtorEq, Nat.reduceLeDiff, us_length, hlp])
            refine W_cond rfl (fun _ => W_skip ?_) (fun h => by cases h)
            repeat (first | (refine W_seq ?_) | (refine W_reg ?_) | (refine W_regd ?_) | (refine W_block ?_) | (refine And.intro (by omega) ?_) | simp (maxSteps := 1000000) (disch := omega) only [cA, cB, lk, lkH, Dst.onT, Dst.onX, Dst.slot, setF, setH, mapF, mapH, initF, binE, unE, cnt, boundE, newsE, freshE, opE, rmH, blkQ, frz_us, Nat.reduceEqDiff, Nat.reduceLT, Nat.reduceAdd, ↓reduceIte, reduceCtorEq, Nat.reduceLeDiff] | (refine callC_pure (c2) rfl ?_) | (refine callC_pure (c3) rfl ?_) | exact W_ret (RetP_1 (.imm rfl)) | exact W_ret (RetP_c rfl rfl rfl (.imm rfl)))
            repeat (first | (refine W_seq ?_) | (refine W_reg ?_) | (refine W_regd ?_) | (refine W_block ?_) | (refine And.intro (by omega) ?_) | simp (maxSteps := 1000000) (disch := omega) only [cA, cB, lk, lkH, Dst.onT, Dst.onX, Dst.slot, setF, setH, mapF, mapH, initF, binE, unE, cnt, boundE, newsE, freshE, opE, rmH, blkQ, frz_us, Nat.reduceEqDiff, Nat.reduceLT, Nat.reduceAdd, ↓reduceIte, reduceCtorEq, Nat.reduceLeDiff, us_length, h00])
            refine W_cond rfl (fun h => by simp at h) (fun _ => W_skip ?_)
            repeat (first | (refine W_seq ?_) | (refine W_reg ?_) | (refine W_regd ?_) | (refine W_block ?_) | (refine And.intro (by omega) ?_) | simp (maxSteps := 1000000) (disch := omega) only [cA, cB, lk, lkH, Dst.onT, Dst.onX, Dst.slot, setF, setH, mapF, mapH, initF, binE, unE, cnt, boundE, newsE, freshE, opE, rmH, blkQ, frz_us, Nat.reduceEqDiff, Nat.reduceLT, Nat.reduceAdd, ↓reduceIte, reduceCtorEq, Nat.reduceLeDiff, laid_str, newsE, cS, DV.rf, List.mem_singleton, forall_eq, nbnFormat, hcat, hsn, hpu, List.length_singleton])
            exact ⟨(n / 1000000000, gs ++ [grp n]), And.intro hs2.out (And.intro hl2.out hg2.out), hmu.out, by simp [subF, lk, gsD_snoc], by rw [gsH_snoc]⟩
        · have h00 : decide ((0 : Int) < ((limbs (n / 1000000000)).length : Int)) = true := decide_eq_true (by
            have := (limbs_len (n := n / 1000000000) (k := 0))
            rw [Nat.pow_zero] at this
            omega)
          have hcat : repeatL [48] (9 - (decDigits (n % 1000000000)).length) ++ decDigits (n % 1000000000) = grp n := by unfold grp; rw [if_neg hq]
          have c4 := repeatD [48] (9 - (decDigits (n % 1000000000)).length) (by decide) (by omega)
          have hrp : (repeatL [48] (9 - (decDigits (n % 1000000000)).length)).length = 9 - (decDigits (n % 1000000000)).length := by rw [rep_len]; simp
          have e9 : (9 : Int) - ((decDigits (n % 1000000000)).length : Int) = ((9 - (decDigits (n % 1000000000)).length : Nat) : Int) := by omega
          by_cases he : gs = []
          · subst he
            clear hs hg hsl c1 hdl hE
            (replace hs2 := Hid.mk hs2; replace hg2 := Hid.mk hg2; replace hl2 := Hid.mk hl2; replace hmu := Hid.mk hmu)
            repeat (first | (refine W_seq ?_) | (refine W_reg ?_) | (refine W_regd ?_) | (refine W_block ?_) | (refine And.intro (by omega) ?_) | simp (maxSteps := 1000000) (disch := omega) only [cA, cB, lk, lkH, Dst.onT, Dst.onX, Dst.slot, setF, setH, mapF, mapH, initF, binE, unE, cnt, boundE, newsE, freshE, opE, rmH, blkQ, frz_us, Nat.reduceEqDiff, Nat.reduceLT, Nat.reduceAdd, ↓reduceIte, reduceCtorEq, Nat.reduceLeDiff, us_length, hlp, gsD, gsH])
            refine W_cond rfl (fun _ => W_skip ?_) (fun h => by cases h)
            repeat (first | (refine W_seq ?_) | (refine W_reg ?_) | (refine W_regd ?_) | (refine W_block ?_) | (refine And.intro (by omega) ?_) | simp (maxSteps := 1000000) (disch := omega) only [cA, cB, lk, lkH, Dst.onT, Dst.onX, Dst.slot, setF, setH, mapF, mapH, initF, binE, unE, cnt, boundE, newsE, freshE, opE, rmH, blkQ, frz_us, Nat.reduceEqDiff, Nat.reduceLT, Nat.reduceAdd, ↓reduceIte, reduceCtorEq, Nat.reduceLeDiff] | (refine callC_pure (c2) rfl ?_) | (refine callC_pure (c3) rfl ?_) | exact W_ret (RetP_1 (.imm rfl)) | exact W_ret (RetP_c rfl rfl rfl (.imm rfl)))
            repeat (first | (refine W_seq ?_) | (refine W_reg ?_) | (refine W_regd ?_) | (refine W_block ?_) | (refine And.intro (by omega) ?_) | simp (maxSteps := 1000000) (disch := omega) only [cA, cB, lk, lkH, Dst.onT, Dst.onX, Dst.slot, setF, setH, mapF, mapH, initF, binE, unE, cnt, boundE, newsE, freshE, opE, rmH, blkQ, frz_us, Nat.reduceEqDiff, Nat.reduceLT, Nat.reduceAdd, ↓reduceIte, reduceCtorEq, Nat.reduceLeDiff, us_length, h00])
            refine W_cond rfl (fun _ => ?_) (fun h => by cases h)
            repeat (first | (refine W_seq ?_) | (refine W_reg ?_) | (refine W_regd ?_) | (refine W_block ?_) | (refine And.intro (by omega) ?_) | simp (maxSteps := 1000000) (disch := omega) only [cA, cB, lk, lkH, Dst.onT, Dst.onX, Dst.slot, setF, setH, mapF, mapH, initF, binE, unE, cnt, boundE, newsE, freshE, opE, rmH, blkQ, frz_us, Nat.reduceEqDiff, Nat.reduceLT, Nat.reduceAdd, ↓reduceIte, reduceCtorEq, Nat.reduceLeDiff, e9] | (refine callC_pure (c4) rfl ?_) | exact W_ret (RetP_1 (.imm rfl)) | exact W_ret (RetP_c rfl rfl rfl (.imm rfl)))
            repeat (first | (refine W_seq ?_) | (refine W_reg ?_) | (refine W_regd ?_) | (refine W_block ?_) | (refine And.intro (by omega) ?_) | simp (maxSteps := 1000000) (disch := omega) only [cA, cB, lk, lkH, Dst.onT, Dst.onX, Dst.slot, setF, setH, mapF, mapH, initF, binE, unE, cnt, boundE, newsE, freshE, opE, rmH, blkQ, frz_us, Nat.reduceEqDiff, Nat.reduceLT, Nat.reduceAdd, ↓reduceIte, reduceCtorEq, Nat.reduceLeDiff, laid_str, newsE, cS, DV.rf, List.mem_singleton, forall_eq, nbnFormat, hcat])
            exact ⟨(n / 1000000000, [] ++ [grp n]), And.intro hs2.out (And.intro hl2.out hg2.out), hmu.out, by simp [subF, lk], by simp [strs]⟩
          · have ed : gsD gs = .osl 1 35 0 gs.length := by unfold gsD; rw [if_neg he]
            have eh : gsH gs = [(35, strs gs)] := by unfold gsH; rw [if_neg he]
            have hsn : (strs gs).length = gs.length := by simp [strs]
            have hpu : (strs gs ++ [DV.str (grp n)]).map (purge 35) = strs (gs ++ [grp n]) := by
              simp only [strs, List.map_append, List.map_map, List.map_singleton]
              rfl
            rw [ed, eh]
            clear hs hg hsl c1 hdl hE
            (replace hs2 := Hid.mk hs2; replace hg2 := Hid.mk hg2; replace hl2 := Hid.mk hl2; replace hmu := Hid.mk hmu)
            repeat (first | (refine W_seq ?_) | (refine W_reg ?_) | (refine W_regd ?_) | (refine W_block ?_) | (refine And.intro (by omega) ?_) | simp (maxSteps := 1000000) (disch := omega) only [cA, cB, lk, lkH, Dst.onT, Dst.onX, Dst.slot, setF, setH, mapF, mapH, initF, binE, unE, cnt, boundE, newsE, freshE, opE, rmH, blkQ, frz_us, Nat.reduceEqDiff, Nat.reduceLT, Nat.reduceAdd, ↓reduceIte, reduceCtorEq, Nat.reduceLeDiff, us_length, hlp])
            refine W_cond rfl (fun _ => W_skip ?_) (fun h => by cases h)
            repeat (first | (refine W_seq ?_) | (refine W_reg ?_) | (refine W_regd ?_) | (refine W_block ?_) | (refine And.intro (by omega) ?_) | simp (maxSteps := 1000000) (disch := omega) only [cA, cB, lk, lkH, Dst.onT, Dst.onX, Dst.slot, setF, setH, mapF, mapH, initF, binE, unE, cnt, boundE, newsE, freshE, opE, rmH, blkQ, frz_us, Nat.reduceEqDiff, Nat.reduceLT, Nat.reduceAdd, ↓reduceIte, reduceCtorEq, Nat.reduceLeDiff] | (refine callC_pure (c2) rfl ?_) | (refine callC_pure (c3) rfl ?_) | exact W_ret (RetP_1 (.imm rfl)) | exact W_ret (RetP_c rfl rfl rfl (.imm rfl)))
            repeat (first | (refine W_seq ?_) | (refine W_reg ?_) | (refine W_regd ?_) | (refine W_block ?_) | (refine And.intro (by omega) ?_) | simp (maxSteps := 1000000) (disch := omega) only [cA, cB, lk, lkH, Dst.onT, Dst.onX, Dst.slot, setF, setH, mapF, mapH, initF, binE, unE, cnt, boundE, newsE, freshE, opE, rmH, blkQ, frz_us, Nat.reduceEqDiff, Nat.reduceLT, Nat.reduceAdd, ↓reduceIte, reduceCtorEq, Nat.reduceLeDiff, us_length, h00])
            refine W_cond rfl (fun _ => ?_) (fun h => by cases h)
            repeat (first | (refine W_seq ?_) | (refine W_reg ?_) | (refine W_regd ?_) | (refine W_block ?_) | (refine And.intro (by omega) ?_) | simp (maxSteps := 1000000) (disch := omega) only [cA, cB, lk, lkH, Dst.onT, Dst.onX, Dst.slot, setF, setH, mapF, mapH, initF, binE, unE, cnt, boundE, newsE, freshE, opE, rmH, blkQ, frz_us, Nat.reduceEqDiff, Nat.reduceLT, Nat.reduceAdd, ↓reduceIte, reduceCtorEq, Nat.reduceLeDiff, e9] | (refine callC_pure (c4) rfl ?_) | exact W_ret (RetP_1 (.imm rfl)) | exact W_ret (RetP_c rfl rfl rfl (.imm rfl)))
            repeat (first | (refine W_seq ?_) | (refine W_reg ?_) | (refine W_regd ?_) | (refine W_block ?_) | (refine And.intro (by omega) ?_) | simp (maxSteps := 1000000) (disch := omega) only [cA, cB, lk, lkH, Dst.onT, Dst.onX, Dst.slot, setF, setH, mapF, mapH, initF, binE, unE, cnt, boundE, newsE, freshE, opE, rmH, blkQ, frz_us, Nat.reduceEqDiff, Nat.reduceLT, Nat.reduceAdd, ↓reduceIte, reduceCtorEq, Nat.reduceLeDiff, laid_str, newsE, cS, DV.rf, List.mem_singleton, forall_eq, nbnFormat, hcat, hsn, hpu, List.length_singleton])
            exact ⟨(n / 1000000000, gs ++ [grp n]), And.intro hs2.out (And.intro hl2.out hg2.out), hmu.out, by simp [subF, lk, gsD_snoc], by rw [gsH_snoc]⟩
end Go.Proofs.YteiagmmfapbaiaaGreatDoor
namespace Go.Proofs.YteiagmmfapbaiaaGreatDoor
open Go Go.Dat Go.Proofs Nat32
def parseR (l : List UInt8) : DV := if okD l then .tup [.sl 1 (us (limbs (dval 0 l))), .bool true] else .tup [.sl 1 [], .bool false]
theorem parseR_bad {l : List UInt8} (h : okD l = false) : parseR l = .tup [.sl 1 [], .bool false] := by unfold parseR; rw [h]; rfl
def accD (l : List UInt8) (i : Nat) : DV := if i = 0 then .nils else .sl 1 (us (limbs (dval 0 (l.take i))))
theorem okD_iff (l : List UInt8) : okD l = true ↔ l ≠ [] ∧ l.length ≤ 4000 ∧ ¬ (l.head? = some 48 ∧ 1 < l.length) ∧ l.all isD = true := by
  unfold okD
  cases l with
  | nil => simp
  | cons c l =>
    simp only [List.isEmpty_cons, Bool.false_or, Bool.and_eq_true, Bool.not_eq_true', Bool.or_eq_false_iff, decide_eq_false_iff_not, Bool.and_eq_false_iff]
    constructor
    · rintro ⟨⟨h1, h2⟩, h3⟩
      exact ⟨by simp, by omega, fun h => h2.elim (fun e => e h.1) (fun e => e h.2), h3⟩
    · rintro ⟨_, h1, h2, h3⟩
      refine ⟨⟨by omega, ?_⟩, h3⟩
      by_cases e : (c :: l).head? = some 48
      · exact .inr fun h => h2 ⟨e, h⟩
      · exact .inl e
theorem dval_len {l : List UInt8} (h : l.all isD = true) {m : Nat} (hm : l.length ≤ m) : (limbs (dval 0 l)).length ≤ m :=
  limbs_len.2 (Nat.lt_of_lt_of_le (dval_lt l h) (Nat.le_trans (Nat.pow_le_pow_left (by decide) _) (Nat.pow_le_pow_right (by decide) hm)))
theorem take_all {l : List UInt8} {i : Nat} (hi : i < l.length) (h : (l.take i).all isD = true) (hd : isD l[i] = true) : (l.take (i + 1)).all isD = true := by
  rw [List.take_succ_eq_append_getElem hi, List.all_append, h]; simp [hd]
theorem take_dval {l : List UInt8} {i : Nat} (hi : i < l.length) : dval 0 (l.take (i + 1)) = dval 0 (l.take i) * 10 + (l[i].toNat - 48) := by
  rw [List.take_succ_eq_append_getElem hi, dval_append, dval_cons, dval_nil, Nat.mul_comm]
end Go.Proofs.YteiagmmfapbaiaaGreatDoor
