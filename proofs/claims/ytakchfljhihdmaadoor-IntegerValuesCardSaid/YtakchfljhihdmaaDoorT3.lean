/- Lemmas of the walk; no conditions beyond those that each states. -/
import Derived.Test.YtakchfljhihdmaaDoorT2
set_option linter.unusedSimpArgs false
set_option linter.unusedVariables false
set_option linter.unnecessarySimpa false
namespace Go.Proofs.YtakchfljhihdmaaDoor
open Go Go.Dat Go.Proofs Nat32

set_option maxHeartbeats 4000000 in
theorem liValues_calls (n1 : Bool) (a : List Nat) (n2 : Bool) (b : List Nat) (v : Int) (la : lim a) (lb : lim b) (hv1 : -9223372036854775808 ≤ v) (hv2 : v ≤ 9223372036854775807) : PCalls Tryd.prog 4 [X n1 a, X n2 b, .int .i64 v] (.bool true) := by
  have c1 := li_light_calls n1 a
  have c2 := li_light_calls n2 b
  refine PCalls_of isliIntegerValues (by simp [fnliIntegerValues]) ?_
  unfold codeliIntegerValues
  by_cases h1 : a.length ≤ 10
  · rw [decide_eq_true h1] at c1
    by_cases h2 : b.length ≤ 10
    · rw [decide_eq_true h2] at c2
      have hl : (limbs v.natAbs).length ≤ 2 := limbs_len.2 (show v.natAbs < 4294967296 ^ 2 by omega)
      have f1 := iFromInt_calls v hv1 hv2
      have f2 := sFromInt_calls v hv1 hv2
      have f3 := iSameL v v rfl (by unfold il; omega)
      have i1 : il (iv n1 a) ≤ 10 := Nat.le_trans (iv_len la n1) h1
      have t1 := iToInt_calls n1 a (by omega) la
      have t2 := sToInt_calls n1 a (by omega) la
      have v1 := iValid_calls n1 a (by omega)
      have v2 := sValid_calls n1 a (by omega)
      have s1 := iSign_calls n1 a (by omega) la
      have s2 := sSign_calls n1 a (by omega) la
      have g1 := iNeg_calls n1 a (by omega) la
      have g2 := sNeg_calls n1 a (by omega) la
      have k1 := iCompare_calls n1 a n2 b (by omega) (by omega) la lb
      have k2 := sCompare_calls n1 a n2 b (by omega) (by omega) la lb
      have g3 := iSameL (-(iv n1 a)) (-(iv n1 a)) rfl (by rw [il_neg]; omega)
      (replace hv1 := Hid.mk hv1; replace hv2 := Hid.mk hv2; replace hl := Hid.mk hl; replace i1 := Hid.mk i1; replace h1 := Hid.mk h1; replace h2 := Hid.mk h2)
      generalize (iv n1 a).sign = sg at *
      generalize cmpI (iv n1 a) (iv n2 b) = cp at *
      generalize vldI n1 a = vd at *
      repeat (first | (refine W_seq ?_) | (refine W_reg ?_) | (refine W_regd ?_) | (refine W_block ?_) | (refine And.intro (by omega) ?_) | simp (config := {maxSteps := 1000000}) (disch := omega) only [cA, cB, lk, lkH, Dst.onT, Dst.onX, Dst.slot, setF, setH, mapF, mapH, initF, binE, unE, cnt, boundE, newsE, freshE, opE, rmH, blkQ, frz_us, Nat.reduceEqDiff, Nat.reduceLT, Nat.reduceAdd, ↓reduceIte, reduceCtorEq, Nat.reduceLeDiff, X, cS, nbliIntegerValues] | (refine callC_pure (c1) rfl ?_) | (refine callC_pure (c2) rfl ?_) | exact W_ret (RetP_1 (.imm rfl)) | exact W_ret (RetP_c rfl rfl rfl (.imm rfl)))
      refine W_cond rfl (fun h => by cases h) (fun _ => W_skip ?_)
      unfold toIntR at t1 t2
      generalize iv n1 a = x at *
      split at t1
      · next hr =>
        rw [if_pos hr] at t2
        (replace hr := Hid.mk hr)
        repeat (first | (refine W_seq ?_) | (refine W_reg ?_) | (refine W_regd ?_) | (refine W_block ?_) | (refine And.intro (by omega) ?_) | simp (config := {maxSteps := 1000000}) (disch := omega) only [cA, cB, lk, lkH, Dst.onT, Dst.onX, Dst.slot, setF, setH, mapF, mapH, initF, binE, unE, cnt, boundE, newsE, freshE, opE, rmH, blkQ, frz_us, Nat.reduceEqDiff, Nat.reduceLT, Nat.reduceAdd, ↓reduceIte, reduceCtorEq, Nat.reduceLeDiff, X, I, cS, nbliIntegerValues, beq_self_eq_true, decide_true] | (refine callC_pure (li_awake_calls) rfl ?_) | (refine callC_pure (t1) rfl ?_) | (refine callC_pure (t2) rfl ?_) | (refine callC_pure (v1) rfl ?_) | (refine callC_pure (v2) rfl ?_) | (refine callC_pure (f1) rfl ?_) | (refine callC_pure (f2) rfl ?_) | (refine callC_pure (f3) rfl ?_) | (refine callC_pure (s1) rfl ?_) | (refine callC_pure (s2) rfl ?_) | (refine callC_pure (g1) rfl ?_) | (refine callC_pure (g2) rfl ?_) | (refine callC_pure (g3) rfl ?_) | (refine callC_pure (k1) rfl ?_) | (refine callC_pure (k2) rfl ?_) | exact W_ret (RetP_1 (.imm rfl)) | exact W_ret (RetP_c rfl rfl rfl (.imm rfl)))
      · next hr =>
        rw [if_neg hr] at t2
        (replace hr := Hid.mk hr)
        repeat (first | (refine W_seq ?_) | (refine W_reg ?_) | (refine W_regd ?_) | (refine W_block ?_) | (refine And.intro (by omega) ?_) | simp (config := {maxSteps := 1000000}) (disch := omega) only [cA, cB, lk, lkH, Dst.onT, Dst.onX, Dst.slot, setF, setH, mapF, mapH, initF, binE, unE, cnt, boundE, newsE, freshE, opE, rmH, blkQ, frz_us, Nat.reduceEqDiff, Nat.reduceLT, Nat.reduceAdd, ↓reduceIte, reduceCtorEq, Nat.reduceLeDiff, X, I, cS, nbliIntegerValues, beq_self_eq_true, decide_true] | (refine callC_pure (li_awake_calls) rfl ?_) | (refine callC_pure (t1) rfl ?_) | (refine callC_pure (t2) rfl ?_) | (refine callC_pure (v1) rfl ?_) | (refine callC_pure (v2) rfl ?_) | (refine callC_pure (f1) rfl ?_) | (refine callC_pure (f2) rfl ?_) | (refine callC_pure (f3) rfl ?_) | (refine callC_pure (s1) rfl ?_) | (refine callC_pure (s2) rfl ?_) | (refine callC_pure (g1) rfl ?_) | (refine callC_pure (g2) rfl ?_) | (refine callC_pure (g3) rfl ?_) | (refine callC_pure (k1) rfl ?_) | (refine callC_pure (k2) rfl ?_) | exact W_ret (RetP_1 (.imm rfl)) | exact W_ret (RetP_c rfl rfl rfl (.imm rfl)))
    · rw [decide_eq_false h2] at c2
      repeat (first | (refine W_seq ?_) | (refine W_reg ?_) | (refine W_regd ?_) | (refine W_block ?_) | (refine And.intro (by omega) ?_) | simp (config := {maxSteps := 1000000}) (disch := omega) only [cA, cB, lk, lkH, Dst.onT, Dst.onX, Dst.slot, setF, setH, mapF, mapH, initF, binE, unE, cnt, boundE, newsE, freshE, opE, rmH, blkQ, frz_us, Nat.reduceEqDiff, Nat.reduceLT, Nat.reduceAdd, ↓reduceIte, reduceCtorEq, Nat.reduceLeDiff, X, cS, nbliIntegerValues] | (refine callC_pure (c1) rfl ?_) | (refine callC_pure (c2) rfl ?_) | exact W_ret (RetP_1 (.imm rfl)) | exact W_ret (RetP_c rfl rfl rfl (.imm rfl)))
      refine W_cond rfl (fun _ => ?_) (fun h => by cases h)
      repeat (first | (refine W_seq ?_) | (refine W_reg ?_) | (refine W_regd ?_) | (refine W_block ?_) | (refine And.intro (by omega) ?_) | simp (config := {maxSteps := 1000000}) (disch := omega) only [cA, cB, lk, lkH, Dst.onT, Dst.onX, Dst.slot, setF, setH, mapF, mapH, initF, binE, unE, cnt, boundE, newsE, freshE, opE, rmH, blkQ, frz_us, Nat.reduceEqDiff, Nat.reduceLT, Nat.reduceAdd, ↓reduceIte, reduceCtorEq, Nat.reduceLeDiff, X, cS, nbliIntegerValues] | (refine callC_pure (li_awake_calls) rfl ?_) | exact W_ret (RetP_1 (.imm rfl)) | exact W_ret (RetP_c rfl rfl rfl (.imm rfl)))
  · rw [decide_eq_false h1] at c1
    repeat (first | (refine W_seq ?_) | (refine W_reg ?_) | (refine W_regd ?_) | (refine W_block ?_) | (refine And.intro (by omega) ?_) | simp (config := {maxSteps := 1000000}) (disch := omega) only [cA, cB, lk, lkH, Dst.onT, Dst.onX, Dst.slot, setF, setH, mapF, mapH, initF, binE, unE, cnt, boundE, newsE, freshE, opE, rmH, blkQ, frz_us, Nat.reduceEqDiff, Nat.reduceLT, Nat.reduceAdd, ↓reduceIte, reduceCtorEq, Nat.reduceLeDiff, X, cS, nbliIntegerValues] | (refine callC_pure (c1) rfl ?_) | (refine callC_pure (c2) rfl ?_) | exact W_ret (RetP_1 (.imm rfl)) | exact W_ret (RetP_c rfl rfl rfl (.imm rfl)))
    refine W_cond rfl (fun _ => ?_) (fun h => by cases h)
    repeat (first | (refine W_seq ?_) | (refine W_reg ?_) | (refine W_regd ?_) | (refine W_block ?_) | (refine And.intro (by omega) ?_) | simp (config := {maxSteps := 1000000}) (disch := omega) only [cA, cB, lk, lkH, Dst.onT, Dst.onX, Dst.slot, setF, setH, mapF, mapH, initF, binE, unE, cnt, boundE, newsE, freshE, opE, rmH, blkQ, frz_us, Nat.reduceEqDiff, Nat.reduceLT, Nat.reduceAdd, ↓reduceIte, reduceCtorEq, Nat.reduceLeDiff, X, cS, nbliIntegerValues] | (refine callC_pure (li_awake_calls) rfl ?_) | exact W_ret (RetP_1 (.imm rfl)) | exact W_ret (RetP_c rfl rfl rfl (.imm rfl)))
end Go.Proofs.YtakchfljhihdmaaDoor
