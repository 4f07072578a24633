/- Lemmas of the walk; no conditions beyond those that each states. -/
import Derived.Test.YtakchfljhihdmaaDoorT2
set_option linter.unusedSimpArgs false
set_option linter.unusedVariables false
set_option linter.unnecessarySimpa false
namespace Go.Proofs.YtakchfljhihdmaaDoor
open Go Go.Dat Go.Proofs Nat32

def toIntR (z : Int) : DV := if -9223372036854775808 ≤ z ∧ z < 9223372036854775808 then .tup [.int .i64 z, .bool true] else .tup [.int .i64 0, .bool false]
theorem iToInt_calls (neg : Bool) (a : List Nat) (ha : a.length ≤ 100000) (la : lim a) : PCalls Tryd.prog 19 [X neg a] (toIntR (iv neg a)) := by
  have cv := i_value_calls neg a (by omega) la
  have l1 := iv_len la neg
  refine PCalls_of isiToInt (by simp [fniToInt]) ?_
  unfold codeiToInt toIntR
  generalize iv neg a = z at *
  have cu := nUint_calls (limbs z.natAbs) (by omega) (lim_limbs _)
  rw [vn_limbs] at cu
  unfold uintR at cu
  by_cases hl : (limbs z.natAbs).length > 2
  · rw [if_pos hl] at cu
    have hb : ¬ z.natAbs < 18446744073709551616 := fun h => by
      have := limbs_len.2 (show z.natAbs < 4294967296 ^ 2 from h)
      omega
    rw [if_neg (by omega)]
    repeat (first | (refine W_seq ?_) | (refine W_reg ?_) | (refine W_regd ?_) | (refine W_block ?_) | (refine And.intro (by omega) ?_) | simp (config := {maxSteps := 1000000}) (disch := omega) only [cA, cB, lk, lkH, Dst.onT, Dst.onX, Dst.slot, setF, setH, mapF, mapH, initF, binE, unE, cnt, boundE, newsE, freshE, opE, rmH, blkQ, frz_us, Nat.reduceEqDiff, Nat.reduceLT, Nat.reduceAdd, ↓reduceIte, reduceCtorEq, Nat.reduceLeDiff, X, I, cS, nbiToInt] | (refine callC_pure (cv) rfl ?_) | (refine callC_pure (cu) rfl ?_) | exact W_ret (RetP_1 (.imm rfl)) | exact W_ret (RetP_c rfl rfl rfl (.imm rfl)))
    refine W_cond rfl (fun _ => ?_) (fun h => by cases h)
    repeat (first | (refine W_seq ?_) | (refine W_reg ?_) | (refine W_regd ?_) | (refine W_block ?_) | (refine And.intro (by omega) ?_) | simp (config := {maxSteps := 1000000}) (disch := omega) only [cA, cB, lk, lkH, Dst.onT, Dst.onX, Dst.slot, setF, setH, mapF, mapH, initF, binE, unE, cnt, boundE, newsE, freshE, opE, rmH, blkQ, frz_us, Nat.reduceEqDiff, Nat.reduceLT, Nat.reduceAdd, ↓reduceIte, reduceCtorEq, Nat.reduceLeDiff])
    exact W_ret (RetP_2 (.imm rfl) (.imm rfl))
  · rw [if_neg hl] at cu
    have hb := limbs_le2 (show (limbs z.natAbs).length ≤ 2 by omega)
    repeat (first | (refine W_seq ?_) | (refine W_reg ?_) | (refine W_regd ?_) | (refine W_block ?_) | (refine And.intro (by omega) ?_) | simp (config := {maxSteps := 1000000}) (disch := omega) only [cA, cB, lk, lkH, Dst.onT, Dst.onX, Dst.slot, setF, setH, mapF, mapH, initF, binE, unE, cnt, boundE, newsE, freshE, opE, rmH, blkQ, frz_us, Nat.reduceEqDiff, Nat.reduceLT, Nat.reduceAdd, ↓reduceIte, reduceCtorEq, Nat.reduceLeDiff, X, I, cS, nbiToInt] | (refine callC_pure (cv) rfl ?_) | (refine callC_pure (cu) rfl ?_) | exact W_ret (RetP_1 (.imm rfl)) | exact W_ret (RetP_c rfl rfl rfl (.imm rfl)))
    refine W_cond rfl (fun h => by cases h) (fun _ => ?_)
    by_cases hz : z < 0
    · have dz : decide (z < 0) = true := decide_eq_true hz
      by_cases hn : z.natAbs ≤ 9223372036854775808
      · have dn : decide ((z.natAbs : Int) ≤ 9223372036854775808) = true := decide_eq_true (by omega)
        have e1 : IntKind.i64.wrap (IntKind.u64.wrap (0 - (z.natAbs : Int))) = z := by rw [IntKind.wrap_u64, IntKind.wrap_i64]; omega
        rw [if_pos (by omega)]
        repeat (first | (refine W_seq ?_) | (refine W_reg ?_) | (refine W_regd ?_) | (refine W_block ?_) | (refine And.intro (by omega) ?_) | simp (config := {maxSteps := 1000000}) (disch := omega) only [cA, cB, lk, lkH, Dst.onT, Dst.onX, Dst.slot, setF, setH, mapF, mapH, initF, binE, unE, cnt, boundE, newsE, freshE, opE, rmH, blkQ, frz_us, Nat.reduceEqDiff, Nat.reduceLT, Nat.reduceAdd, ↓reduceIte, reduceCtorEq, Nat.reduceLeDiff, cS, dz, dn])
        refine W_cond rfl (fun _ => ?_) (fun h => by cases h)
        repeat (first | (refine W_seq ?_) | (refine W_reg ?_) | (refine W_regd ?_) | (refine W_block ?_) | (refine And.intro (by omega) ?_) | simp (config := {maxSteps := 1000000}) (disch := omega) only [cA, cB, lk, lkH, Dst.onT, Dst.onX, Dst.slot, setF, setH, mapF, mapH, initF, binE, unE, cnt, boundE, newsE, freshE, opE, rmH, blkQ, frz_us, Nat.reduceEqDiff, Nat.reduceLT, Nat.reduceAdd, ↓reduceIte, reduceCtorEq, Nat.reduceLeDiff, cS, e1])
        exact W_ret (RetP_2 (.imm rfl) (.imm rfl))
      · have dn : decide ((z.natAbs : Int) ≤ 9223372036854775808) = false := decide_eq_false (by omega)
        rw [if_neg (by omega)]
        repeat (first | (refine W_seq ?_) | (refine W_reg ?_) | (refine W_regd ?_) | (refine W_block ?_) | (refine And.intro (by omega) ?_) | simp (config := {maxSteps := 1000000}) (disch := omega) only [cA, cB, lk, lkH, Dst.onT, Dst.onX, Dst.slot, setF, setH, mapF, mapH, initF, binE, unE, cnt, boundE, newsE, freshE, opE, rmH, blkQ, frz_us, Nat.reduceEqDiff, Nat.reduceLT, Nat.reduceAdd, ↓reduceIte, reduceCtorEq, Nat.reduceLeDiff, cS, dz, dn])
        refine W_cond rfl (fun h => by cases h) (fun _ => ?_)
        repeat (first | (refine W_seq ?_) | (refine W_reg ?_) | (refine W_regd ?_) | (refine W_block ?_) | (refine And.intro (by omega) ?_) | simp (config := {maxSteps := 1000000}) (disch := omega) only [cA, cB, lk, lkH, Dst.onT, Dst.onX, Dst.slot, setF, setH, mapF, mapH, initF, binE, unE, cnt, boundE, newsE, freshE, opE, rmH, blkQ, frz_us, Nat.reduceEqDiff, Nat.reduceLT, Nat.reduceAdd, ↓reduceIte, reduceCtorEq, Nat.reduceLeDiff, cS, dz])
        refine W_cond rfl (fun h => by cases h) (fun _ => W_skip ?_)
        repeat (first | (refine W_seq ?_) | (refine W_reg ?_) | (refine W_regd ?_) | (refine W_block ?_) | (refine And.intro (by omega) ?_) | simp (config := {maxSteps := 1000000}) (disch := omega) only [cA, cB, lk, lkH, Dst.onT, Dst.onX, Dst.slot, setF, setH, mapF, mapH, initF, binE, unE, cnt, boundE, newsE, freshE, opE, rmH, blkQ, frz_us, Nat.reduceEqDiff, Nat.reduceLT, Nat.reduceAdd, ↓reduceIte, reduceCtorEq, Nat.reduceLeDiff, cS])
        exact W_ret (RetP_2 (.imm rfl) (.imm rfl))
    · have dz : decide (z < 0) = false := decide_eq_false hz
      repeat (first | (refine W_seq ?_) | (refine W_reg ?_) | (refine W_regd ?_) | (refine W_block ?_) | (refine And.intro (by omega) ?_) | simp (config := {maxSteps := 1000000}) (disch := omega) only [cA, cB, lk, lkH, Dst.onT, Dst.onX, Dst.slot, setF, setH, mapF, mapH, initF, binE, unE, cnt, boundE, newsE, freshE, opE, rmH, blkQ, frz_us, Nat.reduceEqDiff, Nat.reduceLT, Nat.reduceAdd, ↓reduceIte, reduceCtorEq, Nat.reduceLeDiff, cS, dz])
      refine W_cond rfl (fun h => by cases h) (fun _ => ?_)
      by_cases hn : z.natAbs < 9223372036854775808
      · have dn : decide ((z.natAbs : Int) < 9223372036854775808) = true := decide_eq_true (by omega)
        have e1 : IntKind.i64.wrap (z.natAbs : Int) = z := by rw [IntKind.wrap_i64]; omega
        rw [if_pos (by omega)]
        repeat (first | (refine W_seq ?_) | (refine W_reg ?_) | (refine W_regd ?_) | (refine W_block ?_) | (refine And.intro (by omega) ?_) | simp (config := {maxSteps := 1000000}) (disch := omega) only [cA, cB, lk, lkH, Dst.onT, Dst.onX, Dst.slot, setF, setH, mapF, mapH, initF, binE, unE, cnt, boundE, newsE, freshE, opE, rmH, blkQ, frz_us, Nat.reduceEqDiff, Nat.reduceLT, Nat.reduceAdd, ↓reduceIte, reduceCtorEq, Nat.reduceLeDiff, cS, dz, dn])
        refine W_cond rfl (fun _ => ?_) (fun h => by cases h)
        repeat (first | (refine W_seq ?_) | (refine W_reg ?_) | (refine W_regd ?_) | (refine W_block ?_) | (refine And.intro (by omega) ?_) | simp (config := {maxSteps := 1000000}) (disch := omega) only [cA, cB, lk, lkH, Dst.onT, Dst.onX, Dst.slot, setF, setH, mapF, mapH, initF, binE, unE, cnt, boundE, newsE, freshE, opE, rmH, blkQ, frz_us, Nat.reduceEqDiff, Nat.reduceLT, Nat.reduceAdd, ↓reduceIte, reduceCtorEq, Nat.reduceLeDiff, cS, e1])
        exact W_ret (RetP_2 (.imm rfl) (.imm rfl))
      · have dn : decide ((z.natAbs : Int) < 9223372036854775808) = false := decide_eq_false (by omega)
        rw [if_neg (by omega)]
        repeat (first | (refine W_seq ?_) | (refine W_reg ?_) | (refine W_regd ?_) | (refine W_block ?_) | (refine And.intro (by omega) ?_) | simp (config := {maxSteps := 1000000}) (disch := omega) only [cA, cB, lk, lkH, Dst.onT, Dst.onX, Dst.slot, setF, setH, mapF, mapH, initF, binE, unE, cnt, boundE, newsE, freshE, opE, rmH, blkQ, frz_us, Nat.reduceEqDiff, Nat.reduceLT, Nat.reduceAdd, ↓reduceIte, reduceCtorEq, Nat.reduceLeDiff, cS, dz, dn])
        refine W_cond rfl (fun h => by cases h) (fun _ => W_skip ?_)
        repeat (first | (refine W_seq ?_) | (refine W_reg ?_) | (refine W_regd ?_) | (refine W_block ?_) | (refine And.intro (by omega) ?_) | simp (config := {maxSteps := 1000000}) (disch := omega) only [cA, cB, lk, lkH, Dst.onT, Dst.onX, Dst.slot, setF, setH, mapF, mapH, initF, binE, unE, cnt, boundE, newsE, freshE, opE, rmH, blkQ, frz_us, Nat.reduceEqDiff, Nat.reduceLT, Nat.reduceAdd, ↓reduceIte, reduceCtorEq, Nat.reduceLeDiff, cS])
        exact W_ret (RetP_2 (.imm rfl) (.imm rfl))
theorem dmod_len {x y n : Nat} (hx : (limbs x).length ≤ n) : (limbs (dmod x y)).length ≤ n := by
  unfold dmod
  split
  · rw [limbs_zero]; simp
  · exact Nat.le_trans (len_mono (Nat.mod_le _ _)) hx
theorem I0 : I 0 = .agg [.bool false, .sl 1 []] := by unfold I; rw [show (0 : Int).natAbs = 0 from rfl, limbs_zero]; rfl
theorem sgnf (n : Nat) : sgn false n = n := rfl
theorem iDiv_calls (n1 : Bool) (a : List Nat) (n2 : Bool) (b : List Nat) (ha : a.length ≤ 10000) (hb : b.length ≤ 10000) (la : lim a) (lb : lim b) :
    PCalls Tryd.prog 29 [X n1 a, X n2 b] (.tup [I (iv n1 a / iv n2 b), I (imod (iv n1 a) (iv n2 b)), .bool (decide (¬ iv n2 b = 0))]) := by
  have cv := i_value_calls n1 a (by omega) la
  have cw := i_value_calls n2 b (by omega) lb
  have l1 := iv_len la n1
  have l2 := iv_len lb n2
  generalize iv n1 a = x at *
  generalize iv n2 b = y at *
  have cd := nDivL x.natAbs y.natAbs (by omega) (by omega)
  have lq := len_mono (Nat.div_le_self x.natAbs y.natAbs)
  refine PCalls_of isiDiv (by simp [fniDiv]) ?_
  unfold codeiDiv imod
  by_cases hy : y = 0
  · subst hy
    rw [decide_eq_false (show ¬ 0 < (0 : Int).natAbs by decide)] at cd
    repeat (first | (refine W_seq ?_) | (refine W_reg ?_) | (refine W_regd ?_) | (refine W_block ?_) | (refine And.intro (by omega) ?_) | simp (config := {maxSteps := 1000000}) (disch := omega) only [cA, cB, lk, lkH, Dst.onT, Dst.onX, Dst.slot, setF, setH, mapF, mapH, initF, binE, unE, cnt, boundE, newsE, freshE, opE, rmH, blkQ, frz_us, Nat.reduceEqDiff, Nat.reduceLT, Nat.reduceAdd, ↓reduceIte, reduceCtorEq, Nat.reduceLeDiff, X, I, cS, nbiDiv] | (refine callC_pure (cv) rfl ?_) | (refine callC_pure (cw) rfl ?_) | (refine callC_pure (cd) rfl ?_) | exact W_ret (RetP_1 (.imm rfl)) | exact W_ret (RetP_c rfl rfl rfl (.imm rfl)))
    refine W_cond rfl (fun _ => ?_) (fun h => by cases h)
    repeat (first | (refine W_seq ?_) | (refine W_reg ?_) | (refine W_regd ?_) | (refine W_block ?_) | (refine And.intro (by omega) ?_) | simp (config := {maxSteps := 1000000}) (disch := omega) only [cA, cB, lk, lkH, Dst.onT, Dst.onX, Dst.slot, setF, setH, mapF, mapH, initF, binE, unE, cnt, boundE, newsE, freshE, opE, rmH, blkQ, frz_us, Nat.reduceEqDiff, Nat.reduceLT, Nat.reduceAdd, ↓reduceIte, reduceCtorEq, Nat.reduceLeDiff, cS])
    refine W_ret (RetP_cct rfl rfl rfl rfl rfl rfl ?_ ?_ (.imm rfl))
    · rw [Int.ediv_zero]
      have := Exp_bn (h := lkH [(2, [DV.bool (decide (x < 0)), DV.sl 1 (us (limbs x.natAbs))]), (3, [DV.bool (decide ((0 : Int) < 0)), DV.sl 1 (us (limbs (0 : Int).natAbs))]), (4, [DV.bool false, DV.nils]), (5, [DV.bool false, DV.nils])]) false 1
      rw [← I0] at this
      exact this
    · have := Exp_bn (h := lkH [(2, [DV.bool (decide (x < 0)), DV.sl 1 (us (limbs x.natAbs))]), (3, [DV.bool (decide ((0 : Int) < 0)), DV.sl 1 (us (limbs (0 : Int).natAbs))]), (4, [DV.bool false, DV.nils]), (5, [DV.bool false, DV.nils])]) false 1
      rw [← I0] at this
      exact this
  · have hy0 : 0 < y.natAbs := by omega
    rw [decide_eq_true hy0, dmod_pos hy0] at cd
    rw [decide_eq_true hy, if_neg hy]
    have lr := len_mono (Nat.mod_le x.natAbs y.natAbs)
    have hm := Nat.mod_lt x.natAbs hy0
    repeat (first | (refine W_seq ?_) | (refine W_reg ?_) | (refine W_regd ?_) | (refine W_block ?_) | (refine And.intro (by omega) ?_) | simp (config := {maxSteps := 1000000}) (disch := omega) only [cA, cB, lk, lkH, Dst.onT, Dst.onX, Dst.slot, setF, setH, mapF, mapH, initF, binE, unE, cnt, boundE, newsE, freshE, opE, rmH, blkQ, frz_us, Nat.reduceEqDiff, Nat.reduceLT, Nat.reduceAdd, ↓reduceIte, reduceCtorEq, Nat.reduceLeDiff, X, I, cS, nbiDiv] | (refine callC_pure (cv) rfl ?_) | (refine callC_pure (cw) rfl ?_) | (refine callC_pure (cd) rfl ?_) | exact W_ret (RetP_1 (.imm rfl)) | exact W_ret (RetP_c rfl rfl rfl (.imm rfl)))
    refine W_cond rfl (fun h => by cases h) (fun _ => W_skip ?_)
    by_cases hf : x < 0 ∧ 0 < x.natAbs % y.natAbs
    · obtain ⟨f1, f2⟩ := div_fix x y hy hf.1 hf.2
      have dx : decide (x < 0) = true := decide_eq_true hf.1
      have dr : decide (0 < x.natAbs % y.natAbs) = true := decide_eq_true hf.2
      have o1 : (limbs 1).length ≤ 10000 := by rw [limbs1]; simp
      have ca := nAddL (x.natAbs / y.natAbs) 1 (by omega) (by omega)
      have cb := nSub_calls (limbs y.natAbs) (limbs (x.natAbs % y.natAbs)) (by omega) (by omega) (lim_limbs _) (lim_limbs _)
      rw [vn_limbs, vn_limbs] at cb
      have s1 := i_signed_calls (!(decide (x < 0) == decide (y < 0))) (x.natAbs / y.natAbs + 1)
      have s2 := i_signed_calls false (y.natAbs - x.natAbs % y.natAbs)
      rw [f1, dx] at s1
      rw [f2] at s2
      clear hf f1 f2 hm o1
      repeat (first | (refine W_seq ?_) | (refine W_reg ?_) | (refine W_regd ?_) | (refine W_block ?_) | (refine And.intro (by omega) ?_) | simp (config := {maxSteps := 1000000}) (disch := omega) only [cA, cB, lk, lkH, Dst.onT, Dst.onX, Dst.slot, setF, setH, mapF, mapH, initF, binE, unE, cnt, boundE, newsE, freshE, opE, rmH, blkQ, frz_us, Nat.reduceEqDiff, Nat.reduceLT, Nat.reduceAdd, ↓reduceIte, reduceCtorEq, Nat.reduceLeDiff, X, I, cS, nbiDiv, us_length, len_gt, dx, dr] | (refine callC_pure (cv) rfl ?_) | exact W_ret (RetP_1 (.imm rfl)) | exact W_ret (RetP_c rfl rfl rfl (.imm rfl)))
      refine W_cond rfl (fun _ => ?_) (fun h => by cases h)
      repeat (first | (refine W_seq ?_) | (refine W_reg ?_) | (refine W_regd ?_) | (refine W_block ?_) | (refine And.intro (by omega) ?_) | simp (config := {maxSteps := 1000000}) (disch := omega) only [cA, cB, lk, lkH, Dst.onT, Dst.onX, Dst.slot, setF, setH, mapF, mapH, initF, binE, unE, cnt, boundE, newsE, freshE, opE, rmH, blkQ, frz_us, Nat.reduceEqDiff, Nat.reduceLT, Nat.reduceAdd, ↓reduceIte, reduceCtorEq, Nat.reduceLeDiff, I, cS, nbiDiv, us_rfd, us1L] | (refine callC_pure (ca) rfl ?_) | (refine callC_pure (cb) rfl ?_) | (refine callC_pure (s1) rfl ?_) | (refine callC_pure (s2) rfl ?_) | exact W_ret (RetP_1 (.imm rfl)) | exact W_ret (RetP_c rfl rfl rfl (.imm rfl)))
      exact W_ret (RetP_cct rfl rfl rfl rfl rfl rfl (.imm rfl) (.imm rfl) (.imm rfl))
    · obtain ⟨f1, f2⟩ := div_plain x y hy hf
      have s1 := i_signed_calls (!(decide (x < 0) == decide (y < 0))) (x.natAbs / y.natAbs)
      have s2 := i_signed_calls false (x.natAbs % y.natAbs)
      rw [f1] at s1
      rw [f2] at s2
      by_cases hx : x < 0
      · have dx : decide (x < 0) = true := decide_eq_true hx
        have dr : decide (0 < x.natAbs % y.natAbs) = false := decide_eq_false (fun h => hf ⟨hx, h⟩)
        rw [dx] at s1
        clear hf f1 f2 hm
        repeat (first | (refine W_seq ?_) | (refine W_reg ?_) | (refine W_regd ?_) | (refine W_block ?_) | (refine And.intro (by omega) ?_) | simp (config := {maxSteps := 1000000}) (disch := omega) only [cA, cB, lk, lkH, Dst.onT, Dst.onX, Dst.slot, setF, setH, mapF, mapH, initF, binE, unE, cnt, boundE, newsE, freshE, opE, rmH, blkQ, frz_us, Nat.reduceEqDiff, Nat.reduceLT, Nat.reduceAdd, ↓reduceIte, reduceCtorEq, Nat.reduceLeDiff, X, I, cS, nbiDiv, us_length, len_gt, dx, dr] | (refine callC_pure (cv) rfl ?_) | exact W_ret (RetP_1 (.imm rfl)) | exact W_ret (RetP_c rfl rfl rfl (.imm rfl)))
        refine W_cond rfl (fun h => by cases h) (fun _ => W_skip ?_)
        repeat (first | (refine W_seq ?_) | (refine W_reg ?_) | (refine W_regd ?_) | (refine W_block ?_) | (refine And.intro (by omega) ?_) | simp (config := {maxSteps := 1000000}) (disch := omega) only [cA, cB, lk, lkH, Dst.onT, Dst.onX, Dst.slot, setF, setH, mapF, mapH, initF, binE, unE, cnt, boundE, newsE, freshE, opE, rmH, blkQ, frz_us, Nat.reduceEqDiff, Nat.reduceLT, Nat.reduceAdd, ↓reduceIte, reduceCtorEq, Nat.reduceLeDiff, I, cS, nbiDiv] | (refine callC_pure (s1) rfl ?_) | (refine callC_pure (s2) rfl ?_) | exact W_ret (RetP_1 (.imm rfl)) | exact W_ret (RetP_c rfl rfl rfl (.imm rfl)))
        exact W_ret (RetP_cct rfl rfl rfl rfl rfl rfl (.imm rfl) (.imm rfl) (.imm rfl))
      · have dx : decide (x < 0) = false := decide_eq_false hx
        rw [dx] at s1
        clear hf f1 f2 hm
        repeat (first | (refine W_seq ?_) | (refine W_reg ?_) | (refine W_regd ?_) | (refine W_block ?_) | (refine And.intro (by omega) ?_) | simp (config := {maxSteps := 1000000}) (disch := omega) only [cA, cB, lk, lkH, Dst.onT, Dst.onX, Dst.slot, setF, setH, mapF, mapH, initF, binE, unE, cnt, boundE, newsE, freshE, opE, rmH, blkQ, frz_us, Nat.reduceEqDiff, Nat.reduceLT, Nat.reduceAdd, ↓reduceIte, reduceCtorEq, Nat.reduceLeDiff, X, I, cS, nbiDiv, us_length, len_gt, dx] | (refine callC_pure (cv) rfl ?_) | exact W_ret (RetP_1 (.imm rfl)) | exact W_ret (RetP_c rfl rfl rfl (.imm rfl)))
        refine W_cond rfl (fun h => by cases h) (fun _ => W_skip ?_)
        repeat (first | (refine W_seq ?_) | (refine W_reg ?_) | (refine W_regd ?_) | (refine W_block ?_) | (refine And.intro (by omega) ?_) | simp (config := {maxSteps := 1000000}) (disch := omega) only [cA, cB, lk, lkH, Dst.onT, Dst.onX, Dst.slot, setF, setH, mapF, mapH, initF, binE, unE, cnt, boundE, newsE, freshE, opE, rmH, blkQ, frz_us, Nat.reduceEqDiff, Nat.reduceLT, Nat.reduceAdd, ↓reduceIte, reduceCtorEq, Nat.reduceLeDiff, I, cS, nbiDiv] | (refine callC_pure (s1) rfl ?_) | (refine callC_pure (s2) rfl ?_) | exact W_ret (RetP_1 (.imm rfl)) | exact W_ret (RetP_c rfl rfl rfl (.imm rfl)))
        exact W_ret (RetP_cct rfl rfl rfl rfl rfl rfl (.imm rfl) (.imm rfl) (.imm rfl))
theorem iGcd_calls (n1 : Bool) (a : List Nat) (n2 : Bool) (b : List Nat) (ha : a.length ≤ 10000) (hb : b.length ≤ 10000) (la : lim a) (lb : lim b) :
    PCalls Tryd.prog 39 [X n1 a, X n2 b] (.sl 1 (us (limbs (Nat.gcd (iv n1 a).natAbs (iv n2 b).natAbs)))) := by
  have cv := i_value_calls n1 a (by omega) la
  have cw := i_value_calls n2 b (by omega) lb
  have l1 := iv_len la n1
  have l2 := iv_len lb n2
  generalize iv n1 a = x at *
  generalize iv n2 b = y at *
  have cg := nGcdL x.natAbs y.natAbs (by omega) (by omega)
  refine PCalls_of isiGcd (by simp [fniGcd]) ?_
  unfold codeiGcd
  repeat (first | (refine W_seq ?_) | (refine W_reg ?_) | (refine W_regd ?_) | (refine W_block ?_) | (refine And.intro (by omega) ?_) | simp (config := {maxSteps := 1000000}) (disch := omega) only [cA, cB, lk, lkH, Dst.onT, Dst.onX, Dst.slot, setF, setH, mapF, mapH, initF, binE, unE, cnt, boundE, newsE, freshE, opE, rmH, blkQ, frz_us, Nat.reduceEqDiff, Nat.reduceLT, Nat.reduceAdd, ↓reduceIte, reduceCtorEq, Nat.reduceLeDiff, X, I, cS, nbiGcd] | (refine callC_pure (cv) rfl ?_) | (refine callC_pure (cw) rfl ?_) | (refine callC_pure (cg) rfl ?_) | exact W_ret (RetP_1 (.imm rfl)) | exact W_ret (RetP_c rfl rfl rfl (.imm rfl)))
end Go.Proofs.YtakchfljhihdmaaDoor
namespace Go.Proofs.YtakchfljhihdmaaDoor
open Go Go.Dat Go.Proofs Nat32

theorem rGcdL (p q : Nat) (h1 : (limbs p).length ≤ 1000) (h2 : (limbs q).length ≤ 1000) : PCalls Tryd.prog 66 [.sl 1 (us (limbs p)), .sl 1 (us (limbs q))] (.sl 1 (us (limbs (Nat.gcd p q)))) := by
  have := rGcd_calls (limbs p) (limbs q) h1 h2 (lim_limbs _) (lim_limbs _)
  rwa [vn_limbs, vn_limbs] at this
theorem sValid_calls (neg : Bool) (a : List Nat) (ha : a.length ≤ 1000000) : PCalls Tryd.prog 22 [X neg a] (.bool (vldI neg a)) := by
  refine PCalls_of issValid (by simp [fnsValid]) ?_
  unfold codesValid
  have cv := rValid_calls a ha
  unfold vldI
  have hd : decide ((a.length : Int) = 0) = !decide (0 < a.length) := by
    by_cases h : 0 < a.length
    · rw [decide_eq_true h, decide_eq_false (by omega)]; rfl
    · rw [decide_eq_false h, decide_eq_true (by omega)]; rfl
  generalize decide (0 < a.length) = p at *
  generalize vld a = v at *
  repeat (first | (refine W_seq ?_) | (refine W_reg ?_) | (refine W_regd ?_) | (refine W_block ?_) | (refine And.intro (by omega) ?_) | simp (config := {maxSteps := 1000000}) (disch := omega) only [cA, cB, lk, lkH, Dst.onT, Dst.onX, Dst.slot, setF, setH, mapF, mapH, initF, binE, unE, cnt, boundE, newsE, freshE, opE, rmH, blkQ, frz_us, Nat.reduceEqDiff, Nat.reduceLT, Nat.reduceAdd, ↓reduceIte, reduceCtorEq, Nat.reduceLeDiff, X, cS, nbsValid, us_length, hd] | (refine callC_pure (cv) rfl ?_) | exact W_ret (RetP_1 (.imm rfl)) | exact W_ret (RetP_c rfl rfl rfl (.imm rfl)))
  cases v
  · repeat (first | (refine W_seq ?_) | (refine W_reg ?_) | (refine W_regd ?_) | (refine W_block ?_) | (refine And.intro (by omega) ?_) | simp (config := {maxSteps := 1000000}) (disch := omega) only [cA, cB, lk, lkH, Dst.onT, Dst.onX, Dst.slot, setF, setH, mapF, mapH, initF, binE, unE, cnt, boundE, newsE, freshE, opE, rmH, blkQ, frz_us, Nat.reduceEqDiff, Nat.reduceLT, Nat.reduceAdd, ↓reduceIte, reduceCtorEq, Nat.reduceLeDiff, X, cS, nbsValid, us_length, hd] | (refine callC_pure (cv) rfl ?_) | exact W_ret (RetP_1 (.imm rfl)) | exact W_ret (RetP_c rfl rfl rfl (.imm rfl)))
  · cases neg
    · simp only [Bool.not_false, Bool.or_true, Bool.and_true]
      repeat (first | (refine W_seq ?_) | (refine W_reg ?_) | (refine W_regd ?_) | (refine W_block ?_) | (refine And.intro (by omega) ?_) | simp (config := {maxSteps := 1000000}) (disch := omega) only [cA, cB, lk, lkH, Dst.onT, Dst.onX, Dst.slot, setF, setH, mapF, mapH, initF, binE, unE, cnt, boundE, newsE, freshE, opE, rmH, blkQ, frz_us, Nat.reduceEqDiff, Nat.reduceLT, Nat.reduceAdd, ↓reduceIte, reduceCtorEq, Nat.reduceLeDiff, X, cS, nbsValid, us_length, hd] | (refine callC_pure (cv) rfl ?_) | exact W_ret (RetP_1 (.imm rfl)) | exact W_ret (RetP_c rfl rfl rfl (.imm rfl)))
    · simp only [Bool.not_true, Bool.or_false, Bool.true_and]
      repeat (first | (refine W_seq ?_) | (refine W_reg ?_) | (refine W_regd ?_) | (refine W_block ?_) | (refine And.intro (by omega) ?_) | simp (config := {maxSteps := 1000000}) (disch := omega) only [cA, cB, lk, lkH, Dst.onT, Dst.onX, Dst.slot, setF, setH, mapF, mapH, initF, binE, unE, cnt, boundE, newsE, freshE, opE, rmH, blkQ, frz_us, Nat.reduceEqDiff, Nat.reduceLT, Nat.reduceAdd, ↓reduceIte, reduceCtorEq, Nat.reduceLeDiff, X, cS, nbsValid, us_length, hd, Bool.not_not] | (refine callC_pure (cv) rfl ?_) | exact W_ret (RetP_1 (.imm rfl)) | exact W_ret (RetP_c rfl rfl rfl (.imm rfl)))
theorem sTake_calls (neg : Bool) (a : List Nat) (ha : a.length ≤ 1000000) (la : lim a) : PCalls Tryd.prog 48 [X neg a] (I (iv neg a)) := by
  have cv := sValid_calls neg a ha
  have ct := rTake_calls a ha la
  refine PCalls_of issTake (by simp [fnsTake]) ?_
  unfold codesTake
  by_cases hv : vldI neg a = true
  · rw [hv] at cv
    rw [← X_I la hv]
    have hva : limbs (vn a) = a := by
      have : vld a = true := by unfold vldI at hv; rw [Bool.and_eq_true] at hv; exact hv.1
      exact vld_eq la this
    rw [hva] at ct
    repeat (first | (refine W_seq ?_) | (refine W_reg ?_) | (refine W_regd ?_) | (refine W_block ?_) | (refine And.intro (by omega) ?_) | simp (config := {maxSteps := 1000000}) (disch := omega) only [cA, cB, lk, lkH, Dst.onT, Dst.onX, Dst.slot, setF, setH, mapF, mapH, initF, binE, unE, cnt, boundE, newsE, freshE, opE, rmH, blkQ, frz_us, Nat.reduceEqDiff, Nat.reduceLT, Nat.reduceAdd, ↓reduceIte, reduceCtorEq, Nat.reduceLeDiff, X, cS, nbsTake] | (refine callC_pure (cv) rfl ?_) | exact W_ret (RetP_1 (.imm rfl)) | exact W_ret (RetP_c rfl rfl rfl (.imm rfl)))
    refine W_cond rfl (fun h => by cases h) (fun _ => W_skip ?_)
    repeat (first | (refine W_seq ?_) | (refine W_reg ?_) | (refine W_regd ?_) | (refine W_block ?_) | (refine And.intro (by omega) ?_) | simp (config := {maxSteps := 1000000}) (disch := omega) only [cA, cB, lk, lkH, Dst.onT, Dst.onX, Dst.slot, setF, setH, mapF, mapH, initF, binE, unE, cnt, boundE, newsE, freshE, opE, rmH, blkQ, frz_us, Nat.reduceEqDiff, Nat.reduceLT, Nat.reduceAdd, ↓reduceIte, reduceCtorEq, Nat.reduceLeDiff, X, cS, nbsTake] | (refine callC_pure (ct) rfl ?_) | exact W_ret (RetP_1 (.imm rfl)) | exact W_ret (RetP_c rfl rfl rfl (.imm rfl)))
  · have hv : vldI neg a = false := by simpa using hv
    rw [hv] at cv
    rw [iv_inv hv]
    repeat (first | (refine W_seq ?_) | (refine W_reg ?_) | (refine W_regd ?_) | (refine W_block ?_) | (refine And.intro (by omega) ?_) | simp (config := {maxSteps := 1000000}) (disch := omega) only [cA, cB, lk, lkH, Dst.onT, Dst.onX, Dst.slot, setF, setH, mapF, mapH, initF, binE, unE, cnt, boundE, newsE, freshE, opE, rmH, blkQ, frz_us, Nat.reduceEqDiff, Nat.reduceLT, Nat.reduceAdd, ↓reduceIte, reduceCtorEq, Nat.reduceLeDiff, X, cS, nbsTake] | (refine callC_pure (cv) rfl ?_) | exact W_ret (RetP_1 (.imm rfl)) | exact W_ret (RetP_c rfl rfl rfl (.imm rfl)))
    refine W_cond rfl (fun _ => ?_) (fun h => by cases h)
    repeat (first | (refine W_seq ?_) | (refine W_reg ?_) | (refine W_regd ?_) | (refine W_block ?_) | (refine And.intro (by omega) ?_) | simp (config := {maxSteps := 1000000}) (disch := omega) only [cA, cB, lk, lkH, Dst.onT, Dst.onX, Dst.slot, setF, setH, mapF, mapH, initF, binE, unE, cnt, boundE, newsE, freshE, opE, rmH, blkQ, frz_us, Nat.reduceEqDiff, Nat.reduceLT, Nat.reduceAdd, ↓reduceIte, reduceCtorEq, Nat.reduceLeDiff, X, cS, nbsTake])
    refine W_ret (RetP_c rfl rfl rfl ?_)
    rw [I0]
    exact Exp_bn _ _
theorem s_signed_calls (neg : Bool) (n : Nat) : PCalls Tryd.prog 53 [.bool neg, .sl 1 (us (limbs n))] (I (sgn neg n)) := by
  refine PCalls_of iss_signed (by simp [fns_signed]) ?_
  unfold codes_signed I
  rw [sgn_lt, sgn_abs]
  cases neg
  · repeat (first | (refine W_seq ?_) | (refine W_reg ?_) | (refine W_regd ?_) | (refine W_block ?_) | (refine And.intro (by omega) ?_) | simp (config := {maxSteps := 1000000}) (disch := omega) only [cA, cB, lk, lkH, Dst.onT, Dst.onX, Dst.slot, setF, setH, mapF, mapH, initF, binE, unE, cnt, boundE, newsE, freshE, opE, rmH, blkQ, frz_us, Nat.reduceEqDiff, Nat.reduceLT, Nat.reduceAdd, ↓reduceIte, reduceCtorEq, Nat.reduceLeDiff, cS, nbs_signed, us_length, len_gt])
    exact W_ret (RetP_c rfl rfl rfl (.imm rfl))
  · simp only [Bool.true_and]
    repeat (first | (refine W_seq ?_) | (refine W_reg ?_) | (refine W_regd ?_) | (refine W_block ?_) | (refine And.intro (by omega) ?_) | simp (config := {maxSteps := 1000000}) (disch := omega) only [cA, cB, lk, lkH, Dst.onT, Dst.onX, Dst.slot, setF, setH, mapF, mapH, initF, binE, unE, cnt, boundE, newsE, freshE, opE, rmH, blkQ, frz_us, Nat.reduceEqDiff, Nat.reduceLT, Nat.reduceAdd, ↓reduceIte, reduceCtorEq, Nat.reduceLeDiff, cS, nbs_signed, us_length, len_gt])
    exact W_ret (RetP_c rfl rfl rfl (.imm rfl))
theorem sSign_calls (neg : Bool) (a : List Nat) (ha : a.length ≤ 1000000) (la : lim a) : PCalls Tryd.prog 25 [X neg a] (.int .i64 (iv neg a).sign) := by
  have cv := sTake_calls neg a ha la
  refine PCalls_of issSign (by simp [fnsSign]) ?_
  unfold codesSign
  generalize iv neg a = z at *
  repeat (first | (refine W_seq ?_) | (refine W_reg ?_) | (refine W_regd ?_) | (refine W_block ?_) | (refine And.intro (by omega) ?_) | simp (config := {maxSteps := 1000000}) (disch := omega) only [cA, cB, lk, lkH, Dst.onT, Dst.onX, Dst.slot, setF, setH, mapF, mapH, initF, binE, unE, cnt, boundE, newsE, freshE, opE, rmH, blkQ, frz_us, Nat.reduceEqDiff, Nat.reduceLT, Nat.reduceAdd, ↓reduceIte, reduceCtorEq, Nat.reduceLeDiff, X, I, cS, nbsSign, us_length, len_gt] | (refine callC_pure (cv) rfl ?_) | exact W_ret (RetP_1 (.imm rfl)) | exact W_ret (RetP_c rfl rfl rfl (.imm rfl)))
  refine W_cond rfl (fun h => ?_) (fun h => ?_)
  · rw [Int.sign_eq_neg_one_of_neg (of_decide_eq_true h)]
    repeat (first | (refine W_seq ?_) | (refine W_reg ?_) | (refine W_regd ?_) | (refine W_block ?_) | (refine And.intro (by omega) ?_) | simp (config := {maxSteps := 1000000}) (disch := omega) only [cA, cB, lk, lkH, Dst.onT, Dst.onX, Dst.slot, setF, setH, mapF, mapH, initF, binE, unE, cnt, boundE, newsE, freshE, opE, rmH, blkQ, frz_us, Nat.reduceEqDiff, Nat.reduceLT, Nat.reduceAdd, ↓reduceIte, reduceCtorEq, Nat.reduceLeDiff, cS] | (refine callC_pure (cv) rfl ?_) | exact W_ret (RetP_1 (.imm rfl)) | exact W_ret (RetP_c rfl rfl rfl (.imm rfl)))
  · have h := of_decide_eq_false h
    repeat (first | (refine W_seq ?_) | (refine W_reg ?_) | (refine W_regd ?_) | (refine W_block ?_) | (refine And.intro (by omega) ?_) | simp (config := {maxSteps := 1000000}) (disch := omega) only [cA, cB, lk, lkH, Dst.onT, Dst.onX, Dst.slot, setF, setH, mapF, mapH, initF, binE, unE, cnt, boundE, newsE, freshE, opE, rmH, blkQ, frz_us, Nat.reduceEqDiff, Nat.reduceLT, Nat.reduceAdd, ↓reduceIte, reduceCtorEq, Nat.reduceLeDiff, I, cS, us_length, len_gt] | (refine callC_pure (cv) rfl ?_) | exact W_ret (RetP_1 (.imm rfl)) | exact W_ret (RetP_c rfl rfl rfl (.imm rfl)))
    refine W_cond rfl (fun h3 => ?_) (fun h3 => W_skip ?_)
    · have h3 := of_decide_eq_true h3
      rw [Int.sign_eq_one_of_pos (by omega)]
      repeat (first | (refine W_seq ?_) | (refine W_reg ?_) | (refine W_regd ?_) | (refine W_block ?_) | (refine And.intro (by omega) ?_) | simp (config := {maxSteps := 1000000}) (disch := omega) only [cA, cB, lk, lkH, Dst.onT, Dst.onX, Dst.slot, setF, setH, mapF, mapH, initF, binE, unE, cnt, boundE, newsE, freshE, opE, rmH, blkQ, frz_us, Nat.reduceEqDiff, Nat.reduceLT, Nat.reduceAdd, ↓reduceIte, reduceCtorEq, Nat.reduceLeDiff, cS] | (refine callC_pure (cv) rfl ?_) | exact W_ret (RetP_1 (.imm rfl)) | exact W_ret (RetP_c rfl rfl rfl (.imm rfl)))
    · have h3 := of_decide_eq_false h3
      rw [show z = 0 by omega]
      repeat (first | (refine W_seq ?_) | (refine W_reg ?_) | (refine W_regd ?_) | (refine W_block ?_) | (refine And.intro (by omega) ?_) | simp (config := {maxSteps := 1000000}) (disch := omega) only [cA, cB, lk, lkH, Dst.onT, Dst.onX, Dst.slot, setF, setH, mapF, mapH, initF, binE, unE, cnt, boundE, newsE, freshE, opE, rmH, blkQ, frz_us, Nat.reduceEqDiff, Nat.reduceLT, Nat.reduceAdd, ↓reduceIte, reduceCtorEq, Nat.reduceLeDiff, cS] | (refine callC_pure (cv) rfl ?_) | exact W_ret (RetP_1 (.imm rfl)) | exact W_ret (RetP_c rfl rfl rfl (.imm rfl)))
theorem sNeg_calls (neg : Bool) (a : List Nat) (ha : a.length ≤ 900) (la : lim a) : PCalls Tryd.prog 26 [X neg a] (I (-(iv neg a))) := by
  have cv := sTake_calls neg a (by omega) la
  have cs := s_signed_calls (!decide (iv neg a < 0)) (iv neg a).natAbs
  rw [sgn_not] at cs
  refine PCalls_of issNeg (by simp [fnsNeg]) ?_
  unfold codesNeg
  repeat (first | (refine W_seq ?_) | (refine W_reg ?_) | (refine W_regd ?_) | (refine W_block ?_) | (refine And.intro (by omega) ?_) | simp (config := {maxSteps := 1000000}) (disch := omega) only [cA, cB, lk, lkH, Dst.onT, Dst.onX, Dst.slot, setF, setH, mapF, mapH, initF, binE, unE, cnt, boundE, newsE, freshE, opE, rmH, blkQ, frz_us, Nat.reduceEqDiff, Nat.reduceLT, Nat.reduceAdd, ↓reduceIte, reduceCtorEq, Nat.reduceLeDiff, X, I, cS, nbsNeg] | (refine callC_pure (cv) rfl ?_) | (refine callC_pure (cs) rfl ?_) | exact W_ret (RetP_1 (.imm rfl)) | exact W_ret (RetP_c rfl rfl rfl (.imm rfl)))
theorem sMul_calls (n1 : Bool) (a : List Nat) (n2 : Bool) (b : List Nat) (ha : a.length ≤ 900) (hb : b.length ≤ 900) (la : lim a) (lb : lim b) : PCalls Tryd.prog 37 [X n1 a, X n2 b] (I (iv n1 a * iv n2 b)) := by
  have cv := sTake_calls n1 a (by omega) la
  have cw := sTake_calls n2 b (by omega) lb
  have l1 := iv_len la n1
  have l2 := iv_len lb n2
  generalize iv n1 a = x at *
  generalize iv n2 b = y at *
  have cm := rMulL x.natAbs y.natAbs (by omega) (by omega)
  have cs := s_signed_calls (!(decide (x < 0) == decide (y < 0))) (x.natAbs * y.natAbs)
  rw [mul_sgn] at cs
  refine PCalls_of issMul (by simp [fnsMul]) ?_
  unfold codesMul
  repeat (first | (refine W_seq ?_) | (refine W_reg ?_) | (refine W_regd ?_) | (refine W_block ?_) | (refine And.intro (by omega) ?_) | simp (config := {maxSteps := 1000000}) (disch := omega) only [cA, cB, lk, lkH, Dst.onT, Dst.onX, Dst.slot, setF, setH, mapF, mapH, initF, binE, unE, cnt, boundE, newsE, freshE, opE, rmH, blkQ, frz_us, Nat.reduceEqDiff, Nat.reduceLT, Nat.reduceAdd, ↓reduceIte, reduceCtorEq, Nat.reduceLeDiff, X, I, cS, nbsMul] | (refine callC_pure (cv) rfl ?_) | (refine callC_pure (cw) rfl ?_) | (refine callC_pure (cm) rfl ?_) | (refine callC_pure (cs) rfl ?_) | exact W_ret (RetP_1 (.imm rfl)) | exact W_ret (RetP_c rfl rfl rfl (.imm rfl)))
theorem sAdd_calls (n1 : Bool) (a : List Nat) (n2 : Bool) (b : List Nat) (ha : a.length ≤ 900) (hb : b.length ≤ 900) (la : lim a) (lb : lim b) : PCalls Tryd.prog 35 [X n1 a, X n2 b] (I (iv n1 a + iv n2 b)) := by
  have cv := sTake_calls n1 a (by omega) la
  have cw := sTake_calls n2 b (by omega) lb
  have l1 := iv_len la n1
  have l2 := iv_len lb n2
  generalize iv n1 a = x at *
  generalize iv n2 b = y at *
  have ca := rAddL x.natAbs y.natAbs (by omega) (by omega)
  have cd := rSub_calls (limbs x.natAbs) (limbs y.natAbs) (by omega) (by omega) (lim_limbs _) (lim_limbs _)
  have ce := rSub_calls (limbs y.natAbs) (limbs x.natAbs) (by omega) (by omega) (lim_limbs _) (lim_limbs _)
  rw [vn_limbs, vn_limbs] at cd ce
  have s1 := s_signed_calls (decide (x < 0)) (x.natAbs + y.natAbs)
  have s2 := s_signed_calls (decide (x < 0)) (x.natAbs - y.natAbs)
  have s3 := s_signed_calls (decide (y < 0)) (y.natAbs - x.natAbs)
  refine PCalls_of issAdd (by simp [fnsAdd]) ?_
  unfold codesAdd
  by_cases h : decide (x < 0) = decide (y < 0)
  · rw [add_same h] at s1
    have hb : (decide (x < 0) == decide (y < 0)) = true := by rw [h]; simp
    repeat (first | (refine W_seq ?_) | (refine W_reg ?_) | (refine W_regd ?_) | (refine W_block ?_) | (refine And.intro (by omega) ?_) | simp (config := {maxSteps := 1000000}) (disch := omega) only [cA, cB, lk, lkH, Dst.onT, Dst.onX, Dst.slot, setF, setH, mapF, mapH, initF, binE, unE, cnt, boundE, newsE, freshE, opE, rmH, blkQ, frz_us, Nat.reduceEqDiff, Nat.reduceLT, Nat.reduceAdd, ↓reduceIte, reduceCtorEq, Nat.reduceLeDiff, X, I, cS, nbsAdd, hb] | (refine callC_pure (cv) rfl ?_) | (refine callC_pure (cw) rfl ?_) | exact W_ret (RetP_1 (.imm rfl)) | exact W_ret (RetP_c rfl rfl rfl (.imm rfl)))
    refine W_cond rfl (fun _ => ?_) (fun h => by cases h)
    repeat (first | (refine W_seq ?_) | (refine W_reg ?_) | (refine W_regd ?_) | (refine W_block ?_) | (refine And.intro (by omega) ?_) | simp (config := {maxSteps := 1000000}) (disch := omega) only [cA, cB, lk, lkH, Dst.onT, Dst.onX, Dst.slot, setF, setH, mapF, mapH, initF, binE, unE, cnt, boundE, newsE, freshE, opE, rmH, blkQ, frz_us, Nat.reduceEqDiff, Nat.reduceLT, Nat.reduceAdd, ↓reduceIte, reduceCtorEq, Nat.reduceLeDiff, X, I, cS, nbsAdd, hb] | (refine callC_pure (ca) rfl ?_) | (refine callC_pure (s1) rfl ?_) | exact W_ret (RetP_1 (.imm rfl)) | exact W_ret (RetP_c rfl rfl rfl (.imm rfl)))
  · have hb : (decide (x < 0) == decide (y < 0)) = false := by simpa using h
    by_cases hle : y.natAbs ≤ x.natAbs
    · rw [add_left h hle] at s2
      rw [decide_eq_true hle] at cd
      repeat (first | (refine W_seq ?_) | (refine W_reg ?_) | (refine W_regd ?_) | (refine W_block ?_) | (refine And.intro (by omega) ?_) | simp (config := {maxSteps := 1000000}) (disch := omega) only [cA, cB, lk, lkH, Dst.onT, Dst.onX, Dst.slot, setF, setH, mapF, mapH, initF, binE, unE, cnt, boundE, newsE, freshE, opE, rmH, blkQ, frz_us, Nat.reduceEqDiff, Nat.reduceLT, Nat.reduceAdd, ↓reduceIte, reduceCtorEq, Nat.reduceLeDiff, X, I, cS, nbsAdd, hb] | (refine callC_pure (cv) rfl ?_) | (refine callC_pure (cw) rfl ?_) | exact W_ret (RetP_1 (.imm rfl)) | exact W_ret (RetP_c rfl rfl rfl (.imm rfl)))
      refine W_cond rfl (fun h => by cases h) (fun _ => W_skip ?_)
      repeat (first | (refine W_seq ?_) | (refine W_reg ?_) | (refine W_regd ?_) | (refine W_block ?_) | (refine And.intro (by omega) ?_) | simp (config := {maxSteps := 1000000}) (disch := omega) only [cA, cB, lk, lkH, Dst.onT, Dst.onX, Dst.slot, setF, setH, mapF, mapH, initF, binE, unE, cnt, boundE, newsE, freshE, opE, rmH, blkQ, frz_us, Nat.reduceEqDiff, Nat.reduceLT, Nat.reduceAdd, ↓reduceIte, reduceCtorEq, Nat.reduceLeDiff, X, I, cS, nbsAdd] | (refine callC_pure (cd) rfl ?_) | exact W_ret (RetP_1 (.imm rfl)) | exact W_ret (RetP_c rfl rfl rfl (.imm rfl)))
      refine W_cond rfl (fun _ => ?_) (fun h => by cases h)
      repeat (first | (refine W_seq ?_) | (refine W_reg ?_) | (refine W_regd ?_) | (refine W_block ?_) | (refine And.intro (by omega) ?_) | simp (config := {maxSteps := 1000000}) (disch := omega) only [cA, cB, lk, lkH, Dst.onT, Dst.onX, Dst.slot, setF, setH, mapF, mapH, initF, binE, unE, cnt, boundE, newsE, freshE, opE, rmH, blkQ, frz_us, Nat.reduceEqDiff, Nat.reduceLT, Nat.reduceAdd, ↓reduceIte, reduceCtorEq, Nat.reduceLeDiff, X, I, cS, nbsAdd] | (refine callC_pure (s2) rfl ?_) | exact W_ret (RetP_1 (.imm rfl)) | exact W_ret (RetP_c rfl rfl rfl (.imm rfl)))
    · rw [add_right h hle] at s3
      rw [decide_eq_false hle] at cd
      repeat (first | (refine W_seq ?_) | (refine W_reg ?_) | (refine W_regd ?_) | (refine W_block ?_) | (refine And.intro (by omega) ?_) | simp (config := {maxSteps := 1000000}) (disch := omega) only [cA, cB, lk, lkH, Dst.onT, Dst.onX, Dst.slot, setF, setH, mapF, mapH, initF, binE, unE, cnt, boundE, newsE, freshE, opE, rmH, blkQ, frz_us, Nat.reduceEqDiff, Nat.reduceLT, Nat.reduceAdd, ↓reduceIte, reduceCtorEq, Nat.reduceLeDiff, X, I, cS, nbsAdd, hb] | (refine callC_pure (cv) rfl ?_) | (refine callC_pure (cw) rfl ?_) | exact W_ret (RetP_1 (.imm rfl)) | exact W_ret (RetP_c rfl rfl rfl (.imm rfl)))
      refine W_cond rfl (fun h => by cases h) (fun _ => W_skip ?_)
      repeat (first | (refine W_seq ?_) | (refine W_reg ?_) | (refine W_regd ?_) | (refine W_block ?_) | (refine And.intro (by omega) ?_) | simp (config := {maxSteps := 1000000}) (disch := omega) only [cA, cB, lk, lkH, Dst.onT, Dst.onX, Dst.slot, setF, setH, mapF, mapH, initF, binE, unE, cnt, boundE, newsE, freshE, opE, rmH, blkQ, frz_us, Nat.reduceEqDiff, Nat.reduceLT, Nat.reduceAdd, ↓reduceIte, reduceCtorEq, Nat.reduceLeDiff, X, I, cS, nbsAdd] | (refine callC_pure (cd) rfl ?_) | exact W_ret (RetP_1 (.imm rfl)) | exact W_ret (RetP_c rfl rfl rfl (.imm rfl)))
      refine W_cond rfl (fun h => by cases h) (fun _ => W_skip ?_)
      repeat (first | (refine W_seq ?_) | (refine W_reg ?_) | (refine W_regd ?_) | (refine W_block ?_) | (refine And.intro (by omega) ?_) | simp (config := {maxSteps := 1000000}) (disch := omega) only [cA, cB, lk, lkH, Dst.onT, Dst.onX, Dst.slot, setF, setH, mapF, mapH, initF, binE, unE, cnt, boundE, newsE, freshE, opE, rmH, blkQ, frz_us, Nat.reduceEqDiff, Nat.reduceLT, Nat.reduceAdd, ↓reduceIte, reduceCtorEq, Nat.reduceLeDiff, X, I, cS, nbsAdd] | (refine callC_pure (ce) rfl ?_) | (refine callC_pure (s3) rfl ?_) | exact W_ret (RetP_1 (.imm rfl)) | exact W_ret (RetP_c rfl rfl rfl (.imm rfl)))
theorem sSub_calls (n1 : Bool) (a : List Nat) (n2 : Bool) (b : List Nat) (ha : a.length ≤ 900) (hb : b.length ≤ 900) (la : lim a) (lb : lim b) : PCalls Tryd.prog 36 [X n1 a, X n2 b] (I (iv n1 a - iv n2 b)) := by
  have cn := sNeg_calls n2 b hb lb
  have l2 := iv_len lb n2
  have ca := sAdd_calls n1 a (decide (-(iv n2 b) < 0)) (limbs (-(iv n2 b)).natAbs) ha (by rw [Int.natAbs_neg]; omega) la (lim_limbs _)
  rw [iv_I, ← Int.sub_eq_add_neg] at ca
  refine PCalls_of issSub (by simp [fnsSub]) ?_
  unfold codesSub
  repeat (first | (refine W_seq ?_) | (refine W_reg ?_) | (refine W_regd ?_) | (refine W_block ?_) | (refine And.intro (by omega) ?_) | simp (config := {maxSteps := 1000000}) (disch := omega) only [cA, cB, lk, lkH, Dst.onT, Dst.onX, Dst.slot, setF, setH, mapF, mapH, initF, binE, unE, cnt, boundE, newsE, freshE, opE, rmH, blkQ, frz_us, Nat.reduceEqDiff, Nat.reduceLT, Nat.reduceAdd, ↓reduceIte, reduceCtorEq, Nat.reduceLeDiff, X, I, cS, nbsSub] | (refine callC_pure (cn) rfl ?_) | (refine callC_pure (ca) rfl ?_) | exact W_ret (RetP_1 (.imm rfl)) | exact W_ret (RetP_c rfl rfl rfl (.imm rfl)))
theorem sDiv_calls (n1 : Bool) (a : List Nat) (n2 : Bool) (b : List Nat) (ha : a.length ≤ 900) (hb : b.length ≤ 900) (la : lim a) (lb : lim b) :
    PCalls Tryd.prog 34 [X n1 a, X n2 b] (.tup [I (iv n1 a / iv n2 b), I (imod (iv n1 a) (iv n2 b)), .bool (decide (¬ iv n2 b = 0))]) := by
  have cv := sTake_calls n1 a (by omega) la
  have cw := sTake_calls n2 b (by omega) lb
  have l1 := iv_len la n1
  have l2 := iv_len lb n2
  generalize iv n1 a = x at *
  generalize iv n2 b = y at *
  have cd := rDivL x.natAbs y.natAbs (by omega) (by omega)
  have lq := len_mono (Nat.div_le_self x.natAbs y.natAbs)
  refine PCalls_of issDiv (by simp [fnsDiv]) ?_
  unfold codesDiv imod
  by_cases hy : y = 0
  · subst hy
    rw [decide_eq_false (show ¬ 0 < (0 : Int).natAbs by decide)] at cd
    repeat (first | (refine W_seq ?_) | (refine W_reg ?_) | (refine W_regd ?_) | (refine W_block ?_) | (refine And.intro (by omega) ?_) | simp (config := {maxSteps := 1000000}) (disch := omega) only [cA, cB, lk, lkH, Dst.onT, Dst.onX, Dst.slot, setF, setH, mapF, mapH, initF, binE, unE, cnt, boundE, newsE, freshE, opE, rmH, blkQ, frz_us, Nat.reduceEqDiff, Nat.reduceLT, Nat.reduceAdd, ↓reduceIte, reduceCtorEq, Nat.reduceLeDiff, X, I, cS, nbsDiv] | (refine callC_pure (cv) rfl ?_) | (refine callC_pure (cw) rfl ?_) | (refine callC_pure (cd) rfl ?_) | exact W_ret (RetP_1 (.imm rfl)) | exact W_ret (RetP_c rfl rfl rfl (.imm rfl)))
    refine W_cond rfl (fun _ => ?_) (fun h => by cases h)
    repeat (first | (refine W_seq ?_) | (refine W_reg ?_) | (refine W_regd ?_) | (refine W_block ?_) | (refine And.intro (by omega) ?_) | simp (config := {maxSteps := 1000000}) (disch := omega) only [cA, cB, lk, lkH, Dst.onT, Dst.onX, Dst.slot, setF, setH, mapF, mapH, initF, binE, unE, cnt, boundE, newsE, freshE, opE, rmH, blkQ, frz_us, Nat.reduceEqDiff, Nat.reduceLT, Nat.reduceAdd, ↓reduceIte, reduceCtorEq, Nat.reduceLeDiff, cS])
    refine W_ret (RetP_cct rfl rfl rfl rfl rfl rfl ?_ ?_ (.imm rfl))
    · rw [Int.ediv_zero]
      have := Exp_bn (h := lkH [(2, [DV.bool (decide (x < 0)), DV.sl 1 (us (limbs x.natAbs))]), (3, [DV.bool (decide ((0 : Int) < 0)), DV.sl 1 (us (limbs (0 : Int).natAbs))]), (4, [DV.bool false, DV.nils]), (5, [DV.bool false, DV.nils])]) false 1
      rw [← I0] at this
      exact this
    · have := Exp_bn (h := lkH [(2, [DV.bool (decide (x < 0)), DV.sl 1 (us (limbs x.natAbs))]), (3, [DV.bool (decide ((0 : Int) < 0)), DV.sl 1 (us (limbs (0 : Int).natAbs))]), (4, [DV.bool false, DV.nils]), (5, [DV.bool false, DV.nils])]) false 1
      rw [← I0] at this
      exact this
  · have hy0 : 0 < y.natAbs := by omega
    rw [decide_eq_true hy0, dmod_pos hy0] at cd
    rw [decide_eq_true hy, if_neg hy]
    have lr := len_mono (Nat.mod_le x.natAbs y.natAbs)
    have hm := Nat.mod_lt x.natAbs hy0
    repeat (first | (refine W_seq ?_) | (refine W_reg ?_) | (refine W_regd ?_) | (refine W_block ?_) | (refine And.intro (by omega) ?_) | simp (config := {maxSteps := 1000000}) (disch := omega) only [cA, cB, lk, lkH, Dst.onT, Dst.onX, Dst.slot, setF, setH, mapF, mapH, initF, binE, unE, cnt, boundE, newsE, freshE, opE, rmH, blkQ, frz_us, Nat.reduceEqDiff, Nat.reduceLT, Nat.reduceAdd, ↓reduceIte, reduceCtorEq, Nat.reduceLeDiff, X, I, cS, nbsDiv] | (refine callC_pure (cv) rfl ?_) | (refine callC_pure (cw) rfl ?_) | (refine callC_pure (cd) rfl ?_) | exact W_ret (RetP_1 (.imm rfl)) | exact W_ret (RetP_c rfl rfl rfl (.imm rfl)))
    refine W_cond rfl (fun h => by cases h) (fun _ => W_skip ?_)
    by_cases hf : x < 0 ∧ 0 < x.natAbs % y.natAbs
    · obtain ⟨f1, f2⟩ := div_fix x y hy hf.1 hf.2
      have dx : decide (x < 0) = true := decide_eq_true hf.1
      have dr : decide (0 < x.natAbs % y.natAbs) = true := decide_eq_true hf.2
      have o1 : (limbs 1).length ≤ 10000 := by rw [limbs1]; simp
      have ca := rAddL (x.natAbs / y.natAbs) 1 (by omega) (by omega)
      have cb := rSub_calls (limbs y.natAbs) (limbs (x.natAbs % y.natAbs)) (by omega) (by omega) (lim_limbs _) (lim_limbs _)
      rw [vn_limbs, vn_limbs] at cb
      have s1 := s_signed_calls (!(decide (x < 0) == decide (y < 0))) (x.natAbs / y.natAbs + 1)
      have s2 := s_signed_calls false (y.natAbs - x.natAbs % y.natAbs)
      rw [f1, dx] at s1
      rw [f2] at s2
      clear hf f1 f2 hm o1
      repeat (first | (refine W_seq ?_) | (refine W_reg ?_) | (refine W_regd ?_) | (refine W_block ?_) | (refine And.intro (by omega) ?_) | simp (config := {maxSteps := 1000000}) (disch := omega) only [cA, cB, lk, lkH, Dst.onT, Dst.onX, Dst.slot, setF, setH, mapF, mapH, initF, binE, unE, cnt, boundE, newsE, freshE, opE, rmH, blkQ, frz_us, Nat.reduceEqDiff, Nat.reduceLT, Nat.reduceAdd, ↓reduceIte, reduceCtorEq, Nat.reduceLeDiff, X, I, cS, nbsDiv, us_length, len_gt, dx, dr] | (refine callC_pure (cv) rfl ?_) | exact W_ret (RetP_1 (.imm rfl)) | exact W_ret (RetP_c rfl rfl rfl (.imm rfl)))
      refine W_cond rfl (fun _ => ?_) (fun h => by cases h)
      repeat (first | (refine W_seq ?_) | (refine W_reg ?_) | (refine W_regd ?_) | (refine W_block ?_) | (refine And.intro (by omega) ?_) | simp (config := {maxSteps := 1000000}) (disch := omega) only [cA, cB, lk, lkH, Dst.onT, Dst.onX, Dst.slot, setF, setH, mapF, mapH, initF, binE, unE, cnt, boundE, newsE, freshE, opE, rmH, blkQ, frz_us, Nat.reduceEqDiff, Nat.reduceLT, Nat.reduceAdd, ↓reduceIte, reduceCtorEq, Nat.reduceLeDiff, I, cS, nbsDiv, us_rfd, us1L] | (refine callC_pure (ca) rfl ?_) | (refine callC_pure (cb) rfl ?_) | (refine callC_pure (s1) rfl ?_) | (refine callC_pure (s2) rfl ?_) | exact W_ret (RetP_1 (.imm rfl)) | exact W_ret (RetP_c rfl rfl rfl (.imm rfl)))
      exact W_ret (RetP_cct rfl rfl rfl rfl rfl rfl (.imm rfl) (.imm rfl) (.imm rfl))
    · obtain ⟨f1, f2⟩ := div_plain x y hy hf
      have s1 := s_signed_calls (!(decide (x < 0) == decide (y < 0))) (x.natAbs / y.natAbs)
      have s2 := s_signed_calls false (x.natAbs % y.natAbs)
      rw [f1] at s1
      rw [f2] at s2
      by_cases hx : x < 0
      · have dx : decide (x < 0) = true := decide_eq_true hx
        have dr : decide (0 < x.natAbs % y.natAbs) = false := decide_eq_false (fun h => hf ⟨hx, h⟩)
        rw [dx] at s1
        clear hf f1 f2 hm
        repeat (first | (refine W_seq ?_) | (refine W_reg ?_) | (refine W_regd ?_) | (refine W_block ?_) | (refine And.intro (by omega) ?_) | simp (config := {maxSteps := 1000000}) (disch := omega) only [cA, cB, lk, lkH, Dst.onT, Dst.onX, Dst.slot, setF, setH, mapF, mapH, initF, binE, unE, cnt, boundE, newsE, freshE, opE, rmH, blkQ, frz_us, Nat.reduceEqDiff, Nat.reduceLT, Nat.reduceAdd, ↓reduceIte, reduceCtorEq, Nat.reduceLeDiff, X, I, cS, nbsDiv, us_length, len_gt, dx, dr] | (refine callC_pure (cv) rfl ?_) | exact W_ret (RetP_1 (.imm rfl)) | exact W_ret (RetP_c rfl rfl rfl (.imm rfl)))
        refine W_cond rfl (fun h => by cases h) (fun _ => W_skip ?_)
        repeat (first | (refine W_seq ?_) | (refine W_reg ?_) | (refine W_regd ?_) | (refine W_block ?_) | (refine And.intro (by omega) ?_) | simp (config := {maxSteps := 1000000}) (disch := omega) only [cA, cB, lk, lkH, Dst.onT, Dst.onX, Dst.slot, setF, setH, mapF, mapH, initF, binE, unE, cnt, boundE, newsE, freshE, opE, rmH, blkQ, frz_us, Nat.reduceEqDiff, Nat.reduceLT, Nat.reduceAdd, ↓reduceIte, reduceCtorEq, Nat.reduceLeDiff, I, cS, nbsDiv] | (refine callC_pure (s1) rfl ?_) | (refine callC_pure (s2) rfl ?_) | exact W_ret (RetP_1 (.imm rfl)) | exact W_ret (RetP_c rfl rfl rfl (.imm rfl)))
        exact W_ret (RetP_cct rfl rfl rfl rfl rfl rfl (.imm rfl) (.imm rfl) (.imm rfl))
      · have dx : decide (x < 0) = false := decide_eq_false hx
        rw [dx] at s1
        clear hf f1 f2 hm
        repeat (first | (refine W_seq ?_) | (refine W_reg ?_) | (refine W_regd ?_) | (refine W_block ?_) | (refine And.intro (by omega) ?_) | simp (config := {maxSteps := 1000000}) (disch := omega) only [cA, cB, lk, lkH, Dst.onT, Dst.onX, Dst.slot, setF, setH, mapF, mapH, initF, binE, unE, cnt, boundE, newsE, freshE, opE, rmH, blkQ, frz_us, Nat.reduceEqDiff, Nat.reduceLT, Nat.reduceAdd, ↓reduceIte, reduceCtorEq, Nat.reduceLeDiff, X, I, cS, nbsDiv, us_length, len_gt, dx] | (refine callC_pure (cv) rfl ?_) | exact W_ret (RetP_1 (.imm rfl)) | exact W_ret (RetP_c rfl rfl rfl (.imm rfl)))
        refine W_cond rfl (fun h => by cases h) (fun _ => W_skip ?_)
        repeat (first | (refine W_seq ?_) | (refine W_reg ?_) | (refine W_regd ?_) | (refine W_block ?_) | (refine And.intro (by omega) ?_) | simp (config := {maxSteps := 1000000}) (disch := omega) only [cA, cB, lk, lkH, Dst.onT, Dst.onX, Dst.slot, setF, setH, mapF, mapH, initF, binE, unE, cnt, boundE, newsE, freshE, opE, rmH, blkQ, frz_us, Nat.reduceEqDiff, Nat.reduceLT, Nat.reduceAdd, ↓reduceIte, reduceCtorEq, Nat.reduceLeDiff, I, cS, nbsDiv] | (refine callC_pure (s1) rfl ?_) | (refine callC_pure (s2) rfl ?_) | exact W_ret (RetP_1 (.imm rfl)) | exact W_ret (RetP_c rfl rfl rfl (.imm rfl)))
        exact W_ret (RetP_cct rfl rfl rfl rfl rfl rfl (.imm rfl) (.imm rfl) (.imm rfl))
theorem sGcd_calls (n1 : Bool) (a : List Nat) (n2 : Bool) (b : List Nat) (ha : a.length ≤ 900) (hb : b.length ≤ 900) (la : lim a) (lb : lim b) :
    PCalls Tryd.prog 40 [X n1 a, X n2 b] (.sl 1 (us (limbs (Nat.gcd (iv n1 a).natAbs (iv n2 b).natAbs)))) := by
  have cv := sTake_calls n1 a (by omega) la
  have cw := sTake_calls n2 b (by omega) lb
  have l1 := iv_len la n1
  have l2 := iv_len lb n2
  generalize iv n1 a = x at *
  generalize iv n2 b = y at *
  have cg := rGcdL x.natAbs y.natAbs (by omega) (by omega)
  refine PCalls_of issGcd (by simp [fnsGcd]) ?_
  unfold codesGcd
  repeat (first | (refine W_seq ?_) | (refine W_reg ?_) | (refine W_regd ?_) | (refine W_block ?_) | (refine And.intro (by omega) ?_) | simp (config := {maxSteps := 1000000}) (disch := omega) only [cA, cB, lk, lkH, Dst.onT, Dst.onX, Dst.slot, setF, setH, mapF, mapH, initF, binE, unE, cnt, boundE, newsE, freshE, opE, rmH, blkQ, frz_us, Nat.reduceEqDiff, Nat.reduceLT, Nat.reduceAdd, ↓reduceIte, reduceCtorEq, Nat.reduceLeDiff, X, I, cS, nbsGcd] | (refine callC_pure (cv) rfl ?_) | (refine callC_pure (cw) rfl ?_) | (refine callC_pure (cg) rfl ?_) | exact W_ret (RetP_1 (.imm rfl)) | exact W_ret (RetP_c rfl rfl rfl (.imm rfl)))
theorem sCompare_calls (n1 : Bool) (a : List Nat) (n2 : Bool) (b : List Nat) (ha : a.length ≤ 900) (hb : b.length ≤ 900) (la : lim a) (lb : lim b) : PCalls Tryd.prog 28 [X n1 a, X n2 b] (.int .i64 (cmpI (iv n1 a) (iv n2 b))) := by
  have l1 := iv_len la n1
  have l2 := iv_len lb n2
  have cs := sSub_calls n1 a n2 b ha hb la lb
  have hl : (limbs (iv n1 a - iv n2 b).natAbs).length ≤ 901 := Nat.le_trans (len_mono (show _ ≤ (iv n1 a).natAbs + (iv n2 b).natAbs by omega)) (len_add (by omega) (by omega))
  have cg := sSign_calls (decide (iv n1 a - iv n2 b < 0)) (limbs (iv n1 a - iv n2 b).natAbs) (by omega) (lim_limbs _)
  rw [iv_I] at cg
  rw [show cmpI (iv n1 a) (iv n2 b) = (iv n1 a - iv n2 b).sign by
    unfold cmpI
    rcases Int.lt_trichotomy (iv n1 a) (iv n2 b) with h | h | h
    · rw [if_pos h, Int.sign_eq_neg_one_of_neg (by omega)]
    · rw [h, Int.sub_self]; simp
    · rw [if_neg (by omega), if_pos h, Int.sign_eq_one_of_pos (by omega)]]
  refine PCalls_of issCompare (by simp [fnsCompare]) ?_
  unfold codesCompare
  repeat (first | (refine W_seq ?_) | (refine W_reg ?_) | (refine W_regd ?_) | (refine W_block ?_) | (refine And.intro (by omega) ?_) | simp (config := {maxSteps := 1000000}) (disch := omega) only [cA, cB, lk, lkH, Dst.onT, Dst.onX, Dst.slot, setF, setH, mapF, mapH, initF, binE, unE, cnt, boundE, newsE, freshE, opE, rmH, blkQ, frz_us, Nat.reduceEqDiff, Nat.reduceLT, Nat.reduceAdd, ↓reduceIte, reduceCtorEq, Nat.reduceLeDiff, X, I, cS, nbsCompare] | (refine callC_pure (cs) rfl ?_) | (refine callC_pure (cg) rfl ?_) | exact W_ret (RetP_1 (.imm rfl)) | exact W_ret (RetP_c rfl rfl rfl (.imm rfl)))
theorem sameI (x y : Int) (h : x = y) (hl : (limbs x.natAbs).length ≤ 100000) : PCalls Tryd.prog 12 [I x, I y] (.bool true) := by
  subst h
  have ss := sameL x.natAbs x.natAbs rfl hl
  have hb : (decide (x < 0) == decide (x < 0)) = true := by simp
  refine PCalls_of issSame (by simp [fnsSame]) ?_
  unfold codesSame
  repeat (first | (refine W_seq ?_) | (refine W_reg ?_) | (refine W_regd ?_) | (refine W_block ?_) | (refine And.intro (by omega) ?_) | simp (config := {maxSteps := 1000000}) (disch := omega) only [cA, cB, lk, lkH, Dst.onT, Dst.onX, Dst.slot, setF, setH, mapF, mapH, initF, binE, unE, cnt, boundE, newsE, freshE, opE, rmH, blkQ, frz_us, Nat.reduceEqDiff, Nat.reduceLT, Nat.reduceAdd, ↓reduceIte, reduceCtorEq, Nat.reduceLeDiff, I, cS, nbsSame, hb] | (refine callC_pure (ss) rfl ?_) | exact W_ret (RetP_1 (.imm rfl)) | exact W_ret (RetP_c rfl rfl rfl (.imm rfl)))
theorem sFromInt_calls (v : Int) (h1 : -9223372036854775808 ≤ v) (h2 : v ≤ 9223372036854775807) : PCalls Tryd.prog 24 [.int .i64 v] (I v) := by
  refine PCalls_of issFromInt (by simp [fnsFromInt]) ?_
  unfold codesFromInt
  by_cases hv : v < 0
  · have d1 : decide (v < 0) = true := decide_eq_true hv
    obtain ⟨n, hn⟩ : ∃ n : Nat, v = -((n + 1 : Nat) : Int) := ⟨v.natAbs - 1, by omega⟩
    have cf := rFromUint_calls n (by omega)
    have hll : (limbs n).length ≤ 2 := limbs_len.2 (by omega)
    have ca := rAddL n 1 (by omega) (by rw [limbs1]; simp)
    have cs := s_signed_calls true (n + 1)
    rw [show sgn true (n + 1) = v by unfold sgn; rw [if_pos rfl, hn]] at cs
    have e1 : IntKind.u64.wrap (IntKind.i64.wrap (0 - IntKind.i64.wrap (v + 1))) = (n : Int) := by rw [IntKind.wrap_u64, IntKind.wrap_i64, IntKind.wrap_i64]; omega
    repeat (first | (refine W_seq ?_) | (refine W_reg ?_) | (refine W_regd ?_) | (refine W_block ?_) | (refine And.intro (by omega) ?_) | simp (config := {maxSteps := 1000000}) (disch := omega) only [cA, cB, lk, lkH, Dst.onT, Dst.onX, Dst.slot, setF, setH, mapF, mapH, initF, binE, unE, cnt, boundE, newsE, freshE, opE, rmH, blkQ, frz_us, Nat.reduceEqDiff, Nat.reduceLT, Nat.reduceAdd, ↓reduceIte, reduceCtorEq, Nat.reduceLeDiff, I, cS, nbsFromInt, d1] | (refine callC_pure (cf) rfl ?_) | (refine callC_pure (cs) rfl ?_) | exact W_ret (RetP_1 (.imm rfl)) | exact W_ret (RetP_c rfl rfl rfl (.imm rfl)))
    refine W_cond rfl (fun _ => ?_) (fun h => by cases h)
    have e2 : IntKind.i64.wrap (v + 1) = v + 1 := by rw [IntKind.wrap_i64]; omega
    have e3 : IntKind.i64.wrap (0 - (v + 1)) = 0 - (v + 1) := by rw [IntKind.wrap_i64]; omega
    have e4 : IntKind.u64.wrap (0 - (v + 1)) = (n : Int) := by rw [IntKind.wrap_u64]; omega
    have e5 : (0 - (v + 1)) = (n : Int) := by omega
    clear hll
    repeat (first | (refine W_seq ?_) | (refine W_reg ?_) | (refine W_regd ?_) | (refine W_block ?_) | (refine And.intro (by omega) ?_) | simp (config := {maxSteps := 1000000}) (disch := omega) only [cA, cB, lk, lkH, Dst.onT, Dst.onX, Dst.slot, setF, setH, mapF, mapH, initF, binE, unE, cnt, boundE, newsE, freshE, opE, rmH, blkQ, frz_us, Nat.reduceEqDiff, Nat.reduceLT, Nat.reduceAdd, ↓reduceIte, reduceCtorEq, Nat.reduceLeDiff, I, cS, nbsFromInt, d1, e5, us_rfd, us1L] | (refine callC_pure (cf) rfl ?_) | (refine callC_pure (ca) rfl ?_) | (refine callC_pure (cs) rfl ?_) | exact W_ret (RetP_1 (.imm rfl)) | exact W_ret (RetP_c rfl rfl rfl (.imm rfl)))
  · have d1 : decide (v < 0) = false := decide_eq_false hv
    obtain ⟨n, hn⟩ : ∃ n : Nat, v = (n : Int) := ⟨v.natAbs, by omega⟩
    have cf := rFromUint_calls n (by omega)
    have cs := s_signed_calls false n
    rw [show sgn false n = v by unfold sgn; rw [if_neg (by simp), hn]] at cs
    have e1 : IntKind.u64.wrap v = (n : Int) := by rw [IntKind.wrap_u64]; omega
    repeat (first | (refine W_seq ?_) | (refine W_reg ?_) | (refine W_regd ?_) | (refine W_block ?_) | (refine And.intro (by omega) ?_) | simp (config := {maxSteps := 1000000}) (disch := omega) only [cA, cB, lk, lkH, Dst.onT, Dst.onX, Dst.slot, setF, setH, mapF, mapH, initF, binE, unE, cnt, boundE, newsE, freshE, opE, rmH, blkQ, frz_us, Nat.reduceEqDiff, Nat.reduceLT, Nat.reduceAdd, ↓reduceIte, reduceCtorEq, Nat.reduceLeDiff, I, cS, nbsFromInt, d1] | (refine callC_pure (cf) rfl ?_) | (refine callC_pure (cs) rfl ?_) | exact W_ret (RetP_1 (.imm rfl)) | exact W_ret (RetP_c rfl rfl rfl (.imm rfl)))
    refine W_cond rfl (fun h => by cases h) (fun _ => W_skip ?_)
    repeat (first | (refine W_seq ?_) | (refine W_reg ?_) | (refine W_regd ?_) | (refine W_block ?_) | (refine And.intro (by omega) ?_) | simp (config := {maxSteps := 1000000}) (disch := omega) only [cA, cB, lk, lkH, Dst.onT, Dst.onX, Dst.slot, setF, setH, mapF, mapH, initF, binE, unE, cnt, boundE, newsE, freshE, opE, rmH, blkQ, frz_us, Nat.reduceEqDiff, Nat.reduceLT, Nat.reduceAdd, ↓reduceIte, reduceCtorEq, Nat.reduceLeDiff, I, cS, nbsFromInt, d1, e1] | (refine callC_pure (cf) rfl ?_) | (refine callC_pure (cs) rfl ?_) | exact W_ret (RetP_1 (.imm rfl)) | exact W_ret (RetP_c rfl rfl rfl (.imm rfl)))
end Go.Proofs.YtakchfljhihdmaaDoor
namespace Go.Proofs.YtakchfljhihdmaaDoor
open Go Go.Dat Go.Proofs Nat32

def parseR (l : List UInt8) : DV := if okD l then .tup [.sl 1 (us (limbs (dval 0 l))), .bool true] else .tup [.sl 1 [], .bool false]
theorem parseR_bad {l : List UInt8} (h : okD l = false) : parseR l = .tup [.sl 1 [], .bool false] := by unfold parseR; rw [h]; rfl
def accD (l : List UInt8) (i : Nat) : DV := if i = 0 then .nils else .sl 1 (us (limbs (dval 0 (l.take i))))
theorem okD_iff (l : List UInt8) : okD l = true ↔ l ≠ [] ∧ l.length ≤ 4000 ∧ ¬ (l.head? = some 48 ∧ 1 < l.length) ∧ l.all isD = true := by
  unfold okD
  cases l with
  | nil => simp
  | cons c l =>
    simp only [List.isEmpty_cons, Bool.false_or, Bool.and_eq_true, Bool.not_eq_true', Bool.or_eq_false_iff, decide_eq_false_iff_not, Bool.and_eq_false_iff]
    constructor
    · rintro ⟨⟨h1, h2⟩, h3⟩
      exact ⟨by simp, by omega, fun h => h2.elim (fun e => e h.1) (fun e => e h.2), h3⟩
    · rintro ⟨_, h1, h2, h3⟩
      refine ⟨⟨by omega, ?_⟩, h3⟩
      by_cases e : (c :: l).head? = some 48
      · exact .inr fun h => h2 ⟨e, h⟩
      · exact .inl e
theorem dval_len {l : List UInt8} (h : l.all isD = true) {m : Nat} (hm : l.length ≤ m) : (limbs (dval 0 l)).length ≤ m :=
  limbs_len.2 (Nat.lt_of_lt_of_le (dval_lt l h) (Nat.le_trans (Nat.pow_le_pow_left (by decide) _) (Nat.pow_le_pow_right (by decide) hm)))
theorem take_all {l : List UInt8} {i : Nat} (hi : i < l.length) (h : (l.take i).all isD = true) (hd : isD l[i] = true) : (l.take (i + 1)).all isD = true := by
  rw [List.take_succ_eq_append_getElem hi, List.all_append, h]; simp [hd]
theorem take_dval {l : List UInt8} {i : Nat} (hi : i < l.length) : dval 0 (l.take (i + 1)) = dval 0 (l.take i) * 10 + (l[i].toNat - 48) := by
  rw [List.take_succ_eq_append_getElem hi, dval_append, dval_cons, dval_nil, Nat.mul_comm]

set_option maxHeartbeats 2000000 in
theorem rParse_calls (l : List UInt8) : PCalls Tryd.prog 59 [.str l] (parseR l) := by
  refine PCalls_of isrParse (by simp [fnrParse]) ?_
  unfold coderParse
  by_cases hn : l = []
  · subst hn
    have hb : okD [] = false := rfl
    rw [parseR_bad hb]
    repeat (first | (refine W_seq ?_) | (refine W_reg ?_) | (refine W_regd ?_) | (refine W_block ?_) | (refine And.intro (by omega) ?_) | simp (config := {maxSteps := 1000000}) (disch := omega) only [cA, cB, lk, lkH, Dst.onT, Dst.onX, Dst.slot, setF, setH, mapF, mapH, initF, binE, unE, cnt, boundE, newsE, freshE, opE, rmH, blkQ, frz_us, Nat.reduceEqDiff, Nat.reduceLT, Nat.reduceAdd, ↓reduceIte, reduceCtorEq, Nat.reduceLeDiff, decide_true])
    refine W_cond rfl (fun _ => ?_) (fun h => by cases h)
    repeat (first | (refine W_seq ?_) | (refine W_reg ?_) | (refine W_regd ?_) | (refine W_block ?_) | (refine And.intro (by omega) ?_) | simp (config := {maxSteps := 1000000}) (disch := omega) only [cA, cB, lk, lkH, Dst.onT, Dst.onX, Dst.slot, setF, setH, mapF, mapH, initF, binE, unE, cnt, boundE, newsE, freshE, opE, rmH, blkQ, frz_us, Nat.reduceEqDiff, Nat.reduceLT, Nat.reduceAdd, ↓reduceIte, reduceCtorEq, Nat.reduceLeDiff])
    exact W_ret (RetP_2 (.nils _) (.imm rfl))
  · have hpos : 0 < l.length := List.length_pos_iff.2 hn
    have dn : decide (l = []) = false := decide_eq_false hn
    by_cases h4 : 4000 < l.length
    · have d4 : decide ((4000 : Int) < l.length) = true := decide_eq_true (by omega)
      have hb : okD l = false := by
        rw [← Bool.not_eq_true, okD_iff]
        exact fun h => by omega
      rw [parseR_bad hb]
      repeat (first | (refine W_seq ?_) | (refine W_reg ?_) | (refine W_regd ?_) | (refine W_block ?_) | (refine And.intro (by omega) ?_) | simp (config := {maxSteps := 1000000}) (disch := omega) only [cA, cB, lk, lkH, Dst.onT, Dst.onX, Dst.slot, setF, setH, mapF, mapH, initF, binE, unE, cnt, boundE, newsE, freshE, opE, rmH, blkQ, frz_us, Nat.reduceEqDiff, Nat.reduceLT, Nat.reduceAdd, ↓reduceIte, reduceCtorEq, Nat.reduceLeDiff, dn, d4])
      refine W_cond rfl (fun _ => ?_) (fun h => by cases h)
      repeat (first | (refine W_seq ?_) | (refine W_reg ?_) | (refine W_regd ?_) | (refine W_block ?_) | (refine And.intro (by omega) ?_) | simp (config := {maxSteps := 1000000}) (disch := omega) only [cA, cB, lk, lkH, Dst.onT, Dst.onX, Dst.slot, setF, setH, mapF, mapH, initF, binE, unE, cnt, boundE, newsE, freshE, opE, rmH, blkQ, frz_us, Nat.reduceEqDiff, Nat.reduceLT, Nat.reduceAdd, ↓reduceIte, reduceCtorEq, Nat.reduceLeDiff])
      exact W_ret (RetP_2 (.nils _) (.imm rfl))
    · have d4 : decide ((4000 : Int) < l.length) = false := decide_eq_false (by omega)
      by_cases hz : l.head? = some 48 ∧ 1 < l.length
      · have hb : okD l = false := by
          rw [← Bool.not_eq_true, okD_iff]
          exact fun h => h.2.2.1 hz
        have d1 : decide ((1 : Int) < l.length) = true := decide_eq_true (by omega)
        have hg : l.getD 0 0 = 48 := by
          cases l with
          | nil => exact absurd rfl hn
          | cons c r => simpa using hz.1
        have e0 : (Int.toNat 0) = 0 := rfl
        have e48 : byteD 48 = .int .u8 48 := rfl
        rw [parseR_bad hb]
        repeat (first | (refine W_seq ?_) | (refine W_reg ?_) | (refine W_regd ?_) | (refine W_block ?_) | (refine And.intro (by omega) ?_) | simp (config := {maxSteps := 1000000}) (disch := omega) only [cA, cB, lk, lkH, Dst.onT, Dst.onX, Dst.slot, setF, setH, mapF, mapH, initF, binE, unE, cnt, boundE, newsE, freshE, opE, rmH, blkQ, frz_us, Nat.reduceEqDiff, Nat.reduceLT, Nat.reduceAdd, ↓reduceIte, reduceCtorEq, Nat.reduceLeDiff, dn, d4, d1, e0, hg, e48])
        refine W_cond rfl (fun _ => ?_) (fun h => by simp at h)
        repeat (first | (refine W_seq ?_) | (refine W_reg ?_) | (refine W_regd ?_) | (refine W_block ?_) | (refine And.intro (by omega) ?_) | simp (config := {maxSteps := 1000000}) (disch := omega) only [cA, cB, lk, lkH, Dst.onT, Dst.onX, Dst.slot, setF, setH, mapF, mapH, initF, binE, unE, cnt, boundE, newsE, freshE, opE, rmH, blkQ, frz_us, Nat.reduceEqDiff, Nat.reduceLT, Nat.reduceAdd, ↓reduceIte, reduceCtorEq, Nat.reduceLeDiff])
        exact W_ret (RetP_2 (.nils _) (.imm rfl))
      · have e0 : (Int.toNat 0) = 0 := rfl
        by_cases h1 : 1 < l.length
        · have d1 : decide ((1 : Int) < l.length) = true := decide_eq_true (by omega)
          have hne : ¬ (l.getD 0 0).toNat = 48 := fun e => hz ⟨by
            cases l with
            | nil => exact absurd rfl hn
            | cons c r => simp only [List.getD_cons_zero] at e; rw [List.head?_cons, ← UInt8.toNat_inj.1 (show c.toNat = (48 : UInt8).toNat from e)], h1⟩
          have ebd : byteD (l.getD 0 0) = .int .u8 ((l.getD 0 0).toNat : Nat) := rfl
          have d2 : decide ((((l.getD 0 0).toNat : Nat) : Int) = 48) = false := decide_eq_false (by omega)
          repeat (first | (refine W_seq ?_) | (refine W_reg ?_) | (refine W_regd ?_) | (refine W_block ?_) | (refine And.intro (by omega) ?_) | simp (config := {maxSteps := 1000000}) (disch := omega) only [cA, cB, lk, lkH, Dst.onT, Dst.onX, Dst.slot, setF, setH, mapF, mapH, initF, binE, unE, cnt, boundE, newsE, freshE, opE, rmH, blkQ, frz_us, Nat.reduceEqDiff, Nat.reduceLT, Nat.reduceAdd, ↓reduceIte, reduceCtorEq, Nat.reduceLeDiff, dn, d4, d1, e0, ebd, d2])
          refine W_cond rfl (fun h => by cases h) (fun _ => W_skip ?_)
          clear hne ebd d2 d1
          repeat (first | (refine W_seq ?_) | (refine W_reg ?_) | (refine W_regd ?_) | (refine W_block ?_) | (refine And.intro (by omega) ?_) | simp (config := {maxSteps := 1000000}) (disch := omega) only [cA, cB, lk, lkH, Dst.onT, Dst.onX, Dst.slot, setF, setH, mapF, mapH, initF, binE, unE, cnt, boundE, newsE, freshE, opE, rmH, blkQ, frz_us, Nat.reduceEqDiff, Nat.reduceLT, Nat.reduceAdd, ↓reduceIte, reduceCtorEq, Nat.reduceLeDiff])
          refine W_loop (σ := Nat) (fun i => [(0, .str l), (2, .nils), (3, .bool false), (4, accD l i), (5, .int .i64 i)]) (fun _ => []) (fun i => i ≤ l.length ∧ (l.take i).all isD = true) (fun i => l.length - i) 0 (And.intro (Nat.zero_le _) rfl) ?_ rfl ?_
          · simp [subF, lk, accD]
          · rintro i ⟨hi, hall⟩
            try simp only at hi hall ⊢
            by_cases hlt : i < l.length
            · have dl : decide ((i : Int) < l.length) = true := decide_eq_true (by omega)
              have ei : (i : Int).toNat = i := Int.toNat_natCast i
              have hgd : l.getD i 0 = l[i] := by rw [List.getD_eq_getElem?_getD, List.getElem?_eq_getElem hlt]; rfl
              have hta := take_all hlt hall
              have htd := take_dval hlt
              have hmem : l[i] ∈ l := List.getElem_mem hlt
              have hdl := dval_len hall (m := 4000) (by simp; omega)
              generalize l[i] = c at *
              have hk : c.toNat < 256 := UInt8.toNat_lt c
              have ebd : byteD c = .int .u8 (c.toNat : Nat) := rfl
              repeat (first | (refine W_seq ?_) | (refine W_reg ?_) | (refine W_regd ?_) | (refine W_block ?_) | (refine And.intro (by omega) ?_) | simp (config := {maxSteps := 1000000}) (disch := omega) only [cA, cB, lk, lkH, Dst.onT, Dst.onX, Dst.slot, setF, setH, mapF, mapH, initF, binE, unE, cnt, boundE, newsE, freshE, opE, rmH, blkQ, frz_us, Nat.reduceEqDiff, Nat.reduceLT, Nat.reduceAdd, ↓reduceIte, reduceCtorEq, Nat.reduceLeDiff, dl])
              refine W_cond rfl (fun _ => W_skip ?_) (fun h => by cases h)
              by_cases hd : isD c = true
              · have hd' := hd
                simp only [isD, Bool.and_eq_true, decide_eq_true_eq] at hd'
                have d5 : decide ((c.toNat : Int) < 48) = false := decide_eq_false (by omega)
                have d6 : decide ((57 : Int) < c.toNat) = false := decide_eq_false (by omega)
                have e7 : IntKind.u8.wrap ((c.toNat : Int) - 48) = ((c.toNat - 48 : Nat) : Int) := by rw [IntKind.wrap_u8]; omega
                have e8 : (c.toNat : Int) - 48 = ((c.toNat - 48 : Nat) : Int) := by omega
                have hta' := hta hd
                have ct : PCalls Tryd.prog 77 [accD l i, .int .u32 10, .int .i64 0] (.sl 1 (us (limbs (dval 0 (l.take i) * 10)))) := by
                  have h := rTimes_calls (dval 0 (l.take i)) 10 0 (by omega) (by decide) (by decide)
                  rw [Nat.pow_zero, Nat.one_mul] at h
                  unfold accD
                  split
                  · rename_i h0
                    subst h0
                    refine PCalls_nz 1 ?_
                    rw [List.take_zero, dval_nil, Nat.zero_mul, limbs_zero] at h
                    rw [List.take_zero, dval_nil, Nat.zero_mul, limbs_zero]
                    exact h
                  · exact h
                have cf := rFromUint_calls (c.toNat - 48) (by omega)
                have hm10 := len_mul hdl (show (limbs 10).length ≤ 1 by rw [limbs_one (by decide) (by decide)]; simp)
                have ca := rAddL (dval 0 (l.take i) * 10) (c.toNat - 48) (by omega) (Nat.le_trans (limbs_len.2 (show c.toNat - 48 < 4294967296 ^ 1 by omega)) (by decide))
                rw [← htd] at ca
                have hac : accD l (i + 1) = .sl 1 (us (limbs (dval 0 (l.take (i + 1))))) := by unfold accD; rw [if_neg (by omega)]
                rw [← hac] at ca
                have i1 : ((i : Int) + 1) = ((i + 1 : Nat) : Int) := by omega
                have hacc : accD l i = .nils ∨ ∃ xs, accD l i = .sl 1 xs := by
                  unfold accD
                  split
                  · exact .inl rfl
                  · exact .inr ⟨_, rfl⟩
                clear hta htd hdl hm10 hall hd hac
                (replace hta' := Hid.mk hta')
                repeat (first | (refine W_seq ?_) | (refine W_reg ?_) | (refine W_regd ?_) | (refine W_block ?_) | (refine And.intro (by omega) ?_) | simp (config := {maxSteps := 1000000}) (disch := omega) only [cA, cB, lk, lkH, Dst.onT, Dst.onX, Dst.slot, setF, setH, mapF, mapH, initF, binE, unE, cnt, boundE, newsE, freshE, opE, rmH, blkQ, frz_us, Nat.reduceEqDiff, Nat.reduceLT, Nat.reduceAdd, ↓reduceIte, reduceCtorEq, Nat.reduceLeDiff, ei, hgd, ebd, d5, d6])
                refine W_cond rfl (fun h => by cases h) (fun _ => W_skip ?_)
                rcases hacc with e | ⟨xs, e⟩
                · rw [e] at ct ⊢
                  repeat (first | (refine W_seq ?_) | (refine W_reg ?_) | (refine W_regd ?_) | (refine W_block ?_) | (refine And.intro (by omega) ?_) | simp (config := {maxSteps := 1000000}) (disch := omega) only [cA, cB, lk, lkH, Dst.onT, Dst.onX, Dst.slot, setF, setH, mapF, mapH, initF, binE, unE, cnt, boundE, newsE, freshE, opE, rmH, blkQ, frz_us, Nat.reduceEqDiff, Nat.reduceLT, Nat.reduceAdd, ↓reduceIte, reduceCtorEq, Nat.reduceLeDiff, ei, hgd, ebd, e7, e8, i1] | (refine callC_pure (ct) rfl ?_) | (refine callC_pure (cf) rfl ?_) | (refine callC_pure (ca) rfl ?_) | exact W_ret (RetP_1 (.imm rfl)) | exact W_ret (RetP_c rfl rfl rfl (.imm rfl)))
                  exact ⟨i + 1, And.intro hlt hta'.out, by omega, by simp [subF, lk]⟩
                · rw [e] at ct ⊢
                  repeat (first | (refine W_seq ?_) | (refine W_reg ?_) | (refine W_regd ?_) | (refine W_block ?_) | (refine And.intro (by omega) ?_) | simp (config := {maxSteps := 1000000}) (disch := omega) only [cA, cB, lk, lkH, Dst.onT, Dst.onX, Dst.slot, setF, setH, mapF, mapH, initF, binE, unE, cnt, boundE, newsE, freshE, opE, rmH, blkQ, frz_us, Nat.reduceEqDiff, Nat.reduceLT, Nat.reduceAdd, ↓reduceIte, reduceCtorEq, Nat.reduceLeDiff, ei, hgd, ebd, e7, e8, i1] | (refine callC_pure (ct) rfl ?_) | (refine callC_pure (cf) rfl ?_) | (refine callC_pure (ca) rfl ?_) | exact W_ret (RetP_1 (.imm rfl)) | exact W_ret (RetP_c rfl rfl rfl (.imm rfl)))
                  exact ⟨i + 1, And.intro hlt hta'.out, by omega, by simp [subF, lk]⟩
              · have hb : okD l = false := by
                  rw [← Bool.not_eq_true, okD_iff]
                  exact fun h => hd (List.all_eq_true.1 h.2.2.2 c hmem)
                rw [parseR_bad hb]
                clear hta htd hall hdl
                by_cases h5 : c.toNat < 48
                · have d5 : decide ((c.toNat : Int) < 48) = true := decide_eq_true (by omega)
                  repeat (first | (refine W_seq ?_) | (refine W_reg ?_) | (refine W_regd ?_) | (refine W_block ?_) | (refine And.intro (by omega) ?_) | simp (config := {maxSteps := 1000000}) (disch := omega) only [cA, cB, lk, lkH, Dst.onT, Dst.onX, Dst.slot, setF, setH, mapF, mapH, initF, binE, unE, cnt, boundE, newsE, freshE, opE, rmH, blkQ, frz_us, Nat.reduceEqDiff, Nat.reduceLT, Nat.reduceAdd, ↓reduceIte, reduceCtorEq, Nat.reduceLeDiff, ei, hgd, ebd, d5])
                  refine W_cond rfl (fun _ => ?_) (fun h => by cases h)
                  repeat (first | (refine W_seq ?_) | (refine W_reg ?_) | (refine W_regd ?_) | (refine W_block ?_) | (refine And.intro (by omega) ?_) | simp (config := {maxSteps := 1000000}) (disch := omega) only [cA, cB, lk, lkH, Dst.onT, Dst.onX, Dst.slot, setF, setH, mapF, mapH, initF, binE, unE, cnt, boundE, newsE, freshE, opE, rmH, blkQ, frz_us, Nat.reduceEqDiff, Nat.reduceLT, Nat.reduceAdd, ↓reduceIte, reduceCtorEq, Nat.reduceLeDiff])
                  exact W_ret (RetP_2 (.nils _) (.imm rfl))
                · have d5 : decide ((c.toNat : Int) < 48) = false := decide_eq_false (by omega)
                  have d6 : decide ((57 : Int) < c.toNat) = true := decide_eq_true (by
                    simp only [isD, Bool.and_eq_true, decide_eq_true_eq] at hd
                    omega)
                  repeat (first | (refine W_seq ?_) | (refine W_reg ?_) | (refine W_regd ?_) | (refine W_block ?_) | (refine And.intro (by omega) ?_) | simp (config := {maxSteps := 1000000}) (disch := omega) only [cA, cB, lk, lkH, Dst.onT, Dst.onX, Dst.slot, setF, setH, mapF, mapH, initF, binE, unE, cnt, boundE, newsE, freshE, opE, rmH, blkQ, frz_us, Nat.reduceEqDiff, Nat.reduceLT, Nat.reduceAdd, ↓reduceIte, reduceCtorEq, Nat.reduceLeDiff, ei, hgd, ebd, d5, d6])
                  refine W_cond rfl (fun _ => ?_) (fun h => by cases h)
                  repeat (first | (refine W_seq ?_) | (refine W_reg ?_) | (refine W_regd ?_) | (refine W_block ?_) | (refine And.intro (by omega) ?_) | simp (config := {maxSteps := 1000000}) (disch := omega) only [cA, cB, lk, lkH, Dst.onT, Dst.onX, Dst.slot, setF, setH, mapF, mapH, initF, binE, unE, cnt, boundE, newsE, freshE, opE, rmH, blkQ, frz_us, Nat.reduceEqDiff, Nat.reduceLT, Nat.reduceAdd, ↓reduceIte, reduceCtorEq, Nat.reduceLeDiff])
                  exact W_ret (RetP_2 (.nils _) (.imm rfl))
            · have hil : i = l.length := by omega
              subst hil
              have dl : decide ((l.length : Int) < l.length) = false := decide_eq_false (by omega)
              rw [List.take_length] at hall
              have hb : okD l = true := (okD_iff l).2 ⟨hn, by omega, hz, hall⟩
              have hr : parseR l = .tup [.sl 1 (us (limbs (dval 0 l))), .bool true] := by unfold parseR; rw [hb]; rfl
              have hac : accD l l.length = .sl 1 (us (limbs (dval 0 l))) := by unfold accD; rw [if_neg (by omega), List.take_length]
              rw [hr, hac]
              repeat (first | (refine W_seq ?_) | (refine W_reg ?_) | (refine W_regd ?_) | (refine W_block ?_) | (refine And.intro (by omega) ?_) | simp (config := {maxSteps := 1000000}) (disch := omega) only [cA, cB, lk, lkH, Dst.onT, Dst.onX, Dst.slot, setF, setH, mapF, mapH, initF, binE, unE, cnt, boundE, newsE, freshE, opE, rmH, blkQ, frz_us, Nat.reduceEqDiff, Nat.reduceLT, Nat.reduceAdd, ↓reduceIte, reduceCtorEq, Nat.reduceLeDiff, dl])
              refine W_cond rfl (fun h => by cases h) (fun _ => W_exit ?_)
              repeat (first | (refine W_seq ?_) | (refine W_reg ?_) | (refine W_regd ?_) | (refine W_block ?_) | (refine And.intro (by omega) ?_) | simp (config := {maxSteps := 1000000}) (disch := omega) only [cA, cB, lk, lkH, Dst.onT, Dst.onX, Dst.slot, setF, setH, mapF, mapH, initF, binE, unE, cnt, boundE, newsE, freshE, opE, rmH, blkQ, frz_us, Nat.reduceEqDiff, Nat.reduceLT, Nat.reduceAdd, ↓reduceIte, reduceCtorEq, Nat.reduceLeDiff])
              exact W_ret (RetP_2 (.imm rfl) (.imm rfl))
        · have d1 : decide ((1 : Int) < l.length) = false := decide_eq_false (by omega)
          repeat (first | (refine W_seq ?_) | (refine W_reg ?_) | (refine W_regd ?_) | (refine W_block ?_) | (refine And.intro (by omega) ?_) | simp (config := {maxSteps := 1000000}) (disch := omega) only [cA, cB, lk, lkH, Dst.onT, Dst.onX, Dst.slot, setF, setH, mapF, mapH, initF, binE, unE, cnt, boundE, newsE, freshE, opE, rmH, blkQ, frz_us, Nat.reduceEqDiff, Nat.reduceLT, Nat.reduceAdd, ↓reduceIte, reduceCtorEq, Nat.reduceLeDiff, dn, d4, d1])
          refine W_cond rfl (fun h => by cases h) (fun _ => W_skip ?_)
          repeat (first | (refine W_seq ?_) | (refine W_reg ?_) | (refine W_regd ?_) | (refine W_block ?_) | (refine And.intro (by omega) ?_) | simp (config := {maxSteps := 1000000}) (disch := omega) only [cA, cB, lk, lkH, Dst.onT, Dst.onX, Dst.slot, setF, setH, mapF, mapH, initF, binE, unE, cnt, boundE, newsE, freshE, opE, rmH, blkQ, frz_us, Nat.reduceEqDiff, Nat.reduceLT, Nat.reduceAdd, ↓reduceIte, reduceCtorEq, Nat.reduceLeDiff])
          refine W_loop (σ := Nat) (fun i => [(0, .str l), (2, .nils), (3, .bool false), (4, accD l i), (5, .int .i64 i)]) (fun _ => []) (fun i => i ≤ l.length ∧ (l.take i).all isD = true) (fun i => l.length - i) 0 (And.intro (Nat.zero_le _) rfl) ?_ rfl ?_
          · simp [subF, lk, accD]
          · rintro i ⟨hi, hall⟩
            try simp only at hi hall ⊢
            by_cases hlt : i < l.length
            · have dl : decide ((i : Int) < l.length) = true := decide_eq_true (by omega)
              have ei : (i : Int).toNat = i := Int.toNat_natCast i
              have hgd : l.getD i 0 = l[i] := by rw [List.getD_eq_getElem?_getD, List.getElem?_eq_getElem hlt]; rfl
              have hta := take_all hlt hall
              have htd := take_dval hlt
              have hmem : l[i] ∈ l := List.getElem_mem hlt
              have hdl := dval_len hall (m := 4000) (by simp; omega)
              generalize l[i] = c at *
              have hk : c.toNat < 256 := UInt8.toNat_lt c
              have ebd : byteD c = .int .u8 (c.toNat : Nat) := rfl
              repeat (first | (refine W_seq ?_) | (refine W_reg ?_) | (refine W_regd ?_) | (refine W_block ?_) | (refine And.intro (by omega) ?_) | simp (config := {maxSteps := 1000000}) (disch := omega) only [cA, cB, lk, lkH, Dst.onT, Dst.onX, Dst.slot, setF, setH, mapF, mapH, initF, binE, unE, cnt, boundE, newsE, freshE, opE, rmH, blkQ, frz_us, Nat.reduceEqDiff, Nat.reduceLT, Nat.reduceAdd, ↓reduceIte, reduceCtorEq, Nat.reduceLeDiff, dl])
              refine W_cond rfl (fun _ => W_skip ?_) (fun h => by cases h)
              by_cases hd : isD c = true
              · have hd' := hd
                simp only [isD, Bool.and_eq_true, decide_eq_true_eq] at hd'
                have d5 : decide ((c.toNat : Int) < 48) = false := decide_eq_false (by omega)
                have d6 : decide ((57 : Int) < c.toNat) = false := decide_eq_false (by omega)
                have e7 : IntKind.u8.wrap ((c.toNat : Int) - 48) = ((c.toNat - 48 : Nat) : Int) := by rw [IntKind.wrap_u8]; omega
                have e8 : (c.toNat : Int) - 48 = ((c.toNat - 48 : Nat) : Int) := by omega
                have hta' := hta hd
                have ct : PCalls Tryd.prog 77 [accD l i, .int .u32 10, .int .i64 0] (.sl 1 (us (limbs (dval 0 (l.take i) * 10)))) := by
                  have h := rTimes_calls (dval 0 (l.take i)) 10 0 (by omega) (by decide) (by decide)
                  rw [Nat.pow_zero, Nat.one_mul] at h
                  unfold accD
                  split
                  · rename_i h0
                    subst h0
                    refine PCalls_nz 1 ?_
                    rw [List.take_zero, dval_nil, Nat.zero_mul, limbs_zero] at h
                    rw [List.take_zero, dval_nil, Nat.zero_mul, limbs_zero]
                    exact h
                  · exact h
                have cf := rFromUint_calls (c.toNat - 48) (by omega)
                have hm10 := len_mul hdl (show (limbs 10).length ≤ 1 by rw [limbs_one (by decide) (by decide)]; simp)
                have ca := rAddL (dval 0 (l.take i) * 10) (c.toNat - 48) (by omega) (Nat.le_trans (limbs_len.2 (show c.toNat - 48 < 4294967296 ^ 1 by omega)) (by decide))
                rw [← htd] at ca
                have hac : accD l (i + 1) = .sl 1 (us (limbs (dval 0 (l.take (i + 1))))) := by unfold accD; rw [if_neg (by omega)]
                rw [← hac] at ca
                have i1 : ((i : Int) + 1) = ((i + 1 : Nat) : Int) := by omega
                have hacc : accD l i = .nils ∨ ∃ xs, accD l i = .sl 1 xs := by
                  unfold accD
                  split
                  · exact .inl rfl
                  · exact .inr ⟨_, rfl⟩
                clear hta htd hdl hm10 hall hd hac
                (replace hta' := Hid.mk hta')
                repeat (first | (refine W_seq ?_) | (refine W_reg ?_) | (refine W_regd ?_) | (refine W_block ?_) | (refine And.intro (by omega) ?_) | simp (config := {maxSteps := 1000000}) (disch := omega) only [cA, cB, lk, lkH, Dst.onT, Dst.onX, Dst.slot, setF, setH, mapF, mapH, initF, binE, unE, cnt, boundE, newsE, freshE, opE, rmH, blkQ, frz_us, Nat.reduceEqDiff, Nat.reduceLT, Nat.reduceAdd, ↓reduceIte, reduceCtorEq, Nat.reduceLeDiff, ei, hgd, ebd, d5, d6])
                refine W_cond rfl (fun h => by cases h) (fun _ => W_skip ?_)
                rcases hacc with e | ⟨xs, e⟩
                · rw [e] at ct ⊢
                  repeat (first | (refine W_seq ?_) | (refine W_reg ?_) | (refine W_regd ?_) | (refine W_block ?_) | (refine And.intro (by omega) ?_) | simp (config := {maxSteps := 1000000}) (disch := omega) only [cA, cB, lk, lkH, Dst.onT, Dst.onX, Dst.slot, setF, setH, mapF, mapH, initF, binE, unE, cnt, boundE, newsE, freshE, opE, rmH, blkQ, frz_us, Nat.reduceEqDiff, Nat.reduceLT, Nat.reduceAdd, ↓reduceIte, reduceCtorEq, Nat.reduceLeDiff, ei, hgd, ebd, e7, e8, i1] | (refine callC_pure (ct) rfl ?_) | (refine callC_pure (cf) rfl ?_) | (refine callC_pure (ca) rfl ?_) | exact W_ret (RetP_1 (.imm rfl)) | exact W_ret (RetP_c rfl rfl rfl (.imm rfl)))
                  exact ⟨i + 1, And.intro hlt hta'.out, by omega, by simp [subF, lk]⟩
                · rw [e] at ct ⊢
                  repeat (first | (refine W_seq ?_) | (refine W_reg ?_) | (refine W_regd ?_) | (refine W_block ?_) | (refine And.intro (by omega) ?_) | simp (config := {maxSteps := 1000000}) (disch := omega) only [cA, cB, lk, lkH, Dst.onT, Dst.onX, Dst.slot, setF, setH, mapF, mapH, initF, binE, unE, cnt, boundE, newsE, freshE, opE, rmH, blkQ, frz_us, Nat.reduceEqDiff, Nat.reduceLT, Nat.reduceAdd, ↓reduceIte, reduceCtorEq, Nat.reduceLeDiff, ei, hgd, ebd, e7, e8, i1] | (refine callC_pure (ct) rfl ?_) | (refine callC_pure (cf) rfl ?_) | (refine callC_pure (ca) rfl ?_) | exact W_ret (RetP_1 (.imm rfl)) | exact W_ret (RetP_c rfl rfl rfl (.imm rfl)))
                  exact ⟨i + 1, And.intro hlt hta'.out, by omega, by simp [subF, lk]⟩
              · have hb : okD l = false := by
                  rw [← Bool.not_eq_true, okD_iff]
                  exact fun h => hd (List.all_eq_true.1 h.2.2.2 c hmem)
                rw [parseR_bad hb]
                clear hta htd hall hdl
                by_cases h5 : c.toNat < 48
                · have d5 : decide ((c.toNat : Int) < 48) = true := decide_eq_true (by omega)
                  repeat (first | (refine W_seq ?_) | (refine W_reg ?_) | (refine W_regd ?_) | (refine W_block ?_) | (refine And.intro (by omega) ?_) | simp (config := {maxSteps := 1000000}) (disch := omega) only [cA, cB, lk, lkH, Dst.onT, Dst.onX, Dst.slot, setF, setH, mapF, mapH, initF, binE, unE, cnt, boundE, newsE, freshE, opE, rmH, blkQ, frz_us, Nat.reduceEqDiff, Nat.reduceLT, Nat.reduceAdd, ↓reduceIte, reduceCtorEq, Nat.reduceLeDiff, ei, hgd, ebd, d5])
                  refine W_cond rfl (fun _ => ?_) (fun h => by cases h)
                  repeat (first | (refine W_seq ?_) | (refine W_reg ?_) | (refine W_regd ?_) | (refine W_block ?_) | (refine And.intro (by omega) ?_) | simp (config := {maxSteps := 1000000}) (disch := omega) only [cA, cB, lk, lkH, Dst.onT, Dst.onX, Dst.slot, setF, setH, mapF, mapH, initF, binE, unE, cnt, boundE, newsE, freshE, opE, rmH, blkQ, frz_us, Nat.reduceEqDiff, Nat.reduceLT, Nat.reduceAdd, ↓reduceIte, reduceCtorEq, Nat.reduceLeDiff])
                  exact W_ret (RetP_2 (.nils _) (.imm rfl))
                · have d5 : decide ((c.toNat : Int) < 48) = false := decide_eq_false (by omega)
                  have d6 : decide ((57 : Int) < c.toNat) = true := decide_eq_true (by
                    simp only [isD, Bool.and_eq_true, decide_eq_true_eq] at hd
                    omega)
                  repeat (first | (refine W_seq ?_) | (refine W_reg ?_) | (refine W_regd ?_) | (refine W_block ?_) | (refine And.intro (by omega) ?_) | simp (config := {maxSteps := 1000000}) (disch := omega) only [cA, cB, lk, lkH, Dst.onT, Dst.onX, Dst.slot, setF, setH, mapF, mapH, initF, binE, unE, cnt, boundE, newsE, freshE, opE, rmH, blkQ, frz_us, Nat.reduceEqDiff, Nat.reduceLT, Nat.reduceAdd, ↓reduceIte, reduceCtorEq, Nat.reduceLeDiff, ei, hgd, ebd, d5, d6])
                  refine W_cond rfl (fun _ => ?_) (fun h => by cases h)
                  repeat (first | (refine W_seq ?_) | (refine W_reg ?_) | (refine W_regd ?_) | (refine W_block ?_) | (refine And.intro (by omega) ?_) | simp (config := {maxSteps := 1000000}) (disch := omega) only [cA, cB, lk, lkH, Dst.onT, Dst.onX, Dst.slot, setF, setH, mapF, mapH, initF, binE, unE, cnt, boundE, newsE, freshE, opE, rmH, blkQ, frz_us, Nat.reduceEqDiff, Nat.reduceLT, Nat.reduceAdd, ↓reduceIte, reduceCtorEq, Nat.reduceLeDiff])
                  exact W_ret (RetP_2 (.nils _) (.imm rfl))
            · have hil : i = l.length := by omega
              subst hil
              have dl : decide ((l.length : Int) < l.length) = false := decide_eq_false (by omega)
              rw [List.take_length] at hall
              have hb : okD l = true := (okD_iff l).2 ⟨hn, by omega, hz, hall⟩
              have hr : parseR l = .tup [.sl 1 (us (limbs (dval 0 l))), .bool true] := by unfold parseR; rw [hb]; rfl
              have hac : accD l l.length = .sl 1 (us (limbs (dval 0 l))) := by unfold accD; rw [if_neg (by omega), List.take_length]
              rw [hr, hac]
              repeat (first | (refine W_seq ?_) | (refine W_reg ?_) | (refine W_regd ?_) | (refine W_block ?_) | (refine And.intro (by omega) ?_) | simp (config := {maxSteps := 1000000}) (disch := omega) only [cA, cB, lk, lkH, Dst.onT, Dst.onX, Dst.slot, setF, setH, mapF, mapH, initF, binE, unE, cnt, boundE, newsE, freshE, opE, rmH, blkQ, frz_us, Nat.reduceEqDiff, Nat.reduceLT, Nat.reduceAdd, ↓reduceIte, reduceCtorEq, Nat.reduceLeDiff, dl])
              refine W_cond rfl (fun h => by cases h) (fun _ => W_exit ?_)
              repeat (first | (refine W_seq ?_) | (refine W_reg ?_) | (refine W_regd ?_) | (refine W_block ?_) | (refine And.intro (by omega) ?_) | simp (config := {maxSteps := 1000000}) (disch := omega) only [cA, cB, lk, lkH, Dst.onT, Dst.onX, Dst.slot, setF, setH, mapF, mapH, initF, binE, unE, cnt, boundE, newsE, freshE, opE, rmH, blkQ, frz_us, Nat.reduceEqDiff, Nat.reduceLT, Nat.reduceAdd, ↓reduceIte, reduceCtorEq, Nat.reduceLeDiff])
              exact W_ret (RetP_2 (.imm rfl) (.imm rfl))
end Go.Proofs.YtakchfljhihdmaaDoor
namespace Go.Proofs.YtakchfljhihdmaaDoor
open Go Go.Dat Go.Proofs Nat32

theorem byteD_get {g : List UInt8} {j : Nat} (h : j < g.length) : (g.map byteD).getD j .undef = .int .u8 (g[j].toNat : Nat) := by
  rw [List.getD_eq_getElem?_getD, List.getElem?_map, List.getElem?_eq_getElem h]; rfl
theorem byteD_get? {g : List UInt8} {j : Nat} (h : j < g.length) : (g.map byteD)[j]? = some (.int .u8 (g[j].toNat : Nat)) := by
  rw [List.getElem?_map, List.getElem?_eq_getElem h]; rfl
theorem seg_len {l : List UInt8} {at' e : Nat} (h : e ≤ l.length) : ((l.take e).drop at').length = e - at' := by
  rw [List.length_drop, List.length_take]; omega
theorem take_seg {l : List UInt8} {at' e : Nat} (h : at' ≤ e) : l.take e = l.take at' ++ (l.take e).drop at' := by
  have := List.take_append_drop at' (l.take e)
  rw [List.take_take, Nat.min_eq_left h] at this
  exact this.symm
theorem dval_seg {l : List UInt8} {at' e : Nat} (h : at' ≤ e) (he : e ≤ l.length) (h9 : at' = 0 ∨ e - at' = 9) : dval 0 (l.take at') * 1000000000 + dval 0 ((l.take e).drop at') = dval 0 (l.take e) := by
  rcases h9 with rfl | h9
  · rw [List.take_zero, dval_nil, List.drop_zero]; omega
  · have e1 := take_seg (l := l) h
    have e2 := congrArg (dval 0) e1
    rw [dval_append, dval_acc _ (dval 0 (l.take at'))] at e2
    rw [e2, seg_len he, h9]

theorem accD_cases (l : List UInt8) (i : Nat) : accD l i = .nils ∨ ∃ xs, accD l i = .sl 1 xs := by
  unfold accD
  by_cases h : i = 0
  · rw [if_pos h]; exact .inl rfl
  · rw [if_neg h]; exact .inr ⟨_, rfl⟩
theorem accD_nMul (l : List UInt8) (i : Nat) (hd : (limbs (dval 0 (l.take i))).length ≤ 10000) : PCalls Tryd.prog 45 [accD l i, .sl 1 (us (limbs 1000000000))] (.sl 1 (us (limbs (dval 0 (l.take i) * 1000000000)))) := by
  have h := nMulL (dval 0 (l.take i)) 1000000000 hd (by rw [limbs_one (by decide) (by decide)]; simp)
  unfold accD
  by_cases h0 : i = 0
  · subst h0
    rw [if_pos rfl]
    refine PCalls_nz 1 ?_
    rw [List.take_zero, dval_nil, Nat.zero_mul, limbs_zero] at h
    rw [List.take_zero, dval_nil, Nat.zero_mul, limbs_zero]
    exact h
  · rw [if_neg h0]; exact h

set_option maxHeartbeats 4000000 in
theorem nParse_calls (l : List UInt8) : PCalls Tryd.prog 58 [.str l] (parseR l) := by
  refine PCalls_of isnParse (by simp [fnnParse]) ?_
  unfold codenParse
  by_cases hn : l = []
  · subst hn
    have hb : okD [] = false := rfl
    rw [parseR_bad hb]
    repeat (first | (refine W_seq ?_) | (refine W_reg ?_) | (refine W_regd ?_) | (refine W_block ?_) | (refine And.intro (by omega) ?_) | simp (config := {maxSteps := 1000000}) (disch := omega) only [cA, cB, lk, lkH, Dst.onT, Dst.onX, Dst.slot, setF, setH, mapF, mapH, initF, binE, unE, cnt, boundE, newsE, freshE, opE, rmH, blkQ, frz_us, Nat.reduceEqDiff, Nat.reduceLT, Nat.reduceAdd, ↓reduceIte, reduceCtorEq, Nat.reduceLeDiff, decide_true])
    refine W_cond rfl (fun _ => ?_) (fun h => by cases h)
    repeat (first | (refine W_seq ?_) | (refine W_reg ?_) | (refine W_regd ?_) | (refine W_block ?_) | (refine And.intro (by omega) ?_) | simp (config := {maxSteps := 1000000}) (disch := omega) only [cA, cB, lk, lkH, Dst.onT, Dst.onX, Dst.slot, setF, setH, mapF, mapH, initF, binE, unE, cnt, boundE, newsE, freshE, opE, rmH, blkQ, frz_us, Nat.reduceEqDiff, Nat.reduceLT, Nat.reduceAdd, ↓reduceIte, reduceCtorEq, Nat.reduceLeDiff])
    exact W_ret (RetP_2 (.nils _) (.imm rfl))
  · have hpos : 0 < l.length := List.length_pos_iff.2 hn
    have dn : decide (l = []) = false := decide_eq_false hn
    by_cases h4 : 4000 < l.length
    · have d4 : decide ((4000 : Int) < l.length) = true := decide_eq_true (by omega)
      have hb : okD l = false := by
        rw [← Bool.not_eq_true, okD_iff]
        exact fun h => by omega
      rw [parseR_bad hb]
      repeat (first | (refine W_seq ?_) | (refine W_reg ?_) | (refine W_regd ?_) | (refine W_block ?_) | (refine And.intro (by omega) ?_) | simp (config := {maxSteps := 1000000}) (disch := omega) only [cA, cB, lk, lkH, Dst.onT, Dst.onX, Dst.slot, setF, setH, mapF, mapH, initF, binE, unE, cnt, boundE, newsE, freshE, opE, rmH, blkQ, frz_us, Nat.reduceEqDiff, Nat.reduceLT, Nat.reduceAdd, ↓reduceIte, reduceCtorEq, Nat.reduceLeDiff, dn, d4])
      refine W_cond rfl (fun _ => ?_) (fun h => by cases h)
      repeat (first | (refine W_seq ?_) | (refine W_reg ?_) | (refine W_regd ?_) | (refine W_block ?_) | (refine And.intro (by omega) ?_) | simp (config := {maxSteps := 1000000}) (disch := omega) only [cA, cB, lk, lkH, Dst.onT, Dst.onX, Dst.slot, setF, setH, mapF, mapH, initF, binE, unE, cnt, boundE, newsE, freshE, opE, rmH, blkQ, frz_us, Nat.reduceEqDiff, Nat.reduceLT, Nat.reduceAdd, ↓reduceIte, reduceCtorEq, Nat.reduceLeDiff])
      exact W_ret (RetP_2 (.nils _) (.imm rfl))
    · have d4 : decide ((4000 : Int) < l.length) = false := decide_eq_false (by omega)
      have e0 : (Int.toNat 0) = 0 := rfl
      have ebd : byteD (l.getD 0 0) = .int .u8 ((l.getD 0 0).toNat : Nat) := rfl
      by_cases h48 : (l.getD 0 0).toNat = 48
      · have d2 : decide ((((l.getD 0 0).toNat : Nat) : Int) = 48) = true := decide_eq_true (by omega)
        by_cases h1 : 1 < l.length
        · have d1 : decide ((1 : Int) < l.length) = true := decide_eq_true (by omega)
          have hz : l.head? = some 48 ∧ 1 < l.length := ⟨by
            cases l with
            | nil => exact absurd rfl hn
            | cons c r => simp only [List.getD_cons_zero] at h48; rw [List.head?_cons, ← UInt8.toNat_inj.1 (show c.toNat = (48 : UInt8).toNat from h48)], h1⟩
          have hb : okD l = false := by
            rw [← Bool.not_eq_true, okD_iff]
            exact fun h => h.2.2.1 hz
          rw [parseR_bad hb]
          repeat (first | (refine W_seq ?_) | (refine W_reg ?_) | (refine W_regd ?_) | (refine W_block ?_) | (refine And.intro (by omega) ?_) | simp (config := {maxSteps := 1000000}) (disch := omega) only [cA, cB, lk, lkH, Dst.onT, Dst.onX, Dst.slot, setF, setH, mapF, mapH, initF, binE, unE, cnt, boundE, newsE, freshE, opE, rmH, blkQ, frz_us, Nat.reduceEqDiff, Nat.reduceLT, Nat.reduceAdd, ↓reduceIte, reduceCtorEq, Nat.reduceLeDiff, dn, d4, d1, e0, ebd, d2])
          refine W_cond rfl (fun _ => ?_) (fun h => by cases h)
          repeat (first | (refine W_seq ?_) | (refine W_reg ?_) | (refine W_regd ?_) | (refine W_block ?_) | (refine And.intro (by omega) ?_) | simp (config := {maxSteps := 1000000}) (disch := omega) only [cA, cB, lk, lkH, Dst.onT, Dst.onX, Dst.slot, setF, setH, mapF, mapH, initF, binE, unE, cnt, boundE, newsE, freshE, opE, rmH, blkQ, frz_us, Nat.reduceEqDiff, Nat.reduceLT, Nat.reduceAdd, ↓reduceIte, reduceCtorEq, Nat.reduceLeDiff])
          exact W_ret (RetP_2 (.nils _) (.imm rfl))
        · have d1 : decide ((1 : Int) < l.length) = false := decide_eq_false (by omega)
          have hz : ¬ (l.head? = some 48 ∧ 1 < l.length) := fun h => h1 h.2
          repeat (first | (refine W_seq ?_) | (refine W_reg ?_) | (refine W_regd ?_) | (refine W_block ?_) | (refine And.intro (by omega) ?_) | simp (config := {maxSteps := 1000000}) (disch := omega) only [cA, cB, lk, lkH, Dst.onT, Dst.onX, Dst.slot, setF, setH, mapF, mapH, initF, binE, unE, cnt, boundE, newsE, freshE, opE, rmH, blkQ, frz_us, Nat.reduceEqDiff, Nat.reduceLT, Nat.reduceAdd, ↓reduceIte, reduceCtorEq, Nat.reduceLeDiff, dn, d4, d1, e0, ebd, d2])
          refine W_cond rfl (fun h => by cases h) (fun _ => W_skip ?_)
          clear d1 d2 ebd h48 h1
          have r9 : ((l.length : Int).tmod 9) = ((l.length % 9 : Nat) : Int) := by
            rw [Int.tmod_eq_emod_of_nonneg (by omega)]; omega
          repeat (first | (refine W_seq ?_) | (refine W_reg ?_) | (refine W_regd ?_) | (refine W_block ?_) | (refine And.intro (by omega) ?_) | simp (config := {maxSteps := 1000000}) (disch := omega) only [cA, cB, lk, lkH, Dst.onT, Dst.onX, Dst.slot, setF, setH, mapF, mapH, initF, binE, unE, cnt, boundE, newsE, freshE, opE, rmH, blkQ, frz_us, Nat.reduceEqDiff, Nat.reduceLT, Nat.reduceAdd, ↓reduceIte, reduceCtorEq, Nat.reduceLeDiff, r9])
          refine W_loop (σ := Nat) (fun i => [(0, .str l), (2, accD l i), (3, .bool false), (4, .int .i64 (l.length % 9 : Nat)), (5, .int .i64 i)]) (fun _ => []) (fun i => i ≤ l.length ∧ (l.take i).all isD = true ∧ (i = 0 ∨ (l.length - i) % 9 = 0)) (fun i => l.length - i) 0 (And.intro (Nat.zero_le _) (And.intro rfl (.inl rfl))) ?_ rfl ?_
          · simp [subF, lk, accD]
          · rintro i ⟨hi, hall, h9⟩
            by_cases hlt : i < l.length
            · have dl : decide ((i : Int) < l.length) = true := decide_eq_true (by omega)
              repeat (first | (refine W_seq ?_) | (refine W_reg ?_) | (refine W_regd ?_) | (refine W_block ?_) | (refine And.intro (by omega) ?_) | simp (config := {maxSteps := 1000000}) (disch := omega) only [cA, cB, lk, lkH, Dst.onT, Dst.onX, Dst.slot, setF, setH, mapF, mapH, initF, binE, unE, cnt, boundE, newsE, freshE, opE, rmH, blkQ, frz_us, Nat.reduceEqDiff, Nat.reduceLT, Nat.reduceAdd, ↓reduceIte, reduceCtorEq, Nat.reduceLeDiff, dl])
              refine W_cond rfl (fun _ => W_skip ?_) (fun h => by cases h)
              have ti : (i : Int).toNat = i := Int.toNat_natCast i
              by_cases hi0 : i = 0
              · have di : decide ((i : Int) = 0) = true := decide_eq_true (by omega)
                by_cases hf : 0 < l.length % 9
                · have df : decide ((0 : Int) < (l.length % 9 : Nat)) = true := decide_eq_true (by omega)
                  have he1 : i < l.length % 9 := by omega
                  have he2 : l.length % 9 ≤ l.length := Nat.mod_le _ _
                  have he4 : i = 0 ∨ l.length % 9 - i = 9 := .inl hi0
                  have he3 : l.length % 9 - i ≤ 9 := by omega
                  have he5 : (l.length - l.length % 9) % 9 = 0 := by omega
                  have te : ((l.length % 9 : Nat) : Int).toNat = l.length % 9 := Int.toNat_natCast _
                  repeat (first | (refine W_seq ?_) | (refine W_reg ?_) | (refine W_regd ?_) | (refine W_block ?_) | (refine And.intro (by omega) ?_) | simp (config := {maxSteps := 1000000}) (disch := omega) only [cA, cB, lk, lkH, Dst.onT, Dst.onX, Dst.slot, setF, setH, mapF, mapH, initF, binE, unE, cnt, boundE, newsE, freshE, opE, rmH, blkQ, frz_us, Nat.reduceEqDiff, Nat.reduceLT, Nat.reduceAdd, ↓reduceIte, reduceCtorEq, Nat.reduceLeDiff, di, df])
                  refine W_cond rfl (fun _ => ?_) (fun h => by cases h)
                  have hg := seg_len (l := l) (at' := i) (e := (l.length % 9)) he2
                  have hseg := take_seg (l := l) (at' := i) (e := (l.length % 9)) (Nat.le_of_lt he1)
                  have hval := dval_seg (l := l) (at' := i) (e := (l.length % 9)) (Nat.le_of_lt he1) he2 he4
                  have hmem : ∀ c ∈ (l.take (l.length % 9)).drop i, c ∈ l := fun c h => List.mem_of_mem_take (List.mem_of_mem_drop h)
                  repeat (first | (refine W_seq ?_) | (refine W_reg ?_) | (refine W_regd ?_) | (refine W_block ?_) | (refine And.intro (by omega) ?_) | simp (config := {maxSteps := 1000000}) (disch := omega) only [cA, cB, lk, lkH, Dst.onT, Dst.onX, Dst.slot, setF, setH, mapF, mapH, initF, binE, unE, cnt, boundE, newsE, freshE, opE, rmH, blkQ, frz_us, Nat.reduceEqDiff, Nat.reduceLT, Nat.reduceAdd, ↓reduceIte, reduceCtorEq, Nat.reduceLeDiff, ti, te])
                  generalize (l.take (l.length % 9)).drop i = g at *
                  have hglen : ((g.map byteD).length) = g.length := List.length_map ..
                  repeat (first | (refine W_seq ?_) | (refine W_reg ?_) | (refine W_regd ?_) | (refine W_block ?_) | (refine And.intro (by omega) ?_) | simp (config := {maxSteps := 1000000}) (disch := omega) only [cA, cB, lk, lkH, Dst.onT, Dst.onX, Dst.slot, setF, setH, mapF, mapH, initF, binE, unE, cnt, boundE, newsE, freshE, opE, rmH, blkQ, frz_us, Nat.reduceEqDiff, Nat.reduceLT, Nat.reduceAdd, ↓reduceIte, reduceCtorEq, Nat.reduceLeDiff, hglen])
                  refine W_loop (σ := Nat) (fun j => [(0, .str l), (2, accD l i), (3, .bool false), (4, .int .i64 (l.length % 9 : Nat)), (5, .int .i64 i), (6, .int .i64 ((l.length % 9) : Nat)), (47, .sl 1 (g.map byteD)), (48, .int .i64 g.length), (49, .int .i64 j), (7, .int .u64 (dval 0 (g.take j) : Nat))]) (fun _ => []) (fun j => j ≤ g.length ∧ (g.take j).all isD = true) (fun j => g.length - j) 0 (And.intro (Nat.zero_le _) rfl) ?_ rfl ?_
                  · simp [subF, lk, dval_nil]
                  · rintro j ⟨hj, hgall⟩
                    by_cases hjl : j < g.length
                    · have dj : decide ((j : Int) < g.length) = true := decide_eq_true (by omega)
                      repeat (first | (refine W_seq ?_) | (refine W_reg ?_) | (refine W_regd ?_) | (refine W_block ?_) | (refine And.intro (by omega) ?_) | simp (config := {maxSteps := 1000000}) (disch := omega) only [cA, cB, lk, lkH, Dst.onT, Dst.onX, Dst.slot, setF, setH, mapF, mapH, initF, binE, unE, cnt, boundE, newsE, freshE, opE, rmH, blkQ, frz_us, Nat.reduceEqDiff, Nat.reduceLT, Nat.reduceAdd, ↓reduceIte, reduceCtorEq, Nat.reduceLeDiff, dj])
                      refine W_cond rfl (fun _ => W_skip ?_) (fun h => by cases h)
                      have tj : (j : Int).toNat = j := Int.toNat_natCast j
                      have hg1 := byteD_get hjl
                      have hg2 := byteD_get? hjl
                      have hta := take_all hjl hgall
                      have htd := take_dval hjl
                      have hmc := hmem g[j] (List.getElem_mem hjl)
                      have hv : dval 0 (g.take j) < 1000000000 := Nat.lt_of_lt_of_le (dval_lt _ hgall) (Nat.le_trans (Nat.pow_le_pow_right (by decide) (show (g.take j).length ≤ 9 by rw [List.length_take]; omega)) (by decide))
                      generalize g[j] = c at *
                      generalize dval 0 (g.take j) = v at *
                      have hk : c.toNat < 256 := UInt8.toNat_lt c
                      have j1 : ((j : Int) + 1) = ((j + 1 : Nat) : Int) := by omega
                      clear hval hseg
                      by_cases hd : isD c = true
                      · have hd' := hd
                        simp only [isD, Bool.and_eq_true, decide_eq_true_eq] at hd'
                        have d5 : decide ((c.toNat : Int) < 48) = false := decide_eq_false (by omega)
                        have d6 : decide ((57 : Int) < c.toNat) = false := decide_eq_false (by omega)
                        have e8 : (c.toNat : Int) - 48 = ((c.toNat - 48 : Nat) : Int) := by omega
                        have e10 : 10 * (v : Int) + ((c.toNat - 48 : Nat) : Int) = ((dval 0 (g.take (j + 1)) : Nat) : Int) := by rw [htd]; omega
                        have hta' := hta hd
                        clear hta htd hgall hall hmem
                        (replace hta' := Hid.mk hta')
                        repeat (first | (refine W_seq ?_) | (refine W_reg ?_) | (refine W_regd ?_) | (refine W_block ?_) | (refine And.intro (by omega) ?_) | simp (config := {maxSteps := 1000000}) (disch := omega) only [cA, cB, lk, lkH, Dst.onT, Dst.onX, Dst.slot, setF, setH, mapF, mapH, initF, binE, unE, cnt, boundE, newsE, freshE, opE, rmH, blkQ, frz_us, Nat.reduceEqDiff, Nat.reduceLT, Nat.reduceAdd, ↓reduceIte, reduceCtorEq, Nat.reduceLeDiff, tj, hg1, hg2, d5, d6])
                        refine W_cond rfl (fun h => by cases h) (fun _ => W_skip ?_)
                        repeat (first | (refine W_seq ?_) | (refine W_reg ?_) | (refine W_regd ?_) | (refine W_block ?_) | (refine And.intro (by omega) ?_) | simp (config := {maxSteps := 1000000}) (disch := omega) only [cA, cB, lk, lkH, Dst.onT, Dst.onX, Dst.slot, setF, setH, mapF, mapH, initF, binE, unE, cnt, boundE, newsE, freshE, opE, rmH, blkQ, frz_us, Nat.reduceEqDiff, Nat.reduceLT, Nat.reduceAdd, ↓reduceIte, reduceCtorEq, Nat.reduceLeDiff, e8, e10, j1])
                        exact ⟨j + 1, And.intro hjl hta'.out, by omega, by simp [subF, lk]⟩
                      · have hb : okD l = false := by
                          rw [← Bool.not_eq_true, okD_iff]
                          exact fun h => hd (List.all_eq_true.1 h.2.2.2 c hmc)
                        rw [parseR_bad hb]
                        clear hta htd hall hgall hmem
                        by_cases h5 : c.toNat < 48
                        · have d5 : decide ((c.toNat : Int) < 48) = true := decide_eq_true (by omega)
                          repeat (first | (refine W_seq ?_) | (refine W_reg ?_) | (refine W_regd ?_) | (refine W_block ?_) | (refine And.intro (by omega) ?_) | simp (config := {maxSteps := 1000000}) (disch := omega) only [cA, cB, lk, lkH, Dst.onT, Dst.onX, Dst.slot, setF, setH, mapF, mapH, initF, binE, unE, cnt, boundE, newsE, freshE, opE, rmH, blkQ, frz_us, Nat.reduceEqDiff, Nat.reduceLT, Nat.reduceAdd, ↓reduceIte, reduceCtorEq, Nat.reduceLeDiff, tj, hg1, hg2, d5])
                          refine W_cond rfl (fun _ => ?_) (fun h => by cases h)
                          repeat (first | (refine W_seq ?_) | (refine W_reg ?_) | (refine W_regd ?_) | (refine W_block ?_) | (refine And.intro (by omega) ?_) | simp (config := {maxSteps := 1000000}) (disch := omega) only [cA, cB, lk, lkH, Dst.onT, Dst.onX, Dst.slot, setF, setH, mapF, mapH, initF, binE, unE, cnt, boundE, newsE, freshE, opE, rmH, blkQ, frz_us, Nat.reduceEqDiff, Nat.reduceLT, Nat.reduceAdd, ↓reduceIte, reduceCtorEq, Nat.reduceLeDiff])
                          exact W_ret (RetP_2 (.nils _) (.imm rfl))
                        · have d5 : decide ((c.toNat : Int) < 48) = false := decide_eq_false (by omega)
                          have d6 : decide ((57 : Int) < c.toNat) = true := decide_eq_true (by
                            simp only [isD, Bool.and_eq_true, decide_eq_true_eq] at hd
                            omega)
                          repeat (first | (refine W_seq ?_) | (refine W_reg ?_) | (refine W_regd ?_) | (refine W_block ?_) | (refine And.intro (by omega) ?_) | simp (config := {maxSteps := 1000000}) (disch := omega) only [cA, cB, lk, lkH, Dst.onT, Dst.onX, Dst.slot, setF, setH, mapF, mapH, initF, binE, unE, cnt, boundE, newsE, freshE, opE, rmH, blkQ, frz_us, Nat.reduceEqDiff, Nat.reduceLT, Nat.reduceAdd, ↓reduceIte, reduceCtorEq, Nat.reduceLeDiff, tj, hg1, hg2, d5, d6])
                          refine W_cond rfl (fun _ => ?_) (fun h => by cases h)
                          repeat (first | (refine W_seq ?_) | (refine W_reg ?_) | (refine W_regd ?_) | (refine W_block ?_) | (refine And.intro (by omega) ?_) | simp (config := {maxSteps := 1000000}) (disch := omega) only [cA, cB, lk, lkH, Dst.onT, Dst.onX, Dst.slot, setF, setH, mapF, mapH, initF, binE, unE, cnt, boundE, newsE, freshE, opE, rmH, blkQ, frz_us, Nat.reduceEqDiff, Nat.reduceLT, Nat.reduceAdd, ↓reduceIte, reduceCtorEq, Nat.reduceLeDiff])
                          exact W_ret (RetP_2 (.nils _) (.imm rfl))
                    · have dj : decide ((j : Int) < g.length) = false := decide_eq_false (by omega)
                      obtain rfl : j = g.length := by omega
                      rw [List.take_length] at hgall ⊢
                      have u9 : [DV.int .u32 1000000000] = us (limbs 1000000000) := by rw [limbs_one (by decide) (by decide)]; rfl
                      have hl9 : (limbs 1000000000).length ≤ 1 := by rw [limbs_one (by decide) (by decide)]; simp
                      have hv : dval 0 g < 1000000000 := Nat.lt_of_lt_of_le (dval_lt _ hgall) (Nat.le_trans (Nat.pow_le_pow_right (by decide) (show g.length ≤ 9 by omega)) (by decide))
                      have hdl := dval_len hall (m := 4000) (by simp; omega)
                      have ct := accD_nMul l i (by omega)
                      have cf := nFromUint_calls (dval 0 g) (by omega)
                      have hm := len_mul hdl hl9
                      have ca := nAddL (dval 0 (l.take i) * 1000000000) (dval 0 g) (by omega) (Nat.le_trans (limbs_len.2 (show dval 0 g < 4294967296 ^ 1 by omega)) (by decide))
                      rw [hval] at ca
                      have hac : accD l (l.length % 9) = .sl 1 (us (limbs (dval 0 (l.take (l.length % 9))))) := by unfold accD; rw [if_neg (by omega)]
                      rw [← hac] at ca
                      have halle : (l.take (l.length % 9)).all isD = true := by rw [hseg, List.all_append, hall, hgall]; rfl
                      have hacc := accD_cases l i
                      clear hval hseg hall hgall hm hdl hl9 hac hmem
                      (replace halle := Hid.mk halle)
                      rcases hacc with e | ⟨xs, e⟩
                      · rw [e] at ct ⊢
                        repeat (first | (refine W_seq ?_) | (refine W_reg ?_) | (refine W_regd ?_) | (refine W_block ?_) | (refine And.intro (by omega) ?_) | simp (config := {maxSteps := 1000000}) (disch := omega) only [cA, cB, lk, lkH, Dst.onT, Dst.onX, Dst.slot, setF, setH, mapF, mapH, initF, binE, unE, cnt, boundE, newsE, freshE, opE, rmH, blkQ, frz_us, Nat.reduceEqDiff, Nat.reduceLT, Nat.reduceAdd, ↓reduceIte, reduceCtorEq, Nat.reduceLeDiff, dj])
                        refine W_cond rfl (fun h => by cases h) (fun _ => W_exit ?_)
                        repeat (first | (refine W_seq ?_) | (refine W_reg ?_) | (refine W_regd ?_) | (refine W_block ?_) | (refine And.intro (by omega) ?_) | simp (config := {maxSteps := 1000000}) (disch := omega) only [cA, cB, lk, lkH, Dst.onT, Dst.onX, Dst.slot, setF, setH, mapF, mapH, initF, binE, unE, cnt, boundE, newsE, freshE, opE, rmH, blkQ, frz_us, Nat.reduceEqDiff, Nat.reduceLT, Nat.reduceAdd, ↓reduceIte, reduceCtorEq, Nat.reduceLeDiff, u9, us_rfd] | (refine callC_pure (ct) rfl ?_) | (refine callC_pure (cf) rfl ?_) | (refine callC_pure (ca) rfl ?_) | exact W_ret (RetP_1 (.imm rfl)) | exact W_ret (RetP_c rfl rfl rfl (.imm rfl)))
                        exact ⟨(l.length % 9), And.intro he2 (And.intro halle.out (.inr he5)), by omega, by simp [subF, lk]⟩
                      · rw [e] at ct ⊢
                        repeat (first | (refine W_seq ?_) | (refine W_reg ?_) | (refine W_regd ?_) | (refine W_block ?_) | (refine And.intro (by omega) ?_) | simp (config := {maxSteps := 1000000}) (disch := omega) only [cA, cB, lk, lkH, Dst.onT, Dst.onX, Dst.slot, setF, setH, mapF, mapH, initF, binE, unE, cnt, boundE, newsE, freshE, opE, rmH, blkQ, frz_us, Nat.reduceEqDiff, Nat.reduceLT, Nat.reduceAdd, ↓reduceIte, reduceCtorEq, Nat.reduceLeDiff, dj])
                        refine W_cond rfl (fun h => by cases h) (fun _ => W_exit ?_)
                        repeat (first | (refine W_seq ?_) | (refine W_reg ?_) | (refine W_regd ?_) | (refine W_block ?_) | (refine And.intro (by omega) ?_) | simp (config := {maxSteps := 1000000}) (disch := omega) only [cA, cB, lk, lkH, Dst.onT, Dst.onX, Dst.slot, setF, setH, mapF, mapH, initF, binE, unE, cnt, boundE, newsE, freshE, opE, rmH, blkQ, frz_us, Nat.reduceEqDiff, Nat.reduceLT, Nat.reduceAdd, ↓reduceIte, reduceCtorEq, Nat.reduceLeDiff, u9, us_rfd] | (refine callC_pure (ct) rfl ?_) | (refine callC_pure (cf) rfl ?_) | (refine callC_pure (ca) rfl ?_) | exact W_ret (RetP_1 (.imm rfl)) | exact W_ret (RetP_c rfl rfl rfl (.imm rfl)))
                        exact ⟨(l.length % 9), And.intro he2 (And.intro halle.out (.inr he5)), by omega, by simp [subF, lk]⟩
                · have df : decide ((0 : Int) < (l.length % 9 : Nat)) = false := decide_eq_false (by omega)
                  have he1 : i < i + 9 := by omega
                  have he2 : i + 9 ≤ l.length := by omega
                  have he4 : i = 0 ∨ i + 9 - i = 9 := .inl hi0
                  have he3 : i + 9 - i ≤ 9 := by omega
                  have he5 : (l.length - (i + 9)) % 9 = 0 := by omega
                  have ei9 : (i : Int) + 9 = ((i + 9 : Nat) : Int) := by omega
                  have te : ((i + 9 : Nat) : Int).toNat = i + 9 := Int.toNat_natCast _
                  repeat (first | (refine W_seq ?_) | (refine W_reg ?_) | (refine W_regd ?_) | (refine W_block ?_) | (refine And.intro (by omega) ?_) | simp (config := {maxSteps := 1000000}) (disch := omega) only [cA, cB, lk, lkH, Dst.onT, Dst.onX, Dst.slot, setF, setH, mapF, mapH, initF, binE, unE, cnt, boundE, newsE, freshE, opE, rmH, blkQ, frz_us, Nat.reduceEqDiff, Nat.reduceLT, Nat.reduceAdd, ↓reduceIte, reduceCtorEq, Nat.reduceLeDiff, di, df, ei9])
                  refine W_cond rfl (fun h => by cases h) (fun _ => W_skip ?_)
                  have hg := seg_len (l := l) (at' := i) (e := (i + 9)) he2
                  have hseg := take_seg (l := l) (at' := i) (e := (i + 9)) (Nat.le_of_lt he1)
                  have hval := dval_seg (l := l) (at' := i) (e := (i + 9)) (Nat.le_of_lt he1) he2 he4
                  have hmem : ∀ c ∈ (l.take (i + 9)).drop i, c ∈ l := fun c h => List.mem_of_mem_take (List.mem_of_mem_drop h)
                  repeat (first | (refine W_seq ?_) | (refine W_reg ?_) | (refine W_regd ?_) | (refine W_block ?_) | (refine And.intro (by omega) ?_) | simp (config := {maxSteps := 1000000}) (disch := omega) only [cA, cB, lk, lkH, Dst.onT, Dst.onX, Dst.slot, setF, setH, mapF, mapH, initF, binE, unE, cnt, boundE, newsE, freshE, opE, rmH, blkQ, frz_us, Nat.reduceEqDiff, Nat.reduceLT, Nat.reduceAdd, ↓reduceIte, reduceCtorEq, Nat.reduceLeDiff, ti, te])
                  generalize (l.take (i + 9)).drop i = g at *
                  have hglen : ((g.map byteD).length) = g.length := List.length_map ..
                  repeat (first | (refine W_seq ?_) | (refine W_reg ?_) | (refine W_regd ?_) | (refine W_block ?_) | (refine And.intro (by omega) ?_) | simp (config := {maxSteps := 1000000}) (disch := omega) only [cA, cB, lk, lkH, Dst.onT, Dst.onX, Dst.slot, setF, setH, mapF, mapH, initF, binE, unE, cnt, boundE, newsE, freshE, opE, rmH, blkQ, frz_us, Nat.reduceEqDiff, Nat.reduceLT, Nat.reduceAdd, ↓reduceIte, reduceCtorEq, Nat.reduceLeDiff, hglen])
                  refine W_loop (σ := Nat) (fun j => [(0, .str l), (2, accD l i), (3, .bool false), (4, .int .i64 (l.length % 9 : Nat)), (5, .int .i64 i), (6, .int .i64 ((i + 9) : Nat)), (47, .sl 1 (g.map byteD)), (48, .int .i64 g.length), (49, .int .i64 j), (7, .int .u64 (dval 0 (g.take j) : Nat))]) (fun _ => []) (fun j => j ≤ g.length ∧ (g.take j).all isD = true) (fun j => g.length - j) 0 (And.intro (Nat.zero_le _) rfl) ?_ rfl ?_
                  · simp [subF, lk, dval_nil]
                  · rintro j ⟨hj, hgall⟩
                    by_cases hjl : j < g.length
                    · have dj : decide ((j : Int) < g.length) = true := decide_eq_true (by omega)
                      repeat (first | (refine W_seq ?_) | (refine W_reg ?_) | (refine W_regd ?_) | (refine W_block ?_) | (refine And.intro (by omega) ?_) | simp (config := {maxSteps := 1000000}) (disch := omega) only [cA, cB, lk, lkH, Dst.onT, Dst.onX, Dst.slot, setF, setH, mapF, mapH, initF, binE, unE, cnt, boundE, newsE, freshE, opE, rmH, blkQ, frz_us, Nat.reduceEqDiff, Nat.reduceLT, Nat.reduceAdd, ↓reduceIte, reduceCtorEq, Nat.reduceLeDiff, dj])
                      refine W_cond rfl (fun _ => W_skip ?_) (fun h => by cases h)
                      have tj : (j : Int).toNat = j := Int.toNat_natCast j
                      have hg1 := byteD_get hjl
                      have hg2 := byteD_get? hjl
                      have hta := take_all hjl hgall
                      have htd := take_dval hjl
                      have hmc := hmem g[j] (List.getElem_mem hjl)
                      have hv : dval 0 (g.take j) < 1000000000 := Nat.lt_of_lt_of_le (dval_lt _ hgall) (Nat.le_trans (Nat.pow_le_pow_right (by decide) (show (g.take j).length ≤ 9 by rw [List.length_take]; omega)) (by decide))
                      generalize g[j] = c at *
                      generalize dval 0 (g.take j) = v at *
                      have hk : c.toNat < 256 := UInt8.toNat_lt c
                      have j1 : ((j : Int) + 1) = ((j + 1 : Nat) : Int) := by omega
                      clear hval hseg
                      by_cases hd : isD c = true
                      · have hd' := hd
                        simp only [isD, Bool.and_eq_true, decide_eq_true_eq] at hd'
                        have d5 : decide ((c.toNat : Int) < 48) = false := decide_eq_false (by omega)
                        have d6 : decide ((57 : Int) < c.toNat) = false := decide_eq_false (by omega)
                        have e8 : (c.toNat : Int) - 48 = ((c.toNat - 48 : Nat) : Int) := by omega
                        have e10 : 10 * (v : Int) + ((c.toNat - 48 : Nat) : Int) = ((dval 0 (g.take (j + 1)) : Nat) : Int) := by rw [htd]; omega
                        have hta' := hta hd
                        clear hta htd hgall hall hmem
                        (replace hta' := Hid.mk hta')
                        repeat (first | (refine W_seq ?_) | (refine W_reg ?_) | (refine W_regd ?_) | (refine W_block ?_) | (refine And.intro (by omega) ?_) | simp (config := {maxSteps := 1000000}) (disch := omega) only [cA, cB, lk, lkH, Dst.onT, Dst.onX, Dst.slot, setF, setH, mapF, mapH, initF, binE, unE, cnt, boundE, newsE, freshE, opE, rmH, blkQ, frz_us, Nat.reduceEqDiff, Nat.reduceLT, Nat.reduceAdd, ↓reduceIte, reduceCtorEq, Nat.reduceLeDiff, tj, hg1, hg2, d5, d6])
                        refine W_cond rfl (fun h => by cases h) (fun _ => W_skip ?_)
                        repeat (first | (refine W_seq ?_) | (refine W_reg ?_) | (refine W_regd ?_) | (refine W_block ?_) | (refine And.intro (by omega) ?_) | simp (config := {maxSteps := 1000000}) (disch := omega) only [cA, cB, lk, lkH, Dst.onT, Dst.onX, Dst.slot, setF, setH, mapF, mapH, initF, binE, unE, cnt, boundE, newsE, freshE, opE, rmH, blkQ, frz_us, Nat.reduceEqDiff, Nat.reduceLT, Nat.reduceAdd, ↓reduceIte, reduceCtorEq, Nat.reduceLeDiff, e8, e10, j1])
                        exact ⟨j + 1, And.intro hjl hta'.out, by omega, by simp [subF, lk]⟩
                      · have hb : okD l = false := by
                          rw [← Bool.not_eq_true, okD_iff]
                          exact fun h => hd (List.all_eq_true.1 h.2.2.2 c hmc)
                        rw [parseR_bad hb]
                        clear hta htd hall hgall hmem
                        by_cases h5 : c.toNat < 48
                        · have d5 : decide ((c.toNat : Int) < 48) = true := decide_eq_true (by omega)
                          repeat (first | (refine W_seq ?_) | (refine W_reg ?_) | (refine W_regd ?_) | (refine W_block ?_) | (refine And.intro (by omega) ?_) | simp (config := {maxSteps := 1000000}) (disch := omega) only [cA, cB, lk, lkH, Dst.onT, Dst.onX, Dst.slot, setF, setH, mapF, mapH, initF, binE, unE, cnt, boundE, newsE, freshE, opE, rmH, blkQ, frz_us, Nat.reduceEqDiff, Nat.reduceLT, Nat.reduceAdd, ↓reduceIte, reduceCtorEq, Nat.reduceLeDiff, tj, hg1, hg2, d5])
                          refine W_cond rfl (fun _ => ?_) (fun h => by cases h)
                          repeat (first | (refine W_seq ?_) | (refine W_reg ?_) | (refine W_regd ?_) | (refine W_block ?_) | (refine And.intro (by omega) ?_) | simp (config := {maxSteps := 1000000}) (disch := omega) only [cA, cB, lk, lkH, Dst.onT, Dst.onX, Dst.slot, setF, setH, mapF, mapH, initF, binE, unE, cnt, boundE, newsE, freshE, opE, rmH, blkQ, frz_us, Nat.reduceEqDiff, Nat.reduceLT, Nat.reduceAdd, ↓reduceIte, reduceCtorEq, Nat.reduceLeDiff])
                          exact W_ret (RetP_2 (.nils _) (.imm rfl))
                        · have d5 : decide ((c.toNat : Int) < 48) = false := decide_eq_false (by omega)
                          have d6 : decide ((57 : Int) < c.toNat) = true := decide_eq_true (by
                            simp only [isD, Bool.and_eq_true, decide_eq_true_eq] at hd
                            omega)
                          repeat (first | (refine W_seq ?_) | (refine W_reg ?_) | (refine W_regd ?_) | (refine W_block ?_) | (refine And.intro (by omega) ?_) | simp (config := {maxSteps := 1000000}) (disch := omega) only [cA, cB, lk, lkH, Dst.onT, Dst.onX, Dst.slot, setF, setH, mapF, mapH, initF, binE, unE, cnt, boundE, newsE, freshE, opE, rmH, blkQ, frz_us, Nat.reduceEqDiff, Nat.reduceLT, Nat.reduceAdd, ↓reduceIte, reduceCtorEq, Nat.reduceLeDiff, tj, hg1, hg2, d5, d6])
                          refine W_cond rfl (fun _ => ?_) (fun h => by cases h)
                          repeat (first | (refine W_seq ?_) | (refine W_reg ?_) | (refine W_regd ?_) | (refine W_block ?_) | (refine And.intro (by omega) ?_) | simp (config := {maxSteps := 1000000}) (disch := omega) only [cA, cB, lk, lkH, Dst.onT, Dst.onX, Dst.slot, setF, setH, mapF, mapH, initF, binE, unE, cnt, boundE, newsE, freshE, opE, rmH, blkQ, frz_us, Nat.reduceEqDiff, Nat.reduceLT, Nat.reduceAdd, ↓reduceIte, reduceCtorEq, Nat.reduceLeDiff])
                          exact W_ret (RetP_2 (.nils _) (.imm rfl))
                    · have dj : decide ((j : Int) < g.length) = false := decide_eq_false (by omega)
                      obtain rfl : j = g.length := by omega
                      rw [List.take_length] at hgall ⊢
                      have u9 : [DV.int .u32 1000000000] = us (limbs 1000000000) := by rw [limbs_one (by decide) (by decide)]; rfl
                      have hl9 : (limbs 1000000000).length ≤ 1 := by rw [limbs_one (by decide) (by decide)]; simp
                      have hv : dval 0 g < 1000000000 := Nat.lt_of_lt_of_le (dval_lt _ hgall) (Nat.le_trans (Nat.pow_le_pow_right (by decide) (show g.length ≤ 9 by omega)) (by decide))
                      have hdl := dval_len hall (m := 4000) (by simp; omega)
                      have ct := accD_nMul l i (by omega)
                      have cf := nFromUint_calls (dval 0 g) (by omega)
                      have hm := len_mul hdl hl9
                      have ca := nAddL (dval 0 (l.take i) * 1000000000) (dval 0 g) (by omega) (Nat.le_trans (limbs_len.2 (show dval 0 g < 4294967296 ^ 1 by omega)) (by decide))
                      rw [hval] at ca
                      have hac : accD l (i + 9) = .sl 1 (us (limbs (dval 0 (l.take (i + 9))))) := by unfold accD; rw [if_neg (by omega)]
                      rw [← hac] at ca
                      have halle : (l.take (i + 9)).all isD = true := by rw [hseg, List.all_append, hall, hgall]; rfl
                      have hacc := accD_cases l i
                      clear hval hseg hall hgall hm hdl hl9 hac hmem
                      (replace halle := Hid.mk halle)
                      rcases hacc with e | ⟨xs, e⟩
                      · rw [e] at ct ⊢
                        repeat (first | (refine W_seq ?_) | (refine W_reg ?_) | (refine W_regd ?_) | (refine W_block ?_) | (refine And.intro (by omega) ?_) | simp (config := {maxSteps := 1000000}) (disch := omega) only [cA, cB, lk, lkH, Dst.onT, Dst.onX, Dst.slot, setF, setH, mapF, mapH, initF, binE, unE, cnt, boundE, newsE, freshE, opE, rmH, blkQ, frz_us, Nat.reduceEqDiff, Nat.reduceLT, Nat.reduceAdd, ↓reduceIte, reduceCtorEq, Nat.reduceLeDiff, dj])
                        refine W_cond rfl (fun h => by cases h) (fun _ => W_exit ?_)
                        repeat (first | (refine W_seq ?_) | (refine W_reg ?_) | (refine W_regd ?_) | (refine W_block ?_) | (refine And.intro (by omega) ?_) | simp (config := {maxSteps := 1000000}) (disch := omega) only [cA, cB, lk, lkH, Dst.onT, Dst.onX, Dst.slot, setF, setH, mapF, mapH, initF, binE, unE, cnt, boundE, newsE, freshE, opE, rmH, blkQ, frz_us, Nat.reduceEqDiff, Nat.reduceLT, Nat.reduceAdd, ↓reduceIte, reduceCtorEq, Nat.reduceLeDiff, u9, us_rfd] | (refine callC_pure (ct) rfl ?_) | (refine callC_pure (cf) rfl ?_) | (refine callC_pure (ca) rfl ?_) | exact W_ret (RetP_1 (.imm rfl)) | exact W_ret (RetP_c rfl rfl rfl (.imm rfl)))
                        exact ⟨(i + 9), And.intro he2 (And.intro halle.out (.inr he5)), by omega, by simp [subF, lk]⟩
                      · rw [e] at ct ⊢
                        repeat (first | (refine W_seq ?_) | (refine W_reg ?_) | (refine W_regd ?_) | (refine W_block ?_) | (refine And.intro (by omega) ?_) | simp (config := {maxSteps := 1000000}) (disch := omega) only [cA, cB, lk, lkH, Dst.onT, Dst.onX, Dst.slot, setF, setH, mapF, mapH, initF, binE, unE, cnt, boundE, newsE, freshE, opE, rmH, blkQ, frz_us, Nat.reduceEqDiff, Nat.reduceLT, Nat.reduceAdd, ↓reduceIte, reduceCtorEq, Nat.reduceLeDiff, dj])
                        refine W_cond rfl (fun h => by cases h) (fun _ => W_exit ?_)
                        repeat (first | (refine W_seq ?_) | (refine W_reg ?_) | (refine W_regd ?_) | (refine W_block ?_) | (refine And.intro (by omega) ?_) | simp (config := {maxSteps := 1000000}) (disch := omega) only [cA, cB, lk, lkH, Dst.onT, Dst.onX, Dst.slot, setF, setH, mapF, mapH, initF, binE, unE, cnt, boundE, newsE, freshE, opE, rmH, blkQ, frz_us, Nat.reduceEqDiff, Nat.reduceLT, Nat.reduceAdd, ↓reduceIte, reduceCtorEq, Nat.reduceLeDiff, u9, us_rfd] | (refine callC_pure (ct) rfl ?_) | (refine callC_pure (cf) rfl ?_) | (refine callC_pure (ca) rfl ?_) | exact W_ret (RetP_1 (.imm rfl)) | exact W_ret (RetP_c rfl rfl rfl (.imm rfl)))
                        exact ⟨(i + 9), And.intro he2 (And.intro halle.out (.inr he5)), by omega, by simp [subF, lk]⟩
              · have di : decide ((i : Int) = 0) = false := decide_eq_false (by omega)
                have he1 : i < i + 9 := by omega
                have he2 : i + 9 ≤ l.length := by omega
                have he4 : i = 0 ∨ i + 9 - i = 9 := .inr (by omega)
                have he3 : i + 9 - i ≤ 9 := by omega
                have he5 : (l.length - (i + 9)) % 9 = 0 := by omega
                have ei9 : (i : Int) + 9 = ((i + 9 : Nat) : Int) := by omega
                have te : ((i + 9 : Nat) : Int).toNat = i + 9 := Int.toNat_natCast _
                repeat (first | (refine W_seq ?_) | (refine W_reg ?_) | (refine W_regd ?_) | (refine W_block ?_) | (refine And.intro (by omega) ?_) | simp (config := {maxSteps := 1000000}) (disch := omega) only [cA, cB, lk, lkH, Dst.onT, Dst.onX, Dst.slot, setF, setH, mapF, mapH, initF, binE, unE, cnt, boundE, newsE, freshE, opE, rmH, blkQ, frz_us, Nat.reduceEqDiff, Nat.reduceLT, Nat.reduceAdd, ↓reduceIte, reduceCtorEq, Nat.reduceLeDiff, di, ei9])
                refine W_cond rfl (fun h => by cases h) (fun _ => W_skip ?_)
                have hg := seg_len (l := l) (at' := i) (e := (i + 9)) he2
                have hseg := take_seg (l := l) (at' := i) (e := (i + 9)) (Nat.le_of_lt he1)
                have hval := dval_seg (l := l) (at' := i) (e := (i + 9)) (Nat.le_of_lt he1) he2 he4
                have hmem : ∀ c ∈ (l.take (i + 9)).drop i, c ∈ l := fun c h => List.mem_of_mem_take (List.mem_of_mem_drop h)
                repeat (first | (refine W_seq ?_) | (refine W_reg ?_) | (refine W_regd ?_) | (refine W_block ?_) | (refine And.intro (by omega) ?_) | simp (config := {maxSteps := 1000000}) (disch := omega) only [cA, cB, lk, lkH, Dst.onT, Dst.onX, Dst.slot, setF, setH, mapF, mapH, initF, binE, unE, cnt, boundE, newsE, freshE, opE, rmH, blkQ, frz_us, Nat.reduceEqDiff, Nat.reduceLT, Nat.reduceAdd, ↓reduceIte, reduceCtorEq, Nat.reduceLeDiff, ti, te])
                generalize (l.take (i + 9)).drop i = g at *
                have hglen : ((g.map byteD).length) = g.length := List.length_map ..
                repeat (first | (refine W_seq ?_) | (refine W_reg ?_) | (refine W_regd ?_) | (refine W_block ?_) | (refine And.intro (by omega) ?_) | simp (config := {maxSteps := 1000000}) (disch := omega) only [cA, cB, lk, lkH, Dst.onT, Dst.onX, Dst.slot, setF, setH, mapF, mapH, initF, binE, unE, cnt, boundE, newsE, freshE, opE, rmH, blkQ, frz_us, Nat.reduceEqDiff, Nat.reduceLT, Nat.reduceAdd, ↓reduceIte, reduceCtorEq, Nat.reduceLeDiff, hglen])
                refine W_loop (σ := Nat) (fun j => [(0, .str l), (2, accD l i), (3, .bool false), (4, .int .i64 (l.length % 9 : Nat)), (5, .int .i64 i), (6, .int .i64 ((i + 9) : Nat)), (47, .sl 1 (g.map byteD)), (48, .int .i64 g.length), (49, .int .i64 j), (7, .int .u64 (dval 0 (g.take j) : Nat))]) (fun _ => []) (fun j => j ≤ g.length ∧ (g.take j).all isD = true) (fun j => g.length - j) 0 (And.intro (Nat.zero_le _) rfl) ?_ rfl ?_
                · simp [subF, lk, dval_nil]
                · rintro j ⟨hj, hgall⟩
                  by_cases hjl : j < g.length
                  · have dj : decide ((j : Int) < g.length) = true := decide_eq_true (by omega)
                    repeat (first | (refine W_seq ?_) | (refine W_reg ?_) | (refine W_regd ?_) | (refine W_block ?_) | (refine And.intro (by omega) ?_) | simp (config := {maxSteps := 1000000}) (disch := omega) only [cA, cB, lk, lkH, Dst.onT, Dst.onX, Dst.slot, setF, setH, mapF, mapH, initF, binE, unE, cnt, boundE, newsE, freshE, opE, rmH, blkQ, frz_us, Nat.reduceEqDiff, Nat.reduceLT, Nat.reduceAdd, ↓reduceIte, reduceCtorEq, Nat.reduceLeDiff, dj])
                    refine W_cond rfl (fun _ => W_skip ?_) (fun h => by cases h)
                    have tj : (j : Int).toNat = j := Int.toNat_natCast j
                    have hg1 := byteD_get hjl
                    have hg2 := byteD_get? hjl
                    have hta := take_all hjl hgall
                    have htd := take_dval hjl
                    have hmc := hmem g[j] (List.getElem_mem hjl)
                    have hv : dval 0 (g.take j) < 1000000000 := Nat.lt_of_lt_of_le (dval_lt _ hgall) (Nat.le_trans (Nat.pow_le_pow_right (by decide) (show (g.take j).length ≤ 9 by rw [List.length_take]; omega)) (by decide))
                    generalize g[j] = c at *
                    generalize dval 0 (g.take j) = v at *
                    have hk : c.toNat < 256 := UInt8.toNat_lt c
                    have j1 : ((j : Int) + 1) = ((j + 1 : Nat) : Int) := by omega
                    clear hval hseg
                    by_cases hd : isD c = true
                    · have hd' := hd
                      simp only [isD, Bool.and_eq_true, decide_eq_true_eq] at hd'
                      have d5 : decide ((c.toNat : Int) < 48) = false := decide_eq_false (by omega)
                      have d6 : decide ((57 : Int) < c.toNat) = false := decide_eq_false (by omega)
                      have e8 : (c.toNat : Int) - 48 = ((c.toNat - 48 : Nat) : Int) := by omega
                      have e10 : 10 * (v : Int) + ((c.toNat - 48 : Nat) : Int) = ((dval 0 (g.take (j + 1)) : Nat) : Int) := by rw [htd]; omega
                      have hta' := hta hd
                      clear hta htd hgall hall hmem
                      (replace hta' := Hid.mk hta')
                      repeat (first | (refine W_seq ?_) | (refine W_reg ?_) | (refine W_regd ?_) | (refine W_block ?_) | (refine And.intro (by omega) ?_) | simp (config := {maxSteps := 1000000}) (disch := omega) only [cA, cB, lk, lkH, Dst.onT, Dst.onX, Dst.slot, setF, setH, mapF, mapH, initF, binE, unE, cnt, boundE, newsE, freshE, opE, rmH, blkQ, frz_us, Nat.reduceEqDiff, Nat.reduceLT, Nat.reduceAdd, ↓reduceIte, reduceCtorEq, Nat.reduceLeDiff, tj, hg1, hg2, d5, d6])
                      refine W_cond rfl (fun h => by cases h) (fun _ => W_skip ?_)
                      repeat (first | (refine W_seq ?_) | (refine W_reg ?_) | (refine W_regd ?_) | (refine W_block ?_) | (refine And.intro (by omega) ?_) | simp (config := {maxSteps := 1000000}) (disch := omega) only [cA, cB, lk, lkH, Dst.onT, Dst.onX, Dst.slot, setF, setH, mapF, mapH, initF, binE, unE, cnt, boundE, newsE, freshE, opE, rmH, blkQ, frz_us, Nat.reduceEqDiff, Nat.reduceLT, Nat.reduceAdd, ↓reduceIte, reduceCtorEq, Nat.reduceLeDiff, e8, e10, j1])
                      exact ⟨j + 1, And.intro hjl hta'.out, by omega, by simp [subF, lk]⟩
                    · have hb : okD l = false := by
                        rw [← Bool.not_eq_true, okD_iff]
                        exact fun h => hd (List.all_eq_true.1 h.2.2.2 c hmc)
                      rw [parseR_bad hb]
                      clear hta htd hall hgall hmem
                      by_cases h5 : c.toNat < 48
                      · have d5 : decide ((c.toNat : Int) < 48) = true := decide_eq_true (by omega)
                        repeat (first | (refine W_seq ?_) | (refine W_reg ?_) | (refine W_regd ?_) | (refine W_block ?_) | (refine And.intro (by omega) ?_) | simp (config := {maxSteps := 1000000}) (disch := omega) only [cA, cB, lk, lkH, Dst.onT, Dst.onX, Dst.slot, setF, setH, mapF, mapH, initF, binE, unE, cnt, boundE, newsE, freshE, opE, rmH, blkQ, frz_us, Nat.reduceEqDiff, Nat.reduceLT, Nat.reduceAdd, ↓reduceIte, reduceCtorEq, Nat.reduceLeDiff, tj, hg1, hg2, d5])
                        refine W_cond rfl (fun _ => ?_) (fun h => by cases h)
                        repeat (first | (refine W_seq ?_) | (refine W_reg ?_) | (refine W_regd ?_) | (refine W_block ?_) | (refine And.intro (by omega) ?_) | simp (config := {maxSteps := 1000000}) (disch := omega) only [cA, cB, lk, lkH, Dst.onT, Dst.onX, Dst.slot, setF, setH, mapF, mapH, initF, binE, unE, cnt, boundE, newsE, freshE, opE, rmH, blkQ, frz_us, Nat.reduceEqDiff, Nat.reduceLT, Nat.reduceAdd, ↓reduceIte, reduceCtorEq, Nat.reduceLeDiff])
                        exact W_ret (RetP_2 (.nils _) (.imm rfl))
                      · have d5 : decide ((c.toNat : Int) < 48) = false := decide_eq_false (by omega)
                        have d6 : decide ((57 : Int) < c.toNat) = true := decide_eq_true (by
                          simp only [isD, Bool.and_eq_true, decide_eq_true_eq] at hd
                          omega)
                        repeat (first | (refine W_seq ?_) | (refine W_reg ?_) | (refine W_regd ?_) | (refine W_block ?_) | (refine And.intro (by omega) ?_) | simp (config := {maxSteps := 1000000}) (disch := omega) only [cA, cB, lk, lkH, Dst.onT, Dst.onX, Dst.slot, setF, setH, mapF, mapH, initF, binE, unE, cnt, boundE, newsE, freshE, opE, rmH, blkQ, frz_us, Nat.reduceEqDiff, Nat.reduceLT, Nat.reduceAdd, ↓reduceIte, reduceCtorEq, Nat.reduceLeDiff, tj, hg1, hg2, d5, d6])
                        refine W_cond rfl (fun _ => ?_) (fun h => by cases h)
                        repeat (first | (refine W_seq ?_) | (refine W_reg ?_) | (refine W_regd ?_) | (refine W_block ?_) | (refine And.intro (by omega) ?_) | simp (config := {maxSteps := 1000000}) (disch := omega) only [cA, cB, lk, lkH, Dst.onT, Dst.onX, Dst.slot, setF, setH, mapF, mapH, initF, binE, unE, cnt, boundE, newsE, freshE, opE, rmH, blkQ, frz_us, Nat.reduceEqDiff, Nat.reduceLT, Nat.reduceAdd, ↓reduceIte, reduceCtorEq, Nat.reduceLeDiff])
                        exact W_ret (RetP_2 (.nils _) (.imm rfl))
                  · have dj : decide ((j : Int) < g.length) = false := decide_eq_false (by omega)
                    obtain rfl : j = g.length := by omega
                    rw [List.take_length] at hgall ⊢
                    have u9 : [DV.int .u32 1000000000] = us (limbs 1000000000) := by rw [limbs_one (by decide) (by decide)]; rfl
                    have hl9 : (limbs 1000000000).length ≤ 1 := by rw [limbs_one (by decide) (by decide)]; simp
                    have hv : dval 0 g < 1000000000 := Nat.lt_of_lt_of_le (dval_lt _ hgall) (Nat.le_trans (Nat.pow_le_pow_right (by decide) (show g.length ≤ 9 by omega)) (by decide))
                    have hdl := dval_len hall (m := 4000) (by simp; omega)
                    have ct := accD_nMul l i (by omega)
                    have cf := nFromUint_calls (dval 0 g) (by omega)
                    have hm := len_mul hdl hl9
                    have ca := nAddL (dval 0 (l.take i) * 1000000000) (dval 0 g) (by omega) (Nat.le_trans (limbs_len.2 (show dval 0 g < 4294967296 ^ 1 by omega)) (by decide))
                    rw [hval] at ca
                    have hac : accD l (i + 9) = .sl 1 (us (limbs (dval 0 (l.take (i + 9))))) := by unfold accD; rw [if_neg (by omega)]
                    rw [← hac] at ca
                    have halle : (l.take (i + 9)).all isD = true := by rw [hseg, List.all_append, hall, hgall]; rfl
                    have hacc := accD_cases l i
                    clear hval hseg hall hgall hm hdl hl9 hac hmem
                    (replace halle := Hid.mk halle)
                    rcases hacc with e | ⟨xs, e⟩
                    · rw [e] at ct ⊢
                      repeat (first | (refine W_seq ?_) | (refine W_reg ?_) | (refine W_regd ?_) | (refine W_block ?_) | (refine And.intro (by omega) ?_) | simp (config := {maxSteps := 1000000}) (disch := omega) only [cA, cB, lk, lkH, Dst.onT, Dst.onX, Dst.slot, setF, setH, mapF, mapH, initF, binE, unE, cnt, boundE, newsE, freshE, opE, rmH, blkQ, frz_us, Nat.reduceEqDiff, Nat.reduceLT, Nat.reduceAdd, ↓reduceIte, reduceCtorEq, Nat.reduceLeDiff, dj])
                      refine W_cond rfl (fun h => by cases h) (fun _ => W_exit ?_)
                      repeat (first | (refine W_seq ?_) | (refine W_reg ?_) | (refine W_regd ?_) | (refine W_block ?_) | (refine And.intro (by omega) ?_) | simp (config := {maxSteps := 1000000}) (disch := omega) only [cA, cB, lk, lkH, Dst.onT, Dst.onX, Dst.slot, setF, setH, mapF, mapH, initF, binE, unE, cnt, boundE, newsE, freshE, opE, rmH, blkQ, frz_us, Nat.reduceEqDiff, Nat.reduceLT, Nat.reduceAdd, ↓reduceIte, reduceCtorEq, Nat.reduceLeDiff, u9, us_rfd] | (refine callC_pure (ct) rfl ?_) | (refine callC_pure (cf) rfl ?_) | (refine callC_pure (ca) rfl ?_) | exact W_ret (RetP_1 (.imm rfl)) | exact W_ret (RetP_c rfl rfl rfl (.imm rfl)))
                      exact ⟨(i + 9), And.intro he2 (And.intro halle.out (.inr he5)), by omega, by simp [subF, lk]⟩
                    · rw [e] at ct ⊢
                      repeat (first | (refine W_seq ?_) | (refine W_reg ?_) | (refine W_regd ?_) | (refine W_block ?_) | (refine And.intro (by omega) ?_) | simp (config := {maxSteps := 1000000}) (disch := omega) only [cA, cB, lk, lkH, Dst.onT, Dst.onX, Dst.slot, setF, setH, mapF, mapH, initF, binE, unE, cnt, boundE, newsE, freshE, opE, rmH, blkQ, frz_us, Nat.reduceEqDiff, Nat.reduceLT, Nat.reduceAdd, ↓reduceIte, reduceCtorEq, Nat.reduceLeDiff, dj])
                      refine W_cond rfl (fun h => by cases h) (fun _ => W_exit ?_)
                      repeat (first | (refine W_seq ?_) | (refine W_reg ?_) | (refine W_regd ?_) | (refine W_block ?_) | (refine And.intro (by omega) ?_) | simp (config := {maxSteps := 1000000}) (disch := omega) only [cA, cB, lk, lkH, Dst.onT, Dst.onX, Dst.slot, setF, setH, mapF, mapH, initF, binE, unE, cnt, boundE, newsE, freshE, opE, rmH, blkQ, frz_us, Nat.reduceEqDiff, Nat.reduceLT, Nat.reduceAdd, ↓reduceIte, reduceCtorEq, Nat.reduceLeDiff, u9, us_rfd] | (refine callC_pure (ct) rfl ?_) | (refine callC_pure (cf) rfl ?_) | (refine callC_pure (ca) rfl ?_) | exact W_ret (RetP_1 (.imm rfl)) | exact W_ret (RetP_c rfl rfl rfl (.imm rfl)))
                      exact ⟨(i + 9), And.intro he2 (And.intro halle.out (.inr he5)), by omega, by simp [subF, lk]⟩
            · have hil : i = l.length := by omega
              subst hil
              have dl : decide ((l.length : Int) < l.length) = false := decide_eq_false (by omega)
              rw [List.take_length] at hall
              have hb : okD l = true := (okD_iff l).2 ⟨hn, by omega, hz, hall⟩
              have hr : parseR l = .tup [.sl 1 (us (limbs (dval 0 l))), .bool true] := by unfold parseR; rw [hb]; rfl
              have hac : accD l l.length = .sl 1 (us (limbs (dval 0 l))) := by unfold accD; rw [if_neg (by omega), List.take_length]
              rw [hr, hac]
              repeat (first | (refine W_seq ?_) | (refine W_reg ?_) | (refine W_regd ?_) | (refine W_block ?_) | (refine And.intro (by omega) ?_) | simp (config := {maxSteps := 1000000}) (disch := omega) only [cA, cB, lk, lkH, Dst.onT, Dst.onX, Dst.slot, setF, setH, mapF, mapH, initF, binE, unE, cnt, boundE, newsE, freshE, opE, rmH, blkQ, frz_us, Nat.reduceEqDiff, Nat.reduceLT, Nat.reduceAdd, ↓reduceIte, reduceCtorEq, Nat.reduceLeDiff, dl])
              refine W_cond rfl (fun h => by cases h) (fun _ => W_exit ?_)
              repeat (first | (refine W_seq ?_) | (refine W_reg ?_) | (refine W_regd ?_) | (refine W_block ?_) | (refine And.intro (by omega) ?_) | simp (config := {maxSteps := 1000000}) (disch := omega) only [cA, cB, lk, lkH, Dst.onT, Dst.onX, Dst.slot, setF, setH, mapF, mapH, initF, binE, unE, cnt, boundE, newsE, freshE, opE, rmH, blkQ, frz_us, Nat.reduceEqDiff, Nat.reduceLT, Nat.reduceAdd, ↓reduceIte, reduceCtorEq, Nat.reduceLeDiff])
              exact W_ret (RetP_2 (.imm rfl) (.imm rfl))
      · have d2 : decide ((((l.getD 0 0).toNat : Nat) : Int) = 48) = false := decide_eq_false (by omega)
        have hz : ¬ (l.head? = some 48 ∧ 1 < l.length) := fun h => h48 (by
          cases l with
          | nil => exact absurd rfl hn
          | cons c r =>
            have h1 := h.1
            rw [List.head?_cons, Option.some.injEq] at h1
            rw [List.getD_cons_zero, h1]; rfl)
        repeat (first | (refine W_seq ?_) | (refine W_reg ?_) | (refine W_regd ?_) | (refine W_block ?_) | (refine And.intro (by omega) ?_) | simp (config := {maxSteps := 1000000}) (disch := omega) only [cA, cB, lk, lkH, Dst.onT, Dst.onX, Dst.slot, setF, setH, mapF, mapH, initF, binE, unE, cnt, boundE, newsE, freshE, opE, rmH, blkQ, frz_us, Nat.reduceEqDiff, Nat.reduceLT, Nat.reduceAdd, ↓reduceIte, reduceCtorEq, Nat.reduceLeDiff, dn, d4, e0, ebd, d2])
        refine W_cond rfl (fun h => by cases h) (fun _ => W_skip ?_)
        clear d2 ebd h48
        have r9 : ((l.length : Int).tmod 9) = ((l.length % 9 : Nat) : Int) := by
          rw [Int.tmod_eq_emod_of_nonneg (by omega)]; omega
        repeat (first | (refine W_seq ?_) | (refine W_reg ?_) | (refine W_regd ?_) | (refine W_block ?_) | (refine And.intro (by omega) ?_) | simp (config := {maxSteps := 1000000}) (disch := omega) only [cA, cB, lk, lkH, Dst.onT, Dst.onX, Dst.slot, setF, setH, mapF, mapH, initF, binE, unE, cnt, boundE, newsE, freshE, opE, rmH, blkQ, frz_us, Nat.reduceEqDiff, Nat.reduceLT, Nat.reduceAdd, ↓reduceIte, reduceCtorEq, Nat.reduceLeDiff, r9])
        refine W_loop (σ := Nat) (fun i => [(0, .str l), (2, accD l i), (3, .bool false), (4, .int .i64 (l.length % 9 : Nat)), (5, .int .i64 i)]) (fun _ => []) (fun i => i ≤ l.length ∧ (l.take i).all isD = true ∧ (i = 0 ∨ (l.length - i) % 9 = 0)) (fun i => l.length - i) 0 (And.intro (Nat.zero_le _) (And.intro rfl (.inl rfl))) ?_ rfl ?_
        · simp [subF, lk, accD]
        · rintro i ⟨hi, hall, h9⟩
          by_cases hlt : i < l.length
          · have dl : decide ((i : Int) < l.length) = true := decide_eq_true (by omega)
            repeat (first | (refine W_seq ?_) | (refine W_reg ?_) | (refine W_regd ?_) | (refine W_block ?_) | (refine And.intro (by omega) ?_) | simp (config := {maxSteps := 1000000}) (disch := omega) only [cA, cB, lk, lkH, Dst.onT, Dst.onX, Dst.slot, setF, setH, mapF, mapH, initF, binE, unE, cnt, boundE, newsE, freshE, opE, rmH, blkQ, frz_us, Nat.reduceEqDiff, Nat.reduceLT, Nat.reduceAdd, ↓reduceIte, reduceCtorEq, Nat.reduceLeDiff, dl])
            refine W_cond rfl (fun _ => W_skip ?_) (fun h => by cases h)
            have ti : (i : Int).toNat = i := Int.toNat_natCast i
            by_cases hi0 : i = 0
            · have di : decide ((i : Int) = 0) = true := decide_eq_true (by omega)
              by_cases hf : 0 < l.length % 9
              · have df : decide ((0 : Int) < (l.length % 9 : Nat)) = true := decide_eq_true (by omega)
                have he1 : i < l.length % 9 := by omega
                have he2 : l.length % 9 ≤ l.length := Nat.mod_le _ _
                have he4 : i = 0 ∨ l.length % 9 - i = 9 := .inl hi0
                have he3 : l.length % 9 - i ≤ 9 := by omega
                have he5 : (l.length - l.length % 9) % 9 = 0 := by omega
                have te : ((l.length % 9 : Nat) : Int).toNat = l.length % 9 := Int.toNat_natCast _
                repeat (first | (refine W_seq ?_) | (refine W_reg ?_) | (refine W_regd ?_) | (refine W_block ?_) | (refine And.intro (by omega) ?_) | simp (config := {maxSteps := 1000000}) (disch := omega) only [cA, cB, lk, lkH, Dst.onT, Dst.onX, Dst.slot, setF, setH, mapF, mapH, initF, binE, unE, cnt, boundE, newsE, freshE, opE, rmH, blkQ, frz_us, Nat.reduceEqDiff, Nat.reduceLT, Nat.reduceAdd, ↓reduceIte, reduceCtorEq, Nat.reduceLeDiff, di, df])
                refine W_cond rfl (fun _ => ?_) (fun h => by cases h)
                have hg := seg_len (l := l) (at' := i) (e := (l.length % 9)) he2
                have hseg := take_seg (l := l) (at' := i) (e := (l.length % 9)) (Nat.le_of_lt he1)
                have hval := dval_seg (l := l) (at' := i) (e := (l.length % 9)) (Nat.le_of_lt he1) he2 he4
                have hmem : ∀ c ∈ (l.take (l.length % 9)).drop i, c ∈ l := fun c h => List.mem_of_mem_take (List.mem_of_mem_drop h)
                repeat (first | (refine W_seq ?_) | (refine W_reg ?_) | (refine W_regd ?_) | (refine W_block ?_) | (refine And.intro (by omega) ?_) | simp (config := {maxSteps := 1000000}) (disch := omega) only [cA, cB, lk, lkH, Dst.onT, Dst.onX, Dst.slot, setF, setH, mapF, mapH, initF, binE, unE, cnt, boundE, newsE, freshE, opE, rmH, blkQ, frz_us, Nat.reduceEqDiff, Nat.reduceLT, Nat.reduceAdd, ↓reduceIte, reduceCtorEq, Nat.reduceLeDiff, ti, te])
                generalize (l.take (l.length % 9)).drop i = g at *
                have hglen : ((g.map byteD).length) = g.length := List.length_map ..
                repeat (first | (refine W_seq ?_) | (refine W_reg ?_) | (refine W_regd ?_) | (refine W_block ?_) | (refine And.intro (by omega) ?_) | simp (config := {maxSteps := 1000000}) (disch := omega) only [cA, cB, lk, lkH, Dst.onT, Dst.onX, Dst.slot, setF, setH, mapF, mapH, initF, binE, unE, cnt, boundE, newsE, freshE, opE, rmH, blkQ, frz_us, Nat.reduceEqDiff, Nat.reduceLT, Nat.reduceAdd, ↓reduceIte, reduceCtorEq, Nat.reduceLeDiff, hglen])
                refine W_loop (σ := Nat) (fun j => [(0, .str l), (2, accD l i), (3, .bool false), (4, .int .i64 (l.length % 9 : Nat)), (5, .int .i64 i), (6, .int .i64 ((l.length % 9) : Nat)), (47, .sl 1 (g.map byteD)), (48, .int .i64 g.length), (49, .int .i64 j), (7, .int .u64 (dval 0 (g.take j) : Nat))]) (fun _ => []) (fun j => j ≤ g.length ∧ (g.take j).all isD = true) (fun j => g.length - j) 0 (And.intro (Nat.zero_le _) rfl) ?_ rfl ?_
                · simp [subF, lk, dval_nil]
                · rintro j ⟨hj, hgall⟩
                  by_cases hjl : j < g.length
                  · have dj : decide ((j : Int) < g.length) = true := decide_eq_true (by omega)
                    repeat (first | (refine W_seq ?_) | (refine W_reg ?_) | (refine W_regd ?_) | (refine W_block ?_) | (refine And.intro (by omega) ?_) | simp (config := {maxSteps := 1000000}) (disch := omega) only [cA, cB, lk, lkH, Dst.onT, Dst.onX, Dst.slot, setF, setH, mapF, mapH, initF, binE, unE, cnt, boundE, newsE, freshE, opE, rmH, blkQ, frz_us, Nat.reduceEqDiff, Nat.reduceLT, Nat.reduceAdd, ↓reduceIte, reduceCtorEq, Nat.reduceLeDiff, dj])
                    refine W_cond rfl (fun _ => W_skip ?_) (fun h => by cases h)
                    have tj : (j : Int).toNat = j := Int.toNat_natCast j
                    have hg1 := byteD_get hjl
                    have hg2 := byteD_get? hjl
                    have hta := take_all hjl hgall
                    have htd := take_dval hjl
                    have hmc := hmem g[j] (List.getElem_mem hjl)
                    have hv : dval 0 (g.take j) < 1000000000 := Nat.lt_of_lt_of_le (dval_lt _ hgall) (Nat.le_trans (Nat.pow_le_pow_right (by decide) (show (g.take j).length ≤ 9 by rw [List.length_take]; omega)) (by decide))
                    generalize g[j] = c at *
                    generalize dval 0 (g.take j) = v at *
                    have hk : c.toNat < 256 := UInt8.toNat_lt c
                    have j1 : ((j : Int) + 1) = ((j + 1 : Nat) : Int) := by omega
                    clear hval hseg
                    by_cases hd : isD c = true
                    · have hd' := hd
                      simp only [isD, Bool.and_eq_true, decide_eq_true_eq] at hd'
                      have d5 : decide ((c.toNat : Int) < 48) = false := decide_eq_false (by omega)
                      have d6 : decide ((57 : Int) < c.toNat) = false := decide_eq_false (by omega)
                      have e8 : (c.toNat : Int) - 48 = ((c.toNat - 48 : Nat) : Int) := by omega
                      have e10 : 10 * (v : Int) + ((c.toNat - 48 : Nat) : Int) = ((dval 0 (g.take (j + 1)) : Nat) : Int) := by rw [htd]; omega
                      have hta' := hta hd
                      clear hta htd hgall hall hmem
                      (replace hta' := Hid.mk hta')
                      repeat (first | (refine W_seq ?_) | (refine W_reg ?_) | (refine W_regd ?_) | (refine W_block ?_) | (refine And.intro (by omega) ?_) | simp (config := {maxSteps := 1000000}) (disch := omega) only [cA, cB, lk, lkH, Dst.onT, Dst.onX, Dst.slot, setF, setH, mapF, mapH, initF, binE, unE, cnt, boundE, newsE, freshE, opE, rmH, blkQ, frz_us, Nat.reduceEqDiff, Nat.reduceLT, Nat.reduceAdd, ↓reduceIte, reduceCtorEq, Nat.reduceLeDiff, tj, hg1, hg2, d5, d6])
                      refine W_cond rfl (fun h => by cases h) (fun _ => W_skip ?_)
                      repeat (first | (refine W_seq ?_) | (refine W_reg ?_) | (refine W_regd ?_) | (refine W_block ?_) | (refine And.intro (by omega) ?_) | simp (config := {maxSteps := 1000000}) (disch := omega) only [cA, cB, lk, lkH, Dst.onT, Dst.onX, Dst.slot, setF, setH, mapF, mapH, initF, binE, unE, cnt, boundE, newsE, freshE, opE, rmH, blkQ, frz_us, Nat.reduceEqDiff, Nat.reduceLT, Nat.reduceAdd, ↓reduceIte, reduceCtorEq, Nat.reduceLeDiff, e8, e10, j1])
                      exact ⟨j + 1, And.intro hjl hta'.out, by omega, by simp [subF, lk]⟩
                    · have hb : okD l = false := by
                        rw [← Bool.not_eq_true, okD_iff]
                        exact fun h => hd (List.all_eq_true.1 h.2.2.2 c hmc)
                      rw [parseR_bad hb]
                      clear hta htd hall hgall hmem
                      by_cases h5 : c.toNat < 48
                      · have d5 : decide ((c.toNat : Int) < 48) = true := decide_eq_true (by omega)
                        repeat (first | (refine W_seq ?_) | (refine W_reg ?_) | (refine W_regd ?_) | (refine W_block ?_) | (refine And.intro (by omega) ?_) | simp (config := {maxSteps := 1000000}) (disch := omega) only [cA, cB, lk, lkH, Dst.onT, Dst.onX, Dst.slot, setF, setH, mapF, mapH, initF, binE, unE, cnt, boundE, newsE, freshE, opE, rmH, blkQ, frz_us, Nat.reduceEqDiff, Nat.reduceLT, Nat.reduceAdd, ↓reduceIte, reduceCtorEq, Nat.reduceLeDiff, tj, hg1, hg2, d5])
                        refine W_cond rfl (fun _ => ?_) (fun h => by cases h)
                        repeat (first | (refine W_seq ?_) | (refine W_reg ?_) | (refine W_regd ?_) | (refine W_block ?_) | (refine And.intro (by omega) ?_) | simp (config := {maxSteps := 1000000}) (disch := omega) only [cA, cB, lk, lkH, Dst.onT, Dst.onX, Dst.slot, setF, setH, mapF, mapH, initF, binE, unE, cnt, boundE, newsE, freshE, opE, rmH, blkQ, frz_us, Nat.reduceEqDiff, Nat.reduceLT, Nat.reduceAdd, ↓reduceIte, reduceCtorEq, Nat.reduceLeDiff])
                        exact W_ret (RetP_2 (.nils _) (.imm rfl))
                      · have d5 : decide ((c.toNat : Int) < 48) = false := decide_eq_false (by omega)
                        have d6 : decide ((57 : Int) < c.toNat) = true := decide_eq_true (by
                          simp only [isD, Bool.and_eq_true, decide_eq_true_eq] at hd
                          omega)
                        repeat (first | (refine W_seq ?_) | (refine W_reg ?_) | (refine W_regd ?_) | (refine W_block ?_) | (refine And.intro (by omega) ?_) | simp (config := {maxSteps := 1000000}) (disch := omega) only [cA, cB, lk, lkH, Dst.onT, Dst.onX, Dst.slot, setF, setH, mapF, mapH, initF, binE, unE, cnt, boundE, newsE, freshE, opE, rmH, blkQ, frz_us, Nat.reduceEqDiff, Nat.reduceLT, Nat.reduceAdd, ↓reduceIte, reduceCtorEq, Nat.reduceLeDiff, tj, hg1, hg2, d5, d6])
                        refine W_cond rfl (fun _ => ?_) (fun h => by cases h)
                        repeat (first | (refine W_seq ?_) | (refine W_reg ?_) | (refine W_regd ?_) | (refine W_block ?_) | (refine And.intro (by omega) ?_) | simp (config := {maxSteps := 1000000}) (disch := omega) only [cA, cB, lk, lkH, Dst.onT, Dst.onX, Dst.slot, setF, setH, mapF, mapH, initF, binE, unE, cnt, boundE, newsE, freshE, opE, rmH, blkQ, frz_us, Nat.reduceEqDiff, Nat.reduceLT, Nat.reduceAdd, ↓reduceIte, reduceCtorEq, Nat.reduceLeDiff])
                        exact W_ret (RetP_2 (.nils _) (.imm rfl))
                  · have dj : decide ((j : Int) < g.length) = false := decide_eq_false (by omega)
                    obtain rfl : j = g.length := by omega
                    rw [List.take_length] at hgall ⊢
                    have u9 : [DV.int .u32 1000000000] = us (limbs 1000000000) := by rw [limbs_one (by decide) (by decide)]; rfl
                    have hl9 : (limbs 1000000000).length ≤ 1 := by rw [limbs_one (by decide) (by decide)]; simp
                    have hv : dval 0 g < 1000000000 := Nat.lt_of_lt_of_le (dval_lt _ hgall) (Nat.le_trans (Nat.pow_le_pow_right (by decide) (show g.length ≤ 9 by omega)) (by decide))
                    have hdl := dval_len hall (m := 4000) (by simp; omega)
                    have ct := accD_nMul l i (by omega)
                    have cf := nFromUint_calls (dval 0 g) (by omega)
                    have hm := len_mul hdl hl9
                    have ca := nAddL (dval 0 (l.take i) * 1000000000) (dval 0 g) (by omega) (Nat.le_trans (limbs_len.2 (show dval 0 g < 4294967296 ^ 1 by omega)) (by decide))
                    rw [hval] at ca
                    have hac : accD l (l.length % 9) = .sl 1 (us (limbs (dval 0 (l.take (l.length % 9))))) := by unfold accD; rw [if_neg (by omega)]
                    rw [← hac] at ca
                    have halle : (l.take (l.length % 9)).all isD = true := by rw [hseg, List.all_append, hall, hgall]; rfl
                    have hacc := accD_cases l i
                    clear hval hseg hall hgall hm hdl hl9 hac hmem
                    (replace halle := Hid.mk halle)
                    rcases hacc with e | ⟨xs, e⟩
                    · rw [e] at ct ⊢
                      repeat (first | (refine W_seq ?_) | (refine W_reg ?_) | (refine W_regd ?_) | (refine W_block ?_) | (refine And.intro (by omega) ?_) | simp (config := {maxSteps := 1000000}) (disch := omega) only [cA, cB, lk, lkH, Dst.onT, Dst.onX, Dst.slot, setF, setH, mapF, mapH, initF, binE, unE, cnt, boundE, newsE, freshE, opE, rmH, blkQ, frz_us, Nat.reduceEqDiff, Nat.reduceLT, Nat.reduceAdd, ↓reduceIte, reduceCtorEq, Nat.reduceLeDiff, dj])
                      refine W_cond rfl (fun h => by cases h) (fun _ => W_exit ?_)
                      repeat (first | (refine W_seq ?_) | (refine W_reg ?_) | (refine W_regd ?_) | (refine W_block ?_) | (refine And.intro (by omega) ?_) | simp (config := {maxSteps := 1000000}) (disch := omega) only [cA, cB, lk, lkH, Dst.onT, Dst.onX, Dst.slot, setF, setH, mapF, mapH, initF, binE, unE, cnt, boundE, newsE, freshE, opE, rmH, blkQ, frz_us, Nat.reduceEqDiff, Nat.reduceLT, Nat.reduceAdd, ↓reduceIte, reduceCtorEq, Nat.reduceLeDiff, u9, us_rfd] | (refine callC_pure (ct) rfl ?_) | (refine callC_pure (cf) rfl ?_) | (refine callC_pure (ca) rfl ?_) | exact W_ret (RetP_1 (.imm rfl)) | exact W_ret (RetP_c rfl rfl rfl (.imm rfl)))
                      exact ⟨(l.length % 9), And.intro he2 (And.intro halle.out (.inr he5)), by omega, by simp [subF, lk]⟩
                    · rw [e] at ct ⊢
                      repeat (first | (refine W_seq ?_) | (refine W_reg ?_) | (refine W_regd ?_) | (refine W_block ?_) | (refine And.intro (by omega) ?_) | simp (config := {maxSteps := 1000000}) (disch := omega) only [cA, cB, lk, lkH, Dst.onT, Dst.onX, Dst.slot, setF, setH, mapF, mapH, initF, binE, unE, cnt, boundE, newsE, freshE, opE, rmH, blkQ, frz_us, Nat.reduceEqDiff, Nat.reduceLT, Nat.reduceAdd, ↓reduceIte, reduceCtorEq, Nat.reduceLeDiff, dj])
                      refine W_cond rfl (fun h => by cases h) (fun _ => W_exit ?_)
                      repeat (first | (refine W_seq ?_) | (refine W_reg ?_) | (refine W_regd ?_) | (refine W_block ?_) | (refine And.intro (by omega) ?_) | simp (config := {maxSteps := 1000000}) (disch := omega) only [cA, cB, lk, lkH, Dst.onT, Dst.onX, Dst.slot, setF, setH, mapF, mapH, initF, binE, unE, cnt, boundE, newsE, freshE, opE, rmH, blkQ, frz_us, Nat.reduceEqDiff, Nat.reduceLT, Nat.reduceAdd, ↓reduceIte, reduceCtorEq, Nat.reduceLeDiff, u9, us_rfd] | (refine callC_pure (ct) rfl ?_) | (refine callC_pure (cf) rfl ?_) | (refine callC_pure (ca) rfl ?_) | exact W_ret (RetP_1 (.imm rfl)) | exact W_ret (RetP_c rfl rfl rfl (.imm rfl)))
                      exact ⟨(l.length % 9), And.intro he2 (And.intro halle.out (.inr he5)), by omega, by simp [subF, lk]⟩
              · have df : decide ((0 : Int) < (l.length % 9 : Nat)) = false := decide_eq_false (by omega)
                have he1 : i < i + 9 := by omega
                have he2 : i + 9 ≤ l.length := by omega
                have he4 : i = 0 ∨ i + 9 - i = 9 := .inl hi0
                have he3 : i + 9 - i ≤ 9 := by omega
                have he5 : (l.length - (i + 9)) % 9 = 0 := by omega
                have ei9 : (i : Int) + 9 = ((i + 9 : Nat) : Int) := by omega
                have te : ((i + 9 : Nat) : Int).toNat = i + 9 := Int.toNat_natCast _
                repeat (first | (refine W_seq ?_) | (refine W_reg ?_) | (refine W_regd ?_) | (refine W_block ?_) | (refine And.intro (by omega) ?_) | simp (config := {maxSteps := 1000000}) (disch := omega) only [cA, cB, lk, lkH, Dst.onT, Dst.onX, Dst.slot, setF, setH, mapF, mapH, initF, binE, unE, cnt, boundE, newsE, freshE, opE, rmH, blkQ, frz_us, Nat.reduceEqDiff, Nat.reduceLT, Nat.reduceAdd, ↓reduceIte, reduceCtorEq, Nat.reduceLeDiff, di, df, ei9])
                refine W_cond rfl (fun h => by cases h) (fun _ => W_skip ?_)
                have hg := seg_len (l := l) (at' := i) (e := (i + 9)) he2
                have hseg := take_seg (l := l) (at' := i) (e := (i + 9)) (Nat.le_of_lt he1)
                have hval := dval_seg (l := l) (at' := i) (e := (i + 9)) (Nat.le_of_lt he1) he2 he4
                have hmem : ∀ c ∈ (l.take (i + 9)).drop i, c ∈ l := fun c h => List.mem_of_mem_take (List.mem_of_mem_drop h)
                repeat (first | (refine W_seq ?_) | (refine W_reg ?_) | (refine W_regd ?_) | (refine W_block ?_) | (refine And.intro (by omega) ?_) | simp (config := {maxSteps := 1000000}) (disch := omega) only [cA, cB, lk, lkH, Dst.onT, Dst.onX, Dst.slot, setF, setH, mapF, mapH, initF, binE, unE, cnt, boundE, newsE, freshE, opE, rmH, blkQ, frz_us, Nat.reduceEqDiff, Nat.reduceLT, Nat.reduceAdd, ↓reduceIte, reduceCtorEq, Nat.reduceLeDiff, ti, te])
                generalize (l.take (i + 9)).drop i = g at *
                have hglen : ((g.map byteD).length) = g.length := List.length_map ..
                repeat (first | (refine W_seq ?_) | (refine W_reg ?_) | (refine W_regd ?_) | (refine W_block ?_) | (refine And.intro (by omega) ?_) | simp (config := {maxSteps := 1000000}) (disch := omega) only [cA, cB, lk, lkH, Dst.onT, Dst.onX, Dst.slot, setF, setH, mapF, mapH, initF, binE, unE, cnt, boundE, newsE, freshE, opE, rmH, blkQ, frz_us, Nat.reduceEqDiff, Nat.reduceLT, Nat.reduceAdd, ↓reduceIte, reduceCtorEq, Nat.reduceLeDiff, hglen])
                refine W_loop (σ := Nat) (fun j => [(0, .str l), (2, accD l i), (3, .bool false), (4, .int .i64 (l.length % 9 : Nat)), (5, .int .i64 i), (6, .int .i64 ((i + 9) : Nat)), (47, .sl 1 (g.map byteD)), (48, .int .i64 g.length), (49, .int .i64 j), (7, .int .u64 (dval 0 (g.take j) : Nat))]) (fun _ => []) (fun j => j ≤ g.length ∧ (g.take j).all isD = true) (fun j => g.length - j) 0 (And.intro (Nat.zero_le _) rfl) ?_ rfl ?_
                · simp [subF, lk, dval_nil]
                · rintro j ⟨hj, hgall⟩
                  by_cases hjl : j < g.length
                  · have dj : decide ((j : Int) < g.length) = true := decide_eq_true (by omega)
                    repeat (first | (refine W_seq ?_) | (refine W_reg ?_) | (refine W_regd ?_) | (refine W_block ?_) | (refine And.intro (by omega) ?_) | simp (config := {maxSteps := 1000000}) (disch := omega) only [cA, cB, lk, lkH, Dst.onT, Dst.onX, Dst.slot, setF, setH, mapF, mapH, initF, binE, unE, cnt, boundE, newsE, freshE, opE, rmH, blkQ, frz_us, Nat.reduceEqDiff, Nat.reduceLT, Nat.reduceAdd, ↓reduceIte, reduceCtorEq, Nat.reduceLeDiff, dj])
                    refine W_cond rfl (fun _ => W_skip ?_) (fun h => by cases h)
                    have tj : (j : Int).toNat = j := Int.toNat_natCast j
                    have hg1 := byteD_get hjl
                    have hg2 := byteD_get? hjl
                    have hta := take_all hjl hgall
                    have htd := take_dval hjl
                    have hmc := hmem g[j] (List.getElem_mem hjl)
                    have hv : dval 0 (g.take j) < 1000000000 := Nat.lt_of_lt_of_le (dval_lt _ hgall) (Nat.le_trans (Nat.pow_le_pow_right (by decide) (show (g.take j).length ≤ 9 by rw [List.length_take]; omega)) (by decide))
                    generalize g[j] = c at *
                    generalize dval 0 (g.take j) = v at *
                    have hk : c.toNat < 256 := UInt8.toNat_lt c
                    have j1 : ((j : Int) + 1) = ((j + 1 : Nat) : Int) := by omega
                    clear hval hseg
                    by_cases hd : isD c = true
                    · have hd' := hd
                      simp only [isD, Bool.and_eq_true, decide_eq_true_eq] at hd'
                      have d5 : decide ((c.toNat : Int) < 48) = false := decide_eq_false (by omega)
                      have d6 : decide ((57 : Int) < c.toNat) = false := decide_eq_false (by omega)
                      have e8 : (c.toNat : Int) - 48 = ((c.toNat - 48 : Nat) : Int) := by omega
                      have e10 : 10 * (v : Int) + ((c.toNat - 48 : Nat) : Int) = ((dval 0 (g.take (j + 1)) : Nat) : Int) := by rw [htd]; omega
                      have hta' := hta hd
                      clear hta htd hgall hall hmem
                      (replace hta' := Hid.mk hta')
                      repeat (first | (refine W_seq ?_) | (refine W_reg ?_) | (refine W_regd ?_) | (refine W_block ?_) | (refine And.intro (by omega) ?_) | simp (config := {maxSteps := 1000000}) (disch := omega) only [cA, cB, lk, lkH, Dst.onT, Dst.onX, Dst.slot, setF, setH, mapF, mapH, initF, binE, unE, cnt, boundE, newsE, freshE, opE, rmH, blkQ, frz_us, Nat.reduceEqDiff, Nat.reduceLT, Nat.reduceAdd, ↓reduceIte, reduceCtorEq, Nat.reduceLeDiff, tj, hg1, hg2, d5, d6])
                      refine W_cond rfl (fun h => by cases h) (fun _ => W_skip ?_)
                      repeat (first | (refine W_seq ?_) | (refine W_reg ?_) | (refine W_regd ?_) | (refine W_block ?_) | (refine And.intro (by omega) ?_) | simp (config := {maxSteps := 1000000}) (disch := omega) only [cA, cB, lk, lkH, Dst.onT, Dst.onX, Dst.slot, setF, setH, mapF, mapH, initF, binE, unE, cnt, boundE, newsE, freshE, opE, rmH, blkQ, frz_us, Nat.reduceEqDiff, Nat.reduceLT, Nat.reduceAdd, ↓reduceIte, reduceCtorEq, Nat.reduceLeDiff, e8, e10, j1])
                      exact ⟨j + 1, And.intro hjl hta'.out, by omega, by simp [subF, lk]⟩
                    · have hb : okD l = false := by
                        rw [← Bool.not_eq_true, okD_iff]
                        exact fun h => hd (List.all_eq_true.1 h.2.2.2 c hmc)
                      rw [parseR_bad hb]
                      clear hta htd hall hgall hmem
                      by_cases h5 : c.toNat < 48
                      · have d5 : decide ((c.toNat : Int) < 48) = true := decide_eq_true (by omega)
                        repeat (first | (refine W_seq ?_) | (refine W_reg ?_) | (refine W_regd ?_) | (refine W_block ?_) | (refine And.intro (by omega) ?_) | simp (config := {maxSteps := 1000000}) (disch := omega) only [cA, cB, lk, lkH, Dst.onT, Dst.onX, Dst.slot, setF, setH, mapF, mapH, initF, binE, unE, cnt, boundE, newsE, freshE, opE, rmH, blkQ, frz_us, Nat.reduceEqDiff, Nat.reduceLT, Nat.reduceAdd, ↓reduceIte, reduceCtorEq, Nat.reduceLeDiff, tj, hg1, hg2, d5])
                        refine W_cond rfl (fun _ => ?_) (fun h => by cases h)
                        repeat (first | (refine W_seq ?_) | (refine W_reg ?_) | (refine W_regd ?_) | (refine W_block ?_) | (refine And.intro (by omega) ?_) | simp (config := {maxSteps := 1000000}) (disch := omega) only [cA, cB, lk, lkH, Dst.onT, Dst.onX, Dst.slot, setF, setH, mapF, mapH, initF, binE, unE, cnt, boundE, newsE, freshE, opE, rmH, blkQ, frz_us, Nat.reduceEqDiff, Nat.reduceLT, Nat.reduceAdd, ↓reduceIte, reduceCtorEq, Nat.reduceLeDiff])
                        exact W_ret (RetP_2 (.nils _) (.imm rfl))
                      · have d5 : decide ((c.toNat : Int) < 48) = false := decide_eq_false (by omega)
                        have d6 : decide ((57 : Int) < c.toNat) = true := decide_eq_true (by
                          simp only [isD, Bool.and_eq_true, decide_eq_true_eq] at hd
                          omega)
                        repeat (first | (refine W_seq ?_) | (refine W_reg ?_) | (refine W_regd ?_) | (refine W_block ?_) | (refine And.intro (by omega) ?_) | simp (config := {maxSteps := 1000000}) (disch := omega) only [cA, cB, lk, lkH, Dst.onT, Dst.onX, Dst.slot, setF, setH, mapF, mapH, initF, binE, unE, cnt, boundE, newsE, freshE, opE, rmH, blkQ, frz_us, Nat.reduceEqDiff, Nat.reduceLT, Nat.reduceAdd, ↓reduceIte, reduceCtorEq, Nat.reduceLeDiff, tj, hg1, hg2, d5, d6])
                        refine W_cond rfl (fun _ => ?_) (fun h => by cases h)
                        repeat (first | (refine W_seq ?_) | (refine W_reg ?_) | (refine W_regd ?_) | (refine W_block ?_) | (refine And.intro (by omega) ?_) | simp (config := {maxSteps := 1000000}) (disch := omega) only [cA, cB, lk, lkH, Dst.onT, Dst.onX, Dst.slot, setF, setH, mapF, mapH, initF, binE, unE, cnt, boundE, newsE, freshE, opE, rmH, blkQ, frz_us, Nat.reduceEqDiff, Nat.reduceLT, Nat.reduceAdd, ↓reduceIte, reduceCtorEq, Nat.reduceLeDiff])
                        exact W_ret (RetP_2 (.nils _) (.imm rfl))
                  · have dj : decide ((j : Int) < g.length) = false := decide_eq_false (by omega)
                    obtain rfl : j = g.length := by omega
                    rw [List.take_length] at hgall ⊢
                    have u9 : [DV.int .u32 1000000000] = us (limbs 1000000000) := by rw [limbs_one (by decide) (by decide)]; rfl
                    have hl9 : (limbs 1000000000).length ≤ 1 := by rw [limbs_one (by decide) (by decide)]; simp
                    have hv : dval 0 g < 1000000000 := Nat.lt_of_lt_of_le (dval_lt _ hgall) (Nat.le_trans (Nat.pow_le_pow_right (by decide) (show g.length ≤ 9 by omega)) (by decide))
                    have hdl := dval_len hall (m := 4000) (by simp; omega)
                    have ct := accD_nMul l i (by omega)
                    have cf := nFromUint_calls (dval 0 g) (by omega)
                    have hm := len_mul hdl hl9
                    have ca := nAddL (dval 0 (l.take i) * 1000000000) (dval 0 g) (by omega) (Nat.le_trans (limbs_len.2 (show dval 0 g < 4294967296 ^ 1 by omega)) (by decide))
                    rw [hval] at ca
                    have hac : accD l (i + 9) = .sl 1 (us (limbs (dval 0 (l.take (i + 9))))) := by unfold accD; rw [if_neg (by omega)]
                    rw [← hac] at ca
                    have halle : (l.take (i + 9)).all isD = true := by rw [hseg, List.all_append, hall, hgall]; rfl
                    have hacc := accD_cases l i
                    clear hval hseg hall hgall hm hdl hl9 hac hmem
                    (replace halle := Hid.mk halle)
                    rcases hacc with e | ⟨xs, e⟩
                    · rw [e] at ct ⊢
                      repeat (first | (refine W_seq ?_) | (refine W_reg ?_) | (refine W_regd ?_) | (refine W_block ?_) | (refine And.intro (by omega) ?_) | simp (config := {maxSteps := 1000000}) (disch := omega) only [cA, cB, lk, lkH, Dst.onT, Dst.onX, Dst.slot, setF, setH, mapF, mapH, initF, binE, unE, cnt, boundE, newsE, freshE, opE, rmH, blkQ, frz_us, Nat.reduceEqDiff, Nat.reduceLT, Nat.reduceAdd, ↓reduceIte, reduceCtorEq, Nat.reduceLeDiff, dj])
                      refine W_cond rfl (fun h => by cases h) (fun _ => W_exit ?_)
                      repeat (first | (refine W_seq ?_) | (refine W_reg ?_) | (refine W_regd ?_) | (refine W_block ?_) | (refine And.intro (by omega) ?_) | simp (config := {maxSteps := 1000000}) (disch := omega) only [cA, cB, lk, lkH, Dst.onT, Dst.onX, Dst.slot, setF, setH, mapF, mapH, initF, binE, unE, cnt, boundE, newsE, freshE, opE, rmH, blkQ, frz_us, Nat.reduceEqDiff, Nat.reduceLT, Nat.reduceAdd, ↓reduceIte, reduceCtorEq, Nat.reduceLeDiff, u9, us_rfd] | (refine callC_pure (ct) rfl ?_) | (refine callC_pure (cf) rfl ?_) | (refine callC_pure (ca) rfl ?_) | exact W_ret (RetP_1 (.imm rfl)) | exact W_ret (RetP_c rfl rfl rfl (.imm rfl)))
                      exact ⟨(i + 9), And.intro he2 (And.intro halle.out (.inr he5)), by omega, by simp [subF, lk]⟩
                    · rw [e] at ct ⊢
                      repeat (first | (refine W_seq ?_) | (refine W_reg ?_) | (refine W_regd ?_) | (refine W_block ?_) | (refine And.intro (by omega) ?_) | simp (config := {maxSteps := 1000000}) (disch := omega) only [cA, cB, lk, lkH, Dst.onT, Dst.onX, Dst.slot, setF, setH, mapF, mapH, initF, binE, unE, cnt, boundE, newsE, freshE, opE, rmH, blkQ, frz_us, Nat.reduceEqDiff, Nat.reduceLT, Nat.reduceAdd, ↓reduceIte, reduceCtorEq, Nat.reduceLeDiff, dj])
                      refine W_cond rfl (fun h => by cases h) (fun _ => W_exit ?_)
                      repeat (first | (refine W_seq ?_) | (refine W_reg ?_) | (refine W_regd ?_) | (refine W_block ?_) | (refine And.intro (by omega) ?_) | simp (config := {maxSteps := 1000000}) (disch := omega) only [cA, cB, lk, lkH, Dst.onT, Dst.onX, Dst.slot, setF, setH, mapF, mapH, initF, binE, unE, cnt, boundE, newsE, freshE, opE, rmH, blkQ, frz_us, Nat.reduceEqDiff, Nat.reduceLT, Nat.reduceAdd, ↓reduceIte, reduceCtorEq, Nat.reduceLeDiff, u9, us_rfd] | (refine callC_pure (ct) rfl ?_) | (refine callC_pure (cf) rfl ?_) | (refine callC_pure (ca) rfl ?_) | exact W_ret (RetP_1 (.imm rfl)) | exact W_ret (RetP_c rfl rfl rfl (.imm rfl)))
                      exact ⟨(i + 9), And.intro he2 (And.intro halle.out (.inr he5)), by omega, by simp [subF, lk]⟩
            · have di : decide ((i : Int) = 0) = false := decide_eq_false (by omega)
              have he1 : i < i + 9 := by omega
              have he2 : i + 9 ≤ l.length := by omega
              have he4 : i = 0 ∨ i + 9 - i = 9 := .inr (by omega)
              have he3 : i + 9 - i ≤ 9 := by omega
              have he5 : (l.length - (i + 9)) % 9 = 0 := by omega
              have ei9 : (i : Int) + 9 = ((i + 9 : Nat) : Int) := by omega
              have te : ((i + 9 : Nat) : Int).toNat = i + 9 := Int.toNat_natCast _
              repeat (first | (refine W_seq ?_) | (refine W_reg ?_) | (refine W_regd ?_) | (refine W_block ?_) | (refine And.intro (by omega) ?_) | simp (config := {maxSteps := 1000000}) (disch := omega) only [cA, cB, lk, lkH, Dst.onT, Dst.onX, Dst.slot, setF, setH, mapF, mapH, initF, binE, unE, cnt, boundE, newsE, freshE, opE, rmH, blkQ, frz_us, Nat.reduceEqDiff, Nat.reduceLT, Nat.reduceAdd, ↓reduceIte, reduceCtorEq, Nat.reduceLeDiff, di, ei9])
              refine W_cond rfl (fun h => by cases h) (fun _ => W_skip ?_)
              have hg := seg_len (l := l) (at' := i) (e := (i + 9)) he2
              have hseg := take_seg (l := l) (at' := i) (e := (i + 9)) (Nat.le_of_lt he1)
              have hval := dval_seg (l := l) (at' := i) (e := (i + 9)) (Nat.le_of_lt he1) he2 he4
              have hmem : ∀ c ∈ (l.take (i + 9)).drop i, c ∈ l := fun c h => List.mem_of_mem_take (List.mem_of_mem_drop h)
              repeat (first | (refine W_seq ?_) | (refine W_reg ?_) | (refine W_regd ?_) | (refine W_block ?_) | (refine And.intro (by omega) ?_) | simp (config := {maxSteps := 1000000}) (disch := omega) only [cA, cB, lk, lkH, Dst.onT, Dst.onX, Dst.slot, setF, setH, mapF, mapH, initF, binE, unE, cnt, boundE, newsE, freshE, opE, rmH, blkQ, frz_us, Nat.reduceEqDiff, Nat.reduceLT, Nat.reduceAdd, ↓reduceIte, reduceCtorEq, Nat.reduceLeDiff, ti, te])
              generalize (l.take (i + 9)).drop i = g at *
              have hglen : ((g.map byteD).length) = g.length := List.length_map ..
              repeat (first | (refine W_seq ?_) | (refine W_reg ?_) | (refine W_regd ?_) | (refine W_block ?_) | (refine And.intro (by omega) ?_) | simp (config := {maxSteps := 1000000}) (disch := omega) only [cA, cB, lk, lkH, Dst.onT, Dst.onX, Dst.slot, setF, setH, mapF, mapH, initF, binE, unE, cnt, boundE, newsE, freshE, opE, rmH, blkQ, frz_us, Nat.reduceEqDiff, Nat.reduceLT, Nat.reduceAdd, ↓reduceIte, reduceCtorEq, Nat.reduceLeDiff, hglen])
              refine W_loop (σ := Nat) (fun j => [(0, .str l), (2, accD l i), (3, .bool false), (4, .int .i64 (l.length % 9 : Nat)), (5, .int .i64 i), (6, .int .i64 ((i + 9) : Nat)), (47, .sl 1 (g.map byteD)), (48, .int .i64 g.length), (49, .int .i64 j), (7, .int .u64 (dval 0 (g.take j) : Nat))]) (fun _ => []) (fun j => j ≤ g.length ∧ (g.take j).all isD = true) (fun j => g.length - j) 0 (And.intro (Nat.zero_le _) rfl) ?_ rfl ?_
              · simp [subF, lk, dval_nil]
              · rintro j ⟨hj, hgall⟩
                by_cases hjl : j < g.length
                · have dj : decide ((j : Int) < g.length) = true := decide_eq_true (by omega)
                  repeat (first | (refine W_seq ?_) | (refine W_reg ?_) | (refine W_regd ?_) | (refine W_block ?_) | (refine And.intro (by omega) ?_) | simp (config := {maxSteps := 1000000}) (disch := omega) only [cA, cB, lk, lkH, Dst.onT, Dst.onX, Dst.slot, setF, setH, mapF, mapH, initF, binE, unE, cnt, boundE, newsE, freshE, opE, rmH, blkQ, frz_us, Nat.reduceEqDiff, Nat.reduceLT, Nat.reduceAdd, ↓reduceIte, reduceCtorEq, Nat.reduceLeDiff, dj])
                  refine W_cond rfl (fun _ => W_skip ?_) (fun h => by cases h)
                  have tj : (j : Int).toNat = j := Int.toNat_natCast j
                  have hg1 := byteD_get hjl
                  have hg2 := byteD_get? hjl
                  have hta := take_all hjl hgall
                  have htd := take_dval hjl
                  have hmc := hmem g[j] (List.getElem_mem hjl)
                  have hv : dval 0 (g.take j) < 1000000000 := Nat.lt_of_lt_of_le (dval_lt _ hgall) (Nat.le_trans (Nat.pow_le_pow_right (by decide) (show (g.take j).length ≤ 9 by rw [List.length_take]; omega)) (by decide))
                  generalize g[j] = c at *
                  generalize dval 0 (g.take j) = v at *
                  have hk : c.toNat < 256 := UInt8.toNat_lt c
                  have j1 : ((j : Int) + 1) = ((j + 1 : Nat) : Int) := by omega
                  clear hval hseg
                  by_cases hd : isD c = true
                  · have hd' := hd
                    simp only [isD, Bool.and_eq_true, decide_eq_true_eq] at hd'
                    have d5 : decide ((c.toNat : Int) < 48) = false := decide_eq_false (by omega)
                    have d6 : decide ((57 : Int) < c.toNat) = false := decide_eq_false (by omega)
                    have e8 : (c.toNat : Int) - 48 = ((c.toNat - 48 : Nat) : Int) := by omega
                    have e10 : 10 * (v : Int) + ((c.toNat - 48 : Nat) : Int) = ((dval 0 (g.take (j + 1)) : Nat) : Int) := by rw [htd]; omega
                    have hta' := hta hd
                    clear hta htd hgall hall hmem
                    (replace hta' := Hid.mk hta')
                    repeat (first | (refine W_seq ?_) | (refine W_reg ?_) | (refine W_regd ?_) | (refine W_block ?_) | (refine And.intro (by omega) ?_) | simp (config := {maxSteps := 1000000}) (disch := omega) only [cA, cB, lk, lkH, Dst.onT, Dst.onX, Dst.slot, setF, setH, mapF, mapH, initF, binE, unE, cnt, boundE, newsE, freshE, opE, rmH, blkQ, frz_us, Nat.reduceEqDiff, Nat.reduceLT, Nat.reduceAdd, ↓reduceIte, reduceCtorEq, Nat.reduceLeDiff, tj, hg1, hg2, d5, d6])
                    refine W_cond rfl (fun h => by cases h) (fun _ => W_skip ?_)
                    repeat (first | (refine W_seq ?_) | (refine W_reg ?_) | (refine W_regd ?_) | (refine W_block ?_) | (refine And.intro (by omega) ?_) | simp (config := {maxSteps := 1000000}) (disch := omega) only [cA, cB, lk, lkH, Dst.onT, Dst.onX, Dst.slot, setF, setH, mapF, mapH, initF, binE, unE, cnt, boundE, newsE, freshE, opE, rmH, blkQ, frz_us, Nat.reduceEqDiff, Nat.reduceLT, Nat.reduceAdd, ↓reduceIte, reduceCtorEq, Nat.reduceLeDiff, e8, e10, j1])
                    exact ⟨j + 1, And.intro hjl hta'.out, by omega, by simp [subF, lk]⟩
                  · have hb : okD l = false := by
                      rw [← Bool.not_eq_true, okD_iff]
                      exact fun h => hd (List.all_eq_true.1 h.2.2.2 c hmc)
                    rw [parseR_bad hb]
                    clear hta htd hall hgall hmem
                    by_cases h5 : c.toNat < 48
                    · have d5 : decide ((c.toNat : Int) < 48) = true := decide_eq_true (by omega)
                      repeat (first | (refine W_seq ?_) | (refine W_reg ?_) | (refine W_regd ?_) | (refine W_block ?_) | (refine And.intro (by omega) ?_) | simp (config := {maxSteps := 1000000}) (disch := omega) only [cA, cB, lk, lkH, Dst.onT, Dst.onX, Dst.slot, setF, setH, mapF, mapH, initF, binE, unE, cnt, boundE, newsE, freshE, opE, rmH, blkQ, frz_us, Nat.reduceEqDiff, Nat.reduceLT, Nat.reduceAdd, ↓reduceIte, reduceCtorEq, Nat.reduceLeDiff, tj, hg1, hg2, d5])
                      refine W_cond rfl (fun _ => ?_) (fun h => by cases h)
                      repeat (first | (refine W_seq ?_) | (refine W_reg ?_) | (refine W_regd ?_) | (refine W_block ?_) | (refine And.intro (by omega) ?_) | simp (config := {maxSteps := 1000000}) (disch := omega) only [cA, cB, lk, lkH, Dst.onT, Dst.onX, Dst.slot, setF, setH, mapF, mapH, initF, binE, unE, cnt, boundE, newsE, freshE, opE, rmH, blkQ, frz_us, Nat.reduceEqDiff, Nat.reduceLT, Nat.reduceAdd, ↓reduceIte, reduceCtorEq, Nat.reduceLeDiff])
                      exact W_ret (RetP_2 (.nils _) (.imm rfl))
                    · have d5 : decide ((c.toNat : Int) < 48) = false := decide_eq_false (by omega)
                      have d6 : decide ((57 : Int) < c.toNat) = true := decide_eq_true (by
                        simp only [isD, Bool.and_eq_true, decide_eq_true_eq] at hd
                        omega)
                      repeat (first | (refine W_seq ?_) | (refine W_reg ?_) | (refine W_regd ?_) | (refine W_block ?_) | (refine And.intro (by omega) ?_) | simp (config := {maxSteps := 1000000}) (disch := omega) only [cA, cB, lk, lkH, Dst.onT, Dst.onX, Dst.slot, setF, setH, mapF, mapH, initF, binE, unE, cnt, boundE, newsE, freshE, opE, rmH, blkQ, frz_us, Nat.reduceEqDiff, Nat.reduceLT, Nat.reduceAdd, ↓reduceIte, reduceCtorEq, Nat.reduceLeDiff, tj, hg1, hg2, d5, d6])
                      refine W_cond rfl (fun _ => ?_) (fun h => by cases h)
                      repeat (first | (refine W_seq ?_) | (refine W_reg ?_) | (refine W_regd ?_) | (refine W_block ?_) | (refine And.intro (by omega) ?_) | simp (config := {maxSteps := 1000000}) (disch := omega) only [cA, cB, lk, lkH, Dst.onT, Dst.onX, Dst.slot, setF, setH, mapF, mapH, initF, binE, unE, cnt, boundE, newsE, freshE, opE, rmH, blkQ, frz_us, Nat.reduceEqDiff, Nat.reduceLT, Nat.reduceAdd, ↓reduceIte, reduceCtorEq, Nat.reduceLeDiff])
                      exact W_ret (RetP_2 (.nils _) (.imm rfl))
                · have dj : decide ((j : Int) < g.length) = false := decide_eq_false (by omega)
                  obtain rfl : j = g.length := by omega
                  rw [List.take_length] at hgall ⊢
                  have u9 : [DV.int .u32 1000000000] = us (limbs 1000000000) := by rw [limbs_one (by decide) (by decide)]; rfl
                  have hl9 : (limbs 1000000000).length ≤ 1 := by rw [limbs_one (by decide) (by decide)]; simp
                  have hv : dval 0 g < 1000000000 := Nat.lt_of_lt_of_le (dval_lt _ hgall) (Nat.le_trans (Nat.pow_le_pow_right (by decide) (show g.length ≤ 9 by omega)) (by decide))
                  have hdl := dval_len hall (m := 4000) (by simp; omega)
                  have ct := accD_nMul l i (by omega)
                  have cf := nFromUint_calls (dval 0 g) (by omega)
                  have hm := len_mul hdl hl9
                  have ca := nAddL (dval 0 (l.take i) * 1000000000) (dval 0 g) (by omega) (Nat.le_trans (limbs_len.2 (show dval 0 g < 4294967296 ^ 1 by omega)) (by decide))
                  rw [hval] at ca
                  have hac : accD l (i + 9) = .sl 1 (us (limbs (dval 0 (l.take (i + 9))))) := by unfold accD; rw [if_neg (by omega)]
                  rw [← hac] at ca
                  have halle : (l.take (i + 9)).all isD = true := by rw [hseg, List.all_append, hall, hgall]; rfl
                  have hacc := accD_cases l i
                  clear hval hseg hall hgall hm hdl hl9 hac hmem
                  (replace halle := Hid.mk halle)
                  rcases hacc with e | ⟨xs, e⟩
                  · rw [e] at ct ⊢
                    repeat (first | (refine W_seq ?_) | (refine W_reg ?_) | (refine W_regd ?_) | (refine W_block ?_) | (refine And.intro (by omega) ?_) | simp (config := {maxSteps := 1000000}) (disch := omega) only [cA, cB, lk, lkH, Dst.onT, Dst.onX, Dst.slot, setF, setH, mapF, mapH, initF, binE, unE, cnt, boundE, newsE, freshE, opE, rmH, blkQ, frz_us, Nat.reduceEqDiff, Nat.reduceLT, Nat.reduceAdd, ↓reduceIte, reduceCtorEq, Nat.reduceLeDiff, dj])
                    refine W_cond rfl (fun h => by cases h) (fun _ => W_exit ?_)
                    repeat (first | (refine W_seq ?_) | (refine W_reg ?_) | (refine W_regd ?_) | (refine W_block ?_) | (refine And.intro (by omega) ?_) | simp (config := {maxSteps := 1000000}) (disch := omega) only [cA, cB, lk, lkH, Dst.onT, Dst.onX, Dst.slot, setF, setH, mapF, mapH, initF, binE, unE, cnt, boundE, newsE, freshE, opE, rmH, blkQ, frz_us, Nat.reduceEqDiff, Nat.reduceLT, Nat.reduceAdd, ↓reduceIte, reduceCtorEq, Nat.reduceLeDiff, u9, us_rfd] | (refine callC_pure (ct) rfl ?_) | (refine callC_pure (cf) rfl ?_) | (refine callC_pure (ca) rfl ?_) | exact W_ret (RetP_1 (.imm rfl)) | exact W_ret (RetP_c rfl rfl rfl (.imm rfl)))
                    exact ⟨(i + 9), And.intro he2 (And.intro halle.out (.inr he5)), by omega, by simp [subF, lk]⟩
                  · rw [e] at ct ⊢
                    repeat (first | (refine W_seq ?_) | (refine W_reg ?_) | (refine W_regd ?_) | (refine W_block ?_) | (refine And.intro (by omega) ?_) | simp (config := {maxSteps := 1000000}) (disch := omega) only [cA, cB, lk, lkH, Dst.onT, Dst.onX, Dst.slot, setF, setH, mapF, mapH, initF, binE, unE, cnt, boundE, newsE, freshE, opE, rmH, blkQ, frz_us, Nat.reduceEqDiff, Nat.reduceLT, Nat.reduceAdd, ↓reduceIte, reduceCtorEq, Nat.reduceLeDiff, dj])
                    refine W_cond rfl (fun h => by cases h) (fun _ => W_exit ?_)
                    repeat (first | (refine W_seq ?_) | (refine W_reg ?_) | (refine W_regd ?_) | (refine W_block ?_) | (refine And.intro (by omega) ?_) | simp (config := {maxSteps := 1000000}) (disch := omega) only [cA, cB, lk, lkH, Dst.onT, Dst.onX, Dst.slot, setF, setH, mapF, mapH, initF, binE, unE, cnt, boundE, newsE, freshE, opE, rmH, blkQ, frz_us, Nat.reduceEqDiff, Nat.reduceLT, Nat.reduceAdd, ↓reduceIte, reduceCtorEq, Nat.reduceLeDiff, u9, us_rfd] | (refine callC_pure (ct) rfl ?_) | (refine callC_pure (cf) rfl ?_) | (refine callC_pure (ca) rfl ?_) | exact W_ret (RetP_1 (.imm rfl)) | exact W_ret (RetP_c rfl rfl rfl (.imm rfl)))
                    exact ⟨(i + 9), And.intro he2 (And.intro halle.out (.inr he5)), by omega, by simp [subF, lk]⟩
          · have hil : i = l.length := by omega
            subst hil
            have dl : decide ((l.length : Int) < l.length) = false := decide_eq_false (by omega)
            rw [List.take_length] at hall
            have hb : okD l = true := (okD_iff l).2 ⟨hn, by omega, hz, hall⟩
            have hr : parseR l = .tup [.sl 1 (us (limbs (dval 0 l))), .bool true] := by unfold parseR; rw [hb]; rfl
            have hac : accD l l.length = .sl 1 (us (limbs (dval 0 l))) := by unfold accD; rw [if_neg (by omega), List.take_length]
            rw [hr, hac]
            repeat (first | (refine W_seq ?_) | (refine W_reg ?_) | (refine W_regd ?_) | (refine W_block ?_) | (refine And.intro (by omega) ?_) | simp (config := {maxSteps := 1000000}) (disch := omega) only [cA, cB, lk, lkH, Dst.onT, Dst.onX, Dst.slot, setF, setH, mapF, mapH, initF, binE, unE, cnt, boundE, newsE, freshE, opE, rmH, blkQ, frz_us, Nat.reduceEqDiff, Nat.reduceLT, Nat.reduceAdd, ↓reduceIte, reduceCtorEq, Nat.reduceLeDiff, dl])
            refine W_cond rfl (fun h => by cases h) (fun _ => W_exit ?_)
            repeat (first | (refine W_seq ?_) | (refine W_reg ?_) | (refine W_regd ?_) | (refine W_block ?_) | (refine And.intro (by omega) ?_) | simp (config := {maxSteps := 1000000}) (disch := omega) only [cA, cB, lk, lkH, Dst.onT, Dst.onX, Dst.slot, setF, setH, mapF, mapH, initF, binE, unE, cnt, boundE, newsE, freshE, opE, rmH, blkQ, frz_us, Nat.reduceEqDiff, Nat.reduceLT, Nat.reduceAdd, ↓reduceIte, reduceCtorEq, Nat.reduceLeDiff])
            exact W_ret (RetP_2 (.imm rfl) (.imm rfl))
end Go.Proofs.YtakchfljhihdmaaDoor
namespace Go.Proofs.YtakchfljhihdmaaDoor
open Go Go.Dat Go.Proofs Nat32

theorem strJoin1_calls (l : List UInt8) : PCalls Tryd.prog 81 [.sl 1 [.str l], .str []] (.str l) := by
  refine PCalls_of isstrJoin (by simp [fnstrJoin]) ?_
  unfold codestrJoin
  repeat (first | (refine W_seq ?_) | (refine W_reg ?_) | (refine W_regd ?_) | (refine W_block ?_) | (refine And.intro (by omega) ?_) | simp (config := {maxSteps := 1000000}) (disch := omega) only [cA, cB, lk, lkH, Dst.onT, Dst.onX, Dst.slot, setF, setH, mapF, mapH, initF, binE, unE, cnt, boundE, newsE, freshE, opE, rmH, blkQ, frz_us, Nat.reduceEqDiff, Nat.reduceLT, Nat.reduceAdd, ↓reduceIte, reduceCtorEq, Nat.reduceLeDiff])
  refine W_cond rfl (fun h => by simp at h) (fun _ => ?_)
  repeat (first | (refine W_seq ?_) | (refine W_reg ?_) | (refine W_regd ?_) | (refine W_block ?_) | (refine And.intro (by omega) ?_) | simp (config := {maxSteps := 1000000}) (disch := omega) only [cA, cB, lk, lkH, Dst.onT, Dst.onX, Dst.slot, setF, setH, mapF, mapH, initF, binE, unE, cnt, boundE, newsE, freshE, opE, rmH, blkQ, frz_us, Nat.reduceEqDiff, Nat.reduceLT, Nat.reduceAdd, ↓reduceIte, reduceCtorEq, Nat.reduceLeDiff])
  refine W_cond rfl (fun _ => ?_) (fun h => by simp at h)
  have e0 : (Int.toNat 0) = 0 := rfl
  repeat (first | (refine W_seq ?_) | (refine W_reg ?_) | (refine W_regd ?_) | (refine W_block ?_) | (refine And.intro (by omega) ?_) | simp (config := {maxSteps := 1000000}) (disch := omega) only [cA, cB, lk, lkH, Dst.onT, Dst.onX, Dst.slot, setF, setH, mapF, mapH, initF, binE, unE, cnt, boundE, newsE, freshE, opE, rmH, blkQ, frz_us, Nat.reduceEqDiff, Nat.reduceLT, Nat.reduceAdd, ↓reduceIte, reduceCtorEq, Nat.reduceLeDiff, e0])
  exact W_ret (RetP_1 (.imm rfl))
theorem slReverse1_calls (l : List UInt8) : PCalls Tryd.prog 80 [.sl 1 [.str l]] (.tup []) := by
  refine PCalls_of isslReverse (by simp [fnslReverse]) ?_
  unfold codeslReverse
  repeat (first | (refine W_seq ?_) | (refine W_reg ?_) | (refine W_regd ?_) | (refine W_block ?_) | (refine And.intro (by omega) ?_) | simp (config := {maxSteps := 1000000}) (disch := omega) only [cA, cB, lk, lkH, Dst.onT, Dst.onX, Dst.slot, setF, setH, mapF, mapH, initF, binE, unE, cnt, boundE, newsE, freshE, opE, rmH, blkQ, frz_us, Nat.reduceEqDiff, Nat.reduceLT, Nat.reduceAdd, ↓reduceIte, reduceCtorEq, Nat.reduceLeDiff])
  refine W_loop (σ := Unit) (fun _ => [(0, .sl 1 [.str l]), (2, .int .i64 0), (3, .int .i64 0)]) (fun _ => []) (fun _ => True) (fun _ => 0) () trivial ?_ rfl ?_
  · simp [subF, lk]
  · rintro ⟨⟩ _
    repeat (first | (refine W_seq ?_) | (refine W_reg ?_) | (refine W_regd ?_) | (refine W_block ?_) | (refine And.intro (by omega) ?_) | simp (config := {maxSteps := 1000000}) (disch := omega) only [cA, cB, lk, lkH, Dst.onT, Dst.onX, Dst.slot, setF, setH, mapF, mapH, initF, binE, unE, cnt, boundE, newsE, freshE, opE, rmH, blkQ, frz_us, Nat.reduceEqDiff, Nat.reduceLT, Nat.reduceAdd, ↓reduceIte, reduceCtorEq, Nat.reduceLeDiff])
    refine W_cond rfl (fun h => by simp at h) (fun _ => W_exit ?_)
    simp (config := {maxSteps := 1000000}) (disch := omega) only [cA, cB, lk, lkH, Dst.onT, Dst.onX, Dst.slot, setF, setH, mapF, mapH, initF, binE, unE, cnt, boundE, newsE, freshE, opE, rmH, blkQ, frz_us, Nat.reduceEqDiff, Nat.reduceLT, Nat.reduceAdd, ↓reduceIte, reduceCtorEq, Nat.reduceLeDiff]
    exact RetP_0 (.inl rfl)
theorem iscsmall_calls (d : Nat) (hd : d < 10) : PCalls Tryd.prog 106 [.int .i64 d] (.str [UInt8.ofNat (48 + d)]) := by
  refine PCalls_of isiscsmall (by simp [fniscsmall]) ?_
  unfold codeiscsmall
  generalize hL : ([48, 49, 50, 51, 52, 53, 54, 55, 56, 57, 97, 98, 99, 100, 101, 102, 103, 104, 105, 106, 107, 108, 109, 110, 111, 112, 113, 114, 115, 116, 117, 118, 119, 120, 121, 122] : List UInt8) = L
  have hl : L.length = 36 := by rw [← hL]; decide +kernel
  have hg : (L.take (d + 1)).drop d = [UInt8.ofNat (48 + d)] := by
    have : ∀ k : Fin 10, (L.take (k.val + 1)).drop k.val = [UInt8.ofNat (48 + k.val)] := by rw [← hL]; decide +kernel
    exact this ⟨d, hd⟩
  have d1 : decide ((d : Int) < 10) = true := decide_eq_true (by omega)
  repeat (first | (refine W_seq ?_) | (refine W_reg ?_) | (refine W_regd ?_) | (refine W_block ?_) | (refine And.intro (by omega) ?_) | simp (config := {maxSteps := 1000000}) (disch := omega) only [cA, cB, lk, lkH, Dst.onT, Dst.onX, Dst.slot, setF, setH, mapF, mapH, initF, binE, unE, cnt, boundE, newsE, freshE, opE, rmH, blkQ, frz_us, Nat.reduceEqDiff, Nat.reduceLT, Nat.reduceAdd, ↓reduceIte, reduceCtorEq, Nat.reduceLeDiff, d1])
  refine W_cond rfl (fun _ => ?_) (fun h => by cases h)
  have e1 : ((d : Int) + 1).toNat = d + 1 := by omega
  repeat (first | (refine W_seq ?_) | (refine W_reg ?_) | (refine W_regd ?_) | (refine W_block ?_) | (refine And.intro (by omega) ?_) | simp (config := {maxSteps := 1000000}) (disch := omega) only [cA, cB, lk, lkH, Dst.onT, Dst.onX, Dst.slot, setF, setH, mapF, mapH, initF, binE, unE, cnt, boundE, newsE, freshE, opE, rmH, blkQ, frz_us, Nat.reduceEqDiff, Nat.reduceLT, Nat.reduceAdd, ↓reduceIte, reduceCtorEq, Nat.reduceLeDiff, hl, e1, hg])
  exact W_ret (RetP_1 (.imm rfl))
theorem iscFormatInt_calls (d : Nat) (hd : d < 10) : PCalls Tryd.prog 100 [.int .i64 d, .int .i64 10] (.str [UInt8.ofNat (48 + d)]) := by
  have c := iscsmall_calls d hd
  refine PCalls_of isiscFormatInt (by simp [fniscFormatInt]) ?_
  unfold codeiscFormatInt
  have d1 : decide ((0 : Int) ≤ d) = true := decide_eq_true (by omega)
  have d2 : decide ((d : Int) < 100) = true := decide_eq_true (by omega)
  repeat (first | (refine W_seq ?_) | (refine W_reg ?_) | (refine W_regd ?_) | (refine W_block ?_) | (refine And.intro (by omega) ?_) | simp (config := {maxSteps := 1000000}) (disch := omega) only [cA, cB, lk, lkH, Dst.onT, Dst.onX, Dst.slot, setF, setH, mapF, mapH, initF, binE, unE, cnt, boundE, newsE, freshE, opE, rmH, blkQ, frz_us, Nat.reduceEqDiff, Nat.reduceLT, Nat.reduceAdd, ↓reduceIte, reduceCtorEq, Nat.reduceLeDiff])
  refine W_cond rfl (fun _ => ?_) (fun h => by simp at h)
  repeat (first | (refine W_seq ?_) | (refine W_reg ?_) | (refine W_regd ?_) | (refine W_block ?_) | (refine And.intro (by omega) ?_) | simp (config := {maxSteps := 1000000}) (disch := omega) only [cA, cB, lk, lkH, Dst.onT, Dst.onX, Dst.slot, setF, setH, mapF, mapH, initF, binE, unE, cnt, boundE, newsE, freshE, opE, rmH, blkQ, frz_us, Nat.reduceEqDiff, Nat.reduceLT, Nat.reduceAdd, ↓reduceIte, reduceCtorEq, Nat.reduceLeDiff, d1, d2])
  refine W_cond rfl (fun _ => ?_) (fun h => by cases h)
  repeat (first | (refine W_seq ?_) | (refine W_reg ?_) | (refine W_regd ?_) | (refine W_block ?_) | (refine And.intro (by omega) ?_) | simp (config := {maxSteps := 1000000}) (disch := omega) only [cA, cB, lk, lkH, Dst.onT, Dst.onX, Dst.slot, setF, setH, mapF, mapH, initF, binE, unE, cnt, boundE, newsE, freshE, opE, rmH, blkQ, frz_us, Nat.reduceEqDiff, Nat.reduceLT, Nat.reduceAdd, ↓reduceIte, reduceCtorEq, Nat.reduceLeDiff] | (refine callC_pure (c) rfl ?_) | exact W_ret (RetP_1 (.imm rfl)) | exact W_ret (RetP_c rfl rfl rfl (.imm rfl)))
theorem iscItoa_calls (d : Nat) (hd : d < 10) : PCalls Tryd.prog 92 [.int .i64 d] (.str [UInt8.ofNat (48 + d)]) := by
  have c := iscFormatInt_calls d hd
  refine PCalls_of isiscItoa (by simp [fniscItoa]) ?_
  unfold codeiscItoa
  repeat (first | (refine W_seq ?_) | (refine W_reg ?_) | (refine W_regd ?_) | (refine W_block ?_) | (refine And.intro (by omega) ?_) | simp (config := {maxSteps := 1000000}) (disch := omega) only [cA, cB, lk, lkH, Dst.onT, Dst.onX, Dst.slot, setF, setH, mapF, mapH, initF, binE, unE, cnt, boundE, newsE, freshE, opE, rmH, blkQ, frz_us, Nat.reduceEqDiff, Nat.reduceLT, Nat.reduceAdd, ↓reduceIte, reduceCtorEq, Nat.reduceLeDiff] | (refine callC_pure (c) rfl ?_) | exact W_ret (RetP_1 (.imm rfl)) | exact W_ret (RetP_c rfl rfl rfl (.imm rfl)))
theorem scItoa_calls (d : Nat) (hd : d < 10) : PCalls Tryd.prog 78 [.int .i64 d] (.str [UInt8.ofNat (48 + d)]) := by
  have c := iscItoa_calls d hd
  refine PCalls_of isscItoa (by simp [fnscItoa]) ?_
  unfold codescItoa
  repeat (first | (refine W_seq ?_) | (refine W_reg ?_) | (refine W_regd ?_) | (refine W_block ?_) | (refine And.intro (by omega) ?_) | simp (config := {maxSteps := 1000000}) (disch := omega) only [cA, cB, lk, lkH, Dst.onT, Dst.onX, Dst.slot, setF, setH, mapF, mapH, initF, binE, unE, cnt, boundE, newsE, freshE, opE, rmH, blkQ, frz_us, Nat.reduceEqDiff, Nat.reduceLT, Nat.reduceAdd, ↓reduceIte, reduceCtorEq, Nat.reduceLeDiff] | (refine callC_pure (c) rfl ?_) | exact W_ret (RetP_1 (.imm rfl)) | exact W_ret (RetP_c rfl rfl rfl (.imm rfl)))
theorem nFormat1_calls (d : Nat) (h0 : 0 < d) (hd : d < 10) : PCalls Tryd.prog 60 [.sl 1 (us (limbs d))] (.str [UInt8.ofNat (48 + d)]) := by
  have hl : limbs d = [d] := limbs_one (by omega) (by omega)
  have hll : (limbs d).length = 1 := by rw [hl]; rfl
  have c1 := nValue_calls (limbs d) (by omega) (lim_limbs _)
  rw [vn_limbs] at c1
  have c2 := nShort_calls d 1000000000 (by omega) (by omega) (by omega)
  rw [Nat.div_eq_of_lt (show d < 1000000000 by omega), Nat.mod_eq_of_lt (show d < 1000000000 by omega)] at c2
  have c3 := scItoa_calls d hd
  generalize hs : [UInt8.ofNat (48 + d)] = s at *
  have c4 := slReverse1_calls s
  have c5 := strJoin1_calls s
  refine PCalls_of isnFormat (by simp [fnnFormat]) ?_
  unfold codenFormat
  repeat (first | (refine W_seq ?_) | (refine W_reg ?_) | (refine W_regd ?_) | (refine W_block ?_) | (refine And.intro (by omega) ?_) | simp (config := {maxSteps := 1000000}) (disch := omega) only [cA, cB, lk, lkH, Dst.onT, Dst.onX, Dst.slot, setF, setH, mapF, mapH, initF, binE, unE, cnt, boundE, newsE, freshE, opE, rmH, blkQ, frz_us, Nat.reduceEqDiff, Nat.reduceLT, Nat.reduceAdd, ↓reduceIte, reduceCtorEq, Nat.reduceLeDiff, us_length, hll] | (refine callC_pure (c1) rfl ?_) | exact W_ret (RetP_1 (.imm rfl)) | exact W_ret (RetP_c rfl rfl rfl (.imm rfl)))
  refine W_cond rfl (fun h => by simp at h) (fun _ => W_skip ?_)
  repeat (first | (refine W_seq ?_) | (refine W_reg ?_) | (refine W_regd ?_) | (refine W_block ?_) | (refine And.intro (by omega) ?_) | simp (config := {maxSteps := 1000000}) (disch := omega) only [cA, cB, lk, lkH, Dst.onT, Dst.onX, Dst.slot, setF, setH, mapF, mapH, initF, binE, unE, cnt, boundE, newsE, freshE, opE, rmH, blkQ, frz_us, Nat.reduceEqDiff, Nat.reduceLT, Nat.reduceAdd, ↓reduceIte, reduceCtorEq, Nat.reduceLeDiff])
  refine W_loop (σ := Bool) (fun b => if b then [(0, .sl 1 (us (limbs d))), (3, .nils)] else [(0, .sl 1 (us (limbs 0))), (3, .osl 1 35 0 1)]) (fun b => if b then [] else [(35, [.str s])]) (fun _ => True) (fun b => if b then 1 else 0) true trivial ?_ rfl ?_
  · simp [subF, lk]
  · rintro (_ | _) _
    · have h00 : (limbs 0).length = 0 := by rw [limbs_zero]; rfl
      simp only [Bool.false_eq_true, if_false]
      repeat (first | (refine W_seq ?_) | (refine W_reg ?_) | (refine W_regd ?_) | (refine W_block ?_) | (refine And.intro (by omega) ?_) | simp (config := {maxSteps := 1000000}) (disch := omega) only [cA, cB, lk, lkH, Dst.onT, Dst.onX, Dst.slot, setF, setH, mapF, mapH, initF, binE, unE, cnt, boundE, newsE, freshE, opE, rmH, blkQ, frz_us, Nat.reduceEqDiff, Nat.reduceLT, Nat.reduceAdd, ↓reduceIte, reduceCtorEq, Nat.reduceLeDiff, us_length, h00])
      refine W_cond rfl (fun h => by simp at h) (fun _ => W_exit ?_)
      repeat (first | (refine W_seq ?_) | (refine W_reg ?_) | (refine W_regd ?_) | (refine W_block ?_) | (refine And.intro (by omega) ?_) | simp (config := {maxSteps := 1000000}) (disch := omega) only [cA, cB, lk, lkH, Dst.onT, Dst.onX, Dst.slot, setF, setH, mapF, mapH, initF, binE, unE, cnt, boundE, newsE, freshE, opE, rmH, blkQ, frz_us, Nat.reduceEqDiff, Nat.reduceLT, Nat.reduceAdd, ↓reduceIte, reduceCtorEq, Nat.reduceLeDiff])
      refine callC_freeze rfl 35 (cells := [.str s]) (by simp [lkH]) (by simp [DV.rf]) ?_
      have e : (1 : Nat) * 1 = 1 := rfl
      simp (config := {maxSteps := 1000000}) (disch := omega) only [cA, cB, lk, lkH, Dst.onT, Dst.onX, Dst.slot, setF, setH, mapF, mapH, initF, binE, unE, cnt, boundE, newsE, freshE, opE, rmH, blkQ, frz_us, Nat.reduceEqDiff, Nat.reduceLT, Nat.reduceAdd, ↓reduceIte, reduceCtorEq, Nat.reduceLeDiff, List.drop_zero, List.take_succ_cons, List.take_zero, e]
      refine callC_pure c4 rfl ?_
      repeat (first | (refine W_seq ?_) | (refine W_reg ?_) | (refine W_regd ?_) | (refine W_block ?_) | (refine And.intro (by omega) ?_) | simp (config := {maxSteps := 1000000}) (disch := omega) only [cA, cB, lk, lkH, Dst.onT, Dst.onX, Dst.slot, setF, setH, mapF, mapH, initF, binE, unE, cnt, boundE, newsE, freshE, opE, rmH, blkQ, frz_us, Nat.reduceEqDiff, Nat.reduceLT, Nat.reduceAdd, ↓reduceIte, reduceCtorEq, Nat.reduceLeDiff] | (refine callC_pure (c5) rfl ?_) | exact W_ret (RetP_1 (.imm rfl)) | exact W_ret (RetP_c rfl rfl rfl (.imm rfl)))
    · simp only [if_true]
      repeat (first | (refine W_seq ?_) | (refine W_reg ?_) | (refine W_regd ?_) | (refine W_block ?_) | (refine And.intro (by omega) ?_) | simp (config := {maxSteps := 1000000}) (disch := omega) only [cA, cB, lk, lkH, Dst.onT, Dst.onX, Dst.slot, setF, setH, mapF, mapH, initF, binE, unE, cnt, boundE, newsE, freshE, opE, rmH, blkQ, frz_us, Nat.reduceEqDiff, Nat.reduceLT, Nat.reduceAdd, ↓reduceIte, reduceCtorEq, Nat.reduceLeDiff, us_length, hll])
      refine W_cond rfl (fun _ => W_skip ?_) (fun h => by simp at h)
      repeat (first | (refine W_seq ?_) | (refine W_reg ?_) | (refine W_regd ?_) | (refine W_block ?_) | (refine And.intro (by omega) ?_) | simp (config := {maxSteps := 1000000}) (disch := omega) only [cA, cB, lk, lkH, Dst.onT, Dst.onX, Dst.slot, setF, setH, mapF, mapH, initF, binE, unE, cnt, boundE, newsE, freshE, opE, rmH, blkQ, frz_us, Nat.reduceEqDiff, Nat.reduceLT, Nat.reduceAdd, ↓reduceIte, reduceCtorEq, Nat.reduceLeDiff] | (refine callC_pure (c2) rfl ?_) | (refine callC_pure (c3) rfl ?_) | exact W_ret (RetP_1 (.imm rfl)) | exact W_ret (RetP_c rfl rfl rfl (.imm rfl)))
      have h00 : (limbs 0).length = 0 := by rw [limbs_zero]; rfl
      repeat (first | (refine W_seq ?_) | (refine W_reg ?_) | (refine W_regd ?_) | (refine W_block ?_) | (refine And.intro (by omega) ?_) | simp (config := {maxSteps := 1000000}) (disch := omega) only [cA, cB, lk, lkH, Dst.onT, Dst.onX, Dst.slot, setF, setH, mapF, mapH, initF, binE, unE, cnt, boundE, newsE, freshE, opE, rmH, blkQ, frz_us, Nat.reduceEqDiff, Nat.reduceLT, Nat.reduceAdd, ↓reduceIte, reduceCtorEq, Nat.reduceLeDiff, us_length, h00])
      refine W_cond rfl (fun h => by simp at h) (fun _ => W_skip ?_)
      repeat (first | (refine W_seq ?_) | (refine W_reg ?_) | (refine W_regd ?_) | (refine W_block ?_) | (refine And.intro (by omega) ?_) | simp (config := {maxSteps := 1000000}) (disch := omega) only [cA, cB, lk, lkH, Dst.onT, Dst.onX, Dst.slot, setF, setH, mapF, mapH, initF, binE, unE, cnt, boundE, newsE, freshE, opE, rmH, blkQ, frz_us, Nat.reduceEqDiff, Nat.reduceLT, Nat.reduceAdd, ↓reduceIte, reduceCtorEq, Nat.reduceLeDiff, laid_str, newsE, cS, DV.rf, List.mem_singleton, forall_eq, nbnFormat])
      exact ⟨false, by decide, by simp [subF, lk], by simp⟩
theorem iFormat1_calls (z : Int) (h0 : z ≠ 0) (hd : z.natAbs < 10) : PCalls Tryd.prog 32 [I z] (.str (if z < 0 then [45, UInt8.ofNat (48 + z.natAbs)] else [UInt8.ofNat (48 + z.natAbs)])) := by
  have hl : (limbs z.natAbs).length ≤ 1 := limbs_len.2 (by omega)
  have cv := i_value_calls (decide (z < 0)) (limbs z.natAbs) (by omega) (lim_limbs _)
  have cg := iSign_calls (decide (z < 0)) (limbs z.natAbs) (by omega) (lim_limbs _)
  rw [iv_I] at cv cg
  have cf := nFormat1_calls z.natAbs (by omega) hd
  refine PCalls_of isiFormat (by simp [fniFormat]) ?_
  unfold codeiFormat
  repeat (first | (refine W_seq ?_) | (refine W_reg ?_) | (refine W_regd ?_) | (refine W_block ?_) | (refine And.intro (by omega) ?_) | simp (config := {maxSteps := 1000000}) (disch := omega) only [cA, cB, lk, lkH, Dst.onT, Dst.onX, Dst.slot, setF, setH, mapF, mapH, initF, binE, unE, cnt, boundE, newsE, freshE, opE, rmH, blkQ, frz_us, Nat.reduceEqDiff, Nat.reduceLT, Nat.reduceAdd, ↓reduceIte, reduceCtorEq, Nat.reduceLeDiff, I, cS, nbiFormat] | (refine callC_pure (cv) rfl ?_) | (refine callC_pure (cf) rfl ?_) | (refine callC_pure (cg) rfl ?_) | exact W_ret (RetP_1 (.imm rfl)) | exact W_ret (RetP_c rfl rfl rfl (.imm rfl)))
  by_cases hz : z < 0
  · have ds : decide (z.sign < 0) = true := by rw [Int.sign_eq_neg_one_of_neg hz]; decide
    rw [ds, if_pos hz]
    refine W_cond rfl (fun _ => ?_) (fun h => by cases h)
    have e : [(45 : UInt8)] ++ [UInt8.ofNat (48 + z.natAbs)] = [45, UInt8.ofNat (48 + z.natAbs)] := rfl
    repeat (first | (refine W_seq ?_) | (refine W_reg ?_) | (refine W_regd ?_) | (refine W_block ?_) | (refine And.intro (by omega) ?_) | simp (config := {maxSteps := 1000000}) (disch := omega) only [cA, cB, lk, lkH, Dst.onT, Dst.onX, Dst.slot, setF, setH, mapF, mapH, initF, binE, unE, cnt, boundE, newsE, freshE, opE, rmH, blkQ, frz_us, Nat.reduceEqDiff, Nat.reduceLT, Nat.reduceAdd, ↓reduceIte, reduceCtorEq, Nat.reduceLeDiff, e])
    exact W_ret (RetP_1 (.imm rfl))
  · have ds : decide (z.sign < 0) = false := by rw [Int.sign_eq_one_of_pos (by omega)]; decide
    rw [ds, if_neg hz]
    refine W_cond rfl (fun h => by cases h) (fun _ => W_skip ?_)
    repeat (first | (refine W_seq ?_) | (refine W_reg ?_) | (refine W_regd ?_) | (refine W_block ?_) | (refine And.intro (by omega) ?_) | simp (config := {maxSteps := 1000000}) (disch := omega) only [cA, cB, lk, lkH, Dst.onT, Dst.onX, Dst.slot, setF, setH, mapF, mapH, initF, binE, unE, cnt, boundE, newsE, freshE, opE, rmH, blkQ, frz_us, Nat.reduceEqDiff, Nat.reduceLT, Nat.reduceAdd, ↓reduceIte, reduceCtorEq, Nat.reduceLeDiff])
    exact W_ret (RetP_1 (.imm rfl))
end Go.Proofs.YtakchfljhihdmaaDoor
namespace Go.Proofs.YtakchfljhihdmaaDoor
open Go Go.Dat Go.Proofs Nat32

theorem limbs_2_63 : limbs 9223372036854775808 = [0, 2147483648] := by
  rw [limbs_pos (by decide), show 9223372036854775808 % 4294967296 = 0 from rfl, show 9223372036854775808 / 4294967296 = 2147483648 from rfl, limbs_one (by decide) (by decide)]
theorem I263 : I (-9223372036854775808) = .agg [.bool true, .sl 1 [.int .u32 0, .int .u32 2147483648]] := by
  unfold I
  rw [show (-9223372036854775808 : Int).natAbs = 9223372036854775808 from rfl, limbs_2_63]; rfl
theorem li_awake_calls : PCalls Tryd.prog 11 [] (.bool true) := by
  have c1 := iFromInt_calls (-7) (by decide) (by decide)
  have c2 := iFromInt_calls 2 (by decide) (by decide)
  have l7 : (limbs (-7 : Int).natAbs).length ≤ 1 := limbs_len.2 (by decide)
  have l2 : (limbs (2 : Int).natAbs).length ≤ 1 := limbs_len.2 (by decide)
  have c3 := iDiv_calls (decide ((-7 : Int) < 0)) (limbs (-7 : Int).natAbs) (decide ((2 : Int) < 0)) (limbs (2 : Int).natAbs) (by omega) (by omega) (lim_limbs _) (lim_limbs _)
  rw [iv_I, iv_I, show (-7 : Int) / 2 = -4 from rfl, show imod (-7) 2 = 1 from rfl, show decide (¬ (2 : Int) = 0) = true from rfl] at c3
  have c4 := iFormat1_calls (-4) (by decide) (by decide)
  have c5 := iFormat1_calls 1 (by decide) (by decide)
  have f4 : (if (-4 : Int) < 0 then [45, UInt8.ofNat (48 + (-4 : Int).natAbs)] else [UInt8.ofNat (48 + (-4 : Int).natAbs)]) = [45, 52] := by decide
  have f5 : (if (1 : Int) < 0 then [45, UInt8.ofNat (48 + (1 : Int).natAbs)] else [UInt8.ofNat (48 + (1 : Int).natAbs)]) = [49] := by decide
  rw [f4] at c4
  rw [f5] at c5
  have c6 := iFromInt_calls (-9223372036854775808) (by decide) (by decide)
  have l8 : (limbs (-9223372036854775808 : Int).natAbs).length ≤ 2 := limbs_len.2 (by decide)
  have c7 := sameI (-9223372036854775808) (-9223372036854775808) rfl (by omega)
  rw [I263] at c6 c7
  refine PCalls_of isli_awake (by simp [fnli_awake]) ?_
  unfold codeli_awake
  clear l7 l2 l8 f4 f5
  repeat (first | (refine W_seq ?_) | (refine W_reg ?_) | (refine W_regd ?_) | (refine W_block ?_) | (refine And.intro (by omega) ?_) | simp (config := {maxSteps := 1000000}) (disch := omega) only [cA, cB, lk, lkH, Dst.onT, Dst.onX, Dst.slot, setF, setH, mapF, mapH, initF, binE, unE, cnt, boundE, newsE, freshE, opE, rmH, blkQ, frz_us, Nat.reduceEqDiff, Nat.reduceLT, Nat.reduceAdd, ↓reduceIte, reduceCtorEq, Nat.reduceLeDiff, I, cS, nbli_awake, usrf2, decide_true] | (refine callC_pure (c1) rfl ?_) | (refine callC_pure (c2) rfl ?_) | (refine callC_pure (c3) rfl ?_) | (refine callC_pure (c4) rfl ?_) | (refine callC_pure (c5) rfl ?_) | (refine callC_pure (c6) rfl ?_) | (refine callC_pure (c7) rfl ?_) | exact W_ret (RetP_1 (.imm rfl)) | exact W_ret (RetP_c rfl rfl rfl (.imm rfl)))
end Go.Proofs.YtakchfljhihdmaaDoor
namespace Go.Proofs.YtakchfljhihdmaaDoor
open Go Go.Dat Go.Proofs Nat32

theorem li_light_calls (neg : Bool) (a : List Nat) : PCalls Tryd.prog 18 [X neg a] (.bool (decide (a.length ≤ 10))) := by
  refine PCalls_of isli_light (by simp [fnli_light]) ?_
  unfold codeli_light
  have hd : decide ((a.length : Int) ≤ 10) = decide (a.length ≤ 10) := by rw [decide_eq_decide]; omega
  repeat (first | (refine W_seq ?_) | (refine W_reg ?_) | (refine W_regd ?_) | (refine W_block ?_) | (refine And.intro (by omega) ?_) | simp (config := {maxSteps := 1000000}) (disch := omega) only [cA, cB, lk, lkH, Dst.onT, Dst.onX, Dst.slot, setF, setH, mapF, mapH, initF, binE, unE, cnt, boundE, newsE, freshE, opE, rmH, blkQ, frz_us, Nat.reduceEqDiff, Nat.reduceLT, Nat.reduceAdd, ↓reduceIte, reduceCtorEq, Nat.reduceLeDiff, X, cS, nbli_light, us_length, hd])
  exact W_ret (RetP_1 (.imm rfl))
def fairI (n1 : Bool) (a : List Nat) (n2 : Bool) (b : List Nat) (n3 : Bool) (c : List Nat) : Bool := decide (a.length ≤ 10) && decide (b.length ≤ 10) && decide (c.length ≤ 10) && vldI n1 a && vldI n2 b && vldI n3 c
theorem fairI_spec {n1 : Bool} {a : List Nat} {n2 : Bool} {b : List Nat} {n3 : Bool} {c : List Nat} (h : fairI n1 a n2 b n3 c = true) : a.length ≤ 10 ∧ b.length ≤ 10 ∧ c.length ≤ 10 ∧ vldI n1 a = true ∧ vldI n2 b = true ∧ vldI n3 c = true := by
  unfold fairI at h
  simp only [Bool.and_eq_true, decide_eq_true_eq] at h
  obtain ⟨⟨⟨⟨⟨h1, h2⟩, h3⟩, h4⟩, h5⟩, h6⟩ := h
  exact ⟨h1, h2, h3, h4, h5, h6⟩
theorem li_fair_calls (n1 : Bool) (a : List Nat) (n2 : Bool) (b : List Nat) (n3 : Bool) (c : List Nat) : PCalls Tryd.prog 10 [X n1 a, X n2 b, X n3 c] (.bool (fairI n1 a n2 b n3 c)) := by
  have c1 := li_light_calls n1 a
  have c2 := li_light_calls n2 b
  have c3 := li_light_calls n3 c
  refine PCalls_of isli_fair (by simp [fnli_fair]) ?_
  unfold codeli_fair fairI
  by_cases h1 : a.length ≤ 10
  · rw [decide_eq_true h1] at c1 ⊢
    by_cases h2 : b.length ≤ 10
    · rw [decide_eq_true h2] at c2 ⊢
      by_cases h3 : c.length ≤ 10
      · rw [decide_eq_true h3] at c3 ⊢
        have v1 := sValid_calls n1 a (by omega)
        have v2 := sValid_calls n2 b (by omega)
        have v3 := sValid_calls n3 c (by omega)
        generalize vldI n1 a = p1 at *
        generalize vldI n2 b = p2 at *
        generalize vldI n3 c = p3 at *
        simp only [Bool.true_and]
        repeat (first | (refine W_seq ?_) | (refine W_reg ?_) | (refine W_regd ?_) | (refine W_block ?_) | (refine And.intro (by omega) ?_) | simp (config := {maxSteps := 1000000}) (disch := omega) only [cA, cB, lk, lkH, Dst.onT, Dst.onX, Dst.slot, setF, setH, mapF, mapH, initF, binE, unE, cnt, boundE, newsE, freshE, opE, rmH, blkQ, frz_us, Nat.reduceEqDiff, Nat.reduceLT, Nat.reduceAdd, ↓reduceIte, reduceCtorEq, Nat.reduceLeDiff, X, cS, nbli_fair] | (refine callC_pure (c1) rfl ?_) | (refine callC_pure (c2) rfl ?_) | (refine callC_pure (c3) rfl ?_) | (refine callC_pure (v1) rfl ?_) | (refine callC_pure (v2) rfl ?_) | (refine callC_pure (v3) rfl ?_) | exact W_ret (RetP_1 (.imm rfl)) | exact W_ret (RetP_c rfl rfl rfl (.imm rfl)))
        cases p1
        · simp only [Bool.false_and]
          repeat (first | (refine W_seq ?_) | (refine W_reg ?_) | (refine W_regd ?_) | (refine W_block ?_) | (refine And.intro (by omega) ?_) | simp (config := {maxSteps := 1000000}) (disch := omega) only [cA, cB, lk, lkH, Dst.onT, Dst.onX, Dst.slot, setF, setH, mapF, mapH, initF, binE, unE, cnt, boundE, newsE, freshE, opE, rmH, blkQ, frz_us, Nat.reduceEqDiff, Nat.reduceLT, Nat.reduceAdd, ↓reduceIte, reduceCtorEq, Nat.reduceLeDiff, X, cS, nbli_fair] | (refine callC_pure (c1) rfl ?_) | (refine callC_pure (c2) rfl ?_) | (refine callC_pure (c3) rfl ?_) | (refine callC_pure (v1) rfl ?_) | (refine callC_pure (v2) rfl ?_) | (refine callC_pure (v3) rfl ?_) | exact W_ret (RetP_1 (.imm rfl)) | exact W_ret (RetP_c rfl rfl rfl (.imm rfl)))
        · simp only [Bool.true_and]
          repeat (first | (refine W_seq ?_) | (refine W_reg ?_) | (refine W_regd ?_) | (refine W_block ?_) | (refine And.intro (by omega) ?_) | simp (config := {maxSteps := 1000000}) (disch := omega) only [cA, cB, lk, lkH, Dst.onT, Dst.onX, Dst.slot, setF, setH, mapF, mapH, initF, binE, unE, cnt, boundE, newsE, freshE, opE, rmH, blkQ, frz_us, Nat.reduceEqDiff, Nat.reduceLT, Nat.reduceAdd, ↓reduceIte, reduceCtorEq, Nat.reduceLeDiff, X, cS, nbli_fair] | (refine callC_pure (c1) rfl ?_) | (refine callC_pure (c2) rfl ?_) | (refine callC_pure (c3) rfl ?_) | (refine callC_pure (v1) rfl ?_) | (refine callC_pure (v2) rfl ?_) | (refine callC_pure (v3) rfl ?_) | exact W_ret (RetP_1 (.imm rfl)) | exact W_ret (RetP_c rfl rfl rfl (.imm rfl)))
          cases p2
          · simp only [Bool.false_and]
            repeat (first | (refine W_seq ?_) | (refine W_reg ?_) | (refine W_regd ?_) | (refine W_block ?_) | (refine And.intro (by omega) ?_) | simp (config := {maxSteps := 1000000}) (disch := omega) only [cA, cB, lk, lkH, Dst.onT, Dst.onX, Dst.slot, setF, setH, mapF, mapH, initF, binE, unE, cnt, boundE, newsE, freshE, opE, rmH, blkQ, frz_us, Nat.reduceEqDiff, Nat.reduceLT, Nat.reduceAdd, ↓reduceIte, reduceCtorEq, Nat.reduceLeDiff, X, cS, nbli_fair] | (refine callC_pure (c1) rfl ?_) | (refine callC_pure (c2) rfl ?_) | (refine callC_pure (c3) rfl ?_) | (refine callC_pure (v1) rfl ?_) | (refine callC_pure (v2) rfl ?_) | (refine callC_pure (v3) rfl ?_) | exact W_ret (RetP_1 (.imm rfl)) | exact W_ret (RetP_c rfl rfl rfl (.imm rfl)))
          · simp only [Bool.true_and]
            repeat (first | (refine W_seq ?_) | (refine W_reg ?_) | (refine W_regd ?_) | (refine W_block ?_) | (refine And.intro (by omega) ?_) | simp (config := {maxSteps := 1000000}) (disch := omega) only [cA, cB, lk, lkH, Dst.onT, Dst.onX, Dst.slot, setF, setH, mapF, mapH, initF, binE, unE, cnt, boundE, newsE, freshE, opE, rmH, blkQ, frz_us, Nat.reduceEqDiff, Nat.reduceLT, Nat.reduceAdd, ↓reduceIte, reduceCtorEq, Nat.reduceLeDiff, X, cS, nbli_fair] | (refine callC_pure (c1) rfl ?_) | (refine callC_pure (c2) rfl ?_) | (refine callC_pure (c3) rfl ?_) | (refine callC_pure (v1) rfl ?_) | (refine callC_pure (v2) rfl ?_) | (refine callC_pure (v3) rfl ?_) | exact W_ret (RetP_1 (.imm rfl)) | exact W_ret (RetP_c rfl rfl rfl (.imm rfl)))
      · rw [decide_eq_false h3] at c3 ⊢
        simp only [Bool.true_and, Bool.false_and]
        repeat (first | (refine W_seq ?_) | (refine W_reg ?_) | (refine W_regd ?_) | (refine W_block ?_) | (refine And.intro (by omega) ?_) | simp (config := {maxSteps := 1000000}) (disch := omega) only [cA, cB, lk, lkH, Dst.onT, Dst.onX, Dst.slot, setF, setH, mapF, mapH, initF, binE, unE, cnt, boundE, newsE, freshE, opE, rmH, blkQ, frz_us, Nat.reduceEqDiff, Nat.reduceLT, Nat.reduceAdd, ↓reduceIte, reduceCtorEq, Nat.reduceLeDiff, X, cS, nbli_fair] | (refine callC_pure (c1) rfl ?_) | (refine callC_pure (c2) rfl ?_) | (refine callC_pure (c3) rfl ?_) | exact W_ret (RetP_1 (.imm rfl)) | exact W_ret (RetP_c rfl rfl rfl (.imm rfl)))
    · rw [decide_eq_false h2] at c2 ⊢
      simp only [Bool.true_and, Bool.false_and]
      repeat (first | (refine W_seq ?_) | (refine W_reg ?_) | (refine W_regd ?_) | (refine W_block ?_) | (refine And.intro (by omega) ?_) | simp (config := {maxSteps := 1000000}) (disch := omega) only [cA, cB, lk, lkH, Dst.onT, Dst.onX, Dst.slot, setF, setH, mapF, mapH, initF, binE, unE, cnt, boundE, newsE, freshE, opE, rmH, blkQ, frz_us, Nat.reduceEqDiff, Nat.reduceLT, Nat.reduceAdd, ↓reduceIte, reduceCtorEq, Nat.reduceLeDiff, X, cS, nbli_fair] | (refine callC_pure (c1) rfl ?_) | (refine callC_pure (c2) rfl ?_) | (refine callC_pure (c3) rfl ?_) | exact W_ret (RetP_1 (.imm rfl)) | exact W_ret (RetP_c rfl rfl rfl (.imm rfl)))
  · rw [decide_eq_false h1] at c1 ⊢
    simp only [Bool.false_and]
    repeat (first | (refine W_seq ?_) | (refine W_reg ?_) | (refine W_regd ?_) | (refine W_block ?_) | (refine And.intro (by omega) ?_) | simp (config := {maxSteps := 1000000}) (disch := omega) only [cA, cB, lk, lkH, Dst.onT, Dst.onX, Dst.slot, setF, setH, mapF, mapH, initF, binE, unE, cnt, boundE, newsE, freshE, opE, rmH, blkQ, frz_us, Nat.reduceEqDiff, Nat.reduceLT, Nat.reduceAdd, ↓reduceIte, reduceCtorEq, Nat.reduceLeDiff, X, cS, nbli_fair] | (refine callC_pure (c1) rfl ?_) | (refine callC_pure (c2) rfl ?_) | (refine callC_pure (c3) rfl ?_) | exact W_ret (RetP_1 (.imm rfl)) | exact W_ret (RetP_c rfl rfl rfl (.imm rfl)))

/-! ### The functions at integers in their only representation -/
def il (z : Int) : Nat := (limbs z.natAbs).length
theorem il_add {x y : Int} {m : Nat} (h1 : il x ≤ m) (h2 : il y ≤ m) : il (x + y) ≤ m + 1 := Nat.le_trans (len_mono (show _ ≤ x.natAbs + y.natAbs by omega)) (len_add h1 h2)
theorem il_sub {x y : Int} {m : Nat} (h1 : il x ≤ m) (h2 : il y ≤ m) : il (x - y) ≤ m + 1 := Nat.le_trans (len_mono (show _ ≤ x.natAbs + y.natAbs by omega)) (len_add h1 h2)
theorem il_neg (x : Int) : il (-x) = il x := by unfold il; rw [Int.natAbs_neg]
theorem il_mul {x y : Int} {m n : Nat} (h1 : il x ≤ m) (h2 : il y ≤ n) : il (x * y) ≤ m + n := by unfold il; rw [Int.natAbs_mul]; exact len_mul h1 h2
theorem iAddL (x y : Int) (h1 : il x ≤ 9000) (h2 : il y ≤ 9000) : PCalls Tryd.prog 13 [I x, I y] (I (x + y)) := by
  have := iAdd_calls (decide (x < 0)) (limbs x.natAbs) (decide (y < 0)) (limbs y.natAbs) (Nat.le_trans h1 (by decide)) (Nat.le_trans h2 (by decide)) (lim_limbs _) (lim_limbs _)
  rwa [iv_I, iv_I] at this
theorem iSubL (x y : Int) (h1 : il x ≤ 9000) (h2 : il y ≤ 9000) : PCalls Tryd.prog 17 [I x, I y] (I (x - y)) := by
  have := iSub_calls (decide (x < 0)) (limbs x.natAbs) (decide (y < 0)) (limbs y.natAbs) (Nat.le_trans h1 (by decide)) (Nat.le_trans h2 (by decide)) (lim_limbs _) (lim_limbs _)
  rwa [iv_I, iv_I] at this
theorem iMulL (x y : Int) (h1 : il x ≤ 9000) (h2 : il y ≤ 9000) : PCalls Tryd.prog 14 [I x, I y] (I (x * y)) := by
  have := iMul_calls (decide (x < 0)) (limbs x.natAbs) (decide (y < 0)) (limbs y.natAbs) (Nat.le_trans h1 (by decide)) (Nat.le_trans h2 (by decide)) (lim_limbs _) (lim_limbs _)
  rwa [iv_I, iv_I] at this
theorem iDivL (x y : Int) (h1 : il x ≤ 9000) (h2 : il y ≤ 9000) : PCalls Tryd.prog 29 [I x, I y] (.tup [I (x / y), I (imod x y), .bool (decide (¬ y = 0))]) := by
  have := iDiv_calls (decide (x < 0)) (limbs x.natAbs) (decide (y < 0)) (limbs y.natAbs) (Nat.le_trans h1 (by decide)) (Nat.le_trans h2 (by decide)) (lim_limbs _) (lim_limbs _)
  rwa [iv_I, iv_I] at this
theorem iNegL (x : Int) (h1 : il x ≤ 9000) : PCalls Tryd.prog 16 [I x] (I (-x)) := by
  have := iNeg_calls (decide (x < 0)) (limbs x.natAbs) (Nat.le_trans h1 (by decide)) (lim_limbs _)
  rwa [iv_I] at this
theorem iSignL (x : Int) (h1 : il x ≤ 9000) : PCalls Tryd.prog 15 [I x] (.int .i64 x.sign) := by
  have := iSign_calls (decide (x < 0)) (limbs x.natAbs) (Nat.le_trans h1 (by decide)) (lim_limbs _)
  rwa [iv_I] at this
theorem iCompareL (x y : Int) (h1 : il x ≤ 9000) (h2 : il y ≤ 9000) : PCalls Tryd.prog 27 [I x, I y] (.int .i64 (cmpI x y)) := by
  have := iCompare_calls (decide (x < 0)) (limbs x.natAbs) (decide (y < 0)) (limbs y.natAbs) (Nat.le_trans h1 (by decide)) (Nat.le_trans h2 (by decide)) (lim_limbs _) (lim_limbs _)
  rwa [iv_I, iv_I] at this
theorem iSameL (x y : Int) (h : x = y) (h1 : il x ≤ 9000) : PCalls Tryd.prog 12 [I x, I y] (.bool true) := sameI x y h (Nat.le_trans h1 (by decide))

theorem ex_I {neg : Bool} {a : List Nat} (la : lim a) (h : vldI neg a = true) (hl : a.length ≤ 10) : ∃ z : Int, X neg a = I z ∧ il z ≤ 10 := ⟨iv neg a, X_I la h, Nat.le_trans (iv_len la neg) hl⟩
set_option maxHeartbeats 4000000 in
theorem liRing_calls (n1 : Bool) (a : List Nat) (n2 : Bool) (b : List Nat) (n3 : Bool) (c : List Nat) (la : lim a) (lb : lim b) (lc : lim c) : PCalls Tryd.prog 3 [X n1 a, X n2 b, X n3 c] (.bool true) := by
  have cf := li_fair_calls n1 a n2 b n3 c
  by_cases hf : fairI n1 a n2 b n3 c = true
  · rw [hf] at cf
    obtain ⟨h1, h2, h3, v1, v2, v3⟩ := fairI_spec hf
    obtain ⟨x, ex, k1⟩ := ex_I la v1 h1
    obtain ⟨y, ey, k2⟩ := ex_I lb v2 h2
    obtain ⟨z, ez, k3⟩ := ex_I lc v3 h3
    rw [ex, ey, ez] at cf ⊢
    clear hf v1 v2 v3 h1 h2 h3 ex ey ez
    have l1 := il_add k1 k2
    have l2 := il_add k2 k3
    have l2' := il_add k2 k1
    have l3 := il_add l1 (show il z ≤ 11 by omega)
    have l4 := il_add (show il x ≤ 11 by omega) l2
    have m1 := il_mul k1 k2
    have m1' := il_mul k2 k1
    have m2 := il_mul k2 k3
    have m3 := il_mul m1 k3
    have m4 := il_mul k1 m2
    have m5 := il_mul k1 l2
    have m6 := il_mul k1 k3
    have m7 := il_add m1 m6
    have k4 := il_neg x
    have k5 := il_neg y
    have s0 := iSignL (x + -x) (Nat.le_trans (il_add k1 (Nat.le_trans (Nat.le_of_eq k4) k1)) (by decide))
    rw [Int.add_right_neg] at s0
    have a0 := iAddL x (-x) (by omega) (by omega)
    rw [Int.add_right_neg] at a0
    have ds : decide ((0 : Int).sign = 0) = true := rfl
    have b1 := iSubL x y (by omega) (by omega)
    have b2 := iAddL x (-y) (by omega) (by omega)
    have l5 := il_sub k1 k2
    have b3 := iSameL (x - y) (x + -y) Int.sub_eq_add_neg (by omega)
    refine PCalls_of isliIntegerIsARing (by simp [fnliIntegerIsARing]) ?_
    unfold codeliIntegerIsARing
    repeat (first | (refine W_seq ?_) | (refine W_reg ?_) | (refine W_regd ?_) | (refine W_block ?_) | (refine And.intro (by omega) ?_) | simp (config := {maxSteps := 1000000}) (disch := omega) only [cA, cB, lk, lkH, Dst.onT, Dst.onX, Dst.slot, setF, setH, mapF, mapH, initF, binE, unE, cnt, boundE, newsE, freshE, opE, rmH, blkQ, frz_us, Nat.reduceEqDiff, Nat.reduceLT, Nat.reduceAdd, ↓reduceIte, reduceCtorEq, Nat.reduceLeDiff, I, cS, nbliIntegerIsARing] | (refine callC_pure (cf) rfl ?_) | (refine callC_pure (li_awake_calls) rfl ?_) | exact W_ret (RetP_1 (.imm rfl)) | exact W_ret (RetP_c rfl rfl rfl (.imm rfl)))
    refine W_cond rfl (fun h => by cases h) (fun _ => W_skip ?_)
    repeat (first | (refine W_seq ?_) | (refine W_reg ?_) | (refine W_regd ?_) | (refine W_block ?_) | (refine And.intro (by omega) ?_) | simp (config := {maxSteps := 1000000}) (disch := omega) only [cA, cB, lk, lkH, Dst.onT, Dst.onX, Dst.slot, setF, setH, mapF, mapH, initF, binE, unE, cnt, boundE, newsE, freshE, opE, rmH, blkQ, frz_us, Nat.reduceEqDiff, Nat.reduceLT, Nat.reduceAdd, ↓reduceIte, reduceCtorEq, Nat.reduceLeDiff, I, cS, nbliIntegerIsARing, ds] | (refine callC_pure (li_awake_calls) rfl ?_) | (refine callC_pure (iAddL x y (by omega) (by omega)) rfl ?_) | (refine callC_pure (iAddL y x (by omega) (by omega)) rfl ?_) | (refine callC_pure (iSameL (x + y) (y + x) (Int.add_comm x y) (by omega)) rfl ?_) | (refine callC_pure (iMulL x y (by omega) (by omega)) rfl ?_) | (refine callC_pure (iMulL y x (by omega) (by omega)) rfl ?_) | (refine callC_pure (iSameL (x * y) (y * x) (Int.mul_comm x y) (by omega)) rfl ?_) | (refine callC_pure (iAddL (x + y) z (by omega) (by omega)) rfl ?_) | (refine callC_pure (iAddL y z (by omega) (by omega)) rfl ?_) | (refine callC_pure (iAddL x (y + z) (by omega) (by omega)) rfl ?_) | (refine callC_pure (iSameL (x + y + z) (x + (y + z)) (Int.add_assoc x y z) (by omega)) rfl ?_) | (refine callC_pure (iMulL (x * y) z (by omega) (by omega)) rfl ?_) | (refine callC_pure (iMulL y z (by omega) (by omega)) rfl ?_) | (refine callC_pure (iMulL x (y * z) (by omega) (by omega)) rfl ?_) | (refine callC_pure (iSameL (x * y * z) (x * (y * z)) (Int.mul_assoc x y z) (by omega)) rfl ?_) | (refine callC_pure (iMulL x (y + z) (by omega) (by omega)) rfl ?_) | (refine callC_pure (iMulL x z (by omega) (by omega)) rfl ?_) | (refine callC_pure (iAddL (x * y) (x * z) (by omega) (by omega)) rfl ?_) | (refine callC_pure (iSameL (x * (y + z)) (x * y + x * z) (Int.mul_add x y z) (by omega)) rfl ?_) | (refine callC_pure (iNegL x (by omega)) rfl ?_) | (refine callC_pure (a0) rfl ?_) | (refine callC_pure (s0) rfl ?_) | (refine callC_pure (b1) rfl ?_) | (refine callC_pure (iNegL y (by omega)) rfl ?_) | (refine callC_pure (b2) rfl ?_) | (refine callC_pure (b3) rfl ?_) | exact W_ret (RetP_1 (.imm rfl)) | exact W_ret (RetP_c rfl rfl rfl (.imm rfl)))
  · rw [show fairI n1 a n2 b n3 c = false by simpa using hf] at cf
    refine PCalls_of isliIntegerIsARing (by simp [fnliIntegerIsARing]) ?_
    unfold codeliIntegerIsARing
    repeat (first | (refine W_seq ?_) | (refine W_reg ?_) | (refine W_regd ?_) | (refine W_block ?_) | (refine And.intro (by omega) ?_) | simp (config := {maxSteps := 1000000}) (disch := omega) only [cA, cB, lk, lkH, Dst.onT, Dst.onX, Dst.slot, setF, setH, mapF, mapH, initF, binE, unE, cnt, boundE, newsE, freshE, opE, rmH, blkQ, frz_us, Nat.reduceEqDiff, Nat.reduceLT, Nat.reduceAdd, ↓reduceIte, reduceCtorEq, Nat.reduceLeDiff, X, cS, nbliIntegerIsARing] | (refine callC_pure (cf) rfl ?_) | (refine callC_pure (li_awake_calls) rfl ?_) | exact W_ret (RetP_1 (.imm rfl)) | exact W_ret (RetP_c rfl rfl rfl (.imm rfl)))
    refine W_cond rfl (fun _ => ?_) (fun h => by cases h)
    repeat (first | (refine W_seq ?_) | (refine W_reg ?_) | (refine W_regd ?_) | (refine W_block ?_) | (refine And.intro (by omega) ?_) | simp (config := {maxSteps := 1000000}) (disch := omega) only [cA, cB, lk, lkH, Dst.onT, Dst.onX, Dst.slot, setF, setH, mapF, mapH, initF, binE, unE, cnt, boundE, newsE, freshE, opE, rmH, blkQ, frz_us, Nat.reduceEqDiff, Nat.reduceLT, Nat.reduceAdd, ↓reduceIte, reduceCtorEq, Nat.reduceLeDiff, X, cS, nbliIntegerIsARing] | (refine callC_pure (li_awake_calls) rfl ?_) | exact W_ret (RetP_1 (.imm rfl)) | exact W_ret (RetP_c rfl rfl rfl (.imm rfl)))
end Go.Proofs.YtakchfljhihdmaaDoor
