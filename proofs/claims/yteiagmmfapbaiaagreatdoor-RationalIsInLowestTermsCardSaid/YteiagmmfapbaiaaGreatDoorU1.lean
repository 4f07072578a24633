/- Lemmas of the walk; no conditions beyond those that each states. -/
import Derived.Test.YteiagmmfapbaiaaGreatDoorProg
import Derived.KernelRfl
import Derived.Test.YteiagmmfapbaiaaGreatDoorT2
import Derived.Test.YteiagmmfapbaiaaGreatDoorT4
import Derived.Test.YteiagmmfapbaiaaGreatDoorN1
set_option linter.unusedSimpArgs false
set_option linter.unusedVariables false
set_option linter.unnecessarySimpa false
namespace Go.Proofs.YteiagmmfapbaiaaGreatDoor
open Go Go.Dat Go.Proofs
noncomputable def fnlqRationalIsInLowestTerms : FnD := ⟨Tryz.prog, [0, 1, 2, 3, 4, 5, 6, 7, 8, 9, 10, 36], [], 85, 0, false⟩
def codelqRationalIsInLowestTerms : DC := (.seq (.reg [⟨(.x 3), .box (.x 0), none⟩,⟨(.x 4), .box (.x 1), none⟩,⟨(.x 5), .box (.x 2), none⟩,⟨(.x 6), .mv (.c (.bool false)), none⟩]) (.seq (.seq (.reg [⟨(.t 11), .fad 1 (.x 3), none⟩,⟨(.t 12), .ld (.t 11), none⟩,⟨(.t 13), .len 1 (.t 12), none⟩,⟨(.t 14), .bin .gtr (.t 13) (.c (.int .i64 6)), none⟩,⟨(.t 15), .mv (.t 14), none⟩,⟨(.t 16), .fad 1 (.x 4), (some ((.t 15), false))⟩,⟨(.t 17), .ld (.t 16), (some ((.t 15), false))⟩,⟨(.t 18), .len 1 (.t 17), (some ((.t 15), false))⟩,⟨(.t 19), .bin .gtr (.t 18) (.c (.int .i64 6)), (some ((.t 15), false))⟩,⟨(.t 20), .pick (.t 15) (.c (.bool true)) (.t 19), none⟩,⟨(.t 21), .mv (.t 20), none⟩,⟨(.t 22), .fad 1 (.x 5), (some ((.t 21), false))⟩,⟨(.t 23), .ld (.t 22), (some ((.t 21), false))⟩,⟨(.t 24), .len 1 (.t 23), (some ((.t 21), false))⟩,⟨(.t 25), .bin .gtr (.t 24) (.c (.int .i64 3)), (some ((.t 21), false))⟩,⟨(.t 26), .pick (.t 21) (.c (.bool true)) (.t 25), none⟩,⟨(.t 27), .mv (.t 26), none⟩,⟨(.t 28), .ldn 2 (.x 4), (some ((.t 27), false))⟩,⟨(.t 29), .call 24 [(.t 28)], (some ((.t 27), false))⟩,⟨(.t 30), .bin .eql (.t 29) (.c (.int .i64 0)), (some ((.t 27), false))⟩,⟨(.t 31), .pick (.t 27) (.c (.bool true)) (.t 30), none⟩,⟨(.t 32), .mv (.t 31), none⟩,⟨(.t 33), .ldn 2 (.x 5), (some ((.t 32), false))⟩,⟨(.t 34), .call 24 [(.t 33)], (some ((.t 32), false))⟩,⟨(.t 35), .bin .eql (.t 34) (.c (.int .i64 0)), (some ((.t 32), false))⟩,⟨(.x 36), .pick (.t 32) (.c (.bool true)) (.t 35), none⟩]) (.cond (.x 36) (.seq (.reg [⟨(.t 37), .call 13 [], none⟩,⟨(.x 6), .mv (.t 37), none⟩]) .ret) .skip)) (.seq (.reg [⟨(.t 39), .ldn 2 (.x 3), none⟩,⟨(.t 40), .ldn 2 (.x 4), none⟩,⟨(.t 41), .call 14 [(.t 39), (.t 40)], none⟩,⟨(.t 38), .mv (.t 41), none⟩,⟨(.t 42), .ext (.t 38) 0, none⟩,⟨(.t 43), .ext (.t 38) 1, none⟩,⟨(.x 7), .alloc [(.bool false), .nils, .nils], none⟩,⟨.no, .stn 3 (.x 7) (.t 42), none⟩,⟨(.x 8), .mv (.t 43), none⟩]) (.seq (.regd [⟨(.t 45), .ldn 2 (.x 3), none⟩,⟨(.t 46), .ldn 2 (.x 5), none⟩,⟨(.t 47), .call 25 [(.t 45), (.t 46)], none⟩,⟨(.t 48), .ldn 2 (.x 4), none⟩,⟨(.t 49), .ldn 2 (.x 5), none⟩,⟨(.t 50), .call 25 [(.t 48), (.t 49)], none⟩,⟨(.t 51), .call 14 [(.t 47), (.t 50)], none⟩,⟨(.t 44), .mv (.t 51), none⟩,⟨(.t 52), .ext (.t 44) 0, none⟩,⟨(.t 53), .ext (.t 44) 1, none⟩,⟨(.x 9), .alloc [(.bool false), .nils, .nils], none⟩,⟨.no, .stn 3 (.x 9) (.t 52), none⟩,⟨(.x 10), .mv (.t 53), none⟩]) (.seq (.regd [⟨(.t 54), .call 13 [], none⟩,⟨(.t 55), .mv (.t 54), none⟩,⟨(.t 56), .mv (.x 8), (some ((.t 55), true))⟩,⟨(.t 57), .bin .eql (.t 56) (.c (.int .i64 0)), (some ((.t 55), true))⟩,⟨(.t 58), .pick (.t 55) (.t 57) (.c (.bool false)), none⟩,⟨(.t 59), .mv (.t 58), none⟩,⟨(.t 60), .mv (.x 10), (some ((.t 59), true))⟩,⟨(.t 61), .bin .eql (.t 60) (.c (.int .i64 0)), (some ((.t 59), true))⟩,⟨(.t 62), .pick (.t 59) (.t 61) (.c (.bool false)), none⟩,⟨(.t 63), .mv (.t 62), none⟩,⟨(.t 64), .ldn 3 (.x 7), (some ((.t 63), true))⟩,⟨(.t 65), .call 26 [(.t 64)], (some ((.t 63), true))⟩,⟨(.t 66), .pick (.t 63) (.t 65) (.c (.bool false)), none⟩,⟨(.t 67), .mv (.t 66), none⟩,⟨(.t 68), .ldn 3 (.x 7), (some ((.t 67), true))⟩,⟨(.t 69), .ldn 3 (.x 9), (some ((.t 67), true))⟩,⟨(.t 70), .call 16 [(.t 68), (.t 69)], (some ((.t 67), true))⟩,⟨(.t 71), .pick (.t 67) (.t 70) (.c (.bool false)), none⟩,⟨(.t 72), .mv (.t 71), none⟩,⟨(.t 73), .fad 0 (.x 7), (some ((.t 72), true))⟩,⟨(.t 74), .ldn 2 (.t 73), (some ((.t 72), true))⟩,⟨(.t 75), .ldn 2 (.x 4), (some ((.t 72), true))⟩,⟨(.t 76), .call 28 [(.t 75)], (some ((.t 72), true))⟩,⟨(.t 77), .call 25 [(.t 74), (.t 76)], (some ((.t 72), true))⟩,⟨(.t 78), .ldn 3 (.x 7), (some ((.t 72), true))⟩,⟨(.t 79), .call 29 [(.t 78)], (some ((.t 72), true))⟩,⟨(.t 80), .ldn 2 (.x 3), (some ((.t 72), true))⟩,⟨(.t 81), .call 28 [(.t 80)], (some ((.t 72), true))⟩,⟨(.t 82), .call 25 [(.t 79), (.t 81)], (some ((.t 72), true))⟩,⟨(.t 83), .call 27 [(.t 77), (.t 82)], (some ((.t 72), true))⟩,⟨(.t 84), .pick (.t 72) (.t 83) (.c (.bool false)), none⟩,⟨(.x 6), .mv (.t 84), none⟩]) .ret)))))
def reslqRationalIsInLowestTerms : List RV := [.t 6]
theorem nblqRationalIsInLowestTerms : fnlqRationalIsInLowestTerms.nb = 0 := rfl
theorem islqRationalIsInLowestTerms : IsFn fnlqRationalIsInLowestTerms 5 codelqRationalIsInLowestTerms reslqRationalIsInLowestTerms := ⟨⟨Tryz.f5, _, Tryz.func5, rfl, rfl, by kernel_rfl, by kernel_rfl, by kernel_rfl⟩⟩
end Go.Proofs.YteiagmmfapbaiaaGreatDoor
namespace Go.Proofs.YteiagmmfapbaiaaGreatDoor
open Go Go.Dat Go.Proofs Nat32 Go.RowKit
open Go.Lib (decDigits repeatL)
set_option maxHeartbeats 2000000 in
theorem lqLowest_calls (n1 : Bool) (a : List Nat) (n2 : Bool) (b : List Nat) (n3 : Bool) (c : List Nat) (la : lim a) (lb : lim b) (lc : lim c) : PCalls Tryz.prog 5 [X n1 a, X n2 b, X n3 c] (.bool true) := by
  have aw := lq_awake_calls
  refine PCalls_of islqRationalIsInLowestTerms (by simp [fnlqRationalIsInLowestTerms]) ?_
  unfold codelqRationalIsInLowestTerms
  by_cases h1 : 6 < a.length
  · have d1 : decide ((6 : Int) < a.length) = true := decide_eq_true (by omega)
    repeat (first | (refine W_seq ?_) | (refine W_reg ?_) | (refine W_regd ?_) | (refine W_block ?_) | (refine And.intro (by omega) ?_) | simp (maxSteps := 1000000) (disch := omega) only [cA, cB, lk, lkH, Dst.onT, Dst.onX, Dst.slot, setF, setH, mapF, mapH, initF, binE, unE, cnt, boundE, newsE, freshE, opE, rmH, blkQ, frz_us, Nat.reduceEqDiff, Nat.reduceLT, Nat.reduceAdd, ↓reduceIte, reduceCtorEq, Nat.reduceLeDiff, X, cS, nblqRationalIsInLowestTerms, us_length, d1])
    refine W_cond rfl (fun _ => ?_) (fun h => by cases h)
    repeat (first | (refine W_seq ?_) | (refine W_reg ?_) | (refine W_regd ?_) | (refine W_block ?_) | (refine And.intro (by omega) ?_) | simp (maxSteps := 1000000) (disch := omega) only [cA, cB, lk, lkH, Dst.onT, Dst.onX, Dst.slot, setF, setH, mapF, mapH, initF, binE, unE, cnt, boundE, newsE, freshE, opE, rmH, blkQ, frz_us, Nat.reduceEqDiff, Nat.reduceLT, Nat.reduceAdd, ↓reduceIte, reduceCtorEq, Nat.reduceLeDiff, cS] | (refine callC_pure (aw) rfl ?_) | exact W_ret (RetP_1 (.imm rfl)) | exact W_ret (RetP_c rfl rfl rfl (.imm rfl)))
  · have d1 : decide ((6 : Int) < a.length) = false := decide_eq_false (by omega)
    by_cases h2 : 6 < b.length
    · have d2 : decide ((6 : Int) < b.length) = true := decide_eq_true (by omega)
      repeat (first | (refine W_seq ?_) | (refine W_reg ?_) | (refine W_regd ?_) | (refine W_block ?_) | (refine And.intro (by omega) ?_) | simp (maxSteps := 1000000) (disch := omega) only [cA, cB, lk, lkH, Dst.onT, Dst.onX, Dst.slot, setF, setH, mapF, mapH, initF, binE, unE, cnt, boundE, newsE, freshE, opE, rmH, blkQ, frz_us, Nat.reduceEqDiff, Nat.reduceLT, Nat.reduceAdd, ↓reduceIte, reduceCtorEq, Nat.reduceLeDiff, X, cS, nblqRationalIsInLowestTerms, us_length, d1, d2])
      refine W_cond rfl (fun _ => ?_) (fun h => by cases h)
      repeat (first | (refine W_seq ?_) | (refine W_reg ?_) | (refine W_regd ?_) | (refine W_block ?_) | (refine And.intro (by omega) ?_) | simp (maxSteps := 1000000) (disch := omega) only [cA, cB, lk, lkH, Dst.onT, Dst.onX, Dst.slot, setF, setH, mapF, mapH, initF, binE, unE, cnt, boundE, newsE, freshE, opE, rmH, blkQ, frz_us, Nat.reduceEqDiff, Nat.reduceLT, Nat.reduceAdd, ↓reduceIte, reduceCtorEq, Nat.reduceLeDiff, cS] | (refine callC_pure (aw) rfl ?_) | exact W_ret (RetP_1 (.imm rfl)) | exact W_ret (RetP_c rfl rfl rfl (.imm rfl)))
    · have d2 : decide ((6 : Int) < b.length) = false := decide_eq_false (by omega)
      by_cases h3 : 3 < c.length
      · have d3 : decide ((3 : Int) < c.length) = true := decide_eq_true (by omega)
        repeat (first | (refine W_seq ?_) | (refine W_reg ?_) | (refine W_regd ?_) | (refine W_block ?_) | (refine And.intro (by omega) ?_) | simp (maxSteps := 1000000) (disch := omega) only [cA, cB, lk, lkH, Dst.onT, Dst.onX, Dst.slot, setF, setH, mapF, mapH, initF, binE, unE, cnt, boundE, newsE, freshE, opE, rmH, blkQ, frz_us, Nat.reduceEqDiff, Nat.reduceLT, Nat.reduceAdd, ↓reduceIte, reduceCtorEq, Nat.reduceLeDiff, X, cS, nblqRationalIsInLowestTerms, us_length, d1, d2, d3])
        refine W_cond rfl (fun _ => ?_) (fun h => by cases h)
        repeat (first | (refine W_seq ?_) | (refine W_reg ?_) | (refine W_regd ?_) | (refine W_block ?_) | (refine And.intro (by omega) ?_) | simp (maxSteps := 1000000) (disch := omega) only [cA, cB, lk, lkH, Dst.onT, Dst.onX, Dst.slot, setF, setH, mapF, mapH, initF, binE, unE, cnt, boundE, newsE, freshE, opE, rmH, blkQ, frz_us, Nat.reduceEqDiff, Nat.reduceLT, Nat.reduceAdd, ↓reduceIte, reduceCtorEq, Nat.reduceLeDiff, cS] | (refine callC_pure (aw) rfl ?_) | exact W_ret (RetP_1 (.imm rfl)) | exact W_ret (RetP_c rfl rfl rfl (.imm rfl)))
      · have d3 : decide ((3 : Int) < c.length) = false := decide_eq_false (by omega)
        have s1 := sSign_calls n2 b (by omega) lb
        have s2 := sSign_calls n3 c (by omega) lc
        by_cases hb : iv n2 b = 0
        · have e1 : decide ((iv n2 b).sign = 0) = true := by rw [hb]; rfl
          repeat (first | (refine W_seq ?_) | (refine W_reg ?_) | (refine W_regd ?_) | (refine W_block ?_) | (refine And.intro (by omega) ?_) | simp (maxSteps := 1000000) (disch := omega) only [cA, cB, lk, lkH, Dst.onT, Dst.onX, Dst.slot, setF, setH, mapF, mapH, initF, binE, unE, cnt, boundE, newsE, freshE, opE, rmH, blkQ, frz_us, Nat.reduceEqDiff, Nat.reduceLT, Nat.reduceAdd, ↓reduceIte, reduceCtorEq, Nat.reduceLeDiff, X, cS, nblqRationalIsInLowestTerms, us_length, d1, d2, d3, e1] | (refine callC_pure (s1) rfl ?_) | (refine callC_pure (s2) rfl ?_) | exact W_ret (RetP_1 (.imm rfl)) | exact W_ret (RetP_c rfl rfl rfl (.imm rfl)))
          refine W_cond rfl (fun _ => ?_) (fun h => by cases h)
          repeat (first | (refine W_seq ?_) | (refine W_reg ?_) | (refine W_regd ?_) | (refine W_block ?_) | (refine And.intro (by omega) ?_) | simp (maxSteps := 1000000) (disch := omega) only [cA, cB, lk, lkH, Dst.onT, Dst.onX, Dst.slot, setF, setH, mapF, mapH, initF, binE, unE, cnt, boundE, newsE, freshE, opE, rmH, blkQ, frz_us, Nat.reduceEqDiff, Nat.reduceLT, Nat.reduceAdd, ↓reduceIte, reduceCtorEq, Nat.reduceLeDiff, cS] | (refine callC_pure (aw) rfl ?_) | exact W_ret (RetP_1 (.imm rfl)) | exact W_ret (RetP_c rfl rfl rfl (.imm rfl)))
        · have e1 : decide ((iv n2 b).sign = 0) = false := decide_eq_false (fun h => hb (Int.sign_eq_zero_iff_zero.1 h))
          by_cases hc : iv n3 c = 0
          · have e2 : decide ((iv n3 c).sign = 0) = true := by rw [hc]; rfl
            repeat (first | (refine W_seq ?_) | (refine W_reg ?_) | (refine W_regd ?_) | (refine W_block ?_) | (refine And.intro (by omega) ?_) | simp (maxSteps := 1000000) (disch := omega) only [cA, cB, lk, lkH, Dst.onT, Dst.onX, Dst.slot, setF, setH, mapF, mapH, initF, binE, unE, cnt, boundE, newsE, freshE, opE, rmH, blkQ, frz_us, Nat.reduceEqDiff, Nat.reduceLT, Nat.reduceAdd, ↓reduceIte, reduceCtorEq, Nat.reduceLeDiff, X, cS, nblqRationalIsInLowestTerms, us_length, d1, d2, d3, e1, e2] | (refine callC_pure (s1) rfl ?_) | (refine callC_pure (s2) rfl ?_) | exact W_ret (RetP_1 (.imm rfl)) | exact W_ret (RetP_c rfl rfl rfl (.imm rfl)))
            refine W_cond rfl (fun _ => ?_) (fun h => by cases h)
            repeat (first | (refine W_seq ?_) | (refine W_reg ?_) | (refine W_regd ?_) | (refine W_block ?_) | (refine And.intro (by omega) ?_) | simp (maxSteps := 1000000) (disch := omega) only [cA, cB, lk, lkH, Dst.onT, Dst.onX, Dst.slot, setF, setH, mapF, mapH, initF, binE, unE, cnt, boundE, newsE, freshE, opE, rmH, blkQ, frz_us, Nat.reduceEqDiff, Nat.reduceLT, Nat.reduceAdd, ↓reduceIte, reduceCtorEq, Nat.reduceLeDiff, cS] | (refine callC_pure (aw) rfl ?_) | exact W_ret (RetP_1 (.imm rfl)) | exact W_ret (RetP_c rfl rfl rfl (.imm rfl)))
          · have e2 : decide ((iv n3 c).sign = 0) = false := decide_eq_false (fun h => hc (Int.sign_eq_zero_iff_zero.1 h))
            have l1 := iv_len la n1
            have l2 := iv_len lb n2
            have l3 := iv_len lc n3
            have q1 := qMake_calls n1 a n2 b (by omega) (by omega) la lb
            have m1 := sMul_calls n1 a n3 c (by omega) (by omega) la lc
            have m2 := sMul_calls n2 b n3 c (by omega) (by omega) lb lc
            have t1 := sTake_calls n2 b (by omega) lb
            have t2 := sTake_calls n1 a (by omega) la
            generalize iv n1 a = x at *
            generalize iv n2 b = y at *
            generalize iv n3 c = z at *
            have b1 := il_mul (x := x) (y := z) (m := 6) (n := 3) (show (limbs x.natAbs).length ≤ 6 by omega) (show (limbs z.natAbs).length ≤ 3 by omega)
            have b2 := il_mul (x := y) (y := z) (m := 6) (n := 3) (show (limbs y.natAbs).length ≤ 6 by omega) (show (limbs z.natAbs).length ≤ 3 by omega)
            have q2 := qMake_calls (decide (x * z < 0)) (limbs (x * z).natAbs) (decide (y * z < 0)) (limbs (y * z).natAbs) (Nat.le_trans b1 (by decide)) (Nat.le_trans b2 (by decide)) (lim_limbs _) (lim_limbs _)
            rw [iv_I, iv_I] at q2
            unfold mkR at q1 q2
            rw [if_neg hb] at q1
            rw [if_neg (Int.mul_ne_zero hb hc), Rat.divInt_mul_right hc] at q2
            have rb := RB_divInt (z := x) (m := 6) hb (by omega) (by omega)
            have hlow := lowest_num (n := x) hb
            generalize Rat.divInt x y = r at *
            have cv := qValid_calls (decide (r.num < 0)) (limbs r.num.natAbs) (dn r.den) (Nat.le_trans rb.1 (by decide)) (Nat.le_trans (RB_dn rb) (by decide)) (lim_limbs _) (lim_dn _)
            rw [vldQ_Q, ← Q_XQ] at cv
            have cs := pSameT r (rb.mono (by decide))
            have cd := pDen_calls r (rb.mono (by decide))
            have m3 := sMulL r.num y (Nat.le_trans rb.1 (by decide)) (Nat.le_trans (show il y ≤ 6 by unfold il; omega) (by decide))
            have m4 := sMulL (r.den : Int) x (il_nat (Nat.le_trans rb.2 (by decide))) (Nat.le_trans (show il x ≤ 6 by unfold il; omega) (by decide))
            have hl3 := il_mul (x := r.num) (y := y) rb.1 (show il y ≤ 6 by unfold il; omega)
            have ss := sameI (r.num * y) ((r.den : Int) * x) hlow (Nat.le_trans hl3 (by decide))
            clear hb hc hlow hl3 b1 b2 rb l1 l2 l3
            generalize r.num * y = M1 at *
            generalize (r.den : Int) * x = M2 at *
            generalize x * z = P1 at *
            generalize y * z = P2 at *
            repeat (first | (refine W_seq ?_) | (refine W_reg ?_) | (refine W_regd ?_) | (refine W_block ?_) | (refine And.intro (by omega) ?_) | simp (maxSteps := 1000000) (disch := omega) only [cA, cB, lk, lkH, Dst.onT, Dst.onX, Dst.slot, setF, setH, mapF, mapH, initF, binE, unE, cnt, boundE, newsE, freshE, opE, rmH, blkQ, frz_us, Nat.reduceEqDiff, Nat.reduceLT, Nat.reduceAdd, ↓reduceIte, reduceCtorEq, Nat.reduceLeDiff, X, cS, nblqRationalIsInLowestTerms, us_length, d1, d2, d3, e1, e2] | (refine callC_pure (s1) rfl ?_) | (refine callC_pure (s2) rfl ?_) | exact W_ret (RetP_1 (.imm rfl)) | exact W_ret (RetP_c rfl rfl rfl (.imm rfl)))
            refine W_cond rfl (fun h => by cases h) (fun _ => W_skip ?_)
            repeat (first | (refine W_seq ?_) | (refine W_reg ?_) | (refine W_regd ?_) | (refine W_block ?_) | (refine And.intro (by omega) ?_) | simp (maxSteps := 1000000) (disch := omega) only [cA, cB, lk, lkH, Dst.onT, Dst.onX, Dst.slot, setF, setH, mapF, mapH, initF, binE, unE, cnt, boundE, newsE, freshE, opE, rmH, blkQ, frz_us, Nat.reduceEqDiff, Nat.reduceLT, Nat.reduceAdd, ↓reduceIte, reduceCtorEq, Nat.reduceLeDiff, X, Q, I, cS, cT, nblqRationalIsInLowestTerms, decide_true] | (refine callC_pure (q1) rfl ?_) | (refine callC_pure (m1) rfl ?_) | (refine callC_pure (m2) rfl ?_) | (refine callC_pure (q2) rfl ?_) | (refine callC_pure (aw) rfl ?_) | (refine callC_pure (cv) rfl ?_) | (refine callC_pure (cs) rfl ?_) | (refine callC_pure (t1) rfl ?_) | (refine callC_pure (m3) rfl ?_) | (refine callC_pure (cd) rfl ?_) | (refine callC_pure (t2) rfl ?_) | (refine callC_pure (m4) rfl ?_) | (refine callC_pure (ss) rfl ?_) | exact W_ret (RetP_1 (.imm rfl)) | exact W_ret (RetP_c rfl rfl rfl (.imm rfl)))
end Go.Proofs.YteiagmmfapbaiaaGreatDoor
