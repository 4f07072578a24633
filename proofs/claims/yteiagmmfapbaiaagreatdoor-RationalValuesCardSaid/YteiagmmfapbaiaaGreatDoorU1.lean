/- Lemmas of the walk; no conditions beyond those that each states. -/
import Derived.Test.YteiagmmfapbaiaaGreatDoorProg
import Derived.KernelRfl
import Derived.Test.YteiagmmfapbaiaaGreatDoorT2
import Derived.Test.YteiagmmfapbaiaaGreatDoorT4
import Derived.Test.YteiagmmfapbaiaaGreatDoorN1
set_option linter.unusedSimpArgs false
set_option linter.unusedVariables false
set_option linter.unnecessarySimpa false
namespace Go.Proofs.YteiagmmfapbaiaaGreatDoor
open Go Go.Dat Go.Proofs
noncomputable def fnlqRationalValues : FnD := ⟨Tryz.prog, [0, 1, 2, 3, 4, 6, 14], [], 68, 0, false⟩
def codelqRationalValues : DC := (.seq (.reg [⟨(.x 3), .box (.x 0), none⟩,⟨(.x 4), .box (.x 1), none⟩,⟨(.x 6), .mv (.c (.bool false)), none⟩]) (.seq (.seq (.reg [⟨(.t 7), .ldn 3 (.x 3), none⟩,⟨(.t 8), .call 17 [(.t 7)], none⟩,⟨(.t 9), .un .not (.t 8), none⟩,⟨(.t 10), .mv (.t 9), none⟩,⟨(.t 11), .ldn 3 (.x 4), (some ((.t 10), false))⟩,⟨(.t 12), .call 17 [(.t 11)], (some ((.t 10), false))⟩,⟨(.t 13), .un .not (.t 12), (some ((.t 10), false))⟩,⟨(.x 14), .pick (.t 10) (.c (.bool true)) (.t 13), none⟩]) (.cond (.x 14) (.seq (.reg [⟨(.t 15), .call 13 [], none⟩,⟨(.x 6), .mv (.t 15), none⟩]) .ret) .skip)) (.seq (.regd [⟨(.t 16), .call 13 [], none⟩,⟨(.t 17), .mv (.t 16), none⟩,⟨(.t 18), .ldn 3 (.x 3), (some ((.t 17), true))⟩,⟨(.t 19), .call 26 [(.t 18)], (some ((.t 17), true))⟩,⟨(.t 20), .ldn 3 (.x 3), (some ((.t 17), true))⟩,⟨(.t 21), .call 30 [(.t 20)], (some ((.t 17), true))⟩,⟨(.t 22), .beq false (.t 19) (.t 21), (some ((.t 17), true))⟩,⟨(.t 23), .pick (.t 17) (.t 22) (.c (.bool false)), none⟩,⟨(.t 24), .mv (.t 23), none⟩,⟨(.t 25), .mv (.x 2), (some ((.t 24), true))⟩,⟨(.t 26), .call 46 [(.t 25)], (some ((.t 24), true))⟩,⟨(.t 27), .mv (.x 2), (some ((.t 24), true))⟩,⟨(.t 28), .call 47 [(.t 27)], (some ((.t 24), true))⟩,⟨(.t 29), .call 16 [(.t 26), (.t 28)], (some ((.t 24), true))⟩,⟨(.t 30), .pick (.t 24) (.t 29) (.c (.bool false)), none⟩,⟨(.t 31), .mv (.t 30), none⟩,⟨(.t 32), .ldn 3 (.x 3), (some ((.t 31), true))⟩,⟨(.t 33), .call 41 [(.t 32)], (some ((.t 31), true))⟩,⟨(.t 34), .ldn 3 (.x 3), (some ((.t 31), true))⟩,⟨(.t 35), .call 40 [(.t 34)], (some ((.t 31), true))⟩,⟨(.t 36), .bin .eql (.t 33) (.t 35), (some ((.t 31), true))⟩,⟨(.t 37), .pick (.t 31) (.t 36) (.c (.bool false)), none⟩,⟨(.t 38), .mv (.t 37), none⟩,⟨(.t 39), .ldn 3 (.x 3), (some ((.t 38), true))⟩,⟨(.t 40), .call 48 [(.t 39)], (some ((.t 38), true))⟩,⟨(.t 41), .ldn 3 (.x 3), (some ((.t 38), true))⟩,⟨(.t 42), .call 49 [(.t 41)], (some ((.t 38), true))⟩,⟨(.t 43), .call 16 [(.t 40), (.t 42)], (some ((.t 38), true))⟩,⟨(.t 44), .pick (.t 38) (.t 43) (.c (.bool false)), none⟩,⟨(.t 45), .mv (.t 44), none⟩,⟨(.t 46), .ldn 3 (.x 3), (some ((.t 45), true))⟩,⟨(.t 47), .call 45 [(.t 46)], (some ((.t 45), true))⟩,⟨(.t 48), .ldn 3 (.x 3), (some ((.t 45), true))⟩,⟨(.t 49), .call 50 [(.t 48)], (some ((.t 45), true))⟩,⟨(.t 50), .call 16 [(.t 47), (.t 49)], (some ((.t 45), true))⟩,⟨(.t 51), .pick (.t 45) (.t 50) (.c (.bool false)), none⟩,⟨(.t 52), .mv (.t 51), none⟩,⟨(.t 53), .ldn 3 (.x 3), (some ((.t 52), true))⟩,⟨(.t 54), .ldn 3 (.x 4), (some ((.t 52), true))⟩,⟨(.t 55), .call 42 [(.t 53), (.t 54)], (some ((.t 52), true))⟩,⟨(.t 56), .ldn 3 (.x 3), (some ((.t 52), true))⟩,⟨(.t 57), .ldn 3 (.x 4), (some ((.t 52), true))⟩,⟨(.t 58), .call 51 [(.t 56), (.t 57)], (some ((.t 52), true))⟩,⟨(.t 59), .bin .eql (.t 55) (.t 58), (some ((.t 52), true))⟩,⟨(.t 60), .pick (.t 52) (.t 59) (.c (.bool false)), none⟩,⟨(.t 61), .mv (.t 60), none⟩,⟨(.t 62), .ldn 3 (.x 3), (some ((.t 61), true))⟩,⟨(.t 63), .call 52 [(.t 62)], (some ((.t 61), true))⟩,⟨(.t 64), .ldn 3 (.x 3), (some ((.t 61), true))⟩,⟨(.t 65), .call 53 [(.t 64)], (some ((.t 61), true))⟩,⟨(.t 66), .call 27 [(.t 63), (.t 65)], (some ((.t 61), true))⟩,⟨(.t 67), .pick (.t 61) (.t 66) (.c (.bool false)), none⟩,⟨(.x 6), .mv (.t 67), none⟩]) .ret)))
def reslqRationalValues : List RV := [.t 6]
theorem nblqRationalValues : fnlqRationalValues.nb = 0 := rfl
theorem islqRationalValues : IsFn fnlqRationalValues 11 codelqRationalValues reslqRationalValues := ⟨⟨Tryz.f11, _, Tryz.func11, rfl, rfl, by kernel_rfl, by kernel_rfl, by kernel_rfl⟩⟩
end Go.Proofs.YteiagmmfapbaiaaGreatDoor
namespace Go.Proofs.YteiagmmfapbaiaaGreatDoor
open Go Go.Dat Go.Proofs Nat32 Go.RowKit
open Go.Lib (decDigits repeatL)
def lightB (a d : List Nat) : Bool := decide (a.length ≤ 8) && decide (d.length ≤ 8)
theorem mdLight_calls (neg : Bool) (a d : List Nat) : PCalls Tryz.prog 17 [XQ neg a d] (.bool (lightB a d)) := by
  have k1 : decide ((a.length : Int) ≤ 8) = decide (a.length ≤ 8) := by rw [decide_eq_decide]; omega
  have k2 : decide ((d.length : Int) ≤ 8) = decide (d.length ≤ 8) := by rw [decide_eq_decide]; omega
  refine PCalls_of ismdLight (by simp [fnmdLight]) ?_
  unfold codemdLight lightB
  by_cases h : a.length ≤ 8
  · rw [decide_eq_true h] at k1 ⊢
    repeat (first | (refine W_seq ?_) | (refine W_reg ?_) | (refine W_regd ?_) | (refine W_block ?_) | (refine And.intro (by omega) ?_) | simp (maxSteps := 1000000) (disch := omega) only [cA, cB, lk, lkH, Dst.onT, Dst.onX, Dst.slot, setF, setH, mapF, mapH, initF, binE, unE, cnt, boundE, newsE, freshE, opE, rmH, blkQ, frz_us, Nat.reduceEqDiff, Nat.reduceLT, Nat.reduceAdd, ↓reduceIte, reduceCtorEq, Nat.reduceLeDiff, XQ, cS, nbmdLight, us_length, k1, k2, Bool.true_and])
    exact W_ret (RetP_1 (.imm rfl))
  · rw [decide_eq_false h] at k1 ⊢
    repeat (first | (refine W_seq ?_) | (refine W_reg ?_) | (refine W_regd ?_) | (refine W_block ?_) | (refine And.intro (by omega) ?_) | simp (maxSteps := 1000000) (disch := omega) only [cA, cB, lk, lkH, Dst.onT, Dst.onX, Dst.slot, setF, setH, mapF, mapH, initF, binE, unE, cnt, boundE, newsE, freshE, opE, rmH, blkQ, frz_us, Nat.reduceEqDiff, Nat.reduceLT, Nat.reduceAdd, ↓reduceIte, reduceCtorEq, Nat.reduceLeDiff, XQ, cS, nbmdLight, us_length, k1, k2, Bool.false_and])
    exact W_ret (RetP_1 (.imm rfl))
theorem lightB_spec {a d : List Nat} (h : lightB a d = true) : a.length ≤ 8 ∧ d.length ≤ 8 := by
  unfold lightB at h; simpa using h
theorem RB_light {neg : Bool} {a d : List Nat} (h : lightB a d = true) (la : lim a) (ld : lim d) : RB (rv neg a d) 8 :=
  RB_rv la ld (lightB_spec h).1 (lightB_spec h).2 (by decide)
end Go.Proofs.YteiagmmfapbaiaaGreatDoor
namespace Nat32
open Go Go.Dat
theorem i64_len {v : Int} (h1 : -9223372036854775808 ≤ v) (h2 : v ≤ 9223372036854775807) : (limbs v.natAbs).length ≤ 2 := limbs_len.2 (by omega)
end Nat32
namespace Go.Proofs.YteiagmmfapbaiaaGreatDoor
open Go Go.Dat Go.Proofs Nat32 Go.RowKit
open Go.Lib (decDigits repeatL)
set_option maxHeartbeats 2000000 in
theorem lqValues_calls (n1 : Bool) (a d : List Nat) (n2 : Bool) (b e : List Nat) (v : Int) (la : lim a) (ld : lim d) (lb : lim b) (le : lim e) (w1 : -9223372036854775808 ≤ v) (w2 : v ≤ 9223372036854775807) :
    PCalls Tryz.prog 11 [XQ n1 a d, XQ n2 b e, .int .i64 v] (.bool true) := by
  have aw := lq_awake_calls
  have g1 := mdLight_calls n1 a d
  have g2 := mdLight_calls n2 b e
  refine PCalls_of islqRationalValues (by simp [fnlqRationalValues]) ?_
  unfold codelqRationalValues
  cases h1 : lightB a d
  · rw [h1] at g1
    repeat (first | (refine W_seq ?_) | (refine W_reg ?_) | (refine W_regd ?_) | (refine W_block ?_) | (refine And.intro (by omega) ?_) | simp (maxSteps := 1000000) (disch := omega) only [cA, cB, lk, lkH, Dst.onT, Dst.onX, Dst.slot, setF, setH, mapF, mapH, initF, binE, unE, cnt, boundE, newsE, freshE, opE, rmH, blkQ, frz_us, Nat.reduceEqDiff, Nat.reduceLT, Nat.reduceAdd, ↓reduceIte, reduceCtorEq, Nat.reduceLeDiff, XQ, cS, nblqRationalValues] | (refine callC_pure (g1) rfl ?_) | (refine callC_pure (g2) rfl ?_) | exact W_ret (RetP_1 (.imm rfl)) | exact W_ret (RetP_c rfl rfl rfl (.imm rfl)))
    refine W_cond rfl (fun _ => ?_) (fun h => by cases h)
    repeat (first | (refine W_seq ?_) | (refine W_reg ?_) | (refine W_regd ?_) | (refine W_block ?_) | (refine And.intro (by omega) ?_) | simp (maxSteps := 1000000) (disch := omega) only [cA, cB, lk, lkH, Dst.onT, Dst.onX, Dst.slot, setF, setH, mapF, mapH, initF, binE, unE, cnt, boundE, newsE, freshE, opE, rmH, blkQ, frz_us, Nat.reduceEqDiff, Nat.reduceLT, Nat.reduceAdd, ↓reduceIte, reduceCtorEq, Nat.reduceLeDiff, cS] | (refine callC_pure (aw) rfl ?_) | exact W_ret (RetP_1 (.imm rfl)) | exact W_ret (RetP_c rfl rfl rfl (.imm rfl)))
  · rw [h1] at g1
    cases h2 : lightB b e
    · rw [h2] at g2
      repeat (first | (refine W_seq ?_) | (refine W_reg ?_) | (refine W_regd ?_) | (refine W_block ?_) | (refine And.intro (by omega) ?_) | simp (maxSteps := 1000000) (disch := omega) only [cA, cB, lk, lkH, Dst.onT, Dst.onX, Dst.slot, setF, setH, mapF, mapH, initF, binE, unE, cnt, boundE, newsE, freshE, opE, rmH, blkQ, frz_us, Nat.reduceEqDiff, Nat.reduceLT, Nat.reduceAdd, ↓reduceIte, reduceCtorEq, Nat.reduceLeDiff, XQ, cS, nblqRationalValues] | (refine callC_pure (g1) rfl ?_) | (refine callC_pure (g2) rfl ?_) | exact W_ret (RetP_1 (.imm rfl)) | exact W_ret (RetP_c rfl rfl rfl (.imm rfl)))
      refine W_cond rfl (fun _ => ?_) (fun h => by cases h)
      repeat (first | (refine W_seq ?_) | (refine W_reg ?_) | (refine W_regd ?_) | (refine W_block ?_) | (refine And.intro (by omega) ?_) | simp (maxSteps := 1000000) (disch := omega) only [cA, cB, lk, lkH, Dst.onT, Dst.onX, Dst.slot, setF, setH, mapF, mapH, initF, binE, unE, cnt, boundE, newsE, freshE, opE, rmH, blkQ, frz_us, Nat.reduceEqDiff, Nat.reduceLT, Nat.reduceAdd, ↓reduceIte, reduceCtorEq, Nat.reduceLeDiff, cS] | (refine callC_pure (aw) rfl ?_) | exact W_ret (RetP_1 (.imm rfl)) | exact W_ret (RetP_c rfl rfl rfl (.imm rfl)))
    · rw [h2] at g2
      obtain ⟨k1, k2⟩ := lightB_spec h1
      obtain ⟨k3, k4⟩ := lightB_spec h2
      have r1 := RB_light (neg := n1) h1 la ld
      have r2 := RB_light (neg := n2) h2 lb le
      have q1 := qValid_calls n1 a d (by omega) (by omega) la ld
      have p1 := pValid_calls n1 a d (by omega) (by omega) la ld
      have q2 := qFromInt_calls v w1 w2
      have p2 := pFromInt_calls v w1 w2
      have s2 := pSameT (v : Rat) (RB_int (Nat.le_trans (i64_len w1 w2) (by decide)) (by decide))
      have q3 := qSign_calls n1 a d (by omega) (by omega) la ld
      have p3 := pSign_calls n1 a d (by omega) (by omega) la ld
      have q4 := qNeg_calls n1 a d (by omega) (by omega) la ld
      have p4 := pNeg_calls n1 a d (by omega) (by omega) la ld
      have q5 := qAbs_calls n1 a d (by omega) (by omega) la ld
      have p5 := pAbs_calls n1 a d (by omega) (by omega) la ld
      have q6 := qCompare_calls n1 a d n2 b e (by omega) (by omega) (by omega) (by omega) la ld lb le
      have p6 := pCompare_calls n1 a d n2 b e (by omega) (by omega) (by omega) (by omega) la ld lb le
      have q7 := qFloor_calls n1 a d (by omega) (by omega) la ld
      have p7 := pFloor_calls n1 a d (by omega) (by omega) la ld
      generalize rv n1 a d = x at *
      generalize rv n2 b e = y at *
      have s4 := pSameT (-x) ((RB_neg r1).mono (by decide))
      have ra : RB (absQ x) 8 := by
        unfold absQ; split
        · exact RB_neg r1
        · exact r1
      have s5 := pSameT (absQ x) (ra.mono (by decide))
      have s7 := sameI x.floor x.floor rfl (Nat.le_trans (Nat.le_trans (len_mono (abs_floor x)) r1.1) (by decide))
      clear h1 h2 k1 k2 k3 k4 r1 r2 ra w1 w2
      generalize vldQ n1 a d = bv at *
      generalize (v : Rat) = z2 at *
      generalize -x = z4 at *
      generalize absQ x = z5 at *
      generalize cmpQ x y = z6 at *
      generalize x.floor = z7 at *
      generalize x.num.sign = z3 at *
      repeat (first | (refine W_seq ?_) | (refine W_reg ?_) | (refine W_regd ?_) | (refine W_block ?_) | (refine And.intro (by omega) ?_) | simp (maxSteps := 1000000) (disch := omega) only [cA, cB, lk, lkH, Dst.onT, Dst.onX, Dst.slot, setF, setH, mapF, mapH, initF, binE, unE, cnt, boundE, newsE, freshE, opE, rmH, blkQ, frz_us, Nat.reduceEqDiff, Nat.reduceLT, Nat.reduceAdd, ↓reduceIte, reduceCtorEq, Nat.reduceLeDiff, XQ, cS, nblqRationalValues] | (refine callC_pure (g1) rfl ?_) | (refine callC_pure (g2) rfl ?_) | exact W_ret (RetP_1 (.imm rfl)) | exact W_ret (RetP_c rfl rfl rfl (.imm rfl)))
      refine W_cond rfl (fun h => by cases h) (fun _ => W_skip ?_)
      repeat (first | (refine W_seq ?_) | (refine W_reg ?_) | (refine W_regd ?_) | (refine W_block ?_) | (refine And.intro (by omega) ?_) | simp (maxSteps := 1000000) (disch := omega) only [cA, cB, lk, lkH, Dst.onT, Dst.onX, Dst.slot, setF, setH, mapF, mapH, initF, binE, unE, cnt, boundE, newsE, freshE, opE, rmH, blkQ, frz_us, Nat.reduceEqDiff, Nat.reduceLT, Nat.reduceAdd, ↓reduceIte, reduceCtorEq, Nat.reduceLeDiff, XQ, Q, I, cS, cT, nblqRationalValues, decide_true, beq_self_eq_true] | (refine callC_pure (aw) rfl ?_) | (refine callC_pure (q1) rfl ?_) | (refine callC_pure (p1) rfl ?_) | (refine callC_pure (q2) rfl ?_) | (refine callC_pure (p2) rfl ?_) | (refine callC_pure (s2) rfl ?_) | (refine callC_pure (q3) rfl ?_) | (refine callC_pure (p3) rfl ?_) | (refine callC_pure (q4) rfl ?_) | (refine callC_pure (p4) rfl ?_) | (refine callC_pure (s4) rfl ?_) | (refine callC_pure (q5) rfl ?_) | (refine callC_pure (p5) rfl ?_) | (refine callC_pure (s5) rfl ?_) | (refine callC_pure (q6) rfl ?_) | (refine callC_pure (p6) rfl ?_) | (refine callC_pure (q7) rfl ?_) | (refine callC_pure (p7) rfl ?_) | (refine callC_pure (s7) rfl ?_) | exact W_ret (RetP_1 (.imm rfl)) | exact W_ret (RetP_c rfl rfl rfl (.imm rfl)))
end Go.Proofs.YteiagmmfapbaiaaGreatDoor
