/- Lemmas of the walk; no conditions beyond those that each states. -/
import Derived.Test.YteiagmmfapbaiaaGreatDoorProg
import Derived.KernelRfl
import Derived.Test.YteiagmmfapbaiaaGreatDoorT2
import Derived.Test.YteiagmmfapbaiaaGreatDoorT4
import Derived.Test.YteiagmmfapbaiaaGreatDoorN1
set_option linter.unusedSimpArgs false
set_option linter.unusedVariables false
set_option linter.unnecessarySimpa false
namespace Go.Proofs.YteiagmmfapbaiaaGreatDoor
open Go Go.Dat Go.Proofs
noncomputable def fnlqRationalIsAField : FnD := ⟨Tryz.prog, [0, 1, 2, 3, 4, 5, 6, 7, 8, 30, 52], [], 120, 0, false⟩
def codelqRationalIsAField : DC := (.seq (.reg [⟨(.x 3), .box (.x 0), none⟩,⟨(.x 4), .box (.x 1), none⟩,⟨(.x 5), .box (.x 2), none⟩,⟨(.x 6), .mv (.c (.bool false)), none⟩]) (.seq (.seq (.reg [⟨(.t 9), .ldn 3 (.x 3), none⟩,⟨(.t 10), .ldn 3 (.x 4), none⟩,⟨(.t 11), .ldn 3 (.x 5), none⟩,⟨(.t 12), .call 39 [(.t 9), (.t 10), (.t 11)], none⟩,⟨(.t 13), .un .not (.t 12), none⟩,⟨(.t 14), .mv (.t 13), none⟩,⟨(.t 15), .fad 0 (.x 3), (some ((.t 14), false))⟩,⟨(.t 16), .fad 1 (.t 15), (some ((.t 14), false))⟩,⟨(.t 17), .ld (.t 16), (some ((.t 14), false))⟩,⟨(.t 18), .len 1 (.t 17), (some ((.t 14), false))⟩,⟨(.t 19), .fad 0 (.x 4), (some ((.t 14), false))⟩,⟨(.t 20), .fad 1 (.t 19), (some ((.t 14), false))⟩,⟨(.t 21), .ld (.t 20), (some ((.t 14), false))⟩,⟨(.t 22), .len 1 (.t 21), (some ((.t 14), false))⟩,⟨(.t 23), .bin .add (.t 18) (.t 22), (some ((.t 14), false))⟩,⟨(.t 24), .fad 0 (.x 5), (some ((.t 14), false))⟩,⟨(.t 25), .fad 1 (.t 24), (some ((.t 14), false))⟩,⟨(.t 26), .ld (.t 25), (some ((.t 14), false))⟩,⟨(.t 27), .len 1 (.t 26), (some ((.t 14), false))⟩,⟨(.t 28), .bin .add (.t 23) (.t 27), (some ((.t 14), false))⟩,⟨(.t 29), .bin .gtr (.t 28) (.c (.int .i64 9)), (some ((.t 14), false))⟩,⟨(.x 30), .pick (.t 14) (.c (.bool true)) (.t 29), none⟩]) (.cond (.x 30) (.seq (.reg [⟨(.t 31), .call 13 [], none⟩,⟨(.x 6), .mv (.t 31), none⟩]) .ret) .skip)) (.seq (.seq (.regd [⟨(.t 33), .ldn 3 (.x 3), none⟩,⟨(.t 34), .ldn 3 (.x 4), none⟩,⟨(.t 35), .call 37 [(.t 33), (.t 34)], none⟩,⟨(.t 36), .ldn 3 (.x 4), none⟩,⟨(.t 37), .call 31 [(.t 35), (.t 36)], none⟩,⟨(.t 32), .mv (.t 37), none⟩,⟨(.t 38), .ext (.t 32) 0, none⟩,⟨(.t 39), .ext (.t 32) 1, none⟩,⟨(.x 7), .alloc [(.bool false), .nils, .nils], none⟩,⟨.no, .stn 3 (.x 7) (.t 38), none⟩,⟨(.x 8), .mv (.t 39), none⟩]) (.seq (.reg [⟨(.t 40), .ldn 3 (.x 4), none⟩,⟨(.t 41), .call 40 [(.t 40)], none⟩,⟨(.t 42), .bin .neq (.t 41) (.c (.int .i64 0)), none⟩,⟨(.t 43), .mv (.t 42), none⟩,⟨(.t 44), .mv (.x 8), (some ((.t 43), true))⟩,⟨(.t 45), .bin .neq (.t 44) (.c (.int .i64 0)), (some ((.t 43), true))⟩,⟨(.t 46), .mv (.t 45), (some ((.t 43), true))⟩,⟨(.t 47), .ldn 3 (.x 7), (some ((.t 46), false))⟩,⟨(.t 48), .ldn 3 (.x 3), (some ((.t 46), false))⟩,⟨(.t 49), .call 16 [(.t 47), (.t 48)], (some ((.t 46), false))⟩,⟨(.t 50), .un .not (.t 49), (some ((.t 46), false))⟩,⟨(.t 51), .pick (.t 46) (.c (.bool true)) (.t 50), (some ((.t 43), true))⟩,⟨(.x 52), .pick (.t 43) (.t 51) (.c (.bool false)), none⟩]) (.cond (.x 52) (.seq (.reg [⟨(.x 6), .mv (.c (.bool false)), none⟩]) .ret) .skip))) (.seq (.regd [⟨(.t 53), .call 13 [], none⟩,⟨(.t 54), .mv (.t 53), none⟩,⟨(.t 55), .ldn 3 (.x 3), (some ((.t 54), true))⟩,⟨(.t 56), .ldn 3 (.x 4), (some ((.t 54), true))⟩,⟨(.t 57), .call 33 [(.t 55), (.t 56)], (some ((.t 54), true))⟩,⟨(.t 58), .ldn 3 (.x 4), (some ((.t 54), true))⟩,⟨(.t 59), .ldn 3 (.x 3), (some ((.t 54), true))⟩,⟨(.t 60), .call 33 [(.t 58), (.t 59)], (some ((.t 54), true))⟩,⟨(.t 61), .call 16 [(.t 57), (.t 60)], (some ((.t 54), true))⟩,⟨(.t 62), .pick (.t 54) (.t 61) (.c (.bool false)), none⟩,⟨(.t 63), .mv (.t 62), none⟩,⟨(.t 64), .ldn 3 (.x 3), (some ((.t 63), true))⟩,⟨(.t 65), .ldn 3 (.x 4), (some ((.t 63), true))⟩,⟨(.t 66), .call 37 [(.t 64), (.t 65)], (some ((.t 63), true))⟩,⟨(.t 67), .ldn 3 (.x 4), (some ((.t 63), true))⟩,⟨(.t 68), .ldn 3 (.x 3), (some ((.t 63), true))⟩,⟨(.t 69), .call 37 [(.t 67), (.t 68)], (some ((.t 63), true))⟩,⟨(.t 70), .call 16 [(.t 66), (.t 69)], (some ((.t 63), true))⟩,⟨(.t 71), .pick (.t 63) (.t 70) (.c (.bool false)), none⟩,⟨(.t 72), .mv (.t 71), none⟩,⟨(.t 73), .ldn 3 (.x 3), (some ((.t 72), true))⟩,⟨(.t 74), .ldn 3 (.x 4), (some ((.t 72), true))⟩,⟨(.t 75), .call 33 [(.t 73), (.t 74)], (some ((.t 72), true))⟩,⟨(.t 76), .ldn 3 (.x 5), (some ((.t 72), true))⟩,⟨(.t 77), .call 33 [(.t 75), (.t 76)], (some ((.t 72), true))⟩,⟨(.t 78), .ldn 3 (.x 3), (some ((.t 72), true))⟩,⟨(.t 79), .ldn 3 (.x 4), (some ((.t 72), true))⟩,⟨(.t 80), .ldn 3 (.x 5), (some ((.t 72), true))⟩,⟨(.t 81), .call 33 [(.t 79), (.t 80)], (some ((.t 72), true))⟩,⟨(.t 82), .call 33 [(.t 78), (.t 81)], (some ((.t 72), true))⟩,⟨(.t 83), .call 16 [(.t 77), (.t 82)], (some ((.t 72), true))⟩,⟨(.t 84), .pick (.t 72) (.t 83) (.c (.bool false)), none⟩,⟨(.t 85), .mv (.t 84), none⟩,⟨(.t 86), .ldn 3 (.x 3), (some ((.t 85), true))⟩,⟨(.t 87), .ldn 3 (.x 4), (some ((.t 85), true))⟩,⟨(.t 88), .call 37 [(.t 86), (.t 87)], (some ((.t 85), true))⟩,⟨(.t 89), .ldn 3 (.x 5), (some ((.t 85), true))⟩,⟨(.t 90), .call 37 [(.t 88), (.t 89)], (some ((.t 85), true))⟩,⟨(.t 91), .ldn 3 (.x 3), (some ((.t 85), true))⟩,⟨(.t 92), .ldn 3 (.x 4), (some ((.t 85), true))⟩,⟨(.t 93), .ldn 3 (.x 5), (some ((.t 85), true))⟩,⟨(.t 94), .call 37 [(.t 92), (.t 93)], (some ((.t 85), true))⟩,⟨(.t 95), .call 37 [(.t 91), (.t 94)], (some ((.t 85), true))⟩,⟨(.t 96), .call 16 [(.t 90), (.t 95)], (some ((.t 85), true))⟩,⟨(.t 97), .pick (.t 85) (.t 96) (.c (.bool false)), none⟩,⟨(.t 98), .mv (.t 97), none⟩,⟨(.t 99), .ldn 3 (.x 3), (some ((.t 98), true))⟩,⟨(.t 100), .ldn 3 (.x 4), (some ((.t 98), true))⟩,⟨(.t 101), .ldn 3 (.x 5), (some ((.t 98), true))⟩,⟨(.t 102), .call 33 [(.t 100), (.t 101)], (some ((.t 98), true))⟩,⟨(.t 103), .call 37 [(.t 99), (.t 102)], (some ((.t 98), true))⟩,⟨(.t 104), .ldn 3 (.x 3), (some ((.t 98), true))⟩,⟨(.t 105), .ldn 3 (.x 4), (some ((.t 98), true))⟩,⟨(.t 106), .call 37 [(.t 104), (.t 105)], (some ((.t 98), true))⟩,⟨(.t 107), .ldn 3 (.x 3), (some ((.t 98), true))⟩,⟨(.t 108), .ldn 3 (.x 5), (some ((.t 98), true))⟩,⟨(.t 109), .call 37 [(.t 107), (.t 108)], (some ((.t 98), true))⟩,⟨(.t 110), .call 33 [(.t 106), (.t 109)], (some ((.t 98), true))⟩,⟨(.t 111), .call 16 [(.t 103), (.t 110)], (some ((.t 98), true))⟩,⟨(.t 112), .pick (.t 98) (.t 111) (.c (.bool false)), none⟩,⟨(.t 113), .mv (.t 112), none⟩,⟨(.t 114), .ldn 3 (.x 3), (some ((.t 113), true))⟩,⟨(.t 115), .ldn 3 (.x 3), (some ((.t 113), true))⟩,⟨(.t 116), .call 35 [(.t 114), (.t 115)], (some ((.t 113), true))⟩,⟨(.t 117), .call 41 [(.t 116)], (some ((.t 113), true))⟩,⟨(.t 118), .bin .eql (.t 117) (.c (.int .i64 0)), (some ((.t 113), true))⟩,⟨(.t 119), .pick (.t 113) (.t 118) (.c (.bool false)), none⟩,⟨(.x 6), .mv (.t 119), none⟩]) .ret))))
def reslqRationalIsAField : List RV := [.t 6]
theorem nblqRationalIsAField : fnlqRationalIsAField.nb = 0 := rfl
theorem islqRationalIsAField : IsFn fnlqRationalIsAField 8 codelqRationalIsAField reslqRationalIsAField := ⟨⟨Tryz.f8, _, Tryz.func8, rfl, rfl, by kernel_rfl, by kernel_rfl, by kernel_rfl⟩⟩
end Go.Proofs.YteiagmmfapbaiaaGreatDoor
namespace Go.Proofs.YteiagmmfapbaiaaGreatDoor
open Go Go.Dat Go.Proofs Nat32 Go.RowKit
open Go.Lib (decDigits repeatL)
def lightB (a d : List Nat) : Bool := decide (a.length ≤ 8) && decide (d.length ≤ 8)
theorem mdLight_calls (neg : Bool) (a d : List Nat) : PCalls Tryz.prog 17 [XQ neg a d] (.bool (lightB a d)) := by
  have k1 : decide ((a.length : Int) ≤ 8) = decide (a.length ≤ 8) := by rw [decide_eq_decide]; omega
  have k2 : decide ((d.length : Int) ≤ 8) = decide (d.length ≤ 8) := by rw [decide_eq_decide]; omega
  refine PCalls_of ismdLight (by simp [fnmdLight]) ?_
  unfold codemdLight lightB
  by_cases h : a.length ≤ 8
  · rw [decide_eq_true h] at k1 ⊢
    repeat (first | (refine W_seq ?_) | (refine W_reg ?_) | (refine W_regd ?_) | (refine W_block ?_) | (refine And.intro (by omega) ?_) | simp (maxSteps := 1000000) (disch := omega) only [cA, cB, lk, lkH, Dst.onT, Dst.onX, Dst.slot, setF, setH, mapF, mapH, initF, binE, unE, cnt, boundE, newsE, freshE, opE, rmH, blkQ, frz_us, Nat.reduceEqDiff, Nat.reduceLT, Nat.reduceAdd, ↓reduceIte, reduceCtorEq, Nat.reduceLeDiff, XQ, cS, nbmdLight, us_length, k1, k2, Bool.true_and])
    exact W_ret (RetP_1 (.imm rfl))
  · rw [decide_eq_false h] at k1 ⊢
    repeat (first | (refine W_seq ?_) | (refine W_reg ?_) | (refine W_regd ?_) | (refine W_block ?_) | (refine And.intro (by omega) ?_) | simp (maxSteps := 1000000) (disch := omega) only [cA, cB, lk, lkH, Dst.onT, Dst.onX, Dst.slot, setF, setH, mapF, mapH, initF, binE, unE, cnt, boundE, newsE, freshE, opE, rmH, blkQ, frz_us, Nat.reduceEqDiff, Nat.reduceLT, Nat.reduceAdd, ↓reduceIte, reduceCtorEq, Nat.reduceLeDiff, XQ, cS, nbmdLight, us_length, k1, k2, Bool.false_and])
    exact W_ret (RetP_1 (.imm rfl))
theorem lightB_spec {a d : List Nat} (h : lightB a d = true) : a.length ≤ 8 ∧ d.length ≤ 8 := by
  unfold lightB at h; simpa using h
theorem RB_light {neg : Bool} {a d : List Nat} (h : lightB a d = true) (la : lim a) (ld : lim d) : RB (rv neg a d) 8 :=
  RB_rv la ld (lightB_spec h).1 (lightB_spec h).2 (by decide)
theorem RB0 : RB 0 900 := ⟨by rw [show (0 : Rat).num.natAbs = 0 from rfl, limbs_zero]; simp, by rw [show (0 : Rat).den = 1 from rfl]; exact limbs1_le (by decide)⟩
theorem divR_cases (x y : Rat) : (y = 0 ∧ divR x y = .tup [Q 0, .int .i64 5]) ∨ (y ≠ 0 ∧ divR x y = .tup [Q (x / y), .int .i64 0]) := by
  unfold divR
  by_cases h : y = 0
  · exact .inl ⟨h, by rw [if_pos h]⟩
  · exact .inr ⟨h, by rw [if_neg h]⟩
end Go.Proofs.YteiagmmfapbaiaaGreatDoor
namespace Go.Proofs.YteiagmmfapbaiaaGreatDoor
open Go Go.Dat Go.Proofs Nat32 Go.RowKit
open Go.Lib (decDigits repeatL)
def fairQ (n1 : Bool) (a d : List Nat) (n2 : Bool) (b e : List Nat) (n3 : Bool) (c f : List Nat) : Bool :=
  lightB a d && (lightB b e && (lightB c f && (vldQ n1 a d && (vldQ n2 b e && vldQ n3 c f))))
theorem lq_fair_calls (n1 : Bool) (a d : List Nat) (n2 : Bool) (b e : List Nat) (n3 : Bool) (c f : List Nat) (la : lim a) (ld : lim d) (lb : lim b) (le : lim e) (lc : lim c) (lf : lim f) :
    PCalls Tryz.prog 39 [XQ n1 a d, XQ n2 b e, XQ n3 c f] (.bool (fairQ n1 a d n2 b e n3 c f)) := by
  have g1 := mdLight_calls n1 a d
  have g2 := mdLight_calls n2 b e
  have g3 := mdLight_calls n3 c f
  refine PCalls_of islq_fair (by simp [fnlq_fair]) ?_
  unfold codelq_fair fairQ
  cases h1 : lightB a d
  · rw [h1] at g1
    simp only [Bool.false_and]
    repeat (first | (refine W_seq ?_) | (refine W_reg ?_) | (refine W_regd ?_) | (refine W_block ?_) | (refine And.intro (by omega) ?_) | simp (maxSteps := 1000000) (disch := omega) only [cA, cB, lk, lkH, Dst.onT, Dst.onX, Dst.slot, setF, setH, mapF, mapH, initF, binE, unE, cnt, boundE, newsE, freshE, opE, rmH, blkQ, frz_us, Nat.reduceEqDiff, Nat.reduceLT, Nat.reduceAdd, ↓reduceIte, reduceCtorEq, Nat.reduceLeDiff, XQ, cS, nblq_fair] | (refine callC_pure (g1) rfl ?_) | exact W_ret (RetP_1 (.imm rfl)) | exact W_ret (RetP_c rfl rfl rfl (.imm rfl)))
  · rw [h1] at g1
    simp only [Bool.true_and]
    cases h2 : lightB b e
    · rw [h2] at g2
      simp only [Bool.false_and]
      repeat (first | (refine W_seq ?_) | (refine W_reg ?_) | (refine W_regd ?_) | (refine W_block ?_) | (refine And.intro (by omega) ?_) | simp (maxSteps := 1000000) (disch := omega) only [cA, cB, lk, lkH, Dst.onT, Dst.onX, Dst.slot, setF, setH, mapF, mapH, initF, binE, unE, cnt, boundE, newsE, freshE, opE, rmH, blkQ, frz_us, Nat.reduceEqDiff, Nat.reduceLT, Nat.reduceAdd, ↓reduceIte, reduceCtorEq, Nat.reduceLeDiff, XQ, cS, nblq_fair] | (refine callC_pure (g1) rfl ?_) | (refine callC_pure (g2) rfl ?_) | exact W_ret (RetP_1 (.imm rfl)) | exact W_ret (RetP_c rfl rfl rfl (.imm rfl)))
    · rw [h2] at g2
      simp only [Bool.true_and]
      cases h3 : lightB c f
      · rw [h3] at g3
        simp only [Bool.false_and]
        repeat (first | (refine W_seq ?_) | (refine W_reg ?_) | (refine W_regd ?_) | (refine W_block ?_) | (refine And.intro (by omega) ?_) | simp (maxSteps := 1000000) (disch := omega) only [cA, cB, lk, lkH, Dst.onT, Dst.onX, Dst.slot, setF, setH, mapF, mapH, initF, binE, unE, cnt, boundE, newsE, freshE, opE, rmH, blkQ, frz_us, Nat.reduceEqDiff, Nat.reduceLT, Nat.reduceAdd, ↓reduceIte, reduceCtorEq, Nat.reduceLeDiff, XQ, cS, nblq_fair] | (refine callC_pure (g1) rfl ?_) | (refine callC_pure (g2) rfl ?_) | (refine callC_pure (g3) rfl ?_) | exact W_ret (RetP_1 (.imm rfl)) | exact W_ret (RetP_c rfl rfl rfl (.imm rfl)))
      · rw [h3] at g3
        simp only [Bool.true_and]
        obtain ⟨k1, k2⟩ := lightB_spec h1
        obtain ⟨k3, k4⟩ := lightB_spec h2
        obtain ⟨k5, k6⟩ := lightB_spec h3
        have v1 := pValid_calls n1 a d (by omega) (by omega) la ld
        have v2 := pValid_calls n2 b e (by omega) (by omega) lb le
        have v3 := pValid_calls n3 c f (by omega) (by omega) lc lf
        generalize vldQ n1 a d = p1 at *
        generalize vldQ n2 b e = p2 at *
        generalize vldQ n3 c f = p3 at *
        cases p1
        · simp only [Bool.false_and]
          repeat (first | (refine W_seq ?_) | (refine W_reg ?_) | (refine W_regd ?_) | (refine W_block ?_) | (refine And.intro (by omega) ?_) | simp (maxSteps := 1000000) (disch := omega) only [cA, cB, lk, lkH, Dst.onT, Dst.onX, Dst.slot, setF, setH, mapF, mapH, initF, binE, unE, cnt, boundE, newsE, freshE, opE, rmH, blkQ, frz_us, Nat.reduceEqDiff, Nat.reduceLT, Nat.reduceAdd, ↓reduceIte, reduceCtorEq, Nat.reduceLeDiff, XQ, cS, nblq_fair] | (refine callC_pure (g1) rfl ?_) | (refine callC_pure (g2) rfl ?_) | (refine callC_pure (g3) rfl ?_) | (refine callC_pure (v1) rfl ?_) | exact W_ret (RetP_1 (.imm rfl)) | exact W_ret (RetP_c rfl rfl rfl (.imm rfl)))
        · simp only [Bool.true_and]
          cases p2
          · simp only [Bool.false_and]
            repeat (first | (refine W_seq ?_) | (refine W_reg ?_) | (refine W_regd ?_) | (refine W_block ?_) | (refine And.intro (by omega) ?_) | simp (maxSteps := 1000000) (disch := omega) only [cA, cB, lk, lkH, Dst.onT, Dst.onX, Dst.slot, setF, setH, mapF, mapH, initF, binE, unE, cnt, boundE, newsE, freshE, opE, rmH, blkQ, frz_us, Nat.reduceEqDiff, Nat.reduceLT, Nat.reduceAdd, ↓reduceIte, reduceCtorEq, Nat.reduceLeDiff, XQ, cS, nblq_fair] | (refine callC_pure (g1) rfl ?_) | (refine callC_pure (g2) rfl ?_) | (refine callC_pure (g3) rfl ?_) | (refine callC_pure (v1) rfl ?_) | (refine callC_pure (v2) rfl ?_) | exact W_ret (RetP_1 (.imm rfl)) | exact W_ret (RetP_c rfl rfl rfl (.imm rfl)))
          · simp only [Bool.true_and]
            repeat (first | (refine W_seq ?_) | (refine W_reg ?_) | (refine W_regd ?_) | (refine W_block ?_) | (refine And.intro (by omega) ?_) | simp (maxSteps := 1000000) (disch := omega) only [cA, cB, lk, lkH, Dst.onT, Dst.onX, Dst.slot, setF, setH, mapF, mapH, initF, binE, unE, cnt, boundE, newsE, freshE, opE, rmH, blkQ, frz_us, Nat.reduceEqDiff, Nat.reduceLT, Nat.reduceAdd, ↓reduceIte, reduceCtorEq, Nat.reduceLeDiff, XQ, cS, nblq_fair] | (refine callC_pure (g1) rfl ?_) | (refine callC_pure (g2) rfl ?_) | (refine callC_pure (g3) rfl ?_) | (refine callC_pure (v1) rfl ?_) | (refine callC_pure (v2) rfl ?_) | (refine callC_pure (v3) rfl ?_) | exact W_ret (RetP_1 (.imm rfl)) | exact W_ret (RetP_c rfl rfl rfl (.imm rfl)))
theorem fairQ_spec {n1 : Bool} {a d : List Nat} {n2 : Bool} {b e : List Nat} {n3 : Bool} {c f : List Nat} (h : fairQ n1 a d n2 b e n3 c f = true) :
    lightB a d = true ∧ lightB b e = true ∧ lightB c f = true ∧ vldQ n1 a d = true ∧ vldQ n2 b e = true ∧ vldQ n3 c f = true := by
  unfold fairQ at h
  simp only [Bool.and_eq_true] at h
  exact h
end Go.Proofs.YteiagmmfapbaiaaGreatDoor
namespace Go.Proofs.YteiagmmfapbaiaaGreatDoor
open Go Go.Dat Go.Proofs Nat32 Go.RowKit
open Go.Lib (decDigits repeatL)
theorem pSameE (x y : Rat) (h : x = y) {m : Nat} (h1 : RB x m) (hm : m ≤ 900) : PCalls Tryz.prog 16 [Q x, Q y] (.bool true) := by
  subst h; exact pSameT x (h1.mono hm)
set_option maxHeartbeats 4000000 in
theorem lqField_calls (n1 : Bool) (a d : List Nat) (n2 : Bool) (b e : List Nat) (n3 : Bool) (c f : List Nat) (la : lim a) (ld : lim d) (lb : lim b) (le : lim e) (lc : lim c) (lf : lim f) :
    PCalls Tryz.prog 8 [XQ n1 a d, XQ n2 b e, XQ n3 c f] (.bool true) := by
  have aw := lq_awake_calls
  have cf := lq_fair_calls n1 a d n2 b e n3 c f la ld lb le lc lf
  refine PCalls_of islqRationalIsAField (by simp [fnlqRationalIsAField]) ?_
  cases hf : fairQ n1 a d n2 b e n3 c f
  · rw [hf] at cf
    unfold codelqRationalIsAField
    repeat (first | (refine W_seq ?_) | (refine W_reg ?_) | (refine W_regd ?_) | (refine W_block ?_) | (refine And.intro (by omega) ?_) | simp (maxSteps := 1000000) (disch := omega) only [cA, cB, lk, lkH, Dst.onT, Dst.onX, Dst.slot, setF, setH, mapF, mapH, initF, binE, unE, cnt, boundE, newsE, freshE, opE, rmH, blkQ, frz_us, Nat.reduceEqDiff, Nat.reduceLT, Nat.reduceAdd, ↓reduceIte, reduceCtorEq, Nat.reduceLeDiff, XQ, cS, nblqRationalIsAField] | (refine callC_pure (cf) rfl ?_) | exact W_ret (RetP_1 (.imm rfl)) | exact W_ret (RetP_c rfl rfl rfl (.imm rfl)))
    refine W_cond rfl (fun _ => ?_) (fun h => by cases h)
    repeat (first | (refine W_seq ?_) | (refine W_reg ?_) | (refine W_regd ?_) | (refine W_block ?_) | (refine And.intro (by omega) ?_) | simp (maxSteps := 1000000) (disch := omega) only [cA, cB, lk, lkH, Dst.onT, Dst.onX, Dst.slot, setF, setH, mapF, mapH, initF, binE, unE, cnt, boundE, newsE, freshE, opE, rmH, blkQ, frz_us, Nat.reduceEqDiff, Nat.reduceLT, Nat.reduceAdd, ↓reduceIte, reduceCtorEq, Nat.reduceLeDiff, cS] | (refine callC_pure (aw) rfl ?_) | exact W_ret (RetP_1 (.imm rfl)) | exact W_ret (RetP_c rfl rfl rfl (.imm rfl)))
  · rw [hf] at cf
    obtain ⟨h1, h2, h3, v1, v2, v3⟩ := fairQ_spec hf
    have r1 := RB_light (neg := n1) h1 la ld
    have r2 := RB_light (neg := n2) h2 lb le
    have r3 := RB_light (neg := n3) h3 lc lf
    rw [XQ_Q la ld v1, XQ_Q lb le v2, XQ_Q lc lf v3] at cf ⊢
    generalize rv n1 a d = x at *
    generalize rv n2 b e = y at *
    generalize rv n3 c f = z at *
    clear hf h1 h2 h3 v1 v2 v3
    clear la ld lb le lc lf
    by_cases h9 : 9 < (limbs x.num.natAbs).length + (limbs y.num.natAbs).length + (limbs z.num.natAbs).length
    · have d9 : decide ((9 : Int) < ((limbs x.num.natAbs).length : Int) + ((limbs y.num.natAbs).length : Int) + ((limbs z.num.natAbs).length : Int)) = true := decide_eq_true (by omega)
      obtain ⟨r11, _⟩ := r1
      obtain ⟨r21, _⟩ := r2
      obtain ⟨r31, _⟩ := r3
      unfold codelqRationalIsAField
      repeat (first | (refine W_seq ?_) | (refine W_reg ?_) | (refine W_regd ?_) | (refine W_block ?_) | (refine And.intro (by omega) ?_) | simp (maxSteps := 1000000) (disch := omega) only [cA, cB, lk, lkH, Dst.onT, Dst.onX, Dst.slot, setF, setH, mapF, mapH, initF, binE, unE, cnt, boundE, newsE, freshE, opE, rmH, blkQ, frz_us, Nat.reduceEqDiff, Nat.reduceLT, Nat.reduceAdd, ↓reduceIte, reduceCtorEq, Nat.reduceLeDiff, Q, cS, nblqRationalIsAField, us_length, d9] | (refine callC_pure (cf) rfl ?_) | exact W_ret (RetP_1 (.imm rfl)) | exact W_ret (RetP_c rfl rfl rfl (.imm rfl)))
      refine W_cond rfl (fun _ => ?_) (fun h => by cases h)
      repeat (first | (refine W_seq ?_) | (refine W_reg ?_) | (refine W_regd ?_) | (refine W_block ?_) | (refine And.intro (by omega) ?_) | simp (maxSteps := 1000000) (disch := omega) only [cA, cB, lk, lkH, Dst.onT, Dst.onX, Dst.slot, setF, setH, mapF, mapH, initF, binE, unE, cnt, boundE, newsE, freshE, opE, rmH, blkQ, frz_us, Nat.reduceEqDiff, Nat.reduceLT, Nat.reduceAdd, ↓reduceIte, reduceCtorEq, Nat.reduceLeDiff, cS] | (refine callC_pure (aw) rfl ?_) | exact W_ret (RetP_1 (.imm rfl)) | exact W_ret (RetP_c rfl rfl rfl (.imm rfl)))
    · have d9 : decide ((9 : Int) < ((limbs x.num.natAbs).length : Int) + ((limbs y.num.natAbs).length : Int) + ((limbs z.num.natAbs).length : Int)) = false := decide_eq_false (by omega)
      have xy := RB_add r1 r2
      have yx := RB_add r2 r1
      have yz := RB_add r2 r3
      have mxy := RB_mul r1 r2
      have myx := RB_mul r2 r1
      have myz := RB_mul r2 r3
      have mxz := RB_mul r1 r3
      have k1 := pSameE (x + y) (y + x) (Rat.add_comm x y) xy (by decide)
      have k2 := pSameE (x * y) (y * x) (Rat.mul_comm x y) mxy (by decide)
      have k3 := pSameE (x + y + z) (x + (y + z)) (Rat.add_assoc x y z) (RB_add xy r3) (by decide)
      have k4 := pSameE (x * y * z) (x * (y * z)) (Rat.mul_assoc x y z) (RB_mul mxy r3) (by decide)
      have k5 := pSameE (x * (y + z)) (x * y + x * z) (Rat.mul_add x y z) (RB_mul r1 yz) (by decide)
      have a1 := qAddL x y (r1.mono (by decide)) (r2.mono (by decide))
      have a2 := qAddL y x (r2.mono (by decide)) (r1.mono (by decide))
      have a3 := qMulL x y (r1.mono (by decide)) (r2.mono (by decide))
      have a4 := qMulL y x (r2.mono (by decide)) (r1.mono (by decide))
      have a5 := qAddL (x + y) z (xy.mono (by decide)) (r3.mono (by decide))
      have a6 := qAddL y z (r2.mono (by decide)) (r3.mono (by decide))
      have a7 := qAddL x (y + z) (r1.mono (by decide)) (yz.mono (by decide))
      have a8 := qMulL (x * y) z (mxy.mono (by decide)) (r3.mono (by decide))
      have a9 := qMulL y z (r2.mono (by decide)) (r3.mono (by decide))
      have a10 := qMulL x (y * z) (r1.mono (by decide)) (myz.mono (by decide))
      have a11 := qMulL x (y + z) (r1.mono (by decide)) (yz.mono (by decide))
      have a12 := qMulL x z (r1.mono (by decide)) (r3.mono (by decide))
      have a13 := qAddL (x * y) (x * z) (mxy.mono (by decide)) (mxz.mono (by decide))
      have a14 := qSubL x x (r1.mono (by decide)) (r1.mono (by decide))
      rw [Rat.sub_self] at a14
      have a15 := qSignL 0 (RB0.mono (by decide))
      have e15 : decide ((0 : Rat).num.sign = 0) = true := rfl
      have c1 := qDiv_calls (decide ((x * y).num < 0)) (limbs (x * y).num.natAbs) (dn (x * y).den) (decide (y.num < 0)) (limbs y.num.natAbs) (dn y.den) (Nat.le_trans mxy.1 (by decide)) (Nat.le_trans (RB_dn mxy) (by decide)) (Nat.le_trans r2.1 (by decide)) (Nat.le_trans (RB_dn r2) (by decide)) (lim_limbs _) (lim_dn _) (lim_limbs _) (lim_dn _)
      rw [rv_Q, rv_Q, ← Q_XQ, ← Q_XQ] at c1
      have c2 := pSignL y (r2.mono (by decide))
      have e2 := sign0 y
      have e2n : decide (¬ y.num.sign = 0) = !decide (y = 0) := by
        rw [← e2]
        by_cases h : y.num.sign = 0
        · rw [decide_eq_true h, decide_eq_false (fun k => k h)]; rfl
        · rw [decide_eq_false h, decide_eq_true h]; rfl
      obtain ⟨q11, _⟩ := r1
      obtain ⟨q21, _⟩ := r2
      obtain ⟨q31, _⟩ := r3
      have hdiv : y ≠ 0 → x * y / y = x := fun h => Rat.mul_div_cancel h
      have ks := pSameT x
      clear xy yx yz mxy myx myz mxz e2
      generalize x + y + z = z1 at *
      generalize x + (y + z) = z2 at *
      generalize x * y * z = z3 at *
      generalize x * (y * z) = z4 at *
      generalize x * (y + z) = z5 at *
      generalize x * y + x * z = z6 at *
      generalize x + y = z7 at *
      generalize y + x = z8 at *
      generalize y + z = z9 at *
      generalize hxy : x * y = z10 at *
      generalize y * x = z11 at *
      generalize y * z = z12 at *
      generalize x * z = z13 at *
      rcases divR_cases z10 y with ⟨h0, e'⟩ | ⟨h0, e'⟩
      · rw [e'] at c1
        rw [decide_eq_true h0] at e2n
        clear hdiv ks h0 e' hxy
        unfold codelqRationalIsAField
        repeat (first | (refine W_seq ?_) | (refine W_reg ?_) | (refine W_regd ?_) | (refine W_block ?_) | (refine And.intro (by omega) ?_) | simp (maxSteps := 1000000) (disch := omega) only [cA, cB, lk, lkH, Dst.onT, Dst.onX, Dst.slot, setF, setH, mapF, mapH, initF, binE, unE, cnt, boundE, newsE, freshE, opE, rmH, blkQ, frz_us, Nat.reduceEqDiff, Nat.reduceLT, Nat.reduceAdd, ↓reduceIte, reduceCtorEq, Nat.reduceLeDiff, Q, cS, nblqRationalIsAField, us_length, d9] | (refine callC_pure (cf) rfl ?_) | exact W_ret (RetP_1 (.imm rfl)) | exact W_ret (RetP_c rfl rfl rfl (.imm rfl)))
        refine W_cond rfl (fun h => by cases h) (fun _ => W_skip ?_)
        repeat (first | (refine W_seq ?_) | (refine W_reg ?_) | (refine W_regd ?_) | (refine W_block ?_) | (refine And.intro (by omega) ?_) | simp (maxSteps := 1000000) (disch := omega) only [cA, cB, lk, lkH, Dst.onT, Dst.onX, Dst.slot, setF, setH, mapF, mapH, initF, binE, unE, cnt, boundE, newsE, freshE, opE, rmH, blkQ, frz_us, Nat.reduceEqDiff, Nat.reduceLT, Nat.reduceAdd, ↓reduceIte, reduceCtorEq, Nat.reduceLeDiff, Q, cS, cT, nblqRationalIsAField, e2n, Bool.not_true] | (refine callC_pure (a3) rfl ?_) | (refine callC_pure (c1) rfl ?_) | (refine callC_pure (c2) rfl ?_) | exact W_ret (RetP_1 (.imm rfl)) | exact W_ret (RetP_c rfl rfl rfl (.imm rfl)))
        refine W_cond rfl (fun h => by cases h) (fun _ => W_skip ?_)
        repeat (first | (refine W_seq ?_) | (refine W_reg ?_) | (refine W_regd ?_) | (refine W_block ?_) | (refine And.intro (by omega) ?_) | simp (maxSteps := 1000000) (disch := omega) only [cA, cB, lk, lkH, Dst.onT, Dst.onX, Dst.slot, setF, setH, mapF, mapH, initF, binE, unE, cnt, boundE, newsE, freshE, opE, rmH, blkQ, frz_us, Nat.reduceEqDiff, Nat.reduceLT, Nat.reduceAdd, ↓reduceIte, reduceCtorEq, Nat.reduceLeDiff, Q, cS, cT, nblqRationalIsAField, decide_true, e15] | (refine callC_pure (aw) rfl ?_) | (refine callC_pure (a1) rfl ?_) | (refine callC_pure (a2) rfl ?_) | (refine callC_pure (k1) rfl ?_) | (refine callC_pure (a3) rfl ?_) | (refine callC_pure (a4) rfl ?_) | (refine callC_pure (k2) rfl ?_) | (refine callC_pure (a5) rfl ?_) | (refine callC_pure (a6) rfl ?_) | (refine callC_pure (a7) rfl ?_) | (refine callC_pure (k3) rfl ?_) | (refine callC_pure (a8) rfl ?_) | (refine callC_pure (a9) rfl ?_) | (refine callC_pure (a10) rfl ?_) | (refine callC_pure (k4) rfl ?_) | (refine callC_pure (a11) rfl ?_) | (refine callC_pure (a12) rfl ?_) | (refine callC_pure (a13) rfl ?_) | (refine callC_pure (k5) rfl ?_) | (refine callC_pure (a14) rfl ?_) | (refine callC_pure (a15) rfl ?_) | exact W_ret (RetP_1 (.imm rfl)) | exact W_ret (RetP_c rfl rfl rfl (.imm rfl)))
      · rw [e', ] at c1
        rw [decide_eq_false h0] at e2n
        rw [show z10 / y = x by rw [← hxy]; exact Rat.mul_div_cancel h0] at c1
        have d5 : decide (¬ ((0 : Int) = 0)) = false := rfl
        have ks := ks ⟨Nat.le_trans q11 (by decide), Nat.le_trans (by assumption) (show 8 ≤ 900 by decide)⟩
        clear hdiv h0 e' hxy
        unfold codelqRationalIsAField
        repeat (first | (refine W_seq ?_) | (refine W_reg ?_) | (refine W_regd ?_) | (refine W_block ?_) | (refine And.intro (by omega) ?_) | simp (maxSteps := 1000000) (disch := omega) only [cA, cB, lk, lkH, Dst.onT, Dst.onX, Dst.slot, setF, setH, mapF, mapH, initF, binE, unE, cnt, boundE, newsE, freshE, opE, rmH, blkQ, frz_us, Nat.reduceEqDiff, Nat.reduceLT, Nat.reduceAdd, ↓reduceIte, reduceCtorEq, Nat.reduceLeDiff, Q, cS, nblqRationalIsAField, us_length, d9] | (refine callC_pure (cf) rfl ?_) | exact W_ret (RetP_1 (.imm rfl)) | exact W_ret (RetP_c rfl rfl rfl (.imm rfl)))
        refine W_cond rfl (fun h => by cases h) (fun _ => W_skip ?_)
        repeat (first | (refine W_seq ?_) | (refine W_reg ?_) | (refine W_regd ?_) | (refine W_block ?_) | (refine And.intro (by omega) ?_) | simp (maxSteps := 1000000) (disch := omega) only [cA, cB, lk, lkH, Dst.onT, Dst.onX, Dst.slot, setF, setH, mapF, mapH, initF, binE, unE, cnt, boundE, newsE, freshE, opE, rmH, blkQ, frz_us, Nat.reduceEqDiff, Nat.reduceLT, Nat.reduceAdd, ↓reduceIte, reduceCtorEq, Nat.reduceLeDiff, Q, cS, cT, nblqRationalIsAField, e2n, not_true_eq_false, decide_false, Bool.not_false, Bool.not_true] | (refine callC_pure (a3) rfl ?_) | (refine callC_pure (c1) rfl ?_) | (refine callC_pure (c2) rfl ?_) | (refine callC_pure (ks) rfl ?_) | exact W_ret (RetP_1 (.imm rfl)) | exact W_ret (RetP_c rfl rfl rfl (.imm rfl)))
        refine W_cond rfl (fun h => by cases h) (fun _ => W_skip ?_)
        repeat (first | (refine W_seq ?_) | (refine W_reg ?_) | (refine W_regd ?_) | (refine W_block ?_) | (refine And.intro (by omega) ?_) | simp (maxSteps := 1000000) (disch := omega) only [cA, cB, lk, lkH, Dst.onT, Dst.onX, Dst.slot, setF, setH, mapF, mapH, initF, binE, unE, cnt, boundE, newsE, freshE, opE, rmH, blkQ, frz_us, Nat.reduceEqDiff, Nat.reduceLT, Nat.reduceAdd, ↓reduceIte, reduceCtorEq, Nat.reduceLeDiff, Q, cS, cT, nblqRationalIsAField, decide_true, e15] | (refine callC_pure (aw) rfl ?_) | (refine callC_pure (a1) rfl ?_) | (refine callC_pure (a2) rfl ?_) | (refine callC_pure (k1) rfl ?_) | (refine callC_pure (a3) rfl ?_) | (refine callC_pure (a4) rfl ?_) | (refine callC_pure (k2) rfl ?_) | (refine callC_pure (a5) rfl ?_) | (refine callC_pure (a6) rfl ?_) | (refine callC_pure (a7) rfl ?_) | (refine callC_pure (k3) rfl ?_) | (refine callC_pure (a8) rfl ?_) | (refine callC_pure (a9) rfl ?_) | (refine callC_pure (a10) rfl ?_) | (refine callC_pure (k4) rfl ?_) | (refine callC_pure (a11) rfl ?_) | (refine callC_pure (a12) rfl ?_) | (refine callC_pure (a13) rfl ?_) | (refine callC_pure (k5) rfl ?_) | (refine callC_pure (a14) rfl ?_) | (refine callC_pure (a15) rfl ?_) | exact W_ret (RetP_1 (.imm rfl)) | exact W_ret (RetP_c rfl rfl rfl (.imm rfl)))
end Go.Proofs.YteiagmmfapbaiaaGreatDoor
