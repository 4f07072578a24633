/- Lemmas of the walk; no conditions beyond those that each states. -/
import Derived.Test.YteiagmmfapbaiaaGreatDoorProg
import Derived.KernelRfl
import Derived.Test.YteiagmmfapbaiaaGreatDoorT2
import Derived.Test.YteiagmmfapbaiaaGreatDoorT4
import Derived.Test.YteiagmmfapbaiaaGreatDoorN1
set_option linter.unusedSimpArgs false
set_option linter.unusedVariables false
set_option linter.unnecessarySimpa false
namespace Go.Proofs.YteiagmmfapbaiaaGreatDoor
open Go Go.Dat Go.Proofs
noncomputable def fnlqRationalMakes : FnD := ⟨Tryz.prog, [0, 1, 2, 3, 4, 5, 6, 7, 8, 18], [], 43, 0, false⟩
def codelqRationalMakes : DC := (.seq (.reg [⟨(.x 2), .box (.x 0), none⟩,⟨(.x 3), .box (.x 1), none⟩,⟨(.x 4), .mv (.c (.bool false)), none⟩]) (.seq (.seq (.reg [⟨(.t 9), .fad 1 (.x 2), none⟩,⟨(.t 10), .ld (.t 9), none⟩,⟨(.t 11), .len 1 (.t 10), none⟩,⟨(.t 12), .bin .gtr (.t 11) (.c (.int .i64 8)), none⟩,⟨(.t 13), .mv (.t 12), none⟩,⟨(.t 14), .fad 1 (.x 3), (some ((.t 13), false))⟩,⟨(.t 15), .ld (.t 14), (some ((.t 13), false))⟩,⟨(.t 16), .len 1 (.t 15), (some ((.t 13), false))⟩,⟨(.t 17), .bin .gtr (.t 16) (.c (.int .i64 8)), (some ((.t 13), false))⟩,⟨(.x 18), .pick (.t 13) (.c (.bool true)) (.t 17), none⟩]) (.cond (.x 18) (.seq (.reg [⟨(.t 19), .call 13 [], none⟩,⟨(.x 4), .mv (.t 19), none⟩]) .ret) .skip)) (.seq (.reg [⟨(.t 21), .ldn 2 (.x 2), none⟩,⟨(.t 22), .ldn 2 (.x 3), none⟩,⟨(.t 23), .call 14 [(.t 21), (.t 22)], none⟩,⟨(.t 20), .mv (.t 23), none⟩,⟨(.t 24), .ext (.t 20) 0, none⟩,⟨(.t 25), .ext (.t 20) 1, none⟩,⟨(.x 5), .alloc [(.bool false), .nils, .nils], none⟩,⟨.no, .stn 3 (.x 5) (.t 24), none⟩,⟨(.x 6), .mv (.t 25), none⟩]) (.seq (.reg [⟨(.t 27), .ldn 2 (.x 2), none⟩,⟨(.t 28), .ldn 2 (.x 3), none⟩,⟨(.t 29), .call 15 [(.t 27), (.t 28)], none⟩,⟨(.t 26), .mv (.t 29), none⟩,⟨(.t 30), .ext (.t 26) 0, none⟩,⟨(.t 31), .ext (.t 26) 1, none⟩,⟨(.x 7), .alloc [(.bool false), .nils, .nils], none⟩,⟨.no, .stn 3 (.x 7) (.t 30), none⟩,⟨(.x 8), .mv (.t 31), none⟩]) (.seq (.reg [⟨(.t 32), .call 13 [], none⟩,⟨(.t 33), .mv (.t 32), none⟩,⟨(.t 34), .ldn 3 (.x 5), (some ((.t 33), true))⟩,⟨(.t 35), .ldn 3 (.x 7), (some ((.t 33), true))⟩,⟨(.t 36), .call 16 [(.t 34), (.t 35)], (some ((.t 33), true))⟩,⟨(.t 37), .pick (.t 33) (.t 36) (.c (.bool false)), none⟩,⟨(.t 38), .mv (.t 37), none⟩,⟨(.t 39), .mv (.x 6), (some ((.t 38), true))⟩,⟨(.t 40), .mv (.x 8), (some ((.t 38), true))⟩,⟨(.t 41), .bin .eql (.t 39) (.t 40), (some ((.t 38), true))⟩,⟨(.t 42), .pick (.t 38) (.t 41) (.c (.bool false)), none⟩,⟨(.x 4), .mv (.t 42), none⟩]) .ret)))))
def reslqRationalMakes : List RV := [.t 4]
theorem nblqRationalMakes : fnlqRationalMakes.nb = 0 := rfl
theorem islqRationalMakes : IsFn fnlqRationalMakes 3 codelqRationalMakes reslqRationalMakes := ⟨⟨Tryz.f3, _, Tryz.func3, rfl, rfl, by kernel_rfl, by kernel_rfl, by kernel_rfl⟩⟩
end Go.Proofs.YteiagmmfapbaiaaGreatDoor
namespace Go.Proofs.YteiagmmfapbaiaaGreatDoor
open Go Go.Dat Go.Proofs Nat32 Go.RowKit
open Go.Lib (decDigits repeatL)
theorem mkR_cases (x y : Int) : (y = 0 ∧ mkR x y = .tup [Q 0, .int .i64 5]) ∨ (y ≠ 0 ∧ mkR x y = .tup [Q (Rat.divInt x y), .int .i64 0]) := by
  unfold mkR
  by_cases h : y = 0
  · exact .inl ⟨h, by rw [if_pos h]⟩
  · exact .inr ⟨h, by rw [if_neg h]⟩
theorem RB0 : RB 0 900 := ⟨by rw [show (0 : Rat).num.natAbs = 0 from rfl, limbs_zero]; simp, by rw [show (0 : Rat).den = 1 from rfl]; exact limbs1_le (by decide)⟩
set_option maxHeartbeats 1000000 in
theorem lqMakes_calls (n1 : Bool) (a : List Nat) (n2 : Bool) (b : List Nat) (la : lim a) (lb : lim b) : PCalls Tryz.prog 3 [X n1 a, X n2 b] (.bool true) := by
  have aw := lq_awake_calls
  refine PCalls_of islqRationalMakes (by simp [fnlqRationalMakes]) ?_
  unfold codelqRationalMakes
  by_cases h1 : 8 < a.length
  · have d1 : decide ((8 : Int) < a.length) = true := decide_eq_true (by omega)
    repeat (first | (refine W_seq ?_) | (refine W_reg ?_) | (refine W_regd ?_) | (refine W_block ?_) | (refine And.intro (by omega) ?_) | simp (maxSteps := 1000000) (disch := omega) only [cA, cB, lk, lkH, Dst.onT, Dst.onX, Dst.slot, setF, setH, mapF, mapH, initF, binE, unE, cnt, boundE, newsE, freshE, opE, rmH, blkQ, frz_us, Nat.reduceEqDiff, Nat.reduceLT, Nat.reduceAdd, ↓reduceIte, reduceCtorEq, Nat.reduceLeDiff, X, cS, nblqRationalMakes, us_length, d1])
    refine W_cond rfl (fun _ => ?_) (fun h => by cases h)
    repeat (first | (refine W_seq ?_) | (refine W_reg ?_) | (refine W_regd ?_) | (refine W_block ?_) | (refine And.intro (by omega) ?_) | simp (maxSteps := 1000000) (disch := omega) only [cA, cB, lk, lkH, Dst.onT, Dst.onX, Dst.slot, setF, setH, mapF, mapH, initF, binE, unE, cnt, boundE, newsE, freshE, opE, rmH, blkQ, frz_us, Nat.reduceEqDiff, Nat.reduceLT, Nat.reduceAdd, ↓reduceIte, reduceCtorEq, Nat.reduceLeDiff, cS] | (refine callC_pure (aw) rfl ?_) | exact W_ret (RetP_1 (.imm rfl)) | exact W_ret (RetP_c rfl rfl rfl (.imm rfl)))
  · have d1 : decide ((8 : Int) < a.length) = false := decide_eq_false (by omega)
    by_cases h2 : 8 < b.length
    · have d2 : decide ((8 : Int) < b.length) = true := decide_eq_true (by omega)
      repeat (first | (refine W_seq ?_) | (refine W_reg ?_) | (refine W_regd ?_) | (refine W_block ?_) | (refine And.intro (by omega) ?_) | simp (maxSteps := 1000000) (disch := omega) only [cA, cB, lk, lkH, Dst.onT, Dst.onX, Dst.slot, setF, setH, mapF, mapH, initF, binE, unE, cnt, boundE, newsE, freshE, opE, rmH, blkQ, frz_us, Nat.reduceEqDiff, Nat.reduceLT, Nat.reduceAdd, ↓reduceIte, reduceCtorEq, Nat.reduceLeDiff, X, cS, nblqRationalMakes, us_length, d1, d2])
      refine W_cond rfl (fun _ => ?_) (fun h => by cases h)
      repeat (first | (refine W_seq ?_) | (refine W_reg ?_) | (refine W_regd ?_) | (refine W_block ?_) | (refine And.intro (by omega) ?_) | simp (maxSteps := 1000000) (disch := omega) only [cA, cB, lk, lkH, Dst.onT, Dst.onX, Dst.slot, setF, setH, mapF, mapH, initF, binE, unE, cnt, boundE, newsE, freshE, opE, rmH, blkQ, frz_us, Nat.reduceEqDiff, Nat.reduceLT, Nat.reduceAdd, ↓reduceIte, reduceCtorEq, Nat.reduceLeDiff, cS] | (refine callC_pure (aw) rfl ?_) | exact W_ret (RetP_1 (.imm rfl)) | exact W_ret (RetP_c rfl rfl rfl (.imm rfl)))
    · have d2 : decide ((8 : Int) < b.length) = false := decide_eq_false (by omega)
      have c1 := qMake_calls n1 a n2 b (by omega) (by omega) la lb
      have c2 := pMake_calls n1 a n2 b (by omega) (by omega) la lb
      rcases mkR_cases (iv n1 a) (iv n2 b) with ⟨h0, e⟩ | ⟨h0, e⟩
      · rw [e] at c1 c2
        have cs := pSameT 0 RB0
        repeat (first | (refine W_seq ?_) | (refine W_reg ?_) | (refine W_regd ?_) | (refine W_block ?_) | (refine And.intro (by omega) ?_) | simp (maxSteps := 1000000) (disch := omega) only [cA, cB, lk, lkH, Dst.onT, Dst.onX, Dst.slot, setF, setH, mapF, mapH, initF, binE, unE, cnt, boundE, newsE, freshE, opE, rmH, blkQ, frz_us, Nat.reduceEqDiff, Nat.reduceLT, Nat.reduceAdd, ↓reduceIte, reduceCtorEq, Nat.reduceLeDiff, X, cS, nblqRationalMakes, us_length, d1, d2])
        refine W_cond rfl (fun h => by cases h) (fun _ => W_skip ?_)
        clear h0 e
        generalize (0 : Rat) = z at *
        repeat (first | (refine W_seq ?_) | (refine W_reg ?_) | (refine W_regd ?_) | (refine W_block ?_) | (refine And.intro (by omega) ?_) | simp (maxSteps := 1000000) (disch := omega) only [cA, cB, lk, lkH, Dst.onT, Dst.onX, Dst.slot, setF, setH, mapF, mapH, initF, binE, unE, cnt, boundE, newsE, freshE, opE, rmH, blkQ, frz_us, Nat.reduceEqDiff, Nat.reduceLT, Nat.reduceAdd, ↓reduceIte, reduceCtorEq, Nat.reduceLeDiff, Q, cS, cT, nblqRationalMakes, decide_true] | (refine callC_pure (aw) rfl ?_) | (refine callC_pure (c1) rfl ?_) | (refine callC_pure (c2) rfl ?_) | (refine callC_pure (cs) rfl ?_) | exact W_ret (RetP_1 (.imm rfl)) | exact W_ret (RetP_c rfl rfl rfl (.imm rfl)))
      · rw [e] at c1 c2
        have cs := pSameT (Rat.divInt (iv n1 a) (iv n2 b)) (RB_divInt h0 (Nat.le_trans (iv_len la n1) (by omega)) (Nat.le_trans (iv_len lb n2) (by omega)))
        repeat (first | (refine W_seq ?_) | (refine W_reg ?_) | (refine W_regd ?_) | (refine W_block ?_) | (refine And.intro (by omega) ?_) | simp (maxSteps := 1000000) (disch := omega) only [cA, cB, lk, lkH, Dst.onT, Dst.onX, Dst.slot, setF, setH, mapF, mapH, initF, binE, unE, cnt, boundE, newsE, freshE, opE, rmH, blkQ, frz_us, Nat.reduceEqDiff, Nat.reduceLT, Nat.reduceAdd, ↓reduceIte, reduceCtorEq, Nat.reduceLeDiff, X, cS, nblqRationalMakes, us_length, d1, d2])
        refine W_cond rfl (fun h => by cases h) (fun _ => W_skip ?_)
        clear h0 e
        generalize Rat.divInt (iv n1 a) (iv n2 b) = z at *
        repeat (first | (refine W_seq ?_) | (refine W_reg ?_) | (refine W_regd ?_) | (refine W_block ?_) | (refine And.intro (by omega) ?_) | simp (maxSteps := 1000000) (disch := omega) only [cA, cB, lk, lkH, Dst.onT, Dst.onX, Dst.slot, setF, setH, mapF, mapH, initF, binE, unE, cnt, boundE, newsE, freshE, opE, rmH, blkQ, frz_us, Nat.reduceEqDiff, Nat.reduceLT, Nat.reduceAdd, ↓reduceIte, reduceCtorEq, Nat.reduceLeDiff, Q, cS, cT, nblqRationalMakes, decide_true] | (refine callC_pure (aw) rfl ?_) | (refine callC_pure (c1) rfl ?_) | (refine callC_pure (c2) rfl ?_) | (refine callC_pure (cs) rfl ?_) | exact W_ret (RetP_1 (.imm rfl)) | exact W_ret (RetP_c rfl rfl rfl (.imm rfl)))
end Go.Proofs.YteiagmmfapbaiaaGreatDoor
