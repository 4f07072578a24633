/- Lemmas of the walk; no conditions beyond those that each states. -/
import Derived.Test.YteiagmmfapbaiaaGreatDoorProg
import Derived.KernelRfl
import Derived.Test.YteiagmmfapbaiaaGreatDoorT2
import Derived.Test.YteiagmmfapbaiaaGreatDoorT4
import Derived.Test.YteiagmmfapbaiaaGreatDoorN1
set_option linter.unusedSimpArgs false
set_option linter.unusedVariables false
set_option linter.unnecessarySimpa false
namespace Go.Proofs.YteiagmmfapbaiaaGreatDoor
open Go Go.Dat Go.Proofs
noncomputable def fnlqRationalCalculates : FnD := ⟨Tryz.prog, [0, 1, 2, 3, 4, 5, 6, 7, 8, 16], [], 68, 0, false⟩
def codelqRationalCalculates : DC := (.seq (.reg [⟨(.x 2), .box (.x 0), none⟩,⟨(.x 3), .box (.x 1), none⟩,⟨(.x 4), .mv (.c (.bool false)), none⟩]) (.seq (.seq (.reg [⟨(.t 9), .ldn 3 (.x 2), none⟩,⟨(.t 10), .call 17 [(.t 9)], none⟩,⟨(.t 11), .un .not (.t 10), none⟩,⟨(.t 12), .mv (.t 11), none⟩,⟨(.t 13), .ldn 3 (.x 3), (some ((.t 12), false))⟩,⟨(.t 14), .call 17 [(.t 13)], (some ((.t 12), false))⟩,⟨(.t 15), .un .not (.t 14), (some ((.t 12), false))⟩,⟨(.x 16), .pick (.t 12) (.c (.bool true)) (.t 15), none⟩]) (.cond (.x 16) (.seq (.reg [⟨(.t 17), .call 13 [], none⟩,⟨(.x 4), .mv (.t 17), none⟩]) .ret) .skip)) (.seq (.reg [⟨(.t 19), .ldn 3 (.x 2), none⟩,⟨(.t 20), .ldn 3 (.x 3), none⟩,⟨(.t 21), .call 31 [(.t 19), (.t 20)], none⟩,⟨(.t 18), .mv (.t 21), none⟩,⟨(.t 22), .ext (.t 18) 0, none⟩,⟨(.t 23), .ext (.t 18) 1, none⟩,⟨(.x 5), .alloc [(.bool false), .nils, .nils], none⟩,⟨.no, .stn 3 (.x 5) (.t 22), none⟩,⟨(.x 6), .mv (.t 23), none⟩]) (.seq (.reg [⟨(.t 25), .ldn 3 (.x 2), none⟩,⟨(.t 26), .ldn 3 (.x 3), none⟩,⟨(.t 27), .call 32 [(.t 25), (.t 26)], none⟩,⟨(.t 24), .mv (.t 27), none⟩,⟨(.t 28), .ext (.t 24) 0, none⟩,⟨(.t 29), .ext (.t 24) 1, none⟩,⟨(.x 7), .alloc [(.bool false), .nils, .nils], none⟩,⟨.no, .stn 3 (.x 7) (.t 28), none⟩,⟨(.x 8), .mv (.t 29), none⟩]) (.seq (.regd [⟨(.t 30), .call 13 [], none⟩,⟨(.t 31), .mv (.t 30), none⟩,⟨(.t 32), .ldn 3 (.x 2), (some ((.t 31), true))⟩,⟨(.t 33), .ldn 3 (.x 3), (some ((.t 31), true))⟩,⟨(.t 34), .call 33 [(.t 32), (.t 33)], (some ((.t 31), true))⟩,⟨(.t 35), .ldn 3 (.x 2), (some ((.t 31), true))⟩,⟨(.t 36), .ldn 3 (.x 3), (some ((.t 31), true))⟩,⟨(.t 37), .call 34 [(.t 35), (.t 36)], (some ((.t 31), true))⟩,⟨(.t 38), .call 16 [(.t 34), (.t 37)], (some ((.t 31), true))⟩,⟨(.t 39), .pick (.t 31) (.t 38) (.c (.bool false)), none⟩,⟨(.t 40), .mv (.t 39), none⟩,⟨(.t 41), .ldn 3 (.x 2), (some ((.t 40), true))⟩,⟨(.t 42), .ldn 3 (.x 3), (some ((.t 40), true))⟩,⟨(.t 43), .call 35 [(.t 41), (.t 42)], (some ((.t 40), true))⟩,⟨(.t 44), .ldn 3 (.x 2), (some ((.t 40), true))⟩,⟨(.t 45), .ldn 3 (.x 3), (some ((.t 40), true))⟩,⟨(.t 46), .call 36 [(.t 44), (.t 45)], (some ((.t 40), true))⟩,⟨(.t 47), .call 16 [(.t 43), (.t 46)], (some ((.t 40), true))⟩,⟨(.t 48), .pick (.t 40) (.t 47) (.c (.bool false)), none⟩,⟨(.t 49), .mv (.t 48), none⟩,⟨(.t 50), .ldn 3 (.x 2), (some ((.t 49), true))⟩,⟨(.t 51), .ldn 3 (.x 3), (some ((.t 49), true))⟩,⟨(.t 52), .call 37 [(.t 50), (.t 51)], (some ((.t 49), true))⟩,⟨(.t 53), .ldn 3 (.x 2), (some ((.t 49), true))⟩,⟨(.t 54), .ldn 3 (.x 3), (some ((.t 49), true))⟩,⟨(.t 55), .call 38 [(.t 53), (.t 54)], (some ((.t 49), true))⟩,⟨(.t 56), .call 16 [(.t 52), (.t 55)], (some ((.t 49), true))⟩,⟨(.t 57), .pick (.t 49) (.t 56) (.c (.bool false)), none⟩,⟨(.t 58), .mv (.t 57), none⟩,⟨(.t 59), .ldn 3 (.x 5), (some ((.t 58), true))⟩,⟨(.t 60), .ldn 3 (.x 7), (some ((.t 58), true))⟩,⟨(.t 61), .call 16 [(.t 59), (.t 60)], (some ((.t 58), true))⟩,⟨(.t 62), .pick (.t 58) (.t 61) (.c (.bool false)), none⟩,⟨(.t 63), .mv (.t 62), none⟩,⟨(.t 64), .mv (.x 6), (some ((.t 63), true))⟩,⟨(.t 65), .mv (.x 8), (some ((.t 63), true))⟩,⟨(.t 66), .bin .eql (.t 64) (.t 65), (some ((.t 63), true))⟩,⟨(.t 67), .pick (.t 63) (.t 66) (.c (.bool false)), none⟩,⟨(.x 4), .mv (.t 67), none⟩]) .ret)))))
def reslqRationalCalculates : List RV := [.t 4]
theorem nblqRationalCalculates : fnlqRationalCalculates.nb = 0 := rfl
theorem islqRationalCalculates : IsFn fnlqRationalCalculates 7 codelqRationalCalculates reslqRationalCalculates := ⟨⟨Tryz.f7, _, Tryz.func7, rfl, rfl, by kernel_rfl, by kernel_rfl, by kernel_rfl⟩⟩
end Go.Proofs.YteiagmmfapbaiaaGreatDoor
namespace Go.Proofs.YteiagmmfapbaiaaGreatDoor
open Go Go.Dat Go.Proofs Nat32 Go.RowKit
open Go.Lib (decDigits repeatL)
def lightB (a d : List Nat) : Bool := decide (a.length ≤ 8) && decide (d.length ≤ 8)
theorem mdLight_calls (neg : Bool) (a d : List Nat) : PCalls Tryz.prog 17 [XQ neg a d] (.bool (lightB a d)) := by
  have k1 : decide ((a.length : Int) ≤ 8) = decide (a.length ≤ 8) := by rw [decide_eq_decide]; omega
  have k2 : decide ((d.length : Int) ≤ 8) = decide (d.length ≤ 8) := by rw [decide_eq_decide]; omega
  refine PCalls_of ismdLight (by simp [fnmdLight]) ?_
  unfold codemdLight lightB
  by_cases h : a.length ≤ 8
  · rw [decide_eq_true h] at k1 ⊢
    repeat (first | (refine W_seq ?_) | (refine W_reg ?_) | (refine W_regd ?_) | (refine W_block ?_) | (refine And.intro (by omega) ?_) | simp (maxSteps := 1000000) (disch := omega) only [cA, cB, lk, lkH, Dst.onT, Dst.onX, Dst.slot, setF, setH, mapF, mapH, initF, binE, unE, cnt, boundE, newsE, freshE, opE, rmH, blkQ, frz_us, Nat.reduceEqDiff, Nat.reduceLT, Nat.reduceAdd, ↓reduceIte, reduceCtorEq, Nat.reduceLeDiff, XQ, cS, nbmdLight, us_length, k1, k2, Bool.true_and])
    exact W_ret (RetP_1 (.imm rfl))
  · rw [decide_eq_false h] at k1 ⊢
    repeat (first | (refine W_seq ?_) | (refine W_reg ?_) | (refine W_regd ?_) | (refine W_block ?_) | (refine And.intro (by omega) ?_) | simp (maxSteps := 1000000) (disch := omega) only [cA, cB, lk, lkH, Dst.onT, Dst.onX, Dst.slot, setF, setH, mapF, mapH, initF, binE, unE, cnt, boundE, newsE, freshE, opE, rmH, blkQ, frz_us, Nat.reduceEqDiff, Nat.reduceLT, Nat.reduceAdd, ↓reduceIte, reduceCtorEq, Nat.reduceLeDiff, XQ, cS, nbmdLight, us_length, k1, k2, Bool.false_and])
    exact W_ret (RetP_1 (.imm rfl))
theorem lightB_spec {a d : List Nat} (h : lightB a d = true) : a.length ≤ 8 ∧ d.length ≤ 8 := by
  unfold lightB at h; simpa using h
theorem RB_light {neg : Bool} {a d : List Nat} (h : lightB a d = true) (la : lim a) (ld : lim d) : RB (rv neg a d) 8 :=
  RB_rv la ld (lightB_spec h).1 (lightB_spec h).2 (by decide)
theorem RB0 : RB 0 900 := ⟨by rw [show (0 : Rat).num.natAbs = 0 from rfl, limbs_zero]; simp, by rw [show (0 : Rat).den = 1 from rfl]; exact limbs1_le (by decide)⟩
theorem divR_cases (x y : Rat) : (y = 0 ∧ divR x y = .tup [Q 0, .int .i64 5]) ∨ (y ≠ 0 ∧ divR x y = .tup [Q (x / y), .int .i64 0]) := by
  unfold divR
  by_cases h : y = 0
  · exact .inl ⟨h, by rw [if_pos h]⟩
  · exact .inr ⟨h, by rw [if_neg h]⟩
set_option maxHeartbeats 2000000 in
theorem lqCalculates_calls (n1 : Bool) (a d : List Nat) (n2 : Bool) (b e : List Nat) (la : lim a) (ld : lim d) (lb : lim b) (le : lim e) : PCalls Tryz.prog 7 [XQ n1 a d, XQ n2 b e] (.bool true) := by
  have aw := lq_awake_calls
  have g1 := mdLight_calls n1 a d
  have g2 := mdLight_calls n2 b e
  refine PCalls_of islqRationalCalculates (by simp [fnlqRationalCalculates]) ?_
  unfold codelqRationalCalculates
  cases h1 : lightB a d
  · rw [h1] at g1
    repeat (first | (refine W_seq ?_) | (refine W_reg ?_) | (refine W_regd ?_) | (refine W_block ?_) | (refine And.intro (by omega) ?_) | simp (maxSteps := 1000000) (disch := omega) only [cA, cB, lk, lkH, Dst.onT, Dst.onX, Dst.slot, setF, setH, mapF, mapH, initF, binE, unE, cnt, boundE, newsE, freshE, opE, rmH, blkQ, frz_us, Nat.reduceEqDiff, Nat.reduceLT, Nat.reduceAdd, ↓reduceIte, reduceCtorEq, Nat.reduceLeDiff, XQ, cS, nblqRationalCalculates] | (refine callC_pure (g1) rfl ?_) | (refine callC_pure (g2) rfl ?_) | exact W_ret (RetP_1 (.imm rfl)) | exact W_ret (RetP_c rfl rfl rfl (.imm rfl)))
    refine W_cond rfl (fun _ => ?_) (fun h => by cases h)
    repeat (first | (refine W_seq ?_) | (refine W_reg ?_) | (refine W_regd ?_) | (refine W_block ?_) | (refine And.intro (by omega) ?_) | simp (maxSteps := 1000000) (disch := omega) only [cA, cB, lk, lkH, Dst.onT, Dst.onX, Dst.slot, setF, setH, mapF, mapH, initF, binE, unE, cnt, boundE, newsE, freshE, opE, rmH, blkQ, frz_us, Nat.reduceEqDiff, Nat.reduceLT, Nat.reduceAdd, ↓reduceIte, reduceCtorEq, Nat.reduceLeDiff, cS] | (refine callC_pure (aw) rfl ?_) | exact W_ret (RetP_1 (.imm rfl)) | exact W_ret (RetP_c rfl rfl rfl (.imm rfl)))
  · rw [h1] at g1
    cases h2 : lightB b e
    · rw [h2] at g2
      repeat (first | (refine W_seq ?_) | (refine W_reg ?_) | (refine W_regd ?_) | (refine W_block ?_) | (refine And.intro (by omega) ?_) | simp (maxSteps := 1000000) (disch := omega) only [cA, cB, lk, lkH, Dst.onT, Dst.onX, Dst.slot, setF, setH, mapF, mapH, initF, binE, unE, cnt, boundE, newsE, freshE, opE, rmH, blkQ, frz_us, Nat.reduceEqDiff, Nat.reduceLT, Nat.reduceAdd, ↓reduceIte, reduceCtorEq, Nat.reduceLeDiff, XQ, cS, nblqRationalCalculates] | (refine callC_pure (g1) rfl ?_) | (refine callC_pure (g2) rfl ?_) | exact W_ret (RetP_1 (.imm rfl)) | exact W_ret (RetP_c rfl rfl rfl (.imm rfl)))
      refine W_cond rfl (fun _ => ?_) (fun h => by cases h)
      repeat (first | (refine W_seq ?_) | (refine W_reg ?_) | (refine W_regd ?_) | (refine W_block ?_) | (refine And.intro (by omega) ?_) | simp (maxSteps := 1000000) (disch := omega) only [cA, cB, lk, lkH, Dst.onT, Dst.onX, Dst.slot, setF, setH, mapF, mapH, initF, binE, unE, cnt, boundE, newsE, freshE, opE, rmH, blkQ, frz_us, Nat.reduceEqDiff, Nat.reduceLT, Nat.reduceAdd, ↓reduceIte, reduceCtorEq, Nat.reduceLeDiff, cS] | (refine callC_pure (aw) rfl ?_) | exact W_ret (RetP_1 (.imm rfl)) | exact W_ret (RetP_c rfl rfl rfl (.imm rfl)))
    · rw [h2] at g2
      obtain ⟨k1, k2⟩ := lightB_spec h1
      obtain ⟨k3, k4⟩ := lightB_spec h2
      have r1 := RB_light (neg := n1) h1 la ld
      have r2 := RB_light (neg := n2) h2 lb le
      have q1 := qDiv_calls n1 a d n2 b e (by omega) (by omega) (by omega) (by omega) la ld lb le
      have p1 := pDiv_calls n1 a d n2 b e (by omega) (by omega) (by omega) (by omega) la ld lb le
      have q2 := qAdd_calls n1 a d n2 b e (by omega) (by omega) (by omega) (by omega) la ld lb le
      have p2 := pAdd_calls n1 a d n2 b e (by omega) (by omega) (by omega) (by omega) la ld lb le
      have q3 := qSub_calls n1 a d n2 b e (by omega) (by omega) (by omega) (by omega) la ld lb le
      have p3 := pSub_calls n1 a d n2 b e (by omega) (by omega) (by omega) (by omega) la ld lb le
      have q4 := qMul_calls n1 a d n2 b e (by omega) (by omega) (by omega) (by omega) la ld lb le
      have p4 := pMul_calls n1 a d n2 b e (by omega) (by omega) (by omega) (by omega) la ld lb le
      generalize rv n1 a d = x at *
      generalize rv n2 b e = y at *
      have s2 := pSameT (x + y) ((RB_add r1 r2).mono (by decide))
      have s3 := pSameT (x - y) ((RB_sub r1 r2).mono (by decide))
      have s4 := pSameT (x * y) ((RB_mul r1 r2).mono (by decide))
      clear h1 h2 k1 k2 k3 k4
      rcases divR_cases x y with ⟨h0, e'⟩ | ⟨h0, e'⟩
      · rw [e'] at q1 p1
        have s1 := pSameT 0 RB0
        clear h0 e' r1 r2
        generalize x + y = z2 at *
        generalize x - y = z3 at *
        generalize x * y = z4 at *
        generalize (0 : Rat) = z1 at *
        repeat (first | (refine W_seq ?_) | (refine W_reg ?_) | (refine W_regd ?_) | (refine W_block ?_) | (refine And.intro (by omega) ?_) | simp (maxSteps := 1000000) (disch := omega) only [cA, cB, lk, lkH, Dst.onT, Dst.onX, Dst.slot, setF, setH, mapF, mapH, initF, binE, unE, cnt, boundE, newsE, freshE, opE, rmH, blkQ, frz_us, Nat.reduceEqDiff, Nat.reduceLT, Nat.reduceAdd, ↓reduceIte, reduceCtorEq, Nat.reduceLeDiff, XQ, cS, nblqRationalCalculates] | (refine callC_pure (g1) rfl ?_) | (refine callC_pure (g2) rfl ?_) | exact W_ret (RetP_1 (.imm rfl)) | exact W_ret (RetP_c rfl rfl rfl (.imm rfl)))
        refine W_cond rfl (fun h => by cases h) (fun _ => W_skip ?_)
        repeat (first | (refine W_seq ?_) | (refine W_reg ?_) | (refine W_regd ?_) | (refine W_block ?_) | (refine And.intro (by omega) ?_) | simp (maxSteps := 1000000) (disch := omega) only [cA, cB, lk, lkH, Dst.onT, Dst.onX, Dst.slot, setF, setH, mapF, mapH, initF, binE, unE, cnt, boundE, newsE, freshE, opE, rmH, blkQ, frz_us, Nat.reduceEqDiff, Nat.reduceLT, Nat.reduceAdd, ↓reduceIte, reduceCtorEq, Nat.reduceLeDiff, XQ, Q, cS, cT, nblqRationalCalculates, decide_true] | (refine callC_pure (q1) rfl ?_) | (refine callC_pure (p1) rfl ?_) | (refine callC_pure (aw) rfl ?_) | (refine callC_pure (q2) rfl ?_) | (refine callC_pure (p2) rfl ?_) | (refine callC_pure (s2) rfl ?_) | (refine callC_pure (q3) rfl ?_) | (refine callC_pure (p3) rfl ?_) | (refine callC_pure (s3) rfl ?_) | (refine callC_pure (q4) rfl ?_) | (refine callC_pure (p4) rfl ?_) | (refine callC_pure (s4) rfl ?_) | (refine callC_pure (s1) rfl ?_) | exact W_ret (RetP_1 (.imm rfl)) | exact W_ret (RetP_c rfl rfl rfl (.imm rfl)))
      · rw [e'] at q1 p1
        have s1 := pSameT (x / y) ((RB_div h0 r1 r2).mono (by decide))
        clear h0 e' r1 r2
        generalize x + y = z2 at *
        generalize x - y = z3 at *
        generalize x * y = z4 at *
        generalize x / y = z1 at *
        repeat (first | (refine W_seq ?_) | (refine W_reg ?_) | (refine W_regd ?_) | (refine W_block ?_) | (refine And.intro (by omega) ?_) | simp (maxSteps := 1000000) (disch := omega) only [cA, cB, lk, lkH, Dst.onT, Dst.onX, Dst.slot, setF, setH, mapF, mapH, initF, binE, unE, cnt, boundE, newsE, freshE, opE, rmH, blkQ, frz_us, Nat.reduceEqDiff, Nat.reduceLT, Nat.reduceAdd, ↓reduceIte, reduceCtorEq, Nat.reduceLeDiff, XQ, cS, nblqRationalCalculates] | (refine callC_pure (g1) rfl ?_) | (refine callC_pure (g2) rfl ?_) | exact W_ret (RetP_1 (.imm rfl)) | exact W_ret (RetP_c rfl rfl rfl (.imm rfl)))
        refine W_cond rfl (fun h => by cases h) (fun _ => W_skip ?_)
        repeat (first | (refine W_seq ?_) | (refine W_reg ?_) | (refine W_regd ?_) | (refine W_block ?_) | (refine And.intro (by omega) ?_) | simp (maxSteps := 1000000) (disch := omega) only [cA, cB, lk, lkH, Dst.onT, Dst.onX, Dst.slot, setF, setH, mapF, mapH, initF, binE, unE, cnt, boundE, newsE, freshE, opE, rmH, blkQ, frz_us, Nat.reduceEqDiff, Nat.reduceLT, Nat.reduceAdd, ↓reduceIte, reduceCtorEq, Nat.reduceLeDiff, XQ, Q, cS, cT, nblqRationalCalculates, decide_true] | (refine callC_pure (q1) rfl ?_) | (refine callC_pure (p1) rfl ?_) | (refine callC_pure (aw) rfl ?_) | (refine callC_pure (q2) rfl ?_) | (refine callC_pure (p2) rfl ?_) | (refine callC_pure (s2) rfl ?_) | (refine callC_pure (q3) rfl ?_) | (refine callC_pure (p3) rfl ?_) | (refine callC_pure (s3) rfl ?_) | (refine callC_pure (q4) rfl ?_) | (refine callC_pure (p4) rfl ?_) | (refine callC_pure (s4) rfl ?_) | (refine callC_pure (s1) rfl ?_) | exact W_ret (RetP_1 (.imm rfl)) | exact W_ret (RetP_c rfl rfl rfl (.imm rfl)))
end Go.Proofs.YteiagmmfapbaiaaGreatDoor
