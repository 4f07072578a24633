/- Lemmas of the walk; no conditions beyond those that each states. -/
import Derived.Test.YteiagmmfapbaiaaGreatDoorProg
import Derived.KernelRfl
import Derived.Test.YteiagmmfapbaiaaGreatDoorT2
import Derived.Test.YteiagmmfapbaiaaGreatDoorT4
import Derived.Test.YteiagmmfapbaiaaGreatDoorN1
set_option linter.unusedSimpArgs false
set_option linter.unusedVariables false
set_option linter.unnecessarySimpa false
namespace Go.Proofs.YteiagmmfapbaiaaGreatDoor
open Go Go.Dat Go.Proofs
noncomputable def fnlqRationalHasAFloor : FnD := ⟨Tryz.prog, [0, 1, 2, 3, 4, 12], [], 36, 0, false⟩
def codelqRationalHasAFloor : DC := (.seq (.reg [⟨(.x 1), .box (.x 0), none⟩,⟨(.x 2), .mv (.c (.bool false)), none⟩]) (.seq (.seq (.reg [⟨(.t 5), .ldn 3 (.x 1), none⟩,⟨(.t 6), .call 17 [(.t 5)], none⟩,⟨(.t 7), .un .not (.t 6), none⟩,⟨(.t 8), .mv (.t 7), none⟩,⟨(.t 9), .ldn 3 (.x 1), (some ((.t 8), false))⟩,⟨(.t 10), .call 30 [(.t 9)], (some ((.t 8), false))⟩,⟨(.t 11), .un .not (.t 10), (some ((.t 8), false))⟩,⟨(.x 12), .pick (.t 8) (.c (.bool true)) (.t 11), none⟩]) (.cond (.x 12) (.seq (.reg [⟨(.t 13), .call 13 [], none⟩,⟨(.x 2), .mv (.t 13), none⟩]) .ret) .skip)) (.seq (.reg [⟨(.t 14), .ldn 3 (.x 1), none⟩,⟨(.t 15), .call 52 [(.t 14)], none⟩,⟨(.t 16), .build [(.bool false), .nils, .nils] [(0, 2, (.t 15))], none⟩,⟨(.x 3), .alloc [(.bool false), .nils, .nils], none⟩,⟨.no, .stn 3 (.x 3) (.t 16), none⟩]) (.seq (.reg [⟨(.t 17), .ldn 3 (.x 1), none⟩,⟨(.t 18), .ldn 3 (.x 3), none⟩,⟨(.t 19), .call 35 [(.t 17), (.t 18)], none⟩,⟨(.x 4), .alloc [(.bool false), .nils, .nils], none⟩,⟨.no, .stn 3 (.x 4) (.t 19), none⟩]) (.seq (.regd [⟨(.t 20), .call 13 [], none⟩,⟨(.t 21), .mv (.t 20), none⟩,⟨(.t 22), .ldn 3 (.x 3), (some ((.t 21), true))⟩,⟨(.t 23), .call 30 [(.t 22)], (some ((.t 21), true))⟩,⟨(.t 24), .pick (.t 21) (.t 23) (.c (.bool false)), none⟩,⟨(.t 25), .mv (.t 24), none⟩,⟨(.t 26), .ldn 3 (.x 4), (some ((.t 25), true))⟩,⟨(.t 27), .call 41 [(.t 26)], (some ((.t 25), true))⟩,⟨(.t 28), .bin .geq (.t 27) (.c (.int .i64 0)), (some ((.t 25), true))⟩,⟨(.t 29), .pick (.t 25) (.t 28) (.c (.bool false)), none⟩,⟨(.t 30), .mv (.t 29), none⟩,⟨(.t 31), .ldn 3 (.x 4), (some ((.t 30), true))⟩,⟨(.t 32), .call 46 [(.c (.int .i64 1))], (some ((.t 30), true))⟩,⟨(.t 33), .call 42 [(.t 31), (.t 32)], (some ((.t 30), true))⟩,⟨(.t 34), .bin .lss (.t 33) (.c (.int .i64 0)), (some ((.t 30), true))⟩,⟨(.t 35), .pick (.t 30) (.t 34) (.c (.bool false)), none⟩,⟨(.x 2), .mv (.t 35), none⟩]) .ret)))))
def reslqRationalHasAFloor : List RV := [.t 2]
theorem nblqRationalHasAFloor : fnlqRationalHasAFloor.nb = 0 := rfl
theorem islqRationalHasAFloor : IsFn fnlqRationalHasAFloor 12 codelqRationalHasAFloor reslqRationalHasAFloor := ⟨⟨Tryz.f12, _, Tryz.func12, rfl, rfl, by kernel_rfl, by kernel_rfl, by kernel_rfl⟩⟩
end Go.Proofs.YteiagmmfapbaiaaGreatDoor
namespace Go.Proofs.YteiagmmfapbaiaaGreatDoor
open Go Go.Dat Go.Proofs Nat32 Go.RowKit
open Go.Lib (decDigits repeatL)
def lightB (a d : List Nat) : Bool := decide (a.length ≤ 8) && decide (d.length ≤ 8)
theorem mdLight_calls (neg : Bool) (a d : List Nat) : PCalls Tryz.prog 17 [XQ neg a d] (.bool (lightB a d)) := by
  have k1 : decide ((a.length : Int) ≤ 8) = decide (a.length ≤ 8) := by rw [decide_eq_decide]; omega
  have k2 : decide ((d.length : Int) ≤ 8) = decide (d.length ≤ 8) := by rw [decide_eq_decide]; omega
  refine PCalls_of ismdLight (by simp [fnmdLight]) ?_
  unfold codemdLight lightB
  by_cases h : a.length ≤ 8
  · rw [decide_eq_true h] at k1 ⊢
    repeat (first | (refine W_seq ?_) | (refine W_reg ?_) | (refine W_regd ?_) | (refine W_block ?_) | (refine And.intro (by omega) ?_) | simp (maxSteps := 1000000) (disch := omega) only [cA, cB, lk, lkH, Dst.onT, Dst.onX, Dst.slot, setF, setH, mapF, mapH, initF, binE, unE, cnt, boundE, newsE, freshE, opE, rmH, blkQ, frz_us, Nat.reduceEqDiff, Nat.reduceLT, Nat.reduceAdd, ↓reduceIte, reduceCtorEq, Nat.reduceLeDiff, XQ, cS, nbmdLight, us_length, k1, k2, Bool.true_and])
    exact W_ret (RetP_1 (.imm rfl))
  · rw [decide_eq_false h] at k1 ⊢
    repeat (first | (refine W_seq ?_) | (refine W_reg ?_) | (refine W_regd ?_) | (refine W_block ?_) | (refine And.intro (by omega) ?_) | simp (maxSteps := 1000000) (disch := omega) only [cA, cB, lk, lkH, Dst.onT, Dst.onX, Dst.slot, setF, setH, mapF, mapH, initF, binE, unE, cnt, boundE, newsE, freshE, opE, rmH, blkQ, frz_us, Nat.reduceEqDiff, Nat.reduceLT, Nat.reduceAdd, ↓reduceIte, reduceCtorEq, Nat.reduceLeDiff, XQ, cS, nbmdLight, us_length, k1, k2, Bool.false_and])
    exact W_ret (RetP_1 (.imm rfl))
theorem lightB_spec {a d : List Nat} (h : lightB a d = true) : a.length ≤ 8 ∧ d.length ≤ 8 := by
  unfold lightB at h; simpa using h
theorem RB_light {neg : Bool} {a d : List Nat} (h : lightB a d = true) (la : lim a) (ld : lim d) : RB (rv neg a d) 8 :=
  RB_rv la ld (lightB_spec h).1 (lightB_spec h).2 (by decide)
theorem lqFloor_calls (neg : Bool) (a d : List Nat) (la : lim a) (ld : lim d) : PCalls Tryz.prog 12 [XQ neg a d] (.bool true) := by
  have aw := lq_awake_calls
  have g1 := mdLight_calls neg a d
  refine PCalls_of islqRationalHasAFloor (by simp [fnlqRationalHasAFloor]) ?_
  unfold codelqRationalHasAFloor
  cases h1 : lightB a d
  · rw [h1] at g1
    repeat (first | (refine W_seq ?_) | (refine W_reg ?_) | (refine W_regd ?_) | (refine W_block ?_) | (refine And.intro (by omega) ?_) | simp (maxSteps := 1000000) (disch := omega) only [cA, cB, lk, lkH, Dst.onT, Dst.onX, Dst.slot, setF, setH, mapF, mapH, initF, binE, unE, cnt, boundE, newsE, freshE, opE, rmH, blkQ, frz_us, Nat.reduceEqDiff, Nat.reduceLT, Nat.reduceAdd, ↓reduceIte, reduceCtorEq, Nat.reduceLeDiff, XQ, cS, nblqRationalHasAFloor] | (refine callC_pure (g1) rfl ?_) | exact W_ret (RetP_1 (.imm rfl)) | exact W_ret (RetP_c rfl rfl rfl (.imm rfl)))
    refine W_cond rfl (fun _ => ?_) (fun h => by cases h)
    repeat (first | (refine W_seq ?_) | (refine W_reg ?_) | (refine W_regd ?_) | (refine W_block ?_) | (refine And.intro (by omega) ?_) | simp (maxSteps := 1000000) (disch := omega) only [cA, cB, lk, lkH, Dst.onT, Dst.onX, Dst.slot, setF, setH, mapF, mapH, initF, binE, unE, cnt, boundE, newsE, freshE, opE, rmH, blkQ, frz_us, Nat.reduceEqDiff, Nat.reduceLT, Nat.reduceAdd, ↓reduceIte, reduceCtorEq, Nat.reduceLeDiff, cS] | (refine callC_pure (aw) rfl ?_) | exact W_ret (RetP_1 (.imm rfl)) | exact W_ret (RetP_c rfl rfl rfl (.imm rfl)))
  · rw [h1] at g1
    obtain ⟨k1, k2⟩ := lightB_spec h1
    have cv := pValid_calls neg a d (by omega) (by omega) la ld
    cases hv : vldQ neg a d
    · rw [hv] at cv
      repeat (first | (refine W_seq ?_) | (refine W_reg ?_) | (refine W_regd ?_) | (refine W_block ?_) | (refine And.intro (by omega) ?_) | simp (maxSteps := 1000000) (disch := omega) only [cA, cB, lk, lkH, Dst.onT, Dst.onX, Dst.slot, setF, setH, mapF, mapH, initF, binE, unE, cnt, boundE, newsE, freshE, opE, rmH, blkQ, frz_us, Nat.reduceEqDiff, Nat.reduceLT, Nat.reduceAdd, ↓reduceIte, reduceCtorEq, Nat.reduceLeDiff, XQ, cS, nblqRationalHasAFloor] | (refine callC_pure (g1) rfl ?_) | (refine callC_pure (cv) rfl ?_) | exact W_ret (RetP_1 (.imm rfl)) | exact W_ret (RetP_c rfl rfl rfl (.imm rfl)))
      refine W_cond rfl (fun _ => ?_) (fun h => by cases h)
      repeat (first | (refine W_seq ?_) | (refine W_reg ?_) | (refine W_regd ?_) | (refine W_block ?_) | (refine And.intro (by omega) ?_) | simp (maxSteps := 1000000) (disch := omega) only [cA, cB, lk, lkH, Dst.onT, Dst.onX, Dst.slot, setF, setH, mapF, mapH, initF, binE, unE, cnt, boundE, newsE, freshE, opE, rmH, blkQ, frz_us, Nat.reduceEqDiff, Nat.reduceLT, Nat.reduceAdd, ↓reduceIte, reduceCtorEq, Nat.reduceLeDiff, cS] | (refine callC_pure (aw) rfl ?_) | exact W_ret (RetP_1 (.imm rfl)) | exact W_ret (RetP_c rfl rfl rfl (.imm rfl)))
    · rw [hv] at cv
      have r1 := RB_light (neg := neg) h1 la ld
      rw [XQ_Q la ld hv] at g1 cv ⊢
      generalize rv neg a d = x at *
      have f1 := qFloorL x (r1.mono (by decide))
      have rf : RB (x.floor : Rat) 8 := RB_int (Nat.le_trans (len_mono (abs_floor x)) r1.1) (by decide)
      have c1 := qSubL x (x.floor : Rat) (r1.mono (by decide)) (rf.mono (by decide))
      have rd := RB_sub r1 rf
      have c2 := pValid_calls (decide ((x.floor : Rat).num < 0)) (limbs (x.floor : Rat).num.natAbs) (dn (x.floor : Rat).den) (Nat.le_trans rf.1 (by decide)) (Nat.le_trans (RB_dn rf) (by decide)) (lim_limbs _) (lim_dn _)
      rw [vldQ_Q, ← Q_XQ] at c2
      have c3 := qSignL (x - (x.floor : Rat)) (rd.mono (by decide))
      have c4 := qFromInt_calls 1 (by decide) (by decide)
      have c5 := qCompareL (x - (x.floor : Rat)) ((1 : Int) : Rat) (rd.mono (by decide)) (RB_int (Nat.le_trans (limbs1_le (m := 1) (by decide)) (by decide)) (by decide))
      have e1 := num_nonneg' (floor_nonneg x)
      have e2 := cmpQ_lt (floor_lt1 x)
      rw [Q_int] at c1 c2
      clear h1 k1 k2 hv rf rd r1
      generalize x - (x.floor : Rat) = z at *
      generalize ((1 : Int) : Rat) = one at *
      generalize cmpQ z one = C at *
      generalize x.floor = fl at *
      repeat (first | (refine W_seq ?_) | (refine W_reg ?_) | (refine W_regd ?_) | (refine W_block ?_) | (refine And.intro (by omega) ?_) | simp (maxSteps := 1000000) (disch := omega) only [cA, cB, lk, lkH, Dst.onT, Dst.onX, Dst.slot, setF, setH, mapF, mapH, initF, binE, unE, cnt, boundE, newsE, freshE, opE, rmH, blkQ, frz_us, Nat.reduceEqDiff, Nat.reduceLT, Nat.reduceAdd, ↓reduceIte, reduceCtorEq, Nat.reduceLeDiff, Q, cS, nblqRationalHasAFloor] | (refine callC_pure (g1) rfl ?_) | (refine callC_pure (cv) rfl ?_) | exact W_ret (RetP_1 (.imm rfl)) | exact W_ret (RetP_c rfl rfl rfl (.imm rfl)))
      refine W_cond rfl (fun h => by cases h) (fun _ => W_skip ?_)
      repeat (first | (refine W_seq ?_) | (refine W_reg ?_) | (refine W_regd ?_) | (refine W_block ?_) | (refine And.intro (by omega) ?_) | simp (maxSteps := 1000000) (disch := omega) only [cA, cB, lk, lkH, Dst.onT, Dst.onX, Dst.slot, setF, setH, mapF, mapH, initF, binE, unE, cnt, boundE, newsE, freshE, opE, rmH, blkQ, frz_us, Nat.reduceEqDiff, Nat.reduceLT, Nat.reduceAdd, ↓reduceIte, reduceCtorEq, Nat.reduceLeDiff, Q, I, cS, cT, nblqRationalHasAFloor, decide_true, e1, e2] | (refine callC_pure (f1) rfl ?_) | (refine callC_pure (PCalls_nz1 1 (c1)) rfl ?_) | (refine callC_pure (aw) rfl ?_) | (refine callC_pure (PCalls_nz1 1 (c2)) rfl ?_) | (refine callC_pure (c3) rfl ?_) | (refine callC_pure (c4) rfl ?_) | (refine callC_pure (c5) rfl ?_) | exact W_ret (RetP_1 (.imm rfl)) | exact W_ret (RetP_c rfl rfl rfl (.imm rfl)))
end Go.Proofs.YteiagmmfapbaiaaGreatDoor
