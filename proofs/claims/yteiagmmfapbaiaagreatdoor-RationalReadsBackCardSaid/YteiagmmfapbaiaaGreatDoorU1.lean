/- Lemmas of the walk; no conditions beyond those that each states. -/
import Derived.Test.YteiagmmfapbaiaaGreatDoorProg
import Derived.KernelRfl
import Derived.Test.YteiagmmfapbaiaaGreatDoorT2
import Derived.Test.YteiagmmfapbaiaaGreatDoorT4
import Derived.Test.YteiagmmfapbaiaaGreatDoorN1
set_option linter.unusedSimpArgs false
set_option linter.unusedVariables false
set_option linter.unnecessarySimpa false
namespace Go.Proofs.YteiagmmfapbaiaaGreatDoor
open Go Go.Dat Go.Proofs
noncomputable def fnlqRationalReadsBack : FnD := ⟨Tryz.prog, [0, 1, 2, 3, 4, 12], [], 29, 0, false⟩
def codelqRationalReadsBack : DC := (.seq (.reg [⟨(.x 1), .box (.x 0), none⟩,⟨(.x 2), .mv (.c (.bool false)), none⟩]) (.seq (.seq (.reg [⟨(.t 5), .ldn 3 (.x 1), none⟩,⟨(.t 6), .call 17 [(.t 5)], none⟩,⟨(.t 7), .un .not (.t 6), none⟩,⟨(.t 8), .mv (.t 7), none⟩,⟨(.t 9), .ldn 3 (.x 1), (some ((.t 8), false))⟩,⟨(.t 10), .call 30 [(.t 9)], (some ((.t 8), false))⟩,⟨(.t 11), .un .not (.t 10), (some ((.t 8), false))⟩,⟨(.x 12), .pick (.t 8) (.c (.bool true)) (.t 11), none⟩]) (.cond (.x 12) (.seq (.reg [⟨(.t 13), .call 13 [], none⟩,⟨(.x 2), .mv (.t 13), none⟩]) .ret) .skip)) (.seq (.reg [⟨(.t 15), .ldn 3 (.x 1), none⟩,⟨(.t 16), .call 20 [(.t 15)], none⟩,⟨(.t 17), .call 18 [(.t 16)], none⟩,⟨(.t 14), .mv (.t 17), none⟩,⟨(.t 18), .ext (.t 14) 0, none⟩,⟨(.t 19), .ext (.t 14) 1, none⟩,⟨(.x 3), .alloc [(.bool false), .nils, .nils], none⟩,⟨.no, .stn 3 (.x 3) (.t 18), none⟩,⟨(.x 4), .mv (.t 19), none⟩]) (.seq (.reg [⟨(.t 20), .call 13 [], none⟩,⟨(.t 21), .mv (.t 20), none⟩,⟨(.t 22), .mv (.x 4), (some ((.t 21), true))⟩,⟨(.t 23), .pick (.t 21) (.t 22) (.c (.bool false)), none⟩,⟨(.t 24), .mv (.t 23), none⟩,⟨(.t 25), .ldn 3 (.x 1), (some ((.t 24), true))⟩,⟨(.t 26), .ldn 3 (.x 3), (some ((.t 24), true))⟩,⟨(.t 27), .call 16 [(.t 25), (.t 26)], (some ((.t 24), true))⟩,⟨(.t 28), .pick (.t 24) (.t 27) (.c (.bool false)), none⟩,⟨(.x 2), .mv (.t 28), none⟩]) .ret))))
def reslqRationalReadsBack : List RV := [.t 2]
theorem nblqRationalReadsBack : fnlqRationalReadsBack.nb = 0 := rfl
theorem islqRationalReadsBack : IsFn fnlqRationalReadsBack 6 codelqRationalReadsBack reslqRationalReadsBack := ⟨⟨Tryz.f6, _, Tryz.func6, rfl, rfl, by kernel_rfl, by kernel_rfl, by kernel_rfl⟩⟩
end Go.Proofs.YteiagmmfapbaiaaGreatDoor
namespace Go.Proofs.YteiagmmfapbaiaaGreatDoor
open Go Go.Dat Go.Proofs Nat32 Go.RowKit
open Go.Lib (decDigits repeatL)
def lightB (a d : List Nat) : Bool := decide (a.length ≤ 8) && decide (d.length ≤ 8)
theorem mdLight_calls (neg : Bool) (a d : List Nat) : PCalls Tryz.prog 17 [XQ neg a d] (.bool (lightB a d)) := by
  have k1 : decide ((a.length : Int) ≤ 8) = decide (a.length ≤ 8) := by rw [decide_eq_decide]; omega
  have k2 : decide ((d.length : Int) ≤ 8) = decide (d.length ≤ 8) := by rw [decide_eq_decide]; omega
  refine PCalls_of ismdLight (by simp [fnmdLight]) ?_
  unfold codemdLight lightB
  by_cases h : a.length ≤ 8
  · rw [decide_eq_true h] at k1 ⊢
    repeat (first | (refine W_seq ?_) | (refine W_reg ?_) | (refine W_regd ?_) | (refine W_block ?_) | (refine And.intro (by omega) ?_) | simp (config := {maxSteps := 1000000}) (disch := omega) only [cA, cB, lk, lkH, Dst.onT, Dst.onX, Dst.slot, setF, setH, mapF, mapH, initF, binE, unE, cnt, boundE, newsE, freshE, opE, rmH, blkQ, frz_us, Nat.reduceEqDiff, Nat.reduceLT, Nat.reduceAdd, ↓reduceIte, reduceCtorEq, Nat.reduceLeDiff, XQ, cS, nbmdLight, us_length, k1, k2, Bool.true_and])
    exact W_ret (RetP_1 (.imm rfl))
  · rw [decide_eq_false h] at k1 ⊢
    repeat (first | (refine W_seq ?_) | (refine W_reg ?_) | (refine W_regd ?_) | (refine W_block ?_) | (refine And.intro (by omega) ?_) | simp (config := {maxSteps := 1000000}) (disch := omega) only [cA, cB, lk, lkH, Dst.onT, Dst.onX, Dst.slot, setF, setH, mapF, mapH, initF, binE, unE, cnt, boundE, newsE, freshE, opE, rmH, blkQ, frz_us, Nat.reduceEqDiff, Nat.reduceLT, Nat.reduceAdd, ↓reduceIte, reduceCtorEq, Nat.reduceLeDiff, XQ, cS, nbmdLight, us_length, k1, k2, Bool.false_and])
    exact W_ret (RetP_1 (.imm rfl))
theorem lightB_spec {a d : List Nat} (h : lightB a d = true) : a.length ≤ 8 ∧ d.length ≤ 8 := by
  unfold lightB at h; simpa using h
theorem RB_light {neg : Bool} {a d : List Nat} (h : lightB a d = true) (la : lim a) (ld : lim d) : RB (rv neg a d) 8 :=
  RB_rv la ld (lightB_spec h).1 (lightB_spec h).2 (by decide)
theorem lqReadsBack_calls (neg : Bool) (a d : List Nat) (la : lim a) (ld : lim d) : PCalls Tryz.prog 6 [XQ neg a d] (.bool true) := by
  have aw := lq_awake_calls
  have g1 := mdLight_calls neg a d
  refine PCalls_of islqRationalReadsBack (by simp [fnlqRationalReadsBack]) ?_
  unfold codelqRationalReadsBack
  cases h1 : lightB a d
  · rw [h1] at g1
    repeat (first | (refine W_seq ?_) | (refine W_reg ?_) | (refine W_regd ?_) | (refine W_block ?_) | (refine And.intro (by omega) ?_) | simp (config := {maxSteps := 1000000}) (disch := omega) only [cA, cB, lk, lkH, Dst.onT, Dst.onX, Dst.slot, setF, setH, mapF, mapH, initF, binE, unE, cnt, boundE, newsE, freshE, opE, rmH, blkQ, frz_us, Nat.reduceEqDiff, Nat.reduceLT, Nat.reduceAdd, ↓reduceIte, reduceCtorEq, Nat.reduceLeDiff, XQ, cS, nblqRationalReadsBack] | (refine callC_pure (g1) rfl ?_) | exact W_ret (RetP_1 (.imm rfl)) | exact W_ret (RetP_c rfl rfl rfl (.imm rfl)))
    refine W_cond rfl (fun _ => ?_) (fun h => by cases h)
    repeat (first | (refine W_seq ?_) | (refine W_reg ?_) | (refine W_regd ?_) | (refine W_block ?_) | (refine And.intro (by omega) ?_) | simp (config := {maxSteps := 1000000}) (disch := omega) only [cA, cB, lk, lkH, Dst.onT, Dst.onX, Dst.slot, setF, setH, mapF, mapH, initF, binE, unE, cnt, boundE, newsE, freshE, opE, rmH, blkQ, frz_us, Nat.reduceEqDiff, Nat.reduceLT, Nat.reduceAdd, ↓reduceIte, reduceCtorEq, Nat.reduceLeDiff, cS] | (refine callC_pure (aw) rfl ?_) | exact W_ret (RetP_1 (.imm rfl)) | exact W_ret (RetP_c rfl rfl rfl (.imm rfl)))
  · rw [h1] at g1
    obtain ⟨k1, k2⟩ := lightB_spec h1
    have cv := pValid_calls neg a d (by omega) (by omega) la ld
    cases hv : vldQ neg a d
    · rw [hv] at cv
      repeat (first | (refine W_seq ?_) | (refine W_reg ?_) | (refine W_regd ?_) | (refine W_block ?_) | (refine And.intro (by omega) ?_) | simp (config := {maxSteps := 1000000}) (disch := omega) only [cA, cB, lk, lkH, Dst.onT, Dst.onX, Dst.slot, setF, setH, mapF, mapH, initF, binE, unE, cnt, boundE, newsE, freshE, opE, rmH, blkQ, frz_us, Nat.reduceEqDiff, Nat.reduceLT, Nat.reduceAdd, ↓reduceIte, reduceCtorEq, Nat.reduceLeDiff, XQ, cS, nblqRationalReadsBack] | (refine callC_pure (g1) rfl ?_) | (refine callC_pure (cv) rfl ?_) | exact W_ret (RetP_1 (.imm rfl)) | exact W_ret (RetP_c rfl rfl rfl (.imm rfl)))
      refine W_cond rfl (fun _ => ?_) (fun h => by cases h)
      repeat (first | (refine W_seq ?_) | (refine W_reg ?_) | (refine W_regd ?_) | (refine W_block ?_) | (refine And.intro (by omega) ?_) | simp (config := {maxSteps := 1000000}) (disch := omega) only [cA, cB, lk, lkH, Dst.onT, Dst.onX, Dst.slot, setF, setH, mapF, mapH, initF, binE, unE, cnt, boundE, newsE, freshE, opE, rmH, blkQ, frz_us, Nat.reduceEqDiff, Nat.reduceLT, Nat.reduceAdd, ↓reduceIte, reduceCtorEq, Nat.reduceLeDiff, cS] | (refine callC_pure (aw) rfl ?_) | exact W_ret (RetP_1 (.imm rfl)) | exact W_ret (RetP_c rfl rfl rfl (.imm rfl)))
    · rw [hv] at cv
      have r1 := RB_light (neg := neg) h1 la ld
      rw [XQ_Q la ld hv] at g1 cv ⊢
      generalize rv neg a d = x at *
      have f1 := qFormatL x (r1.mono (by decide))
      have hlen := fmtQ_len r1
      have p1 := qParse_calls (fmtQ x) (by omega) (.inl (ascii_fmt x))
      have d1 := dd_limbs r1.1
      have d2 := dd_limbs r1.2
      rw [parse_fmt x (by omega) (by omega)] at p1
      unfold resQ at p1
      dsimp only at p1
      have s1 := pSameT x (r1.mono (by decide))
      clear h1 k1 k2 hv hlen d1 d2 r1
      generalize fmtQ x = F at *
      repeat (first | (refine W_seq ?_) | (refine W_reg ?_) | (refine W_regd ?_) | (refine W_block ?_) | (refine And.intro (by omega) ?_) | simp (config := {maxSteps := 1000000}) (disch := omega) only [cA, cB, lk, lkH, Dst.onT, Dst.onX, Dst.slot, setF, setH, mapF, mapH, initF, binE, unE, cnt, boundE, newsE, freshE, opE, rmH, blkQ, frz_us, Nat.reduceEqDiff, Nat.reduceLT, Nat.reduceAdd, ↓reduceIte, reduceCtorEq, Nat.reduceLeDiff, Q, cS, nblqRationalReadsBack] | (refine callC_pure (g1) rfl ?_) | (refine callC_pure (cv) rfl ?_) | exact W_ret (RetP_1 (.imm rfl)) | exact W_ret (RetP_c rfl rfl rfl (.imm rfl)))
      refine W_cond rfl (fun h => by cases h) (fun _ => W_skip ?_)
      repeat (first | (refine W_seq ?_) | (refine W_reg ?_) | (refine W_regd ?_) | (refine W_block ?_) | (refine And.intro (by omega) ?_) | simp (config := {maxSteps := 1000000}) (disch := omega) only [cA, cB, lk, lkH, Dst.onT, Dst.onX, Dst.slot, setF, setH, mapF, mapH, initF, binE, unE, cnt, boundE, newsE, freshE, opE, rmH, blkQ, frz_us, Nat.reduceEqDiff, Nat.reduceLT, Nat.reduceAdd, ↓reduceIte, reduceCtorEq, Nat.reduceLeDiff, Q, cS, cT, nblqRationalReadsBack, decide_true] | (refine callC_pure (f1) rfl ?_) | (refine callC_pure (p1) rfl ?_) | (refine callC_pure (aw) rfl ?_) | (refine callC_pure (s1) rfl ?_) | exact W_ret (RetP_1 (.imm rfl)) | exact W_ret (RetP_c rfl rfl rfl (.imm rfl)))
end Go.Proofs.YteiagmmfapbaiaaGreatDoor
