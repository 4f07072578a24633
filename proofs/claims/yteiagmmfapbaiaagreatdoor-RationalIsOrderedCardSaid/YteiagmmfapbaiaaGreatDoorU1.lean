/- Lemmas of the walk; no conditions beyond those that each states. -/
import Derived.Test.YteiagmmfapbaiaaGreatDoorProg
import Derived.KernelRfl
import Derived.Test.YteiagmmfapbaiaaGreatDoorT2
import Derived.Test.YteiagmmfapbaiaaGreatDoorT4
import Derived.Test.YteiagmmfapbaiaaGreatDoorN1
set_option linter.unusedSimpArgs false
set_option linter.unusedVariables false
set_option linter.unnecessarySimpa false
namespace Go.Proofs.YteiagmmfapbaiaaGreatDoor
open Go Go.Dat Go.Proofs
noncomputable def fnlqRationalIsOrdered : FnD := ⟨Tryz.prog, [0, 1, 2, 3, 4, 5, 6, 7, 12, 30], [], 73, 0, false⟩
def codelqRationalIsOrdered : DC := (.seq (.reg [⟨(.x 3), .box (.x 0), none⟩,⟨(.x 4), .box (.x 1), none⟩,⟨(.x 5), .box (.x 2), none⟩,⟨(.x 6), .mv (.c (.bool false)), none⟩]) (.seq (.seq (.reg [⟨(.t 8), .ldn 3 (.x 3), none⟩,⟨(.t 9), .ldn 3 (.x 4), none⟩,⟨(.t 10), .ldn 3 (.x 5), none⟩,⟨(.t 11), .call 39 [(.t 8), (.t 9), (.t 10)], none⟩,⟨(.x 12), .un .not (.t 11), none⟩]) (.cond (.x 12) (.seq (.reg [⟨(.t 13), .call 13 [], none⟩,⟨(.x 6), .mv (.t 13), none⟩]) .ret) .skip)) (.seq (.reg [⟨(.t 14), .ldn 3 (.x 3), none⟩,⟨(.t 15), .ldn 3 (.x 4), none⟩,⟨(.t 16), .call 42 [(.t 14), (.t 15)], none⟩,⟨(.x 7), .mv (.t 16), none⟩]) (.seq (.seq (.reg [⟨(.t 17), .mv (.x 7), none⟩,⟨(.t 18), .bin .lss (.t 17) (.c (.int .i64 0)), none⟩,⟨(.t 19), .mv (.t 18), none⟩,⟨(.t 20), .ldn 3 (.x 4), (some ((.t 19), true))⟩,⟨(.t 21), .ldn 3 (.x 5), (some ((.t 19), true))⟩,⟨(.t 22), .call 42 [(.t 20), (.t 21)], (some ((.t 19), true))⟩,⟨(.t 23), .bin .lss (.t 22) (.c (.int .i64 0)), (some ((.t 19), true))⟩,⟨(.t 24), .pick (.t 19) (.t 23) (.c (.bool false)), none⟩,⟨(.t 25), .mv (.t 24), none⟩,⟨(.t 26), .ldn 3 (.x 3), (some ((.t 25), true))⟩,⟨(.t 27), .ldn 3 (.x 5), (some ((.t 25), true))⟩,⟨(.t 28), .call 42 [(.t 26), (.t 27)], (some ((.t 25), true))⟩,⟨(.t 29), .bin .geq (.t 28) (.c (.int .i64 0)), (some ((.t 25), true))⟩,⟨(.x 30), .pick (.t 25) (.t 29) (.c (.bool false)), none⟩]) (.cond (.x 30) (.seq (.reg [⟨(.x 6), .mv (.c (.bool false)), none⟩]) .ret) .skip)) (.seq (.regd [⟨(.t 31), .call 13 [], none⟩,⟨(.t 32), .mv (.t 31), none⟩,⟨(.t 33), .mv (.x 7), (some ((.t 32), true))⟩,⟨(.t 34), .ldn 3 (.x 4), (some ((.t 32), true))⟩,⟨(.t 35), .ldn 3 (.x 3), (some ((.t 32), true))⟩,⟨(.t 36), .call 42 [(.t 34), (.t 35)], (some ((.t 32), true))⟩,⟨(.t 37), .un .neg (.t 36), (some ((.t 32), true))⟩,⟨(.t 38), .bin .eql (.t 33) (.t 37), (some ((.t 32), true))⟩,⟨(.t 39), .pick (.t 32) (.t 38) (.c (.bool false)), none⟩,⟨(.t 40), .mv (.t 39), none⟩,⟨(.t 41), .mv (.x 7), (some ((.t 40), true))⟩,⟨(.t 42), .bin .eql (.t 41) (.c (.int .i64 0)), (some ((.t 40), true))⟩,⟨(.t 43), .ldn 3 (.x 3), (some ((.t 40), true))⟩,⟨(.t 44), .ldn 3 (.x 4), (some ((.t 40), true))⟩,⟨(.t 45), .call 16 [(.t 43), (.t 44)], (some ((.t 40), true))⟩,⟨(.t 46), .beq false (.t 42) (.t 45), (some ((.t 40), true))⟩,⟨(.t 47), .pick (.t 40) (.t 46) (.c (.bool false)), none⟩,⟨(.t 48), .mv (.t 47), none⟩,⟨(.t 49), .ldn 3 (.x 3), (some ((.t 48), true))⟩,⟨(.t 50), .ldn 3 (.x 5), (some ((.t 48), true))⟩,⟨(.t 51), .call 33 [(.t 49), (.t 50)], (some ((.t 48), true))⟩,⟨(.t 52), .ldn 3 (.x 4), (some ((.t 48), true))⟩,⟨(.t 53), .ldn 3 (.x 5), (some ((.t 48), true))⟩,⟨(.t 54), .call 33 [(.t 52), (.t 53)], (some ((.t 48), true))⟩,⟨(.t 55), .call 42 [(.t 51), (.t 54)], (some ((.t 48), true))⟩,⟨(.t 56), .mv (.x 7), (some ((.t 48), true))⟩,⟨(.t 57), .bin .eql (.t 55) (.t 56), (some ((.t 48), true))⟩,⟨(.t 58), .pick (.t 48) (.t 57) (.c (.bool false)), none⟩,⟨(.t 59), .mv (.t 58), none⟩,⟨(.t 60), .ldn 3 (.x 3), (some ((.t 59), true))⟩,⟨(.t 61), .ldn 3 (.x 5), (some ((.t 59), true))⟩,⟨(.t 62), .call 37 [(.t 60), (.t 61)], (some ((.t 59), true))⟩,⟨(.t 63), .ldn 3 (.x 4), (some ((.t 59), true))⟩,⟨(.t 64), .ldn 3 (.x 5), (some ((.t 59), true))⟩,⟨(.t 65), .call 37 [(.t 63), (.t 64)], (some ((.t 59), true))⟩,⟨(.t 66), .call 42 [(.t 62), (.t 65)], (some ((.t 59), true))⟩,⟨(.t 67), .mv (.x 7), (some ((.t 59), true))⟩,⟨(.t 68), .ldn 3 (.x 5), (some ((.t 59), true))⟩,⟨(.t 69), .call 41 [(.t 68)], (some ((.t 59), true))⟩,⟨(.t 70), .bin .mul (.t 67) (.t 69), (some ((.t 59), true))⟩,⟨(.t 71), .bin .eql (.t 66) (.t 70), (some ((.t 59), true))⟩,⟨(.t 72), .pick (.t 59) (.t 71) (.c (.bool false)), none⟩,⟨(.x 6), .mv (.t 72), none⟩]) .ret)))))
def reslqRationalIsOrdered : List RV := [.t 6]
theorem nblqRationalIsOrdered : fnlqRationalIsOrdered.nb = 0 := rfl
theorem islqRationalIsOrdered : IsFn fnlqRationalIsOrdered 9 codelqRationalIsOrdered reslqRationalIsOrdered := ⟨⟨Tryz.f9, _, Tryz.func9, rfl, rfl, by kernel_rfl, by kernel_rfl, by kernel_rfl⟩⟩
end Go.Proofs.YteiagmmfapbaiaaGreatDoor
namespace Go.Proofs.YteiagmmfapbaiaaGreatDoor
open Go Go.Dat Go.Proofs Nat32 Go.RowKit
open Go.Lib (decDigits repeatL)
def lightB (a d : List Nat) : Bool := decide (a.length ≤ 8) && decide (d.length ≤ 8)
theorem mdLight_calls (neg : Bool) (a d : List Nat) : PCalls Tryz.prog 17 [XQ neg a d] (.bool (lightB a d)) := by
  have k1 : decide ((a.length : Int) ≤ 8) = decide (a.length ≤ 8) := by rw [decide_eq_decide]; omega
  have k2 : decide ((d.length : Int) ≤ 8) = decide (d.length ≤ 8) := by rw [decide_eq_decide]; omega
  refine PCalls_of ismdLight (by simp [fnmdLight]) ?_
  unfold codemdLight lightB
  by_cases h : a.length ≤ 8
  · rw [decide_eq_true h] at k1 ⊢
    repeat (first | (refine W_seq ?_) | (refine W_reg ?_) | (refine W_regd ?_) | (refine W_block ?_) | (refine And.intro (by omega) ?_) | simp (maxSteps := 1000000) (disch := omega) only [cA, cB, lk, lkH, Dst.onT, Dst.onX, Dst.slot, setF, setH, mapF, mapH, initF, binE, unE, cnt, boundE, newsE, freshE, opE, rmH, blkQ, frz_us, Nat.reduceEqDiff, Nat.reduceLT, Nat.reduceAdd, ↓reduceIte, reduceCtorEq, Nat.reduceLeDiff, XQ, cS, nbmdLight, us_length, k1, k2, Bool.true_and])
    exact W_ret (RetP_1 (.imm rfl))
  · rw [decide_eq_false h] at k1 ⊢
    repeat (first | (refine W_seq ?_) | (refine W_reg ?_) | (refine W_regd ?_) | (refine W_block ?_) | (refine And.intro (by omega) ?_) | simp (maxSteps := 1000000) (disch := omega) only [cA, cB, lk, lkH, Dst.onT, Dst.onX, Dst.slot, setF, setH, mapF, mapH, initF, binE, unE, cnt, boundE, newsE, freshE, opE, rmH, blkQ, frz_us, Nat.reduceEqDiff, Nat.reduceLT, Nat.reduceAdd, ↓reduceIte, reduceCtorEq, Nat.reduceLeDiff, XQ, cS, nbmdLight, us_length, k1, k2, Bool.false_and])
    exact W_ret (RetP_1 (.imm rfl))
theorem lightB_spec {a d : List Nat} (h : lightB a d = true) : a.length ≤ 8 ∧ d.length ≤ 8 := by
  unfold lightB at h; simpa using h
theorem RB_light {neg : Bool} {a d : List Nat} (h : lightB a d = true) (la : lim a) (ld : lim d) : RB (rv neg a d) 8 :=
  RB_rv la ld (lightB_spec h).1 (lightB_spec h).2 (by decide)
end Go.Proofs.YteiagmmfapbaiaaGreatDoor
namespace Nat32
open Go Go.Dat
theorem lt_tr {x y z : Rat} (h1 : x < y) (h2 : y < z) : x < z := by
  rcases Classical.em (x < z) with h | h
  · exact h
  · have h3 := Rat.not_lt.1 h
    exact absurd h2 (Rat.not_lt.2 (Rat.le_trans h3 (Rat.le_of_lt h1)))
theorem lt_as {x y : Rat} (h : x < y) : ¬ y < x := fun k => Rat.lt_irrefl (lt_tr h k)
theorem cmpQ_bd (x y : Rat) : -1 ≤ cmpQ x y ∧ cmpQ x y ≤ 1 := by unfold cmpQ; (repeat' split) <;> omega
theorem cmpQ_ltd (x y : Rat) : decide (cmpQ x y < 0) = decide (x < y) := by
  rw [decide_eq_decide]; unfold cmpQ
  by_cases h : x < y
  · rw [if_pos h]; exact ⟨fun _ => h, fun _ => by decide⟩
  · rw [if_neg h]; split <;> exact ⟨fun k => absurd k (by decide), fun k => absurd k h⟩
theorem cmpQ_ged (x y : Rat) : decide (0 ≤ cmpQ x y) = !decide (x < y) := by
  rw [← cmpQ_ltd]
  by_cases h : cmpQ x y < 0
  · rw [decide_eq_true h, decide_eq_false (by omega)]; rfl
  · rw [decide_eq_false h, decide_eq_true (by omega)]; rfl
theorem cmpQ_swap (x y : Rat) : cmpQ y x = - cmpQ x y := by
  unfold cmpQ
  by_cases h1 : x < y
  · rw [if_pos h1, if_neg (lt_as h1), if_pos h1]; rfl
  · by_cases h2 : y < x
    · rw [if_pos h2, if_neg h1, if_pos h2]
    · rw [if_neg h2, if_neg h1, if_neg h1, if_neg h2]; rfl
theorem cmpQ_eqd (x y : Rat) : decide (cmpQ x y = 0) = decide (x = y) := by
  rw [decide_eq_decide]; unfold cmpQ
  by_cases h1 : x < y
  · rw [if_pos h1]; exact ⟨fun k => absurd k (by decide), fun k => by rw [k] at h1; exact absurd h1 Rat.lt_irrefl⟩
  · rw [if_neg h1]
    by_cases h2 : y < x
    · rw [if_pos h2]; exact ⟨fun k => absurd k (by decide), fun k => by rw [k] at h2; exact absurd h2 Rat.lt_irrefl⟩
    · rw [if_neg h2]; exact ⟨fun _ => Rat.le_antisymm (Rat.not_lt.1 h2) (Rat.not_lt.1 h1), fun _ => rfl⟩
theorem cmpQ_add (x y z : Rat) : cmpQ (x + z) (y + z) = cmpQ x y := by
  unfold cmpQ
  simp only [Rat.add_lt_add_right]
theorem num_pos' {z : Rat} (h : 0 < z) : z.num.sign = 1 := by
  refine Int.sign_eq_one_of_pos ?_
  have h1 := Rat.num_nonneg.2 (Rat.le_of_lt h)
  rcases Int.lt_or_eq_of_le h1 with k | k
  · exact k
  · have := Rat.num_eq_zero.1 k.symm
    rw [this] at h
    exact absurd h Rat.lt_irrefl
theorem cmpQ_mul_pos {z : Rat} (x y : Rat) (h : 0 < z) : cmpQ (x * z) (y * z) = cmpQ x y := by
  unfold cmpQ
  simp only [Rat.mul_lt_mul_right h]
theorem cmpQ_neg (x y : Rat) : cmpQ (-x) (-y) = cmpQ y x := by
  unfold cmpQ
  simp only [Rat.neg_lt_neg_iff]
theorem cmpQ_mul (x y z : Rat) : cmpQ (x * z) (y * z) = cmpQ x y * z.num.sign := by
  by_cases h1 : 0 < z
  · rw [cmpQ_mul_pos x y h1, num_pos' h1, Int.mul_one]
  · by_cases h2 : z = 0
    · subst h2
      rw [Rat.mul_zero, Rat.mul_zero, show (0 : Rat).num.sign = 0 from rfl, Int.mul_zero]
      unfold cmpQ
      rw [if_neg Rat.lt_irrefl, if_neg Rat.lt_irrefl]
    · have h3 : 0 < -z := by
        have := (Rat.lt_iff_le_and_ne).2 ⟨Rat.not_lt.1 h1, h2⟩
        have h4 := Rat.neg_lt_neg this
        rwa [Rat.neg_zero] at h4
      have h4 := cmpQ_mul_pos x y h3
      rw [Rat.mul_neg, Rat.mul_neg, cmpQ_neg, cmpQ_swap] at h4
      have h5 := num_pos' h3
      rw [Rat.neg_num, Int.sign_neg] at h5
      rw [show z.num.sign = -1 by omega]
      omega
theorem sign_bd (z : Int) : -1 ≤ z.sign ∧ z.sign ≤ 1 := by
  rcases Int.lt_trichotomy z 0 with h | h | h
  · rw [Int.sign_eq_neg_one_of_neg h]; decide
  · rw [h]; decide
  · rw [Int.sign_eq_one_of_pos h]; decide
theorem cmp_sign_bd (x y z : Rat) : -1 ≤ cmpQ x y * z.num.sign ∧ cmpQ x y * z.num.sign ≤ 1 := by
  rw [← cmpQ_mul]; exact cmpQ_bd _ _
end Nat32
namespace Go.Proofs.YteiagmmfapbaiaaGreatDoor
open Go Go.Dat Go.Proofs Nat32 Go.RowKit
open Go.Lib (decDigits repeatL)
def fairQ (n1 : Bool) (a d : List Nat) (n2 : Bool) (b e : List Nat) (n3 : Bool) (c f : List Nat) : Bool :=
  lightB a d && (lightB b e && (lightB c f && (vldQ n1 a d && (vldQ n2 b e && vldQ n3 c f))))
theorem lq_fair_calls (n1 : Bool) (a d : List Nat) (n2 : Bool) (b e : List Nat) (n3 : Bool) (c f : List Nat) (la : lim a) (ld : lim d) (lb : lim b) (le : lim e) (lc : lim c) (lf : lim f) :
    PCalls Tryz.prog 39 [XQ n1 a d, XQ n2 b e, XQ n3 c f] (.bool (fairQ n1 a d n2 b e n3 c f)) := by
  have g1 := mdLight_calls n1 a d
  have g2 := mdLight_calls n2 b e
  have g3 := mdLight_calls n3 c f
  refine PCalls_of islq_fair (by simp [fnlq_fair]) ?_
  unfold codelq_fair fairQ
  cases h1 : lightB a d
  · rw [h1] at g1
    simp only [Bool.false_and]
    repeat (first | (refine W_seq ?_) | (refine W_reg ?_) | (refine W_regd ?_) | (refine W_block ?_) | (refine And.intro (by omega) ?_) | simp (maxSteps := 1000000) (disch := omega) only [cA, cB, lk, lkH, Dst.onT, Dst.onX, Dst.slot, setF, setH, mapF, mapH, initF, binE, unE, cnt, boundE, newsE, freshE, opE, rmH, blkQ, frz_us, Nat.reduceEqDiff, Nat.reduceLT, Nat.reduceAdd, ↓reduceIte, reduceCtorEq, Nat.reduceLeDiff, XQ, cS, nblq_fair] | (refine callC_pure (g1) rfl ?_) | exact W_ret (RetP_1 (.imm rfl)) | exact W_ret (RetP_c rfl rfl rfl (.imm rfl)))
  · rw [h1] at g1
    simp only [Bool.true_and]
    cases h2 : lightB b e
    · rw [h2] at g2
      simp only [Bool.false_and]
      repeat (first | (refine W_seq ?_) | (refine W_reg ?_) | (refine W_regd ?_) | (refine W_block ?_) | (refine And.intro (by omega) ?_) | simp (maxSteps := 1000000) (disch := omega) only [cA, cB, lk, lkH, Dst.onT, Dst.onX, Dst.slot, setF, setH, mapF, mapH, initF, binE, unE, cnt, boundE, newsE, freshE, opE, rmH, blkQ, frz_us, Nat.reduceEqDiff, Nat.reduceLT, Nat.reduceAdd, ↓reduceIte, reduceCtorEq, Nat.reduceLeDiff, XQ, cS, nblq_fair] | (refine callC_pure (g1) rfl ?_) | (refine callC_pure (g2) rfl ?_) | exact W_ret (RetP_1 (.imm rfl)) | exact W_ret (RetP_c rfl rfl rfl (.imm rfl)))
    · rw [h2] at g2
      simp only [Bool.true_and]
      cases h3 : lightB c f
      · rw [h3] at g3
        simp only [Bool.false_and]
        repeat (first | (refine W_seq ?_) | (refine W_reg ?_) | (refine W_regd ?_) | (refine W_block ?_) | (refine And.intro (by omega) ?_) | simp (maxSteps := 1000000) (disch := omega) only [cA, cB, lk, lkH, Dst.onT, Dst.onX, Dst.slot, setF, setH, mapF, mapH, initF, binE, unE, cnt, boundE, newsE, freshE, opE, rmH, blkQ, frz_us, Nat.reduceEqDiff, Nat.reduceLT, Nat.reduceAdd, ↓reduceIte, reduceCtorEq, Nat.reduceLeDiff, XQ, cS, nblq_fair] | (refine callC_pure (g1) rfl ?_) | (refine callC_pure (g2) rfl ?_) | (refine callC_pure (g3) rfl ?_) | exact W_ret (RetP_1 (.imm rfl)) | exact W_ret (RetP_c rfl rfl rfl (.imm rfl)))
      · rw [h3] at g3
        simp only [Bool.true_and]
        obtain ⟨k1, k2⟩ := lightB_spec h1
        obtain ⟨k3, k4⟩ := lightB_spec h2
        obtain ⟨k5, k6⟩ := lightB_spec h3
        have v1 := pValid_calls n1 a d (by omega) (by omega) la ld
        have v2 := pValid_calls n2 b e (by omega) (by omega) lb le
        have v3 := pValid_calls n3 c f (by omega) (by omega) lc lf
        generalize vldQ n1 a d = p1 at *
        generalize vldQ n2 b e = p2 at *
        generalize vldQ n3 c f = p3 at *
        cases p1
        · simp only [Bool.false_and]
          repeat (first | (refine W_seq ?_) | (refine W_reg ?_) | (refine W_regd ?_) | (refine W_block ?_) | (refine And.intro (by omega) ?_) | simp (maxSteps := 1000000) (disch := omega) only [cA, cB, lk, lkH, Dst.onT, Dst.onX, Dst.slot, setF, setH, mapF, mapH, initF, binE, unE, cnt, boundE, newsE, freshE, opE, rmH, blkQ, frz_us, Nat.reduceEqDiff, Nat.reduceLT, Nat.reduceAdd, ↓reduceIte, reduceCtorEq, Nat.reduceLeDiff, XQ, cS, nblq_fair] | (refine callC_pure (g1) rfl ?_) | (refine callC_pure (g2) rfl ?_) | (refine callC_pure (g3) rfl ?_) | (refine callC_pure (v1) rfl ?_) | exact W_ret (RetP_1 (.imm rfl)) | exact W_ret (RetP_c rfl rfl rfl (.imm rfl)))
        · simp only [Bool.true_and]
          cases p2
          · simp only [Bool.false_and]
            repeat (first | (refine W_seq ?_) | (refine W_reg ?_) | (refine W_regd ?_) | (refine W_block ?_) | (refine And.intro (by omega) ?_) | simp (maxSteps := 1000000) (disch := omega) only [cA, cB, lk, lkH, Dst.onT, Dst.onX, Dst.slot, setF, setH, mapF, mapH, initF, binE, unE, cnt, boundE, newsE, freshE, opE, rmH, blkQ, frz_us, Nat.reduceEqDiff, Nat.reduceLT, Nat.reduceAdd, ↓reduceIte, reduceCtorEq, Nat.reduceLeDiff, XQ, cS, nblq_fair] | (refine callC_pure (g1) rfl ?_) | (refine callC_pure (g2) rfl ?_) | (refine callC_pure (g3) rfl ?_) | (refine callC_pure (v1) rfl ?_) | (refine callC_pure (v2) rfl ?_) | exact W_ret (RetP_1 (.imm rfl)) | exact W_ret (RetP_c rfl rfl rfl (.imm rfl)))
          · simp only [Bool.true_and]
            repeat (first | (refine W_seq ?_) | (refine W_reg ?_) | (refine W_regd ?_) | (refine W_block ?_) | (refine And.intro (by omega) ?_) | simp (maxSteps := 1000000) (disch := omega) only [cA, cB, lk, lkH, Dst.onT, Dst.onX, Dst.slot, setF, setH, mapF, mapH, initF, binE, unE, cnt, boundE, newsE, freshE, opE, rmH, blkQ, frz_us, Nat.reduceEqDiff, Nat.reduceLT, Nat.reduceAdd, ↓reduceIte, reduceCtorEq, Nat.reduceLeDiff, XQ, cS, nblq_fair] | (refine callC_pure (g1) rfl ?_) | (refine callC_pure (g2) rfl ?_) | (refine callC_pure (g3) rfl ?_) | (refine callC_pure (v1) rfl ?_) | (refine callC_pure (v2) rfl ?_) | (refine callC_pure (v3) rfl ?_) | exact W_ret (RetP_1 (.imm rfl)) | exact W_ret (RetP_c rfl rfl rfl (.imm rfl)))
theorem fairQ_spec {n1 : Bool} {a d : List Nat} {n2 : Bool} {b e : List Nat} {n3 : Bool} {c f : List Nat} (h : fairQ n1 a d n2 b e n3 c f = true) :
    lightB a d = true ∧ lightB b e = true ∧ lightB c f = true ∧ vldQ n1 a d = true ∧ vldQ n2 b e = true ∧ vldQ n3 c f = true := by
  unfold fairQ at h
  simp only [Bool.and_eq_true] at h
  exact h
end Go.Proofs.YteiagmmfapbaiaaGreatDoor
namespace Go.Proofs.YteiagmmfapbaiaaGreatDoor
open Go Go.Dat Go.Proofs Nat32 Go.RowKit
open Go.Lib (decDigits repeatL)
set_option maxHeartbeats 4000000 in
theorem lqOrdered_calls (n1 : Bool) (a d : List Nat) (n2 : Bool) (b e : List Nat) (n3 : Bool) (c f : List Nat) (la : lim a) (ld : lim d) (lb : lim b) (le : lim e) (lc : lim c) (lf : lim f) :
    PCalls Tryz.prog 9 [XQ n1 a d, XQ n2 b e, XQ n3 c f] (.bool true) := by
  have aw := lq_awake_calls
  have cf := lq_fair_calls n1 a d n2 b e n3 c f la ld lb le lc lf
  refine PCalls_of islqRationalIsOrdered (by simp [fnlqRationalIsOrdered]) ?_
  cases hf : fairQ n1 a d n2 b e n3 c f
  · rw [hf] at cf
    unfold codelqRationalIsOrdered
    repeat (first | (refine W_seq ?_) | (refine W_reg ?_) | (refine W_regd ?_) | (refine W_block ?_) | (refine And.intro (by omega) ?_) | simp (maxSteps := 1000000) (disch := omega) only [cA, cB, lk, lkH, Dst.onT, Dst.onX, Dst.slot, setF, setH, mapF, mapH, initF, binE, unE, cnt, boundE, newsE, freshE, opE, rmH, blkQ, frz_us, Nat.reduceEqDiff, Nat.reduceLT, Nat.reduceAdd, ↓reduceIte, reduceCtorEq, Nat.reduceLeDiff, XQ, cS, nblqRationalIsOrdered] | (refine callC_pure (cf) rfl ?_) | exact W_ret (RetP_1 (.imm rfl)) | exact W_ret (RetP_c rfl rfl rfl (.imm rfl)))
    refine W_cond rfl (fun _ => ?_) (fun h => by cases h)
    repeat (first | (refine W_seq ?_) | (refine W_reg ?_) | (refine W_regd ?_) | (refine W_block ?_) | (refine And.intro (by omega) ?_) | simp (maxSteps := 1000000) (disch := omega) only [cA, cB, lk, lkH, Dst.onT, Dst.onX, Dst.slot, setF, setH, mapF, mapH, initF, binE, unE, cnt, boundE, newsE, freshE, opE, rmH, blkQ, frz_us, Nat.reduceEqDiff, Nat.reduceLT, Nat.reduceAdd, ↓reduceIte, reduceCtorEq, Nat.reduceLeDiff, cS] | (refine callC_pure (aw) rfl ?_) | exact W_ret (RetP_1 (.imm rfl)) | exact W_ret (RetP_c rfl rfl rfl (.imm rfl)))
  · rw [hf] at cf
    obtain ⟨h1, h2, h3, v1, v2, v3⟩ := fairQ_spec hf
    have r1 := RB_light (neg := n1) h1 la ld
    have r2 := RB_light (neg := n2) h2 lb le
    have r3 := RB_light (neg := n3) h3 lc lf
    rw [XQ_Q la ld v1, XQ_Q lb le v2, XQ_Q lc lf v3] at cf ⊢
    generalize rv n1 a d = x at *
    generalize rv n2 b e = y at *
    generalize rv n3 c f = z at *
    clear hf h1 h2 h3 v1 v2 v3
    clear la ld lb le lc lf
    have c1 := qCompareL x y (r1.mono (by decide)) (r2.mono (by decide))
    have c2 := qCompareL y z (r2.mono (by decide)) (r3.mono (by decide))
    have c3 := qCompareL x z (r1.mono (by decide)) (r3.mono (by decide))
    have c4 := qCompareL y x (r2.mono (by decide)) (r1.mono (by decide))
    have s1 := pSameL x y (r1.mono (by decide)) (r2.mono (by decide))
    have a1 := qAddL x z (r1.mono (by decide)) (r3.mono (by decide))
    have a2 := qAddL y z (r2.mono (by decide)) (r3.mono (by decide))
    have a3 := qMulL x z (r1.mono (by decide)) (r3.mono (by decide))
    have a4 := qMulL y z (r2.mono (by decide)) (r3.mono (by decide))
    have c5 := qCompareL (x + z) (y + z) ((RB_add r1 r3).mono (by decide)) ((RB_add r2 r3).mono (by decide))
    have c6 := qCompareL (x * z) (y * z) ((RB_mul r1 r3).mono (by decide)) ((RB_mul r2 r3).mono (by decide))
    have s2 := qSignL z (r3.mono (by decide))
    rw [cmpQ_swap] at c4
    rw [cmpQ_add] at c5
    rw [cmpQ_mul] at c6
    have e1 := cmpQ_ltd x y
    have e2 := cmpQ_ltd y z
    have e3 := cmpQ_ged x z
    have e4 := cmpQ_eqd x y
    rw [← e4] at s1
    have htr := @lt_tr x y z
    have b1 := cmpQ_bd x y
    have b2 := cmp_sign_bd x y z
    have b3 := sign_bd z.num
    have hng : (0 : Int) - -(cmpQ x y) = cmpQ x y := by omega
    clear r1 r2 r3 e4
    generalize x + z = z1 at *
    generalize y + z = z2 at *
    generalize x * z = z3 at *
    generalize y * z = z4 at *
    generalize hC : cmpQ x y = C at *
    generalize cmpQ y z = D at *
    generalize cmpQ x z = E at *
    generalize z.num.sign = S at *
    obtain ⟨b11, b12⟩ := b1
    obtain ⟨b21, b22⟩ := b2
    obtain ⟨b31, b32⟩ := b3
    unfold codelqRationalIsOrdered
    cases hxy : decide (x < y)
    · rw [hxy] at e1
      repeat (first | (refine W_seq ?_) | (refine W_reg ?_) | (refine W_regd ?_) | (refine W_block ?_) | (refine And.intro (by omega) ?_) | simp (maxSteps := 1000000) (disch := omega) only [cA, cB, lk, lkH, Dst.onT, Dst.onX, Dst.slot, setF, setH, mapF, mapH, initF, binE, unE, cnt, boundE, newsE, freshE, opE, rmH, blkQ, frz_us, Nat.reduceEqDiff, Nat.reduceLT, Nat.reduceAdd, ↓reduceIte, reduceCtorEq, Nat.reduceLeDiff, Q, cS, nblqRationalIsOrdered] | (refine callC_pure (cf) rfl ?_) | exact W_ret (RetP_1 (.imm rfl)) | exact W_ret (RetP_c rfl rfl rfl (.imm rfl)))
      refine W_cond rfl (fun h => by cases h) (fun _ => W_skip ?_)
      repeat (first | (refine W_seq ?_) | (refine W_reg ?_) | (refine W_regd ?_) | (refine W_block ?_) | (refine And.intro (by omega) ?_) | simp (maxSteps := 1000000) (disch := omega) only [cA, cB, lk, lkH, Dst.onT, Dst.onX, Dst.slot, setF, setH, mapF, mapH, initF, binE, unE, cnt, boundE, newsE, freshE, opE, rmH, blkQ, frz_us, Nat.reduceEqDiff, Nat.reduceLT, Nat.reduceAdd, ↓reduceIte, reduceCtorEq, Nat.reduceLeDiff, Q, cS, cT, nblqRationalIsOrdered, e1] | (refine callC_pure (c1) rfl ?_) | exact W_ret (RetP_1 (.imm rfl)) | exact W_ret (RetP_c rfl rfl rfl (.imm rfl)))
      refine W_cond rfl (fun h => by cases h) (fun _ => W_skip ?_)
      repeat (first | (refine W_seq ?_) | (refine W_reg ?_) | (refine W_regd ?_) | (refine W_block ?_) | (refine And.intro (by omega) ?_) | simp (maxSteps := 1000000) (disch := omega) only [cA, cB, lk, lkH, Dst.onT, Dst.onX, Dst.slot, setF, setH, mapF, mapH, initF, binE, unE, cnt, boundE, newsE, freshE, opE, rmH, blkQ, frz_us, Nat.reduceEqDiff, Nat.reduceLT, Nat.reduceAdd, ↓reduceIte, reduceCtorEq, Nat.reduceLeDiff, Q, cS, cT, nblqRationalIsOrdered, decide_true, hng, beq_self_eq_true] | (refine callC_pure (aw) rfl ?_) | (refine callC_pure (c4) rfl ?_) | (refine callC_pure (s1) rfl ?_) | (refine callC_pure (a1) rfl ?_) | (refine callC_pure (a2) rfl ?_) | (refine callC_pure (c5) rfl ?_) | (refine callC_pure (a3) rfl ?_) | (refine callC_pure (a4) rfl ?_) | (refine callC_pure (c6) rfl ?_) | (refine callC_pure (s2) rfl ?_) | exact W_ret (RetP_1 (.imm rfl)) | exact W_ret (RetP_c rfl rfl rfl (.imm rfl)))
    · rw [hxy] at e1
      cases hyz : decide (y < z)
      · rw [hyz] at e2
        repeat (first | (refine W_seq ?_) | (refine W_reg ?_) | (refine W_regd ?_) | (refine W_block ?_) | (refine And.intro (by omega) ?_) | simp (maxSteps := 1000000) (disch := omega) only [cA, cB, lk, lkH, Dst.onT, Dst.onX, Dst.slot, setF, setH, mapF, mapH, initF, binE, unE, cnt, boundE, newsE, freshE, opE, rmH, blkQ, frz_us, Nat.reduceEqDiff, Nat.reduceLT, Nat.reduceAdd, ↓reduceIte, reduceCtorEq, Nat.reduceLeDiff, Q, cS, nblqRationalIsOrdered] | (refine callC_pure (cf) rfl ?_) | exact W_ret (RetP_1 (.imm rfl)) | exact W_ret (RetP_c rfl rfl rfl (.imm rfl)))
        refine W_cond rfl (fun h => by cases h) (fun _ => W_skip ?_)
        repeat (first | (refine W_seq ?_) | (refine W_reg ?_) | (refine W_regd ?_) | (refine W_block ?_) | (refine And.intro (by omega) ?_) | simp (maxSteps := 1000000) (disch := omega) only [cA, cB, lk, lkH, Dst.onT, Dst.onX, Dst.slot, setF, setH, mapF, mapH, initF, binE, unE, cnt, boundE, newsE, freshE, opE, rmH, blkQ, frz_us, Nat.reduceEqDiff, Nat.reduceLT, Nat.reduceAdd, ↓reduceIte, reduceCtorEq, Nat.reduceLeDiff, Q, cS, cT, nblqRationalIsOrdered, e1, e2] | (refine callC_pure (c1) rfl ?_) | (refine callC_pure (c2) rfl ?_) | exact W_ret (RetP_1 (.imm rfl)) | exact W_ret (RetP_c rfl rfl rfl (.imm rfl)))
        refine W_cond rfl (fun h => by cases h) (fun _ => W_skip ?_)
        repeat (first | (refine W_seq ?_) | (refine W_reg ?_) | (refine W_regd ?_) | (refine W_block ?_) | (refine And.intro (by omega) ?_) | simp (maxSteps := 1000000) (disch := omega) only [cA, cB, lk, lkH, Dst.onT, Dst.onX, Dst.slot, setF, setH, mapF, mapH, initF, binE, unE, cnt, boundE, newsE, freshE, opE, rmH, blkQ, frz_us, Nat.reduceEqDiff, Nat.reduceLT, Nat.reduceAdd, ↓reduceIte, reduceCtorEq, Nat.reduceLeDiff, Q, cS, cT, nblqRationalIsOrdered, decide_true, hng, beq_self_eq_true] | (refine callC_pure (aw) rfl ?_) | (refine callC_pure (c4) rfl ?_) | (refine callC_pure (s1) rfl ?_) | (refine callC_pure (a1) rfl ?_) | (refine callC_pure (a2) rfl ?_) | (refine callC_pure (c5) rfl ?_) | (refine callC_pure (a3) rfl ?_) | (refine callC_pure (a4) rfl ?_) | (refine callC_pure (c6) rfl ?_) | (refine callC_pure (s2) rfl ?_) | exact W_ret (RetP_1 (.imm rfl)) | exact W_ret (RetP_c rfl rfl rfl (.imm rfl)))
      · rw [hyz] at e2
        rw [decide_eq_true (htr (of_decide_eq_true hxy) (of_decide_eq_true hyz)), Bool.not_true] at e3
        repeat (first | (refine W_seq ?_) | (refine W_reg ?_) | (refine W_regd ?_) | (refine W_block ?_) | (refine And.intro (by omega) ?_) | simp (maxSteps := 1000000) (disch := omega) only [cA, cB, lk, lkH, Dst.onT, Dst.onX, Dst.slot, setF, setH, mapF, mapH, initF, binE, unE, cnt, boundE, newsE, freshE, opE, rmH, blkQ, frz_us, Nat.reduceEqDiff, Nat.reduceLT, Nat.reduceAdd, ↓reduceIte, reduceCtorEq, Nat.reduceLeDiff, Q, cS, nblqRationalIsOrdered] | (refine callC_pure (cf) rfl ?_) | exact W_ret (RetP_1 (.imm rfl)) | exact W_ret (RetP_c rfl rfl rfl (.imm rfl)))
        refine W_cond rfl (fun h => by cases h) (fun _ => W_skip ?_)
        repeat (first | (refine W_seq ?_) | (refine W_reg ?_) | (refine W_regd ?_) | (refine W_block ?_) | (refine And.intro (by omega) ?_) | simp (maxSteps := 1000000) (disch := omega) only [cA, cB, lk, lkH, Dst.onT, Dst.onX, Dst.slot, setF, setH, mapF, mapH, initF, binE, unE, cnt, boundE, newsE, freshE, opE, rmH, blkQ, frz_us, Nat.reduceEqDiff, Nat.reduceLT, Nat.reduceAdd, ↓reduceIte, reduceCtorEq, Nat.reduceLeDiff, Q, cS, cT, nblqRationalIsOrdered, e1, e2, e3] | (refine callC_pure (c1) rfl ?_) | (refine callC_pure (c2) rfl ?_) | (refine callC_pure (c3) rfl ?_) | exact W_ret (RetP_1 (.imm rfl)) | exact W_ret (RetP_c rfl rfl rfl (.imm rfl)))
        refine W_cond rfl (fun h => by cases h) (fun _ => W_skip ?_)
        repeat (first | (refine W_seq ?_) | (refine W_reg ?_) | (refine W_regd ?_) | (refine W_block ?_) | (refine And.intro (by omega) ?_) | simp (maxSteps := 1000000) (disch := omega) only [cA, cB, lk, lkH, Dst.onT, Dst.onX, Dst.slot, setF, setH, mapF, mapH, initF, binE, unE, cnt, boundE, newsE, freshE, opE, rmH, blkQ, frz_us, Nat.reduceEqDiff, Nat.reduceLT, Nat.reduceAdd, ↓reduceIte, reduceCtorEq, Nat.reduceLeDiff, Q, cS, cT, nblqRationalIsOrdered, decide_true, hng, beq_self_eq_true] | (refine callC_pure (aw) rfl ?_) | (refine callC_pure (c4) rfl ?_) | (refine callC_pure (s1) rfl ?_) | (refine callC_pure (a1) rfl ?_) | (refine callC_pure (a2) rfl ?_) | (refine callC_pure (c5) rfl ?_) | (refine callC_pure (a3) rfl ?_) | (refine callC_pure (a4) rfl ?_) | (refine callC_pure (c6) rfl ?_) | (refine callC_pure (s2) rfl ?_) | exact W_ret (RetP_1 (.imm rfl)) | exact W_ret (RetP_c rfl rfl rfl (.imm rfl)))
end Go.Proofs.YteiagmmfapbaiaaGreatDoor
