/- Lemmas of the walk; no conditions beyond those that each states. -/
import Derived.Test.YteiagmmfapbaiaaGreatDoorProg
import Derived.KernelRfl
import Derived.Test.YteiagmmfapbaiaaGreatDoorT1
import Derived.Test.YteiagmmfapbaiaaGreatDoorN1
import Derived.Test.YteiagmmfapbaiaaGreatDoorD2
import Derived.Test.YteiagmmfapbaiaaGreatDoorC1
set_option linter.unusedSimpArgs false
set_option linter.unusedVariables false
set_option linter.unnecessarySimpa false
namespace Go.Proofs.YteiagmmfapbaiaaGreatDoor
open Go Go.Dat Go.Proofs Nat32
theorem gcd_step (x y : Nat) : Nat.gcd y (x % y) = Nat.gcd x y := by
  rw [Nat.gcd_comm y, ← Nat.gcd_rec, Nat.gcd_comm]
theorem ngcd_calls (a b : Nat) (ha : a < 18446744073709551616) (hb : b < 18446744073709551616) : PCalls Tryz.prog 139 [.int .u64 a, .int .u64 b] (.int .u64 (Nat.gcd a b : Nat)) := by
  refine PCalls_of isngcd (by simp [fnngcd]) ?_
  unfold codengcd
  repeat (first | refine W_seq ?_ | refine W_reg ?_ | refine W_regd ?_ | refine W_block ?_ | refine And.intro (by omega) ?_ | simp (maxSteps := 1000000) (disch := omega) only [cA, cB, cC, frz_us, binE, unE, boundE, newsE, blkQ, Nat.reduceEqDiff, Nat.reduceLT, Nat.reduceAdd, ↓reduceIte, reduceCtorEq, Nat.reduceLeDiff])
  refine W_loop (σ := Nat × Nat) (fun z => [(0, .int .u64 z.1), (1, .int .u64 z.2)]) (fun _ => []) (fun z => Nat.gcd z.1 z.2 = Nat.gcd a b ∧ z.1 < 18446744073709551616 ∧ z.2 < 18446744073709551616) (fun z => z.2) (a, b) ⟨rfl, ha, hb⟩ ?_ rfl ?_
  · simp [subF, lk]
  · rintro ⟨x, y⟩ ⟨hg, hx, hy⟩
    simp only at hg hx hy ⊢
    repeat (first | refine W_seq ?_ | refine W_reg ?_ | refine W_regd ?_ | refine W_block ?_ | refine And.intro (by omega) ?_ | simp (maxSteps := 1000000) (disch := omega) only [cA, cB, cC, frz_us, binE, unE, boundE, newsE, blkQ, Nat.reduceEqDiff, Nat.reduceLT, Nat.reduceAdd, ↓reduceIte, reduceCtorEq, Nat.reduceLeDiff])
    refine W_cond rfl (fun h => W_skip ?_) (fun h => W_exit ?_)
    · have h := of_decide_eq_true h
      have hm := Nat.mod_lt x (show 0 < y by omega)
      repeat (first | refine W_seq ?_ | refine W_reg ?_ | refine W_regd ?_ | refine W_block ?_ | refine And.intro (by omega) ?_ | simp (maxSteps := 1000000) (disch := omega) only [cA, cB, cC, frz_us, binE, unE, boundE, newsE, blkQ, Nat.reduceEqDiff, Nat.reduceLT, Nat.reduceAdd, ↓reduceIte, reduceCtorEq, Nat.reduceLeDiff, tmod_nat])
      refine ⟨(y, x % y), ⟨by rw [← hg]; exact gcd_step x y, hy, by simp only; omega⟩, hm, by simp [subF, lk]⟩
    · have h := of_decide_eq_false h
      have : y = 0 := by omega
      subst this
      rw [Nat.gcd_zero_right] at hg
      subst hg
      repeat (first | refine W_seq ?_ | refine W_reg ?_ | refine W_regd ?_ | refine W_block ?_ | refine And.intro (by omega) ?_ | simp (maxSteps := 1000000) (disch := omega) only [cA, cB, cC, frz_us, binE, unE, boundE, newsE, blkQ, Nat.reduceEqDiff, Nat.reduceLT, Nat.reduceAdd, ↓reduceIte, reduceCtorEq, Nat.reduceLeDiff])
      exact W_ret (RetP_1 (.imm rfl))
theorem nGcd_calls (a b : List Nat) (ha : a.length ≤ 100000) (hb : b.length ≤ 100000) (la : lim a) (lb : lim b) : PCalls Tryz.prog 87 [.sl 1 (us a), .sl 1 (us b)] (.sl 1 (us (limbs (Nat.gcd (vn a) (vn b))))) := by
  have l1 := vn_len la
  have l2 := vn_len lb
  have c1 := nValue_calls a (by omega) la
  have c2 := nValue_calls b (by omega) lb
  refine PCalls_of isnGcd (by simp [fnnGcd]) ?_
  unfold codenGcd
  generalize vn a = x0 at *
  generalize vn b = y0 at *
  repeat (first | refine W_seq ?_ | refine W_reg ?_ | refine W_regd ?_ | refine W_block ?_ | refine And.intro (by omega) ?_ | simp (maxSteps := 1000000) (disch := omega) only [cA, cB, cC, frz_us, binE, unE, boundE, newsE, blkQ, Nat.reduceEqDiff, Nat.reduceLT, Nat.reduceAdd, ↓reduceIte, reduceCtorEq, Nat.reduceLeDiff])
  refine callC_pure c1 rfl ?_
  repeat (first | refine W_seq ?_ | refine W_reg ?_ | refine W_regd ?_ | refine W_block ?_ | refine And.intro (by omega) ?_ | simp (maxSteps := 1000000) (disch := omega) only [cA, cB, cC, frz_us, binE, unE, boundE, newsE, blkQ, Nat.reduceEqDiff, Nat.reduceLT, Nat.reduceAdd, ↓reduceIte, reduceCtorEq, Nat.reduceLeDiff])
  refine callC_pure c2 rfl ?_
  repeat (first | refine W_seq ?_ | refine W_reg ?_ | refine W_regd ?_ | refine W_block ?_ | refine And.intro (by omega) ?_ | simp (maxSteps := 1000000) (disch := omega) only [cA, cB, cC, frz_us, binE, unE, boundE, newsE, blkQ, Nat.reduceEqDiff, Nat.reduceLT, Nat.reduceAdd, ↓reduceIte, reduceCtorEq, Nat.reduceLeDiff])
  refine W_loop (σ := Nat × Nat) (fun z => [(0, .sl 1 (us (limbs z.1))), (1, .sl 1 (us (limbs z.2)))]) (fun _ => []) (fun z => Nat.gcd z.1 z.2 = Nat.gcd x0 y0 ∧ (limbs z.1).length ≤ 100000 ∧ (limbs z.2).length ≤ 100000) (fun z => z.2) (x0, y0) ⟨rfl, by simp only; omega, by simp only; omega⟩ ?_ rfl ?_
  · simp [subF, lk]
  · rintro ⟨x, y⟩ ⟨hg, hx, hy⟩
    simp only at hg hx hy ⊢
    repeat (first | refine W_seq ?_ | refine W_reg ?_ | refine W_regd ?_ | refine W_block ?_ | refine And.intro (by omega) ?_ | simp (maxSteps := 1000000) (disch := omega) only [cA, cB, cC, frz_us, binE, unE, boundE, newsE, blkQ, Nat.reduceEqDiff, Nat.reduceLT, Nat.reduceAdd, ↓reduceIte, reduceCtorEq, Nat.reduceLeDiff, us_length])
    refine W_cond rfl (fun h => W_skip ?_) (fun h => W_exit ?_)
    · have h := of_decide_eq_true h
      have hy0 : 0 < y := by
        rcases Nat.eq_zero_or_pos y with e | e
        · subst e; rw [limbs_zero] at h; simp at h
        · exact e
      have hm := Nat.mod_lt x hy0
      have u1 := nUint_calls (limbs x) (by omega) (lim_limbs x)
      have u2 := nUint_calls (limbs y) (by omega) (lim_limbs y)
      have cd := nDiv_calls (limbs x) (limbs y) hx hy (lim_limbs x) (lim_limbs y)
      rw [vn_limbs, vn_limbs, dmod_pos hy0, decide_eq_true hy0] at cd
      rw [vn_limbs] at u1 u2
      have lm := len_mono (Nat.le_of_lt hm)
      have fin : ∃ s', (Nat.gcd s'.1 s'.2 = Nat.gcd x0 y0 ∧ (limbs s'.1).length ≤ 100000 ∧ (limbs s'.2).length ≤ 100000) ∧ s'.2 < y ∧ s' = (y, x % y) := ⟨(y, x % y), ⟨by rw [← hg]; exact gcd_step x y, hy, by simp only; omega⟩, hm, rfl⟩
      by_cases hs1 : (limbs x).length > 2
      · rw [uintR, if_pos hs1] at u1
        obtain ⟨p, s, e⟩ : ∃ p s, uintR y = .tup [.int .u64 p, .bool s] := by unfold uintR; split <;> exact ⟨_, _, rfl⟩
        rw [e] at u2
        repeat (first | refine W_seq ?_ | refine W_reg ?_ | refine W_regd ?_ | refine W_block ?_ | refine And.intro (by omega) ?_ | simp (maxSteps := 1000000) (disch := omega) only [cA, cB, cC, frz_us, binE, unE, boundE, newsE, blkQ, Nat.reduceEqDiff, Nat.reduceLT, Nat.reduceAdd, ↓reduceIte, reduceCtorEq, Nat.reduceLeDiff])
        refine callC_pure u1 rfl ?_
        repeat (first | refine W_seq ?_ | refine W_reg ?_ | refine W_regd ?_ | refine W_block ?_ | refine And.intro (by omega) ?_ | simp (maxSteps := 1000000) (disch := omega) only [cA, cB, cC, frz_us, binE, unE, boundE, newsE, blkQ, Nat.reduceEqDiff, Nat.reduceLT, Nat.reduceAdd, ↓reduceIte, reduceCtorEq, Nat.reduceLeDiff])
        refine callC_pure u2 rfl ?_
        repeat (first | refine W_seq ?_ | refine W_reg ?_ | refine W_regd ?_ | refine W_block ?_ | refine And.intro (by omega) ?_ | simp (maxSteps := 1000000) (disch := omega) only [cA, cB, cC, frz_us, binE, unE, boundE, newsE, blkQ, Nat.reduceEqDiff, Nat.reduceLT, Nat.reduceAdd, ↓reduceIte, reduceCtorEq, Nat.reduceLeDiff])
        refine W_cond rfl (fun h => by cases h) (fun _ => W_skip ?_)
        repeat (first | refine W_seq ?_ | refine W_reg ?_ | refine W_regd ?_ | refine W_block ?_ | refine And.intro (by omega) ?_ | simp (maxSteps := 1000000) (disch := omega) only [cA, cB, cC, frz_us, binE, unE, boundE, newsE, blkQ, Nat.reduceEqDiff, Nat.reduceLT, Nat.reduceAdd, ↓reduceIte, reduceCtorEq, Nat.reduceLeDiff])
        refine callC_pure cd rfl ?_
        repeat (first | refine W_seq ?_ | refine W_reg ?_ | refine W_regd ?_ | refine W_block ?_ | refine And.intro (by omega) ?_ | simp (maxSteps := 1000000) (disch := omega) only [cA, cB, cC, frz_us, binE, unE, boundE, newsE, blkQ, Nat.reduceEqDiff, Nat.reduceLT, Nat.reduceAdd, ↓reduceIte, reduceCtorEq, Nat.reduceLeDiff])
        obtain ⟨s', i1, i2, rfl⟩ := fin
        exact ⟨_, i1, i2, by simp [subF, lk]⟩
      · rw [uintR, if_neg hs1] at u1
        have hx64 := limbs_le2 (show (limbs x).length ≤ 2 by omega)
        by_cases hs2 : (limbs y).length > 2
        · rw [uintR, if_pos hs2] at u2
          repeat (first | refine W_seq ?_ | refine W_reg ?_ | refine W_regd ?_ | refine W_block ?_ | refine And.intro (by omega) ?_ | simp (maxSteps := 1000000) (disch := omega) only [cA, cB, cC, frz_us, binE, unE, boundE, newsE, blkQ, Nat.reduceEqDiff, Nat.reduceLT, Nat.reduceAdd, ↓reduceIte, reduceCtorEq, Nat.reduceLeDiff])
          refine callC_pure u1 rfl ?_
          repeat (first | refine W_seq ?_ | refine W_reg ?_ | refine W_regd ?_ | refine W_block ?_ | refine And.intro (by omega) ?_ | simp (maxSteps := 1000000) (disch := omega) only [cA, cB, cC, frz_us, binE, unE, boundE, newsE, blkQ, Nat.reduceEqDiff, Nat.reduceLT, Nat.reduceAdd, ↓reduceIte, reduceCtorEq, Nat.reduceLeDiff])
          refine callC_pure u2 rfl ?_
          repeat (first | refine W_seq ?_ | refine W_reg ?_ | refine W_regd ?_ | refine W_block ?_ | refine And.intro (by omega) ?_ | simp (maxSteps := 1000000) (disch := omega) only [cA, cB, cC, frz_us, binE, unE, boundE, newsE, blkQ, Nat.reduceEqDiff, Nat.reduceLT, Nat.reduceAdd, ↓reduceIte, reduceCtorEq, Nat.reduceLeDiff])
          refine W_cond rfl (fun h => by cases h) (fun _ => W_skip ?_)
          repeat (first | refine W_seq ?_ | refine W_reg ?_ | refine W_regd ?_ | refine W_block ?_ | refine And.intro (by omega) ?_ | simp (maxSteps := 1000000) (disch := omega) only [cA, cB, cC, frz_us, binE, unE, boundE, newsE, blkQ, Nat.reduceEqDiff, Nat.reduceLT, Nat.reduceAdd, ↓reduceIte, reduceCtorEq, Nat.reduceLeDiff])
          refine callC_pure cd rfl ?_
          repeat (first | refine W_seq ?_ | refine W_reg ?_ | refine W_regd ?_ | refine W_block ?_ | refine And.intro (by omega) ?_ | simp (maxSteps := 1000000) (disch := omega) only [cA, cB, cC, frz_us, binE, unE, boundE, newsE, blkQ, Nat.reduceEqDiff, Nat.reduceLT, Nat.reduceAdd, ↓reduceIte, reduceCtorEq, Nat.reduceLeDiff])
          obtain ⟨s', i1, i2, rfl⟩ := fin
          exact ⟨_, i1, i2, by simp [subF, lk]⟩
        · rw [uintR, if_neg hs2] at u2
          have hy64 := limbs_le2 (show (limbs y).length ≤ 2 by omega)
          have cg := ngcd_calls x y hx64 hy64
          have hgl : Nat.gcd x y ≤ y := Nat.gcd_le_right x hy0
          have cf := nFromUint_calls (Nat.gcd x y) (by omega)
          repeat (first | refine W_seq ?_ | refine W_reg ?_ | refine W_regd ?_ | refine W_block ?_ | refine And.intro (by omega) ?_ | simp (maxSteps := 1000000) (disch := omega) only [cA, cB, cC, frz_us, binE, unE, boundE, newsE, blkQ, Nat.reduceEqDiff, Nat.reduceLT, Nat.reduceAdd, ↓reduceIte, reduceCtorEq, Nat.reduceLeDiff])
          refine callC_pure u1 rfl ?_
          repeat (first | refine W_seq ?_ | refine W_reg ?_ | refine W_regd ?_ | refine W_block ?_ | refine And.intro (by omega) ?_ | simp (maxSteps := 1000000) (disch := omega) only [cA, cB, cC, frz_us, binE, unE, boundE, newsE, blkQ, Nat.reduceEqDiff, Nat.reduceLT, Nat.reduceAdd, ↓reduceIte, reduceCtorEq, Nat.reduceLeDiff])
          refine callC_pure u2 rfl ?_
          repeat (first | refine W_seq ?_ | refine W_reg ?_ | refine W_regd ?_ | refine W_block ?_ | refine And.intro (by omega) ?_ | simp (maxSteps := 1000000) (disch := omega) only [cA, cB, cC, frz_us, binE, unE, boundE, newsE, blkQ, Nat.reduceEqDiff, Nat.reduceLT, Nat.reduceAdd, ↓reduceIte, reduceCtorEq, Nat.reduceLeDiff])
          refine W_cond rfl (fun _ => ?_) (fun h => by cases h)
          repeat (first | refine W_seq ?_ | refine W_reg ?_ | refine W_regd ?_ | refine W_block ?_ | refine And.intro (by omega) ?_ | simp (maxSteps := 1000000) (disch := omega) only [cA, cB, cC, frz_us, binE, unE, boundE, newsE, blkQ, Nat.reduceEqDiff, Nat.reduceLT, Nat.reduceAdd, ↓reduceIte, reduceCtorEq, Nat.reduceLeDiff])
          refine callC_pure cg rfl ?_
          repeat (first | refine W_seq ?_ | refine W_reg ?_ | refine W_regd ?_ | refine W_block ?_ | refine And.intro (by omega) ?_ | simp (maxSteps := 1000000) (disch := omega) only [cA, cB, cC, frz_us, binE, unE, boundE, newsE, blkQ, Nat.reduceEqDiff, Nat.reduceLT, Nat.reduceAdd, ↓reduceIte, reduceCtorEq, Nat.reduceLeDiff])
          refine callC_pure cf rfl ?_
          repeat (first | refine W_seq ?_ | refine W_reg ?_ | refine W_regd ?_ | refine W_block ?_ | refine And.intro (by omega) ?_ | simp (maxSteps := 1000000) (disch := omega) only [cA, cB, cC, frz_us, binE, unE, boundE, newsE, blkQ, Nat.reduceEqDiff, Nat.reduceLT, Nat.reduceAdd, ↓reduceIte, reduceCtorEq, Nat.reduceLeDiff])
          rw [← hg]
          exact W_ret (RetP_1 (.imm rfl))
    · have h := of_decide_eq_false h
      have hy0 : y = 0 := limbs_eq_nil.1 (List.eq_nil_of_length_eq_zero (by omega))
      subst hy0
      rw [Nat.gcd_zero_right] at hg
      rw [← hg]
      have cc := Clone_calls (limbs x) (by omega)
      repeat (first | refine W_seq ?_ | refine W_reg ?_ | refine W_regd ?_ | refine W_block ?_ | refine And.intro (by omega) ?_ | simp (maxSteps := 1000000) (disch := omega) only [cA, cB, cC, frz_us, binE, unE, boundE, newsE, blkQ, Nat.reduceEqDiff, Nat.reduceLT, Nat.reduceAdd, ↓reduceIte, reduceCtorEq, Nat.reduceLeDiff])
      refine callC_pure cc rfl ?_
      repeat (first | refine W_seq ?_ | refine W_reg ?_ | refine W_regd ?_ | refine W_block ?_ | refine And.intro (by omega) ?_ | simp (maxSteps := 1000000) (disch := omega) only [cA, cB, cC, frz_us, binE, unE, boundE, newsE, blkQ, Nat.reduceEqDiff, Nat.reduceLT, Nat.reduceAdd, ↓reduceIte, reduceCtorEq, Nat.reduceLeDiff])
      exact W_ret (RetP_1 (.imm rfl))
theorem rGcd_calls (a b : List Nat) (ha : a.length ≤ 1000) (hb : b.length ≤ 1000) (la : lim a) (lb : lim b) : PCalls Tryz.prog 92 [.sl 1 (us a), .sl 1 (us b)] (.sl 1 (us (limbs (Nat.gcd (vn a) (vn b))))) := by
  have l1 := vn_len la
  have l2 := vn_len lb
  have c1 := rTake_calls a (by omega) la
  have c2 := rTake_calls b (by omega) lb
  refine PCalls_of isrGcd (by simp [fnrGcd]) ?_
  unfold coderGcd
  generalize vn a = x0 at *
  generalize vn b = y0 at *
  repeat (first | refine W_seq ?_ | refine W_reg ?_ | refine W_regd ?_ | refine W_block ?_ | refine And.intro (by omega) ?_ | simp (maxSteps := 1000000) (disch := omega) only [cA, cB, cC, frz_us, binE, unE, boundE, newsE, blkQ, Nat.reduceEqDiff, Nat.reduceLT, Nat.reduceAdd, ↓reduceIte, reduceCtorEq, Nat.reduceLeDiff])
  refine callC_pure c1 rfl ?_
  repeat (first | refine W_seq ?_ | refine W_reg ?_ | refine W_regd ?_ | refine W_block ?_ | refine And.intro (by omega) ?_ | simp (maxSteps := 1000000) (disch := omega) only [cA, cB, cC, frz_us, binE, unE, boundE, newsE, blkQ, Nat.reduceEqDiff, Nat.reduceLT, Nat.reduceAdd, ↓reduceIte, reduceCtorEq, Nat.reduceLeDiff])
  refine callC_pure c2 rfl ?_
  repeat (first | refine W_seq ?_ | refine W_reg ?_ | refine W_regd ?_ | refine W_block ?_ | refine And.intro (by omega) ?_ | simp (maxSteps := 1000000) (disch := omega) only [cA, cB, cC, frz_us, binE, unE, boundE, newsE, blkQ, Nat.reduceEqDiff, Nat.reduceLT, Nat.reduceAdd, ↓reduceIte, reduceCtorEq, Nat.reduceLeDiff])
  refine W_loop (σ := Nat × Nat) (fun z => [(0, .sl 1 (us (limbs z.1))), (1, .sl 1 (us (limbs z.2)))]) (fun _ => []) (fun z => Nat.gcd z.1 z.2 = Nat.gcd x0 y0 ∧ (limbs z.1).length ≤ 1000 ∧ (limbs z.2).length ≤ 1000) (fun z => z.2) (x0, y0) ⟨rfl, by simp only; omega, by simp only; omega⟩ ?_ rfl ?_
  · simp [subF, lk]
  · rintro ⟨x, y⟩ ⟨hg, hx, hy⟩
    simp only at hg hx hy ⊢
    repeat (first | refine W_seq ?_ | refine W_reg ?_ | refine W_regd ?_ | refine W_block ?_ | refine And.intro (by omega) ?_ | simp (maxSteps := 1000000) (disch := omega) only [cA, cB, cC, frz_us, binE, unE, boundE, newsE, blkQ, Nat.reduceEqDiff, Nat.reduceLT, Nat.reduceAdd, ↓reduceIte, reduceCtorEq, Nat.reduceLeDiff, us_length])
    refine W_cond rfl (fun h => W_skip ?_) (fun h => W_exit ?_)
    · have h := of_decide_eq_true h
      have hy0 : 0 < y := by
        rcases Nat.eq_zero_or_pos y with e | e
        · subst e; rw [limbs_zero] at h; simp at h
        · exact e
      have hm := Nat.mod_lt x hy0
      have cd := rDiv_calls (limbs x) (limbs y) hx hy (lim_limbs x) (lim_limbs y)
      rw [vn_limbs, vn_limbs, dmod_pos hy0, decide_eq_true hy0] at cd
      have lm := len_mono (Nat.le_of_lt hm)
      repeat (first | refine W_seq ?_ | refine W_reg ?_ | refine W_regd ?_ | refine W_block ?_ | refine And.intro (by omega) ?_ | simp (maxSteps := 1000000) (disch := omega) only [cA, cB, cC, frz_us, binE, unE, boundE, newsE, blkQ, Nat.reduceEqDiff, Nat.reduceLT, Nat.reduceAdd, ↓reduceIte, reduceCtorEq, Nat.reduceLeDiff])
      refine callC_pure cd rfl ?_
      repeat (first | refine W_seq ?_ | refine W_reg ?_ | refine W_regd ?_ | refine W_block ?_ | refine And.intro (by omega) ?_ | simp (maxSteps := 1000000) (disch := omega) only [cA, cB, cC, frz_us, binE, unE, boundE, newsE, blkQ, Nat.reduceEqDiff, Nat.reduceLT, Nat.reduceAdd, ↓reduceIte, reduceCtorEq, Nat.reduceLeDiff])
      refine ⟨(y, x % y), ⟨by rw [← hg]; exact gcd_step x y, hy, by simp only; omega⟩, hm, by simp [subF, lk]⟩
    · have h := of_decide_eq_false h
      have hy0 : y = 0 := limbs_eq_nil.1 (List.eq_nil_of_length_eq_zero (by omega))
      subst hy0
      rw [Nat.gcd_zero_right] at hg
      rw [← hg]
      repeat (first | refine W_seq ?_ | refine W_reg ?_ | refine W_regd ?_ | refine W_block ?_ | refine And.intro (by omega) ?_ | simp (maxSteps := 1000000) (disch := omega) only [cA, cB, cC, frz_us, binE, unE, boundE, newsE, blkQ, Nat.reduceEqDiff, Nat.reduceLT, Nat.reduceAdd, ↓reduceIte, reduceCtorEq, Nat.reduceLeDiff])
      exact W_ret (RetP_1 (.imm rfl))
end Go.Proofs.YteiagmmfapbaiaaGreatDoor
namespace Go.Proofs.YteiagmmfapbaiaaGreatDoor
open Go Go.Dat Go.Proofs Nat32
theorem nMul_calls (a b : List Nat) (ha : a.length ≤ 10000) (hb : b.length ≤ 10000) (la : lim a) (lb : lim b) : PCalls Tryz.prog 74 [.sl 1 (us a), .sl 1 (us b)] (.sl 1 (us (limbs (vn a * vn b)))) := by
  have h1 := vn_len la
  have h2 := vn_len lb
  have c1 := nValue_calls a (by omega) la
  have c2 := nValue_calls b (by omega) lb
  refine PCalls_of isnMul (by simp [fnnMul]) ?_
  unfold codenMul
  generalize vn a = x at h1 c1 ⊢
  generalize vn b = y at h2 c2 ⊢
  have laX := lim_limbs x
  have laY := lim_limbs y
  refine W_seq (W_reg ?_)
  simp (maxSteps := 1000000) (disch := omega) only [cA, cB, cC, frz_us, binE, unE, boundE, newsE, blkQ, Nat.reduceEqDiff, Nat.reduceLT, Nat.reduceAdd, ↓reduceIte, reduceCtorEq, Nat.reduceLeDiff]
  repeat refine ⟨by omega, ?_⟩
  refine W_seq (W_reg ?_)
  simp (maxSteps := 1000000) (disch := omega) only [cA, cB, cC, frz_us, binE, unE, boundE, newsE, blkQ, Nat.reduceEqDiff, Nat.reduceLT, Nat.reduceAdd, ↓reduceIte, reduceCtorEq, Nat.reduceLeDiff]
  repeat refine ⟨by omega, ?_⟩
  refine callC_pure c1 rfl ?_
  simp (maxSteps := 1000000) (disch := omega) only [cA, cB, cC, frz_us, binE, unE, boundE, newsE, blkQ, Nat.reduceEqDiff, Nat.reduceLT, Nat.reduceAdd, ↓reduceIte, reduceCtorEq, Nat.reduceLeDiff]
  repeat refine ⟨by omega, ?_⟩
  refine callC_pure c2 rfl ?_
  simp (maxSteps := 1000000) (disch := omega) only [cA, cB, cC, frz_us, binE, unE, boundE, newsE, blkQ, Nat.reduceEqDiff, Nat.reduceLT, Nat.reduceAdd, ↓reduceIte, reduceCtorEq, Nat.reduceLeDiff]
  repeat refine ⟨by omega, ?_⟩
  refine W_seq (W_reg ?_)
  simp (maxSteps := 1000000) (disch := omega) only [cA, cB, cC, frz_us, binE, unE, boundE, newsE, blkQ, Nat.reduceEqDiff, Nat.reduceLT, Nat.reduceAdd, ↓reduceIte, reduceCtorEq, Nat.reduceLeDiff, us_length, us_rep, nbnMul, add_nat]
  repeat refine ⟨by omega, ?_⟩
  refine W_seq (W_seq (W_reg ?_))
  simp (maxSteps := 1000000) (disch := omega) only [cA, cB, cC, frz_us, binE, unE, boundE, newsE, blkQ, Nat.reduceEqDiff, Nat.reduceLT, Nat.reduceAdd, ↓reduceIte, reduceCtorEq, Nat.reduceLeDiff, us_length]
  repeat refine ⟨by omega, ?_⟩
  obtain ⟨N, hN⟩ : ∃ N, N = (limbs x).length + (limbs y).length := ⟨_, rfl⟩
  rw [← hN]
  refine W_block (W_loop (σ := Nat × List Nat) (fun s => [(0, .sl 1 (us (limbs x))), (1, .sl 1 (us (limbs y))), (5, .osl 1 20 0 N), (21, .sl 1 (us (limbs x))), (22, .int .i64 (limbs x).length), (23, .int .i64 s.1)])
    (fun s => [(20, us s.2)])
    (fun s => s.1 ≤ (limbs x).length ∧ s.2.length = N ∧ lim s.2 ∧ nv s.2 = nv ((limbs x).take s.1) * y ∧ ∀ k, s.1 + (limbs y).length ≤ k → s.2.getD k 0 = 0)
    (fun s => (limbs x).length - s.1) (0, List.replicate N 0) ⟨Nat.zero_le _, by simp, ?_, by simp [nv, nv_rep], ?_⟩ ?_ ?_ ?_)
  · intro z hz; rw [List.eq_of_mem_replicate hz]; decide
  · intro k _; simp [List.getD_eq_getElem?_getD, List.getElem?_replicate]; split <;> rfl
  · simp [subF, lk]
  · rfl
  · rintro ⟨i, out⟩ ⟨hi, ho, hlo, hno, hzo⟩
    simp only at hi ho hlo hno hzo ⊢
    refine W_seq (W_reg ?_)
    simp (maxSteps := 1000000) (disch := omega) only [cA, cB, cC, frz_us, binE, unE, boundE, newsE, blkQ, Nat.reduceEqDiff, Nat.reduceLT, Nat.reduceAdd, ↓reduceIte, reduceCtorEq, Nat.reduceLeDiff]
    repeat refine ⟨by omega, ?_⟩
    refine W_seq (W_cond rfl (fun hcd => W_skip ?_) (fun hcd => W_exit ?_))
    · have hlt := of_decide_eq_true hcd
      have hlt : i < (limbs x).length := by omega
      have hxi := lim_getD laX i
      simp (maxSteps := 1000000) (disch := omega) only [cA, cB, cC, frz_us, binE, unE, boundE, newsE, blkQ, Nat.reduceEqDiff, Nat.reduceLT, Nat.reduceAdd, ↓reduceIte, reduceCtorEq, Nat.reduceLeDiff]
      repeat refine ⟨by omega, ?_⟩
      refine W_seq (W_block (W_seq (W_reg ?_)))
      simp (maxSteps := 1000000) (disch := omega) only [cA, cB, cC, frz_us, binE, unE, boundE, newsE, blkQ, Nat.reduceEqDiff, Nat.reduceLT, Nat.reduceAdd, ↓reduceIte, reduceCtorEq, Nat.reduceLeDiff, us_length, us_getD]
      repeat refine ⟨by omega, ?_⟩
      refine W_seq (W_reg ?_)
      simp (maxSteps := 1000000) (disch := omega) only [cA, cB, cC, frz_us, binE, unE, boundE, newsE, blkQ, Nat.reduceEqDiff, Nat.reduceLT, Nat.reduceAdd, ↓reduceIte, reduceCtorEq, Nat.reduceLeDiff]
      repeat refine ⟨by omega, ?_⟩
      have hts := nv_take_succ' (a := limbs x) i
      generalize hxe : (limbs x).getD i 0 = xi at hxi hts ⊢
      refine W_seq (W_join (ι := Nat × List Nat) (fun s => s.1 < 4294967296 ∧ s.2.length = N ∧ lim s.2 ∧ nv s.2 + 4294967296 ^ (i + (limbs y).length) * s.1 = nv out + 4294967296 ^ i * (xi * y) ∧ ∀ k, i + (limbs y).length ≤ k → s.2.getD k 0 = 0)
        (fun s => [(0, .sl 1 (us (limbs x))), (1, .sl 1 (us (limbs y))), (5, .osl 1 20 0 N), (6, .int .i64 i), (8, .int .u64 s.1), (21, .sl 1 (us (limbs x))), (22, .int .i64 (limbs x).length), (23, .int .i64 i)]) (fun s => [(20, us s.2)]) (W_seq (W_reg ?_)) ?_)
      · simp (maxSteps := 1000000) (disch := omega) only [cA, cB, cC, frz_us, binE, unE, boundE, newsE, blkQ, Nat.reduceEqDiff, Nat.reduceLT, Nat.reduceAdd, ↓reduceIte, reduceCtorEq, Nat.reduceLeDiff, us_length]
        repeat refine ⟨by omega, ?_⟩
        refine W_block (W_loop (σ := Nat × List Nat × Nat) (fun s => [(0, .sl 1 (us (limbs x))), (1, .sl 1 (us (limbs y))), (5, .osl 1 20 0 N), (6, .int .i64 i), (7, .int .u32 xi), (8, .int .u64 s.2.2), (21, .sl 1 (us (limbs x))), (22, .int .i64 (limbs x).length), (23, .int .i64 i), (28, .sl 1 (us (limbs y))), (29, .int .i64 (limbs y).length), (30, .int .i64 s.1)])
          (fun s => [(20, us s.2.1)])
          (fun s => s.1 ≤ (limbs y).length ∧ s.2.1.length = N ∧ lim s.2.1 ∧ s.2.2 < 4294967296 ∧ nv s.2.1 + 4294967296 ^ (i + s.1) * s.2.2 = nv out + 4294967296 ^ i * (xi * nv ((limbs y).take s.1)) ∧ ∀ k, i + (limbs y).length ≤ k → s.2.1.getD k 0 = 0)
          (fun s => (limbs y).length - s.1) (0, out, 0) ⟨Nat.zero_le _, ho, hlo, by simp only; omega, by simp [nv], hzo⟩ ?_ rfl ?_)
        · simp [subF, lk]
        · rintro ⟨j, q, c⟩ ⟨hj, hq, hlq, hc, hnv, hzq⟩
          simp only at hj hq hlq hc hnv hzq ⊢
          refine W_seq (W_reg ?_)
          simp (maxSteps := 1000000) (disch := omega) only [cA, cB, cC, frz_us, binE, unE, boundE, newsE, blkQ, Nat.reduceEqDiff, Nat.reduceLT, Nat.reduceAdd, ↓reduceIte, reduceCtorEq, Nat.reduceLeDiff]
          repeat refine ⟨by omega, ?_⟩
          refine W_seq (W_cond rfl (fun hcd2 => W_skip ?_) (fun hcd2 => W_exit ?_))
          · have hlt2 := of_decide_eq_true hcd2
            have hlt2 : j < (limbs y).length := by omega
            have hyj := lim_getD laY j
            have htj := nv_take_succ' (a := limbs y) j
            have hoj := lim_getD hlq (i + j)
            have hidx : (((i : Int) + (j : Int))).toNat = i + j := by omega
            simp (maxSteps := 1000000) (disch := omega) only [cA, cB, cC, frz_us, binE, unE, boundE, newsE, blkQ, Nat.reduceEqDiff, Nat.reduceLT, Nat.reduceAdd, ↓reduceIte, reduceCtorEq, Nat.reduceLeDiff]
            repeat refine ⟨by omega, ?_⟩
            refine W_seq (W_block (W_seq (W_reg ?_)))
            simp (maxSteps := 1000000) (disch := omega) only [cA, cB, cC, frz_us, binE, unE, boundE, newsE, blkQ, Nat.reduceEqDiff, Nat.reduceLT, Nat.reduceAdd, ↓reduceIte, reduceCtorEq, Nat.reduceLeDiff, us_length, us_getD]
            repeat refine ⟨by omega, ?_⟩
            generalize (limbs y).getD j 0 = yj at hyj htj ⊢
            refine W_seq (W_reg ?_)
            simp (maxSteps := 1000000) (disch := omega) only [cA, cB, cC, frz_us, binE, unE, boundE, newsE, blkQ, Nat.reduceEqDiff, Nat.reduceLT, Nat.reduceAdd, ↓reduceIte, reduceCtorEq, Nat.reduceLeDiff, us_length, us_getD, hidx, hq]
            repeat refine ⟨by omega, ?_⟩
            obtain ⟨m1, m2⟩ := mac_w hxi hyj hc hoj
            have hw : IntKind.u64.wrap ((c : Int) + IntKind.u64.wrap (IntKind.u64.wrap ((xi : Int) * (yj : Int)) + ((q.getD (i + j) 0 : Nat) : Int))) = ((xi * yj + q.getD (i + j) 0 + c : Nat) : Int) := by
              rw [mul_w hxi hyj]
              generalize xi * yj = p at m1 ⊢
              generalize q.getD (i + j) 0 = o at m1 ⊢
              rw [wu64 (x := (p : Int) + (o : Int)) (by omega) (by omega), wu64 (by omega) (by omega)]
              omega
            rw [hw]
            have hset := nv_set (l := q) (k := i + j) (v := (xi * yj + q.getD (i + j) 0 + c) % 4294967296) (by omega)
            have hstep := mac_step hnv hset rfl
            generalize xi * yj + q.getD (i + j) 0 + c = t at m1 m2 hset hstep ⊢
            have halg : 4294967296 ^ (i + j) * (xi * yj) = 4294967296 ^ i * (xi * (4294967296 ^ j * yj)) := by
              rw [Nat.pow_add, Nat.mul_assoc, ← Nat.mul_assoc (4294967296 ^ j) xi yj, Nat.mul_comm (4294967296 ^ j) xi, Nat.mul_assoc xi]
            have hfin : nv (q.set (i + j) (t % 4294967296)) + 4294967296 ^ (i + (j + 1)) * (t / 4294967296) = nv out + 4294967296 ^ i * (xi * nv ((limbs y).take (j + 1))) := by
              rw [htj, Nat.mul_add, Nat.mul_add, ← halg, ← Nat.add_assoc (nv out), ← hstep, show i + (j + 1) = i + j + 1 from rfl, Nat.pow_succ]
            refine W_seq (W_reg ?_)
            simp (maxSteps := 1000000) (disch := omega) only [cA, cB, cC, frz_us, binE, unE, boundE, newsE, blkQ, Nat.reduceEqDiff, Nat.reduceLT, Nat.reduceAdd, ↓reduceIte, reduceCtorEq, Nat.reduceLeDiff, us_length, hidx, hq, us_set, wu32', mod32]
            repeat refine ⟨by omega, ?_⟩
            refine W_reg ?_
            simp (maxSteps := 1000000) (disch := omega) only [cA, cB, cC, frz_us, binE, unE, boundE, newsE, blkQ, Nat.reduceEqDiff, Nat.reduceLT, Nat.reduceAdd, ↓reduceIte, reduceCtorEq, Nat.reduceLeDiff, shr32u64]
            repeat refine ⟨by omega, ?_⟩
            refine W_reg ?_
            simp (maxSteps := 1000000) (disch := omega) only [cA, cB, cC, frz_us, binE, unE, boundE, newsE, blkQ, Nat.reduceEqDiff, Nat.reduceLT, Nat.reduceAdd, ↓reduceIte, reduceCtorEq, Nat.reduceLeDiff]
            refine ⟨(j + 1, q.set (i + j) (t % 4294967296), t / 4294967296), ⟨by simp only; omega, by simp [hq], lim_set hlq (by omega), m2, hfin, ?_⟩, by simp only; omega, by simp [subF, lk], rfl⟩
            intro k hk
            simp only
            rw [getD_set_ne' (by omega)]
            exact hzq k hk
          · have hge2 := of_decide_eq_false hcd2
            have hjl : j = (limbs y).length := by omega
            subst hjl
            rw [List.take_of_length_le (Nat.le_refl _), nv_limbs] at hnv
            simp (maxSteps := 1000000) (disch := omega) only [cA, cB, cC, frz_us, binE, unE, boundE, newsE, blkQ, Nat.reduceEqDiff, Nat.reduceLT, Nat.reduceAdd, ↓reduceIte, reduceCtorEq, Nat.reduceLeDiff]
            exact ⟨(c, q), ⟨hc, hq, hlq, hnv, hzq⟩, by simp [subF, lk], rfl⟩
      · rintro ⟨c, q⟩ ⟨hc, hq, hlq, hnv, hzq⟩
        simp only at hc hq hlq hnv hzq ⊢
        have hidx : ((((i : Int) + ((limbs y).length : Int)))).toNat = i + (limbs y).length := by omega
        have hset := nv_set (l := q) (k := i + (limbs y).length) (v := c) (by omega)
        rw [hzq _ (Nat.le_refl _), Nat.mul_zero, Nat.add_zero] at hset
        have hcm : c % 4294967296 = c := Nat.mod_eq_of_lt hc
        refine W_reg ?_
        simp (maxSteps := 1000000) (disch := omega) only [cA, cB, cC, frz_us, binE, unE, boundE, newsE, blkQ, Nat.reduceEqDiff, Nat.reduceLT, Nat.reduceAdd, ↓reduceIte, reduceCtorEq, Nat.reduceLeDiff, us_length, hidx, hq, us_set, wu32', mod32, hcm]
        repeat refine ⟨by omega, ?_⟩
        refine W_reg ?_
        simp (maxSteps := 1000000) (disch := omega) only [cA, cB, cC, frz_us, binE, unE, boundE, newsE, blkQ, Nat.reduceEqDiff, Nat.reduceLT, Nat.reduceAdd, ↓reduceIte, reduceCtorEq, Nat.reduceLeDiff]
        refine ⟨(i + 1, q.set (i + (limbs y).length) c), ⟨by simp only; omega, by simp [hq], lim_set hlq hc, ?_, ?_⟩, by simp only; omega, by simp [subF, lk], rfl⟩
        · simp only
          rw [hset, hnv, hno, hts, Nat.add_mul, Nat.mul_assoc]
        · intro k hk
          simp only at hk ⊢
          rw [getD_set_ne' (by omega)]
          exact hzq k (by omega)
    · have hge := of_decide_eq_false hcd
      have hil : i = (limbs x).length := by omega
      subst hil
      rw [List.take_of_length_le (Nat.le_refl _), nv_limbs] at hno
      have ct := nTrim_calls out (by omega) hlo
      rw [hno] at ct
      simp (maxSteps := 1000000) (disch := omega) only [cA, cB, cC, frz_us, binE, unE, boundE, newsE, blkQ, Nat.reduceEqDiff, Nat.reduceLT, Nat.reduceAdd, ↓reduceIte, reduceCtorEq, Nat.reduceLeDiff]
      repeat refine ⟨by omega, ?_⟩
      refine W_seq (W_reg ?_)
      simp (maxSteps := 1000000) (disch := omega) only [cA, cB, cC, frz_us, binE, unE, boundE, newsE, blkQ, Nat.reduceEqDiff, Nat.reduceLT, Nat.reduceAdd, ↓reduceIte, reduceCtorEq, Nat.reduceLeDiff]
      repeat refine ⟨by omega, ?_⟩
      refine callC_freeze rfl 20 (cells := us out) (by simp [lkH]) (us_rf _) ?_
      simp (maxSteps := 1000000) (disch := omega) only [cA, cB, cC, frz_us, binE, unE, boundE, newsE, blkQ, Nat.reduceEqDiff, Nat.reduceLT, Nat.reduceAdd, ↓reduceIte, reduceCtorEq, Nat.reduceLeDiff, frz_us ho.symm]
      refine callC_pure ct rfl ?_
      simp (maxSteps := 1000000) (disch := omega) only [cA, cB, cC, frz_us, binE, unE, boundE, newsE, blkQ, Nat.reduceEqDiff, Nat.reduceLT, Nat.reduceAdd, ↓reduceIte, reduceCtorEq, Nat.reduceLeDiff]
      exact W_ret (RetP_1 (.imm rfl))
end Go.Proofs.YteiagmmfapbaiaaGreatDoor
namespace Go.Proofs.YteiagmmfapbaiaaGreatDoor
open Go Go.Dat Go.Proofs Nat32
theorem vld_eq {a : List Nat} (la : lim a) (h : vld a = true) : limbs (vn a) = a := by
  rw [vn, val, h, if_pos rfl, limbs_nv la h]
end Go.Proofs.YteiagmmfapbaiaaGreatDoor
namespace Go.Proofs.YteiagmmfapbaiaaGreatDoor
open Go Go.Dat Go.Proofs Nat32
theorem len_add {p q m : Nat} (h1 : (limbs p).length ≤ m) (h2 : (limbs q).length ≤ m) : (limbs (p + q)).length ≤ m + 1 := by
  rw [limbs_len] at h1 h2 ⊢
  rw [Nat.pow_succ]; omega
theorem nAddL (p q : Nat) (h1 : (limbs p).length ≤ 100000) (h2 : (limbs q).length ≤ 100000) : PCalls Tryz.prog 78 [.sl 1 (us (limbs p)), .sl 1 (us (limbs q))] (.sl 1 (us (limbs (p + q)))) := by
  have := nAdd_calls (limbs p) (limbs q) h1 h2 (lim_limbs _) (lim_limbs _)
  rwa [vn_limbs, vn_limbs] at this
theorem nMulL (p q : Nat) (h1 : (limbs p).length ≤ 10000) (h2 : (limbs q).length ≤ 10000) : PCalls Tryz.prog 74 [.sl 1 (us (limbs p)), .sl 1 (us (limbs q))] (.sl 1 (us (limbs (p * q)))) := by
  have := nMul_calls (limbs p) (limbs q) h1 h2 (lim_limbs _) (lim_limbs _)
  rwa [vn_limbs, vn_limbs] at this
theorem nDivL (p q : Nat) (h1 : (limbs p).length ≤ 100000) (h2 : (limbs q).length ≤ 100000) : PCalls Tryz.prog 73 [.sl 1 (us (limbs p)), .sl 1 (us (limbs q))] (.tup [.sl 1 (us (limbs (p / q))), .sl 1 (us (limbs (dmod p q))), .bool (decide (0 < q))]) := by
  have := nDiv_calls (limbs p) (limbs q) h1 h2 (lim_limbs _) (lim_limbs _)
  rwa [vn_limbs, vn_limbs] at this
theorem nCmpL (p q : Nat) (h1 : (limbs p).length ≤ 100000) (h2 : (limbs q).length ≤ 100000) : PCalls Tryz.prog 77 [.sl 1 (us (limbs p)), .sl 1 (us (limbs q))] (.int .i64 (cmpN p q)) := by
  have := nCmp_calls (limbs p) (limbs q) (by omega) (by omega) (lim_limbs _) (lim_limbs _)
  rwa [vn_limbs, vn_limbs] at this
theorem limbs1 : limbs 1 = [1] := limbs_one (by decide) (by decide)
theorem us1L : [DV.int .u32 1] = us (limbs 1) := by rw [limbs1]; rfl
theorem us_rfd (xs : List Nat) : (∀ d ∈ us xs, d.rf = true) = True := by simp [us, u32, DV.rf]
theorem rAddL (p q : Nat) (h1 : (limbs p).length ≤ 100000) (h2 : (limbs q).length ≤ 100000) : PCalls Tryz.prog 113 [.sl 1 (us (limbs p)), .sl 1 (us (limbs q))] (.sl 1 (us (limbs (p + q)))) := by
  have := rAdd_calls (limbs p) (limbs q) h1 h2 (lim_limbs _) (lim_limbs _)
  rwa [vn_limbs, vn_limbs] at this
theorem rMulL (p q : Nat) (h1 : (limbs p).length ≤ 10000) (h2 : (limbs q).length ≤ 10000) : PCalls Tryz.prog 81 [.sl 1 (us (limbs p)), .sl 1 (us (limbs q))] (.sl 1 (us (limbs (p * q)))) := by
  have := rMul_calls (limbs p) (limbs q) h1 h2 (lim_limbs _) (lim_limbs _)
  rwa [vn_limbs, vn_limbs] at this
theorem rDivL (p q : Nat) (h1 : (limbs p).length ≤ 1000) (h2 : (limbs q).length ≤ 1000) : PCalls Tryz.prog 123 [.sl 1 (us (limbs p)), .sl 1 (us (limbs q))] (.tup [.sl 1 (us (limbs (p / q))), .sl 1 (us (limbs (dmod p q))), .bool (decide (0 < q))]) := by
  have := rDiv_calls (limbs p) (limbs q) h1 h2 (lim_limbs _) (lim_limbs _)
  rwa [vn_limbs, vn_limbs] at this
end Go.Proofs.YteiagmmfapbaiaaGreatDoor
namespace Go.Proofs.YteiagmmfapbaiaaGreatDoor
open Go Go.Dat Go.Proofs Nat32
theorem len_gt (n : Nat) : decide ((0 : Int) < ((limbs n).length : Int)) = decide (0 < n) := by
  rw [decide_eq_decide, ← limbs_len0]; omega
theorem iValid_calls (neg : Bool) (a : List Nat) (ha : a.length ≤ 1000000) : PCalls Tryz.prog 85 [X neg a] (.bool (vldI neg a)) := by
  refine PCalls_of isiValid (by simp [fniValid]) ?_
  unfold codeiValid
  have cv := nValid_calls a ha
  unfold vldI
  have hd : decide ((0 : Int) < a.length) = decide (0 < a.length) := by rw [decide_eq_decide]; omega
  generalize decide (0 < a.length) = p at *
  generalize vld a = v at *
  repeat (first | refine W_seq ?_ | refine W_reg ?_ | refine W_regd ?_ | refine W_block ?_ | refine And.intro (by omega) ?_ | simp (maxSteps := 1000000) (disch := omega) only [cA, cB, cC, frz_us, binE, unE, boundE, newsE, blkQ, Nat.reduceEqDiff, Nat.reduceLT, Nat.reduceAdd, ↓reduceIte, reduceCtorEq, Nat.reduceLeDiff, X, cS, nbiValid, us_length, hd] | refine callC_pure (cv) rfl ?_ | exact W_ret (RetP_1 (.imm rfl)) | exact W_ret (RetP_c rfl rfl rfl (.imm rfl)))
  cases v
  · repeat (first | refine W_seq ?_ | refine W_reg ?_ | refine W_regd ?_ | refine W_block ?_ | refine And.intro (by omega) ?_ | simp (maxSteps := 1000000) (disch := omega) only [cA, cB, cC, frz_us, binE, unE, boundE, newsE, blkQ, Nat.reduceEqDiff, Nat.reduceLT, Nat.reduceAdd, ↓reduceIte, reduceCtorEq, Nat.reduceLeDiff, X, cS, nbiValid, us_length, hd] | refine callC_pure (cv) rfl ?_ | exact W_ret (RetP_1 (.imm rfl)) | exact W_ret (RetP_c rfl rfl rfl (.imm rfl)))
  · cases p
    · repeat (first | refine W_seq ?_ | refine W_reg ?_ | refine W_regd ?_ | refine W_block ?_ | refine And.intro (by omega) ?_ | simp (maxSteps := 1000000) (disch := omega) only [cA, cB, cC, frz_us, binE, unE, boundE, newsE, blkQ, Nat.reduceEqDiff, Nat.reduceLT, Nat.reduceAdd, ↓reduceIte, reduceCtorEq, Nat.reduceLeDiff, X, cS, nbiValid, us_length, hd] | refine callC_pure (cv) rfl ?_ | exact W_ret (RetP_1 (.imm rfl)) | exact W_ret (RetP_c rfl rfl rfl (.imm rfl)))
    · repeat (first | refine W_seq ?_ | refine W_reg ?_ | refine W_regd ?_ | refine W_block ?_ | refine And.intro (by omega) ?_ | simp (maxSteps := 1000000) (disch := omega) only [cA, cB, cC, frz_us, binE, unE, boundE, newsE, blkQ, Nat.reduceEqDiff, Nat.reduceLT, Nat.reduceAdd, ↓reduceIte, reduceCtorEq, Nat.reduceLeDiff, X, cS, nbiValid, us_length, hd] | refine callC_pure (cv) rfl ?_ | exact W_ret (RetP_1 (.imm rfl)) | exact W_ret (RetP_c rfl rfl rfl (.imm rfl)))
theorem i_value_calls (neg : Bool) (a : List Nat) (ha : a.length ≤ 1000000) (la : lim a) : PCalls Tryz.prog 101 [X neg a] (I (iv neg a)) := by
  have cv := iValid_calls neg a ha
  refine PCalls_of isi_value (by simp [fni_value]) ?_
  unfold codei_value
  by_cases hv : vldI neg a = true
  · rw [hv] at cv
    rw [← X_I la hv]
    repeat (first | refine W_seq ?_ | refine W_reg ?_ | refine W_regd ?_ | refine W_block ?_ | refine And.intro (by omega) ?_ | simp (maxSteps := 1000000) (disch := omega) only [cA, cB, cC, frz_us, binE, unE, boundE, newsE, blkQ, Nat.reduceEqDiff, Nat.reduceLT, Nat.reduceAdd, ↓reduceIte, reduceCtorEq, Nat.reduceLeDiff, X, cS, nbi_value] | refine callC_pure (cv) rfl ?_ | exact W_ret (RetP_1 (.imm rfl)) | exact W_ret (RetP_c rfl rfl rfl (.imm rfl)))
    refine W_cond rfl (fun _ => ?_) (fun h => by cases h)
    repeat (first | refine W_seq ?_ | refine W_reg ?_ | refine W_regd ?_ | refine W_block ?_ | refine And.intro (by omega) ?_ | simp (maxSteps := 1000000) (disch := omega) only [cA, cB, cC, frz_us, binE, unE, boundE, newsE, blkQ, Nat.reduceEqDiff, Nat.reduceLT, Nat.reduceAdd, ↓reduceIte, reduceCtorEq, Nat.reduceLeDiff, X, cS, nbi_value] | refine callC_pure (cv) rfl ?_ | exact W_ret (RetP_1 (.imm rfl)) | exact W_ret (RetP_c rfl rfl rfl (.imm rfl)))
  · have hv : vldI neg a = false := by simpa using hv
    rw [hv] at cv
    rw [iv_inv hv]
    repeat (first | refine W_seq ?_ | refine W_reg ?_ | refine W_regd ?_ | refine W_block ?_ | refine And.intro (by omega) ?_ | simp (maxSteps := 1000000) (disch := omega) only [cA, cB, cC, frz_us, binE, unE, boundE, newsE, blkQ, Nat.reduceEqDiff, Nat.reduceLT, Nat.reduceAdd, ↓reduceIte, reduceCtorEq, Nat.reduceLeDiff, X, cS, nbi_value] | refine callC_pure (cv) rfl ?_ | exact W_ret (RetP_1 (.imm rfl)) | exact W_ret (RetP_c rfl rfl rfl (.imm rfl)))
    refine W_cond rfl (fun h => by cases h) (fun _ => W_skip ?_)
    repeat (first | refine W_seq ?_ | refine W_reg ?_ | refine W_regd ?_ | refine W_block ?_ | refine And.intro (by omega) ?_ | simp (maxSteps := 1000000) (disch := omega) only [cA, cB, cC, frz_us, binE, unE, boundE, newsE, blkQ, Nat.reduceEqDiff, Nat.reduceLT, Nat.reduceAdd, ↓reduceIte, reduceCtorEq, Nat.reduceLeDiff, X, cS, nbi_value])
    refine W_ret (RetP_c rfl rfl rfl ?_)
    rw [show I 0 = .agg [.bool false, .sl 1 []] by unfold I; rw [show (0 : Int).natAbs = 0 from rfl, limbs_zero]; rfl]
    exact Exp_bn _ _
theorem i_signed_calls (neg : Bool) (n : Nat) : PCalls Tryz.prog 103 [.bool neg, .sl 1 (us (limbs n))] (I (sgn neg n)) := by
  refine PCalls_of isi_signed (by simp [fni_signed]) ?_
  unfold codei_signed I
  rw [sgn_lt, sgn_abs]
  cases neg
  · repeat (first | refine W_seq ?_ | refine W_reg ?_ | refine W_regd ?_ | refine W_block ?_ | refine And.intro (by omega) ?_ | simp (maxSteps := 1000000) (disch := omega) only [cA, cB, cC, frz_us, binE, unE, boundE, newsE, blkQ, Nat.reduceEqDiff, Nat.reduceLT, Nat.reduceAdd, ↓reduceIte, reduceCtorEq, Nat.reduceLeDiff, cS, nbi_signed, us_length, len_gt])
    exact W_ret (RetP_c rfl rfl rfl (.imm rfl))
  · simp only [Bool.true_and]
    repeat (first | refine W_seq ?_ | refine W_reg ?_ | refine W_regd ?_ | refine W_block ?_ | refine And.intro (by omega) ?_ | simp (maxSteps := 1000000) (disch := omega) only [cA, cB, cC, frz_us, binE, unE, boundE, newsE, blkQ, Nat.reduceEqDiff, Nat.reduceLT, Nat.reduceAdd, ↓reduceIte, reduceCtorEq, Nat.reduceLeDiff, cS, nbi_signed, us_length, len_gt])
    exact W_ret (RetP_c rfl rfl rfl (.imm rfl))
end Go.Proofs.YteiagmmfapbaiaaGreatDoor
namespace Go.Proofs.YteiagmmfapbaiaaGreatDoor
open Go Go.Dat Go.Proofs Nat32
theorem i_copied_calls (neg : Bool) (a : List Nat) (ha : a.length ≤ 10000) (la : lim a) : PCalls Tryz.prog 102 [X neg a] (I (iv neg a)) := by
  have ca := nAdd_calls a [] (by omega) (by simp) la lim_nil
  rw [show vn [] = 0 from rfl, Nat.add_zero, us_nil] at ca
  have cs := i_signed_calls neg (vn a)
  rw [← iv_sgn] at cs
  refine PCalls_of isi_copied (by simp [fni_copied]) ?_
  unfold codei_copied
  repeat (first | refine W_seq ?_ | refine W_reg ?_ | refine W_regd ?_ | refine W_block ?_ | refine And.intro (by omega) ?_ | simp (maxSteps := 1000000) (disch := omega) only [cA, cB, cC, frz_us, binE, unE, boundE, newsE, blkQ, Nat.reduceEqDiff, Nat.reduceLT, Nat.reduceAdd, ↓reduceIte, reduceCtorEq, Nat.reduceLeDiff, X, I, cS, nbi_copied] | refine callC_pure (PCalls_nz 1 (ca)) rfl ?_ | refine callC_pure (cs) rfl ?_ | exact W_ret (RetP_1 (.imm rfl)) | exact W_ret (RetP_c rfl rfl rfl (.imm rfl)))
theorem iSign_calls (neg : Bool) (a : List Nat) (ha : a.length ≤ 1000000) (la : lim a) : PCalls Tryz.prog 54 [X neg a] (.int .i64 (iv neg a).sign) := by
  have cv := i_value_calls neg a ha la
  refine PCalls_of isiSign (by simp [fniSign]) ?_
  unfold codeiSign
  generalize iv neg a = z at *
  have dz : decide (((limbs z.natAbs).length : Int) = 0) = decide (z = 0) := by rw [decide_eq_decide, ← sign_len (z := z)]; omega
  repeat (first | refine W_seq ?_ | refine W_reg ?_ | refine W_regd ?_ | refine W_block ?_ | refine And.intro (by omega) ?_ | simp (maxSteps := 1000000) (disch := omega) only [cA, cB, cC, frz_us, binE, unE, boundE, newsE, blkQ, Nat.reduceEqDiff, Nat.reduceLT, Nat.reduceAdd, ↓reduceIte, reduceCtorEq, Nat.reduceLeDiff, X, I, cS, nbiSign, us_length, dz] | refine callC_pure (cv) rfl ?_ | exact W_ret (RetP_1 (.imm rfl)) | exact W_ret (RetP_c rfl rfl rfl (.imm rfl)))
  refine W_cond rfl (fun h => ?_) (fun h => ?_)
  · have h := of_decide_eq_true h
    subst h
    repeat (first | refine W_seq ?_ | refine W_reg ?_ | refine W_regd ?_ | refine W_block ?_ | refine And.intro (by omega) ?_ | simp (maxSteps := 1000000) (disch := omega) only [cA, cB, cC, frz_us, binE, unE, boundE, newsE, blkQ, Nat.reduceEqDiff, Nat.reduceLT, Nat.reduceAdd, ↓reduceIte, reduceCtorEq, Nat.reduceLeDiff, cS] | refine callC_pure (cv) rfl ?_ | exact W_ret (RetP_1 (.imm rfl)) | exact W_ret (RetP_c rfl rfl rfl (.imm rfl)))
  · have h := of_decide_eq_false h
    repeat (first | refine W_seq ?_ | refine W_reg ?_ | refine W_regd ?_ | refine W_block ?_ | refine And.intro (by omega) ?_ | simp (maxSteps := 1000000) (disch := omega) only [cA, cB, cC, frz_us, binE, unE, boundE, newsE, blkQ, Nat.reduceEqDiff, Nat.reduceLT, Nat.reduceAdd, ↓reduceIte, reduceCtorEq, Nat.reduceLeDiff, cS] | refine callC_pure (cv) rfl ?_ | exact W_ret (RetP_1 (.imm rfl)) | exact W_ret (RetP_c rfl rfl rfl (.imm rfl)))
    refine W_cond rfl (fun h3 => ?_) (fun h3 => W_skip ?_)
    · rw [Int.sign_eq_neg_one_of_neg (of_decide_eq_true h3)]
      repeat (first | refine W_seq ?_ | refine W_reg ?_ | refine W_regd ?_ | refine W_block ?_ | refine And.intro (by omega) ?_ | simp (maxSteps := 1000000) (disch := omega) only [cA, cB, cC, frz_us, binE, unE, boundE, newsE, blkQ, Nat.reduceEqDiff, Nat.reduceLT, Nat.reduceAdd, ↓reduceIte, reduceCtorEq, Nat.reduceLeDiff, cS] | refine callC_pure (cv) rfl ?_ | exact W_ret (RetP_1 (.imm rfl)) | exact W_ret (RetP_c rfl rfl rfl (.imm rfl)))
    · have h3 := of_decide_eq_false h3
      rw [Int.sign_eq_one_of_pos (by omega)]
      repeat (first | refine W_seq ?_ | refine W_reg ?_ | refine W_regd ?_ | refine W_block ?_ | refine And.intro (by omega) ?_ | simp (maxSteps := 1000000) (disch := omega) only [cA, cB, cC, frz_us, binE, unE, boundE, newsE, blkQ, Nat.reduceEqDiff, Nat.reduceLT, Nat.reduceAdd, ↓reduceIte, reduceCtorEq, Nat.reduceLeDiff, cS] | refine callC_pure (cv) rfl ?_ | exact W_ret (RetP_1 (.imm rfl)) | exact W_ret (RetP_c rfl rfl rfl (.imm rfl)))
theorem iNeg_calls (neg : Bool) (a : List Nat) (ha : a.length ≤ 10000) (la : lim a) : PCalls Tryz.prog 55 [X neg a] (I (-(iv neg a))) := by
  have cv := i_value_calls neg a (by omega) la
  have hl := iv_len la neg
  have cc := i_copied_calls (decide (iv neg a < 0)) (limbs (iv neg a).natAbs) (by omega) (lim_limbs _)
  have cs := i_signed_calls (!decide (iv neg a < 0)) (iv neg a).natAbs
  rw [sgn_not] at cs
  rw [iv_I] at cc
  refine PCalls_of isiNeg (by simp [fniNeg]) ?_
  unfold codeiNeg
  repeat (first | refine W_seq ?_ | refine W_reg ?_ | refine W_regd ?_ | refine W_block ?_ | refine And.intro (by omega) ?_ | simp (maxSteps := 1000000) (disch := omega) only [cA, cB, cC, frz_us, binE, unE, boundE, newsE, blkQ, Nat.reduceEqDiff, Nat.reduceLT, Nat.reduceAdd, ↓reduceIte, reduceCtorEq, Nat.reduceLeDiff, X, I, cS, nbiNeg] | refine callC_pure (cv) rfl ?_ | refine callC_pure (cc) rfl ?_ | refine callC_pure (cs) rfl ?_ | exact W_ret (RetP_1 (.imm rfl)) | exact W_ret (RetP_c rfl rfl rfl (.imm rfl)))
theorem iAdd_calls (n1 : Bool) (a : List Nat) (n2 : Bool) (b : List Nat) (ha : a.length ≤ 10000) (hb : b.length ≤ 10000) (la : lim a) (lb : lim b) : PCalls Tryz.prog 57 [X n1 a, X n2 b] (I (iv n1 a + iv n2 b)) := by
  have cv := i_value_calls n1 a (by omega) la
  have cw := i_value_calls n2 b (by omega) lb
  have l1 := iv_len la n1
  have l2 := iv_len lb n2
  generalize iv n1 a = x at *
  generalize iv n2 b = y at *
  have ca := nAddL x.natAbs y.natAbs (by omega) (by omega)
  have cd := nSub_calls (limbs x.natAbs) (limbs y.natAbs) (by omega) (by omega) (lim_limbs _) (lim_limbs _)
  have ce := nSub_calls (limbs y.natAbs) (limbs x.natAbs) (by omega) (by omega) (lim_limbs _) (lim_limbs _)
  rw [vn_limbs, vn_limbs] at cd ce
  have s1 := i_signed_calls (decide (x < 0)) (x.natAbs + y.natAbs)
  have s2 := i_signed_calls (decide (x < 0)) (x.natAbs - y.natAbs)
  have s3 := i_signed_calls (decide (y < 0)) (y.natAbs - x.natAbs)
  refine PCalls_of isiAdd (by simp [fniAdd]) ?_
  unfold codeiAdd
  by_cases h : decide (x < 0) = decide (y < 0)
  · rw [add_same h] at s1
    have hb : (decide (x < 0) == decide (y < 0)) = true := by rw [h]; simp
    repeat (first | refine W_seq ?_ | refine W_reg ?_ | refine W_regd ?_ | refine W_block ?_ | refine And.intro (by omega) ?_ | simp (maxSteps := 1000000) (disch := omega) only [cA, cB, cC, frz_us, binE, unE, boundE, newsE, blkQ, Nat.reduceEqDiff, Nat.reduceLT, Nat.reduceAdd, ↓reduceIte, reduceCtorEq, Nat.reduceLeDiff, X, I, cS, nbiAdd, hb] | refine callC_pure (cv) rfl ?_ | refine callC_pure (cw) rfl ?_ | exact W_ret (RetP_1 (.imm rfl)) | exact W_ret (RetP_c rfl rfl rfl (.imm rfl)))
    refine W_cond rfl (fun _ => ?_) (fun h => by cases h)
    repeat (first | refine W_seq ?_ | refine W_reg ?_ | refine W_regd ?_ | refine W_block ?_ | refine And.intro (by omega) ?_ | simp (maxSteps := 1000000) (disch := omega) only [cA, cB, cC, frz_us, binE, unE, boundE, newsE, blkQ, Nat.reduceEqDiff, Nat.reduceLT, Nat.reduceAdd, ↓reduceIte, reduceCtorEq, Nat.reduceLeDiff, X, I, cS, nbiAdd, hb] | refine callC_pure (ca) rfl ?_ | refine callC_pure (s1) rfl ?_ | exact W_ret (RetP_1 (.imm rfl)) | exact W_ret (RetP_c rfl rfl rfl (.imm rfl)))
  · have hb : (decide (x < 0) == decide (y < 0)) = false := by simpa using h
    by_cases hle : y.natAbs ≤ x.natAbs
    · rw [add_left h hle] at s2
      rw [decide_eq_true hle] at cd
      repeat (first | refine W_seq ?_ | refine W_reg ?_ | refine W_regd ?_ | refine W_block ?_ | refine And.intro (by omega) ?_ | simp (maxSteps := 1000000) (disch := omega) only [cA, cB, cC, frz_us, binE, unE, boundE, newsE, blkQ, Nat.reduceEqDiff, Nat.reduceLT, Nat.reduceAdd, ↓reduceIte, reduceCtorEq, Nat.reduceLeDiff, X, I, cS, nbiAdd, hb] | refine callC_pure (cv) rfl ?_ | refine callC_pure (cw) rfl ?_ | exact W_ret (RetP_1 (.imm rfl)) | exact W_ret (RetP_c rfl rfl rfl (.imm rfl)))
      refine W_cond rfl (fun h => by cases h) (fun _ => W_skip ?_)
      repeat (first | refine W_seq ?_ | refine W_reg ?_ | refine W_regd ?_ | refine W_block ?_ | refine And.intro (by omega) ?_ | simp (maxSteps := 1000000) (disch := omega) only [cA, cB, cC, frz_us, binE, unE, boundE, newsE, blkQ, Nat.reduceEqDiff, Nat.reduceLT, Nat.reduceAdd, ↓reduceIte, reduceCtorEq, Nat.reduceLeDiff, X, I, cS, nbiAdd] | refine callC_pure (cd) rfl ?_ | exact W_ret (RetP_1 (.imm rfl)) | exact W_ret (RetP_c rfl rfl rfl (.imm rfl)))
      refine W_cond rfl (fun _ => ?_) (fun h => by cases h)
      repeat (first | refine W_seq ?_ | refine W_reg ?_ | refine W_regd ?_ | refine W_block ?_ | refine And.intro (by omega) ?_ | simp (maxSteps := 1000000) (disch := omega) only [cA, cB, cC, frz_us, binE, unE, boundE, newsE, blkQ, Nat.reduceEqDiff, Nat.reduceLT, Nat.reduceAdd, ↓reduceIte, reduceCtorEq, Nat.reduceLeDiff, X, I, cS, nbiAdd] | refine callC_pure (s2) rfl ?_ | exact W_ret (RetP_1 (.imm rfl)) | exact W_ret (RetP_c rfl rfl rfl (.imm rfl)))
    · rw [add_right h hle] at s3
      rw [decide_eq_false hle] at cd
      repeat (first | refine W_seq ?_ | refine W_reg ?_ | refine W_regd ?_ | refine W_block ?_ | refine And.intro (by omega) ?_ | simp (maxSteps := 1000000) (disch := omega) only [cA, cB, cC, frz_us, binE, unE, boundE, newsE, blkQ, Nat.reduceEqDiff, Nat.reduceLT, Nat.reduceAdd, ↓reduceIte, reduceCtorEq, Nat.reduceLeDiff, X, I, cS, nbiAdd, hb] | refine callC_pure (cv) rfl ?_ | refine callC_pure (cw) rfl ?_ | exact W_ret (RetP_1 (.imm rfl)) | exact W_ret (RetP_c rfl rfl rfl (.imm rfl)))
      refine W_cond rfl (fun h => by cases h) (fun _ => W_skip ?_)
      repeat (first | refine W_seq ?_ | refine W_reg ?_ | refine W_regd ?_ | refine W_block ?_ | refine And.intro (by omega) ?_ | simp (maxSteps := 1000000) (disch := omega) only [cA, cB, cC, frz_us, binE, unE, boundE, newsE, blkQ, Nat.reduceEqDiff, Nat.reduceLT, Nat.reduceAdd, ↓reduceIte, reduceCtorEq, Nat.reduceLeDiff, X, I, cS, nbiAdd] | refine callC_pure (cd) rfl ?_ | exact W_ret (RetP_1 (.imm rfl)) | exact W_ret (RetP_c rfl rfl rfl (.imm rfl)))
      refine W_cond rfl (fun h => by cases h) (fun _ => W_skip ?_)
      repeat (first | refine W_seq ?_ | refine W_reg ?_ | refine W_regd ?_ | refine W_block ?_ | refine And.intro (by omega) ?_ | simp (maxSteps := 1000000) (disch := omega) only [cA, cB, cC, frz_us, binE, unE, boundE, newsE, blkQ, Nat.reduceEqDiff, Nat.reduceLT, Nat.reduceAdd, ↓reduceIte, reduceCtorEq, Nat.reduceLeDiff, X, I, cS, nbiAdd] | refine callC_pure (ce) rfl ?_ | refine callC_pure (s3) rfl ?_ | exact W_ret (RetP_1 (.imm rfl)) | exact W_ret (RetP_c rfl rfl rfl (.imm rfl)))
end Go.Proofs.YteiagmmfapbaiaaGreatDoor
namespace Go.Proofs.YteiagmmfapbaiaaGreatDoor
open Go Go.Dat Go.Proofs Nat32
theorem I0 : I 0 = .agg [.bool false, .sl 1 []] := by unfold I; rw [show (0 : Int).natAbs = 0 from rfl, limbs_zero]; rfl
end Go.Proofs.YteiagmmfapbaiaaGreatDoor
namespace Go.Proofs.YteiagmmfapbaiaaGreatDoor
open Go Go.Dat Go.Proofs Nat32
theorem rGcdL (p q : Nat) (h1 : (limbs p).length ≤ 1000) (h2 : (limbs q).length ≤ 1000) : PCalls Tryz.prog 92 [.sl 1 (us (limbs p)), .sl 1 (us (limbs q))] (.sl 1 (us (limbs (Nat.gcd p q)))) := by
  have := rGcd_calls (limbs p) (limbs q) h1 h2 (lim_limbs _) (lim_limbs _)
  rwa [vn_limbs, vn_limbs] at this
theorem sValid_calls (neg : Bool) (a : List Nat) (ha : a.length ≤ 1000000) : PCalls Tryz.prog 88 [X neg a] (.bool (vldI neg a)) := by
  refine PCalls_of issValid (by simp [fnsValid]) ?_
  unfold codesValid
  have cv := rValid_calls a ha
  unfold vldI
  have hd : decide ((a.length : Int) = 0) = !decide (0 < a.length) := by
    by_cases h : 0 < a.length
    · rw [decide_eq_true h, decide_eq_false (by omega)]; rfl
    · rw [decide_eq_false h, decide_eq_true (by omega)]; rfl
  generalize decide (0 < a.length) = p at *
  generalize vld a = v at *
  repeat (first | refine W_seq ?_ | refine W_reg ?_ | refine W_regd ?_ | refine W_block ?_ | refine And.intro (by omega) ?_ | simp (maxSteps := 1000000) (disch := omega) only [cA, cB, cC, frz_us, binE, unE, boundE, newsE, blkQ, Nat.reduceEqDiff, Nat.reduceLT, Nat.reduceAdd, ↓reduceIte, reduceCtorEq, Nat.reduceLeDiff, X, cS, nbsValid, us_length, hd] | refine callC_pure (cv) rfl ?_ | exact W_ret (RetP_1 (.imm rfl)) | exact W_ret (RetP_c rfl rfl rfl (.imm rfl)))
  cases v
  · repeat (first | refine W_seq ?_ | refine W_reg ?_ | refine W_regd ?_ | refine W_block ?_ | refine And.intro (by omega) ?_ | simp (maxSteps := 1000000) (disch := omega) only [cA, cB, cC, frz_us, binE, unE, boundE, newsE, blkQ, Nat.reduceEqDiff, Nat.reduceLT, Nat.reduceAdd, ↓reduceIte, reduceCtorEq, Nat.reduceLeDiff, X, cS, nbsValid, us_length, hd] | refine callC_pure (cv) rfl ?_ | exact W_ret (RetP_1 (.imm rfl)) | exact W_ret (RetP_c rfl rfl rfl (.imm rfl)))
  · cases neg
    · simp only [Bool.not_false, Bool.or_true, Bool.and_true]
      repeat (first | refine W_seq ?_ | refine W_reg ?_ | refine W_regd ?_ | refine W_block ?_ | refine And.intro (by omega) ?_ | simp (maxSteps := 1000000) (disch := omega) only [cA, cB, cC, frz_us, binE, unE, boundE, newsE, blkQ, Nat.reduceEqDiff, Nat.reduceLT, Nat.reduceAdd, ↓reduceIte, reduceCtorEq, Nat.reduceLeDiff, X, cS, nbsValid, us_length, hd] | refine callC_pure (cv) rfl ?_ | exact W_ret (RetP_1 (.imm rfl)) | exact W_ret (RetP_c rfl rfl rfl (.imm rfl)))
    · simp only [Bool.not_true, Bool.or_false, Bool.true_and]
      repeat (first | refine W_seq ?_ | refine W_reg ?_ | refine W_regd ?_ | refine W_block ?_ | refine And.intro (by omega) ?_ | simp (maxSteps := 1000000) (disch := omega) only [cA, cB, cC, frz_us, binE, unE, boundE, newsE, blkQ, Nat.reduceEqDiff, Nat.reduceLT, Nat.reduceAdd, ↓reduceIte, reduceCtorEq, Nat.reduceLeDiff, X, cS, nbsValid, us_length, hd, Bool.not_not] | refine callC_pure (cv) rfl ?_ | exact W_ret (RetP_1 (.imm rfl)) | exact W_ret (RetP_c rfl rfl rfl (.imm rfl)))
theorem sTake_calls (neg : Bool) (a : List Nat) (ha : a.length ≤ 1000000) (la : lim a) : PCalls Tryz.prog 28 [X neg a] (I (iv neg a)) := by
  have cv := sValid_calls neg a ha
  have ct := rTake_calls a ha la
  refine PCalls_of issTake (by simp [fnsTake]) ?_
  unfold codesTake
  by_cases hv : vldI neg a = true
  · rw [hv] at cv
    rw [← X_I la hv]
    have hva : limbs (vn a) = a := by
      have : vld a = true := by unfold vldI at hv; rw [Bool.and_eq_true] at hv; exact hv.1
      exact vld_eq la this
    rw [hva] at ct
    repeat (first | refine W_seq ?_ | refine W_reg ?_ | refine W_regd ?_ | refine W_block ?_ | refine And.intro (by omega) ?_ | simp (maxSteps := 1000000) (disch := omega) only [cA, cB, cC, frz_us, binE, unE, boundE, newsE, blkQ, Nat.reduceEqDiff, Nat.reduceLT, Nat.reduceAdd, ↓reduceIte, reduceCtorEq, Nat.reduceLeDiff, X, cS, nbsTake] | refine callC_pure (cv) rfl ?_ | exact W_ret (RetP_1 (.imm rfl)) | exact W_ret (RetP_c rfl rfl rfl (.imm rfl)))
    refine W_cond rfl (fun h => by cases h) (fun _ => W_skip ?_)
    repeat (first | refine W_seq ?_ | refine W_reg ?_ | refine W_regd ?_ | refine W_block ?_ | refine And.intro (by omega) ?_ | simp (maxSteps := 1000000) (disch := omega) only [cA, cB, cC, frz_us, binE, unE, boundE, newsE, blkQ, Nat.reduceEqDiff, Nat.reduceLT, Nat.reduceAdd, ↓reduceIte, reduceCtorEq, Nat.reduceLeDiff, X, cS, nbsTake] | refine callC_pure (ct) rfl ?_ | exact W_ret (RetP_1 (.imm rfl)) | exact W_ret (RetP_c rfl rfl rfl (.imm rfl)))
  · have hv : vldI neg a = false := by simpa using hv
    rw [hv] at cv
    rw [iv_inv hv]
    repeat (first | refine W_seq ?_ | refine W_reg ?_ | refine W_regd ?_ | refine W_block ?_ | refine And.intro (by omega) ?_ | simp (maxSteps := 1000000) (disch := omega) only [cA, cB, cC, frz_us, binE, unE, boundE, newsE, blkQ, Nat.reduceEqDiff, Nat.reduceLT, Nat.reduceAdd, ↓reduceIte, reduceCtorEq, Nat.reduceLeDiff, X, cS, nbsTake] | refine callC_pure (cv) rfl ?_ | exact W_ret (RetP_1 (.imm rfl)) | exact W_ret (RetP_c rfl rfl rfl (.imm rfl)))
    refine W_cond rfl (fun _ => ?_) (fun h => by cases h)
    repeat (first | refine W_seq ?_ | refine W_reg ?_ | refine W_regd ?_ | refine W_block ?_ | refine And.intro (by omega) ?_ | simp (maxSteps := 1000000) (disch := omega) only [cA, cB, cC, frz_us, binE, unE, boundE, newsE, blkQ, Nat.reduceEqDiff, Nat.reduceLT, Nat.reduceAdd, ↓reduceIte, reduceCtorEq, Nat.reduceLeDiff, X, cS, nbsTake])
    refine W_ret (RetP_c rfl rfl rfl ?_)
    rw [I0]
    exact Exp_bn _ _
theorem s_signed_calls (neg : Bool) (n : Nat) : PCalls Tryz.prog 84 [.bool neg, .sl 1 (us (limbs n))] (I (sgn neg n)) := by
  refine PCalls_of iss_signed (by simp [fns_signed]) ?_
  unfold codes_signed I
  rw [sgn_lt, sgn_abs]
  cases neg
  · repeat (first | refine W_seq ?_ | refine W_reg ?_ | refine W_regd ?_ | refine W_block ?_ | refine And.intro (by omega) ?_ | simp (maxSteps := 1000000) (disch := omega) only [cA, cB, cC, frz_us, binE, unE, boundE, newsE, blkQ, Nat.reduceEqDiff, Nat.reduceLT, Nat.reduceAdd, ↓reduceIte, reduceCtorEq, Nat.reduceLeDiff, cS, nbs_signed, us_length, len_gt])
    exact W_ret (RetP_c rfl rfl rfl (.imm rfl))
  · simp only [Bool.true_and]
    repeat (first | refine W_seq ?_ | refine W_reg ?_ | refine W_regd ?_ | refine W_block ?_ | refine And.intro (by omega) ?_ | simp (maxSteps := 1000000) (disch := omega) only [cA, cB, cC, frz_us, binE, unE, boundE, newsE, blkQ, Nat.reduceEqDiff, Nat.reduceLT, Nat.reduceAdd, ↓reduceIte, reduceCtorEq, Nat.reduceLeDiff, cS, nbs_signed, us_length, len_gt])
    exact W_ret (RetP_c rfl rfl rfl (.imm rfl))
theorem sSign_calls (neg : Bool) (a : List Nat) (ha : a.length ≤ 1000000) (la : lim a) : PCalls Tryz.prog 24 [X neg a] (.int .i64 (iv neg a).sign) := by
  have cv := sTake_calls neg a ha la
  refine PCalls_of issSign (by simp [fnsSign]) ?_
  unfold codesSign
  generalize iv neg a = z at *
  repeat (first | refine W_seq ?_ | refine W_reg ?_ | refine W_regd ?_ | refine W_block ?_ | refine And.intro (by omega) ?_ | simp (maxSteps := 1000000) (disch := omega) only [cA, cB, cC, frz_us, binE, unE, boundE, newsE, blkQ, Nat.reduceEqDiff, Nat.reduceLT, Nat.reduceAdd, ↓reduceIte, reduceCtorEq, Nat.reduceLeDiff, X, I, cS, nbsSign, us_length, len_gt] | refine callC_pure (cv) rfl ?_ | exact W_ret (RetP_1 (.imm rfl)) | exact W_ret (RetP_c rfl rfl rfl (.imm rfl)))
  refine W_cond rfl (fun h => ?_) (fun h => ?_)
  · rw [Int.sign_eq_neg_one_of_neg (of_decide_eq_true h)]
    repeat (first | refine W_seq ?_ | refine W_reg ?_ | refine W_regd ?_ | refine W_block ?_ | refine And.intro (by omega) ?_ | simp (maxSteps := 1000000) (disch := omega) only [cA, cB, cC, frz_us, binE, unE, boundE, newsE, blkQ, Nat.reduceEqDiff, Nat.reduceLT, Nat.reduceAdd, ↓reduceIte, reduceCtorEq, Nat.reduceLeDiff, cS] | refine callC_pure (cv) rfl ?_ | exact W_ret (RetP_1 (.imm rfl)) | exact W_ret (RetP_c rfl rfl rfl (.imm rfl)))
  · have h := of_decide_eq_false h
    repeat (first | refine W_seq ?_ | refine W_reg ?_ | refine W_regd ?_ | refine W_block ?_ | refine And.intro (by omega) ?_ | simp (maxSteps := 1000000) (disch := omega) only [cA, cB, cC, frz_us, binE, unE, boundE, newsE, blkQ, Nat.reduceEqDiff, Nat.reduceLT, Nat.reduceAdd, ↓reduceIte, reduceCtorEq, Nat.reduceLeDiff, I, cS, us_length, len_gt] | refine callC_pure (cv) rfl ?_ | exact W_ret (RetP_1 (.imm rfl)) | exact W_ret (RetP_c rfl rfl rfl (.imm rfl)))
    refine W_cond rfl (fun h3 => ?_) (fun h3 => W_skip ?_)
    · have h3 := of_decide_eq_true h3
      rw [Int.sign_eq_one_of_pos (by omega)]
      repeat (first | refine W_seq ?_ | refine W_reg ?_ | refine W_regd ?_ | refine W_block ?_ | refine And.intro (by omega) ?_ | simp (maxSteps := 1000000) (disch := omega) only [cA, cB, cC, frz_us, binE, unE, boundE, newsE, blkQ, Nat.reduceEqDiff, Nat.reduceLT, Nat.reduceAdd, ↓reduceIte, reduceCtorEq, Nat.reduceLeDiff, cS] | refine callC_pure (cv) rfl ?_ | exact W_ret (RetP_1 (.imm rfl)) | exact W_ret (RetP_c rfl rfl rfl (.imm rfl)))
    · have h3 := of_decide_eq_false h3
      rw [show z = 0 by omega]
      repeat (first | refine W_seq ?_ | refine W_reg ?_ | refine W_regd ?_ | refine W_block ?_ | refine And.intro (by omega) ?_ | simp (maxSteps := 1000000) (disch := omega) only [cA, cB, cC, frz_us, binE, unE, boundE, newsE, blkQ, Nat.reduceEqDiff, Nat.reduceLT, Nat.reduceAdd, ↓reduceIte, reduceCtorEq, Nat.reduceLeDiff, cS] | refine callC_pure (cv) rfl ?_ | exact W_ret (RetP_1 (.imm rfl)) | exact W_ret (RetP_c rfl rfl rfl (.imm rfl)))
theorem sNeg_calls (neg : Bool) (a : List Nat) (ha : a.length ≤ 900) (la : lim a) : PCalls Tryz.prog 98 [X neg a] (I (-(iv neg a))) := by
  have cv := sTake_calls neg a (by omega) la
  have cs := s_signed_calls (!decide (iv neg a < 0)) (iv neg a).natAbs
  rw [sgn_not] at cs
  refine PCalls_of issNeg (by simp [fnsNeg]) ?_
  unfold codesNeg
  repeat (first | refine W_seq ?_ | refine W_reg ?_ | refine W_regd ?_ | refine W_block ?_ | refine And.intro (by omega) ?_ | simp (maxSteps := 1000000) (disch := omega) only [cA, cB, cC, frz_us, binE, unE, boundE, newsE, blkQ, Nat.reduceEqDiff, Nat.reduceLT, Nat.reduceAdd, ↓reduceIte, reduceCtorEq, Nat.reduceLeDiff, X, I, cS, nbsNeg] | refine callC_pure (cv) rfl ?_ | refine callC_pure (cs) rfl ?_ | exact W_ret (RetP_1 (.imm rfl)) | exact W_ret (RetP_c rfl rfl rfl (.imm rfl)))
theorem sMul_calls (n1 : Bool) (a : List Nat) (n2 : Bool) (b : List Nat) (ha : a.length ≤ 900) (hb : b.length ≤ 900) (la : lim a) (lb : lim b) : PCalls Tryz.prog 25 [X n1 a, X n2 b] (I (iv n1 a * iv n2 b)) := by
  have cv := sTake_calls n1 a (by omega) la
  have cw := sTake_calls n2 b (by omega) lb
  have l1 := iv_len la n1
  have l2 := iv_len lb n2
  generalize iv n1 a = x at *
  generalize iv n2 b = y at *
  have cm := rMulL x.natAbs y.natAbs (by omega) (by omega)
  have cs := s_signed_calls (!(decide (x < 0) == decide (y < 0))) (x.natAbs * y.natAbs)
  rw [mul_sgn] at cs
  refine PCalls_of issMul (by simp [fnsMul]) ?_
  unfold codesMul
  repeat (first | refine W_seq ?_ | refine W_reg ?_ | refine W_regd ?_ | refine W_block ?_ | refine And.intro (by omega) ?_ | simp (maxSteps := 1000000) (disch := omega) only [cA, cB, cC, frz_us, binE, unE, boundE, newsE, blkQ, Nat.reduceEqDiff, Nat.reduceLT, Nat.reduceAdd, ↓reduceIte, reduceCtorEq, Nat.reduceLeDiff, X, I, cS, nbsMul] | refine callC_pure (cv) rfl ?_ | refine callC_pure (cw) rfl ?_ | refine callC_pure (cm) rfl ?_ | refine callC_pure (cs) rfl ?_ | exact W_ret (RetP_1 (.imm rfl)) | exact W_ret (RetP_c rfl rfl rfl (.imm rfl)))
theorem sAdd_calls (n1 : Bool) (a : List Nat) (n2 : Bool) (b : List Nat) (ha : a.length ≤ 900) (hb : b.length ≤ 900) (la : lim a) (lb : lim b) : PCalls Tryz.prog 82 [X n1 a, X n2 b] (I (iv n1 a + iv n2 b)) := by
  have cv := sTake_calls n1 a (by omega) la
  have cw := sTake_calls n2 b (by omega) lb
  have l1 := iv_len la n1
  have l2 := iv_len lb n2
  generalize iv n1 a = x at *
  generalize iv n2 b = y at *
  have ca := rAddL x.natAbs y.natAbs (by omega) (by omega)
  have cd := rSub_calls (limbs x.natAbs) (limbs y.natAbs) (by omega) (by omega) (lim_limbs _) (lim_limbs _)
  have ce := rSub_calls (limbs y.natAbs) (limbs x.natAbs) (by omega) (by omega) (lim_limbs _) (lim_limbs _)
  rw [vn_limbs, vn_limbs] at cd ce
  have s1 := s_signed_calls (decide (x < 0)) (x.natAbs + y.natAbs)
  have s2 := s_signed_calls (decide (x < 0)) (x.natAbs - y.natAbs)
  have s3 := s_signed_calls (decide (y < 0)) (y.natAbs - x.natAbs)
  refine PCalls_of issAdd (by simp [fnsAdd]) ?_
  unfold codesAdd
  by_cases h : decide (x < 0) = decide (y < 0)
  · rw [add_same h] at s1
    have hb : (decide (x < 0) == decide (y < 0)) = true := by rw [h]; simp
    repeat (first | refine W_seq ?_ | refine W_reg ?_ | refine W_regd ?_ | refine W_block ?_ | refine And.intro (by omega) ?_ | simp (maxSteps := 1000000) (disch := omega) only [cA, cB, cC, frz_us, binE, unE, boundE, newsE, blkQ, Nat.reduceEqDiff, Nat.reduceLT, Nat.reduceAdd, ↓reduceIte, reduceCtorEq, Nat.reduceLeDiff, X, I, cS, nbsAdd, hb] | refine callC_pure (cv) rfl ?_ | refine callC_pure (cw) rfl ?_ | exact W_ret (RetP_1 (.imm rfl)) | exact W_ret (RetP_c rfl rfl rfl (.imm rfl)))
    refine W_cond rfl (fun _ => ?_) (fun h => by cases h)
    repeat (first | refine W_seq ?_ | refine W_reg ?_ | refine W_regd ?_ | refine W_block ?_ | refine And.intro (by omega) ?_ | simp (maxSteps := 1000000) (disch := omega) only [cA, cB, cC, frz_us, binE, unE, boundE, newsE, blkQ, Nat.reduceEqDiff, Nat.reduceLT, Nat.reduceAdd, ↓reduceIte, reduceCtorEq, Nat.reduceLeDiff, X, I, cS, nbsAdd, hb] | refine callC_pure (ca) rfl ?_ | refine callC_pure (s1) rfl ?_ | exact W_ret (RetP_1 (.imm rfl)) | exact W_ret (RetP_c rfl rfl rfl (.imm rfl)))
  · have hb : (decide (x < 0) == decide (y < 0)) = false := by simpa using h
    by_cases hle : y.natAbs ≤ x.natAbs
    · rw [add_left h hle] at s2
      rw [decide_eq_true hle] at cd
      repeat (first | refine W_seq ?_ | refine W_reg ?_ | refine W_regd ?_ | refine W_block ?_ | refine And.intro (by omega) ?_ | simp (maxSteps := 1000000) (disch := omega) only [cA, cB, cC, frz_us, binE, unE, boundE, newsE, blkQ, Nat.reduceEqDiff, Nat.reduceLT, Nat.reduceAdd, ↓reduceIte, reduceCtorEq, Nat.reduceLeDiff, X, I, cS, nbsAdd, hb] | refine callC_pure (cv) rfl ?_ | refine callC_pure (cw) rfl ?_ | exact W_ret (RetP_1 (.imm rfl)) | exact W_ret (RetP_c rfl rfl rfl (.imm rfl)))
      refine W_cond rfl (fun h => by cases h) (fun _ => W_skip ?_)
      repeat (first | refine W_seq ?_ | refine W_reg ?_ | refine W_regd ?_ | refine W_block ?_ | refine And.intro (by omega) ?_ | simp (maxSteps := 1000000) (disch := omega) only [cA, cB, cC, frz_us, binE, unE, boundE, newsE, blkQ, Nat.reduceEqDiff, Nat.reduceLT, Nat.reduceAdd, ↓reduceIte, reduceCtorEq, Nat.reduceLeDiff, X, I, cS, nbsAdd] | refine callC_pure (cd) rfl ?_ | exact W_ret (RetP_1 (.imm rfl)) | exact W_ret (RetP_c rfl rfl rfl (.imm rfl)))
      refine W_cond rfl (fun _ => ?_) (fun h => by cases h)
      repeat (first | refine W_seq ?_ | refine W_reg ?_ | refine W_regd ?_ | refine W_block ?_ | refine And.intro (by omega) ?_ | simp (maxSteps := 1000000) (disch := omega) only [cA, cB, cC, frz_us, binE, unE, boundE, newsE, blkQ, Nat.reduceEqDiff, Nat.reduceLT, Nat.reduceAdd, ↓reduceIte, reduceCtorEq, Nat.reduceLeDiff, X, I, cS, nbsAdd] | refine callC_pure (s2) rfl ?_ | exact W_ret (RetP_1 (.imm rfl)) | exact W_ret (RetP_c rfl rfl rfl (.imm rfl)))
    · rw [add_right h hle] at s3
      rw [decide_eq_false hle] at cd
      repeat (first | refine W_seq ?_ | refine W_reg ?_ | refine W_regd ?_ | refine W_block ?_ | refine And.intro (by omega) ?_ | simp (maxSteps := 1000000) (disch := omega) only [cA, cB, cC, frz_us, binE, unE, boundE, newsE, blkQ, Nat.reduceEqDiff, Nat.reduceLT, Nat.reduceAdd, ↓reduceIte, reduceCtorEq, Nat.reduceLeDiff, X, I, cS, nbsAdd, hb] | refine callC_pure (cv) rfl ?_ | refine callC_pure (cw) rfl ?_ | exact W_ret (RetP_1 (.imm rfl)) | exact W_ret (RetP_c rfl rfl rfl (.imm rfl)))
      refine W_cond rfl (fun h => by cases h) (fun _ => W_skip ?_)
      repeat (first | refine W_seq ?_ | refine W_reg ?_ | refine W_regd ?_ | refine W_block ?_ | refine And.intro (by omega) ?_ | simp (maxSteps := 1000000) (disch := omega) only [cA, cB, cC, frz_us, binE, unE, boundE, newsE, blkQ, Nat.reduceEqDiff, Nat.reduceLT, Nat.reduceAdd, ↓reduceIte, reduceCtorEq, Nat.reduceLeDiff, X, I, cS, nbsAdd] | refine callC_pure (cd) rfl ?_ | exact W_ret (RetP_1 (.imm rfl)) | exact W_ret (RetP_c rfl rfl rfl (.imm rfl)))
      refine W_cond rfl (fun h => by cases h) (fun _ => W_skip ?_)
      repeat (first | refine W_seq ?_ | refine W_reg ?_ | refine W_regd ?_ | refine W_block ?_ | refine And.intro (by omega) ?_ | simp (maxSteps := 1000000) (disch := omega) only [cA, cB, cC, frz_us, binE, unE, boundE, newsE, blkQ, Nat.reduceEqDiff, Nat.reduceLT, Nat.reduceAdd, ↓reduceIte, reduceCtorEq, Nat.reduceLeDiff, X, I, cS, nbsAdd] | refine callC_pure (ce) rfl ?_ | refine callC_pure (s3) rfl ?_ | exact W_ret (RetP_1 (.imm rfl)) | exact W_ret (RetP_c rfl rfl rfl (.imm rfl)))
theorem sDiv_calls (n1 : Bool) (a : List Nat) (n2 : Bool) (b : List Nat) (ha : a.length ≤ 900) (hb : b.length ≤ 900) (la : lim a) (lb : lim b) :
    PCalls Tryz.prog 100 [X n1 a, X n2 b] (.tup [I (iv n1 a / iv n2 b), I (imod (iv n1 a) (iv n2 b)), .bool (decide (¬ iv n2 b = 0))]) := by
  have cv := sTake_calls n1 a (by omega) la
  have cw := sTake_calls n2 b (by omega) lb
  have l1 := iv_len la n1
  have l2 := iv_len lb n2
  generalize iv n1 a = x at *
  generalize iv n2 b = y at *
  have cd := rDivL x.natAbs y.natAbs (by omega) (by omega)
  have lq := len_mono (Nat.div_le_self x.natAbs y.natAbs)
  refine PCalls_of issDiv (by simp [fnsDiv]) ?_
  unfold codesDiv imod
  by_cases hy : y = 0
  · subst hy
    rw [decide_eq_false (show ¬ 0 < (0 : Int).natAbs by decide)] at cd
    repeat (first | refine W_seq ?_ | refine W_reg ?_ | refine W_regd ?_ | refine W_block ?_ | refine And.intro (by omega) ?_ | simp (maxSteps := 1000000) (disch := omega) only [cA, cB, cC, frz_us, binE, unE, boundE, newsE, blkQ, Nat.reduceEqDiff, Nat.reduceLT, Nat.reduceAdd, ↓reduceIte, reduceCtorEq, Nat.reduceLeDiff, X, I, cS, nbsDiv] | refine callC_pure (cv) rfl ?_ | refine callC_pure (cw) rfl ?_ | refine callC_pure (cd) rfl ?_ | exact W_ret (RetP_1 (.imm rfl)) | exact W_ret (RetP_c rfl rfl rfl (.imm rfl)))
    refine W_cond rfl (fun _ => ?_) (fun h => by cases h)
    repeat (first | refine W_seq ?_ | refine W_reg ?_ | refine W_regd ?_ | refine W_block ?_ | refine And.intro (by omega) ?_ | simp (maxSteps := 1000000) (disch := omega) only [cA, cB, cC, frz_us, binE, unE, boundE, newsE, blkQ, Nat.reduceEqDiff, Nat.reduceLT, Nat.reduceAdd, ↓reduceIte, reduceCtorEq, Nat.reduceLeDiff, cS])
    refine W_ret (RetP_cct rfl rfl rfl rfl rfl rfl ?_ ?_ (.imm rfl))
    · rw [Int.ediv_zero]
      have := Exp_bn (h := lkH [(2, [DV.bool (decide (x < 0)), DV.sl 1 (us (limbs x.natAbs))]), (3, [DV.bool (decide ((0 : Int) < 0)), DV.sl 1 (us (limbs (0 : Int).natAbs))]), (4, [DV.bool false, DV.nils]), (5, [DV.bool false, DV.nils])]) false 1
      rw [← I0] at this
      exact this
    · have := Exp_bn (h := lkH [(2, [DV.bool (decide (x < 0)), DV.sl 1 (us (limbs x.natAbs))]), (3, [DV.bool (decide ((0 : Int) < 0)), DV.sl 1 (us (limbs (0 : Int).natAbs))]), (4, [DV.bool false, DV.nils]), (5, [DV.bool false, DV.nils])]) false 1
      rw [← I0] at this
      exact this
  · have hy0 : 0 < y.natAbs := by omega
    rw [decide_eq_true hy0, dmod_pos hy0] at cd
    rw [decide_eq_true hy, if_neg hy]
    have lr := len_mono (Nat.mod_le x.natAbs y.natAbs)
    have hm := Nat.mod_lt x.natAbs hy0
    repeat (first | refine W_seq ?_ | refine W_reg ?_ | refine W_regd ?_ | refine W_block ?_ | refine And.intro (by omega) ?_ | simp (maxSteps := 1000000) (disch := omega) only [cA, cB, cC, frz_us, binE, unE, boundE, newsE, blkQ, Nat.reduceEqDiff, Nat.reduceLT, Nat.reduceAdd, ↓reduceIte, reduceCtorEq, Nat.reduceLeDiff, X, I, cS, nbsDiv] | refine callC_pure (cv) rfl ?_ | refine callC_pure (cw) rfl ?_ | refine callC_pure (cd) rfl ?_ | exact W_ret (RetP_1 (.imm rfl)) | exact W_ret (RetP_c rfl rfl rfl (.imm rfl)))
    refine W_cond rfl (fun h => by cases h) (fun _ => W_skip ?_)
    by_cases hf : x < 0 ∧ 0 < x.natAbs % y.natAbs
    · obtain ⟨f1, f2⟩ := div_fix x y hy hf.1 hf.2
      have dx : decide (x < 0) = true := decide_eq_true hf.1
      have dr : decide (0 < x.natAbs % y.natAbs) = true := decide_eq_true hf.2
      have o1 : (limbs 1).length ≤ 10000 := by rw [limbs1]; simp
      have ca := rAddL (x.natAbs / y.natAbs) 1 (by omega) (by omega)
      have cb := rSub_calls (limbs y.natAbs) (limbs (x.natAbs % y.natAbs)) (by omega) (by omega) (lim_limbs _) (lim_limbs _)
      rw [vn_limbs, vn_limbs] at cb
      have s1 := s_signed_calls (!(decide (x < 0) == decide (y < 0))) (x.natAbs / y.natAbs + 1)
      have s2 := s_signed_calls false (y.natAbs - x.natAbs % y.natAbs)
      rw [f1, dx] at s1
      rw [f2] at s2
      clear hf f1 f2 hm o1
      repeat (first | refine W_seq ?_ | refine W_reg ?_ | refine W_regd ?_ | refine W_block ?_ | refine And.intro (by omega) ?_ | simp (maxSteps := 1000000) (disch := omega) only [cA, cB, cC, frz_us, binE, unE, boundE, newsE, blkQ, Nat.reduceEqDiff, Nat.reduceLT, Nat.reduceAdd, ↓reduceIte, reduceCtorEq, Nat.reduceLeDiff, X, I, cS, nbsDiv, us_length, len_gt, dx, dr] | refine callC_pure (cv) rfl ?_ | exact W_ret (RetP_1 (.imm rfl)) | exact W_ret (RetP_c rfl rfl rfl (.imm rfl)))
      refine W_cond rfl (fun _ => ?_) (fun h => by cases h)
      repeat (first | refine W_seq ?_ | refine W_reg ?_ | refine W_regd ?_ | refine W_block ?_ | refine And.intro (by omega) ?_ | simp (maxSteps := 1000000) (disch := omega) only [cA, cB, cC, frz_us, binE, unE, boundE, newsE, blkQ, Nat.reduceEqDiff, Nat.reduceLT, Nat.reduceAdd, ↓reduceIte, reduceCtorEq, Nat.reduceLeDiff, I, cS, nbsDiv, us_rfd, us1L] | refine callC_pure (ca) rfl ?_ | refine callC_pure (cb) rfl ?_ | refine callC_pure (s1) rfl ?_ | refine callC_pure (s2) rfl ?_ | exact W_ret (RetP_1 (.imm rfl)) | exact W_ret (RetP_c rfl rfl rfl (.imm rfl)))
      exact W_ret (RetP_cct rfl rfl rfl rfl rfl rfl (.imm rfl) (.imm rfl) (.imm rfl))
    · obtain ⟨f1, f2⟩ := div_plain x y hy hf
      have s1 := s_signed_calls (!(decide (x < 0) == decide (y < 0))) (x.natAbs / y.natAbs)
      have s2 := s_signed_calls false (x.natAbs % y.natAbs)
      rw [f1] at s1
      rw [f2] at s2
      by_cases hx : x < 0
      · have dx : decide (x < 0) = true := decide_eq_true hx
        have dr : decide (0 < x.natAbs % y.natAbs) = false := decide_eq_false (fun h => hf ⟨hx, h⟩)
        rw [dx] at s1
        clear hf f1 f2 hm
        repeat (first | refine W_seq ?_ | refine W_reg ?_ | refine W_regd ?_ | refine W_block ?_ | refine And.intro (by omega) ?_ | simp (maxSteps := 1000000) (disch := omega) only [cA, cB, cC, frz_us, binE, unE, boundE, newsE, blkQ, Nat.reduceEqDiff, Nat.reduceLT, Nat.reduceAdd, ↓reduceIte, reduceCtorEq, Nat.reduceLeDiff, X, I, cS, nbsDiv, us_length, len_gt, dx, dr] | refine callC_pure (cv) rfl ?_ | exact W_ret (RetP_1 (.imm rfl)) | exact W_ret (RetP_c rfl rfl rfl (.imm rfl)))
        refine W_cond rfl (fun h => by cases h) (fun _ => W_skip ?_)
        repeat (first | refine W_seq ?_ | refine W_reg ?_ | refine W_regd ?_ | refine W_block ?_ | refine And.intro (by omega) ?_ | simp (maxSteps := 1000000) (disch := omega) only [cA, cB, cC, frz_us, binE, unE, boundE, newsE, blkQ, Nat.reduceEqDiff, Nat.reduceLT, Nat.reduceAdd, ↓reduceIte, reduceCtorEq, Nat.reduceLeDiff, I, cS, nbsDiv] | refine callC_pure (s1) rfl ?_ | refine callC_pure (s2) rfl ?_ | exact W_ret (RetP_1 (.imm rfl)) | exact W_ret (RetP_c rfl rfl rfl (.imm rfl)))
        exact W_ret (RetP_cct rfl rfl rfl rfl rfl rfl (.imm rfl) (.imm rfl) (.imm rfl))
      · have dx : decide (x < 0) = false := decide_eq_false hx
        rw [dx] at s1
        clear hf f1 f2 hm
        repeat (first | refine W_seq ?_ | refine W_reg ?_ | refine W_regd ?_ | refine W_block ?_ | refine And.intro (by omega) ?_ | simp (maxSteps := 1000000) (disch := omega) only [cA, cB, cC, frz_us, binE, unE, boundE, newsE, blkQ, Nat.reduceEqDiff, Nat.reduceLT, Nat.reduceAdd, ↓reduceIte, reduceCtorEq, Nat.reduceLeDiff, X, I, cS, nbsDiv, us_length, len_gt, dx] | refine callC_pure (cv) rfl ?_ | exact W_ret (RetP_1 (.imm rfl)) | exact W_ret (RetP_c rfl rfl rfl (.imm rfl)))
        refine W_cond rfl (fun h => by cases h) (fun _ => W_skip ?_)
        repeat (first | refine W_seq ?_ | refine W_reg ?_ | refine W_regd ?_ | refine W_block ?_ | refine And.intro (by omega) ?_ | simp (maxSteps := 1000000) (disch := omega) only [cA, cB, cC, frz_us, binE, unE, boundE, newsE, blkQ, Nat.reduceEqDiff, Nat.reduceLT, Nat.reduceAdd, ↓reduceIte, reduceCtorEq, Nat.reduceLeDiff, I, cS, nbsDiv] | refine callC_pure (s1) rfl ?_ | refine callC_pure (s2) rfl ?_ | exact W_ret (RetP_1 (.imm rfl)) | exact W_ret (RetP_c rfl rfl rfl (.imm rfl)))
        exact W_ret (RetP_cct rfl rfl rfl rfl rfl rfl (.imm rfl) (.imm rfl) (.imm rfl))
theorem sGcd_calls (n1 : Bool) (a : List Nat) (n2 : Bool) (b : List Nat) (ha : a.length ≤ 900) (hb : b.length ≤ 900) (la : lim a) (lb : lim b) :
    PCalls Tryz.prog 105 [X n1 a, X n2 b] (.sl 1 (us (limbs (Nat.gcd (iv n1 a).natAbs (iv n2 b).natAbs)))) := by
  have cv := sTake_calls n1 a (by omega) la
  have cw := sTake_calls n2 b (by omega) lb
  have l1 := iv_len la n1
  have l2 := iv_len lb n2
  generalize iv n1 a = x at *
  generalize iv n2 b = y at *
  have cg := rGcdL x.natAbs y.natAbs (by omega) (by omega)
  refine PCalls_of issGcd (by simp [fnsGcd]) ?_
  unfold codesGcd
  repeat (first | refine W_seq ?_ | refine W_reg ?_ | refine W_regd ?_ | refine W_block ?_ | refine And.intro (by omega) ?_ | simp (maxSteps := 1000000) (disch := omega) only [cA, cB, cC, frz_us, binE, unE, boundE, newsE, blkQ, Nat.reduceEqDiff, Nat.reduceLT, Nat.reduceAdd, ↓reduceIte, reduceCtorEq, Nat.reduceLeDiff, X, I, cS, nbsGcd] | refine callC_pure (cv) rfl ?_ | refine callC_pure (cw) rfl ?_ | refine callC_pure (cg) rfl ?_ | exact W_ret (RetP_1 (.imm rfl)) | exact W_ret (RetP_c rfl rfl rfl (.imm rfl)))
theorem sFromInt_calls (v : Int) (h1 : -9223372036854775808 ≤ v) (h2 : v ≤ 9223372036854775807) : PCalls Tryz.prog 83 [.int .i64 v] (I v) := by
  refine PCalls_of issFromInt (by simp [fnsFromInt]) ?_
  unfold codesFromInt
  by_cases hv : v < 0
  · have d1 : decide (v < 0) = true := decide_eq_true hv
    obtain ⟨n, hn⟩ : ∃ n : Nat, v = -((n + 1 : Nat) : Int) := ⟨v.natAbs - 1, by omega⟩
    have cf := rFromUint_calls n (by omega)
    have hll : (limbs n).length ≤ 2 := limbs_len.2 (by omega)
    have ca := rAddL n 1 (by omega) (by rw [limbs1]; simp)
    have cs := s_signed_calls true (n + 1)
    rw [show sgn true (n + 1) = v by unfold sgn; rw [if_pos rfl, hn]] at cs
    have e1 : IntKind.u64.wrap (IntKind.i64.wrap (0 - IntKind.i64.wrap (v + 1))) = (n : Int) := by rw [IntKind.wrap_u64, IntKind.wrap_i64, IntKind.wrap_i64]; omega
    repeat (first | refine W_seq ?_ | refine W_reg ?_ | refine W_regd ?_ | refine W_block ?_ | refine And.intro (by omega) ?_ | simp (maxSteps := 1000000) (disch := omega) only [cA, cB, cC, frz_us, binE, unE, boundE, newsE, blkQ, Nat.reduceEqDiff, Nat.reduceLT, Nat.reduceAdd, ↓reduceIte, reduceCtorEq, Nat.reduceLeDiff, I, cS, nbsFromInt, d1] | refine callC_pure (cf) rfl ?_ | refine callC_pure (cs) rfl ?_ | exact W_ret (RetP_1 (.imm rfl)) | exact W_ret (RetP_c rfl rfl rfl (.imm rfl)))
    refine W_cond rfl (fun _ => ?_) (fun h => by cases h)
    have e2 : IntKind.i64.wrap (v + 1) = v + 1 := by rw [IntKind.wrap_i64]; omega
    have e3 : IntKind.i64.wrap (0 - (v + 1)) = 0 - (v + 1) := by rw [IntKind.wrap_i64]; omega
    have e4 : IntKind.u64.wrap (0 - (v + 1)) = (n : Int) := by rw [IntKind.wrap_u64]; omega
    have e5 : (0 - (v + 1)) = (n : Int) := by omega
    clear hll
    repeat (first | refine W_seq ?_ | refine W_reg ?_ | refine W_regd ?_ | refine W_block ?_ | refine And.intro (by omega) ?_ | simp (maxSteps := 1000000) (disch := omega) only [cA, cB, cC, frz_us, binE, unE, boundE, newsE, blkQ, Nat.reduceEqDiff, Nat.reduceLT, Nat.reduceAdd, ↓reduceIte, reduceCtorEq, Nat.reduceLeDiff, I, cS, nbsFromInt, d1, e5, us_rfd, us1L] | refine callC_pure (cf) rfl ?_ | refine callC_pure (ca) rfl ?_ | refine callC_pure (cs) rfl ?_ | exact W_ret (RetP_1 (.imm rfl)) | exact W_ret (RetP_c rfl rfl rfl (.imm rfl)))
  · have d1 : decide (v < 0) = false := decide_eq_false hv
    obtain ⟨n, hn⟩ : ∃ n : Nat, v = (n : Int) := ⟨v.natAbs, by omega⟩
    have cf := rFromUint_calls n (by omega)
    have cs := s_signed_calls false n
    rw [show sgn false n = v by unfold sgn; rw [if_neg (by simp), hn]] at cs
    have e1 : IntKind.u64.wrap v = (n : Int) := by rw [IntKind.wrap_u64]; omega
    repeat (first | refine W_seq ?_ | refine W_reg ?_ | refine W_regd ?_ | refine W_block ?_ | refine And.intro (by omega) ?_ | simp (maxSteps := 1000000) (disch := omega) only [cA, cB, cC, frz_us, binE, unE, boundE, newsE, blkQ, Nat.reduceEqDiff, Nat.reduceLT, Nat.reduceAdd, ↓reduceIte, reduceCtorEq, Nat.reduceLeDiff, I, cS, nbsFromInt, d1] | refine callC_pure (cf) rfl ?_ | refine callC_pure (cs) rfl ?_ | exact W_ret (RetP_1 (.imm rfl)) | exact W_ret (RetP_c rfl rfl rfl (.imm rfl)))
    refine W_cond rfl (fun h => by cases h) (fun _ => W_skip ?_)
    repeat (first | refine W_seq ?_ | refine W_reg ?_ | refine W_regd ?_ | refine W_block ?_ | refine And.intro (by omega) ?_ | simp (maxSteps := 1000000) (disch := omega) only [cA, cB, cC, frz_us, binE, unE, boundE, newsE, blkQ, Nat.reduceEqDiff, Nat.reduceLT, Nat.reduceAdd, ↓reduceIte, reduceCtorEq, Nat.reduceLeDiff, I, cS, nbsFromInt, d1, e1] | refine callC_pure (cf) rfl ?_ | refine callC_pure (cs) rfl ?_ | exact W_ret (RetP_1 (.imm rfl)) | exact W_ret (RetP_c rfl rfl rfl (.imm rfl)))
end Go.Proofs.YteiagmmfapbaiaaGreatDoor
namespace Go.Proofs.YteiagmmfapbaiaaGreatDoor
open Go Go.Dat Go.Proofs Nat32
def pw (x : Nat) (k : Int) : Nat := if k < 0 ∨ 64 < k then 0 else x ^ k.toNat
theorem nPower_calls (a : List Nat) (k : Int) (ha : a.length ≤ 100) (la : lim a) : PCalls Tryz.prog 129 [.sl 1 (us a), .int .i64 k] (.sl 1 (us (limbs (pw (vn a) k)))) := by
  have l1 := vn_len la
  refine PCalls_of isnPower (by simp [fnnPower]) ?_
  unfold codenPower pw
  by_cases h0 : k < 0
  · have d0 : decide (k < 0) = true := decide_eq_true h0
    rw [if_pos (.inl h0), limbs_zero]
    repeat (first | refine W_seq ?_ | refine W_reg ?_ | refine W_regd ?_ | refine W_block ?_ | refine And.intro (by omega) ?_ | simp (maxSteps := 1000000) (disch := omega) only [cA, cB, cC, frz_us, binE, unE, boundE, newsE, blkQ, Nat.reduceEqDiff, Nat.reduceLT, Nat.reduceAdd, ↓reduceIte, reduceCtorEq, Nat.reduceLeDiff, d0])
    refine W_cond rfl (fun _ => ?_) (fun h => by cases h)
    repeat (first | refine W_seq ?_ | refine W_reg ?_ | refine W_regd ?_ | refine W_block ?_ | refine And.intro (by omega) ?_ | simp (maxSteps := 1000000) (disch := omega) only [cA, cB, cC, frz_us, binE, unE, boundE, newsE, blkQ, Nat.reduceEqDiff, Nat.reduceLT, Nat.reduceAdd, ↓reduceIte, reduceCtorEq, Nat.reduceLeDiff])
    exact W_ret (RetP_1 (.nils 1))
  · have d0 : decide (k < 0) = false := decide_eq_false h0
    by_cases h64 : 64 < k
    · have d1 : decide (64 < k) = true := decide_eq_true h64
      rw [if_pos (.inr h64), limbs_zero]
      repeat (first | refine W_seq ?_ | refine W_reg ?_ | refine W_regd ?_ | refine W_block ?_ | refine And.intro (by omega) ?_ | simp (maxSteps := 1000000) (disch := omega) only [cA, cB, cC, frz_us, binE, unE, boundE, newsE, blkQ, Nat.reduceEqDiff, Nat.reduceLT, Nat.reduceAdd, ↓reduceIte, reduceCtorEq, Nat.reduceLeDiff, d0, d1])
      refine W_cond rfl (fun _ => ?_) (fun h => by cases h)
      repeat (first | refine W_seq ?_ | refine W_reg ?_ | refine W_regd ?_ | refine W_block ?_ | refine And.intro (by omega) ?_ | simp (maxSteps := 1000000) (disch := omega) only [cA, cB, cC, frz_us, binE, unE, boundE, newsE, blkQ, Nat.reduceEqDiff, Nat.reduceLT, Nat.reduceAdd, ↓reduceIte, reduceCtorEq, Nat.reduceLeDiff])
      exact W_ret (RetP_1 (.nils 1))
    · have d1 : decide (64 < k) = false := decide_eq_false h64
      rw [if_neg (by omega)]
      obtain ⟨n, rfl⟩ : ∃ n : Nat, k = n := ⟨k.toNat, by omega⟩
      have hn : n ≤ 64 := by omega
      rw [Int.toNat_natCast]
      repeat (first | refine W_seq ?_ | refine W_reg ?_ | refine W_regd ?_ | refine W_block ?_ | refine And.intro (by omega) ?_ | simp (maxSteps := 1000000) (disch := omega) only [cA, cB, cC, frz_us, binE, unE, boundE, newsE, blkQ, Nat.reduceEqDiff, Nat.reduceLT, Nat.reduceAdd, ↓reduceIte, reduceCtorEq, Nat.reduceLeDiff, d0, d1])
      refine W_cond rfl (fun h => by cases h) (fun _ => W_skip ?_)
      clear d0 d1 h0 h64
      repeat (first | refine W_seq ?_ | refine W_reg ?_ | refine W_regd ?_ | refine W_block ?_ | refine And.intro (by omega) ?_ | simp (maxSteps := 1000000) (disch := omega) only [cA, cB, cC, frz_us, binE, unE, boundE, newsE, blkQ, Nat.reduceEqDiff, Nat.reduceLT, Nat.reduceAdd, ↓reduceIte, reduceCtorEq, Nat.reduceLeDiff, us_rfd, us1L])
      refine W_loop (σ := Nat) (fun i => [(0, .sl 1 (us a)), (5, .sl 1 (us (limbs (vn a ^ i)))), (13, .int .i64 n), (14, .int .i64 i)]) (fun _ => []) (fun i => i ≤ n) (fun i => n - i) 0 (Nat.zero_le _) ?_ rfl ?_
      · simp [subF, lk]
      · rintro i hi
        have lp := len_pow (show (limbs (vn a)).length ≤ 100 by omega) i
        have cm := nMul_calls (limbs (vn a ^ i)) a (by omega) (by omega) (lim_limbs _) la
        rw [vn_limbs, ← Nat.pow_succ] at cm
        repeat (first | refine W_seq ?_ | refine W_reg ?_ | refine W_regd ?_ | refine W_block ?_ | refine And.intro (by omega) ?_ | simp (maxSteps := 1000000) (disch := omega) only [cA, cB, cC, frz_us, binE, unE, boundE, newsE, blkQ, Nat.reduceEqDiff, Nat.reduceLT, Nat.reduceAdd, ↓reduceIte, reduceCtorEq, Nat.reduceLeDiff])
        refine W_cond rfl (fun h => W_skip ?_) (fun h => W_exit ?_)
        · have h := of_decide_eq_true h
          repeat (first | refine W_seq ?_ | refine W_reg ?_ | refine W_regd ?_ | refine W_block ?_ | refine And.intro (by omega) ?_ | simp (maxSteps := 1000000) (disch := omega) only [cA, cB, cC, frz_us, binE, unE, boundE, newsE, blkQ, Nat.reduceEqDiff, Nat.reduceLT, Nat.reduceAdd, ↓reduceIte, reduceCtorEq, Nat.reduceLeDiff])
          refine callC_pure cm rfl ?_
          repeat (first | refine W_seq ?_ | refine W_reg ?_ | refine W_regd ?_ | refine W_block ?_ | refine And.intro (by omega) ?_ | simp (maxSteps := 1000000) (disch := omega) only [cA, cB, cC, frz_us, binE, unE, boundE, newsE, blkQ, Nat.reduceEqDiff, Nat.reduceLT, Nat.reduceAdd, ↓reduceIte, reduceCtorEq, Nat.reduceLeDiff])
          refine ⟨i + 1, by omega, by omega, by simp [subF, lk]⟩
        · have h := of_decide_eq_false h
          have : i = n := by omega
          subst this
          repeat (first | refine W_seq ?_ | refine W_reg ?_ | refine W_regd ?_ | refine W_block ?_ | refine And.intro (by omega) ?_ | simp (maxSteps := 1000000) (disch := omega) only [cA, cB, cC, frz_us, binE, unE, boundE, newsE, blkQ, Nat.reduceEqDiff, Nat.reduceLT, Nat.reduceAdd, ↓reduceIte, reduceCtorEq, Nat.reduceLeDiff])
          exact W_ret (RetP_1 (.imm rfl))
theorem rPower_calls (a : List Nat) (k : Int) (ha : a.length ≤ 100) (la : lim a) : PCalls Tryz.prog 44 [.sl 1 (us a), .int .i64 k] (.sl 1 (us (limbs (pw (vn a) k)))) := by
  have l1 := vn_len la
  refine PCalls_of isrPower (by simp [fnrPower]) ?_
  unfold coderPower pw
  by_cases h0 : k < 0
  · have d0 : decide (k < 0) = true := decide_eq_true h0
    rw [if_pos (.inl h0), limbs_zero]
    repeat (first | refine W_seq ?_ | refine W_reg ?_ | refine W_regd ?_ | refine W_block ?_ | refine And.intro (by omega) ?_ | simp (maxSteps := 1000000) (disch := omega) only [cA, cB, cC, frz_us, binE, unE, boundE, newsE, blkQ, Nat.reduceEqDiff, Nat.reduceLT, Nat.reduceAdd, ↓reduceIte, reduceCtorEq, Nat.reduceLeDiff, d0])
    refine W_cond rfl (fun _ => ?_) (fun h => by cases h)
    repeat (first | refine W_seq ?_ | refine W_reg ?_ | refine W_regd ?_ | refine W_block ?_ | refine And.intro (by omega) ?_ | simp (maxSteps := 1000000) (disch := omega) only [cA, cB, cC, frz_us, binE, unE, boundE, newsE, blkQ, Nat.reduceEqDiff, Nat.reduceLT, Nat.reduceAdd, ↓reduceIte, reduceCtorEq, Nat.reduceLeDiff])
    exact W_ret (RetP_1 (.nils 1))
  · have d0 : decide (k < 0) = false := decide_eq_false h0
    by_cases h64 : 64 < k
    · have d1 : decide (64 < k) = true := decide_eq_true h64
      rw [if_pos (.inr h64), limbs_zero]
      repeat (first | refine W_seq ?_ | refine W_reg ?_ | refine W_regd ?_ | refine W_block ?_ | refine And.intro (by omega) ?_ | simp (maxSteps := 1000000) (disch := omega) only [cA, cB, cC, frz_us, binE, unE, boundE, newsE, blkQ, Nat.reduceEqDiff, Nat.reduceLT, Nat.reduceAdd, ↓reduceIte, reduceCtorEq, Nat.reduceLeDiff, d0, d1])
      refine W_cond rfl (fun _ => ?_) (fun h => by cases h)
      repeat (first | refine W_seq ?_ | refine W_reg ?_ | refine W_regd ?_ | refine W_block ?_ | refine And.intro (by omega) ?_ | simp (maxSteps := 1000000) (disch := omega) only [cA, cB, cC, frz_us, binE, unE, boundE, newsE, blkQ, Nat.reduceEqDiff, Nat.reduceLT, Nat.reduceAdd, ↓reduceIte, reduceCtorEq, Nat.reduceLeDiff])
      exact W_ret (RetP_1 (.nils 1))
    · have d1 : decide (64 < k) = false := decide_eq_false h64
      rw [if_neg (by omega)]
      obtain ⟨n, rfl⟩ : ∃ n : Nat, k = n := ⟨k.toNat, by omega⟩
      have hn : n ≤ 64 := by omega
      rw [Int.toNat_natCast]
      repeat (first | refine W_seq ?_ | refine W_reg ?_ | refine W_regd ?_ | refine W_block ?_ | refine And.intro (by omega) ?_ | simp (maxSteps := 1000000) (disch := omega) only [cA, cB, cC, frz_us, binE, unE, boundE, newsE, blkQ, Nat.reduceEqDiff, Nat.reduceLT, Nat.reduceAdd, ↓reduceIte, reduceCtorEq, Nat.reduceLeDiff, d0, d1])
      refine W_cond rfl (fun h => by cases h) (fun _ => W_skip ?_)
      clear d0 d1 h0 h64
      repeat (first | refine W_seq ?_ | refine W_reg ?_ | refine W_regd ?_ | refine W_block ?_ | refine And.intro (by omega) ?_ | simp (maxSteps := 1000000) (disch := omega) only [cA, cB, cC, frz_us, binE, unE, boundE, newsE, blkQ, Nat.reduceEqDiff, Nat.reduceLT, Nat.reduceAdd, ↓reduceIte, reduceCtorEq, Nat.reduceLeDiff, us_rfd, us1L])
      refine W_loop (σ := Nat) (fun i => [(0, .sl 1 (us a)), (1, .int .i64 n), (5, .sl 1 (us (limbs (vn a ^ i)))), (6, .int .i64 i)]) (fun _ => []) (fun i => i ≤ n) (fun i => n - i) 0 (Nat.zero_le _) ?_ rfl ?_
      · simp [subF, lk]
      · rintro i hi
        have lp := len_pow (show (limbs (vn a)).length ≤ 100 by omega) i
        have cm := rMul_calls (limbs (vn a ^ i)) a (by omega) (by omega) (lim_limbs _) la
        rw [vn_limbs, ← Nat.pow_succ] at cm
        repeat (first | refine W_seq ?_ | refine W_reg ?_ | refine W_regd ?_ | refine W_block ?_ | refine And.intro (by omega) ?_ | simp (maxSteps := 1000000) (disch := omega) only [cA, cB, cC, frz_us, binE, unE, boundE, newsE, blkQ, Nat.reduceEqDiff, Nat.reduceLT, Nat.reduceAdd, ↓reduceIte, reduceCtorEq, Nat.reduceLeDiff])
        refine W_cond rfl (fun h => W_skip ?_) (fun h => W_exit ?_)
        · have h := of_decide_eq_true h
          repeat (first | refine W_seq ?_ | refine W_reg ?_ | refine W_regd ?_ | refine W_block ?_ | refine And.intro (by omega) ?_ | simp (maxSteps := 1000000) (disch := omega) only [cA, cB, cC, frz_us, binE, unE, boundE, newsE, blkQ, Nat.reduceEqDiff, Nat.reduceLT, Nat.reduceAdd, ↓reduceIte, reduceCtorEq, Nat.reduceLeDiff])
          refine callC_pure cm rfl ?_
          repeat (first | refine W_seq ?_ | refine W_reg ?_ | refine W_regd ?_ | refine W_block ?_ | refine And.intro (by omega) ?_ | simp (maxSteps := 1000000) (disch := omega) only [cA, cB, cC, frz_us, binE, unE, boundE, newsE, blkQ, Nat.reduceEqDiff, Nat.reduceLT, Nat.reduceAdd, ↓reduceIte, reduceCtorEq, Nat.reduceLeDiff])
          refine ⟨i + 1, by omega, by omega, by simp [subF, lk]⟩
        · have h := of_decide_eq_false h
          have : i = n := by omega
          subst this
          repeat (first | refine W_seq ?_ | refine W_reg ?_ | refine W_regd ?_ | refine W_block ?_ | refine And.intro (by omega) ?_ | simp (maxSteps := 1000000) (disch := omega) only [cA, cB, cC, frz_us, binE, unE, boundE, newsE, blkQ, Nat.reduceEqDiff, Nat.reduceLT, Nat.reduceAdd, ↓reduceIte, reduceCtorEq, Nat.reduceLeDiff])
          exact W_ret (RetP_1 (.imm rfl))
end Go.Proofs.YteiagmmfapbaiaaGreatDoor
namespace Go.Proofs.YteiagmmfapbaiaaGreatDoor
open Go Go.Dat Go.Proofs Nat32
def il (z : Int) : Nat := (limbs z.natAbs).length
theorem il_add {x y : Int} {m : Nat} (h1 : il x ≤ m) (h2 : il y ≤ m) : il (x + y) ≤ m + 1 := Nat.le_trans (len_mono (show _ ≤ x.natAbs + y.natAbs by omega)) (len_add h1 h2)
theorem il_neg (x : Int) : il (-x) = il x := by unfold il; rw [Int.natAbs_neg]
theorem il_mul {x y : Int} {m n : Nat} (h1 : il x ≤ m) (h2 : il y ≤ n) : il (x * y) ≤ m + n := by unfold il; rw [Int.natAbs_mul]; exact len_mul h1 h2
theorem iAddL (x y : Int) (h1 : il x ≤ 9000) (h2 : il y ≤ 9000) : PCalls Tryz.prog 57 [I x, I y] (I (x + y)) := by
  have := iAdd_calls (decide (x < 0)) (limbs x.natAbs) (decide (y < 0)) (limbs y.natAbs) (Nat.le_trans h1 (by decide)) (Nat.le_trans h2 (by decide)) (lim_limbs _) (lim_limbs _)
  rwa [iv_I, iv_I] at this
end Go.Proofs.YteiagmmfapbaiaaGreatDoor
namespace Go.Proofs.YteiagmmfapbaiaaGreatDoor
open Go Go.Dat Go.Proofs
noncomputable def fnlq_awake : FnD := ⟨Tryz.prog, [0, 1, 2, 3, 4], [], 37, 0, false⟩
def codelq_awake : DC := (.seq (.reg [⟨.x 0, .mv (.c (.bool false)), none⟩]) (.seq (.reg [⟨.t 6, .bsl 1 [(.int .u32 0)] [(0, 1, (.c (.int .u32 6)))], none⟩,⟨.t 7, .build [(.bool false), .nils] [(1, 1, (.t 6))], none⟩,⟨.t 8, .bsl 1 [(.int .u32 0)] [(0, 1, (.c (.int .u32 4)))], none⟩,⟨.t 9, .build [(.bool false), .nils] [(0, 1, (.c (.bool true))), (1, 1, (.t 8))], none⟩,⟨.t 10, .call 14 [(.t 7), (.t 9)], none⟩,⟨.t 5, .mv (.t 10), none⟩,⟨.t 11, .ext (.t 5) 0, none⟩,⟨.t 12, .ext (.t 5) 1, none⟩,⟨.x 1, .alloc [(.bool false), .nils, .nils], none⟩,⟨.no, .stn 3 (.x 1) (.t 11), none⟩,⟨.x 2, .mv (.t 12), none⟩]) (.seq (.reg [⟨.t 14, .call 18 [(.c (.str [49, 46, 50, 53, 48, 101, 45, 49]))], none⟩,⟨.t 13, .mv (.t 14), none⟩,⟨.t 15, .ext (.t 13) 0, none⟩,⟨.t 16, .ext (.t 13) 1, none⟩,⟨.x 3, .alloc [(.bool false), .nils, .nils], none⟩,⟨.no, .stn 3 (.x 3) (.t 15), none⟩,⟨.x 4, .mv (.t 16), none⟩]) (.seq (.reg [⟨.t 17, .mv (.x 2), none⟩,⟨.t 18, .bin .eql (.t 17) (.c (.int .i64 0)), none⟩,⟨.t 19, .mv (.t 18), none⟩,⟨.t 20, .mv (.x 4), (some ((.t 19), true))⟩,⟨.t 21, .pick (.t 19) (.t 20) (.c (.bool false)), none⟩,⟨.t 22, .mv (.t 21), none⟩,⟨.t 23, .ldn 3 (.x 1), (some ((.t 22), true))⟩,⟨.t 24, .call 20 [(.t 23)], (some ((.t 22), true))⟩,⟨.t 25, .bin .eql (.t 24) (.c (.str [45, 51, 47, 50])), (some ((.t 22), true))⟩,⟨.t 26, .pick (.t 22) (.t 25) (.c (.bool false)), none⟩,⟨.t 27, .mv (.t 26), none⟩,⟨.t 28, .ldn 3 (.x 3), (some ((.t 27), true))⟩,⟨.t 29, .call 20 [(.t 28)], (some ((.t 27), true))⟩,⟨.t 30, .bin .eql (.t 29) (.c (.str [49, 47, 56])), (some ((.t 27), true))⟩,⟨.t 31, .pick (.t 27) (.t 30) (.c (.bool false)), none⟩,⟨.t 32, .mv (.t 31), none⟩,⟨.t 33, .ldn 3 (.x 3), (some ((.t 32), true))⟩,⟨.t 34, .call 22 [(.t 33), (.c (.int .i64 2))], (some ((.t 32), true))⟩,⟨.t 35, .bin .eql (.t 34) (.c (.str [48, 46, 49, 50])), (some ((.t 32), true))⟩,⟨.t 36, .pick (.t 32) (.t 35) (.c (.bool false)), none⟩,⟨.x 0, .mv (.t 36), none⟩]) .ret))))
def reslq_awake : List RV := [.t 0]
theorem nblq_awake : fnlq_awake.nb = 0 := rfl
theorem islq_awake : IsFn fnlq_awake 13 codelq_awake reslq_awake := ⟨⟨Tryz.f13, _, Tryz.func13, rfl, rfl, by kernel_rfl, by kernel_rfl, by kernel_rfl⟩⟩
noncomputable def fnqMake : FnD := ⟨Tryz.prog, [0, 1, 2, 3, 4, 5, 8, 12], [], 21, 0, false⟩
def codeqMake : DC := (.seq (.reg [⟨.x 2, .box (.x 0), none⟩,⟨.x 3, .box (.x 1), none⟩,⟨.x 4, .alloc [(.bool false), .nils, .nils], none⟩,⟨.x 5, .mv (.c (.int .i64 0)), none⟩]) (.seq (.seq (.reg [⟨.t 6, .ldn 2 (.x 3), none⟩,⟨.t 7, .call 54 [(.t 6)], none⟩,⟨.x 8, .bin .eql (.t 7) (.c (.int .i64 0)), none⟩]) (.cond (.x 8) (.seq (.reg [⟨.t 9, .build [(.bool false), .nils, .nils] [], none⟩,⟨.no, .stn 3 (.x 4) (.t 9), none⟩,⟨.x 5, .mv (.c (.int .i64 5)), none⟩]) .ret) .skip)) (.seq (.seq (.reg [⟨.t 10, .ldn 2 (.x 3), none⟩,⟨.t 11, .call 54 [(.t 10)], none⟩,⟨.x 12, .bin .lss (.t 11) (.c (.int .i64 0)), none⟩]) (.cond (.x 12) (.reg [⟨.t 13, .ldn 2 (.x 2), none⟩,⟨.t 14, .call 55 [(.t 13)], none⟩,⟨.no, .stn 2 (.x 2) (.t 14), none⟩]) .skip)) (.seq (.regd [⟨.t 15, .ldn 2 (.x 2), none⟩,⟨.t 16, .build [(.bool false), .nils] [], none⟩,⟨.t 17, .call 57 [(.t 15), (.t 16)], none⟩,⟨.t 18, .fad 1 (.x 3), none⟩,⟨.t 19, .ld (.t 18), none⟩,⟨.t 20, .call 56 [(.t 17), (.t 19)], none⟩,⟨.no, .stn 3 (.x 4) (.t 20), none⟩,⟨.x 5, .mv (.c (.int .i64 0)), none⟩]) .ret))))
def resqMake : List RV := [.cn 3 4, .t 5]
theorem nbqMake : fnqMake.nb = 0 := rfl
theorem isqMake : IsFn fnqMake 14 codeqMake resqMake := ⟨⟨Tryz.f14, _, Tryz.func14, rfl, rfl, by kernel_rfl, by kernel_rfl, by kernel_rfl⟩⟩
noncomputable def fnpSame : FnD := ⟨Tryz.prog, [0, 1, 2, 3, 4], [], 17, 0, false⟩
def codepSame : DC := (.seq (.reg [⟨.x 2, .box (.x 0), none⟩,⟨.x 3, .box (.x 1), none⟩,⟨.x 4, .mv (.c (.bool false)), none⟩]) (.seq (.reg [⟨.t 5, .fad 0 (.x 2), none⟩,⟨.t 6, .ldn 2 (.t 5), none⟩,⟨.t 7, .fad 0 (.x 3), none⟩,⟨.t 8, .ldn 2 (.t 7), none⟩,⟨.t 9, .call 27 [(.t 6), (.t 8)], none⟩,⟨.t 10, .mv (.t 9), none⟩,⟨.t 11, .fad 2 (.x 2), (some ((.t 10), true))⟩,⟨.t 12, .ld (.t 11), (some ((.t 10), true))⟩,⟨.t 13, .fad 2 (.x 3), (some ((.t 10), true))⟩,⟨.t 14, .ld (.t 13), (some ((.t 10), true))⟩,⟨.t 15, .call 59 [(.t 12), (.t 14)], (some ((.t 10), true))⟩,⟨.t 16, .pick (.t 10) (.t 15) (.c (.bool false)), none⟩,⟨.x 4, .mv (.t 16), none⟩]) .ret))
def respSame : List RV := [.t 4]
theorem nbpSame : fnpSame.nb = 0 := rfl
theorem ispSame : IsFn fnpSame 16 codepSame respSame := ⟨⟨Tryz.f16, _, Tryz.func16, rfl, rfl, by kernel_rfl, by kernel_rfl, by kernel_rfl⟩⟩
noncomputable def fnmdLight : FnD := ⟨Tryz.prog, [0, 1, 2], [], 14, 0, false⟩
def codemdLight : DC := (.seq (.reg [⟨.x 1, .box (.x 0), none⟩,⟨.x 2, .mv (.c (.bool false)), none⟩]) (.seq (.reg [⟨.t 3, .fad 0 (.x 1), none⟩,⟨.t 4, .fad 1 (.t 3), none⟩,⟨.t 5, .ld (.t 4), none⟩,⟨.t 6, .len 1 (.t 5), none⟩,⟨.t 7, .bin .leq (.t 6) (.c (.int .i64 8)), none⟩,⟨.t 8, .mv (.t 7), none⟩,⟨.t 9, .fad 2 (.x 1), (some ((.t 8), true))⟩,⟨.t 10, .ld (.t 9), (some ((.t 8), true))⟩,⟨.t 11, .len 1 (.t 10), (some ((.t 8), true))⟩,⟨.t 12, .bin .leq (.t 11) (.c (.int .i64 8)), (some ((.t 8), true))⟩,⟨.t 13, .pick (.t 8) (.t 12) (.c (.bool false)), none⟩,⟨.x 2, .mv (.t 13), none⟩]) .ret))
def resmdLight : List RV := [.t 2]
theorem nbmdLight : fnmdLight.nb = 0 := rfl
theorem ismdLight : IsFn fnmdLight 17 codemdLight resmdLight := ⟨⟨Tryz.f17, _, Tryz.func17, rfl, rfl, by kernel_rfl, by kernel_rfl, by kernel_rfl⟩⟩
noncomputable def fnqParse : FnD := ⟨Tryz.prog, [0, 2, 3, 4, 5, 6, 19], [], 31, 0, false⟩
def codeqParse : DC := (.seq (.reg [⟨.x 2, .alloc [(.bool false), .nils, .nils], none⟩,⟨.x 3, .mv (.c (.bool false)), none⟩]) (.seq (.reg [⟨.t 8, .mv (.x 0), none⟩,⟨.t 9, .call 60 [(.t 8), (.c (.str [45]))], none⟩,⟨.t 7, .mv (.t 9), none⟩,⟨.t 10, .ext (.t 7) 0, none⟩,⟨.t 11, .ext (.t 7) 1, none⟩,⟨.x 0, .mv (.t 10), none⟩,⟨.x 4, .mv (.t 11), none⟩]) (.seq (.reg [⟨.t 13, .mv (.x 0), none⟩,⟨.t 14, .call 61 [(.t 13)], none⟩,⟨.t 12, .mv (.t 14), none⟩,⟨.t 15, .ext (.t 12) 0, none⟩,⟨.t 16, .ext (.t 12) 1, none⟩,⟨.t 17, .ext (.t 12) 2, none⟩,⟨.x 5, .mv (.t 15), none⟩,⟨.x 6, .mv (.t 16), none⟩,⟨.x 3, .mv (.t 17), none⟩]) (.seq (.seq (.reg [⟨.t 18, .mv (.x 3), none⟩,⟨.x 19, .un .not (.t 18), none⟩]) (.cond (.x 19) (.seq (.reg [⟨.t 20, .build [(.bool false), .nils, .nils] [], none⟩,⟨.no, .stn 3 (.x 2) (.t 20), none⟩,⟨.x 3, .mv (.c (.bool false)), none⟩]) .ret) .skip)) (.seq (.reg [⟨.t 21, .mv (.x 4), none⟩,⟨.t 22, .mv (.t 21), none⟩,⟨.t 23, .mv (.x 5), (some ((.t 22), true))⟩,⟨.t 24, .len 1 (.t 23), (some ((.t 22), true))⟩,⟨.t 25, .bin .gtr (.t 24) (.c (.int .i64 0)), (some ((.t 22), true))⟩,⟨.t 26, .pick (.t 22) (.t 25) (.c (.bool false)), none⟩,⟨.t 27, .mv (.x 5), none⟩,⟨.t 28, .build [(.bool false), .nils] [(0, 1, (.t 26)), (1, 1, (.t 27))], none⟩,⟨.t 29, .mv (.x 6), none⟩,⟨.t 30, .call 56 [(.t 28), (.t 29)], none⟩,⟨.no, .stn 3 (.x 2) (.t 30), none⟩,⟨.x 3, .mv (.c (.bool true)), none⟩]) .ret)))))
def resqParse : List RV := [.cn 3 2, .t 3]
theorem nbqParse : fnqParse.nb = 0 := rfl
theorem isqParse : IsFn fnqParse 18 codeqParse resqParse := ⟨⟨Tryz.f18, _, Tryz.func18, rfl, rfl, by kernel_rfl, by kernel_rfl, by kernel_rfl⟩⟩
noncomputable def fnqFormat : FnD := ⟨Tryz.prog, [0, 1, 2, 3, 12], [], 20, 0, false⟩
def codeqFormat : DC := (.seq (.reg [⟨.x 1, .box (.x 0), none⟩,⟨.x 2, .mv (.c (.str [])), none⟩]) (.seq (.reg [⟨.t 4, .ldn 3 (.x 1), none⟩,⟨.t 5, .call 67 [(.t 4)], none⟩,⟨.no, .stn 3 (.x 1) (.t 5), none⟩]) (.seq (.reg [⟨.t 6, .fad 0 (.x 1), none⟩,⟨.t 7, .ldn 2 (.t 6), none⟩,⟨.t 8, .call 68 [(.t 7)], none⟩,⟨.x 3, .mv (.t 8), none⟩]) (.seq (.seq (.reg [⟨.t 9, .fad 2 (.x 1), none⟩,⟨.t 10, .ld (.t 9), none⟩,⟨.t 11, .len 1 (.t 10), none⟩,⟨.x 12, .bin .gtr (.t 11) (.c (.int .i64 0)), none⟩]) (.cond (.x 12) (.reg [⟨.t 13, .mv (.x 3), none⟩,⟨.t 14, .fad 2 (.x 1), none⟩,⟨.t 15, .ld (.t 14), none⟩,⟨.t 16, .call 69 [(.t 15)], none⟩,⟨.t 17, .bin .add (.c (.str [47])) (.t 16), none⟩,⟨.t 18, .bin .add (.t 13) (.t 17), none⟩,⟨.x 3, .mv (.t 18), none⟩]) .skip)) (.seq (.reg [⟨.t 19, .mv (.x 3), none⟩,⟨.x 2, .mv (.t 19), none⟩]) .ret)))))
def resqFormat : List RV := [.t 2]
theorem nbqFormat : fnqFormat.nb = 0 := rfl
theorem isqFormat : IsFn fnqFormat 20 codeqFormat resqFormat := ⟨⟨Tryz.f20, _, Tryz.func20, rfl, rfl, by kernel_rfl, by kernel_rfl, by kernel_rfl⟩⟩
noncomputable def fnpFormat : FnD := ⟨Tryz.prog, [0, 1, 2, 8], [], 20, 0, false⟩
def codepFormat : DC := (.seq (.reg [⟨.x 1, .box (.x 0), none⟩,⟨.x 2, .mv (.c (.str [])), none⟩]) (.seq (.reg [⟨.t 3, .ldn 3 (.x 1), none⟩,⟨.t 4, .call 70 [(.t 3)], none⟩,⟨.no, .stn 3 (.x 1) (.t 4), none⟩]) (.seq (.seq (.reg [⟨.t 5, .fad 2 (.x 1), none⟩,⟨.t 6, .ld (.t 5), none⟩,⟨.t 7, .len 1 (.t 6), none⟩,⟨.x 8, .bin .eql (.t 7) (.c (.int .i64 0)), none⟩]) (.cond (.x 8) (.seq (.reg [⟨.t 9, .fad 0 (.x 1), none⟩,⟨.t 10, .ldn 2 (.t 9), none⟩,⟨.t 11, .call 71 [(.t 10)], none⟩,⟨.x 2, .mv (.t 11), none⟩]) .ret) .skip)) (.seq (.regd [⟨.t 12, .fad 0 (.x 1), none⟩,⟨.t 13, .ldn 2 (.t 12), none⟩,⟨.t 14, .call 71 [(.t 13)], none⟩,⟨.t 15, .bin .add (.t 14) (.c (.str [47])), none⟩,⟨.t 16, .fad 2 (.x 1), none⟩,⟨.t 17, .ld (.t 16), none⟩,⟨.t 18, .call 72 [(.t 17)], none⟩,⟨.t 19, .bin .add (.t 15) (.t 18), none⟩,⟨.x 2, .mv (.t 19), none⟩]) .ret))))
def respFormat : List RV := [.t 2]
theorem nbpFormat : fnpFormat.nb = 0 := rfl
theorem ispFormat : IsFn fnpFormat 21 codepFormat respFormat := ⟨⟨Tryz.f21, _, Tryz.func21, rfl, rfl, by kernel_rfl, by kernel_rfl, by kernel_rfl⟩⟩
noncomputable def fnqDecimal : FnD := ⟨Tryz.prog, [0, 1, 2, 4, 5, 6, 8, 9, 10, 16, 55, 67, 73, 95], [], 99, 0, false⟩
def codeqDecimal : DC := (.seq (.reg [⟨.x 2, .box (.x 0), none⟩,⟨.x 4, .mv (.c (.str [])), none⟩]) (.seq (.seq (.reg [⟨.t 11, .mv (.x 1), none⟩,⟨.t 12, .bin .lss (.t 11) (.c (.int .i64 0)), none⟩,⟨.t 13, .mv (.t 12), none⟩,⟨.t 14, .mv (.x 1), (some ((.t 13), false))⟩,⟨.t 15, .bin .gtr (.t 14) (.c (.int .i64 100)), (some ((.t 13), false))⟩,⟨.x 16, .pick (.t 13) (.c (.bool true)) (.t 15), none⟩]) (.cond (.x 16) (.seq (.reg [⟨.x 4, .mv (.c (.str [])), none⟩]) .ret) .skip)) (.seq (.reg [⟨.t 17, .ldn 3 (.x 2), none⟩,⟨.t 18, .call 67 [(.t 17)], none⟩,⟨.no, .stn 3 (.x 2) (.t 18), none⟩]) (.seq (.regd [⟨.t 20, .fad 0 (.x 2), none⟩,⟨.t 21, .fad 1 (.t 20), none⟩,⟨.t 22, .ld (.t 21), none⟩,⟨.t 23, .mv (.x 1), none⟩,⟨.t 24, .call 75 [(.t 23)], none⟩,⟨.t 25, .call 74 [(.t 22), (.t 24)], none⟩,⟨.t 26, .ldn 3 (.x 2), none⟩,⟨.t 27, .call 76 [(.t 26)], none⟩,⟨.t 28, .call 73 [(.t 25), (.t 27)], none⟩,⟨.t 19, .mv (.t 28), none⟩,⟨.t 29, .ext (.t 19) 0, none⟩,⟨.t 30, .ext (.t 19) 1, none⟩,⟨.t 31, .ext (.t 19) 2, none⟩,⟨.x 5, .mv (.t 29), none⟩,⟨.x 6, .mv (.t 30), none⟩,⟨.t 7, .mv (.t 31), none⟩]) (.seq (.regd [⟨.t 32, .mv (.x 6), none⟩,⟨.t 33, .mv (.x 6), none⟩,⟨.t 34, .call 78 [(.t 32), (.t 33)], none⟩,⟨.t 35, .ldn 3 (.x 2), none⟩,⟨.t 36, .call 76 [(.t 35)], none⟩,⟨.t 37, .call 77 [(.t 34), (.t 36)], none⟩,⟨.x 8, .mv (.t 37), none⟩]) (.seq (.seq (.reg [⟨.t 38, .mv (.x 8), none⟩,⟨.t 39, .bin .gtr (.t 38) (.c (.int .i64 0)), none⟩,⟨.t 40, .mv (.t 39), none⟩,⟨.t 41, .mv (.x 8), (some ((.t 40), false))⟩,⟨.t 42, .bin .eql (.t 41) (.c (.int .i64 0)), (some ((.t 40), false))⟩,⟨.t 43, .mv (.t 42), (some ((.t 40), false))⟩,⟨.t 44, .mv (.x 5), (some ((.t 43), true))⟩,⟨.t 45, .len 1 (.t 44), (some ((.t 43), true))⟩,⟨.t 46, .bin .gtr (.t 45) (.c (.int .i64 0)), (some ((.t 43), true))⟩,⟨.t 47, .pick (.t 43) (.t 46) (.c (.bool false)), (some ((.t 40), false))⟩,⟨.t 48, .mv (.t 47), (some ((.t 40), false))⟩,⟨.t 49, .mv (.x 5), (some ((.t 48), true))⟩,⟨.t 50, .iad 1 (.t 49) (.c (.int .i64 0)), (some ((.t 48), true))⟩,⟨.t 51, .ld (.t 50), (some ((.t 48), true))⟩,⟨.t 52, .bin .rem (.t 51) (.c (.int .u32 2)), (some ((.t 48), true))⟩,⟨.t 53, .bin .eql (.t 52) (.c (.int .u32 1)), (some ((.t 48), true))⟩,⟨.t 54, .pick (.t 48) (.t 53) (.c (.bool false)), (some ((.t 40), false))⟩,⟨.x 55, .pick (.t 40) (.c (.bool true)) (.t 54), none⟩]) (.cond (.x 55) (.reg [⟨.t 56, .mv (.x 5), none⟩,⟨.t 57, .call 79 [], none⟩,⟨.t 58, .call 78 [(.t 56), (.t 57)], none⟩,⟨.x 5, .mv (.t 58), none⟩]) .skip)) (.seq (.reg [⟨.t 59, .mv (.x 5), none⟩,⟨.t 60, .call 69 [(.t 59)], none⟩,⟨.x 9, .mv (.t 60), none⟩]) (.seq (.seq (.reg [⟨.t 61, .mv (.x 1), none⟩,⟨.t 62, .bin .add (.t 61) (.c (.int .i64 1)), none⟩,⟨.t 63, .mv (.x 9), none⟩,⟨.t 64, .lenS (.t 63), none⟩,⟨.t 65, .bin .sub (.t 62) (.t 64), none⟩,⟨.x 10, .mv (.t 65), none⟩]) (.seq (.reg [⟨.t 66, .mv (.x 10), none⟩,⟨.x 67, .bin .gtr (.t 66) (.c (.int .i64 0)), none⟩]) (.cond (.x 67) (.reg [⟨.t 68, .mv (.x 10), none⟩,⟨.t 69, .call 80 [(.c (.str [48])), (.t 68)], none⟩,⟨.t 70, .mv (.x 9), none⟩,⟨.t 71, .bin .add (.t 69) (.t 70), none⟩,⟨.x 9, .mv (.t 71), none⟩]) .skip))) (.seq (.seq (.reg [⟨.t 72, .mv (.x 1), none⟩,⟨.x 73, .bin .gtr (.t 72) (.c (.int .i64 0)), none⟩]) (.cond (.x 73) (.regd [⟨.t 74, .mv (.x 9), none⟩,⟨.t 75, .mv (.x 9), none⟩,⟨.t 76, .lenS (.t 75), none⟩,⟨.t 77, .mv (.x 1), none⟩,⟨.t 78, .bin .sub (.t 76) (.t 77), none⟩,⟨.t 79, .slcS (.t 74) none (some (.t 78)), none⟩,⟨.t 80, .bin .add (.t 79) (.c (.str [46])), none⟩,⟨.t 81, .mv (.x 9), none⟩,⟨.t 82, .mv (.x 9), none⟩,⟨.t 83, .lenS (.t 82), none⟩,⟨.t 84, .mv (.x 1), none⟩,⟨.t 85, .bin .sub (.t 83) (.t 84), none⟩,⟨.t 86, .slcS (.t 81) (some (.t 85)) none, none⟩,⟨.t 87, .bin .add (.t 80) (.t 86), none⟩,⟨.x 9, .mv (.t 87), none⟩]) .skip)) (.seq (.seq (.reg [⟨.t 88, .fad 0 (.x 2), none⟩,⟨.t 89, .fad 0 (.t 88), none⟩,⟨.t 90, .ld (.t 89), none⟩,⟨.t 91, .mv (.t 90), none⟩,⟨.t 92, .mv (.x 5), (some ((.t 91), true))⟩,⟨.t 93, .len 1 (.t 92), (some ((.t 91), true))⟩,⟨.t 94, .bin .gtr (.t 93) (.c (.int .i64 0)), (some ((.t 91), true))⟩,⟨.x 95, .pick (.t 91) (.t 94) (.c (.bool false)), none⟩]) (.cond (.x 95) (.reg [⟨.t 96, .mv (.x 9), none⟩,⟨.t 97, .bin .add (.c (.str [45])) (.t 96), none⟩,⟨.x 9, .mv (.t 97), none⟩]) .skip)) (.seq (.reg [⟨.t 98, .mv (.x 9), none⟩,⟨.x 4, .mv (.t 98), none⟩]) .ret)))))))))))
def resqDecimal : List RV := [.t 4]
theorem nbqDecimal : fnqDecimal.nb = 0 := rfl
theorem isqDecimal : IsFn fnqDecimal 22 codeqDecimal resqDecimal := ⟨⟨Tryz.f22, _, Tryz.func22, rfl, rfl, by kernel_rfl, by kernel_rfl, by kernel_rfl⟩⟩
noncomputable def fnqValid : FnD := ⟨Tryz.prog, [0, 1, 2, 3, 14, 19], [], 41, 0, false⟩
def codeqValid : DC := (.seq (.reg [⟨.x 1, .box (.x 0), none⟩,⟨.x 2, .mv (.c (.bool false)), none⟩]) (.seq (.block 0 (.seq (.reg [⟨.t 4, .fad 0 (.x 1), none⟩,⟨.t 5, .ldn 2 (.t 4), none⟩,⟨.t 6, .call 85 [(.t 5)], none⟩,⟨.t 7, .un .not (.t 6), none⟩,⟨.t 8, .mv (.t 7), none⟩,⟨.t 9, .fad 2 (.x 1), (some ((.t 8), false))⟩,⟨.t 10, .ld (.t 9), (some ((.t 8), false))⟩,⟨.t 11, .call 86 [(.t 10)], (some ((.t 8), false))⟩,⟨.t 12, .un .not (.t 11), (some ((.t 8), false))⟩,⟨.t 13, .pick (.t 8) (.c (.bool true)) (.t 12), none⟩,⟨.x 3, .mv (.t 13), none⟩]) (.cond (.x 3) (.seq (.reg [⟨.x 2, .mv (.c (.bool false)), none⟩]) .ret) (.seq (.reg [⟨.t 15, .fad 2 (.x 1), none⟩,⟨.t 16, .ld (.t 15), none⟩,⟨.t 17, .len 1 (.t 16), none⟩,⟨.t 18, .bin .eql (.t 17) (.c (.int .i64 0)), none⟩,⟨.x 14, .mv (.t 18), none⟩]) (.cond (.x 14) (.seq (.reg [⟨.x 2, .mv (.c (.bool true)), none⟩]) .ret) (.seq (.regd [⟨.t 20, .fad 0 (.x 1), none⟩,⟨.t 21, .fad 1 (.t 20), none⟩,⟨.t 22, .ld (.t 21), none⟩,⟨.t 23, .len 1 (.t 22), none⟩,⟨.t 24, .bin .eql (.t 23) (.c (.int .i64 0)), none⟩,⟨.t 25, .mv (.t 24), none⟩,⟨.t 26, .fad 2 (.x 1), (some ((.t 25), false))⟩,⟨.t 27, .ld (.t 26), (some ((.t 25), false))⟩,⟨.t 28, .call 79 [], (some ((.t 25), false))⟩,⟨.t 29, .call 77 [(.t 27), (.t 28)], (some ((.t 25), false))⟩,⟨.t 30, .bin .eql (.t 29) (.c (.int .i64 0)), (some ((.t 25), false))⟩,⟨.t 31, .pick (.t 25) (.c (.bool true)) (.t 30), none⟩,⟨.x 19, .mv (.t 31), none⟩]) (.cond (.x 19) (.seq (.reg [⟨.x 2, .mv (.c (.bool false)), none⟩]) .ret) .skip))))))) (.seq (.reg [⟨.t 32, .fad 0 (.x 1), none⟩,⟨.t 33, .fad 1 (.t 32), none⟩,⟨.t 34, .ld (.t 33), none⟩,⟨.t 35, .fad 2 (.x 1), none⟩,⟨.t 36, .ld (.t 35), none⟩,⟨.t 37, .call 87 [(.t 34), (.t 36)], none⟩,⟨.t 38, .call 79 [], none⟩,⟨.t 39, .call 77 [(.t 37), (.t 38)], none⟩,⟨.t 40, .bin .eql (.t 39) (.c (.int .i64 0)), none⟩,⟨.x 2, .mv (.t 40), none⟩]) .ret)))
def resqValid : List RV := [.t 2]
theorem nbqValid : fnqValid.nb = 0 := rfl
theorem isqValid : IsFn fnqValid 26 codeqValid resqValid := ⟨⟨Tryz.f26, _, Tryz.func26, rfl, rfl, by kernel_rfl, by kernel_rfl, by kernel_rfl⟩⟩
noncomputable def fnpDen : FnD := ⟨Tryz.prog, [0, 1, 2, 6], [], 13, 0, false⟩
def codepDen : DC := (.seq (.reg [⟨.x 1, .box (.x 0), none⟩,⟨.x 2, .alloc [(.bool false), .nils], none⟩]) (.seq (.seq (.reg [⟨.t 3, .fad 2 (.x 1), none⟩,⟨.t 4, .ld (.t 3), none⟩,⟨.t 5, .len 1 (.t 4), none⟩,⟨.x 6, .bin .eql (.t 5) (.c (.int .i64 0)), none⟩]) (.cond (.x 6) (.seq (.reg [⟨.t 7, .bsl 1 [(.int .u32 0)] [(0, 1, (.c (.int .u32 1)))], none⟩,⟨.t 8, .build [(.bool false), .nils] [(1, 1, (.t 7))], none⟩,⟨.no, .stn 2 (.x 2) (.t 8), none⟩]) .ret) .skip)) (.seq (.reg [⟨.t 9, .fad 2 (.x 1), none⟩,⟨.t 10, .ld (.t 9), none⟩,⟨.t 11, .call 89 [(.t 10)], none⟩,⟨.t 12, .build [(.bool false), .nils] [(1, 1, (.t 11))], none⟩,⟨.no, .stn 2 (.x 2) (.t 12), none⟩]) .ret)))
def respDen : List RV := [.cn 2 2]
theorem nbpDen : fnpDen.nb = 0 := rfl
theorem ispDen : IsFn fnpDen 29 codepDen respDen := ⟨⟨Tryz.f29, _, Tryz.func29, rfl, rfl, by kernel_rfl, by kernel_rfl, by kernel_rfl⟩⟩
noncomputable def fnpValid : FnD := ⟨Tryz.prog, [0, 1, 2, 17], [], 38, 0, false⟩
def codepValid : DC := (.seq (.reg [⟨.x 1, .box (.x 0), none⟩,⟨.x 2, .mv (.c (.bool false)), none⟩]) (.seq (.seq (.reg [⟨.t 3, .fad 0 (.x 1), none⟩,⟨.t 4, .ldn 2 (.t 3), none⟩,⟨.t 5, .call 88 [(.t 4)], none⟩,⟨.t 6, .un .not (.t 5), none⟩,⟨.t 7, .mv (.t 6), none⟩,⟨.t 8, .fad 2 (.x 1), (some ((.t 7), false))⟩,⟨.t 9, .ld (.t 8), (some ((.t 7), false))⟩,⟨.t 10, .call 90 [(.t 9)], (some ((.t 7), false))⟩,⟨.t 11, .un .not (.t 10), (some ((.t 7), false))⟩,⟨.t 12, .pick (.t 7) (.c (.bool true)) (.t 11), none⟩,⟨.t 13, .mv (.t 12), none⟩,⟨.t 14, .fad 2 (.x 1), (some ((.t 13), false))⟩,⟨.t 15, .ld (.t 14), (some ((.t 13), false))⟩,⟨.t 16, .call 91 [(.t 15)], (some ((.t 13), false))⟩,⟨.x 17, .pick (.t 13) (.c (.bool true)) (.t 16), none⟩]) (.cond (.x 17) (.seq (.reg [⟨.x 2, .mv (.c (.bool false)), none⟩]) .ret) .skip)) (.seq (.reg [⟨.t 18, .fad 2 (.x 1), none⟩,⟨.t 19, .ld (.t 18), none⟩,⟨.t 20, .len 1 (.t 19), none⟩,⟨.t 21, .bin .eql (.t 20) (.c (.int .i64 0)), none⟩,⟨.t 22, .mv (.t 21), none⟩,⟨.t 23, .fad 0 (.x 1), (some ((.t 22), false))⟩,⟨.t 24, .fad 1 (.t 23), (some ((.t 22), false))⟩,⟨.t 25, .ld (.t 24), (some ((.t 22), false))⟩,⟨.t 26, .len 1 (.t 25), (some ((.t 22), false))⟩,⟨.t 27, .bin .gtr (.t 26) (.c (.int .i64 0)), (some ((.t 22), false))⟩,⟨.t 28, .mv (.t 27), (some ((.t 22), false))⟩,⟨.t 29, .fad 0 (.x 1), (some ((.t 28), true))⟩,⟨.t 30, .fad 1 (.t 29), (some ((.t 28), true))⟩,⟨.t 31, .ld (.t 30), (some ((.t 28), true))⟩,⟨.t 32, .fad 2 (.x 1), (some ((.t 28), true))⟩,⟨.t 33, .ld (.t 32), (some ((.t 28), true))⟩,⟨.t 34, .call 92 [(.t 31), (.t 33)], (some ((.t 28), true))⟩,⟨.t 35, .call 91 [(.t 34)], (some ((.t 28), true))⟩,⟨.t 36, .pick (.t 28) (.t 35) (.c (.bool false)), (some ((.t 22), false))⟩,⟨.t 37, .pick (.t 22) (.c (.bool true)) (.t 36), none⟩,⟨.x 2, .mv (.t 37), none⟩]) .ret)))
def respValid : List RV := [.t 2]
theorem nbpValid : fnpValid.nb = 0 := rfl
theorem ispValid : IsFn fnpValid 30 codepValid respValid := ⟨⟨Tryz.f30, _, Tryz.func30, rfl, rfl, by kernel_rfl, by kernel_rfl, by kernel_rfl⟩⟩
noncomputable def fnpAdd : FnD := ⟨Tryz.prog, [0, 1, 2, 3, 4], [], 26, 0, false⟩
def codepAdd : DC := (.seq (.reg [⟨.x 2, .box (.x 0), none⟩,⟨.x 3, .box (.x 1), none⟩,⟨.x 4, .alloc [(.bool false), .nils, .nils], none⟩]) (.seq (.regd [⟨.t 5, .ldn 3 (.x 2), none⟩,⟨.t 6, .call 70 [(.t 5)], none⟩,⟨.t 7, .ldn 3 (.x 3), none⟩,⟨.t 8, .call 70 [(.t 7)], none⟩,⟨.no, .stn 3 (.x 2) (.t 6), none⟩,⟨.no, .stn 3 (.x 3) (.t 8), none⟩]) (.seq (.regd [⟨.t 9, .fad 0 (.x 2), none⟩,⟨.t 10, .ldn 2 (.t 9), none⟩,⟨.t 11, .ldn 3 (.x 3), none⟩,⟨.t 12, .call 29 [(.t 11)], none⟩,⟨.t 13, .call 25 [(.t 10), (.t 12)], none⟩,⟨.t 14, .fad 0 (.x 3), none⟩,⟨.t 15, .ldn 2 (.t 14), none⟩,⟨.t 16, .ldn 3 (.x 2), none⟩,⟨.t 17, .call 29 [(.t 16)], none⟩,⟨.t 18, .call 25 [(.t 15), (.t 17)], none⟩,⟨.t 19, .call 82 [(.t 13), (.t 18)], none⟩,⟨.t 20, .ldn 3 (.x 2), none⟩,⟨.t 21, .call 29 [(.t 20)], none⟩,⟨.t 22, .ldn 3 (.x 3), none⟩,⟨.t 23, .call 29 [(.t 22)], none⟩,⟨.t 24, .call 25 [(.t 21), (.t 23)], none⟩,⟨.t 25, .call 58 [(.t 19), (.t 24)], none⟩,⟨.no, .stn 3 (.x 4) (.t 25), none⟩]) .ret)))
def respAdd : List RV := [.cn 3 4]
theorem nbpAdd : fnpAdd.nb = 0 := rfl
theorem ispAdd : IsFn fnpAdd 34 codepAdd respAdd := ⟨⟨Tryz.f34, _, Tryz.func34, rfl, rfl, by kernel_rfl, by kernel_rfl, by kernel_rfl⟩⟩
noncomputable def fnpSub : FnD := ⟨Tryz.prog, [0, 1, 2, 3, 4], [], 9, 0, false⟩
def codepSub : DC := (.seq (.reg [⟨.x 2, .box (.x 0), none⟩,⟨.x 3, .box (.x 1), none⟩,⟨.x 4, .alloc [(.bool false), .nils, .nils], none⟩]) (.seq (.regd [⟨.t 5, .ldn 3 (.x 2), none⟩,⟨.t 6, .ldn 3 (.x 3), none⟩,⟨.t 7, .call 49 [(.t 6)], none⟩,⟨.t 8, .call 34 [(.t 5), (.t 7)], none⟩,⟨.no, .stn 3 (.x 4) (.t 8), none⟩]) .ret))
def respSub : List RV := [.cn 3 4]
theorem nbpSub : fnpSub.nb = 0 := rfl
theorem ispSub : IsFn fnpSub 36 codepSub respSub := ⟨⟨Tryz.f36, _, Tryz.func36, rfl, rfl, by kernel_rfl, by kernel_rfl, by kernel_rfl⟩⟩
noncomputable def fnpMul : FnD := ⟨Tryz.prog, [0, 1, 2, 3, 4], [], 20, 0, false⟩
def codepMul : DC := (.seq (.reg [⟨.x 2, .box (.x 0), none⟩,⟨.x 3, .box (.x 1), none⟩,⟨.x 4, .alloc [(.bool false), .nils, .nils], none⟩]) (.seq (.regd [⟨.t 5, .ldn 3 (.x 2), none⟩,⟨.t 6, .call 70 [(.t 5)], none⟩,⟨.t 7, .ldn 3 (.x 3), none⟩,⟨.t 8, .call 70 [(.t 7)], none⟩,⟨.no, .stn 3 (.x 2) (.t 6), none⟩,⟨.no, .stn 3 (.x 3) (.t 8), none⟩]) (.seq (.regd [⟨.t 9, .fad 0 (.x 2), none⟩,⟨.t 10, .ldn 2 (.t 9), none⟩,⟨.t 11, .fad 0 (.x 3), none⟩,⟨.t 12, .ldn 2 (.t 11), none⟩,⟨.t 13, .call 25 [(.t 10), (.t 12)], none⟩,⟨.t 14, .ldn 3 (.x 2), none⟩,⟨.t 15, .call 29 [(.t 14)], none⟩,⟨.t 16, .ldn 3 (.x 3), none⟩,⟨.t 17, .call 29 [(.t 16)], none⟩,⟨.t 18, .call 25 [(.t 15), (.t 17)], none⟩,⟨.t 19, .call 58 [(.t 13), (.t 18)], none⟩,⟨.no, .stn 3 (.x 4) (.t 19), none⟩]) .ret)))
def respMul : List RV := [.cn 3 4]
theorem nbpMul : fnpMul.nb = 0 := rfl
theorem ispMul : IsFn fnpMul 38 codepMul respMul := ⟨⟨Tryz.f38, _, Tryz.func38, rfl, rfl, by kernel_rfl, by kernel_rfl, by kernel_rfl⟩⟩
noncomputable def fnpSign : FnD := ⟨Tryz.prog, [0, 1, 2], [], 7, 0, false⟩
def codepSign : DC := (.seq (.reg [⟨.x 1, .box (.x 0), none⟩,⟨.x 2, .mv (.c (.int .i64 0)), none⟩]) (.seq (.reg [⟨.t 3, .ldn 3 (.x 1), none⟩,⟨.t 4, .call 70 [(.t 3)], none⟩,⟨.t 5, .fldn 0 2 (.t 4), none⟩,⟨.t 6, .call 24 [(.t 5)], none⟩,⟨.x 2, .mv (.t 6), none⟩]) .ret))
def respSign : List RV := [.t 2]
theorem nbpSign : fnpSign.nb = 0 := rfl
theorem ispSign : IsFn fnpSign 40 codepSign respSign := ⟨⟨Tryz.f40, _, Tryz.func40, rfl, rfl, by kernel_rfl, by kernel_rfl, by kernel_rfl⟩⟩
noncomputable def fnpFromInt : FnD := ⟨Tryz.prog, [0, 2], [], 6, 0, false⟩
def codepFromInt : DC := (.seq (.reg [⟨.x 2, .alloc [(.bool false), .nils, .nils], none⟩]) (.seq (.reg [⟨.t 3, .mv (.x 0), none⟩,⟨.t 4, .call 83 [(.t 3)], none⟩,⟨.t 5, .build [(.bool false), .nils, .nils] [(0, 2, (.t 4))], none⟩,⟨.no, .stn 3 (.x 2) (.t 5), none⟩]) .ret))
def respFromInt : List RV := [.cn 3 2]
theorem nbpFromInt : fnpFromInt.nb = 0 := rfl
theorem ispFromInt : IsFn fnpFromInt 47 codepFromInt respFromInt := ⟨⟨Tryz.f47, _, Tryz.func47, rfl, rfl, by kernel_rfl, by kernel_rfl, by kernel_rfl⟩⟩
noncomputable def fnpNeg : FnD := ⟨Tryz.prog, [0, 1, 2], [], 11, 0, false⟩
def codepNeg : DC := (.seq (.reg [⟨.x 1, .box (.x 0), none⟩,⟨.x 2, .alloc [(.bool false), .nils, .nils], none⟩]) (.seq (.reg [⟨.t 3, .ldn 3 (.x 1), none⟩,⟨.t 4, .call 70 [(.t 3)], none⟩,⟨.no, .stn 3 (.x 1) (.t 4), none⟩]) (.seq (.regd [⟨.t 5, .fad 0 (.x 1), none⟩,⟨.t 6, .ldn 2 (.t 5), none⟩,⟨.t 7, .call 98 [(.t 6)], none⟩,⟨.t 8, .fad 2 (.x 1), none⟩,⟨.t 9, .ld (.t 8), none⟩,⟨.t 10, .build [(.bool false), .nils, .nils] [(0, 2, (.t 7)), (2, 1, (.t 9))], none⟩,⟨.no, .stn 3 (.x 2) (.t 10), none⟩]) .ret)))
def respNeg : List RV := [.cn 3 2]
theorem nbpNeg : fnpNeg.nb = 0 := rfl
theorem ispNeg : IsFn fnpNeg 49 codepNeg respNeg := ⟨⟨Tryz.f49, _, Tryz.func49, rfl, rfl, by kernel_rfl, by kernel_rfl, by kernel_rfl⟩⟩
noncomputable def fnpAbs : FnD := ⟨Tryz.prog, [0, 1, 2, 5], [], 10, 0, false⟩
def codepAbs : DC := (.seq (.reg [⟨.x 1, .box (.x 0), none⟩,⟨.x 2, .alloc [(.bool false), .nils, .nils], none⟩]) (.seq (.seq (.reg [⟨.t 3, .ldn 3 (.x 1), none⟩,⟨.t 4, .call 40 [(.t 3)], none⟩,⟨.x 5, .bin .lss (.t 4) (.c (.int .i64 0)), none⟩]) (.cond (.x 5) (.seq (.reg [⟨.t 6, .ldn 3 (.x 1), none⟩,⟨.t 7, .call 49 [(.t 6)], none⟩,⟨.no, .stn 3 (.x 2) (.t 7), none⟩]) .ret) .skip)) (.seq (.reg [⟨.t 8, .ldn 3 (.x 1), none⟩,⟨.t 9, .call 70 [(.t 8)], none⟩,⟨.no, .stn 3 (.x 2) (.t 9), none⟩]) .ret)))
def respAbs : List RV := [.cn 3 2]
theorem nbpAbs : fnpAbs.nb = 0 := rfl
theorem ispAbs : IsFn fnpAbs 50 codepAbs respAbs := ⟨⟨Tryz.f50, _, Tryz.func50, rfl, rfl, by kernel_rfl, by kernel_rfl, by kernel_rfl⟩⟩
noncomputable def fnpCompare : FnD := ⟨Tryz.prog, [0, 1, 2, 3, 4], [], 9, 0, false⟩
def codepCompare : DC := (.seq (.reg [⟨.x 2, .box (.x 0), none⟩,⟨.x 3, .box (.x 1), none⟩,⟨.x 4, .mv (.c (.int .i64 0)), none⟩]) (.seq (.reg [⟨.t 5, .ldn 3 (.x 2), none⟩,⟨.t 6, .ldn 3 (.x 3), none⟩,⟨.t 7, .call 36 [(.t 5), (.t 6)], none⟩,⟨.t 8, .call 40 [(.t 7)], none⟩,⟨.x 4, .mv (.t 8), none⟩]) .ret))
def respCompare : List RV := [.t 4]
theorem nbpCompare : fnpCompare.nb = 0 := rfl
theorem ispCompare : IsFn fnpCompare 51 codepCompare respCompare := ⟨⟨Tryz.f51, _, Tryz.func51, rfl, rfl, by kernel_rfl, by kernel_rfl, by kernel_rfl⟩⟩
noncomputable def fnpFloor : FnD := ⟨Tryz.prog, [0, 1, 2, 3], [], 18, 0, false⟩
def codepFloor : DC := (.seq (.reg [⟨.x 1, .box (.x 0), none⟩,⟨.x 2, .alloc [(.bool false), .nils], none⟩]) (.seq (.reg [⟨.t 6, .ldn 3 (.x 1), none⟩,⟨.t 7, .call 70 [(.t 6)], none⟩,⟨.no, .stn 3 (.x 1) (.t 7), none⟩]) (.seq (.regd [⟨.t 9, .fad 0 (.x 1), none⟩,⟨.t 10, .ldn 2 (.t 9), none⟩,⟨.t 11, .ldn 3 (.x 1), none⟩,⟨.t 12, .call 29 [(.t 11)], none⟩,⟨.t 13, .call 100 [(.t 10), (.t 12)], none⟩,⟨.t 8, .mv (.t 13), none⟩,⟨.t 14, .ext (.t 8) 0, none⟩,⟨.t 15, .ext (.t 8) 1, none⟩,⟨.t 16, .ext (.t 8) 2, none⟩,⟨.x 3, .alloc [(.bool false), .nils], none⟩,⟨.t 4, .alloc [(.bool false), .nils], none⟩,⟨.no, .stn 2 (.x 3) (.t 14), none⟩,⟨.no, .stn 2 (.t 4) (.t 15), none⟩,⟨.t 5, .mv (.t 16), none⟩]) (.seq (.reg [⟨.t 17, .ldn 2 (.x 3), none⟩,⟨.no, .stn 2 (.x 2) (.t 17), none⟩]) .ret))))
def respFloor : List RV := [.cn 2 2]
theorem nbpFloor : fnpFloor.nb = 0 := rfl
theorem ispFloor : IsFn fnpFloor 53 codepFloor respFloor := ⟨⟨Tryz.f53, _, Tryz.func53, rfl, rfl, by kernel_rfl, by kernel_rfl, by kernel_rfl⟩⟩
noncomputable def fnq_lowest : FnD := ⟨Tryz.prog, [0, 1, 2, 4, 5, 6, 31], [], 38, 0, false⟩
def codeq_lowest : DC := (.seq (.reg [⟨.x 2, .box (.x 0), none⟩,⟨.x 4, .alloc [(.bool false), .nils, .nils], none⟩]) (.seq (.reg [⟨.t 9, .fad 1 (.x 2), none⟩,⟨.t 10, .ld (.t 9), none⟩,⟨.t 11, .mv (.x 1), none⟩,⟨.t 12, .call 87 [(.t 10), (.t 11)], none⟩,⟨.x 5, .mv (.t 12), none⟩]) (.seq (.reg [⟨.t 14, .fad 1 (.x 2), none⟩,⟨.t 15, .ld (.t 14), none⟩,⟨.t 16, .mv (.x 5), none⟩,⟨.t 17, .call 73 [(.t 15), (.t 16)], none⟩,⟨.t 13, .mv (.t 17), none⟩,⟨.t 18, .ext (.t 13) 0, none⟩,⟨.t 19, .ext (.t 13) 1, none⟩,⟨.t 20, .ext (.t 13) 2, none⟩,⟨.x 6, .mv (.t 18), none⟩,⟨.t 7, .mv (.t 19), none⟩,⟨.t 8, .mv (.t 20), none⟩]) (.seq (.reg [⟨.t 22, .mv (.x 1), none⟩,⟨.t 23, .mv (.x 5), none⟩,⟨.t 24, .call 73 [(.t 22), (.t 23)], none⟩,⟨.t 21, .mv (.t 24), none⟩,⟨.t 25, .ext (.t 21) 0, none⟩,⟨.t 26, .ext (.t 21) 1, none⟩,⟨.t 27, .ext (.t 21) 2, none⟩,⟨.x 1, .mv (.t 25), none⟩]) (.seq (.seq (.reg [⟨.t 28, .mv (.x 1), none⟩,⟨.t 29, .call 79 [], none⟩,⟨.t 30, .call 77 [(.t 28), (.t 29)], none⟩,⟨.x 31, .bin .eql (.t 30) (.c (.int .i64 0)), none⟩]) (.cond (.x 31) (.reg [⟨.x 1, .mv (.c .nils), none⟩]) .skip)) (.seq (.reg [⟨.t 32, .fad 0 (.x 2), none⟩,⟨.t 33, .ld (.t 32), none⟩,⟨.t 34, .mv (.x 6), none⟩,⟨.t 35, .build [(.bool false), .nils] [(0, 1, (.t 33)), (1, 1, (.t 34))], none⟩,⟨.t 36, .mv (.x 1), none⟩,⟨.t 37, .build [(.bool false), .nils, .nils] [(0, 2, (.t 35)), (2, 1, (.t 36))], none⟩,⟨.no, .stn 3 (.x 4) (.t 37), none⟩]) .ret))))))
def resq_lowest : List RV := [.cn 3 4]
theorem nbq_lowest : fnq_lowest.nb = 0 := rfl
theorem isq_lowest : IsFn fnq_lowest 56 codeq_lowest resq_lowest := ⟨⟨Tryz.f56, _, Tryz.func56, rfl, rfl, by kernel_rfl, by kernel_rfl, by kernel_rfl⟩⟩
noncomputable def fnp_over : FnD := ⟨Tryz.prog, [0, 1, 2, 3, 4, 5, 6, 9, 14, 39], [], 45, 0, false⟩
def codep_over : DC := (.seq (.reg [⟨.x 2, .box (.x 0), none⟩,⟨.x 3, .box (.x 1), none⟩,⟨.x 4, .alloc [(.bool false), .nils, .nils], none⟩]) (.seq (.seq (.reg [⟨.t 12, .ldn 2 (.x 3), none⟩,⟨.t 13, .call 24 [(.t 12)], none⟩,⟨.x 14, .bin .lss (.t 13) (.c (.int .i64 0)), none⟩]) (.cond (.x 14) (.regd [⟨.t 15, .ldn 2 (.x 2), none⟩,⟨.t 16, .call 98 [(.t 15)], none⟩,⟨.t 17, .ldn 2 (.x 3), none⟩,⟨.t 18, .call 98 [(.t 17)], none⟩,⟨.no, .stn 2 (.x 2) (.t 16), none⟩,⟨.no, .stn 2 (.x 3) (.t 18), none⟩]) .skip)) (.seq (.reg [⟨.t 19, .ldn 2 (.x 2), none⟩,⟨.t 20, .ldn 2 (.x 3), none⟩,⟨.t 21, .call 105 [(.t 19), (.t 20)], none⟩,⟨.t 22, .build [(.bool false), .nils] [(1, 1, (.t 21))], none⟩,⟨.x 5, .alloc [(.bool false), .nils], none⟩,⟨.no, .stn 2 (.x 5) (.t 22), none⟩]) (.seq (.reg [⟨.t 24, .ldn 2 (.x 2), none⟩,⟨.t 25, .ldn 2 (.x 5), none⟩,⟨.t 26, .call 100 [(.t 24), (.t 25)], none⟩,⟨.t 23, .mv (.t 26), none⟩,⟨.t 27, .ext (.t 23) 0, none⟩,⟨.t 28, .ext (.t 23) 1, none⟩,⟨.t 29, .ext (.t 23) 2, none⟩,⟨.x 6, .alloc [(.bool false), .nils], none⟩,⟨.t 7, .alloc [(.bool false), .nils], none⟩,⟨.no, .stn 2 (.x 6) (.t 27), none⟩,⟨.no, .stn 2 (.t 7) (.t 28), none⟩,⟨.t 8, .mv (.t 29), none⟩]) (.seq (.reg [⟨.t 31, .ldn 2 (.x 3), none⟩,⟨.t 32, .ldn 2 (.x 5), none⟩,⟨.t 33, .call 100 [(.t 31), (.t 32)], none⟩,⟨.t 30, .mv (.t 33), none⟩,⟨.t 34, .ext (.t 30) 0, none⟩,⟨.t 35, .ext (.t 30) 1, none⟩,⟨.t 36, .ext (.t 30) 2, none⟩,⟨.x 9, .alloc [(.bool false), .nils], none⟩,⟨.t 10, .alloc [(.bool false), .nils], none⟩,⟨.no, .stn 2 (.x 9) (.t 34), none⟩,⟨.no, .stn 2 (.t 10) (.t 35), none⟩,⟨.t 11, .mv (.t 36), none⟩]) (.seq (.seq (.reg [⟨.t 37, .fad 1 (.x 9), none⟩,⟨.t 38, .ld (.t 37), none⟩,⟨.x 39, .call 91 [(.t 38)], none⟩]) (.cond (.x 39) (.reg [⟨.t 40, .fad 1 (.x 9), none⟩,⟨.no, .st (.t 40) (.c .nils), none⟩]) .skip)) (.seq (.reg [⟨.t 41, .ldn 2 (.x 6), none⟩,⟨.t 42, .fad 1 (.x 9), none⟩,⟨.t 43, .ld (.t 42), none⟩,⟨.t 44, .build [(.bool false), .nils, .nils] [(0, 2, (.t 41)), (2, 1, (.t 43))], none⟩,⟨.no, .stn 3 (.x 4) (.t 44), none⟩]) .ret)))))))
def resp_over : List RV := [.cn 3 4]
theorem nbp_over : fnp_over.nb = 0 := rfl
theorem isp_over : IsFn fnp_over 58 codep_over resp_over := ⟨⟨Tryz.f58, _, Tryz.func58, rfl, rfl, by kernel_rfl, by kernel_rfl, by kernel_rfl⟩⟩
noncomputable def fnq_unsigned : FnD := ⟨Tryz.prog, [0, 2, 3, 4, 5, 6, 7, 8, 9, 10, 11, 12, 14, 21, 46, 56, 88, 101], [], 115, 0, false⟩
def codeq_unsigned : DC := (.seq (.reg [⟨.x 2, .mv (.c .nils), none⟩,⟨.x 3, .mv (.c .nils), none⟩,⟨.x 4, .mv (.c (.bool false)), none⟩]) (.seq (.seq (.reg [⟨.t 16, .mv (.x 0), none⟩,⟨.t 17, .call 107 [(.t 16), (.c (.str [47]))], none⟩,⟨.t 15, .mv (.t 17), none⟩,⟨.t 18, .ext (.t 15) 0, none⟩,⟨.t 19, .ext (.t 15) 1, none⟩,⟨.t 20, .ext (.t 15) 2, none⟩,⟨.x 5, .mv (.t 18), none⟩,⟨.x 6, .mv (.t 19), none⟩,⟨.x 7, .mv (.t 20), none⟩]) (.seq (.reg [⟨.x 21, .mv (.x 7), none⟩]) (.cond (.x 21) (.seq (.reg [⟨.t 23, .mv (.x 5), none⟩,⟨.t 24, .call 108 [(.t 23)], none⟩,⟨.t 22, .mv (.t 24), none⟩,⟨.t 25, .ext (.t 22) 0, none⟩,⟨.t 26, .ext (.t 22) 1, none⟩,⟨.x 2, .mv (.t 25), none⟩,⟨.x 4, .mv (.t 26), none⟩]) (.seq (.reg [⟨.t 28, .mv (.x 6), none⟩,⟨.t 29, .call 108 [(.t 28)], none⟩,⟨.t 27, .mv (.t 29), none⟩,⟨.t 30, .ext (.t 27) 0, none⟩,⟨.t 31, .ext (.t 27) 1, none⟩,⟨.x 3, .mv (.t 30), none⟩,⟨.x 7, .mv (.t 31), none⟩]) (.seq (.reg [⟨.t 32, .mv (.x 2), none⟩,⟨.t 33, .mv (.x 3), none⟩,⟨.t 34, .mv (.x 4), none⟩,⟨.t 35, .mv (.t 34), none⟩,⟨.t 36, .mv (.x 7), (some ((.t 35), true))⟩,⟨.t 37, .pick (.t 35) (.t 36) (.c (.bool false)), none⟩,⟨.t 38, .mv (.t 37), none⟩,⟨.t 39, .mv (.x 3), (some ((.t 38), true))⟩,⟨.t 40, .len 1 (.t 39), (some ((.t 38), true))⟩,⟨.t 41, .bin .gtr (.t 40) (.c (.int .i64 0)), (some ((.t 38), true))⟩,⟨.t 42, .pick (.t 38) (.t 41) (.c (.bool false)), none⟩,⟨.x 2, .mv (.t 32), none⟩,⟨.x 3, .mv (.t 33), none⟩,⟨.x 4, .mv (.t 42), none⟩]) .ret))) .skip))) (.seq (.reg [⟨.x 8, .mv (.c (.int .i64 0)), none⟩]) (.seq (.seq (.reg [⟨.t 43, .mv (.x 0), none⟩,⟨.t 44, .call 109 [(.t 43), (.c (.str [101, 69]))], none⟩,⟨.x 9, .mv (.t 44), none⟩]) (.seq (.reg [⟨.t 45, .mv (.x 9), none⟩,⟨.x 46, .bin .geq (.t 45) (.c (.int .i64 0)), none⟩]) (.cond (.x 46) (.seq (.seq (.reg [⟨.t 48, .mv (.x 0), none⟩,⟨.t 49, .mv (.x 9), none⟩,⟨.t 50, .bin .add (.t 49) (.c (.int .i64 1)), none⟩,⟨.t 51, .slcS (.t 48) (some (.t 50)) none, none⟩,⟨.t 52, .call 110 [(.t 51)], none⟩,⟨.t 47, .mv (.t 52), none⟩,⟨.t 53, .ext (.t 47) 0, none⟩,⟨.t 54, .ext (.t 47) 1, none⟩,⟨.x 8, .mv (.t 53), none⟩,⟨.x 4, .mv (.t 54), none⟩]) (.seq (.reg [⟨.t 55, .mv (.x 4), none⟩,⟨.x 56, .un .not (.t 55), none⟩]) (.cond (.x 56) (.seq (.reg [⟨.x 2, .mv (.c .nils), none⟩,⟨.x 3, .mv (.c .nils), none⟩,⟨.x 4, .mv (.c (.bool false)), none⟩]) .ret) .skip))) (.reg [⟨.t 57, .mv (.x 0), none⟩,⟨.t 58, .mv (.x 9), none⟩,⟨.t 59, .slcS (.t 57) none (some (.t 58)), none⟩,⟨.x 0, .mv (.t 59), none⟩])) .skip))) (.seq (.reg [⟨.t 61, .mv (.x 0), none⟩,⟨.t 62, .call 107 [(.t 61), (.c (.str [46]))], none⟩,⟨.t 60, .mv (.t 62), none⟩,⟨.t 63, .ext (.t 60) 0, none⟩,⟨.t 64, .ext (.t 60) 1, none⟩,⟨.t 65, .ext (.t 60) 2, none⟩,⟨.x 10, .mv (.t 63), none⟩,⟨.x 11, .mv (.t 64), none⟩,⟨.x 12, .mv (.t 65), none⟩]) (.seq (.seq (.reg [⟨.t 67, .mv (.x 10), none⟩,⟨.t 68, .call 108 [(.t 67)], none⟩,⟨.t 66, .mv (.t 68), none⟩,⟨.t 69, .ext (.t 66) 0, none⟩,⟨.t 70, .ext (.t 66) 1, none⟩,⟨.t 13, .mv (.t 69), none⟩,⟨.x 14, .mv (.t 70), none⟩]) (.seq (.reg [⟨.t 71, .mv (.x 14), none⟩,⟨.t 72, .un .not (.t 71), none⟩,⟨.t 73, .mv (.t 72), none⟩,⟨.t 74, .mv (.x 12), (some ((.t 73), false))⟩,⟨.t 75, .mv (.t 74), (some ((.t 73), false))⟩,⟨.t 76, .mv (.x 11), (some ((.t 75), true))⟩,⟨.t 77, .call 111 [(.t 76)], (some ((.t 75), true))⟩,⟨.t 78, .un .not (.t 77), (some ((.t 75), true))⟩,⟨.t 79, .pick (.t 75) (.t 78) (.c (.bool false)), (some ((.t 73), false))⟩,⟨.t 80, .pick (.t 73) (.c (.bool true)) (.t 79), none⟩,⟨.t 81, .mv (.t 80), none⟩,⟨.t 82, .mv (.x 10), (some ((.t 81), false))⟩,⟨.t 83, .lenS (.t 82), (some ((.t 81), false))⟩,⟨.t 84, .mv (.x 11), (some ((.t 81), false))⟩,⟨.t 85, .lenS (.t 84), (some ((.t 81), false))⟩,⟨.t 86, .bin .add (.t 83) (.t 85), (some ((.t 81), false))⟩,⟨.t 87, .bin .gtr (.t 86) (.c (.int .i64 4000)), (some ((.t 81), false))⟩,⟨.x 88, .pick (.t 81) (.c (.bool true)) (.t 87), none⟩]) (.cond (.x 88) (.seq (.reg [⟨.x 2, .mv (.c .nils), none⟩,⟨.x 3, .mv (.c .nils), none⟩,⟨.x 4, .mv (.c (.bool false)), none⟩]) .ret) .skip))) (.seq (.reg [⟨.t 90, .mv (.x 10), none⟩,⟨.t 91, .mv (.x 11), none⟩,⟨.t 92, .bin .add (.t 90) (.t 91), none⟩,⟨.t 93, .call 112 [(.t 92)], none⟩,⟨.t 94, .call 108 [(.t 93)], none⟩,⟨.t 89, .mv (.t 94), none⟩,⟨.t 95, .ext (.t 89) 0, none⟩,⟨.t 96, .ext (.t 89) 1, none⟩,⟨.x 2, .mv (.t 95), none⟩,⟨.x 4, .mv (.t 96), none⟩]) (.seq (.reg [⟨.t 97, .mv (.x 11), none⟩,⟨.t 98, .lenS (.t 97), none⟩,⟨.t 99, .call 75 [(.t 98)], none⟩,⟨.x 3, .mv (.t 99), none⟩]) (.seq (.seq (.reg [⟨.t 100, .mv (.x 8), none⟩,⟨.x 101, .bin .lss (.t 100) (.c (.int .i64 0)), none⟩]) (.cond (.x 101) (.seq (.reg [⟨.t 102, .mv (.x 2), none⟩,⟨.t 103, .mv (.x 3), none⟩,⟨.t 104, .mv (.x 8), none⟩,⟨.t 105, .un .neg (.t 104), none⟩,⟨.t 106, .call 75 [(.t 105)], none⟩,⟨.t 107, .call 74 [(.t 103), (.t 106)], none⟩,⟨.t 108, .mv (.x 4), none⟩,⟨.x 2, .mv (.t 102), none⟩,⟨.x 3, .mv (.t 107), none⟩,⟨.x 4, .mv (.t 108), none⟩]) .ret) .skip)) (.seq (.reg [⟨.t 109, .mv (.x 2), none⟩,⟨.t 110, .mv (.x 8), none⟩,⟨.t 111, .call 75 [(.t 110)], none⟩,⟨.t 112, .call 74 [(.t 109), (.t 111)], none⟩,⟨.t 113, .mv (.x 3), none⟩,⟨.t 114, .mv (.x 4), none⟩,⟨.x 2, .mv (.t 112), none⟩,⟨.x 3, .mv (.t 113), none⟩,⟨.x 4, .mv (.t 114), none⟩]) .ret))))))))))
def resq_unsigned : List RV := [.t 2, .t 3, .t 4]
theorem isq_unsigned : IsFn fnq_unsigned 61 codeq_unsigned resq_unsigned := ⟨⟨Tryz.f61, _, Tryz.func61, rfl, rfl, by kernel_rfl, by kernel_rfl, by kernel_rfl⟩⟩
noncomputable def fnq_value : FnD := ⟨Tryz.prog, [0, 1, 2, 4], [], 7, 0, false⟩
def codeq_value : DC := (.seq (.reg [⟨.x 1, .box (.x 0), none⟩,⟨.x 2, .alloc [(.bool false), .nils, .nils], none⟩]) (.seq (.seq (.reg [⟨.t 3, .ldn 3 (.x 1), none⟩,⟨.x 4, .call 26 [(.t 3)], none⟩]) (.cond (.x 4) (.seq (.reg [⟨.t 5, .ldn 3 (.x 1), none⟩,⟨.no, .stn 3 (.x 2) (.t 5), none⟩]) .ret) .skip)) (.seq (.reg [⟨.t 6, .build [(.bool false), .nils, .nils] [], none⟩,⟨.no, .stn 3 (.x 2) (.t 6), none⟩]) .ret)))
def resq_value : List RV := [.cn 3 2]
theorem nbq_value : fnq_value.nb = 0 := rfl
theorem isq_value : IsFn fnq_value 67 codeq_value resq_value := ⟨⟨Tryz.f67, _, Tryz.func67, rfl, rfl, by kernel_rfl, by kernel_rfl, by kernel_rfl⟩⟩
noncomputable def fnpTake : FnD := ⟨Tryz.prog, [0, 1, 2, 5], [], 14, 0, false⟩
def codepTake : DC := (.seq (.reg [⟨.x 1, .box (.x 0), none⟩,⟨.x 2, .alloc [(.bool false), .nils, .nils], none⟩]) (.seq (.seq (.reg [⟨.t 3, .ldn 3 (.x 1), none⟩,⟨.t 4, .call 30 [(.t 3)], none⟩,⟨.x 5, .un .not (.t 4), none⟩]) (.cond (.x 5) (.seq (.reg [⟨.t 6, .build [(.bool false), .nils, .nils] [], none⟩,⟨.no, .stn 3 (.x 2) (.t 6), none⟩]) .ret) .skip)) (.seq (.regd [⟨.t 7, .fad 0 (.x 1), none⟩,⟨.t 8, .ldn 2 (.t 7), none⟩,⟨.t 9, .call 28 [(.t 8)], none⟩,⟨.t 10, .fad 2 (.x 1), none⟩,⟨.t 11, .ld (.t 10), none⟩,⟨.t 12, .call 89 [(.t 11)], none⟩,⟨.t 13, .build [(.bool false), .nils, .nils] [(0, 2, (.t 9)), (2, 1, (.t 12))], none⟩,⟨.no, .stn 3 (.x 2) (.t 13), none⟩]) .ret)))
def respTake : List RV := [.cn 3 2]
theorem nbpTake : fnpTake.nb = 0 := rfl
theorem ispTake : IsFn fnpTake 70 codepTake respTake := ⟨⟨Tryz.f70, _, Tryz.func70, rfl, rfl, by kernel_rfl, by kernel_rfl, by kernel_rfl⟩⟩
noncomputable def fnq_ten : FnD := ⟨Tryz.prog, [0, 2, 3, 6], [], 18, 0, false⟩
def codeq_ten : DC := (.seq (.reg [⟨.x 2, .mv (.c .nils), none⟩]) (.seq (.reg [⟨.t 4, .call 79 [], none⟩,⟨.x 3, .mv (.t 4), none⟩]) (.seq (.block 0 (.loop (.seq (.seq (.reg [⟨.t 5, .mv (.x 0), none⟩,⟨.x 6, .bin .gtr (.t 5) (.c (.int .i64 64)), none⟩]) (.cond (.x 6) .skip (.exit 0))) (.seq (.block 1 (.reg [⟨.t 9, .mv (.x 3), none⟩,⟨.t 10, .bsl 1 [(.int .u32 0)] [(0, 1, (.c (.int .u32 10)))], none⟩,⟨.t 11, .call 129 [(.t 10), (.c (.int .i64 64))], none⟩,⟨.t 12, .call 74 [(.t 9), (.t 11)], none⟩,⟨.x 3, .mv (.t 12), none⟩])) (.reg [⟨.t 7, .mv (.x 0), none⟩,⟨.t 8, .bin .sub (.t 7) (.c (.int .i64 64)), none⟩,⟨.x 0, .mv (.t 8), none⟩]))))) (.seq (.reg [⟨.t 13, .mv (.x 3), none⟩,⟨.t 14, .bsl 1 [(.int .u32 0)] [(0, 1, (.c (.int .u32 10)))], none⟩,⟨.t 15, .mv (.x 0), none⟩,⟨.t 16, .call 129 [(.t 14), (.t 15)], none⟩,⟨.t 17, .call 74 [(.t 13), (.t 16)], none⟩,⟨.x 2, .mv (.t 17), none⟩]) .ret))))
def resq_ten : List RV := [.t 2]
theorem isq_ten : IsFn fnq_ten 75 codeq_ten resq_ten := ⟨⟨Tryz.f75, _, Tryz.func75, rfl, rfl, by kernel_rfl, by kernel_rfl, by kernel_rfl⟩⟩
noncomputable def fnq_den : FnD := ⟨Tryz.prog, [0, 1, 2, 6], [], 10, 0, false⟩
def codeq_den : DC := (.seq (.reg [⟨.x 1, .box (.x 0), none⟩,⟨.x 2, .mv (.c .nils), none⟩]) (.seq (.seq (.reg [⟨.t 3, .fad 2 (.x 1), none⟩,⟨.t 4, .ld (.t 3), none⟩,⟨.t 5, .len 1 (.t 4), none⟩,⟨.x 6, .bin .eql (.t 5) (.c (.int .i64 0)), none⟩]) (.cond (.x 6) (.seq (.reg [⟨.t 7, .call 79 [], none⟩,⟨.x 2, .mv (.t 7), none⟩]) .ret) .skip)) (.seq (.reg [⟨.t 8, .fad 2 (.x 1), none⟩,⟨.t 9, .ld (.t 8), none⟩,⟨.x 2, .mv (.t 9), none⟩]) .ret)))
def resq_den : List RV := [.t 2]
theorem nbq_den : fnq_den.nb = 0 := rfl
theorem isq_den : IsFn fnq_den 76 codeq_den resq_den := ⟨⟨Tryz.f76, _, Tryz.func76, rfl, rfl, by kernel_rfl, by kernel_rfl, by kernel_rfl⟩⟩
noncomputable def fnq_one : FnD := ⟨Tryz.prog, [0], [], 2, 0, false⟩
def codeq_one : DC := (.seq (.reg [⟨.x 0, .mv (.c .nils), none⟩]) (.seq (.reg [⟨.t 1, .bsl 1 [(.int .u32 0)] [(0, 1, (.c (.int .u32 1)))], none⟩,⟨.x 0, .mv (.t 1), none⟩]) .ret))
def resq_one : List RV := [.t 0]
theorem isq_one : IsFn fnq_one 79 codeq_one resq_one := ⟨⟨Tryz.f79, _, Tryz.func79, rfl, rfl, by kernel_rfl, by kernel_rfl, by kernel_rfl⟩⟩
noncomputable def fnp_one : FnD := ⟨Tryz.prog, [0, 2], [], 12, 0, false⟩
def codep_one : DC := (.seq (.reg [⟨.x 2, .mv (.c (.bool false)), none⟩]) (.seq (.reg [⟨.t 3, .mv (.x 0), none⟩,⟨.t 4, .len 1 (.t 3), none⟩,⟨.t 5, .bin .eql (.t 4) (.c (.int .i64 1)), none⟩,⟨.t 6, .mv (.t 5), none⟩,⟨.t 7, .mv (.x 0), (some ((.t 6), true))⟩,⟨.t 8, .iad 1 (.t 7) (.c (.int .i64 0)), (some ((.t 6), true))⟩,⟨.t 9, .ld (.t 8), (some ((.t 6), true))⟩,⟨.t 10, .bin .eql (.t 9) (.c (.int .u32 1)), (some ((.t 6), true))⟩,⟨.t 11, .pick (.t 6) (.t 10) (.c (.bool false)), none⟩,⟨.x 2, .mv (.t 11), none⟩]) .ret))
def resp_one : List RV := [.t 2]
theorem isp_one : IsFn fnp_one 91 codep_one resp_one := ⟨⟨Tryz.f91, _, Tryz.func91, rfl, rfl, by kernel_rfl, by kernel_rfl, by kernel_rfl⟩⟩
noncomputable def fnpQuo : FnD := ⟨Tryz.prog, [0, 1, 2, 3, 4], [], 20, 0, false⟩
def codepQuo : DC := (.seq (.reg [⟨.x 2, .box (.x 0), none⟩,⟨.x 3, .box (.x 1), none⟩,⟨.x 4, .alloc [(.bool false), .nils, .nils], none⟩]) (.seq (.regd [⟨.t 5, .ldn 3 (.x 2), none⟩,⟨.t 6, .call 70 [(.t 5)], none⟩,⟨.t 7, .ldn 3 (.x 3), none⟩,⟨.t 8, .call 70 [(.t 7)], none⟩,⟨.no, .stn 3 (.x 2) (.t 6), none⟩,⟨.no, .stn 3 (.x 3) (.t 8), none⟩]) (.seq (.regd [⟨.t 9, .fad 0 (.x 2), none⟩,⟨.t 10, .ldn 2 (.t 9), none⟩,⟨.t 11, .ldn 3 (.x 3), none⟩,⟨.t 12, .call 29 [(.t 11)], none⟩,⟨.t 13, .call 25 [(.t 10), (.t 12)], none⟩,⟨.t 14, .ldn 3 (.x 2), none⟩,⟨.t 15, .call 29 [(.t 14)], none⟩,⟨.t 16, .fad 0 (.x 3), none⟩,⟨.t 17, .ldn 2 (.t 16), none⟩,⟨.t 18, .call 25 [(.t 15), (.t 17)], none⟩,⟨.t 19, .call 58 [(.t 13), (.t 18)], none⟩,⟨.no, .stn 3 (.x 4) (.t 19), none⟩]) .ret)))
def respQuo : List RV := [.cn 3 4]
theorem nbpQuo : fnpQuo.nb = 0 := rfl
theorem ispQuo : IsFn fnpQuo 94 codepQuo respQuo := ⟨⟨Tryz.f94, _, Tryz.func94, rfl, rfl, by kernel_rfl, by kernel_rfl, by kernel_rfl⟩⟩
noncomputable def fnq_exponent : FnD := ⟨Tryz.prog, [0, 2, 3, 4, 5, 6, 7, 32, 33], [], 39, 0, false⟩
def codeq_exponent : DC := (.seq (.reg [⟨.x 2, .mv (.c (.int .i64 0)), none⟩,⟨.x 3, .mv (.c (.bool false)), none⟩]) (.seq (.reg [⟨.t 9, .mv (.x 0), none⟩,⟨.t 10, .call 60 [(.t 9), (.c (.str [45]))], none⟩,⟨.t 8, .mv (.t 10), none⟩,⟨.t 11, .ext (.t 8) 0, none⟩,⟨.t 12, .ext (.t 8) 1, none⟩,⟨.x 0, .mv (.t 11), none⟩,⟨.x 4, .mv (.t 12), none⟩]) (.seq (.reg [⟨.t 14, .mv (.x 0), none⟩,⟨.t 15, .call 108 [(.t 14)], none⟩,⟨.t 13, .mv (.t 15), none⟩,⟨.t 16, .ext (.t 13) 0, none⟩,⟨.t 17, .ext (.t 13) 1, none⟩,⟨.x 5, .mv (.t 16), none⟩,⟨.x 3, .mv (.t 17), none⟩]) (.seq (.reg [⟨.t 19, .mv (.x 5), none⟩,⟨.t 20, .call 138 [(.t 19)], none⟩,⟨.t 18, .mv (.t 20), none⟩,⟨.t 21, .ext (.t 18) 0, none⟩,⟨.t 22, .ext (.t 18) 1, none⟩,⟨.x 6, .mv (.t 21), none⟩,⟨.x 7, .mv (.t 22), none⟩]) (.seq (.seq (.reg [⟨.t 23, .mv (.x 3), none⟩,⟨.t 24, .un .not (.t 23), none⟩,⟨.t 25, .mv (.t 24), none⟩,⟨.t 26, .mv (.x 7), (some ((.t 25), false))⟩,⟨.t 27, .un .not (.t 26), (some ((.t 25), false))⟩,⟨.t 28, .pick (.t 25) (.c (.bool true)) (.t 27), none⟩,⟨.t 29, .mv (.t 28), none⟩,⟨.t 30, .mv (.x 6), (some ((.t 29), false))⟩,⟨.t 31, .bin .gtr (.t 30) (.c (.int .u64 40)), (some ((.t 29), false))⟩,⟨.x 32, .pick (.t 29) (.c (.bool true)) (.t 31), none⟩]) (.cond (.x 32) (.seq (.reg [⟨.x 2, .mv (.c (.int .i64 0)), none⟩,⟨.x 3, .mv (.c (.bool false)), none⟩]) .ret) .skip)) (.seq (.seq (.reg [⟨.x 33, .mv (.x 4), none⟩]) (.cond (.x 33) (.seq (.reg [⟨.t 34, .mv (.x 6), none⟩,⟨.t 35, .conv .i64 (.t 34), none⟩,⟨.t 36, .un .neg (.t 35), none⟩,⟨.x 2, .mv (.t 36), none⟩,⟨.x 3, .mv (.c (.bool true)), none⟩]) .ret) .skip)) (.seq (.reg [⟨.t 37, .mv (.x 6), none⟩,⟨.t 38, .conv .i64 (.t 37), none⟩,⟨.x 2, .mv (.t 38), none⟩,⟨.x 3, .mv (.c (.bool true)), none⟩]) .ret)))))))
def resq_exponent : List RV := [.t 2, .t 3]
theorem isq_exponent : IsFn fnq_exponent 110 codeq_exponent resq_exponent := ⟨⟨Tryz.f110, _, Tryz.func110, rfl, rfl, by kernel_rfl, by kernel_rfl, by kernel_rfl⟩⟩
noncomputable def fnq_digits : FnD := ⟨Tryz.prog, [0, 2, 4, 6, 7, 8, 9, 17], [], 21, 0, false⟩
def codeq_digits : DC := (.seq (.reg [⟨.x 2, .mv (.c (.bool false)), none⟩]) (.seq (.seq (.reg [⟨.t 5, .mv (.x 0), none⟩,⟨.x 6, .s2b (.t 5), none⟩,⟨.x 7, .len 1 (.x 6), none⟩,⟨.x 8, .mv (.c (.int .i64 0)), none⟩]) (.block 0 (.loop (.seq (.reg [⟨.x 9, .bin .lss (.x 8) (.x 7), none⟩]) (.seq (.cond (.x 9) .skip (.exit 0)) (.seq (.block 1 (.seq (.reg [⟨.t 10, .iad 1 (.x 6) (.x 8), none⟩,⟨.t 11, .ld (.t 10), none⟩,⟨.x 4, .mv (.t 11), none⟩]) (.seq (.reg [⟨.t 12, .mv (.x 4), none⟩,⟨.t 13, .bin .lss (.t 12) (.c (.int .u8 48)), none⟩,⟨.t 14, .mv (.t 13), none⟩,⟨.t 15, .mv (.x 4), (some ((.t 14), false))⟩,⟨.t 16, .bin .gtr (.t 15) (.c (.int .u8 57)), (some ((.t 14), false))⟩,⟨.x 17, .pick (.t 14) (.c (.bool true)) (.t 16), none⟩]) (.cond (.x 17) (.seq (.reg [⟨.x 2, .mv (.c (.bool false)), none⟩]) .ret) .skip)))) (.reg [⟨.t 18, .bin .add (.x 8) (.c (.int .i64 1)), none⟩,⟨.x 8, .mv (.t 18), none⟩]))))))) (.seq (.reg [⟨.t 19, .mv (.x 0), none⟩,⟨.t 20, .bin .neq (.t 19) (.c (.str [])), none⟩,⟨.x 2, .mv (.t 20), none⟩]) .ret)))
def resq_digits : List RV := [.t 2]
theorem isq_digits : IsFn fnq_digits 111 codeq_digits resq_digits := ⟨⟨Tryz.f111, _, Tryz.func111, rfl, rfl, by kernel_rfl, by kernel_rfl, by kernel_rfl⟩⟩
noncomputable def fnq_significant : FnD := ⟨Tryz.prog, [0, 2, 6], [], 8, 0, false⟩
def codeq_significant : DC := (.seq (.reg [⟨.x 2, .mv (.c (.str [])), none⟩]) (.seq (.seq (.reg [⟨.t 3, .mv (.x 0), none⟩,⟨.t 4, .call 147 [(.t 3), (.c (.str [48]))], none⟩,⟨.x 0, .mv (.t 4), none⟩]) (.seq (.reg [⟨.t 5, .mv (.x 0), none⟩,⟨.x 6, .bin .eql (.t 5) (.c (.str [])), none⟩]) (.cond (.x 6) (.seq (.reg [⟨.x 2, .mv (.c (.str [48])), none⟩]) .ret) .skip))) (.seq (.reg [⟨.t 7, .mv (.x 0), none⟩,⟨.x 2, .mv (.t 7), none⟩]) .ret)))
def resq_significant : List RV := [.t 2]
theorem isq_significant : IsFn fnq_significant 112 codeq_significant resq_significant := ⟨⟨Tryz.f112, _, Tryz.func112, rfl, rfl, by kernel_rfl, by kernel_rfl, by kernel_rfl⟩⟩
end Go.Proofs.YteiagmmfapbaiaaGreatDoor
namespace Go.Proofs.YteiagmmfapbaiaaGreatDoor
open Go Go.Dat Go.Proofs Nat32
open Go.Lib (decDigits)
theorem limbs1_le {m : Nat} (h : 1 ≤ m) : (limbs 1).length ≤ m := by rw [limbs1]; exact h
theorem q_one_calls : PCalls Tryz.prog 79 [] (.sl 1 (us (limbs 1))) := by
  refine PCalls_of isq_one (by simp [fnq_one]) ?_
  unfold codeq_one
  repeat (first | refine W_seq ?_ | refine W_reg ?_ | refine W_regd ?_ | refine W_block ?_ | refine And.intro (by omega) ?_ | simp (maxSteps := 1000000) (disch := omega) only [cA, cB, cC, frz_us, binE, unE, boundE, newsE, blkQ, Nat.reduceEqDiff, Nat.reduceLT, Nat.reduceAdd, ↓reduceIte, reduceCtorEq, Nat.reduceLeDiff, us_rfd, us1L])
  exact W_ret (RetP_1 (.imm rfl))
theorem cmp_one (n : Nat) : decide (cmpN n 1 = 0) = decide (n = 1) := by
  rw [decide_eq_decide]; unfold cmpN; (repeat' split) <;> omega
theorem cmp_one' (n : Nat) : decide (cmpN n 1 = 0) = decide (1 = n) := by
  rw [decide_eq_decide]; unfold cmpN; (repeat' split) <;> omega
theorem nCmp1 (d : List Nat) (hd : d.length ≤ 1000) (ld : lim d) : PCalls Tryz.prog 77 [.sl 1 (us d), .sl 1 (us (limbs 1))] (.int .i64 (cmpN (vn d) 1)) := by
  have := nCmp_calls d (limbs 1) (by omega) (limbs1_le (by decide)) ld (lim_limbs _)
  rwa [vn_limbs] at this
theorem qValid_calls (neg : Bool) (a d : List Nat) (ha : a.length ≤ 1000) (hd : d.length ≤ 1000) (la : lim a) (ld : lim d) : PCalls Tryz.prog 26 [XQ neg a d] (.bool (vldQ neg a d)) := by
  have c1 := iValid_calls neg a (by omega)
  have c2 := nValid_calls d (by omega)
  have c3 := nCmp1 d hd ld
  have c4 := nGcd_calls a d (by omega) (by omega) la ld
  have hg : (limbs (Nat.gcd (vn a) (vn d))).length ≤ 1000 := by
    by_cases h : vn a = 0
    · rw [h, Nat.gcd_zero_left]; exact Nat.le_trans (vn_len ld) hd
    · exact Nat.le_trans (len_mono (Nat.gcd_le_left _ (Nat.pos_of_ne_zero h))) (Nat.le_trans (vn_len la) ha)
  have c5 := nCmp1 (limbs (Nat.gcd (vn a) (vn d))) hg (lim_limbs _)
  rw [vn_limbs] at c5
  have e3 := cmp_one (vn d)
  have e5 := cmp_one' (Nat.gcd (vn a) (vn d))
  refine PCalls_of isqValid (by simp [fnqValid]) ?_
  unfold codeqValid vldQ
  generalize vldI neg a = p1 at *
  generalize vld d = p2 at *
  generalize Nat.gcd (vn a) (vn d) = G at *
  generalize vn d = D at *
  clear hg
  have k1 : decide ((a.length : Int) = 0) = !decide (0 < a.length) := by
    by_cases h : 0 < a.length
    · rw [decide_eq_true h, decide_eq_false (by omega)]; rfl
    · rw [decide_eq_false h, decide_eq_true (by omega)]; rfl
  have k2 : decide ((d.length : Int) = 0) = decide (d.length = 0) := by rw [decide_eq_decide]; omega
  cases p1
  · simp only [Bool.false_and]
    repeat (first | refine W_seq ?_ | refine W_reg ?_ | refine W_regd ?_ | refine W_block ?_ | refine And.intro (by omega) ?_ | simp (maxSteps := 1000000) (disch := omega) only [cA, cB, cC, frz_us, binE, unE, boundE, newsE, blkQ, Nat.reduceEqDiff, Nat.reduceLT, Nat.reduceAdd, ↓reduceIte, reduceCtorEq, Nat.reduceLeDiff, XQ, X, cS, cT, nbqValid, us_length] | refine callC_pure (c1) rfl ?_ | refine callC_pure (c2) rfl ?_ | exact W_ret (RetP_1 (.imm rfl)) | exact W_ret (RetP_c rfl rfl rfl (.imm rfl)))
    refine W_cond rfl (fun _ => ?_) (fun h => by cases h)
    repeat (first | refine W_seq ?_ | refine W_reg ?_ | refine W_regd ?_ | refine W_block ?_ | refine And.intro (by omega) ?_ | simp (maxSteps := 1000000) (disch := omega) only [cA, cB, cC, frz_us, binE, unE, boundE, newsE, blkQ, Nat.reduceEqDiff, Nat.reduceLT, Nat.reduceAdd, ↓reduceIte, reduceCtorEq, Nat.reduceLeDiff, cS, cT, nbqValid])
    exact W_ret (RetP_1 (.imm rfl))
  · cases p2
    · simp only [Bool.true_and, Bool.false_and]
      repeat (first | refine W_seq ?_ | refine W_reg ?_ | refine W_regd ?_ | refine W_block ?_ | refine And.intro (by omega) ?_ | simp (maxSteps := 1000000) (disch := omega) only [cA, cB, cC, frz_us, binE, unE, boundE, newsE, blkQ, Nat.reduceEqDiff, Nat.reduceLT, Nat.reduceAdd, ↓reduceIte, reduceCtorEq, Nat.reduceLeDiff, XQ, X, cS, cT, nbqValid, us_length] | refine callC_pure (c1) rfl ?_ | refine callC_pure (c2) rfl ?_ | exact W_ret (RetP_1 (.imm rfl)) | exact W_ret (RetP_c rfl rfl rfl (.imm rfl)))
      refine W_cond rfl (fun _ => ?_) (fun h => by cases h)
      repeat (first | refine W_seq ?_ | refine W_reg ?_ | refine W_regd ?_ | refine W_block ?_ | refine And.intro (by omega) ?_ | simp (maxSteps := 1000000) (disch := omega) only [cA, cB, cC, frz_us, binE, unE, boundE, newsE, blkQ, Nat.reduceEqDiff, Nat.reduceLT, Nat.reduceAdd, ↓reduceIte, reduceCtorEq, Nat.reduceLeDiff, cS, cT, nbqValid])
      exact W_ret (RetP_1 (.imm rfl))
    · simp only [Bool.true_and]
      by_cases h0 : d.length = 0
      · rw [decide_eq_true h0] at k2 ⊢
        simp only [Bool.true_or]
        repeat (first | refine W_seq ?_ | refine W_reg ?_ | refine W_regd ?_ | refine W_block ?_ | refine And.intro (by omega) ?_ | simp (maxSteps := 1000000) (disch := omega) only [cA, cB, cC, frz_us, binE, unE, boundE, newsE, blkQ, Nat.reduceEqDiff, Nat.reduceLT, Nat.reduceAdd, ↓reduceIte, reduceCtorEq, Nat.reduceLeDiff, XQ, X, cS, cT, nbqValid, us_length, k2] | refine callC_pure (c1) rfl ?_ | refine callC_pure (c2) rfl ?_ | exact W_ret (RetP_1 (.imm rfl)) | exact W_ret (RetP_c rfl rfl rfl (.imm rfl)))
        refine W_cond rfl (fun h => by cases h) (fun _ => ?_)
        repeat (first | refine W_seq ?_ | refine W_reg ?_ | refine W_regd ?_ | refine W_block ?_ | refine And.intro (by omega) ?_ | simp (maxSteps := 1000000) (disch := omega) only [cA, cB, cC, frz_us, binE, unE, boundE, newsE, blkQ, Nat.reduceEqDiff, Nat.reduceLT, Nat.reduceAdd, ↓reduceIte, reduceCtorEq, Nat.reduceLeDiff, XQ, X, cS, cT, nbqValid, us_length, k2] | refine callC_pure (c1) rfl ?_ | refine callC_pure (c2) rfl ?_ | exact W_ret (RetP_1 (.imm rfl)) | exact W_ret (RetP_c rfl rfl rfl (.imm rfl)))
        refine W_cond rfl (fun _ => ?_) (fun h => by cases h)
        repeat (first | refine W_seq ?_ | refine W_reg ?_ | refine W_regd ?_ | refine W_block ?_ | refine And.intro (by omega) ?_ | simp (maxSteps := 1000000) (disch := omega) only [cA, cB, cC, frz_us, binE, unE, boundE, newsE, blkQ, Nat.reduceEqDiff, Nat.reduceLT, Nat.reduceAdd, ↓reduceIte, reduceCtorEq, Nat.reduceLeDiff, cS, cT, nbqValid])
        exact W_ret (RetP_1 (.imm rfl))
      · rw [decide_eq_false h0] at k2 ⊢
        simp only [Bool.false_or]
        by_cases ha0 : 0 < a.length
        · rw [decide_eq_true ha0] at k1 ⊢
          simp only [Bool.true_and]
          by_cases hD : D = 1
          · rw [decide_eq_true hD] at e3
            rw [decide_eq_false (show ¬ ¬ D = 1 from fun h => h hD)]
            simp only [Bool.false_and]
            repeat (first | refine W_seq ?_ | refine W_reg ?_ | refine W_regd ?_ | refine W_block ?_ | refine And.intro (by omega) ?_ | simp (maxSteps := 1000000) (disch := omega) only [cA, cB, cC, frz_us, binE, unE, boundE, newsE, blkQ, Nat.reduceEqDiff, Nat.reduceLT, Nat.reduceAdd, ↓reduceIte, reduceCtorEq, Nat.reduceLeDiff, XQ, X, cS, cT, nbqValid, us_length, k1, k2, e3] | refine callC_pure (c1) rfl ?_ | refine callC_pure (c2) rfl ?_ | exact W_ret (RetP_1 (.imm rfl)) | exact W_ret (RetP_c rfl rfl rfl (.imm rfl)))
            refine W_cond rfl (fun h => by cases h) (fun _ => ?_)
            repeat (first | refine W_seq ?_ | refine W_reg ?_ | refine W_regd ?_ | refine W_block ?_ | refine And.intro (by omega) ?_ | simp (maxSteps := 1000000) (disch := omega) only [cA, cB, cC, frz_us, binE, unE, boundE, newsE, blkQ, Nat.reduceEqDiff, Nat.reduceLT, Nat.reduceAdd, ↓reduceIte, reduceCtorEq, Nat.reduceLeDiff, XQ, X, cS, cT, nbqValid, us_length, k1, k2, e3] | refine callC_pure (c1) rfl ?_ | refine callC_pure (c2) rfl ?_ | exact W_ret (RetP_1 (.imm rfl)) | exact W_ret (RetP_c rfl rfl rfl (.imm rfl)))
            refine W_cond rfl (fun h => by cases h) (fun _ => ?_)
            repeat (first | refine W_seq ?_ | refine W_reg ?_ | refine W_regd ?_ | refine W_block ?_ | refine And.intro (by omega) ?_ | simp (maxSteps := 1000000) (disch := omega) only [cA, cB, cC, frz_us, binE, unE, boundE, newsE, blkQ, Nat.reduceEqDiff, Nat.reduceLT, Nat.reduceAdd, ↓reduceIte, reduceCtorEq, Nat.reduceLeDiff, XQ, X, cS, cT, nbqValid, us_length, k1, k2, e3] | refine callC_pure (q_one_calls) rfl ?_ | refine callC_pure (c3) rfl ?_ | exact W_ret (RetP_1 (.imm rfl)) | exact W_ret (RetP_c rfl rfl rfl (.imm rfl)))
            refine W_cond rfl (fun _ => ?_) (fun h => by cases h)
            repeat (first | refine W_seq ?_ | refine W_reg ?_ | refine W_regd ?_ | refine W_block ?_ | refine And.intro (by omega) ?_ | simp (maxSteps := 1000000) (disch := omega) only [cA, cB, cC, frz_us, binE, unE, boundE, newsE, blkQ, Nat.reduceEqDiff, Nat.reduceLT, Nat.reduceAdd, ↓reduceIte, reduceCtorEq, Nat.reduceLeDiff, cS, cT, nbqValid])
            exact W_ret (RetP_1 (.imm rfl))
          · rw [decide_eq_false hD] at e3
            rw [decide_eq_true hD]
            simp only [Bool.true_and]
            repeat (first | refine W_seq ?_ | refine W_reg ?_ | refine W_regd ?_ | refine W_block ?_ | refine And.intro (by omega) ?_ | simp (maxSteps := 1000000) (disch := omega) only [cA, cB, cC, frz_us, binE, unE, boundE, newsE, blkQ, Nat.reduceEqDiff, Nat.reduceLT, Nat.reduceAdd, ↓reduceIte, reduceCtorEq, Nat.reduceLeDiff, XQ, X, cS, cT, nbqValid, us_length, k1, k2, e3] | refine callC_pure (c1) rfl ?_ | refine callC_pure (c2) rfl ?_ | exact W_ret (RetP_1 (.imm rfl)) | exact W_ret (RetP_c rfl rfl rfl (.imm rfl)))
            refine W_cond rfl (fun h => by cases h) (fun _ => ?_)
            repeat (first | refine W_seq ?_ | refine W_reg ?_ | refine W_regd ?_ | refine W_block ?_ | refine And.intro (by omega) ?_ | simp (maxSteps := 1000000) (disch := omega) only [cA, cB, cC, frz_us, binE, unE, boundE, newsE, blkQ, Nat.reduceEqDiff, Nat.reduceLT, Nat.reduceAdd, ↓reduceIte, reduceCtorEq, Nat.reduceLeDiff, XQ, X, cS, cT, nbqValid, us_length, k1, k2, e3] | refine callC_pure (c1) rfl ?_ | refine callC_pure (c2) rfl ?_ | exact W_ret (RetP_1 (.imm rfl)) | exact W_ret (RetP_c rfl rfl rfl (.imm rfl)))
            refine W_cond rfl (fun h => by cases h) (fun _ => ?_)
            repeat (first | refine W_seq ?_ | refine W_reg ?_ | refine W_regd ?_ | refine W_block ?_ | refine And.intro (by omega) ?_ | simp (maxSteps := 1000000) (disch := omega) only [cA, cB, cC, frz_us, binE, unE, boundE, newsE, blkQ, Nat.reduceEqDiff, Nat.reduceLT, Nat.reduceAdd, ↓reduceIte, reduceCtorEq, Nat.reduceLeDiff, XQ, X, cS, cT, nbqValid, us_length, k1, k2, e3] | refine callC_pure (q_one_calls) rfl ?_ | refine callC_pure (c3) rfl ?_ | exact W_ret (RetP_1 (.imm rfl)) | exact W_ret (RetP_c rfl rfl rfl (.imm rfl)))
            refine W_cond rfl (fun h => by cases h) (fun _ => W_skip ?_)
            repeat (first | refine W_seq ?_ | refine W_reg ?_ | refine W_regd ?_ | refine W_block ?_ | refine And.intro (by omega) ?_ | simp (maxSteps := 1000000) (disch := omega) only [cA, cB, cC, frz_us, binE, unE, boundE, newsE, blkQ, Nat.reduceEqDiff, Nat.reduceLT, Nat.reduceAdd, ↓reduceIte, reduceCtorEq, Nat.reduceLeDiff, XQ, X, cS, cT, nbqValid, us_length, k1, k2, e3, e5] | refine callC_pure (c4) rfl ?_ | refine callC_pure (q_one_calls) rfl ?_ | refine callC_pure (c5) rfl ?_ | exact W_ret (RetP_1 (.imm rfl)) | exact W_ret (RetP_c rfl rfl rfl (.imm rfl)))
        · rw [decide_eq_false ha0] at k1 ⊢
          simp only [Bool.false_and]
          repeat (first | refine W_seq ?_ | refine W_reg ?_ | refine W_regd ?_ | refine W_block ?_ | refine And.intro (by omega) ?_ | simp (maxSteps := 1000000) (disch := omega) only [cA, cB, cC, frz_us, binE, unE, boundE, newsE, blkQ, Nat.reduceEqDiff, Nat.reduceLT, Nat.reduceAdd, ↓reduceIte, reduceCtorEq, Nat.reduceLeDiff, XQ, X, cS, cT, nbqValid, us_length, k1, k2, e3] | refine callC_pure (c1) rfl ?_ | refine callC_pure (c2) rfl ?_ | exact W_ret (RetP_1 (.imm rfl)) | exact W_ret (RetP_c rfl rfl rfl (.imm rfl)))
          refine W_cond rfl (fun h => by cases h) (fun _ => ?_)
          repeat (first | refine W_seq ?_ | refine W_reg ?_ | refine W_regd ?_ | refine W_block ?_ | refine And.intro (by omega) ?_ | simp (maxSteps := 1000000) (disch := omega) only [cA, cB, cC, frz_us, binE, unE, boundE, newsE, blkQ, Nat.reduceEqDiff, Nat.reduceLT, Nat.reduceAdd, ↓reduceIte, reduceCtorEq, Nat.reduceLeDiff, XQ, X, cS, cT, nbqValid, us_length, k1, k2, e3] | refine callC_pure (c1) rfl ?_ | refine callC_pure (c2) rfl ?_ | exact W_ret (RetP_1 (.imm rfl)) | exact W_ret (RetP_c rfl rfl rfl (.imm rfl)))
          refine W_cond rfl (fun h => by cases h) (fun _ => ?_)
          repeat (first | refine W_seq ?_ | refine W_reg ?_ | refine W_regd ?_ | refine W_block ?_ | refine And.intro (by omega) ?_ | simp (maxSteps := 1000000) (disch := omega) only [cA, cB, cC, frz_us, binE, unE, boundE, newsE, blkQ, Nat.reduceEqDiff, Nat.reduceLT, Nat.reduceAdd, ↓reduceIte, reduceCtorEq, Nat.reduceLeDiff, XQ, X, cS, cT, nbqValid, us_length, k1, k2, e3] | refine callC_pure (q_one_calls) rfl ?_ | refine callC_pure (c3) rfl ?_ | exact W_ret (RetP_1 (.imm rfl)) | exact W_ret (RetP_c rfl rfl rfl (.imm rfl)))
          refine W_cond rfl (fun _ => ?_) (fun h => by cases h)
          repeat (first | refine W_seq ?_ | refine W_reg ?_ | refine W_regd ?_ | refine W_block ?_ | refine And.intro (by omega) ?_ | simp (maxSteps := 1000000) (disch := omega) only [cA, cB, cC, frz_us, binE, unE, boundE, newsE, blkQ, Nat.reduceEqDiff, Nat.reduceLT, Nat.reduceAdd, ↓reduceIte, reduceCtorEq, Nat.reduceLeDiff, cS, cT, nbqValid])
          exact W_ret (RetP_1 (.imm rfl))
theorem q_value_calls (neg : Bool) (a d : List Nat) (ha : a.length ≤ 1000) (hd : d.length ≤ 1000) (la : lim a) (ld : lim d) : PCalls Tryz.prog 67 [XQ neg a d] (Q (rv neg a d)) := by
  have cv := qValid_calls neg a d ha hd la ld
  refine PCalls_of isq_value (by simp [fnq_value]) ?_
  unfold codeq_value
  by_cases hv : vldQ neg a d = true
  · rw [hv] at cv
    rw [← XQ_Q la ld hv]
    repeat (first | refine W_seq ?_ | refine W_reg ?_ | refine W_regd ?_ | refine W_block ?_ | refine And.intro (by omega) ?_ | simp (maxSteps := 1000000) (disch := omega) only [cA, cB, cC, frz_us, binE, unE, boundE, newsE, blkQ, Nat.reduceEqDiff, Nat.reduceLT, Nat.reduceAdd, ↓reduceIte, reduceCtorEq, Nat.reduceLeDiff, XQ, cS, cT, nbq_value] | refine callC_pure (cv) rfl ?_ | exact W_ret (RetP_1 (.imm rfl)) | exact W_ret (RetP_c rfl rfl rfl (.imm rfl)))
    refine W_cond rfl (fun _ => ?_) (fun h => by cases h)
    repeat (first | refine W_seq ?_ | refine W_reg ?_ | refine W_regd ?_ | refine W_block ?_ | refine And.intro (by omega) ?_ | simp (maxSteps := 1000000) (disch := omega) only [cA, cB, cC, frz_us, binE, unE, boundE, newsE, blkQ, Nat.reduceEqDiff, Nat.reduceLT, Nat.reduceAdd, ↓reduceIte, reduceCtorEq, Nat.reduceLeDiff, XQ, cS, cT, nbq_value] | refine callC_pure (cv) rfl ?_ | exact W_ret (RetP_1 (.imm rfl)) | exact W_ret (RetP_c rfl rfl rfl (.imm rfl)))
  · have hv : vldQ neg a d = false := by simpa using hv
    rw [hv] at cv
    rw [rv_inv hv, Q0]
    repeat (first | refine W_seq ?_ | refine W_reg ?_ | refine W_regd ?_ | refine W_block ?_ | refine And.intro (by omega) ?_ | simp (maxSteps := 1000000) (disch := omega) only [cA, cB, cC, frz_us, binE, unE, boundE, newsE, blkQ, Nat.reduceEqDiff, Nat.reduceLT, Nat.reduceAdd, ↓reduceIte, reduceCtorEq, Nat.reduceLeDiff, XQ, cS, cT, nbq_value] | refine callC_pure (cv) rfl ?_ | exact W_ret (RetP_1 (.imm rfl)) | exact W_ret (RetP_c rfl rfl rfl (.imm rfl)))
    refine W_cond rfl (fun h => by cases h) (fun _ => W_skip ?_)
    repeat (first | refine W_seq ?_ | refine W_reg ?_ | refine W_regd ?_ | refine W_block ?_ | refine And.intro (by omega) ?_ | simp (maxSteps := 1000000) (disch := omega) only [cA, cB, cC, frz_us, binE, unE, boundE, newsE, blkQ, Nat.reduceEqDiff, Nat.reduceLT, Nat.reduceAdd, ↓reduceIte, reduceCtorEq, Nat.reduceLeDiff, cS, cT, nbq_value])
    exact W_ret (RetP_c rfl rfl rfl (Exp_bnn _ _ _))
theorem q_den_calls (r : Rat) : PCalls Tryz.prog 76 [Q r] (.sl 1 (us (limbs r.den))) := by
  refine PCalls_of isq_den (by simp [fnq_den]) ?_
  unfold codeq_den
  by_cases h : r.den = 1
  · have k : decide (((dn r.den).length : Int) = 0) = true := decide_eq_true (by have := (dn_len0 r.den_nz).2 h; omega)
    rw [h]
    rw [h] at k
    repeat (first | refine W_seq ?_ | refine W_reg ?_ | refine W_regd ?_ | refine W_block ?_ | refine And.intro (by omega) ?_ | simp (maxSteps := 1000000) (disch := omega) only [cA, cB, cC, frz_us, binE, unE, boundE, newsE, blkQ, Nat.reduceEqDiff, Nat.reduceLT, Nat.reduceAdd, ↓reduceIte, reduceCtorEq, Nat.reduceLeDiff, Q, h, cS, cT, nbq_den, us_length, k] | refine callC_pure (q_one_calls) rfl ?_ | exact W_ret (RetP_1 (.imm rfl)) | exact W_ret (RetP_c rfl rfl rfl (.imm rfl)))
    refine W_cond rfl (fun _ => ?_) (fun h => by cases h)
    repeat (first | refine W_seq ?_ | refine W_reg ?_ | refine W_regd ?_ | refine W_block ?_ | refine And.intro (by omega) ?_ | simp (maxSteps := 1000000) (disch := omega) only [cA, cB, cC, frz_us, binE, unE, boundE, newsE, blkQ, Nat.reduceEqDiff, Nat.reduceLT, Nat.reduceAdd, ↓reduceIte, reduceCtorEq, Nat.reduceLeDiff, cS, cT, nbq_den] | refine callC_pure (q_one_calls) rfl ?_ | exact W_ret (RetP_1 (.imm rfl)) | exact W_ret (RetP_c rfl rfl rfl (.imm rfl)))
  · have k : decide (((dn r.den).length : Int) = 0) = false := decide_eq_false (fun e => h ((dn_len0 r.den_nz).1 (by omega)))
    have e : limbs r.den = dn r.den := by unfold dn; rw [if_neg h]
    rw [e]
    repeat (first | refine W_seq ?_ | refine W_reg ?_ | refine W_regd ?_ | refine W_block ?_ | refine And.intro (by omega) ?_ | simp (maxSteps := 1000000) (disch := omega) only [cA, cB, cC, frz_us, binE, unE, boundE, newsE, blkQ, Nat.reduceEqDiff, Nat.reduceLT, Nat.reduceAdd, ↓reduceIte, reduceCtorEq, Nat.reduceLeDiff, Q, cS, cT, nbq_den, us_length, k] | refine callC_pure (q_one_calls) rfl ?_ | exact W_ret (RetP_1 (.imm rfl)) | exact W_ret (RetP_c rfl rfl rfl (.imm rfl)))
    refine W_cond rfl (fun h => by cases h) (fun _ => W_skip ?_)
    repeat (first | refine W_seq ?_ | refine W_reg ?_ | refine W_regd ?_ | refine W_block ?_ | refine And.intro (by omega) ?_ | simp (maxSteps := 1000000) (disch := omega) only [cA, cB, cC, frz_us, binE, unE, boundE, newsE, blkQ, Nat.reduceEqDiff, Nat.reduceLT, Nat.reduceAdd, ↓reduceIte, reduceCtorEq, Nat.reduceLeDiff, cS, cT, nbq_den] | refine callC_pure (q_one_calls) rfl ?_ | exact W_ret (RetP_1 (.imm rfl)) | exact W_ret (RetP_c rfl rfl rfl (.imm rfl)))
theorem q_lowest_calls (z : Int) (d : Nat) (h : d ≠ 0) (h1 : il z ≤ 1000) (h2 : (limbs d).length ≤ 1000) : PCalls Tryz.prog 56 [I z, .sl 1 (us (limbs d))] (Q (mkRat z d)) := by
  have hg : 0 < Nat.gcd z.natAbs d := Nat.gcd_pos_of_pos_right _ (Nat.pos_of_ne_zero h)
  have hgl : (limbs (Nat.gcd z.natAbs d)).length ≤ 1000 := Nat.le_trans (len_mono (Nat.gcd_le_right _ (Nat.pos_of_ne_zero h))) h2
  rw [Q_low z d h]
  unfold il at h1
  have c1 := nGcd_calls (limbs z.natAbs) (limbs d) (by omega) (by omega) (lim_limbs _) (lim_limbs _)
  rw [vn_limbs, vn_limbs] at c1
  have c2 := nDivL z.natAbs (Nat.gcd z.natAbs d) (by omega) (by omega)
  have c3 := nDivL d (Nat.gcd z.natAbs d) (by omega) (by omega)
  have c4 := nCmp1 (limbs (d / Nat.gcd z.natAbs d)) (Nat.le_trans (len_mono (Nat.div_le_self _ _)) h2) (lim_limbs _)
  rw [vn_limbs] at c4
  have e4 := cmp_one (d / Nat.gcd z.natAbs d)
  have hne : d / Nat.gcd z.natAbs d ≠ 0 := fun e => by
    have := Nat.div_pos (Nat.gcd_le_right z.natAbs (Nat.pos_of_ne_zero h)) hg
    omega
  generalize Nat.gcd z.natAbs d = G at *
  generalize d / G = E at *
  generalize z.natAbs / G = Z at *
  refine PCalls_of isq_lowest (by simp [fnq_lowest]) ?_
  unfold codeq_lowest
  by_cases hE : E = 1
  · rw [decide_eq_true hE] at e4
    rw [hE, dn_one]
    repeat (first | refine W_seq ?_ | refine W_reg ?_ | refine W_regd ?_ | refine W_block ?_ | refine And.intro (by omega) ?_ | simp (maxSteps := 1000000) (disch := omega) only [cA, cB, cC, frz_us, binE, unE, boundE, newsE, blkQ, Nat.reduceEqDiff, Nat.reduceLT, Nat.reduceAdd, ↓reduceIte, reduceCtorEq, Nat.reduceLeDiff, I, cS, cT, nbq_lowest, e4] | refine callC_pure (c1) rfl ?_ | refine callC_pure (c2) rfl ?_ | refine callC_pure (c3) rfl ?_ | refine callC_pure (q_one_calls) rfl ?_ | refine callC_pure (c4) rfl ?_ | exact W_ret (RetP_1 (.imm rfl)) | exact W_ret (RetP_c rfl rfl rfl (.imm rfl)))
    refine W_cond rfl (fun _ => ?_) (fun h => by cases h)
    repeat (first | refine W_seq ?_ | refine W_reg ?_ | refine W_regd ?_ | refine W_block ?_ | refine And.intro (by omega) ?_ | simp (maxSteps := 1000000) (disch := omega) only [cA, cB, cC, frz_us, binE, unE, boundE, newsE, blkQ, Nat.reduceEqDiff, Nat.reduceLT, Nat.reduceAdd, ↓reduceIte, reduceCtorEq, Nat.reduceLeDiff, cS, cT, nbq_lowest])
    exact W_ret (RetP_c rfl rfl rfl (Exp_bsn _ _ _ _ rfl))
  · rw [decide_eq_false hE] at e4
    have e : dn E = limbs E := by unfold dn; rw [if_neg hE]
    rw [e]
    repeat (first | refine W_seq ?_ | refine W_reg ?_ | refine W_regd ?_ | refine W_block ?_ | refine And.intro (by omega) ?_ | simp (maxSteps := 1000000) (disch := omega) only [cA, cB, cC, frz_us, binE, unE, boundE, newsE, blkQ, Nat.reduceEqDiff, Nat.reduceLT, Nat.reduceAdd, ↓reduceIte, reduceCtorEq, Nat.reduceLeDiff, I, cS, cT, nbq_lowest, e4] | refine callC_pure (c1) rfl ?_ | refine callC_pure (c2) rfl ?_ | refine callC_pure (c3) rfl ?_ | refine callC_pure (q_one_calls) rfl ?_ | refine callC_pure (c4) rfl ?_ | exact W_ret (RetP_1 (.imm rfl)) | exact W_ret (RetP_c rfl rfl rfl (.imm rfl)))
    refine W_cond rfl (fun h => by cases h) (fun _ => W_skip ?_)
    repeat (first | refine W_seq ?_ | refine W_reg ?_ | refine W_regd ?_ | refine W_block ?_ | refine And.intro (by omega) ?_ | simp (maxSteps := 1000000) (disch := omega) only [cA, cB, cC, frz_us, binE, unE, boundE, newsE, blkQ, Nat.reduceEqDiff, Nat.reduceLT, Nat.reduceAdd, ↓reduceIte, reduceCtorEq, Nat.reduceLeDiff, cS, cT, nbq_lowest])
    exact W_ret (RetP_c rfl rfl rfl (.imm rfl))
end Go.Proofs.YteiagmmfapbaiaaGreatDoor
namespace Go.Proofs.YteiagmmfapbaiaaGreatDoor
open Go Go.Dat Go.Proofs Nat32
open Go.Lib (decDigits)
theorem RB_dn {r : Rat} {m : Nat} (h : RB r m) : (dn r.den).length ≤ m := Nat.le_trans (dn_len _) h.2
theorem iv_nat (n : Nat) : iv false (limbs n) = (n : Int) := by unfold iv; simp [vn_limbs]
theorem dk1 (r : Rat) : decide (((dn r.den).length : Int) = 0) = decide (r.den = 1) := by
  rw [decide_eq_decide, ← dn_len0 r.den_nz]; omega
theorem il_nat {n m : Nat} (h : (limbs n).length ≤ m) : il (n : Int) ≤ m := by unfold il; rw [Int.natAbs_natCast]; exact h
theorem dn_eq (d : Nat) : limbs (vn (dn d)) = dn d := vn_limbs_of_vld (lim_dn d) (vld_dn d)
theorem sign_neg (z : Int) : decide (z.sign < 0) = decide (z < 0) := by rw [decide_eq_decide]; exact ⟨fun h => Int.sign_neg_iff.1 h, fun h => Int.sign_neg_iff.2 h⟩
def mkR (x y : Int) : DV := if y = 0 then .tup [Q 0, .int .i64 5] else .tup [Q (Rat.divInt x y), .int .i64 0]
theorem vldI_of_ne {neg : Bool} {a : List Nat} (h : iv neg a ≠ 0) : vldI neg a = true := by
  by_cases hv : vldI neg a = true
  · exact hv
  · exact absurd (iv_inv (by simpa using hv)) h
theorem X_mag {neg : Bool} {a : List Nat} (la : lim a) (h : iv neg a ≠ 0) : a = limbs (iv neg a).natAbs := by
  have hx := X_I la (vldI_of_ne h)
  unfold X I at hx
  injection hx with hx
  injection hx with e1 hx
  injection hx with e2 _
  injection e2 with _ e2
  have hva := vn_limbs_of_vld la (show vld a = true by have := vldI_of_ne h; unfold vldI at this; rw [Bool.and_eq_true] at this; exact this.1)
  rw [iv_abs, hva]
theorem qMake_calls (n1 : Bool) (a : List Nat) (n2 : Bool) (b : List Nat) (ha : a.length ≤ 900) (hb : b.length ≤ 900) (la : lim a) (lb : lim b) : PCalls Tryz.prog 14 [X n1 a, X n2 b] (mkR (iv n1 a) (iv n2 b)) := by
  have cs := iSign_calls n2 b (by omega) lb
  have cn := iNeg_calls n1 a (by omega) la
  have c1 := iAdd_calls n1 a false [] (by omega) (by decide) la lim_nil
  rw [show iv false [] = 0 from rfl, Int.add_zero] at c1
  have l1 := iv_len la n1
  have l2 := iv_len lb n2
  have hm := @X_mag n2 b lb
  have c2 := iAddL (-(iv n1 a)) 0 (by unfold il; rw [Int.natAbs_neg]; omega) (by unfold il; rw [show (0 : Int).natAbs = 0 from rfl, limbs_zero]; exact Nat.zero_le _)
  rw [Int.add_zero, I0] at c2
  generalize iv n1 a = x at *
  generalize iv n2 b = y at *
  refine PCalls_of isqMake (by simp [fnqMake]) ?_
  unfold codeqMake mkR
  have e1 := sign_neg y
  by_cases hy : y = 0
  · rw [if_pos hy, Q0]
    have e2 : decide (y.sign = 0) = true := by rw [hy]; rfl
    repeat (first | refine W_seq ?_ | refine W_reg ?_ | refine W_regd ?_ | refine W_block ?_ | refine And.intro (by omega) ?_ | simp (maxSteps := 1000000) (disch := omega) only [cA, cB, cC, frz_us, binE, unE, boundE, newsE, blkQ, Nat.reduceEqDiff, Nat.reduceLT, Nat.reduceAdd, ↓reduceIte, reduceCtorEq, Nat.reduceLeDiff, X, cS, cT, nbqMake, e2] | refine callC_pure (cs) rfl ?_ | exact W_ret (RetP_1 (.imm rfl)) | exact W_ret (RetP_c rfl rfl rfl (.imm rfl)))
    refine W_cond rfl (fun _ => ?_) (fun h => by cases h)
    repeat (first | refine W_seq ?_ | refine W_reg ?_ | refine W_regd ?_ | refine W_block ?_ | refine And.intro (by omega) ?_ | simp (maxSteps := 1000000) (disch := omega) only [cA, cB, cC, frz_us, binE, unE, boundE, newsE, blkQ, Nat.reduceEqDiff, Nat.reduceLT, Nat.reduceAdd, ↓reduceIte, reduceCtorEq, Nat.reduceLeDiff, cS, cT, nbqMake])
    exact W_ret (RetP_ct rfl rfl rfl (Exp_bnn _ _ _) (.imm rfl))
  · rw [if_neg hy]
    have e2 : decide (y.sign = 0) = false := decide_eq_false (fun h => hy (Int.sign_eq_zero_iff_zero.1 h))
    have hb' := hm hy
    by_cases hn : y < 0
    · rw [decide_eq_true hn] at e1
      rw [divInt_neg x hn]
      have cl := q_lowest_calls (-x) y.natAbs (by omega) (by unfold il; rw [Int.natAbs_neg]; omega) (by omega)
      rw [← hb'] at cl
      repeat (first | refine W_seq ?_ | refine W_reg ?_ | refine W_regd ?_ | refine W_block ?_ | refine And.intro (by omega) ?_ | simp (maxSteps := 1000000) (disch := omega) only [cA, cB, cC, frz_us, binE, unE, boundE, newsE, blkQ, Nat.reduceEqDiff, Nat.reduceLT, Nat.reduceAdd, ↓reduceIte, reduceCtorEq, Nat.reduceLeDiff, X, cS, cT, nbqMake, e2] | refine callC_pure (cs) rfl ?_ | exact W_ret (RetP_1 (.imm rfl)) | exact W_ret (RetP_c rfl rfl rfl (.imm rfl)))
      refine W_cond rfl (fun h => by cases h) (fun _ => W_skip ?_)
      repeat (first | refine W_seq ?_ | refine W_reg ?_ | refine W_regd ?_ | refine W_block ?_ | refine And.intro (by omega) ?_ | simp (maxSteps := 1000000) (disch := omega) only [cA, cB, cC, frz_us, binE, unE, boundE, newsE, blkQ, Nat.reduceEqDiff, Nat.reduceLT, Nat.reduceAdd, ↓reduceIte, reduceCtorEq, Nat.reduceLeDiff, X, cS, cT, nbqMake, e1] | refine callC_pure (cs) rfl ?_ | exact W_ret (RetP_1 (.imm rfl)) | exact W_ret (RetP_c rfl rfl rfl (.imm rfl)))
      refine W_cond rfl (fun _ => ?_) (fun h => by cases h)
      repeat (first | refine W_seq ?_ | refine W_reg ?_ | refine W_regd ?_ | refine W_block ?_ | refine And.intro (by omega) ?_ | simp (maxSteps := 1000000) (disch := omega) only [cA, cB, cC, frz_us, binE, unE, boundE, newsE, blkQ, Nat.reduceEqDiff, Nat.reduceLT, Nat.reduceAdd, ↓reduceIte, reduceCtorEq, Nat.reduceLeDiff, X, I, Q, cS, cT, nbqMake] | refine callC_pure (cn) rfl ?_ | refine callC_pure (PCalls_nz1 1 (c2)) rfl ?_ | refine callC_pure (cl) rfl ?_ | exact W_ret (RetP_1 (.imm rfl)) | exact W_ret (RetP_c rfl rfl rfl (.imm rfl)))
      exact W_ret (RetP_ct rfl rfl rfl (.imm rfl) (.imm rfl))
    · rw [decide_eq_false hn] at e1
      rw [divInt_pos x (by omega)]
      have cl := q_lowest_calls x y.natAbs (by omega) (by unfold il; omega) (by omega)
      rw [← hb'] at cl
      repeat (first | refine W_seq ?_ | refine W_reg ?_ | refine W_regd ?_ | refine W_block ?_ | refine And.intro (by omega) ?_ | simp (maxSteps := 1000000) (disch := omega) only [cA, cB, cC, frz_us, binE, unE, boundE, newsE, blkQ, Nat.reduceEqDiff, Nat.reduceLT, Nat.reduceAdd, ↓reduceIte, reduceCtorEq, Nat.reduceLeDiff, X, cS, cT, nbqMake, e2] | refine callC_pure (cs) rfl ?_ | exact W_ret (RetP_1 (.imm rfl)) | exact W_ret (RetP_c rfl rfl rfl (.imm rfl)))
      refine W_cond rfl (fun h => by cases h) (fun _ => W_skip ?_)
      repeat (first | refine W_seq ?_ | refine W_reg ?_ | refine W_regd ?_ | refine W_block ?_ | refine And.intro (by omega) ?_ | simp (maxSteps := 1000000) (disch := omega) only [cA, cB, cC, frz_us, binE, unE, boundE, newsE, blkQ, Nat.reduceEqDiff, Nat.reduceLT, Nat.reduceAdd, ↓reduceIte, reduceCtorEq, Nat.reduceLeDiff, X, cS, cT, nbqMake, e1] | refine callC_pure (cs) rfl ?_ | exact W_ret (RetP_1 (.imm rfl)) | exact W_ret (RetP_c rfl rfl rfl (.imm rfl)))
      refine W_cond rfl (fun h => by cases h) (fun _ => W_skip ?_)
      repeat (first | refine W_seq ?_ | refine W_reg ?_ | refine W_regd ?_ | refine W_block ?_ | refine And.intro (by omega) ?_ | simp (maxSteps := 1000000) (disch := omega) only [cA, cB, cC, frz_us, binE, unE, boundE, newsE, blkQ, Nat.reduceEqDiff, Nat.reduceLT, Nat.reduceAdd, ↓reduceIte, reduceCtorEq, Nat.reduceLeDiff, X, I, Q, cS, cT, nbqMake] | refine callC_pure (PCalls_nz1 1 (c1)) rfl ?_ | refine callC_pure (cl) rfl ?_ | exact W_ret (RetP_1 (.imm rfl)) | exact W_ret (RetP_c rfl rfl rfl (.imm rfl)))
      exact W_ret (RetP_ct rfl rfl rfl (.imm rfl) (.imm rfl))
end Go.Proofs.YteiagmmfapbaiaaGreatDoor
namespace Go.Proofs.YteiagmmfapbaiaaGreatDoor
open Go Go.Dat Go.Proofs Nat32
open Go.Lib (decDigits)
theorem sSignL (x : Int) (h1 : il x ≤ 900) : PCalls Tryz.prog 24 [I x] (.int .i64 x.sign) := by
  have := sSign_calls (decide (x < 0)) (limbs x.natAbs) (Nat.le_trans h1 (by decide)) (lim_limbs _)
  rwa [iv_I] at this
theorem sNegL (x : Int) (h1 : il x ≤ 900) : PCalls Tryz.prog 98 [I x] (I (-x)) := by
  have := sNeg_calls (decide (x < 0)) (limbs x.natAbs) h1 (lim_limbs _)
  rwa [iv_I] at this
theorem sAddL (x y : Int) (h1 : il x ≤ 900) (h2 : il y ≤ 900) : PCalls Tryz.prog 82 [I x, I y] (I (x + y)) := by
  have := sAdd_calls (decide (x < 0)) (limbs x.natAbs) (decide (y < 0)) (limbs y.natAbs) h1 h2 (lim_limbs _) (lim_limbs _)
  rwa [iv_I, iv_I] at this
theorem sMulL (x y : Int) (h1 : il x ≤ 900) (h2 : il y ≤ 900) : PCalls Tryz.prog 25 [I x, I y] (I (x * y)) := by
  have := sMul_calls (decide (x < 0)) (limbs x.natAbs) (decide (y < 0)) (limbs y.natAbs) h1 h2 (lim_limbs _) (lim_limbs _)
  rwa [iv_I, iv_I] at this
theorem sDivL (x y : Int) (h1 : il x ≤ 900) (h2 : il y ≤ 900) : PCalls Tryz.prog 100 [I x, I y] (.tup [I (x / y), I (imod x y), .bool (decide (¬ y = 0))]) := by
  have := sDiv_calls (decide (x < 0)) (limbs x.natAbs) (decide (y < 0)) (limbs y.natAbs) h1 h2 (lim_limbs _) (lim_limbs _)
  rwa [iv_I, iv_I] at this
theorem sGcdL (x y : Int) (h1 : il x ≤ 900) (h2 : il y ≤ 900) : PCalls Tryz.prog 105 [I x, I y] (.sl 1 (us (limbs (Nat.gcd x.natAbs y.natAbs)))) := by
  have := sGcd_calls (decide (x < 0)) (limbs x.natAbs) (decide (y < 0)) (limbs y.natAbs) h1 h2 (lim_limbs _) (lim_limbs _)
  rwa [iv_I, iv_I] at this
theorem I_nat (n : Nat) : I (n : Int) = .agg [.bool false, .sl 1 (us (limbs n))] := by
  unfold I; rw [decide_eq_false (by omega), Int.natAbs_natCast]
theorem p_one_calls (n : Nat) : PCalls Tryz.prog 91 [.sl 1 (us (limbs n))] (.bool (decide (n = 1))) := by
  refine PCalls_of isp_one (by simp [fnp_one]) ?_
  unfold codep_one
  have e0 : (Int.toNat 0) = 0 := rfl
  by_cases h0 : n = 0
  · subst h0
    have k : decide (((limbs 0).length : Int) = 1) = false := by rw [limbs_zero]; rfl
    rw [decide_eq_false (show ¬ (0 : Nat) = 1 by decide)]
    repeat (first | refine W_seq ?_ | refine W_reg ?_ | refine W_regd ?_ | refine W_block ?_ | refine And.intro (by omega) ?_ | simp (maxSteps := 1000000) (disch := omega) only [cA, cB, cC, frz_us, binE, unE, boundE, newsE, blkQ, Nat.reduceEqDiff, Nat.reduceLT, Nat.reduceAdd, ↓reduceIte, reduceCtorEq, Nat.reduceLeDiff, us_length, k])
    exact W_ret (RetP_1 (.imm rfl))
  · by_cases h1 : n < 4294967296
    · have e : us (limbs n) = [.int .u32 (n : Int)] := by rw [limbs_one h0 h1]; rfl
      have k : decide (((n : Nat) : Int) = 1) = decide (n = 1) := by rw [decide_eq_decide]; omega
      have k1 : decide (((1 : Nat) : Int) = 1) = true := rfl
      rw [e]
      repeat (first | refine W_seq ?_ | refine W_reg ?_ | refine W_regd ?_ | refine W_block ?_ | refine And.intro (by omega) ?_ | simp (maxSteps := 1000000) (disch := omega) only [cA, cB, cC, frz_us, binE, unE, boundE, newsE, blkQ, Nat.reduceEqDiff, Nat.reduceLT, Nat.reduceAdd, ↓reduceIte, reduceCtorEq, Nat.reduceLeDiff, e0, k, k1, List.length_singleton])
      exact W_ret (RetP_1 (.imm rfl))
    · have hl : 1 < (limbs n).length := by
        rcases Nat.lt_or_ge 1 (limbs n).length with h | h
        · exact h
        · have := limbs_len.1 h
          rw [Nat.pow_one] at this
          omega
      have k : decide (((limbs n).length : Int) = 1) = false := decide_eq_false (by omega)
      rw [decide_eq_false (show ¬ n = 1 by omega)]
      repeat (first | refine W_seq ?_ | refine W_reg ?_ | refine W_regd ?_ | refine W_block ?_ | refine And.intro (by omega) ?_ | simp (maxSteps := 1000000) (disch := omega) only [cA, cB, cC, frz_us, binE, unE, boundE, newsE, blkQ, Nat.reduceEqDiff, Nat.reduceLT, Nat.reduceAdd, ↓reduceIte, reduceCtorEq, Nat.reduceLeDiff, us_length, k])
      exact W_ret (RetP_1 (.imm rfl))
theorem pValid_calls (neg : Bool) (a d : List Nat) (ha : a.length ≤ 900) (hd : d.length ≤ 900) (la : lim a) (ld : lim d) : PCalls Tryz.prog 30 [XQ neg a d] (.bool (vldQ neg a d)) := by
  have c1 := sValid_calls neg a (by omega)
  have c2 := rValid_calls d (by omega)
  have c4 := rGcd_calls a d (by omega) (by omega) la ld
  have c5 := p_one_calls (Nat.gcd (vn a) (vn d))
  have e5 : ∀ n : Nat, decide (n = 1) = decide (1 = n) := fun n => by rw [decide_eq_decide]; exact eq_comm
  rw [e5] at c5
  have c3 := p_one_calls (vn d)
  have ed := vn_limbs_of_vld ld
  refine PCalls_of ispValid (by simp [fnpValid]) ?_
  unfold codepValid vldQ
  generalize hV : vldI neg a = p1 at *
  generalize vld d = p2 at *
  generalize Nat.gcd (vn a) (vn d) = G at *
  clear e5
  have k1 : decide ((0 : Int) < a.length) = decide (0 < a.length) := by rw [decide_eq_decide]; omega
  have k2 : decide ((d.length : Int) = 0) = decide (d.length = 0) := by rw [decide_eq_decide]; omega
  cases p1
  · simp only [Bool.false_and]
    repeat (first | refine W_seq ?_ | refine W_reg ?_ | refine W_regd ?_ | refine W_block ?_ | refine And.intro (by omega) ?_ | simp (maxSteps := 1000000) (disch := omega) only [cA, cB, cC, frz_us, binE, unE, boundE, newsE, blkQ, Nat.reduceEqDiff, Nat.reduceLT, Nat.reduceAdd, ↓reduceIte, reduceCtorEq, Nat.reduceLeDiff, XQ, X, cS, cT, nbpValid, us_length] | refine callC_pure (c1) rfl ?_ | refine callC_pure (c2) rfl ?_ | exact W_ret (RetP_1 (.imm rfl)) | exact W_ret (RetP_c rfl rfl rfl (.imm rfl)))
    refine W_cond rfl (fun _ => ?_) (fun h => by cases h)
    repeat (first | refine W_seq ?_ | refine W_reg ?_ | refine W_regd ?_ | refine W_block ?_ | refine And.intro (by omega) ?_ | simp (maxSteps := 1000000) (disch := omega) only [cA, cB, cC, frz_us, binE, unE, boundE, newsE, blkQ, Nat.reduceEqDiff, Nat.reduceLT, Nat.reduceAdd, ↓reduceIte, reduceCtorEq, Nat.reduceLeDiff, cS, nbpValid])
    exact W_ret (RetP_1 (.imm rfl))
  · cases p2
    · simp only [Bool.true_and, Bool.false_and]
      repeat (first | refine W_seq ?_ | refine W_reg ?_ | refine W_regd ?_ | refine W_block ?_ | refine And.intro (by omega) ?_ | simp (maxSteps := 1000000) (disch := omega) only [cA, cB, cC, frz_us, binE, unE, boundE, newsE, blkQ, Nat.reduceEqDiff, Nat.reduceLT, Nat.reduceAdd, ↓reduceIte, reduceCtorEq, Nat.reduceLeDiff, XQ, X, cS, cT, nbpValid, us_length] | refine callC_pure (c1) rfl ?_ | refine callC_pure (c2) rfl ?_ | exact W_ret (RetP_1 (.imm rfl)) | exact W_ret (RetP_c rfl rfl rfl (.imm rfl)))
      refine W_cond rfl (fun _ => ?_) (fun h => by cases h)
      repeat (first | refine W_seq ?_ | refine W_reg ?_ | refine W_regd ?_ | refine W_block ?_ | refine And.intro (by omega) ?_ | simp (maxSteps := 1000000) (disch := omega) only [cA, cB, cC, frz_us, binE, unE, boundE, newsE, blkQ, Nat.reduceEqDiff, Nat.reduceLT, Nat.reduceAdd, ↓reduceIte, reduceCtorEq, Nat.reduceLeDiff, cS, nbpValid])
      exact W_ret (RetP_1 (.imm rfl))
    · simp only [Bool.true_and]
      rw [ed rfl] at c3
      by_cases h0 : d.length = 0
      · have hD : ¬ vn d = 1 := by rw [List.eq_nil_of_length_eq_zero h0]; decide
        rw [decide_eq_false hD] at c3
        rw [decide_eq_true h0] at k2 ⊢
        simp only [Bool.true_or]
        repeat (first | refine W_seq ?_ | refine W_reg ?_ | refine W_regd ?_ | refine W_block ?_ | refine And.intro (by omega) ?_ | simp (maxSteps := 1000000) (disch := omega) only [cA, cB, cC, frz_us, binE, unE, boundE, newsE, blkQ, Nat.reduceEqDiff, Nat.reduceLT, Nat.reduceAdd, ↓reduceIte, reduceCtorEq, Nat.reduceLeDiff, XQ, X, cS, cT, nbpValid, us_length, k2] | refine callC_pure (c1) rfl ?_ | refine callC_pure (c2) rfl ?_ | refine callC_pure (c3) rfl ?_ | exact W_ret (RetP_1 (.imm rfl)) | exact W_ret (RetP_c rfl rfl rfl (.imm rfl)))
        refine W_cond rfl (fun h => by cases h) (fun _ => W_skip ?_)
        repeat (first | refine W_seq ?_ | refine W_reg ?_ | refine W_regd ?_ | refine W_block ?_ | refine And.intro (by omega) ?_ | simp (maxSteps := 1000000) (disch := omega) only [cA, cB, cC, frz_us, binE, unE, boundE, newsE, blkQ, Nat.reduceEqDiff, Nat.reduceLT, Nat.reduceAdd, ↓reduceIte, reduceCtorEq, Nat.reduceLeDiff, XQ, X, cS, cT, nbpValid, us_length, k2] | refine callC_pure (c1) rfl ?_ | refine callC_pure (c2) rfl ?_ | exact W_ret (RetP_1 (.imm rfl)) | exact W_ret (RetP_c rfl rfl rfl (.imm rfl)))
      · rw [decide_eq_false h0] at k2 ⊢
        simp only [Bool.false_or]
        by_cases hD : vn d = 1
        · rw [decide_eq_true hD] at c3
          rw [decide_eq_false (show ¬ ¬ vn d = 1 from fun h => h hD)]
          simp only [Bool.false_and, Bool.and_false]
          repeat (first | refine W_seq ?_ | refine W_reg ?_ | refine W_regd ?_ | refine W_block ?_ | refine And.intro (by omega) ?_ | simp (maxSteps := 1000000) (disch := omega) only [cA, cB, cC, frz_us, binE, unE, boundE, newsE, blkQ, Nat.reduceEqDiff, Nat.reduceLT, Nat.reduceAdd, ↓reduceIte, reduceCtorEq, Nat.reduceLeDiff, XQ, X, cS, cT, nbpValid, us_length, k2] | refine callC_pure (c1) rfl ?_ | refine callC_pure (c2) rfl ?_ | refine callC_pure (c3) rfl ?_ | exact W_ret (RetP_1 (.imm rfl)) | exact W_ret (RetP_c rfl rfl rfl (.imm rfl)))
          refine W_cond rfl (fun _ => ?_) (fun h => by cases h)
          repeat (first | refine W_seq ?_ | refine W_reg ?_ | refine W_regd ?_ | refine W_block ?_ | refine And.intro (by omega) ?_ | simp (maxSteps := 1000000) (disch := omega) only [cA, cB, cC, frz_us, binE, unE, boundE, newsE, blkQ, Nat.reduceEqDiff, Nat.reduceLT, Nat.reduceAdd, ↓reduceIte, reduceCtorEq, Nat.reduceLeDiff, cS, nbpValid])
          exact W_ret (RetP_1 (.imm rfl))
        · rw [decide_eq_false hD] at c3
          rw [decide_eq_true (show ¬ vn d = 1 from hD)]
          simp only [Bool.and_true]
          by_cases ha0 : 0 < a.length
          · rw [decide_eq_true ha0] at k1 ⊢
            simp only [Bool.true_and]
            repeat (first | refine W_seq ?_ | refine W_reg ?_ | refine W_regd ?_ | refine W_block ?_ | refine And.intro (by omega) ?_ | simp (maxSteps := 1000000) (disch := omega) only [cA, cB, cC, frz_us, binE, unE, boundE, newsE, blkQ, Nat.reduceEqDiff, Nat.reduceLT, Nat.reduceAdd, ↓reduceIte, reduceCtorEq, Nat.reduceLeDiff, XQ, X, cS, cT, nbpValid, us_length, k1, k2] | refine callC_pure (c1) rfl ?_ | refine callC_pure (c2) rfl ?_ | refine callC_pure (c3) rfl ?_ | exact W_ret (RetP_1 (.imm rfl)) | exact W_ret (RetP_c rfl rfl rfl (.imm rfl)))
            refine W_cond rfl (fun h => by cases h) (fun _ => W_skip ?_)
            repeat (first | refine W_seq ?_ | refine W_reg ?_ | refine W_regd ?_ | refine W_block ?_ | refine And.intro (by omega) ?_ | simp (maxSteps := 1000000) (disch := omega) only [cA, cB, cC, frz_us, binE, unE, boundE, newsE, blkQ, Nat.reduceEqDiff, Nat.reduceLT, Nat.reduceAdd, ↓reduceIte, reduceCtorEq, Nat.reduceLeDiff, XQ, X, cS, cT, nbpValid, us_length, k1, k2] | refine callC_pure (c4) rfl ?_ | refine callC_pure (c5) rfl ?_ | exact W_ret (RetP_1 (.imm rfl)) | exact W_ret (RetP_c rfl rfl rfl (.imm rfl)))
          · rw [decide_eq_false ha0] at k1 ⊢
            simp only [Bool.false_and]
            repeat (first | refine W_seq ?_ | refine W_reg ?_ | refine W_regd ?_ | refine W_block ?_ | refine And.intro (by omega) ?_ | simp (maxSteps := 1000000) (disch := omega) only [cA, cB, cC, frz_us, binE, unE, boundE, newsE, blkQ, Nat.reduceEqDiff, Nat.reduceLT, Nat.reduceAdd, ↓reduceIte, reduceCtorEq, Nat.reduceLeDiff, XQ, X, cS, cT, nbpValid, us_length, k1, k2] | refine callC_pure (c1) rfl ?_ | refine callC_pure (c2) rfl ?_ | refine callC_pure (c3) rfl ?_ | exact W_ret (RetP_1 (.imm rfl)) | exact W_ret (RetP_c rfl rfl rfl (.imm rfl)))
            refine W_cond rfl (fun h => by cases h) (fun _ => W_skip ?_)
            repeat (first | refine W_seq ?_ | refine W_reg ?_ | refine W_regd ?_ | refine W_block ?_ | refine And.intro (by omega) ?_ | simp (maxSteps := 1000000) (disch := omega) only [cA, cB, cC, frz_us, binE, unE, boundE, newsE, blkQ, Nat.reduceEqDiff, Nat.reduceLT, Nat.reduceAdd, ↓reduceIte, reduceCtorEq, Nat.reduceLeDiff, XQ, X, cS, cT, nbpValid, us_length, k1, k2] | refine callC_pure (c4) rfl ?_ | refine callC_pure (c5) rfl ?_ | exact W_ret (RetP_1 (.imm rfl)) | exact W_ret (RetP_c rfl rfl rfl (.imm rfl)))
theorem vldQ_parts {neg : Bool} {a d : List Nat} (h : vldQ neg a d = true) : vldI neg a = true ∧ vld d = true := by
  unfold vldQ at h
  simp only [Bool.and_eq_true] at h
  exact h.1
theorem pTake_calls (neg : Bool) (a d : List Nat) (ha : a.length ≤ 900) (hd : d.length ≤ 900) (la : lim a) (ld : lim d) : PCalls Tryz.prog 70 [XQ neg a d] (Q (rv neg a d)) := by
  have cv := pValid_calls neg a d ha hd la ld
  have c1 := sTake_calls neg a (by omega) la
  have c2 := rTake_calls d (by omega) ld
  refine PCalls_of ispTake (by simp [fnpTake]) ?_
  unfold codepTake
  by_cases hv : vldQ neg a d = true
  · rw [hv] at cv
    obtain ⟨v1, v2⟩ := vldQ_parts hv
    rw [← X_I la v1] at c1
    rw [vn_limbs_of_vld ld v2] at c2
    rw [← XQ_Q la ld hv]
    repeat (first | refine W_seq ?_ | refine W_reg ?_ | refine W_regd ?_ | refine W_block ?_ | refine And.intro (by omega) ?_ | simp (maxSteps := 1000000) (disch := omega) only [cA, cB, cC, frz_us, binE, unE, boundE, newsE, blkQ, Nat.reduceEqDiff, Nat.reduceLT, Nat.reduceAdd, ↓reduceIte, reduceCtorEq, Nat.reduceLeDiff, XQ, X, cS, cT, nbpTake] | refine callC_pure (cv) rfl ?_ | exact W_ret (RetP_1 (.imm rfl)) | exact W_ret (RetP_c rfl rfl rfl (.imm rfl)))
    refine W_cond rfl (fun h => by cases h) (fun _ => W_skip ?_)
    repeat (first | refine W_seq ?_ | refine W_reg ?_ | refine W_regd ?_ | refine W_block ?_ | refine And.intro (by omega) ?_ | simp (maxSteps := 1000000) (disch := omega) only [cA, cB, cC, frz_us, binE, unE, boundE, newsE, blkQ, Nat.reduceEqDiff, Nat.reduceLT, Nat.reduceAdd, ↓reduceIte, reduceCtorEq, Nat.reduceLeDiff, XQ, X, cS, cT, nbpTake] | refine callC_pure (c1) rfl ?_ | refine callC_pure (c2) rfl ?_ | exact W_ret (RetP_1 (.imm rfl)) | exact W_ret (RetP_c rfl rfl rfl (.imm rfl)))
  · have hv : vldQ neg a d = false := by simpa using hv
    rw [hv] at cv
    rw [rv_inv hv, Q0]
    repeat (first | refine W_seq ?_ | refine W_reg ?_ | refine W_regd ?_ | refine W_block ?_ | refine And.intro (by omega) ?_ | simp (maxSteps := 1000000) (disch := omega) only [cA, cB, cC, frz_us, binE, unE, boundE, newsE, blkQ, Nat.reduceEqDiff, Nat.reduceLT, Nat.reduceAdd, ↓reduceIte, reduceCtorEq, Nat.reduceLeDiff, XQ, cS, nbpTake] | refine callC_pure (cv) rfl ?_ | exact W_ret (RetP_1 (.imm rfl)) | exact W_ret (RetP_c rfl rfl rfl (.imm rfl)))
    refine W_cond rfl (fun _ => ?_) (fun h => by cases h)
    repeat (first | refine W_seq ?_ | refine W_reg ?_ | refine W_regd ?_ | refine W_block ?_ | refine And.intro (by omega) ?_ | simp (maxSteps := 1000000) (disch := omega) only [cA, cB, cC, frz_us, binE, unE, boundE, newsE, blkQ, Nat.reduceEqDiff, Nat.reduceLT, Nat.reduceAdd, ↓reduceIte, reduceCtorEq, Nat.reduceLeDiff, cS, nbpTake])
    exact W_ret (RetP_c rfl rfl rfl (Exp_bnn _ _ _))
theorem pDen_calls (r : Rat) (h : RB r 1000) : PCalls Tryz.prog 29 [Q r] (I (r.den : Int)) := by
  have c2 := rTake_calls (dn r.den) (Nat.le_trans (RB_dn h) (by decide)) (lim_dn _)
  rw [dn_eq] at c2
  refine PCalls_of ispDen (by simp [fnpDen]) ?_
  unfold codepDen
  rw [I_nat]
  have k := dk1 r
  by_cases h : r.den = 1
  · rw [decide_eq_true h] at k
    have e : limbs r.den = limbs 1 := by rw [h]
    rw [e]
    repeat (first | refine W_seq ?_ | refine W_reg ?_ | refine W_regd ?_ | refine W_block ?_ | refine And.intro (by omega) ?_ | simp (maxSteps := 1000000) (disch := omega) only [cA, cB, cC, frz_us, binE, unE, boundE, newsE, blkQ, Nat.reduceEqDiff, Nat.reduceLT, Nat.reduceAdd, ↓reduceIte, reduceCtorEq, Nat.reduceLeDiff, Q, cS, cT, nbpDen, us_length, k] | refine callC_pure (c2) rfl ?_ | exact W_ret (RetP_1 (.imm rfl)) | exact W_ret (RetP_c rfl rfl rfl (.imm rfl)))
    refine W_cond rfl (fun _ => ?_) (fun h => by cases h)
    repeat (first | refine W_seq ?_ | refine W_reg ?_ | refine W_regd ?_ | refine W_block ?_ | refine And.intro (by omega) ?_ | simp (maxSteps := 1000000) (disch := omega) only [cA, cB, cC, frz_us, binE, unE, boundE, newsE, blkQ, Nat.reduceEqDiff, Nat.reduceLT, Nat.reduceAdd, ↓reduceIte, reduceCtorEq, Nat.reduceLeDiff, cS, cT, nbpDen, us1L, us_rfd])
    exact W_ret (RetP_c rfl rfl rfl (.imm rfl))
  · rw [decide_eq_false h] at k
    have e : limbs r.den = dn r.den := by unfold dn; rw [if_neg h]
    rw [e]
    repeat (first | refine W_seq ?_ | refine W_reg ?_ | refine W_regd ?_ | refine W_block ?_ | refine And.intro (by omega) ?_ | simp (maxSteps := 1000000) (disch := omega) only [cA, cB, cC, frz_us, binE, unE, boundE, newsE, blkQ, Nat.reduceEqDiff, Nat.reduceLT, Nat.reduceAdd, ↓reduceIte, reduceCtorEq, Nat.reduceLeDiff, Q, cS, cT, nbpDen, us_length, k] | refine callC_pure (c2) rfl ?_ | exact W_ret (RetP_1 (.imm rfl)) | exact W_ret (RetP_c rfl rfl rfl (.imm rfl)))
    refine W_cond rfl (fun h => by cases h) (fun _ => W_skip ?_)
    repeat (first | refine W_seq ?_ | refine W_reg ?_ | refine W_regd ?_ | refine W_block ?_ | refine And.intro (by omega) ?_ | simp (maxSteps := 1000000) (disch := omega) only [cA, cB, cC, frz_us, binE, unE, boundE, newsE, blkQ, Nat.reduceEqDiff, Nat.reduceLT, Nat.reduceAdd, ↓reduceIte, reduceCtorEq, Nat.reduceLeDiff, cS, cT, nbpDen] | refine callC_pure (c2) rfl ?_ | exact W_ret (RetP_1 (.imm rfl)) | exact W_ret (RetP_c rfl rfl rfl (.imm rfl)))
theorem Q_mk (z : Int) (d : Nat) (h : d ≠ 0) : Q (mkRat z d) = .agg [.bool (decide (z / ((Nat.gcd z.natAbs d : Nat) : Int) < 0)), .sl 1 (us (limbs (z / ((Nat.gcd z.natAbs d : Nat) : Int)).natAbs)), .sl 1 (us (dn (d / Nat.gcd z.natAbs d)))] := by
  unfold Q
  rw [Rat.num_mkRat, Rat.den_mkRat, if_neg h, if_neg h, Nat.gcd_comm d]
theorem p_over_calls (x y : Int) (hy : y ≠ 0) (h1 : il x ≤ 900) (h2 : il y ≤ 900) : PCalls Tryz.prog 58 [I x, I y] (Q (Rat.divInt x y)) := by
  have cs := sSignL y h2
  have e1 := sign_neg y
  refine PCalls_of isp_over (by simp [fnp_over]) ?_
  unfold codep_over
  have key : ∃ (z : Int) (d : Nat), d ≠ 0 ∧ Rat.divInt x y = mkRat z d ∧ il z ≤ 900 ∧ (limbs d).length ≤ 900 ∧ (y < 0 → -x = z ∧ -y = (d : Int)) ∧ (¬ y < 0 → x = z ∧ y = (d : Int)) := by
    by_cases hn : y < 0
    · exact ⟨-x, y.natAbs, by omega, divInt_neg x hn, by rw [il_neg]; exact h1, h2, fun _ => ⟨rfl, by omega⟩, fun h => absurd hn h⟩
    · exact ⟨x, y.natAbs, by omega, divInt_pos x (by omega), h1, h2, fun h => absurd h hn, fun _ => ⟨rfl, by omega⟩⟩
  obtain ⟨z, d, hd, hq, lz, ld, kn, kp⟩ := key
  rw [hq, Q_mk z d hd]
  have hgl : (limbs (Nat.gcd z.natAbs d)).length ≤ 900 := Nat.le_trans (len_mono (Nat.gcd_le_right _ (Nat.pos_of_ne_zero hd))) ld
  have cg := sGcdL z (d : Int) lz (il_nat ld)
  rw [Int.natAbs_natCast] at cg
  have c1 := sDivL z ((Nat.gcd z.natAbs d : Nat) : Int) lz (il_nat hgl)
  have c2 := sDivL (d : Int) ((Nat.gcd z.natAbs d : Nat) : Int) (il_nat ld) (il_nat hgl)
  rw [show ((d : Int) / ((Nat.gcd z.natAbs d : Nat) : Int)) = ((d / Nat.gcd z.natAbs d : Nat) : Int) from rfl, I_nat (Nat.gcd z.natAbs d), I_nat (d / Nat.gcd z.natAbs d)] at c2
  rw [I_nat (Nat.gcd z.natAbs d)] at c1
  have c3 := p_one_calls (d / Nat.gcd z.natAbs d)
  rw [I_nat d] at c2 cg
  have hdn : ¬ d / Nat.gcd z.natAbs d = 1 → dn (d / Nat.gcd z.natAbs d) = limbs (d / Nat.gcd z.natAbs d) := fun h => by unfold dn; rw [if_neg h]
  have hdn1 : d / Nat.gcd z.natAbs d = 1 → dn (d / Nat.gcd z.natAbs d) = [] := fun h => by rw [h, dn_one]
  generalize hG : ((Nat.gcd z.natAbs d : Nat) : Int) = GI at *
  generalize Nat.gcd z.natAbs d = G at *
  generalize d / G = E at *
  generalize z / GI = Z at *
  by_cases hn : y < 0
  · rw [decide_eq_true hn] at e1
    obtain ⟨k1, k2⟩ := kn hn
    have cn1 := sNegL x h1
    have cn2 := sNegL y h2
    rw [k1] at cn1
    rw [k2, I_nat] at cn2
    by_cases hE : E = 1
    · rw [hdn1 hE]
      rw [decide_eq_true hE] at c3
      clear hdn hdn1 kn kp
      repeat (first | refine W_seq ?_ | refine W_reg ?_ | refine W_regd ?_ | refine W_block ?_ | refine And.intro (by omega) ?_ | simp (maxSteps := 1000000) (disch := omega) only [cA, cB, cC, frz_us, binE, unE, boundE, newsE, blkQ, Nat.reduceEqDiff, Nat.reduceLT, Nat.reduceAdd, ↓reduceIte, reduceCtorEq, Nat.reduceLeDiff, I, cS, cT, nbp_over, e1] | refine callC_pure (cs) rfl ?_ | exact W_ret (RetP_1 (.imm rfl)) | exact W_ret (RetP_c rfl rfl rfl (.imm rfl)))
      refine W_cond rfl (fun _ => ?_) (fun h => by cases h)
      repeat (first | refine W_seq ?_ | refine W_reg ?_ | refine W_regd ?_ | refine W_block ?_ | refine And.intro (by omega) ?_ | simp (maxSteps := 1000000) (disch := omega) only [cA, cB, cC, frz_us, binE, unE, boundE, newsE, blkQ, Nat.reduceEqDiff, Nat.reduceLT, Nat.reduceAdd, ↓reduceIte, reduceCtorEq, Nat.reduceLeDiff, I, cS, cT, nbp_over] | refine callC_pure (cn1) rfl ?_ | refine callC_pure (cn2) rfl ?_ | refine callC_pure (cg) rfl ?_ | refine callC_pure (c1) rfl ?_ | refine callC_pure (c2) rfl ?_ | refine callC_pure (c3) rfl ?_ | exact W_ret (RetP_1 (.imm rfl)) | exact W_ret (RetP_c rfl rfl rfl (.imm rfl)))
      refine W_cond rfl (fun _ => ?_) (fun h => by cases h)
      repeat (first | refine W_seq ?_ | refine W_reg ?_ | refine W_regd ?_ | refine W_block ?_ | refine And.intro (by omega) ?_ | simp (maxSteps := 1000000) (disch := omega) only [cA, cB, cC, frz_us, binE, unE, boundE, newsE, blkQ, Nat.reduceEqDiff, Nat.reduceLT, Nat.reduceAdd, ↓reduceIte, reduceCtorEq, Nat.reduceLeDiff, I, cS, cT, nbp_over])
      exact W_ret (RetP_c rfl rfl rfl (Exp_bsn _ _ _ _ rfl))
    · rw [hdn hE]
      rw [decide_eq_false hE] at c3
      clear hdn hdn1 kn kp
      repeat (first | refine W_seq ?_ | refine W_reg ?_ | refine W_regd ?_ | refine W_block ?_ | refine And.intro (by omega) ?_ | simp (maxSteps := 1000000) (disch := omega) only [cA, cB, cC, frz_us, binE, unE, boundE, newsE, blkQ, Nat.reduceEqDiff, Nat.reduceLT, Nat.reduceAdd, ↓reduceIte, reduceCtorEq, Nat.reduceLeDiff, I, cS, cT, nbp_over, e1] | refine callC_pure (cs) rfl ?_ | exact W_ret (RetP_1 (.imm rfl)) | exact W_ret (RetP_c rfl rfl rfl (.imm rfl)))
      refine W_cond rfl (fun _ => ?_) (fun h => by cases h)
      repeat (first | refine W_seq ?_ | refine W_reg ?_ | refine W_regd ?_ | refine W_block ?_ | refine And.intro (by omega) ?_ | simp (maxSteps := 1000000) (disch := omega) only [cA, cB, cC, frz_us, binE, unE, boundE, newsE, blkQ, Nat.reduceEqDiff, Nat.reduceLT, Nat.reduceAdd, ↓reduceIte, reduceCtorEq, Nat.reduceLeDiff, I, cS, cT, nbp_over] | refine callC_pure (cn1) rfl ?_ | refine callC_pure (cn2) rfl ?_ | refine callC_pure (cg) rfl ?_ | refine callC_pure (c1) rfl ?_ | refine callC_pure (c2) rfl ?_ | refine callC_pure (c3) rfl ?_ | exact W_ret (RetP_1 (.imm rfl)) | exact W_ret (RetP_c rfl rfl rfl (.imm rfl)))
      refine W_cond rfl (fun h => by cases h) (fun _ => W_skip ?_)
      repeat (first | refine W_seq ?_ | refine W_reg ?_ | refine W_regd ?_ | refine W_block ?_ | refine And.intro (by omega) ?_ | simp (maxSteps := 1000000) (disch := omega) only [cA, cB, cC, frz_us, binE, unE, boundE, newsE, blkQ, Nat.reduceEqDiff, Nat.reduceLT, Nat.reduceAdd, ↓reduceIte, reduceCtorEq, Nat.reduceLeDiff, I, cS, cT, nbp_over])
      exact W_ret (RetP_c rfl rfl rfl (.imm rfl))
  · rw [decide_eq_false hn] at e1
    obtain ⟨k1, k2⟩ := kp hn
    subst k1
    rw [k2, I_nat]
    rw [k2, I_nat] at cs
    rw [k2] at e1
    by_cases hE : E = 1
    · rw [hdn1 hE]
      rw [decide_eq_true hE] at c3
      clear hdn hdn1 kn kp
      repeat (first | refine W_seq ?_ | refine W_reg ?_ | refine W_regd ?_ | refine W_block ?_ | refine And.intro (by omega) ?_ | simp (maxSteps := 1000000) (disch := omega) only [cA, cB, cC, frz_us, binE, unE, boundE, newsE, blkQ, Nat.reduceEqDiff, Nat.reduceLT, Nat.reduceAdd, ↓reduceIte, reduceCtorEq, Nat.reduceLeDiff, I, cS, cT, nbp_over, e1] | refine callC_pure (cs) rfl ?_ | exact W_ret (RetP_1 (.imm rfl)) | exact W_ret (RetP_c rfl rfl rfl (.imm rfl)))
      refine W_cond rfl (fun h => by cases h) (fun _ => W_skip ?_)
      repeat (first | refine W_seq ?_ | refine W_reg ?_ | refine W_regd ?_ | refine W_block ?_ | refine And.intro (by omega) ?_ | simp (maxSteps := 1000000) (disch := omega) only [cA, cB, cC, frz_us, binE, unE, boundE, newsE, blkQ, Nat.reduceEqDiff, Nat.reduceLT, Nat.reduceAdd, ↓reduceIte, reduceCtorEq, Nat.reduceLeDiff, I, cS, cT, nbp_over] | refine callC_pure (cg) rfl ?_ | refine callC_pure (c1) rfl ?_ | refine callC_pure (c2) rfl ?_ | refine callC_pure (c3) rfl ?_ | exact W_ret (RetP_1 (.imm rfl)) | exact W_ret (RetP_c rfl rfl rfl (.imm rfl)))
      refine W_cond rfl (fun _ => ?_) (fun h => by cases h)
      repeat (first | refine W_seq ?_ | refine W_reg ?_ | refine W_regd ?_ | refine W_block ?_ | refine And.intro (by omega) ?_ | simp (maxSteps := 1000000) (disch := omega) only [cA, cB, cC, frz_us, binE, unE, boundE, newsE, blkQ, Nat.reduceEqDiff, Nat.reduceLT, Nat.reduceAdd, ↓reduceIte, reduceCtorEq, Nat.reduceLeDiff, I, cS, cT, nbp_over])
      exact W_ret (RetP_c rfl rfl rfl (Exp_bsn _ _ _ _ rfl))
    · rw [hdn hE]
      rw [decide_eq_false hE] at c3
      clear hdn hdn1 kn kp
      repeat (first | refine W_seq ?_ | refine W_reg ?_ | refine W_regd ?_ | refine W_block ?_ | refine And.intro (by omega) ?_ | simp (maxSteps := 1000000) (disch := omega) only [cA, cB, cC, frz_us, binE, unE, boundE, newsE, blkQ, Nat.reduceEqDiff, Nat.reduceLT, Nat.reduceAdd, ↓reduceIte, reduceCtorEq, Nat.reduceLeDiff, I, cS, cT, nbp_over, e1] | refine callC_pure (cs) rfl ?_ | exact W_ret (RetP_1 (.imm rfl)) | exact W_ret (RetP_c rfl rfl rfl (.imm rfl)))
      refine W_cond rfl (fun h => by cases h) (fun _ => W_skip ?_)
      repeat (first | refine W_seq ?_ | refine W_reg ?_ | refine W_regd ?_ | refine W_block ?_ | refine And.intro (by omega) ?_ | simp (maxSteps := 1000000) (disch := omega) only [cA, cB, cC, frz_us, binE, unE, boundE, newsE, blkQ, Nat.reduceEqDiff, Nat.reduceLT, Nat.reduceAdd, ↓reduceIte, reduceCtorEq, Nat.reduceLeDiff, I, cS, cT, nbp_over] | refine callC_pure (cg) rfl ?_ | refine callC_pure (c1) rfl ?_ | refine callC_pure (c2) rfl ?_ | refine callC_pure (c3) rfl ?_ | exact W_ret (RetP_1 (.imm rfl)) | exact W_ret (RetP_c rfl rfl rfl (.imm rfl)))
      refine W_cond rfl (fun h => by cases h) (fun _ => W_skip ?_)
      repeat (first | refine W_seq ?_ | refine W_reg ?_ | refine W_regd ?_ | refine W_block ?_ | refine And.intro (by omega) ?_ | simp (maxSteps := 1000000) (disch := omega) only [cA, cB, cC, frz_us, binE, unE, boundE, newsE, blkQ, Nat.reduceEqDiff, Nat.reduceLT, Nat.reduceAdd, ↓reduceIte, reduceCtorEq, Nat.reduceLeDiff, I, cS, cT, nbp_over])
      exact W_ret (RetP_c rfl rfl rfl (.imm rfl))
end Go.Proofs.YteiagmmfapbaiaaGreatDoor
namespace Go.Proofs.YteiagmmfapbaiaaGreatDoor
open Go Go.Dat Go.Proofs Nat32
open Go.Lib (decDigits)
theorem pFromInt_calls (v : Int) (h1 : -9223372036854775808 ≤ v) (h2 : v ≤ 9223372036854775807) : PCalls Tryz.prog 47 [.int .i64 v] (Q (v : Rat)) := by
  have ci := sFromInt_calls v h1 h2
  rw [Q_int]
  refine PCalls_of ispFromInt (by simp [fnpFromInt]) ?_
  unfold codepFromInt
  repeat (first | refine W_seq ?_ | refine W_reg ?_ | refine W_regd ?_ | refine W_block ?_ | refine And.intro (by omega) ?_ | simp (maxSteps := 1000000) (disch := omega) only [cA, cB, cC, frz_us, binE, unE, boundE, newsE, blkQ, Nat.reduceEqDiff, Nat.reduceLT, Nat.reduceAdd, ↓reduceIte, reduceCtorEq, Nat.reduceLeDiff, I, cS, cT, nbpFromInt] | refine callC_pure (ci) rfl ?_ | exact W_ret (RetP_1 (.imm rfl)) | exact W_ret (RetP_c rfl rfl rfl (.imm rfl)))
  exact W_ret (RetP_c rfl rfl rfl (Exp_bsn _ _ _ _ rfl))
theorem pSign_calls (neg : Bool) (a d : List Nat) (ha : a.length ≤ 900) (hd : d.length ≤ 900) (la : lim a) (ld : lim d) : PCalls Tryz.prog 40 [XQ neg a d] (.int .i64 (rv neg a d).num.sign) := by
  have v1 := pTake_calls neg a d ha hd la ld
  have k1 : RB (rv neg a d) 900 := RB_rv la ld ha hd (by decide)
  generalize rv neg a d = x at *
  have cs := sSignL x.num k1.1
  refine PCalls_of ispSign (by simp [fnpSign]) ?_
  unfold codepSign
  repeat (first | refine W_seq ?_ | refine W_reg ?_ | refine W_regd ?_ | refine W_block ?_ | refine And.intro (by omega) ?_ | simp (maxSteps := 1000000) (disch := omega) only [cA, cB, cC, frz_us, binE, unE, boundE, newsE, blkQ, Nat.reduceEqDiff, Nat.reduceLT, Nat.reduceAdd, ↓reduceIte, reduceCtorEq, Nat.reduceLeDiff, XQ, Q, cS, cT, nbpSign] | refine callC_pure (v1) rfl ?_ | refine callC_pure (cs) rfl ?_ | exact W_ret (RetP_1 (.imm rfl)) | exact W_ret (RetP_c rfl rfl rfl (.imm rfl)))
theorem pSignL (x : Rat) (h1 : RB x 900) : PCalls Tryz.prog 40 [Q x] (.int .i64 x.num.sign) := by
  have := pSign_calls (decide (x.num < 0)) (limbs x.num.natAbs) (dn x.den) h1.1 (RB_dn h1) (lim_limbs _) (lim_dn _)
  rwa [rv_Q] at this
theorem pNeg_calls (neg : Bool) (a d : List Nat) (ha : a.length ≤ 900) (hd : d.length ≤ 900) (la : lim a) (ld : lim d) : PCalls Tryz.prog 49 [XQ neg a d] (Q (-(rv neg a d))) := by
  have v1 := pTake_calls neg a d ha hd la ld
  have k1 : RB (rv neg a d) 900 := RB_rv la ld ha hd (by decide)
  generalize rv neg a d = x at *
  have cs := sNegL x.num k1.1
  refine PCalls_of ispNeg (by simp [fnpNeg]) ?_
  unfold codepNeg
  repeat (first | refine W_seq ?_ | refine W_reg ?_ | refine W_regd ?_ | refine W_block ?_ | refine And.intro (by omega) ?_ | simp (maxSteps := 1000000) (disch := omega) only [cA, cB, cC, frz_us, binE, unE, boundE, newsE, blkQ, Nat.reduceEqDiff, Nat.reduceLT, Nat.reduceAdd, ↓reduceIte, reduceCtorEq, Nat.reduceLeDiff, XQ, Q, I, cS, cT, nbpNeg] | refine callC_pure (v1) rfl ?_ | refine callC_pure (cs) rfl ?_ | exact W_ret (RetP_1 (.imm rfl)) | exact W_ret (RetP_c rfl rfl rfl (.imm rfl)))
theorem pNegL (x : Rat) (h1 : RB x 900) : PCalls Tryz.prog 49 [Q x] (Q (-x)) := by
  have := pNeg_calls (decide (x.num < 0)) (limbs x.num.natAbs) (dn x.den) h1.1 (RB_dn h1) (lim_limbs _) (lim_dn _)
  rwa [rv_Q] at this
theorem pAbs_calls (neg : Bool) (a d : List Nat) (ha : a.length ≤ 900) (hd : d.length ≤ 900) (la : lim a) (ld : lim d) : PCalls Tryz.prog 50 [XQ neg a d] (Q (absQ (rv neg a d))) := by
  have cs := pSign_calls neg a d ha hd la ld
  have cn := pNeg_calls neg a d ha hd la ld
  have ct := pTake_calls neg a d ha hd la ld
  generalize rv neg a d = x at *
  have e := sign_neg x.num
  refine PCalls_of ispAbs (by simp [fnpAbs]) ?_
  unfold codepAbs absQ
  by_cases h : x.num < 0
  · rw [if_pos h]
    rw [decide_eq_true h] at e
    repeat (first | refine W_seq ?_ | refine W_reg ?_ | refine W_regd ?_ | refine W_block ?_ | refine And.intro (by omega) ?_ | simp (maxSteps := 1000000) (disch := omega) only [cA, cB, cC, frz_us, binE, unE, boundE, newsE, blkQ, Nat.reduceEqDiff, Nat.reduceLT, Nat.reduceAdd, ↓reduceIte, reduceCtorEq, Nat.reduceLeDiff, XQ, Q, cS, cT, nbpAbs, e] | refine callC_pure (cs) rfl ?_ | exact W_ret (RetP_1 (.imm rfl)) | exact W_ret (RetP_c rfl rfl rfl (.imm rfl)))
    refine W_cond rfl (fun _ => ?_) (fun h => by cases h)
    repeat (first | refine W_seq ?_ | refine W_reg ?_ | refine W_regd ?_ | refine W_block ?_ | refine And.intro (by omega) ?_ | simp (maxSteps := 1000000) (disch := omega) only [cA, cB, cC, frz_us, binE, unE, boundE, newsE, blkQ, Nat.reduceEqDiff, Nat.reduceLT, Nat.reduceAdd, ↓reduceIte, reduceCtorEq, Nat.reduceLeDiff, XQ, Q, cS, cT, nbpAbs] | refine callC_pure (cn) rfl ?_ | exact W_ret (RetP_1 (.imm rfl)) | exact W_ret (RetP_c rfl rfl rfl (.imm rfl)))
  · rw [if_neg h]
    rw [decide_eq_false h] at e
    repeat (first | refine W_seq ?_ | refine W_reg ?_ | refine W_regd ?_ | refine W_block ?_ | refine And.intro (by omega) ?_ | simp (maxSteps := 1000000) (disch := omega) only [cA, cB, cC, frz_us, binE, unE, boundE, newsE, blkQ, Nat.reduceEqDiff, Nat.reduceLT, Nat.reduceAdd, ↓reduceIte, reduceCtorEq, Nat.reduceLeDiff, XQ, Q, cS, cT, nbpAbs, e] | refine callC_pure (cs) rfl ?_ | exact W_ret (RetP_1 (.imm rfl)) | exact W_ret (RetP_c rfl rfl rfl (.imm rfl)))
    refine W_cond rfl (fun h => by cases h) (fun _ => W_skip ?_)
    repeat (first | refine W_seq ?_ | refine W_reg ?_ | refine W_regd ?_ | refine W_block ?_ | refine And.intro (by omega) ?_ | simp (maxSteps := 1000000) (disch := omega) only [cA, cB, cC, frz_us, binE, unE, boundE, newsE, blkQ, Nat.reduceEqDiff, Nat.reduceLT, Nat.reduceAdd, ↓reduceIte, reduceCtorEq, Nat.reduceLeDiff, XQ, Q, cS, cT, nbpAbs] | refine callC_pure (ct) rfl ?_ | exact W_ret (RetP_1 (.imm rfl)) | exact W_ret (RetP_c rfl rfl rfl (.imm rfl)))
theorem den_mul_ne (x y : Rat) : ((x.den : Int) * (y.den : Int)) ≠ 0 := Int.mul_ne_zero (by have := x.den_nz; omega) (by have := y.den_nz; omega)
theorem add_divInt (x y : Rat) : Rat.divInt (x.num * y.den + y.num * x.den) ((x.den : Int) * (y.den : Int)) = x + y := by
  rw [Rat.add_def', ← Int.natCast_mul, Rat.divInt_ofNat]
theorem mul_divInt (x y : Rat) : Rat.divInt (x.num * y.num) ((x.den : Int) * (y.den : Int)) = x * y := by
  rw [Rat.mul_def', ← Int.natCast_mul, Rat.divInt_ofNat]
set_option maxHeartbeats 1000000 in
theorem pAdd_calls (n1 : Bool) (a d : List Nat) (n2 : Bool) (b e : List Nat) (ha : a.length ≤ 300) (hd : d.length ≤ 300) (hb : b.length ≤ 300) (he : e.length ≤ 300) (la : lim a) (ld : lim d) (lb : lim b) (le : lim e) :
    PCalls Tryz.prog 34 [XQ n1 a d, XQ n2 b e] (Q (rv n1 a d + rv n2 b e)) := by
  have v1 := pTake_calls n1 a d (by omega) (by omega) la ld
  have v2 := pTake_calls n2 b e (by omega) (by omega) lb le
  have k1 : RB (rv n1 a d) 300 := RB_rv la ld ha hd (by decide)
  have k2 : RB (rv n2 b e) 300 := RB_rv lb le hb he (by decide)
  generalize rv n1 a d = x at *
  generalize rv n2 b e = y at *
  rw [← add_divInt]
  have t1 := sMulL x.num y.den (Nat.le_trans k1.1 (by decide)) (il_nat (Nat.le_trans k2.2 (by decide)))
  have t2 := sMulL y.num x.den (Nat.le_trans k2.1 (by decide)) (il_nat (Nat.le_trans k1.2 (by decide)))
  have t3 := sMulL x.den y.den (il_nat (Nat.le_trans k1.2 (by decide))) (il_nat (Nat.le_trans k2.2 (by decide)))
  have b1 := il_mul k1.1 (il_nat k2.2)
  have b2 := il_mul k2.1 (il_nat k1.2)
  have b4 := il_mul (il_nat k1.2) (il_nat k2.2)
  have b3 := il_add b1 b2
  have ca := sAddL (x.num * y.den) (y.num * x.den) (Nat.le_trans b1 (by decide)) (Nat.le_trans b2 (by decide))
  have cl := p_over_calls (x.num * y.den + y.num * x.den) ((x.den : Int) * (y.den : Int)) (den_mul_ne x y) (Nat.le_trans b3 (by decide)) (Nat.le_trans b4 (by decide))
  have c1 := pDen_calls x (k1.mono (by decide))
  have c2 := pDen_calls y (k2.mono (by decide))
  clear k1 k2 b1 b2 b3 b4
  refine PCalls_of ispAdd (by simp [fnpAdd]) ?_
  unfold codepAdd
  repeat (first | refine W_seq ?_ | refine W_reg ?_ | refine W_regd ?_ | refine W_block ?_ | refine And.intro (by omega) ?_ | simp (maxSteps := 1000000) (disch := omega) only [cA, cB, cC, frz_us, binE, unE, boundE, newsE, blkQ, Nat.reduceEqDiff, Nat.reduceLT, Nat.reduceAdd, ↓reduceIte, reduceCtorEq, Nat.reduceLeDiff, XQ, Q, I, cS, cT, nbpAdd] | refine callC_pure (v1) rfl ?_ | refine callC_pure (v2) rfl ?_ | refine callC_pure (c1) rfl ?_ | refine callC_pure (c2) rfl ?_ | refine callC_pure (t1) rfl ?_ | refine callC_pure (t2) rfl ?_ | refine callC_pure (t3) rfl ?_ | refine callC_pure (ca) rfl ?_ | refine callC_pure (cl) rfl ?_ | exact W_ret (RetP_1 (.imm rfl)) | exact W_ret (RetP_c rfl rfl rfl (.imm rfl)))
theorem pSub_calls (n1 : Bool) (a d : List Nat) (n2 : Bool) (b e : List Nat) (ha : a.length ≤ 300) (hd : d.length ≤ 300) (hb : b.length ≤ 300) (he : e.length ≤ 300) (la : lim a) (ld : lim d) (lb : lim b) (le : lim e) :
    PCalls Tryz.prog 36 [XQ n1 a d, XQ n2 b e] (Q (rv n1 a d - rv n2 b e)) := by
  have cn := pNeg_calls n2 b e (by omega) (by omega) lb le
  have k2 : RB (rv n2 b e) 300 := RB_rv lb le hb he (by decide)
  generalize rv n2 b e = y at *
  have k3 := RB_neg k2
  have ca := pAdd_calls n1 a d (decide ((-y).num < 0)) (limbs (-y).num.natAbs) (dn (-y).den) ha hd k3.1 (RB_dn k3) la ld (lim_limbs _) (lim_dn _)
  rw [rv_Q, ← Rat.sub_eq_add_neg] at ca
  refine PCalls_of ispSub (by simp [fnpSub]) ?_
  unfold codepSub
  repeat (first | refine W_seq ?_ | refine W_reg ?_ | refine W_regd ?_ | refine W_block ?_ | refine And.intro (by omega) ?_ | simp (maxSteps := 1000000) (disch := omega) only [cA, cB, cC, frz_us, binE, unE, boundE, newsE, blkQ, Nat.reduceEqDiff, Nat.reduceLT, Nat.reduceAdd, ↓reduceIte, reduceCtorEq, Nat.reduceLeDiff, XQ, Q, cS, cT, nbpSub] | refine callC_pure (cn) rfl ?_ | refine callC_pure (ca) rfl ?_ | exact W_ret (RetP_1 (.imm rfl)) | exact W_ret (RetP_c rfl rfl rfl (.imm rfl)))
theorem pSubL (x y : Rat) (h1 : RB x 300) (h2 : RB y 300) : PCalls Tryz.prog 36 [Q x, Q y] (Q (x - y)) := by
  have := pSub_calls (decide (x.num < 0)) (limbs x.num.natAbs) (dn x.den) (decide (y.num < 0)) (limbs y.num.natAbs) (dn y.den) h1.1 (RB_dn h1) h2.1 (RB_dn h2) (lim_limbs _) (lim_dn _) (lim_limbs _) (lim_dn _)
  rwa [rv_Q, rv_Q] at this
theorem pCompare_calls (n1 : Bool) (a d : List Nat) (n2 : Bool) (b e : List Nat) (ha : a.length ≤ 300) (hd : d.length ≤ 300) (hb : b.length ≤ 300) (he : e.length ≤ 300) (la : lim a) (ld : lim d) (lb : lim b) (le : lim e) :
    PCalls Tryz.prog 51 [XQ n1 a d, XQ n2 b e] (.int .i64 (cmpQ (rv n1 a d) (rv n2 b e))) := by
  have cn := pSub_calls n1 a d n2 b e ha hd hb he la ld lb le
  have k1 : RB (rv n1 a d) 300 := RB_rv la ld ha hd (by decide)
  have k2 : RB (rv n2 b e) 300 := RB_rv lb le hb he (by decide)
  have cs := pSignL (rv n1 a d - rv n2 b e) ((RB_sub k1 k2).mono (by decide))
  rw [sign_sub] at cs
  generalize rv n1 a d - rv n2 b e = z at *
  generalize cmpQ (rv n1 a d) (rv n2 b e) = c at *
  refine PCalls_of ispCompare (by simp [fnpCompare]) ?_
  unfold codepCompare
  repeat (first | refine W_seq ?_ | refine W_reg ?_ | refine W_regd ?_ | refine W_block ?_ | refine And.intro (by omega) ?_ | simp (maxSteps := 1000000) (disch := omega) only [cA, cB, cC, frz_us, binE, unE, boundE, newsE, blkQ, Nat.reduceEqDiff, Nat.reduceLT, Nat.reduceAdd, ↓reduceIte, reduceCtorEq, Nat.reduceLeDiff, XQ, Q, cS, cT, nbpCompare] | refine callC_pure (cn) rfl ?_ | refine callC_pure (cs) rfl ?_ | exact W_ret (RetP_1 (.imm rfl)) | exact W_ret (RetP_c rfl rfl rfl (.imm rfl)))
theorem pCompareL (x y : Rat) (h1 : RB x 300) (h2 : RB y 300) : PCalls Tryz.prog 51 [Q x, Q y] (.int .i64 (cmpQ x y)) := by
  have := pCompare_calls (decide (x.num < 0)) (limbs x.num.natAbs) (dn x.den) (decide (y.num < 0)) (limbs y.num.natAbs) (dn y.den) h1.1 (RB_dn h1) h2.1 (RB_dn h2) (lim_limbs _) (lim_dn _) (lim_limbs _) (lim_dn _)
  rwa [rv_Q, rv_Q] at this
set_option maxHeartbeats 1000000 in
theorem pMul_calls (n1 : Bool) (a d : List Nat) (n2 : Bool) (b e : List Nat) (ha : a.length ≤ 300) (hd : d.length ≤ 300) (hb : b.length ≤ 300) (he : e.length ≤ 300) (la : lim a) (ld : lim d) (lb : lim b) (le : lim e) :
    PCalls Tryz.prog 38 [XQ n1 a d, XQ n2 b e] (Q (rv n1 a d * rv n2 b e)) := by
  have v1 := pTake_calls n1 a d (by omega) (by omega) la ld
  have v2 := pTake_calls n2 b e (by omega) (by omega) lb le
  have k1 : RB (rv n1 a d) 300 := RB_rv la ld ha hd (by decide)
  have k2 : RB (rv n2 b e) 300 := RB_rv lb le hb he (by decide)
  generalize rv n1 a d = x at *
  generalize rv n2 b e = y at *
  rw [← mul_divInt]
  have t1 := sMulL x.num y.num (Nat.le_trans k1.1 (by decide)) (Nat.le_trans k2.1 (by decide))
  have t3 := sMulL x.den y.den (il_nat (Nat.le_trans k1.2 (by decide))) (il_nat (Nat.le_trans k2.2 (by decide)))
  have b1 := il_mul k1.1 k2.1
  have b4 := il_mul (il_nat k1.2) (il_nat k2.2)
  have cl := p_over_calls (x.num * y.num) ((x.den : Int) * (y.den : Int)) (den_mul_ne x y) (Nat.le_trans b1 (by decide)) (Nat.le_trans b4 (by decide))
  have c1 := pDen_calls x (k1.mono (by decide))
  have c2 := pDen_calls y (k2.mono (by decide))
  clear k1 k2 b1 b4
  refine PCalls_of ispMul (by simp [fnpMul]) ?_
  unfold codepMul
  repeat (first | refine W_seq ?_ | refine W_reg ?_ | refine W_regd ?_ | refine W_block ?_ | refine And.intro (by omega) ?_ | simp (maxSteps := 1000000) (disch := omega) only [cA, cB, cC, frz_us, binE, unE, boundE, newsE, blkQ, Nat.reduceEqDiff, Nat.reduceLT, Nat.reduceAdd, ↓reduceIte, reduceCtorEq, Nat.reduceLeDiff, XQ, Q, I, cS, cT, nbpMul] | refine callC_pure (v1) rfl ?_ | refine callC_pure (v2) rfl ?_ | refine callC_pure (c1) rfl ?_ | refine callC_pure (c2) rfl ?_ | refine callC_pure (t1) rfl ?_ | refine callC_pure (t3) rfl ?_ | refine callC_pure (cl) rfl ?_ | exact W_ret (RetP_1 (.imm rfl)) | exact W_ret (RetP_c rfl rfl rfl (.imm rfl)))
theorem pMulL (x y : Rat) (h1 : RB x 300) (h2 : RB y 300) : PCalls Tryz.prog 38 [Q x, Q y] (Q (x * y)) := by
  have := pMul_calls (decide (x.num < 0)) (limbs x.num.natAbs) (dn x.den) (decide (y.num < 0)) (limbs y.num.natAbs) (dn y.den) h1.1 (RB_dn h1) h2.1 (RB_dn h2) (lim_limbs _) (lim_dn _) (lim_limbs _) (lim_dn _)
  rwa [rv_Q, rv_Q] at this
theorem num_ne {y : Rat} (h : y ≠ 0) : y.num ≠ 0 := fun e => h (Rat.num_eq_zero.1 e)
set_option maxHeartbeats 1000000 in
theorem pQuo_calls (n1 : Bool) (a d : List Nat) (n2 : Bool) (b e : List Nat) (hy : rv n2 b e ≠ 0) (ha : a.length ≤ 300) (hd : d.length ≤ 300) (hb : b.length ≤ 300) (he : e.length ≤ 300) (la : lim a) (ld : lim d) (lb : lim b) (le : lim e) :
    PCalls Tryz.prog 94 [XQ n1 a d, XQ n2 b e] (Q (rv n1 a d / rv n2 b e)) := by
  have v1 := pTake_calls n1 a d (by omega) (by omega) la ld
  have v2 := pTake_calls n2 b e (by omega) (by omega) lb le
  have k1 : RB (rv n1 a d) 300 := RB_rv la ld ha hd (by decide)
  have k2 : RB (rv n2 b e) 300 := RB_rv lb le hb he (by decide)
  generalize rv n1 a d = x at *
  generalize rv n2 b e = y at *
  rw [← rat_quo]
  have t1 := sMulL x.num y.den (Nat.le_trans k1.1 (by decide)) (il_nat (Nat.le_trans k2.2 (by decide)))
  have t3 := sMulL x.den y.num (il_nat (Nat.le_trans k1.2 (by decide))) (Nat.le_trans k2.1 (by decide))
  have b1 := il_mul k1.1 (il_nat k2.2)
  have b4 := il_mul (il_nat k1.2) k2.1
  have cl := p_over_calls (x.num * y.den) ((x.den : Int) * y.num) (Int.mul_ne_zero (by have := x.den_nz; omega) (num_ne hy)) (Nat.le_trans b1 (by decide)) (Nat.le_trans b4 (by decide))
  have c1 := pDen_calls x (k1.mono (by decide))
  have c2 := pDen_calls y (k2.mono (by decide))
  clear k1 k2 b1 b4
  refine PCalls_of ispQuo (by simp [fnpQuo]) ?_
  unfold codepQuo
  repeat (first | refine W_seq ?_ | refine W_reg ?_ | refine W_regd ?_ | refine W_block ?_ | refine And.intro (by omega) ?_ | simp (maxSteps := 1000000) (disch := omega) only [cA, cB, cC, frz_us, binE, unE, boundE, newsE, blkQ, Nat.reduceEqDiff, Nat.reduceLT, Nat.reduceAdd, ↓reduceIte, reduceCtorEq, Nat.reduceLeDiff, XQ, Q, I, cS, cT, nbpQuo] | refine callC_pure (v1) rfl ?_ | refine callC_pure (v2) rfl ?_ | refine callC_pure (c1) rfl ?_ | refine callC_pure (c2) rfl ?_ | refine callC_pure (t1) rfl ?_ | refine callC_pure (t3) rfl ?_ | refine callC_pure (cl) rfl ?_ | exact W_ret (RetP_1 (.imm rfl)) | exact W_ret (RetP_c rfl rfl rfl (.imm rfl)))
theorem pQuoL (x y : Rat) (hy : y ≠ 0) (h1 : RB x 300) (h2 : RB y 300) : PCalls Tryz.prog 94 [Q x, Q y] (Q (x / y)) := by
  have := pQuo_calls (decide (x.num < 0)) (limbs x.num.natAbs) (dn x.den) (decide (y.num < 0)) (limbs y.num.natAbs) (dn y.den) (by rw [rv_Q]; exact hy) h1.1 (RB_dn h1) h2.1 (RB_dn h2) (lim_limbs _) (lim_dn _) (lim_limbs _) (lim_dn _)
  rwa [rv_Q, rv_Q] at this
theorem pFloor_calls (neg : Bool) (a d : List Nat) (ha : a.length ≤ 900) (hd : d.length ≤ 900) (la : lim a) (ld : lim d) : PCalls Tryz.prog 53 [XQ neg a d] (I (rv neg a d).floor) := by
  have v1 := pTake_calls neg a d ha hd la ld
  have k1 : RB (rv neg a d) 900 := RB_rv la ld ha hd (by decide)
  generalize rv neg a d = x at *
  have c1 := pDen_calls x (k1.mono (by decide))
  have cd := sDivL x.num (x.den : Int) k1.1 (il_nat k1.2)
  rw [← Rat.floor_def] at cd
  refine PCalls_of ispFloor (by simp [fnpFloor]) ?_
  unfold codepFloor
  repeat (first | refine W_seq ?_ | refine W_reg ?_ | refine W_regd ?_ | refine W_block ?_ | refine And.intro (by omega) ?_ | simp (maxSteps := 1000000) (disch := omega) only [cA, cB, cC, frz_us, binE, unE, boundE, newsE, blkQ, Nat.reduceEqDiff, Nat.reduceLT, Nat.reduceAdd, ↓reduceIte, reduceCtorEq, Nat.reduceLeDiff, XQ, Q, X, I, cS, cT, nbpFloor] | refine callC_pure (v1) rfl ?_ | refine callC_pure (c1) rfl ?_ | refine callC_pure (cd) rfl ?_ | exact W_ret (RetP_1 (.imm rfl)) | exact W_ret (RetP_c rfl rfl rfl (.imm rfl)))
theorem pFloorL (x : Rat) (h1 : RB x 900) : PCalls Tryz.prog 53 [Q x] (I x.floor) := by
  have := pFloor_calls (decide (x.num < 0)) (limbs x.num.natAbs) (dn x.den) h1.1 (RB_dn h1) (lim_limbs _) (lim_dn _)
  rwa [rv_Q] at this
theorem limbs_inj {x y : Nat} (h : limbs x = limbs y) : x = y := by
  have := congrArg vn h; rwa [vn_limbs, vn_limbs] at this
theorem sSameG (x y : Int) (h1 : il x ≤ 900) (h2 : il y ≤ 900) : PCalls Tryz.prog 27 [I x, I y] (.bool (decide (x = y))) := by
  have ss := rSame_calls (limbs x.natAbs) (limbs y.natAbs) (Nat.le_trans h1 (by decide)) (Nat.le_trans h2 (by decide))
  refine PCalls_of issSame (by simp [fnsSame]) ?_
  unfold codesSame
  by_cases hb : decide (x < 0) = decide (y < 0)
  · have e : decide (limbs x.natAbs = limbs y.natAbs) = decide (x = y) := by
      rw [decide_eq_decide] at hb ⊢
      constructor
      · intro h
        have := limbs_inj h
        by_cases hx : x < 0
        · have := hb.1 hx; omega
        · have : ¬ y < 0 := fun k => hx (hb.2 k); omega
      · rintro rfl; rfl
    have hbb : (decide (x < 0) == decide (y < 0)) = true := by rw [hb]; simp
    rw [e] at ss
    repeat (first | refine W_seq ?_ | refine W_reg ?_ | refine W_regd ?_ | refine W_block ?_ | refine And.intro (by omega) ?_ | simp (maxSteps := 1000000) (disch := omega) only [cA, cB, cC, frz_us, binE, unE, boundE, newsE, blkQ, Nat.reduceEqDiff, Nat.reduceLT, Nat.reduceAdd, ↓reduceIte, reduceCtorEq, Nat.reduceLeDiff, I, cS, nbsSame, hbb] | refine callC_pure (ss) rfl ?_ | exact W_ret (RetP_1 (.imm rfl)) | exact W_ret (RetP_c rfl rfl rfl (.imm rfl)))
  · have hbb : (decide (x < 0) == decide (y < 0)) = false := by simpa using hb
    have e : decide (x = y) = false := decide_eq_false (fun h => hb (by rw [h]))
    rw [e]
    repeat (first | refine W_seq ?_ | refine W_reg ?_ | refine W_regd ?_ | refine W_block ?_ | refine And.intro (by omega) ?_ | simp (maxSteps := 1000000) (disch := omega) only [cA, cB, cC, frz_us, binE, unE, boundE, newsE, blkQ, Nat.reduceEqDiff, Nat.reduceLT, Nat.reduceAdd, ↓reduceIte, reduceCtorEq, Nat.reduceLeDiff, I, cS, nbsSame, hbb] | refine callC_pure (ss) rfl ?_ | exact W_ret (RetP_1 (.imm rfl)) | exact W_ret (RetP_c rfl rfl rfl (.imm rfl)))
theorem dn_inj {d e : Nat} (hd : d ≠ 0) (he : e ≠ 0) (h : dn d = dn e) : d = e := by
  by_cases h1 : d = 1
  · have : (dn e).length = 0 := by rw [← h, h1]; rfl
    rw [h1, (dn_len0 he).1 this]
  · by_cases h2 : e = 1
    · have : (dn d).length = 0 := by rw [h, h2]; rfl
      exact absurd ((dn_len0 hd).1 this) h1
    · unfold dn at h
      rw [if_neg h1, if_neg h2] at h
      exact limbs_inj h
theorem pSameL (x y : Rat) (h1 : RB x 900) (h2 : RB y 900) : PCalls Tryz.prog 16 [Q x, Q y] (.bool (decide (x = y))) := by
  have c1 := sSameG x.num y.num h1.1 h2.1
  have c2 := rSame_calls (dn x.den) (dn y.den) (Nat.le_trans (RB_dn h1) (by decide)) (Nat.le_trans (RB_dn h2) (by decide))
  refine PCalls_of ispSame (by simp [fnpSame]) ?_
  unfold codepSame
  by_cases hn : x.num = y.num
  · rw [decide_eq_true hn] at c1
    have e : decide (dn x.den = dn y.den) = decide (x = y) := by
      rw [decide_eq_decide]
      exact ⟨fun h => Rat.ext hn (dn_inj x.den_nz y.den_nz h), fun h => by rw [h]⟩
    rw [e] at c2
    repeat (first | refine W_seq ?_ | refine W_reg ?_ | refine W_regd ?_ | refine W_block ?_ | refine And.intro (by omega) ?_ | simp (maxSteps := 1000000) (disch := omega) only [cA, cB, cC, frz_us, binE, unE, boundE, newsE, blkQ, Nat.reduceEqDiff, Nat.reduceLT, Nat.reduceAdd, ↓reduceIte, reduceCtorEq, Nat.reduceLeDiff, Q, cS, cT, nbpSame] | refine callC_pure (c1) rfl ?_ | refine callC_pure (c2) rfl ?_ | exact W_ret (RetP_1 (.imm rfl)) | exact W_ret (RetP_c rfl rfl rfl (.imm rfl)))
  · rw [decide_eq_false hn] at c1
    rw [decide_eq_false (show ¬ x = y from fun h => hn (by rw [h]))]
    repeat (first | refine W_seq ?_ | refine W_reg ?_ | refine W_regd ?_ | refine W_block ?_ | refine And.intro (by omega) ?_ | simp (maxSteps := 1000000) (disch := omega) only [cA, cB, cC, frz_us, binE, unE, boundE, newsE, blkQ, Nat.reduceEqDiff, Nat.reduceLT, Nat.reduceAdd, ↓reduceIte, reduceCtorEq, Nat.reduceLeDiff, Q, cS, cT, nbpSame] | refine callC_pure (c1) rfl ?_ | refine callC_pure (c2) rfl ?_ | exact W_ret (RetP_1 (.imm rfl)) | exact W_ret (RetP_c rfl rfl rfl (.imm rfl)))
theorem pSameT (x : Rat) (h1 : RB x 900) : PCalls Tryz.prog 16 [Q x, Q x] (.bool true) := by
  have := pSameL x x h1 h1
  rwa [decide_eq_true rfl] at this
end Go.Proofs.YteiagmmfapbaiaaGreatDoor
