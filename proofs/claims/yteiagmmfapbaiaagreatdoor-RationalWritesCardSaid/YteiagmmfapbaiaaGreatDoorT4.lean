/- Lemmas of the walk; no conditions beyond those that each states. -/
import Derived.Test.YteiagmmfapbaiaaGreatDoorT3
set_option linter.unusedSimpArgs false
set_option linter.unusedVariables false
set_option linter.unnecessarySimpa false
namespace Go.Proofs.YteiagmmfapbaiaaGreatDoor
open Go Go.Dat Go.Proofs Nat32 Go.RowKit
open Go.Lib (decDigits repeatL)
theorem dd_le {n m : Nat} (h : (limbs n).length ≤ m) : (decDigits n).length ≤ 10 * m + 1 := Nat.le_trans (dd_limbs h) (by omega)
theorem qFormat_calls (neg : Bool) (a d : List Nat) (ha : a.length ≤ 800) (hd : d.length ≤ 800) (la : lim a) (ld : lim d) : PCalls Tryz.prog 20 [XQ neg a d] (.str (fmtQ (rv neg a d))) := by
  have v1 := q_value_calls neg a d (by omega) (by omega) la ld
  have k1 : RB (rv neg a d) 800 := RB_rv la ld ha hd (by decide)
  generalize rv neg a d = r at *
  have c1 := iFormat_calls (decide (r.num < 0)) (limbs r.num.natAbs) (Nat.le_trans k1.1 (by decide)) (lim_limbs _)
  rw [iv_I, show fmtI r.num = fmtZ r.num from rfl] at c1
  have c2 := nFormat_calls (dn r.den) (Nat.le_trans (RB_dn k1) (by decide)) (lim_dn _)
  have kd := dk1 r
  have kg : decide ((0 : Int) < ((dn r.den).length : Int)) = !decide (r.den = 1) := by
    rw [← kd]
    by_cases h : ((dn r.den).length : Int) = 0
    · rw [decide_eq_true h, decide_eq_false (by omega)]; rfl
    · rw [decide_eq_false h, decide_eq_true (by omega)]; rfl
  have l1 : (fmtZ r.num).length ≤ 8002 := by
    have := dd_le k1.1
    unfold fmtZ; split
    · simp; omega
    · omega
  have l2 := dd_le k1.2
  refine PCalls_of isqFormat (by simp [fnqFormat]) ?_
  unfold codeqFormat fmtQ
  by_cases h : r.den = 1
  · rw [decide_eq_true h] at kg
    rw [if_pos h, List.append_nil]
    generalize fmtZ r.num = S at *
    clear l2 kd k1
    repeat (first | refine W_seq ?_ | refine W_reg ?_ | refine W_regd ?_ | refine W_block ?_ | refine And.intro (by omega) ?_ | simp (maxSteps := 1000000) (disch := omega) only [cA, cB, cC, frz_us, binE, unE, boundE, newsE, blkQ, Nat.reduceEqDiff, Nat.reduceLT, Nat.reduceAdd, ↓reduceIte, reduceCtorEq, Nat.reduceLeDiff, XQ, Q, cS, cT, nbqFormat, us_length, kg, Bool.not_true] | refine callC_pure (v1) rfl ?_ | refine callC_pure (c1) rfl ?_ | exact W_ret (RetP_1 (.imm rfl)) | exact W_ret (RetP_c rfl rfl rfl (.imm rfl)))
    refine W_cond rfl (fun h => by cases h) (fun _ => W_skip ?_)
    repeat (first | refine W_seq ?_ | refine W_reg ?_ | refine W_regd ?_ | refine W_block ?_ | refine And.intro (by omega) ?_ | simp (maxSteps := 1000000) (disch := omega) only [cA, cB, cC, frz_us, binE, unE, boundE, newsE, blkQ, Nat.reduceEqDiff, Nat.reduceLT, Nat.reduceAdd, ↓reduceIte, reduceCtorEq, Nat.reduceLeDiff, cS])
    exact W_ret (RetP_1 (.imm rfl))
  · rw [decide_eq_false h] at kg
    rw [if_neg h]
    rw [vn_dn h] at c2
    generalize fmtZ r.num = S at *
    generalize decDigits r.den = D at *
    clear kd k1
    have e : [(47 : UInt8)] ++ D = 47 :: D := rfl
    repeat (first | refine W_seq ?_ | refine W_reg ?_ | refine W_regd ?_ | refine W_block ?_ | refine And.intro (by omega) ?_ | simp (maxSteps := 1000000) (disch := omega) only [cA, cB, cC, frz_us, binE, unE, boundE, newsE, blkQ, Nat.reduceEqDiff, Nat.reduceLT, Nat.reduceAdd, ↓reduceIte, reduceCtorEq, Nat.reduceLeDiff, XQ, Q, cS, cT, nbqFormat, us_length, kg, Bool.not_false] | refine callC_pure (v1) rfl ?_ | refine callC_pure (c1) rfl ?_ | exact W_ret (RetP_1 (.imm rfl)) | exact W_ret (RetP_c rfl rfl rfl (.imm rfl)))
    refine W_cond rfl (fun _ => ?_) (fun h => by cases h)
    repeat (first | refine W_seq ?_ | refine W_reg ?_ | refine W_regd ?_ | refine W_block ?_ | refine And.intro (by omega) ?_ | simp (maxSteps := 1000000) (disch := omega) only [cA, cB, cC, frz_us, binE, unE, boundE, newsE, blkQ, Nat.reduceEqDiff, Nat.reduceLT, Nat.reduceAdd, ↓reduceIte, reduceCtorEq, Nat.reduceLeDiff, cS, e, List.length_cons, List.length_singleton] | refine callC_pure (c2) rfl ?_ | exact W_ret (RetP_1 (.imm rfl)) | exact W_ret (RetP_c rfl rfl rfl (.imm rfl)))
theorem qFormatL (r : Rat) (h : RB r 800) : PCalls Tryz.prog 20 [Q r] (.str (fmtQ r)) := by
  have := qFormat_calls (decide (r.num < 0)) (limbs r.num.natAbs) (dn r.den) h.1 (RB_dn h) (lim_limbs _) (lim_dn _)
  rwa [rv_Q] at this
theorem pFormat_calls (neg : Bool) (a d : List Nat) (ha : a.length ≤ 800) (hd : d.length ≤ 800) (la : lim a) (ld : lim d) : PCalls Tryz.prog 21 [XQ neg a d] (.str (fmtQ (rv neg a d))) := by
  have v1 := pTake_calls neg a d (by omega) (by omega) la ld
  have k1 : RB (rv neg a d) 800 := RB_rv la ld ha hd (by decide)
  generalize rv neg a d = r at *
  have c1 := sFormat_calls (decide (r.num < 0)) (limbs r.num.natAbs) (Nat.le_trans k1.1 (by decide)) (lim_limbs _)
  rw [iv_I, show fmtI r.num = fmtZ r.num from rfl] at c1
  have c2 := rFormat_calls (dn r.den) (Nat.le_trans (RB_dn k1) (by decide)) (lim_dn _)
  have kd := dk1 r
  have l1 : (fmtZ r.num).length ≤ 8002 := by
    have := dd_le k1.1
    unfold fmtZ; split
    · simp; omega
    · omega
  have l2 := dd_le k1.2
  refine PCalls_of ispFormat (by simp [fnpFormat]) ?_
  unfold codepFormat fmtQ
  by_cases h : r.den = 1
  · rw [decide_eq_true h] at kd
    rw [if_pos h, List.append_nil]
    generalize fmtZ r.num = S at *
    clear l2 k1
    repeat (first | refine W_seq ?_ | refine W_reg ?_ | refine W_regd ?_ | refine W_block ?_ | refine And.intro (by omega) ?_ | simp (maxSteps := 1000000) (disch := omega) only [cA, cB, cC, frz_us, binE, unE, boundE, newsE, blkQ, Nat.reduceEqDiff, Nat.reduceLT, Nat.reduceAdd, ↓reduceIte, reduceCtorEq, Nat.reduceLeDiff, XQ, Q, cS, cT, nbpFormat, us_length, kd] | refine callC_pure (v1) rfl ?_ | exact W_ret (RetP_1 (.imm rfl)) | exact W_ret (RetP_c rfl rfl rfl (.imm rfl)))
    refine W_cond rfl (fun _ => ?_) (fun h => by cases h)
    repeat (first | refine W_seq ?_ | refine W_reg ?_ | refine W_regd ?_ | refine W_block ?_ | refine And.intro (by omega) ?_ | simp (maxSteps := 1000000) (disch := omega) only [cA, cB, cC, frz_us, binE, unE, boundE, newsE, blkQ, Nat.reduceEqDiff, Nat.reduceLT, Nat.reduceAdd, ↓reduceIte, reduceCtorEq, Nat.reduceLeDiff, cS] | refine callC_pure (c1) rfl ?_ | exact W_ret (RetP_1 (.imm rfl)) | exact W_ret (RetP_c rfl rfl rfl (.imm rfl)))
  · rw [decide_eq_false h] at kd
    rw [if_neg h]
    rw [vn_dn h] at c2
    generalize fmtZ r.num = S at *
    generalize decDigits r.den = D at *
    clear k1
    have e : (S ++ [47]) ++ D = S ++ 47 :: D := by simp
    repeat (first | refine W_seq ?_ | refine W_reg ?_ | refine W_regd ?_ | refine W_block ?_ | refine And.intro (by omega) ?_ | simp (maxSteps := 1000000) (disch := omega) only [cA, cB, cC, frz_us, binE, unE, boundE, newsE, blkQ, Nat.reduceEqDiff, Nat.reduceLT, Nat.reduceAdd, ↓reduceIte, reduceCtorEq, Nat.reduceLeDiff, XQ, Q, cS, cT, nbpFormat, us_length, kd] | refine callC_pure (v1) rfl ?_ | exact W_ret (RetP_1 (.imm rfl)) | exact W_ret (RetP_c rfl rfl rfl (.imm rfl)))
    refine W_cond rfl (fun h => by cases h) (fun _ => W_skip ?_)
    repeat (first | refine W_seq ?_ | refine W_reg ?_ | refine W_regd ?_ | refine W_block ?_ | refine And.intro (by omega) ?_ | simp (maxSteps := 1000000) (disch := omega) only [cA, cB, cC, frz_us, binE, unE, boundE, newsE, blkQ, Nat.reduceEqDiff, Nat.reduceLT, Nat.reduceAdd, ↓reduceIte, reduceCtorEq, Nat.reduceLeDiff, cS, e, List.length_append, List.length_singleton] | refine callC_pure (c1) rfl ?_ | refine callC_pure (c2) rfl ?_ | exact W_ret (RetP_1 (.imm rfl)) | exact W_ret (RetP_c rfl rfl rfl (.imm rfl)))
    try exact W_ret (RetP_1 (.imm rfl))
def decR (r : Rat) (k : Int) : List UInt8 := if k < 0 ∨ 100 < k then [] else decS r k.toNat
theorem rep_rep (n : Nat) : repeatL [48] n = List.replicate n (48 : UInt8) := by
  induction n with
  | zero => rfl
  | succ n ih => rw [List.replicate_succ, ← ih]; rfl
def tailDec : DC := match codeqDecimal with | .seq _ (.seq _ (.seq _ (.seq _ (.seq _ (.seq _ t))))) => t | _ => .skip
theorem tailDec_W (b : Bool) (a dd : List Nat) (q k : Nat) (hq : (limbs q).length ≤ 900) (hk : k ≤ 100) :
    W fnqDecimal tailDec (RetP resqDecimal (.str (if b && decide (0 < q) then 45 :: pointed k (padz (k + 1) (decDigits q)) else pointed k (padz (k + 1) (decDigits q)))))
      [(1, .int .i64 k), (2, .ptr 2 0), (4, .str []), (5, .sl 1 (us (limbs q)))] [(2, [.bool b, .sl 1 (us a), .sl 1 (us dd)])] := by
  have c1 := nFormat_calls (limbs q) hq (lim_limbs _)
  rw [vn_limbs] at c1
  have hD := dd_le hq
  have hl := len_gt q
  unfold tailDec codeqDecimal
  dsimp only
  generalize decDigits q = D at *
  have c2 := repeatD [48] (k + 1 - D.length) (by simp) (by omega)
  rw [rep_rep] at c2
  repeat (first | refine W_seq ?_ | refine W_reg ?_ | refine W_regd ?_ | refine W_block ?_ | refine And.intro (by omega) ?_ | simp (maxSteps := 1000000) (disch := omega) only [cA, cB, cC, frz_us, binE, unE, boundE, newsE, blkQ, Nat.reduceEqDiff, Nat.reduceLT, Nat.reduceAdd, ↓reduceIte, reduceCtorEq, Nat.reduceLeDiff, cS, cT, nbqDecimal] | refine callC_pure (c1) rfl ?_ | exact W_ret (RetP_1 (.imm rfl)) | exact W_ret (RetP_c rfl rfl rfl (.imm rfl)))
  refine W_join (ι := Unit) (fun _ => True) (fun _ => [(1, .int .i64 k), (2, .ptr 2 0), (4, .str []), (5, .sl 1 (us (limbs q))), (9, .str (padz (k + 1) D))]) (fun _ => [(2, [.bool b, .sl 1 (us a), .sl 1 (us dd)])]) ?_ ?_
  · repeat (first | refine W_seq ?_ | refine W_reg ?_ | refine W_regd ?_ | refine W_block ?_ | refine And.intro (by omega) ?_ | simp (maxSteps := 1000000) (disch := omega) only [cA, cB, cC, frz_us, binE, unE, boundE, newsE, blkQ, Nat.reduceEqDiff, Nat.reduceLT, Nat.reduceAdd, ↓reduceIte, reduceCtorEq, Nat.reduceLeDiff])
    by_cases h : D.length < k + 1
    · have d : decide ((0 : Int) < (k : Int) + 1 - (D.length : Int)) = true := decide_eq_true (by omega)
      have e : (k : Int) + 1 - (D.length : Int) = ((k + 1 - D.length : Nat) : Int) := by omega
      have ep : List.replicate (k + 1 - D.length) 48 ++ D = padz (k + 1) D := rfl
      repeat (first | refine W_seq ?_ | refine W_reg ?_ | refine W_regd ?_ | refine W_block ?_ | refine And.intro (by omega) ?_ | simp (maxSteps := 1000000) (disch := omega) only [cA, cB, cC, frz_us, binE, unE, boundE, newsE, blkQ, Nat.reduceEqDiff, Nat.reduceLT, Nat.reduceAdd, ↓reduceIte, reduceCtorEq, Nat.reduceLeDiff, d])
      refine W_cond rfl (fun _ => ?_) (fun h => by cases h)
      repeat (first | refine W_seq ?_ | refine W_reg ?_ | refine W_regd ?_ | refine W_block ?_ | refine And.intro (by omega) ?_ | simp (maxSteps := 1000000) (disch := omega) only [cA, cB, cC, frz_us, binE, unE, boundE, newsE, blkQ, Nat.reduceEqDiff, Nat.reduceLT, Nat.reduceAdd, ↓reduceIte, reduceCtorEq, Nat.reduceLeDiff, e, List.length_replicate, ep] | refine callC_pure (c2) rfl ?_ | exact W_ret (RetP_1 (.imm rfl)) | exact W_ret (RetP_c rfl rfl rfl (.imm rfl)))
      first | exact ⟨(), trivial, by simp [subF, lk], rfl⟩ | exact ⟨(), by simp [subF, lk], rfl⟩ | exact ⟨(), by simp [subF, lk]⟩ | exact ⟨(), trivial, by simp [subF, lk]⟩
    · have d : decide ((0 : Int) < (k : Int) + 1 - (D.length : Int)) = false := decide_eq_false (by omega)
      have ep : padz (k + 1) D = D := by unfold padz; rw [show k + 1 - D.length = 0 by omega]; rfl
      repeat (first | refine W_seq ?_ | refine W_reg ?_ | refine W_regd ?_ | refine W_block ?_ | refine And.intro (by omega) ?_ | simp (maxSteps := 1000000) (disch := omega) only [cA, cB, cC, frz_us, binE, unE, boundE, newsE, blkQ, Nat.reduceEqDiff, Nat.reduceLT, Nat.reduceAdd, ↓reduceIte, reduceCtorEq, Nat.reduceLeDiff, d])
      refine W_cond rfl (fun h => by cases h) (fun _ => W_skip ?_)
      rw [ep]
      first | exact ⟨(), trivial, by simp [subF, lk], rfl⟩ | exact ⟨(), by simp [subF, lk], rfl⟩ | exact ⟨(), by simp [subF, lk]⟩ | exact ⟨(), trivial, by simp [subF, lk]⟩
  · rintro ⟨⟩ -
    have hp := padz_len (k + 1) D
    generalize padz (k + 1) D = L at *
    clear c1 c2
    have hPl : (pointed k L).length ≤ L.length + 1 := by
      unfold pointed; split
      · simp; omega
      · omega
    refine W_seq (W_join (ι := Unit) (fun _ => True) (fun _ => [(1, .int .i64 k), (2, .ptr 2 0), (4, .str []), (5, .sl 1 (us (limbs q))), (9, .str (pointed k L))]) (fun _ => [(2, [.bool b, .sl 1 (us a), .sl 1 (us dd)])]) ?_ ?_)
    · by_cases h : 0 < k
      · have d : decide ((0 : Int) < (k : Int)) = true := decide_eq_true (by omega)
        have e : (((L.length : Int) - (k : Int))).toNat = L.length - k := by omega
        have e0 : (L.take (L.length - k)).drop 0 = L.take (L.length - k) := rfl
        have ep : (L.take (L.length - k) ++ [46]) ++ L.drop (L.length - k) = pointed k L := by unfold pointed; rw [if_pos h]; simp
        repeat (first | refine W_seq ?_ | refine W_reg ?_ | refine W_regd ?_ | refine W_block ?_ | refine And.intro (by omega) ?_ | simp (maxSteps := 1000000) (disch := omega) only [cA, cB, cC, frz_us, binE, unE, boundE, newsE, blkQ, Nat.reduceEqDiff, Nat.reduceLT, Nat.reduceAdd, ↓reduceIte, reduceCtorEq, Nat.reduceLeDiff, d])
        refine W_cond rfl (fun _ => ?_) (fun h => by cases h)
        repeat (first | refine W_seq ?_ | refine W_reg ?_ | refine W_regd ?_ | refine W_block ?_ | refine And.intro (by omega) ?_ | simp (maxSteps := 1000000) (disch := omega) only [cA, cB, cC, frz_us, binE, unE, boundE, newsE, blkQ, Nat.reduceEqDiff, Nat.reduceLT, Nat.reduceAdd, ↓reduceIte, reduceCtorEq, Nat.reduceLeDiff, e, e0, List.take_length, ep, List.length_append, List.length_take, List.length_drop, List.length_singleton])
        first | exact ⟨(), trivial, by simp [subF, lk], rfl⟩ | exact ⟨(), by simp [subF, lk], rfl⟩ | exact ⟨(), by simp [subF, lk]⟩ | exact ⟨(), trivial, by simp [subF, lk]⟩
      · have d : decide ((0 : Int) < (k : Int)) = false := decide_eq_false (by omega)
        have ep : pointed k L = L := by unfold pointed; rw [if_neg h]
        repeat (first | refine W_seq ?_ | refine W_reg ?_ | refine W_regd ?_ | refine W_block ?_ | refine And.intro (by omega) ?_ | simp (maxSteps := 1000000) (disch := omega) only [cA, cB, cC, frz_us, binE, unE, boundE, newsE, blkQ, Nat.reduceEqDiff, Nat.reduceLT, Nat.reduceAdd, ↓reduceIte, reduceCtorEq, Nat.reduceLeDiff, d])
        refine W_cond rfl (fun h => by cases h) (fun _ => W_skip ?_)
        rw [ep]
        first | exact ⟨(), trivial, by simp [subF, lk], rfl⟩ | exact ⟨(), by simp [subF, lk], rfl⟩ | exact ⟨(), by simp [subF, lk]⟩ | exact ⟨(), trivial, by simp [subF, lk]⟩
    · rintro ⟨⟩ -
      generalize pointed k L = P at *
      have e : [(45 : UInt8)] ++ P = 45 :: P := rfl
      cases b
      · repeat (first | refine W_seq ?_ | refine W_reg ?_ | refine W_regd ?_ | refine W_block ?_ | refine And.intro (by omega) ?_ | simp (maxSteps := 1000000) (disch := omega) only [cA, cB, cC, frz_us, binE, unE, boundE, newsE, blkQ, Nat.reduceEqDiff, Nat.reduceLT, Nat.reduceAdd, ↓reduceIte, reduceCtorEq, Nat.reduceLeDiff, cS, nbqDecimal, us_length, hl])
        refine W_cond rfl (fun h => by cases h) (fun _ => W_skip ?_)
        repeat (first | refine W_seq ?_ | refine W_reg ?_ | refine W_regd ?_ | refine W_block ?_ | refine And.intro (by omega) ?_ | simp (maxSteps := 1000000) (disch := omega) only [cA, cB, cC, frz_us, binE, unE, boundE, newsE, blkQ, Nat.reduceEqDiff, Nat.reduceLT, Nat.reduceAdd, ↓reduceIte, reduceCtorEq, Nat.reduceLeDiff, cS])
        exact W_ret (RetP_1 (.imm rfl))
      · by_cases h : 0 < q
        · rw [decide_eq_true h] at hl ⊢
          repeat (first | refine W_seq ?_ | refine W_reg ?_ | refine W_regd ?_ | refine W_block ?_ | refine And.intro (by omega) ?_ | simp (maxSteps := 1000000) (disch := omega) only [cA, cB, cC, frz_us, binE, unE, boundE, newsE, blkQ, Nat.reduceEqDiff, Nat.reduceLT, Nat.reduceAdd, ↓reduceIte, reduceCtorEq, Nat.reduceLeDiff, cS, nbqDecimal, us_length, hl])
          refine W_cond rfl (fun _ => ?_) (fun h => by cases h)
          repeat (first | refine W_seq ?_ | refine W_reg ?_ | refine W_regd ?_ | refine W_block ?_ | refine And.intro (by omega) ?_ | simp (maxSteps := 1000000) (disch := omega) only [cA, cB, cC, frz_us, binE, unE, boundE, newsE, blkQ, Nat.reduceEqDiff, Nat.reduceLT, Nat.reduceAdd, ↓reduceIte, reduceCtorEq, Nat.reduceLeDiff, cS, e, List.length_singleton])
          exact W_ret (RetP_1 (.imm rfl))
        · rw [decide_eq_false h] at hl ⊢
          repeat (first | refine W_seq ?_ | refine W_reg ?_ | refine W_regd ?_ | refine W_block ?_ | refine And.intro (by omega) ?_ | simp (maxSteps := 1000000) (disch := omega) only [cA, cB, cC, frz_us, binE, unE, boundE, newsE, blkQ, Nat.reduceEqDiff, Nat.reduceLT, Nat.reduceAdd, ↓reduceIte, reduceCtorEq, Nat.reduceLeDiff, cS, nbqDecimal, us_length, hl])
          refine W_cond rfl (fun h => by cases h) (fun _ => W_skip ?_)
          repeat (first | refine W_seq ?_ | refine W_reg ?_ | refine W_regd ?_ | refine W_block ?_ | refine And.intro (by omega) ?_ | simp (maxSteps := 1000000) (disch := omega) only [cA, cB, cC, frz_us, binE, unE, boundE, newsE, blkQ, Nat.reduceEqDiff, Nat.reduceLT, Nat.reduceAdd, ↓reduceIte, reduceCtorEq, Nat.reduceLeDiff, cS])
          exact W_ret (RetP_1 (.imm rfl))
end Go.Proofs.YteiagmmfapbaiaaGreatDoor
namespace Go.Proofs.YteiagmmfapbaiaaGreatDoor
open Go Go.Dat Go.Proofs Nat32 Go.RowKit
open Go.Lib (decDigits repeatL)
theorem cmp_gt (x y : Nat) : decide ((0 : Int) < cmpN x y) = decide (y < x) := by
  rw [decide_eq_decide]; unfold cmpN; (repeat' split) <;> omega
theorem cmp_e0 (x y : Nat) : decide (cmpN x y = 0) = decide (x = y) := by
  rw [decide_eq_decide]; unfold cmpN; (repeat' split) <;> omega
theorem rnd_up {a d : Nat} (h : d < 2 * (a % d) ∨ (2 * (a % d) = d ∧ a / d % 2 = 1)) : rnd a d = a / d + 1 := by unfold rnd; rw [if_pos h]
theorem rnd_dn {a d : Nat} (h : ¬ (d < 2 * (a % d) ∨ (2 * (a % d) = d ∧ a / d % 2 = 1))) : rnd a d = a / d := by unfold rnd; rw [if_neg h]
set_option maxHeartbeats 1000000 in
theorem qDecimal_calls (neg : Bool) (a d : List Nat) (k : Int) (ha : a.length ≤ 700) (hd : d.length ≤ 700) (la : lim a) (ld : lim d) : PCalls Tryz.prog 22 [XQ neg a d, .int .i64 k] (.str (decR (rv neg a d) k)) := by
  have v1 := q_value_calls neg a d (by omega) (by omega) la ld
  have k1 : RB (rv neg a d) 700 := RB_rv la ld ha hd (by decide)
  generalize rv neg a d = r at *
  refine PCalls_of isqDecimal (by simp [fnqDecimal]) ?_
  unfold codeqDecimal decR
  by_cases h0 : k < 0
  · rw [if_pos (.inl h0)]
    have d0 : decide (k < 0) = true := decide_eq_true h0
    repeat (first | refine W_seq ?_ | refine W_reg ?_ | refine W_regd ?_ | refine W_block ?_ | refine And.intro (by omega) ?_ | simp (maxSteps := 1000000) (disch := omega) only [cA, cB, cC, frz_us, binE, unE, boundE, newsE, blkQ, Nat.reduceEqDiff, Nat.reduceLT, Nat.reduceAdd, ↓reduceIte, reduceCtorEq, Nat.reduceLeDiff, XQ, cS, nbqDecimal, d0])
    refine W_cond rfl (fun _ => ?_) (fun h => by cases h)
    repeat (first | refine W_seq ?_ | refine W_reg ?_ | refine W_regd ?_ | refine W_block ?_ | refine And.intro (by omega) ?_ | simp (maxSteps := 1000000) (disch := omega) only [cA, cB, cC, frz_us, binE, unE, boundE, newsE, blkQ, Nat.reduceEqDiff, Nat.reduceLT, Nat.reduceAdd, ↓reduceIte, reduceCtorEq, Nat.reduceLeDiff])
    exact W_ret (RetP_1 (.imm rfl))
  · have d0 : decide (k < 0) = false := decide_eq_false h0
    by_cases h1 : 100 < k
    · rw [if_pos (.inr h1)]
      have d1 : decide (100 < k) = true := decide_eq_true h1
      repeat (first | refine W_seq ?_ | refine W_reg ?_ | refine W_regd ?_ | refine W_block ?_ | refine And.intro (by omega) ?_ | simp (maxSteps := 1000000) (disch := omega) only [cA, cB, cC, frz_us, binE, unE, boundE, newsE, blkQ, Nat.reduceEqDiff, Nat.reduceLT, Nat.reduceAdd, ↓reduceIte, reduceCtorEq, Nat.reduceLeDiff, XQ, cS, nbqDecimal, d0, d1])
      refine W_cond rfl (fun _ => ?_) (fun h => by cases h)
      repeat (first | refine W_seq ?_ | refine W_reg ?_ | refine W_regd ?_ | refine W_block ?_ | refine And.intro (by omega) ?_ | simp (maxSteps := 1000000) (disch := omega) only [cA, cB, cC, frz_us, binE, unE, boundE, newsE, blkQ, Nat.reduceEqDiff, Nat.reduceLT, Nat.reduceAdd, ↓reduceIte, reduceCtorEq, Nat.reduceLeDiff])
      exact W_ret (RetP_1 (.imm rfl))
    · rw [if_neg (by omega)]
      have d1 : decide (100 < k) = false := decide_eq_false h1
      obtain ⟨n, rfl⟩ : ∃ n : Nat, k = n := ⟨k.toNat, by omega⟩
      rw [Int.toNat_natCast]
      have hn : n ≤ 100 := by omega
      have ct := q_ten_calls n (by omega)
      have tl := ten_len n
      have cm := nMulL r.num.natAbs (10 ^ n) (Nat.le_trans k1.1 (by decide)) (by omega)
      have ml := len_mul k1.1 tl
      have cd := q_den_calls r
      have hdl := k1.2
      have hd0 := r.den_pos
      have ht := tailDec_W (decide (r.num < 0)) (limbs r.num.natAbs) (dn r.den) (rnd (r.num.natAbs * 10 ^ n) r.den) n (Nat.le_trans (rnd_len (m := 801) (by omega)) (by decide)) hn
      have hres : decS r n = (if decide (r.num < 0) && decide (0 < rnd (r.num.natAbs * 10 ^ n) r.den) then 45 :: pointed n (padz (n + 1) (decDigits (rnd (r.num.natAbs * 10 ^ n) r.den))) else pointed n (padz (n + 1) (decDigits (rnd (r.num.natAbs * 10 ^ n) r.den)))) := by
        unfold decS
        rw [← Bool.decide_and]
        simp only [decide_eq_true_eq]
      rw [← hres] at ht
      clear hres
      generalize decS r n = RES at *
      unfold tailDec codeqDecimal at ht
      dsimp only at ht
      generalize r.num.natAbs * 10 ^ n = A at *
      generalize hDen : r.den = D at *
      have lq := Nat.le_trans (len_mono (Nat.div_le_self A D)) ml
      have lr := Nat.le_trans (len_mono (Nat.mod_le A D)) ml
      have ci := nDivL A D (by omega) (by omega)
      rw [dmod_pos hd0] at ci
      have la2 := ladd lr lr
      have ca := nAddL (A % D) (A % D) (by omega) (by omega)
      have cc := nCmpL (A % D + A % D) D (by omega) (by omega)
      have e1 := cmp_gt (A % D + A % D) D
      have e2 := cmp_e0 (A % D + A % D) D
      have cu := nAddL (A / D) 1 (by omega) (limbs1_le (by decide))
      generalize hR : A % D = R at *
      generalize hQ : A / D = q at *
      have hup := @rnd_up A D
      have hdn := @rnd_dn A D
      rw [hR, hQ] at hup hdn
      generalize rnd A D = RN at *
      generalize cmpN (R + R) D = C at *
      have hone := q_one_calls
      have hlg := len_gt q
      have e0 : (Int.toNat 0) = 0 := rfl
      have hDq : 10 ^ n = 10 ^ n := rfl
      generalize 10 ^ n = TN at *
      clear hR hQ ml la2 hdl hd0 k1 tl
      by_cases hA : D < R + R
      · rw [decide_eq_true hA] at e1
        rw [hup (.inl (by omega))] at ht
        clear hup hdn
        repeat (first | refine W_seq ?_ | refine W_reg ?_ | refine W_regd ?_ | refine W_block ?_ | refine And.intro (by omega) ?_ | simp (maxSteps := 1000000) (disch := omega) only [cA, cB, cC, frz_us, binE, unE, boundE, newsE, blkQ, Nat.reduceEqDiff, Nat.reduceLT, Nat.reduceAdd, ↓reduceIte, reduceCtorEq, Nat.reduceLeDiff, XQ, cS, cT, nbqDecimal, d0, d1] | refine callC_pure (v1) rfl ?_ | exact W_ret (RetP_1 (.imm rfl)) | exact W_ret (RetP_c rfl rfl rfl (.imm rfl)))
        refine W_cond rfl (fun h => by cases h) (fun _ => W_skip ?_)
        repeat (first | refine W_seq ?_ | refine W_reg ?_ | refine W_regd ?_ | refine W_block ?_ | refine And.intro (by omega) ?_ | simp (maxSteps := 1000000) (disch := omega) only [cA, cB, cC, frz_us, binE, unE, boundE, newsE, blkQ, Nat.reduceEqDiff, Nat.reduceLT, Nat.reduceAdd, ↓reduceIte, reduceCtorEq, Nat.reduceLeDiff, XQ, Q, cS, cT, nbqDecimal, e1] | refine callC_pure (v1) rfl ?_ | refine callC_pure (ct) rfl ?_ | refine callC_pure (cm) rfl ?_ | refine callC_pure (cd) rfl ?_ | refine callC_pure (ci) rfl ?_ | refine callC_pure (ca) rfl ?_ | refine callC_pure (cc) rfl ?_ | exact W_ret (RetP_1 (.imm rfl)) | exact W_ret (RetP_c rfl rfl rfl (.imm rfl)))
        refine W_cond rfl (fun _ => ?_) (fun h => by cases h)
        refine W_reg ?_
        simp (maxSteps := 1000000) (disch := omega) only [cA, cB, cC, frz_us, binE, unE, boundE, newsE, blkQ, Nat.reduceEqDiff, Nat.reduceLT, Nat.reduceAdd, ↓reduceIte, reduceCtorEq, Nat.reduceLeDiff]
        refine callC_pure hone rfl ?_
        simp (maxSteps := 1000000) (disch := omega) only [cA, cB, cC, frz_us, binE, unE, boundE, newsE, blkQ, Nat.reduceEqDiff, Nat.reduceLT, Nat.reduceAdd, ↓reduceIte, reduceCtorEq, Nat.reduceLeDiff]
        refine callC_pure cu rfl ?_
        simp (maxSteps := 1000000) (disch := omega) only [cA, cB, cC, frz_us, binE, unE, boundE, newsE, blkQ, Nat.reduceEqDiff, Nat.reduceLT, Nat.reduceAdd, ↓reduceIte, reduceCtorEq, Nat.reduceLeDiff]
        rw [hDen]; refine W_sub ?_ ht
        simp [subF, lk]
      · rw [decide_eq_false hA] at e1
        by_cases hE : R + R = D
        · rw [decide_eq_true hE] at e2
          by_cases hq : 0 < q
          · rw [decide_eq_true hq] at hlg
            have hlq : 0 < (limbs q).length := limbs_len0.2 hq
            have hg0 := getD_limbs0 q
            have tm2 : (((q % 4294967296 : Nat) : Int)).tmod 2 = ((q % 2 : Nat) : Int) := by
              have := tmod_nat (q % 4294967296) 2
              rw [Nat.mod_mod_of_dvd q (show 2 ∣ 4294967296 by decide)] at this
              exact this
            have hug := us_getD hlq
            rw [hg0] at hug
            by_cases ho : q % 2 = 1
            · rw [hup (.inr ⟨by omega, ho⟩)] at ht
              have d2 : decide (((q % 2 : Nat) : Int) = 1) = true := decide_eq_true (by omega)
              clear hup hdn hg0
              repeat (first | refine W_seq ?_ | refine W_reg ?_ | refine W_regd ?_ | refine W_block ?_ | refine And.intro (by omega) ?_ | simp (maxSteps := 1000000) (disch := omega) only [cA, cB, cC, frz_us, binE, unE, boundE, newsE, blkQ, Nat.reduceEqDiff, Nat.reduceLT, Nat.reduceAdd, ↓reduceIte, reduceCtorEq, Nat.reduceLeDiff, XQ, cS, cT, nbqDecimal, d0, d1] | refine callC_pure (v1) rfl ?_ | exact W_ret (RetP_1 (.imm rfl)) | exact W_ret (RetP_c rfl rfl rfl (.imm rfl)))
              refine W_cond rfl (fun h => by cases h) (fun _ => W_skip ?_)
              repeat (first | refine W_seq ?_ | refine W_reg ?_ | refine W_regd ?_ | refine W_block ?_ | refine And.intro (by omega) ?_ | simp (maxSteps := 1000000) (disch := omega) only [cA, cB, cC, frz_us, binE, unE, boundE, newsE, blkQ, Nat.reduceEqDiff, Nat.reduceLT, Nat.reduceAdd, ↓reduceIte, reduceCtorEq, Nat.reduceLeDiff, XQ, Q, cS, cT, nbqDecimal, e1, e2, hlg, us_length, e0, hug, tm2, d2] | refine callC_pure (v1) rfl ?_ | refine callC_pure (ct) rfl ?_ | refine callC_pure (cm) rfl ?_ | refine callC_pure (cd) rfl ?_ | refine callC_pure (ci) rfl ?_ | refine callC_pure (ca) rfl ?_ | refine callC_pure (cc) rfl ?_ | exact W_ret (RetP_1 (.imm rfl)) | exact W_ret (RetP_c rfl rfl rfl (.imm rfl)))
              refine W_cond rfl (fun _ => ?_) (fun h => by cases h)
              refine W_reg ?_
              simp (maxSteps := 1000000) (disch := omega) only [cA, cB, cC, frz_us, binE, unE, boundE, newsE, blkQ, Nat.reduceEqDiff, Nat.reduceLT, Nat.reduceAdd, ↓reduceIte, reduceCtorEq, Nat.reduceLeDiff]
              refine callC_pure hone rfl ?_
              simp (maxSteps := 1000000) (disch := omega) only [cA, cB, cC, frz_us, binE, unE, boundE, newsE, blkQ, Nat.reduceEqDiff, Nat.reduceLT, Nat.reduceAdd, ↓reduceIte, reduceCtorEq, Nat.reduceLeDiff]
              refine callC_pure cu rfl ?_
              simp (maxSteps := 1000000) (disch := omega) only [cA, cB, cC, frz_us, binE, unE, boundE, newsE, blkQ, Nat.reduceEqDiff, Nat.reduceLT, Nat.reduceAdd, ↓reduceIte, reduceCtorEq, Nat.reduceLeDiff]
              rw [hDen]; refine W_sub ?_ ht
              simp [subF, lk]
            · rw [hdn (fun h => by omega)] at ht
              have d2 : decide (((q % 2 : Nat) : Int) = 1) = false := decide_eq_false (by omega)
              clear hup hdn hg0
              repeat (first | refine W_seq ?_ | refine W_reg ?_ | refine W_regd ?_ | refine W_block ?_ | refine And.intro (by omega) ?_ | simp (maxSteps := 1000000) (disch := omega) only [cA, cB, cC, frz_us, binE, unE, boundE, newsE, blkQ, Nat.reduceEqDiff, Nat.reduceLT, Nat.reduceAdd, ↓reduceIte, reduceCtorEq, Nat.reduceLeDiff, XQ, cS, cT, nbqDecimal, d0, d1] | refine callC_pure (v1) rfl ?_ | exact W_ret (RetP_1 (.imm rfl)) | exact W_ret (RetP_c rfl rfl rfl (.imm rfl)))
              refine W_cond rfl (fun h => by cases h) (fun _ => W_skip ?_)
              repeat (first | refine W_seq ?_ | refine W_reg ?_ | refine W_regd ?_ | refine W_block ?_ | refine And.intro (by omega) ?_ | simp (maxSteps := 1000000) (disch := omega) only [cA, cB, cC, frz_us, binE, unE, boundE, newsE, blkQ, Nat.reduceEqDiff, Nat.reduceLT, Nat.reduceAdd, ↓reduceIte, reduceCtorEq, Nat.reduceLeDiff, XQ, Q, cS, cT, nbqDecimal, e1, e2, hlg, us_length, e0, hug, tm2, d2] | refine callC_pure (v1) rfl ?_ | refine callC_pure (ct) rfl ?_ | refine callC_pure (cm) rfl ?_ | refine callC_pure (cd) rfl ?_ | refine callC_pure (ci) rfl ?_ | refine callC_pure (ca) rfl ?_ | refine callC_pure (cc) rfl ?_ | exact W_ret (RetP_1 (.imm rfl)) | exact W_ret (RetP_c rfl rfl rfl (.imm rfl)))
              refine W_cond rfl (fun h => by cases h) (fun _ => W_skip ?_)
              rw [hDen]; refine W_sub ?_ ht
              simp [subF, lk]
          · rw [decide_eq_false hq] at hlg
            rw [hdn (fun h => by have h0 : q = 0 := by omega
                                 rw [h0] at h; omega)] at ht
            clear hup hdn
            repeat (first | refine W_seq ?_ | refine W_reg ?_ | refine W_regd ?_ | refine W_block ?_ | refine And.intro (by omega) ?_ | simp (maxSteps := 1000000) (disch := omega) only [cA, cB, cC, frz_us, binE, unE, boundE, newsE, blkQ, Nat.reduceEqDiff, Nat.reduceLT, Nat.reduceAdd, ↓reduceIte, reduceCtorEq, Nat.reduceLeDiff, XQ, cS, cT, nbqDecimal, d0, d1] | refine callC_pure (v1) rfl ?_ | exact W_ret (RetP_1 (.imm rfl)) | exact W_ret (RetP_c rfl rfl rfl (.imm rfl)))
            refine W_cond rfl (fun h => by cases h) (fun _ => W_skip ?_)
            repeat (first | refine W_seq ?_ | refine W_reg ?_ | refine W_regd ?_ | refine W_block ?_ | refine And.intro (by omega) ?_ | simp (maxSteps := 1000000) (disch := omega) only [cA, cB, cC, frz_us, binE, unE, boundE, newsE, blkQ, Nat.reduceEqDiff, Nat.reduceLT, Nat.reduceAdd, ↓reduceIte, reduceCtorEq, Nat.reduceLeDiff, XQ, Q, cS, cT, nbqDecimal, e1, e2, hlg, us_length] | refine callC_pure (v1) rfl ?_ | refine callC_pure (ct) rfl ?_ | refine callC_pure (cm) rfl ?_ | refine callC_pure (cd) rfl ?_ | refine callC_pure (ci) rfl ?_ | refine callC_pure (ca) rfl ?_ | refine callC_pure (cc) rfl ?_ | exact W_ret (RetP_1 (.imm rfl)) | exact W_ret (RetP_c rfl rfl rfl (.imm rfl)))
            refine W_cond rfl (fun h => by cases h) (fun _ => W_skip ?_)
            rw [hDen]; refine W_sub ?_ ht
            simp [subF, lk]
        · rw [decide_eq_false hE] at e2
          rw [hdn (fun h => by omega)] at ht
          clear hup hdn
          repeat (first | refine W_seq ?_ | refine W_reg ?_ | refine W_regd ?_ | refine W_block ?_ | refine And.intro (by omega) ?_ | simp (maxSteps := 1000000) (disch := omega) only [cA, cB, cC, frz_us, binE, unE, boundE, newsE, blkQ, Nat.reduceEqDiff, Nat.reduceLT, Nat.reduceAdd, ↓reduceIte, reduceCtorEq, Nat.reduceLeDiff, XQ, cS, cT, nbqDecimal, d0, d1] | refine callC_pure (v1) rfl ?_ | exact W_ret (RetP_1 (.imm rfl)) | exact W_ret (RetP_c rfl rfl rfl (.imm rfl)))
          refine W_cond rfl (fun h => by cases h) (fun _ => W_skip ?_)
          repeat (first | refine W_seq ?_ | refine W_reg ?_ | refine W_regd ?_ | refine W_block ?_ | refine And.intro (by omega) ?_ | simp (maxSteps := 1000000) (disch := omega) only [cA, cB, cC, frz_us, binE, unE, boundE, newsE, blkQ, Nat.reduceEqDiff, Nat.reduceLT, Nat.reduceAdd, ↓reduceIte, reduceCtorEq, Nat.reduceLeDiff, XQ, Q, cS, cT, nbqDecimal, e1, e2] | refine callC_pure (v1) rfl ?_ | refine callC_pure (ct) rfl ?_ | refine callC_pure (cm) rfl ?_ | refine callC_pure (cd) rfl ?_ | refine callC_pure (ci) rfl ?_ | refine callC_pure (ca) rfl ?_ | refine callC_pure (cc) rfl ?_ | exact W_ret (RetP_1 (.imm rfl)) | exact W_ret (RetP_c rfl rfl rfl (.imm rfl)))
          refine W_cond rfl (fun h => by cases h) (fun _ => W_skip ?_)
          rw [hDen]; refine W_sub ?_ ht
          simp [subF, lk]
theorem qDecimalL (r : Rat) (k : Int) (h : RB r 700) : PCalls Tryz.prog 22 [Q r, .int .i64 k] (.str (decR r k)) := by
  have := qDecimal_calls (decide (r.num < 0)) (limbs r.num.natAbs) (dn r.den) k h.1 (RB_dn h) (lim_limbs _) (lim_dn _)
  rwa [rv_Q] at this
theorem us1' (n : Nat) (h0 : n ≠ 0) (h : n < 4294967296) : [DV.int .u32 (n : Int)] = us (limbs n) := by rw [limbs_one h0 h]; rfl
theorem lq_awake_calls : PCalls Tryz.prog 13 [] (.bool true) := by
  have i6 : iv false (limbs 6) = 6 := by rw [iv_nat]; rfl
  have i4 : iv true (limbs 4) = -4 := by unfold iv; rw [vn_limbs]; rfl
  have ll : ∀ n, n < 10 → (limbs n).length ≤ 1 := fun n h => limbs_len.2 (by omega)
  have cm := qMake_calls false (limbs 6) true (limbs 4) (Nat.le_trans (ll 6 (by decide)) (by decide)) (Nat.le_trans (ll 4 (by decide)) (by decide)) (lim_limbs _) (lim_limbs _)
  rw [i6, i4] at cm
  unfold mkR at cm
  rw [if_neg (by decide)] at cm
  have r1 : Rat.divInt 6 (-4) = mkRat (-3) 2 := by decide +kernel
  have r2 : parseQ [49, 46, 50, 53, 48, 101, 45, 49] = some (mkRat 1 8) := by decide +kernel
  rw [r1] at cm
  have b1 : RB (mkRat (-3) 2) 1 := RB_mk (by decide) (ll 3 (by decide)) (ll 2 (by decide))
  have b2 : RB (mkRat 1 8) 1 := RB_mk (by decide) (ll 1 (by decide)) (ll 8 (by decide))
  have cp := qParse_calls [49, 46, 50, 53, 48, 101, 45, 49] (by decide) (.inl (by decide))
  rw [r2] at cp
  unfold resQ at cp
  dsimp only at cp
  have f1 := qFormatL (mkRat (-3) 2) (b1.mono (by decide))
  have f2 := qFormatL (mkRat 1 8) (b2.mono (by decide))
  have f3 := qDecimalL (mkRat 1 8) 2 (b2.mono (by decide))
  have t1 : fmtQ (mkRat (-3) 2) = [45, 51, 47, 50] := by decide +kernel
  have t2 : fmtQ (mkRat 1 8) = [49, 47, 56] := by decide +kernel
  have t3 : decR (mkRat 1 8) 2 = [48, 46, 49, 50] := by decide +kernel
  rw [t1] at f1
  rw [t2] at f2
  rw [t3] at f3
  clear i6 i4 ll r1 r2 b1 b2 t1 t2 t3
  have u6 : [DV.int .u32 6] = us (limbs 6) := us1' 6 (by decide) (by decide)
  have u4 : [DV.int .u32 4] = us (limbs 4) := us1' 4 (by decide) (by decide)
  refine PCalls_of islq_awake (by simp [fnlq_awake]) ?_
  unfold codelq_awake
  generalize mkRat (-3) 2 = R1 at *
  generalize mkRat 1 8 = R2 at *
  repeat (first | refine W_seq ?_ | refine W_reg ?_ | refine W_regd ?_ | refine W_block ?_ | refine And.intro (by omega) ?_ | simp (maxSteps := 1000000) (disch := omega) only [cA, cB, cC, frz_us, binE, unE, boundE, newsE, blkQ, Nat.reduceEqDiff, Nat.reduceLT, Nat.reduceAdd, ↓reduceIte, reduceCtorEq, Nat.reduceLeDiff, X, Q, cS, cT, nblq_awake, us_rfd, u6, u4, decide_true] | refine callC_pure (cm) rfl ?_ | refine callC_pure (cp) rfl ?_ | refine callC_pure (f1) rfl ?_ | refine callC_pure (f2) rfl ?_ | refine callC_pure (f3) rfl ?_ | exact W_ret (RetP_1 (.imm rfl)) | exact W_ret (RetP_c rfl rfl rfl (.imm rfl)))
end Go.Proofs.YteiagmmfapbaiaaGreatDoor
