/- Lemmas of the walk; no conditions beyond those that each states. -/
import Derived.Test.YteiagmmfapbaiaaGreatDoorProg
import Derived.KernelRfl
import Derived.Test.YteiagmmfapbaiaaGreatDoorT1
import Derived.Test.YteiagmmfapbaiaaGreatDoorN1
import Derived.Test.YteiagmmfapbaiaaGreatDoorD2
import Derived.Test.YteiagmmfapbaiaaGreatDoorC1
set_option linter.unusedSimpArgs false
set_option linter.unusedVariables false
set_option linter.unnecessarySimpa false
namespace Go.Proofs.YteiagmmfapbaiaaGreatDoor
open Go Go.Dat Go.Proofs Nat32
theorem rTimes_calls (x v b : Nat) (ha : (limbs x).length ≤ 100000) (hv : v < 4294967296) (hb : b ≤ 100000) : PCalls Tryz.prog 114 [.sl 1 (us (limbs x)), .int .u32 v, .int .i64 b] (.sl 1 (us (limbs (4294967296 ^ b * (x * v))))) := by
  refine PCalls_of isrTimes (by simp [fnrTimes]) ?_
  unfold coderTimes
  have laX := lim_limbs x
  refine W_seq (W_reg ?_)
  simp (maxSteps := 1000000) (disch := omega) only [cA, cB, lk, lkH, Dst.onT, Dst.onX, Dst.slot, setF, setH, mapF, mapH, initF, binE, unE, cnt, boundE, newsE, freshE, opE, rmH, blkQ, frz_us, Nat.reduceEqDiff, Nat.reduceLT, Nat.reduceAdd, ↓reduceIte, reduceCtorEq, Nat.reduceLeDiff]
  repeat refine ⟨by omega, ?_⟩
  refine W_seq (W_reg ?_)
  simp (maxSteps := 1000000) (disch := omega) only [cA, cB, lk, lkH, Dst.onT, Dst.onX, Dst.slot, setF, setH, mapF, mapH, initF, binE, unE, cnt, boundE, newsE, freshE, opE, rmH, blkQ, frz_us, Nat.reduceEqDiff, Nat.reduceLT, Nat.reduceAdd, ↓reduceIte, reduceCtorEq, Nat.reduceLeDiff, us_rep, nbrTimes]
  repeat refine ⟨by omega, ?_⟩
  refine W_seq (W_reg ?_)
  simp (maxSteps := 1000000) (disch := omega) only [cA, cB, lk, lkH, Dst.onT, Dst.onX, Dst.slot, setF, setH, mapF, mapH, initF, binE, unE, cnt, boundE, newsE, freshE, opE, rmH, blkQ, frz_us, Nat.reduceEqDiff, Nat.reduceLT, Nat.reduceAdd, ↓reduceIte, reduceCtorEq, Nat.reduceLeDiff]
  repeat refine ⟨by omega, ?_⟩
  refine W_seq (W_seq (W_reg ?_))
  simp (maxSteps := 1000000) (disch := omega) only [cA, cB, lk, lkH, Dst.onT, Dst.onX, Dst.slot, setF, setH, mapF, mapH, initF, binE, unE, cnt, boundE, newsE, freshE, opE, rmH, blkQ, frz_us, Nat.reduceEqDiff, Nat.reduceLT, Nat.reduceAdd, ↓reduceIte, reduceCtorEq, Nat.reduceLeDiff]
  repeat refine ⟨by omega, ?_⟩
  refine W_block (W_loop (σ := List Nat × Nat) (fun s => [(0, .sl 1 (us (limbs x))), (1, .int .u32 v), (7, .osl 1 12 0 (b + s.1.length)), (8, .int .u64 s.2), (9, .int .i64 s.1.length)])
    (fun s => [(12, us (List.replicate b 0 ++ s.1))])
    (fun s => s.1.length ≤ (limbs x).length + 1 ∧ lim s.1 ∧ s.2 < 4294967296 ∧ nv s.1 + 4294967296 ^ s.1.length * s.2 = nv ((limbs x).take s.1.length) * v)
    (fun s => (limbs x).length + 1 - s.1.length) ([], 0) ⟨Nat.zero_le _, lim_nil, by decide, by simp [nv]⟩ ?_ ?_ ?_)
  · simp [subF, lk]
  · simp
  · rintro ⟨q, c⟩ ⟨hn, hlq, hc, hnv⟩
    simp only at hn hlq hc hnv ⊢
    refine W_seq (W_seq (W_reg ?_))
    simp (maxSteps := 1000000) (disch := omega) only [cA, cB, lk, lkH, Dst.onT, Dst.onX, Dst.slot, setF, setH, mapF, mapH, initF, binE, unE, cnt, boundE, newsE, freshE, opE, rmH, blkQ, frz_us, Nat.reduceEqDiff, Nat.reduceLT, Nat.reduceAdd, ↓reduceIte, reduceCtorEq, Nat.reduceLeDiff, us_length]
    repeat refine ⟨by omega, ?_⟩
    refine W_cond rfl (fun hcd => W_skip ?_) (fun hcd => W_exit ?_)
    · have hlt := of_decide_eq_true hcd
      have hxn := lim_getD laX q.length
      have cx := rLimb_calls (limbs x) q.length (by omega) laX
      have hsum := mul_step (a := (limbs x).getD q.length 0) hnv
      rw [← nv_take_succ', ← Nat.pow_succ] at hsum
      have hcl := mul_div_lt hxn hv hc
      simp (maxSteps := 1000000) (disch := omega) only [cA, cB, lk, lkH, Dst.onT, Dst.onX, Dst.slot, setF, setH, mapF, mapH, initF, binE, unE, cnt, boundE, newsE, freshE, opE, rmH, blkQ, frz_us, Nat.reduceEqDiff, Nat.reduceLT, Nat.reduceAdd, ↓reduceIte, reduceCtorEq, Nat.reduceLeDiff]
      repeat refine ⟨by omega, ?_⟩
      refine W_seq (W_block (W_seq (W_reg ?_)))
      simp (maxSteps := 1000000) (disch := omega) only [cA, cB, lk, lkH, Dst.onT, Dst.onX, Dst.slot, setF, setH, mapF, mapH, initF, binE, unE, cnt, boundE, newsE, freshE, opE, rmH, blkQ, frz_us, Nat.reduceEqDiff, Nat.reduceLT, Nat.reduceAdd, ↓reduceIte, reduceCtorEq, Nat.reduceLeDiff]
      repeat refine ⟨by omega, ?_⟩
      refine callC_pure cx rfl ?_
      generalize (limbs x).getD q.length 0 = xn at *
      simp (maxSteps := 1000000) (disch := omega) only [cA, cB, lk, lkH, Dst.onT, Dst.onX, Dst.slot, setF, setH, mapF, mapH, initF, binE, unE, cnt, boundE, newsE, freshE, opE, rmH, blkQ, frz_us, Nat.reduceEqDiff, Nat.reduceLT, Nat.reduceAdd, ↓reduceIte, reduceCtorEq, Nat.reduceLeDiff, mul_w, mul_w2]
      repeat refine ⟨by omega, ?_⟩
      rw [show ((xn : Int) * (v : Int) + (c : Int)) = ((xn * v + c : Nat) : Int) by simp]
      refine W_reg ?_
      have hsm : xn * v + c < 18446744073709551616 := by
        have := mul_le hxn hv
        omega
      generalize xn * v + c = s at *
      have hlen : (List.replicate b 0 ++ q).length = b + q.length := by simp
      have hap : List.replicate b 0 ++ q ++ [s % 4294967296] = List.replicate b 0 ++ (q ++ [s % 4294967296]) := by simp
      simp (maxSteps := 1000000) (disch := omega) only [cA, cB, lk, lkH, Dst.onT, Dst.onX, Dst.slot, setF, setH, mapF, mapH, initF, binE, unE, cnt, boundE, newsE, freshE, opE, rmH, blkQ, frz_us, Nat.reduceEqDiff, Nat.reduceLT, Nat.reduceAdd, ↓reduceIte, reduceCtorEq, Nat.reduceLeDiff, wu32', mod32, rf1, one1, newsE, shr32u64, us_length, us_snoc, us_purge, hlen, hap]
      repeat refine ⟨by omega, ?_⟩
      refine W_reg ?_
      simp (maxSteps := 1000000) (disch := omega) only [cA, cB, lk, lkH, Dst.onT, Dst.onX, Dst.slot, setF, setH, mapF, mapH, initF, binE, unE, cnt, boundE, newsE, freshE, opE, rmH, blkQ, frz_us, Nat.reduceEqDiff, Nat.reduceLT, Nat.reduceAdd, ↓reduceIte, reduceCtorEq, Nat.reduceLeDiff]
      have hql : (q ++ [s % 4294967296]).length = q.length + 1 := by simp
      refine ⟨(q ++ [s % 4294967296], s / 4294967296), ⟨by simp only; omega, ?_, hcl, ?_⟩, by simp only; omega, by simp [subF, lk, Nat.add_assoc], by simp⟩
      · intro z hz
        rcases List.mem_append.1 hz with h | h
        · exact hlq z h
        · rw [List.mem_singleton.1 h]; omega
      · simp only [hql]
        rw [nv_app]
        simp only [nv, Nat.mul_zero, Nat.add_zero]
        exact hsum
    · have hge := of_decide_eq_false hcd
      have hl : q.length = (limbs x).length + 1 := by omega
      rw [List.take_of_length_le (by omega), nv_limbs, hl] at hnv
      have hxl : x < 4294967296 ^ (limbs x).length := limbs_len.1 (Nat.le_refl _)
      have hc0 : c = 0 := c_zero (by rw [hnv]; exact mul_lt_pow hxl hv)
      subst hc0
      rw [Nat.mul_zero, Nat.add_zero] at hnv
      have hlim : lim (List.replicate b 0 ++ q) := by
        intro z hz
        rcases List.mem_append.1 hz with h | h
        · rw [List.eq_of_mem_replicate h]; decide
        · exact hlq z h
      have hlen : b + q.length = (List.replicate b 0 ++ q).length := by simp
      have ct := rTrim_calls (List.replicate b 0 ++ q) (by omega) hlim
      rw [nv_rep_app, hnv] at ct
      simp (maxSteps := 1000000) (disch := omega) only [cA, cB, lk, lkH, Dst.onT, Dst.onX, Dst.slot, setF, setH, mapF, mapH, initF, binE, unE, cnt, boundE, newsE, freshE, opE, rmH, blkQ, frz_us, Nat.reduceEqDiff, Nat.reduceLT, Nat.reduceAdd, ↓reduceIte, reduceCtorEq, Nat.reduceLeDiff]
      repeat refine ⟨by omega, ?_⟩
      refine W_seq (W_reg ?_)
      simp (maxSteps := 1000000) (disch := omega) only [cA, cB, lk, lkH, Dst.onT, Dst.onX, Dst.slot, setF, setH, mapF, mapH, initF, binE, unE, cnt, boundE, newsE, freshE, opE, rmH, blkQ, frz_us, Nat.reduceEqDiff, Nat.reduceLT, Nat.reduceAdd, ↓reduceIte, reduceCtorEq, Nat.reduceLeDiff]
      repeat refine ⟨by omega, ?_⟩
      refine callC_freeze rfl 12 (cells := us (List.replicate b 0 ++ q)) (by simp [lkH]) (us_rf _) ?_
      simp (maxSteps := 1000000) (disch := omega) only [cA, cB, lk, lkH, Dst.onT, Dst.onX, Dst.slot, setF, setH, mapF, mapH, initF, binE, unE, cnt, boundE, newsE, freshE, opE, rmH, blkQ, frz_us, Nat.reduceEqDiff, Nat.reduceLT, Nat.reduceAdd, ↓reduceIte, reduceCtorEq, Nat.reduceLeDiff, frz_us hlen]
      refine callC_pure ct rfl ?_
      simp (maxSteps := 1000000) (disch := omega) only [cA, cB, lk, lkH, Dst.onT, Dst.onX, Dst.slot, setF, setH, mapF, mapH, initF, binE, unE, cnt, boundE, newsE, freshE, opE, rmH, blkQ, frz_us, Nat.reduceEqDiff, Nat.reduceLT, Nat.reduceAdd, ↓reduceIte, reduceCtorEq, Nat.reduceLeDiff]
      exact W_ret (RetP_1 (.imm rfl))
theorem rMul_calls (a b : List Nat) (ha : a.length ≤ 10000) (hb : b.length ≤ 10000) (la : lim a) (lb : lim b) : PCalls Tryz.prog 81 [.sl 1 (us a), .sl 1 (us b)] (.sl 1 (us (limbs (vn a * vn b)))) := by
  have h1 := vn_len la
  have h2 := vn_len lb
  have c1 := rTake_calls a (by omega) la
  have c2 := rTake_calls b (by omega) lb
  refine PCalls_of isrMul (by simp [fnrMul]) ?_
  unfold coderMul
  generalize vn a = x at h1 c1 ⊢
  generalize vn b = y at h2 c2 ⊢
  have laY := lim_limbs y
  refine W_seq (W_reg ?_)
  simp (maxSteps := 1000000) (disch := omega) only [cA, cB, lk, lkH, Dst.onT, Dst.onX, Dst.slot, setF, setH, mapF, mapH, initF, binE, unE, cnt, boundE, newsE, freshE, opE, rmH, blkQ, frz_us, Nat.reduceEqDiff, Nat.reduceLT, Nat.reduceAdd, ↓reduceIte, reduceCtorEq, Nat.reduceLeDiff]
  repeat refine ⟨by omega, ?_⟩
  refine W_seq (W_reg ?_)
  simp (maxSteps := 1000000) (disch := omega) only [cA, cB, lk, lkH, Dst.onT, Dst.onX, Dst.slot, setF, setH, mapF, mapH, initF, binE, unE, cnt, boundE, newsE, freshE, opE, rmH, blkQ, frz_us, Nat.reduceEqDiff, Nat.reduceLT, Nat.reduceAdd, ↓reduceIte, reduceCtorEq, Nat.reduceLeDiff]
  repeat refine ⟨by omega, ?_⟩
  refine callC_pure c1 rfl ?_
  simp (maxSteps := 1000000) (disch := omega) only [cA, cB, lk, lkH, Dst.onT, Dst.onX, Dst.slot, setF, setH, mapF, mapH, initF, binE, unE, cnt, boundE, newsE, freshE, opE, rmH, blkQ, frz_us, Nat.reduceEqDiff, Nat.reduceLT, Nat.reduceAdd, ↓reduceIte, reduceCtorEq, Nat.reduceLeDiff]
  repeat refine ⟨by omega, ?_⟩
  refine callC_pure c2 rfl ?_
  simp (maxSteps := 1000000) (disch := omega) only [cA, cB, lk, lkH, Dst.onT, Dst.onX, Dst.slot, setF, setH, mapF, mapH, initF, binE, unE, cnt, boundE, newsE, freshE, opE, rmH, blkQ, frz_us, Nat.reduceEqDiff, Nat.reduceLT, Nat.reduceAdd, ↓reduceIte, reduceCtorEq, Nat.reduceLeDiff]
  repeat refine ⟨by omega, ?_⟩
  refine W_seq (W_reg ?_)
  simp (maxSteps := 1000000) (disch := omega) only [cA, cB, lk, lkH, Dst.onT, Dst.onX, Dst.slot, setF, setH, mapF, mapH, initF, binE, unE, cnt, boundE, newsE, freshE, opE, rmH, blkQ, frz_us, Nat.reduceEqDiff, Nat.reduceLT, Nat.reduceAdd, ↓reduceIte, reduceCtorEq, Nat.reduceLeDiff]
  repeat refine ⟨by omega, ?_⟩
  refine W_seq (W_seq (W_reg ?_))
  simp (maxSteps := 1000000) (disch := omega) only [cA, cB, lk, lkH, Dst.onT, Dst.onX, Dst.slot, setF, setH, mapF, mapH, initF, binE, unE, cnt, boundE, newsE, freshE, opE, rmH, blkQ, frz_us, Nat.reduceEqDiff, Nat.reduceLT, Nat.reduceAdd, ↓reduceIte, reduceCtorEq, Nat.reduceLeDiff]
  repeat refine ⟨by omega, ?_⟩
  refine W_block (W_loop (σ := Nat) (fun n => [(0, .sl 1 (us (limbs x))), (1, .sl 1 (us (limbs y))), (5, if n = 0 then .nils else .sl 1 (us (limbs (x * nv ((limbs y).take n))))), (6, .int .i64 n)]) (fun _ => []) (fun n => n ≤ (limbs y).length) (fun n => (limbs y).length - n) 0 (Nat.zero_le _) ?_ rfl ?_)
  · simp [subF, lk]
  · rintro n hn
    refine W_seq (W_seq (W_reg ?_))
    simp (maxSteps := 1000000) (disch := omega) only [cA, cB, lk, lkH, Dst.onT, Dst.onX, Dst.slot, setF, setH, mapF, mapH, initF, binE, unE, cnt, boundE, newsE, freshE, opE, rmH, blkQ, frz_us, Nat.reduceEqDiff, Nat.reduceLT, Nat.reduceAdd, ↓reduceIte, reduceCtorEq, Nat.reduceLeDiff, us_length]
    repeat refine ⟨by omega, ?_⟩
    refine W_cond rfl (fun hcd => W_skip ?_) (fun hcd => W_exit ?_)
    · have hlt := of_decide_eq_true hcd
      have hlt : n < (limbs y).length := by omega
      have hyn := lim_getD laY n
      have hts := nv_take_succ' (a := limbs y) n
      have ct := rTimes_calls x ((limbs y).getD n 0) n (by omega) hyn (by omega)
      have hz : (limbs (nv ((limbs y).take n))).length ≤ (limbs y).length := limbs_len.2 (Nat.lt_of_lt_of_le (nv_lt (lim_take laY n)) (Nat.pow_le_pow_right (by decide) (by simp; omega)))
      have hw : (limbs ((limbs y).getD n 0)).length ≤ 1 := limbs_len.2 (by omega)
      have l1 := len_mul (x := x) (show (limbs x).length ≤ 10000 by omega) hz
      have hp : (limbs (4294967296 ^ n)).length ≤ n + 1 := limbs_len.2 (Nat.pow_lt_pow_right (by decide) (by omega))
      have l2 := len_mul (y := x * (limbs y).getD n 0) hp (len_mul (x := x) (show (limbs x).length ≤ 10000 by omega) hw)
      have ca := rAdd_calls (limbs (x * nv ((limbs y).take n))) (limbs (4294967296 ^ n * (x * (limbs y).getD n 0))) (by omega) (by omega) (lim_limbs _) (lim_limbs _)
      have he : x * nv ((limbs y).take n) + 4294967296 ^ n * (x * (limbs y).getD n 0) = x * nv ((limbs y).take (n + 1)) := by
        rw [hts, Nat.mul_add]
        congr 1
        rw [← Nat.mul_assoc, Nat.mul_comm (4294967296 ^ n) x, Nat.mul_assoc]
      rw [vn_limbs, vn_limbs, he] at ca
      simp (maxSteps := 1000000) (disch := omega) only [cA, cB, lk, lkH, Dst.onT, Dst.onX, Dst.slot, setF, setH, mapF, mapH, initF, binE, unE, cnt, boundE, newsE, freshE, opE, rmH, blkQ, frz_us, Nat.reduceEqDiff, Nat.reduceLT, Nat.reduceAdd, ↓reduceIte, reduceCtorEq, Nat.reduceLeDiff]
      repeat refine ⟨by omega, ?_⟩
      refine W_seq (W_block (W_reg ?_))
      simp (maxSteps := 1000000) (disch := omega) only [cA, cB, lk, lkH, Dst.onT, Dst.onX, Dst.slot, setF, setH, mapF, mapH, initF, binE, unE, cnt, boundE, newsE, freshE, opE, rmH, blkQ, frz_us, Nat.reduceEqDiff, Nat.reduceLT, Nat.reduceAdd, ↓reduceIte, reduceCtorEq, Nat.reduceLeDiff, us_length, us_getD]
      repeat refine ⟨by omega, ?_⟩
      refine callC_pure ct rfl ?_
      simp (maxSteps := 1000000) (disch := omega) only [cA, cB, lk, lkH, Dst.onT, Dst.onX, Dst.slot, setF, setH, mapF, mapH, initF, binE, unE, cnt, boundE, newsE, freshE, opE, rmH, blkQ, frz_us, Nat.reduceEqDiff, Nat.reduceLT, Nat.reduceAdd, ↓reduceIte, reduceCtorEq, Nat.reduceLeDiff]
      repeat refine ⟨by omega, ?_⟩
      refine callC_nil (rs := [.sl 1 (us (limbs (x * nv ((limbs y).take n)))), .sl 1 (us (limbs (4294967296 ^ n * (x * (limbs y).getD n 0))))]) rfl rfl (fun k d r h1 h2 => ?_) ca rfl ?_
      · match k with
        | 0 =>
          simp at h1 h2; subst h1; subst h2
          by_cases hn0 : n = 0
          · subst hn0
            simp only [if_true, List.take_zero, nv, Nat.mul_zero, limbs_zero, us_nil]
            exact .nil 1
          · rw [if_neg hn0]; exact .same _
        | 1 => simp at h1 h2; subst h1; subst h2; exact .same _
        | k + 2 => simp at h1
      · simp (maxSteps := 1000000) (disch := omega) only [cA, cB, lk, lkH, Dst.onT, Dst.onX, Dst.slot, setF, setH, mapF, mapH, initF, binE, unE, cnt, boundE, newsE, freshE, opE, rmH, blkQ, frz_us, Nat.reduceEqDiff, Nat.reduceLT, Nat.reduceAdd, ↓reduceIte, reduceCtorEq, Nat.reduceLeDiff]
        repeat refine ⟨by omega, ?_⟩
        refine W_reg ?_
        simp (maxSteps := 1000000) (disch := omega) only [cA, cB, lk, lkH, Dst.onT, Dst.onX, Dst.slot, setF, setH, mapF, mapH, initF, binE, unE, cnt, boundE, newsE, freshE, opE, rmH, blkQ, frz_us, Nat.reduceEqDiff, Nat.reduceLT, Nat.reduceAdd, ↓reduceIte, reduceCtorEq, Nat.reduceLeDiff]
        exact ⟨n + 1, by omega, by omega, by simp [subF, lk]⟩
    · have hge := of_decide_eq_false hcd
      have hnl : n = (limbs y).length := by omega
      subst hnl
      simp (maxSteps := 1000000) (disch := omega) only [cA, cB, lk, lkH, Dst.onT, Dst.onX, Dst.slot, setF, setH, mapF, mapH, initF, binE, unE, cnt, boundE, newsE, freshE, opE, rmH, blkQ, frz_us, Nat.reduceEqDiff, Nat.reduceLT, Nat.reduceAdd, ↓reduceIte, reduceCtorEq, Nat.reduceLeDiff]
      repeat refine ⟨by omega, ?_⟩
      refine W_seq (W_reg ?_)
      simp (maxSteps := 1000000) (disch := omega) only [cA, cB, lk, lkH, Dst.onT, Dst.onX, Dst.slot, setF, setH, mapF, mapH, initF, binE, unE, cnt, boundE, newsE, freshE, opE, rmH, blkQ, frz_us, Nat.reduceEqDiff, Nat.reduceLT, Nat.reduceAdd, ↓reduceIte, reduceCtorEq, Nat.reduceLeDiff]
      repeat refine ⟨by omega, ?_⟩
      refine W_ret (RetP_1 ?_)
      simp (maxSteps := 1000000) (disch := omega) only [cA, cB, lk, lkH, Dst.onT, Dst.onX, Dst.slot, setF, setH, mapF, mapH, initF, binE, unE, cnt, boundE, newsE, freshE, opE, rmH, blkQ, frz_us, Nat.reduceEqDiff, Nat.reduceLT, Nat.reduceAdd, ↓reduceIte, reduceCtorEq, Nat.reduceLeDiff]
      repeat refine ⟨by omega, ?_⟩
      rw [List.take_of_length_le (Nat.le_refl _), nv_limbs]
      by_cases hn0 : (limbs y).length = 0
      · rw [if_pos hn0]
        have : y = 0 := limbs_eq_nil.1 (List.eq_nil_of_length_eq_zero hn0)
        subst this
        rw [Nat.mul_zero, limbs_zero]
        exact .nils 1
      · rw [if_neg hn0]; exact .imm rfl
end Go.Proofs.YteiagmmfapbaiaaGreatDoor
namespace Go.Proofs.YteiagmmfapbaiaaGreatDoor
open Go Go.Dat Go.Proofs Nat32
theorem rBit_calls (a : List Nat) (i : Nat) (ha : a.length ≤ 1000000) (la : lim a) (hi : i / 32 < a.length) : PCalls Tryz.prog 152 [.sl 1 (us a), .int .i64 i] (.int .u32 (nv a / 2 ^ i % 2 : Nat)) := by
  have hx := lim_getD la (i / 32)
  have hm : i % 32 < 32 := Nat.mod_lt _ (by decide)
  have hdl := Nat.lt_of_le_of_lt (Nat.div_le_self (a.getD (i / 32) 0) (2 ^ (i % 32))) hx
  rw [← bit_of la i hi]
  refine PCalls_of isrBit (by simp [fnrBit]) ?_
  unfold coderBit
  have hm2 : i % 32 ≤ 31 := by omega
  repeat (first | (refine W_seq ?_) | (refine W_reg ?_) | (refine W_regd ?_) | (refine W_block ?_) | (refine And.intro (by omega) ?_) | simp (maxSteps := 1000000) (disch := omega) only [cA, cB, lk, lkH, Dst.onT, Dst.onX, Dst.slot, setF, setH, mapF, mapH, initF, binE, unE, cnt, boundE, newsE, freshE, opE, rmH, blkQ, frz_us, Nat.reduceEqDiff, Nat.reduceLT, Nat.reduceAdd, ↓reduceIte, reduceCtorEq, Nat.reduceLeDiff, tdiv32, tmod32, us_length, us_getD])
  generalize a.getD (i / 32) 0 = x at *
  generalize i % 32 = m at *
  repeat (first | (refine W_seq ?_) | (refine W_reg ?_) | (refine W_regd ?_) | (refine W_block ?_) | (refine And.intro (by omega) ?_) | simp (maxSteps := 1000000) (disch := omega) only [cA, cB, lk, lkH, Dst.onT, Dst.onX, Dst.slot, setF, setH, mapF, mapH, initF, binE, unE, cnt, boundE, newsE, freshE, opE, rmH, blkQ, frz_us, Nat.reduceEqDiff, Nat.reduceLT, Nat.reduceAdd, ↓reduceIte, reduceCtorEq, Nat.reduceLeDiff, shr_w32 _ _ hm2, and_one hdl])
  exact W_ret (RetP_1 (.imm rfl))
theorem vn1 : vn [1] = 1 := by decide
theorem rDouble_calls (x one : Nat) (hx : (limbs x).length ≤ 10000) (h1 : one ≤ 1) : PCalls Tryz.prog 151 [.sl 1 (us (limbs x)), .int .u32 one] (.sl 1 (us (limbs (2 * x + one)))) := by
  have ct := rTimes_calls x 2 0 (by omega) (by decide) (by decide)
  rw [Nat.pow_zero, Nat.one_mul, Nat.mul_comm x] at ct
  have hl := len_double hx
  have hl2 := len_mono (show 2 * x ≤ 2 * x + 1 by omega)
  have ca := rAdd_calls (limbs (2 * x)) [1] (by omega) (by simp) (lim_limbs _) (lim1 (by decide))
  rw [vn_limbs, vn1] at ca
  refine PCalls_of isrDouble (by simp [fnrDouble]) ?_
  unfold coderDouble
  repeat (first | (refine W_seq ?_) | (refine W_reg ?_) | (refine W_regd ?_) | (refine W_block ?_) | (refine And.intro (by omega) ?_) | simp (maxSteps := 1000000) (disch := omega) only [cA, cB, lk, lkH, Dst.onT, Dst.onX, Dst.slot, setF, setH, mapF, mapH, initF, binE, unE, cnt, boundE, newsE, freshE, opE, rmH, blkQ, frz_us, Nat.reduceEqDiff, Nat.reduceLT, Nat.reduceAdd, ↓reduceIte, reduceCtorEq, Nat.reduceLeDiff])
  refine callC_pure ct rfl ?_
  repeat (first | (refine W_seq ?_) | (refine W_reg ?_) | (refine W_regd ?_) | (refine W_block ?_) | (refine And.intro (by omega) ?_) | simp (maxSteps := 1000000) (disch := omega) only [cA, cB, lk, lkH, Dst.onT, Dst.onX, Dst.slot, setF, setH, mapF, mapH, initF, binE, unE, cnt, boundE, newsE, freshE, opE, rmH, blkQ, frz_us, Nat.reduceEqDiff, Nat.reduceLT, Nat.reduceAdd, ↓reduceIte, reduceCtorEq, Nat.reduceLeDiff])
  refine W_cond rfl (fun h => ?_) (fun h => W_skip ?_)
  · have h := of_decide_eq_true h
    have : one = 1 := by omega
    subst this
    repeat (first | (refine W_seq ?_) | (refine W_reg ?_) | (refine W_regd ?_) | (refine W_block ?_) | (refine And.intro (by omega) ?_) | simp (maxSteps := 1000000) (disch := omega) only [cA, cB, lk, lkH, Dst.onT, Dst.onX, Dst.slot, setF, setH, mapF, mapH, initF, binE, unE, cnt, boundE, newsE, freshE, opE, rmH, blkQ, frz_us, Nat.reduceEqDiff, Nat.reduceLT, Nat.reduceAdd, ↓reduceIte, reduceCtorEq, Nat.reduceLeDiff, usrf1])
    refine callC_pure ca rfl ?_
    repeat (first | (refine W_seq ?_) | (refine W_reg ?_) | (refine W_regd ?_) | (refine W_block ?_) | (refine And.intro (by omega) ?_) | simp (maxSteps := 1000000) (disch := omega) only [cA, cB, lk, lkH, Dst.onT, Dst.onX, Dst.slot, setF, setH, mapF, mapH, initF, binE, unE, cnt, boundE, newsE, freshE, opE, rmH, blkQ, frz_us, Nat.reduceEqDiff, Nat.reduceLT, Nat.reduceAdd, ↓reduceIte, reduceCtorEq, Nat.reduceLeDiff])
    exact W_ret (RetP_1 (.imm rfl))
  · have h := of_decide_eq_false h
    have : one = 0 := by omega
    subst this
    repeat (first | (refine W_seq ?_) | (refine W_reg ?_) | (refine W_regd ?_) | (refine W_block ?_) | (refine And.intro (by omega) ?_) | simp (maxSteps := 1000000) (disch := omega) only [cA, cB, lk, lkH, Dst.onT, Dst.onX, Dst.slot, setF, setH, mapF, mapH, initF, binE, unE, cnt, boundE, newsE, freshE, opE, rmH, blkQ, frz_us, Nat.reduceEqDiff, Nat.reduceLT, Nat.reduceAdd, ↓reduceIte, reduceCtorEq, Nat.reduceLeDiff])
    exact W_ret (RetP_1 (.imm rfl))
theorem rDiv_calls (a b : List Nat) (ha : a.length ≤ 1000) (hb : b.length ≤ 1000) (la : lim a) (lb : lim b) :
    PCalls Tryz.prog 123 [.sl 1 (us a), .sl 1 (us b)] (.tup [.sl 1 (us (limbs (vn a / vn b))), .sl 1 (us (limbs (dmod (vn a) (vn b)))), .bool (decide (0 < vn b))]) := by
  have l1 := vn_len la
  have l2 := vn_len lb
  have c1 := rTake_calls a (by omega) la
  have c2 := rTake_calls b (by omega) lb
  refine PCalls_of isrDiv (by simp [fnrDiv]) ?_
  unfold coderDiv
  generalize vn a = x at *
  generalize vn b = y at *
  repeat (first | (refine W_seq ?_) | (refine W_reg ?_) | (refine W_regd ?_) | (refine W_block ?_) | (refine And.intro (by omega) ?_) | simp (maxSteps := 1000000) (disch := omega) only [cA, cB, lk, lkH, Dst.onT, Dst.onX, Dst.slot, setF, setH, mapF, mapH, initF, binE, unE, cnt, boundE, newsE, freshE, opE, rmH, blkQ, frz_us, Nat.reduceEqDiff, Nat.reduceLT, Nat.reduceAdd, ↓reduceIte, reduceCtorEq, Nat.reduceLeDiff])
  refine callC_pure c1 rfl ?_
  repeat (first | (refine W_seq ?_) | (refine W_reg ?_) | (refine W_regd ?_) | (refine W_block ?_) | (refine And.intro (by omega) ?_) | simp (maxSteps := 1000000) (disch := omega) only [cA, cB, lk, lkH, Dst.onT, Dst.onX, Dst.slot, setF, setH, mapF, mapH, initF, binE, unE, cnt, boundE, newsE, freshE, opE, rmH, blkQ, frz_us, Nat.reduceEqDiff, Nat.reduceLT, Nat.reduceAdd, ↓reduceIte, reduceCtorEq, Nat.reduceLeDiff])
  refine callC_pure c2 rfl ?_
  repeat (first | (refine W_seq ?_) | (refine W_reg ?_) | (refine W_regd ?_) | (refine W_block ?_) | (refine And.intro (by omega) ?_) | simp (maxSteps := 1000000) (disch := omega) only [cA, cB, lk, lkH, Dst.onT, Dst.onX, Dst.slot, setF, setH, mapF, mapH, initF, binE, unE, cnt, boundE, newsE, freshE, opE, rmH, blkQ, frz_us, Nat.reduceEqDiff, Nat.reduceLT, Nat.reduceAdd, ↓reduceIte, reduceCtorEq, Nat.reduceLeDiff, us_length])
  refine W_cond rfl (fun h => ?_) (fun h => W_skip ?_)
  · have h := of_decide_eq_true h
    have hy : y = 0 := limbs_eq_nil.1 (List.eq_nil_of_length_eq_zero (by omega))
    subst hy
    repeat (first | (refine W_seq ?_) | (refine W_reg ?_) | (refine W_regd ?_) | (refine W_block ?_) | (refine And.intro (by omega) ?_) | simp (maxSteps := 1000000) (disch := omega) only [cA, cB, lk, lkH, Dst.onT, Dst.onX, Dst.slot, setF, setH, mapF, mapH, initF, binE, unE, cnt, boundE, newsE, freshE, opE, rmH, blkQ, frz_us, Nat.reduceEqDiff, Nat.reduceLT, Nat.reduceAdd, ↓reduceIte, reduceCtorEq, Nat.reduceLeDiff])
    refine W_ret (RetP_3 ?_ ?_ ?_)
    · rw [Nat.div_zero, limbs_zero]; exact .nils 1
    · rw [show dmod x 0 = 0 from rfl, limbs_zero]; exact .nils 1
    · exact .imm rfl
  · have h := of_decide_eq_false h
    have hy : 0 < y := by
      rcases Nat.eq_zero_or_pos y with e | e
      · subst e; rw [limbs_zero] at h; simp at h
      · exact e
    rw [dmod_pos hy, decide_eq_true hy]
    repeat (first | (refine W_seq ?_) | (refine W_reg ?_) | (refine W_regd ?_) | (refine W_block ?_) | (refine And.intro (by omega) ?_) | simp (maxSteps := 1000000) (disch := omega) only [cA, cB, lk, lkH, Dst.onT, Dst.onX, Dst.slot, setF, setH, mapF, mapH, initF, binE, unE, cnt, boundE, newsE, freshE, opE, rmH, blkQ, frz_us, Nat.reduceEqDiff, Nat.reduceLT, Nat.reduceAdd, ↓reduceIte, reduceCtorEq, Nat.reduceLeDiff, us_length])
    refine W_nil 7 1 (by simp [lk]) (W_nil 8 1 (by simp [lk, setF]) ?_)
    simp (maxSteps := 1000000) (disch := omega) only [cA, cB, lk, lkH, Dst.onT, Dst.onX, Dst.slot, setF, setH, mapF, mapH, initF, binE, unE, cnt, boundE, newsE, freshE, opE, rmH, blkQ, frz_us, Nat.reduceEqDiff, Nat.reduceLT, Nat.reduceAdd, ↓reduceIte, reduceCtorEq, Nat.reduceLeDiff]
    have hx0 : x / 2 ^ (32 * (limbs x).length) = 0 := Nat.div_eq_of_lt (by rw [← pow32]; exact limbs_len.1 (Nat.le_refl _))
    refine W_loop (σ := Nat × Nat × Nat) (fun z => [(0, .sl 1 (us (limbs x))), (1, .sl 1 (us (limbs y))), (7, .sl 1 (us (limbs z.2.1))), (8, .sl 1 (us (limbs z.2.2))), (9, .int .i64 ((z.1 : Int) - 1))]) (fun _ => [])
      (fun z => z.1 ≤ 32 * (limbs x).length ∧ x / 2 ^ z.1 = z.2.1 * y + z.2.2 ∧ z.2.2 < y) (fun z => z.1) (32 * (limbs x).length, 0, 0) ⟨Nat.le_refl _, by simp [hx0], hy⟩ ?_ rfl ?_
    · simp [subF, lk, limbs_zero, us]
    · rintro ⟨j, q, r⟩ ⟨hj, hinv, hr⟩
      simp only at hj hinv hr ⊢
      have hqx : q ≤ x := by
        have h1 : q ≤ q * y := Nat.le_mul_of_pos_right _ hy
        have h2 := Nat.div_le_self x (2 ^ j)
        omega
      have lq := len_mono hqx
      have lr := len_mono (Nat.le_of_lt hr)
      repeat (first | (refine W_seq ?_) | (refine W_reg ?_) | (refine W_regd ?_) | (refine W_block ?_) | (refine And.intro (by omega) ?_) | simp (maxSteps := 1000000) (disch := omega) only [cA, cB, lk, lkH, Dst.onT, Dst.onX, Dst.slot, setF, setH, mapF, mapH, initF, binE, unE, cnt, boundE, newsE, freshE, opE, rmH, blkQ, frz_us, Nat.reduceEqDiff, Nat.reduceLT, Nat.reduceAdd, ↓reduceIte, reduceCtorEq, Nat.reduceLeDiff])
      refine W_cond rfl (fun hc => W_skip ?_) (fun hc => W_exit ?_)
      · have hc := of_decide_eq_true hc
        obtain ⟨i, rfl⟩ : ∃ i, j = i + 1 := ⟨j - 1, by omega⟩
        have hs := bit_step x i
        rw [hinv] at hs
        have hb1 : x / 2 ^ i % 2 < 2 := Nat.mod_lt _ (by decide)
        have cb := rBit_calls (limbs x) i (by omega) (lim_limbs x) (by omega)
        rw [nv_limbs] at cb
        generalize hbit : x / 2 ^ i % 2 = bt at *
        have cd := rDouble_calls r bt (by omega) (by omega)
        have lrd : (limbs (2 * r + bt)).length ≤ (limbs y).length + 1 := Nat.le_trans (len_mono (by omega)) (len_double (Nat.le_refl _))
        have cs := rSub_calls (limbs (2 * r + bt)) (limbs y) (by omega) (by omega) (lim_limbs _) (lim_limbs _)
        rw [vn_limbs, vn_limbs] at cs
        have e1 : (((i + 1 : Nat) : Int) - 1) = (i : Int) := by omega
        (replace hs := Hid.mk hs; replace hbit := Hid.mk hbit; replace hinv := Hid.mk hinv)
        repeat (first | (refine W_seq ?_) | (refine W_reg ?_) | (refine W_regd ?_) | (refine W_block ?_) | (refine And.intro (by omega) ?_) | simp (maxSteps := 1000000) (disch := omega) only [cA, cB, lk, lkH, Dst.onT, Dst.onX, Dst.slot, setF, setH, mapF, mapH, initF, binE, unE, cnt, boundE, newsE, freshE, opE, rmH, blkQ, frz_us, Nat.reduceEqDiff, Nat.reduceLT, Nat.reduceAdd, ↓reduceIte, reduceCtorEq, Nat.reduceLeDiff, e1])
        refine callC_pure cb rfl ?_
        repeat (first | (refine W_seq ?_) | (refine W_reg ?_) | (refine W_regd ?_) | (refine W_block ?_) | (refine And.intro (by omega) ?_) | simp (maxSteps := 1000000) (disch := omega) only [cA, cB, lk, lkH, Dst.onT, Dst.onX, Dst.slot, setF, setH, mapF, mapH, initF, binE, unE, cnt, boundE, newsE, freshE, opE, rmH, blkQ, frz_us, Nat.reduceEqDiff, Nat.reduceLT, Nat.reduceAdd, ↓reduceIte, reduceCtorEq, Nat.reduceLeDiff])
        refine callC_pure cd rfl ?_
        repeat (first | (refine W_seq ?_) | (refine W_reg ?_) | (refine W_regd ?_) | (refine W_block ?_) | (refine And.intro (by omega) ?_) | simp (maxSteps := 1000000) (disch := omega) only [cA, cB, lk, lkH, Dst.onT, Dst.onX, Dst.slot, setF, setH, mapF, mapH, initF, binE, unE, cnt, boundE, newsE, freshE, opE, rmH, blkQ, frz_us, Nat.reduceEqDiff, Nat.reduceLT, Nat.reduceAdd, ↓reduceIte, reduceCtorEq, Nat.reduceLeDiff])
        refine callC_pure cs rfl ?_
        repeat (first | (refine W_seq ?_) | (refine W_reg ?_) | (refine W_regd ?_) | (refine W_block ?_) | (refine And.intro (by omega) ?_) | simp (maxSteps := 1000000) (disch := omega) only [cA, cB, lk, lkH, Dst.onT, Dst.onX, Dst.slot, setF, setH, mapF, mapH, initF, binE, unE, cnt, boundE, newsE, freshE, opE, rmH, blkQ, frz_us, Nat.reduceEqDiff, Nat.reduceLT, Nat.reduceAdd, ↓reduceIte, reduceCtorEq, Nat.reduceLeDiff])
        refine W_cond rfl (fun h2 => ?_) (fun h2 => ?_)
        · have h2 := of_decide_eq_true h2
          have c1' := rDouble_calls q 1 (by omega) (by omega)
          repeat (first | (refine W_seq ?_) | (refine W_reg ?_) | (refine W_regd ?_) | (refine W_block ?_) | (refine And.intro (by omega) ?_) | simp (maxSteps := 1000000) (disch := omega) only [cA, cB, lk, lkH, Dst.onT, Dst.onX, Dst.slot, setF, setH, mapF, mapH, initF, binE, unE, cnt, boundE, newsE, freshE, opE, rmH, blkQ, frz_us, Nat.reduceEqDiff, Nat.reduceLT, Nat.reduceAdd, ↓reduceIte, reduceCtorEq, Nat.reduceLeDiff])
          refine callC_pure c1' rfl ?_
          repeat (first | (refine W_seq ?_) | (refine W_reg ?_) | (refine W_regd ?_) | (refine W_block ?_) | (refine And.intro (by omega) ?_) | simp (maxSteps := 1000000) (disch := omega) only [cA, cB, lk, lkH, Dst.onT, Dst.onX, Dst.slot, setF, setH, mapF, mapH, initF, binE, unE, cnt, boundE, newsE, freshE, opE, rmH, blkQ, frz_us, Nat.reduceEqDiff, Nat.reduceLT, Nat.reduceAdd, ↓reduceIte, reduceCtorEq, Nat.reduceLeDiff, e1])
          refine ⟨(i, 2 * q + 1, 2 * r + bt - y), ⟨by simp only; omega, ?_, by simp only; omega⟩, by simp only; omega, by simp [subF, lk]⟩
          simp only
          rw [hs.out, Nat.add_mul, Nat.mul_assoc]; omega
        · have h2 := of_decide_eq_false h2
          have c0' := rDouble_calls q 0 (by omega) (by omega)
          repeat (first | (refine W_seq ?_) | (refine W_reg ?_) | (refine W_regd ?_) | (refine W_block ?_) | (refine And.intro (by omega) ?_) | simp (maxSteps := 1000000) (disch := omega) only [cA, cB, lk, lkH, Dst.onT, Dst.onX, Dst.slot, setF, setH, mapF, mapH, initF, binE, unE, cnt, boundE, newsE, freshE, opE, rmH, blkQ, frz_us, Nat.reduceEqDiff, Nat.reduceLT, Nat.reduceAdd, ↓reduceIte, reduceCtorEq, Nat.reduceLeDiff])
          refine callC_pure c0' rfl ?_
          repeat (first | (refine W_seq ?_) | (refine W_reg ?_) | (refine W_regd ?_) | (refine W_block ?_) | (refine And.intro (by omega) ?_) | simp (maxSteps := 1000000) (disch := omega) only [cA, cB, lk, lkH, Dst.onT, Dst.onX, Dst.slot, setF, setH, mapF, mapH, initF, binE, unE, cnt, boundE, newsE, freshE, opE, rmH, blkQ, frz_us, Nat.reduceEqDiff, Nat.reduceLT, Nat.reduceAdd, ↓reduceIte, reduceCtorEq, Nat.reduceLeDiff, e1])
          refine ⟨(i, 2 * q, 2 * r + bt), ⟨by simp only; omega, ?_, by simp only; omega⟩, by simp only; omega, by simp [subF, lk]⟩
          simp only
          rw [hs.out, Nat.mul_assoc]; omega
      · have hc := of_decide_eq_false hc
        have : j = 0 := by omega
        subst this
        rw [Nat.pow_zero, Nat.div_one] at hinv
        obtain ⟨d1, d2⟩ := div_fin hinv hr
        repeat (first | (refine W_seq ?_) | (refine W_reg ?_) | (refine W_regd ?_) | (refine W_block ?_) | (refine And.intro (by omega) ?_) | simp (maxSteps := 1000000) (disch := omega) only [cA, cB, lk, lkH, Dst.onT, Dst.onX, Dst.slot, setF, setH, mapF, mapH, initF, binE, unE, cnt, boundE, newsE, freshE, opE, rmH, blkQ, frz_us, Nat.reduceEqDiff, Nat.reduceLT, Nat.reduceAdd, ↓reduceIte, reduceCtorEq, Nat.reduceLeDiff])
        rw [← d1, ← d2]
        exact W_ret (RetP_3 (.imm rfl) (.imm rfl) (.imm rfl))
end Go.Proofs.YteiagmmfapbaiaaGreatDoor
namespace Go.Proofs.YteiagmmfapbaiaaGreatDoor
open Go Go.Dat Go.Proofs Nat32
theorem gcd_step (x y : Nat) : Nat.gcd y (x % y) = Nat.gcd x y := by
  rw [Nat.gcd_comm y, ← Nat.gcd_rec, Nat.gcd_comm]
theorem ngcd_calls (a b : Nat) (ha : a < 18446744073709551616) (hb : b < 18446744073709551616) : PCalls Tryz.prog 139 [.int .u64 a, .int .u64 b] (.int .u64 (Nat.gcd a b : Nat)) := by
  refine PCalls_of isngcd (by simp [fnngcd]) ?_
  unfold codengcd
  repeat (first | (refine W_seq ?_) | (refine W_reg ?_) | (refine W_regd ?_) | (refine W_block ?_) | (refine And.intro (by omega) ?_) | simp (maxSteps := 1000000) (disch := omega) only [cA, cB, lk, lkH, Dst.onT, Dst.onX, Dst.slot, setF, setH, mapF, mapH, initF, binE, unE, cnt, boundE, newsE, freshE, opE, rmH, blkQ, frz_us, Nat.reduceEqDiff, Nat.reduceLT, Nat.reduceAdd, ↓reduceIte, reduceCtorEq, Nat.reduceLeDiff])
  refine W_loop (σ := Nat × Nat) (fun z => [(0, .int .u64 z.1), (1, .int .u64 z.2)]) (fun _ => []) (fun z => Nat.gcd z.1 z.2 = Nat.gcd a b ∧ z.1 < 18446744073709551616 ∧ z.2 < 18446744073709551616) (fun z => z.2) (a, b) ⟨rfl, ha, hb⟩ ?_ rfl ?_
  · simp [subF, lk]
  · rintro ⟨x, y⟩ ⟨hg, hx, hy⟩
    simp only at hg hx hy ⊢
    repeat (first | (refine W_seq ?_) | (refine W_reg ?_) | (refine W_regd ?_) | (refine W_block ?_) | (refine And.intro (by omega) ?_) | simp (maxSteps := 1000000) (disch := omega) only [cA, cB, lk, lkH, Dst.onT, Dst.onX, Dst.slot, setF, setH, mapF, mapH, initF, binE, unE, cnt, boundE, newsE, freshE, opE, rmH, blkQ, frz_us, Nat.reduceEqDiff, Nat.reduceLT, Nat.reduceAdd, ↓reduceIte, reduceCtorEq, Nat.reduceLeDiff])
    refine W_cond rfl (fun h => W_skip ?_) (fun h => W_exit ?_)
    · have h := of_decide_eq_true h
      have hm := Nat.mod_lt x (show 0 < y by omega)
      repeat (first | (refine W_seq ?_) | (refine W_reg ?_) | (refine W_regd ?_) | (refine W_block ?_) | (refine And.intro (by omega) ?_) | simp (maxSteps := 1000000) (disch := omega) only [cA, cB, lk, lkH, Dst.onT, Dst.onX, Dst.slot, setF, setH, mapF, mapH, initF, binE, unE, cnt, boundE, newsE, freshE, opE, rmH, blkQ, frz_us, Nat.reduceEqDiff, Nat.reduceLT, Nat.reduceAdd, ↓reduceIte, reduceCtorEq, Nat.reduceLeDiff, tmod_nat])
      refine ⟨(y, x % y), ⟨by rw [← hg]; exact gcd_step x y, hy, by simp only; omega⟩, hm, by simp [subF, lk]⟩
    · have h := of_decide_eq_false h
      have : y = 0 := by omega
      subst this
      rw [Nat.gcd_zero_right] at hg
      subst hg
      repeat (first | (refine W_seq ?_) | (refine W_reg ?_) | (refine W_regd ?_) | (refine W_block ?_) | (refine And.intro (by omega) ?_) | simp (maxSteps := 1000000) (disch := omega) only [cA, cB, lk, lkH, Dst.onT, Dst.onX, Dst.slot, setF, setH, mapF, mapH, initF, binE, unE, cnt, boundE, newsE, freshE, opE, rmH, blkQ, frz_us, Nat.reduceEqDiff, Nat.reduceLT, Nat.reduceAdd, ↓reduceIte, reduceCtorEq, Nat.reduceLeDiff])
      exact W_ret (RetP_1 (.imm rfl))
theorem nGcd_calls (a b : List Nat) (ha : a.length ≤ 100000) (hb : b.length ≤ 100000) (la : lim a) (lb : lim b) : PCalls Tryz.prog 87 [.sl 1 (us a), .sl 1 (us b)] (.sl 1 (us (limbs (Nat.gcd (vn a) (vn b))))) := by
  have l1 := vn_len la
  have l2 := vn_len lb
  have c1 := nValue_calls a (by omega) la
  have c2 := nValue_calls b (by omega) lb
  refine PCalls_of isnGcd (by simp [fnnGcd]) ?_
  unfold codenGcd
  generalize vn a = x0 at *
  generalize vn b = y0 at *
  repeat (first | (refine W_seq ?_) | (refine W_reg ?_) | (refine W_regd ?_) | (refine W_block ?_) | (refine And.intro (by omega) ?_) | simp (maxSteps := 1000000) (disch := omega) only [cA, cB, lk, lkH, Dst.onT, Dst.onX, Dst.slot, setF, setH, mapF, mapH, initF, binE, unE, cnt, boundE, newsE, freshE, opE, rmH, blkQ, frz_us, Nat.reduceEqDiff, Nat.reduceLT, Nat.reduceAdd, ↓reduceIte, reduceCtorEq, Nat.reduceLeDiff])
  refine callC_pure c1 rfl ?_
  repeat (first | (refine W_seq ?_) | (refine W_reg ?_) | (refine W_regd ?_) | (refine W_block ?_) | (refine And.intro (by omega) ?_) | simp (maxSteps := 1000000) (disch := omega) only [cA, cB, lk, lkH, Dst.onT, Dst.onX, Dst.slot, setF, setH, mapF, mapH, initF, binE, unE, cnt, boundE, newsE, freshE, opE, rmH, blkQ, frz_us, Nat.reduceEqDiff, Nat.reduceLT, Nat.reduceAdd, ↓reduceIte, reduceCtorEq, Nat.reduceLeDiff])
  refine callC_pure c2 rfl ?_
  repeat (first | (refine W_seq ?_) | (refine W_reg ?_) | (refine W_regd ?_) | (refine W_block ?_) | (refine And.intro (by omega) ?_) | simp (maxSteps := 1000000) (disch := omega) only [cA, cB, lk, lkH, Dst.onT, Dst.onX, Dst.slot, setF, setH, mapF, mapH, initF, binE, unE, cnt, boundE, newsE, freshE, opE, rmH, blkQ, frz_us, Nat.reduceEqDiff, Nat.reduceLT, Nat.reduceAdd, ↓reduceIte, reduceCtorEq, Nat.reduceLeDiff])
  refine W_loop (σ := Nat × Nat) (fun z => [(0, .sl 1 (us (limbs z.1))), (1, .sl 1 (us (limbs z.2)))]) (fun _ => []) (fun z => Nat.gcd z.1 z.2 = Nat.gcd x0 y0 ∧ (limbs z.1).length ≤ 100000 ∧ (limbs z.2).length ≤ 100000) (fun z => z.2) (x0, y0) ⟨rfl, by simp only; omega, by simp only; omega⟩ ?_ rfl ?_
  · simp [subF, lk]
  · rintro ⟨x, y⟩ ⟨hg, hx, hy⟩
    simp only at hg hx hy ⊢
    repeat (first | (refine W_seq ?_) | (refine W_reg ?_) | (refine W_regd ?_) | (refine W_block ?_) | (refine And.intro (by omega) ?_) | simp (maxSteps := 1000000) (disch := omega) only [cA, cB, lk, lkH, Dst.onT, Dst.onX, Dst.slot, setF, setH, mapF, mapH, initF, binE, unE, cnt, boundE, newsE, freshE, opE, rmH, blkQ, frz_us, Nat.reduceEqDiff, Nat.reduceLT, Nat.reduceAdd, ↓reduceIte, reduceCtorEq, Nat.reduceLeDiff, us_length])
    refine W_cond rfl (fun h => W_skip ?_) (fun h => W_exit ?_)
    · have h := of_decide_eq_true h
      have hy0 : 0 < y := by
        rcases Nat.eq_zero_or_pos y with e | e
        · subst e; rw [limbs_zero] at h; simp at h
        · exact e
      have hm := Nat.mod_lt x hy0
      have u1 := nUint_calls (limbs x) (by omega) (lim_limbs x)
      have u2 := nUint_calls (limbs y) (by omega) (lim_limbs y)
      have cd := nDiv_calls (limbs x) (limbs y) hx hy (lim_limbs x) (lim_limbs y)
      rw [vn_limbs, vn_limbs, dmod_pos hy0, decide_eq_true hy0] at cd
      rw [vn_limbs] at u1 u2
      have lm := len_mono (Nat.le_of_lt hm)
      have fin : ∃ s', (Nat.gcd s'.1 s'.2 = Nat.gcd x0 y0 ∧ (limbs s'.1).length ≤ 100000 ∧ (limbs s'.2).length ≤ 100000) ∧ s'.2 < y ∧ s' = (y, x % y) := ⟨(y, x % y), ⟨by rw [← hg]; exact gcd_step x y, hy, by simp only; omega⟩, hm, rfl⟩
      by_cases hs1 : (limbs x).length > 2
      · rw [uintR, if_pos hs1] at u1
        obtain ⟨p, s, e⟩ : ∃ p s, uintR y = .tup [.int .u64 p, .bool s] := by unfold uintR; split <;> exact ⟨_, _, rfl⟩
        rw [e] at u2
        repeat (first | (refine W_seq ?_) | (refine W_reg ?_) | (refine W_regd ?_) | (refine W_block ?_) | (refine And.intro (by omega) ?_) | simp (maxSteps := 1000000) (disch := omega) only [cA, cB, lk, lkH, Dst.onT, Dst.onX, Dst.slot, setF, setH, mapF, mapH, initF, binE, unE, cnt, boundE, newsE, freshE, opE, rmH, blkQ, frz_us, Nat.reduceEqDiff, Nat.reduceLT, Nat.reduceAdd, ↓reduceIte, reduceCtorEq, Nat.reduceLeDiff])
        refine callC_pure u1 rfl ?_
        repeat (first | (refine W_seq ?_) | (refine W_reg ?_) | (refine W_regd ?_) | (refine W_block ?_) | (refine And.intro (by omega) ?_) | simp (maxSteps := 1000000) (disch := omega) only [cA, cB, lk, lkH, Dst.onT, Dst.onX, Dst.slot, setF, setH, mapF, mapH, initF, binE, unE, cnt, boundE, newsE, freshE, opE, rmH, blkQ, frz_us, Nat.reduceEqDiff, Nat.reduceLT, Nat.reduceAdd, ↓reduceIte, reduceCtorEq, Nat.reduceLeDiff])
        refine callC_pure u2 rfl ?_
        repeat (first | (refine W_seq ?_) | (refine W_reg ?_) | (refine W_regd ?_) | (refine W_block ?_) | (refine And.intro (by omega) ?_) | simp (maxSteps := 1000000) (disch := omega) only [cA, cB, lk, lkH, Dst.onT, Dst.onX, Dst.slot, setF, setH, mapF, mapH, initF, binE, unE, cnt, boundE, newsE, freshE, opE, rmH, blkQ, frz_us, Nat.reduceEqDiff, Nat.reduceLT, Nat.reduceAdd, ↓reduceIte, reduceCtorEq, Nat.reduceLeDiff])
        refine W_cond rfl (fun h => by cases h) (fun _ => W_skip ?_)
        repeat (first | (refine W_seq ?_) | (refine W_reg ?_) | (refine W_regd ?_) | (refine W_block ?_) | (refine And.intro (by omega) ?_) | simp (maxSteps := 1000000) (disch := omega) only [cA, cB, lk, lkH, Dst.onT, Dst.onX, Dst.slot, setF, setH, mapF, mapH, initF, binE, unE, cnt, boundE, newsE, freshE, opE, rmH, blkQ, frz_us, Nat.reduceEqDiff, Nat.reduceLT, Nat.reduceAdd, ↓reduceIte, reduceCtorEq, Nat.reduceLeDiff])
        refine callC_pure cd rfl ?_
        repeat (first | (refine W_seq ?_) | (refine W_reg ?_) | (refine W_regd ?_) | (refine W_block ?_) | (refine And.intro (by omega) ?_) | simp (maxSteps := 1000000) (disch := omega) only [cA, cB, lk, lkH, Dst.onT, Dst.onX, Dst.slot, setF, setH, mapF, mapH, initF, binE, unE, cnt, boundE, newsE, freshE, opE, rmH, blkQ, frz_us, Nat.reduceEqDiff, Nat.reduceLT, Nat.reduceAdd, ↓reduceIte, reduceCtorEq, Nat.reduceLeDiff])
        obtain ⟨s', i1, i2, rfl⟩ := fin
        exact ⟨_, i1, i2, by simp [subF, lk]⟩
      · rw [uintR, if_neg hs1] at u1
        have hx64 := limbs_le2 (show (limbs x).length ≤ 2 by omega)
        by_cases hs2 : (limbs y).length > 2
        · rw [uintR, if_pos hs2] at u2
          repeat (first | (refine W_seq ?_) | (refine W_reg ?_) | (refine W_regd ?_) | (refine W_block ?_) | (refine And.intro (by omega) ?_) | simp (maxSteps := 1000000) (disch := omega) only [cA, cB, lk, lkH, Dst.onT, Dst.onX, Dst.slot, setF, setH, mapF, mapH, initF, binE, unE, cnt, boundE, newsE, freshE, opE, rmH, blkQ, frz_us, Nat.reduceEqDiff, Nat.reduceLT, Nat.reduceAdd, ↓reduceIte, reduceCtorEq, Nat.reduceLeDiff])
          refine callC_pure u1 rfl ?_
          repeat (first | (refine W_seq ?_) | (refine W_reg ?_) | (refine W_regd ?_) | (refine W_block ?_) | (refine And.intro (by omega) ?_) | simp (maxSteps := 1000000) (disch := omega) only [cA, cB, lk, lkH, Dst.onT, Dst.onX, Dst.slot, setF, setH, mapF, mapH, initF, binE, unE, cnt, boundE, newsE, freshE, opE, rmH, blkQ, frz_us, Nat.reduceEqDiff, Nat.reduceLT, Nat.reduceAdd, ↓reduceIte, reduceCtorEq, Nat.reduceLeDiff])
          refine callC_pure u2 rfl ?_
          repeat (first | (refine W_seq ?_) | (refine W_reg ?_) | (refine W_regd ?_) | (refine W_block ?_) | (refine And.intro (by omega) ?_) | simp (maxSteps := 1000000) (disch := omega) only [cA, cB, lk, lkH, Dst.onT, Dst.onX, Dst.slot, setF, setH, mapF, mapH, initF, binE, unE, cnt, boundE, newsE, freshE, opE, rmH, blkQ, frz_us, Nat.reduceEqDiff, Nat.reduceLT, Nat.reduceAdd, ↓reduceIte, reduceCtorEq, Nat.reduceLeDiff])
          refine W_cond rfl (fun h => by cases h) (fun _ => W_skip ?_)
          repeat (first | (refine W_seq ?_) | (refine W_reg ?_) | (refine W_regd ?_) | (refine W_block ?_) | (refine And.intro (by omega) ?_) | simp (maxSteps := 1000000) (disch := omega) only [cA, cB, lk, lkH, Dst.onT, Dst.onX, Dst.slot, setF, setH, mapF, mapH, initF, binE, unE, cnt, boundE, newsE, freshE, opE, rmH, blkQ, frz_us, Nat.reduceEqDiff, Nat.reduceLT, Nat.reduceAdd, ↓reduceIte, reduceCtorEq, Nat.reduceLeDiff])
          refine callC_pure cd rfl ?_
          repeat (first | (refine W_seq ?_) | (refine W_reg ?_) | (refine W_regd ?_) | (refine W_block ?_) | (refine And.intro (by omega) ?_) | simp (maxSteps := 1000000) (disch := omega) only [cA, cB, lk, lkH, Dst.onT, Dst.onX, Dst.slot, setF, setH, mapF, mapH, initF, binE, unE, cnt, boundE, newsE, freshE, opE, rmH, blkQ, frz_us, Nat.reduceEqDiff, Nat.reduceLT, Nat.reduceAdd, ↓reduceIte, reduceCtorEq, Nat.reduceLeDiff])
          obtain ⟨s', i1, i2, rfl⟩ := fin
          exact ⟨_, i1, i2, by simp [subF, lk]⟩
        · rw [uintR, if_neg hs2] at u2
          have hy64 := limbs_le2 (show (limbs y).length ≤ 2 by omega)
          have cg := ngcd_calls x y hx64 hy64
          have hgl : Nat.gcd x y ≤ y := Nat.gcd_le_right x hy0
          have cf := nFromUint_calls (Nat.gcd x y) (by omega)
          repeat (first | (refine W_seq ?_) | (refine W_reg ?_) | (refine W_regd ?_) | (refine W_block ?_) | (refine And.intro (by omega) ?_) | simp (maxSteps := 1000000) (disch := omega) only [cA, cB, lk, lkH, Dst.onT, Dst.onX, Dst.slot, setF, setH, mapF, mapH, initF, binE, unE, cnt, boundE, newsE, freshE, opE, rmH, blkQ, frz_us, Nat.reduceEqDiff, Nat.reduceLT, Nat.reduceAdd, ↓reduceIte, reduceCtorEq, Nat.reduceLeDiff])
          refine callC_pure u1 rfl ?_
          repeat (first | (refine W_seq ?_) | (refine W_reg ?_) | (refine W_regd ?_) | (refine W_block ?_) | (refine And.intro (by omega) ?_) | simp (maxSteps := 1000000) (disch := omega) only [cA, cB, lk, lkH, Dst.onT, Dst.onX, Dst.slot, setF, setH, mapF, mapH, initF, binE, unE, cnt, boundE, newsE, freshE, opE, rmH, blkQ, frz_us, Nat.reduceEqDiff, Nat.reduceLT, Nat.reduceAdd, ↓reduceIte, reduceCtorEq, Nat.reduceLeDiff])
          refine callC_pure u2 rfl ?_
          repeat (first | (refine W_seq ?_) | (refine W_reg ?_) | (refine W_regd ?_) | (refine W_block ?_) | (refine And.intro (by omega) ?_) | simp (maxSteps := 1000000) (disch := omega) only [cA, cB, lk, lkH, Dst.onT, Dst.onX, Dst.slot, setF, setH, mapF, mapH, initF, binE, unE, cnt, boundE, newsE, freshE, opE, rmH, blkQ, frz_us, Nat.reduceEqDiff, Nat.reduceLT, Nat.reduceAdd, ↓reduceIte, reduceCtorEq, Nat.reduceLeDiff])
          refine W_cond rfl (fun _ => ?_) (fun h => by cases h)
          repeat (first | (refine W_seq ?_) | (refine W_reg ?_) | (refine W_regd ?_) | (refine W_block ?_) | (refine And.intro (by omega) ?_) | simp (maxSteps := 1000000) (disch := omega) only [cA, cB, lk, lkH, Dst.onT, Dst.onX, Dst.slot, setF, setH, mapF, mapH, initF, binE, unE, cnt, boundE, newsE, freshE, opE, rmH, blkQ, frz_us, Nat.reduceEqDiff, Nat.reduceLT, Nat.reduceAdd, ↓reduceIte, reduceCtorEq, Nat.reduceLeDiff])
          refine callC_pure cg rfl ?_
          repeat (first | (refine W_seq ?_) | (refine W_reg ?_) | (refine W_regd ?_) | (refine W_block ?_) | (refine And.intro (by omega) ?_) | simp (maxSteps := 1000000) (disch := omega) only [cA, cB, lk, lkH, Dst.onT, Dst.onX, Dst.slot, setF, setH, mapF, mapH, initF, binE, unE, cnt, boundE, newsE, freshE, opE, rmH, blkQ, frz_us, Nat.reduceEqDiff, Nat.reduceLT, Nat.reduceAdd, ↓reduceIte, reduceCtorEq, Nat.reduceLeDiff])
          refine callC_pure cf rfl ?_
          repeat (first | (refine W_seq ?_) | (refine W_reg ?_) | (refine W_regd ?_) | (refine W_block ?_) | (refine And.intro (by omega) ?_) | simp (maxSteps := 1000000) (disch := omega) only [cA, cB, lk, lkH, Dst.onT, Dst.onX, Dst.slot, setF, setH, mapF, mapH, initF, binE, unE, cnt, boundE, newsE, freshE, opE, rmH, blkQ, frz_us, Nat.reduceEqDiff, Nat.reduceLT, Nat.reduceAdd, ↓reduceIte, reduceCtorEq, Nat.reduceLeDiff])
          rw [← hg]
          exact W_ret (RetP_1 (.imm rfl))
    · have h := of_decide_eq_false h
      have hy0 : y = 0 := limbs_eq_nil.1 (List.eq_nil_of_length_eq_zero (by omega))
      subst hy0
      rw [Nat.gcd_zero_right] at hg
      rw [← hg]
      have cc := Clone_calls (limbs x) (by omega)
      repeat (first | (refine W_seq ?_) | (refine W_reg ?_) | (refine W_regd ?_) | (refine W_block ?_) | (refine And.intro (by omega) ?_) | simp (maxSteps := 1000000) (disch := omega) only [cA, cB, lk, lkH, Dst.onT, Dst.onX, Dst.slot, setF, setH, mapF, mapH, initF, binE, unE, cnt, boundE, newsE, freshE, opE, rmH, blkQ, frz_us, Nat.reduceEqDiff, Nat.reduceLT, Nat.reduceAdd, ↓reduceIte, reduceCtorEq, Nat.reduceLeDiff])
      refine callC_pure cc rfl ?_
      repeat (first | (refine W_seq ?_) | (refine W_reg ?_) | (refine W_regd ?_) | (refine W_block ?_) | (refine And.intro (by omega) ?_) | simp (maxSteps := 1000000) (disch := omega) only [cA, cB, lk, lkH, Dst.onT, Dst.onX, Dst.slot, setF, setH, mapF, mapH, initF, binE, unE, cnt, boundE, newsE, freshE, opE, rmH, blkQ, frz_us, Nat.reduceEqDiff, Nat.reduceLT, Nat.reduceAdd, ↓reduceIte, reduceCtorEq, Nat.reduceLeDiff])
      exact W_ret (RetP_1 (.imm rfl))
theorem rGcd_calls (a b : List Nat) (ha : a.length ≤ 1000) (hb : b.length ≤ 1000) (la : lim a) (lb : lim b) : PCalls Tryz.prog 92 [.sl 1 (us a), .sl 1 (us b)] (.sl 1 (us (limbs (Nat.gcd (vn a) (vn b))))) := by
  have l1 := vn_len la
  have l2 := vn_len lb
  have c1 := rTake_calls a (by omega) la
  have c2 := rTake_calls b (by omega) lb
  refine PCalls_of isrGcd (by simp [fnrGcd]) ?_
  unfold coderGcd
  generalize vn a = x0 at *
  generalize vn b = y0 at *
  repeat (first | (refine W_seq ?_) | (refine W_reg ?_) | (refine W_regd ?_) | (refine W_block ?_) | (refine And.intro (by omega) ?_) | simp (maxSteps := 1000000) (disch := omega) only [cA, cB, lk, lkH, Dst.onT, Dst.onX, Dst.slot, setF, setH, mapF, mapH, initF, binE, unE, cnt, boundE, newsE, freshE, opE, rmH, blkQ, frz_us, Nat.reduceEqDiff, Nat.reduceLT, Nat.reduceAdd, ↓reduceIte, reduceCtorEq, Nat.reduceLeDiff])
  refine callC_pure c1 rfl ?_
  repeat (first | (refine W_seq ?_) | (refine W_reg ?_) | (refine W_regd ?_) | (refine W_block ?_) | (refine And.intro (by omega) ?_) | simp (maxSteps := 1000000) (disch := omega) only [cA, cB, lk, lkH, Dst.onT, Dst.onX, Dst.slot, setF, setH, mapF, mapH, initF, binE, unE, cnt, boundE, newsE, freshE, opE, rmH, blkQ, frz_us, Nat.reduceEqDiff, Nat.reduceLT, Nat.reduceAdd, ↓reduceIte, reduceCtorEq, Nat.reduceLeDiff])
  refine callC_pure c2 rfl ?_
  repeat (first | (refine W_seq ?_) | (refine W_reg ?_) | (refine W_regd ?_) | (refine W_block ?_) | (refine And.intro (by omega) ?_) | simp (maxSteps := 1000000) (disch := omega) only [cA, cB, lk, lkH, Dst.onT, Dst.onX, Dst.slot, setF, setH, mapF, mapH, initF, binE, unE, cnt, boundE, newsE, freshE, opE, rmH, blkQ, frz_us, Nat.reduceEqDiff, Nat.reduceLT, Nat.reduceAdd, ↓reduceIte, reduceCtorEq, Nat.reduceLeDiff])
  refine W_loop (σ := Nat × Nat) (fun z => [(0, .sl 1 (us (limbs z.1))), (1, .sl 1 (us (limbs z.2)))]) (fun _ => []) (fun z => Nat.gcd z.1 z.2 = Nat.gcd x0 y0 ∧ (limbs z.1).length ≤ 1000 ∧ (limbs z.2).length ≤ 1000) (fun z => z.2) (x0, y0) ⟨rfl, by simp only; omega, by simp only; omega⟩ ?_ rfl ?_
  · simp [subF, lk]
  · rintro ⟨x, y⟩ ⟨hg, hx, hy⟩
    simp only at hg hx hy ⊢
    repeat (first | (refine W_seq ?_) | (refine W_reg ?_) | (refine W_regd ?_) | (refine W_block ?_) | (refine And.intro (by omega) ?_) | simp (maxSteps := 1000000) (disch := omega) only [cA, cB, lk, lkH, Dst.onT, Dst.onX, Dst.slot, setF, setH, mapF, mapH, initF, binE, unE, cnt, boundE, newsE, freshE, opE, rmH, blkQ, frz_us, Nat.reduceEqDiff, Nat.reduceLT, Nat.reduceAdd, ↓reduceIte, reduceCtorEq, Nat.reduceLeDiff, us_length])
    refine W_cond rfl (fun h => W_skip ?_) (fun h => W_exit ?_)
    · have h := of_decide_eq_true h
      have hy0 : 0 < y := by
        rcases Nat.eq_zero_or_pos y with e | e
        · subst e; rw [limbs_zero] at h; simp at h
        · exact e
      have hm := Nat.mod_lt x hy0
      have cd := rDiv_calls (limbs x) (limbs y) hx hy (lim_limbs x) (lim_limbs y)
      rw [vn_limbs, vn_limbs, dmod_pos hy0, decide_eq_true hy0] at cd
      have lm := len_mono (Nat.le_of_lt hm)
      repeat (first | (refine W_seq ?_) | (refine W_reg ?_) | (refine W_regd ?_) | (refine W_block ?_) | (refine And.intro (by omega) ?_) | simp (maxSteps := 1000000) (disch := omega) only [cA, cB, lk, lkH, Dst.onT, Dst.onX, Dst.slot, setF, setH, mapF, mapH, initF, binE, unE, cnt, boundE, newsE, freshE, opE, rmH, blkQ, frz_us, Nat.reduceEqDiff, Nat.reduceLT, Nat.reduceAdd, ↓reduceIte, reduceCtorEq, Nat.reduceLeDiff])
      refine callC_pure cd rfl ?_
      repeat (first | (refine W_seq ?_) | (refine W_reg ?_) | (refine W_regd ?_) | (refine W_block ?_) | (refine And.intro (by omega) ?_) | simp (maxSteps := 1000000) (disch := omega) only [cA, cB, lk, lkH, Dst.onT, Dst.onX, Dst.slot, setF, setH, mapF, mapH, initF, binE, unE, cnt, boundE, newsE, freshE, opE, rmH, blkQ, frz_us, Nat.reduceEqDiff, Nat.reduceLT, Nat.reduceAdd, ↓reduceIte, reduceCtorEq, Nat.reduceLeDiff])
      refine ⟨(y, x % y), ⟨by rw [← hg]; exact gcd_step x y, hy, by simp only; omega⟩, hm, by simp [subF, lk]⟩
    · have h := of_decide_eq_false h
      have hy0 : y = 0 := limbs_eq_nil.1 (List.eq_nil_of_length_eq_zero (by omega))
      subst hy0
      rw [Nat.gcd_zero_right] at hg
      rw [← hg]
      repeat (first | (refine W_seq ?_) | (refine W_reg ?_) | (refine W_regd ?_) | (refine W_block ?_) | (refine And.intro (by omega) ?_) | simp (maxSteps := 1000000) (disch := omega) only [cA, cB, lk, lkH, Dst.onT, Dst.onX, Dst.slot, setF, setH, mapF, mapH, initF, binE, unE, cnt, boundE, newsE, freshE, opE, rmH, blkQ, frz_us, Nat.reduceEqDiff, Nat.reduceLT, Nat.reduceAdd, ↓reduceIte, reduceCtorEq, Nat.reduceLeDiff])
      exact W_ret (RetP_1 (.imm rfl))
end Go.Proofs.YteiagmmfapbaiaaGreatDoor
namespace Go.Proofs.YteiagmmfapbaiaaGreatDoor
open Go Go.Dat Go.Proofs Nat32
theorem nMul_calls (a b : List Nat) (ha : a.length ≤ 10000) (hb : b.length ≤ 10000) (la : lim a) (lb : lim b) : PCalls Tryz.prog 74 [.sl 1 (us a), .sl 1 (us b)] (.sl 1 (us (limbs (vn a * vn b)))) := by
  have h1 := vn_len la
  have h2 := vn_len lb
  have c1 := nValue_calls a (by omega) la
  have c2 := nValue_calls b (by omega) lb
  refine PCalls_of isnMul (by simp [fnnMul]) ?_
  unfold codenMul
  generalize vn a = x at h1 c1 ⊢
  generalize vn b = y at h2 c2 ⊢
  have laX := lim_limbs x
  have laY := lim_limbs y
  refine W_seq (W_reg ?_)
  simp (maxSteps := 1000000) (disch := omega) only [cA, cB, lk, lkH, Dst.onT, Dst.onX, Dst.slot, setF, setH, mapF, mapH, initF, binE, unE, cnt, boundE, newsE, freshE, opE, rmH, blkQ, frz_us, Nat.reduceEqDiff, Nat.reduceLT, Nat.reduceAdd, ↓reduceIte, reduceCtorEq, Nat.reduceLeDiff]
  repeat refine ⟨by omega, ?_⟩
  refine W_seq (W_reg ?_)
  simp (maxSteps := 1000000) (disch := omega) only [cA, cB, lk, lkH, Dst.onT, Dst.onX, Dst.slot, setF, setH, mapF, mapH, initF, binE, unE, cnt, boundE, newsE, freshE, opE, rmH, blkQ, frz_us, Nat.reduceEqDiff, Nat.reduceLT, Nat.reduceAdd, ↓reduceIte, reduceCtorEq, Nat.reduceLeDiff]
  repeat refine ⟨by omega, ?_⟩
  refine callC_pure c1 rfl ?_
  simp (maxSteps := 1000000) (disch := omega) only [cA, cB, lk, lkH, Dst.onT, Dst.onX, Dst.slot, setF, setH, mapF, mapH, initF, binE, unE, cnt, boundE, newsE, freshE, opE, rmH, blkQ, frz_us, Nat.reduceEqDiff, Nat.reduceLT, Nat.reduceAdd, ↓reduceIte, reduceCtorEq, Nat.reduceLeDiff]
  repeat refine ⟨by omega, ?_⟩
  refine callC_pure c2 rfl ?_
  simp (maxSteps := 1000000) (disch := omega) only [cA, cB, lk, lkH, Dst.onT, Dst.onX, Dst.slot, setF, setH, mapF, mapH, initF, binE, unE, cnt, boundE, newsE, freshE, opE, rmH, blkQ, frz_us, Nat.reduceEqDiff, Nat.reduceLT, Nat.reduceAdd, ↓reduceIte, reduceCtorEq, Nat.reduceLeDiff]
  repeat refine ⟨by omega, ?_⟩
  refine W_seq (W_reg ?_)
  simp (maxSteps := 1000000) (disch := omega) only [cA, cB, lk, lkH, Dst.onT, Dst.onX, Dst.slot, setF, setH, mapF, mapH, initF, binE, unE, cnt, boundE, newsE, freshE, opE, rmH, blkQ, frz_us, Nat.reduceEqDiff, Nat.reduceLT, Nat.reduceAdd, ↓reduceIte, reduceCtorEq, Nat.reduceLeDiff, us_length, us_rep, nbnMul, add_nat]
  repeat refine ⟨by omega, ?_⟩
  refine W_seq (W_seq (W_reg ?_))
  simp (maxSteps := 1000000) (disch := omega) only [cA, cB, lk, lkH, Dst.onT, Dst.onX, Dst.slot, setF, setH, mapF, mapH, initF, binE, unE, cnt, boundE, newsE, freshE, opE, rmH, blkQ, frz_us, Nat.reduceEqDiff, Nat.reduceLT, Nat.reduceAdd, ↓reduceIte, reduceCtorEq, Nat.reduceLeDiff, us_length]
  repeat refine ⟨by omega, ?_⟩
  obtain ⟨N, hN⟩ : ∃ N, N = (limbs x).length + (limbs y).length := ⟨_, rfl⟩
  rw [← hN]
  refine W_block (W_loop (σ := Nat × List Nat) (fun s => [(0, .sl 1 (us (limbs x))), (1, .sl 1 (us (limbs y))), (5, .osl 1 20 0 N), (21, .sl 1 (us (limbs x))), (22, .int .i64 (limbs x).length), (23, .int .i64 s.1)])
    (fun s => [(20, us s.2)])
    (fun s => s.1 ≤ (limbs x).length ∧ s.2.length = N ∧ lim s.2 ∧ nv s.2 = nv ((limbs x).take s.1) * y ∧ ∀ k, s.1 + (limbs y).length ≤ k → s.2.getD k 0 = 0)
    (fun s => (limbs x).length - s.1) (0, List.replicate N 0) ⟨Nat.zero_le _, by simp, ?_, by simp [nv, nv_rep], ?_⟩ ?_ ?_ ?_)
  · intro z hz; rw [List.eq_of_mem_replicate hz]; decide
  · intro k _; simp [List.getD_eq_getElem?_getD, List.getElem?_replicate]; split <;> rfl
  · simp [subF, lk]
  · rfl
  · rintro ⟨i, out⟩ ⟨hi, ho, hlo, hno, hzo⟩
    simp only at hi ho hlo hno hzo ⊢
    refine W_seq (W_reg ?_)
    simp (maxSteps := 1000000) (disch := omega) only [cA, cB, lk, lkH, Dst.onT, Dst.onX, Dst.slot, setF, setH, mapF, mapH, initF, binE, unE, cnt, boundE, newsE, freshE, opE, rmH, blkQ, frz_us, Nat.reduceEqDiff, Nat.reduceLT, Nat.reduceAdd, ↓reduceIte, reduceCtorEq, Nat.reduceLeDiff]
    repeat refine ⟨by omega, ?_⟩
    refine W_seq (W_cond rfl (fun hcd => W_skip ?_) (fun hcd => W_exit ?_))
    · have hlt := of_decide_eq_true hcd
      have hlt : i < (limbs x).length := by omega
      have hxi := lim_getD laX i
      simp (maxSteps := 1000000) (disch := omega) only [cA, cB, lk, lkH, Dst.onT, Dst.onX, Dst.slot, setF, setH, mapF, mapH, initF, binE, unE, cnt, boundE, newsE, freshE, opE, rmH, blkQ, frz_us, Nat.reduceEqDiff, Nat.reduceLT, Nat.reduceAdd, ↓reduceIte, reduceCtorEq, Nat.reduceLeDiff]
      repeat refine ⟨by omega, ?_⟩
      refine W_seq (W_block (W_seq (W_reg ?_)))
      simp (maxSteps := 1000000) (disch := omega) only [cA, cB, lk, lkH, Dst.onT, Dst.onX, Dst.slot, setF, setH, mapF, mapH, initF, binE, unE, cnt, boundE, newsE, freshE, opE, rmH, blkQ, frz_us, Nat.reduceEqDiff, Nat.reduceLT, Nat.reduceAdd, ↓reduceIte, reduceCtorEq, Nat.reduceLeDiff, us_length, us_getD]
      repeat refine ⟨by omega, ?_⟩
      refine W_seq (W_reg ?_)
      simp (maxSteps := 1000000) (disch := omega) only [cA, cB, lk, lkH, Dst.onT, Dst.onX, Dst.slot, setF, setH, mapF, mapH, initF, binE, unE, cnt, boundE, newsE, freshE, opE, rmH, blkQ, frz_us, Nat.reduceEqDiff, Nat.reduceLT, Nat.reduceAdd, ↓reduceIte, reduceCtorEq, Nat.reduceLeDiff]
      repeat refine ⟨by omega, ?_⟩
      have hts := nv_take_succ' (a := limbs x) i
      generalize hxe : (limbs x).getD i 0 = xi at hxi hts ⊢
      refine W_seq (W_join (ι := Nat × List Nat) (fun s => s.1 < 4294967296 ∧ s.2.length = N ∧ lim s.2 ∧ nv s.2 + 4294967296 ^ (i + (limbs y).length) * s.1 = nv out + 4294967296 ^ i * (xi * y) ∧ ∀ k, i + (limbs y).length ≤ k → s.2.getD k 0 = 0)
        (fun s => [(0, .sl 1 (us (limbs x))), (1, .sl 1 (us (limbs y))), (5, .osl 1 20 0 N), (6, .int .i64 i), (8, .int .u64 s.1), (21, .sl 1 (us (limbs x))), (22, .int .i64 (limbs x).length), (23, .int .i64 i)]) (fun s => [(20, us s.2)]) (W_seq (W_reg ?_)) ?_)
      · simp (maxSteps := 1000000) (disch := omega) only [cA, cB, lk, lkH, Dst.onT, Dst.onX, Dst.slot, setF, setH, mapF, mapH, initF, binE, unE, cnt, boundE, newsE, freshE, opE, rmH, blkQ, frz_us, Nat.reduceEqDiff, Nat.reduceLT, Nat.reduceAdd, ↓reduceIte, reduceCtorEq, Nat.reduceLeDiff, us_length]
        repeat refine ⟨by omega, ?_⟩
        refine W_block (W_loop (σ := Nat × List Nat × Nat) (fun s => [(0, .sl 1 (us (limbs x))), (1, .sl 1 (us (limbs y))), (5, .osl 1 20 0 N), (6, .int .i64 i), (7, .int .u32 xi), (8, .int .u64 s.2.2), (21, .sl 1 (us (limbs x))), (22, .int .i64 (limbs x).length), (23, .int .i64 i), (28, .sl 1 (us (limbs y))), (29, .int .i64 (limbs y).length), (30, .int .i64 s.1)])
          (fun s => [(20, us s.2.1)])
          (fun s => s.1 ≤ (limbs y).length ∧ s.2.1.length = N ∧ lim s.2.1 ∧ s.2.2 < 4294967296 ∧ nv s.2.1 + 4294967296 ^ (i + s.1) * s.2.2 = nv out + 4294967296 ^ i * (xi * nv ((limbs y).take s.1)) ∧ ∀ k, i + (limbs y).length ≤ k → s.2.1.getD k 0 = 0)
          (fun s => (limbs y).length - s.1) (0, out, 0) ⟨Nat.zero_le _, ho, hlo, by simp only; omega, by simp [nv], hzo⟩ ?_ rfl ?_)
        · simp [subF, lk]
        · rintro ⟨j, q, c⟩ ⟨hj, hq, hlq, hc, hnv, hzq⟩
          simp only at hj hq hlq hc hnv hzq ⊢
          refine W_seq (W_reg ?_)
          simp (maxSteps := 1000000) (disch := omega) only [cA, cB, lk, lkH, Dst.onT, Dst.onX, Dst.slot, setF, setH, mapF, mapH, initF, binE, unE, cnt, boundE, newsE, freshE, opE, rmH, blkQ, frz_us, Nat.reduceEqDiff, Nat.reduceLT, Nat.reduceAdd, ↓reduceIte, reduceCtorEq, Nat.reduceLeDiff]
          repeat refine ⟨by omega, ?_⟩
          refine W_seq (W_cond rfl (fun hcd2 => W_skip ?_) (fun hcd2 => W_exit ?_))
          · have hlt2 := of_decide_eq_true hcd2
            have hlt2 : j < (limbs y).length := by omega
            have hyj := lim_getD laY j
            have htj := nv_take_succ' (a := limbs y) j
            have hoj := lim_getD hlq (i + j)
            have hidx : (((i : Int) + (j : Int))).toNat = i + j := by omega
            simp (maxSteps := 1000000) (disch := omega) only [cA, cB, lk, lkH, Dst.onT, Dst.onX, Dst.slot, setF, setH, mapF, mapH, initF, binE, unE, cnt, boundE, newsE, freshE, opE, rmH, blkQ, frz_us, Nat.reduceEqDiff, Nat.reduceLT, Nat.reduceAdd, ↓reduceIte, reduceCtorEq, Nat.reduceLeDiff]
            repeat refine ⟨by omega, ?_⟩
            refine W_seq (W_block (W_seq (W_reg ?_)))
            simp (maxSteps := 1000000) (disch := omega) only [cA, cB, lk, lkH, Dst.onT, Dst.onX, Dst.slot, setF, setH, mapF, mapH, initF, binE, unE, cnt, boundE, newsE, freshE, opE, rmH, blkQ, frz_us, Nat.reduceEqDiff, Nat.reduceLT, Nat.reduceAdd, ↓reduceIte, reduceCtorEq, Nat.reduceLeDiff, us_length, us_getD]
            repeat refine ⟨by omega, ?_⟩
            generalize (limbs y).getD j 0 = yj at hyj htj ⊢
            refine W_seq (W_reg ?_)
            simp (maxSteps := 1000000) (disch := omega) only [cA, cB, lk, lkH, Dst.onT, Dst.onX, Dst.slot, setF, setH, mapF, mapH, initF, binE, unE, cnt, boundE, newsE, freshE, opE, rmH, blkQ, frz_us, Nat.reduceEqDiff, Nat.reduceLT, Nat.reduceAdd, ↓reduceIte, reduceCtorEq, Nat.reduceLeDiff, us_length, us_getD, hidx, hq]
            repeat refine ⟨by omega, ?_⟩
            obtain ⟨m1, m2⟩ := mac_w hxi hyj hc hoj
            have hw : IntKind.u64.wrap ((c : Int) + IntKind.u64.wrap (IntKind.u64.wrap ((xi : Int) * (yj : Int)) + ((q.getD (i + j) 0 : Nat) : Int))) = ((xi * yj + q.getD (i + j) 0 + c : Nat) : Int) := by
              rw [mul_w hxi hyj]
              generalize xi * yj = p at m1 ⊢
              generalize q.getD (i + j) 0 = o at m1 ⊢
              rw [wu64 (x := (p : Int) + (o : Int)) (by omega) (by omega), wu64 (by omega) (by omega)]
              omega
            rw [hw]
            have hset := nv_set (l := q) (k := i + j) (v := (xi * yj + q.getD (i + j) 0 + c) % 4294967296) (by omega)
            have hstep := mac_step hnv hset rfl
            generalize xi * yj + q.getD (i + j) 0 + c = t at m1 m2 hset hstep ⊢
            have halg : 4294967296 ^ (i + j) * (xi * yj) = 4294967296 ^ i * (xi * (4294967296 ^ j * yj)) := by
              rw [Nat.pow_add, Nat.mul_assoc, ← Nat.mul_assoc (4294967296 ^ j) xi yj, Nat.mul_comm (4294967296 ^ j) xi, Nat.mul_assoc xi]
            have hfin : nv (q.set (i + j) (t % 4294967296)) + 4294967296 ^ (i + (j + 1)) * (t / 4294967296) = nv out + 4294967296 ^ i * (xi * nv ((limbs y).take (j + 1))) := by
              rw [htj, Nat.mul_add, Nat.mul_add, ← halg, ← Nat.add_assoc (nv out), ← hstep, show i + (j + 1) = i + j + 1 from rfl, Nat.pow_succ]
            refine W_seq (W_reg ?_)
            simp (maxSteps := 1000000) (disch := omega) only [cA, cB, lk, lkH, Dst.onT, Dst.onX, Dst.slot, setF, setH, mapF, mapH, initF, binE, unE, cnt, boundE, newsE, freshE, opE, rmH, blkQ, frz_us, Nat.reduceEqDiff, Nat.reduceLT, Nat.reduceAdd, ↓reduceIte, reduceCtorEq, Nat.reduceLeDiff, us_length, hidx, hq, us_set, wu32', mod32]
            repeat refine ⟨by omega, ?_⟩
            refine W_reg ?_
            simp (maxSteps := 1000000) (disch := omega) only [cA, cB, lk, lkH, Dst.onT, Dst.onX, Dst.slot, setF, setH, mapF, mapH, initF, binE, unE, cnt, boundE, newsE, freshE, opE, rmH, blkQ, frz_us, Nat.reduceEqDiff, Nat.reduceLT, Nat.reduceAdd, ↓reduceIte, reduceCtorEq, Nat.reduceLeDiff, shr32u64]
            repeat refine ⟨by omega, ?_⟩
            refine W_reg ?_
            simp (maxSteps := 1000000) (disch := omega) only [cA, cB, lk, lkH, Dst.onT, Dst.onX, Dst.slot, setF, setH, mapF, mapH, initF, binE, unE, cnt, boundE, newsE, freshE, opE, rmH, blkQ, frz_us, Nat.reduceEqDiff, Nat.reduceLT, Nat.reduceAdd, ↓reduceIte, reduceCtorEq, Nat.reduceLeDiff]
            refine ⟨(j + 1, q.set (i + j) (t % 4294967296), t / 4294967296), ⟨by simp only; omega, by simp [hq], lim_set hlq (by omega), m2, hfin, ?_⟩, by simp only; omega, by simp [subF, lk], rfl⟩
            intro k hk
            simp only
            rw [getD_set_ne' (by omega)]
            exact hzq k hk
          · have hge2 := of_decide_eq_false hcd2
            have hjl : j = (limbs y).length := by omega
            subst hjl
            rw [List.take_of_length_le (Nat.le_refl _), nv_limbs] at hnv
            simp (maxSteps := 1000000) (disch := omega) only [cA, cB, lk, lkH, Dst.onT, Dst.onX, Dst.slot, setF, setH, mapF, mapH, initF, binE, unE, cnt, boundE, newsE, freshE, opE, rmH, blkQ, frz_us, Nat.reduceEqDiff, Nat.reduceLT, Nat.reduceAdd, ↓reduceIte, reduceCtorEq, Nat.reduceLeDiff]
            exact ⟨(c, q), ⟨hc, hq, hlq, hnv, hzq⟩, by simp [subF, lk], rfl⟩
      · rintro ⟨c, q⟩ ⟨hc, hq, hlq, hnv, hzq⟩
        simp only at hc hq hlq hnv hzq ⊢
        have hidx : ((((i : Int) + ((limbs y).length : Int)))).toNat = i + (limbs y).length := by omega
        have hset := nv_set (l := q) (k := i + (limbs y).length) (v := c) (by omega)
        rw [hzq _ (Nat.le_refl _), Nat.mul_zero, Nat.add_zero] at hset
        have hcm : c % 4294967296 = c := Nat.mod_eq_of_lt hc
        refine W_reg ?_
        simp (maxSteps := 1000000) (disch := omega) only [cA, cB, lk, lkH, Dst.onT, Dst.onX, Dst.slot, setF, setH, mapF, mapH, initF, binE, unE, cnt, boundE, newsE, freshE, opE, rmH, blkQ, frz_us, Nat.reduceEqDiff, Nat.reduceLT, Nat.reduceAdd, ↓reduceIte, reduceCtorEq, Nat.reduceLeDiff, us_length, hidx, hq, us_set, wu32', mod32, hcm]
        repeat refine ⟨by omega, ?_⟩
        refine W_reg ?_
        simp (maxSteps := 1000000) (disch := omega) only [cA, cB, lk, lkH, Dst.onT, Dst.onX, Dst.slot, setF, setH, mapF, mapH, initF, binE, unE, cnt, boundE, newsE, freshE, opE, rmH, blkQ, frz_us, Nat.reduceEqDiff, Nat.reduceLT, Nat.reduceAdd, ↓reduceIte, reduceCtorEq, Nat.reduceLeDiff]
        refine ⟨(i + 1, q.set (i + (limbs y).length) c), ⟨by simp only; omega, by simp [hq], lim_set hlq hc, ?_, ?_⟩, by simp only; omega, by simp [subF, lk], rfl⟩
        · simp only
          rw [hset, hnv, hno, hts, Nat.add_mul, Nat.mul_assoc]
        · intro k hk
          simp only at hk ⊢
          rw [getD_set_ne' (by omega)]
          exact hzq k (by omega)
    · have hge := of_decide_eq_false hcd
      have hil : i = (limbs x).length := by omega
      subst hil
      rw [List.take_of_length_le (Nat.le_refl _), nv_limbs] at hno
      have ct := nTrim_calls out (by omega) hlo
      rw [hno] at ct
      simp (maxSteps := 1000000) (disch := omega) only [cA, cB, lk, lkH, Dst.onT, Dst.onX, Dst.slot, setF, setH, mapF, mapH, initF, binE, unE, cnt, boundE, newsE, freshE, opE, rmH, blkQ, frz_us, Nat.reduceEqDiff, Nat.reduceLT, Nat.reduceAdd, ↓reduceIte, reduceCtorEq, Nat.reduceLeDiff]
      repeat refine ⟨by omega, ?_⟩
      refine W_seq (W_reg ?_)
      simp (maxSteps := 1000000) (disch := omega) only [cA, cB, lk, lkH, Dst.onT, Dst.onX, Dst.slot, setF, setH, mapF, mapH, initF, binE, unE, cnt, boundE, newsE, freshE, opE, rmH, blkQ, frz_us, Nat.reduceEqDiff, Nat.reduceLT, Nat.reduceAdd, ↓reduceIte, reduceCtorEq, Nat.reduceLeDiff]
      repeat refine ⟨by omega, ?_⟩
      refine callC_freeze rfl 20 (cells := us out) (by simp [lkH]) (us_rf _) ?_
      simp (maxSteps := 1000000) (disch := omega) only [cA, cB, lk, lkH, Dst.onT, Dst.onX, Dst.slot, setF, setH, mapF, mapH, initF, binE, unE, cnt, boundE, newsE, freshE, opE, rmH, blkQ, frz_us, Nat.reduceEqDiff, Nat.reduceLT, Nat.reduceAdd, ↓reduceIte, reduceCtorEq, Nat.reduceLeDiff, frz_us ho.symm]
      refine callC_pure ct rfl ?_
      simp (maxSteps := 1000000) (disch := omega) only [cA, cB, lk, lkH, Dst.onT, Dst.onX, Dst.slot, setF, setH, mapF, mapH, initF, binE, unE, cnt, boundE, newsE, freshE, opE, rmH, blkQ, frz_us, Nat.reduceEqDiff, Nat.reduceLT, Nat.reduceAdd, ↓reduceIte, reduceCtorEq, Nat.reduceLeDiff]
      exact W_ret (RetP_1 (.imm rfl))
end Go.Proofs.YteiagmmfapbaiaaGreatDoor
namespace Go.Proofs.YteiagmmfapbaiaaGreatDoor
open Go Go.Dat Go.Proofs Nat32
theorem vld_eq {a : List Nat} (la : lim a) (h : vld a = true) : limbs (vn a) = a := by
  rw [vn, val, h, if_pos rfl, limbs_nv la h]
end Go.Proofs.YteiagmmfapbaiaaGreatDoor
namespace Go.Proofs.YteiagmmfapbaiaaGreatDoor
open Go Go.Dat Go.Proofs Nat32
theorem len_add {p q m : Nat} (h1 : (limbs p).length ≤ m) (h2 : (limbs q).length ≤ m) : (limbs (p + q)).length ≤ m + 1 := by
  rw [limbs_len] at h1 h2 ⊢
  rw [Nat.pow_succ]; omega
theorem sameL (p q : Nat) (h : p = q) (hl : (limbs p).length ≤ 100000) : PCalls Tryz.prog 59 [.sl 1 (us (limbs p)), .sl 1 (us (limbs q))] (.bool true) := by
  subst h
  have := rSame_calls (limbs p) (limbs p) (by omega) (by omega)
  rwa [decide_eq_true rfl] at this
theorem nAddL (p q : Nat) (h1 : (limbs p).length ≤ 100000) (h2 : (limbs q).length ≤ 100000) : PCalls Tryz.prog 78 [.sl 1 (us (limbs p)), .sl 1 (us (limbs q))] (.sl 1 (us (limbs (p + q)))) := by
  have := nAdd_calls (limbs p) (limbs q) h1 h2 (lim_limbs _) (lim_limbs _)
  rwa [vn_limbs, vn_limbs] at this
theorem nMulL (p q : Nat) (h1 : (limbs p).length ≤ 10000) (h2 : (limbs q).length ≤ 10000) : PCalls Tryz.prog 74 [.sl 1 (us (limbs p)), .sl 1 (us (limbs q))] (.sl 1 (us (limbs (p * q)))) := by
  have := nMul_calls (limbs p) (limbs q) h1 h2 (lim_limbs _) (lim_limbs _)
  rwa [vn_limbs, vn_limbs] at this
theorem nDivL (p q : Nat) (h1 : (limbs p).length ≤ 100000) (h2 : (limbs q).length ≤ 100000) : PCalls Tryz.prog 73 [.sl 1 (us (limbs p)), .sl 1 (us (limbs q))] (.tup [.sl 1 (us (limbs (p / q))), .sl 1 (us (limbs (dmod p q))), .bool (decide (0 < q))]) := by
  have := nDiv_calls (limbs p) (limbs q) h1 h2 (lim_limbs _) (lim_limbs _)
  rwa [vn_limbs, vn_limbs] at this
theorem nCmpL (p q : Nat) (h1 : (limbs p).length ≤ 100000) (h2 : (limbs q).length ≤ 100000) : PCalls Tryz.prog 77 [.sl 1 (us (limbs p)), .sl 1 (us (limbs q))] (.int .i64 (cmpN p q)) := by
  have := nCmp_calls (limbs p) (limbs q) (by omega) (by omega) (lim_limbs _) (lim_limbs _)
  rwa [vn_limbs, vn_limbs] at this
theorem limbs1 : limbs 1 = [1] := limbs_one (by decide) (by decide)
theorem us1L : [DV.int .u32 1] = us (limbs 1) := by rw [limbs1]; rfl
theorem us_rfd (xs : List Nat) : (∀ d ∈ us xs, d.rf = true) = True := by simp [us, u32, DV.rf]
theorem rAddL (p q : Nat) (h1 : (limbs p).length ≤ 100000) (h2 : (limbs q).length ≤ 100000) : PCalls Tryz.prog 113 [.sl 1 (us (limbs p)), .sl 1 (us (limbs q))] (.sl 1 (us (limbs (p + q)))) := by
  have := rAdd_calls (limbs p) (limbs q) h1 h2 (lim_limbs _) (lim_limbs _)
  rwa [vn_limbs, vn_limbs] at this
theorem rMulL (p q : Nat) (h1 : (limbs p).length ≤ 10000) (h2 : (limbs q).length ≤ 10000) : PCalls Tryz.prog 81 [.sl 1 (us (limbs p)), .sl 1 (us (limbs q))] (.sl 1 (us (limbs (p * q)))) := by
  have := rMul_calls (limbs p) (limbs q) h1 h2 (lim_limbs _) (lim_limbs _)
  rwa [vn_limbs, vn_limbs] at this
theorem rDivL (p q : Nat) (h1 : (limbs p).length ≤ 1000) (h2 : (limbs q).length ≤ 1000) : PCalls Tryz.prog 123 [.sl 1 (us (limbs p)), .sl 1 (us (limbs q))] (.tup [.sl 1 (us (limbs (p / q))), .sl 1 (us (limbs (dmod p q))), .bool (decide (0 < q))]) := by
  have := rDiv_calls (limbs p) (limbs q) h1 h2 (lim_limbs _) (lim_limbs _)
  rwa [vn_limbs, vn_limbs] at this
end Go.Proofs.YteiagmmfapbaiaaGreatDoor
namespace Go.Proofs.YteiagmmfapbaiaaGreatDoor
open Go Go.Dat Go.Proofs Nat32
theorem len_gt (n : Nat) : decide ((0 : Int) < ((limbs n).length : Int)) = decide (0 < n) := by
  rw [decide_eq_decide, ← limbs_len0]; omega
theorem iValid_calls (neg : Bool) (a : List Nat) (ha : a.length ≤ 1000000) : PCalls Tryz.prog 85 [X neg a] (.bool (vldI neg a)) := by
  refine PCalls_of isiValid (by simp [fniValid]) ?_
  unfold codeiValid
  have cv := nValid_calls a ha
  unfold vldI
  have hd : decide ((0 : Int) < a.length) = decide (0 < a.length) := by rw [decide_eq_decide]; omega
  generalize decide (0 < a.length) = p at *
  generalize vld a = v at *
  repeat (first | (refine W_seq ?_) | (refine W_reg ?_) | (refine W_regd ?_) | (refine W_block ?_) | (refine And.intro (by omega) ?_) | simp (maxSteps := 1000000) (disch := omega) only [cA, cB, lk, lkH, Dst.onT, Dst.onX, Dst.slot, setF, setH, mapF, mapH, initF, binE, unE, cnt, boundE, newsE, freshE, opE, rmH, blkQ, frz_us, Nat.reduceEqDiff, Nat.reduceLT, Nat.reduceAdd, ↓reduceIte, reduceCtorEq, Nat.reduceLeDiff, X, cS, nbiValid, us_length, hd] | (refine callC_pure (cv) rfl ?_) | exact W_ret (RetP_1 (.imm rfl)) | exact W_ret (RetP_c rfl rfl rfl (.imm rfl)))
  cases v
  · repeat (first | (refine W_seq ?_) | (refine W_reg ?_) | (refine W_regd ?_) | (refine W_block ?_) | (refine And.intro (by omega) ?_) | simp (maxSteps := 1000000) (disch := omega) only [cA, cB, lk, lkH, Dst.onT, Dst.onX, Dst.slot, setF, setH, mapF, mapH, initF, binE, unE, cnt, boundE, newsE, freshE, opE, rmH, blkQ, frz_us, Nat.reduceEqDiff, Nat.reduceLT, Nat.reduceAdd, ↓reduceIte, reduceCtorEq, Nat.reduceLeDiff, X, cS, nbiValid, us_length, hd] | (refine callC_pure (cv) rfl ?_) | exact W_ret (RetP_1 (.imm rfl)) | exact W_ret (RetP_c rfl rfl rfl (.imm rfl)))
  · cases p
    · repeat (first | (refine W_seq ?_) | (refine W_reg ?_) | (refine W_regd ?_) | (refine W_block ?_) | (refine And.intro (by omega) ?_) | simp (maxSteps := 1000000) (disch := omega) only [cA, cB, lk, lkH, Dst.onT, Dst.onX, Dst.slot, setF, setH, mapF, mapH, initF, binE, unE, cnt, boundE, newsE, freshE, opE, rmH, blkQ, frz_us, Nat.reduceEqDiff, Nat.reduceLT, Nat.reduceAdd, ↓reduceIte, reduceCtorEq, Nat.reduceLeDiff, X, cS, nbiValid, us_length, hd] | (refine callC_pure (cv) rfl ?_) | exact W_ret (RetP_1 (.imm rfl)) | exact W_ret (RetP_c rfl rfl rfl (.imm rfl)))
    · repeat (first | (refine W_seq ?_) | (refine W_reg ?_) | (refine W_regd ?_) | (refine W_block ?_) | (refine And.intro (by omega) ?_) | simp (maxSteps := 1000000) (disch := omega) only [cA, cB, lk, lkH, Dst.onT, Dst.onX, Dst.slot, setF, setH, mapF, mapH, initF, binE, unE, cnt, boundE, newsE, freshE, opE, rmH, blkQ, frz_us, Nat.reduceEqDiff, Nat.reduceLT, Nat.reduceAdd, ↓reduceIte, reduceCtorEq, Nat.reduceLeDiff, X, cS, nbiValid, us_length, hd] | (refine callC_pure (cv) rfl ?_) | exact W_ret (RetP_1 (.imm rfl)) | exact W_ret (RetP_c rfl rfl rfl (.imm rfl)))
theorem i_value_calls (neg : Bool) (a : List Nat) (ha : a.length ≤ 1000000) (la : lim a) : PCalls Tryz.prog 101 [X neg a] (I (iv neg a)) := by
  have cv := iValid_calls neg a ha
  refine PCalls_of isi_value (by simp [fni_value]) ?_
  unfold codei_value
  by_cases hv : vldI neg a = true
  · rw [hv] at cv
    rw [← X_I la hv]
    repeat (first | (refine W_seq ?_) | (refine W_reg ?_) | (refine W_regd ?_) | (refine W_block ?_) | (refine And.intro (by omega) ?_) | simp (maxSteps := 1000000) (disch := omega) only [cA, cB, lk, lkH, Dst.onT, Dst.onX, Dst.slot, setF, setH, mapF, mapH, initF, binE, unE, cnt, boundE, newsE, freshE, opE, rmH, blkQ, frz_us, Nat.reduceEqDiff, Nat.reduceLT, Nat.reduceAdd, ↓reduceIte, reduceCtorEq, Nat.reduceLeDiff, X, cS, nbi_value] | (refine callC_pure (cv) rfl ?_) | exact W_ret (RetP_1 (.imm rfl)) | exact W_ret (RetP_c rfl rfl rfl (.imm rfl)))
    refine W_cond rfl (fun _ => ?_) (fun h => by cases h)
    repeat (first | (refine W_seq ?_) | (refine W_reg ?_) | (refine W_regd ?_) | (refine W_block ?_) | (refine And.intro (by omega) ?_) | simp (maxSteps := 1000000) (disch := omega) only [cA, cB, lk, lkH, Dst.onT, Dst.onX, Dst.slot, setF, setH, mapF, mapH, initF, binE, unE, cnt, boundE, newsE, freshE, opE, rmH, blkQ, frz_us, Nat.reduceEqDiff, Nat.reduceLT, Nat.reduceAdd, ↓reduceIte, reduceCtorEq, Nat.reduceLeDiff, X, cS, nbi_value] | (refine callC_pure (cv) rfl ?_) | exact W_ret (RetP_1 (.imm rfl)) | exact W_ret (RetP_c rfl rfl rfl (.imm rfl)))
  · have hv : vldI neg a = false := by simpa using hv
    rw [hv] at cv
    rw [iv_inv hv]
    repeat (first | (refine W_seq ?_) | (refine W_reg ?_) | (refine W_regd ?_) | (refine W_block ?_) | (refine And.intro (by omega) ?_) | simp (maxSteps := 1000000) (disch := omega) only [cA, cB, lk, lkH, Dst.onT, Dst.onX, Dst.slot, setF, setH, mapF, mapH, initF, binE, unE, cnt, boundE, newsE, freshE, opE, rmH, blkQ, frz_us, Nat.reduceEqDiff, Nat.reduceLT, Nat.reduceAdd, ↓reduceIte, reduceCtorEq, Nat.reduceLeDiff, X, cS, nbi_value] | (refine callC_pure (cv) rfl ?_) | exact W_ret (RetP_1 (.imm rfl)) | exact W_ret (RetP_c rfl rfl rfl (.imm rfl)))
    refine W_cond rfl (fun h => by cases h) (fun _ => W_skip ?_)
    repeat (first | (refine W_seq ?_) | (refine W_reg ?_) | (refine W_regd ?_) | (refine W_block ?_) | (refine And.intro (by omega) ?_) | simp (maxSteps := 1000000) (disch := omega) only [cA, cB, lk, lkH, Dst.onT, Dst.onX, Dst.slot, setF, setH, mapF, mapH, initF, binE, unE, cnt, boundE, newsE, freshE, opE, rmH, blkQ, frz_us, Nat.reduceEqDiff, Nat.reduceLT, Nat.reduceAdd, ↓reduceIte, reduceCtorEq, Nat.reduceLeDiff, X, cS, nbi_value])
    refine W_ret (RetP_c rfl rfl rfl ?_)
    rw [show I 0 = .agg [.bool false, .sl 1 []] by unfold I; rw [show (0 : Int).natAbs = 0 from rfl, limbs_zero]; rfl]
    exact Exp_bn _ _
theorem i_signed_calls (neg : Bool) (n : Nat) : PCalls Tryz.prog 103 [.bool neg, .sl 1 (us (limbs n))] (I (sgn neg n)) := by
  refine PCalls_of isi_signed (by simp [fni_signed]) ?_
  unfold codei_signed I
  rw [sgn_lt, sgn_abs]
  cases neg
  · repeat (first | (refine W_seq ?_) | (refine W_reg ?_) | (refine W_regd ?_) | (refine W_block ?_) | (refine And.intro (by omega) ?_) | simp (maxSteps := 1000000) (disch := omega) only [cA, cB, lk, lkH, Dst.onT, Dst.onX, Dst.slot, setF, setH, mapF, mapH, initF, binE, unE, cnt, boundE, newsE, freshE, opE, rmH, blkQ, frz_us, Nat.reduceEqDiff, Nat.reduceLT, Nat.reduceAdd, ↓reduceIte, reduceCtorEq, Nat.reduceLeDiff, cS, nbi_signed, us_length, len_gt])
    exact W_ret (RetP_c rfl rfl rfl (.imm rfl))
  · simp only [Bool.true_and]
    repeat (first | (refine W_seq ?_) | (refine W_reg ?_) | (refine W_regd ?_) | (refine W_block ?_) | (refine And.intro (by omega) ?_) | simp (maxSteps := 1000000) (disch := omega) only [cA, cB, lk, lkH, Dst.onT, Dst.onX, Dst.slot, setF, setH, mapF, mapH, initF, binE, unE, cnt, boundE, newsE, freshE, opE, rmH, blkQ, frz_us, Nat.reduceEqDiff, Nat.reduceLT, Nat.reduceAdd, ↓reduceIte, reduceCtorEq, Nat.reduceLeDiff, cS, nbi_signed, us_length, len_gt])
    exact W_ret (RetP_c rfl rfl rfl (.imm rfl))
end Go.Proofs.YteiagmmfapbaiaaGreatDoor
namespace Go.Proofs.YteiagmmfapbaiaaGreatDoor
open Go Go.Dat Go.Proofs Nat32
theorem i_copied_calls (neg : Bool) (a : List Nat) (ha : a.length ≤ 10000) (la : lim a) : PCalls Tryz.prog 102 [X neg a] (I (iv neg a)) := by
  have ca := nAdd_calls a [] (by omega) (by simp) la lim_nil
  rw [show vn [] = 0 from rfl, Nat.add_zero, us_nil] at ca
  have cs := i_signed_calls neg (vn a)
  rw [← iv_sgn] at cs
  refine PCalls_of isi_copied (by simp [fni_copied]) ?_
  unfold codei_copied
  repeat (first | (refine W_seq ?_) | (refine W_reg ?_) | (refine W_regd ?_) | (refine W_block ?_) | (refine And.intro (by omega) ?_) | simp (maxSteps := 1000000) (disch := omega) only [cA, cB, lk, lkH, Dst.onT, Dst.onX, Dst.slot, setF, setH, mapF, mapH, initF, binE, unE, cnt, boundE, newsE, freshE, opE, rmH, blkQ, frz_us, Nat.reduceEqDiff, Nat.reduceLT, Nat.reduceAdd, ↓reduceIte, reduceCtorEq, Nat.reduceLeDiff, X, I, cS, nbi_copied] | (refine callC_pure (PCalls_nz 1 (ca)) rfl ?_) | (refine callC_pure (cs) rfl ?_) | exact W_ret (RetP_1 (.imm rfl)) | exact W_ret (RetP_c rfl rfl rfl (.imm rfl)))
theorem iFromInt_calls (v : Int) (h1 : -9223372036854775808 ≤ v) (h2 : v ≤ 9223372036854775807) : PCalls Tryz.prog 97 [.int .i64 v] (I v) := by
  refine PCalls_of isiFromInt (by simp [fniFromInt]) ?_
  unfold codeiFromInt
  by_cases hv : v < 0
  · have d1 : decide (v < 0) = true := decide_eq_true hv
    obtain ⟨n, hn⟩ : ∃ n : Nat, v = -(n : Int) := ⟨v.natAbs, by omega⟩
    have cf := nFromUint_calls n (by omega)
    have cs := i_signed_calls true n
    rw [show sgn true n = v by unfold sgn; rw [if_pos rfl, hn]] at cs
    have e1 : IntKind.u64.wrap (0 - IntKind.u64.wrap v) = (n : Int) := by rw [IntKind.wrap_u64, IntKind.wrap_u64]; omega
    repeat (first | (refine W_seq ?_) | (refine W_reg ?_) | (refine W_regd ?_) | (refine W_block ?_) | (refine And.intro (by omega) ?_) | simp (maxSteps := 1000000) (disch := omega) only [cA, cB, lk, lkH, Dst.onT, Dst.onX, Dst.slot, setF, setH, mapF, mapH, initF, binE, unE, cnt, boundE, newsE, freshE, opE, rmH, blkQ, frz_us, Nat.reduceEqDiff, Nat.reduceLT, Nat.reduceAdd, ↓reduceIte, reduceCtorEq, Nat.reduceLeDiff, I, cS, nbiFromInt, d1] | (refine callC_pure (cf) rfl ?_) | (refine callC_pure (cs) rfl ?_) | exact W_ret (RetP_1 (.imm rfl)) | exact W_ret (RetP_c rfl rfl rfl (.imm rfl)))
    refine W_cond rfl (fun _ => ?_) (fun h => by cases h)
    repeat (first | (refine W_seq ?_) | (refine W_reg ?_) | (refine W_regd ?_) | (refine W_block ?_) | (refine And.intro (by omega) ?_) | simp (maxSteps := 1000000) (disch := omega) only [cA, cB, lk, lkH, Dst.onT, Dst.onX, Dst.slot, setF, setH, mapF, mapH, initF, binE, unE, cnt, boundE, newsE, freshE, opE, rmH, blkQ, frz_us, Nat.reduceEqDiff, Nat.reduceLT, Nat.reduceAdd, ↓reduceIte, reduceCtorEq, Nat.reduceLeDiff, I, cS, nbiFromInt, d1, e1] | (refine callC_pure (cf) rfl ?_) | (refine callC_pure (cs) rfl ?_) | exact W_ret (RetP_1 (.imm rfl)) | exact W_ret (RetP_c rfl rfl rfl (.imm rfl)))
  · have d1 : decide (v < 0) = false := decide_eq_false hv
    obtain ⟨n, hn⟩ : ∃ n : Nat, v = (n : Int) := ⟨v.natAbs, by omega⟩
    have cf := nFromUint_calls n (by omega)
    have cs := i_signed_calls false n
    rw [show sgn false n = v by unfold sgn; rw [if_neg (by simp), hn]] at cs
    have e1 : IntKind.u64.wrap v = (n : Int) := by rw [IntKind.wrap_u64]; omega
    repeat (first | (refine W_seq ?_) | (refine W_reg ?_) | (refine W_regd ?_) | (refine W_block ?_) | (refine And.intro (by omega) ?_) | simp (maxSteps := 1000000) (disch := omega) only [cA, cB, lk, lkH, Dst.onT, Dst.onX, Dst.slot, setF, setH, mapF, mapH, initF, binE, unE, cnt, boundE, newsE, freshE, opE, rmH, blkQ, frz_us, Nat.reduceEqDiff, Nat.reduceLT, Nat.reduceAdd, ↓reduceIte, reduceCtorEq, Nat.reduceLeDiff, I, cS, nbiFromInt, d1] | (refine callC_pure (cf) rfl ?_) | (refine callC_pure (cs) rfl ?_) | exact W_ret (RetP_1 (.imm rfl)) | exact W_ret (RetP_c rfl rfl rfl (.imm rfl)))
    refine W_cond rfl (fun h => by cases h) (fun _ => W_skip ?_)
    repeat (first | (refine W_seq ?_) | (refine W_reg ?_) | (refine W_regd ?_) | (refine W_block ?_) | (refine And.intro (by omega) ?_) | simp (maxSteps := 1000000) (disch := omega) only [cA, cB, lk, lkH, Dst.onT, Dst.onX, Dst.slot, setF, setH, mapF, mapH, initF, binE, unE, cnt, boundE, newsE, freshE, opE, rmH, blkQ, frz_us, Nat.reduceEqDiff, Nat.reduceLT, Nat.reduceAdd, ↓reduceIte, reduceCtorEq, Nat.reduceLeDiff, I, cS, nbiFromInt, d1, e1] | (refine callC_pure (cf) rfl ?_) | (refine callC_pure (cs) rfl ?_) | exact W_ret (RetP_1 (.imm rfl)) | exact W_ret (RetP_c rfl rfl rfl (.imm rfl)))
theorem iSign_calls (neg : Bool) (a : List Nat) (ha : a.length ≤ 1000000) (la : lim a) : PCalls Tryz.prog 54 [X neg a] (.int .i64 (iv neg a).sign) := by
  have cv := i_value_calls neg a ha la
  refine PCalls_of isiSign (by simp [fniSign]) ?_
  unfold codeiSign
  generalize iv neg a = z at *
  have dz : decide (((limbs z.natAbs).length : Int) = 0) = decide (z = 0) := by rw [decide_eq_decide, ← sign_len (z := z)]; omega
  repeat (first | (refine W_seq ?_) | (refine W_reg ?_) | (refine W_regd ?_) | (refine W_block ?_) | (refine And.intro (by omega) ?_) | simp (maxSteps := 1000000) (disch := omega) only [cA, cB, lk, lkH, Dst.onT, Dst.onX, Dst.slot, setF, setH, mapF, mapH, initF, binE, unE, cnt, boundE, newsE, freshE, opE, rmH, blkQ, frz_us, Nat.reduceEqDiff, Nat.reduceLT, Nat.reduceAdd, ↓reduceIte, reduceCtorEq, Nat.reduceLeDiff, X, I, cS, nbiSign, us_length, dz] | (refine callC_pure (cv) rfl ?_) | exact W_ret (RetP_1 (.imm rfl)) | exact W_ret (RetP_c rfl rfl rfl (.imm rfl)))
  refine W_cond rfl (fun h => ?_) (fun h => ?_)
  · have h := of_decide_eq_true h
    subst h
    repeat (first | (refine W_seq ?_) | (refine W_reg ?_) | (refine W_regd ?_) | (refine W_block ?_) | (refine And.intro (by omega) ?_) | simp (maxSteps := 1000000) (disch := omega) only [cA, cB, lk, lkH, Dst.onT, Dst.onX, Dst.slot, setF, setH, mapF, mapH, initF, binE, unE, cnt, boundE, newsE, freshE, opE, rmH, blkQ, frz_us, Nat.reduceEqDiff, Nat.reduceLT, Nat.reduceAdd, ↓reduceIte, reduceCtorEq, Nat.reduceLeDiff, cS] | (refine callC_pure (cv) rfl ?_) | exact W_ret (RetP_1 (.imm rfl)) | exact W_ret (RetP_c rfl rfl rfl (.imm rfl)))
  · have h := of_decide_eq_false h
    repeat (first | (refine W_seq ?_) | (refine W_reg ?_) | (refine W_regd ?_) | (refine W_block ?_) | (refine And.intro (by omega) ?_) | simp (maxSteps := 1000000) (disch := omega) only [cA, cB, lk, lkH, Dst.onT, Dst.onX, Dst.slot, setF, setH, mapF, mapH, initF, binE, unE, cnt, boundE, newsE, freshE, opE, rmH, blkQ, frz_us, Nat.reduceEqDiff, Nat.reduceLT, Nat.reduceAdd, ↓reduceIte, reduceCtorEq, Nat.reduceLeDiff, cS] | (refine callC_pure (cv) rfl ?_) | exact W_ret (RetP_1 (.imm rfl)) | exact W_ret (RetP_c rfl rfl rfl (.imm rfl)))
    refine W_cond rfl (fun h3 => ?_) (fun h3 => W_skip ?_)
    · rw [Int.sign_eq_neg_one_of_neg (of_decide_eq_true h3)]
      repeat (first | (refine W_seq ?_) | (refine W_reg ?_) | (refine W_regd ?_) | (refine W_block ?_) | (refine And.intro (by omega) ?_) | simp (maxSteps := 1000000) (disch := omega) only [cA, cB, lk, lkH, Dst.onT, Dst.onX, Dst.slot, setF, setH, mapF, mapH, initF, binE, unE, cnt, boundE, newsE, freshE, opE, rmH, blkQ, frz_us, Nat.reduceEqDiff, Nat.reduceLT, Nat.reduceAdd, ↓reduceIte, reduceCtorEq, Nat.reduceLeDiff, cS] | (refine callC_pure (cv) rfl ?_) | exact W_ret (RetP_1 (.imm rfl)) | exact W_ret (RetP_c rfl rfl rfl (.imm rfl)))
    · have h3 := of_decide_eq_false h3
      rw [Int.sign_eq_one_of_pos (by omega)]
      repeat (first | (refine W_seq ?_) | (refine W_reg ?_) | (refine W_regd ?_) | (refine W_block ?_) | (refine And.intro (by omega) ?_) | simp (maxSteps := 1000000) (disch := omega) only [cA, cB, lk, lkH, Dst.onT, Dst.onX, Dst.slot, setF, setH, mapF, mapH, initF, binE, unE, cnt, boundE, newsE, freshE, opE, rmH, blkQ, frz_us, Nat.reduceEqDiff, Nat.reduceLT, Nat.reduceAdd, ↓reduceIte, reduceCtorEq, Nat.reduceLeDiff, cS] | (refine callC_pure (cv) rfl ?_) | exact W_ret (RetP_1 (.imm rfl)) | exact W_ret (RetP_c rfl rfl rfl (.imm rfl)))
theorem iNeg_calls (neg : Bool) (a : List Nat) (ha : a.length ≤ 10000) (la : lim a) : PCalls Tryz.prog 55 [X neg a] (I (-(iv neg a))) := by
  have cv := i_value_calls neg a (by omega) la
  have hl := iv_len la neg
  have cc := i_copied_calls (decide (iv neg a < 0)) (limbs (iv neg a).natAbs) (by omega) (lim_limbs _)
  have cs := i_signed_calls (!decide (iv neg a < 0)) (iv neg a).natAbs
  rw [sgn_not] at cs
  rw [iv_I] at cc
  refine PCalls_of isiNeg (by simp [fniNeg]) ?_
  unfold codeiNeg
  repeat (first | (refine W_seq ?_) | (refine W_reg ?_) | (refine W_regd ?_) | (refine W_block ?_) | (refine And.intro (by omega) ?_) | simp (maxSteps := 1000000) (disch := omega) only [cA, cB, lk, lkH, Dst.onT, Dst.onX, Dst.slot, setF, setH, mapF, mapH, initF, binE, unE, cnt, boundE, newsE, freshE, opE, rmH, blkQ, frz_us, Nat.reduceEqDiff, Nat.reduceLT, Nat.reduceAdd, ↓reduceIte, reduceCtorEq, Nat.reduceLeDiff, X, I, cS, nbiNeg] | (refine callC_pure (cv) rfl ?_) | (refine callC_pure (cc) rfl ?_) | (refine callC_pure (cs) rfl ?_) | exact W_ret (RetP_1 (.imm rfl)) | exact W_ret (RetP_c rfl rfl rfl (.imm rfl)))
theorem iMul_calls (n1 : Bool) (a : List Nat) (n2 : Bool) (b : List Nat) (ha : a.length ≤ 10000) (hb : b.length ≤ 10000) (la : lim a) (lb : lim b) : PCalls Tryz.prog 95 [X n1 a, X n2 b] (I (iv n1 a * iv n2 b)) := by
  have cv := i_value_calls n1 a (by omega) la
  have cw := i_value_calls n2 b (by omega) lb
  have l1 := iv_len la n1
  have l2 := iv_len lb n2
  generalize iv n1 a = x at *
  generalize iv n2 b = y at *
  have cm := nMulL x.natAbs y.natAbs (by omega) (by omega)
  have cs := i_signed_calls (!(decide (x < 0) == decide (y < 0))) (x.natAbs * y.natAbs)
  rw [mul_sgn] at cs
  refine PCalls_of isiMul (by simp [fniMul]) ?_
  unfold codeiMul
  repeat (first | (refine W_seq ?_) | (refine W_reg ?_) | (refine W_regd ?_) | (refine W_block ?_) | (refine And.intro (by omega) ?_) | simp (maxSteps := 1000000) (disch := omega) only [cA, cB, lk, lkH, Dst.onT, Dst.onX, Dst.slot, setF, setH, mapF, mapH, initF, binE, unE, cnt, boundE, newsE, freshE, opE, rmH, blkQ, frz_us, Nat.reduceEqDiff, Nat.reduceLT, Nat.reduceAdd, ↓reduceIte, reduceCtorEq, Nat.reduceLeDiff, X, I, cS, nbiMul] | (refine callC_pure (cv) rfl ?_) | (refine callC_pure (cw) rfl ?_) | (refine callC_pure (cm) rfl ?_) | (refine callC_pure (cs) rfl ?_) | exact W_ret (RetP_1 (.imm rfl)) | exact W_ret (RetP_c rfl rfl rfl (.imm rfl)))
theorem iAdd_calls (n1 : Bool) (a : List Nat) (n2 : Bool) (b : List Nat) (ha : a.length ≤ 10000) (hb : b.length ≤ 10000) (la : lim a) (lb : lim b) : PCalls Tryz.prog 57 [X n1 a, X n2 b] (I (iv n1 a + iv n2 b)) := by
  have cv := i_value_calls n1 a (by omega) la
  have cw := i_value_calls n2 b (by omega) lb
  have l1 := iv_len la n1
  have l2 := iv_len lb n2
  generalize iv n1 a = x at *
  generalize iv n2 b = y at *
  have ca := nAddL x.natAbs y.natAbs (by omega) (by omega)
  have cd := nSub_calls (limbs x.natAbs) (limbs y.natAbs) (by omega) (by omega) (lim_limbs _) (lim_limbs _)
  have ce := nSub_calls (limbs y.natAbs) (limbs x.natAbs) (by omega) (by omega) (lim_limbs _) (lim_limbs _)
  rw [vn_limbs, vn_limbs] at cd ce
  have s1 := i_signed_calls (decide (x < 0)) (x.natAbs + y.natAbs)
  have s2 := i_signed_calls (decide (x < 0)) (x.natAbs - y.natAbs)
  have s3 := i_signed_calls (decide (y < 0)) (y.natAbs - x.natAbs)
  refine PCalls_of isiAdd (by simp [fniAdd]) ?_
  unfold codeiAdd
  by_cases h : decide (x < 0) = decide (y < 0)
  · rw [add_same h] at s1
    have hb : (decide (x < 0) == decide (y < 0)) = true := by rw [h]; simp
    repeat (first | (refine W_seq ?_) | (refine W_reg ?_) | (refine W_regd ?_) | (refine W_block ?_) | (refine And.intro (by omega) ?_) | simp (maxSteps := 1000000) (disch := omega) only [cA, cB, lk, lkH, Dst.onT, Dst.onX, Dst.slot, setF, setH, mapF, mapH, initF, binE, unE, cnt, boundE, newsE, freshE, opE, rmH, blkQ, frz_us, Nat.reduceEqDiff, Nat.reduceLT, Nat.reduceAdd, ↓reduceIte, reduceCtorEq, Nat.reduceLeDiff, X, I, cS, nbiAdd, hb] | (refine callC_pure (cv) rfl ?_) | (refine callC_pure (cw) rfl ?_) | exact W_ret (RetP_1 (.imm rfl)) | exact W_ret (RetP_c rfl rfl rfl (.imm rfl)))
    refine W_cond rfl (fun _ => ?_) (fun h => by cases h)
    repeat (first | (refine W_seq ?_) | (refine W_reg ?_) | (refine W_regd ?_) | (refine W_block ?_) | (refine And.intro (by omega) ?_) | simp (maxSteps := 1000000) (disch := omega) only [cA, cB, lk, lkH, Dst.onT, Dst.onX, Dst.slot, setF, setH, mapF, mapH, initF, binE, unE, cnt, boundE, newsE, freshE, opE, rmH, blkQ, frz_us, Nat.reduceEqDiff, Nat.reduceLT, Nat.reduceAdd, ↓reduceIte, reduceCtorEq, Nat.reduceLeDiff, X, I, cS, nbiAdd, hb] | (refine callC_pure (ca) rfl ?_) | (refine callC_pure (s1) rfl ?_) | exact W_ret (RetP_1 (.imm rfl)) | exact W_ret (RetP_c rfl rfl rfl (.imm rfl)))
  · have hb : (decide (x < 0) == decide (y < 0)) = false := by simpa using h
    by_cases hle : y.natAbs ≤ x.natAbs
    · rw [add_left h hle] at s2
      rw [decide_eq_true hle] at cd
      repeat (first | (refine W_seq ?_) | (refine W_reg ?_) | (refine W_regd ?_) | (refine W_block ?_) | (refine And.intro (by omega) ?_) | simp (maxSteps := 1000000) (disch := omega) only [cA, cB, lk, lkH, Dst.onT, Dst.onX, Dst.slot, setF, setH, mapF, mapH, initF, binE, unE, cnt, boundE, newsE, freshE, opE, rmH, blkQ, frz_us, Nat.reduceEqDiff, Nat.reduceLT, Nat.reduceAdd, ↓reduceIte, reduceCtorEq, Nat.reduceLeDiff, X, I, cS, nbiAdd, hb] | (refine callC_pure (cv) rfl ?_) | (refine callC_pure (cw) rfl ?_) | exact W_ret (RetP_1 (.imm rfl)) | exact W_ret (RetP_c rfl rfl rfl (.imm rfl)))
      refine W_cond rfl (fun h => by cases h) (fun _ => W_skip ?_)
      repeat (first | (refine W_seq ?_) | (refine W_reg ?_) | (refine W_regd ?_) | (refine W_block ?_) | (refine And.intro (by omega) ?_) | simp (maxSteps := 1000000) (disch := omega) only [cA, cB, lk, lkH, Dst.onT, Dst.onX, Dst.slot, setF, setH, mapF, mapH, initF, binE, unE, cnt, boundE, newsE, freshE, opE, rmH, blkQ, frz_us, Nat.reduceEqDiff, Nat.reduceLT, Nat.reduceAdd, ↓reduceIte, reduceCtorEq, Nat.reduceLeDiff, X, I, cS, nbiAdd] | (refine callC_pure (cd) rfl ?_) | exact W_ret (RetP_1 (.imm rfl)) | exact W_ret (RetP_c rfl rfl rfl (.imm rfl)))
      refine W_cond rfl (fun _ => ?_) (fun h => by cases h)
      repeat (first | (refine W_seq ?_) | (refine W_reg ?_) | (refine W_regd ?_) | (refine W_block ?_) | (refine And.intro (by omega) ?_) | simp (maxSteps := 1000000) (disch := omega) only [cA, cB, lk, lkH, Dst.onT, Dst.onX, Dst.slot, setF, setH, mapF, mapH, initF, binE, unE, cnt, boundE, newsE, freshE, opE, rmH, blkQ, frz_us, Nat.reduceEqDiff, Nat.reduceLT, Nat.reduceAdd, ↓reduceIte, reduceCtorEq, Nat.reduceLeDiff, X, I, cS, nbiAdd] | (refine callC_pure (s2) rfl ?_) | exact W_ret (RetP_1 (.imm rfl)) | exact W_ret (RetP_c rfl rfl rfl (.imm rfl)))
    · rw [add_right h hle] at s3
      rw [decide_eq_false hle] at cd
      repeat (first | (refine W_seq ?_) | (refine W_reg ?_) | (refine W_regd ?_) | (refine W_block ?_) | (refine And.intro (by omega) ?_) | simp (maxSteps := 1000000) (disch := omega) only [cA, cB, lk, lkH, Dst.onT, Dst.onX, Dst.slot, setF, setH, mapF, mapH, initF, binE, unE, cnt, boundE, newsE, freshE, opE, rmH, blkQ, frz_us, Nat.reduceEqDiff, Nat.reduceLT, Nat.reduceAdd, ↓reduceIte, reduceCtorEq, Nat.reduceLeDiff, X, I, cS, nbiAdd, hb] | (refine callC_pure (cv) rfl ?_) | (refine callC_pure (cw) rfl ?_) | exact W_ret (RetP_1 (.imm rfl)) | exact W_ret (RetP_c rfl rfl rfl (.imm rfl)))
      refine W_cond rfl (fun h => by cases h) (fun _ => W_skip ?_)
      repeat (first | (refine W_seq ?_) | (refine W_reg ?_) | (refine W_regd ?_) | (refine W_block ?_) | (refine And.intro (by omega) ?_) | simp (maxSteps := 1000000) (disch := omega) only [cA, cB, lk, lkH, Dst.onT, Dst.onX, Dst.slot, setF, setH, mapF, mapH, initF, binE, unE, cnt, boundE, newsE, freshE, opE, rmH, blkQ, frz_us, Nat.reduceEqDiff, Nat.reduceLT, Nat.reduceAdd, ↓reduceIte, reduceCtorEq, Nat.reduceLeDiff, X, I, cS, nbiAdd] | (refine callC_pure (cd) rfl ?_) | exact W_ret (RetP_1 (.imm rfl)) | exact W_ret (RetP_c rfl rfl rfl (.imm rfl)))
      refine W_cond rfl (fun h => by cases h) (fun _ => W_skip ?_)
      repeat (first | (refine W_seq ?_) | (refine W_reg ?_) | (refine W_regd ?_) | (refine W_block ?_) | (refine And.intro (by omega) ?_) | simp (maxSteps := 1000000) (disch := omega) only [cA, cB, lk, lkH, Dst.onT, Dst.onX, Dst.slot, setF, setH, mapF, mapH, initF, binE, unE, cnt, boundE, newsE, freshE, opE, rmH, blkQ, frz_us, Nat.reduceEqDiff, Nat.reduceLT, Nat.reduceAdd, ↓reduceIte, reduceCtorEq, Nat.reduceLeDiff, X, I, cS, nbiAdd] | (refine callC_pure (ce) rfl ?_) | (refine callC_pure (s3) rfl ?_) | exact W_ret (RetP_1 (.imm rfl)) | exact W_ret (RetP_c rfl rfl rfl (.imm rfl)))
theorem iCompare_calls (n1 : Bool) (a : List Nat) (n2 : Bool) (b : List Nat) (ha : a.length ≤ 10000) (hb : b.length ≤ 10000) (la : lim a) (lb : lim b) : PCalls Tryz.prog 96 [X n1 a, X n2 b] (.int .i64 (cmpI (iv n1 a) (iv n2 b))) := by
  have cv := i_value_calls n1 a (by omega) la
  have cw := i_value_calls n2 b (by omega) lb
  have l1 := iv_len la n1
  have l2 := iv_len lb n2
  generalize iv n1 a = x at *
  generalize iv n2 b = y at *
  have c1 := iSign_calls (decide (x < 0)) (limbs x.natAbs) (by omega) (lim_limbs _)
  have c2 := iSign_calls (decide (y < 0)) (limbs y.natAbs) (by omega) (lim_limbs _)
  rw [iv_I] at c1 c2
  have cc := nCmpL x.natAbs y.natAbs (by omega) (by omega)
  have h1 := @sign_lt x y
  have h2 := @sign_gt x y
  have h3 := @sign_eq x y
  refine PCalls_of isiCompare (by simp [fniCompare]) ?_
  unfold codeiCompare
  repeat (first | (refine W_seq ?_) | (refine W_reg ?_) | (refine W_regd ?_) | (refine W_block ?_) | (refine And.intro (by omega) ?_) | simp (maxSteps := 1000000) (disch := omega) only [cA, cB, lk, lkH, Dst.onT, Dst.onX, Dst.slot, setF, setH, mapF, mapH, initF, binE, unE, cnt, boundE, newsE, freshE, opE, rmH, blkQ, frz_us, Nat.reduceEqDiff, Nat.reduceLT, Nat.reduceAdd, ↓reduceIte, reduceCtorEq, Nat.reduceLeDiff, X, I, cS, nbiCompare] | (refine callC_pure (cv) rfl ?_) | (refine callC_pure (cw) rfl ?_) | (refine callC_pure (c1) rfl ?_) | (refine callC_pure (c2) rfl ?_) | exact W_ret (RetP_1 (.imm rfl)) | exact W_ret (RetP_c rfl rfl rfl (.imm rfl)))
  refine W_cond rfl (fun h => ?_) (fun h => ?_)
  · rw [h1 (of_decide_eq_true h)]
    repeat (first | (refine W_seq ?_) | (refine W_reg ?_) | (refine W_regd ?_) | (refine W_block ?_) | (refine And.intro (by omega) ?_) | simp (maxSteps := 1000000) (disch := omega) only [cA, cB, lk, lkH, Dst.onT, Dst.onX, Dst.slot, setF, setH, mapF, mapH, initF, binE, unE, cnt, boundE, newsE, freshE, opE, rmH, blkQ, frz_us, Nat.reduceEqDiff, Nat.reduceLT, Nat.reduceAdd, ↓reduceIte, reduceCtorEq, Nat.reduceLeDiff] | (refine callC_pure (cv) rfl ?_) | exact W_ret (RetP_1 (.imm rfl)) | exact W_ret (RetP_c rfl rfl rfl (.imm rfl)))
  · repeat (first | (refine W_seq ?_) | (refine W_reg ?_) | (refine W_regd ?_) | (refine W_block ?_) | (refine And.intro (by omega) ?_) | simp (maxSteps := 1000000) (disch := omega) only [cA, cB, lk, lkH, Dst.onT, Dst.onX, Dst.slot, setF, setH, mapF, mapH, initF, binE, unE, cnt, boundE, newsE, freshE, opE, rmH, blkQ, frz_us, Nat.reduceEqDiff, Nat.reduceLT, Nat.reduceAdd, ↓reduceIte, reduceCtorEq, Nat.reduceLeDiff] | (refine callC_pure (cv) rfl ?_) | exact W_ret (RetP_1 (.imm rfl)) | exact W_ret (RetP_c rfl rfl rfl (.imm rfl)))
    refine W_cond rfl (fun h' => ?_) (fun h' => W_skip ?_)
    · rw [h2 (of_decide_eq_true h')]
      repeat (first | (refine W_seq ?_) | (refine W_reg ?_) | (refine W_regd ?_) | (refine W_block ?_) | (refine And.intro (by omega) ?_) | simp (maxSteps := 1000000) (disch := omega) only [cA, cB, lk, lkH, Dst.onT, Dst.onX, Dst.slot, setF, setH, mapF, mapH, initF, binE, unE, cnt, boundE, newsE, freshE, opE, rmH, blkQ, frz_us, Nat.reduceEqDiff, Nat.reduceLT, Nat.reduceAdd, ↓reduceIte, reduceCtorEq, Nat.reduceLeDiff] | (refine callC_pure (cv) rfl ?_) | exact W_ret (RetP_1 (.imm rfl)) | exact W_ret (RetP_c rfl rfl rfl (.imm rfl)))
    · have h4 := h3 (of_decide_eq_false h) (of_decide_eq_false h')
      repeat (first | (refine W_seq ?_) | (refine W_reg ?_) | (refine W_regd ?_) | (refine W_block ?_) | (refine And.intro (by omega) ?_) | simp (maxSteps := 1000000) (disch := omega) only [cA, cB, lk, lkH, Dst.onT, Dst.onX, Dst.slot, setF, setH, mapF, mapH, initF, binE, unE, cnt, boundE, newsE, freshE, opE, rmH, blkQ, frz_us, Nat.reduceEqDiff, Nat.reduceLT, Nat.reduceAdd, ↓reduceIte, reduceCtorEq, Nat.reduceLeDiff, X, I, cS, nbiCompare, h4] | (refine callC_pure (cc) rfl ?_) | exact W_ret (RetP_1 (.imm rfl)) | exact W_ret (RetP_c rfl rfl rfl (.imm rfl)))
end Go.Proofs.YteiagmmfapbaiaaGreatDoor
namespace Go.Proofs.YteiagmmfapbaiaaGreatDoor
open Go Go.Dat Go.Proofs Nat32
theorem I0 : I 0 = .agg [.bool false, .sl 1 []] := by unfold I; rw [show (0 : Int).natAbs = 0 from rfl, limbs_zero]; rfl
theorem iDiv_calls (n1 : Bool) (a : List Nat) (n2 : Bool) (b : List Nat) (ha : a.length ≤ 10000) (hb : b.length ≤ 10000) (la : lim a) (lb : lim b) :
    PCalls Tryz.prog 99 [X n1 a, X n2 b] (.tup [I (iv n1 a / iv n2 b), I (imod (iv n1 a) (iv n2 b)), .bool (decide (¬ iv n2 b = 0))]) := by
  have cv := i_value_calls n1 a (by omega) la
  have cw := i_value_calls n2 b (by omega) lb
  have l1 := iv_len la n1
  have l2 := iv_len lb n2
  generalize iv n1 a = x at *
  generalize iv n2 b = y at *
  have cd := nDivL x.natAbs y.natAbs (by omega) (by omega)
  have lq := len_mono (Nat.div_le_self x.natAbs y.natAbs)
  refine PCalls_of isiDiv (by simp [fniDiv]) ?_
  unfold codeiDiv imod
  by_cases hy : y = 0
  · subst hy
    rw [decide_eq_false (show ¬ 0 < (0 : Int).natAbs by decide)] at cd
    repeat (first | (refine W_seq ?_) | (refine W_reg ?_) | (refine W_regd ?_) | (refine W_block ?_) | (refine And.intro (by omega) ?_) | simp (maxSteps := 1000000) (disch := omega) only [cA, cB, lk, lkH, Dst.onT, Dst.onX, Dst.slot, setF, setH, mapF, mapH, initF, binE, unE, cnt, boundE, newsE, freshE, opE, rmH, blkQ, frz_us, Nat.reduceEqDiff, Nat.reduceLT, Nat.reduceAdd, ↓reduceIte, reduceCtorEq, Nat.reduceLeDiff, X, I, cS, nbiDiv] | (refine callC_pure (cv) rfl ?_) | (refine callC_pure (cw) rfl ?_) | (refine callC_pure (cd) rfl ?_) | exact W_ret (RetP_1 (.imm rfl)) | exact W_ret (RetP_c rfl rfl rfl (.imm rfl)))
    refine W_cond rfl (fun _ => ?_) (fun h => by cases h)
    repeat (first | (refine W_seq ?_) | (refine W_reg ?_) | (refine W_regd ?_) | (refine W_block ?_) | (refine And.intro (by omega) ?_) | simp (maxSteps := 1000000) (disch := omega) only [cA, cB, lk, lkH, Dst.onT, Dst.onX, Dst.slot, setF, setH, mapF, mapH, initF, binE, unE, cnt, boundE, newsE, freshE, opE, rmH, blkQ, frz_us, Nat.reduceEqDiff, Nat.reduceLT, Nat.reduceAdd, ↓reduceIte, reduceCtorEq, Nat.reduceLeDiff, cS])
    refine W_ret (RetP_cct rfl rfl rfl rfl rfl rfl ?_ ?_ (.imm rfl))
    · rw [Int.ediv_zero]
      have := Exp_bn (h := lkH [(2, [DV.bool (decide (x < 0)), DV.sl 1 (us (limbs x.natAbs))]), (3, [DV.bool (decide ((0 : Int) < 0)), DV.sl 1 (us (limbs (0 : Int).natAbs))]), (4, [DV.bool false, DV.nils]), (5, [DV.bool false, DV.nils])]) false 1
      rw [← I0] at this
      exact this
    · have := Exp_bn (h := lkH [(2, [DV.bool (decide (x < 0)), DV.sl 1 (us (limbs x.natAbs))]), (3, [DV.bool (decide ((0 : Int) < 0)), DV.sl 1 (us (limbs (0 : Int).natAbs))]), (4, [DV.bool false, DV.nils]), (5, [DV.bool false, DV.nils])]) false 1
      rw [← I0] at this
      exact this
  · have hy0 : 0 < y.natAbs := by omega
    rw [decide_eq_true hy0, dmod_pos hy0] at cd
    rw [decide_eq_true hy, if_neg hy]
    have lr := len_mono (Nat.mod_le x.natAbs y.natAbs)
    have hm := Nat.mod_lt x.natAbs hy0
    repeat (first | (refine W_seq ?_) | (refine W_reg ?_) | (refine W_regd ?_) | (refine W_block ?_) | (refine And.intro (by omega) ?_) | simp (maxSteps := 1000000) (disch := omega) only [cA, cB, lk, lkH, Dst.onT, Dst.onX, Dst.slot, setF, setH, mapF, mapH, initF, binE, unE, cnt, boundE, newsE, freshE, opE, rmH, blkQ, frz_us, Nat.reduceEqDiff, Nat.reduceLT, Nat.reduceAdd, ↓reduceIte, reduceCtorEq, Nat.reduceLeDiff, X, I, cS, nbiDiv] | (refine callC_pure (cv) rfl ?_) | (refine callC_pure (cw) rfl ?_) | (refine callC_pure (cd) rfl ?_) | exact W_ret (RetP_1 (.imm rfl)) | exact W_ret (RetP_c rfl rfl rfl (.imm rfl)))
    refine W_cond rfl (fun h => by cases h) (fun _ => W_skip ?_)
    by_cases hf : x < 0 ∧ 0 < x.natAbs % y.natAbs
    · obtain ⟨f1, f2⟩ := div_fix x y hy hf.1 hf.2
      have dx : decide (x < 0) = true := decide_eq_true hf.1
      have dr : decide (0 < x.natAbs % y.natAbs) = true := decide_eq_true hf.2
      have o1 : (limbs 1).length ≤ 10000 := by rw [limbs1]; simp
      have ca := nAddL (x.natAbs / y.natAbs) 1 (by omega) (by omega)
      have cb := nSub_calls (limbs y.natAbs) (limbs (x.natAbs % y.natAbs)) (by omega) (by omega) (lim_limbs _) (lim_limbs _)
      rw [vn_limbs, vn_limbs] at cb
      have s1 := i_signed_calls (!(decide (x < 0) == decide (y < 0))) (x.natAbs / y.natAbs + 1)
      have s2 := i_signed_calls false (y.natAbs - x.natAbs % y.natAbs)
      rw [f1, dx] at s1
      rw [f2] at s2
      clear hf f1 f2 hm o1
      repeat (first | (refine W_seq ?_) | (refine W_reg ?_) | (refine W_regd ?_) | (refine W_block ?_) | (refine And.intro (by omega) ?_) | simp (maxSteps := 1000000) (disch := omega) only [cA, cB, lk, lkH, Dst.onT, Dst.onX, Dst.slot, setF, setH, mapF, mapH, initF, binE, unE, cnt, boundE, newsE, freshE, opE, rmH, blkQ, frz_us, Nat.reduceEqDiff, Nat.reduceLT, Nat.reduceAdd, ↓reduceIte, reduceCtorEq, Nat.reduceLeDiff, X, I, cS, nbiDiv, us_length, len_gt, dx, dr] | (refine callC_pure (cv) rfl ?_) | exact W_ret (RetP_1 (.imm rfl)) | exact W_ret (RetP_c rfl rfl rfl (.imm rfl)))
      refine W_cond rfl (fun _ => ?_) (fun h => by cases h)
      repeat (first | (refine W_seq ?_) | (refine W_reg ?_) | (refine W_regd ?_) | (refine W_block ?_) | (refine And.intro (by omega) ?_) | simp (maxSteps := 1000000) (disch := omega) only [cA, cB, lk, lkH, Dst.onT, Dst.onX, Dst.slot, setF, setH, mapF, mapH, initF, binE, unE, cnt, boundE, newsE, freshE, opE, rmH, blkQ, frz_us, Nat.reduceEqDiff, Nat.reduceLT, Nat.reduceAdd, ↓reduceIte, reduceCtorEq, Nat.reduceLeDiff, I, cS, nbiDiv, us_rfd, us1L] | (refine callC_pure (ca) rfl ?_) | (refine callC_pure (cb) rfl ?_) | (refine callC_pure (s1) rfl ?_) | (refine callC_pure (s2) rfl ?_) | exact W_ret (RetP_1 (.imm rfl)) | exact W_ret (RetP_c rfl rfl rfl (.imm rfl)))
      exact W_ret (RetP_cct rfl rfl rfl rfl rfl rfl (.imm rfl) (.imm rfl) (.imm rfl))
    · obtain ⟨f1, f2⟩ := div_plain x y hy hf
      have s1 := i_signed_calls (!(decide (x < 0) == decide (y < 0))) (x.natAbs / y.natAbs)
      have s2 := i_signed_calls false (x.natAbs % y.natAbs)
      rw [f1] at s1
      rw [f2] at s2
      by_cases hx : x < 0
      · have dx : decide (x < 0) = true := decide_eq_true hx
        have dr : decide (0 < x.natAbs % y.natAbs) = false := decide_eq_false (fun h => hf ⟨hx, h⟩)
        rw [dx] at s1
        clear hf f1 f2 hm
        repeat (first | (refine W_seq ?_) | (refine W_reg ?_) | (refine W_regd ?_) | (refine W_block ?_) | (refine And.intro (by omega) ?_) | simp (maxSteps := 1000000) (disch := omega) only [cA, cB, lk, lkH, Dst.onT, Dst.onX, Dst.slot, setF, setH, mapF, mapH, initF, binE, unE, cnt, boundE, newsE, freshE, opE, rmH, blkQ, frz_us, Nat.reduceEqDiff, Nat.reduceLT, Nat.reduceAdd, ↓reduceIte, reduceCtorEq, Nat.reduceLeDiff, X, I, cS, nbiDiv, us_length, len_gt, dx, dr] | (refine callC_pure (cv) rfl ?_) | exact W_ret (RetP_1 (.imm rfl)) | exact W_ret (RetP_c rfl rfl rfl (.imm rfl)))
        refine W_cond rfl (fun h => by cases h) (fun _ => W_skip ?_)
        repeat (first | (refine W_seq ?_) | (refine W_reg ?_) | (refine W_regd ?_) | (refine W_block ?_) | (refine And.intro (by omega) ?_) | simp (maxSteps := 1000000) (disch := omega) only [cA, cB, lk, lkH, Dst.onT, Dst.onX, Dst.slot, setF, setH, mapF, mapH, initF, binE, unE, cnt, boundE, newsE, freshE, opE, rmH, blkQ, frz_us, Nat.reduceEqDiff, Nat.reduceLT, Nat.reduceAdd, ↓reduceIte, reduceCtorEq, Nat.reduceLeDiff, I, cS, nbiDiv] | (refine callC_pure (s1) rfl ?_) | (refine callC_pure (s2) rfl ?_) | exact W_ret (RetP_1 (.imm rfl)) | exact W_ret (RetP_c rfl rfl rfl (.imm rfl)))
        exact W_ret (RetP_cct rfl rfl rfl rfl rfl rfl (.imm rfl) (.imm rfl) (.imm rfl))
      · have dx : decide (x < 0) = false := decide_eq_false hx
        rw [dx] at s1
        clear hf f1 f2 hm
        repeat (first | (refine W_seq ?_) | (refine W_reg ?_) | (refine W_regd ?_) | (refine W_block ?_) | (refine And.intro (by omega) ?_) | simp (maxSteps := 1000000) (disch := omega) only [cA, cB, lk, lkH, Dst.onT, Dst.onX, Dst.slot, setF, setH, mapF, mapH, initF, binE, unE, cnt, boundE, newsE, freshE, opE, rmH, blkQ, frz_us, Nat.reduceEqDiff, Nat.reduceLT, Nat.reduceAdd, ↓reduceIte, reduceCtorEq, Nat.reduceLeDiff, X, I, cS, nbiDiv, us_length, len_gt, dx] | (refine callC_pure (cv) rfl ?_) | exact W_ret (RetP_1 (.imm rfl)) | exact W_ret (RetP_c rfl rfl rfl (.imm rfl)))
        refine W_cond rfl (fun h => by cases h) (fun _ => W_skip ?_)
        repeat (first | (refine W_seq ?_) | (refine W_reg ?_) | (refine W_regd ?_) | (refine W_block ?_) | (refine And.intro (by omega) ?_) | simp (maxSteps := 1000000) (disch := omega) only [cA, cB, lk, lkH, Dst.onT, Dst.onX, Dst.slot, setF, setH, mapF, mapH, initF, binE, unE, cnt, boundE, newsE, freshE, opE, rmH, blkQ, frz_us, Nat.reduceEqDiff, Nat.reduceLT, Nat.reduceAdd, ↓reduceIte, reduceCtorEq, Nat.reduceLeDiff, I, cS, nbiDiv] | (refine callC_pure (s1) rfl ?_) | (refine callC_pure (s2) rfl ?_) | exact W_ret (RetP_1 (.imm rfl)) | exact W_ret (RetP_c rfl rfl rfl (.imm rfl)))
        exact W_ret (RetP_cct rfl rfl rfl rfl rfl rfl (.imm rfl) (.imm rfl) (.imm rfl))
end Go.Proofs.YteiagmmfapbaiaaGreatDoor
namespace Go.Proofs.YteiagmmfapbaiaaGreatDoor
open Go Go.Dat Go.Proofs Nat32
theorem rGcdL (p q : Nat) (h1 : (limbs p).length ≤ 1000) (h2 : (limbs q).length ≤ 1000) : PCalls Tryz.prog 92 [.sl 1 (us (limbs p)), .sl 1 (us (limbs q))] (.sl 1 (us (limbs (Nat.gcd p q)))) := by
  have := rGcd_calls (limbs p) (limbs q) h1 h2 (lim_limbs _) (lim_limbs _)
  rwa [vn_limbs, vn_limbs] at this
theorem sValid_calls (neg : Bool) (a : List Nat) (ha : a.length ≤ 1000000) : PCalls Tryz.prog 88 [X neg a] (.bool (vldI neg a)) := by
  refine PCalls_of issValid (by simp [fnsValid]) ?_
  unfold codesValid
  have cv := rValid_calls a ha
  unfold vldI
  have hd : decide ((a.length : Int) = 0) = !decide (0 < a.length) := by
    by_cases h : 0 < a.length
    · rw [decide_eq_true h, decide_eq_false (by omega)]; rfl
    · rw [decide_eq_false h, decide_eq_true (by omega)]; rfl
  generalize decide (0 < a.length) = p at *
  generalize vld a = v at *
  repeat (first | (refine W_seq ?_) | (refine W_reg ?_) | (refine W_regd ?_) | (refine W_block ?_) | (refine And.intro (by omega) ?_) | simp (maxSteps := 1000000) (disch := omega) only [cA, cB, lk, lkH, Dst.onT, Dst.onX, Dst.slot, setF, setH, mapF, mapH, initF, binE, unE, cnt, boundE, newsE, freshE, opE, rmH, blkQ, frz_us, Nat.reduceEqDiff, Nat.reduceLT, Nat.reduceAdd, ↓reduceIte, reduceCtorEq, Nat.reduceLeDiff, X, cS, nbsValid, us_length, hd] | (refine callC_pure (cv) rfl ?_) | exact W_ret (RetP_1 (.imm rfl)) | exact W_ret (RetP_c rfl rfl rfl (.imm rfl)))
  cases v
  · repeat (first | (refine W_seq ?_) | (refine W_reg ?_) | (refine W_regd ?_) | (refine W_block ?_) | (refine And.intro (by omega) ?_) | simp (maxSteps := 1000000) (disch := omega) only [cA, cB, lk, lkH, Dst.onT, Dst.onX, Dst.slot, setF, setH, mapF, mapH, initF, binE, unE, cnt, boundE, newsE, freshE, opE, rmH, blkQ, frz_us, Nat.reduceEqDiff, Nat.reduceLT, Nat.reduceAdd, ↓reduceIte, reduceCtorEq, Nat.reduceLeDiff, X, cS, nbsValid, us_length, hd] | (refine callC_pure (cv) rfl ?_) | exact W_ret (RetP_1 (.imm rfl)) | exact W_ret (RetP_c rfl rfl rfl (.imm rfl)))
  · cases neg
    · simp only [Bool.not_false, Bool.or_true, Bool.and_true]
      repeat (first | (refine W_seq ?_) | (refine W_reg ?_) | (refine W_regd ?_) | (refine W_block ?_) | (refine And.intro (by omega) ?_) | simp (maxSteps := 1000000) (disch := omega) only [cA, cB, lk, lkH, Dst.onT, Dst.onX, Dst.slot, setF, setH, mapF, mapH, initF, binE, unE, cnt, boundE, newsE, freshE, opE, rmH, blkQ, frz_us, Nat.reduceEqDiff, Nat.reduceLT, Nat.reduceAdd, ↓reduceIte, reduceCtorEq, Nat.reduceLeDiff, X, cS, nbsValid, us_length, hd] | (refine callC_pure (cv) rfl ?_) | exact W_ret (RetP_1 (.imm rfl)) | exact W_ret (RetP_c rfl rfl rfl (.imm rfl)))
    · simp only [Bool.not_true, Bool.or_false, Bool.true_and]
      repeat (first | (refine W_seq ?_) | (refine W_reg ?_) | (refine W_regd ?_) | (refine W_block ?_) | (refine And.intro (by omega) ?_) | simp (maxSteps := 1000000) (disch := omega) only [cA, cB, lk, lkH, Dst.onT, Dst.onX, Dst.slot, setF, setH, mapF, mapH, initF, binE, unE, cnt, boundE, newsE, freshE, opE, rmH, blkQ, frz_us, Nat.reduceEqDiff, Nat.reduceLT, Nat.reduceAdd, ↓reduceIte, reduceCtorEq, Nat.reduceLeDiff, X, cS, nbsValid, us_length, hd, Bool.not_not] | (refine callC_pure (cv) rfl ?_) | exact W_ret (RetP_1 (.imm rfl)) | exact W_ret (RetP_c rfl rfl rfl (.imm rfl)))
theorem sTake_calls (neg : Bool) (a : List Nat) (ha : a.length ≤ 1000000) (la : lim a) : PCalls Tryz.prog 28 [X neg a] (I (iv neg a)) := by
  have cv := sValid_calls neg a ha
  have ct := rTake_calls a ha la
  refine PCalls_of issTake (by simp [fnsTake]) ?_
  unfold codesTake
  by_cases hv : vldI neg a = true
  · rw [hv] at cv
    rw [← X_I la hv]
    have hva : limbs (vn a) = a := by
      have : vld a = true := by unfold vldI at hv; rw [Bool.and_eq_true] at hv; exact hv.1
      exact vld_eq la this
    rw [hva] at ct
    repeat (first | (refine W_seq ?_) | (refine W_reg ?_) | (refine W_regd ?_) | (refine W_block ?_) | (refine And.intro (by omega) ?_) | simp (maxSteps := 1000000) (disch := omega) only [cA, cB, lk, lkH, Dst.onT, Dst.onX, Dst.slot, setF, setH, mapF, mapH, initF, binE, unE, cnt, boundE, newsE, freshE, opE, rmH, blkQ, frz_us, Nat.reduceEqDiff, Nat.reduceLT, Nat.reduceAdd, ↓reduceIte, reduceCtorEq, Nat.reduceLeDiff, X, cS, nbsTake] | (refine callC_pure (cv) rfl ?_) | exact W_ret (RetP_1 (.imm rfl)) | exact W_ret (RetP_c rfl rfl rfl (.imm rfl)))
    refine W_cond rfl (fun h => by cases h) (fun _ => W_skip ?_)
    repeat (first | (refine W_seq ?_) | (refine W_reg ?_) | (refine W_regd ?_) | (refine W_block ?_) | (refine And.intro (by omega) ?_) | simp (maxSteps := 1000000) (disch := omega) only [cA, cB, lk, lkH, Dst.onT, Dst.onX, Dst.slot, setF, setH, mapF, mapH, initF, binE, unE, cnt, boundE, newsE, freshE, opE, rmH, blkQ, frz_us, Nat.reduceEqDiff, Nat.reduceLT, Nat.reduceAdd, ↓reduceIte, reduceCtorEq, Nat.reduceLeDiff, X, cS, nbsTake] | (refine callC_pure (ct) rfl ?_) | exact W_ret (RetP_1 (.imm rfl)) | exact W_ret (RetP_c rfl rfl rfl (.imm rfl)))
  · have hv : vldI neg a = false := by simpa using hv
    rw [hv] at cv
    rw [iv_inv hv]
    repeat (first | (refine W_seq ?_) | (refine W_reg ?_) | (refine W_regd ?_) | (refine W_block ?_) | (refine And.intro (by omega) ?_) | simp (maxSteps := 1000000) (disch := omega) only [cA, cB, lk, lkH, Dst.onT, Dst.onX, Dst.slot, setF, setH, mapF, mapH, initF, binE, unE, cnt, boundE, newsE, freshE, opE, rmH, blkQ, frz_us, Nat.reduceEqDiff, Nat.reduceLT, Nat.reduceAdd, ↓reduceIte, reduceCtorEq, Nat.reduceLeDiff, X, cS, nbsTake] | (refine callC_pure (cv) rfl ?_) | exact W_ret (RetP_1 (.imm rfl)) | exact W_ret (RetP_c rfl rfl rfl (.imm rfl)))
    refine W_cond rfl (fun _ => ?_) (fun h => by cases h)
    repeat (first | (refine W_seq ?_) | (refine W_reg ?_) | (refine W_regd ?_) | (refine W_block ?_) | (refine And.intro (by omega) ?_) | simp (maxSteps := 1000000) (disch := omega) only [cA, cB, lk, lkH, Dst.onT, Dst.onX, Dst.slot, setF, setH, mapF, mapH, initF, binE, unE, cnt, boundE, newsE, freshE, opE, rmH, blkQ, frz_us, Nat.reduceEqDiff, Nat.reduceLT, Nat.reduceAdd, ↓reduceIte, reduceCtorEq, Nat.reduceLeDiff, X, cS, nbsTake])
    refine W_ret (RetP_c rfl rfl rfl ?_)
    rw [I0]
    exact Exp_bn _ _
theorem s_signed_calls (neg : Bool) (n : Nat) : PCalls Tryz.prog 84 [.bool neg, .sl 1 (us (limbs n))] (I (sgn neg n)) := by
  refine PCalls_of iss_signed (by simp [fns_signed]) ?_
  unfold codes_signed I
  rw [sgn_lt, sgn_abs]
  cases neg
  · repeat (first | (refine W_seq ?_) | (refine W_reg ?_) | (refine W_regd ?_) | (refine W_block ?_) | (refine And.intro (by omega) ?_) | simp (maxSteps := 1000000) (disch := omega) only [cA, cB, lk, lkH, Dst.onT, Dst.onX, Dst.slot, setF, setH, mapF, mapH, initF, binE, unE, cnt, boundE, newsE, freshE, opE, rmH, blkQ, frz_us, Nat.reduceEqDiff, Nat.reduceLT, Nat.reduceAdd, ↓reduceIte, reduceCtorEq, Nat.reduceLeDiff, cS, nbs_signed, us_length, len_gt])
    exact W_ret (RetP_c rfl rfl rfl (.imm rfl))
  · simp only [Bool.true_and]
    repeat (first | (refine W_seq ?_) | (refine W_reg ?_) | (refine W_regd ?_) | (refine W_block ?_) | (refine And.intro (by omega) ?_) | simp (maxSteps := 1000000) (disch := omega) only [cA, cB, lk, lkH, Dst.onT, Dst.onX, Dst.slot, setF, setH, mapF, mapH, initF, binE, unE, cnt, boundE, newsE, freshE, opE, rmH, blkQ, frz_us, Nat.reduceEqDiff, Nat.reduceLT, Nat.reduceAdd, ↓reduceIte, reduceCtorEq, Nat.reduceLeDiff, cS, nbs_signed, us_length, len_gt])
    exact W_ret (RetP_c rfl rfl rfl (.imm rfl))
theorem sSign_calls (neg : Bool) (a : List Nat) (ha : a.length ≤ 1000000) (la : lim a) : PCalls Tryz.prog 24 [X neg a] (.int .i64 (iv neg a).sign) := by
  have cv := sTake_calls neg a ha la
  refine PCalls_of issSign (by simp [fnsSign]) ?_
  unfold codesSign
  generalize iv neg a = z at *
  repeat (first | (refine W_seq ?_) | (refine W_reg ?_) | (refine W_regd ?_) | (refine W_block ?_) | (refine And.intro (by omega) ?_) | simp (maxSteps := 1000000) (disch := omega) only [cA, cB, lk, lkH, Dst.onT, Dst.onX, Dst.slot, setF, setH, mapF, mapH, initF, binE, unE, cnt, boundE, newsE, freshE, opE, rmH, blkQ, frz_us, Nat.reduceEqDiff, Nat.reduceLT, Nat.reduceAdd, ↓reduceIte, reduceCtorEq, Nat.reduceLeDiff, X, I, cS, nbsSign, us_length, len_gt] | (refine callC_pure (cv) rfl ?_) | exact W_ret (RetP_1 (.imm rfl)) | exact W_ret (RetP_c rfl rfl rfl (.imm rfl)))
  refine W_cond rfl (fun h => ?_) (fun h => ?_)
  · rw [Int.sign_eq_neg_one_of_neg (of_decide_eq_true h)]
    repeat (first | (refine W_seq ?_) | (refine W_reg ?_) | (refine W_regd ?_) | (refine W_block ?_) | (refine And.intro (by omega) ?_) | simp (maxSteps := 1000000) (disch := omega) only [cA, cB, lk, lkH, Dst.onT, Dst.onX, Dst.slot, setF, setH, mapF, mapH, initF, binE, unE, cnt, boundE, newsE, freshE, opE, rmH, blkQ, frz_us, Nat.reduceEqDiff, Nat.reduceLT, Nat.reduceAdd, ↓reduceIte, reduceCtorEq, Nat.reduceLeDiff, cS] | (refine callC_pure (cv) rfl ?_) | exact W_ret (RetP_1 (.imm rfl)) | exact W_ret (RetP_c rfl rfl rfl (.imm rfl)))
  · have h := of_decide_eq_false h
    repeat (first | (refine W_seq ?_) | (refine W_reg ?_) | (refine W_regd ?_) | (refine W_block ?_) | (refine And.intro (by omega) ?_) | simp (maxSteps := 1000000) (disch := omega) only [cA, cB, lk, lkH, Dst.onT, Dst.onX, Dst.slot, setF, setH, mapF, mapH, initF, binE, unE, cnt, boundE, newsE, freshE, opE, rmH, blkQ, frz_us, Nat.reduceEqDiff, Nat.reduceLT, Nat.reduceAdd, ↓reduceIte, reduceCtorEq, Nat.reduceLeDiff, I, cS, us_length, len_gt] | (refine callC_pure (cv) rfl ?_) | exact W_ret (RetP_1 (.imm rfl)) | exact W_ret (RetP_c rfl rfl rfl (.imm rfl)))
    refine W_cond rfl (fun h3 => ?_) (fun h3 => W_skip ?_)
    · have h3 := of_decide_eq_true h3
      rw [Int.sign_eq_one_of_pos (by omega)]
      repeat (first | (refine W_seq ?_) | (refine W_reg ?_) | (refine W_regd ?_) | (refine W_block ?_) | (refine And.intro (by omega) ?_) | simp (maxSteps := 1000000) (disch := omega) only [cA, cB, lk, lkH, Dst.onT, Dst.onX, Dst.slot, setF, setH, mapF, mapH, initF, binE, unE, cnt, boundE, newsE, freshE, opE, rmH, blkQ, frz_us, Nat.reduceEqDiff, Nat.reduceLT, Nat.reduceAdd, ↓reduceIte, reduceCtorEq, Nat.reduceLeDiff, cS] | (refine callC_pure (cv) rfl ?_) | exact W_ret (RetP_1 (.imm rfl)) | exact W_ret (RetP_c rfl rfl rfl (.imm rfl)))
    · have h3 := of_decide_eq_false h3
      rw [show z = 0 by omega]
      repeat (first | (refine W_seq ?_) | (refine W_reg ?_) | (refine W_regd ?_) | (refine W_block ?_) | (refine And.intro (by omega) ?_) | simp (maxSteps := 1000000) (disch := omega) only [cA, cB, lk, lkH, Dst.onT, Dst.onX, Dst.slot, setF, setH, mapF, mapH, initF, binE, unE, cnt, boundE, newsE, freshE, opE, rmH, blkQ, frz_us, Nat.reduceEqDiff, Nat.reduceLT, Nat.reduceAdd, ↓reduceIte, reduceCtorEq, Nat.reduceLeDiff, cS] | (refine callC_pure (cv) rfl ?_) | exact W_ret (RetP_1 (.imm rfl)) | exact W_ret (RetP_c rfl rfl rfl (.imm rfl)))
theorem sNeg_calls (neg : Bool) (a : List Nat) (ha : a.length ≤ 900) (la : lim a) : PCalls Tryz.prog 98 [X neg a] (I (-(iv neg a))) := by
  have cv := sTake_calls neg a (by omega) la
  have cs := s_signed_calls (!decide (iv neg a < 0)) (iv neg a).natAbs
  rw [sgn_not] at cs
  refine PCalls_of issNeg (by simp [fnsNeg]) ?_
  unfold codesNeg
  repeat (first | (refine W_seq ?_) | (refine W_reg ?_) | (refine W_regd ?_) | (refine W_block ?_) | (refine And.intro (by omega) ?_) | simp (maxSteps := 1000000) (disch := omega) only [cA, cB, lk, lkH, Dst.onT, Dst.onX, Dst.slot, setF, setH, mapF, mapH, initF, binE, unE, cnt, boundE, newsE, freshE, opE, rmH, blkQ, frz_us, Nat.reduceEqDiff, Nat.reduceLT, Nat.reduceAdd, ↓reduceIte, reduceCtorEq, Nat.reduceLeDiff, X, I, cS, nbsNeg] | (refine callC_pure (cv) rfl ?_) | (refine callC_pure (cs) rfl ?_) | exact W_ret (RetP_1 (.imm rfl)) | exact W_ret (RetP_c rfl rfl rfl (.imm rfl)))
theorem sMul_calls (n1 : Bool) (a : List Nat) (n2 : Bool) (b : List Nat) (ha : a.length ≤ 900) (hb : b.length ≤ 900) (la : lim a) (lb : lim b) : PCalls Tryz.prog 25 [X n1 a, X n2 b] (I (iv n1 a * iv n2 b)) := by
  have cv := sTake_calls n1 a (by omega) la
  have cw := sTake_calls n2 b (by omega) lb
  have l1 := iv_len la n1
  have l2 := iv_len lb n2
  generalize iv n1 a = x at *
  generalize iv n2 b = y at *
  have cm := rMulL x.natAbs y.natAbs (by omega) (by omega)
  have cs := s_signed_calls (!(decide (x < 0) == decide (y < 0))) (x.natAbs * y.natAbs)
  rw [mul_sgn] at cs
  refine PCalls_of issMul (by simp [fnsMul]) ?_
  unfold codesMul
  repeat (first | (refine W_seq ?_) | (refine W_reg ?_) | (refine W_regd ?_) | (refine W_block ?_) | (refine And.intro (by omega) ?_) | simp (maxSteps := 1000000) (disch := omega) only [cA, cB, lk, lkH, Dst.onT, Dst.onX, Dst.slot, setF, setH, mapF, mapH, initF, binE, unE, cnt, boundE, newsE, freshE, opE, rmH, blkQ, frz_us, Nat.reduceEqDiff, Nat.reduceLT, Nat.reduceAdd, ↓reduceIte, reduceCtorEq, Nat.reduceLeDiff, X, I, cS, nbsMul] | (refine callC_pure (cv) rfl ?_) | (refine callC_pure (cw) rfl ?_) | (refine callC_pure (cm) rfl ?_) | (refine callC_pure (cs) rfl ?_) | exact W_ret (RetP_1 (.imm rfl)) | exact W_ret (RetP_c rfl rfl rfl (.imm rfl)))
theorem sAdd_calls (n1 : Bool) (a : List Nat) (n2 : Bool) (b : List Nat) (ha : a.length ≤ 900) (hb : b.length ≤ 900) (la : lim a) (lb : lim b) : PCalls Tryz.prog 82 [X n1 a, X n2 b] (I (iv n1 a + iv n2 b)) := by
  have cv := sTake_calls n1 a (by omega) la
  have cw := sTake_calls n2 b (by omega) lb
  have l1 := iv_len la n1
  have l2 := iv_len lb n2
  generalize iv n1 a = x at *
  generalize iv n2 b = y at *
  have ca := rAddL x.natAbs y.natAbs (by omega) (by omega)
  have cd := rSub_calls (limbs x.natAbs) (limbs y.natAbs) (by omega) (by omega) (lim_limbs _) (lim_limbs _)
  have ce := rSub_calls (limbs y.natAbs) (limbs x.natAbs) (by omega) (by omega) (lim_limbs _) (lim_limbs _)
  rw [vn_limbs, vn_limbs] at cd ce
  have s1 := s_signed_calls (decide (x < 0)) (x.natAbs + y.natAbs)
  have s2 := s_signed_calls (decide (x < 0)) (x.natAbs - y.natAbs)
  have s3 := s_signed_calls (decide (y < 0)) (y.natAbs - x.natAbs)
  refine PCalls_of issAdd (by simp [fnsAdd]) ?_
  unfold codesAdd
  by_cases h : decide (x < 0) = decide (y < 0)
  · rw [add_same h] at s1
    have hb : (decide (x < 0) == decide (y < 0)) = true := by rw [h]; simp
    repeat (first | (refine W_seq ?_) | (refine W_reg ?_) | (refine W_regd ?_) | (refine W_block ?_) | (refine And.intro (by omega) ?_) | simp (maxSteps := 1000000) (disch := omega) only [cA, cB, lk, lkH, Dst.onT, Dst.onX, Dst.slot, setF, setH, mapF, mapH, initF, binE, unE, cnt, boundE, newsE, freshE, opE, rmH, blkQ, frz_us, Nat.reduceEqDiff, Nat.reduceLT, Nat.reduceAdd, ↓reduceIte, reduceCtorEq, Nat.reduceLeDiff, X, I, cS, nbsAdd, hb] | (refine callC_pure (cv) rfl ?_) | (refine callC_pure (cw) rfl ?_) | exact W_ret (RetP_1 (.imm rfl)) | exact W_ret (RetP_c rfl rfl rfl (.imm rfl)))
    refine W_cond rfl (fun _ => ?_) (fun h => by cases h)
    repeat (first | (refine W_seq ?_) | (refine W_reg ?_) | (refine W_regd ?_) | (refine W_block ?_) | (refine And.intro (by omega) ?_) | simp (maxSteps := 1000000) (disch := omega) only [cA, cB, lk, lkH, Dst.onT, Dst.onX, Dst.slot, setF, setH, mapF, mapH, initF, binE, unE, cnt, boundE, newsE, freshE, opE, rmH, blkQ, frz_us, Nat.reduceEqDiff, Nat.reduceLT, Nat.reduceAdd, ↓reduceIte, reduceCtorEq, Nat.reduceLeDiff, X, I, cS, nbsAdd, hb] | (refine callC_pure (ca) rfl ?_) | (refine callC_pure (s1) rfl ?_) | exact W_ret (RetP_1 (.imm rfl)) | exact W_ret (RetP_c rfl rfl rfl (.imm rfl)))
  · have hb : (decide (x < 0) == decide (y < 0)) = false := by simpa using h
    by_cases hle : y.natAbs ≤ x.natAbs
    · rw [add_left h hle] at s2
      rw [decide_eq_true hle] at cd
      repeat (first | (refine W_seq ?_) | (refine W_reg ?_) | (refine W_regd ?_) | (refine W_block ?_) | (refine And.intro (by omega) ?_) | simp (maxSteps := 1000000) (disch := omega) only [cA, cB, lk, lkH, Dst.onT, Dst.onX, Dst.slot, setF, setH, mapF, mapH, initF, binE, unE, cnt, boundE, newsE, freshE, opE, rmH, blkQ, frz_us, Nat.reduceEqDiff, Nat.reduceLT, Nat.reduceAdd, ↓reduceIte, reduceCtorEq, Nat.reduceLeDiff, X, I, cS, nbsAdd, hb] | (refine callC_pure (cv) rfl ?_) | (refine callC_pure (cw) rfl ?_) | exact W_ret (RetP_1 (.imm rfl)) | exact W_ret (RetP_c rfl rfl rfl (.imm rfl)))
      refine W_cond rfl (fun h => by cases h) (fun _ => W_skip ?_)
      repeat (first | (refine W_seq ?_) | (refine W_reg ?_) | (refine W_regd ?_) | (refine W_block ?_) | (refine And.intro (by omega) ?_) | simp (maxSteps := 1000000) (disch := omega) only [cA, cB, lk, lkH, Dst.onT, Dst.onX, Dst.slot, setF, setH, mapF, mapH, initF, binE, unE, cnt, boundE, newsE, freshE, opE, rmH, blkQ, frz_us, Nat.reduceEqDiff, Nat.reduceLT, Nat.reduceAdd, ↓reduceIte, reduceCtorEq, Nat.reduceLeDiff, X, I, cS, nbsAdd] | (refine callC_pure (cd) rfl ?_) | exact W_ret (RetP_1 (.imm rfl)) | exact W_ret (RetP_c rfl rfl rfl (.imm rfl)))
      refine W_cond rfl (fun _ => ?_) (fun h => by cases h)
      repeat (first | (refine W_seq ?_) | (refine W_reg ?_) | (refine W_regd ?_) | (refine W_block ?_) | (refine And.intro (by omega) ?_) | simp (maxSteps := 1000000) (disch := omega) only [cA, cB, lk, lkH, Dst.onT, Dst.onX, Dst.slot, setF, setH, mapF, mapH, initF, binE, unE, cnt, boundE, newsE, freshE, opE, rmH, blkQ, frz_us, Nat.reduceEqDiff, Nat.reduceLT, Nat.reduceAdd, ↓reduceIte, reduceCtorEq, Nat.reduceLeDiff, X, I, cS, nbsAdd] | (refine callC_pure (s2) rfl ?_) | exact W_ret (RetP_1 (.imm rfl)) | exact W_ret (RetP_c rfl rfl rfl (.imm rfl)))
    · rw [add_right h hle] at s3
      rw [decide_eq_false hle] at cd
      repeat (first | (refine W_seq ?_) | (refine W_reg ?_) | (refine W_regd ?_) | (refine W_block ?_) | (refine And.intro (by omega) ?_) | simp (maxSteps := 1000000) (disch := omega) only [cA, cB, lk, lkH, Dst.onT, Dst.onX, Dst.slot, setF, setH, mapF, mapH, initF, binE, unE, cnt, boundE, newsE, freshE, opE, rmH, blkQ, frz_us, Nat.reduceEqDiff, Nat.reduceLT, Nat.reduceAdd, ↓reduceIte, reduceCtorEq, Nat.reduceLeDiff, X, I, cS, nbsAdd, hb] | (refine callC_pure (cv) rfl ?_) | (refine callC_pure (cw) rfl ?_) | exact W_ret (RetP_1 (.imm rfl)) | exact W_ret (RetP_c rfl rfl rfl (.imm rfl)))
      refine W_cond rfl (fun h => by cases h) (fun _ => W_skip ?_)
      repeat (first | (refine W_seq ?_) | (refine W_reg ?_) | (refine W_regd ?_) | (refine W_block ?_) | (refine And.intro (by omega) ?_) | simp (maxSteps := 1000000) (disch := omega) only [cA, cB, lk, lkH, Dst.onT, Dst.onX, Dst.slot, setF, setH, mapF, mapH, initF, binE, unE, cnt, boundE, newsE, freshE, opE, rmH, blkQ, frz_us, Nat.reduceEqDiff, Nat.reduceLT, Nat.reduceAdd, ↓reduceIte, reduceCtorEq, Nat.reduceLeDiff, X, I, cS, nbsAdd] | (refine callC_pure (cd) rfl ?_) | exact W_ret (RetP_1 (.imm rfl)) | exact W_ret (RetP_c rfl rfl rfl (.imm rfl)))
      refine W_cond rfl (fun h => by cases h) (fun _ => W_skip ?_)
      repeat (first | (refine W_seq ?_) | (refine W_reg ?_) | (refine W_regd ?_) | (refine W_block ?_) | (refine And.intro (by omega) ?_) | simp (maxSteps := 1000000) (disch := omega) only [cA, cB, lk, lkH, Dst.onT, Dst.onX, Dst.slot, setF, setH, mapF, mapH, initF, binE, unE, cnt, boundE, newsE, freshE, opE, rmH, blkQ, frz_us, Nat.reduceEqDiff, Nat.reduceLT, Nat.reduceAdd, ↓reduceIte, reduceCtorEq, Nat.reduceLeDiff, X, I, cS, nbsAdd] | (refine callC_pure (ce) rfl ?_) | (refine callC_pure (s3) rfl ?_) | exact W_ret (RetP_1 (.imm rfl)) | exact W_ret (RetP_c rfl rfl rfl (.imm rfl)))
theorem sDiv_calls (n1 : Bool) (a : List Nat) (n2 : Bool) (b : List Nat) (ha : a.length ≤ 900) (hb : b.length ≤ 900) (la : lim a) (lb : lim b) :
    PCalls Tryz.prog 100 [X n1 a, X n2 b] (.tup [I (iv n1 a / iv n2 b), I (imod (iv n1 a) (iv n2 b)), .bool (decide (¬ iv n2 b = 0))]) := by
  have cv := sTake_calls n1 a (by omega) la
  have cw := sTake_calls n2 b (by omega) lb
  have l1 := iv_len la n1
  have l2 := iv_len lb n2
  generalize iv n1 a = x at *
  generalize iv n2 b = y at *
  have cd := rDivL x.natAbs y.natAbs (by omega) (by omega)
  have lq := len_mono (Nat.div_le_self x.natAbs y.natAbs)
  refine PCalls_of issDiv (by simp [fnsDiv]) ?_
  unfold codesDiv imod
  by_cases hy : y = 0
  · subst hy
    rw [decide_eq_false (show ¬ 0 < (0 : Int).natAbs by decide)] at cd
    repeat (first | (refine W_seq ?_) | (refine W_reg ?_) | (refine W_regd ?_) | (refine W_block ?_) | (refine And.intro (by omega) ?_) | simp (maxSteps := 1000000) (disch := omega) only [cA, cB, lk, lkH, Dst.onT, Dst.onX, Dst.slot, setF, setH, mapF, mapH, initF, binE, unE, cnt, boundE, newsE, freshE, opE, rmH, blkQ, frz_us, Nat.reduceEqDiff, Nat.reduceLT, Nat.reduceAdd, ↓reduceIte, reduceCtorEq, Nat.reduceLeDiff, X, I, cS, nbsDiv] | (refine callC_pure (cv) rfl ?_) | (refine callC_pure (cw) rfl ?_) | (refine callC_pure (cd) rfl ?_) | exact W_ret (RetP_1 (.imm rfl)) | exact W_ret (RetP_c rfl rfl rfl (.imm rfl)))
    refine W_cond rfl (fun _ => ?_) (fun h => by cases h)
    repeat (first | (refine W_seq ?_) | (refine W_reg ?_) | (refine W_regd ?_) | (refine W_block ?_) | (refine And.intro (by omega) ?_) | simp (maxSteps := 1000000) (disch := omega) only [cA, cB, lk, lkH, Dst.onT, Dst.onX, Dst.slot, setF, setH, mapF, mapH, initF, binE, unE, cnt, boundE, newsE, freshE, opE, rmH, blkQ, frz_us, Nat.reduceEqDiff, Nat.reduceLT, Nat.reduceAdd, ↓reduceIte, reduceCtorEq, Nat.reduceLeDiff, cS])
    refine W_ret (RetP_cct rfl rfl rfl rfl rfl rfl ?_ ?_ (.imm rfl))
    · rw [Int.ediv_zero]
      have := Exp_bn (h := lkH [(2, [DV.bool (decide (x < 0)), DV.sl 1 (us (limbs x.natAbs))]), (3, [DV.bool (decide ((0 : Int) < 0)), DV.sl 1 (us (limbs (0 : Int).natAbs))]), (4, [DV.bool false, DV.nils]), (5, [DV.bool false, DV.nils])]) false 1
      rw [← I0] at this
      exact this
    · have := Exp_bn (h := lkH [(2, [DV.bool (decide (x < 0)), DV.sl 1 (us (limbs x.natAbs))]), (3, [DV.bool (decide ((0 : Int) < 0)), DV.sl 1 (us (limbs (0 : Int).natAbs))]), (4, [DV.bool false, DV.nils]), (5, [DV.bool false, DV.nils])]) false 1
      rw [← I0] at this
      exact this
  · have hy0 : 0 < y.natAbs := by omega
    rw [decide_eq_true hy0, dmod_pos hy0] at cd
    rw [decide_eq_true hy, if_neg hy]
    have lr := len_mono (Nat.mod_le x.natAbs y.natAbs)
    have hm := Nat.mod_lt x.natAbs hy0
    repeat (first | (refine W_seq ?_) | (refine W_reg ?_) | (refine W_regd ?_) | (refine W_block ?_) | (refine And.intro (by omega) ?_) | simp (maxSteps := 1000000) (disch := omega) only [cA, cB, lk, lkH, Dst.onT, Dst.onX, Dst.slot, setF, setH, mapF, mapH, initF, binE, unE, cnt, boundE, newsE, freshE, opE, rmH, blkQ, frz_us, Nat.reduceEqDiff, Nat.reduceLT, Nat.reduceAdd, ↓reduceIte, reduceCtorEq, Nat.reduceLeDiff, X, I, cS, nbsDiv] | (refine callC_pure (cv) rfl ?_) | (refine callC_pure (cw) rfl ?_) | (refine callC_pure (cd) rfl ?_) | exact W_ret (RetP_1 (.imm rfl)) | exact W_ret (RetP_c rfl rfl rfl (.imm rfl)))
    refine W_cond rfl (fun h => by cases h) (fun _ => W_skip ?_)
    by_cases hf : x < 0 ∧ 0 < x.natAbs % y.natAbs
    · obtain ⟨f1, f2⟩ := div_fix x y hy hf.1 hf.2
      have dx : decide (x < 0) = true := decide_eq_true hf.1
      have dr : decide (0 < x.natAbs % y.natAbs) = true := decide_eq_true hf.2
      have o1 : (limbs 1).length ≤ 10000 := by rw [limbs1]; simp
      have ca := rAddL (x.natAbs / y.natAbs) 1 (by omega) (by omega)
      have cb := rSub_calls (limbs y.natAbs) (limbs (x.natAbs % y.natAbs)) (by omega) (by omega) (lim_limbs _) (lim_limbs _)
      rw [vn_limbs, vn_limbs] at cb
      have s1 := s_signed_calls (!(decide (x < 0) == decide (y < 0))) (x.natAbs / y.natAbs + 1)
      have s2 := s_signed_calls false (y.natAbs - x.natAbs % y.natAbs)
      rw [f1, dx] at s1
      rw [f2] at s2
      clear hf f1 f2 hm o1
      repeat (first | (refine W_seq ?_) | (refine W_reg ?_) | (refine W_regd ?_) | (refine W_block ?_) | (refine And.intro (by omega) ?_) | simp (maxSteps := 1000000) (disch := omega) only [cA, cB, lk, lkH, Dst.onT, Dst.onX, Dst.slot, setF, setH, mapF, mapH, initF, binE, unE, cnt, boundE, newsE, freshE, opE, rmH, blkQ, frz_us, Nat.reduceEqDiff, Nat.reduceLT, Nat.reduceAdd, ↓reduceIte, reduceCtorEq, Nat.reduceLeDiff, X, I, cS, nbsDiv, us_length, len_gt, dx, dr] | (refine callC_pure (cv) rfl ?_) | exact W_ret (RetP_1 (.imm rfl)) | exact W_ret (RetP_c rfl rfl rfl (.imm rfl)))
      refine W_cond rfl (fun _ => ?_) (fun h => by cases h)
      repeat (first | (refine W_seq ?_) | (refine W_reg ?_) | (refine W_regd ?_) | (refine W_block ?_) | (refine And.intro (by omega) ?_) | simp (maxSteps := 1000000) (disch := omega) only [cA, cB, lk, lkH, Dst.onT, Dst.onX, Dst.slot, setF, setH, mapF, mapH, initF, binE, unE, cnt, boundE, newsE, freshE, opE, rmH, blkQ, frz_us, Nat.reduceEqDiff, Nat.reduceLT, Nat.reduceAdd, ↓reduceIte, reduceCtorEq, Nat.reduceLeDiff, I, cS, nbsDiv, us_rfd, us1L] | (refine callC_pure (ca) rfl ?_) | (refine callC_pure (cb) rfl ?_) | (refine callC_pure (s1) rfl ?_) | (refine callC_pure (s2) rfl ?_) | exact W_ret (RetP_1 (.imm rfl)) | exact W_ret (RetP_c rfl rfl rfl (.imm rfl)))
      exact W_ret (RetP_cct rfl rfl rfl rfl rfl rfl (.imm rfl) (.imm rfl) (.imm rfl))
    · obtain ⟨f1, f2⟩ := div_plain x y hy hf
      have s1 := s_signed_calls (!(decide (x < 0) == decide (y < 0))) (x.natAbs / y.natAbs)
      have s2 := s_signed_calls false (x.natAbs % y.natAbs)
      rw [f1] at s1
      rw [f2] at s2
      by_cases hx : x < 0
      · have dx : decide (x < 0) = true := decide_eq_true hx
        have dr : decide (0 < x.natAbs % y.natAbs) = false := decide_eq_false (fun h => hf ⟨hx, h⟩)
        rw [dx] at s1
        clear hf f1 f2 hm
        repeat (first | (refine W_seq ?_) | (refine W_reg ?_) | (refine W_regd ?_) | (refine W_block ?_) | (refine And.intro (by omega) ?_) | simp (maxSteps := 1000000) (disch := omega) only [cA, cB, lk, lkH, Dst.onT, Dst.onX, Dst.slot, setF, setH, mapF, mapH, initF, binE, unE, cnt, boundE, newsE, freshE, opE, rmH, blkQ, frz_us, Nat.reduceEqDiff, Nat.reduceLT, Nat.reduceAdd, ↓reduceIte, reduceCtorEq, Nat.reduceLeDiff, X, I, cS, nbsDiv, us_length, len_gt, dx, dr] | (refine callC_pure (cv) rfl ?_) | exact W_ret (RetP_1 (.imm rfl)) | exact W_ret (RetP_c rfl rfl rfl (.imm rfl)))
        refine W_cond rfl (fun h => by cases h) (fun _ => W_skip ?_)
        repeat (first | (refine W_seq ?_) | (refine W_reg ?_) | (refine W_regd ?_) | (refine W_block ?_) | (refine And.intro (by omega) ?_) | simp (maxSteps := 1000000) (disch := omega) only [cA, cB, lk, lkH, Dst.onT, Dst.onX, Dst.slot, setF, setH, mapF, mapH, initF, binE, unE, cnt, boundE, newsE, freshE, opE, rmH, blkQ, frz_us, Nat.reduceEqDiff, Nat.reduceLT, Nat.reduceAdd, ↓reduceIte, reduceCtorEq, Nat.reduceLeDiff, I, cS, nbsDiv] | (refine callC_pure (s1) rfl ?_) | (refine callC_pure (s2) rfl ?_) | exact W_ret (RetP_1 (.imm rfl)) | exact W_ret (RetP_c rfl rfl rfl (.imm rfl)))
        exact W_ret (RetP_cct rfl rfl rfl rfl rfl rfl (.imm rfl) (.imm rfl) (.imm rfl))
      · have dx : decide (x < 0) = false := decide_eq_false hx
        rw [dx] at s1
        clear hf f1 f2 hm
        repeat (first | (refine W_seq ?_) | (refine W_reg ?_) | (refine W_regd ?_) | (refine W_block ?_) | (refine And.intro (by omega) ?_) | simp (maxSteps := 1000000) (disch := omega) only [cA, cB, lk, lkH, Dst.onT, Dst.onX, Dst.slot, setF, setH, mapF, mapH, initF, binE, unE, cnt, boundE, newsE, freshE, opE, rmH, blkQ, frz_us, Nat.reduceEqDiff, Nat.reduceLT, Nat.reduceAdd, ↓reduceIte, reduceCtorEq, Nat.reduceLeDiff, X, I, cS, nbsDiv, us_length, len_gt, dx] | (refine callC_pure (cv) rfl ?_) | exact W_ret (RetP_1 (.imm rfl)) | exact W_ret (RetP_c rfl rfl rfl (.imm rfl)))
        refine W_cond rfl (fun h => by cases h) (fun _ => W_skip ?_)
        repeat (first | (refine W_seq ?_) | (refine W_reg ?_) | (refine W_regd ?_) | (refine W_block ?_) | (refine And.intro (by omega) ?_) | simp (maxSteps := 1000000) (disch := omega) only [cA, cB, lk, lkH, Dst.onT, Dst.onX, Dst.slot, setF, setH, mapF, mapH, initF, binE, unE, cnt, boundE, newsE, freshE, opE, rmH, blkQ, frz_us, Nat.reduceEqDiff, Nat.reduceLT, Nat.reduceAdd, ↓reduceIte, reduceCtorEq, Nat.reduceLeDiff, I, cS, nbsDiv] | (refine callC_pure (s1) rfl ?_) | (refine callC_pure (s2) rfl ?_) | exact W_ret (RetP_1 (.imm rfl)) | exact W_ret (RetP_c rfl rfl rfl (.imm rfl)))
        exact W_ret (RetP_cct rfl rfl rfl rfl rfl rfl (.imm rfl) (.imm rfl) (.imm rfl))
theorem sGcd_calls (n1 : Bool) (a : List Nat) (n2 : Bool) (b : List Nat) (ha : a.length ≤ 900) (hb : b.length ≤ 900) (la : lim a) (lb : lim b) :
    PCalls Tryz.prog 105 [X n1 a, X n2 b] (.sl 1 (us (limbs (Nat.gcd (iv n1 a).natAbs (iv n2 b).natAbs)))) := by
  have cv := sTake_calls n1 a (by omega) la
  have cw := sTake_calls n2 b (by omega) lb
  have l1 := iv_len la n1
  have l2 := iv_len lb n2
  generalize iv n1 a = x at *
  generalize iv n2 b = y at *
  have cg := rGcdL x.natAbs y.natAbs (by omega) (by omega)
  refine PCalls_of issGcd (by simp [fnsGcd]) ?_
  unfold codesGcd
  repeat (first | (refine W_seq ?_) | (refine W_reg ?_) | (refine W_regd ?_) | (refine W_block ?_) | (refine And.intro (by omega) ?_) | simp (maxSteps := 1000000) (disch := omega) only [cA, cB, lk, lkH, Dst.onT, Dst.onX, Dst.slot, setF, setH, mapF, mapH, initF, binE, unE, cnt, boundE, newsE, freshE, opE, rmH, blkQ, frz_us, Nat.reduceEqDiff, Nat.reduceLT, Nat.reduceAdd, ↓reduceIte, reduceCtorEq, Nat.reduceLeDiff, X, I, cS, nbsGcd] | (refine callC_pure (cv) rfl ?_) | (refine callC_pure (cw) rfl ?_) | (refine callC_pure (cg) rfl ?_) | exact W_ret (RetP_1 (.imm rfl)) | exact W_ret (RetP_c rfl rfl rfl (.imm rfl)))
theorem sameI (x y : Int) (h : x = y) (hl : (limbs x.natAbs).length ≤ 100000) : PCalls Tryz.prog 27 [I x, I y] (.bool true) := by
  subst h
  have ss := sameL x.natAbs x.natAbs rfl hl
  have hb : (decide (x < 0) == decide (x < 0)) = true := by simp
  refine PCalls_of issSame (by simp [fnsSame]) ?_
  unfold codesSame
  repeat (first | (refine W_seq ?_) | (refine W_reg ?_) | (refine W_regd ?_) | (refine W_block ?_) | (refine And.intro (by omega) ?_) | simp (maxSteps := 1000000) (disch := omega) only [cA, cB, lk, lkH, Dst.onT, Dst.onX, Dst.slot, setF, setH, mapF, mapH, initF, binE, unE, cnt, boundE, newsE, freshE, opE, rmH, blkQ, frz_us, Nat.reduceEqDiff, Nat.reduceLT, Nat.reduceAdd, ↓reduceIte, reduceCtorEq, Nat.reduceLeDiff, I, cS, nbsSame, hb] | (refine callC_pure (ss) rfl ?_) | exact W_ret (RetP_1 (.imm rfl)) | exact W_ret (RetP_c rfl rfl rfl (.imm rfl)))
theorem sFromInt_calls (v : Int) (h1 : -9223372036854775808 ≤ v) (h2 : v ≤ 9223372036854775807) : PCalls Tryz.prog 83 [.int .i64 v] (I v) := by
  refine PCalls_of issFromInt (by simp [fnsFromInt]) ?_
  unfold codesFromInt
  by_cases hv : v < 0
  · have d1 : decide (v < 0) = true := decide_eq_true hv
    obtain ⟨n, hn⟩ : ∃ n : Nat, v = -((n + 1 : Nat) : Int) := ⟨v.natAbs - 1, by omega⟩
    have cf := rFromUint_calls n (by omega)
    have hll : (limbs n).length ≤ 2 := limbs_len.2 (by omega)
    have ca := rAddL n 1 (by omega) (by rw [limbs1]; simp)
    have cs := s_signed_calls true (n + 1)
    rw [show sgn true (n + 1) = v by unfold sgn; rw [if_pos rfl, hn]] at cs
    have e1 : IntKind.u64.wrap (IntKind.i64.wrap (0 - IntKind.i64.wrap (v + 1))) = (n : Int) := by rw [IntKind.wrap_u64, IntKind.wrap_i64, IntKind.wrap_i64]; omega
    repeat (first | (refine W_seq ?_) | (refine W_reg ?_) | (refine W_regd ?_) | (refine W_block ?_) | (refine And.intro (by omega) ?_) | simp (maxSteps := 1000000) (disch := omega) only [cA, cB, lk, lkH, Dst.onT, Dst.onX, Dst.slot, setF, setH, mapF, mapH, initF, binE, unE, cnt, boundE, newsE, freshE, opE, rmH, blkQ, frz_us, Nat.reduceEqDiff, Nat.reduceLT, Nat.reduceAdd, ↓reduceIte, reduceCtorEq, Nat.reduceLeDiff, I, cS, nbsFromInt, d1] | (refine callC_pure (cf) rfl ?_) | (refine callC_pure (cs) rfl ?_) | exact W_ret (RetP_1 (.imm rfl)) | exact W_ret (RetP_c rfl rfl rfl (.imm rfl)))
    refine W_cond rfl (fun _ => ?_) (fun h => by cases h)
    have e2 : IntKind.i64.wrap (v + 1) = v + 1 := by rw [IntKind.wrap_i64]; omega
    have e3 : IntKind.i64.wrap (0 - (v + 1)) = 0 - (v + 1) := by rw [IntKind.wrap_i64]; omega
    have e4 : IntKind.u64.wrap (0 - (v + 1)) = (n : Int) := by rw [IntKind.wrap_u64]; omega
    have e5 : (0 - (v + 1)) = (n : Int) := by omega
    clear hll
    repeat (first | (refine W_seq ?_) | (refine W_reg ?_) | (refine W_regd ?_) | (refine W_block ?_) | (refine And.intro (by omega) ?_) | simp (maxSteps := 1000000) (disch := omega) only [cA, cB, lk, lkH, Dst.onT, Dst.onX, Dst.slot, setF, setH, mapF, mapH, initF, binE, unE, cnt, boundE, newsE, freshE, opE, rmH, blkQ, frz_us, Nat.reduceEqDiff, Nat.reduceLT, Nat.reduceAdd, ↓reduceIte, reduceCtorEq, Nat.reduceLeDiff, I, cS, nbsFromInt, d1, e5, us_rfd, us1L] | (refine callC_pure (cf) rfl ?_) | (refine callC_pure (ca) rfl ?_) | (refine callC_pure (cs) rfl ?_) | exact W_ret (RetP_1 (.imm rfl)) | exact W_ret (RetP_c rfl rfl rfl (.imm rfl)))
  · have d1 : decide (v < 0) = false := decide_eq_false hv
    obtain ⟨n, hn⟩ : ∃ n : Nat, v = (n : Int) := ⟨v.natAbs, by omega⟩
    have cf := rFromUint_calls n (by omega)
    have cs := s_signed_calls false n
    rw [show sgn false n = v by unfold sgn; rw [if_neg (by simp), hn]] at cs
    have e1 : IntKind.u64.wrap v = (n : Int) := by rw [IntKind.wrap_u64]; omega
    repeat (first | (refine W_seq ?_) | (refine W_reg ?_) | (refine W_regd ?_) | (refine W_block ?_) | (refine And.intro (by omega) ?_) | simp (maxSteps := 1000000) (disch := omega) only [cA, cB, lk, lkH, Dst.onT, Dst.onX, Dst.slot, setF, setH, mapF, mapH, initF, binE, unE, cnt, boundE, newsE, freshE, opE, rmH, blkQ, frz_us, Nat.reduceEqDiff, Nat.reduceLT, Nat.reduceAdd, ↓reduceIte, reduceCtorEq, Nat.reduceLeDiff, I, cS, nbsFromInt, d1] | (refine callC_pure (cf) rfl ?_) | (refine callC_pure (cs) rfl ?_) | exact W_ret (RetP_1 (.imm rfl)) | exact W_ret (RetP_c rfl rfl rfl (.imm rfl)))
    refine W_cond rfl (fun h => by cases h) (fun _ => W_skip ?_)
    repeat (first | (refine W_seq ?_) | (refine W_reg ?_) | (refine W_regd ?_) | (refine W_block ?_) | (refine And.intro (by omega) ?_) | simp (maxSteps := 1000000) (disch := omega) only [cA, cB, lk, lkH, Dst.onT, Dst.onX, Dst.slot, setF, setH, mapF, mapH, initF, binE, unE, cnt, boundE, newsE, freshE, opE, rmH, blkQ, frz_us, Nat.reduceEqDiff, Nat.reduceLT, Nat.reduceAdd, ↓reduceIte, reduceCtorEq, Nat.reduceLeDiff, I, cS, nbsFromInt, d1, e1] | (refine callC_pure (cf) rfl ?_) | (refine callC_pure (cs) rfl ?_) | exact W_ret (RetP_1 (.imm rfl)) | exact W_ret (RetP_c rfl rfl rfl (.imm rfl)))
end Go.Proofs.YteiagmmfapbaiaaGreatDoor
namespace Go.Proofs.YteiagmmfapbaiaaGreatDoor
open Go Go.Dat Go.Proofs Nat32
def pw (x : Nat) (k : Int) : Nat := if k < 0 ∨ 64 < k then 0 else x ^ k.toNat
theorem nPower_calls (a : List Nat) (k : Int) (ha : a.length ≤ 100) (la : lim a) : PCalls Tryz.prog 129 [.sl 1 (us a), .int .i64 k] (.sl 1 (us (limbs (pw (vn a) k)))) := by
  have l1 := vn_len la
  refine PCalls_of isnPower (by simp [fnnPower]) ?_
  unfold codenPower pw
  by_cases h0 : k < 0
  · have d0 : decide (k < 0) = true := decide_eq_true h0
    rw [if_pos (.inl h0), limbs_zero]
    repeat (first | (refine W_seq ?_) | (refine W_reg ?_) | (refine W_regd ?_) | (refine W_block ?_) | (refine And.intro (by omega) ?_) | simp (maxSteps := 1000000) (disch := omega) only [cA, cB, lk, lkH, Dst.onT, Dst.onX, Dst.slot, setF, setH, mapF, mapH, initF, binE, unE, cnt, boundE, newsE, freshE, opE, rmH, blkQ, frz_us, Nat.reduceEqDiff, Nat.reduceLT, Nat.reduceAdd, ↓reduceIte, reduceCtorEq, Nat.reduceLeDiff, d0])
    refine W_cond rfl (fun _ => ?_) (fun h => by cases h)
    repeat (first | (refine W_seq ?_) | (refine W_reg ?_) | (refine W_regd ?_) | (refine W_block ?_) | (refine And.intro (by omega) ?_) | simp (maxSteps := 1000000) (disch := omega) only [cA, cB, lk, lkH, Dst.onT, Dst.onX, Dst.slot, setF, setH, mapF, mapH, initF, binE, unE, cnt, boundE, newsE, freshE, opE, rmH, blkQ, frz_us, Nat.reduceEqDiff, Nat.reduceLT, Nat.reduceAdd, ↓reduceIte, reduceCtorEq, Nat.reduceLeDiff])
    exact W_ret (RetP_1 (.nils 1))
  · have d0 : decide (k < 0) = false := decide_eq_false h0
    by_cases h64 : 64 < k
    · have d1 : decide (64 < k) = true := decide_eq_true h64
      rw [if_pos (.inr h64), limbs_zero]
      repeat (first | (refine W_seq ?_) | (refine W_reg ?_) | (refine W_regd ?_) | (refine W_block ?_) | (refine And.intro (by omega) ?_) | simp (maxSteps := 1000000) (disch := omega) only [cA, cB, lk, lkH, Dst.onT, Dst.onX, Dst.slot, setF, setH, mapF, mapH, initF, binE, unE, cnt, boundE, newsE, freshE, opE, rmH, blkQ, frz_us, Nat.reduceEqDiff, Nat.reduceLT, Nat.reduceAdd, ↓reduceIte, reduceCtorEq, Nat.reduceLeDiff, d0, d1])
      refine W_cond rfl (fun _ => ?_) (fun h => by cases h)
      repeat (first | (refine W_seq ?_) | (refine W_reg ?_) | (refine W_regd ?_) | (refine W_block ?_) | (refine And.intro (by omega) ?_) | simp (maxSteps := 1000000) (disch := omega) only [cA, cB, lk, lkH, Dst.onT, Dst.onX, Dst.slot, setF, setH, mapF, mapH, initF, binE, unE, cnt, boundE, newsE, freshE, opE, rmH, blkQ, frz_us, Nat.reduceEqDiff, Nat.reduceLT, Nat.reduceAdd, ↓reduceIte, reduceCtorEq, Nat.reduceLeDiff])
      exact W_ret (RetP_1 (.nils 1))
    · have d1 : decide (64 < k) = false := decide_eq_false h64
      rw [if_neg (by omega)]
      obtain ⟨n, rfl⟩ : ∃ n : Nat, k = n := ⟨k.toNat, by omega⟩
      have hn : n ≤ 64 := by omega
      rw [Int.toNat_natCast]
      repeat (first | (refine W_seq ?_) | (refine W_reg ?_) | (refine W_regd ?_) | (refine W_block ?_) | (refine And.intro (by omega) ?_) | simp (maxSteps := 1000000) (disch := omega) only [cA, cB, lk, lkH, Dst.onT, Dst.onX, Dst.slot, setF, setH, mapF, mapH, initF, binE, unE, cnt, boundE, newsE, freshE, opE, rmH, blkQ, frz_us, Nat.reduceEqDiff, Nat.reduceLT, Nat.reduceAdd, ↓reduceIte, reduceCtorEq, Nat.reduceLeDiff, d0, d1])
      refine W_cond rfl (fun h => by cases h) (fun _ => W_skip ?_)
      clear d0 d1 h0 h64
      repeat (first | (refine W_seq ?_) | (refine W_reg ?_) | (refine W_regd ?_) | (refine W_block ?_) | (refine And.intro (by omega) ?_) | simp (maxSteps := 1000000) (disch := omega) only [cA, cB, lk, lkH, Dst.onT, Dst.onX, Dst.slot, setF, setH, mapF, mapH, initF, binE, unE, cnt, boundE, newsE, freshE, opE, rmH, blkQ, frz_us, Nat.reduceEqDiff, Nat.reduceLT, Nat.reduceAdd, ↓reduceIte, reduceCtorEq, Nat.reduceLeDiff, us_rfd, us1L])
      refine W_loop (σ := Nat) (fun i => [(0, .sl 1 (us a)), (5, .sl 1 (us (limbs (vn a ^ i)))), (13, .int .i64 n), (14, .int .i64 i)]) (fun _ => []) (fun i => i ≤ n) (fun i => n - i) 0 (Nat.zero_le _) ?_ rfl ?_
      · simp [subF, lk]
      · rintro i hi
        have lp := len_pow (show (limbs (vn a)).length ≤ 100 by omega) i
        have cm := nMul_calls (limbs (vn a ^ i)) a (by omega) (by omega) (lim_limbs _) la
        rw [vn_limbs, ← Nat.pow_succ] at cm
        repeat (first | (refine W_seq ?_) | (refine W_reg ?_) | (refine W_regd ?_) | (refine W_block ?_) | (refine And.intro (by omega) ?_) | simp (maxSteps := 1000000) (disch := omega) only [cA, cB, lk, lkH, Dst.onT, Dst.onX, Dst.slot, setF, setH, mapF, mapH, initF, binE, unE, cnt, boundE, newsE, freshE, opE, rmH, blkQ, frz_us, Nat.reduceEqDiff, Nat.reduceLT, Nat.reduceAdd, ↓reduceIte, reduceCtorEq, Nat.reduceLeDiff])
        refine W_cond rfl (fun h => W_skip ?_) (fun h => W_exit ?_)
        · have h := of_decide_eq_true h
          repeat (first | (refine W_seq ?_) | (refine W_reg ?_) | (refine W_regd ?_) | (refine W_block ?_) | (refine And.intro (by omega) ?_) | simp (maxSteps := 1000000) (disch := omega) only [cA, cB, lk, lkH, Dst.onT, Dst.onX, Dst.slot, setF, setH, mapF, mapH, initF, binE, unE, cnt, boundE, newsE, freshE, opE, rmH, blkQ, frz_us, Nat.reduceEqDiff, Nat.reduceLT, Nat.reduceAdd, ↓reduceIte, reduceCtorEq, Nat.reduceLeDiff])
          refine callC_pure cm rfl ?_
          repeat (first | (refine W_seq ?_) | (refine W_reg ?_) | (refine W_regd ?_) | (refine W_block ?_) | (refine And.intro (by omega) ?_) | simp (maxSteps := 1000000) (disch := omega) only [cA, cB, lk, lkH, Dst.onT, Dst.onX, Dst.slot, setF, setH, mapF, mapH, initF, binE, unE, cnt, boundE, newsE, freshE, opE, rmH, blkQ, frz_us, Nat.reduceEqDiff, Nat.reduceLT, Nat.reduceAdd, ↓reduceIte, reduceCtorEq, Nat.reduceLeDiff])
          refine ⟨i + 1, by omega, by omega, by simp [subF, lk]⟩
        · have h := of_decide_eq_false h
          have : i = n := by omega
          subst this
          repeat (first | (refine W_seq ?_) | (refine W_reg ?_) | (refine W_regd ?_) | (refine W_block ?_) | (refine And.intro (by omega) ?_) | simp (maxSteps := 1000000) (disch := omega) only [cA, cB, lk, lkH, Dst.onT, Dst.onX, Dst.slot, setF, setH, mapF, mapH, initF, binE, unE, cnt, boundE, newsE, freshE, opE, rmH, blkQ, frz_us, Nat.reduceEqDiff, Nat.reduceLT, Nat.reduceAdd, ↓reduceIte, reduceCtorEq, Nat.reduceLeDiff])
          exact W_ret (RetP_1 (.imm rfl))
theorem rPower_calls (a : List Nat) (k : Int) (ha : a.length ≤ 100) (la : lim a) : PCalls Tryz.prog 44 [.sl 1 (us a), .int .i64 k] (.sl 1 (us (limbs (pw (vn a) k)))) := by
  have l1 := vn_len la
  refine PCalls_of isrPower (by simp [fnrPower]) ?_
  unfold coderPower pw
  by_cases h0 : k < 0
  · have d0 : decide (k < 0) = true := decide_eq_true h0
    rw [if_pos (.inl h0), limbs_zero]
    repeat (first | (refine W_seq ?_) | (refine W_reg ?_) | (refine W_regd ?_) | (refine W_block ?_) | (refine And.intro (by omega) ?_) | simp (maxSteps := 1000000) (disch := omega) only [cA, cB, lk, lkH, Dst.onT, Dst.onX, Dst.slot, setF, setH, mapF, mapH, initF, binE, unE, cnt, boundE, newsE, freshE, opE, rmH, blkQ, frz_us, Nat.reduceEqDiff, Nat.reduceLT, Nat.reduceAdd, ↓reduceIte, reduceCtorEq, Nat.reduceLeDiff, d0])
    refine W_cond rfl (fun _ => ?_) (fun h => by cases h)
    repeat (first | (refine W_seq ?_) | (refine W_reg ?_) | (refine W_regd ?_) | (refine W_block ?_) | (refine And.intro (by omega) ?_) | simp (maxSteps := 1000000) (disch := omega) only [cA, cB, lk, lkH, Dst.onT, Dst.onX, Dst.slot, setF, setH, mapF, mapH, initF, binE, unE, cnt, boundE, newsE, freshE, opE, rmH, blkQ, frz_us, Nat.reduceEqDiff, Nat.reduceLT, Nat.reduceAdd, ↓reduceIte, reduceCtorEq, Nat.reduceLeDiff])
    exact W_ret (RetP_1 (.nils 1))
  · have d0 : decide (k < 0) = false := decide_eq_false h0
    by_cases h64 : 64 < k
    · have d1 : decide (64 < k) = true := decide_eq_true h64
      rw [if_pos (.inr h64), limbs_zero]
      repeat (first | (refine W_seq ?_) | (refine W_reg ?_) | (refine W_regd ?_) | (refine W_block ?_) | (refine And.intro (by omega) ?_) | simp (maxSteps := 1000000) (disch := omega) only [cA, cB, lk, lkH, Dst.onT, Dst.onX, Dst.slot, setF, setH, mapF, mapH, initF, binE, unE, cnt, boundE, newsE, freshE, opE, rmH, blkQ, frz_us, Nat.reduceEqDiff, Nat.reduceLT, Nat.reduceAdd, ↓reduceIte, reduceCtorEq, Nat.reduceLeDiff, d0, d1])
      refine W_cond rfl (fun _ => ?_) (fun h => by cases h)
      repeat (first | (refine W_seq ?_) | (refine W_reg ?_) | (refine W_regd ?_) | (refine W_block ?_) | (refine And.intro (by omega) ?_) | simp (maxSteps := 1000000) (disch := omega) only [cA, cB, lk, lkH, Dst.onT, Dst.onX, Dst.slot, setF, setH, mapF, mapH, initF, binE, unE, cnt, boundE, newsE, freshE, opE, rmH, blkQ, frz_us, Nat.reduceEqDiff, Nat.reduceLT, Nat.reduceAdd, ↓reduceIte, reduceCtorEq, Nat.reduceLeDiff])
      exact W_ret (RetP_1 (.nils 1))
    · have d1 : decide (64 < k) = false := decide_eq_false h64
      rw [if_neg (by omega)]
      obtain ⟨n, rfl⟩ : ∃ n : Nat, k = n := ⟨k.toNat, by omega⟩
      have hn : n ≤ 64 := by omega
      rw [Int.toNat_natCast]
      repeat (first | (refine W_seq ?_) | (refine W_reg ?_) | (refine W_regd ?_) | (refine W_block ?_) | (refine And.intro (by omega) ?_) | simp (maxSteps := 1000000) (disch := omega) only [cA, cB, lk, lkH, Dst.onT, Dst.onX, Dst.slot, setF, setH, mapF, mapH, initF, binE, unE, cnt, boundE, newsE, freshE, opE, rmH, blkQ, frz_us, Nat.reduceEqDiff, Nat.reduceLT, Nat.reduceAdd, ↓reduceIte, reduceCtorEq, Nat.reduceLeDiff, d0, d1])
      refine W_cond rfl (fun h => by cases h) (fun _ => W_skip ?_)
      clear d0 d1 h0 h64
      repeat (first | (refine W_seq ?_) | (refine W_reg ?_) | (refine W_regd ?_) | (refine W_block ?_) | (refine And.intro (by omega) ?_) | simp (maxSteps := 1000000) (disch := omega) only [cA, cB, lk, lkH, Dst.onT, Dst.onX, Dst.slot, setF, setH, mapF, mapH, initF, binE, unE, cnt, boundE, newsE, freshE, opE, rmH, blkQ, frz_us, Nat.reduceEqDiff, Nat.reduceLT, Nat.reduceAdd, ↓reduceIte, reduceCtorEq, Nat.reduceLeDiff, us_rfd, us1L])
      refine W_loop (σ := Nat) (fun i => [(0, .sl 1 (us a)), (1, .int .i64 n), (5, .sl 1 (us (limbs (vn a ^ i)))), (6, .int .i64 i)]) (fun _ => []) (fun i => i ≤ n) (fun i => n - i) 0 (Nat.zero_le _) ?_ rfl ?_
      · simp [subF, lk]
      · rintro i hi
        have lp := len_pow (show (limbs (vn a)).length ≤ 100 by omega) i
        have cm := rMul_calls (limbs (vn a ^ i)) a (by omega) (by omega) (lim_limbs _) la
        rw [vn_limbs, ← Nat.pow_succ] at cm
        repeat (first | (refine W_seq ?_) | (refine W_reg ?_) | (refine W_regd ?_) | (refine W_block ?_) | (refine And.intro (by omega) ?_) | simp (maxSteps := 1000000) (disch := omega) only [cA, cB, lk, lkH, Dst.onT, Dst.onX, Dst.slot, setF, setH, mapF, mapH, initF, binE, unE, cnt, boundE, newsE, freshE, opE, rmH, blkQ, frz_us, Nat.reduceEqDiff, Nat.reduceLT, Nat.reduceAdd, ↓reduceIte, reduceCtorEq, Nat.reduceLeDiff])
        refine W_cond rfl (fun h => W_skip ?_) (fun h => W_exit ?_)
        · have h := of_decide_eq_true h
          repeat (first | (refine W_seq ?_) | (refine W_reg ?_) | (refine W_regd ?_) | (refine W_block ?_) | (refine And.intro (by omega) ?_) | simp (maxSteps := 1000000) (disch := omega) only [cA, cB, lk, lkH, Dst.onT, Dst.onX, Dst.slot, setF, setH, mapF, mapH, initF, binE, unE, cnt, boundE, newsE, freshE, opE, rmH, blkQ, frz_us, Nat.reduceEqDiff, Nat.reduceLT, Nat.reduceAdd, ↓reduceIte, reduceCtorEq, Nat.reduceLeDiff])
          refine callC_pure cm rfl ?_
          repeat (first | (refine W_seq ?_) | (refine W_reg ?_) | (refine W_regd ?_) | (refine W_block ?_) | (refine And.intro (by omega) ?_) | simp (maxSteps := 1000000) (disch := omega) only [cA, cB, lk, lkH, Dst.onT, Dst.onX, Dst.slot, setF, setH, mapF, mapH, initF, binE, unE, cnt, boundE, newsE, freshE, opE, rmH, blkQ, frz_us, Nat.reduceEqDiff, Nat.reduceLT, Nat.reduceAdd, ↓reduceIte, reduceCtorEq, Nat.reduceLeDiff])
          refine ⟨i + 1, by omega, by omega, by simp [subF, lk]⟩
        · have h := of_decide_eq_false h
          have : i = n := by omega
          subst this
          repeat (first | (refine W_seq ?_) | (refine W_reg ?_) | (refine W_regd ?_) | (refine W_block ?_) | (refine And.intro (by omega) ?_) | simp (maxSteps := 1000000) (disch := omega) only [cA, cB, lk, lkH, Dst.onT, Dst.onX, Dst.slot, setF, setH, mapF, mapH, initF, binE, unE, cnt, boundE, newsE, freshE, opE, rmH, blkQ, frz_us, Nat.reduceEqDiff, Nat.reduceLT, Nat.reduceAdd, ↓reduceIte, reduceCtorEq, Nat.reduceLeDiff])
          exact W_ret (RetP_1 (.imm rfl))
end Go.Proofs.YteiagmmfapbaiaaGreatDoor
namespace Go.Proofs.YteiagmmfapbaiaaGreatDoor
open Go Go.Dat Go.Proofs Nat32
def il (z : Int) : Nat := (limbs z.natAbs).length
theorem il_add {x y : Int} {m : Nat} (h1 : il x ≤ m) (h2 : il y ≤ m) : il (x + y) ≤ m + 1 := Nat.le_trans (len_mono (show _ ≤ x.natAbs + y.natAbs by omega)) (len_add h1 h2)
theorem il_neg (x : Int) : il (-x) = il x := by unfold il; rw [Int.natAbs_neg]
theorem il_mul {x y : Int} {m n : Nat} (h1 : il x ≤ m) (h2 : il y ≤ n) : il (x * y) ≤ m + n := by unfold il; rw [Int.natAbs_mul]; exact len_mul h1 h2
theorem iAddL (x y : Int) (h1 : il x ≤ 9000) (h2 : il y ≤ 9000) : PCalls Tryz.prog 57 [I x, I y] (I (x + y)) := by
  have := iAdd_calls (decide (x < 0)) (limbs x.natAbs) (decide (y < 0)) (limbs y.natAbs) (Nat.le_trans h1 (by decide)) (Nat.le_trans h2 (by decide)) (lim_limbs _) (lim_limbs _)
  rwa [iv_I, iv_I] at this
theorem iMulL (x y : Int) (h1 : il x ≤ 9000) (h2 : il y ≤ 9000) : PCalls Tryz.prog 95 [I x, I y] (I (x * y)) := by
  have := iMul_calls (decide (x < 0)) (limbs x.natAbs) (decide (y < 0)) (limbs y.natAbs) (Nat.le_trans h1 (by decide)) (Nat.le_trans h2 (by decide)) (lim_limbs _) (lim_limbs _)
  rwa [iv_I, iv_I] at this
theorem iNegL (x : Int) (h1 : il x ≤ 9000) : PCalls Tryz.prog 55 [I x] (I (-x)) := by
  have := iNeg_calls (decide (x < 0)) (limbs x.natAbs) (Nat.le_trans h1 (by decide)) (lim_limbs _)
  rwa [iv_I] at this
theorem iSignL (x : Int) (h1 : il x ≤ 9000) : PCalls Tryz.prog 54 [I x] (.int .i64 x.sign) := by
  have := iSign_calls (decide (x < 0)) (limbs x.natAbs) (Nat.le_trans h1 (by decide)) (lim_limbs _)
  rwa [iv_I] at this
theorem iCompareL (x y : Int) (h1 : il x ≤ 9000) (h2 : il y ≤ 9000) : PCalls Tryz.prog 96 [I x, I y] (.int .i64 (cmpI x y)) := by
  have := iCompare_calls (decide (x < 0)) (limbs x.natAbs) (decide (y < 0)) (limbs y.natAbs) (Nat.le_trans h1 (by decide)) (Nat.le_trans h2 (by decide)) (lim_limbs _) (lim_limbs _)
  rwa [iv_I, iv_I] at this
end Go.Proofs.YteiagmmfapbaiaaGreatDoor
namespace Go.Proofs.YteiagmmfapbaiaaGreatDoor
open Go Go.Dat Go.Proofs
noncomputable def fnlq_awake : FnD := ⟨Tryz.prog, [0, 1, 2, 3, 4], [], 37, 0, false⟩
def codelq_awake : DC := (.seq (.reg [⟨(.x 0), .mv (.c (.bool false)), none⟩]) (.seq (.reg [⟨(.t 6), .bsl 1 [(.int .u32 0)] [(0, 1, (.c (.int .u32 6)))], none⟩,⟨(.t 7), .build [(.bool false), .nils] [(1, 1, (.t 6))], none⟩,⟨(.t 8), .bsl 1 [(.int .u32 0)] [(0, 1, (.c (.int .u32 4)))], none⟩,⟨(.t 9), .build [(.bool false), .nils] [(0, 1, (.c (.bool true))), (1, 1, (.t 8))], none⟩,⟨(.t 10), .call 14 [(.t 7), (.t 9)], none⟩,⟨(.t 5), .mv (.t 10), none⟩,⟨(.t 11), .ext (.t 5) 0, none⟩,⟨(.t 12), .ext (.t 5) 1, none⟩,⟨(.x 1), .alloc [(.bool false), .nils, .nils], none⟩,⟨.no, .stn 3 (.x 1) (.t 11), none⟩,⟨(.x 2), .mv (.t 12), none⟩]) (.seq (.reg [⟨(.t 14), .call 18 [(.c (.str [49, 46, 50, 53, 48, 101, 45, 49]))], none⟩,⟨(.t 13), .mv (.t 14), none⟩,⟨(.t 15), .ext (.t 13) 0, none⟩,⟨(.t 16), .ext (.t 13) 1, none⟩,⟨(.x 3), .alloc [(.bool false), .nils, .nils], none⟩,⟨.no, .stn 3 (.x 3) (.t 15), none⟩,⟨(.x 4), .mv (.t 16), none⟩]) (.seq (.reg [⟨(.t 17), .mv (.x 2), none⟩,⟨(.t 18), .bin .eql (.t 17) (.c (.int .i64 0)), none⟩,⟨(.t 19), .mv (.t 18), none⟩,⟨(.t 20), .mv (.x 4), (some ((.t 19), true))⟩,⟨(.t 21), .pick (.t 19) (.t 20) (.c (.bool false)), none⟩,⟨(.t 22), .mv (.t 21), none⟩,⟨(.t 23), .ldn 3 (.x 1), (some ((.t 22), true))⟩,⟨(.t 24), .call 20 [(.t 23)], (some ((.t 22), true))⟩,⟨(.t 25), .bin .eql (.t 24) (.c (.str [45, 51, 47, 50])), (some ((.t 22), true))⟩,⟨(.t 26), .pick (.t 22) (.t 25) (.c (.bool false)), none⟩,⟨(.t 27), .mv (.t 26), none⟩,⟨(.t 28), .ldn 3 (.x 3), (some ((.t 27), true))⟩,⟨(.t 29), .call 20 [(.t 28)], (some ((.t 27), true))⟩,⟨(.t 30), .bin .eql (.t 29) (.c (.str [49, 47, 56])), (some ((.t 27), true))⟩,⟨(.t 31), .pick (.t 27) (.t 30) (.c (.bool false)), none⟩,⟨(.t 32), .mv (.t 31), none⟩,⟨(.t 33), .ldn 3 (.x 3), (some ((.t 32), true))⟩,⟨(.t 34), .call 22 [(.t 33), (.c (.int .i64 2))], (some ((.t 32), true))⟩,⟨(.t 35), .bin .eql (.t 34) (.c (.str [48, 46, 49, 50])), (some ((.t 32), true))⟩,⟨(.t 36), .pick (.t 32) (.t 35) (.c (.bool false)), none⟩,⟨(.x 0), .mv (.t 36), none⟩]) .ret))))
def reslq_awake : List RV := [.t 0]
theorem nblq_awake : fnlq_awake.nb = 0 := rfl
theorem islq_awake : IsFn fnlq_awake 13 codelq_awake reslq_awake := ⟨⟨Tryz.f13, _, Tryz.func13, rfl, rfl, by kernel_rfl, by kernel_rfl, by kernel_rfl⟩⟩
noncomputable def fnqMake : FnD := ⟨Tryz.prog, [0, 1, 2, 3, 4, 5, 8, 12], [], 21, 0, false⟩
def codeqMake : DC := (.seq (.reg [⟨(.x 2), .box (.x 0), none⟩,⟨(.x 3), .box (.x 1), none⟩,⟨(.x 4), .alloc [(.bool false), .nils, .nils], none⟩,⟨(.x 5), .mv (.c (.int .i64 0)), none⟩]) (.seq (.seq (.reg [⟨(.t 6), .ldn 2 (.x 3), none⟩,⟨(.t 7), .call 54 [(.t 6)], none⟩,⟨(.x 8), .bin .eql (.t 7) (.c (.int .i64 0)), none⟩]) (.cond (.x 8) (.seq (.reg [⟨(.t 9), .build [(.bool false), .nils, .nils] [], none⟩,⟨.no, .stn 3 (.x 4) (.t 9), none⟩,⟨(.x 5), .mv (.c (.int .i64 5)), none⟩]) .ret) .skip)) (.seq (.seq (.reg [⟨(.t 10), .ldn 2 (.x 3), none⟩,⟨(.t 11), .call 54 [(.t 10)], none⟩,⟨(.x 12), .bin .lss (.t 11) (.c (.int .i64 0)), none⟩]) (.cond (.x 12) (.reg [⟨(.t 13), .ldn 2 (.x 2), none⟩,⟨(.t 14), .call 55 [(.t 13)], none⟩,⟨.no, .stn 2 (.x 2) (.t 14), none⟩]) .skip)) (.seq (.regd [⟨(.t 15), .ldn 2 (.x 2), none⟩,⟨(.t 16), .build [(.bool false), .nils] [], none⟩,⟨(.t 17), .call 57 [(.t 15), (.t 16)], none⟩,⟨(.t 18), .fad 1 (.x 3), none⟩,⟨(.t 19), .ld (.t 18), none⟩,⟨(.t 20), .call 56 [(.t 17), (.t 19)], none⟩,⟨.no, .stn 3 (.x 4) (.t 20), none⟩,⟨(.x 5), .mv (.c (.int .i64 0)), none⟩]) .ret))))
def resqMake : List RV := [.cn 3 4, .t 5]
theorem nbqMake : fnqMake.nb = 0 := rfl
theorem isqMake : IsFn fnqMake 14 codeqMake resqMake := ⟨⟨Tryz.f14, _, Tryz.func14, rfl, rfl, by kernel_rfl, by kernel_rfl, by kernel_rfl⟩⟩
noncomputable def fnpMake : FnD := ⟨Tryz.prog, [0, 1, 2, 3, 4, 5, 8], [], 15, 0, false⟩
def codepMake : DC := (.seq (.reg [⟨(.x 2), .box (.x 0), none⟩,⟨(.x 3), .box (.x 1), none⟩,⟨(.x 4), .alloc [(.bool false), .nils, .nils], none⟩,⟨(.x 5), .mv (.c (.int .i64 0)), none⟩]) (.seq (.seq (.reg [⟨(.t 6), .ldn 2 (.x 3), none⟩,⟨(.t 7), .call 24 [(.t 6)], none⟩,⟨(.x 8), .bin .eql (.t 7) (.c (.int .i64 0)), none⟩]) (.cond (.x 8) (.seq (.reg [⟨(.t 9), .build [(.bool false), .nils, .nils] [], none⟩,⟨.no, .stn 3 (.x 4) (.t 9), none⟩,⟨(.x 5), .mv (.c (.int .i64 5)), none⟩]) .ret) .skip)) (.seq (.regd [⟨(.t 10), .ldn 2 (.x 2), none⟩,⟨(.t 11), .call 28 [(.t 10)], none⟩,⟨(.t 12), .ldn 2 (.x 3), none⟩,⟨(.t 13), .call 28 [(.t 12)], none⟩,⟨(.t 14), .call 58 [(.t 11), (.t 13)], none⟩,⟨.no, .stn 3 (.x 4) (.t 14), none⟩,⟨(.x 5), .mv (.c (.int .i64 0)), none⟩]) .ret)))
def respMake : List RV := [.cn 3 4, .t 5]
theorem nbpMake : fnpMake.nb = 0 := rfl
theorem ispMake : IsFn fnpMake 15 codepMake respMake := ⟨⟨Tryz.f15, _, Tryz.func15, rfl, rfl, by kernel_rfl, by kernel_rfl, by kernel_rfl⟩⟩
noncomputable def fnpSame : FnD := ⟨Tryz.prog, [0, 1, 2, 3, 4], [], 17, 0, false⟩
def codepSame : DC := (.seq (.reg [⟨(.x 2), .box (.x 0), none⟩,⟨(.x 3), .box (.x 1), none⟩,⟨(.x 4), .mv (.c (.bool false)), none⟩]) (.seq (.reg [⟨(.t 5), .fad 0 (.x 2), none⟩,⟨(.t 6), .ldn 2 (.t 5), none⟩,⟨(.t 7), .fad 0 (.x 3), none⟩,⟨(.t 8), .ldn 2 (.t 7), none⟩,⟨(.t 9), .call 27 [(.t 6), (.t 8)], none⟩,⟨(.t 10), .mv (.t 9), none⟩,⟨(.t 11), .fad 2 (.x 2), (some ((.t 10), true))⟩,⟨(.t 12), .ld (.t 11), (some ((.t 10), true))⟩,⟨(.t 13), .fad 2 (.x 3), (some ((.t 10), true))⟩,⟨(.t 14), .ld (.t 13), (some ((.t 10), true))⟩,⟨(.t 15), .call 59 [(.t 12), (.t 14)], (some ((.t 10), true))⟩,⟨(.t 16), .pick (.t 10) (.t 15) (.c (.bool false)), none⟩,⟨(.x 4), .mv (.t 16), none⟩]) .ret))
def respSame : List RV := [.t 4]
theorem nbpSame : fnpSame.nb = 0 := rfl
theorem ispSame : IsFn fnpSame 16 codepSame respSame := ⟨⟨Tryz.f16, _, Tryz.func16, rfl, rfl, by kernel_rfl, by kernel_rfl, by kernel_rfl⟩⟩
noncomputable def fnmdLight : FnD := ⟨Tryz.prog, [0, 1, 2], [], 14, 0, false⟩
def codemdLight : DC := (.seq (.reg [⟨(.x 1), .box (.x 0), none⟩,⟨(.x 2), .mv (.c (.bool false)), none⟩]) (.seq (.reg [⟨(.t 3), .fad 0 (.x 1), none⟩,⟨(.t 4), .fad 1 (.t 3), none⟩,⟨(.t 5), .ld (.t 4), none⟩,⟨(.t 6), .len 1 (.t 5), none⟩,⟨(.t 7), .bin .leq (.t 6) (.c (.int .i64 8)), none⟩,⟨(.t 8), .mv (.t 7), none⟩,⟨(.t 9), .fad 2 (.x 1), (some ((.t 8), true))⟩,⟨(.t 10), .ld (.t 9), (some ((.t 8), true))⟩,⟨(.t 11), .len 1 (.t 10), (some ((.t 8), true))⟩,⟨(.t 12), .bin .leq (.t 11) (.c (.int .i64 8)), (some ((.t 8), true))⟩,⟨(.t 13), .pick (.t 8) (.t 12) (.c (.bool false)), none⟩,⟨(.x 2), .mv (.t 13), none⟩]) .ret))
def resmdLight : List RV := [.t 2]
theorem nbmdLight : fnmdLight.nb = 0 := rfl
theorem ismdLight : IsFn fnmdLight 17 codemdLight resmdLight := ⟨⟨Tryz.f17, _, Tryz.func17, rfl, rfl, by kernel_rfl, by kernel_rfl, by kernel_rfl⟩⟩
noncomputable def fnqParse : FnD := ⟨Tryz.prog, [0, 2, 3, 4, 5, 6, 19], [], 31, 0, false⟩
def codeqParse : DC := (.seq (.reg [⟨(.x 2), .alloc [(.bool false), .nils, .nils], none⟩,⟨(.x 3), .mv (.c (.bool false)), none⟩]) (.seq (.reg [⟨(.t 8), .mv (.x 0), none⟩,⟨(.t 9), .call 60 [(.t 8), (.c (.str [45]))], none⟩,⟨(.t 7), .mv (.t 9), none⟩,⟨(.t 10), .ext (.t 7) 0, none⟩,⟨(.t 11), .ext (.t 7) 1, none⟩,⟨(.x 0), .mv (.t 10), none⟩,⟨(.x 4), .mv (.t 11), none⟩]) (.seq (.reg [⟨(.t 13), .mv (.x 0), none⟩,⟨(.t 14), .call 61 [(.t 13)], none⟩,⟨(.t 12), .mv (.t 14), none⟩,⟨(.t 15), .ext (.t 12) 0, none⟩,⟨(.t 16), .ext (.t 12) 1, none⟩,⟨(.t 17), .ext (.t 12) 2, none⟩,⟨(.x 5), .mv (.t 15), none⟩,⟨(.x 6), .mv (.t 16), none⟩,⟨(.x 3), .mv (.t 17), none⟩]) (.seq (.seq (.reg [⟨(.t 18), .mv (.x 3), none⟩,⟨(.x 19), .un .not (.t 18), none⟩]) (.cond (.x 19) (.seq (.reg [⟨(.t 20), .build [(.bool false), .nils, .nils] [], none⟩,⟨.no, .stn 3 (.x 2) (.t 20), none⟩,⟨(.x 3), .mv (.c (.bool false)), none⟩]) .ret) .skip)) (.seq (.reg [⟨(.t 21), .mv (.x 4), none⟩,⟨(.t 22), .mv (.t 21), none⟩,⟨(.t 23), .mv (.x 5), (some ((.t 22), true))⟩,⟨(.t 24), .len 1 (.t 23), (some ((.t 22), true))⟩,⟨(.t 25), .bin .gtr (.t 24) (.c (.int .i64 0)), (some ((.t 22), true))⟩,⟨(.t 26), .pick (.t 22) (.t 25) (.c (.bool false)), none⟩,⟨(.t 27), .mv (.x 5), none⟩,⟨(.t 28), .build [(.bool false), .nils] [(0, 1, (.t 26)), (1, 1, (.t 27))], none⟩,⟨(.t 29), .mv (.x 6), none⟩,⟨(.t 30), .call 56 [(.t 28), (.t 29)], none⟩,⟨.no, .stn 3 (.x 2) (.t 30), none⟩,⟨(.x 3), .mv (.c (.bool true)), none⟩]) .ret)))))
def resqParse : List RV := [.cn 3 2, .t 3]
theorem nbqParse : fnqParse.nb = 0 := rfl
theorem isqParse : IsFn fnqParse 18 codeqParse resqParse := ⟨⟨Tryz.f18, _, Tryz.func18, rfl, rfl, by kernel_rfl, by kernel_rfl, by kernel_rfl⟩⟩
noncomputable def fnqFormat : FnD := ⟨Tryz.prog, [0, 1, 2, 3, 12], [], 20, 0, false⟩
def codeqFormat : DC := (.seq (.reg [⟨(.x 1), .box (.x 0), none⟩,⟨(.x 2), .mv (.c (.str [])), none⟩]) (.seq (.reg [⟨(.t 4), .ldn 3 (.x 1), none⟩,⟨(.t 5), .call 67 [(.t 4)], none⟩,⟨.no, .stn 3 (.x 1) (.t 5), none⟩]) (.seq (.reg [⟨(.t 6), .fad 0 (.x 1), none⟩,⟨(.t 7), .ldn 2 (.t 6), none⟩,⟨(.t 8), .call 68 [(.t 7)], none⟩,⟨(.x 3), .mv (.t 8), none⟩]) (.seq (.seq (.reg [⟨(.t 9), .fad 2 (.x 1), none⟩,⟨(.t 10), .ld (.t 9), none⟩,⟨(.t 11), .len 1 (.t 10), none⟩,⟨(.x 12), .bin .gtr (.t 11) (.c (.int .i64 0)), none⟩]) (.cond (.x 12) (.reg [⟨(.t 13), .mv (.x 3), none⟩,⟨(.t 14), .fad 2 (.x 1), none⟩,⟨(.t 15), .ld (.t 14), none⟩,⟨(.t 16), .call 69 [(.t 15)], none⟩,⟨(.t 17), .bin .add (.c (.str [47])) (.t 16), none⟩,⟨(.t 18), .bin .add (.t 13) (.t 17), none⟩,⟨(.x 3), .mv (.t 18), none⟩]) .skip)) (.seq (.reg [⟨(.t 19), .mv (.x 3), none⟩,⟨(.x 2), .mv (.t 19), none⟩]) .ret)))))
def resqFormat : List RV := [.t 2]
theorem nbqFormat : fnqFormat.nb = 0 := rfl
theorem isqFormat : IsFn fnqFormat 20 codeqFormat resqFormat := ⟨⟨Tryz.f20, _, Tryz.func20, rfl, rfl, by kernel_rfl, by kernel_rfl, by kernel_rfl⟩⟩
noncomputable def fnpFormat : FnD := ⟨Tryz.prog, [0, 1, 2, 8], [], 20, 0, false⟩
def codepFormat : DC := (.seq (.reg [⟨(.x 1), .box (.x 0), none⟩,⟨(.x 2), .mv (.c (.str [])), none⟩]) (.seq (.reg [⟨(.t 3), .ldn 3 (.x 1), none⟩,⟨(.t 4), .call 70 [(.t 3)], none⟩,⟨.no, .stn 3 (.x 1) (.t 4), none⟩]) (.seq (.seq (.reg [⟨(.t 5), .fad 2 (.x 1), none⟩,⟨(.t 6), .ld (.t 5), none⟩,⟨(.t 7), .len 1 (.t 6), none⟩,⟨(.x 8), .bin .eql (.t 7) (.c (.int .i64 0)), none⟩]) (.cond (.x 8) (.seq (.reg [⟨(.t 9), .fad 0 (.x 1), none⟩,⟨(.t 10), .ldn 2 (.t 9), none⟩,⟨(.t 11), .call 71 [(.t 10)], none⟩,⟨(.x 2), .mv (.t 11), none⟩]) .ret) .skip)) (.seq (.regd [⟨(.t 12), .fad 0 (.x 1), none⟩,⟨(.t 13), .ldn 2 (.t 12), none⟩,⟨(.t 14), .call 71 [(.t 13)], none⟩,⟨(.t 15), .bin .add (.t 14) (.c (.str [47])), none⟩,⟨(.t 16), .fad 2 (.x 1), none⟩,⟨(.t 17), .ld (.t 16), none⟩,⟨(.t 18), .call 72 [(.t 17)], none⟩,⟨(.t 19), .bin .add (.t 15) (.t 18), none⟩,⟨(.x 2), .mv (.t 19), none⟩]) .ret))))
def respFormat : List RV := [.t 2]
theorem nbpFormat : fnpFormat.nb = 0 := rfl
theorem ispFormat : IsFn fnpFormat 21 codepFormat respFormat := ⟨⟨Tryz.f21, _, Tryz.func21, rfl, rfl, by kernel_rfl, by kernel_rfl, by kernel_rfl⟩⟩
noncomputable def fnqDecimal : FnD := ⟨Tryz.prog, [0, 1, 2, 4, 5, 6, 8, 9, 10, 16, 55, 67, 73, 95], [], 99, 0, false⟩
def codeqDecimal : DC := (.seq (.reg [⟨(.x 2), .box (.x 0), none⟩,⟨(.x 4), .mv (.c (.str [])), none⟩]) (.seq (.seq (.reg [⟨(.t 11), .mv (.x 1), none⟩,⟨(.t 12), .bin .lss (.t 11) (.c (.int .i64 0)), none⟩,⟨(.t 13), .mv (.t 12), none⟩,⟨(.t 14), .mv (.x 1), (some ((.t 13), false))⟩,⟨(.t 15), .bin .gtr (.t 14) (.c (.int .i64 100)), (some ((.t 13), false))⟩,⟨(.x 16), .pick (.t 13) (.c (.bool true)) (.t 15), none⟩]) (.cond (.x 16) (.seq (.reg [⟨(.x 4), .mv (.c (.str [])), none⟩]) .ret) .skip)) (.seq (.reg [⟨(.t 17), .ldn 3 (.x 2), none⟩,⟨(.t 18), .call 67 [(.t 17)], none⟩,⟨.no, .stn 3 (.x 2) (.t 18), none⟩]) (.seq (.regd [⟨(.t 20), .fad 0 (.x 2), none⟩,⟨(.t 21), .fad 1 (.t 20), none⟩,⟨(.t 22), .ld (.t 21), none⟩,⟨(.t 23), .mv (.x 1), none⟩,⟨(.t 24), .call 75 [(.t 23)], none⟩,⟨(.t 25), .call 74 [(.t 22), (.t 24)], none⟩,⟨(.t 26), .ldn 3 (.x 2), none⟩,⟨(.t 27), .call 76 [(.t 26)], none⟩,⟨(.t 28), .call 73 [(.t 25), (.t 27)], none⟩,⟨(.t 19), .mv (.t 28), none⟩,⟨(.t 29), .ext (.t 19) 0, none⟩,⟨(.t 30), .ext (.t 19) 1, none⟩,⟨(.t 31), .ext (.t 19) 2, none⟩,⟨(.x 5), .mv (.t 29), none⟩,⟨(.x 6), .mv (.t 30), none⟩,⟨(.t 7), .mv (.t 31), none⟩]) (.seq (.regd [⟨(.t 32), .mv (.x 6), none⟩,⟨(.t 33), .mv (.x 6), none⟩,⟨(.t 34), .call 78 [(.t 32), (.t 33)], none⟩,⟨(.t 35), .ldn 3 (.x 2), none⟩,⟨(.t 36), .call 76 [(.t 35)], none⟩,⟨(.t 37), .call 77 [(.t 34), (.t 36)], none⟩,⟨(.x 8), .mv (.t 37), none⟩]) (.seq (.seq (.reg [⟨(.t 38), .mv (.x 8), none⟩,⟨(.t 39), .bin .gtr (.t 38) (.c (.int .i64 0)), none⟩,⟨(.t 40), .mv (.t 39), none⟩,⟨(.t 41), .mv (.x 8), (some ((.t 40), false))⟩,⟨(.t 42), .bin .eql (.t 41) (.c (.int .i64 0)), (some ((.t 40), false))⟩,⟨(.t 43), .mv (.t 42), (some ((.t 40), false))⟩,⟨(.t 44), .mv (.x 5), (some ((.t 43), true))⟩,⟨(.t 45), .len 1 (.t 44), (some ((.t 43), true))⟩,⟨(.t 46), .bin .gtr (.t 45) (.c (.int .i64 0)), (some ((.t 43), true))⟩,⟨(.t 47), .pick (.t 43) (.t 46) (.c (.bool false)), (some ((.t 40), false))⟩,⟨(.t 48), .mv (.t 47), (some ((.t 40), false))⟩,⟨(.t 49), .mv (.x 5), (some ((.t 48), true))⟩,⟨(.t 50), .iad 1 (.t 49) (.c (.int .i64 0)), (some ((.t 48), true))⟩,⟨(.t 51), .ld (.t 50), (some ((.t 48), true))⟩,⟨(.t 52), .bin .rem (.t 51) (.c (.int .u32 2)), (some ((.t 48), true))⟩,⟨(.t 53), .bin .eql (.t 52) (.c (.int .u32 1)), (some ((.t 48), true))⟩,⟨(.t 54), .pick (.t 48) (.t 53) (.c (.bool false)), (some ((.t 40), false))⟩,⟨(.x 55), .pick (.t 40) (.c (.bool true)) (.t 54), none⟩]) (.cond (.x 55) (.reg [⟨(.t 56), .mv (.x 5), none⟩,⟨(.t 57), .call 79 [], none⟩,⟨(.t 58), .call 78 [(.t 56), (.t 57)], none⟩,⟨(.x 5), .mv (.t 58), none⟩]) .skip)) (.seq (.reg [⟨(.t 59), .mv (.x 5), none⟩,⟨(.t 60), .call 69 [(.t 59)], none⟩,⟨(.x 9), .mv (.t 60), none⟩]) (.seq (.seq (.reg [⟨(.t 61), .mv (.x 1), none⟩,⟨(.t 62), .bin .add (.t 61) (.c (.int .i64 1)), none⟩,⟨(.t 63), .mv (.x 9), none⟩,⟨(.t 64), .lenS (.t 63), none⟩,⟨(.t 65), .bin .sub (.t 62) (.t 64), none⟩,⟨(.x 10), .mv (.t 65), none⟩]) (.seq (.reg [⟨(.t 66), .mv (.x 10), none⟩,⟨(.x 67), .bin .gtr (.t 66) (.c (.int .i64 0)), none⟩]) (.cond (.x 67) (.reg [⟨(.t 68), .mv (.x 10), none⟩,⟨(.t 69), .call 80 [(.c (.str [48])), (.t 68)], none⟩,⟨(.t 70), .mv (.x 9), none⟩,⟨(.t 71), .bin .add (.t 69) (.t 70), none⟩,⟨(.x 9), .mv (.t 71), none⟩]) .skip))) (.seq (.seq (.reg [⟨(.t 72), .mv (.x 1), none⟩,⟨(.x 73), .bin .gtr (.t 72) (.c (.int .i64 0)), none⟩]) (.cond (.x 73) (.regd [⟨(.t 74), .mv (.x 9), none⟩,⟨(.t 75), .mv (.x 9), none⟩,⟨(.t 76), .lenS (.t 75), none⟩,⟨(.t 77), .mv (.x 1), none⟩,⟨(.t 78), .bin .sub (.t 76) (.t 77), none⟩,⟨(.t 79), .slcS (.t 74) none (some (.t 78)), none⟩,⟨(.t 80), .bin .add (.t 79) (.c (.str [46])), none⟩,⟨(.t 81), .mv (.x 9), none⟩,⟨(.t 82), .mv (.x 9), none⟩,⟨(.t 83), .lenS (.t 82), none⟩,⟨(.t 84), .mv (.x 1), none⟩,⟨(.t 85), .bin .sub (.t 83) (.t 84), none⟩,⟨(.t 86), .slcS (.t 81) (some (.t 85)) none, none⟩,⟨(.t 87), .bin .add (.t 80) (.t 86), none⟩,⟨(.x 9), .mv (.t 87), none⟩]) .skip)) (.seq (.seq (.reg [⟨(.t 88), .fad 0 (.x 2), none⟩,⟨(.t 89), .fad 0 (.t 88), none⟩,⟨(.t 90), .ld (.t 89), none⟩,⟨(.t 91), .mv (.t 90), none⟩,⟨(.t 92), .mv (.x 5), (some ((.t 91), true))⟩,⟨(.t 93), .len 1 (.t 92), (some ((.t 91), true))⟩,⟨(.t 94), .bin .gtr (.t 93) (.c (.int .i64 0)), (some ((.t 91), true))⟩,⟨(.x 95), .pick (.t 91) (.t 94) (.c (.bool false)), none⟩]) (.cond (.x 95) (.reg [⟨(.t 96), .mv (.x 9), none⟩,⟨(.t 97), .bin .add (.c (.str [45])) (.t 96), none⟩,⟨(.x 9), .mv (.t 97), none⟩]) .skip)) (.seq (.reg [⟨(.t 98), .mv (.x 9), none⟩,⟨(.x 4), .mv (.t 98), none⟩]) .ret)))))))))))
def resqDecimal : List RV := [.t 4]
theorem nbqDecimal : fnqDecimal.nb = 0 := rfl
theorem isqDecimal : IsFn fnqDecimal 22 codeqDecimal resqDecimal := ⟨⟨Tryz.f22, _, Tryz.func22, rfl, rfl, by kernel_rfl, by kernel_rfl, by kernel_rfl⟩⟩
noncomputable def fnqValid : FnD := ⟨Tryz.prog, [0, 1, 2, 3, 14, 19], [], 41, 0, false⟩
def codeqValid : DC := (.seq (.reg [⟨(.x 1), .box (.x 0), none⟩,⟨(.x 2), .mv (.c (.bool false)), none⟩]) (.seq (.block 0 (.seq (.reg [⟨(.t 4), .fad 0 (.x 1), none⟩,⟨(.t 5), .ldn 2 (.t 4), none⟩,⟨(.t 6), .call 85 [(.t 5)], none⟩,⟨(.t 7), .un .not (.t 6), none⟩,⟨(.t 8), .mv (.t 7), none⟩,⟨(.t 9), .fad 2 (.x 1), (some ((.t 8), false))⟩,⟨(.t 10), .ld (.t 9), (some ((.t 8), false))⟩,⟨(.t 11), .call 86 [(.t 10)], (some ((.t 8), false))⟩,⟨(.t 12), .un .not (.t 11), (some ((.t 8), false))⟩,⟨(.t 13), .pick (.t 8) (.c (.bool true)) (.t 12), none⟩,⟨(.x 3), .mv (.t 13), none⟩]) (.cond (.x 3) (.seq (.reg [⟨(.x 2), .mv (.c (.bool false)), none⟩]) .ret) (.seq (.reg [⟨(.t 15), .fad 2 (.x 1), none⟩,⟨(.t 16), .ld (.t 15), none⟩,⟨(.t 17), .len 1 (.t 16), none⟩,⟨(.t 18), .bin .eql (.t 17) (.c (.int .i64 0)), none⟩,⟨(.x 14), .mv (.t 18), none⟩]) (.cond (.x 14) (.seq (.reg [⟨(.x 2), .mv (.c (.bool true)), none⟩]) .ret) (.seq (.regd [⟨(.t 20), .fad 0 (.x 1), none⟩,⟨(.t 21), .fad 1 (.t 20), none⟩,⟨(.t 22), .ld (.t 21), none⟩,⟨(.t 23), .len 1 (.t 22), none⟩,⟨(.t 24), .bin .eql (.t 23) (.c (.int .i64 0)), none⟩,⟨(.t 25), .mv (.t 24), none⟩,⟨(.t 26), .fad 2 (.x 1), (some ((.t 25), false))⟩,⟨(.t 27), .ld (.t 26), (some ((.t 25), false))⟩,⟨(.t 28), .call 79 [], (some ((.t 25), false))⟩,⟨(.t 29), .call 77 [(.t 27), (.t 28)], (some ((.t 25), false))⟩,⟨(.t 30), .bin .eql (.t 29) (.c (.int .i64 0)), (some ((.t 25), false))⟩,⟨(.t 31), .pick (.t 25) (.c (.bool true)) (.t 30), none⟩,⟨(.x 19), .mv (.t 31), none⟩]) (.cond (.x 19) (.seq (.reg [⟨(.x 2), .mv (.c (.bool false)), none⟩]) .ret) .skip))))))) (.seq (.reg [⟨(.t 32), .fad 0 (.x 1), none⟩,⟨(.t 33), .fad 1 (.t 32), none⟩,⟨(.t 34), .ld (.t 33), none⟩,⟨(.t 35), .fad 2 (.x 1), none⟩,⟨(.t 36), .ld (.t 35), none⟩,⟨(.t 37), .call 87 [(.t 34), (.t 36)], none⟩,⟨(.t 38), .call 79 [], none⟩,⟨(.t 39), .call 77 [(.t 37), (.t 38)], none⟩,⟨(.t 40), .bin .eql (.t 39) (.c (.int .i64 0)), none⟩,⟨(.x 2), .mv (.t 40), none⟩]) .ret)))
def resqValid : List RV := [.t 2]
theorem nbqValid : fnqValid.nb = 0 := rfl
theorem isqValid : IsFn fnqValid 26 codeqValid resqValid := ⟨⟨Tryz.f26, _, Tryz.func26, rfl, rfl, by kernel_rfl, by kernel_rfl, by kernel_rfl⟩⟩
noncomputable def fnpDen : FnD := ⟨Tryz.prog, [0, 1, 2, 6], [], 13, 0, false⟩
def codepDen : DC := (.seq (.reg [⟨(.x 1), .box (.x 0), none⟩,⟨(.x 2), .alloc [(.bool false), .nils], none⟩]) (.seq (.seq (.reg [⟨(.t 3), .fad 2 (.x 1), none⟩,⟨(.t 4), .ld (.t 3), none⟩,⟨(.t 5), .len 1 (.t 4), none⟩,⟨(.x 6), .bin .eql (.t 5) (.c (.int .i64 0)), none⟩]) (.cond (.x 6) (.seq (.reg [⟨(.t 7), .bsl 1 [(.int .u32 0)] [(0, 1, (.c (.int .u32 1)))], none⟩,⟨(.t 8), .build [(.bool false), .nils] [(1, 1, (.t 7))], none⟩,⟨.no, .stn 2 (.x 2) (.t 8), none⟩]) .ret) .skip)) (.seq (.reg [⟨(.t 9), .fad 2 (.x 1), none⟩,⟨(.t 10), .ld (.t 9), none⟩,⟨(.t 11), .call 89 [(.t 10)], none⟩,⟨(.t 12), .build [(.bool false), .nils] [(1, 1, (.t 11))], none⟩,⟨.no, .stn 2 (.x 2) (.t 12), none⟩]) .ret)))
def respDen : List RV := [.cn 2 2]
theorem nbpDen : fnpDen.nb = 0 := rfl
theorem ispDen : IsFn fnpDen 29 codepDen respDen := ⟨⟨Tryz.f29, _, Tryz.func29, rfl, rfl, by kernel_rfl, by kernel_rfl, by kernel_rfl⟩⟩
noncomputable def fnpValid : FnD := ⟨Tryz.prog, [0, 1, 2, 17], [], 38, 0, false⟩
def codepValid : DC := (.seq (.reg [⟨(.x 1), .box (.x 0), none⟩,⟨(.x 2), .mv (.c (.bool false)), none⟩]) (.seq (.seq (.reg [⟨(.t 3), .fad 0 (.x 1), none⟩,⟨(.t 4), .ldn 2 (.t 3), none⟩,⟨(.t 5), .call 88 [(.t 4)], none⟩,⟨(.t 6), .un .not (.t 5), none⟩,⟨(.t 7), .mv (.t 6), none⟩,⟨(.t 8), .fad 2 (.x 1), (some ((.t 7), false))⟩,⟨(.t 9), .ld (.t 8), (some ((.t 7), false))⟩,⟨(.t 10), .call 90 [(.t 9)], (some ((.t 7), false))⟩,⟨(.t 11), .un .not (.t 10), (some ((.t 7), false))⟩,⟨(.t 12), .pick (.t 7) (.c (.bool true)) (.t 11), none⟩,⟨(.t 13), .mv (.t 12), none⟩,⟨(.t 14), .fad 2 (.x 1), (some ((.t 13), false))⟩,⟨(.t 15), .ld (.t 14), (some ((.t 13), false))⟩,⟨(.t 16), .call 91 [(.t 15)], (some ((.t 13), false))⟩,⟨(.x 17), .pick (.t 13) (.c (.bool true)) (.t 16), none⟩]) (.cond (.x 17) (.seq (.reg [⟨(.x 2), .mv (.c (.bool false)), none⟩]) .ret) .skip)) (.seq (.reg [⟨(.t 18), .fad 2 (.x 1), none⟩,⟨(.t 19), .ld (.t 18), none⟩,⟨(.t 20), .len 1 (.t 19), none⟩,⟨(.t 21), .bin .eql (.t 20) (.c (.int .i64 0)), none⟩,⟨(.t 22), .mv (.t 21), none⟩,⟨(.t 23), .fad 0 (.x 1), (some ((.t 22), false))⟩,⟨(.t 24), .fad 1 (.t 23), (some ((.t 22), false))⟩,⟨(.t 25), .ld (.t 24), (some ((.t 22), false))⟩,⟨(.t 26), .len 1 (.t 25), (some ((.t 22), false))⟩,⟨(.t 27), .bin .gtr (.t 26) (.c (.int .i64 0)), (some ((.t 22), false))⟩,⟨(.t 28), .mv (.t 27), (some ((.t 22), false))⟩,⟨(.t 29), .fad 0 (.x 1), (some ((.t 28), true))⟩,⟨(.t 30), .fad 1 (.t 29), (some ((.t 28), true))⟩,⟨(.t 31), .ld (.t 30), (some ((.t 28), true))⟩,⟨(.t 32), .fad 2 (.x 1), (some ((.t 28), true))⟩,⟨(.t 33), .ld (.t 32), (some ((.t 28), true))⟩,⟨(.t 34), .call 92 [(.t 31), (.t 33)], (some ((.t 28), true))⟩,⟨(.t 35), .call 91 [(.t 34)], (some ((.t 28), true))⟩,⟨(.t 36), .pick (.t 28) (.t 35) (.c (.bool false)), (some ((.t 22), false))⟩,⟨(.t 37), .pick (.t 22) (.c (.bool true)) (.t 36), none⟩,⟨(.x 2), .mv (.t 37), none⟩]) .ret)))
def respValid : List RV := [.t 2]
theorem nbpValid : fnpValid.nb = 0 := rfl
theorem ispValid : IsFn fnpValid 30 codepValid respValid := ⟨⟨Tryz.f30, _, Tryz.func30, rfl, rfl, by kernel_rfl, by kernel_rfl, by kernel_rfl⟩⟩
noncomputable def fnqDiv : FnD := ⟨Tryz.prog, [0, 1, 2, 3, 4, 5], [], 23, 0, false⟩
def codeqDiv : DC := (.seq (.reg [⟨(.x 2), .box (.x 0), none⟩,⟨(.x 3), .box (.x 1), none⟩,⟨(.x 4), .alloc [(.bool false), .nils, .nils], none⟩,⟨(.x 5), .mv (.c (.int .i64 0)), none⟩]) (.seq (.regd [⟨(.t 6), .ldn 3 (.x 2), none⟩,⟨(.t 7), .call 67 [(.t 6)], none⟩,⟨(.t 8), .ldn 3 (.x 3), none⟩,⟨(.t 9), .call 67 [(.t 8)], none⟩,⟨.no, .stn 3 (.x 2) (.t 7), none⟩,⟨.no, .stn 3 (.x 3) (.t 9), none⟩]) (.seq (.regd [⟨(.t 10), .fad 0 (.x 2), none⟩,⟨(.t 11), .ldn 2 (.t 10), none⟩,⟨(.t 12), .ldn 3 (.x 3), none⟩,⟨(.t 13), .call 76 [(.t 12)], none⟩,⟨(.t 14), .call 93 [(.t 11), (.t 13)], none⟩,⟨(.t 15), .fad 0 (.x 3), none⟩,⟨(.t 16), .ldn 2 (.t 15), none⟩,⟨(.t 17), .ldn 3 (.x 2), none⟩,⟨(.t 18), .call 76 [(.t 17)], none⟩,⟨(.t 19), .call 93 [(.t 16), (.t 18)], none⟩,⟨(.t 20), .call 14 [(.t 14), (.t 19)], none⟩,⟨(.t 21), .ext (.t 20) 0, none⟩,⟨(.t 22), .ext (.t 20) 1, none⟩,⟨.no, .stn 3 (.x 4) (.t 21), none⟩,⟨(.x 5), .mv (.t 22), none⟩]) .ret)))
def resqDiv : List RV := [.cn 3 4, .t 5]
theorem nbqDiv : fnqDiv.nb = 0 := rfl
theorem isqDiv : IsFn fnqDiv 31 codeqDiv resqDiv := ⟨⟨Tryz.f31, _, Tryz.func31, rfl, rfl, by kernel_rfl, by kernel_rfl, by kernel_rfl⟩⟩
noncomputable def fnpDiv : FnD := ⟨Tryz.prog, [0, 1, 2, 3, 4, 5, 8], [], 13, 0, false⟩
def codepDiv : DC := (.seq (.reg [⟨(.x 2), .box (.x 0), none⟩,⟨(.x 3), .box (.x 1), none⟩,⟨(.x 4), .alloc [(.bool false), .nils, .nils], none⟩,⟨(.x 5), .mv (.c (.int .i64 0)), none⟩]) (.seq (.seq (.reg [⟨(.t 6), .ldn 3 (.x 3), none⟩,⟨(.t 7), .call 40 [(.t 6)], none⟩,⟨(.x 8), .bin .eql (.t 7) (.c (.int .i64 0)), none⟩]) (.cond (.x 8) (.seq (.reg [⟨(.t 9), .build [(.bool false), .nils, .nils] [], none⟩,⟨.no, .stn 3 (.x 4) (.t 9), none⟩,⟨(.x 5), .mv (.c (.int .i64 5)), none⟩]) .ret) .skip)) (.seq (.reg [⟨(.t 10), .ldn 3 (.x 2), none⟩,⟨(.t 11), .ldn 3 (.x 3), none⟩,⟨(.t 12), .call 94 [(.t 10), (.t 11)], none⟩,⟨.no, .stn 3 (.x 4) (.t 12), none⟩,⟨(.x 5), .mv (.c (.int .i64 0)), none⟩]) .ret)))
def respDiv : List RV := [.cn 3 4, .t 5]
theorem nbpDiv : fnpDiv.nb = 0 := rfl
theorem ispDiv : IsFn fnpDiv 32 codepDiv respDiv := ⟨⟨Tryz.f32, _, Tryz.func32, rfl, rfl, by kernel_rfl, by kernel_rfl, by kernel_rfl⟩⟩
noncomputable def fnqAdd : FnD := ⟨Tryz.prog, [0, 1, 2, 3, 4, 18], [], 42, 0, false⟩
def codeqAdd : DC := (.seq (.reg [⟨(.x 2), .box (.x 0), none⟩,⟨(.x 3), .box (.x 1), none⟩,⟨(.x 4), .alloc [(.bool false), .nils, .nils], none⟩]) (.seq (.regd [⟨(.t 5), .ldn 3 (.x 2), none⟩,⟨(.t 6), .call 67 [(.t 5)], none⟩,⟨(.t 7), .ldn 3 (.x 3), none⟩,⟨(.t 8), .call 67 [(.t 7)], none⟩,⟨.no, .stn 3 (.x 2) (.t 6), none⟩,⟨.no, .stn 3 (.x 3) (.t 8), none⟩]) (.seq (.seq (.reg [⟨(.t 9), .fad 2 (.x 2), none⟩,⟨(.t 10), .ld (.t 9), none⟩,⟨(.t 11), .len 1 (.t 10), none⟩,⟨(.t 12), .bin .eql (.t 11) (.c (.int .i64 0)), none⟩,⟨(.t 13), .mv (.t 12), none⟩,⟨(.t 14), .fad 2 (.x 3), (some ((.t 13), true))⟩,⟨(.t 15), .ld (.t 14), (some ((.t 13), true))⟩,⟨(.t 16), .len 1 (.t 15), (some ((.t 13), true))⟩,⟨(.t 17), .bin .eql (.t 16) (.c (.int .i64 0)), (some ((.t 13), true))⟩,⟨(.x 18), .pick (.t 13) (.t 17) (.c (.bool false)), none⟩]) (.cond (.x 18) (.seq (.reg [⟨(.t 19), .fad 0 (.x 2), none⟩,⟨(.t 20), .ldn 2 (.t 19), none⟩,⟨(.t 21), .fad 0 (.x 3), none⟩,⟨(.t 22), .ldn 2 (.t 21), none⟩,⟨(.t 23), .call 57 [(.t 20), (.t 22)], none⟩,⟨(.t 24), .build [(.bool false), .nils, .nils] [(0, 2, (.t 23))], none⟩,⟨.no, .stn 3 (.x 4) (.t 24), none⟩]) .ret) .skip)) (.seq (.regd [⟨(.t 25), .fad 0 (.x 2), none⟩,⟨(.t 26), .ldn 2 (.t 25), none⟩,⟨(.t 27), .ldn 3 (.x 3), none⟩,⟨(.t 28), .call 76 [(.t 27)], none⟩,⟨(.t 29), .call 93 [(.t 26), (.t 28)], none⟩,⟨(.t 30), .fad 0 (.x 3), none⟩,⟨(.t 31), .ldn 2 (.t 30), none⟩,⟨(.t 32), .ldn 3 (.x 2), none⟩,⟨(.t 33), .call 76 [(.t 32)], none⟩,⟨(.t 34), .call 93 [(.t 31), (.t 33)], none⟩,⟨(.t 35), .call 57 [(.t 29), (.t 34)], none⟩,⟨(.t 36), .ldn 3 (.x 2), none⟩,⟨(.t 37), .call 76 [(.t 36)], none⟩,⟨(.t 38), .ldn 3 (.x 3), none⟩,⟨(.t 39), .call 76 [(.t 38)], none⟩,⟨(.t 40), .call 74 [(.t 37), (.t 39)], none⟩,⟨(.t 41), .call 56 [(.t 35), (.t 40)], none⟩,⟨.no, .stn 3 (.x 4) (.t 41), none⟩]) .ret))))
def resqAdd : List RV := [.cn 3 4]
theorem nbqAdd : fnqAdd.nb = 0 := rfl
theorem isqAdd : IsFn fnqAdd 33 codeqAdd resqAdd := ⟨⟨Tryz.f33, _, Tryz.func33, rfl, rfl, by kernel_rfl, by kernel_rfl, by kernel_rfl⟩⟩
noncomputable def fnpAdd : FnD := ⟨Tryz.prog, [0, 1, 2, 3, 4], [], 26, 0, false⟩
def codepAdd : DC := (.seq (.reg [⟨(.x 2), .box (.x 0), none⟩,⟨(.x 3), .box (.x 1), none⟩,⟨(.x 4), .alloc [(.bool false), .nils, .nils], none⟩]) (.seq (.regd [⟨(.t 5), .ldn 3 (.x 2), none⟩,⟨(.t 6), .call 70 [(.t 5)], none⟩,⟨(.t 7), .ldn 3 (.x 3), none⟩,⟨(.t 8), .call 70 [(.t 7)], none⟩,⟨.no, .stn 3 (.x 2) (.t 6), none⟩,⟨.no, .stn 3 (.x 3) (.t 8), none⟩]) (.seq (.regd [⟨(.t 9), .fad 0 (.x 2), none⟩,⟨(.t 10), .ldn 2 (.t 9), none⟩,⟨(.t 11), .ldn 3 (.x 3), none⟩,⟨(.t 12), .call 29 [(.t 11)], none⟩,⟨(.t 13), .call 25 [(.t 10), (.t 12)], none⟩,⟨(.t 14), .fad 0 (.x 3), none⟩,⟨(.t 15), .ldn 2 (.t 14), none⟩,⟨(.t 16), .ldn 3 (.x 2), none⟩,⟨(.t 17), .call 29 [(.t 16)], none⟩,⟨(.t 18), .call 25 [(.t 15), (.t 17)], none⟩,⟨(.t 19), .call 82 [(.t 13), (.t 18)], none⟩,⟨(.t 20), .ldn 3 (.x 2), none⟩,⟨(.t 21), .call 29 [(.t 20)], none⟩,⟨(.t 22), .ldn 3 (.x 3), none⟩,⟨(.t 23), .call 29 [(.t 22)], none⟩,⟨(.t 24), .call 25 [(.t 21), (.t 23)], none⟩,⟨(.t 25), .call 58 [(.t 19), (.t 24)], none⟩,⟨.no, .stn 3 (.x 4) (.t 25), none⟩]) .ret)))
def respAdd : List RV := [.cn 3 4]
theorem nbpAdd : fnpAdd.nb = 0 := rfl
theorem ispAdd : IsFn fnpAdd 34 codepAdd respAdd := ⟨⟨Tryz.f34, _, Tryz.func34, rfl, rfl, by kernel_rfl, by kernel_rfl, by kernel_rfl⟩⟩
noncomputable def fnqSub : FnD := ⟨Tryz.prog, [0, 1, 2, 3, 4], [], 9, 0, false⟩
def codeqSub : DC := (.seq (.reg [⟨(.x 2), .box (.x 0), none⟩,⟨(.x 3), .box (.x 1), none⟩,⟨(.x 4), .alloc [(.bool false), .nils, .nils], none⟩]) (.seq (.regd [⟨(.t 5), .ldn 3 (.x 2), none⟩,⟨(.t 6), .ldn 3 (.x 3), none⟩,⟨(.t 7), .call 48 [(.t 6)], none⟩,⟨(.t 8), .call 33 [(.t 5), (.t 7)], none⟩,⟨.no, .stn 3 (.x 4) (.t 8), none⟩]) .ret))
def resqSub : List RV := [.cn 3 4]
theorem nbqSub : fnqSub.nb = 0 := rfl
theorem isqSub : IsFn fnqSub 35 codeqSub resqSub := ⟨⟨Tryz.f35, _, Tryz.func35, rfl, rfl, by kernel_rfl, by kernel_rfl, by kernel_rfl⟩⟩
noncomputable def fnpSub : FnD := ⟨Tryz.prog, [0, 1, 2, 3, 4], [], 9, 0, false⟩
def codepSub : DC := (.seq (.reg [⟨(.x 2), .box (.x 0), none⟩,⟨(.x 3), .box (.x 1), none⟩,⟨(.x 4), .alloc [(.bool false), .nils, .nils], none⟩]) (.seq (.regd [⟨(.t 5), .ldn 3 (.x 2), none⟩,⟨(.t 6), .ldn 3 (.x 3), none⟩,⟨(.t 7), .call 49 [(.t 6)], none⟩,⟨(.t 8), .call 34 [(.t 5), (.t 7)], none⟩,⟨.no, .stn 3 (.x 4) (.t 8), none⟩]) .ret))
def respSub : List RV := [.cn 3 4]
theorem nbpSub : fnpSub.nb = 0 := rfl
theorem ispSub : IsFn fnpSub 36 codepSub respSub := ⟨⟨Tryz.f36, _, Tryz.func36, rfl, rfl, by kernel_rfl, by kernel_rfl, by kernel_rfl⟩⟩
noncomputable def fnqMul : FnD := ⟨Tryz.prog, [0, 1, 2, 3, 4, 18], [], 36, 0, false⟩
def codeqMul : DC := (.seq (.reg [⟨(.x 2), .box (.x 0), none⟩,⟨(.x 3), .box (.x 1), none⟩,⟨(.x 4), .alloc [(.bool false), .nils, .nils], none⟩]) (.seq (.regd [⟨(.t 5), .ldn 3 (.x 2), none⟩,⟨(.t 6), .call 67 [(.t 5)], none⟩,⟨(.t 7), .ldn 3 (.x 3), none⟩,⟨(.t 8), .call 67 [(.t 7)], none⟩,⟨.no, .stn 3 (.x 2) (.t 6), none⟩,⟨.no, .stn 3 (.x 3) (.t 8), none⟩]) (.seq (.seq (.reg [⟨(.t 9), .fad 2 (.x 2), none⟩,⟨(.t 10), .ld (.t 9), none⟩,⟨(.t 11), .len 1 (.t 10), none⟩,⟨(.t 12), .bin .eql (.t 11) (.c (.int .i64 0)), none⟩,⟨(.t 13), .mv (.t 12), none⟩,⟨(.t 14), .fad 2 (.x 3), (some ((.t 13), true))⟩,⟨(.t 15), .ld (.t 14), (some ((.t 13), true))⟩,⟨(.t 16), .len 1 (.t 15), (some ((.t 13), true))⟩,⟨(.t 17), .bin .eql (.t 16) (.c (.int .i64 0)), (some ((.t 13), true))⟩,⟨(.x 18), .pick (.t 13) (.t 17) (.c (.bool false)), none⟩]) (.cond (.x 18) (.seq (.reg [⟨(.t 19), .fad 0 (.x 2), none⟩,⟨(.t 20), .ldn 2 (.t 19), none⟩,⟨(.t 21), .fad 0 (.x 3), none⟩,⟨(.t 22), .ldn 2 (.t 21), none⟩,⟨(.t 23), .call 95 [(.t 20), (.t 22)], none⟩,⟨(.t 24), .build [(.bool false), .nils, .nils] [(0, 2, (.t 23))], none⟩,⟨.no, .stn 3 (.x 4) (.t 24), none⟩]) .ret) .skip)) (.seq (.regd [⟨(.t 25), .fad 0 (.x 2), none⟩,⟨(.t 26), .ldn 2 (.t 25), none⟩,⟨(.t 27), .fad 0 (.x 3), none⟩,⟨(.t 28), .ldn 2 (.t 27), none⟩,⟨(.t 29), .call 95 [(.t 26), (.t 28)], none⟩,⟨(.t 30), .ldn 3 (.x 2), none⟩,⟨(.t 31), .call 76 [(.t 30)], none⟩,⟨(.t 32), .ldn 3 (.x 3), none⟩,⟨(.t 33), .call 76 [(.t 32)], none⟩,⟨(.t 34), .call 74 [(.t 31), (.t 33)], none⟩,⟨(.t 35), .call 56 [(.t 29), (.t 34)], none⟩,⟨.no, .stn 3 (.x 4) (.t 35), none⟩]) .ret))))
def resqMul : List RV := [.cn 3 4]
theorem nbqMul : fnqMul.nb = 0 := rfl
theorem isqMul : IsFn fnqMul 37 codeqMul resqMul := ⟨⟨Tryz.f37, _, Tryz.func37, rfl, rfl, by kernel_rfl, by kernel_rfl, by kernel_rfl⟩⟩
noncomputable def fnpMul : FnD := ⟨Tryz.prog, [0, 1, 2, 3, 4], [], 20, 0, false⟩
def codepMul : DC := (.seq (.reg [⟨(.x 2), .box (.x 0), none⟩,⟨(.x 3), .box (.x 1), none⟩,⟨(.x 4), .alloc [(.bool false), .nils, .nils], none⟩]) (.seq (.regd [⟨(.t 5), .ldn 3 (.x 2), none⟩,⟨(.t 6), .call 70 [(.t 5)], none⟩,⟨(.t 7), .ldn 3 (.x 3), none⟩,⟨(.t 8), .call 70 [(.t 7)], none⟩,⟨.no, .stn 3 (.x 2) (.t 6), none⟩,⟨.no, .stn 3 (.x 3) (.t 8), none⟩]) (.seq (.regd [⟨(.t 9), .fad 0 (.x 2), none⟩,⟨(.t 10), .ldn 2 (.t 9), none⟩,⟨(.t 11), .fad 0 (.x 3), none⟩,⟨(.t 12), .ldn 2 (.t 11), none⟩,⟨(.t 13), .call 25 [(.t 10), (.t 12)], none⟩,⟨(.t 14), .ldn 3 (.x 2), none⟩,⟨(.t 15), .call 29 [(.t 14)], none⟩,⟨(.t 16), .ldn 3 (.x 3), none⟩,⟨(.t 17), .call 29 [(.t 16)], none⟩,⟨(.t 18), .call 25 [(.t 15), (.t 17)], none⟩,⟨(.t 19), .call 58 [(.t 13), (.t 18)], none⟩,⟨.no, .stn 3 (.x 4) (.t 19), none⟩]) .ret)))
def respMul : List RV := [.cn 3 4]
theorem nbpMul : fnpMul.nb = 0 := rfl
theorem ispMul : IsFn fnpMul 38 codepMul respMul := ⟨⟨Tryz.f38, _, Tryz.func38, rfl, rfl, by kernel_rfl, by kernel_rfl, by kernel_rfl⟩⟩
noncomputable def fnlq_fair : FnD := ⟨Tryz.prog, [0, 1, 2, 3, 4, 5, 6], [], 29, 0, false⟩
def codelq_fair : DC := (.seq (.reg [⟨(.x 3), .box (.x 0), none⟩,⟨(.x 4), .box (.x 1), none⟩,⟨(.x 5), .box (.x 2), none⟩,⟨(.x 6), .mv (.c (.bool false)), none⟩]) (.seq (.reg [⟨(.t 7), .ldn 3 (.x 3), none⟩,⟨(.t 8), .call 17 [(.t 7)], none⟩,⟨(.t 9), .mv (.t 8), none⟩,⟨(.t 10), .ldn 3 (.x 4), (some ((.t 9), true))⟩,⟨(.t 11), .call 17 [(.t 10)], (some ((.t 9), true))⟩,⟨(.t 12), .pick (.t 9) (.t 11) (.c (.bool false)), none⟩,⟨(.t 13), .mv (.t 12), none⟩,⟨(.t 14), .ldn 3 (.x 5), (some ((.t 13), true))⟩,⟨(.t 15), .call 17 [(.t 14)], (some ((.t 13), true))⟩,⟨(.t 16), .pick (.t 13) (.t 15) (.c (.bool false)), none⟩,⟨(.t 17), .mv (.t 16), none⟩,⟨(.t 18), .ldn 3 (.x 3), (some ((.t 17), true))⟩,⟨(.t 19), .call 30 [(.t 18)], (some ((.t 17), true))⟩,⟨(.t 20), .pick (.t 17) (.t 19) (.c (.bool false)), none⟩,⟨(.t 21), .mv (.t 20), none⟩,⟨(.t 22), .ldn 3 (.x 4), (some ((.t 21), true))⟩,⟨(.t 23), .call 30 [(.t 22)], (some ((.t 21), true))⟩,⟨(.t 24), .pick (.t 21) (.t 23) (.c (.bool false)), none⟩,⟨(.t 25), .mv (.t 24), none⟩,⟨(.t 26), .ldn 3 (.x 5), (some ((.t 25), true))⟩,⟨(.t 27), .call 30 [(.t 26)], (some ((.t 25), true))⟩,⟨(.t 28), .pick (.t 25) (.t 27) (.c (.bool false)), none⟩,⟨(.x 6), .mv (.t 28), none⟩]) .ret))
def reslq_fair : List RV := [.t 6]
theorem nblq_fair : fnlq_fair.nb = 0 := rfl
theorem islq_fair : IsFn fnlq_fair 39 codelq_fair reslq_fair := ⟨⟨Tryz.f39, _, Tryz.func39, rfl, rfl, by kernel_rfl, by kernel_rfl, by kernel_rfl⟩⟩
noncomputable def fnpSign : FnD := ⟨Tryz.prog, [0, 1, 2], [], 7, 0, false⟩
def codepSign : DC := (.seq (.reg [⟨(.x 1), .box (.x 0), none⟩,⟨(.x 2), .mv (.c (.int .i64 0)), none⟩]) (.seq (.reg [⟨(.t 3), .ldn 3 (.x 1), none⟩,⟨(.t 4), .call 70 [(.t 3)], none⟩,⟨(.t 5), .fldn 0 2 (.t 4), none⟩,⟨(.t 6), .call 24 [(.t 5)], none⟩,⟨(.x 2), .mv (.t 6), none⟩]) .ret))
def respSign : List RV := [.t 2]
theorem nbpSign : fnpSign.nb = 0 := rfl
theorem ispSign : IsFn fnpSign 40 codepSign respSign := ⟨⟨Tryz.f40, _, Tryz.func40, rfl, rfl, by kernel_rfl, by kernel_rfl, by kernel_rfl⟩⟩
noncomputable def fnqSign : FnD := ⟨Tryz.prog, [0, 1, 2], [], 7, 0, false⟩
def codeqSign : DC := (.seq (.reg [⟨(.x 1), .box (.x 0), none⟩,⟨(.x 2), .mv (.c (.int .i64 0)), none⟩]) (.seq (.reg [⟨(.t 3), .ldn 3 (.x 1), none⟩,⟨(.t 4), .call 67 [(.t 3)], none⟩,⟨(.t 5), .fldn 0 2 (.t 4), none⟩,⟨(.t 6), .call 54 [(.t 5)], none⟩,⟨(.x 2), .mv (.t 6), none⟩]) .ret))
def resqSign : List RV := [.t 2]
theorem nbqSign : fnqSign.nb = 0 := rfl
theorem isqSign : IsFn fnqSign 41 codeqSign resqSign := ⟨⟨Tryz.f41, _, Tryz.func41, rfl, rfl, by kernel_rfl, by kernel_rfl, by kernel_rfl⟩⟩
noncomputable def fnqCompare : FnD := ⟨Tryz.prog, [0, 1, 2, 3, 4], [], 20, 0, false⟩
def codeqCompare : DC := (.seq (.reg [⟨(.x 2), .box (.x 0), none⟩,⟨(.x 3), .box (.x 1), none⟩,⟨(.x 4), .mv (.c (.int .i64 0)), none⟩]) (.seq (.regd [⟨(.t 5), .ldn 3 (.x 2), none⟩,⟨(.t 6), .call 67 [(.t 5)], none⟩,⟨(.t 7), .ldn 3 (.x 3), none⟩,⟨(.t 8), .call 67 [(.t 7)], none⟩,⟨.no, .stn 3 (.x 2) (.t 6), none⟩,⟨.no, .stn 3 (.x 3) (.t 8), none⟩]) (.seq (.regd [⟨(.t 9), .fad 0 (.x 2), none⟩,⟨(.t 10), .ldn 2 (.t 9), none⟩,⟨(.t 11), .ldn 3 (.x 3), none⟩,⟨(.t 12), .call 76 [(.t 11)], none⟩,⟨(.t 13), .call 93 [(.t 10), (.t 12)], none⟩,⟨(.t 14), .fad 0 (.x 3), none⟩,⟨(.t 15), .ldn 2 (.t 14), none⟩,⟨(.t 16), .ldn 3 (.x 2), none⟩,⟨(.t 17), .call 76 [(.t 16)], none⟩,⟨(.t 18), .call 93 [(.t 15), (.t 17)], none⟩,⟨(.t 19), .call 96 [(.t 13), (.t 18)], none⟩,⟨(.x 4), .mv (.t 19), none⟩]) .ret)))
def resqCompare : List RV := [.t 4]
theorem nbqCompare : fnqCompare.nb = 0 := rfl
theorem isqCompare : IsFn fnqCompare 42 codeqCompare resqCompare := ⟨⟨Tryz.f42, _, Tryz.func42, rfl, rfl, by kernel_rfl, by kernel_rfl, by kernel_rfl⟩⟩
noncomputable def fnmdMod : FnD := ⟨Tryz.prog, [0, 1, 4, 5, 10], [], 15, 0, false⟩
def codemdMod : DC := (.seq (.reg [⟨(.x 4), .mv (.c (.int .i64 0)), none⟩]) (.seq (.reg [⟨(.t 6), .mv (.x 0), none⟩,⟨(.t 7), .mv (.x 1), none⟩,⟨(.t 8), .bin .rem (.t 6) (.t 7), none⟩,⟨(.x 5), .mv (.t 8), none⟩]) (.seq (.seq (.reg [⟨(.t 9), .mv (.x 5), none⟩,⟨(.x 10), .bin .lss (.t 9) (.c (.int .i64 0)), none⟩]) (.cond (.x 10) (.reg [⟨(.t 11), .mv (.x 5), none⟩,⟨(.t 12), .mv (.x 1), none⟩,⟨(.t 13), .bin .add (.t 11) (.t 12), none⟩,⟨(.x 5), .mv (.t 13), none⟩]) .skip)) (.seq (.reg [⟨(.t 14), .mv (.x 5), none⟩,⟨(.x 4), .mv (.t 14), none⟩]) .ret))))
def resmdMod : List RV := [.t 4]
theorem ismdMod : IsFn fnmdMod 43 codemdMod resmdMod := ⟨⟨Tryz.f43, _, Tryz.func43, rfl, rfl, by kernel_rfl, by kernel_rfl, by kernel_rfl⟩⟩
noncomputable def fnqAbs : FnD := ⟨Tryz.prog, [0, 1, 2, 5], [], 11, 0, false⟩
def codeqAbs : DC := (.seq (.reg [⟨(.x 1), .box (.x 0), none⟩,⟨(.x 2), .alloc [(.bool false), .nils, .nils], none⟩]) (.seq (.seq (.reg [⟨(.t 3), .ldn 3 (.x 1), none⟩,⟨(.t 4), .call 41 [(.t 3)], none⟩,⟨(.x 5), .bin .lss (.t 4) (.c (.int .i64 0)), none⟩]) (.cond (.x 5) (.seq (.reg [⟨(.t 6), .ldn 3 (.x 1), none⟩,⟨(.t 7), .call 48 [(.t 6)], none⟩,⟨.no, .stn 3 (.x 2) (.t 7), none⟩]) .ret) .skip)) (.seq (.reg [⟨(.t 8), .ldn 3 (.x 1), none⟩,⟨(.t 9), .call 48 [(.t 8)], none⟩,⟨(.t 10), .call 48 [(.t 9)], none⟩,⟨.no, .stn 3 (.x 2) (.t 10), none⟩]) .ret)))
def resqAbs : List RV := [.cn 3 2]
theorem nbqAbs : fnqAbs.nb = 0 := rfl
theorem isqAbs : IsFn fnqAbs 45 codeqAbs resqAbs := ⟨⟨Tryz.f45, _, Tryz.func45, rfl, rfl, by kernel_rfl, by kernel_rfl, by kernel_rfl⟩⟩
noncomputable def fnqFromInt : FnD := ⟨Tryz.prog, [0, 2], [], 6, 0, false⟩
def codeqFromInt : DC := (.seq (.reg [⟨(.x 2), .alloc [(.bool false), .nils, .nils], none⟩]) (.seq (.reg [⟨(.t 3), .mv (.x 0), none⟩,⟨(.t 4), .call 97 [(.t 3)], none⟩,⟨(.t 5), .build [(.bool false), .nils, .nils] [(0, 2, (.t 4))], none⟩,⟨.no, .stn 3 (.x 2) (.t 5), none⟩]) .ret))
def resqFromInt : List RV := [.cn 3 2]
theorem nbqFromInt : fnqFromInt.nb = 0 := rfl
theorem isqFromInt : IsFn fnqFromInt 46 codeqFromInt resqFromInt := ⟨⟨Tryz.f46, _, Tryz.func46, rfl, rfl, by kernel_rfl, by kernel_rfl, by kernel_rfl⟩⟩
noncomputable def fnpFromInt : FnD := ⟨Tryz.prog, [0, 2], [], 6, 0, false⟩
def codepFromInt : DC := (.seq (.reg [⟨(.x 2), .alloc [(.bool false), .nils, .nils], none⟩]) (.seq (.reg [⟨(.t 3), .mv (.x 0), none⟩,⟨(.t 4), .call 83 [(.t 3)], none⟩,⟨(.t 5), .build [(.bool false), .nils, .nils] [(0, 2, (.t 4))], none⟩,⟨.no, .stn 3 (.x 2) (.t 5), none⟩]) .ret))
def respFromInt : List RV := [.cn 3 2]
theorem nbpFromInt : fnpFromInt.nb = 0 := rfl
theorem ispFromInt : IsFn fnpFromInt 47 codepFromInt respFromInt := ⟨⟨Tryz.f47, _, Tryz.func47, rfl, rfl, by kernel_rfl, by kernel_rfl, by kernel_rfl⟩⟩
noncomputable def fnqNeg : FnD := ⟨Tryz.prog, [0, 1, 2], [], 12, 0, false⟩
def codeqNeg : DC := (.seq (.reg [⟨(.x 1), .box (.x 0), none⟩,⟨(.x 2), .alloc [(.bool false), .nils, .nils], none⟩]) (.seq (.reg [⟨(.t 3), .ldn 3 (.x 1), none⟩,⟨(.t 4), .call 67 [(.t 3)], none⟩,⟨.no, .stn 3 (.x 1) (.t 4), none⟩]) (.seq (.regd [⟨(.t 5), .fad 0 (.x 1), none⟩,⟨(.t 6), .ldn 2 (.t 5), none⟩,⟨(.t 7), .call 55 [(.t 6)], none⟩,⟨(.t 8), .fad 2 (.x 1), none⟩,⟨(.t 9), .ld (.t 8), none⟩,⟨(.t 10), .call 78 [(.t 9), (.c .nils)], none⟩,⟨(.t 11), .build [(.bool false), .nils, .nils] [(0, 2, (.t 7)), (2, 1, (.t 10))], none⟩,⟨.no, .stn 3 (.x 2) (.t 11), none⟩]) .ret)))
def resqNeg : List RV := [.cn 3 2]
theorem nbqNeg : fnqNeg.nb = 0 := rfl
theorem isqNeg : IsFn fnqNeg 48 codeqNeg resqNeg := ⟨⟨Tryz.f48, _, Tryz.func48, rfl, rfl, by kernel_rfl, by kernel_rfl, by kernel_rfl⟩⟩
noncomputable def fnpNeg : FnD := ⟨Tryz.prog, [0, 1, 2], [], 11, 0, false⟩
def codepNeg : DC := (.seq (.reg [⟨(.x 1), .box (.x 0), none⟩,⟨(.x 2), .alloc [(.bool false), .nils, .nils], none⟩]) (.seq (.reg [⟨(.t 3), .ldn 3 (.x 1), none⟩,⟨(.t 4), .call 70 [(.t 3)], none⟩,⟨.no, .stn 3 (.x 1) (.t 4), none⟩]) (.seq (.regd [⟨(.t 5), .fad 0 (.x 1), none⟩,⟨(.t 6), .ldn 2 (.t 5), none⟩,⟨(.t 7), .call 98 [(.t 6)], none⟩,⟨(.t 8), .fad 2 (.x 1), none⟩,⟨(.t 9), .ld (.t 8), none⟩,⟨(.t 10), .build [(.bool false), .nils, .nils] [(0, 2, (.t 7)), (2, 1, (.t 9))], none⟩,⟨.no, .stn 3 (.x 2) (.t 10), none⟩]) .ret)))
def respNeg : List RV := [.cn 3 2]
theorem nbpNeg : fnpNeg.nb = 0 := rfl
theorem ispNeg : IsFn fnpNeg 49 codepNeg respNeg := ⟨⟨Tryz.f49, _, Tryz.func49, rfl, rfl, by kernel_rfl, by kernel_rfl, by kernel_rfl⟩⟩
noncomputable def fnpAbs : FnD := ⟨Tryz.prog, [0, 1, 2, 5], [], 10, 0, false⟩
def codepAbs : DC := (.seq (.reg [⟨(.x 1), .box (.x 0), none⟩,⟨(.x 2), .alloc [(.bool false), .nils, .nils], none⟩]) (.seq (.seq (.reg [⟨(.t 3), .ldn 3 (.x 1), none⟩,⟨(.t 4), .call 40 [(.t 3)], none⟩,⟨(.x 5), .bin .lss (.t 4) (.c (.int .i64 0)), none⟩]) (.cond (.x 5) (.seq (.reg [⟨(.t 6), .ldn 3 (.x 1), none⟩,⟨(.t 7), .call 49 [(.t 6)], none⟩,⟨.no, .stn 3 (.x 2) (.t 7), none⟩]) .ret) .skip)) (.seq (.reg [⟨(.t 8), .ldn 3 (.x 1), none⟩,⟨(.t 9), .call 70 [(.t 8)], none⟩,⟨.no, .stn 3 (.x 2) (.t 9), none⟩]) .ret)))
def respAbs : List RV := [.cn 3 2]
theorem nbpAbs : fnpAbs.nb = 0 := rfl
theorem ispAbs : IsFn fnpAbs 50 codepAbs respAbs := ⟨⟨Tryz.f50, _, Tryz.func50, rfl, rfl, by kernel_rfl, by kernel_rfl, by kernel_rfl⟩⟩
noncomputable def fnpCompare : FnD := ⟨Tryz.prog, [0, 1, 2, 3, 4], [], 9, 0, false⟩
def codepCompare : DC := (.seq (.reg [⟨(.x 2), .box (.x 0), none⟩,⟨(.x 3), .box (.x 1), none⟩,⟨(.x 4), .mv (.c (.int .i64 0)), none⟩]) (.seq (.reg [⟨(.t 5), .ldn 3 (.x 2), none⟩,⟨(.t 6), .ldn 3 (.x 3), none⟩,⟨(.t 7), .call 36 [(.t 5), (.t 6)], none⟩,⟨(.t 8), .call 40 [(.t 7)], none⟩,⟨(.x 4), .mv (.t 8), none⟩]) .ret))
def respCompare : List RV := [.t 4]
theorem nbpCompare : fnpCompare.nb = 0 := rfl
theorem ispCompare : IsFn fnpCompare 51 codepCompare respCompare := ⟨⟨Tryz.f51, _, Tryz.func51, rfl, rfl, by kernel_rfl, by kernel_rfl, by kernel_rfl⟩⟩
noncomputable def fnqFloor : FnD := ⟨Tryz.prog, [0, 1, 2, 3], [], 19, 0, false⟩
def codeqFloor : DC := (.seq (.reg [⟨(.x 1), .box (.x 0), none⟩,⟨(.x 2), .alloc [(.bool false), .nils], none⟩]) (.seq (.reg [⟨(.t 6), .ldn 3 (.x 1), none⟩,⟨(.t 7), .call 67 [(.t 6)], none⟩,⟨.no, .stn 3 (.x 1) (.t 7), none⟩]) (.seq (.regd [⟨(.t 9), .fad 0 (.x 1), none⟩,⟨(.t 10), .ldn 2 (.t 9), none⟩,⟨(.t 11), .ldn 3 (.x 1), none⟩,⟨(.t 12), .call 76 [(.t 11)], none⟩,⟨(.t 13), .build [(.bool false), .nils] [(1, 1, (.t 12))], none⟩,⟨(.t 14), .call 99 [(.t 10), (.t 13)], none⟩,⟨(.t 8), .mv (.t 14), none⟩,⟨(.t 15), .ext (.t 8) 0, none⟩,⟨(.t 16), .ext (.t 8) 1, none⟩,⟨(.t 17), .ext (.t 8) 2, none⟩,⟨(.x 3), .alloc [(.bool false), .nils], none⟩,⟨(.t 4), .alloc [(.bool false), .nils], none⟩,⟨.no, .stn 2 (.x 3) (.t 15), none⟩,⟨.no, .stn 2 (.t 4) (.t 16), none⟩,⟨(.t 5), .mv (.t 17), none⟩]) (.seq (.reg [⟨(.t 18), .ldn 2 (.x 3), none⟩,⟨.no, .stn 2 (.x 2) (.t 18), none⟩]) .ret))))
def resqFloor : List RV := [.cn 2 2]
theorem nbqFloor : fnqFloor.nb = 0 := rfl
theorem isqFloor : IsFn fnqFloor 52 codeqFloor resqFloor := ⟨⟨Tryz.f52, _, Tryz.func52, rfl, rfl, by kernel_rfl, by kernel_rfl, by kernel_rfl⟩⟩
noncomputable def fnpFloor : FnD := ⟨Tryz.prog, [0, 1, 2, 3], [], 18, 0, false⟩
def codepFloor : DC := (.seq (.reg [⟨(.x 1), .box (.x 0), none⟩,⟨(.x 2), .alloc [(.bool false), .nils], none⟩]) (.seq (.reg [⟨(.t 6), .ldn 3 (.x 1), none⟩,⟨(.t 7), .call 70 [(.t 6)], none⟩,⟨.no, .stn 3 (.x 1) (.t 7), none⟩]) (.seq (.regd [⟨(.t 9), .fad 0 (.x 1), none⟩,⟨(.t 10), .ldn 2 (.t 9), none⟩,⟨(.t 11), .ldn 3 (.x 1), none⟩,⟨(.t 12), .call 29 [(.t 11)], none⟩,⟨(.t 13), .call 100 [(.t 10), (.t 12)], none⟩,⟨(.t 8), .mv (.t 13), none⟩,⟨(.t 14), .ext (.t 8) 0, none⟩,⟨(.t 15), .ext (.t 8) 1, none⟩,⟨(.t 16), .ext (.t 8) 2, none⟩,⟨(.x 3), .alloc [(.bool false), .nils], none⟩,⟨(.t 4), .alloc [(.bool false), .nils], none⟩,⟨.no, .stn 2 (.x 3) (.t 14), none⟩,⟨.no, .stn 2 (.t 4) (.t 15), none⟩,⟨(.t 5), .mv (.t 16), none⟩]) (.seq (.reg [⟨(.t 17), .ldn 2 (.x 3), none⟩,⟨.no, .stn 2 (.x 2) (.t 17), none⟩]) .ret))))
def respFloor : List RV := [.cn 2 2]
theorem nbpFloor : fnpFloor.nb = 0 := rfl
theorem ispFloor : IsFn fnpFloor 53 codepFloor respFloor := ⟨⟨Tryz.f53, _, Tryz.func53, rfl, rfl, by kernel_rfl, by kernel_rfl, by kernel_rfl⟩⟩
noncomputable def fnq_lowest : FnD := ⟨Tryz.prog, [0, 1, 2, 4, 5, 6, 31], [], 38, 0, false⟩
def codeq_lowest : DC := (.seq (.reg [⟨(.x 2), .box (.x 0), none⟩,⟨(.x 4), .alloc [(.bool false), .nils, .nils], none⟩]) (.seq (.reg [⟨(.t 9), .fad 1 (.x 2), none⟩,⟨(.t 10), .ld (.t 9), none⟩,⟨(.t 11), .mv (.x 1), none⟩,⟨(.t 12), .call 87 [(.t 10), (.t 11)], none⟩,⟨(.x 5), .mv (.t 12), none⟩]) (.seq (.reg [⟨(.t 14), .fad 1 (.x 2), none⟩,⟨(.t 15), .ld (.t 14), none⟩,⟨(.t 16), .mv (.x 5), none⟩,⟨(.t 17), .call 73 [(.t 15), (.t 16)], none⟩,⟨(.t 13), .mv (.t 17), none⟩,⟨(.t 18), .ext (.t 13) 0, none⟩,⟨(.t 19), .ext (.t 13) 1, none⟩,⟨(.t 20), .ext (.t 13) 2, none⟩,⟨(.x 6), .mv (.t 18), none⟩,⟨(.t 7), .mv (.t 19), none⟩,⟨(.t 8), .mv (.t 20), none⟩]) (.seq (.reg [⟨(.t 22), .mv (.x 1), none⟩,⟨(.t 23), .mv (.x 5), none⟩,⟨(.t 24), .call 73 [(.t 22), (.t 23)], none⟩,⟨(.t 21), .mv (.t 24), none⟩,⟨(.t 25), .ext (.t 21) 0, none⟩,⟨(.t 26), .ext (.t 21) 1, none⟩,⟨(.t 27), .ext (.t 21) 2, none⟩,⟨(.x 1), .mv (.t 25), none⟩]) (.seq (.seq (.reg [⟨(.t 28), .mv (.x 1), none⟩,⟨(.t 29), .call 79 [], none⟩,⟨(.t 30), .call 77 [(.t 28), (.t 29)], none⟩,⟨(.x 31), .bin .eql (.t 30) (.c (.int .i64 0)), none⟩]) (.cond (.x 31) (.reg [⟨(.x 1), .mv (.c .nils), none⟩]) .skip)) (.seq (.reg [⟨(.t 32), .fad 0 (.x 2), none⟩,⟨(.t 33), .ld (.t 32), none⟩,⟨(.t 34), .mv (.x 6), none⟩,⟨(.t 35), .build [(.bool false), .nils] [(0, 1, (.t 33)), (1, 1, (.t 34))], none⟩,⟨(.t 36), .mv (.x 1), none⟩,⟨(.t 37), .build [(.bool false), .nils, .nils] [(0, 2, (.t 35)), (2, 1, (.t 36))], none⟩,⟨.no, .stn 3 (.x 4) (.t 37), none⟩]) .ret))))))
def resq_lowest : List RV := [.cn 3 4]
theorem nbq_lowest : fnq_lowest.nb = 0 := rfl
theorem isq_lowest : IsFn fnq_lowest 56 codeq_lowest resq_lowest := ⟨⟨Tryz.f56, _, Tryz.func56, rfl, rfl, by kernel_rfl, by kernel_rfl, by kernel_rfl⟩⟩
noncomputable def fnp_over : FnD := ⟨Tryz.prog, [0, 1, 2, 3, 4, 5, 6, 9, 14, 39], [], 45, 0, false⟩
def codep_over : DC := (.seq (.reg [⟨(.x 2), .box (.x 0), none⟩,⟨(.x 3), .box (.x 1), none⟩,⟨(.x 4), .alloc [(.bool false), .nils, .nils], none⟩]) (.seq (.seq (.reg [⟨(.t 12), .ldn 2 (.x 3), none⟩,⟨(.t 13), .call 24 [(.t 12)], none⟩,⟨(.x 14), .bin .lss (.t 13) (.c (.int .i64 0)), none⟩]) (.cond (.x 14) (.regd [⟨(.t 15), .ldn 2 (.x 2), none⟩,⟨(.t 16), .call 98 [(.t 15)], none⟩,⟨(.t 17), .ldn 2 (.x 3), none⟩,⟨(.t 18), .call 98 [(.t 17)], none⟩,⟨.no, .stn 2 (.x 2) (.t 16), none⟩,⟨.no, .stn 2 (.x 3) (.t 18), none⟩]) .skip)) (.seq (.reg [⟨(.t 19), .ldn 2 (.x 2), none⟩,⟨(.t 20), .ldn 2 (.x 3), none⟩,⟨(.t 21), .call 105 [(.t 19), (.t 20)], none⟩,⟨(.t 22), .build [(.bool false), .nils] [(1, 1, (.t 21))], none⟩,⟨(.x 5), .alloc [(.bool false), .nils], none⟩,⟨.no, .stn 2 (.x 5) (.t 22), none⟩]) (.seq (.reg [⟨(.t 24), .ldn 2 (.x 2), none⟩,⟨(.t 25), .ldn 2 (.x 5), none⟩,⟨(.t 26), .call 100 [(.t 24), (.t 25)], none⟩,⟨(.t 23), .mv (.t 26), none⟩,⟨(.t 27), .ext (.t 23) 0, none⟩,⟨(.t 28), .ext (.t 23) 1, none⟩,⟨(.t 29), .ext (.t 23) 2, none⟩,⟨(.x 6), .alloc [(.bool false), .nils], none⟩,⟨(.t 7), .alloc [(.bool false), .nils], none⟩,⟨.no, .stn 2 (.x 6) (.t 27), none⟩,⟨.no, .stn 2 (.t 7) (.t 28), none⟩,⟨(.t 8), .mv (.t 29), none⟩]) (.seq (.reg [⟨(.t 31), .ldn 2 (.x 3), none⟩,⟨(.t 32), .ldn 2 (.x 5), none⟩,⟨(.t 33), .call 100 [(.t 31), (.t 32)], none⟩,⟨(.t 30), .mv (.t 33), none⟩,⟨(.t 34), .ext (.t 30) 0, none⟩,⟨(.t 35), .ext (.t 30) 1, none⟩,⟨(.t 36), .ext (.t 30) 2, none⟩,⟨(.x 9), .alloc [(.bool false), .nils], none⟩,⟨(.t 10), .alloc [(.bool false), .nils], none⟩,⟨.no, .stn 2 (.x 9) (.t 34), none⟩,⟨.no, .stn 2 (.t 10) (.t 35), none⟩,⟨(.t 11), .mv (.t 36), none⟩]) (.seq (.seq (.reg [⟨(.t 37), .fad 1 (.x 9), none⟩,⟨(.t 38), .ld (.t 37), none⟩,⟨(.x 39), .call 91 [(.t 38)], none⟩]) (.cond (.x 39) (.reg [⟨(.t 40), .fad 1 (.x 9), none⟩,⟨.no, .st (.t 40) (.c .nils), none⟩]) .skip)) (.seq (.reg [⟨(.t 41), .ldn 2 (.x 6), none⟩,⟨(.t 42), .fad 1 (.x 9), none⟩,⟨(.t 43), .ld (.t 42), none⟩,⟨(.t 44), .build [(.bool false), .nils, .nils] [(0, 2, (.t 41)), (2, 1, (.t 43))], none⟩,⟨.no, .stn 3 (.x 4) (.t 44), none⟩]) .ret)))))))
def resp_over : List RV := [.cn 3 4]
theorem nbp_over : fnp_over.nb = 0 := rfl
theorem isp_over : IsFn fnp_over 58 codep_over resp_over := ⟨⟨Tryz.f58, _, Tryz.func58, rfl, rfl, by kernel_rfl, by kernel_rfl, by kernel_rfl⟩⟩
noncomputable def fnq_unsigned : FnD := ⟨Tryz.prog, [0, 2, 3, 4, 5, 6, 7, 8, 9, 10, 11, 12, 14, 21, 46, 56, 88, 101], [], 115, 0, false⟩
def codeq_unsigned : DC := (.seq (.reg [⟨(.x 2), .mv (.c .nils), none⟩,⟨(.x 3), .mv (.c .nils), none⟩,⟨(.x 4), .mv (.c (.bool false)), none⟩]) (.seq (.seq (.reg [⟨(.t 16), .mv (.x 0), none⟩,⟨(.t 17), .call 107 [(.t 16), (.c (.str [47]))], none⟩,⟨(.t 15), .mv (.t 17), none⟩,⟨(.t 18), .ext (.t 15) 0, none⟩,⟨(.t 19), .ext (.t 15) 1, none⟩,⟨(.t 20), .ext (.t 15) 2, none⟩,⟨(.x 5), .mv (.t 18), none⟩,⟨(.x 6), .mv (.t 19), none⟩,⟨(.x 7), .mv (.t 20), none⟩]) (.seq (.reg [⟨(.x 21), .mv (.x 7), none⟩]) (.cond (.x 21) (.seq (.reg [⟨(.t 23), .mv (.x 5), none⟩,⟨(.t 24), .call 108 [(.t 23)], none⟩,⟨(.t 22), .mv (.t 24), none⟩,⟨(.t 25), .ext (.t 22) 0, none⟩,⟨(.t 26), .ext (.t 22) 1, none⟩,⟨(.x 2), .mv (.t 25), none⟩,⟨(.x 4), .mv (.t 26), none⟩]) (.seq (.reg [⟨(.t 28), .mv (.x 6), none⟩,⟨(.t 29), .call 108 [(.t 28)], none⟩,⟨(.t 27), .mv (.t 29), none⟩,⟨(.t 30), .ext (.t 27) 0, none⟩,⟨(.t 31), .ext (.t 27) 1, none⟩,⟨(.x 3), .mv (.t 30), none⟩,⟨(.x 7), .mv (.t 31), none⟩]) (.seq (.reg [⟨(.t 32), .mv (.x 2), none⟩,⟨(.t 33), .mv (.x 3), none⟩,⟨(.t 34), .mv (.x 4), none⟩,⟨(.t 35), .mv (.t 34), none⟩,⟨(.t 36), .mv (.x 7), (some ((.t 35), true))⟩,⟨(.t 37), .pick (.t 35) (.t 36) (.c (.bool false)), none⟩,⟨(.t 38), .mv (.t 37), none⟩,⟨(.t 39), .mv (.x 3), (some ((.t 38), true))⟩,⟨(.t 40), .len 1 (.t 39), (some ((.t 38), true))⟩,⟨(.t 41), .bin .gtr (.t 40) (.c (.int .i64 0)), (some ((.t 38), true))⟩,⟨(.t 42), .pick (.t 38) (.t 41) (.c (.bool false)), none⟩,⟨(.x 2), .mv (.t 32), none⟩,⟨(.x 3), .mv (.t 33), none⟩,⟨(.x 4), .mv (.t 42), none⟩]) .ret))) .skip))) (.seq (.reg [⟨(.x 8), .mv (.c (.int .i64 0)), none⟩]) (.seq (.seq (.reg [⟨(.t 43), .mv (.x 0), none⟩,⟨(.t 44), .call 109 [(.t 43), (.c (.str [101, 69]))], none⟩,⟨(.x 9), .mv (.t 44), none⟩]) (.seq (.reg [⟨(.t 45), .mv (.x 9), none⟩,⟨(.x 46), .bin .geq (.t 45) (.c (.int .i64 0)), none⟩]) (.cond (.x 46) (.seq (.seq (.reg [⟨(.t 48), .mv (.x 0), none⟩,⟨(.t 49), .mv (.x 9), none⟩,⟨(.t 50), .bin .add (.t 49) (.c (.int .i64 1)), none⟩,⟨(.t 51), .slcS (.t 48) (some (.t 50)) none, none⟩,⟨(.t 52), .call 110 [(.t 51)], none⟩,⟨(.t 47), .mv (.t 52), none⟩,⟨(.t 53), .ext (.t 47) 0, none⟩,⟨(.t 54), .ext (.t 47) 1, none⟩,⟨(.x 8), .mv (.t 53), none⟩,⟨(.x 4), .mv (.t 54), none⟩]) (.seq (.reg [⟨(.t 55), .mv (.x 4), none⟩,⟨(.x 56), .un .not (.t 55), none⟩]) (.cond (.x 56) (.seq (.reg [⟨(.x 2), .mv (.c .nils), none⟩,⟨(.x 3), .mv (.c .nils), none⟩,⟨(.x 4), .mv (.c (.bool false)), none⟩]) .ret) .skip))) (.reg [⟨(.t 57), .mv (.x 0), none⟩,⟨(.t 58), .mv (.x 9), none⟩,⟨(.t 59), .slcS (.t 57) none (some (.t 58)), none⟩,⟨(.x 0), .mv (.t 59), none⟩])) .skip))) (.seq (.reg [⟨(.t 61), .mv (.x 0), none⟩,⟨(.t 62), .call 107 [(.t 61), (.c (.str [46]))], none⟩,⟨(.t 60), .mv (.t 62), none⟩,⟨(.t 63), .ext (.t 60) 0, none⟩,⟨(.t 64), .ext (.t 60) 1, none⟩,⟨(.t 65), .ext (.t 60) 2, none⟩,⟨(.x 10), .mv (.t 63), none⟩,⟨(.x 11), .mv (.t 64), none⟩,⟨(.x 12), .mv (.t 65), none⟩]) (.seq (.seq (.reg [⟨(.t 67), .mv (.x 10), none⟩,⟨(.t 68), .call 108 [(.t 67)], none⟩,⟨(.t 66), .mv (.t 68), none⟩,⟨(.t 69), .ext (.t 66) 0, none⟩,⟨(.t 70), .ext (.t 66) 1, none⟩,⟨(.t 13), .mv (.t 69), none⟩,⟨(.x 14), .mv (.t 70), none⟩]) (.seq (.reg [⟨(.t 71), .mv (.x 14), none⟩,⟨(.t 72), .un .not (.t 71), none⟩,⟨(.t 73), .mv (.t 72), none⟩,⟨(.t 74), .mv (.x 12), (some ((.t 73), false))⟩,⟨(.t 75), .mv (.t 74), (some ((.t 73), false))⟩,⟨(.t 76), .mv (.x 11), (some ((.t 75), true))⟩,⟨(.t 77), .call 111 [(.t 76)], (some ((.t 75), true))⟩,⟨(.t 78), .un .not (.t 77), (some ((.t 75), true))⟩,⟨(.t 79), .pick (.t 75) (.t 78) (.c (.bool false)), (some ((.t 73), false))⟩,⟨(.t 80), .pick (.t 73) (.c (.bool true)) (.t 79), none⟩,⟨(.t 81), .mv (.t 80), none⟩,⟨(.t 82), .mv (.x 10), (some ((.t 81), false))⟩,⟨(.t 83), .lenS (.t 82), (some ((.t 81), false))⟩,⟨(.t 84), .mv (.x 11), (some ((.t 81), false))⟩,⟨(.t 85), .lenS (.t 84), (some ((.t 81), false))⟩,⟨(.t 86), .bin .add (.t 83) (.t 85), (some ((.t 81), false))⟩,⟨(.t 87), .bin .gtr (.t 86) (.c (.int .i64 4000)), (some ((.t 81), false))⟩,⟨(.x 88), .pick (.t 81) (.c (.bool true)) (.t 87), none⟩]) (.cond (.x 88) (.seq (.reg [⟨(.x 2), .mv (.c .nils), none⟩,⟨(.x 3), .mv (.c .nils), none⟩,⟨(.x 4), .mv (.c (.bool false)), none⟩]) .ret) .skip))) (.seq (.reg [⟨(.t 90), .mv (.x 10), none⟩,⟨(.t 91), .mv (.x 11), none⟩,⟨(.t 92), .bin .add (.t 90) (.t 91), none⟩,⟨(.t 93), .call 112 [(.t 92)], none⟩,⟨(.t 94), .call 108 [(.t 93)], none⟩,⟨(.t 89), .mv (.t 94), none⟩,⟨(.t 95), .ext (.t 89) 0, none⟩,⟨(.t 96), .ext (.t 89) 1, none⟩,⟨(.x 2), .mv (.t 95), none⟩,⟨(.x 4), .mv (.t 96), none⟩]) (.seq (.reg [⟨(.t 97), .mv (.x 11), none⟩,⟨(.t 98), .lenS (.t 97), none⟩,⟨(.t 99), .call 75 [(.t 98)], none⟩,⟨(.x 3), .mv (.t 99), none⟩]) (.seq (.seq (.reg [⟨(.t 100), .mv (.x 8), none⟩,⟨(.x 101), .bin .lss (.t 100) (.c (.int .i64 0)), none⟩]) (.cond (.x 101) (.seq (.reg [⟨(.t 102), .mv (.x 2), none⟩,⟨(.t 103), .mv (.x 3), none⟩,⟨(.t 104), .mv (.x 8), none⟩,⟨(.t 105), .un .neg (.t 104), none⟩,⟨(.t 106), .call 75 [(.t 105)], none⟩,⟨(.t 107), .call 74 [(.t 103), (.t 106)], none⟩,⟨(.t 108), .mv (.x 4), none⟩,⟨(.x 2), .mv (.t 102), none⟩,⟨(.x 3), .mv (.t 107), none⟩,⟨(.x 4), .mv (.t 108), none⟩]) .ret) .skip)) (.seq (.reg [⟨(.t 109), .mv (.x 2), none⟩,⟨(.t 110), .mv (.x 8), none⟩,⟨(.t 111), .call 75 [(.t 110)], none⟩,⟨(.t 112), .call 74 [(.t 109), (.t 111)], none⟩,⟨(.t 113), .mv (.x 3), none⟩,⟨(.t 114), .mv (.x 4), none⟩,⟨(.x 2), .mv (.t 112), none⟩,⟨(.x 3), .mv (.t 113), none⟩,⟨(.x 4), .mv (.t 114), none⟩]) .ret))))))))))
def resq_unsigned : List RV := [.t 2, .t 3, .t 4]
theorem isq_unsigned : IsFn fnq_unsigned 61 codeq_unsigned resq_unsigned := ⟨⟨Tryz.f61, _, Tryz.func61, rfl, rfl, by kernel_rfl, by kernel_rfl, by kernel_rfl⟩⟩
noncomputable def fnq_value : FnD := ⟨Tryz.prog, [0, 1, 2, 4], [], 7, 0, false⟩
def codeq_value : DC := (.seq (.reg [⟨(.x 1), .box (.x 0), none⟩,⟨(.x 2), .alloc [(.bool false), .nils, .nils], none⟩]) (.seq (.seq (.reg [⟨(.t 3), .ldn 3 (.x 1), none⟩,⟨(.x 4), .call 26 [(.t 3)], none⟩]) (.cond (.x 4) (.seq (.reg [⟨(.t 5), .ldn 3 (.x 1), none⟩,⟨.no, .stn 3 (.x 2) (.t 5), none⟩]) .ret) .skip)) (.seq (.reg [⟨(.t 6), .build [(.bool false), .nils, .nils] [], none⟩,⟨.no, .stn 3 (.x 2) (.t 6), none⟩]) .ret)))
def resq_value : List RV := [.cn 3 2]
theorem nbq_value : fnq_value.nb = 0 := rfl
theorem isq_value : IsFn fnq_value 67 codeq_value resq_value := ⟨⟨Tryz.f67, _, Tryz.func67, rfl, rfl, by kernel_rfl, by kernel_rfl, by kernel_rfl⟩⟩
noncomputable def fnpTake : FnD := ⟨Tryz.prog, [0, 1, 2, 5], [], 14, 0, false⟩
def codepTake : DC := (.seq (.reg [⟨(.x 1), .box (.x 0), none⟩,⟨(.x 2), .alloc [(.bool false), .nils, .nils], none⟩]) (.seq (.seq (.reg [⟨(.t 3), .ldn 3 (.x 1), none⟩,⟨(.t 4), .call 30 [(.t 3)], none⟩,⟨(.x 5), .un .not (.t 4), none⟩]) (.cond (.x 5) (.seq (.reg [⟨(.t 6), .build [(.bool false), .nils, .nils] [], none⟩,⟨.no, .stn 3 (.x 2) (.t 6), none⟩]) .ret) .skip)) (.seq (.regd [⟨(.t 7), .fad 0 (.x 1), none⟩,⟨(.t 8), .ldn 2 (.t 7), none⟩,⟨(.t 9), .call 28 [(.t 8)], none⟩,⟨(.t 10), .fad 2 (.x 1), none⟩,⟨(.t 11), .ld (.t 10), none⟩,⟨(.t 12), .call 89 [(.t 11)], none⟩,⟨(.t 13), .build [(.bool false), .nils, .nils] [(0, 2, (.t 9)), (2, 1, (.t 12))], none⟩,⟨.no, .stn 3 (.x 2) (.t 13), none⟩]) .ret)))
def respTake : List RV := [.cn 3 2]
theorem nbpTake : fnpTake.nb = 0 := rfl
theorem ispTake : IsFn fnpTake 70 codepTake respTake := ⟨⟨Tryz.f70, _, Tryz.func70, rfl, rfl, by kernel_rfl, by kernel_rfl, by kernel_rfl⟩⟩
noncomputable def fnq_ten : FnD := ⟨Tryz.prog, [0, 2, 3, 6], [], 18, 0, false⟩
def codeq_ten : DC := (.seq (.reg [⟨(.x 2), .mv (.c .nils), none⟩]) (.seq (.reg [⟨(.t 4), .call 79 [], none⟩,⟨(.x 3), .mv (.t 4), none⟩]) (.seq (.block 0 (.loop (.seq (.seq (.reg [⟨(.t 5), .mv (.x 0), none⟩,⟨(.x 6), .bin .gtr (.t 5) (.c (.int .i64 64)), none⟩]) (.cond (.x 6) .skip (.exit 0))) (.seq (.block 1 (.reg [⟨(.t 9), .mv (.x 3), none⟩,⟨(.t 10), .bsl 1 [(.int .u32 0)] [(0, 1, (.c (.int .u32 10)))], none⟩,⟨(.t 11), .call 129 [(.t 10), (.c (.int .i64 64))], none⟩,⟨(.t 12), .call 74 [(.t 9), (.t 11)], none⟩,⟨(.x 3), .mv (.t 12), none⟩])) (.reg [⟨(.t 7), .mv (.x 0), none⟩,⟨(.t 8), .bin .sub (.t 7) (.c (.int .i64 64)), none⟩,⟨(.x 0), .mv (.t 8), none⟩]))))) (.seq (.reg [⟨(.t 13), .mv (.x 3), none⟩,⟨(.t 14), .bsl 1 [(.int .u32 0)] [(0, 1, (.c (.int .u32 10)))], none⟩,⟨(.t 15), .mv (.x 0), none⟩,⟨(.t 16), .call 129 [(.t 14), (.t 15)], none⟩,⟨(.t 17), .call 74 [(.t 13), (.t 16)], none⟩,⟨(.x 2), .mv (.t 17), none⟩]) .ret))))
def resq_ten : List RV := [.t 2]
theorem isq_ten : IsFn fnq_ten 75 codeq_ten resq_ten := ⟨⟨Tryz.f75, _, Tryz.func75, rfl, rfl, by kernel_rfl, by kernel_rfl, by kernel_rfl⟩⟩
noncomputable def fnq_den : FnD := ⟨Tryz.prog, [0, 1, 2, 6], [], 10, 0, false⟩
def codeq_den : DC := (.seq (.reg [⟨(.x 1), .box (.x 0), none⟩,⟨(.x 2), .mv (.c .nils), none⟩]) (.seq (.seq (.reg [⟨(.t 3), .fad 2 (.x 1), none⟩,⟨(.t 4), .ld (.t 3), none⟩,⟨(.t 5), .len 1 (.t 4), none⟩,⟨(.x 6), .bin .eql (.t 5) (.c (.int .i64 0)), none⟩]) (.cond (.x 6) (.seq (.reg [⟨(.t 7), .call 79 [], none⟩,⟨(.x 2), .mv (.t 7), none⟩]) .ret) .skip)) (.seq (.reg [⟨(.t 8), .fad 2 (.x 1), none⟩,⟨(.t 9), .ld (.t 8), none⟩,⟨(.x 2), .mv (.t 9), none⟩]) .ret)))
def resq_den : List RV := [.t 2]
theorem nbq_den : fnq_den.nb = 0 := rfl
theorem isq_den : IsFn fnq_den 76 codeq_den resq_den := ⟨⟨Tryz.f76, _, Tryz.func76, rfl, rfl, by kernel_rfl, by kernel_rfl, by kernel_rfl⟩⟩
noncomputable def fnq_one : FnD := ⟨Tryz.prog, [0], [], 2, 0, false⟩
def codeq_one : DC := (.seq (.reg [⟨(.x 0), .mv (.c .nils), none⟩]) (.seq (.reg [⟨(.t 1), .bsl 1 [(.int .u32 0)] [(0, 1, (.c (.int .u32 1)))], none⟩,⟨(.x 0), .mv (.t 1), none⟩]) .ret))
def resq_one : List RV := [.t 0]
theorem isq_one : IsFn fnq_one 79 codeq_one resq_one := ⟨⟨Tryz.f79, _, Tryz.func79, rfl, rfl, by kernel_rfl, by kernel_rfl, by kernel_rfl⟩⟩
noncomputable def fnp_one : FnD := ⟨Tryz.prog, [0, 2], [], 12, 0, false⟩
def codep_one : DC := (.seq (.reg [⟨(.x 2), .mv (.c (.bool false)), none⟩]) (.seq (.reg [⟨(.t 3), .mv (.x 0), none⟩,⟨(.t 4), .len 1 (.t 3), none⟩,⟨(.t 5), .bin .eql (.t 4) (.c (.int .i64 1)), none⟩,⟨(.t 6), .mv (.t 5), none⟩,⟨(.t 7), .mv (.x 0), (some ((.t 6), true))⟩,⟨(.t 8), .iad 1 (.t 7) (.c (.int .i64 0)), (some ((.t 6), true))⟩,⟨(.t 9), .ld (.t 8), (some ((.t 6), true))⟩,⟨(.t 10), .bin .eql (.t 9) (.c (.int .u32 1)), (some ((.t 6), true))⟩,⟨(.t 11), .pick (.t 6) (.t 10) (.c (.bool false)), none⟩,⟨(.x 2), .mv (.t 11), none⟩]) .ret))
def resp_one : List RV := [.t 2]
theorem isp_one : IsFn fnp_one 91 codep_one resp_one := ⟨⟨Tryz.f91, _, Tryz.func91, rfl, rfl, by kernel_rfl, by kernel_rfl, by kernel_rfl⟩⟩
noncomputable def fnq_times : FnD := ⟨Tryz.prog, [0, 1, 2, 4], [], 9, 0, false⟩
def codeq_times : DC := (.seq (.reg [⟨(.x 2), .box (.x 0), none⟩,⟨(.x 4), .alloc [(.bool false), .nils], none⟩]) (.seq (.reg [⟨(.t 5), .ldn 2 (.x 2), none⟩,⟨(.t 6), .mv (.x 1), none⟩,⟨(.t 7), .build [(.bool false), .nils] [(1, 1, (.t 6))], none⟩,⟨(.t 8), .call 95 [(.t 5), (.t 7)], none⟩,⟨.no, .stn 2 (.x 4) (.t 8), none⟩]) .ret))
def resq_times : List RV := [.cn 2 4]
theorem nbq_times : fnq_times.nb = 0 := rfl
theorem isq_times : IsFn fnq_times 93 codeq_times resq_times := ⟨⟨Tryz.f93, _, Tryz.func93, rfl, rfl, by kernel_rfl, by kernel_rfl, by kernel_rfl⟩⟩
noncomputable def fnpQuo : FnD := ⟨Tryz.prog, [0, 1, 2, 3, 4], [], 20, 0, false⟩
def codepQuo : DC := (.seq (.reg [⟨(.x 2), .box (.x 0), none⟩,⟨(.x 3), .box (.x 1), none⟩,⟨(.x 4), .alloc [(.bool false), .nils, .nils], none⟩]) (.seq (.regd [⟨(.t 5), .ldn 3 (.x 2), none⟩,⟨(.t 6), .call 70 [(.t 5)], none⟩,⟨(.t 7), .ldn 3 (.x 3), none⟩,⟨(.t 8), .call 70 [(.t 7)], none⟩,⟨.no, .stn 3 (.x 2) (.t 6), none⟩,⟨.no, .stn 3 (.x 3) (.t 8), none⟩]) (.seq (.regd [⟨(.t 9), .fad 0 (.x 2), none⟩,⟨(.t 10), .ldn 2 (.t 9), none⟩,⟨(.t 11), .ldn 3 (.x 3), none⟩,⟨(.t 12), .call 29 [(.t 11)], none⟩,⟨(.t 13), .call 25 [(.t 10), (.t 12)], none⟩,⟨(.t 14), .ldn 3 (.x 2), none⟩,⟨(.t 15), .call 29 [(.t 14)], none⟩,⟨(.t 16), .fad 0 (.x 3), none⟩,⟨(.t 17), .ldn 2 (.t 16), none⟩,⟨(.t 18), .call 25 [(.t 15), (.t 17)], none⟩,⟨(.t 19), .call 58 [(.t 13), (.t 18)], none⟩,⟨.no, .stn 3 (.x 4) (.t 19), none⟩]) .ret)))
def respQuo : List RV := [.cn 3 4]
theorem nbpQuo : fnpQuo.nb = 0 := rfl
theorem ispQuo : IsFn fnpQuo 94 codepQuo respQuo := ⟨⟨Tryz.f94, _, Tryz.func94, rfl, rfl, by kernel_rfl, by kernel_rfl, by kernel_rfl⟩⟩
noncomputable def fnq_exponent : FnD := ⟨Tryz.prog, [0, 2, 3, 4, 5, 6, 7, 32, 33], [], 39, 0, false⟩
def codeq_exponent : DC := (.seq (.reg [⟨(.x 2), .mv (.c (.int .i64 0)), none⟩,⟨(.x 3), .mv (.c (.bool false)), none⟩]) (.seq (.reg [⟨(.t 9), .mv (.x 0), none⟩,⟨(.t 10), .call 60 [(.t 9), (.c (.str [45]))], none⟩,⟨(.t 8), .mv (.t 10), none⟩,⟨(.t 11), .ext (.t 8) 0, none⟩,⟨(.t 12), .ext (.t 8) 1, none⟩,⟨(.x 0), .mv (.t 11), none⟩,⟨(.x 4), .mv (.t 12), none⟩]) (.seq (.reg [⟨(.t 14), .mv (.x 0), none⟩,⟨(.t 15), .call 108 [(.t 14)], none⟩,⟨(.t 13), .mv (.t 15), none⟩,⟨(.t 16), .ext (.t 13) 0, none⟩,⟨(.t 17), .ext (.t 13) 1, none⟩,⟨(.x 5), .mv (.t 16), none⟩,⟨(.x 3), .mv (.t 17), none⟩]) (.seq (.reg [⟨(.t 19), .mv (.x 5), none⟩,⟨(.t 20), .call 138 [(.t 19)], none⟩,⟨(.t 18), .mv (.t 20), none⟩,⟨(.t 21), .ext (.t 18) 0, none⟩,⟨(.t 22), .ext (.t 18) 1, none⟩,⟨(.x 6), .mv (.t 21), none⟩,⟨(.x 7), .mv (.t 22), none⟩]) (.seq (.seq (.reg [⟨(.t 23), .mv (.x 3), none⟩,⟨(.t 24), .un .not (.t 23), none⟩,⟨(.t 25), .mv (.t 24), none⟩,⟨(.t 26), .mv (.x 7), (some ((.t 25), false))⟩,⟨(.t 27), .un .not (.t 26), (some ((.t 25), false))⟩,⟨(.t 28), .pick (.t 25) (.c (.bool true)) (.t 27), none⟩,⟨(.t 29), .mv (.t 28), none⟩,⟨(.t 30), .mv (.x 6), (some ((.t 29), false))⟩,⟨(.t 31), .bin .gtr (.t 30) (.c (.int .u64 40)), (some ((.t 29), false))⟩,⟨(.x 32), .pick (.t 29) (.c (.bool true)) (.t 31), none⟩]) (.cond (.x 32) (.seq (.reg [⟨(.x 2), .mv (.c (.int .i64 0)), none⟩,⟨(.x 3), .mv (.c (.bool false)), none⟩]) .ret) .skip)) (.seq (.seq (.reg [⟨(.x 33), .mv (.x 4), none⟩]) (.cond (.x 33) (.seq (.reg [⟨(.t 34), .mv (.x 6), none⟩,⟨(.t 35), .conv .i64 (.t 34), none⟩,⟨(.t 36), .un .neg (.t 35), none⟩,⟨(.x 2), .mv (.t 36), none⟩,⟨(.x 3), .mv (.c (.bool true)), none⟩]) .ret) .skip)) (.seq (.reg [⟨(.t 37), .mv (.x 6), none⟩,⟨(.t 38), .conv .i64 (.t 37), none⟩,⟨(.x 2), .mv (.t 38), none⟩,⟨(.x 3), .mv (.c (.bool true)), none⟩]) .ret)))))))
def resq_exponent : List RV := [.t 2, .t 3]
theorem isq_exponent : IsFn fnq_exponent 110 codeq_exponent resq_exponent := ⟨⟨Tryz.f110, _, Tryz.func110, rfl, rfl, by kernel_rfl, by kernel_rfl, by kernel_rfl⟩⟩
noncomputable def fnq_digits : FnD := ⟨Tryz.prog, [0, 2, 4, 6, 7, 8, 9, 17], [], 21, 0, false⟩
def codeq_digits : DC := (.seq (.reg [⟨(.x 2), .mv (.c (.bool false)), none⟩]) (.seq (.seq (.reg [⟨(.t 5), .mv (.x 0), none⟩,⟨(.x 6), .s2b (.t 5), none⟩,⟨(.x 7), .len 1 (.x 6), none⟩,⟨(.x 8), .mv (.c (.int .i64 0)), none⟩]) (.block 0 (.loop (.seq (.reg [⟨(.x 9), .bin .lss (.x 8) (.x 7), none⟩]) (.seq (.cond (.x 9) .skip (.exit 0)) (.seq (.block 1 (.seq (.reg [⟨(.t 10), .iad 1 (.x 6) (.x 8), none⟩,⟨(.t 11), .ld (.t 10), none⟩,⟨(.x 4), .mv (.t 11), none⟩]) (.seq (.reg [⟨(.t 12), .mv (.x 4), none⟩,⟨(.t 13), .bin .lss (.t 12) (.c (.int .u8 48)), none⟩,⟨(.t 14), .mv (.t 13), none⟩,⟨(.t 15), .mv (.x 4), (some ((.t 14), false))⟩,⟨(.t 16), .bin .gtr (.t 15) (.c (.int .u8 57)), (some ((.t 14), false))⟩,⟨(.x 17), .pick (.t 14) (.c (.bool true)) (.t 16), none⟩]) (.cond (.x 17) (.seq (.reg [⟨(.x 2), .mv (.c (.bool false)), none⟩]) .ret) .skip)))) (.reg [⟨(.t 18), .bin .add (.x 8) (.c (.int .i64 1)), none⟩,⟨(.x 8), .mv (.t 18), none⟩]))))))) (.seq (.reg [⟨(.t 19), .mv (.x 0), none⟩,⟨(.t 20), .bin .neq (.t 19) (.c (.str [])), none⟩,⟨(.x 2), .mv (.t 20), none⟩]) .ret)))
def resq_digits : List RV := [.t 2]
theorem isq_digits : IsFn fnq_digits 111 codeq_digits resq_digits := ⟨⟨Tryz.f111, _, Tryz.func111, rfl, rfl, by kernel_rfl, by kernel_rfl, by kernel_rfl⟩⟩
noncomputable def fnq_significant : FnD := ⟨Tryz.prog, [0, 2, 6], [], 8, 0, false⟩
def codeq_significant : DC := (.seq (.reg [⟨(.x 2), .mv (.c (.str [])), none⟩]) (.seq (.seq (.reg [⟨(.t 3), .mv (.x 0), none⟩,⟨(.t 4), .call 147 [(.t 3), (.c (.str [48]))], none⟩,⟨(.x 0), .mv (.t 4), none⟩]) (.seq (.reg [⟨(.t 5), .mv (.x 0), none⟩,⟨(.x 6), .bin .eql (.t 5) (.c (.str [])), none⟩]) (.cond (.x 6) (.seq (.reg [⟨(.x 2), .mv (.c (.str [48])), none⟩]) .ret) .skip))) (.seq (.reg [⟨(.t 7), .mv (.x 0), none⟩,⟨(.x 2), .mv (.t 7), none⟩]) .ret)))
def resq_significant : List RV := [.t 2]
theorem isq_significant : IsFn fnq_significant 112 codeq_significant resq_significant := ⟨⟨Tryz.f112, _, Tryz.func112, rfl, rfl, by kernel_rfl, by kernel_rfl, by kernel_rfl⟩⟩
end Go.Proofs.YteiagmmfapbaiaaGreatDoor
