/- Lemmas of the walk; no conditions beyond those that each states. -/
import Derived.Test.YtakchfljhihdmaaDoorProg
import Derived.KernelRfl
import Derived.Shelf.Strings.Builder1
import Derived.Shelf.Strings.Builder2
import Derived.Shelf.Strings.OnBuilder
import Derived.Shelf.Small.Bits
import Derived.Shelf.Strings.BuilderF
import Derived.Shelf.Strings.BuilderK
import Derived.Shelf.Strings.Builder2Cap
import Derived.Shelf.Strconv.Itoa0
import Derived.Shelf.Strconv.Itoa1
import Derived.Shelf.LaysM
import Derived.Shelf.Strconv.Itoa2
import Derived.Shelf.Strconv.Itoa3
import Derived.Shelf.Strings.Prefix
import Derived.Shelf.Bits.Mul64
import Derived.Shelf.Strings.Repeat
import Derived.Ground.Names2Prog
import Derived.Shelf.Slices.ReverseS
import Derived.Shelf.Slices.Cells
import Derived.Ground.SlgnProg
import Derived.Shelf.SlicesE.Reverse
import Derived.Shelf.SlicesE.Clone
import Derived.Test.YtakchfljhihdmaaDoorT1
import Derived.Test.YtakchfljhihdmaaDoorN1
import Derived.Test.YtakchfljhihdmaaDoorD2
set_option linter.unusedSimpArgs false
set_option linter.unusedVariables false
set_option linter.unnecessarySimpa false
namespace Go.Proofs.YtakchfljhihdmaaDoor
open Go Go.Dat Go.Proofs Nat32

theorem rTimes_calls (x v b : Nat) (ha : (limbs x).length ≤ 100000) (hv : v < 4294967296) (hb : b ≤ 100000) : PCalls Tryd.prog 77 [.sl 1 (us (limbs x)), .int .u32 v, .int .i64 b] (.sl 1 (us (limbs (4294967296 ^ b * (x * v))))) := by
  refine PCalls_of isrTimes (by simp [fnrTimes]) ?_
  unfold coderTimes
  have laX := lim_limbs x
  refine W_seq (W_reg ?_)
  simp (config := {maxSteps := 1000000}) (disch := omega) only [cA, cB, lk, lkH, Dst.onT, Dst.onX, Dst.slot, setF, setH, mapF, mapH, initF, binE, unE, cnt, boundE, newsE, freshE, opE, rmH, blkQ, frz_us, Nat.reduceEqDiff, Nat.reduceLT, Nat.reduceAdd, ↓reduceIte, reduceCtorEq, Nat.reduceLeDiff]
  repeat refine ⟨by omega, ?_⟩
  refine W_seq (W_reg ?_)
  simp (config := {maxSteps := 1000000}) (disch := omega) only [cA, cB, lk, lkH, Dst.onT, Dst.onX, Dst.slot, setF, setH, mapF, mapH, initF, binE, unE, cnt, boundE, newsE, freshE, opE, rmH, blkQ, frz_us, Nat.reduceEqDiff, Nat.reduceLT, Nat.reduceAdd, ↓reduceIte, reduceCtorEq, Nat.reduceLeDiff, us_rep, nbrTimes]
  repeat refine ⟨by omega, ?_⟩
  refine W_seq (W_reg ?_)
  simp (config := {maxSteps := 1000000}) (disch := omega) only [cA, cB, lk, lkH, Dst.onT, Dst.onX, Dst.slot, setF, setH, mapF, mapH, initF, binE, unE, cnt, boundE, newsE, freshE, opE, rmH, blkQ, frz_us, Nat.reduceEqDiff, Nat.reduceLT, Nat.reduceAdd, ↓reduceIte, reduceCtorEq, Nat.reduceLeDiff]
  repeat refine ⟨by omega, ?_⟩
  refine W_seq (W_seq (W_reg ?_))
  simp (config := {maxSteps := 1000000}) (disch := omega) only [cA, cB, lk, lkH, Dst.onT, Dst.onX, Dst.slot, setF, setH, mapF, mapH, initF, binE, unE, cnt, boundE, newsE, freshE, opE, rmH, blkQ, frz_us, Nat.reduceEqDiff, Nat.reduceLT, Nat.reduceAdd, ↓reduceIte, reduceCtorEq, Nat.reduceLeDiff]
  repeat refine ⟨by omega, ?_⟩
  refine W_block (W_loop (σ := List Nat × Nat) (fun s => [(0, .sl 1 (us (limbs x))), (1, .int .u32 v), (7, .osl 1 12 0 (b + s.1.length)), (8, .int .u64 s.2), (9, .int .i64 s.1.length)])
    (fun s => [(12, us (List.replicate b 0 ++ s.1))])
    (fun s => s.1.length ≤ (limbs x).length + 1 ∧ lim s.1 ∧ s.2 < 4294967296 ∧ nv s.1 + 4294967296 ^ s.1.length * s.2 = nv ((limbs x).take s.1.length) * v)
    (fun s => (limbs x).length + 1 - s.1.length) ([], 0) ⟨Nat.zero_le _, lim_nil, by decide, by simp [nv]⟩ ?_ ?_ ?_)
  · simp [subF, lk]
  · simp
  · rintro ⟨q, c⟩ ⟨hn, hlq, hc, hnv⟩
    simp only at hn hlq hc hnv ⊢
    refine W_seq (W_seq (W_reg ?_))
    simp (config := {maxSteps := 1000000}) (disch := omega) only [cA, cB, lk, lkH, Dst.onT, Dst.onX, Dst.slot, setF, setH, mapF, mapH, initF, binE, unE, cnt, boundE, newsE, freshE, opE, rmH, blkQ, frz_us, Nat.reduceEqDiff, Nat.reduceLT, Nat.reduceAdd, ↓reduceIte, reduceCtorEq, Nat.reduceLeDiff, us_length]
    repeat refine ⟨by omega, ?_⟩
    refine W_cond rfl (fun hcd => W_skip ?_) (fun hcd => W_exit ?_)
    · have hlt := of_decide_eq_true hcd
      have hxn := lim_getD laX q.length
      have cx := rLimb_calls (limbs x) q.length (by omega) laX
      have hsum := mul_step (a := (limbs x).getD q.length 0) hnv
      rw [← nv_take_succ', ← Nat.pow_succ] at hsum
      have hcl := mul_div_lt hxn hv hc
      simp (config := {maxSteps := 1000000}) (disch := omega) only [cA, cB, lk, lkH, Dst.onT, Dst.onX, Dst.slot, setF, setH, mapF, mapH, initF, binE, unE, cnt, boundE, newsE, freshE, opE, rmH, blkQ, frz_us, Nat.reduceEqDiff, Nat.reduceLT, Nat.reduceAdd, ↓reduceIte, reduceCtorEq, Nat.reduceLeDiff]
      repeat refine ⟨by omega, ?_⟩
      refine W_seq (W_block (W_seq (W_reg ?_)))
      simp (config := {maxSteps := 1000000}) (disch := omega) only [cA, cB, lk, lkH, Dst.onT, Dst.onX, Dst.slot, setF, setH, mapF, mapH, initF, binE, unE, cnt, boundE, newsE, freshE, opE, rmH, blkQ, frz_us, Nat.reduceEqDiff, Nat.reduceLT, Nat.reduceAdd, ↓reduceIte, reduceCtorEq, Nat.reduceLeDiff]
      repeat refine ⟨by omega, ?_⟩
      refine callC_pure cx rfl ?_
      generalize (limbs x).getD q.length 0 = xn at *
      simp (config := {maxSteps := 1000000}) (disch := omega) only [cA, cB, lk, lkH, Dst.onT, Dst.onX, Dst.slot, setF, setH, mapF, mapH, initF, binE, unE, cnt, boundE, newsE, freshE, opE, rmH, blkQ, frz_us, Nat.reduceEqDiff, Nat.reduceLT, Nat.reduceAdd, ↓reduceIte, reduceCtorEq, Nat.reduceLeDiff, mul_w, mul_w2]
      repeat refine ⟨by omega, ?_⟩
      rw [show ((xn : Int) * (v : Int) + (c : Int)) = ((xn * v + c : Nat) : Int) by simp]
      refine W_reg ?_
      have hsm : xn * v + c < 18446744073709551616 := by
        have := mul_le hxn hv
        omega
      generalize xn * v + c = s at *
      have hlen : (List.replicate b 0 ++ q).length = b + q.length := by simp
      have hap : List.replicate b 0 ++ q ++ [s % 4294967296] = List.replicate b 0 ++ (q ++ [s % 4294967296]) := by simp
      simp (config := {maxSteps := 1000000}) (disch := omega) only [cA, cB, lk, lkH, Dst.onT, Dst.onX, Dst.slot, setF, setH, mapF, mapH, initF, binE, unE, cnt, boundE, newsE, freshE, opE, rmH, blkQ, frz_us, Nat.reduceEqDiff, Nat.reduceLT, Nat.reduceAdd, ↓reduceIte, reduceCtorEq, Nat.reduceLeDiff, wu32', mod32, rf1, one1, newsE, shr32u64, us_length, us_snoc, us_purge, hlen, hap]
      repeat refine ⟨by omega, ?_⟩
      refine W_reg ?_
      simp (config := {maxSteps := 1000000}) (disch := omega) only [cA, cB, lk, lkH, Dst.onT, Dst.onX, Dst.slot, setF, setH, mapF, mapH, initF, binE, unE, cnt, boundE, newsE, freshE, opE, rmH, blkQ, frz_us, Nat.reduceEqDiff, Nat.reduceLT, Nat.reduceAdd, ↓reduceIte, reduceCtorEq, Nat.reduceLeDiff]
      have hql : (q ++ [s % 4294967296]).length = q.length + 1 := by simp
      refine ⟨(q ++ [s % 4294967296], s / 4294967296), ⟨by simp only; omega, ?_, hcl, ?_⟩, by simp only; omega, by simp [subF, lk, Nat.add_assoc], by simp⟩
      · intro z hz
        rcases List.mem_append.1 hz with h | h
        · exact hlq z h
        · rw [List.mem_singleton.1 h]; omega
      · simp only [hql]
        rw [nv_app]
        simp only [nv, Nat.mul_zero, Nat.add_zero]
        exact hsum
    · have hge := of_decide_eq_false hcd
      have hl : q.length = (limbs x).length + 1 := by omega
      rw [List.take_of_length_le (by omega), nv_limbs, hl] at hnv
      have hxl : x < 4294967296 ^ (limbs x).length := limbs_len.1 (Nat.le_refl _)
      have hc0 : c = 0 := c_zero (by rw [hnv]; exact mul_lt_pow hxl hv)
      subst hc0
      rw [Nat.mul_zero, Nat.add_zero] at hnv
      have hlim : lim (List.replicate b 0 ++ q) := by
        intro z hz
        rcases List.mem_append.1 hz with h | h
        · rw [List.eq_of_mem_replicate h]; decide
        · exact hlq z h
      have hlen : b + q.length = (List.replicate b 0 ++ q).length := by simp
      have ct := rTrim_calls (List.replicate b 0 ++ q) (by omega) hlim
      rw [nv_rep_app, hnv] at ct
      simp (config := {maxSteps := 1000000}) (disch := omega) only [cA, cB, lk, lkH, Dst.onT, Dst.onX, Dst.slot, setF, setH, mapF, mapH, initF, binE, unE, cnt, boundE, newsE, freshE, opE, rmH, blkQ, frz_us, Nat.reduceEqDiff, Nat.reduceLT, Nat.reduceAdd, ↓reduceIte, reduceCtorEq, Nat.reduceLeDiff]
      repeat refine ⟨by omega, ?_⟩
      refine W_seq (W_reg ?_)
      simp (config := {maxSteps := 1000000}) (disch := omega) only [cA, cB, lk, lkH, Dst.onT, Dst.onX, Dst.slot, setF, setH, mapF, mapH, initF, binE, unE, cnt, boundE, newsE, freshE, opE, rmH, blkQ, frz_us, Nat.reduceEqDiff, Nat.reduceLT, Nat.reduceAdd, ↓reduceIte, reduceCtorEq, Nat.reduceLeDiff]
      repeat refine ⟨by omega, ?_⟩
      refine callC_freeze rfl 12 (cells := us (List.replicate b 0 ++ q)) (by simp [lkH]) (us_rf _) ?_
      simp (config := {maxSteps := 1000000}) (disch := omega) only [cA, cB, lk, lkH, Dst.onT, Dst.onX, Dst.slot, setF, setH, mapF, mapH, initF, binE, unE, cnt, boundE, newsE, freshE, opE, rmH, blkQ, frz_us, Nat.reduceEqDiff, Nat.reduceLT, Nat.reduceAdd, ↓reduceIte, reduceCtorEq, Nat.reduceLeDiff, frz_us hlen]
      refine callC_pure ct rfl ?_
      simp (config := {maxSteps := 1000000}) (disch := omega) only [cA, cB, lk, lkH, Dst.onT, Dst.onX, Dst.slot, setF, setH, mapF, mapH, initF, binE, unE, cnt, boundE, newsE, freshE, opE, rmH, blkQ, frz_us, Nat.reduceEqDiff, Nat.reduceLT, Nat.reduceAdd, ↓reduceIte, reduceCtorEq, Nat.reduceLeDiff]
      exact W_ret (RetP_1 (.imm rfl))

theorem rMul_calls (a b : List Nat) (ha : a.length ≤ 10000) (hb : b.length ≤ 10000) (la : lim a) (lb : lim b) : PCalls Tryd.prog 64 [.sl 1 (us a), .sl 1 (us b)] (.sl 1 (us (limbs (vn a * vn b)))) := by
  have h1 := vn_len la
  have h2 := vn_len lb
  have c1 := rTake_calls a (by omega) la
  have c2 := rTake_calls b (by omega) lb
  refine PCalls_of isrMul (by simp [fnrMul]) ?_
  unfold coderMul
  generalize vn a = x at h1 c1 ⊢
  generalize vn b = y at h2 c2 ⊢
  have laY := lim_limbs y
  refine W_seq (W_reg ?_)
  simp (config := {maxSteps := 1000000}) (disch := omega) only [cA, cB, lk, lkH, Dst.onT, Dst.onX, Dst.slot, setF, setH, mapF, mapH, initF, binE, unE, cnt, boundE, newsE, freshE, opE, rmH, blkQ, frz_us, Nat.reduceEqDiff, Nat.reduceLT, Nat.reduceAdd, ↓reduceIte, reduceCtorEq, Nat.reduceLeDiff]
  repeat refine ⟨by omega, ?_⟩
  refine W_seq (W_reg ?_)
  simp (config := {maxSteps := 1000000}) (disch := omega) only [cA, cB, lk, lkH, Dst.onT, Dst.onX, Dst.slot, setF, setH, mapF, mapH, initF, binE, unE, cnt, boundE, newsE, freshE, opE, rmH, blkQ, frz_us, Nat.reduceEqDiff, Nat.reduceLT, Nat.reduceAdd, ↓reduceIte, reduceCtorEq, Nat.reduceLeDiff]
  repeat refine ⟨by omega, ?_⟩
  refine callC_pure c1 rfl ?_
  simp (config := {maxSteps := 1000000}) (disch := omega) only [cA, cB, lk, lkH, Dst.onT, Dst.onX, Dst.slot, setF, setH, mapF, mapH, initF, binE, unE, cnt, boundE, newsE, freshE, opE, rmH, blkQ, frz_us, Nat.reduceEqDiff, Nat.reduceLT, Nat.reduceAdd, ↓reduceIte, reduceCtorEq, Nat.reduceLeDiff]
  repeat refine ⟨by omega, ?_⟩
  refine callC_pure c2 rfl ?_
  simp (config := {maxSteps := 1000000}) (disch := omega) only [cA, cB, lk, lkH, Dst.onT, Dst.onX, Dst.slot, setF, setH, mapF, mapH, initF, binE, unE, cnt, boundE, newsE, freshE, opE, rmH, blkQ, frz_us, Nat.reduceEqDiff, Nat.reduceLT, Nat.reduceAdd, ↓reduceIte, reduceCtorEq, Nat.reduceLeDiff]
  repeat refine ⟨by omega, ?_⟩
  refine W_seq (W_reg ?_)
  simp (config := {maxSteps := 1000000}) (disch := omega) only [cA, cB, lk, lkH, Dst.onT, Dst.onX, Dst.slot, setF, setH, mapF, mapH, initF, binE, unE, cnt, boundE, newsE, freshE, opE, rmH, blkQ, frz_us, Nat.reduceEqDiff, Nat.reduceLT, Nat.reduceAdd, ↓reduceIte, reduceCtorEq, Nat.reduceLeDiff]
  repeat refine ⟨by omega, ?_⟩
  refine W_seq (W_seq (W_reg ?_))
  simp (config := {maxSteps := 1000000}) (disch := omega) only [cA, cB, lk, lkH, Dst.onT, Dst.onX, Dst.slot, setF, setH, mapF, mapH, initF, binE, unE, cnt, boundE, newsE, freshE, opE, rmH, blkQ, frz_us, Nat.reduceEqDiff, Nat.reduceLT, Nat.reduceAdd, ↓reduceIte, reduceCtorEq, Nat.reduceLeDiff]
  repeat refine ⟨by omega, ?_⟩
  refine W_block (W_loop (σ := Nat) (fun n => [(0, .sl 1 (us (limbs x))), (1, .sl 1 (us (limbs y))), (5, if n = 0 then .nils else .sl 1 (us (limbs (x * nv ((limbs y).take n))))), (6, .int .i64 n)]) (fun _ => []) (fun n => n ≤ (limbs y).length) (fun n => (limbs y).length - n) 0 (Nat.zero_le _) ?_ rfl ?_)
  · simp [subF, lk]
  · rintro n hn
    refine W_seq (W_seq (W_reg ?_))
    simp (config := {maxSteps := 1000000}) (disch := omega) only [cA, cB, lk, lkH, Dst.onT, Dst.onX, Dst.slot, setF, setH, mapF, mapH, initF, binE, unE, cnt, boundE, newsE, freshE, opE, rmH, blkQ, frz_us, Nat.reduceEqDiff, Nat.reduceLT, Nat.reduceAdd, ↓reduceIte, reduceCtorEq, Nat.reduceLeDiff, us_length]
    repeat refine ⟨by omega, ?_⟩
    refine W_cond rfl (fun hcd => W_skip ?_) (fun hcd => W_exit ?_)
    · have hlt := of_decide_eq_true hcd
      have hlt : n < (limbs y).length := by omega
      have hyn := lim_getD laY n
      have hts := nv_take_succ' (a := limbs y) n
      have ct := rTimes_calls x ((limbs y).getD n 0) n (by omega) hyn (by omega)
      have hz : (limbs (nv ((limbs y).take n))).length ≤ (limbs y).length := limbs_len.2 (Nat.lt_of_lt_of_le (nv_lt (lim_take laY n)) (Nat.pow_le_pow_right (by decide) (by simp; omega)))
      have hw : (limbs ((limbs y).getD n 0)).length ≤ 1 := limbs_len.2 (by omega)
      have l1 := len_mul (x := x) (show (limbs x).length ≤ 10000 by omega) hz
      have hp : (limbs (4294967296 ^ n)).length ≤ n + 1 := limbs_len.2 (Nat.pow_lt_pow_right (by decide) (by omega))
      have l2 := len_mul (y := x * (limbs y).getD n 0) hp (len_mul (x := x) (show (limbs x).length ≤ 10000 by omega) hw)
      have ca := rAdd_calls (limbs (x * nv ((limbs y).take n))) (limbs (4294967296 ^ n * (x * (limbs y).getD n 0))) (by omega) (by omega) (lim_limbs _) (lim_limbs _)
      have he : x * nv ((limbs y).take n) + 4294967296 ^ n * (x * (limbs y).getD n 0) = x * nv ((limbs y).take (n + 1)) := by
        rw [hts, Nat.mul_add]
        congr 1
        rw [← Nat.mul_assoc, Nat.mul_comm (4294967296 ^ n) x, Nat.mul_assoc]
      rw [vn_limbs, vn_limbs, he] at ca
      simp (config := {maxSteps := 1000000}) (disch := omega) only [cA, cB, lk, lkH, Dst.onT, Dst.onX, Dst.slot, setF, setH, mapF, mapH, initF, binE, unE, cnt, boundE, newsE, freshE, opE, rmH, blkQ, frz_us, Nat.reduceEqDiff, Nat.reduceLT, Nat.reduceAdd, ↓reduceIte, reduceCtorEq, Nat.reduceLeDiff]
      repeat refine ⟨by omega, ?_⟩
      refine W_seq (W_block (W_reg ?_))
      simp (config := {maxSteps := 1000000}) (disch := omega) only [cA, cB, lk, lkH, Dst.onT, Dst.onX, Dst.slot, setF, setH, mapF, mapH, initF, binE, unE, cnt, boundE, newsE, freshE, opE, rmH, blkQ, frz_us, Nat.reduceEqDiff, Nat.reduceLT, Nat.reduceAdd, ↓reduceIte, reduceCtorEq, Nat.reduceLeDiff, us_length, us_getD]
      repeat refine ⟨by omega, ?_⟩
      refine callC_pure ct rfl ?_
      simp (config := {maxSteps := 1000000}) (disch := omega) only [cA, cB, lk, lkH, Dst.onT, Dst.onX, Dst.slot, setF, setH, mapF, mapH, initF, binE, unE, cnt, boundE, newsE, freshE, opE, rmH, blkQ, frz_us, Nat.reduceEqDiff, Nat.reduceLT, Nat.reduceAdd, ↓reduceIte, reduceCtorEq, Nat.reduceLeDiff]
      repeat refine ⟨by omega, ?_⟩
      refine callC_nil (rs := [.sl 1 (us (limbs (x * nv ((limbs y).take n)))), .sl 1 (us (limbs (4294967296 ^ n * (x * (limbs y).getD n 0))))]) rfl rfl (fun k d r h1 h2 => ?_) ca rfl ?_
      · match k with
        | 0 =>
          simp at h1 h2; subst h1; subst h2
          by_cases hn0 : n = 0
          · subst hn0
            simp only [if_true, List.take_zero, nv, Nat.mul_zero, limbs_zero, us_nil]
            exact .nil 1
          · rw [if_neg hn0]; exact .same _
        | 1 => simp at h1 h2; subst h1; subst h2; exact .same _
        | k + 2 => simp at h1
      · simp (config := {maxSteps := 1000000}) (disch := omega) only [cA, cB, lk, lkH, Dst.onT, Dst.onX, Dst.slot, setF, setH, mapF, mapH, initF, binE, unE, cnt, boundE, newsE, freshE, opE, rmH, blkQ, frz_us, Nat.reduceEqDiff, Nat.reduceLT, Nat.reduceAdd, ↓reduceIte, reduceCtorEq, Nat.reduceLeDiff]
        repeat refine ⟨by omega, ?_⟩
        refine W_reg ?_
        simp (config := {maxSteps := 1000000}) (disch := omega) only [cA, cB, lk, lkH, Dst.onT, Dst.onX, Dst.slot, setF, setH, mapF, mapH, initF, binE, unE, cnt, boundE, newsE, freshE, opE, rmH, blkQ, frz_us, Nat.reduceEqDiff, Nat.reduceLT, Nat.reduceAdd, ↓reduceIte, reduceCtorEq, Nat.reduceLeDiff]
        exact ⟨n + 1, by omega, by omega, by simp [subF, lk]⟩
    · have hge := of_decide_eq_false hcd
      have hnl : n = (limbs y).length := by omega
      subst hnl
      simp (config := {maxSteps := 1000000}) (disch := omega) only [cA, cB, lk, lkH, Dst.onT, Dst.onX, Dst.slot, setF, setH, mapF, mapH, initF, binE, unE, cnt, boundE, newsE, freshE, opE, rmH, blkQ, frz_us, Nat.reduceEqDiff, Nat.reduceLT, Nat.reduceAdd, ↓reduceIte, reduceCtorEq, Nat.reduceLeDiff]
      repeat refine ⟨by omega, ?_⟩
      refine W_seq (W_reg ?_)
      simp (config := {maxSteps := 1000000}) (disch := omega) only [cA, cB, lk, lkH, Dst.onT, Dst.onX, Dst.slot, setF, setH, mapF, mapH, initF, binE, unE, cnt, boundE, newsE, freshE, opE, rmH, blkQ, frz_us, Nat.reduceEqDiff, Nat.reduceLT, Nat.reduceAdd, ↓reduceIte, reduceCtorEq, Nat.reduceLeDiff]
      repeat refine ⟨by omega, ?_⟩
      refine W_ret (RetP_1 ?_)
      simp (config := {maxSteps := 1000000}) (disch := omega) only [cA, cB, lk, lkH, Dst.onT, Dst.onX, Dst.slot, setF, setH, mapF, mapH, initF, binE, unE, cnt, boundE, newsE, freshE, opE, rmH, blkQ, frz_us, Nat.reduceEqDiff, Nat.reduceLT, Nat.reduceAdd, ↓reduceIte, reduceCtorEq, Nat.reduceLeDiff]
      repeat refine ⟨by omega, ?_⟩
      rw [List.take_of_length_le (Nat.le_refl _), nv_limbs]
      by_cases hn0 : (limbs y).length = 0
      · rw [if_pos hn0]
        have : y = 0 := limbs_eq_nil.1 (List.eq_nil_of_length_eq_zero hn0)
        subst this
        rw [Nat.mul_zero, limbs_zero]
        exact .nils 1
      · rw [if_neg hn0]; exact .imm rfl
end Go.Proofs.YtakchfljhihdmaaDoor
namespace Go.Proofs.YtakchfljhihdmaaDoor
open Go Go.Dat Go.Proofs Nat32

theorem rBit_calls (a : List Nat) (i : Nat) (ha : a.length ≤ 1000000) (la : lim a) (hi : i / 32 < a.length) : PCalls Tryd.prog 83 [.sl 1 (us a), .int .i64 i] (.int .u32 (nv a / 2 ^ i % 2 : Nat)) := by
  have hx := lim_getD la (i / 32)
  have hm : i % 32 < 32 := Nat.mod_lt _ (by decide)
  have hdl := Nat.lt_of_le_of_lt (Nat.div_le_self (a.getD (i / 32) 0) (2 ^ (i % 32))) hx
  rw [← bit_of la i hi]
  refine PCalls_of isrBit (by simp [fnrBit]) ?_
  unfold coderBit
  have hm2 : i % 32 ≤ 31 := by omega
  repeat (first | (refine W_seq ?_) | (refine W_reg ?_) | (refine W_regd ?_) | (refine W_block ?_) | (refine And.intro (by omega) ?_) | simp (config := {maxSteps := 1000000}) (disch := omega) only [cA, cB, lk, lkH, Dst.onT, Dst.onX, Dst.slot, setF, setH, mapF, mapH, initF, binE, unE, cnt, boundE, newsE, freshE, opE, rmH, blkQ, frz_us, Nat.reduceEqDiff, Nat.reduceLT, Nat.reduceAdd, ↓reduceIte, reduceCtorEq, Nat.reduceLeDiff, tdiv32, tmod32, us_length, us_getD])
  generalize a.getD (i / 32) 0 = x at *
  generalize i % 32 = m at *
  repeat (first | (refine W_seq ?_) | (refine W_reg ?_) | (refine W_regd ?_) | (refine W_block ?_) | (refine And.intro (by omega) ?_) | simp (config := {maxSteps := 1000000}) (disch := omega) only [cA, cB, lk, lkH, Dst.onT, Dst.onX, Dst.slot, setF, setH, mapF, mapH, initF, binE, unE, cnt, boundE, newsE, freshE, opE, rmH, blkQ, frz_us, Nat.reduceEqDiff, Nat.reduceLT, Nat.reduceAdd, ↓reduceIte, reduceCtorEq, Nat.reduceLeDiff, shr_w32 _ _ hm2, and_one hdl])
  exact W_ret (RetP_1 (.imm rfl))

theorem vn1 : vn [1] = 1 := by decide
theorem rDouble_calls (x one : Nat) (hx : (limbs x).length ≤ 10000) (h1 : one ≤ 1) : PCalls Tryd.prog 82 [.sl 1 (us (limbs x)), .int .u32 one] (.sl 1 (us (limbs (2 * x + one)))) := by
  have ct := rTimes_calls x 2 0 (by omega) (by decide) (by decide)
  rw [Nat.pow_zero, Nat.one_mul, Nat.mul_comm x] at ct
  have hl := len_double hx
  have hl2 := len_mono (show 2 * x ≤ 2 * x + 1 by omega)
  have ca := rAdd_calls (limbs (2 * x)) [1] (by omega) (by simp) (lim_limbs _) (lim1 (by decide))
  rw [vn_limbs, vn1] at ca
  refine PCalls_of isrDouble (by simp [fnrDouble]) ?_
  unfold coderDouble
  repeat (first | (refine W_seq ?_) | (refine W_reg ?_) | (refine W_regd ?_) | (refine W_block ?_) | (refine And.intro (by omega) ?_) | simp (config := {maxSteps := 1000000}) (disch := omega) only [cA, cB, lk, lkH, Dst.onT, Dst.onX, Dst.slot, setF, setH, mapF, mapH, initF, binE, unE, cnt, boundE, newsE, freshE, opE, rmH, blkQ, frz_us, Nat.reduceEqDiff, Nat.reduceLT, Nat.reduceAdd, ↓reduceIte, reduceCtorEq, Nat.reduceLeDiff])
  refine callC_pure ct rfl ?_
  repeat (first | (refine W_seq ?_) | (refine W_reg ?_) | (refine W_regd ?_) | (refine W_block ?_) | (refine And.intro (by omega) ?_) | simp (config := {maxSteps := 1000000}) (disch := omega) only [cA, cB, lk, lkH, Dst.onT, Dst.onX, Dst.slot, setF, setH, mapF, mapH, initF, binE, unE, cnt, boundE, newsE, freshE, opE, rmH, blkQ, frz_us, Nat.reduceEqDiff, Nat.reduceLT, Nat.reduceAdd, ↓reduceIte, reduceCtorEq, Nat.reduceLeDiff])
  refine W_cond rfl (fun h => ?_) (fun h => W_skip ?_)
  · have h := of_decide_eq_true h
    have : one = 1 := by omega
    subst this
    repeat (first | (refine W_seq ?_) | (refine W_reg ?_) | (refine W_regd ?_) | (refine W_block ?_) | (refine And.intro (by omega) ?_) | simp (config := {maxSteps := 1000000}) (disch := omega) only [cA, cB, lk, lkH, Dst.onT, Dst.onX, Dst.slot, setF, setH, mapF, mapH, initF, binE, unE, cnt, boundE, newsE, freshE, opE, rmH, blkQ, frz_us, Nat.reduceEqDiff, Nat.reduceLT, Nat.reduceAdd, ↓reduceIte, reduceCtorEq, Nat.reduceLeDiff, usrf1])
    refine callC_pure ca rfl ?_
    repeat (first | (refine W_seq ?_) | (refine W_reg ?_) | (refine W_regd ?_) | (refine W_block ?_) | (refine And.intro (by omega) ?_) | simp (config := {maxSteps := 1000000}) (disch := omega) only [cA, cB, lk, lkH, Dst.onT, Dst.onX, Dst.slot, setF, setH, mapF, mapH, initF, binE, unE, cnt, boundE, newsE, freshE, opE, rmH, blkQ, frz_us, Nat.reduceEqDiff, Nat.reduceLT, Nat.reduceAdd, ↓reduceIte, reduceCtorEq, Nat.reduceLeDiff])
    exact W_ret (RetP_1 (.imm rfl))
  · have h := of_decide_eq_false h
    have : one = 0 := by omega
    subst this
    repeat (first | (refine W_seq ?_) | (refine W_reg ?_) | (refine W_regd ?_) | (refine W_block ?_) | (refine And.intro (by omega) ?_) | simp (config := {maxSteps := 1000000}) (disch := omega) only [cA, cB, lk, lkH, Dst.onT, Dst.onX, Dst.slot, setF, setH, mapF, mapH, initF, binE, unE, cnt, boundE, newsE, freshE, opE, rmH, blkQ, frz_us, Nat.reduceEqDiff, Nat.reduceLT, Nat.reduceAdd, ↓reduceIte, reduceCtorEq, Nat.reduceLeDiff])
    exact W_ret (RetP_1 (.imm rfl))

theorem rDiv_calls (a b : List Nat) (ha : a.length ≤ 1000) (hb : b.length ≤ 1000) (la : lim a) (lb : lim b) :
    PCalls Tryd.prog 62 [.sl 1 (us a), .sl 1 (us b)] (.tup [.sl 1 (us (limbs (vn a / vn b))), .sl 1 (us (limbs (dmod (vn a) (vn b)))), .bool (decide (0 < vn b))]) := by
  have l1 := vn_len la
  have l2 := vn_len lb
  have c1 := rTake_calls a (by omega) la
  have c2 := rTake_calls b (by omega) lb
  refine PCalls_of isrDiv (by simp [fnrDiv]) ?_
  unfold coderDiv
  generalize vn a = x at *
  generalize vn b = y at *
  repeat (first | (refine W_seq ?_) | (refine W_reg ?_) | (refine W_regd ?_) | (refine W_block ?_) | (refine And.intro (by omega) ?_) | simp (config := {maxSteps := 1000000}) (disch := omega) only [cA, cB, lk, lkH, Dst.onT, Dst.onX, Dst.slot, setF, setH, mapF, mapH, initF, binE, unE, cnt, boundE, newsE, freshE, opE, rmH, blkQ, frz_us, Nat.reduceEqDiff, Nat.reduceLT, Nat.reduceAdd, ↓reduceIte, reduceCtorEq, Nat.reduceLeDiff])
  refine callC_pure c1 rfl ?_
  repeat (first | (refine W_seq ?_) | (refine W_reg ?_) | (refine W_regd ?_) | (refine W_block ?_) | (refine And.intro (by omega) ?_) | simp (config := {maxSteps := 1000000}) (disch := omega) only [cA, cB, lk, lkH, Dst.onT, Dst.onX, Dst.slot, setF, setH, mapF, mapH, initF, binE, unE, cnt, boundE, newsE, freshE, opE, rmH, blkQ, frz_us, Nat.reduceEqDiff, Nat.reduceLT, Nat.reduceAdd, ↓reduceIte, reduceCtorEq, Nat.reduceLeDiff])
  refine callC_pure c2 rfl ?_
  repeat (first | (refine W_seq ?_) | (refine W_reg ?_) | (refine W_regd ?_) | (refine W_block ?_) | (refine And.intro (by omega) ?_) | simp (config := {maxSteps := 1000000}) (disch := omega) only [cA, cB, lk, lkH, Dst.onT, Dst.onX, Dst.slot, setF, setH, mapF, mapH, initF, binE, unE, cnt, boundE, newsE, freshE, opE, rmH, blkQ, frz_us, Nat.reduceEqDiff, Nat.reduceLT, Nat.reduceAdd, ↓reduceIte, reduceCtorEq, Nat.reduceLeDiff, us_length])
  refine W_cond rfl (fun h => ?_) (fun h => W_skip ?_)
  · have h := of_decide_eq_true h
    have hy : y = 0 := limbs_eq_nil.1 (List.eq_nil_of_length_eq_zero (by omega))
    subst hy
    repeat (first | (refine W_seq ?_) | (refine W_reg ?_) | (refine W_regd ?_) | (refine W_block ?_) | (refine And.intro (by omega) ?_) | simp (config := {maxSteps := 1000000}) (disch := omega) only [cA, cB, lk, lkH, Dst.onT, Dst.onX, Dst.slot, setF, setH, mapF, mapH, initF, binE, unE, cnt, boundE, newsE, freshE, opE, rmH, blkQ, frz_us, Nat.reduceEqDiff, Nat.reduceLT, Nat.reduceAdd, ↓reduceIte, reduceCtorEq, Nat.reduceLeDiff])
    refine W_ret (RetP_3 ?_ ?_ ?_)
    · rw [Nat.div_zero, limbs_zero]; exact .nils 1
    · rw [show dmod x 0 = 0 from rfl, limbs_zero]; exact .nils 1
    · exact .imm rfl
  · have h := of_decide_eq_false h
    have hy : 0 < y := by
      rcases Nat.eq_zero_or_pos y with e | e
      · subst e; rw [limbs_zero] at h; simp at h
      · exact e
    rw [dmod_pos hy, decide_eq_true hy]
    repeat (first | (refine W_seq ?_) | (refine W_reg ?_) | (refine W_regd ?_) | (refine W_block ?_) | (refine And.intro (by omega) ?_) | simp (config := {maxSteps := 1000000}) (disch := omega) only [cA, cB, lk, lkH, Dst.onT, Dst.onX, Dst.slot, setF, setH, mapF, mapH, initF, binE, unE, cnt, boundE, newsE, freshE, opE, rmH, blkQ, frz_us, Nat.reduceEqDiff, Nat.reduceLT, Nat.reduceAdd, ↓reduceIte, reduceCtorEq, Nat.reduceLeDiff, us_length])
    refine W_nil 7 1 (by simp [lk]) (W_nil 8 1 (by simp [lk, setF]) ?_)
    simp (config := {maxSteps := 1000000}) (disch := omega) only [cA, cB, lk, lkH, Dst.onT, Dst.onX, Dst.slot, setF, setH, mapF, mapH, initF, binE, unE, cnt, boundE, newsE, freshE, opE, rmH, blkQ, frz_us, Nat.reduceEqDiff, Nat.reduceLT, Nat.reduceAdd, ↓reduceIte, reduceCtorEq, Nat.reduceLeDiff]
    have hx0 : x / 2 ^ (32 * (limbs x).length) = 0 := Nat.div_eq_of_lt (by rw [← pow32]; exact limbs_len.1 (Nat.le_refl _))
    refine W_loop (σ := Nat × Nat × Nat) (fun z => [(0, .sl 1 (us (limbs x))), (1, .sl 1 (us (limbs y))), (7, .sl 1 (us (limbs z.2.1))), (8, .sl 1 (us (limbs z.2.2))), (9, .int .i64 ((z.1 : Int) - 1))]) (fun _ => [])
      (fun z => z.1 ≤ 32 * (limbs x).length ∧ x / 2 ^ z.1 = z.2.1 * y + z.2.2 ∧ z.2.2 < y) (fun z => z.1) (32 * (limbs x).length, 0, 0) ⟨Nat.le_refl _, by simp [hx0], hy⟩ ?_ rfl ?_
    · simp [subF, lk, limbs_zero, us]
    · rintro ⟨j, q, r⟩ ⟨hj, hinv, hr⟩
      simp only at hj hinv hr ⊢
      have hqx : q ≤ x := by
        have h1 : q ≤ q * y := Nat.le_mul_of_pos_right _ hy
        have h2 := Nat.div_le_self x (2 ^ j)
        omega
      have lq := len_mono hqx
      have lr := len_mono (Nat.le_of_lt hr)
      repeat (first | (refine W_seq ?_) | (refine W_reg ?_) | (refine W_regd ?_) | (refine W_block ?_) | (refine And.intro (by omega) ?_) | simp (config := {maxSteps := 1000000}) (disch := omega) only [cA, cB, lk, lkH, Dst.onT, Dst.onX, Dst.slot, setF, setH, mapF, mapH, initF, binE, unE, cnt, boundE, newsE, freshE, opE, rmH, blkQ, frz_us, Nat.reduceEqDiff, Nat.reduceLT, Nat.reduceAdd, ↓reduceIte, reduceCtorEq, Nat.reduceLeDiff])
      refine W_cond rfl (fun hc => W_skip ?_) (fun hc => W_exit ?_)
      · have hc := of_decide_eq_true hc
        obtain ⟨i, rfl⟩ : ∃ i, j = i + 1 := ⟨j - 1, by omega⟩
        have hs := bit_step x i
        rw [hinv] at hs
        have hb1 : x / 2 ^ i % 2 < 2 := Nat.mod_lt _ (by decide)
        have cb := rBit_calls (limbs x) i (by omega) (lim_limbs x) (by omega)
        rw [nv_limbs] at cb
        generalize hbit : x / 2 ^ i % 2 = bt at *
        have cd := rDouble_calls r bt (by omega) (by omega)
        have lrd : (limbs (2 * r + bt)).length ≤ (limbs y).length + 1 := Nat.le_trans (len_mono (by omega)) (len_double (Nat.le_refl _))
        have cs := rSub_calls (limbs (2 * r + bt)) (limbs y) (by omega) (by omega) (lim_limbs _) (lim_limbs _)
        rw [vn_limbs, vn_limbs] at cs
        have e1 : (((i + 1 : Nat) : Int) - 1) = (i : Int) := by omega
        (replace hs := Hid.mk hs; replace hbit := Hid.mk hbit; replace hinv := Hid.mk hinv)
        repeat (first | (refine W_seq ?_) | (refine W_reg ?_) | (refine W_regd ?_) | (refine W_block ?_) | (refine And.intro (by omega) ?_) | simp (config := {maxSteps := 1000000}) (disch := omega) only [cA, cB, lk, lkH, Dst.onT, Dst.onX, Dst.slot, setF, setH, mapF, mapH, initF, binE, unE, cnt, boundE, newsE, freshE, opE, rmH, blkQ, frz_us, Nat.reduceEqDiff, Nat.reduceLT, Nat.reduceAdd, ↓reduceIte, reduceCtorEq, Nat.reduceLeDiff, e1])
        refine callC_pure cb rfl ?_
        repeat (first | (refine W_seq ?_) | (refine W_reg ?_) | (refine W_regd ?_) | (refine W_block ?_) | (refine And.intro (by omega) ?_) | simp (config := {maxSteps := 1000000}) (disch := omega) only [cA, cB, lk, lkH, Dst.onT, Dst.onX, Dst.slot, setF, setH, mapF, mapH, initF, binE, unE, cnt, boundE, newsE, freshE, opE, rmH, blkQ, frz_us, Nat.reduceEqDiff, Nat.reduceLT, Nat.reduceAdd, ↓reduceIte, reduceCtorEq, Nat.reduceLeDiff])
        refine callC_pure cd rfl ?_
        repeat (first | (refine W_seq ?_) | (refine W_reg ?_) | (refine W_regd ?_) | (refine W_block ?_) | (refine And.intro (by omega) ?_) | simp (config := {maxSteps := 1000000}) (disch := omega) only [cA, cB, lk, lkH, Dst.onT, Dst.onX, Dst.slot, setF, setH, mapF, mapH, initF, binE, unE, cnt, boundE, newsE, freshE, opE, rmH, blkQ, frz_us, Nat.reduceEqDiff, Nat.reduceLT, Nat.reduceAdd, ↓reduceIte, reduceCtorEq, Nat.reduceLeDiff])
        refine callC_pure cs rfl ?_
        repeat (first | (refine W_seq ?_) | (refine W_reg ?_) | (refine W_regd ?_) | (refine W_block ?_) | (refine And.intro (by omega) ?_) | simp (config := {maxSteps := 1000000}) (disch := omega) only [cA, cB, lk, lkH, Dst.onT, Dst.onX, Dst.slot, setF, setH, mapF, mapH, initF, binE, unE, cnt, boundE, newsE, freshE, opE, rmH, blkQ, frz_us, Nat.reduceEqDiff, Nat.reduceLT, Nat.reduceAdd, ↓reduceIte, reduceCtorEq, Nat.reduceLeDiff])
        refine W_cond rfl (fun h2 => ?_) (fun h2 => ?_)
        · have h2 := of_decide_eq_true h2
          have c1' := rDouble_calls q 1 (by omega) (by omega)
          repeat (first | (refine W_seq ?_) | (refine W_reg ?_) | (refine W_regd ?_) | (refine W_block ?_) | (refine And.intro (by omega) ?_) | simp (config := {maxSteps := 1000000}) (disch := omega) only [cA, cB, lk, lkH, Dst.onT, Dst.onX, Dst.slot, setF, setH, mapF, mapH, initF, binE, unE, cnt, boundE, newsE, freshE, opE, rmH, blkQ, frz_us, Nat.reduceEqDiff, Nat.reduceLT, Nat.reduceAdd, ↓reduceIte, reduceCtorEq, Nat.reduceLeDiff])
          refine callC_pure c1' rfl ?_
          repeat (first | (refine W_seq ?_) | (refine W_reg ?_) | (refine W_regd ?_) | (refine W_block ?_) | (refine And.intro (by omega) ?_) | simp (config := {maxSteps := 1000000}) (disch := omega) only [cA, cB, lk, lkH, Dst.onT, Dst.onX, Dst.slot, setF, setH, mapF, mapH, initF, binE, unE, cnt, boundE, newsE, freshE, opE, rmH, blkQ, frz_us, Nat.reduceEqDiff, Nat.reduceLT, Nat.reduceAdd, ↓reduceIte, reduceCtorEq, Nat.reduceLeDiff, e1])
          refine ⟨(i, 2 * q + 1, 2 * r + bt - y), ⟨by simp only; omega, ?_, by simp only; omega⟩, by simp only; omega, by simp [subF, lk]⟩
          simp only
          rw [hs.out, Nat.add_mul, Nat.mul_assoc]; omega
        · have h2 := of_decide_eq_false h2
          have c0' := rDouble_calls q 0 (by omega) (by omega)
          repeat (first | (refine W_seq ?_) | (refine W_reg ?_) | (refine W_regd ?_) | (refine W_block ?_) | (refine And.intro (by omega) ?_) | simp (config := {maxSteps := 1000000}) (disch := omega) only [cA, cB, lk, lkH, Dst.onT, Dst.onX, Dst.slot, setF, setH, mapF, mapH, initF, binE, unE, cnt, boundE, newsE, freshE, opE, rmH, blkQ, frz_us, Nat.reduceEqDiff, Nat.reduceLT, Nat.reduceAdd, ↓reduceIte, reduceCtorEq, Nat.reduceLeDiff])
          refine callC_pure c0' rfl ?_
          repeat (first | (refine W_seq ?_) | (refine W_reg ?_) | (refine W_regd ?_) | (refine W_block ?_) | (refine And.intro (by omega) ?_) | simp (config := {maxSteps := 1000000}) (disch := omega) only [cA, cB, lk, lkH, Dst.onT, Dst.onX, Dst.slot, setF, setH, mapF, mapH, initF, binE, unE, cnt, boundE, newsE, freshE, opE, rmH, blkQ, frz_us, Nat.reduceEqDiff, Nat.reduceLT, Nat.reduceAdd, ↓reduceIte, reduceCtorEq, Nat.reduceLeDiff, e1])
          refine ⟨(i, 2 * q, 2 * r + bt), ⟨by simp only; omega, ?_, by simp only; omega⟩, by simp only; omega, by simp [subF, lk]⟩
          simp only
          rw [hs.out, Nat.mul_assoc]; omega
      · have hc := of_decide_eq_false hc
        have : j = 0 := by omega
        subst this
        rw [Nat.pow_zero, Nat.div_one] at hinv
        obtain ⟨d1, d2⟩ := div_fin hinv hr
        repeat (first | (refine W_seq ?_) | (refine W_reg ?_) | (refine W_regd ?_) | (refine W_block ?_) | (refine And.intro (by omega) ?_) | simp (config := {maxSteps := 1000000}) (disch := omega) only [cA, cB, lk, lkH, Dst.onT, Dst.onX, Dst.slot, setF, setH, mapF, mapH, initF, binE, unE, cnt, boundE, newsE, freshE, opE, rmH, blkQ, frz_us, Nat.reduceEqDiff, Nat.reduceLT, Nat.reduceAdd, ↓reduceIte, reduceCtorEq, Nat.reduceLeDiff])
        rw [← d1, ← d2]
        exact W_ret (RetP_3 (.imm rfl) (.imm rfl) (.imm rfl))
end Go.Proofs.YtakchfljhihdmaaDoor
namespace Go.Proofs.YtakchfljhihdmaaDoor
open Go Go.Dat Go.Proofs Nat32

theorem gcd_step (x y : Nat) : Nat.gcd y (x % y) = Nat.gcd x y := by
  rw [Nat.gcd_comm y, ← Nat.gcd_rec, Nat.gcd_comm]
theorem ngcd_calls (a b : Nat) (ha : a < 18446744073709551616) (hb : b < 18446744073709551616) : PCalls Tryd.prog 85 [.int .u64 a, .int .u64 b] (.int .u64 (Nat.gcd a b : Nat)) := by
  refine PCalls_of isngcd (by simp [fnngcd]) ?_
  unfold codengcd
  repeat (first | (refine W_seq ?_) | (refine W_reg ?_) | (refine W_regd ?_) | (refine W_block ?_) | (refine And.intro (by omega) ?_) | simp (config := {maxSteps := 1000000}) (disch := omega) only [cA, cB, lk, lkH, Dst.onT, Dst.onX, Dst.slot, setF, setH, mapF, mapH, initF, binE, unE, cnt, boundE, newsE, freshE, opE, rmH, blkQ, frz_us, Nat.reduceEqDiff, Nat.reduceLT, Nat.reduceAdd, ↓reduceIte, reduceCtorEq, Nat.reduceLeDiff])
  refine W_loop (σ := Nat × Nat) (fun z => [(0, .int .u64 z.1), (1, .int .u64 z.2)]) (fun _ => []) (fun z => Nat.gcd z.1 z.2 = Nat.gcd a b ∧ z.1 < 18446744073709551616 ∧ z.2 < 18446744073709551616) (fun z => z.2) (a, b) ⟨rfl, ha, hb⟩ ?_ rfl ?_
  · simp [subF, lk]
  · rintro ⟨x, y⟩ ⟨hg, hx, hy⟩
    simp only at hg hx hy ⊢
    repeat (first | (refine W_seq ?_) | (refine W_reg ?_) | (refine W_regd ?_) | (refine W_block ?_) | (refine And.intro (by omega) ?_) | simp (config := {maxSteps := 1000000}) (disch := omega) only [cA, cB, lk, lkH, Dst.onT, Dst.onX, Dst.slot, setF, setH, mapF, mapH, initF, binE, unE, cnt, boundE, newsE, freshE, opE, rmH, blkQ, frz_us, Nat.reduceEqDiff, Nat.reduceLT, Nat.reduceAdd, ↓reduceIte, reduceCtorEq, Nat.reduceLeDiff])
    refine W_cond rfl (fun h => W_skip ?_) (fun h => W_exit ?_)
    · have h := of_decide_eq_true h
      have hm := Nat.mod_lt x (show 0 < y by omega)
      repeat (first | (refine W_seq ?_) | (refine W_reg ?_) | (refine W_regd ?_) | (refine W_block ?_) | (refine And.intro (by omega) ?_) | simp (config := {maxSteps := 1000000}) (disch := omega) only [cA, cB, lk, lkH, Dst.onT, Dst.onX, Dst.slot, setF, setH, mapF, mapH, initF, binE, unE, cnt, boundE, newsE, freshE, opE, rmH, blkQ, frz_us, Nat.reduceEqDiff, Nat.reduceLT, Nat.reduceAdd, ↓reduceIte, reduceCtorEq, Nat.reduceLeDiff, tmod_nat])
      refine ⟨(y, x % y), ⟨by rw [← hg]; exact gcd_step x y, hy, by simp only; omega⟩, hm, by simp [subF, lk]⟩
    · have h := of_decide_eq_false h
      have : y = 0 := by omega
      subst this
      rw [Nat.gcd_zero_right] at hg
      subst hg
      repeat (first | (refine W_seq ?_) | (refine W_reg ?_) | (refine W_regd ?_) | (refine W_block ?_) | (refine And.intro (by omega) ?_) | simp (config := {maxSteps := 1000000}) (disch := omega) only [cA, cB, lk, lkH, Dst.onT, Dst.onX, Dst.slot, setF, setH, mapF, mapH, initF, binE, unE, cnt, boundE, newsE, freshE, opE, rmH, blkQ, frz_us, Nat.reduceEqDiff, Nat.reduceLT, Nat.reduceAdd, ↓reduceIte, reduceCtorEq, Nat.reduceLeDiff])
      exact W_ret (RetP_1 (.imm rfl))

theorem gcd_le {a b n : Nat} (ha : (limbs a).length ≤ n) (hb : (limbs b).length ≤ n) : (limbs (Nat.gcd a b)).length ≤ n := by
  rcases Nat.eq_zero_or_pos a with e | e
  · subst e; rw [Nat.gcd_zero_left]; exact hb
  · exact Nat.le_trans (len_mono (Nat.gcd_le_left b e)) ha
theorem nGcd_calls (a b : List Nat) (ha : a.length ≤ 100000) (hb : b.length ≤ 100000) (la : lim a) (lb : lim b) : PCalls Tryd.prog 65 [.sl 1 (us a), .sl 1 (us b)] (.sl 1 (us (limbs (Nat.gcd (vn a) (vn b))))) := by
  have l1 := vn_len la
  have l2 := vn_len lb
  have c1 := nValue_calls a (by omega) la
  have c2 := nValue_calls b (by omega) lb
  refine PCalls_of isnGcd (by simp [fnnGcd]) ?_
  unfold codenGcd
  generalize vn a = x0 at *
  generalize vn b = y0 at *
  repeat (first | (refine W_seq ?_) | (refine W_reg ?_) | (refine W_regd ?_) | (refine W_block ?_) | (refine And.intro (by omega) ?_) | simp (config := {maxSteps := 1000000}) (disch := omega) only [cA, cB, lk, lkH, Dst.onT, Dst.onX, Dst.slot, setF, setH, mapF, mapH, initF, binE, unE, cnt, boundE, newsE, freshE, opE, rmH, blkQ, frz_us, Nat.reduceEqDiff, Nat.reduceLT, Nat.reduceAdd, ↓reduceIte, reduceCtorEq, Nat.reduceLeDiff])
  refine callC_pure c1 rfl ?_
  repeat (first | (refine W_seq ?_) | (refine W_reg ?_) | (refine W_regd ?_) | (refine W_block ?_) | (refine And.intro (by omega) ?_) | simp (config := {maxSteps := 1000000}) (disch := omega) only [cA, cB, lk, lkH, Dst.onT, Dst.onX, Dst.slot, setF, setH, mapF, mapH, initF, binE, unE, cnt, boundE, newsE, freshE, opE, rmH, blkQ, frz_us, Nat.reduceEqDiff, Nat.reduceLT, Nat.reduceAdd, ↓reduceIte, reduceCtorEq, Nat.reduceLeDiff])
  refine callC_pure c2 rfl ?_
  repeat (first | (refine W_seq ?_) | (refine W_reg ?_) | (refine W_regd ?_) | (refine W_block ?_) | (refine And.intro (by omega) ?_) | simp (config := {maxSteps := 1000000}) (disch := omega) only [cA, cB, lk, lkH, Dst.onT, Dst.onX, Dst.slot, setF, setH, mapF, mapH, initF, binE, unE, cnt, boundE, newsE, freshE, opE, rmH, blkQ, frz_us, Nat.reduceEqDiff, Nat.reduceLT, Nat.reduceAdd, ↓reduceIte, reduceCtorEq, Nat.reduceLeDiff])
  refine W_loop (σ := Nat × Nat) (fun z => [(0, .sl 1 (us (limbs z.1))), (1, .sl 1 (us (limbs z.2)))]) (fun _ => []) (fun z => Nat.gcd z.1 z.2 = Nat.gcd x0 y0 ∧ (limbs z.1).length ≤ 100000 ∧ (limbs z.2).length ≤ 100000) (fun z => z.2) (x0, y0) ⟨rfl, by simp only; omega, by simp only; omega⟩ ?_ rfl ?_
  · simp [subF, lk]
  · rintro ⟨x, y⟩ ⟨hg, hx, hy⟩
    simp only at hg hx hy ⊢
    repeat (first | (refine W_seq ?_) | (refine W_reg ?_) | (refine W_regd ?_) | (refine W_block ?_) | (refine And.intro (by omega) ?_) | simp (config := {maxSteps := 1000000}) (disch := omega) only [cA, cB, lk, lkH, Dst.onT, Dst.onX, Dst.slot, setF, setH, mapF, mapH, initF, binE, unE, cnt, boundE, newsE, freshE, opE, rmH, blkQ, frz_us, Nat.reduceEqDiff, Nat.reduceLT, Nat.reduceAdd, ↓reduceIte, reduceCtorEq, Nat.reduceLeDiff, us_length])
    refine W_cond rfl (fun h => W_skip ?_) (fun h => W_exit ?_)
    · have h := of_decide_eq_true h
      have hy0 : 0 < y := by
        rcases Nat.eq_zero_or_pos y with e | e
        · subst e; rw [limbs_zero] at h; simp at h
        · exact e
      have hm := Nat.mod_lt x hy0
      have u1 := nUint_calls (limbs x) (by omega) (lim_limbs x)
      have u2 := nUint_calls (limbs y) (by omega) (lim_limbs y)
      have cd := nDiv_calls (limbs x) (limbs y) hx hy (lim_limbs x) (lim_limbs y)
      rw [vn_limbs, vn_limbs, dmod_pos hy0, decide_eq_true hy0] at cd
      rw [vn_limbs] at u1 u2
      have lm := len_mono (Nat.le_of_lt hm)
      have fin : ∃ s', (Nat.gcd s'.1 s'.2 = Nat.gcd x0 y0 ∧ (limbs s'.1).length ≤ 100000 ∧ (limbs s'.2).length ≤ 100000) ∧ s'.2 < y ∧ s' = (y, x % y) := ⟨(y, x % y), ⟨by rw [← hg]; exact gcd_step x y, hy, by simp only; omega⟩, hm, rfl⟩
      by_cases hs1 : (limbs x).length > 2
      · rw [uintR, if_pos hs1] at u1
        obtain ⟨p, s, e⟩ : ∃ p s, uintR y = .tup [.int .u64 p, .bool s] := by unfold uintR; split <;> exact ⟨_, _, rfl⟩
        rw [e] at u2
        repeat (first | (refine W_seq ?_) | (refine W_reg ?_) | (refine W_regd ?_) | (refine W_block ?_) | (refine And.intro (by omega) ?_) | simp (config := {maxSteps := 1000000}) (disch := omega) only [cA, cB, lk, lkH, Dst.onT, Dst.onX, Dst.slot, setF, setH, mapF, mapH, initF, binE, unE, cnt, boundE, newsE, freshE, opE, rmH, blkQ, frz_us, Nat.reduceEqDiff, Nat.reduceLT, Nat.reduceAdd, ↓reduceIte, reduceCtorEq, Nat.reduceLeDiff])
        refine callC_pure u1 rfl ?_
        repeat (first | (refine W_seq ?_) | (refine W_reg ?_) | (refine W_regd ?_) | (refine W_block ?_) | (refine And.intro (by omega) ?_) | simp (config := {maxSteps := 1000000}) (disch := omega) only [cA, cB, lk, lkH, Dst.onT, Dst.onX, Dst.slot, setF, setH, mapF, mapH, initF, binE, unE, cnt, boundE, newsE, freshE, opE, rmH, blkQ, frz_us, Nat.reduceEqDiff, Nat.reduceLT, Nat.reduceAdd, ↓reduceIte, reduceCtorEq, Nat.reduceLeDiff])
        refine callC_pure u2 rfl ?_
        repeat (first | (refine W_seq ?_) | (refine W_reg ?_) | (refine W_regd ?_) | (refine W_block ?_) | (refine And.intro (by omega) ?_) | simp (config := {maxSteps := 1000000}) (disch := omega) only [cA, cB, lk, lkH, Dst.onT, Dst.onX, Dst.slot, setF, setH, mapF, mapH, initF, binE, unE, cnt, boundE, newsE, freshE, opE, rmH, blkQ, frz_us, Nat.reduceEqDiff, Nat.reduceLT, Nat.reduceAdd, ↓reduceIte, reduceCtorEq, Nat.reduceLeDiff])
        refine W_cond rfl (fun h => by cases h) (fun _ => W_skip ?_)
        repeat (first | (refine W_seq ?_) | (refine W_reg ?_) | (refine W_regd ?_) | (refine W_block ?_) | (refine And.intro (by omega) ?_) | simp (config := {maxSteps := 1000000}) (disch := omega) only [cA, cB, lk, lkH, Dst.onT, Dst.onX, Dst.slot, setF, setH, mapF, mapH, initF, binE, unE, cnt, boundE, newsE, freshE, opE, rmH, blkQ, frz_us, Nat.reduceEqDiff, Nat.reduceLT, Nat.reduceAdd, ↓reduceIte, reduceCtorEq, Nat.reduceLeDiff])
        refine callC_pure cd rfl ?_
        repeat (first | (refine W_seq ?_) | (refine W_reg ?_) | (refine W_regd ?_) | (refine W_block ?_) | (refine And.intro (by omega) ?_) | simp (config := {maxSteps := 1000000}) (disch := omega) only [cA, cB, lk, lkH, Dst.onT, Dst.onX, Dst.slot, setF, setH, mapF, mapH, initF, binE, unE, cnt, boundE, newsE, freshE, opE, rmH, blkQ, frz_us, Nat.reduceEqDiff, Nat.reduceLT, Nat.reduceAdd, ↓reduceIte, reduceCtorEq, Nat.reduceLeDiff])
        obtain ⟨s', i1, i2, rfl⟩ := fin
        exact ⟨_, i1, i2, by simp [subF, lk]⟩
      · rw [uintR, if_neg hs1] at u1
        have hx64 := limbs_le2 (show (limbs x).length ≤ 2 by omega)
        by_cases hs2 : (limbs y).length > 2
        · rw [uintR, if_pos hs2] at u2
          repeat (first | (refine W_seq ?_) | (refine W_reg ?_) | (refine W_regd ?_) | (refine W_block ?_) | (refine And.intro (by omega) ?_) | simp (config := {maxSteps := 1000000}) (disch := omega) only [cA, cB, lk, lkH, Dst.onT, Dst.onX, Dst.slot, setF, setH, mapF, mapH, initF, binE, unE, cnt, boundE, newsE, freshE, opE, rmH, blkQ, frz_us, Nat.reduceEqDiff, Nat.reduceLT, Nat.reduceAdd, ↓reduceIte, reduceCtorEq, Nat.reduceLeDiff])
          refine callC_pure u1 rfl ?_
          repeat (first | (refine W_seq ?_) | (refine W_reg ?_) | (refine W_regd ?_) | (refine W_block ?_) | (refine And.intro (by omega) ?_) | simp (config := {maxSteps := 1000000}) (disch := omega) only [cA, cB, lk, lkH, Dst.onT, Dst.onX, Dst.slot, setF, setH, mapF, mapH, initF, binE, unE, cnt, boundE, newsE, freshE, opE, rmH, blkQ, frz_us, Nat.reduceEqDiff, Nat.reduceLT, Nat.reduceAdd, ↓reduceIte, reduceCtorEq, Nat.reduceLeDiff])
          refine callC_pure u2 rfl ?_
          repeat (first | (refine W_seq ?_) | (refine W_reg ?_) | (refine W_regd ?_) | (refine W_block ?_) | (refine And.intro (by omega) ?_) | simp (config := {maxSteps := 1000000}) (disch := omega) only [cA, cB, lk, lkH, Dst.onT, Dst.onX, Dst.slot, setF, setH, mapF, mapH, initF, binE, unE, cnt, boundE, newsE, freshE, opE, rmH, blkQ, frz_us, Nat.reduceEqDiff, Nat.reduceLT, Nat.reduceAdd, ↓reduceIte, reduceCtorEq, Nat.reduceLeDiff])
          refine W_cond rfl (fun h => by cases h) (fun _ => W_skip ?_)
          repeat (first | (refine W_seq ?_) | (refine W_reg ?_) | (refine W_regd ?_) | (refine W_block ?_) | (refine And.intro (by omega) ?_) | simp (config := {maxSteps := 1000000}) (disch := omega) only [cA, cB, lk, lkH, Dst.onT, Dst.onX, Dst.slot, setF, setH, mapF, mapH, initF, binE, unE, cnt, boundE, newsE, freshE, opE, rmH, blkQ, frz_us, Nat.reduceEqDiff, Nat.reduceLT, Nat.reduceAdd, ↓reduceIte, reduceCtorEq, Nat.reduceLeDiff])
          refine callC_pure cd rfl ?_
          repeat (first | (refine W_seq ?_) | (refine W_reg ?_) | (refine W_regd ?_) | (refine W_block ?_) | (refine And.intro (by omega) ?_) | simp (config := {maxSteps := 1000000}) (disch := omega) only [cA, cB, lk, lkH, Dst.onT, Dst.onX, Dst.slot, setF, setH, mapF, mapH, initF, binE, unE, cnt, boundE, newsE, freshE, opE, rmH, blkQ, frz_us, Nat.reduceEqDiff, Nat.reduceLT, Nat.reduceAdd, ↓reduceIte, reduceCtorEq, Nat.reduceLeDiff])
          obtain ⟨s', i1, i2, rfl⟩ := fin
          exact ⟨_, i1, i2, by simp [subF, lk]⟩
        · rw [uintR, if_neg hs2] at u2
          have hy64 := limbs_le2 (show (limbs y).length ≤ 2 by omega)
          have cg := ngcd_calls x y hx64 hy64
          have hgl : Nat.gcd x y ≤ y := Nat.gcd_le_right x hy0
          have cf := nFromUint_calls (Nat.gcd x y) (by omega)
          repeat (first | (refine W_seq ?_) | (refine W_reg ?_) | (refine W_regd ?_) | (refine W_block ?_) | (refine And.intro (by omega) ?_) | simp (config := {maxSteps := 1000000}) (disch := omega) only [cA, cB, lk, lkH, Dst.onT, Dst.onX, Dst.slot, setF, setH, mapF, mapH, initF, binE, unE, cnt, boundE, newsE, freshE, opE, rmH, blkQ, frz_us, Nat.reduceEqDiff, Nat.reduceLT, Nat.reduceAdd, ↓reduceIte, reduceCtorEq, Nat.reduceLeDiff])
          refine callC_pure u1 rfl ?_
          repeat (first | (refine W_seq ?_) | (refine W_reg ?_) | (refine W_regd ?_) | (refine W_block ?_) | (refine And.intro (by omega) ?_) | simp (config := {maxSteps := 1000000}) (disch := omega) only [cA, cB, lk, lkH, Dst.onT, Dst.onX, Dst.slot, setF, setH, mapF, mapH, initF, binE, unE, cnt, boundE, newsE, freshE, opE, rmH, blkQ, frz_us, Nat.reduceEqDiff, Nat.reduceLT, Nat.reduceAdd, ↓reduceIte, reduceCtorEq, Nat.reduceLeDiff])
          refine callC_pure u2 rfl ?_
          repeat (first | (refine W_seq ?_) | (refine W_reg ?_) | (refine W_regd ?_) | (refine W_block ?_) | (refine And.intro (by omega) ?_) | simp (config := {maxSteps := 1000000}) (disch := omega) only [cA, cB, lk, lkH, Dst.onT, Dst.onX, Dst.slot, setF, setH, mapF, mapH, initF, binE, unE, cnt, boundE, newsE, freshE, opE, rmH, blkQ, frz_us, Nat.reduceEqDiff, Nat.reduceLT, Nat.reduceAdd, ↓reduceIte, reduceCtorEq, Nat.reduceLeDiff])
          refine W_cond rfl (fun _ => ?_) (fun h => by cases h)
          repeat (first | (refine W_seq ?_) | (refine W_reg ?_) | (refine W_regd ?_) | (refine W_block ?_) | (refine And.intro (by omega) ?_) | simp (config := {maxSteps := 1000000}) (disch := omega) only [cA, cB, lk, lkH, Dst.onT, Dst.onX, Dst.slot, setF, setH, mapF, mapH, initF, binE, unE, cnt, boundE, newsE, freshE, opE, rmH, blkQ, frz_us, Nat.reduceEqDiff, Nat.reduceLT, Nat.reduceAdd, ↓reduceIte, reduceCtorEq, Nat.reduceLeDiff])
          refine callC_pure cg rfl ?_
          repeat (first | (refine W_seq ?_) | (refine W_reg ?_) | (refine W_regd ?_) | (refine W_block ?_) | (refine And.intro (by omega) ?_) | simp (config := {maxSteps := 1000000}) (disch := omega) only [cA, cB, lk, lkH, Dst.onT, Dst.onX, Dst.slot, setF, setH, mapF, mapH, initF, binE, unE, cnt, boundE, newsE, freshE, opE, rmH, blkQ, frz_us, Nat.reduceEqDiff, Nat.reduceLT, Nat.reduceAdd, ↓reduceIte, reduceCtorEq, Nat.reduceLeDiff])
          refine callC_pure cf rfl ?_
          repeat (first | (refine W_seq ?_) | (refine W_reg ?_) | (refine W_regd ?_) | (refine W_block ?_) | (refine And.intro (by omega) ?_) | simp (config := {maxSteps := 1000000}) (disch := omega) only [cA, cB, lk, lkH, Dst.onT, Dst.onX, Dst.slot, setF, setH, mapF, mapH, initF, binE, unE, cnt, boundE, newsE, freshE, opE, rmH, blkQ, frz_us, Nat.reduceEqDiff, Nat.reduceLT, Nat.reduceAdd, ↓reduceIte, reduceCtorEq, Nat.reduceLeDiff])
          rw [← hg]
          exact W_ret (RetP_1 (.imm rfl))
    · have h := of_decide_eq_false h
      have hy0 : y = 0 := limbs_eq_nil.1 (List.eq_nil_of_length_eq_zero (by omega))
      subst hy0
      rw [Nat.gcd_zero_right] at hg
      rw [← hg]
      have cc := Clone_calls (limbs x) (by omega)
      repeat (first | (refine W_seq ?_) | (refine W_reg ?_) | (refine W_regd ?_) | (refine W_block ?_) | (refine And.intro (by omega) ?_) | simp (config := {maxSteps := 1000000}) (disch := omega) only [cA, cB, lk, lkH, Dst.onT, Dst.onX, Dst.slot, setF, setH, mapF, mapH, initF, binE, unE, cnt, boundE, newsE, freshE, opE, rmH, blkQ, frz_us, Nat.reduceEqDiff, Nat.reduceLT, Nat.reduceAdd, ↓reduceIte, reduceCtorEq, Nat.reduceLeDiff])
      refine callC_pure cc rfl ?_
      repeat (first | (refine W_seq ?_) | (refine W_reg ?_) | (refine W_regd ?_) | (refine W_block ?_) | (refine And.intro (by omega) ?_) | simp (config := {maxSteps := 1000000}) (disch := omega) only [cA, cB, lk, lkH, Dst.onT, Dst.onX, Dst.slot, setF, setH, mapF, mapH, initF, binE, unE, cnt, boundE, newsE, freshE, opE, rmH, blkQ, frz_us, Nat.reduceEqDiff, Nat.reduceLT, Nat.reduceAdd, ↓reduceIte, reduceCtorEq, Nat.reduceLeDiff])
      exact W_ret (RetP_1 (.imm rfl))

theorem rGcd_calls (a b : List Nat) (ha : a.length ≤ 1000) (hb : b.length ≤ 1000) (la : lim a) (lb : lim b) : PCalls Tryd.prog 66 [.sl 1 (us a), .sl 1 (us b)] (.sl 1 (us (limbs (Nat.gcd (vn a) (vn b))))) := by
  have l1 := vn_len la
  have l2 := vn_len lb
  have c1 := rTake_calls a (by omega) la
  have c2 := rTake_calls b (by omega) lb
  refine PCalls_of isrGcd (by simp [fnrGcd]) ?_
  unfold coderGcd
  generalize vn a = x0 at *
  generalize vn b = y0 at *
  repeat (first | (refine W_seq ?_) | (refine W_reg ?_) | (refine W_regd ?_) | (refine W_block ?_) | (refine And.intro (by omega) ?_) | simp (config := {maxSteps := 1000000}) (disch := omega) only [cA, cB, lk, lkH, Dst.onT, Dst.onX, Dst.slot, setF, setH, mapF, mapH, initF, binE, unE, cnt, boundE, newsE, freshE, opE, rmH, blkQ, frz_us, Nat.reduceEqDiff, Nat.reduceLT, Nat.reduceAdd, ↓reduceIte, reduceCtorEq, Nat.reduceLeDiff])
  refine callC_pure c1 rfl ?_
  repeat (first | (refine W_seq ?_) | (refine W_reg ?_) | (refine W_regd ?_) | (refine W_block ?_) | (refine And.intro (by omega) ?_) | simp (config := {maxSteps := 1000000}) (disch := omega) only [cA, cB, lk, lkH, Dst.onT, Dst.onX, Dst.slot, setF, setH, mapF, mapH, initF, binE, unE, cnt, boundE, newsE, freshE, opE, rmH, blkQ, frz_us, Nat.reduceEqDiff, Nat.reduceLT, Nat.reduceAdd, ↓reduceIte, reduceCtorEq, Nat.reduceLeDiff])
  refine callC_pure c2 rfl ?_
  repeat (first | (refine W_seq ?_) | (refine W_reg ?_) | (refine W_regd ?_) | (refine W_block ?_) | (refine And.intro (by omega) ?_) | simp (config := {maxSteps := 1000000}) (disch := omega) only [cA, cB, lk, lkH, Dst.onT, Dst.onX, Dst.slot, setF, setH, mapF, mapH, initF, binE, unE, cnt, boundE, newsE, freshE, opE, rmH, blkQ, frz_us, Nat.reduceEqDiff, Nat.reduceLT, Nat.reduceAdd, ↓reduceIte, reduceCtorEq, Nat.reduceLeDiff])
  refine W_loop (σ := Nat × Nat) (fun z => [(0, .sl 1 (us (limbs z.1))), (1, .sl 1 (us (limbs z.2)))]) (fun _ => []) (fun z => Nat.gcd z.1 z.2 = Nat.gcd x0 y0 ∧ (limbs z.1).length ≤ 1000 ∧ (limbs z.2).length ≤ 1000) (fun z => z.2) (x0, y0) ⟨rfl, by simp only; omega, by simp only; omega⟩ ?_ rfl ?_
  · simp [subF, lk]
  · rintro ⟨x, y⟩ ⟨hg, hx, hy⟩
    simp only at hg hx hy ⊢
    repeat (first | (refine W_seq ?_) | (refine W_reg ?_) | (refine W_regd ?_) | (refine W_block ?_) | (refine And.intro (by omega) ?_) | simp (config := {maxSteps := 1000000}) (disch := omega) only [cA, cB, lk, lkH, Dst.onT, Dst.onX, Dst.slot, setF, setH, mapF, mapH, initF, binE, unE, cnt, boundE, newsE, freshE, opE, rmH, blkQ, frz_us, Nat.reduceEqDiff, Nat.reduceLT, Nat.reduceAdd, ↓reduceIte, reduceCtorEq, Nat.reduceLeDiff, us_length])
    refine W_cond rfl (fun h => W_skip ?_) (fun h => W_exit ?_)
    · have h := of_decide_eq_true h
      have hy0 : 0 < y := by
        rcases Nat.eq_zero_or_pos y with e | e
        · subst e; rw [limbs_zero] at h; simp at h
        · exact e
      have hm := Nat.mod_lt x hy0
      have cd := rDiv_calls (limbs x) (limbs y) hx hy (lim_limbs x) (lim_limbs y)
      rw [vn_limbs, vn_limbs, dmod_pos hy0, decide_eq_true hy0] at cd
      have lm := len_mono (Nat.le_of_lt hm)
      repeat (first | (refine W_seq ?_) | (refine W_reg ?_) | (refine W_regd ?_) | (refine W_block ?_) | (refine And.intro (by omega) ?_) | simp (config := {maxSteps := 1000000}) (disch := omega) only [cA, cB, lk, lkH, Dst.onT, Dst.onX, Dst.slot, setF, setH, mapF, mapH, initF, binE, unE, cnt, boundE, newsE, freshE, opE, rmH, blkQ, frz_us, Nat.reduceEqDiff, Nat.reduceLT, Nat.reduceAdd, ↓reduceIte, reduceCtorEq, Nat.reduceLeDiff])
      refine callC_pure cd rfl ?_
      repeat (first | (refine W_seq ?_) | (refine W_reg ?_) | (refine W_regd ?_) | (refine W_block ?_) | (refine And.intro (by omega) ?_) | simp (config := {maxSteps := 1000000}) (disch := omega) only [cA, cB, lk, lkH, Dst.onT, Dst.onX, Dst.slot, setF, setH, mapF, mapH, initF, binE, unE, cnt, boundE, newsE, freshE, opE, rmH, blkQ, frz_us, Nat.reduceEqDiff, Nat.reduceLT, Nat.reduceAdd, ↓reduceIte, reduceCtorEq, Nat.reduceLeDiff])
      refine ⟨(y, x % y), ⟨by rw [← hg]; exact gcd_step x y, hy, by simp only; omega⟩, hm, by simp [subF, lk]⟩
    · have h := of_decide_eq_false h
      have hy0 : y = 0 := limbs_eq_nil.1 (List.eq_nil_of_length_eq_zero (by omega))
      subst hy0
      rw [Nat.gcd_zero_right] at hg
      rw [← hg]
      repeat (first | (refine W_seq ?_) | (refine W_reg ?_) | (refine W_regd ?_) | (refine W_block ?_) | (refine And.intro (by omega) ?_) | simp (config := {maxSteps := 1000000}) (disch := omega) only [cA, cB, lk, lkH, Dst.onT, Dst.onX, Dst.slot, setF, setH, mapF, mapH, initF, binE, unE, cnt, boundE, newsE, freshE, opE, rmH, blkQ, frz_us, Nat.reduceEqDiff, Nat.reduceLT, Nat.reduceAdd, ↓reduceIte, reduceCtorEq, Nat.reduceLeDiff])
      exact W_ret (RetP_1 (.imm rfl))
end Go.Proofs.YtakchfljhihdmaaDoor
namespace Go.Proofs.YtakchfljhihdmaaDoor
open Go Go.Dat Go.Proofs Nat32

theorem nMul_calls (a b : List Nat) (ha : a.length ≤ 10000) (hb : b.length ≤ 10000) (la : lim a) (lb : lim b) : PCalls Tryd.prog 45 [.sl 1 (us a), .sl 1 (us b)] (.sl 1 (us (limbs (vn a * vn b)))) := by
  have h1 := vn_len la
  have h2 := vn_len lb
  have c1 := nValue_calls a (by omega) la
  have c2 := nValue_calls b (by omega) lb
  refine PCalls_of isnMul (by simp [fnnMul]) ?_
  unfold codenMul
  generalize vn a = x at h1 c1 ⊢
  generalize vn b = y at h2 c2 ⊢
  have laX := lim_limbs x
  have laY := lim_limbs y
  refine W_seq (W_reg ?_)
  simp (config := {maxSteps := 1000000}) (disch := omega) only [cA, cB, lk, lkH, Dst.onT, Dst.onX, Dst.slot, setF, setH, mapF, mapH, initF, binE, unE, cnt, boundE, newsE, freshE, opE, rmH, blkQ, frz_us, Nat.reduceEqDiff, Nat.reduceLT, Nat.reduceAdd, ↓reduceIte, reduceCtorEq, Nat.reduceLeDiff]
  repeat refine ⟨by omega, ?_⟩
  refine W_seq (W_reg ?_)
  simp (config := {maxSteps := 1000000}) (disch := omega) only [cA, cB, lk, lkH, Dst.onT, Dst.onX, Dst.slot, setF, setH, mapF, mapH, initF, binE, unE, cnt, boundE, newsE, freshE, opE, rmH, blkQ, frz_us, Nat.reduceEqDiff, Nat.reduceLT, Nat.reduceAdd, ↓reduceIte, reduceCtorEq, Nat.reduceLeDiff]
  repeat refine ⟨by omega, ?_⟩
  refine callC_pure c1 rfl ?_
  simp (config := {maxSteps := 1000000}) (disch := omega) only [cA, cB, lk, lkH, Dst.onT, Dst.onX, Dst.slot, setF, setH, mapF, mapH, initF, binE, unE, cnt, boundE, newsE, freshE, opE, rmH, blkQ, frz_us, Nat.reduceEqDiff, Nat.reduceLT, Nat.reduceAdd, ↓reduceIte, reduceCtorEq, Nat.reduceLeDiff]
  repeat refine ⟨by omega, ?_⟩
  refine callC_pure c2 rfl ?_
  simp (config := {maxSteps := 1000000}) (disch := omega) only [cA, cB, lk, lkH, Dst.onT, Dst.onX, Dst.slot, setF, setH, mapF, mapH, initF, binE, unE, cnt, boundE, newsE, freshE, opE, rmH, blkQ, frz_us, Nat.reduceEqDiff, Nat.reduceLT, Nat.reduceAdd, ↓reduceIte, reduceCtorEq, Nat.reduceLeDiff]
  repeat refine ⟨by omega, ?_⟩
  refine W_seq (W_reg ?_)
  simp (config := {maxSteps := 1000000}) (disch := omega) only [cA, cB, lk, lkH, Dst.onT, Dst.onX, Dst.slot, setF, setH, mapF, mapH, initF, binE, unE, cnt, boundE, newsE, freshE, opE, rmH, blkQ, frz_us, Nat.reduceEqDiff, Nat.reduceLT, Nat.reduceAdd, ↓reduceIte, reduceCtorEq, Nat.reduceLeDiff, us_length, us_rep, nbnMul, add_nat]
  repeat refine ⟨by omega, ?_⟩
  refine W_seq (W_seq (W_reg ?_))
  simp (config := {maxSteps := 1000000}) (disch := omega) only [cA, cB, lk, lkH, Dst.onT, Dst.onX, Dst.slot, setF, setH, mapF, mapH, initF, binE, unE, cnt, boundE, newsE, freshE, opE, rmH, blkQ, frz_us, Nat.reduceEqDiff, Nat.reduceLT, Nat.reduceAdd, ↓reduceIte, reduceCtorEq, Nat.reduceLeDiff, us_length]
  repeat refine ⟨by omega, ?_⟩
  obtain ⟨N, hN⟩ : ∃ N, N = (limbs x).length + (limbs y).length := ⟨_, rfl⟩
  rw [← hN]
  refine W_block (W_loop (σ := Nat × List Nat) (fun s => [(0, .sl 1 (us (limbs x))), (1, .sl 1 (us (limbs y))), (5, .osl 1 20 0 N), (21, .sl 1 (us (limbs x))), (22, .int .i64 (limbs x).length), (23, .int .i64 s.1)])
    (fun s => [(20, us s.2)])
    (fun s => s.1 ≤ (limbs x).length ∧ s.2.length = N ∧ lim s.2 ∧ nv s.2 = nv ((limbs x).take s.1) * y ∧ ∀ k, s.1 + (limbs y).length ≤ k → s.2.getD k 0 = 0)
    (fun s => (limbs x).length - s.1) (0, List.replicate N 0) ⟨Nat.zero_le _, by simp, ?_, by simp [nv, nv_rep], ?_⟩ ?_ ?_ ?_)
  · intro z hz; rw [List.eq_of_mem_replicate hz]; decide
  · intro k _; simp [List.getD_eq_getElem?_getD, List.getElem?_replicate]; split <;> rfl
  · simp [subF, lk]
  · rfl
  · rintro ⟨i, out⟩ ⟨hi, ho, hlo, hno, hzo⟩
    simp only at hi ho hlo hno hzo ⊢
    refine W_seq (W_reg ?_)
    simp (config := {maxSteps := 1000000}) (disch := omega) only [cA, cB, lk, lkH, Dst.onT, Dst.onX, Dst.slot, setF, setH, mapF, mapH, initF, binE, unE, cnt, boundE, newsE, freshE, opE, rmH, blkQ, frz_us, Nat.reduceEqDiff, Nat.reduceLT, Nat.reduceAdd, ↓reduceIte, reduceCtorEq, Nat.reduceLeDiff]
    repeat refine ⟨by omega, ?_⟩
    refine W_seq (W_cond rfl (fun hcd => W_skip ?_) (fun hcd => W_exit ?_))
    · have hlt := of_decide_eq_true hcd
      have hlt : i < (limbs x).length := by omega
      have hxi := lim_getD laX i
      simp (config := {maxSteps := 1000000}) (disch := omega) only [cA, cB, lk, lkH, Dst.onT, Dst.onX, Dst.slot, setF, setH, mapF, mapH, initF, binE, unE, cnt, boundE, newsE, freshE, opE, rmH, blkQ, frz_us, Nat.reduceEqDiff, Nat.reduceLT, Nat.reduceAdd, ↓reduceIte, reduceCtorEq, Nat.reduceLeDiff]
      repeat refine ⟨by omega, ?_⟩
      refine W_seq (W_block (W_seq (W_reg ?_)))
      simp (config := {maxSteps := 1000000}) (disch := omega) only [cA, cB, lk, lkH, Dst.onT, Dst.onX, Dst.slot, setF, setH, mapF, mapH, initF, binE, unE, cnt, boundE, newsE, freshE, opE, rmH, blkQ, frz_us, Nat.reduceEqDiff, Nat.reduceLT, Nat.reduceAdd, ↓reduceIte, reduceCtorEq, Nat.reduceLeDiff, us_length, us_getD]
      repeat refine ⟨by omega, ?_⟩
      refine W_seq (W_reg ?_)
      simp (config := {maxSteps := 1000000}) (disch := omega) only [cA, cB, lk, lkH, Dst.onT, Dst.onX, Dst.slot, setF, setH, mapF, mapH, initF, binE, unE, cnt, boundE, newsE, freshE, opE, rmH, blkQ, frz_us, Nat.reduceEqDiff, Nat.reduceLT, Nat.reduceAdd, ↓reduceIte, reduceCtorEq, Nat.reduceLeDiff]
      repeat refine ⟨by omega, ?_⟩
      have hts := nv_take_succ' (a := limbs x) i
      generalize hxe : (limbs x).getD i 0 = xi at hxi hts ⊢
      refine W_seq (W_join (ι := Nat × List Nat) (fun s => s.1 < 4294967296 ∧ s.2.length = N ∧ lim s.2 ∧ nv s.2 + 4294967296 ^ (i + (limbs y).length) * s.1 = nv out + 4294967296 ^ i * (xi * y) ∧ ∀ k, i + (limbs y).length ≤ k → s.2.getD k 0 = 0)
        (fun s => [(0, .sl 1 (us (limbs x))), (1, .sl 1 (us (limbs y))), (5, .osl 1 20 0 N), (6, .int .i64 i), (8, .int .u64 s.1), (21, .sl 1 (us (limbs x))), (22, .int .i64 (limbs x).length), (23, .int .i64 i)]) (fun s => [(20, us s.2)]) (W_seq (W_reg ?_)) ?_)
      · simp (config := {maxSteps := 1000000}) (disch := omega) only [cA, cB, lk, lkH, Dst.onT, Dst.onX, Dst.slot, setF, setH, mapF, mapH, initF, binE, unE, cnt, boundE, newsE, freshE, opE, rmH, blkQ, frz_us, Nat.reduceEqDiff, Nat.reduceLT, Nat.reduceAdd, ↓reduceIte, reduceCtorEq, Nat.reduceLeDiff, us_length]
        repeat refine ⟨by omega, ?_⟩
        refine W_block (W_loop (σ := Nat × List Nat × Nat) (fun s => [(0, .sl 1 (us (limbs x))), (1, .sl 1 (us (limbs y))), (5, .osl 1 20 0 N), (6, .int .i64 i), (7, .int .u32 xi), (8, .int .u64 s.2.2), (21, .sl 1 (us (limbs x))), (22, .int .i64 (limbs x).length), (23, .int .i64 i), (28, .sl 1 (us (limbs y))), (29, .int .i64 (limbs y).length), (30, .int .i64 s.1)])
          (fun s => [(20, us s.2.1)])
          (fun s => s.1 ≤ (limbs y).length ∧ s.2.1.length = N ∧ lim s.2.1 ∧ s.2.2 < 4294967296 ∧ nv s.2.1 + 4294967296 ^ (i + s.1) * s.2.2 = nv out + 4294967296 ^ i * (xi * nv ((limbs y).take s.1)) ∧ ∀ k, i + (limbs y).length ≤ k → s.2.1.getD k 0 = 0)
          (fun s => (limbs y).length - s.1) (0, out, 0) ⟨Nat.zero_le _, ho, hlo, by simp only; omega, by simp [nv], hzo⟩ ?_ rfl ?_)
        · simp [subF, lk]
        · rintro ⟨j, q, c⟩ ⟨hj, hq, hlq, hc, hnv, hzq⟩
          simp only at hj hq hlq hc hnv hzq ⊢
          refine W_seq (W_reg ?_)
          simp (config := {maxSteps := 1000000}) (disch := omega) only [cA, cB, lk, lkH, Dst.onT, Dst.onX, Dst.slot, setF, setH, mapF, mapH, initF, binE, unE, cnt, boundE, newsE, freshE, opE, rmH, blkQ, frz_us, Nat.reduceEqDiff, Nat.reduceLT, Nat.reduceAdd, ↓reduceIte, reduceCtorEq, Nat.reduceLeDiff]
          repeat refine ⟨by omega, ?_⟩
          refine W_seq (W_cond rfl (fun hcd2 => W_skip ?_) (fun hcd2 => W_exit ?_))
          · have hlt2 := of_decide_eq_true hcd2
            have hlt2 : j < (limbs y).length := by omega
            have hyj := lim_getD laY j
            have htj := nv_take_succ' (a := limbs y) j
            have hoj := lim_getD hlq (i + j)
            have hidx : (((i : Int) + (j : Int))).toNat = i + j := by omega
            simp (config := {maxSteps := 1000000}) (disch := omega) only [cA, cB, lk, lkH, Dst.onT, Dst.onX, Dst.slot, setF, setH, mapF, mapH, initF, binE, unE, cnt, boundE, newsE, freshE, opE, rmH, blkQ, frz_us, Nat.reduceEqDiff, Nat.reduceLT, Nat.reduceAdd, ↓reduceIte, reduceCtorEq, Nat.reduceLeDiff]
            repeat refine ⟨by omega, ?_⟩
            refine W_seq (W_block (W_seq (W_reg ?_)))
            simp (config := {maxSteps := 1000000}) (disch := omega) only [cA, cB, lk, lkH, Dst.onT, Dst.onX, Dst.slot, setF, setH, mapF, mapH, initF, binE, unE, cnt, boundE, newsE, freshE, opE, rmH, blkQ, frz_us, Nat.reduceEqDiff, Nat.reduceLT, Nat.reduceAdd, ↓reduceIte, reduceCtorEq, Nat.reduceLeDiff, us_length, us_getD]
            repeat refine ⟨by omega, ?_⟩
            generalize (limbs y).getD j 0 = yj at hyj htj ⊢
            refine W_seq (W_reg ?_)
            simp (config := {maxSteps := 1000000}) (disch := omega) only [cA, cB, lk, lkH, Dst.onT, Dst.onX, Dst.slot, setF, setH, mapF, mapH, initF, binE, unE, cnt, boundE, newsE, freshE, opE, rmH, blkQ, frz_us, Nat.reduceEqDiff, Nat.reduceLT, Nat.reduceAdd, ↓reduceIte, reduceCtorEq, Nat.reduceLeDiff, us_length, us_getD, hidx, hq]
            repeat refine ⟨by omega, ?_⟩
            obtain ⟨m1, m2⟩ := mac_w hxi hyj hc hoj
            have hw : IntKind.u64.wrap ((c : Int) + IntKind.u64.wrap (IntKind.u64.wrap ((xi : Int) * (yj : Int)) + ((q.getD (i + j) 0 : Nat) : Int))) = ((xi * yj + q.getD (i + j) 0 + c : Nat) : Int) := by
              rw [mul_w hxi hyj]
              generalize xi * yj = p at m1 ⊢
              generalize q.getD (i + j) 0 = o at m1 ⊢
              rw [wu64 (x := (p : Int) + (o : Int)) (by omega) (by omega), wu64 (by omega) (by omega)]
              omega
            rw [hw]
            have hset := nv_set (l := q) (k := i + j) (v := (xi * yj + q.getD (i + j) 0 + c) % 4294967296) (by omega)
            have hstep := mac_step hnv hset rfl
            generalize xi * yj + q.getD (i + j) 0 + c = t at m1 m2 hset hstep ⊢
            have halg : 4294967296 ^ (i + j) * (xi * yj) = 4294967296 ^ i * (xi * (4294967296 ^ j * yj)) := by
              rw [Nat.pow_add, Nat.mul_assoc, ← Nat.mul_assoc (4294967296 ^ j) xi yj, Nat.mul_comm (4294967296 ^ j) xi, Nat.mul_assoc xi]
            have hfin : nv (q.set (i + j) (t % 4294967296)) + 4294967296 ^ (i + (j + 1)) * (t / 4294967296) = nv out + 4294967296 ^ i * (xi * nv ((limbs y).take (j + 1))) := by
              rw [htj, Nat.mul_add, Nat.mul_add, ← halg, ← Nat.add_assoc (nv out), ← hstep, show i + (j + 1) = i + j + 1 from rfl, Nat.pow_succ]
            refine W_seq (W_reg ?_)
            simp (config := {maxSteps := 1000000}) (disch := omega) only [cA, cB, lk, lkH, Dst.onT, Dst.onX, Dst.slot, setF, setH, mapF, mapH, initF, binE, unE, cnt, boundE, newsE, freshE, opE, rmH, blkQ, frz_us, Nat.reduceEqDiff, Nat.reduceLT, Nat.reduceAdd, ↓reduceIte, reduceCtorEq, Nat.reduceLeDiff, us_length, hidx, hq, us_set, wu32', mod32]
            repeat refine ⟨by omega, ?_⟩
            refine W_reg ?_
            simp (config := {maxSteps := 1000000}) (disch := omega) only [cA, cB, lk, lkH, Dst.onT, Dst.onX, Dst.slot, setF, setH, mapF, mapH, initF, binE, unE, cnt, boundE, newsE, freshE, opE, rmH, blkQ, frz_us, Nat.reduceEqDiff, Nat.reduceLT, Nat.reduceAdd, ↓reduceIte, reduceCtorEq, Nat.reduceLeDiff, shr32u64]
            repeat refine ⟨by omega, ?_⟩
            refine W_reg ?_
            simp (config := {maxSteps := 1000000}) (disch := omega) only [cA, cB, lk, lkH, Dst.onT, Dst.onX, Dst.slot, setF, setH, mapF, mapH, initF, binE, unE, cnt, boundE, newsE, freshE, opE, rmH, blkQ, frz_us, Nat.reduceEqDiff, Nat.reduceLT, Nat.reduceAdd, ↓reduceIte, reduceCtorEq, Nat.reduceLeDiff]
            refine ⟨(j + 1, q.set (i + j) (t % 4294967296), t / 4294967296), ⟨by simp only; omega, by simp [hq], lim_set hlq (by omega), m2, hfin, ?_⟩, by simp only; omega, by simp [subF, lk], rfl⟩
            intro k hk
            simp only
            rw [getD_set_ne' (by omega)]
            exact hzq k hk
          · have hge2 := of_decide_eq_false hcd2
            have hjl : j = (limbs y).length := by omega
            subst hjl
            rw [List.take_of_length_le (Nat.le_refl _), nv_limbs] at hnv
            simp (config := {maxSteps := 1000000}) (disch := omega) only [cA, cB, lk, lkH, Dst.onT, Dst.onX, Dst.slot, setF, setH, mapF, mapH, initF, binE, unE, cnt, boundE, newsE, freshE, opE, rmH, blkQ, frz_us, Nat.reduceEqDiff, Nat.reduceLT, Nat.reduceAdd, ↓reduceIte, reduceCtorEq, Nat.reduceLeDiff]
            exact ⟨(c, q), ⟨hc, hq, hlq, hnv, hzq⟩, by simp [subF, lk], rfl⟩
      · rintro ⟨c, q⟩ ⟨hc, hq, hlq, hnv, hzq⟩
        simp only at hc hq hlq hnv hzq ⊢
        have hidx : ((((i : Int) + ((limbs y).length : Int)))).toNat = i + (limbs y).length := by omega
        have hset := nv_set (l := q) (k := i + (limbs y).length) (v := c) (by omega)
        rw [hzq _ (Nat.le_refl _), Nat.mul_zero, Nat.add_zero] at hset
        have hcm : c % 4294967296 = c := Nat.mod_eq_of_lt hc
        refine W_reg ?_
        simp (config := {maxSteps := 1000000}) (disch := omega) only [cA, cB, lk, lkH, Dst.onT, Dst.onX, Dst.slot, setF, setH, mapF, mapH, initF, binE, unE, cnt, boundE, newsE, freshE, opE, rmH, blkQ, frz_us, Nat.reduceEqDiff, Nat.reduceLT, Nat.reduceAdd, ↓reduceIte, reduceCtorEq, Nat.reduceLeDiff, us_length, hidx, hq, us_set, wu32', mod32, hcm]
        repeat refine ⟨by omega, ?_⟩
        refine W_reg ?_
        simp (config := {maxSteps := 1000000}) (disch := omega) only [cA, cB, lk, lkH, Dst.onT, Dst.onX, Dst.slot, setF, setH, mapF, mapH, initF, binE, unE, cnt, boundE, newsE, freshE, opE, rmH, blkQ, frz_us, Nat.reduceEqDiff, Nat.reduceLT, Nat.reduceAdd, ↓reduceIte, reduceCtorEq, Nat.reduceLeDiff]
        refine ⟨(i + 1, q.set (i + (limbs y).length) c), ⟨by simp only; omega, by simp [hq], lim_set hlq hc, ?_, ?_⟩, by simp only; omega, by simp [subF, lk], rfl⟩
        · simp only
          rw [hset, hnv, hno, hts, Nat.add_mul, Nat.mul_assoc]
        · intro k hk
          simp only at hk ⊢
          rw [getD_set_ne' (by omega)]
          exact hzq k (by omega)
    · have hge := of_decide_eq_false hcd
      have hil : i = (limbs x).length := by omega
      subst hil
      rw [List.take_of_length_le (Nat.le_refl _), nv_limbs] at hno
      have ct := nTrim_calls out (by omega) hlo
      rw [hno] at ct
      simp (config := {maxSteps := 1000000}) (disch := omega) only [cA, cB, lk, lkH, Dst.onT, Dst.onX, Dst.slot, setF, setH, mapF, mapH, initF, binE, unE, cnt, boundE, newsE, freshE, opE, rmH, blkQ, frz_us, Nat.reduceEqDiff, Nat.reduceLT, Nat.reduceAdd, ↓reduceIte, reduceCtorEq, Nat.reduceLeDiff]
      repeat refine ⟨by omega, ?_⟩
      refine W_seq (W_reg ?_)
      simp (config := {maxSteps := 1000000}) (disch := omega) only [cA, cB, lk, lkH, Dst.onT, Dst.onX, Dst.slot, setF, setH, mapF, mapH, initF, binE, unE, cnt, boundE, newsE, freshE, opE, rmH, blkQ, frz_us, Nat.reduceEqDiff, Nat.reduceLT, Nat.reduceAdd, ↓reduceIte, reduceCtorEq, Nat.reduceLeDiff]
      repeat refine ⟨by omega, ?_⟩
      refine callC_freeze rfl 20 (cells := us out) (by simp [lkH]) (us_rf _) ?_
      simp (config := {maxSteps := 1000000}) (disch := omega) only [cA, cB, lk, lkH, Dst.onT, Dst.onX, Dst.slot, setF, setH, mapF, mapH, initF, binE, unE, cnt, boundE, newsE, freshE, opE, rmH, blkQ, frz_us, Nat.reduceEqDiff, Nat.reduceLT, Nat.reduceAdd, ↓reduceIte, reduceCtorEq, Nat.reduceLeDiff, frz_us ho.symm]
      refine callC_pure ct rfl ?_
      simp (config := {maxSteps := 1000000}) (disch := omega) only [cA, cB, lk, lkH, Dst.onT, Dst.onX, Dst.slot, setF, setH, mapF, mapH, initF, binE, unE, cnt, boundE, newsE, freshE, opE, rmH, blkQ, frz_us, Nat.reduceEqDiff, Nat.reduceLT, Nat.reduceAdd, ↓reduceIte, reduceCtorEq, Nat.reduceLeDiff]
      exact W_ret (RetP_1 (.imm rfl))
end Go.Proofs.YtakchfljhihdmaaDoor
namespace Go.Proofs.YtakchfljhihdmaaDoor
open Go Go.Dat Go.Proofs Nat32

end Go.Proofs.YtakchfljhihdmaaDoor
namespace Go.Proofs.YtakchfljhihdmaaDoor
open Go Go.Dat Go.Proofs Nat32

end Go.Proofs.YtakchfljhihdmaaDoor
namespace Go.Proofs.YtakchfljhihdmaaDoor
open Go Go.Dat Go.Proofs Nat32

theorem vld_eq {a : List Nat} (la : lim a) (h : vld a = true) : limbs (vn a) = a := by
  rw [vn, val, h, if_pos rfl, limbs_nv la h]
theorem cmp_geq (x y : Nat) : decide (0 ≤ cmpN x y) = decide (y ≤ x) := by
  rw [decide_eq_decide]; unfold cmpN; split
  · omega
  · split <;> omega
theorem cmp_neg (x y : Nat) : IntKind.i64.wrap (0 - cmpN y x) = cmpN x y := by
  unfold cmpN; by_cases h : x < y <;> by_cases h2 : y < x <;> simp [h, h2] <;> first | omega | rfl | decide
theorem cmp_add (x y z : Nat) : cmpN (x + z) (y + z) = cmpN x y := by
  unfold cmpN; simp
end Go.Proofs.YtakchfljhihdmaaDoor
namespace Go.Proofs.YtakchfljhihdmaaDoor
open Go Go.Dat Go.Proofs Nat32

theorem len_add {p q m : Nat} (h1 : (limbs p).length ≤ m) (h2 : (limbs q).length ≤ m) : (limbs (p + q)).length ≤ m + 1 := by
  rw [limbs_len] at h1 h2 ⊢
  rw [Nat.pow_succ]; omega
theorem sameL (p q : Nat) (h : p = q) (hl : (limbs p).length ≤ 100000) : PCalls Tryd.prog 38 [.sl 1 (us (limbs p)), .sl 1 (us (limbs q))] (.bool true) := by
  subst h
  have := rSame_calls (limbs p) (limbs p) (by omega) (by omega)
  rwa [decide_eq_true rfl] at this
theorem nAddL (p q : Nat) (h1 : (limbs p).length ≤ 100000) (h2 : (limbs q).length ≤ 100000) : PCalls Tryd.prog 43 [.sl 1 (us (limbs p)), .sl 1 (us (limbs q))] (.sl 1 (us (limbs (p + q)))) := by
  have := nAdd_calls (limbs p) (limbs q) h1 h2 (lim_limbs _) (lim_limbs _)
  rwa [vn_limbs, vn_limbs] at this
theorem nMulL (p q : Nat) (h1 : (limbs p).length ≤ 10000) (h2 : (limbs q).length ≤ 10000) : PCalls Tryd.prog 45 [.sl 1 (us (limbs p)), .sl 1 (us (limbs q))] (.sl 1 (us (limbs (p * q)))) := by
  have := nMul_calls (limbs p) (limbs q) h1 h2 (lim_limbs _) (lim_limbs _)
  rwa [vn_limbs, vn_limbs] at this
theorem nDivL (p q : Nat) (h1 : (limbs p).length ≤ 100000) (h2 : (limbs q).length ≤ 100000) : PCalls Tryd.prog 57 [.sl 1 (us (limbs p)), .sl 1 (us (limbs q))] (.tup [.sl 1 (us (limbs (p / q))), .sl 1 (us (limbs (dmod p q))), .bool (decide (0 < q))]) := by
  have := nDiv_calls (limbs p) (limbs q) h1 h2 (lim_limbs _) (lim_limbs _)
  rwa [vn_limbs, vn_limbs] at this
theorem nGcdL (p q : Nat) (h1 : (limbs p).length ≤ 100000) (h2 : (limbs q).length ≤ 100000) : PCalls Tryd.prog 65 [.sl 1 (us (limbs p)), .sl 1 (us (limbs q))] (.sl 1 (us (limbs (Nat.gcd p q)))) := by
  have := nGcd_calls (limbs p) (limbs q) h1 h2 (lim_limbs _) (lim_limbs _)
  rwa [vn_limbs, vn_limbs] at this
theorem nCmpL (p q : Nat) (h1 : (limbs p).length ≤ 100000) (h2 : (limbs q).length ≤ 100000) : PCalls Tryd.prog 56 [.sl 1 (us (limbs p)), .sl 1 (us (limbs q))] (.int .i64 (cmpN p q)) := by
  have := nCmp_calls (limbs p) (limbs q) (by omega) (by omega) (lim_limbs _) (lim_limbs _)
  rwa [vn_limbs, vn_limbs] at this
theorem nValidL (p : Nat) (h1 : (limbs p).length ≤ 100000) : PCalls Tryd.prog 50 [.sl 1 (us (limbs p))] (.bool true) := by
  have := nValid_calls (limbs p) (by omega)
  rwa [vld_limbs] at this
theorem ex_limbs {a : List Nat} (la : lim a) (h : vld a = true) : ∃ x, a = limbs x := ⟨vn a, (vld_eq la h).symm⟩
theorem limbs1 : limbs 1 = [1] := limbs_one (by decide) (by decide)
theorem us1L : [DV.int .u32 1] = us (limbs 1) := by rw [limbs1]; rfl
theorem usnilL : us (limbs 0) = [] := by rw [limbs_zero]; rfl

theorem us_rfd (xs : List Nat) : (∀ d ∈ us xs, d.rf = true) = True := by simp [us, u32, DV.rf]

theorem rAddL (p q : Nat) (h1 : (limbs p).length ≤ 100000) (h2 : (limbs q).length ≤ 100000) : PCalls Tryd.prog 54 [.sl 1 (us (limbs p)), .sl 1 (us (limbs q))] (.sl 1 (us (limbs (p + q)))) := by
  have := rAdd_calls (limbs p) (limbs q) h1 h2 (lim_limbs _) (lim_limbs _)
  rwa [vn_limbs, vn_limbs] at this
theorem rMulL (p q : Nat) (h1 : (limbs p).length ≤ 10000) (h2 : (limbs q).length ≤ 10000) : PCalls Tryd.prog 64 [.sl 1 (us (limbs p)), .sl 1 (us (limbs q))] (.sl 1 (us (limbs (p * q)))) := by
  have := rMul_calls (limbs p) (limbs q) h1 h2 (lim_limbs _) (lim_limbs _)
  rwa [vn_limbs, vn_limbs] at this
theorem rDivL (p q : Nat) (h1 : (limbs p).length ≤ 1000) (h2 : (limbs q).length ≤ 1000) : PCalls Tryd.prog 62 [.sl 1 (us (limbs p)), .sl 1 (us (limbs q))] (.tup [.sl 1 (us (limbs (p / q))), .sl 1 (us (limbs (dmod p q))), .bool (decide (0 < q))]) := by
  have := rDiv_calls (limbs p) (limbs q) h1 h2 (lim_limbs _) (lim_limbs _)
  rwa [vn_limbs, vn_limbs] at this
theorem limbs2 : limbs 2 = [2] := limbs_one (by decide) (by decide)
theorem us2L : [DV.int .u32 2] = us (limbs 2) := by rw [limbs2]; rfl
theorem cmp_eq0 (x y : Nat) : decide (cmpN x y = 0) = decide (x = y) := by
  rw [decide_eq_decide]; unfold cmpN
  split
  · constructor
    · intro h; cases h
    · intro h; omega
  · split
    · constructor
      · intro h; cases h
      · intro h; omega
    · constructor
      · intro _; omega
      · intro _; rfl
theorem cmp_le0 (x y : Nat) : decide (cmpN x y ≤ 0) = decide (x ≤ y) := by
  rw [decide_eq_decide]; unfold cmpN
  split
  · constructor
    · intro _; omega
    · intro _; decide
  · split
    · constructor
      · intro h; omega
      · intro h; omega
    · constructor
      · intro _; omega
      · intro _; decide
end Go.Proofs.YtakchfljhihdmaaDoor
namespace Go.Proofs.YtakchfljhihdmaaDoor
open Go Go.Dat Go.Proofs

/-- robuststats/robuststatslaw02.IntegerWrites -/
noncomputable def fnliIntegerWrites : FnD := ⟨Tryd.prog, [0, 1, 2, 4, 5, 6, 7, 8, 16], [], 46, 0, false⟩
def codeliIntegerWrites : DC :=
 (.seq
  (.reg [⟨(.x 2), .box (.x 0), none⟩,
    ⟨(.x 4), .mv (.c (.bool false)), none⟩])
  (.seq
   (.seq
    (.reg [⟨(.t 9), .ldn 2 (.x 2), none⟩,
      ⟨(.t 10), .call 18 [(.t 9)], none⟩,
      ⟨(.t 11), .un .not (.t 10), none⟩,
      ⟨(.t 12), .mv (.t 11), none⟩,
      ⟨(.t 13), .mv (.x 1), (some ((.t 12), false))⟩,
      ⟨(.t 14), .lenS (.t 13), (some ((.t 12), false))⟩,
      ⟨(.t 15), .bin .gtr (.t 14) (.c (.int .i64 100)), (some ((.t 12), false))⟩,
      ⟨(.x 16), .pick (.t 12) (.c (.bool true)) (.t 15), none⟩])
    (.cond (.x 16)
     (.seq
      (.reg [⟨(.t 17), .call 11 [], none⟩,
        ⟨(.x 4), .mv (.t 17), none⟩])
      .ret)
     .skip))
   (.seq
    (.reg [⟨(.t 19), .mv (.x 1), none⟩,
      ⟨(.t 20), .call 30 [(.t 19)], none⟩,
      ⟨(.t 18), .mv (.t 20), none⟩,
      ⟨(.t 21), .ext (.t 18) 0, none⟩,
      ⟨(.t 22), .ext (.t 18) 1, none⟩,
      ⟨(.x 5), .alloc [(.bool false), .nils], none⟩,
      ⟨.no, .stn 2 (.x 5) (.t 21), none⟩,
      ⟨(.x 6), .mv (.t 22), none⟩])
    (.seq
     (.reg [⟨(.t 24), .mv (.x 1), none⟩,
       ⟨(.t 25), .call 31 [(.t 24)], none⟩,
       ⟨(.t 23), .mv (.t 25), none⟩,
       ⟨(.t 26), .ext (.t 23) 0, none⟩,
       ⟨(.t 27), .ext (.t 23) 1, none⟩,
       ⟨(.x 7), .alloc [(.bool false), .nils], none⟩,
       ⟨.no, .stn 2 (.x 7) (.t 26), none⟩,
       ⟨(.x 8), .mv (.t 27), none⟩])
     (.seq
      (.regd [⟨(.t 28), .call 11 [], none⟩,
        ⟨(.t 29), .mv (.t 28), none⟩,
        ⟨(.t 30), .ldn 2 (.x 2), (some ((.t 29), true))⟩,
        ⟨(.t 31), .call 32 [(.t 30)], (some ((.t 29), true))⟩,
        ⟨(.t 32), .ldn 2 (.x 2), (some ((.t 29), true))⟩,
        ⟨(.t 33), .call 33 [(.t 32)], (some ((.t 29), true))⟩,
        ⟨(.t 34), .bin .eql (.t 31) (.t 33), (some ((.t 29), true))⟩,
        ⟨(.t 35), .pick (.t 29) (.t 34) (.c (.bool false)), none⟩,
        ⟨(.t 36), .mv (.t 35), none⟩,
        ⟨(.t 37), .ldn 2 (.x 5), (some ((.t 36), true))⟩,
        ⟨(.t 38), .ldn 2 (.x 7), (some ((.t 36), true))⟩,
        ⟨(.t 39), .call 12 [(.t 37), (.t 38)], (some ((.t 36), true))⟩,
        ⟨(.t 40), .pick (.t 36) (.t 39) (.c (.bool false)), none⟩,
        ⟨(.t 41), .mv (.t 40), none⟩,
        ⟨(.t 42), .mv (.x 6), (some ((.t 41), true))⟩,
        ⟨(.t 43), .mv (.x 8), (some ((.t 41), true))⟩,
        ⟨(.t 44), .beq false (.t 42) (.t 43), (some ((.t 41), true))⟩,
        ⟨(.t 45), .pick (.t 41) (.t 44) (.c (.bool false)), none⟩,
        ⟨(.x 4), .mv (.t 45), none⟩])
      .ret)))))
def resliIntegerWrites : List RV := [.t 4]
theorem nbliIntegerWrites : fnliIntegerWrites.nb = 0 := rfl
theorem isliIntegerWrites : IsFn fnliIntegerWrites 7 codeliIntegerWrites resliIntegerWrites := ⟨⟨Tryd.f7, _, Tryd.func7, rfl, rfl, by kernel_rfl, by kernel_rfl, by kernel_rfl⟩⟩

/-- robuststats/robuststatslaw02.IntegerReadsBack -/
noncomputable def fnliIntegerReadsBack : FnD := ⟨Tryd.prog, [0, 1, 2, 4, 5, 6, 7, 8, 9, 10, 18, 60], [], 78, 0, false⟩
def codeliIntegerReadsBack : DC :=
 (.seq
  (.reg [⟨(.x 2), .box (.x 0), none⟩,
    ⟨(.x 4), .mv (.c (.bool false)), none⟩])
  (.seq
   (.seq
    (.reg [⟨(.t 11), .ldn 2 (.x 2), none⟩,
      ⟨(.t 12), .call 18 [(.t 11)], none⟩,
      ⟨(.t 13), .un .not (.t 12), none⟩,
      ⟨(.t 14), .mv (.t 13), none⟩,
      ⟨(.t 15), .ldn 2 (.x 2), (some ((.t 14), false))⟩,
      ⟨(.t 16), .call 22 [(.t 15)], (some ((.t 14), false))⟩,
      ⟨(.t 17), .un .not (.t 16), (some ((.t 14), false))⟩,
      ⟨(.x 18), .pick (.t 14) (.c (.bool true)) (.t 17), none⟩])
    (.cond (.x 18)
     (.seq
      (.reg [⟨(.t 19), .call 11 [], none⟩,
        ⟨(.x 4), .mv (.t 19), none⟩])
      .ret)
     .skip))
   (.seq
    (.reg [⟨(.t 21), .mv (.x 1), none⟩,
      ⟨(.t 22), .call 23 [(.t 21)], none⟩,
      ⟨(.t 23), .call 19 [(.t 22)], none⟩,
      ⟨(.t 20), .mv (.t 23), none⟩,
      ⟨(.t 24), .ext (.t 20) 0, none⟩,
      ⟨(.t 25), .ext (.t 20) 1, none⟩,
      ⟨(.x 5), .mv (.t 24), none⟩,
      ⟨(.x 6), .mv (.t 25), none⟩])
    (.seq
     (.reg [⟨(.t 27), .ldn 2 (.x 2), none⟩,
       ⟨(.t 28), .call 32 [(.t 27)], none⟩,
       ⟨(.t 29), .call 30 [(.t 28)], none⟩,
       ⟨(.t 26), .mv (.t 29), none⟩,
       ⟨(.t 30), .ext (.t 26) 0, none⟩,
       ⟨(.t 31), .ext (.t 26) 1, none⟩,
       ⟨(.x 7), .alloc [(.bool false), .nils], none⟩,
       ⟨.no, .stn 2 (.x 7) (.t 30), none⟩,
       ⟨(.x 8), .mv (.t 31), none⟩])
     (.seq
      (.reg [⟨(.t 33), .ldn 2 (.x 2), none⟩,
        ⟨(.t 34), .call 19 [(.t 33)], none⟩,
        ⟨(.t 32), .mv (.t 34), none⟩,
        ⟨(.t 35), .ext (.t 32) 0, none⟩,
        ⟨(.t 36), .ext (.t 32) 1, none⟩,
        ⟨(.x 9), .mv (.t 35), none⟩,
        ⟨(.x 10), .mv (.t 36), none⟩])
      (.seq
       (.seq
        (.regd [⟨(.t 37), .mv (.x 10), none⟩,
          ⟨(.t 38), .mv (.t 37), none⟩,
          ⟨(.t 39), .mv (.x 9), (some ((.t 38), true))⟩,
          ⟨(.t 40), .call 23 [(.t 39)], (some ((.t 38), true))⟩,
          ⟨(.t 41), .ldn 2 (.x 2), (some ((.t 38), true))⟩,
          ⟨(.t 42), .call 12 [(.t 40), (.t 41)], (some ((.t 38), true))⟩,
          ⟨(.t 43), .un .not (.t 42), (some ((.t 38), true))⟩,
          ⟨(.t 44), .pick (.t 38) (.t 43) (.c (.bool false)), none⟩,
          ⟨(.t 45), .mv (.t 44), none⟩,
          ⟨(.t 46), .mv (.x 10), (some ((.t 45), false))⟩,
          ⟨(.t 47), .un .not (.t 46), (some ((.t 45), false))⟩,
          ⟨(.t 48), .mv (.t 47), (some ((.t 45), false))⟩,
          ⟨(.t 49), .ldn 2 (.x 2), (some ((.t 48), true))⟩,
          ⟨(.t 50), .call 23 [(.c (.int .i64 9223372036854775807))], (some ((.t 48), true))⟩,
          ⟨(.t 51), .call 27 [(.t 49), (.t 50)], (some ((.t 48), true))⟩,
          ⟨(.t 52), .bin .leq (.t 51) (.c (.int .i64 0)), (some ((.t 48), true))⟩,
          ⟨(.t 53), .mv (.t 52), (some ((.t 48), true))⟩,
          ⟨(.t 54), .ldn 2 (.x 2), (some ((.t 53), true))⟩,
          ⟨(.t 55), .call 23 [(.c (.int .i64 (-9223372036854775808)))], (some ((.t 53), true))⟩,
          ⟨(.t 56), .call 27 [(.t 54), (.t 55)], (some ((.t 53), true))⟩,
          ⟨(.t 57), .bin .geq (.t 56) (.c (.int .i64 0)), (some ((.t 53), true))⟩,
          ⟨(.t 58), .pick (.t 53) (.t 57) (.c (.bool false)), (some ((.t 48), true))⟩,
          ⟨(.t 59), .pick (.t 48) (.t 58) (.c (.bool false)), (some ((.t 45), false))⟩,
          ⟨(.x 60), .pick (.t 45) (.c (.bool true)) (.t 59), none⟩])
        (.cond (.x 60)
         (.seq
          (.reg [⟨(.x 4), .mv (.c (.bool false)), none⟩])
          .ret)
         .skip))
       (.seq
        (.reg [⟨(.t 61), .call 11 [], none⟩,
          ⟨(.t 62), .mv (.t 61), none⟩,
          ⟨(.t 63), .mv (.x 6), (some ((.t 62), true))⟩,
          ⟨(.t 64), .pick (.t 62) (.t 63) (.c (.bool false)), none⟩,
          ⟨(.t 65), .mv (.t 64), none⟩,
          ⟨(.t 66), .mv (.x 5), (some ((.t 65), true))⟩,
          ⟨(.t 67), .mv (.x 1), (some ((.t 65), true))⟩,
          ⟨(.t 68), .bin .eql (.t 66) (.t 67), (some ((.t 65), true))⟩,
          ⟨(.t 69), .pick (.t 65) (.t 68) (.c (.bool false)), none⟩,
          ⟨(.t 70), .mv (.t 69), none⟩,
          ⟨(.t 71), .mv (.x 8), (some ((.t 70), true))⟩,
          ⟨(.t 72), .pick (.t 70) (.t 71) (.c (.bool false)), none⟩,
          ⟨(.t 73), .mv (.t 72), none⟩,
          ⟨(.t 74), .ldn 2 (.x 2), (some ((.t 73), true))⟩,
          ⟨(.t 75), .ldn 2 (.x 7), (some ((.t 73), true))⟩,
          ⟨(.t 76), .call 12 [(.t 74), (.t 75)], (some ((.t 73), true))⟩,
          ⟨(.t 77), .pick (.t 73) (.t 76) (.c (.bool false)), none⟩,
          ⟨(.x 4), .mv (.t 77), none⟩])
        .ret)))))))
def resliIntegerReadsBack : List RV := [.t 4]
theorem nbliIntegerReadsBack : fnliIntegerReadsBack.nb = 0 := rfl
theorem isliIntegerReadsBack : IsFn fnliIntegerReadsBack 9 codeliIntegerReadsBack resliIntegerReadsBack := ⟨⟨Tryd.f9, _, Tryd.func9, rfl, rfl, by kernel_rfl, by kernel_rfl, by kernel_rfl⟩⟩

/-- robuststats/integer.Parse -/
noncomputable def fniParse : FnD := ⟨Tryd.prog, [0, 2, 3, 4, 5, 14, 31], [], 36, 0, false⟩
def codeiParse : DC :=
 (.seq
  (.reg [⟨(.x 2), .alloc [(.bool false), .nils], none⟩,
    ⟨(.x 3), .mv (.c (.bool false)), none⟩])
  (.seq
   (.reg [⟨(.t 6), .mv (.x 0), none⟩,
     ⟨(.t 7), .lenS (.t 6), none⟩,
     ⟨(.t 8), .bin .gtr (.t 7) (.c (.int .i64 0)), none⟩,
     ⟨(.t 9), .mv (.t 8), none⟩,
     ⟨(.t 10), .mv (.x 0), (some ((.t 9), true))⟩,
     ⟨(.t 11), .idx (.t 10) (.c (.int .i64 0)), (some ((.t 9), true))⟩,
     ⟨(.t 12), .bin .eql (.t 11) (.c (.int .u8 45)), (some ((.t 9), true))⟩,
     ⟨(.t 13), .pick (.t 9) (.t 12) (.c (.bool false)), none⟩,
     ⟨(.x 4), .mv (.t 13), none⟩])
   (.seq
    (.seq
     (.reg [⟨(.x 14), .mv (.x 4), none⟩])
     (.cond (.x 14)
      (.reg [⟨(.t 15), .mv (.x 0), none⟩,
        ⟨(.t 16), .slcS (.t 15) (some (.c (.int .i64 1))) none, none⟩,
        ⟨(.x 0), .mv (.t 16), none⟩])
      .skip))
    (.seq
     (.reg [⟨(.t 18), .mv (.x 0), none⟩,
       ⟨(.t 19), .call 58 [(.t 18)], none⟩,
       ⟨(.t 17), .mv (.t 19), none⟩,
       ⟨(.t 20), .ext (.t 17) 0, none⟩,
       ⟨(.t 21), .ext (.t 17) 1, none⟩,
       ⟨(.x 5), .mv (.t 20), none⟩,
       ⟨(.x 3), .mv (.t 21), none⟩])
     (.seq
      (.seq
       (.reg [⟨(.t 22), .mv (.x 3), none⟩,
         ⟨(.t 23), .un .not (.t 22), none⟩,
         ⟨(.t 24), .mv (.t 23), none⟩,
         ⟨(.t 25), .mv (.x 4), (some ((.t 24), false))⟩,
         ⟨(.t 26), .mv (.t 25), (some ((.t 24), false))⟩,
         ⟨(.t 27), .mv (.x 5), (some ((.t 26), true))⟩,
         ⟨(.t 28), .len 1 (.t 27), (some ((.t 26), true))⟩,
         ⟨(.t 29), .bin .eql (.t 28) (.c (.int .i64 0)), (some ((.t 26), true))⟩,
         ⟨(.t 30), .pick (.t 26) (.t 29) (.c (.bool false)), (some ((.t 24), false))⟩,
         ⟨(.x 31), .pick (.t 24) (.c (.bool true)) (.t 30), none⟩])
       (.cond (.x 31)
        (.seq
         (.reg [⟨(.t 32), .build [(.bool false), .nils] [], none⟩,
           ⟨.no, .stn 2 (.x 2) (.t 32), none⟩,
           ⟨(.x 3), .mv (.c (.bool false)), none⟩])
         .ret)
        .skip))
      (.seq
       (.reg [⟨(.t 33), .mv (.x 4), none⟩,
         ⟨(.t 34), .mv (.x 5), none⟩,
         ⟨(.t 35), .call 42 [(.t 33), (.t 34)], none⟩,
         ⟨.no, .stn 2 (.x 2) (.t 35), none⟩,
         ⟨(.x 3), .mv (.c (.bool true)), none⟩])
       .ret))))))
def resiParse : List RV := [.cn 2 2, .t 3]
theorem nbiParse : fniParse.nb = 0 := rfl
theorem isiParse : IsFn fniParse 30 codeiParse resiParse := ⟨⟨Tryd.f30, _, Tryd.func30, rfl, rfl, by kernel_rfl, by kernel_rfl, by kernel_rfl⟩⟩

/-- robuststats/robuststatsref02.Parse -/
noncomputable def fnsParse : FnD := ⟨Tryd.prog, [0, 2, 3, 4, 5, 6, 15, 32], [], 37, 0, false⟩
def codesParse : DC :=
 (.seq
  (.reg [⟨(.x 2), .alloc [(.bool false), .nils], none⟩,
    ⟨(.x 3), .mv (.c (.bool false)), none⟩])
  (.seq
   (.reg [⟨(.t 7), .mv (.x 0), none⟩,
     ⟨(.t 8), .lenS (.t 7), none⟩,
     ⟨(.t 9), .bin .gtr (.t 8) (.c (.int .i64 0)), none⟩,
     ⟨(.t 10), .mv (.t 9), none⟩,
     ⟨(.t 11), .mv (.x 0), (some ((.t 10), true))⟩,
     ⟨(.t 12), .idx (.t 11) (.c (.int .i64 0)), (some ((.t 10), true))⟩,
     ⟨(.t 13), .bin .eql (.t 12) (.c (.int .u8 45)), (some ((.t 10), true))⟩,
     ⟨(.t 14), .pick (.t 10) (.t 13) (.c (.bool false)), none⟩,
     ⟨(.x 4), .mv (.t 14), none⟩])
   (.seq
    (.seq
     (.reg [⟨(.x 15), .mv (.x 4), none⟩])
     (.cond (.x 15)
      (.reg [⟨(.t 16), .mv (.x 0), none⟩,
        ⟨(.t 17), .slcS (.t 16) (some (.c (.int .i64 1))) none, none⟩,
        ⟨(.x 0), .mv (.t 17), none⟩])
      .skip))
    (.seq
     (.reg [⟨(.t 19), .mv (.x 0), none⟩,
       ⟨(.t 20), .call 59 [(.t 19)], none⟩,
       ⟨(.t 18), .mv (.t 20), none⟩,
       ⟨(.t 21), .ext (.t 18) 0, none⟩,
       ⟨(.t 22), .ext (.t 18) 1, none⟩,
       ⟨(.x 5), .mv (.t 21), none⟩,
       ⟨(.x 6), .mv (.t 22), none⟩])
     (.seq
      (.seq
       (.reg [⟨(.t 23), .mv (.x 6), none⟩,
         ⟨(.t 24), .un .not (.t 23), none⟩,
         ⟨(.t 25), .mv (.t 24), none⟩,
         ⟨(.t 26), .mv (.x 4), (some ((.t 25), false))⟩,
         ⟨(.t 27), .mv (.t 26), (some ((.t 25), false))⟩,
         ⟨(.t 28), .mv (.x 5), (some ((.t 27), true))⟩,
         ⟨(.t 29), .len 1 (.t 28), (some ((.t 27), true))⟩,
         ⟨(.t 30), .bin .eql (.t 29) (.c (.int .i64 0)), (some ((.t 27), true))⟩,
         ⟨(.t 31), .pick (.t 27) (.t 30) (.c (.bool false)), (some ((.t 25), false))⟩,
         ⟨(.x 32), .pick (.t 25) (.c (.bool true)) (.t 31), none⟩])
       (.cond (.x 32)
        (.seq
         (.reg [⟨(.t 33), .build [(.bool false), .nils] [], none⟩,
           ⟨.no, .stn 2 (.x 2) (.t 33), none⟩,
           ⟨(.x 3), .mv (.c (.bool false)), none⟩])
         .ret)
        .skip))
      (.seq
       (.reg [⟨(.t 34), .mv (.x 4), none⟩,
         ⟨(.t 35), .mv (.x 5), none⟩,
         ⟨(.t 36), .call 53 [(.t 34), (.t 35)], none⟩,
         ⟨.no, .stn 2 (.x 2) (.t 36), none⟩,
         ⟨(.x 3), .mv (.c (.bool true)), none⟩])
       .ret))))))
def ressParse : List RV := [.cn 2 2, .t 3]
theorem nbsParse : fnsParse.nb = 0 := rfl
theorem issParse : IsFn fnsParse 31 codesParse ressParse := ⟨⟨Tryd.f31, _, Tryd.func31, rfl, rfl, by kernel_rfl, by kernel_rfl, by kernel_rfl⟩⟩

/-- robuststats/robuststatsref02.Format -/
noncomputable def fnsFormat : FnD := ⟨Tryd.prog, [0, 1, 2, 6], [], 14, 0, false⟩
def codesFormat : DC :=
 (.seq
  (.reg [⟨(.x 1), .box (.x 0), none⟩,
    ⟨(.x 2), .mv (.c (.str [])), none⟩])
  (.seq
   (.reg [⟨(.t 3), .ldn 2 (.x 1), none⟩,
     ⟨(.t 4), .call 48 [(.t 3)], none⟩,
     ⟨.no, .stn 2 (.x 1) (.t 4), none⟩])
   (.seq
    (.seq
     (.reg [⟨(.t 5), .fad 0 (.x 1), none⟩,
       ⟨(.x 6), .ld (.t 5), none⟩])
     (.cond (.x 6)
      (.seq
       (.reg [⟨(.t 7), .fad 1 (.x 1), none⟩,
         ⟨(.t 8), .ld (.t 7), none⟩,
         ⟨(.t 9), .call 61 [(.t 8)], none⟩,
         ⟨(.t 10), .bin .add (.c (.str [45])) (.t 9), none⟩,
         ⟨(.x 2), .mv (.t 10), none⟩])
       .ret)
      .skip))
    (.seq
     (.reg [⟨(.t 11), .fad 1 (.x 1), none⟩,
       ⟨(.t 12), .ld (.t 11), none⟩,
       ⟨(.t 13), .call 61 [(.t 12)], none⟩,
       ⟨(.x 2), .mv (.t 13), none⟩])
     .ret))))
def ressFormat : List RV := [.t 2]
theorem nbsFormat : fnsFormat.nb = 0 := rfl
theorem issFormat : IsFn fnsFormat 33 codesFormat ressFormat := ⟨⟨Tryd.f33, _, Tryd.func33, rfl, rfl, by kernel_rfl, by kernel_rfl, by kernel_rfl⟩⟩

/-- robuststats/natural.Parse -/
noncomputable def fnnParse : FnD := ⟨Tryd.prog, [0, 2, 3, 4, 5, 6, 7, 9, 26, 33, 41, 47, 48, 49, 50, 58], [], 74, 0, false⟩
def codenParse : DC :=
 (.seq
  (.reg [⟨(.x 2), .mv (.c .nils), none⟩,
    ⟨(.x 3), .mv (.c (.bool false)), none⟩])
  (.seq
   (.seq
    (.reg [⟨(.t 10), .mv (.x 0), none⟩,
      ⟨(.t 11), .bin .eql (.t 10) (.c (.str [])), none⟩,
      ⟨(.t 12), .mv (.t 11), none⟩,
      ⟨(.t 13), .mv (.x 0), (some ((.t 12), false))⟩,
      ⟨(.t 14), .lenS (.t 13), (some ((.t 12), false))⟩,
      ⟨(.t 15), .bin .gtr (.t 14) (.c (.int .i64 4000)), (some ((.t 12), false))⟩,
      ⟨(.t 16), .pick (.t 12) (.c (.bool true)) (.t 15), none⟩,
      ⟨(.t 17), .mv (.t 16), none⟩,
      ⟨(.t 18), .mv (.x 0), (some ((.t 17), false))⟩,
      ⟨(.t 19), .idx (.t 18) (.c (.int .i64 0)), (some ((.t 17), false))⟩,
      ⟨(.t 20), .bin .eql (.t 19) (.c (.int .u8 48)), (some ((.t 17), false))⟩,
      ⟨(.t 21), .mv (.t 20), (some ((.t 17), false))⟩,
      ⟨(.t 22), .mv (.x 0), (some ((.t 21), true))⟩,
      ⟨(.t 23), .lenS (.t 22), (some ((.t 21), true))⟩,
      ⟨(.t 24), .bin .gtr (.t 23) (.c (.int .i64 1)), (some ((.t 21), true))⟩,
      ⟨(.t 25), .pick (.t 21) (.t 24) (.c (.bool false)), (some ((.t 17), false))⟩,
      ⟨(.x 26), .pick (.t 17) (.c (.bool true)) (.t 25), none⟩])
    (.cond (.x 26)
     (.seq
      (.reg [⟨(.x 2), .mv (.c .nils), none⟩,
        ⟨(.x 3), .mv (.c (.bool false)), none⟩])
      .ret)
     .skip))
   (.seq
    (.reg [⟨(.t 27), .mv (.x 0), none⟩,
      ⟨(.t 28), .lenS (.t 27), none⟩,
      ⟨(.t 29), .bin .rem (.t 28) (.c (.int .i64 9)), none⟩,
      ⟨(.x 4), .mv (.t 29), none⟩])
    (.seq
     (.seq
      (.reg [⟨(.x 5), .mv (.c (.int .i64 0)), none⟩])
      (.block 0
       (.loop
        (.seq
         (.seq
          (.reg [⟨(.t 30), .mv (.x 5), none⟩,
            ⟨(.t 31), .mv (.x 0), none⟩,
            ⟨(.t 32), .lenS (.t 31), none⟩,
            ⟨(.x 33), .bin .lss (.t 30) (.t 32), none⟩])
          (.cond (.x 33)
           .skip
           (.exit 0)))
         (.block 1
          (.seq
           (.reg [⟨(.t 34), .mv (.x 5), none⟩,
             ⟨(.t 35), .bin .add (.t 34) (.c (.int .i64 9)), none⟩,
             ⟨(.x 6), .mv (.t 35), none⟩])
           (.seq
            (.seq
             (.reg [⟨(.t 36), .mv (.x 5), none⟩,
               ⟨(.t 37), .bin .eql (.t 36) (.c (.int .i64 0)), none⟩,
               ⟨(.t 38), .mv (.t 37), none⟩,
               ⟨(.t 39), .mv (.x 4), (some ((.t 38), true))⟩,
               ⟨(.t 40), .bin .gtr (.t 39) (.c (.int .i64 0)), (some ((.t 38), true))⟩,
               ⟨(.x 41), .pick (.t 38) (.t 40) (.c (.bool false)), none⟩])
             (.cond (.x 41)
              (.reg [⟨(.t 42), .mv (.x 4), none⟩,
                ⟨(.x 6), .mv (.t 42), none⟩])
              .skip))
            (.seq
             (.reg [⟨(.x 7), .mv (.c (.int .u64 0)), none⟩])
             (.seq
              (.seq
               (.reg [⟨(.t 43), .mv (.x 0), none⟩,
                 ⟨(.t 44), .mv (.x 5), none⟩,
                 ⟨(.t 45), .mv (.x 6), none⟩,
                 ⟨(.t 46), .slcS (.t 43) (some (.t 44)) (some (.t 45)), none⟩,
                 ⟨(.x 47), .s2b (.t 46), none⟩,
                 ⟨(.x 48), .len 1 (.x 47), none⟩,
                 ⟨(.x 49), .mv (.c (.int .i64 0)), none⟩])
               (.block 2
                (.loop
                 (.seq
                  (.reg [⟨(.x 50), .bin .lss (.x 49) (.x 48), none⟩])
                  (.seq
                   (.cond (.x 50)
                    .skip
                    (.exit 2))
                   (.seq
                    (.block 3
                     (.seq
                      (.reg [⟨(.t 51), .iad 1 (.x 47) (.x 49), none⟩,
                        ⟨(.t 52), .ld (.t 51), none⟩,
                        ⟨(.x 9), .mv (.t 52), none⟩])
                      (.seq
                       (.seq
                        (.reg [⟨(.t 53), .mv (.x 9), none⟩,
                          ⟨(.t 54), .bin .lss (.t 53) (.c (.int .u8 48)), none⟩,
                          ⟨(.t 55), .mv (.t 54), none⟩,
                          ⟨(.t 56), .mv (.x 9), (some ((.t 55), false))⟩,
                          ⟨(.t 57), .bin .gtr (.t 56) (.c (.int .u8 57)), (some ((.t 55), false))⟩,
                          ⟨(.x 58), .pick (.t 55) (.c (.bool true)) (.t 57), none⟩])
                        (.cond (.x 58)
                         (.seq
                          (.reg [⟨(.x 2), .mv (.c .nils), none⟩,
                            ⟨(.x 3), .mv (.c (.bool false)), none⟩])
                          .ret)
                         .skip))
                       (.reg [⟨(.t 59), .mv (.x 7), none⟩,
                         ⟨(.t 60), .bin .mul (.c (.int .u64 10)) (.t 59), none⟩,
                         ⟨(.t 61), .mv (.x 9), none⟩,
                         ⟨(.t 62), .bin .sub (.t 61) (.c (.int .u8 48)), none⟩,
                         ⟨(.t 63), .conv .u64 (.t 62), none⟩,
                         ⟨(.t 64), .bin .add (.t 60) (.t 63), none⟩,
                         ⟨(.x 7), .mv (.t 64), none⟩]))))
                    (.reg [⟨(.t 65), .bin .add (.x 49) (.c (.int .i64 1)), none⟩,
                      ⟨(.x 49), .mv (.t 65), none⟩])))))))
              (.seq
               (.reg [⟨(.t 66), .mv (.x 2), none⟩,
                 ⟨(.t 67), .bsl 1 [(.int .u32 0)] [(0, 1, (.c (.int .u32 1000000000)))], none⟩,
                 ⟨(.t 68), .call 45 [(.t 66), (.t 67)], none⟩,
                 ⟨(.t 69), .mv (.x 7), none⟩,
                 ⟨(.t 70), .call 52 [(.t 69)], none⟩,
                 ⟨(.t 71), .call 43 [(.t 68), (.t 70)], none⟩,
                 ⟨(.x 2), .mv (.t 71), none⟩])
               (.reg [⟨(.t 72), .mv (.x 6), none⟩,
                 ⟨(.x 5), .mv (.t 72), none⟩])))))))))))
     (.seq
      (.reg [⟨(.t 73), .mv (.x 2), none⟩,
        ⟨(.x 2), .mv (.t 73), none⟩,
        ⟨(.x 3), .mv (.c (.bool true)), none⟩])
      .ret)))))
def resnParse : List RV := [.t 2, .t 3]
theorem nbnParse : fnnParse.nb = 0 := rfl
theorem isnParse : IsFn fnnParse 58 codenParse resnParse := ⟨⟨Tryd.f58, _, Tryd.func58, rfl, rfl, by kernel_rfl, by kernel_rfl, by kernel_rfl⟩⟩

/-- robuststats/robuststatsref01.Parse -/
noncomputable def fnrParse : FnD := ⟨Tryd.prog, [0, 2, 3, 4, 5, 22, 26, 38], [], 49, 0, false⟩
def coderParse : DC :=
 (.seq
  (.reg [⟨(.x 2), .mv (.c .nils), none⟩,
    ⟨(.x 3), .mv (.c (.bool false)), none⟩])
  (.seq
   (.seq
    (.reg [⟨(.t 6), .mv (.x 0), none⟩,
      ⟨(.t 7), .bin .eql (.t 6) (.c (.str [])), none⟩,
      ⟨(.t 8), .mv (.t 7), none⟩,
      ⟨(.t 9), .mv (.x 0), (some ((.t 8), false))⟩,
      ⟨(.t 10), .lenS (.t 9), (some ((.t 8), false))⟩,
      ⟨(.t 11), .bin .gtr (.t 10) (.c (.int .i64 4000)), (some ((.t 8), false))⟩,
      ⟨(.t 12), .pick (.t 8) (.c (.bool true)) (.t 11), none⟩,
      ⟨(.t 13), .mv (.t 12), none⟩,
      ⟨(.t 14), .mv (.x 0), (some ((.t 13), false))⟩,
      ⟨(.t 15), .lenS (.t 14), (some ((.t 13), false))⟩,
      ⟨(.t 16), .bin .gtr (.t 15) (.c (.int .i64 1)), (some ((.t 13), false))⟩,
      ⟨(.t 17), .mv (.t 16), (some ((.t 13), false))⟩,
      ⟨(.t 18), .mv (.x 0), (some ((.t 17), true))⟩,
      ⟨(.t 19), .idx (.t 18) (.c (.int .i64 0)), (some ((.t 17), true))⟩,
      ⟨(.t 20), .bin .eql (.t 19) (.c (.int .u8 48)), (some ((.t 17), true))⟩,
      ⟨(.t 21), .pick (.t 17) (.t 20) (.c (.bool false)), (some ((.t 13), false))⟩,
      ⟨(.x 22), .pick (.t 13) (.c (.bool true)) (.t 21), none⟩])
    (.cond (.x 22)
     (.seq
      (.reg [⟨(.x 2), .mv (.c .nils), none⟩,
        ⟨(.x 3), .mv (.c (.bool false)), none⟩])
      .ret)
     .skip))
   (.seq
    (.reg [⟨(.x 4), .mv (.c .nils), none⟩])
    (.seq
     (.seq
      (.reg [⟨(.x 5), .mv (.c (.int .i64 0)), none⟩])
      (.block 0
       (.loop
        (.seq
         (.seq
          (.reg [⟨(.t 23), .mv (.x 5), none⟩,
            ⟨(.t 24), .mv (.x 0), none⟩,
            ⟨(.t 25), .lenS (.t 24), none⟩,
            ⟨(.x 26), .bin .lss (.t 23) (.t 25), none⟩])
          (.cond (.x 26)
           .skip
           (.exit 0)))
         (.seq
          (.block 1
           (.seq
            (.seq
             (.reg [⟨(.t 29), .mv (.x 0), none⟩,
               ⟨(.t 30), .mv (.x 5), none⟩,
               ⟨(.t 31), .idx (.t 29) (.t 30), none⟩,
               ⟨(.t 32), .bin .lss (.t 31) (.c (.int .u8 48)), none⟩,
               ⟨(.t 33), .mv (.t 32), none⟩,
               ⟨(.t 34), .mv (.x 0), (some ((.t 33), false))⟩,
               ⟨(.t 35), .mv (.x 5), (some ((.t 33), false))⟩,
               ⟨(.t 36), .idx (.t 34) (.t 35), (some ((.t 33), false))⟩,
               ⟨(.t 37), .bin .gtr (.t 36) (.c (.int .u8 57)), (some ((.t 33), false))⟩,
               ⟨(.x 38), .pick (.t 33) (.c (.bool true)) (.t 37), none⟩])
             (.cond (.x 38)
              (.seq
               (.reg [⟨(.x 2), .mv (.c .nils), none⟩,
                 ⟨(.x 3), .mv (.c (.bool false)), none⟩])
               .ret)
              .skip))
            (.regd [⟨(.t 39), .mv (.x 4), none⟩,
              ⟨(.t 40), .call 77 [(.t 39), (.c (.int .u32 10)), (.c (.int .i64 0))], none⟩,
              ⟨(.t 41), .mv (.x 0), none⟩,
              ⟨(.t 42), .mv (.x 5), none⟩,
              ⟨(.t 43), .idx (.t 41) (.t 42), none⟩,
              ⟨(.t 44), .bin .sub (.t 43) (.c (.int .u8 48)), none⟩,
              ⟨(.t 45), .conv .u64 (.t 44), none⟩,
              ⟨(.t 46), .call 55 [(.t 45)], none⟩,
              ⟨(.t 47), .call 54 [(.t 40), (.t 46)], none⟩,
              ⟨(.x 4), .mv (.t 47), none⟩])))
          (.reg [⟨(.t 27), .mv (.x 5), none⟩,
            ⟨(.t 28), .bin .add (.t 27) (.c (.int .i64 1)), none⟩,
            ⟨(.x 5), .mv (.t 28), none⟩]))))))
     (.seq
      (.reg [⟨(.t 48), .mv (.x 4), none⟩,
        ⟨(.x 2), .mv (.t 48), none⟩,
        ⟨(.x 3), .mv (.c (.bool true)), none⟩])
      .ret)))))
def resrParse : List RV := [.t 2, .t 3]
theorem nbrParse : fnrParse.nb = 0 := rfl
theorem isrParse : IsFn fnrParse 59 coderParse resrParse := ⟨⟨Tryd.f59, _, Tryd.func59, rfl, rfl, by kernel_rfl, by kernel_rfl, by kernel_rfl⟩⟩

/-- robuststats/robuststatsref01.Format -/
noncomputable def fnrFormat : FnD := ⟨Tryd.prog, [0, 2, 3, 4, 5, 26], [], 29, 0, false⟩
def coderFormat : DC :=
 (.seq
  (.reg [⟨(.x 2), .mv (.c (.str [])), none⟩])
  (.seq
   (.reg [⟨(.t 7), .mv (.x 0), none⟩,
     ⟨(.t 8), .call 71 [(.t 7)], none⟩,
     ⟨(.x 0), .mv (.t 8), none⟩])
   (.seq
    (.reg [⟨(.x 3), .mv (.c (.str [])), none⟩])
    (.block 0
     (.loop
      (.block 1
       (.seq
        (.reg [⟨(.t 10), .mv (.x 0), none⟩,
          ⟨(.t 11), .bsl 1 [(.int .u32 0)] [(0, 1, (.c (.int .u32 10)))], none⟩,
          ⟨(.t 12), .call 62 [(.t 10), (.t 11)], none⟩,
          ⟨(.t 9), .mv (.t 12), none⟩,
          ⟨(.t 13), .ext (.t 9) 0, none⟩,
          ⟨(.t 14), .ext (.t 9) 1, none⟩,
          ⟨(.t 15), .ext (.t 9) 2, none⟩,
          ⟨(.x 4), .mv (.t 13), none⟩,
          ⟨(.x 5), .mv (.t 14), none⟩,
          ⟨(.t 6), .mv (.t 15), none⟩])
        (.seq
         (.reg [⟨(.t 16), .mv (.x 5), none⟩,
           ⟨(.t 17), .call 72 [(.t 16), (.c (.int .i64 0))], none⟩,
           ⟨(.t 18), .bin .add (.c (.int .u64 48)) (.t 17), none⟩,
           ⟨(.t 19), .conv .u8 (.t 18), none⟩,
           ⟨(.t 20), .bsl 1 [(.int .u8 0)] [(0, 1, (.t 19))], none⟩,
           ⟨(.t 21), .b2s (.t 20), none⟩,
           ⟨(.t 22), .mv (.x 3), none⟩,
           ⟨(.t 23), .bin .add (.t 21) (.t 22), none⟩,
           ⟨(.x 3), .mv (.t 23), none⟩])
         (.seq
          (.seq
           (.reg [⟨(.t 24), .mv (.x 4), none⟩,
             ⟨(.t 25), .len 1 (.t 24), none⟩,
             ⟨(.x 26), .bin .eql (.t 25) (.c (.int .i64 0)), none⟩])
           (.cond (.x 26)
            (.seq
             (.reg [⟨(.t 27), .mv (.x 3), none⟩,
               ⟨(.x 2), .mv (.t 27), none⟩])
             .ret)
            .skip))
          (.reg [⟨(.t 28), .mv (.x 4), none⟩,
            ⟨(.x 0), .mv (.t 28), none⟩]))))))))))
def resrFormat : List RV := [.t 2]
theorem nbrFormat : fnrFormat.nb = 0 := rfl
theorem isrFormat : IsFn fnrFormat 61 coderFormat resrFormat := ⟨⟨Tryd.f61, _, Tryd.func61, rfl, rfl, by kernel_rfl, by kernel_rfl, by kernel_rfl⟩⟩

end Go.Proofs.YtakchfljhihdmaaDoor
namespace Go.Proofs
open Go.Shelf
def Tryd.lays170_ren : Go.Shelf.Ren := ⟨fun | 170 => 97 | n => n, fun | 70 => 88 | 3 => 3 | 0 => 0 | 72 => 90 | 37 => 70 | 5 => 5 | n => n, fun | n => n⟩
theorem Tryd.lays170 : Go.Proofs.Lays.n170 Tryd.prog Tryd.lays170_ren := {
  mixed := by kernel_rfl
  f170 := Tryd.func97.trans (congrArg some (by kernel_rfl))
  t0 := Tryd.underlying0
  a0 := Tryd.isAgg0
  z0 := Tryd.sizeOf0
  v0 := Tryd.zeroValue0
  t3 := Tryd.underlying3
  a3 := Tryd.isAgg3
  z3 := Tryd.sizeOf3
  v3 := Tryd.zeroValue3
  t37 := Tryd.underlying70
  a37 := Tryd.isAgg70
  z37 := Tryd.sizeOf70
  v37 := Tryd.zeroValue70
  t70 := Tryd.underlying88
  a70 := Tryd.isAgg88
  z70 := Tryd.sizeOf88
  v70 := Tryd.zeroValue88
  t72 := Tryd.underlying90
  a72 := Tryd.isAgg90
  z72 := Tryd.sizeOf90
  v72 := Tryd.zeroValue90 }
open Go.RowKit in
theorem Tryd.Builder_Len (B b : Nat) (bs : List Value) (w : World) (h : Lib.IsBuilder 90 5 B b bs w) :
    Calls Tryd.prog 97 #[.pointer (some ⟨b, 0, none⟩)] w fun e w' => e = .returned (.int .i64 bs.length) ∧ w' = w := Any.Builder_Len Tryd.lays170 B b bs w h
def Tryd.lays169_ren : Go.Shelf.Ren := ⟨fun | 169 => 98 | n => n, fun | 70 => 88 | 9 => 9 | 0 => 0 | 72 => 90 | 37 => 70 | 127 => 102 | 3 => 3 | 5 => 5 | n => n, fun | n => n⟩
theorem Tryd.lays169 : Go.Proofs.Lays.n169 Tryd.prog Tryd.lays169_ren := {
  mixed := by kernel_rfl
  f169 := Tryd.func98.trans (congrArg some (by kernel_rfl))
  t0 := Tryd.underlying0
  a0 := Tryd.isAgg0
  z0 := Tryd.sizeOf0
  v0 := Tryd.zeroValue0
  t3 := Tryd.underlying3
  a3 := Tryd.isAgg3
  z3 := Tryd.sizeOf3
  v3 := Tryd.zeroValue3
  t9 := Tryd.underlying9
  a9 := Tryd.isAgg9
  z9 := Tryd.sizeOf9
  v9 := Tryd.zeroValue9
  t37 := Tryd.underlying70
  a37 := Tryd.isAgg70
  z37 := Tryd.sizeOf70
  v37 := Tryd.zeroValue70
  t70 := Tryd.underlying88
  a70 := Tryd.isAgg88
  z70 := Tryd.sizeOf88
  v70 := Tryd.zeroValue88
  t72 := Tryd.underlying90
  a72 := Tryd.isAgg90
  z72 := Tryd.sizeOf90
  v72 := Tryd.zeroValue90
  t127 := Tryd.underlying102
  a127 := Tryd.isAgg102
  z127 := Tryd.sizeOf102
  v127 := Tryd.zeroValue102 }
theorem Tryd.Builder_Extra_169 : Builder.Extra Tryd.prog Tryd.lays169_ren := {
  sizeBuilder := by kernel_rfl
  liesBuilder := by kernel_rfl
  t5 := Tryd.underlying5
  a5 := Tryd.isAgg5
  z5 := Tryd.sizeOf5
  v5 := Tryd.zeroValue5
  infoByte := by kernel_rfl
  cellsByte := by kernel_rfl
  sizeByte := by kernel_rfl
  neB5 := by decide }
open Go.RowKit in
theorem Tryd.Builder_String (B b : Nat) (l : List UInt8) (w : World) (h : Lib.IsBuilder 90 5 B b (Lib.byteCells l) w) (h0 : l ≠ []) :
    Calls Tryd.prog 98 #[.pointer (some ⟨b, 0, none⟩)] w fun e w' => e = .returned (.string ⟨l.toArray⟩) ∧ Below B w w' := Any.Builder_String Tryd.lays169 Tryd.Builder_Extra_169 B b l w h h0
open Go.RowKit in
theorem Tryd.Builder_String_empty (B b : Nat) (w : World) (h : Lib.IsBuilder 90 5 B b [] w) (hBw : B ≤ w.heap.size) :
    Calls Tryd.prog 98 #[.pointer (some ⟨b, 0, none⟩)] w fun e w' => e = .returned (.string ⟨#[]⟩) ∧ Below B w w' := Any.Builder_String_empty Tryd.lays169 Tryd.Builder_Extra_169 B b w h hBw
open Go.RowKit in
theorem Tryd.Builder_String_any (B b : Nat) (l : List UInt8) (w : World) (h : Lib.IsBuilder 90 5 B b (Lib.byteCells l) w) (hBw : B ≤ w.heap.size) :
    Calls Tryd.prog 98 #[.pointer (some ⟨b, 0, none⟩)] w fun e w' => e = .returned (.string ⟨l.toArray⟩) ∧ Below B w w' := Any.Builder_String_any Tryd.lays169 Tryd.Builder_Extra_169 B b l w h hBw
def Tryd.lays241_ren : Go.Shelf.Ren := ⟨fun | 241 => 105 | 277 => 111 | n => n, fun | 70 => 88 | 3 => 3 | 0 => 0 | 72 => 90 | 37 => 70 | 5 => 5 | n => n, fun | n => n⟩
theorem Tryd.lays241 : Go.Proofs.Lays.n241 Tryd.prog Tryd.lays241_ren := {
  mixed := by kernel_rfl
  f241 := Tryd.func105.trans (congrArg some (by kernel_rfl))
  f277 := Tryd.func111.trans (congrArg some (by kernel_rfl))
  t0 := Tryd.underlying0
  a0 := Tryd.isAgg0
  z0 := Tryd.sizeOf0
  v0 := Tryd.zeroValue0
  t3 := Tryd.underlying3
  a3 := Tryd.isAgg3
  z3 := Tryd.sizeOf3
  v3 := Tryd.zeroValue3
  t37 := Tryd.underlying70
  a37 := Tryd.isAgg70
  z37 := Tryd.sizeOf70
  v37 := Tryd.zeroValue70
  t70 := Tryd.underlying88
  a70 := Tryd.isAgg88
  z70 := Tryd.sizeOf88
  v70 := Tryd.zeroValue88
  t72 := Tryd.underlying90
  a72 := Tryd.isAgg90
  z72 := Tryd.sizeOf90
  v72 := Tryd.zeroValue90 }
theorem Tryd.Builder_Extra_241 : Builder.Extra Tryd.prog Tryd.lays241_ren := {
  sizeBuilder := by kernel_rfl
  liesBuilder := by kernel_rfl
  t5 := Tryd.underlying5
  a5 := Tryd.isAgg5
  z5 := Tryd.sizeOf5
  v5 := Tryd.zeroValue5
  infoByte := by kernel_rfl
  cellsByte := by kernel_rfl
  sizeByte := by kernel_rfl
  neB5 := by decide }
open Go.RowKit in
theorem Tryd.Builder_grow_fresh (B b n : Nat) (w : World) (hB : B ≤ b) (hbk : w.heap[b]? = some (.cells #[.pointer (some ⟨b, 0, none⟩), .slice none 0 0] 90 (0, 0))) (hBw : B ≤ w.heap.size) (hn : n ≤ 281474976710656) :
    Calls Tryd.prog 105 #[.pointer (some ⟨b, 0, none⟩), .int .i64 n] w fun e w' => e = .returned (.tuple #[]) ∧ (Lib.BuilderAt 90 5 B b (.pointer (some ⟨b, 0, none⟩)) [] w' ∧ Below B w w') := Any.Builder_grow_fresh Tryd.lays241 Tryd.Builder_Extra_241 B b n w hB hbk hBw hn
def Tryd.lays165_ren : Go.Shelf.Ren := ⟨fun | 165 => 95 | 240 => 104 | 241 => 105 | 276 => 110 | 277 => 111 | n => n, fun | 70 => 88 | 3 => 3 | 0 => 0 | 4 => 4 | 9 => 9 | 20 => 20 | 72 => 90 | 37 => 70 | 164 => 108 | 5 => 5 | n => n, fun | n => n⟩
theorem Tryd.lays165 : Go.Proofs.Lays.n165 Tryd.prog Tryd.lays165_ren := {
  mixed := by kernel_rfl
  f165 := Tryd.func95.trans (congrArg some (by kernel_rfl))
  f240 := Tryd.func104.trans (congrArg some (by kernel_rfl))
  f241 := Tryd.func105.trans (congrArg some (by kernel_rfl))
  f276 := Tryd.func110.trans (congrArg some (by kernel_rfl))
  f277 := Tryd.func111.trans (congrArg some (by kernel_rfl))
  t0 := Tryd.underlying0
  a0 := Tryd.isAgg0
  z0 := Tryd.sizeOf0
  v0 := Tryd.zeroValue0
  t3 := Tryd.underlying3
  a3 := Tryd.isAgg3
  z3 := Tryd.sizeOf3
  v3 := Tryd.zeroValue3
  t4 := Tryd.underlying4
  a4 := Tryd.isAgg4
  z4 := Tryd.sizeOf4
  v4 := Tryd.zeroValue4
  t9 := Tryd.underlying9
  a9 := Tryd.isAgg9
  z9 := Tryd.sizeOf9
  v9 := Tryd.zeroValue9
  t20 := Tryd.underlying20
  a20 := Tryd.isAgg20
  z20 := Tryd.sizeOf20
  v20 := Tryd.zeroValue20
  t37 := Tryd.underlying70
  a37 := Tryd.isAgg70
  z37 := Tryd.sizeOf70
  v37 := Tryd.zeroValue70
  t70 := Tryd.underlying88
  a70 := Tryd.isAgg88
  z70 := Tryd.sizeOf88
  v70 := Tryd.zeroValue88
  t72 := Tryd.underlying90
  a72 := Tryd.isAgg90
  z72 := Tryd.sizeOf90
  v72 := Tryd.zeroValue90
  t164 := Tryd.underlying108
  a164 := Tryd.isAgg108
  z164 := Tryd.sizeOf108
  v164 := Tryd.zeroValue108 }
theorem Tryd.Builder_Extra_165 : Builder.Extra Tryd.prog Tryd.lays165_ren := {
  sizeBuilder := by kernel_rfl
  liesBuilder := by kernel_rfl
  t5 := Tryd.underlying5
  a5 := Tryd.isAgg5
  z5 := Tryd.sizeOf5
  v5 := Tryd.zeroValue5
  infoByte := by kernel_rfl
  cellsByte := by kernel_rfl
  sizeByte := by kernel_rfl
  neB5 := by decide }
open Go.RowKit in
theorem Tryd.Builder_Grow_fresh (B b n : Nat) (w : World) (hB : B ≤ b) (hbk : w.heap[b]? = some (.cells #[.pointer none, .slice none 0 0] 90 (0, 0))) (hBw : B ≤ w.heap.size) (hn : n ≤ 281474976710656) :
    Calls Tryd.prog 95 #[.pointer (some ⟨b, 0, none⟩), .int .i64 n] w fun e w' => e = .returned (.tuple #[]) ∧ (Lib.BuilderAt 90 5 B b (.pointer (some ⟨b, 0, none⟩)) [] w' ∧ Below B w w') := Any.Builder_Grow_fresh Tryd.lays165 Tryd.Builder_Extra_165 B b n w hB hbk hBw hn
def Tryd.lays156_ren : Go.Shelf.Ren := ⟨fun | 156 => 81 | 165 => 95 | 166 => 96 | 169 => 98 | 240 => 104 | 241 => 105 | 276 => 110 | 277 => 111 | n => n, fun | 31 => 72 | 9 => 9 | 3 => 3 | 4 => 4 | 0 => 0 | 20 => 20 | 72 => 90 | 76 => 94 | 70 => 88 | 37 => 70 | 75 => 93 | 127 => 102 | 164 => 108 | 5 => 5 | 80 => 97 | n => n, fun | n => n⟩
theorem Tryd.lays156 : Go.Proofs.Lays.n156 Tryd.prog Tryd.lays156_ren := {
  mixed := by kernel_rfl
  f156 := Tryd.func81.trans (congrArg some (by kernel_rfl))
  f165 := Tryd.func95.trans (congrArg some (by kernel_rfl))
  f166 := Tryd.func96.trans (congrArg some (by kernel_rfl))
  f169 := Tryd.func98.trans (congrArg some (by kernel_rfl))
  f240 := Tryd.func104.trans (congrArg some (by kernel_rfl))
  f241 := Tryd.func105.trans (congrArg some (by kernel_rfl))
  f276 := Tryd.func110.trans (congrArg some (by kernel_rfl))
  f277 := Tryd.func111.trans (congrArg some (by kernel_rfl))
  t0 := Tryd.underlying0
  a0 := Tryd.isAgg0
  z0 := Tryd.sizeOf0
  v0 := Tryd.zeroValue0
  t3 := Tryd.underlying3
  a3 := Tryd.isAgg3
  z3 := Tryd.sizeOf3
  v3 := Tryd.zeroValue3
  t4 := Tryd.underlying4
  a4 := Tryd.isAgg4
  z4 := Tryd.sizeOf4
  v4 := Tryd.zeroValue4
  t9 := Tryd.underlying9
  a9 := Tryd.isAgg9
  z9 := Tryd.sizeOf9
  v9 := Tryd.zeroValue9
  t20 := Tryd.underlying20
  a20 := Tryd.isAgg20
  z20 := Tryd.sizeOf20
  v20 := Tryd.zeroValue20
  t31 := Tryd.underlying72
  a31 := Tryd.isAgg72
  z31 := Tryd.sizeOf72
  v31 := Tryd.zeroValue72
  t37 := Tryd.underlying70
  a37 := Tryd.isAgg70
  z37 := Tryd.sizeOf70
  v37 := Tryd.zeroValue70
  t70 := Tryd.underlying88
  a70 := Tryd.isAgg88
  z70 := Tryd.sizeOf88
  v70 := Tryd.zeroValue88
  t72 := Tryd.underlying90
  a72 := Tryd.isAgg90
  z72 := Tryd.sizeOf90
  v72 := Tryd.zeroValue90
  t75 := Tryd.underlying93
  a75 := Tryd.isAgg93
  z75 := Tryd.sizeOf93
  v75 := Tryd.zeroValue93
  t76 := Tryd.underlying94
  a76 := Tryd.isAgg94
  z76 := Tryd.sizeOf94
  v76 := Tryd.zeroValue94
  t127 := Tryd.underlying102
  a127 := Tryd.isAgg102
  z127 := Tryd.sizeOf102
  v127 := Tryd.zeroValue102
  t164 := Tryd.underlying108
  a164 := Tryd.isAgg108
  z164 := Tryd.sizeOf108
  v164 := Tryd.zeroValue108 }
theorem Tryd.Builder_Extra_156 : Builder.Extra Tryd.prog Tryd.lays156_ren := {
  sizeBuilder := by kernel_rfl
  liesBuilder := by kernel_rfl
  t5 := Tryd.underlying5
  a5 := Tryd.isAgg5
  z5 := Tryd.sizeOf5
  v5 := Tryd.zeroValue5
  infoByte := by kernel_rfl
  cellsByte := by kernel_rfl
  sizeByte := by kernel_rfl
  neB5 := by decide }
open Go.RowKit in
theorem Tryd.strings_Join_none (a : Option Addr) (c : Nat) (sep : ByteArray) (w : World) :
    Calls Tryd.prog 81 #[.slice a 0 c, .string sep] w fun e w' => e = .returned (.string ⟨#[]⟩) ∧ w' = w := Any.strings_Join_none Tryd.lays156 Tryd.Builder_Extra_156 a c sep w
open Go.RowKit in
theorem Tryd.strings_Join (bk o c : Nat) (xs : List ByteArray) (sep : ByteArray) (w : World) (hcells : ∀ (j : Nat) x, xs[j]? = some x → w.cell? ⟨bk, o + j, none⟩ = some (.string x)) (hbk : bk < w.heap.size) (hN : xs.length ≤ 140737488355328) (hcap : xs.length ≤ c) (hlen : (Lib.join (xs.map (·.data.toList)) sep.data.toList).length ≤ 140737488355328) :
    Calls Tryd.prog 81 #[.slice (some ⟨bk, o, none⟩) xs.length c, .string sep] w fun e w' => e = .returned (.string ⟨(Lib.join (xs.map (·.data.toList)) sep.data.toList).toArray⟩) ∧ Below w.heap.size w w' := Any.strings_Join Tryd.lays156 Tryd.Builder_Extra_156 bk o c xs sep w hcells hbk hN hcap hlen
def Tryd.lays128_ren : Go.Shelf.Ren := ⟨fun | 128 => 99 | n => n, fun | 51 => 46 | 3 => 3 | 4 => 4 | 46 => 64 | 5 => 5 | 9 => 9 | n => n, fun | n => n⟩
theorem Tryd.lays128 : Go.Proofs.Lays.n128 Tryd.prog Tryd.lays128_ren := {
  mixed := by kernel_rfl
  f128 := Tryd.func99.trans (congrArg some (by kernel_rfl))
  t3 := Tryd.underlying3
  a3 := Tryd.isAgg3
  z3 := Tryd.sizeOf3
  v3 := Tryd.zeroValue3
  t4 := Tryd.underlying4
  a4 := Tryd.isAgg4
  z4 := Tryd.sizeOf4
  v4 := Tryd.zeroValue4
  t5 := Tryd.underlying5
  a5 := Tryd.isAgg5
  z5 := Tryd.sizeOf5
  v5 := Tryd.zeroValue5
  t9 := Tryd.underlying9
  a9 := Tryd.isAgg9
  z9 := Tryd.sizeOf9
  v9 := Tryd.zeroValue9
  t46 := Tryd.underlying64
  a46 := Tryd.isAgg64
  z46 := Tryd.sizeOf64
  v46 := Tryd.zeroValue64
  t51 := Tryd.underlying46
  a51 := Tryd.isAgg46
  z51 := Tryd.sizeOf46
  v51 := Tryd.zeroValue46 }
theorem Tryd.bits_Len32 (x : Int) (w : World) (h0 : 0 ≤ x) (h1 : x ≤ 4294967295) :
    Calls Tryd.prog 99 #[.int .u32 x] w fun e w' => e = .returned (.int .i64 (Lib.bitLen x.toNat)) ∧ w' = w := Any.bits_Len32 Tryd.lays128 x w h0 h1
def Tryd.lays133_ren : Go.Shelf.Ren := ⟨fun | 133 => 87 | 128 => 99 | n => n, fun | 51 => 46 | 3 => 3 | 4 => 4 | 46 => 64 | 5 => 5 | 9 => 9 | n => n, fun | n => n⟩
theorem Tryd.lays133 : Go.Proofs.Lays.n133 Tryd.prog Tryd.lays133_ren := {
  mixed := by kernel_rfl
  f128 := Tryd.func99.trans (congrArg some (by kernel_rfl))
  f133 := Tryd.func87.trans (congrArg some (by kernel_rfl))
  t3 := Tryd.underlying3
  a3 := Tryd.isAgg3
  z3 := Tryd.sizeOf3
  v3 := Tryd.zeroValue3
  t4 := Tryd.underlying4
  a4 := Tryd.isAgg4
  z4 := Tryd.sizeOf4
  v4 := Tryd.zeroValue4
  t5 := Tryd.underlying5
  a5 := Tryd.isAgg5
  z5 := Tryd.sizeOf5
  v5 := Tryd.zeroValue5
  t9 := Tryd.underlying9
  a9 := Tryd.isAgg9
  z9 := Tryd.sizeOf9
  v9 := Tryd.zeroValue9
  t46 := Tryd.underlying64
  a46 := Tryd.isAgg64
  z46 := Tryd.sizeOf64
  v46 := Tryd.zeroValue64
  t51 := Tryd.underlying46
  a51 := Tryd.isAgg46
  z51 := Tryd.sizeOf46
  v51 := Tryd.zeroValue46 }
theorem Tryd.bits_LeadingZeros32 (x : Int) (w : World) (h0 : 0 ≤ x) (h1 : x ≤ 4294967295) :
    Calls Tryd.prog 87 #[.int .u32 x] w fun e w' => e = .returned (.int .i64 (32 - (Lib.bitLen x.toNat : Int))) ∧ w' = w := Any.bits_LeadingZeros32 Tryd.lays133 x w h0 h1
open Go.RowKit in
theorem Tryd.Builder_Len_f (B b : Nat) (bs : List Value) (w : World) (h : Lib.IsBuilderF 90 5 B b bs w) :
    Calls Tryd.prog 97 #[.pointer (some ⟨b, 0, none⟩)] w fun e w' => e = .returned (.int .i64 bs.length) ∧ w' = w := Any.Builder_Len_f Tryd.lays170 B b bs w h
open Go.RowKit in
theorem Tryd.Builder_String_f (B b : Nat) (l : List UInt8) (w : World) (h : Lib.IsBuilderF 90 5 B b (Lib.byteCells l) w) (h0 : l ≠ []) :
    Calls Tryd.prog 98 #[.pointer (some ⟨b, 0, none⟩)] w fun e w' => e = .returned (.string ⟨l.toArray⟩) ∧ (Lib.IsBuilderF 90 5 B b (Lib.byteCells l) w' ∧ Below B w w') := Any.Builder_String_f Tryd.lays169 Tryd.Builder_Extra_169 B b l w h h0
open Go.RowKit in
theorem Tryd.Builder_String_empty_f (B b : Nat) (w : World) (h : Lib.IsBuilderF 90 5 B b [] w) (hBw : B ≤ w.heap.size) :
    Calls Tryd.prog 98 #[.pointer (some ⟨b, 0, none⟩)] w fun e w' => e = .returned (.string ⟨#[]⟩) ∧ (Lib.IsBuilderF 90 5 B b [] w' ∧ Below B w w') := Any.Builder_String_empty_f Tryd.lays169 Tryd.Builder_Extra_169 B b w h hBw
open Go.RowKit in
theorem Tryd.Builder_String_any_f (B b : Nat) (l : List UInt8) (w : World) (h : Lib.IsBuilderF 90 5 B b (Lib.byteCells l) w) (hBw : B ≤ w.heap.size) :
    Calls Tryd.prog 98 #[.pointer (some ⟨b, 0, none⟩)] w fun e w' => e = .returned (.string ⟨l.toArray⟩) ∧ (Lib.IsBuilderF 90 5 B b (Lib.byteCells l) w' ∧ Below B w w') := Any.Builder_String_any_f Tryd.lays169 Tryd.Builder_Extra_169 B b l w h hBw
open Go.RowKit in
theorem Tryd.Builder_String_k (B b : Nat) (l : List UInt8) (w : World) (h : Lib.IsBuilderF 90 5 B b (Lib.byteCells l) w) (h0 : l ≠ []) :
    Calls Tryd.prog 98 #[.pointer (some ⟨b, 0, none⟩)] w fun e w' => e = .returned (.string ⟨l.toArray⟩) ∧ (Lib.IsBuilderF 90 5 B b (Lib.byteCells l) w' ∧ Below B w w' ∧ Lib.OthersKept 5 (some b) w w') := Any.Builder_String_k Tryd.lays169 Tryd.Builder_Extra_169 B b l w h h0
open Go.RowKit in
theorem Tryd.Builder_String_empty_k (B b : Nat) (w : World) (h : Lib.IsBuilderF 90 5 B b [] w) (hBw : B ≤ w.heap.size) :
    Calls Tryd.prog 98 #[.pointer (some ⟨b, 0, none⟩)] w fun e w' => e = .returned (.string ⟨#[]⟩) ∧ (Lib.IsBuilderF 90 5 B b [] w' ∧ Below B w w' ∧ Lib.OthersKept 5 (some b) w w') := Any.Builder_String_empty_k Tryd.lays169 Tryd.Builder_Extra_169 B b w h hBw
open Go.RowKit in
theorem Tryd.Builder_String_any_k (B b : Nat) (l : List UInt8) (w : World) (h : Lib.IsBuilderF 90 5 B b (Lib.byteCells l) w) (hBw : B ≤ w.heap.size) :
    Calls Tryd.prog 98 #[.pointer (some ⟨b, 0, none⟩)] w fun e w' => e = .returned (.string ⟨l.toArray⟩) ∧ (Lib.IsBuilderF 90 5 B b (Lib.byteCells l) w' ∧ Below B w w' ∧ Lib.OthersKept 5 (some b) w w') := Any.Builder_String_any_k Tryd.lays169 Tryd.Builder_Extra_169 B b l w h hBw
open Go.RowKit in
theorem Tryd.Builder_grow_fresh_cap (B b n : Nat) (w : World) (hB : B ≤ b) (hbk : w.heap[b]? = some (.cells #[.pointer (some ⟨b, 0, none⟩), .slice none 0 0] 90 (0, 0))) (hBw : B ≤ w.heap.size) (hn : n ≤ 281474976710656) :
    Calls Tryd.prog 105 #[.pointer (some ⟨b, 0, none⟩), .int .i64 n] w fun e w' => e = .returned (.tuple #[]) ∧ (Lib.BuilderAt 90 5 B b (.pointer (some ⟨b, 0, none⟩)) [] w' ∧ Below B w w') ∧ ∃ p cap, w'.cell? ⟨b, 1, none⟩ = some (.slice p 0 cap) ∧ n ≤ cap := Any.Builder_grow_fresh_cap Tryd.lays241 Tryd.Builder_Extra_241 B b n w hB hbk hBw hn
open Go.RowKit in
theorem Tryd.Builder_Grow_fresh_cap (B b n : Nat) (w : World) (hB : B ≤ b) (hbk : w.heap[b]? = some (.cells #[.pointer none, .slice none 0 0] 90 (0, 0))) (hBw : B ≤ w.heap.size) (hn : n ≤ 281474976710656) :
    Calls Tryd.prog 95 #[.pointer (some ⟨b, 0, none⟩), .int .i64 n] w fun e w' => e = .returned (.tuple #[]) ∧ (Lib.BuilderAt 90 5 B b (.pointer (some ⟨b, 0, none⟩)) [] w' ∧ Below B w w') ∧ ∃ p cap, w'.cell? ⟨b, 1, none⟩ = some (.slice p 0 cap) ∧ n ≤ cap := Any.Builder_Grow_fresh_cap Tryd.lays165 Tryd.Builder_Extra_165 B b n w hB hbk hBw hn
def Tryd.lays129_ren : Go.Shelf.Ren := ⟨fun | 129 => 113 | n => n, fun | 53 => 51 | 3 => 3 | 4 => 4 | 46 => 64 | 5 => 5 | 9 => 9 | n => n, fun | n => n⟩
theorem Tryd.lays129 : Go.Proofs.Lays.n129 Tryd.prog Tryd.lays129_ren := {
  mixed := by kernel_rfl
  f129 := Tryd.func113.trans (congrArg some (by kernel_rfl))
  t3 := Tryd.underlying3
  a3 := Tryd.isAgg3
  z3 := Tryd.sizeOf3
  v3 := Tryd.zeroValue3
  t4 := Tryd.underlying4
  a4 := Tryd.isAgg4
  z4 := Tryd.sizeOf4
  v4 := Tryd.zeroValue4
  t5 := Tryd.underlying5
  a5 := Tryd.isAgg5
  z5 := Tryd.sizeOf5
  v5 := Tryd.zeroValue5
  t9 := Tryd.underlying9
  a9 := Tryd.isAgg9
  z9 := Tryd.sizeOf9
  v9 := Tryd.zeroValue9
  t46 := Tryd.underlying64
  a46 := Tryd.isAgg64
  z46 := Tryd.sizeOf64
  v46 := Tryd.zeroValue64
  t53 := Tryd.underlying51
  a53 := Tryd.isAgg51
  z53 := Tryd.sizeOf51
  v53 := Tryd.zeroValue51 }
theorem Tryd.bits_Len64 (x : Int) (w : World) (h0 : 0 ≤ x) (h1 : x ≤ 18446744073709551615) :
    Calls Tryd.prog 113 #[.int .u64 x] w fun e w' => e = .returned (.int .i64 (Lib.bitLen x.toNat)) ∧ w' = w := Any.bits_Len64 Tryd.lays129 x w h0 h1
def Tryd.lays317_ren : Go.Shelf.Ren := ⟨fun | 317 => 112 | n => n, fun | 3 => 3 | 46 => 64 | n => n, fun | n => n⟩
theorem Tryd.lays317 : Go.Proofs.Lays.n317 Tryd.prog Tryd.lays317_ren := {
  mixed := by kernel_rfl
  f317 := Tryd.func112.trans (congrArg some (by kernel_rfl))
  t3 := Tryd.underlying3
  a3 := Tryd.isAgg3
  z3 := Tryd.sizeOf3
  v3 := Tryd.zeroValue3
  t46 := Tryd.underlying64
  a46 := Tryd.isAgg64
  z46 := Tryd.sizeOf64
  v46 := Tryd.zeroValue64 }
open Go.Lib in
theorem Tryd.internal_strconv_log10Pow2 (x : Nat) (h : x ≤ 64) (w : World) :
    Calls Tryd.prog 112 #[.int .i64 x] w fun e w' => e = .returned (.int .i64 (Lib.l10 x)) ∧ w' = w := Any.internal_strconv_log10Pow2 Tryd.lays317 x h w
def Tryd.lays318_ren : Go.Shelf.Ren := ⟨fun | 318 => 114 | n => n, fun | 3 => 3 | 4 => 4 | n => n, fun | n => n⟩
theorem Tryd.lays318 : Go.Proofs.Lays.n318 Tryd.prog Tryd.lays318_ren := {
  mixed := by kernel_rfl
  f318 := Tryd.func114.trans (congrArg some (by kernel_rfl))
  t3 := Tryd.underlying3
  a3 := Tryd.isAgg3
  z3 := Tryd.sizeOf3
  v3 := Tryd.zeroValue3
  t4 := Tryd.underlying4
  a4 := Tryd.isAgg4
  z4 := Tryd.sizeOf4
  v4 := Tryd.zeroValue4 }
open Go.Lib in
theorem Tryd.internal_strconv_bool2_int (b : Bool) (w : World) :
    Calls Tryd.prog 114 #[.bool b] w fun e w' => e = .returned (.int .i64 (if b then 1 else 0)) ∧ w' = w := Any.internal_strconv_bool2_int Tryd.lays318 b w
def Tryd.lays283_ren : Go.Shelf.Ren := ⟨fun | 283 => 106 | n => n, fun | 3 => 3 | 9 => 9 | 4 => 4 | n => n, fun | n => n⟩
theorem Tryd.lays283 : Go.Proofs.Lays.n283 Tryd.prog Tryd.lays283_ren := {
  mixed := by kernel_rfl
  f283 := Tryd.func106.trans (congrArg some (by kernel_rfl))
  t3 := Tryd.underlying3
  a3 := Tryd.isAgg3
  z3 := Tryd.sizeOf3
  v3 := Tryd.zeroValue3
  t4 := Tryd.underlying4
  a4 := Tryd.isAgg4
  z4 := Tryd.sizeOf4
  v4 := Tryd.zeroValue4
  t9 := Tryd.underlying9
  a9 := Tryd.isAgg9
  z9 := Tryd.sizeOf9
  v9 := Tryd.zeroValue9 }
open Go.Lib in
theorem Tryd.internal_strconv_small (i : Nat) (h : i < 100) (w : World) :
    Calls Tryd.prog 106 #[.int .i64 i] w fun e w' => e = .returned (.string ⟨(Lib.decDigits i).toArray⟩) ∧ w' = w := Any.internal_strconv_small Tryd.lays283 i h w
def Tryd.laysM284_ren : Go.Shelf.Ren := ⟨fun | 284 => 107 | 129 => 113 | 317 => 112 | 318 => 114 | n => n, fun | 53 => 51 | 3 => 3 | 212 => 113 | 0 => 0 | 4 => 4 | 46 => 64 | 5 => 5 | 9 => 9 | n => n, fun | 17 => 1 | n => n⟩
theorem Tryd.laysM284 : Go.Proofs.LaysM.n284 Tryd.prog Tryd.laysM284_ren := {
  mixed := by kernel_rfl
  f129 := Tryd.func113.trans (congrArg some (by kernel_rfl))
  f284 := Tryd.func107.trans (congrArg some (by kernel_rfl))
  f317 := Tryd.func112.trans (congrArg some (by kernel_rfl))
  f318 := Tryd.func114.trans (congrArg some (by kernel_rfl))
  t0 := Tryd.underlying0
  a0 := Tryd.isAgg0
  z0 := Tryd.sizeOf0
  v0 := Tryd.zeroValue0
  t3 := Tryd.underlying3
  a3 := Tryd.isAgg3
  z3 := Tryd.sizeOf3
  v3 := Tryd.zeroValue3
  t4 := Tryd.underlying4
  a4 := Tryd.isAgg4
  z4 := Tryd.sizeOf4
  v4 := Tryd.zeroValue4
  t5 := Tryd.underlying5
  a5 := Tryd.isAgg5
  z5 := Tryd.sizeOf5
  v5 := Tryd.zeroValue5
  t9 := Tryd.underlying9
  a9 := Tryd.isAgg9
  z9 := Tryd.sizeOf9
  v9 := Tryd.zeroValue9
  t46 := Tryd.underlying64
  a46 := Tryd.isAgg64
  z46 := Tryd.sizeOf64
  v46 := Tryd.zeroValue64
  t53 := Tryd.underlying51
  a53 := Tryd.isAgg51
  z53 := Tryd.sizeOf51
  v53 := Tryd.zeroValue51
  t212 := Tryd.underlying113
  a212 := Tryd.isAgg113
  z212 := Tryd.sizeOf113
  v212 := Tryd.zeroValue113
  g17 := by kernel_rfl
  i0 := by kernel_rfl
  i3 := by kernel_rfl
  i4 := by kernel_rfl
  i5 := by kernel_rfl
  i9 := by kernel_rfl
  i46 := by kernel_rfl
  i53 := by kernel_rfl
  i212 := by kernel_rfl
  m17 := by kernel_rfl }
open Go.Lib in
theorem Tryd.internal_strconv_numDigits (u : Nat) (h1 : 1 ≤ u) (h2 : u < 18446744073709551616) (w : World) (htab : Lib.TabIs Tryd.prog w "internal/strconv.uint64pow10" .u64 Lib.pow10Tab) :
    Calls Tryd.prog 107 #[.int .u64 u] w fun e w' => e = .returned (.int .i64 (Lib.nDigits u)) ∧ w' = w := Any.internal_strconv_numDigits Tryd.laysM284 u h1 h2 w htab
def Tryd.lays285_ren : Go.Shelf.Ren := ⟨fun | 285 => 108 | n => n, fun | 37 => 70 | 53 => 51 | 3 => 3 | 4 => 4 | 51 => 46 | 9 => 9 | 5 => 5 | 0 => 0 | n => n, fun | n => n⟩
theorem Tryd.lays285 : Go.Proofs.Lays.n285 Tryd.prog Tryd.lays285_ren := {
  mixed := by kernel_rfl
  f285 := Tryd.func108.trans (congrArg some (by kernel_rfl))
  t0 := Tryd.underlying0
  a0 := Tryd.isAgg0
  z0 := Tryd.sizeOf0
  v0 := Tryd.zeroValue0
  t3 := Tryd.underlying3
  a3 := Tryd.isAgg3
  z3 := Tryd.sizeOf3
  v3 := Tryd.zeroValue3
  t4 := Tryd.underlying4
  a4 := Tryd.isAgg4
  z4 := Tryd.sizeOf4
  v4 := Tryd.zeroValue4
  t5 := Tryd.underlying5
  a5 := Tryd.isAgg5
  z5 := Tryd.sizeOf5
  v5 := Tryd.zeroValue5
  t9 := Tryd.underlying9
  a9 := Tryd.isAgg9
  z9 := Tryd.sizeOf9
  v9 := Tryd.zeroValue9
  t37 := Tryd.underlying70
  a37 := Tryd.isAgg70
  z37 := Tryd.sizeOf70
  v37 := Tryd.zeroValue70
  t51 := Tryd.underlying46
  a51 := Tryd.isAgg46
  z51 := Tryd.sizeOf46
  v51 := Tryd.zeroValue46
  t53 := Tryd.underlying51
  a53 := Tryd.isAgg51
  z53 := Tryd.sizeOf51
  v53 := Tryd.zeroValue51 }
open Go.RowKit Go.Sort Go.Lib in
theorem Tryd.internal_strconv_formatBase10 (blk off cap : Nat) (u : Nat) (d : Array UInt8) (w : World) (hH : Holds (fun (b : UInt8) => Value.int .u8 (b.toNat : Int)) w blk off d) (hu : u < 10 ^ d.size) (hu64 : u < 18446744073709551616) (hsz : d.size < 4611686018427387904) :
    Calls Tryd.prog 108 #[.slice (some ⟨blk, off, none⟩) d.size cap, .int .u64 u] w fun e w' =>
      e = .returned (.tuple #[]) ∧ ∃ (n v' : Nat) (dk : Array UInt8), w' = (putRow (fun (b : UInt8) => Value.int .u8 (b.toNat : Int)) w blk off dk).drewN n ∧ FmtInv d.size u 0 v' dk := Any.internal_strconv_formatBase10 Tryd.lays285 blk off cap u d w hH hu hu64 hsz
def Tryd.laysM246_ren : Go.Shelf.Ren := ⟨fun | 246 => 100 | 283 => 106 | 284 => 107 | 285 => 108 | 286 => 109 | 129 => 113 | 317 => 112 | 318 => 114 | 319 => 115 | 320 => 116 | 337 => 117 | 338 => 118 | n => n, fun | 2 => 2 | 3 => 3 | 9 => 9 | 4 => 4 | 171 => 103 | 0 => 0 | 53 => 51 | 37 => 70 | 5 => 5 | 173 => 106 | 212 => 113 | 51 => 46 | 20 => 20 | 213 => 114 | 46 => 64 | 232 => 117 | 233 => 118 | n => n, fun | 17 => 1 | 18 => 3 | 19 => 4 | n => n⟩
theorem Tryd.laysM246 : Go.Proofs.LaysM.n246 Tryd.prog Tryd.laysM246_ren := {
  mixed := by kernel_rfl
  f129 := Tryd.func113.trans (congrArg some (by kernel_rfl))
  f246 := Tryd.func100.trans (congrArg some (by kernel_rfl))
  f283 := Tryd.func106.trans (congrArg some (by kernel_rfl))
  f284 := Tryd.func107.trans (congrArg some (by kernel_rfl))
  f285 := Tryd.func108.trans (congrArg some (by kernel_rfl))
  f286 := Tryd.func109.trans (congrArg some (by kernel_rfl))
  f317 := Tryd.func112.trans (congrArg some (by kernel_rfl))
  f318 := Tryd.func114.trans (congrArg some (by kernel_rfl))
  f319 := Tryd.func115.trans (congrArg some (by kernel_rfl))
  f320 := Tryd.func116.trans (congrArg some (by kernel_rfl))
  f337 := Tryd.func117.trans (congrArg some (by kernel_rfl))
  f338 := Tryd.func118.trans (congrArg some (by kernel_rfl))
  t0 := Tryd.underlying0
  a0 := Tryd.isAgg0
  z0 := Tryd.sizeOf0
  v0 := Tryd.zeroValue0
  t2 := Tryd.underlying2
  a2 := Tryd.isAgg2
  z2 := Tryd.sizeOf2
  v2 := Tryd.zeroValue2
  t3 := Tryd.underlying3
  a3 := Tryd.isAgg3
  z3 := Tryd.sizeOf3
  v3 := Tryd.zeroValue3
  t4 := Tryd.underlying4
  a4 := Tryd.isAgg4
  z4 := Tryd.sizeOf4
  v4 := Tryd.zeroValue4
  t5 := Tryd.underlying5
  a5 := Tryd.isAgg5
  z5 := Tryd.sizeOf5
  v5 := Tryd.zeroValue5
  t9 := Tryd.underlying9
  a9 := Tryd.isAgg9
  z9 := Tryd.sizeOf9
  v9 := Tryd.zeroValue9
  t20 := Tryd.underlying20
  a20 := Tryd.isAgg20
  z20 := Tryd.sizeOf20
  v20 := Tryd.zeroValue20
  t37 := Tryd.underlying70
  a37 := Tryd.isAgg70
  z37 := Tryd.sizeOf70
  v37 := Tryd.zeroValue70
  t46 := Tryd.underlying64
  a46 := Tryd.isAgg64
  z46 := Tryd.sizeOf64
  v46 := Tryd.zeroValue64
  t51 := Tryd.underlying46
  a51 := Tryd.isAgg46
  z51 := Tryd.sizeOf46
  v51 := Tryd.zeroValue46
  t53 := Tryd.underlying51
  a53 := Tryd.isAgg51
  z53 := Tryd.sizeOf51
  v53 := Tryd.zeroValue51
  t171 := Tryd.underlying103
  a171 := Tryd.isAgg103
  z171 := Tryd.sizeOf103
  v171 := Tryd.zeroValue103
  t173 := Tryd.underlying106
  a173 := Tryd.isAgg106
  z173 := Tryd.sizeOf106
  v173 := Tryd.zeroValue106
  t212 := Tryd.underlying113
  a212 := Tryd.isAgg113
  z212 := Tryd.sizeOf113
  v212 := Tryd.zeroValue113
  t213 := Tryd.underlying114
  a213 := Tryd.isAgg114
  z213 := Tryd.sizeOf114
  t232 := Tryd.underlying117
  a232 := Tryd.isAgg117
  z232 := Tryd.sizeOf117
  v232 := Tryd.zeroValue117
  t233 := Tryd.underlying118
  a233 := Tryd.isAgg118
  z233 := Tryd.sizeOf118
  v233 := Tryd.zeroValue118
  g17 := by kernel_rfl
  g18 := by kernel_rfl
  g19 := by kernel_rfl
  i0 := by kernel_rfl
  i2 := by kernel_rfl
  i3 := by kernel_rfl
  i4 := by kernel_rfl
  i5 := by kernel_rfl
  i9 := by kernel_rfl
  i20 := by kernel_rfl
  i37 := by kernel_rfl
  i46 := by kernel_rfl
  i51 := by kernel_rfl
  i53 := by kernel_rfl
  i171 := by kernel_rfl
  i173 := by kernel_rfl
  i212 := by kernel_rfl
  i232 := by kernel_rfl
  i233 := by kernel_rfl
  m17 := by kernel_rfl
  m18 := by kernel_rfl
  m19 := by kernel_rfl }
open Go.RowKit Go.Sort Go.Lib in
theorem Tryd.internal_strconv_FormatInt_10 (n : Int) (h0 : -9223372036854775808 ≤ n) (h1 : n ≤ 9223372036854775807) (w : World) (htab : Lib.TabIs Tryd.prog w "internal/strconv.uint64pow10" .u64 Lib.pow10Tab) :
    Calls Tryd.prog 100 #[.int .i64 n, .int .i64 10] w fun e w' => e = .returned (.string ⟨(Lib.itoa n).toArray⟩) ∧ ∃ k os, w' = grow (w.drewN k) os := Any.internal_strconv_FormatInt_10 Tryd.laysM246 n h0 h1 w htab
def Tryd.lays246_ren : Go.Shelf.Ren := ⟨fun | 246 => 100 | 283 => 106 | 284 => 107 | 285 => 108 | 286 => 109 | 129 => 113 | 317 => 112 | 318 => 114 | 319 => 115 | 320 => 116 | 337 => 117 | 338 => 118 | n => n, fun | 2 => 2 | 3 => 3 | 9 => 9 | 4 => 4 | 171 => 103 | 0 => 0 | 53 => 51 | 37 => 70 | 5 => 5 | 173 => 106 | 212 => 113 | 51 => 46 | 20 => 20 | 213 => 114 | 46 => 64 | 232 => 117 | 233 => 118 | n => n, fun | 17 => 1 | 18 => 3 | 19 => 4 | n => n⟩
theorem Tryd.lays246 : Go.Proofs.Lays.n246 Tryd.prog Tryd.lays246_ren := {
  mixed := by kernel_rfl
  f129 := Tryd.func113.trans (congrArg some (by kernel_rfl))
  f246 := Tryd.func100.trans (congrArg some (by kernel_rfl))
  f283 := Tryd.func106.trans (congrArg some (by kernel_rfl))
  f284 := Tryd.func107.trans (congrArg some (by kernel_rfl))
  f285 := Tryd.func108.trans (congrArg some (by kernel_rfl))
  f286 := Tryd.func109.trans (congrArg some (by kernel_rfl))
  f317 := Tryd.func112.trans (congrArg some (by kernel_rfl))
  f318 := Tryd.func114.trans (congrArg some (by kernel_rfl))
  f319 := Tryd.func115.trans (congrArg some (by kernel_rfl))
  f320 := Tryd.func116.trans (congrArg some (by kernel_rfl))
  f337 := Tryd.func117.trans (congrArg some (by kernel_rfl))
  f338 := Tryd.func118.trans (congrArg some (by kernel_rfl))
  t0 := Tryd.underlying0
  a0 := Tryd.isAgg0
  z0 := Tryd.sizeOf0
  v0 := Tryd.zeroValue0
  t2 := Tryd.underlying2
  a2 := Tryd.isAgg2
  z2 := Tryd.sizeOf2
  v2 := Tryd.zeroValue2
  t3 := Tryd.underlying3
  a3 := Tryd.isAgg3
  z3 := Tryd.sizeOf3
  v3 := Tryd.zeroValue3
  t4 := Tryd.underlying4
  a4 := Tryd.isAgg4
  z4 := Tryd.sizeOf4
  v4 := Tryd.zeroValue4
  t5 := Tryd.underlying5
  a5 := Tryd.isAgg5
  z5 := Tryd.sizeOf5
  v5 := Tryd.zeroValue5
  t9 := Tryd.underlying9
  a9 := Tryd.isAgg9
  z9 := Tryd.sizeOf9
  v9 := Tryd.zeroValue9
  t20 := Tryd.underlying20
  a20 := Tryd.isAgg20
  z20 := Tryd.sizeOf20
  v20 := Tryd.zeroValue20
  t37 := Tryd.underlying70
  a37 := Tryd.isAgg70
  z37 := Tryd.sizeOf70
  v37 := Tryd.zeroValue70
  t46 := Tryd.underlying64
  a46 := Tryd.isAgg64
  z46 := Tryd.sizeOf64
  v46 := Tryd.zeroValue64
  t51 := Tryd.underlying46
  a51 := Tryd.isAgg46
  z51 := Tryd.sizeOf46
  v51 := Tryd.zeroValue46
  t53 := Tryd.underlying51
  a53 := Tryd.isAgg51
  z53 := Tryd.sizeOf51
  v53 := Tryd.zeroValue51
  t171 := Tryd.underlying103
  a171 := Tryd.isAgg103
  z171 := Tryd.sizeOf103
  v171 := Tryd.zeroValue103
  t173 := Tryd.underlying106
  a173 := Tryd.isAgg106
  z173 := Tryd.sizeOf106
  v173 := Tryd.zeroValue106
  t212 := Tryd.underlying113
  a212 := Tryd.isAgg113
  z212 := Tryd.sizeOf113
  v212 := Tryd.zeroValue113
  t213 := Tryd.underlying114
  a213 := Tryd.isAgg114
  z213 := Tryd.sizeOf114
  t232 := Tryd.underlying117
  a232 := Tryd.isAgg117
  z232 := Tryd.sizeOf117
  v232 := Tryd.zeroValue117
  t233 := Tryd.underlying118
  a233 := Tryd.isAgg118
  z233 := Tryd.sizeOf118
  v233 := Tryd.zeroValue118
  g17 := by kernel_rfl
  g18 := by kernel_rfl
  g19 := by kernel_rfl }
open Go.RowKit Go.Sort Go.Lib in
theorem Tryd.internal_strconv_FormatInt_10_small (i : Nat) (hi : i < 100) (w : World) :
    Calls Tryd.prog 100 #[.int .i64 i, .int .i64 10] w fun e w' => e = .returned (.string ⟨(Lib.decDigits i).toArray⟩) ∧ w' = w := Any.internal_strconv_FormatInt_10_small Tryd.lays246 i hi w
def Tryd.laysM243_ren : Go.Shelf.Ren := ⟨fun | 243 => 92 | 246 => 100 | 283 => 106 | 284 => 107 | 285 => 108 | 286 => 109 | 129 => 113 | 317 => 112 | 318 => 114 | 319 => 115 | 320 => 116 | 337 => 117 | 338 => 118 | n => n, fun | 3 => 3 | 9 => 9 | 2 => 2 | 4 => 4 | 171 => 103 | 0 => 0 | 53 => 51 | 37 => 70 | 5 => 5 | 173 => 106 | 212 => 113 | 51 => 46 | 20 => 20 | 213 => 114 | 46 => 64 | 232 => 117 | 233 => 118 | n => n, fun | 17 => 1 | 18 => 3 | 19 => 4 | n => n⟩
theorem Tryd.laysM243 : Go.Proofs.LaysM.n243 Tryd.prog Tryd.laysM243_ren := {
  mixed := by kernel_rfl
  f129 := Tryd.func113.trans (congrArg some (by kernel_rfl))
  f243 := Tryd.func92.trans (congrArg some (by kernel_rfl))
  f246 := Tryd.func100.trans (congrArg some (by kernel_rfl))
  f283 := Tryd.func106.trans (congrArg some (by kernel_rfl))
  f284 := Tryd.func107.trans (congrArg some (by kernel_rfl))
  f285 := Tryd.func108.trans (congrArg some (by kernel_rfl))
  f286 := Tryd.func109.trans (congrArg some (by kernel_rfl))
  f317 := Tryd.func112.trans (congrArg some (by kernel_rfl))
  f318 := Tryd.func114.trans (congrArg some (by kernel_rfl))
  f319 := Tryd.func115.trans (congrArg some (by kernel_rfl))
  f320 := Tryd.func116.trans (congrArg some (by kernel_rfl))
  f337 := Tryd.func117.trans (congrArg some (by kernel_rfl))
  f338 := Tryd.func118.trans (congrArg some (by kernel_rfl))
  t0 := Tryd.underlying0
  a0 := Tryd.isAgg0
  z0 := Tryd.sizeOf0
  v0 := Tryd.zeroValue0
  t2 := Tryd.underlying2
  a2 := Tryd.isAgg2
  z2 := Tryd.sizeOf2
  v2 := Tryd.zeroValue2
  t3 := Tryd.underlying3
  a3 := Tryd.isAgg3
  z3 := Tryd.sizeOf3
  v3 := Tryd.zeroValue3
  t4 := Tryd.underlying4
  a4 := Tryd.isAgg4
  z4 := Tryd.sizeOf4
  v4 := Tryd.zeroValue4
  t5 := Tryd.underlying5
  a5 := Tryd.isAgg5
  z5 := Tryd.sizeOf5
  v5 := Tryd.zeroValue5
  t9 := Tryd.underlying9
  a9 := Tryd.isAgg9
  z9 := Tryd.sizeOf9
  v9 := Tryd.zeroValue9
  t20 := Tryd.underlying20
  a20 := Tryd.isAgg20
  z20 := Tryd.sizeOf20
  v20 := Tryd.zeroValue20
  t37 := Tryd.underlying70
  a37 := Tryd.isAgg70
  z37 := Tryd.sizeOf70
  v37 := Tryd.zeroValue70
  t46 := Tryd.underlying64
  a46 := Tryd.isAgg64
  z46 := Tryd.sizeOf64
  v46 := Tryd.zeroValue64
  t51 := Tryd.underlying46
  a51 := Tryd.isAgg46
  z51 := Tryd.sizeOf46
  v51 := Tryd.zeroValue46
  t53 := Tryd.underlying51
  a53 := Tryd.isAgg51
  z53 := Tryd.sizeOf51
  v53 := Tryd.zeroValue51
  t171 := Tryd.underlying103
  a171 := Tryd.isAgg103
  z171 := Tryd.sizeOf103
  v171 := Tryd.zeroValue103
  t173 := Tryd.underlying106
  a173 := Tryd.isAgg106
  z173 := Tryd.sizeOf106
  v173 := Tryd.zeroValue106
  t212 := Tryd.underlying113
  a212 := Tryd.isAgg113
  z212 := Tryd.sizeOf113
  v212 := Tryd.zeroValue113
  t213 := Tryd.underlying114
  a213 := Tryd.isAgg114
  z213 := Tryd.sizeOf114
  t232 := Tryd.underlying117
  a232 := Tryd.isAgg117
  z232 := Tryd.sizeOf117
  v232 := Tryd.zeroValue117
  t233 := Tryd.underlying118
  a233 := Tryd.isAgg118
  z233 := Tryd.sizeOf118
  v233 := Tryd.zeroValue118
  g17 := by kernel_rfl
  g18 := by kernel_rfl
  g19 := by kernel_rfl
  i0 := by kernel_rfl
  i2 := by kernel_rfl
  i3 := by kernel_rfl
  i4 := by kernel_rfl
  i5 := by kernel_rfl
  i9 := by kernel_rfl
  i20 := by kernel_rfl
  i37 := by kernel_rfl
  i46 := by kernel_rfl
  i51 := by kernel_rfl
  i53 := by kernel_rfl
  i171 := by kernel_rfl
  i173 := by kernel_rfl
  i212 := by kernel_rfl
  i232 := by kernel_rfl
  i233 := by kernel_rfl
  m17 := by kernel_rfl
  m18 := by kernel_rfl
  m19 := by kernel_rfl }
open Go.RowKit Go.Sort Go.Lib in
theorem Tryd.internal_strconv_Itoa (n : Int) (h0 : -9223372036854775808 ≤ n) (h1 : n ≤ 9223372036854775807) (w : World) (htab : Lib.TabIs Tryd.prog w "internal/strconv.uint64pow10" .u64 Lib.pow10Tab) :
    Calls Tryd.prog 92 #[.int .i64 n] w fun e w' => e = .returned (.string ⟨(Lib.itoa n).toArray⟩) ∧ ∃ k os, w' = grow (w.drewN k) os := Any.internal_strconv_Itoa Tryd.laysM243 n h0 h1 w htab
def Tryd.lays243_ren : Go.Shelf.Ren := ⟨fun | 243 => 92 | 246 => 100 | 283 => 106 | 284 => 107 | 285 => 108 | 286 => 109 | 129 => 113 | 317 => 112 | 318 => 114 | 319 => 115 | 320 => 116 | 337 => 117 | 338 => 118 | n => n, fun | 3 => 3 | 9 => 9 | 2 => 2 | 4 => 4 | 171 => 103 | 0 => 0 | 53 => 51 | 37 => 70 | 5 => 5 | 173 => 106 | 212 => 113 | 51 => 46 | 20 => 20 | 213 => 114 | 46 => 64 | 232 => 117 | 233 => 118 | n => n, fun | 17 => 1 | 18 => 3 | 19 => 4 | n => n⟩
theorem Tryd.lays243 : Go.Proofs.Lays.n243 Tryd.prog Tryd.lays243_ren := {
  mixed := by kernel_rfl
  f129 := Tryd.func113.trans (congrArg some (by kernel_rfl))
  f243 := Tryd.func92.trans (congrArg some (by kernel_rfl))
  f246 := Tryd.func100.trans (congrArg some (by kernel_rfl))
  f283 := Tryd.func106.trans (congrArg some (by kernel_rfl))
  f284 := Tryd.func107.trans (congrArg some (by kernel_rfl))
  f285 := Tryd.func108.trans (congrArg some (by kernel_rfl))
  f286 := Tryd.func109.trans (congrArg some (by kernel_rfl))
  f317 := Tryd.func112.trans (congrArg some (by kernel_rfl))
  f318 := Tryd.func114.trans (congrArg some (by kernel_rfl))
  f319 := Tryd.func115.trans (congrArg some (by kernel_rfl))
  f320 := Tryd.func116.trans (congrArg some (by kernel_rfl))
  f337 := Tryd.func117.trans (congrArg some (by kernel_rfl))
  f338 := Tryd.func118.trans (congrArg some (by kernel_rfl))
  t0 := Tryd.underlying0
  a0 := Tryd.isAgg0
  z0 := Tryd.sizeOf0
  v0 := Tryd.zeroValue0
  t2 := Tryd.underlying2
  a2 := Tryd.isAgg2
  z2 := Tryd.sizeOf2
  v2 := Tryd.zeroValue2
  t3 := Tryd.underlying3
  a3 := Tryd.isAgg3
  z3 := Tryd.sizeOf3
  v3 := Tryd.zeroValue3
  t4 := Tryd.underlying4
  a4 := Tryd.isAgg4
  z4 := Tryd.sizeOf4
  v4 := Tryd.zeroValue4
  t5 := Tryd.underlying5
  a5 := Tryd.isAgg5
  z5 := Tryd.sizeOf5
  v5 := Tryd.zeroValue5
  t9 := Tryd.underlying9
  a9 := Tryd.isAgg9
  z9 := Tryd.sizeOf9
  v9 := Tryd.zeroValue9
  t20 := Tryd.underlying20
  a20 := Tryd.isAgg20
  z20 := Tryd.sizeOf20
  v20 := Tryd.zeroValue20
  t37 := Tryd.underlying70
  a37 := Tryd.isAgg70
  z37 := Tryd.sizeOf70
  v37 := Tryd.zeroValue70
  t46 := Tryd.underlying64
  a46 := Tryd.isAgg64
  z46 := Tryd.sizeOf64
  v46 := Tryd.zeroValue64
  t51 := Tryd.underlying46
  a51 := Tryd.isAgg46
  z51 := Tryd.sizeOf46
  v51 := Tryd.zeroValue46
  t53 := Tryd.underlying51
  a53 := Tryd.isAgg51
  z53 := Tryd.sizeOf51
  v53 := Tryd.zeroValue51
  t171 := Tryd.underlying103
  a171 := Tryd.isAgg103
  z171 := Tryd.sizeOf103
  v171 := Tryd.zeroValue103
  t173 := Tryd.underlying106
  a173 := Tryd.isAgg106
  z173 := Tryd.sizeOf106
  v173 := Tryd.zeroValue106
  t212 := Tryd.underlying113
  a212 := Tryd.isAgg113
  z212 := Tryd.sizeOf113
  v212 := Tryd.zeroValue113
  t213 := Tryd.underlying114
  a213 := Tryd.isAgg114
  z213 := Tryd.sizeOf114
  t232 := Tryd.underlying117
  a232 := Tryd.isAgg117
  z232 := Tryd.sizeOf117
  v232 := Tryd.zeroValue117
  t233 := Tryd.underlying118
  a233 := Tryd.isAgg118
  z233 := Tryd.sizeOf118
  v233 := Tryd.zeroValue118
  g17 := by kernel_rfl
  g18 := by kernel_rfl
  g19 := by kernel_rfl }
open Go.RowKit Go.Sort Go.Lib in
theorem Tryd.internal_strconv_Itoa_small (i : Nat) (hi : i < 100) (w : World) :
    Calls Tryd.prog 92 #[.int .i64 i] w fun e w' => e = .returned (.string ⟨(Lib.decDigits i).toArray⟩) ∧ w' = w := Any.internal_strconv_Itoa_small Tryd.lays243 i hi w
def Tryd.laysM171_ren : Go.Shelf.Ren := ⟨fun | 171 => 78 | 243 => 92 | 246 => 100 | 283 => 106 | 284 => 107 | 285 => 108 | 286 => 109 | 129 => 113 | 317 => 112 | 318 => 114 | 319 => 115 | 320 => 116 | 337 => 117 | 338 => 118 | n => n, fun | 3 => 3 | 9 => 9 | 2 => 2 | 4 => 4 | 171 => 103 | 0 => 0 | 53 => 51 | 37 => 70 | 5 => 5 | 173 => 106 | 212 => 113 | 51 => 46 | 20 => 20 | 213 => 114 | 46 => 64 | 232 => 117 | 233 => 118 | n => n, fun | 17 => 1 | 18 => 3 | 19 => 4 | n => n⟩
theorem Tryd.laysM171 : Go.Proofs.LaysM.n171 Tryd.prog Tryd.laysM171_ren := {
  mixed := by kernel_rfl
  f129 := Tryd.func113.trans (congrArg some (by kernel_rfl))
  f171 := Tryd.func78.trans (congrArg some (by kernel_rfl))
  f243 := Tryd.func92.trans (congrArg some (by kernel_rfl))
  f246 := Tryd.func100.trans (congrArg some (by kernel_rfl))
  f283 := Tryd.func106.trans (congrArg some (by kernel_rfl))
  f284 := Tryd.func107.trans (congrArg some (by kernel_rfl))
  f285 := Tryd.func108.trans (congrArg some (by kernel_rfl))
  f286 := Tryd.func109.trans (congrArg some (by kernel_rfl))
  f317 := Tryd.func112.trans (congrArg some (by kernel_rfl))
  f318 := Tryd.func114.trans (congrArg some (by kernel_rfl))
  f319 := Tryd.func115.trans (congrArg some (by kernel_rfl))
  f320 := Tryd.func116.trans (congrArg some (by kernel_rfl))
  f337 := Tryd.func117.trans (congrArg some (by kernel_rfl))
  f338 := Tryd.func118.trans (congrArg some (by kernel_rfl))
  t0 := Tryd.underlying0
  a0 := Tryd.isAgg0
  z0 := Tryd.sizeOf0
  v0 := Tryd.zeroValue0
  t2 := Tryd.underlying2
  a2 := Tryd.isAgg2
  z2 := Tryd.sizeOf2
  v2 := Tryd.zeroValue2
  t3 := Tryd.underlying3
  a3 := Tryd.isAgg3
  z3 := Tryd.sizeOf3
  v3 := Tryd.zeroValue3
  t4 := Tryd.underlying4
  a4 := Tryd.isAgg4
  z4 := Tryd.sizeOf4
  v4 := Tryd.zeroValue4
  t5 := Tryd.underlying5
  a5 := Tryd.isAgg5
  z5 := Tryd.sizeOf5
  v5 := Tryd.zeroValue5
  t9 := Tryd.underlying9
  a9 := Tryd.isAgg9
  z9 := Tryd.sizeOf9
  v9 := Tryd.zeroValue9
  t20 := Tryd.underlying20
  a20 := Tryd.isAgg20
  z20 := Tryd.sizeOf20
  v20 := Tryd.zeroValue20
  t37 := Tryd.underlying70
  a37 := Tryd.isAgg70
  z37 := Tryd.sizeOf70
  v37 := Tryd.zeroValue70
  t46 := Tryd.underlying64
  a46 := Tryd.isAgg64
  z46 := Tryd.sizeOf64
  v46 := Tryd.zeroValue64
  t51 := Tryd.underlying46
  a51 := Tryd.isAgg46
  z51 := Tryd.sizeOf46
  v51 := Tryd.zeroValue46
  t53 := Tryd.underlying51
  a53 := Tryd.isAgg51
  z53 := Tryd.sizeOf51
  v53 := Tryd.zeroValue51
  t171 := Tryd.underlying103
  a171 := Tryd.isAgg103
  z171 := Tryd.sizeOf103
  v171 := Tryd.zeroValue103
  t173 := Tryd.underlying106
  a173 := Tryd.isAgg106
  z173 := Tryd.sizeOf106
  v173 := Tryd.zeroValue106
  t212 := Tryd.underlying113
  a212 := Tryd.isAgg113
  z212 := Tryd.sizeOf113
  v212 := Tryd.zeroValue113
  t213 := Tryd.underlying114
  a213 := Tryd.isAgg114
  z213 := Tryd.sizeOf114
  t232 := Tryd.underlying117
  a232 := Tryd.isAgg117
  z232 := Tryd.sizeOf117
  v232 := Tryd.zeroValue117
  t233 := Tryd.underlying118
  a233 := Tryd.isAgg118
  z233 := Tryd.sizeOf118
  v233 := Tryd.zeroValue118
  g17 := by kernel_rfl
  g18 := by kernel_rfl
  g19 := by kernel_rfl
  i0 := by kernel_rfl
  i2 := by kernel_rfl
  i3 := by kernel_rfl
  i4 := by kernel_rfl
  i5 := by kernel_rfl
  i9 := by kernel_rfl
  i20 := by kernel_rfl
  i37 := by kernel_rfl
  i46 := by kernel_rfl
  i51 := by kernel_rfl
  i53 := by kernel_rfl
  i171 := by kernel_rfl
  i173 := by kernel_rfl
  i212 := by kernel_rfl
  i232 := by kernel_rfl
  i233 := by kernel_rfl
  m17 := by kernel_rfl
  m18 := by kernel_rfl
  m19 := by kernel_rfl }
open Go.RowKit Go.Sort Go.Lib in
theorem Tryd.strconv_Itoa (n : Int) (h0 : -9223372036854775808 ≤ n) (h1 : n ≤ 9223372036854775807) (w : World) (htab : Lib.TabIs Tryd.prog w "internal/strconv.uint64pow10" .u64 Lib.pow10Tab) :
    Calls Tryd.prog 78 #[.int .i64 n] w fun e w' => e = .returned (.string ⟨(Lib.itoa n).toArray⟩) ∧ ∃ k os, w' = grow (w.drewN k) os := Any.strconv_Itoa Tryd.laysM171 n h0 h1 w htab
def Tryd.lays171_ren : Go.Shelf.Ren := ⟨fun | 171 => 78 | 243 => 92 | 246 => 100 | 283 => 106 | 284 => 107 | 285 => 108 | 286 => 109 | 129 => 113 | 317 => 112 | 318 => 114 | 319 => 115 | 320 => 116 | 337 => 117 | 338 => 118 | n => n, fun | 3 => 3 | 9 => 9 | 2 => 2 | 4 => 4 | 171 => 103 | 0 => 0 | 53 => 51 | 37 => 70 | 5 => 5 | 173 => 106 | 212 => 113 | 51 => 46 | 20 => 20 | 213 => 114 | 46 => 64 | 232 => 117 | 233 => 118 | n => n, fun | 17 => 1 | 18 => 3 | 19 => 4 | n => n⟩
theorem Tryd.lays171 : Go.Proofs.Lays.n171 Tryd.prog Tryd.lays171_ren := {
  mixed := by kernel_rfl
  f129 := Tryd.func113.trans (congrArg some (by kernel_rfl))
  f171 := Tryd.func78.trans (congrArg some (by kernel_rfl))
  f243 := Tryd.func92.trans (congrArg some (by kernel_rfl))
  f246 := Tryd.func100.trans (congrArg some (by kernel_rfl))
  f283 := Tryd.func106.trans (congrArg some (by kernel_rfl))
  f284 := Tryd.func107.trans (congrArg some (by kernel_rfl))
  f285 := Tryd.func108.trans (congrArg some (by kernel_rfl))
  f286 := Tryd.func109.trans (congrArg some (by kernel_rfl))
  f317 := Tryd.func112.trans (congrArg some (by kernel_rfl))
  f318 := Tryd.func114.trans (congrArg some (by kernel_rfl))
  f319 := Tryd.func115.trans (congrArg some (by kernel_rfl))
  f320 := Tryd.func116.trans (congrArg some (by kernel_rfl))
  f337 := Tryd.func117.trans (congrArg some (by kernel_rfl))
  f338 := Tryd.func118.trans (congrArg some (by kernel_rfl))
  t0 := Tryd.underlying0
  a0 := Tryd.isAgg0
  z0 := Tryd.sizeOf0
  v0 := Tryd.zeroValue0
  t2 := Tryd.underlying2
  a2 := Tryd.isAgg2
  z2 := Tryd.sizeOf2
  v2 := Tryd.zeroValue2
  t3 := Tryd.underlying3
  a3 := Tryd.isAgg3
  z3 := Tryd.sizeOf3
  v3 := Tryd.zeroValue3
  t4 := Tryd.underlying4
  a4 := Tryd.isAgg4
  z4 := Tryd.sizeOf4
  v4 := Tryd.zeroValue4
  t5 := Tryd.underlying5
  a5 := Tryd.isAgg5
  z5 := Tryd.sizeOf5
  v5 := Tryd.zeroValue5
  t9 := Tryd.underlying9
  a9 := Tryd.isAgg9
  z9 := Tryd.sizeOf9
  v9 := Tryd.zeroValue9
  t20 := Tryd.underlying20
  a20 := Tryd.isAgg20
  z20 := Tryd.sizeOf20
  v20 := Tryd.zeroValue20
  t37 := Tryd.underlying70
  a37 := Tryd.isAgg70
  z37 := Tryd.sizeOf70
  v37 := Tryd.zeroValue70
  t46 := Tryd.underlying64
  a46 := Tryd.isAgg64
  z46 := Tryd.sizeOf64
  v46 := Tryd.zeroValue64
  t51 := Tryd.underlying46
  a51 := Tryd.isAgg46
  z51 := Tryd.sizeOf46
  v51 := Tryd.zeroValue46
  t53 := Tryd.underlying51
  a53 := Tryd.isAgg51
  z53 := Tryd.sizeOf51
  v53 := Tryd.zeroValue51
  t171 := Tryd.underlying103
  a171 := Tryd.isAgg103
  z171 := Tryd.sizeOf103
  v171 := Tryd.zeroValue103
  t173 := Tryd.underlying106
  a173 := Tryd.isAgg106
  z173 := Tryd.sizeOf106
  v173 := Tryd.zeroValue106
  t212 := Tryd.underlying113
  a212 := Tryd.isAgg113
  z212 := Tryd.sizeOf113
  v212 := Tryd.zeroValue113
  t213 := Tryd.underlying114
  a213 := Tryd.isAgg114
  z213 := Tryd.sizeOf114
  t232 := Tryd.underlying117
  a232 := Tryd.isAgg117
  z232 := Tryd.sizeOf117
  v232 := Tryd.zeroValue117
  t233 := Tryd.underlying118
  a233 := Tryd.isAgg118
  z233 := Tryd.sizeOf118
  v233 := Tryd.zeroValue118
  g17 := by kernel_rfl
  g18 := by kernel_rfl
  g19 := by kernel_rfl }
open Go.RowKit Go.Sort Go.Lib in
theorem Tryd.strconv_Itoa_small (i : Nat) (hi : i < 100) (w : World) :
    Calls Tryd.prog 78 #[.int .i64 i] w fun e w' => e = .returned (.string ⟨(Lib.decDigits i).toArray⟩) ∧ w' = w := Any.strconv_Itoa_small Tryd.lays171 i hi w
def Tryd.lays206_ren : Go.Shelf.Ren := ⟨fun | 206 => 103 | n => n, fun | 9 => 9 | 4 => 4 | 3 => 3 | n => n, fun | n => n⟩
theorem Tryd.lays206 : Go.Proofs.Lays.n206 Tryd.prog Tryd.lays206_ren := {
  mixed := by kernel_rfl
  f206 := Tryd.func103.trans (congrArg some (by kernel_rfl))
  t3 := Tryd.underlying3
  a3 := Tryd.isAgg3
  z3 := Tryd.sizeOf3
  v3 := Tryd.zeroValue3
  t4 := Tryd.underlying4
  a4 := Tryd.isAgg4
  z4 := Tryd.sizeOf4
  v4 := Tryd.zeroValue4
  t9 := Tryd.underlying9
  a9 := Tryd.isAgg9
  z9 := Tryd.sizeOf9
  v9 := Tryd.zeroValue9 }
open Go.RowKit Go.Lib in
theorem Tryd.stringslite_HasPrefix (s p : ByteArray) (w : World) :
    Calls Tryd.prog 103 #[.string s, .string p] w fun e w' => e = .returned (.bool (Lib.hasPrefix s.data.toList p.data.toList)) ∧ w' = w := Any.stringslite_HasPrefix Tryd.lays206 s p w
def Tryd.lays99_ren : Go.Shelf.Ren := ⟨fun | 99 => 94 | 206 => 103 | n => n, fun | 9 => 9 | 4 => 4 | 3 => 3 | n => n, fun | n => n⟩
theorem Tryd.lays99 : Go.Proofs.Lays.n99 Tryd.prog Tryd.lays99_ren := {
  mixed := by kernel_rfl
  f99 := Tryd.func94.trans (congrArg some (by kernel_rfl))
  f206 := Tryd.func103.trans (congrArg some (by kernel_rfl))
  t3 := Tryd.underlying3
  a3 := Tryd.isAgg3
  z3 := Tryd.sizeOf3
  v3 := Tryd.zeroValue3
  t4 := Tryd.underlying4
  a4 := Tryd.isAgg4
  z4 := Tryd.sizeOf4
  v4 := Tryd.zeroValue4
  t9 := Tryd.underlying9
  a9 := Tryd.isAgg9
  z9 := Tryd.sizeOf9
  v9 := Tryd.zeroValue9 }
open Go.RowKit Go.Lib in
theorem Tryd.strings_HasPrefix (s p : ByteArray) (w : World) :
    Calls Tryd.prog 94 #[.string s, .string p] w fun e w' => e = .returned (.bool (Lib.hasPrefix s.data.toList p.data.toList)) ∧ w' = w := Any.strings_HasPrefix Tryd.lays99 s p w
def Tryd.lays264_ren : Go.Shelf.Ren := ⟨fun | 264 => 102 | n => n, fun | 53 => 51 | 46 => 64 | n => n, fun | n => n⟩
theorem Tryd.lays264 : Go.Proofs.Lays.n264 Tryd.prog Tryd.lays264_ren := {
  mixed := by kernel_rfl
  f264 := Tryd.func102.trans (congrArg some (by kernel_rfl))
  t46 := Tryd.underlying64
  a46 := Tryd.isAgg64
  z46 := Tryd.sizeOf64
  v46 := Tryd.zeroValue64
  t53 := Tryd.underlying51
  a53 := Tryd.isAgg51
  z53 := Tryd.sizeOf51
  v53 := Tryd.zeroValue51 }
open Go.RowKit Go.Lib in
theorem Tryd.bits_Mul64 (x y : Nat) (hx : x < 18446744073709551616) (hy : y < 18446744073709551616) (w : World) :
    Calls Tryd.prog 102 #[.int .u64 x, .int .u64 y] w fun e w' => e = .returned (.tuple #[.int .u64 ((x * y / 18446744073709551616 : Nat) : Int), .int .u64 ((x * y % 18446744073709551616 : Nat) : Int)]) ∧ w' = w := Any.bits_Mul64 Tryd.lays264 x y hx hy w
def Tryd.lays212_ren : Go.Shelf.Ren := ⟨fun | 212 => 93 | 263 => 101 | 264 => 102 | n => n, fun | 46 => 64 | 51 => 46 | 146 => 62 | 53 => 51 | 148 => 100 | n => n, fun | n => n⟩
theorem Tryd.lays212 : Go.Proofs.Lays.n212 Tryd.prog Tryd.lays212_ren := {
  mixed := by kernel_rfl
  f212 := Tryd.func93.trans (congrArg some (by kernel_rfl))
  f263 := Tryd.func101.trans (congrArg some (by kernel_rfl))
  f264 := Tryd.func102.trans (congrArg some (by kernel_rfl))
  t46 := Tryd.underlying64
  a46 := Tryd.isAgg64
  z46 := Tryd.sizeOf64
  v46 := Tryd.zeroValue64
  t51 := Tryd.underlying46
  a51 := Tryd.isAgg46
  z51 := Tryd.sizeOf46
  v51 := Tryd.zeroValue46
  t53 := Tryd.underlying51
  a53 := Tryd.isAgg51
  z53 := Tryd.sizeOf51
  v53 := Tryd.zeroValue51
  t146 := Tryd.underlying62
  a146 := Tryd.isAgg62
  z146 := Tryd.sizeOf62
  v146 := Tryd.zeroValue62
  t148 := Tryd.underlying100
  a148 := Tryd.isAgg100
  z148 := Tryd.sizeOf100
  v148 := Tryd.zeroValue100 }
open Go.RowKit Go.Lib in
theorem Tryd.bits_Mul (x y : Nat) (hx : x < 18446744073709551616) (hy : y < 18446744073709551616) (w : World) :
    Calls Tryd.prog 93 #[.int .u64 x, .int .u64 y] w fun e w' => e = .returned (.tuple #[.int .u64 ((x * y / 18446744073709551616 : Nat) : Int), .int .u64 ((x * y % 18446744073709551616 : Nat) : Int)]) ∧ w' = w := Any.bits_Mul Tryd.lays212 x y hx hy w
def Tryd.lays105_ren : Go.Shelf.Ren := ⟨fun | 105 => 79 | 212 => 93 | 99 => 94 | 165 => 95 | 166 => 96 | 170 => 97 | 169 => 98 | 263 => 101 | 264 => 102 | 206 => 103 | 240 => 104 | 241 => 105 | 276 => 110 | 277 => 111 | n => n, fun | 9 => 9 | 3 => 3 | 4 => 4 | 20 => 20 | 0 => 0 | 46 => 64 | 109 => 85 | 5 => 5 | 72 => 90 | 76 => 94 | 51 => 46 | 146 => 62 | 53 => 51 | 148 => 100 | 70 => 88 | 37 => 70 | 75 => 93 | 127 => 102 | 164 => 108 | 80 => 97 | n => n, fun | n => n⟩
theorem Tryd.lays105 : Go.Proofs.Lays.n105 Tryd.prog Tryd.lays105_ren := {
  mixed := by kernel_rfl
  f99 := Tryd.func94.trans (congrArg some (by kernel_rfl))
  f105 := Tryd.func79.trans (congrArg some (by kernel_rfl))
  f165 := Tryd.func95.trans (congrArg some (by kernel_rfl))
  f166 := Tryd.func96.trans (congrArg some (by kernel_rfl))
  f169 := Tryd.func98.trans (congrArg some (by kernel_rfl))
  f170 := Tryd.func97.trans (congrArg some (by kernel_rfl))
  f206 := Tryd.func103.trans (congrArg some (by kernel_rfl))
  f212 := Tryd.func93.trans (congrArg some (by kernel_rfl))
  f240 := Tryd.func104.trans (congrArg some (by kernel_rfl))
  f241 := Tryd.func105.trans (congrArg some (by kernel_rfl))
  f263 := Tryd.func101.trans (congrArg some (by kernel_rfl))
  f264 := Tryd.func102.trans (congrArg some (by kernel_rfl))
  f276 := Tryd.func110.trans (congrArg some (by kernel_rfl))
  f277 := Tryd.func111.trans (congrArg some (by kernel_rfl))
  t0 := Tryd.underlying0
  a0 := Tryd.isAgg0
  z0 := Tryd.sizeOf0
  v0 := Tryd.zeroValue0
  t3 := Tryd.underlying3
  a3 := Tryd.isAgg3
  z3 := Tryd.sizeOf3
  v3 := Tryd.zeroValue3
  t4 := Tryd.underlying4
  a4 := Tryd.isAgg4
  z4 := Tryd.sizeOf4
  v4 := Tryd.zeroValue4
  t5 := Tryd.underlying5
  a5 := Tryd.isAgg5
  z5 := Tryd.sizeOf5
  v5 := Tryd.zeroValue5
  t9 := Tryd.underlying9
  a9 := Tryd.isAgg9
  z9 := Tryd.sizeOf9
  v9 := Tryd.zeroValue9
  t20 := Tryd.underlying20
  a20 := Tryd.isAgg20
  z20 := Tryd.sizeOf20
  v20 := Tryd.zeroValue20
  t37 := Tryd.underlying70
  a37 := Tryd.isAgg70
  z37 := Tryd.sizeOf70
  v37 := Tryd.zeroValue70
  t46 := Tryd.underlying64
  a46 := Tryd.isAgg64
  z46 := Tryd.sizeOf64
  v46 := Tryd.zeroValue64
  t51 := Tryd.underlying46
  a51 := Tryd.isAgg46
  z51 := Tryd.sizeOf46
  v51 := Tryd.zeroValue46
  t53 := Tryd.underlying51
  a53 := Tryd.isAgg51
  z53 := Tryd.sizeOf51
  v53 := Tryd.zeroValue51
  t70 := Tryd.underlying88
  a70 := Tryd.isAgg88
  z70 := Tryd.sizeOf88
  v70 := Tryd.zeroValue88
  t72 := Tryd.underlying90
  a72 := Tryd.isAgg90
  z72 := Tryd.sizeOf90
  v72 := Tryd.zeroValue90
  t75 := Tryd.underlying93
  a75 := Tryd.isAgg93
  z75 := Tryd.sizeOf93
  v75 := Tryd.zeroValue93
  t76 := Tryd.underlying94
  a76 := Tryd.isAgg94
  z76 := Tryd.sizeOf94
  v76 := Tryd.zeroValue94
  t109 := Tryd.underlying85
  a109 := Tryd.isAgg85
  z109 := Tryd.sizeOf85
  v109 := Tryd.zeroValue85
  t127 := Tryd.underlying102
  a127 := Tryd.isAgg102
  z127 := Tryd.sizeOf102
  v127 := Tryd.zeroValue102
  t146 := Tryd.underlying62
  a146 := Tryd.isAgg62
  z146 := Tryd.sizeOf62
  v146 := Tryd.zeroValue62
  t148 := Tryd.underlying100
  a148 := Tryd.isAgg100
  z148 := Tryd.sizeOf100
  v148 := Tryd.zeroValue100
  t164 := Tryd.underlying108
  a164 := Tryd.isAgg108
  z164 := Tryd.sizeOf108
  v164 := Tryd.zeroValue108 }
theorem Tryd.Builder_Extra_105 : Builder.Extra Tryd.prog Tryd.lays105_ren := {
  sizeBuilder := by kernel_rfl
  liesBuilder := by kernel_rfl
  t5 := Tryd.underlying5
  a5 := Tryd.isAgg5
  z5 := Tryd.sizeOf5
  v5 := Tryd.zeroValue5
  infoByte := by kernel_rfl
  cellsByte := by kernel_rfl
  sizeByte := by kernel_rfl
  neB5 := by decide }
open Go.RowKit Go.Lib in
theorem Tryd.strings_Repeat_main (s : ByteArray) (c : Nat) (w : World) (hc2 : 2 ≤ c) (hc : c ≤ 9223372036854775807) (hlen : s.size * c ≤ 140737488355328) (h0 : 0 < s.size) :
    Calls Tryd.prog 79 #[.string s, .int .i64 c] w fun e w' => e = .returned (.string ⟨(Lib.repeatL s.data.toList c).toArray⟩) ∧ Below w.heap.size w w' := Any.strings_Repeat_main Tryd.lays105 Tryd.Builder_Extra_105 s c w hc2 hc hlen h0
open Go.RowKit Go.Lib in
theorem Tryd.strings_Repeat_zero (s : ByteArray) (w : World) :
    Calls Tryd.prog 79 #[.string s, .int .i64 0] w fun e w' => e = .returned (.string ⟨#[]⟩) ∧ w' = w := Any.strings_Repeat_zero Tryd.lays105 s w
open Go.RowKit Go.Lib in
theorem Tryd.strings_Repeat_one (s : ByteArray) (w : World) :
    Calls Tryd.prog 79 #[.string s, .int .i64 1] w fun e w' => e = .returned (.string s) ∧ w' = w := Any.strings_Repeat_one Tryd.lays105 s w
open Go.RowKit Go.Lib in
theorem Tryd.strings_Repeat_empty (s : ByteArray) (c : Nat) (w : World) (hc2 : 2 ≤ c) (hc : c ≤ 9223372036854775807) (h0 : s.size = 0) :
    Calls Tryd.prog 79 #[.string s, .int .i64 c] w fun e w' => e = .returned (.string ⟨#[]⟩) ∧ w' = w := Any.strings_Repeat_empty Tryd.lays105 s c w hc2 hc h0
open Go.RowKit Go.Lib in
theorem Tryd.strings_Repeat_negative (s : ByteArray) (c : Int) (w : World) (hc : c < 0) :
    Calls Tryd.prog 79 #[.string s, .int .i64 c] w fun e w' => e = .panicked [{ v := repeatPanic Tryd.lays105_ren "strings: negative Repeat count", recovered := false }] ∧ w' = w := Any.strings_Repeat_negative Tryd.lays105 s c w hc
open Go.RowKit Go.Lib in
theorem Tryd.strings_Repeat_overflow (s : ByteArray) (c : Nat) (w : World) (hc : c ≤ 9223372036854775807) (hs : s.size ≤ 9223372036854775807) (hbig : 9223372036854775807 < s.size * c) :
    Calls Tryd.prog 79 #[.string s, .int .i64 c] w fun e w' => e = .panicked [{ v := repeatPanic Tryd.lays105_ren "strings: Repeat output length overflow", recovered := false }] ∧ w' = w := Any.strings_Repeat_overflow Tryd.lays105 s c w hc hs hbig
open Go.RowKit Go.Lib in
theorem Tryd.strings_Repeat (s : ByteArray) (c : Nat) (w : World) (hc : c ≤ 9223372036854775807) (hlen : s.size * c ≤ 140737488355328) :
    Calls Tryd.prog 79 #[.string s, .int .i64 c] w fun e w' => e = .returned (.string ⟨(Lib.repeatL s.data.toList c).toArray⟩) ∧ Below w.heap.size w w' := Any.strings_Repeat Tryd.lays105 Tryd.Builder_Extra_105 s c w hc hlen
def Tryd.laysNm217_ren : Go.Shelf.Ren := ⟨fun | 17 => 80 | n => n, fun | 24 => 72 | 9 => 9 | 3 => 3 | 4 => 4 | 0 => 0 | n => n, fun | n => n⟩
theorem Tryd.laysNm217 : Go.Proofs.Lays2.n17 Tryd.prog Tryd.laysNm217_ren := {
  mixed := by kernel_rfl
  f17 := Tryd.func80.trans (congrArg some (by kernel_rfl))
  t0 := Tryd.underlying0
  a0 := Tryd.isAgg0
  z0 := Tryd.sizeOf0
  v0 := Tryd.zeroValue0
  t3 := Tryd.underlying3
  a3 := Tryd.isAgg3
  z3 := Tryd.sizeOf3
  v3 := Tryd.zeroValue3
  t4 := Tryd.underlying4
  a4 := Tryd.isAgg4
  z4 := Tryd.sizeOf4
  v4 := Tryd.zeroValue4
  t9 := Tryd.underlying9
  a9 := Tryd.isAgg9
  z9 := Tryd.sizeOf9
  v9 := Tryd.zeroValue9
  t24 := Tryd.underlying72
  a24 := Tryd.isAgg72
  z24 := Tryd.sizeOf72
  v24 := Tryd.zeroValue72 }
open Go.RowKit Go.Lib Go.Sort in
theorem Tryd.slices_Reverse_string_arr (blk off cap : Nat) (d : Array (List UInt8)) (w : World) (hH : Holds encStr w blk off d) (hsz : d.size ≤ 9223372036854775807) :
    Calls Tryd.prog 80 #[.slice (some ⟨blk, off, none⟩) d.size cap] w fun e w' => e = .returned (.tuple #[]) ∧ ∃ n, w' = putRow encStr (Sort.ahead w n) blk off d.reverse := Any.slices_Reverse_string_arr Tryd.laysNm217 blk off cap d w hH hsz
open Go.RowKit Go.Lib Go.Sort in
theorem Tryd.slices_Reverse_string (blk off cap : Nat) (zs : List (List UInt8)) (w : World) (hH : Holds encStr w blk off zs.toArray) (hsz : zs.length ≤ 9223372036854775807) :
    Calls Tryd.prog 80 #[.slice (some ⟨blk, off, none⟩) zs.length cap] w fun e w' => e = .returned (.tuple #[]) ∧ ∃ n, w' = putRow encStr (Sort.ahead w n) blk off zs.reverse.toArray := Any.slices_Reverse_string Tryd.laysNm217 blk off cap zs w hH hsz
open Go.RowKit Go.Lib Go.Sort in
theorem Tryd.slices_Reverse_string_empty (a : Option Addr) (cap : Nat) (w : World) :
    Calls Tryd.prog 80 #[.slice a 0 cap] w fun e w' => e = .returned (.tuple #[]) ∧ w' = w := Any.slices_Reverse_string_empty Tryd.laysNm217 a cap w
open Go.RowKit Go.Lib Go.Sort in
theorem Tryd.slices_Reverse_string_cells (b off n c : Nat) (Sx : Nat → ByteArray) (w : World) (hbig : n ≤ 9223372036854775807) (hc : ∀ i, i < n → w.cell? ⟨b, off + i, none⟩ = some (.string (Sx i))) (hf : ∀ j, j < n → w.frozen? ⟨b, off + j, none⟩ = false) :
    Calls Tryd.prog 80 #[.slice (some ⟨b, off, none⟩) n c] w fun e w' => e = .returned (.tuple #[]) ∧ ∃ q, w' = (w.drewN q).setCells b off ((Lib.strsOf Sx n).reverse.map encStr) := Any.slices_Reverse_string_cells Tryd.laysNm217 b off n c Sx w hbig hc hf
def Tryd.laysSlE35_f80_ren : Go.Shelf.Ren := ⟨fun | 35 => 80 | n => n, fun | 22 => 72 | 23 => 9 | 3 => 3 | 4 => 4 | 0 => 0 | n => n, fun | n => n⟩
theorem Tryd.laysSlE35_f80 : Go.Proofs.SlLaysE.n35 Tryd.prog Tryd.laysSlE35_f80_ren := {
  mixed := by kernel_rfl
  f35 := ⟨Tryd.f80.name, by decide, Tryd.func80.trans (congrArg some (by kernel_rfl))⟩
  t0 := Tryd.underlying0
  a0 := Tryd.isAgg0
  z0 := Tryd.sizeOf0
  v0 := Tryd.zeroValue0
  t3 := Tryd.underlying3
  a3 := Tryd.isAgg3
  z3 := Tryd.sizeOf3
  v3 := Tryd.zeroValue3
  t4 := Tryd.underlying4
  a4 := Tryd.isAgg4
  z4 := Tryd.sizeOf4
  v4 := Tryd.zeroValue4
  t22 := Tryd.underlying72
  a22 := Tryd.isAgg72
  z22 := Tryd.sizeOf72
  v22 := Tryd.zeroValue72
  a23 := Tryd.isAgg9
  z23 := Tryd.sizeOf9 }
open Go.RowKit Go.Lib Go.Sort in
theorem Tryd.slices_Reverse_arr {α : Type} [Inhabited α] (enc : α → Value) (h1 : OneCell enc) (blk off cap : Nat) (d : Array α) (w : World) (hH : Holds enc w blk off d) (hsz : d.size ≤ 9223372036854775807) :
    Calls Tryd.prog 80 #[.slice (some ⟨blk, off, none⟩) d.size cap] w fun e w' => e = .returned (.tuple #[]) ∧ ∃ n, w' = putRow enc (Sort.ahead w n) blk off d.reverse := AnyE.slices_Reverse_arr Tryd.laysSlE35_f80 enc h1 blk off cap d w hH hsz
open Go.RowKit Go.Lib Go.Sort in
theorem Tryd.slices_Reverse {α : Type} [Inhabited α] (enc : α → Value) (h1 : OneCell enc) (blk off cap : Nat) (zs : List α) (w : World) (hH : Holds enc w blk off zs.toArray) (hsz : zs.length ≤ 9223372036854775807) :
    Calls Tryd.prog 80 #[.slice (some ⟨blk, off, none⟩) zs.length cap] w fun e w' => e = .returned (.tuple #[]) ∧ ∃ n, w' = putRow enc (Sort.ahead w n) blk off zs.reverse.toArray := AnyE.slices_Reverse Tryd.laysSlE35_f80 enc h1 blk off cap zs w hH hsz
open Go.RowKit Go.Lib Go.Sort in
theorem Tryd.slices_Reverse_empty {α : Type} [Inhabited α] (a : Option Addr) (cap : Nat) (w : World) :
    Calls Tryd.prog 80 #[.slice a 0 cap] w fun e w' => e = .returned (.tuple #[]) ∧ w' = w := AnyE.slices_Reverse_empty Tryd.laysSlE35_f80 a cap w
def Tryd.laysSlE041_f74_ren : Go.Shelf.Ren := ⟨fun | 41 => 74 | n => n, fun | 22 => 22 | 23 => 46 | 4 => 4 | n => n, fun | n => n⟩
theorem Tryd.laysSlE041_f74 : Go.Proofs.SlLaysE0.n41 Tryd.prog Tryd.laysSlE041_f74_ren := {
  mixed := by kernel_rfl
  f41 := ⟨Tryd.f74.name, by decide, Tryd.func74.trans (congrArg some (by kernel_rfl))⟩
  t4 := Tryd.underlying4
  a4 := Tryd.isAgg4
  z4 := Tryd.sizeOf4
  v4 := Tryd.zeroValue4
  t22 := Tryd.underlying22
  a22 := Tryd.isAgg22
  z22 := Tryd.sizeOf22
  v22 := Tryd.zeroValue22 }
open Go.RowKit Go.Lib in
theorem Tryd.slices_Clone (i0 : TypeInfo) (z : Value) (size bytes : Nat) (hi : Tryd.prog.info? 46 = some i0) (hz0 : i0.zero = some z) (hz1 : i0.size = size) (hz2 : i0.bytes = bytes) (hzs : z.cells.size = size) (hsz : 0 < size) (z23 : ∀ w, (Go.sizeOf 46).run Tryd.prog w = .ok size w) (b off n c : Nat) (news : List Value) (w : World) (hl : news.length = n * size) (hn : n ≤ maxLen) (hbig : n * bytes ≤ 140737488355328) (hc : ∀ j u, news[j]? = some u → w.cell? ⟨b, off + j, none⟩ = some u) (h1 : ∀ u ∈ news, u.oneCell' = true) :
    Calls Tryd.prog 74 #[.slice (some ⟨b, off, none⟩) n c] w fun e w' => ∃ v', e = .returned v' ∧ w'.ownsRow w.heap.size 46 size v' n news ∧ v' ≠ .slice none 0 0 ∧ Below w.heap.size w w' := AnyE.slices_Clone Tryd.laysSlE041_f74 i0 z size bytes hi hz0 hz1 hz2 hzs hsz z23 b off n c news w hl hn hbig hc h1
open Go.RowKit Go.Lib in
theorem Tryd.slices_Clone_nil (n c : Nat) (w : World) :
    Calls Tryd.prog 74 #[.slice none n c] w fun e w' => e = .returned (.slice none 0 0) ∧ w' = w := AnyE.slices_Clone_nil Tryd.laysSlE041_f74 n c w
end Go.Proofs
namespace Go.Proofs.YtakchfljhihdmaaDoor
open Go Go.Dat Go.Proofs Nat32
open Go.Lib (decDigits repeatL)

/-! ### The library's functions -/
theorem scItoaD (n : Nat) (hn : n ≤ 4294967295) : PCalls Tryd.prog 78 [.int .i64 n] (.str (decDigits n)) := by
  obtain ⟨g, hg⟩ := Option.isSome_iff_exists.1 (show (Tryd.prog.globalNamed tabName).isSome = true by kernel_rfl)
  refine PCalls_itoa hg fun w ht => ?_
  have h := Tryd.strconv_Itoa (n : Int) (by omega) (by omega) w ht
  have e : Go.Lib.itoa (n : Int) = decDigits n := by unfold Go.Lib.itoa; rw [if_neg (by omega), Int.toNat_natCast]
  rwa [e] at h
theorem repeatD (l : List UInt8) (n : Nat) (hl : l.length ≤ 10000) (hn : n ≤ 10000) : PCalls Tryd.prog 79 [.str l, .int .i64 n] (.str (repeatL l n)) := by
  refine PCalls_strint fun w => ?_
  have hs : (⟨l.toArray⟩ : ByteArray).size = l.length := by simp [ByteArray.size]
  have h := Tryd.strings_Repeat ⟨l.toArray⟩ n w (by omega) (by rw [hs]; exact Nat.le_trans (Nat.mul_le_mul hl hn) (by decide))
  exact h
theorem joinD (ls : List (List UInt8)) (sep : List UInt8) (h0 : 0 < ls.length) (hl : ls.length ≤ 100000) (hj : (Go.Lib.join ls sep).length ≤ 1000000) :
    WCalls Tryd.prog 81 [.osl 1 1048576 0 ls.length, .str sep] (strs ls) (.str (Go.Lib.join ls sep)) (strs ls) := by
  refine WCalls_join h0 fun bk c w hc hb hcap => ?_
  have e1 : (ls.map fun l => (⟨l.toArray⟩ : ByteArray)).map (·.data.toList) = ls := by
    rw [List.map_map]; exact (List.map_congr_left fun l _ => by simp).trans (List.map_id _)
  have h := Tryd.strings_Join bk 0 c (ls.map fun l => (⟨l.toArray⟩ : ByteArray)) ⟨sep.toArray⟩ w hc hb (by simp; omega) (by simpa using hcap) (by rw [e1]; simp only; omega)
  rw [e1, List.length_map] at h
  exact h
theorem reverseD (ls : List (List UInt8)) (h0 : 0 < ls.length) (hl : ls.length ≤ 100000) : WCalls Tryd.prog 80 [.osl 1 1048576 0 ls.length] (strs ls) (.tup []) (strs ls.reverse) :=
  WCalls_reverse h0 fun blk cap w hH => Tryd.slices_Reverse_string blk 0 cap ls w hH (by omega)

/-! ### ref01.Format -/
theorem rFormat_calls (a : List Nat) (ha : a.length ≤ 900) (la : lim a) : PCalls Tryd.prog 61 [.sl 1 (us a)] (.str (decDigits (vn a))) := by
  have c1 := rTake_calls a (by omega) la
  have h1 := vn_len la
  refine PCalls_of isrFormat (by simp [fnrFormat]) ?_
  unfold coderFormat
  generalize vn a = N at *
  repeat (first | (refine W_seq ?_) | (refine W_reg ?_) | (refine W_regd ?_) | (refine W_block ?_) | (refine And.intro (by omega) ?_) | simp (config := {maxSteps := 1000000}) (disch := omega) only [cA, cB, lk, lkH, Dst.onT, Dst.onX, Dst.slot, setF, setH, mapF, mapH, initF, binE, unE, cnt, boundE, newsE, freshE, opE, rmH, blkQ, frz_us, Nat.reduceEqDiff, Nat.reduceLT, Nat.reduceAdd, ↓reduceIte, reduceCtorEq, Nat.reduceLeDiff] | (refine callC_pure (c1) rfl ?_) | exact W_ret (RetP_1 (.imm rfl)) | exact W_ret (RetP_c rfl rfl rfl (.imm rfl)))
  refine W_loop (σ := Nat × List UInt8) (fun s => [(0, .sl 1 (us (limbs s.1))), (3, .str s.2)]) (fun _ => []) (fun s => decDigits s.1 ++ s.2 = decDigits N ∧ (limbs s.1).length ≤ 900) (fun s => s.1) (N, []) ⟨by simp, Nat.le_trans h1 ha⟩ ?_ rfl ?_
  · simp [subF, lk]
  · rintro ⟨n, s⟩ ⟨hs, hl⟩
    simp only at hs hl ⊢
    have l10 : [DV.int .u32 10] = us (limbs 10) := by rw [limbs_one (by decide) (by decide)]; rfl
    have c2 := rDivL n 10 (by omega) (by rw [limbs_one (by decide) (by decide)]; simp)
    have em : dmod n 10 = n % 10 := by unfold dmod; rw [if_neg (by decide)]
    rw [em, decide_eq_true (show 0 < 10 by decide)] at c2
    have hd : n % 10 < 10 := Nat.mod_lt _ (by decide)
    have c3 := rLimb_calls (limbs (n % 10)) 0 (by have := limbs_len.2 (show n % 10 < 4294967296 ^ 1 by omega); omega) (lim_limbs _)
    have eg : (limbs (n % 10)).getD 0 0 = n % 10 := by
      by_cases h0 : n % 10 = 0
      · rw [h0, limbs_zero]; rfl
      · rw [limbs_one (by omega) (by omega)]; rfl
    rw [eg] at c3
    have e8 : ((48 : Int) + ((n % 10 : Nat) : Int)) = ((48 + n % 10 : Nat) : Int) := by omega
    have eb : bytesOf [DV.int .u8 ((48 + n % 10 : Nat) : Int)] = some [UInt8.ofNat (48 + n % 10)] := by
      show some [UInt8.ofNat (((48 + n % 10 : Nat) : Int)).toNat] = _
      rw [Int.toNat_natCast]
    have hn2 := dd_limbs (Nat.le_trans h1 ha)
    have hsl := congrArg List.length hs
    rw [List.length_append] at hsl
    have e1 : ∀ l : List UInt8, [UInt8.ofNat (48 + n % 10)] ++ l = UInt8.ofNat (48 + n % 10) :: l := fun _ => rfl
    by_cases hq : n < 10
    · have h0 : (limbs (n / 10)).length = 0 := by rw [Nat.div_eq_of_lt hq, limbs_zero]; rfl
      have hf : UInt8.ofNat (48 + n % 10) :: s = decDigits N := by rw [← hs, dd_lt hq, Nat.mod_eq_of_lt hq]; rfl
      repeat (first | (refine W_seq ?_) | (refine W_reg ?_) | (refine W_regd ?_) | (refine W_block ?_) | (refine And.intro (by omega) ?_) | simp (config := {maxSteps := 1000000}) (disch := omega) only [cA, cB, lk, lkH, Dst.onT, Dst.onX, Dst.slot, setF, setH, mapF, mapH, initF, binE, unE, cnt, boundE, newsE, freshE, opE, rmH, blkQ, frz_us, Nat.reduceEqDiff, Nat.reduceLT, Nat.reduceAdd, ↓reduceIte, reduceCtorEq, Nat.reduceLeDiff, l10, us_rfd, e8, eb, List.mem_singleton, forall_eq, DV.rf, us_length, h0, e1, hf] | (refine callC_pure (c2) rfl ?_) | (refine callC_pure (c3) rfl ?_) | exact W_ret (RetP_1 (.imm rfl)) | exact W_ret (RetP_c rfl rfl rfl (.imm rfl)))
      refine W_cond rfl (fun _ => ?_) (fun h => by simp at h)
      repeat (first | (refine W_seq ?_) | (refine W_reg ?_) | (refine W_regd ?_) | (refine W_block ?_) | (refine And.intro (by omega) ?_) | simp (config := {maxSteps := 1000000}) (disch := omega) only [cA, cB, lk, lkH, Dst.onT, Dst.onX, Dst.slot, setF, setH, mapF, mapH, initF, binE, unE, cnt, boundE, newsE, freshE, opE, rmH, blkQ, frz_us, Nat.reduceEqDiff, Nat.reduceLT, Nat.reduceAdd, ↓reduceIte, reduceCtorEq, Nat.reduceLeDiff])
      exact W_ret (RetP_1 (.imm rfl))
    · have hl2 : (limbs (n / 10)).length ≤ 900 := Nat.le_trans (len_mono (Nat.div_le_self n 10)) hl
      have h0 : decide (((limbs (n / 10)).length : Int) = 0) = false := decide_eq_false fun h => by
        have := (limbs_len (n := n / 10) (k := 0)).1 (by omega)
        rw [Nat.pow_zero] at this
        omega
      have hf : decDigits (n / 10) ++ (UInt8.ofNat (48 + n % 10) :: s) = decDigits N := by rw [← hs, dd_ge hq, List.append_assoc]; rfl
      repeat (first | (refine W_seq ?_) | (refine W_reg ?_) | (refine W_regd ?_) | (refine W_block ?_) | (refine And.intro (by omega) ?_) | simp (config := {maxSteps := 1000000}) (disch := omega) only [cA, cB, lk, lkH, Dst.onT, Dst.onX, Dst.slot, setF, setH, mapF, mapH, initF, binE, unE, cnt, boundE, newsE, freshE, opE, rmH, blkQ, frz_us, Nat.reduceEqDiff, Nat.reduceLT, Nat.reduceAdd, ↓reduceIte, reduceCtorEq, Nat.reduceLeDiff, l10, us_rfd, e8, eb, List.mem_singleton, forall_eq, DV.rf, us_length, h0, e1] | (refine callC_pure (c2) rfl ?_) | (refine callC_pure (c3) rfl ?_) | exact W_ret (RetP_1 (.imm rfl)) | exact W_ret (RetP_c rfl rfl rfl (.imm rfl)))
      refine W_cond rfl (fun h => by cases h) (fun _ => W_skip ?_)
      repeat (first | (refine W_seq ?_) | (refine W_reg ?_) | (refine W_regd ?_) | (refine W_block ?_) | (refine And.intro (by omega) ?_) | simp (config := {maxSteps := 1000000}) (disch := omega) only [cA, cB, lk, lkH, Dst.onT, Dst.onX, Dst.slot, setF, setH, mapF, mapH, initF, binE, unE, cnt, boundE, newsE, freshE, opE, rmH, blkQ, frz_us, Nat.reduceEqDiff, Nat.reduceLT, Nat.reduceAdd, ↓reduceIte, reduceCtorEq, Nat.reduceLeDiff])
      exact ⟨(n / 10, UInt8.ofNat (48 + n % 10) :: s), And.intro hf hl2, Nat.div_lt_self (by omega) (by decide), by simp [subF, lk]⟩

/-! ### natural.Format -/
theorem join_flat (ls : List (List UInt8)) : Go.Lib.join ls [] = ls.flatten := by
  unfold Go.Lib.join List.intercalate
  induction ls with
  | nil => rfl
  | cons a l ih =>
    cases l with
    | nil => rfl
    | cons b l => rw [List.intersperse_cons_cons, List.flatten_cons, List.flatten_cons, ih]; rfl
def gsD (gs : List (List UInt8)) : DV := if gs = [] then .nils else .osl 1 35 0 gs.length
def gsH (gs : List (List UInt8)) : Hp := if gs = [] then [] else [(35, strs gs)]
theorem gsD_snoc (gs : List (List UInt8)) (g : List UInt8) : gsD (gs ++ [g]) = .osl 1 35 0 (gs.length + 1) := by unfold gsD; rw [if_neg (by simp)]; simp
theorem gsH_snoc (gs : List (List UInt8)) (g : List UInt8) : gsH (gs ++ [g]) = [(35, strs (gs ++ [g]))] := by unfold gsH; rw [if_neg (by simp)]
theorem grp_ne (n : Nat) : 0 < (grp n).length := by
  unfold grp
  have := List.length_pos_iff.2 (dd_ne (n % 1000000000))
  split
  · exact this
  · rw [List.length_append]; omega

set_option maxHeartbeats 1000000 in
theorem nFormat_calls (a : List Nat) (ha : a.length ≤ 900) (la : lim a) : PCalls Tryd.prog 60 [.sl 1 (us a)] (.str (decDigits (vn a))) := by
  have c1 := nValue_calls a (by omega) la
  have h1 := vn_len la
  refine PCalls_of isnFormat (by simp [fnnFormat]) ?_
  unfold codenFormat
  generalize vn a = N at *
  by_cases hN : N = 0
  · subst hN
    have h0 : (limbs 0).length = 0 := by rw [limbs_zero]; rfl
    repeat (first | (refine W_seq ?_) | (refine W_reg ?_) | (refine W_regd ?_) | (refine W_block ?_) | (refine And.intro (by omega) ?_) | simp (config := {maxSteps := 1000000}) (disch := omega) only [cA, cB, lk, lkH, Dst.onT, Dst.onX, Dst.slot, setF, setH, mapF, mapH, initF, binE, unE, cnt, boundE, newsE, freshE, opE, rmH, blkQ, frz_us, Nat.reduceEqDiff, Nat.reduceLT, Nat.reduceAdd, ↓reduceIte, reduceCtorEq, Nat.reduceLeDiff, us_length, h0] | (refine callC_pure (c1) rfl ?_) | exact W_ret (RetP_1 (.imm rfl)) | exact W_ret (RetP_c rfl rfl rfl (.imm rfl)))
    refine W_cond rfl (fun _ => ?_) (fun h => by simp at h)
    have e0 : decDigits 0 = [48] := by rw [dd_lt (by decide)]; rfl
    rw [e0]
    repeat (first | (refine W_seq ?_) | (refine W_reg ?_) | (refine W_regd ?_) | (refine W_block ?_) | (refine And.intro (by omega) ?_) | simp (config := {maxSteps := 1000000}) (disch := omega) only [cA, cB, lk, lkH, Dst.onT, Dst.onX, Dst.slot, setF, setH, mapF, mapH, initF, binE, unE, cnt, boundE, newsE, freshE, opE, rmH, blkQ, frz_us, Nat.reduceEqDiff, Nat.reduceLT, Nat.reduceAdd, ↓reduceIte, reduceCtorEq, Nat.reduceLeDiff])
    exact W_ret (RetP_1 (.imm rfl))
  · have h0 : decide (((limbs N).length : Int) = 0) = false := decide_eq_false fun h => by
      have := (limbs_len (n := N) (k := 0)).1 (by omega)
      rw [Nat.pow_zero] at this
      omega
    repeat (first | (refine W_seq ?_) | (refine W_reg ?_) | (refine W_regd ?_) | (refine W_block ?_) | (refine And.intro (by omega) ?_) | simp (config := {maxSteps := 1000000}) (disch := omega) only [cA, cB, lk, lkH, Dst.onT, Dst.onX, Dst.slot, setF, setH, mapF, mapH, initF, binE, unE, cnt, boundE, newsE, freshE, opE, rmH, blkQ, frz_us, Nat.reduceEqDiff, Nat.reduceLT, Nat.reduceAdd, ↓reduceIte, reduceCtorEq, Nat.reduceLeDiff, us_length, h0] | (refine callC_pure (c1) rfl ?_) | exact W_ret (RetP_1 (.imm rfl)) | exact W_ret (RetP_c rfl rfl rfl (.imm rfl)))
    refine W_cond rfl (fun h => by cases h) (fun _ => W_skip ?_)
    repeat (first | (refine W_seq ?_) | (refine W_reg ?_) | (refine W_regd ?_) | (refine W_block ?_) | (refine And.intro (by omega) ?_) | simp (config := {maxSteps := 1000000}) (disch := omega) only [cA, cB, lk, lkH, Dst.onT, Dst.onX, Dst.slot, setF, setH, mapF, mapH, initF, binE, unE, cnt, boundE, newsE, freshE, opE, rmH, blkQ, frz_us, Nat.reduceEqDiff, Nat.reduceLT, Nat.reduceAdd, ↓reduceIte, reduceCtorEq, Nat.reduceLeDiff])
    have hdl := dd_limbs (Nat.le_trans h1 ha)
    have hE : ddE N = decDigits N := by unfold ddE; rw [if_neg hN]
    refine W_loop (σ := Nat × List (List UInt8)) (fun s => [(0, .sl 1 (us (limbs s.1))), (3, gsD s.2)]) (fun s => gsH s.2) (fun s => ddE s.1 ++ s.2.reverse.flatten = ddE N ∧ (limbs s.1).length ≤ 900 ∧ s.2.length ≤ s.2.reverse.flatten.length) (fun s => s.1) (N, []) ⟨by simp, Nat.le_trans h1 ha, by simp⟩ ?_ rfl ?_
    · simp [subF, lk, gsD]
    · rintro ⟨n, gs⟩ ⟨hs, hl, hg⟩
      simp only at hs hl hg ⊢
      have hsl := congrArg List.length hs
      rw [List.length_append, hE] at hsl
      by_cases hn : n = 0
      · subst hn
        have h00 : (limbs 0).length = 0 := by rw [limbs_zero]; rfl
        have hgs : gs ≠ [] := by
          rintro rfl
          rw [hE] at hs
          exact dd_ne N (by rw [← hs]; simp [ddE])
        have hgl : 0 < gs.length := List.length_pos_iff.2 hgs
        have hres : Go.Lib.join gs.reverse [] = decDigits N := by rw [join_flat, ← hE, ← hs]; simp [ddE]
        have c2 := reverseD gs hgl (by omega)
        have c3 := joinD gs.reverse [] (by simpa using hgl) (by simp; omega) (by rw [hres]; omega)
        rw [hres, List.length_reverse] at c3
        have ed : gsD gs = .osl 1 35 0 gs.length := by unfold gsD; rw [if_neg hgs]
        have eh : gsH gs = [(35, strs gs)] := by unfold gsH; rw [if_neg hgs]
        have hrf : (strs gs).all DV.rf = true := by simp [strs, DV.rf]
        have hrf2 : (strs gs.reverse).all DV.rf = true := by simp [strs, DV.rf]
        have hne : strs gs ≠ [] := by simpa [strs] using hgs
        have hne2 : strs gs.reverse ≠ [] := by simpa [strs] using hgs
        rw [ed, eh]
        repeat (first | (refine W_seq ?_) | (refine W_reg ?_) | (refine W_regd ?_) | (refine W_block ?_) | (refine And.intro (by omega) ?_) | simp (config := {maxSteps := 1000000}) (disch := omega) only [cA, cB, lk, lkH, Dst.onT, Dst.onX, Dst.slot, setF, setH, mapF, mapH, initF, binE, unE, cnt, boundE, newsE, freshE, opE, rmH, blkQ, frz_us, Nat.reduceEqDiff, Nat.reduceLT, Nat.reduceAdd, ↓reduceIte, reduceCtorEq, Nat.reduceLeDiff, us_length, h00])
        refine W_cond rfl (fun h => by simp at h) (fun _ => W_exit ?_)
        repeat (first | (refine W_seq ?_) | (refine W_reg ?_) | (refine W_regd ?_) | (refine W_block ?_) | (refine And.intro (by omega) ?_) | simp (config := {maxSteps := 1000000}) (disch := omega) only [cA, cB, lk, lkH, Dst.onT, Dst.onX, Dst.slot, setF, setH, mapF, mapH, initF, binE, unE, cnt, boundE, newsE, freshE, opE, rmH, blkQ, frz_us, Nat.reduceEqDiff, Nat.reduceLT, Nat.reduceAdd, ↓reduceIte, reduceCtorEq, Nat.reduceLeDiff])
        refine callC_lend rfl 35 (cells := strs gs) (by simp [lkH]) hrf hne c2 ?_
        repeat (first | (refine W_seq ?_) | (refine W_reg ?_) | (refine W_regd ?_) | (refine W_block ?_) | (refine And.intro (by omega) ?_) | simp (config := {maxSteps := 1000000}) (disch := omega) only [cA, cB, lk, lkH, Dst.onT, Dst.onX, Dst.slot, setF, setH, mapF, mapH, initF, binE, unE, cnt, boundE, newsE, freshE, opE, rmH, blkQ, frz_us, Nat.reduceEqDiff, Nat.reduceLT, Nat.reduceAdd, ↓reduceIte, reduceCtorEq, Nat.reduceLeDiff])
        refine callC_lend rfl 35 (cells := strs gs.reverse) (by simp [lkH, setH]) hrf2 hne2 c3 ?_
        repeat (first | (refine W_seq ?_) | (refine W_reg ?_) | (refine W_regd ?_) | (refine W_block ?_) | (refine And.intro (by omega) ?_) | simp (config := {maxSteps := 1000000}) (disch := omega) only [cA, cB, lk, lkH, Dst.onT, Dst.onX, Dst.slot, setF, setH, mapF, mapH, initF, binE, unE, cnt, boundE, newsE, freshE, opE, rmH, blkQ, frz_us, Nat.reduceEqDiff, Nat.reduceLT, Nat.reduceAdd, ↓reduceIte, reduceCtorEq, Nat.reduceLeDiff])
        exact W_ret (RetP_1 (.imm rfl))
      · have hlp : decide ((0 : Int) < (limbs n).length) = true := decide_eq_true (by
          have := (limbs_len (n := n) (k := 0))
          rw [Nat.pow_zero] at this
          omega)
        have hr : n % 1000000000 < 1000000000 := Nat.mod_lt _ (by decide)
        have c2 := nShort_calls n 1000000000 (by omega) (by decide) (by decide)
        have c3 := scItoaD (n % 1000000000) (by omega)
        have hs2 : ddE (n / 1000000000) ++ (gs ++ [grp n]).reverse.flatten = ddE N := by
          rw [← hs, ddE_step (by omega : 0 < n)]; simp
        have hl2 : (limbs (n / 1000000000)).length ≤ 900 := Nat.le_trans (len_mono (Nat.div_le_self _ _)) hl
        have hg2 : (gs ++ [grp n]).length ≤ (gs ++ [grp n]).reverse.flatten.length := by
          have := grp_ne n
          simp only [List.length_append, List.length_singleton, List.reverse_append, List.reverse_singleton, List.singleton_append, List.flatten_cons]
          omega
        have hmu : n / 1000000000 < n := Nat.div_lt_self (by omega) (by decide)
        have hgl : gs.length ≤ 10000 := by omega
        have hrl : (decDigits (n % 1000000000)).length ≤ 9 := dd_len (k := 8) hr
        by_cases hq : n / 1000000000 = 0
        · have h00 : (limbs (n / 1000000000)).length = 0 := by rw [hq, limbs_zero]; rfl
          have hgr : grp n = decDigits (n % 1000000000) := by unfold grp; rw [if_pos hq]
          rw [← hgr] at c3
          have hcat : True = True := rfl
          by_cases he : gs = []
          · subst he
            clear hs hg hsl c1 hdl hE
            (replace hs2 := Hid.mk hs2; replace hg2 := Hid.mk hg2; replace hl2 := Hid.mk hl2; replace hmu := Hid.mk hmu)
            repeat (first | (refine W_seq ?_) | (refine W_reg ?_) | (refine W_regd ?_) | (refine W_block ?_) | (refine And.intro (by omega) ?_) | simp (config := {maxSteps := 1000000}) (disch := omega) only [cA, cB, lk, lkH, Dst.onT, Dst.onX, Dst.slot, setF, setH, mapF, mapH, initF, binE, unE, cnt, boundE, newsE, freshE, opE, rmH, blkQ, frz_us, Nat.reduceEqDiff, Nat.reduceLT, Nat.reduceAdd, ↓reduceIte, reduceCtorEq, Nat.reduceLeDiff, us_length, hlp, gsD, gsH])
            refine W_cond rfl (fun _ => W_skip ?_) (fun h => by cases h)
            repeat (first | (refine W_seq ?_) | (refine W_reg ?_) | (refine W_regd ?_) | (refine W_block ?_) | (refine And.intro (by omega) ?_) | simp (config := {maxSteps := 1000000}) (disch := omega) only [cA, cB, lk, lkH, Dst.onT, Dst.onX, Dst.slot, setF, setH, mapF, mapH, initF, binE, unE, cnt, boundE, newsE, freshE, opE, rmH, blkQ, frz_us, Nat.reduceEqDiff, Nat.reduceLT, Nat.reduceAdd, ↓reduceIte, reduceCtorEq, Nat.reduceLeDiff] | (refine callC_pure (c2) rfl ?_) | (refine callC_pure (c3) rfl ?_) | exact W_ret (RetP_1 (.imm rfl)) | exact W_ret (RetP_c rfl rfl rfl (.imm rfl)))
            repeat (first | (refine W_seq ?_) | (refine W_reg ?_) | (refine W_regd ?_) | (refine W_block ?_) | (refine And.intro (by omega) ?_) | simp (config := {maxSteps := 1000000}) (disch := omega) only [cA, cB, lk, lkH, Dst.onT, Dst.onX, Dst.slot, setF, setH, mapF, mapH, initF, binE, unE, cnt, boundE, newsE, freshE, opE, rmH, blkQ, frz_us, Nat.reduceEqDiff, Nat.reduceLT, Nat.reduceAdd, ↓reduceIte, reduceCtorEq, Nat.reduceLeDiff, us_length, h00])
            refine W_cond rfl (fun h => by simp at h) (fun _ => W_skip ?_)
            repeat (first | (refine W_seq ?_) | (refine W_reg ?_) | (refine W_regd ?_) | (refine W_block ?_) | (refine And.intro (by omega) ?_) | simp (config := {maxSteps := 1000000}) (disch := omega) only [cA, cB, lk, lkH, Dst.onT, Dst.onX, Dst.slot, setF, setH, mapF, mapH, initF, binE, unE, cnt, boundE, newsE, freshE, opE, rmH, blkQ, frz_us, Nat.reduceEqDiff, Nat.reduceLT, Nat.reduceAdd, ↓reduceIte, reduceCtorEq, Nat.reduceLeDiff, laid_str, newsE, cS, DV.rf, List.mem_singleton, forall_eq, nbnFormat, hcat])
            exact ⟨(n / 1000000000, [] ++ [grp n]), And.intro hs2.out (And.intro hl2.out hg2.out), hmu.out, by simp [subF, lk], by simp [strs]⟩
          · have ed : gsD gs = .osl 1 35 0 gs.length := by unfold gsD; rw [if_neg he]
            have eh : gsH gs = [(35, strs gs)] := by unfold gsH; rw [if_neg he]
            have hsn : (strs gs).length = gs.length := by simp [strs]
            have hpu : (strs gs ++ [DV.str (grp n)]).map (purge 35) = strs (gs ++ [grp n]) := by
              simp only [strs, List.map_append, List.map_map, List.map_singleton]
              rfl
            rw [ed, eh]
            clear hs hg hsl c1 hdl hE
            (replace hs2 := Hid.mk hs2; replace hg2 := Hid.mk hg2; replace hl2 := Hid.mk hl2; replace hmu := Hid.mk hmu)
            repeat (first | (refine W_seq ?_) | (refine W_reg ?_) | (refine W_regd ?_) | (refine W_block ?_) | (refine And.intro (by omega) ?_) | simp (config := {maxSteps := 1000000}) (disch := omega) only [cA, cB, lk, lkH, Dst.onT, Dst.onX, Dst.slot, setF, setH, mapF, mapH, initF, binE, unE, cnt, boundE, newsE, freshE, opE, rmH, blkQ, frz_us, Nat.reduceEqDiff, Nat.reduceLT, Nat.reduceAdd, ↓reduceIte, reduceCtorEq, Nat.reduceLeDiff, us_length, hlp])
            refine W_cond rfl (fun _ => W_skip ?_) (fun h => by cases h)
            repeat (first | (refine W_seq ?_) | (refine W_reg ?_) | (refine W_regd ?_) | (refine W_block ?_) | (refine And.intro (by omega) ?_) | simp (config := {maxSteps := 1000000}) (disch := omega) only [cA, cB, lk, lkH, Dst.onT, Dst.onX, Dst.slot, setF, setH, mapF, mapH, initF, binE, unE, cnt, boundE, newsE, freshE, opE, rmH, blkQ, frz_us, Nat.reduceEqDiff, Nat.reduceLT, Nat.reduceAdd, ↓reduceIte, reduceCtorEq, Nat.reduceLeDiff] | (refine callC_pure (c2) rfl ?_) | (refine callC_pure (c3) rfl ?_) | exact W_ret (RetP_1 (.imm rfl)) | exact W_ret (RetP_c rfl rfl rfl (.imm rfl)))
            repeat (first | (refine W_seq ?_) | (refine W_reg ?_) | (refine W_regd ?_) | (refine W_block ?_) | (refine And.intro (by omega) ?_) | simp (config := {maxSteps := 1000000}) (disch := omega) only [cA, cB, lk, lkH, Dst.onT, Dst.onX, Dst.slot, setF, setH, mapF, mapH, initF, binE, unE, cnt, boundE, newsE, freshE, opE, rmH, blkQ, frz_us, Nat.reduceEqDiff, Nat.reduceLT, Nat.reduceAdd, ↓reduceIte, reduceCtorEq, Nat.reduceLeDiff, us_length, h00])
            refine W_cond rfl (fun h => by simp at h) (fun _ => W_skip ?_)
            repeat (first | (refine W_seq ?_) | (refine W_reg ?_) | (refine W_regd ?_) | (refine W_block ?_) | (refine And.intro (by omega) ?_) | simp (config := {maxSteps := 1000000}) (disch := omega) only [cA, cB, lk, lkH, Dst.onT, Dst.onX, Dst.slot, setF, setH, mapF, mapH, initF, binE, unE, cnt, boundE, newsE, freshE, opE, rmH, blkQ, frz_us, Nat.reduceEqDiff, Nat.reduceLT, Nat.reduceAdd, ↓reduceIte, reduceCtorEq, Nat.reduceLeDiff, laid_str, newsE, cS, DV.rf, List.mem_singleton, forall_eq, nbnFormat, hcat, hsn, hpu, List.length_singleton])
            exact ⟨(n / 1000000000, gs ++ [grp n]), And.intro hs2.out (And.intro hl2.out hg2.out), hmu.out, by simp [subF, lk, gsD_snoc], by rw [gsH_snoc]⟩
        · have h00 : decide ((0 : Int) < ((limbs (n / 1000000000)).length : Int)) = true := decide_eq_true (by
            have := (limbs_len (n := n / 1000000000) (k := 0))
            rw [Nat.pow_zero] at this
            omega)
          have hcat : repeatL [48] (9 - (decDigits (n % 1000000000)).length) ++ decDigits (n % 1000000000) = grp n := by unfold grp; rw [if_neg hq]
          have c4 := repeatD [48] (9 - (decDigits (n % 1000000000)).length) (by decide) (by omega)
          have hrp : (repeatL [48] (9 - (decDigits (n % 1000000000)).length)).length = 9 - (decDigits (n % 1000000000)).length := by rw [rep_len]; simp
          have e9 : (9 : Int) - ((decDigits (n % 1000000000)).length : Int) = ((9 - (decDigits (n % 1000000000)).length : Nat) : Int) := by omega
          by_cases he : gs = []
          · subst he
            clear hs hg hsl c1 hdl hE
            (replace hs2 := Hid.mk hs2; replace hg2 := Hid.mk hg2; replace hl2 := Hid.mk hl2; replace hmu := Hid.mk hmu)
            repeat (first | (refine W_seq ?_) | (refine W_reg ?_) | (refine W_regd ?_) | (refine W_block ?_) | (refine And.intro (by omega) ?_) | simp (config := {maxSteps := 1000000}) (disch := omega) only [cA, cB, lk, lkH, Dst.onT, Dst.onX, Dst.slot, setF, setH, mapF, mapH, initF, binE, unE, cnt, boundE, newsE, freshE, opE, rmH, blkQ, frz_us, Nat.reduceEqDiff, Nat.reduceLT, Nat.reduceAdd, ↓reduceIte, reduceCtorEq, Nat.reduceLeDiff, us_length, hlp, gsD, gsH])
            refine W_cond rfl (fun _ => W_skip ?_) (fun h => by cases h)
            repeat (first | (refine W_seq ?_) | (refine W_reg ?_) | (refine W_regd ?_) | (refine W_block ?_) | (refine And.intro (by omega) ?_) | simp (config := {maxSteps := 1000000}) (disch := omega) only [cA, cB, lk, lkH, Dst.onT, Dst.onX, Dst.slot, setF, setH, mapF, mapH, initF, binE, unE, cnt, boundE, newsE, freshE, opE, rmH, blkQ, frz_us, Nat.reduceEqDiff, Nat.reduceLT, Nat.reduceAdd, ↓reduceIte, reduceCtorEq, Nat.reduceLeDiff] | (refine callC_pure (c2) rfl ?_) | (refine callC_pure (c3) rfl ?_) | exact W_ret (RetP_1 (.imm rfl)) | exact W_ret (RetP_c rfl rfl rfl (.imm rfl)))
            repeat (first | (refine W_seq ?_) | (refine W_reg ?_) | (refine W_regd ?_) | (refine W_block ?_) | (refine And.intro (by omega) ?_) | simp (config := {maxSteps := 1000000}) (disch := omega) only [cA, cB, lk, lkH, Dst.onT, Dst.onX, Dst.slot, setF, setH, mapF, mapH, initF, binE, unE, cnt, boundE, newsE, freshE, opE, rmH, blkQ, frz_us, Nat.reduceEqDiff, Nat.reduceLT, Nat.reduceAdd, ↓reduceIte, reduceCtorEq, Nat.reduceLeDiff, us_length, h00])
            refine W_cond rfl (fun _ => ?_) (fun h => by cases h)
            repeat (first | (refine W_seq ?_) | (refine W_reg ?_) | (refine W_regd ?_) | (refine W_block ?_) | (refine And.intro (by omega) ?_) | simp (config := {maxSteps := 1000000}) (disch := omega) only [cA, cB, lk, lkH, Dst.onT, Dst.onX, Dst.slot, setF, setH, mapF, mapH, initF, binE, unE, cnt, boundE, newsE, freshE, opE, rmH, blkQ, frz_us, Nat.reduceEqDiff, Nat.reduceLT, Nat.reduceAdd, ↓reduceIte, reduceCtorEq, Nat.reduceLeDiff, e9] | (refine callC_pure (c4) rfl ?_) | exact W_ret (RetP_1 (.imm rfl)) | exact W_ret (RetP_c rfl rfl rfl (.imm rfl)))
            repeat (first | (refine W_seq ?_) | (refine W_reg ?_) | (refine W_regd ?_) | (refine W_block ?_) | (refine And.intro (by omega) ?_) | simp (config := {maxSteps := 1000000}) (disch := omega) only [cA, cB, lk, lkH, Dst.onT, Dst.onX, Dst.slot, setF, setH, mapF, mapH, initF, binE, unE, cnt, boundE, newsE, freshE, opE, rmH, blkQ, frz_us, Nat.reduceEqDiff, Nat.reduceLT, Nat.reduceAdd, ↓reduceIte, reduceCtorEq, Nat.reduceLeDiff, laid_str, newsE, cS, DV.rf, List.mem_singleton, forall_eq, nbnFormat, hcat])
            exact ⟨(n / 1000000000, [] ++ [grp n]), And.intro hs2.out (And.intro hl2.out hg2.out), hmu.out, by simp [subF, lk], by simp [strs]⟩
          · have ed : gsD gs = .osl 1 35 0 gs.length := by unfold gsD; rw [if_neg he]
            have eh : gsH gs = [(35, strs gs)] := by unfold gsH; rw [if_neg he]
            have hsn : (strs gs).length = gs.length := by simp [strs]
            have hpu : (strs gs ++ [DV.str (grp n)]).map (purge 35) = strs (gs ++ [grp n]) := by
              simp only [strs, List.map_append, List.map_map, List.map_singleton]
              rfl
            rw [ed, eh]
            clear hs hg hsl c1 hdl hE
            (replace hs2 := Hid.mk hs2; replace hg2 := Hid.mk hg2; replace hl2 := Hid.mk hl2; replace hmu := Hid.mk hmu)
            repeat (first | (refine W_seq ?_) | (refine W_reg ?_) | (refine W_regd ?_) | (refine W_block ?_) | (refine And.intro (by omega) ?_) | simp (config := {maxSteps := 1000000}) (disch := omega) only [cA, cB, lk, lkH, Dst.onT, Dst.onX, Dst.slot, setF, setH, mapF, mapH, initF, binE, unE, cnt, boundE, newsE, freshE, opE, rmH, blkQ, frz_us, Nat.reduceEqDiff, Nat.reduceLT, Nat.reduceAdd, ↓reduceIte, reduceCtorEq, Nat.reduceLeDiff, us_length, hlp])
            refine W_cond rfl (fun _ => W_skip ?_) (fun h => by cases h)
            repeat (first | (refine W_seq ?_) | (refine W_reg ?_) | (refine W_regd ?_) | (refine W_block ?_) | (refine And.intro (by omega) ?_) | simp (config := {maxSteps := 1000000}) (disch := omega) only [cA, cB, lk, lkH, Dst.onT, Dst.onX, Dst.slot, setF, setH, mapF, mapH, initF, binE, unE, cnt, boundE, newsE, freshE, opE, rmH, blkQ, frz_us, Nat.reduceEqDiff, Nat.reduceLT, Nat.reduceAdd, ↓reduceIte, reduceCtorEq, Nat.reduceLeDiff] | (refine callC_pure (c2) rfl ?_) | (refine callC_pure (c3) rfl ?_) | exact W_ret (RetP_1 (.imm rfl)) | exact W_ret (RetP_c rfl rfl rfl (.imm rfl)))
            repeat (first | (refine W_seq ?_) | (refine W_reg ?_) | (refine W_regd ?_) | (refine W_block ?_) | (refine And.intro (by omega) ?_) | simp (config := {maxSteps := 1000000}) (disch := omega) only [cA, cB, lk, lkH, Dst.onT, Dst.onX, Dst.slot, setF, setH, mapF, mapH, initF, binE, unE, cnt, boundE, newsE, freshE, opE, rmH, blkQ, frz_us, Nat.reduceEqDiff, Nat.reduceLT, Nat.reduceAdd, ↓reduceIte, reduceCtorEq, Nat.reduceLeDiff, us_length, h00])
            refine W_cond rfl (fun _ => ?_) (fun h => by cases h)
            repeat (first | (refine W_seq ?_) | (refine W_reg ?_) | (refine W_regd ?_) | (refine W_block ?_) | (refine And.intro (by omega) ?_) | simp (config := {maxSteps := 1000000}) (disch := omega) only [cA, cB, lk, lkH, Dst.onT, Dst.onX, Dst.slot, setF, setH, mapF, mapH, initF, binE, unE, cnt, boundE, newsE, freshE, opE, rmH, blkQ, frz_us, Nat.reduceEqDiff, Nat.reduceLT, Nat.reduceAdd, ↓reduceIte, reduceCtorEq, Nat.reduceLeDiff, e9] | (refine callC_pure (c4) rfl ?_) | exact W_ret (RetP_1 (.imm rfl)) | exact W_ret (RetP_c rfl rfl rfl (.imm rfl)))
            repeat (first | (refine W_seq ?_) | (refine W_reg ?_) | (refine W_regd ?_) | (refine W_block ?_) | (refine And.intro (by omega) ?_) | simp (config := {maxSteps := 1000000}) (disch := omega) only [cA, cB, lk, lkH, Dst.onT, Dst.onX, Dst.slot, setF, setH, mapF, mapH, initF, binE, unE, cnt, boundE, newsE, freshE, opE, rmH, blkQ, frz_us, Nat.reduceEqDiff, Nat.reduceLT, Nat.reduceAdd, ↓reduceIte, reduceCtorEq, Nat.reduceLeDiff, laid_str, newsE, cS, DV.rf, List.mem_singleton, forall_eq, nbnFormat, hcat, hsn, hpu, List.length_singleton])
            exact ⟨(n / 1000000000, gs ++ [grp n]), And.intro hs2.out (And.intro hl2.out hg2.out), hmu.out, by simp [subF, lk, gsD_snoc], by rw [gsH_snoc]⟩
end Go.Proofs.YtakchfljhihdmaaDoor
namespace Go.Proofs.YtakchfljhihdmaaDoor
open Go Go.Dat Go.Proofs Nat32

theorem len_gt (n : Nat) : decide ((0 : Int) < ((limbs n).length : Int)) = decide (0 < n) := by
  rw [decide_eq_decide, ← limbs_len0]; omega
theorem iValid_calls (neg : Bool) (a : List Nat) (ha : a.length ≤ 1000000) : PCalls Tryd.prog 21 [X neg a] (.bool (vldI neg a)) := by
  refine PCalls_of isiValid (by simp [fniValid]) ?_
  unfold codeiValid
  have cv := nValid_calls a ha
  unfold vldI
  have hd : decide ((0 : Int) < a.length) = decide (0 < a.length) := by rw [decide_eq_decide]; omega
  generalize decide (0 < a.length) = p at *
  generalize vld a = v at *
  repeat (first | (refine W_seq ?_) | (refine W_reg ?_) | (refine W_regd ?_) | (refine W_block ?_) | (refine And.intro (by omega) ?_) | simp (config := {maxSteps := 1000000}) (disch := omega) only [cA, cB, lk, lkH, Dst.onT, Dst.onX, Dst.slot, setF, setH, mapF, mapH, initF, binE, unE, cnt, boundE, newsE, freshE, opE, rmH, blkQ, frz_us, Nat.reduceEqDiff, Nat.reduceLT, Nat.reduceAdd, ↓reduceIte, reduceCtorEq, Nat.reduceLeDiff, X, cS, nbiValid, us_length, hd] | (refine callC_pure (cv) rfl ?_) | exact W_ret (RetP_1 (.imm rfl)) | exact W_ret (RetP_c rfl rfl rfl (.imm rfl)))
  cases v
  · repeat (first | (refine W_seq ?_) | (refine W_reg ?_) | (refine W_regd ?_) | (refine W_block ?_) | (refine And.intro (by omega) ?_) | simp (config := {maxSteps := 1000000}) (disch := omega) only [cA, cB, lk, lkH, Dst.onT, Dst.onX, Dst.slot, setF, setH, mapF, mapH, initF, binE, unE, cnt, boundE, newsE, freshE, opE, rmH, blkQ, frz_us, Nat.reduceEqDiff, Nat.reduceLT, Nat.reduceAdd, ↓reduceIte, reduceCtorEq, Nat.reduceLeDiff, X, cS, nbiValid, us_length, hd] | (refine callC_pure (cv) rfl ?_) | exact W_ret (RetP_1 (.imm rfl)) | exact W_ret (RetP_c rfl rfl rfl (.imm rfl)))
  · cases p
    · repeat (first | (refine W_seq ?_) | (refine W_reg ?_) | (refine W_regd ?_) | (refine W_block ?_) | (refine And.intro (by omega) ?_) | simp (config := {maxSteps := 1000000}) (disch := omega) only [cA, cB, lk, lkH, Dst.onT, Dst.onX, Dst.slot, setF, setH, mapF, mapH, initF, binE, unE, cnt, boundE, newsE, freshE, opE, rmH, blkQ, frz_us, Nat.reduceEqDiff, Nat.reduceLT, Nat.reduceAdd, ↓reduceIte, reduceCtorEq, Nat.reduceLeDiff, X, cS, nbiValid, us_length, hd] | (refine callC_pure (cv) rfl ?_) | exact W_ret (RetP_1 (.imm rfl)) | exact W_ret (RetP_c rfl rfl rfl (.imm rfl)))
    · repeat (first | (refine W_seq ?_) | (refine W_reg ?_) | (refine W_regd ?_) | (refine W_block ?_) | (refine And.intro (by omega) ?_) | simp (config := {maxSteps := 1000000}) (disch := omega) only [cA, cB, lk, lkH, Dst.onT, Dst.onX, Dst.slot, setF, setH, mapF, mapH, initF, binE, unE, cnt, boundE, newsE, freshE, opE, rmH, blkQ, frz_us, Nat.reduceEqDiff, Nat.reduceLT, Nat.reduceAdd, ↓reduceIte, reduceCtorEq, Nat.reduceLeDiff, X, cS, nbiValid, us_length, hd] | (refine callC_pure (cv) rfl ?_) | exact W_ret (RetP_1 (.imm rfl)) | exact W_ret (RetP_c rfl rfl rfl (.imm rfl)))
theorem i_value_calls (neg : Bool) (a : List Nat) (ha : a.length ≤ 1000000) (la : lim a) : PCalls Tryd.prog 41 [X neg a] (I (iv neg a)) := by
  have cv := iValid_calls neg a ha
  refine PCalls_of isi_value (by simp [fni_value]) ?_
  unfold codei_value
  by_cases hv : vldI neg a = true
  · rw [hv] at cv
    rw [← X_I la hv]
    repeat (first | (refine W_seq ?_) | (refine W_reg ?_) | (refine W_regd ?_) | (refine W_block ?_) | (refine And.intro (by omega) ?_) | simp (config := {maxSteps := 1000000}) (disch := omega) only [cA, cB, lk, lkH, Dst.onT, Dst.onX, Dst.slot, setF, setH, mapF, mapH, initF, binE, unE, cnt, boundE, newsE, freshE, opE, rmH, blkQ, frz_us, Nat.reduceEqDiff, Nat.reduceLT, Nat.reduceAdd, ↓reduceIte, reduceCtorEq, Nat.reduceLeDiff, X, cS, nbi_value] | (refine callC_pure (cv) rfl ?_) | exact W_ret (RetP_1 (.imm rfl)) | exact W_ret (RetP_c rfl rfl rfl (.imm rfl)))
    refine W_cond rfl (fun _ => ?_) (fun h => by cases h)
    repeat (first | (refine W_seq ?_) | (refine W_reg ?_) | (refine W_regd ?_) | (refine W_block ?_) | (refine And.intro (by omega) ?_) | simp (config := {maxSteps := 1000000}) (disch := omega) only [cA, cB, lk, lkH, Dst.onT, Dst.onX, Dst.slot, setF, setH, mapF, mapH, initF, binE, unE, cnt, boundE, newsE, freshE, opE, rmH, blkQ, frz_us, Nat.reduceEqDiff, Nat.reduceLT, Nat.reduceAdd, ↓reduceIte, reduceCtorEq, Nat.reduceLeDiff, X, cS, nbi_value] | (refine callC_pure (cv) rfl ?_) | exact W_ret (RetP_1 (.imm rfl)) | exact W_ret (RetP_c rfl rfl rfl (.imm rfl)))
  · have hv : vldI neg a = false := by simpa using hv
    rw [hv] at cv
    rw [iv_inv hv]
    repeat (first | (refine W_seq ?_) | (refine W_reg ?_) | (refine W_regd ?_) | (refine W_block ?_) | (refine And.intro (by omega) ?_) | simp (config := {maxSteps := 1000000}) (disch := omega) only [cA, cB, lk, lkH, Dst.onT, Dst.onX, Dst.slot, setF, setH, mapF, mapH, initF, binE, unE, cnt, boundE, newsE, freshE, opE, rmH, blkQ, frz_us, Nat.reduceEqDiff, Nat.reduceLT, Nat.reduceAdd, ↓reduceIte, reduceCtorEq, Nat.reduceLeDiff, X, cS, nbi_value] | (refine callC_pure (cv) rfl ?_) | exact W_ret (RetP_1 (.imm rfl)) | exact W_ret (RetP_c rfl rfl rfl (.imm rfl)))
    refine W_cond rfl (fun h => by cases h) (fun _ => W_skip ?_)
    repeat (first | (refine W_seq ?_) | (refine W_reg ?_) | (refine W_regd ?_) | (refine W_block ?_) | (refine And.intro (by omega) ?_) | simp (config := {maxSteps := 1000000}) (disch := omega) only [cA, cB, lk, lkH, Dst.onT, Dst.onX, Dst.slot, setF, setH, mapF, mapH, initF, binE, unE, cnt, boundE, newsE, freshE, opE, rmH, blkQ, frz_us, Nat.reduceEqDiff, Nat.reduceLT, Nat.reduceAdd, ↓reduceIte, reduceCtorEq, Nat.reduceLeDiff, X, cS, nbi_value])
    refine W_ret (RetP_c rfl rfl rfl ?_)
    rw [show I 0 = .agg [.bool false, .sl 1 []] by unfold I; rw [show (0 : Int).natAbs = 0 from rfl, limbs_zero]; rfl]
    exact Exp_bn _ _
theorem i_signed_calls (neg : Bool) (n : Nat) : PCalls Tryd.prog 42 [.bool neg, .sl 1 (us (limbs n))] (I (sgn neg n)) := by
  refine PCalls_of isi_signed (by simp [fni_signed]) ?_
  unfold codei_signed I
  rw [sgn_lt, sgn_abs]
  cases neg
  · repeat (first | (refine W_seq ?_) | (refine W_reg ?_) | (refine W_regd ?_) | (refine W_block ?_) | (refine And.intro (by omega) ?_) | simp (config := {maxSteps := 1000000}) (disch := omega) only [cA, cB, lk, lkH, Dst.onT, Dst.onX, Dst.slot, setF, setH, mapF, mapH, initF, binE, unE, cnt, boundE, newsE, freshE, opE, rmH, blkQ, frz_us, Nat.reduceEqDiff, Nat.reduceLT, Nat.reduceAdd, ↓reduceIte, reduceCtorEq, Nat.reduceLeDiff, cS, nbi_signed, us_length, len_gt])
    exact W_ret (RetP_c rfl rfl rfl (.imm rfl))
  · simp only [Bool.true_and]
    repeat (first | (refine W_seq ?_) | (refine W_reg ?_) | (refine W_regd ?_) | (refine W_block ?_) | (refine And.intro (by omega) ?_) | simp (config := {maxSteps := 1000000}) (disch := omega) only [cA, cB, lk, lkH, Dst.onT, Dst.onX, Dst.slot, setF, setH, mapF, mapH, initF, binE, unE, cnt, boundE, newsE, freshE, opE, rmH, blkQ, frz_us, Nat.reduceEqDiff, Nat.reduceLT, Nat.reduceAdd, ↓reduceIte, reduceCtorEq, Nat.reduceLeDiff, cS, nbi_signed, us_length, len_gt])
    exact W_ret (RetP_c rfl rfl rfl (.imm rfl))
end Go.Proofs.YtakchfljhihdmaaDoor
namespace Go.Proofs.YtakchfljhihdmaaDoor
open Go Go.Dat Go.Proofs Nat32

theorem i_copied_calls (neg : Bool) (a : List Nat) (ha : a.length ≤ 10000) (la : lim a) : PCalls Tryd.prog 46 [X neg a] (I (iv neg a)) := by
  have ca := nAdd_calls a [] (by omega) (by simp) la lim_nil
  rw [show vn [] = 0 from rfl, Nat.add_zero, us_nil] at ca
  have cs := i_signed_calls neg (vn a)
  rw [← iv_sgn] at cs
  refine PCalls_of isi_copied (by simp [fni_copied]) ?_
  unfold codei_copied
  repeat (first | (refine W_seq ?_) | (refine W_reg ?_) | (refine W_regd ?_) | (refine W_block ?_) | (refine And.intro (by omega) ?_) | simp (config := {maxSteps := 1000000}) (disch := omega) only [cA, cB, lk, lkH, Dst.onT, Dst.onX, Dst.slot, setF, setH, mapF, mapH, initF, binE, unE, cnt, boundE, newsE, freshE, opE, rmH, blkQ, frz_us, Nat.reduceEqDiff, Nat.reduceLT, Nat.reduceAdd, ↓reduceIte, reduceCtorEq, Nat.reduceLeDiff, X, I, cS, nbi_copied] | (refine callC_pure (PCalls_nz 1 (ca)) rfl ?_) | (refine callC_pure (cs) rfl ?_) | exact W_ret (RetP_1 (.imm rfl)) | exact W_ret (RetP_c rfl rfl rfl (.imm rfl)))
theorem iFromInt_calls (v : Int) (h1 : -9223372036854775808 ≤ v) (h2 : v ≤ 9223372036854775807) : PCalls Tryd.prog 23 [.int .i64 v] (I v) := by
  refine PCalls_of isiFromInt (by simp [fniFromInt]) ?_
  unfold codeiFromInt
  by_cases hv : v < 0
  · have d1 : decide (v < 0) = true := decide_eq_true hv
    obtain ⟨n, hn⟩ : ∃ n : Nat, v = -(n : Int) := ⟨v.natAbs, by omega⟩
    have cf := nFromUint_calls n (by omega)
    have cs := i_signed_calls true n
    rw [show sgn true n = v by unfold sgn; rw [if_pos rfl, hn]] at cs
    have e1 : IntKind.u64.wrap (0 - IntKind.u64.wrap v) = (n : Int) := by rw [IntKind.wrap_u64, IntKind.wrap_u64]; omega
    repeat (first | (refine W_seq ?_) | (refine W_reg ?_) | (refine W_regd ?_) | (refine W_block ?_) | (refine And.intro (by omega) ?_) | simp (config := {maxSteps := 1000000}) (disch := omega) only [cA, cB, lk, lkH, Dst.onT, Dst.onX, Dst.slot, setF, setH, mapF, mapH, initF, binE, unE, cnt, boundE, newsE, freshE, opE, rmH, blkQ, frz_us, Nat.reduceEqDiff, Nat.reduceLT, Nat.reduceAdd, ↓reduceIte, reduceCtorEq, Nat.reduceLeDiff, I, cS, nbiFromInt, d1] | (refine callC_pure (cf) rfl ?_) | (refine callC_pure (cs) rfl ?_) | exact W_ret (RetP_1 (.imm rfl)) | exact W_ret (RetP_c rfl rfl rfl (.imm rfl)))
    refine W_cond rfl (fun _ => ?_) (fun h => by cases h)
    repeat (first | (refine W_seq ?_) | (refine W_reg ?_) | (refine W_regd ?_) | (refine W_block ?_) | (refine And.intro (by omega) ?_) | simp (config := {maxSteps := 1000000}) (disch := omega) only [cA, cB, lk, lkH, Dst.onT, Dst.onX, Dst.slot, setF, setH, mapF, mapH, initF, binE, unE, cnt, boundE, newsE, freshE, opE, rmH, blkQ, frz_us, Nat.reduceEqDiff, Nat.reduceLT, Nat.reduceAdd, ↓reduceIte, reduceCtorEq, Nat.reduceLeDiff, I, cS, nbiFromInt, d1, e1] | (refine callC_pure (cf) rfl ?_) | (refine callC_pure (cs) rfl ?_) | exact W_ret (RetP_1 (.imm rfl)) | exact W_ret (RetP_c rfl rfl rfl (.imm rfl)))
  · have d1 : decide (v < 0) = false := decide_eq_false hv
    obtain ⟨n, hn⟩ : ∃ n : Nat, v = (n : Int) := ⟨v.natAbs, by omega⟩
    have cf := nFromUint_calls n (by omega)
    have cs := i_signed_calls false n
    rw [show sgn false n = v by unfold sgn; rw [if_neg (by simp), hn]] at cs
    have e1 : IntKind.u64.wrap v = (n : Int) := by rw [IntKind.wrap_u64]; omega
    repeat (first | (refine W_seq ?_) | (refine W_reg ?_) | (refine W_regd ?_) | (refine W_block ?_) | (refine And.intro (by omega) ?_) | simp (config := {maxSteps := 1000000}) (disch := omega) only [cA, cB, lk, lkH, Dst.onT, Dst.onX, Dst.slot, setF, setH, mapF, mapH, initF, binE, unE, cnt, boundE, newsE, freshE, opE, rmH, blkQ, frz_us, Nat.reduceEqDiff, Nat.reduceLT, Nat.reduceAdd, ↓reduceIte, reduceCtorEq, Nat.reduceLeDiff, I, cS, nbiFromInt, d1] | (refine callC_pure (cf) rfl ?_) | (refine callC_pure (cs) rfl ?_) | exact W_ret (RetP_1 (.imm rfl)) | exact W_ret (RetP_c rfl rfl rfl (.imm rfl)))
    refine W_cond rfl (fun h => by cases h) (fun _ => W_skip ?_)
    repeat (first | (refine W_seq ?_) | (refine W_reg ?_) | (refine W_regd ?_) | (refine W_block ?_) | (refine And.intro (by omega) ?_) | simp (config := {maxSteps := 1000000}) (disch := omega) only [cA, cB, lk, lkH, Dst.onT, Dst.onX, Dst.slot, setF, setH, mapF, mapH, initF, binE, unE, cnt, boundE, newsE, freshE, opE, rmH, blkQ, frz_us, Nat.reduceEqDiff, Nat.reduceLT, Nat.reduceAdd, ↓reduceIte, reduceCtorEq, Nat.reduceLeDiff, I, cS, nbiFromInt, d1, e1] | (refine callC_pure (cf) rfl ?_) | (refine callC_pure (cs) rfl ?_) | exact W_ret (RetP_1 (.imm rfl)) | exact W_ret (RetP_c rfl rfl rfl (.imm rfl)))
theorem iSign_calls (neg : Bool) (a : List Nat) (ha : a.length ≤ 1000000) (la : lim a) : PCalls Tryd.prog 15 [X neg a] (.int .i64 (iv neg a).sign) := by
  have cv := i_value_calls neg a ha la
  refine PCalls_of isiSign (by simp [fniSign]) ?_
  unfold codeiSign
  generalize iv neg a = z at *
  have dz : decide (((limbs z.natAbs).length : Int) = 0) = decide (z = 0) := by rw [decide_eq_decide, ← sign_len (z := z)]; omega
  repeat (first | (refine W_seq ?_) | (refine W_reg ?_) | (refine W_regd ?_) | (refine W_block ?_) | (refine And.intro (by omega) ?_) | simp (config := {maxSteps := 1000000}) (disch := omega) only [cA, cB, lk, lkH, Dst.onT, Dst.onX, Dst.slot, setF, setH, mapF, mapH, initF, binE, unE, cnt, boundE, newsE, freshE, opE, rmH, blkQ, frz_us, Nat.reduceEqDiff, Nat.reduceLT, Nat.reduceAdd, ↓reduceIte, reduceCtorEq, Nat.reduceLeDiff, X, I, cS, nbiSign, us_length, dz] | (refine callC_pure (cv) rfl ?_) | exact W_ret (RetP_1 (.imm rfl)) | exact W_ret (RetP_c rfl rfl rfl (.imm rfl)))
  refine W_cond rfl (fun h => ?_) (fun h => ?_)
  · have h := of_decide_eq_true h
    subst h
    repeat (first | (refine W_seq ?_) | (refine W_reg ?_) | (refine W_regd ?_) | (refine W_block ?_) | (refine And.intro (by omega) ?_) | simp (config := {maxSteps := 1000000}) (disch := omega) only [cA, cB, lk, lkH, Dst.onT, Dst.onX, Dst.slot, setF, setH, mapF, mapH, initF, binE, unE, cnt, boundE, newsE, freshE, opE, rmH, blkQ, frz_us, Nat.reduceEqDiff, Nat.reduceLT, Nat.reduceAdd, ↓reduceIte, reduceCtorEq, Nat.reduceLeDiff, cS] | (refine callC_pure (cv) rfl ?_) | exact W_ret (RetP_1 (.imm rfl)) | exact W_ret (RetP_c rfl rfl rfl (.imm rfl)))
  · have h := of_decide_eq_false h
    repeat (first | (refine W_seq ?_) | (refine W_reg ?_) | (refine W_regd ?_) | (refine W_block ?_) | (refine And.intro (by omega) ?_) | simp (config := {maxSteps := 1000000}) (disch := omega) only [cA, cB, lk, lkH, Dst.onT, Dst.onX, Dst.slot, setF, setH, mapF, mapH, initF, binE, unE, cnt, boundE, newsE, freshE, opE, rmH, blkQ, frz_us, Nat.reduceEqDiff, Nat.reduceLT, Nat.reduceAdd, ↓reduceIte, reduceCtorEq, Nat.reduceLeDiff, cS] | (refine callC_pure (cv) rfl ?_) | exact W_ret (RetP_1 (.imm rfl)) | exact W_ret (RetP_c rfl rfl rfl (.imm rfl)))
    refine W_cond rfl (fun h3 => ?_) (fun h3 => W_skip ?_)
    · rw [Int.sign_eq_neg_one_of_neg (of_decide_eq_true h3)]
      repeat (first | (refine W_seq ?_) | (refine W_reg ?_) | (refine W_regd ?_) | (refine W_block ?_) | (refine And.intro (by omega) ?_) | simp (config := {maxSteps := 1000000}) (disch := omega) only [cA, cB, lk, lkH, Dst.onT, Dst.onX, Dst.slot, setF, setH, mapF, mapH, initF, binE, unE, cnt, boundE, newsE, freshE, opE, rmH, blkQ, frz_us, Nat.reduceEqDiff, Nat.reduceLT, Nat.reduceAdd, ↓reduceIte, reduceCtorEq, Nat.reduceLeDiff, cS] | (refine callC_pure (cv) rfl ?_) | exact W_ret (RetP_1 (.imm rfl)) | exact W_ret (RetP_c rfl rfl rfl (.imm rfl)))
    · have h3 := of_decide_eq_false h3
      rw [Int.sign_eq_one_of_pos (by omega)]
      repeat (first | (refine W_seq ?_) | (refine W_reg ?_) | (refine W_regd ?_) | (refine W_block ?_) | (refine And.intro (by omega) ?_) | simp (config := {maxSteps := 1000000}) (disch := omega) only [cA, cB, lk, lkH, Dst.onT, Dst.onX, Dst.slot, setF, setH, mapF, mapH, initF, binE, unE, cnt, boundE, newsE, freshE, opE, rmH, blkQ, frz_us, Nat.reduceEqDiff, Nat.reduceLT, Nat.reduceAdd, ↓reduceIte, reduceCtorEq, Nat.reduceLeDiff, cS] | (refine callC_pure (cv) rfl ?_) | exact W_ret (RetP_1 (.imm rfl)) | exact W_ret (RetP_c rfl rfl rfl (.imm rfl)))
theorem iNeg_calls (neg : Bool) (a : List Nat) (ha : a.length ≤ 10000) (la : lim a) : PCalls Tryd.prog 16 [X neg a] (I (-(iv neg a))) := by
  have cv := i_value_calls neg a (by omega) la
  have hl := iv_len la neg
  have cc := i_copied_calls (decide (iv neg a < 0)) (limbs (iv neg a).natAbs) (by omega) (lim_limbs _)
  have cs := i_signed_calls (!decide (iv neg a < 0)) (iv neg a).natAbs
  rw [sgn_not] at cs
  rw [iv_I] at cc
  refine PCalls_of isiNeg (by simp [fniNeg]) ?_
  unfold codeiNeg
  repeat (first | (refine W_seq ?_) | (refine W_reg ?_) | (refine W_regd ?_) | (refine W_block ?_) | (refine And.intro (by omega) ?_) | simp (config := {maxSteps := 1000000}) (disch := omega) only [cA, cB, lk, lkH, Dst.onT, Dst.onX, Dst.slot, setF, setH, mapF, mapH, initF, binE, unE, cnt, boundE, newsE, freshE, opE, rmH, blkQ, frz_us, Nat.reduceEqDiff, Nat.reduceLT, Nat.reduceAdd, ↓reduceIte, reduceCtorEq, Nat.reduceLeDiff, X, I, cS, nbiNeg] | (refine callC_pure (cv) rfl ?_) | (refine callC_pure (cc) rfl ?_) | (refine callC_pure (cs) rfl ?_) | exact W_ret (RetP_1 (.imm rfl)) | exact W_ret (RetP_c rfl rfl rfl (.imm rfl)))
theorem iMul_calls (n1 : Bool) (a : List Nat) (n2 : Bool) (b : List Nat) (ha : a.length ≤ 10000) (hb : b.length ≤ 10000) (la : lim a) (lb : lim b) : PCalls Tryd.prog 14 [X n1 a, X n2 b] (I (iv n1 a * iv n2 b)) := by
  have cv := i_value_calls n1 a (by omega) la
  have cw := i_value_calls n2 b (by omega) lb
  have l1 := iv_len la n1
  have l2 := iv_len lb n2
  generalize iv n1 a = x at *
  generalize iv n2 b = y at *
  have cm := nMulL x.natAbs y.natAbs (by omega) (by omega)
  have cs := i_signed_calls (!(decide (x < 0) == decide (y < 0))) (x.natAbs * y.natAbs)
  rw [mul_sgn] at cs
  refine PCalls_of isiMul (by simp [fniMul]) ?_
  unfold codeiMul
  repeat (first | (refine W_seq ?_) | (refine W_reg ?_) | (refine W_regd ?_) | (refine W_block ?_) | (refine And.intro (by omega) ?_) | simp (config := {maxSteps := 1000000}) (disch := omega) only [cA, cB, lk, lkH, Dst.onT, Dst.onX, Dst.slot, setF, setH, mapF, mapH, initF, binE, unE, cnt, boundE, newsE, freshE, opE, rmH, blkQ, frz_us, Nat.reduceEqDiff, Nat.reduceLT, Nat.reduceAdd, ↓reduceIte, reduceCtorEq, Nat.reduceLeDiff, X, I, cS, nbiMul] | (refine callC_pure (cv) rfl ?_) | (refine callC_pure (cw) rfl ?_) | (refine callC_pure (cm) rfl ?_) | (refine callC_pure (cs) rfl ?_) | exact W_ret (RetP_1 (.imm rfl)) | exact W_ret (RetP_c rfl rfl rfl (.imm rfl)))
theorem iAdd_calls (n1 : Bool) (a : List Nat) (n2 : Bool) (b : List Nat) (ha : a.length ≤ 10000) (hb : b.length ≤ 10000) (la : lim a) (lb : lim b) : PCalls Tryd.prog 13 [X n1 a, X n2 b] (I (iv n1 a + iv n2 b)) := by
  have cv := i_value_calls n1 a (by omega) la
  have cw := i_value_calls n2 b (by omega) lb
  have l1 := iv_len la n1
  have l2 := iv_len lb n2
  generalize iv n1 a = x at *
  generalize iv n2 b = y at *
  have ca := nAddL x.natAbs y.natAbs (by omega) (by omega)
  have cd := nSub_calls (limbs x.natAbs) (limbs y.natAbs) (by omega) (by omega) (lim_limbs _) (lim_limbs _)
  have ce := nSub_calls (limbs y.natAbs) (limbs x.natAbs) (by omega) (by omega) (lim_limbs _) (lim_limbs _)
  rw [vn_limbs, vn_limbs] at cd ce
  have s1 := i_signed_calls (decide (x < 0)) (x.natAbs + y.natAbs)
  have s2 := i_signed_calls (decide (x < 0)) (x.natAbs - y.natAbs)
  have s3 := i_signed_calls (decide (y < 0)) (y.natAbs - x.natAbs)
  refine PCalls_of isiAdd (by simp [fniAdd]) ?_
  unfold codeiAdd
  by_cases h : decide (x < 0) = decide (y < 0)
  · rw [add_same h] at s1
    have hb : (decide (x < 0) == decide (y < 0)) = true := by rw [h]; simp
    repeat (first | (refine W_seq ?_) | (refine W_reg ?_) | (refine W_regd ?_) | (refine W_block ?_) | (refine And.intro (by omega) ?_) | simp (config := {maxSteps := 1000000}) (disch := omega) only [cA, cB, lk, lkH, Dst.onT, Dst.onX, Dst.slot, setF, setH, mapF, mapH, initF, binE, unE, cnt, boundE, newsE, freshE, opE, rmH, blkQ, frz_us, Nat.reduceEqDiff, Nat.reduceLT, Nat.reduceAdd, ↓reduceIte, reduceCtorEq, Nat.reduceLeDiff, X, I, cS, nbiAdd, hb] | (refine callC_pure (cv) rfl ?_) | (refine callC_pure (cw) rfl ?_) | exact W_ret (RetP_1 (.imm rfl)) | exact W_ret (RetP_c rfl rfl rfl (.imm rfl)))
    refine W_cond rfl (fun _ => ?_) (fun h => by cases h)
    repeat (first | (refine W_seq ?_) | (refine W_reg ?_) | (refine W_regd ?_) | (refine W_block ?_) | (refine And.intro (by omega) ?_) | simp (config := {maxSteps := 1000000}) (disch := omega) only [cA, cB, lk, lkH, Dst.onT, Dst.onX, Dst.slot, setF, setH, mapF, mapH, initF, binE, unE, cnt, boundE, newsE, freshE, opE, rmH, blkQ, frz_us, Nat.reduceEqDiff, Nat.reduceLT, Nat.reduceAdd, ↓reduceIte, reduceCtorEq, Nat.reduceLeDiff, X, I, cS, nbiAdd, hb] | (refine callC_pure (ca) rfl ?_) | (refine callC_pure (s1) rfl ?_) | exact W_ret (RetP_1 (.imm rfl)) | exact W_ret (RetP_c rfl rfl rfl (.imm rfl)))
  · have hb : (decide (x < 0) == decide (y < 0)) = false := by simpa using h
    by_cases hle : y.natAbs ≤ x.natAbs
    · rw [add_left h hle] at s2
      rw [decide_eq_true hle] at cd
      repeat (first | (refine W_seq ?_) | (refine W_reg ?_) | (refine W_regd ?_) | (refine W_block ?_) | (refine And.intro (by omega) ?_) | simp (config := {maxSteps := 1000000}) (disch := omega) only [cA, cB, lk, lkH, Dst.onT, Dst.onX, Dst.slot, setF, setH, mapF, mapH, initF, binE, unE, cnt, boundE, newsE, freshE, opE, rmH, blkQ, frz_us, Nat.reduceEqDiff, Nat.reduceLT, Nat.reduceAdd, ↓reduceIte, reduceCtorEq, Nat.reduceLeDiff, X, I, cS, nbiAdd, hb] | (refine callC_pure (cv) rfl ?_) | (refine callC_pure (cw) rfl ?_) | exact W_ret (RetP_1 (.imm rfl)) | exact W_ret (RetP_c rfl rfl rfl (.imm rfl)))
      refine W_cond rfl (fun h => by cases h) (fun _ => W_skip ?_)
      repeat (first | (refine W_seq ?_) | (refine W_reg ?_) | (refine W_regd ?_) | (refine W_block ?_) | (refine And.intro (by omega) ?_) | simp (config := {maxSteps := 1000000}) (disch := omega) only [cA, cB, lk, lkH, Dst.onT, Dst.onX, Dst.slot, setF, setH, mapF, mapH, initF, binE, unE, cnt, boundE, newsE, freshE, opE, rmH, blkQ, frz_us, Nat.reduceEqDiff, Nat.reduceLT, Nat.reduceAdd, ↓reduceIte, reduceCtorEq, Nat.reduceLeDiff, X, I, cS, nbiAdd] | (refine callC_pure (cd) rfl ?_) | exact W_ret (RetP_1 (.imm rfl)) | exact W_ret (RetP_c rfl rfl rfl (.imm rfl)))
      refine W_cond rfl (fun _ => ?_) (fun h => by cases h)
      repeat (first | (refine W_seq ?_) | (refine W_reg ?_) | (refine W_regd ?_) | (refine W_block ?_) | (refine And.intro (by omega) ?_) | simp (config := {maxSteps := 1000000}) (disch := omega) only [cA, cB, lk, lkH, Dst.onT, Dst.onX, Dst.slot, setF, setH, mapF, mapH, initF, binE, unE, cnt, boundE, newsE, freshE, opE, rmH, blkQ, frz_us, Nat.reduceEqDiff, Nat.reduceLT, Nat.reduceAdd, ↓reduceIte, reduceCtorEq, Nat.reduceLeDiff, X, I, cS, nbiAdd] | (refine callC_pure (s2) rfl ?_) | exact W_ret (RetP_1 (.imm rfl)) | exact W_ret (RetP_c rfl rfl rfl (.imm rfl)))
    · rw [add_right h hle] at s3
      rw [decide_eq_false hle] at cd
      repeat (first | (refine W_seq ?_) | (refine W_reg ?_) | (refine W_regd ?_) | (refine W_block ?_) | (refine And.intro (by omega) ?_) | simp (config := {maxSteps := 1000000}) (disch := omega) only [cA, cB, lk, lkH, Dst.onT, Dst.onX, Dst.slot, setF, setH, mapF, mapH, initF, binE, unE, cnt, boundE, newsE, freshE, opE, rmH, blkQ, frz_us, Nat.reduceEqDiff, Nat.reduceLT, Nat.reduceAdd, ↓reduceIte, reduceCtorEq, Nat.reduceLeDiff, X, I, cS, nbiAdd, hb] | (refine callC_pure (cv) rfl ?_) | (refine callC_pure (cw) rfl ?_) | exact W_ret (RetP_1 (.imm rfl)) | exact W_ret (RetP_c rfl rfl rfl (.imm rfl)))
      refine W_cond rfl (fun h => by cases h) (fun _ => W_skip ?_)
      repeat (first | (refine W_seq ?_) | (refine W_reg ?_) | (refine W_regd ?_) | (refine W_block ?_) | (refine And.intro (by omega) ?_) | simp (config := {maxSteps := 1000000}) (disch := omega) only [cA, cB, lk, lkH, Dst.onT, Dst.onX, Dst.slot, setF, setH, mapF, mapH, initF, binE, unE, cnt, boundE, newsE, freshE, opE, rmH, blkQ, frz_us, Nat.reduceEqDiff, Nat.reduceLT, Nat.reduceAdd, ↓reduceIte, reduceCtorEq, Nat.reduceLeDiff, X, I, cS, nbiAdd] | (refine callC_pure (cd) rfl ?_) | exact W_ret (RetP_1 (.imm rfl)) | exact W_ret (RetP_c rfl rfl rfl (.imm rfl)))
      refine W_cond rfl (fun h => by cases h) (fun _ => W_skip ?_)
      repeat (first | (refine W_seq ?_) | (refine W_reg ?_) | (refine W_regd ?_) | (refine W_block ?_) | (refine And.intro (by omega) ?_) | simp (config := {maxSteps := 1000000}) (disch := omega) only [cA, cB, lk, lkH, Dst.onT, Dst.onX, Dst.slot, setF, setH, mapF, mapH, initF, binE, unE, cnt, boundE, newsE, freshE, opE, rmH, blkQ, frz_us, Nat.reduceEqDiff, Nat.reduceLT, Nat.reduceAdd, ↓reduceIte, reduceCtorEq, Nat.reduceLeDiff, X, I, cS, nbiAdd] | (refine callC_pure (ce) rfl ?_) | (refine callC_pure (s3) rfl ?_) | exact W_ret (RetP_1 (.imm rfl)) | exact W_ret (RetP_c rfl rfl rfl (.imm rfl)))
theorem iSub_calls (n1 : Bool) (a : List Nat) (n2 : Bool) (b : List Nat) (ha : a.length ≤ 10000) (hb : b.length ≤ 10000) (la : lim a) (lb : lim b) : PCalls Tryd.prog 17 [X n1 a, X n2 b] (I (iv n1 a - iv n2 b)) := by
  have cn := iNeg_calls n2 b hb lb
  have l2 := iv_len lb n2
  have ca := iAdd_calls n1 a (decide (-(iv n2 b) < 0)) (limbs (-(iv n2 b)).natAbs) ha (by rw [Int.natAbs_neg]; omega) la (lim_limbs _)
  rw [iv_I, ← Int.sub_eq_add_neg] at ca
  refine PCalls_of isiSub (by simp [fniSub]) ?_
  unfold codeiSub
  repeat (first | (refine W_seq ?_) | (refine W_reg ?_) | (refine W_regd ?_) | (refine W_block ?_) | (refine And.intro (by omega) ?_) | simp (config := {maxSteps := 1000000}) (disch := omega) only [cA, cB, lk, lkH, Dst.onT, Dst.onX, Dst.slot, setF, setH, mapF, mapH, initF, binE, unE, cnt, boundE, newsE, freshE, opE, rmH, blkQ, frz_us, Nat.reduceEqDiff, Nat.reduceLT, Nat.reduceAdd, ↓reduceIte, reduceCtorEq, Nat.reduceLeDiff, X, I, cS, nbiSub] | (refine callC_pure (cn) rfl ?_) | (refine callC_pure (ca) rfl ?_) | exact W_ret (RetP_1 (.imm rfl)) | exact W_ret (RetP_c rfl rfl rfl (.imm rfl)))
theorem iCompare_calls (n1 : Bool) (a : List Nat) (n2 : Bool) (b : List Nat) (ha : a.length ≤ 10000) (hb : b.length ≤ 10000) (la : lim a) (lb : lim b) : PCalls Tryd.prog 27 [X n1 a, X n2 b] (.int .i64 (cmpI (iv n1 a) (iv n2 b))) := by
  have cv := i_value_calls n1 a (by omega) la
  have cw := i_value_calls n2 b (by omega) lb
  have l1 := iv_len la n1
  have l2 := iv_len lb n2
  generalize iv n1 a = x at *
  generalize iv n2 b = y at *
  have c1 := iSign_calls (decide (x < 0)) (limbs x.natAbs) (by omega) (lim_limbs _)
  have c2 := iSign_calls (decide (y < 0)) (limbs y.natAbs) (by omega) (lim_limbs _)
  rw [iv_I] at c1 c2
  have cc := nCmpL x.natAbs y.natAbs (by omega) (by omega)
  have h1 := @sign_lt x y
  have h2 := @sign_gt x y
  have h3 := @sign_eq x y
  refine PCalls_of isiCompare (by simp [fniCompare]) ?_
  unfold codeiCompare
  repeat (first | (refine W_seq ?_) | (refine W_reg ?_) | (refine W_regd ?_) | (refine W_block ?_) | (refine And.intro (by omega) ?_) | simp (config := {maxSteps := 1000000}) (disch := omega) only [cA, cB, lk, lkH, Dst.onT, Dst.onX, Dst.slot, setF, setH, mapF, mapH, initF, binE, unE, cnt, boundE, newsE, freshE, opE, rmH, blkQ, frz_us, Nat.reduceEqDiff, Nat.reduceLT, Nat.reduceAdd, ↓reduceIte, reduceCtorEq, Nat.reduceLeDiff, X, I, cS, nbiCompare] | (refine callC_pure (cv) rfl ?_) | (refine callC_pure (cw) rfl ?_) | (refine callC_pure (c1) rfl ?_) | (refine callC_pure (c2) rfl ?_) | exact W_ret (RetP_1 (.imm rfl)) | exact W_ret (RetP_c rfl rfl rfl (.imm rfl)))
  refine W_cond rfl (fun h => ?_) (fun h => ?_)
  · rw [h1 (of_decide_eq_true h)]
    repeat (first | (refine W_seq ?_) | (refine W_reg ?_) | (refine W_regd ?_) | (refine W_block ?_) | (refine And.intro (by omega) ?_) | simp (config := {maxSteps := 1000000}) (disch := omega) only [cA, cB, lk, lkH, Dst.onT, Dst.onX, Dst.slot, setF, setH, mapF, mapH, initF, binE, unE, cnt, boundE, newsE, freshE, opE, rmH, blkQ, frz_us, Nat.reduceEqDiff, Nat.reduceLT, Nat.reduceAdd, ↓reduceIte, reduceCtorEq, Nat.reduceLeDiff] | (refine callC_pure (cv) rfl ?_) | exact W_ret (RetP_1 (.imm rfl)) | exact W_ret (RetP_c rfl rfl rfl (.imm rfl)))
  · repeat (first | (refine W_seq ?_) | (refine W_reg ?_) | (refine W_regd ?_) | (refine W_block ?_) | (refine And.intro (by omega) ?_) | simp (config := {maxSteps := 1000000}) (disch := omega) only [cA, cB, lk, lkH, Dst.onT, Dst.onX, Dst.slot, setF, setH, mapF, mapH, initF, binE, unE, cnt, boundE, newsE, freshE, opE, rmH, blkQ, frz_us, Nat.reduceEqDiff, Nat.reduceLT, Nat.reduceAdd, ↓reduceIte, reduceCtorEq, Nat.reduceLeDiff] | (refine callC_pure (cv) rfl ?_) | exact W_ret (RetP_1 (.imm rfl)) | exact W_ret (RetP_c rfl rfl rfl (.imm rfl)))
    refine W_cond rfl (fun h' => ?_) (fun h' => W_skip ?_)
    · rw [h2 (of_decide_eq_true h')]
      repeat (first | (refine W_seq ?_) | (refine W_reg ?_) | (refine W_regd ?_) | (refine W_block ?_) | (refine And.intro (by omega) ?_) | simp (config := {maxSteps := 1000000}) (disch := omega) only [cA, cB, lk, lkH, Dst.onT, Dst.onX, Dst.slot, setF, setH, mapF, mapH, initF, binE, unE, cnt, boundE, newsE, freshE, opE, rmH, blkQ, frz_us, Nat.reduceEqDiff, Nat.reduceLT, Nat.reduceAdd, ↓reduceIte, reduceCtorEq, Nat.reduceLeDiff] | (refine callC_pure (cv) rfl ?_) | exact W_ret (RetP_1 (.imm rfl)) | exact W_ret (RetP_c rfl rfl rfl (.imm rfl)))
    · have h4 := h3 (of_decide_eq_false h) (of_decide_eq_false h')
      repeat (first | (refine W_seq ?_) | (refine W_reg ?_) | (refine W_regd ?_) | (refine W_block ?_) | (refine And.intro (by omega) ?_) | simp (config := {maxSteps := 1000000}) (disch := omega) only [cA, cB, lk, lkH, Dst.onT, Dst.onX, Dst.slot, setF, setH, mapF, mapH, initF, binE, unE, cnt, boundE, newsE, freshE, opE, rmH, blkQ, frz_us, Nat.reduceEqDiff, Nat.reduceLT, Nat.reduceAdd, ↓reduceIte, reduceCtorEq, Nat.reduceLeDiff, X, I, cS, nbiCompare, h4] | (refine callC_pure (cc) rfl ?_) | exact W_ret (RetP_1 (.imm rfl)) | exact W_ret (RetP_c rfl rfl rfl (.imm rfl)))
end Go.Proofs.YtakchfljhihdmaaDoor
