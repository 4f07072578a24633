/- Lemmas of the walk; no conditions beyond those that each states. -/
import Derived.Shelf.Strings.Builder1
import Derived.Shelf.Strings.Builder2
import Derived.Shelf.Strings.OnBuilder
import Derived.Shelf.Small.Bits
import Derived.Shelf.Strings.BuilderF
import Derived.Shelf.Strings.BuilderK
import Derived.Shelf.Strings.Builder2Cap
import Derived.Shelf.Strconv.Itoa0
import Derived.Shelf.Strconv.Itoa1
import Derived.Shelf.LaysM
import Derived.Shelf.Strconv.Itoa2
import Derived.Shelf.Strconv.Itoa3
import Derived.Shelf.Strings.Prefix
import Derived.Shelf.Bits.Mul64
import Derived.Shelf.Strings.Repeat
import Derived.Shelf.Strings.BuilderCap
import Derived.Ground.Names2Prog
import Derived.Shelf.Slices.ReverseS
import Derived.Shelf.Slices.Cells
import Derived.Test.YtecilkmigjbfoaaDoorProg
import Derived.Test.YtecilkmigjbfoaaDoorT1
import Derived.Test.YtecilkmigjbfoaaDoorN1
import Derived.Test.YtecilkmigjbfoaaDoorC1
import Derived.Test.YtecilkmigjbfoaaDoorD2
set_option linter.unusedSimpArgs false
set_option linter.unusedVariables false
set_option linter.unnecessarySimpa false
namespace Go.Proofs.YtecilkmigjbfoaaDoor
open Go Go.Dat Go.Proofs Nat32

theorem rTimes_calls (x v b : Nat) (ha : (limbs x).length ≤ 100000) (hv : v < 4294967296) (hb : b ≤ 100000) : PCalls Tryd.prog 19 [.sl 1 (us (limbs x)), .int .u32 v, .int .i64 b] (.sl 1 (us (limbs (4294967296 ^ b * (x * v))))) := by
  refine PCalls_of isrTimes (by simp [fnrTimes]) ?_
  unfold coderTimes
  have laX := lim_limbs x
  refine W_seq (W_reg ?_)
  simp (config := {maxSteps := 1000000}) (disch := omega) only [cA, cB, lk, lkH, Dst.onT, Dst.onX, Dst.slot, setF, setH, mapF, mapH, initF, binE, unE, cnt, boundE, newsE, freshE, opE, rmH, blkQ, frz_us, Nat.reduceEqDiff, Nat.reduceLT, Nat.reduceAdd, ↓reduceIte, reduceCtorEq, Nat.reduceLeDiff]
  repeat refine ⟨by omega, ?_⟩
  refine W_seq (W_reg ?_)
  simp (config := {maxSteps := 1000000}) (disch := omega) only [cA, cB, lk, lkH, Dst.onT, Dst.onX, Dst.slot, setF, setH, mapF, mapH, initF, binE, unE, cnt, boundE, newsE, freshE, opE, rmH, blkQ, frz_us, Nat.reduceEqDiff, Nat.reduceLT, Nat.reduceAdd, ↓reduceIte, reduceCtorEq, Nat.reduceLeDiff, us_rep, nbrTimes]
  repeat refine ⟨by omega, ?_⟩
  refine W_seq (W_reg ?_)
  simp (config := {maxSteps := 1000000}) (disch := omega) only [cA, cB, lk, lkH, Dst.onT, Dst.onX, Dst.slot, setF, setH, mapF, mapH, initF, binE, unE, cnt, boundE, newsE, freshE, opE, rmH, blkQ, frz_us, Nat.reduceEqDiff, Nat.reduceLT, Nat.reduceAdd, ↓reduceIte, reduceCtorEq, Nat.reduceLeDiff]
  repeat refine ⟨by omega, ?_⟩
  refine W_seq (W_seq (W_reg ?_))
  simp (config := {maxSteps := 1000000}) (disch := omega) only [cA, cB, lk, lkH, Dst.onT, Dst.onX, Dst.slot, setF, setH, mapF, mapH, initF, binE, unE, cnt, boundE, newsE, freshE, opE, rmH, blkQ, frz_us, Nat.reduceEqDiff, Nat.reduceLT, Nat.reduceAdd, ↓reduceIte, reduceCtorEq, Nat.reduceLeDiff]
  repeat refine ⟨by omega, ?_⟩
  refine W_block (W_loop (σ := List Nat × Nat) (fun s => [(0, .sl 1 (us (limbs x))), (1, .int .u32 v), (7, .osl 1 12 0 (b + s.1.length)), (8, .int .u64 s.2), (9, .int .i64 s.1.length)])
    (fun s => [(12, us (List.replicate b 0 ++ s.1))])
    (fun s => s.1.length ≤ (limbs x).length + 1 ∧ lim s.1 ∧ s.2 < 4294967296 ∧ nv s.1 + 4294967296 ^ s.1.length * s.2 = nv ((limbs x).take s.1.length) * v)
    (fun s => (limbs x).length + 1 - s.1.length) ([], 0) ⟨Nat.zero_le _, lim_nil, by decide, by simp [nv]⟩ ?_ ?_ ?_)
  · simp [subF, lk]
  · simp
  · rintro ⟨q, c⟩ ⟨hn, hlq, hc, hnv⟩
    simp only at hn hlq hc hnv ⊢
    refine W_seq (W_seq (W_reg ?_))
    simp (config := {maxSteps := 1000000}) (disch := omega) only [cA, cB, lk, lkH, Dst.onT, Dst.onX, Dst.slot, setF, setH, mapF, mapH, initF, binE, unE, cnt, boundE, newsE, freshE, opE, rmH, blkQ, frz_us, Nat.reduceEqDiff, Nat.reduceLT, Nat.reduceAdd, ↓reduceIte, reduceCtorEq, Nat.reduceLeDiff, us_length]
    repeat refine ⟨by omega, ?_⟩
    refine W_cond rfl (fun hcd => W_skip ?_) (fun hcd => W_exit ?_)
    · have hlt := of_decide_eq_true hcd
      have hxn := lim_getD laX q.length
      have cx := rLimb_calls (limbs x) q.length (by omega) laX
      have hsum := mul_step (a := (limbs x).getD q.length 0) hnv
      rw [← nv_take_succ', ← Nat.pow_succ] at hsum
      have hcl := mul_div_lt hxn hv hc
      simp (config := {maxSteps := 1000000}) (disch := omega) only [cA, cB, lk, lkH, Dst.onT, Dst.onX, Dst.slot, setF, setH, mapF, mapH, initF, binE, unE, cnt, boundE, newsE, freshE, opE, rmH, blkQ, frz_us, Nat.reduceEqDiff, Nat.reduceLT, Nat.reduceAdd, ↓reduceIte, reduceCtorEq, Nat.reduceLeDiff]
      repeat refine ⟨by omega, ?_⟩
      refine W_seq (W_block (W_seq (W_reg ?_)))
      simp (config := {maxSteps := 1000000}) (disch := omega) only [cA, cB, lk, lkH, Dst.onT, Dst.onX, Dst.slot, setF, setH, mapF, mapH, initF, binE, unE, cnt, boundE, newsE, freshE, opE, rmH, blkQ, frz_us, Nat.reduceEqDiff, Nat.reduceLT, Nat.reduceAdd, ↓reduceIte, reduceCtorEq, Nat.reduceLeDiff]
      repeat refine ⟨by omega, ?_⟩
      refine callC_pure cx rfl ?_
      generalize (limbs x).getD q.length 0 = xn at *
      simp (config := {maxSteps := 1000000}) (disch := omega) only [cA, cB, lk, lkH, Dst.onT, Dst.onX, Dst.slot, setF, setH, mapF, mapH, initF, binE, unE, cnt, boundE, newsE, freshE, opE, rmH, blkQ, frz_us, Nat.reduceEqDiff, Nat.reduceLT, Nat.reduceAdd, ↓reduceIte, reduceCtorEq, Nat.reduceLeDiff, mul_w, mul_w2]
      repeat refine ⟨by omega, ?_⟩
      rw [show ((xn : Int) * (v : Int) + (c : Int)) = ((xn * v + c : Nat) : Int) by simp]
      refine W_reg ?_
      have hsm : xn * v + c < 18446744073709551616 := by
        have := mul_le hxn hv
        omega
      generalize xn * v + c = s at *
      have hlen : (List.replicate b 0 ++ q).length = b + q.length := by simp
      have hap : List.replicate b 0 ++ q ++ [s % 4294967296] = List.replicate b 0 ++ (q ++ [s % 4294967296]) := by simp
      simp (config := {maxSteps := 1000000}) (disch := omega) only [cA, cB, lk, lkH, Dst.onT, Dst.onX, Dst.slot, setF, setH, mapF, mapH, initF, binE, unE, cnt, boundE, newsE, freshE, opE, rmH, blkQ, frz_us, Nat.reduceEqDiff, Nat.reduceLT, Nat.reduceAdd, ↓reduceIte, reduceCtorEq, Nat.reduceLeDiff, wu32', mod32, rf1, one1, newsE, shr32u64, us_length, us_snoc, us_purge, hlen, hap]
      repeat refine ⟨by omega, ?_⟩
      refine W_reg ?_
      simp (config := {maxSteps := 1000000}) (disch := omega) only [cA, cB, lk, lkH, Dst.onT, Dst.onX, Dst.slot, setF, setH, mapF, mapH, initF, binE, unE, cnt, boundE, newsE, freshE, opE, rmH, blkQ, frz_us, Nat.reduceEqDiff, Nat.reduceLT, Nat.reduceAdd, ↓reduceIte, reduceCtorEq, Nat.reduceLeDiff]
      have hql : (q ++ [s % 4294967296]).length = q.length + 1 := by simp
      refine ⟨(q ++ [s % 4294967296], s / 4294967296), ⟨by simp only; omega, ?_, hcl, ?_⟩, by simp only; omega, by simp [subF, lk, Nat.add_assoc], by simp⟩
      · intro z hz
        rcases List.mem_append.1 hz with h | h
        · exact hlq z h
        · rw [List.mem_singleton.1 h]; omega
      · simp only [hql]
        rw [nv_app]
        simp only [nv, Nat.mul_zero, Nat.add_zero]
        exact hsum
    · have hge := of_decide_eq_false hcd
      have hl : q.length = (limbs x).length + 1 := by omega
      rw [List.take_of_length_le (by omega), nv_limbs, hl] at hnv
      have hxl : x < 4294967296 ^ (limbs x).length := limbs_len.1 (Nat.le_refl _)
      have hc0 : c = 0 := c_zero (by rw [hnv]; exact mul_lt_pow hxl hv)
      subst hc0
      rw [Nat.mul_zero, Nat.add_zero] at hnv
      have hlim : lim (List.replicate b 0 ++ q) := by
        intro z hz
        rcases List.mem_append.1 hz with h | h
        · rw [List.eq_of_mem_replicate h]; decide
        · exact hlq z h
      have hlen : b + q.length = (List.replicate b 0 ++ q).length := by simp
      have ct := rTrim_calls (List.replicate b 0 ++ q) (by omega) hlim
      rw [nv_rep_app, hnv] at ct
      simp (config := {maxSteps := 1000000}) (disch := omega) only [cA, cB, lk, lkH, Dst.onT, Dst.onX, Dst.slot, setF, setH, mapF, mapH, initF, binE, unE, cnt, boundE, newsE, freshE, opE, rmH, blkQ, frz_us, Nat.reduceEqDiff, Nat.reduceLT, Nat.reduceAdd, ↓reduceIte, reduceCtorEq, Nat.reduceLeDiff]
      repeat refine ⟨by omega, ?_⟩
      refine W_seq (W_reg ?_)
      simp (config := {maxSteps := 1000000}) (disch := omega) only [cA, cB, lk, lkH, Dst.onT, Dst.onX, Dst.slot, setF, setH, mapF, mapH, initF, binE, unE, cnt, boundE, newsE, freshE, opE, rmH, blkQ, frz_us, Nat.reduceEqDiff, Nat.reduceLT, Nat.reduceAdd, ↓reduceIte, reduceCtorEq, Nat.reduceLeDiff]
      repeat refine ⟨by omega, ?_⟩
      refine callC_freeze rfl 12 (cells := us (List.replicate b 0 ++ q)) (by simp [lkH]) (us_rf _) ?_
      simp (config := {maxSteps := 1000000}) (disch := omega) only [cA, cB, lk, lkH, Dst.onT, Dst.onX, Dst.slot, setF, setH, mapF, mapH, initF, binE, unE, cnt, boundE, newsE, freshE, opE, rmH, blkQ, frz_us, Nat.reduceEqDiff, Nat.reduceLT, Nat.reduceAdd, ↓reduceIte, reduceCtorEq, Nat.reduceLeDiff, frz_us hlen]
      refine callC_pure ct rfl ?_
      simp (config := {maxSteps := 1000000}) (disch := omega) only [cA, cB, lk, lkH, Dst.onT, Dst.onX, Dst.slot, setF, setH, mapF, mapH, initF, binE, unE, cnt, boundE, newsE, freshE, opE, rmH, blkQ, frz_us, Nat.reduceEqDiff, Nat.reduceLT, Nat.reduceAdd, ↓reduceIte, reduceCtorEq, Nat.reduceLeDiff]
      exact W_ret (RetP_1 (.imm rfl))

end Go.Proofs.YtecilkmigjbfoaaDoor
namespace Go.Proofs.YtecilkmigjbfoaaDoor
open Go Go.Dat Go.Proofs Nat32

theorem rBit_calls (a : List Nat) (i : Nat) (ha : a.length ≤ 1000000) (la : lim a) (hi : i / 32 < a.length) : PCalls Tryd.prog 47 [.sl 1 (us a), .int .i64 i] (.int .u32 (nv a / 2 ^ i % 2 : Nat)) := by
  have hx := lim_getD la (i / 32)
  have hm : i % 32 < 32 := Nat.mod_lt _ (by decide)
  have hdl := Nat.lt_of_le_of_lt (Nat.div_le_self (a.getD (i / 32) 0) (2 ^ (i % 32))) hx
  rw [← bit_of la i hi]
  refine PCalls_of isrBit (by simp [fnrBit]) ?_
  unfold coderBit
  have hm2 : i % 32 ≤ 31 := by omega
  repeat (first | (refine W_seq ?_) | (refine W_reg ?_) | (refine W_regd ?_) | (refine W_block ?_) | (refine And.intro (by omega) ?_) | simp (config := {maxSteps := 1000000}) (disch := omega) only [cA, cB, lk, lkH, Dst.onT, Dst.onX, Dst.slot, setF, setH, mapF, mapH, initF, binE, unE, cnt, boundE, newsE, freshE, opE, rmH, blkQ, frz_us, Nat.reduceEqDiff, Nat.reduceLT, Nat.reduceAdd, ↓reduceIte, reduceCtorEq, Nat.reduceLeDiff, tdiv32, tmod32, us_length, us_getD])
  generalize a.getD (i / 32) 0 = x at *
  generalize i % 32 = m at *
  repeat (first | (refine W_seq ?_) | (refine W_reg ?_) | (refine W_regd ?_) | (refine W_block ?_) | (refine And.intro (by omega) ?_) | simp (config := {maxSteps := 1000000}) (disch := omega) only [cA, cB, lk, lkH, Dst.onT, Dst.onX, Dst.slot, setF, setH, mapF, mapH, initF, binE, unE, cnt, boundE, newsE, freshE, opE, rmH, blkQ, frz_us, Nat.reduceEqDiff, Nat.reduceLT, Nat.reduceAdd, ↓reduceIte, reduceCtorEq, Nat.reduceLeDiff, shr_w32 _ _ hm2, and_one hdl])
  exact W_ret (RetP_1 (.imm rfl))

theorem vn1 : vn [1] = 1 := by decide
theorem rDouble_calls (x one : Nat) (hx : (limbs x).length ≤ 10000) (h1 : one ≤ 1) : PCalls Tryd.prog 46 [.sl 1 (us (limbs x)), .int .u32 one] (.sl 1 (us (limbs (2 * x + one)))) := by
  have ct := rTimes_calls x 2 0 (by omega) (by decide) (by decide)
  rw [Nat.pow_zero, Nat.one_mul, Nat.mul_comm x] at ct
  have hl := len_double hx
  have hl2 := len_mono (show 2 * x ≤ 2 * x + 1 by omega)
  have ca := rAdd_calls (limbs (2 * x)) [1] (by omega) (by simp) (lim_limbs _) (lim1 (by decide))
  rw [vn_limbs, vn1] at ca
  refine PCalls_of isrDouble (by simp [fnrDouble]) ?_
  unfold coderDouble
  repeat (first | (refine W_seq ?_) | (refine W_reg ?_) | (refine W_regd ?_) | (refine W_block ?_) | (refine And.intro (by omega) ?_) | simp (config := {maxSteps := 1000000}) (disch := omega) only [cA, cB, lk, lkH, Dst.onT, Dst.onX, Dst.slot, setF, setH, mapF, mapH, initF, binE, unE, cnt, boundE, newsE, freshE, opE, rmH, blkQ, frz_us, Nat.reduceEqDiff, Nat.reduceLT, Nat.reduceAdd, ↓reduceIte, reduceCtorEq, Nat.reduceLeDiff])
  refine callC_pure ct rfl ?_
  repeat (first | (refine W_seq ?_) | (refine W_reg ?_) | (refine W_regd ?_) | (refine W_block ?_) | (refine And.intro (by omega) ?_) | simp (config := {maxSteps := 1000000}) (disch := omega) only [cA, cB, lk, lkH, Dst.onT, Dst.onX, Dst.slot, setF, setH, mapF, mapH, initF, binE, unE, cnt, boundE, newsE, freshE, opE, rmH, blkQ, frz_us, Nat.reduceEqDiff, Nat.reduceLT, Nat.reduceAdd, ↓reduceIte, reduceCtorEq, Nat.reduceLeDiff])
  refine W_cond rfl (fun h => ?_) (fun h => W_skip ?_)
  · have h := of_decide_eq_true h
    have : one = 1 := by omega
    subst this
    repeat (first | (refine W_seq ?_) | (refine W_reg ?_) | (refine W_regd ?_) | (refine W_block ?_) | (refine And.intro (by omega) ?_) | simp (config := {maxSteps := 1000000}) (disch := omega) only [cA, cB, lk, lkH, Dst.onT, Dst.onX, Dst.slot, setF, setH, mapF, mapH, initF, binE, unE, cnt, boundE, newsE, freshE, opE, rmH, blkQ, frz_us, Nat.reduceEqDiff, Nat.reduceLT, Nat.reduceAdd, ↓reduceIte, reduceCtorEq, Nat.reduceLeDiff, usrf1])
    refine callC_pure ca rfl ?_
    repeat (first | (refine W_seq ?_) | (refine W_reg ?_) | (refine W_regd ?_) | (refine W_block ?_) | (refine And.intro (by omega) ?_) | simp (config := {maxSteps := 1000000}) (disch := omega) only [cA, cB, lk, lkH, Dst.onT, Dst.onX, Dst.slot, setF, setH, mapF, mapH, initF, binE, unE, cnt, boundE, newsE, freshE, opE, rmH, blkQ, frz_us, Nat.reduceEqDiff, Nat.reduceLT, Nat.reduceAdd, ↓reduceIte, reduceCtorEq, Nat.reduceLeDiff])
    exact W_ret (RetP_1 (.imm rfl))
  · have h := of_decide_eq_false h
    have : one = 0 := by omega
    subst this
    repeat (first | (refine W_seq ?_) | (refine W_reg ?_) | (refine W_regd ?_) | (refine W_block ?_) | (refine And.intro (by omega) ?_) | simp (config := {maxSteps := 1000000}) (disch := omega) only [cA, cB, lk, lkH, Dst.onT, Dst.onX, Dst.slot, setF, setH, mapF, mapH, initF, binE, unE, cnt, boundE, newsE, freshE, opE, rmH, blkQ, frz_us, Nat.reduceEqDiff, Nat.reduceLT, Nat.reduceAdd, ↓reduceIte, reduceCtorEq, Nat.reduceLeDiff])
    exact W_ret (RetP_1 (.imm rfl))

theorem rDiv_calls (a b : List Nat) (ha : a.length ≤ 1000) (hb : b.length ≤ 1000) (la : lim a) (lb : lim b) :
    PCalls Tryd.prog 28 [.sl 1 (us a), .sl 1 (us b)] (.tup [.sl 1 (us (limbs (vn a / vn b))), .sl 1 (us (limbs (dmod (vn a) (vn b)))), .bool (decide (0 < vn b))]) := by
  have l1 := vn_len la
  have l2 := vn_len lb
  have c1 := rTake_calls a (by omega) la
  have c2 := rTake_calls b (by omega) lb
  refine PCalls_of isrDiv (by simp [fnrDiv]) ?_
  unfold coderDiv
  generalize vn a = x at *
  generalize vn b = y at *
  repeat (first | (refine W_seq ?_) | (refine W_reg ?_) | (refine W_regd ?_) | (refine W_block ?_) | (refine And.intro (by omega) ?_) | simp (config := {maxSteps := 1000000}) (disch := omega) only [cA, cB, lk, lkH, Dst.onT, Dst.onX, Dst.slot, setF, setH, mapF, mapH, initF, binE, unE, cnt, boundE, newsE, freshE, opE, rmH, blkQ, frz_us, Nat.reduceEqDiff, Nat.reduceLT, Nat.reduceAdd, ↓reduceIte, reduceCtorEq, Nat.reduceLeDiff])
  refine callC_pure c1 rfl ?_
  repeat (first | (refine W_seq ?_) | (refine W_reg ?_) | (refine W_regd ?_) | (refine W_block ?_) | (refine And.intro (by omega) ?_) | simp (config := {maxSteps := 1000000}) (disch := omega) only [cA, cB, lk, lkH, Dst.onT, Dst.onX, Dst.slot, setF, setH, mapF, mapH, initF, binE, unE, cnt, boundE, newsE, freshE, opE, rmH, blkQ, frz_us, Nat.reduceEqDiff, Nat.reduceLT, Nat.reduceAdd, ↓reduceIte, reduceCtorEq, Nat.reduceLeDiff])
  refine callC_pure c2 rfl ?_
  repeat (first | (refine W_seq ?_) | (refine W_reg ?_) | (refine W_regd ?_) | (refine W_block ?_) | (refine And.intro (by omega) ?_) | simp (config := {maxSteps := 1000000}) (disch := omega) only [cA, cB, lk, lkH, Dst.onT, Dst.onX, Dst.slot, setF, setH, mapF, mapH, initF, binE, unE, cnt, boundE, newsE, freshE, opE, rmH, blkQ, frz_us, Nat.reduceEqDiff, Nat.reduceLT, Nat.reduceAdd, ↓reduceIte, reduceCtorEq, Nat.reduceLeDiff, us_length])
  refine W_cond rfl (fun h => ?_) (fun h => W_skip ?_)
  · have h := of_decide_eq_true h
    have hy : y = 0 := limbs_eq_nil.1 (List.eq_nil_of_length_eq_zero (by omega))
    subst hy
    repeat (first | (refine W_seq ?_) | (refine W_reg ?_) | (refine W_regd ?_) | (refine W_block ?_) | (refine And.intro (by omega) ?_) | simp (config := {maxSteps := 1000000}) (disch := omega) only [cA, cB, lk, lkH, Dst.onT, Dst.onX, Dst.slot, setF, setH, mapF, mapH, initF, binE, unE, cnt, boundE, newsE, freshE, opE, rmH, blkQ, frz_us, Nat.reduceEqDiff, Nat.reduceLT, Nat.reduceAdd, ↓reduceIte, reduceCtorEq, Nat.reduceLeDiff])
    refine W_ret (RetP_3 ?_ ?_ ?_)
    · rw [Nat.div_zero, limbs_zero]; exact .nils 1
    · rw [show dmod x 0 = 0 from rfl, limbs_zero]; exact .nils 1
    · exact .imm rfl
  · have h := of_decide_eq_false h
    have hy : 0 < y := by
      rcases Nat.eq_zero_or_pos y with e | e
      · subst e; rw [limbs_zero] at h; simp at h
      · exact e
    rw [dmod_pos hy, decide_eq_true hy]
    repeat (first | (refine W_seq ?_) | (refine W_reg ?_) | (refine W_regd ?_) | (refine W_block ?_) | (refine And.intro (by omega) ?_) | simp (config := {maxSteps := 1000000}) (disch := omega) only [cA, cB, lk, lkH, Dst.onT, Dst.onX, Dst.slot, setF, setH, mapF, mapH, initF, binE, unE, cnt, boundE, newsE, freshE, opE, rmH, blkQ, frz_us, Nat.reduceEqDiff, Nat.reduceLT, Nat.reduceAdd, ↓reduceIte, reduceCtorEq, Nat.reduceLeDiff, us_length])
    refine W_nil 7 1 (by simp [lk]) (W_nil 8 1 (by simp [lk, setF]) ?_)
    simp (config := {maxSteps := 1000000}) (disch := omega) only [cA, cB, lk, lkH, Dst.onT, Dst.onX, Dst.slot, setF, setH, mapF, mapH, initF, binE, unE, cnt, boundE, newsE, freshE, opE, rmH, blkQ, frz_us, Nat.reduceEqDiff, Nat.reduceLT, Nat.reduceAdd, ↓reduceIte, reduceCtorEq, Nat.reduceLeDiff]
    have hx0 : x / 2 ^ (32 * (limbs x).length) = 0 := Nat.div_eq_of_lt (by rw [← pow32]; exact limbs_len.1 (Nat.le_refl _))
    refine W_loop (σ := Nat × Nat × Nat) (fun z => [(0, .sl 1 (us (limbs x))), (1, .sl 1 (us (limbs y))), (7, .sl 1 (us (limbs z.2.1))), (8, .sl 1 (us (limbs z.2.2))), (9, .int .i64 ((z.1 : Int) - 1))]) (fun _ => [])
      (fun z => z.1 ≤ 32 * (limbs x).length ∧ x / 2 ^ z.1 = z.2.1 * y + z.2.2 ∧ z.2.2 < y) (fun z => z.1) (32 * (limbs x).length, 0, 0) ⟨Nat.le_refl _, by simp [hx0], hy⟩ ?_ rfl ?_
    · simp [subF, lk, limbs_zero, us]
    · rintro ⟨j, q, r⟩ ⟨hj, hinv, hr⟩
      simp only at hj hinv hr ⊢
      have hqx : q ≤ x := by
        have h1 : q ≤ q * y := Nat.le_mul_of_pos_right _ hy
        have h2 := Nat.div_le_self x (2 ^ j)
        omega
      have lq := len_mono hqx
      have lr := len_mono (Nat.le_of_lt hr)
      repeat (first | (refine W_seq ?_) | (refine W_reg ?_) | (refine W_regd ?_) | (refine W_block ?_) | (refine And.intro (by omega) ?_) | simp (config := {maxSteps := 1000000}) (disch := omega) only [cA, cB, lk, lkH, Dst.onT, Dst.onX, Dst.slot, setF, setH, mapF, mapH, initF, binE, unE, cnt, boundE, newsE, freshE, opE, rmH, blkQ, frz_us, Nat.reduceEqDiff, Nat.reduceLT, Nat.reduceAdd, ↓reduceIte, reduceCtorEq, Nat.reduceLeDiff])
      refine W_cond rfl (fun hc => W_skip ?_) (fun hc => W_exit ?_)
      · have hc := of_decide_eq_true hc
        obtain ⟨i, rfl⟩ : ∃ i, j = i + 1 := ⟨j - 1, by omega⟩
        have hs := bit_step x i
        rw [hinv] at hs
        have hb1 : x / 2 ^ i % 2 < 2 := Nat.mod_lt _ (by decide)
        have cb := rBit_calls (limbs x) i (by omega) (lim_limbs x) (by omega)
        rw [nv_limbs] at cb
        generalize hbit : x / 2 ^ i % 2 = bt at *
        have cd := rDouble_calls r bt (by omega) (by omega)
        have lrd : (limbs (2 * r + bt)).length ≤ (limbs y).length + 1 := Nat.le_trans (len_mono (by omega)) (len_double (Nat.le_refl _))
        have cs := rSub_calls (limbs (2 * r + bt)) (limbs y) (by omega) (by omega) (lim_limbs _) (lim_limbs _)
        rw [vn_limbs, vn_limbs] at cs
        have e1 : (((i + 1 : Nat) : Int) - 1) = (i : Int) := by omega
        (replace hs := Hid.mk hs; replace hbit := Hid.mk hbit; replace hinv := Hid.mk hinv)
        repeat (first | (refine W_seq ?_) | (refine W_reg ?_) | (refine W_regd ?_) | (refine W_block ?_) | (refine And.intro (by omega) ?_) | simp (config := {maxSteps := 1000000}) (disch := omega) only [cA, cB, lk, lkH, Dst.onT, Dst.onX, Dst.slot, setF, setH, mapF, mapH, initF, binE, unE, cnt, boundE, newsE, freshE, opE, rmH, blkQ, frz_us, Nat.reduceEqDiff, Nat.reduceLT, Nat.reduceAdd, ↓reduceIte, reduceCtorEq, Nat.reduceLeDiff, e1])
        refine callC_pure cb rfl ?_
        repeat (first | (refine W_seq ?_) | (refine W_reg ?_) | (refine W_regd ?_) | (refine W_block ?_) | (refine And.intro (by omega) ?_) | simp (config := {maxSteps := 1000000}) (disch := omega) only [cA, cB, lk, lkH, Dst.onT, Dst.onX, Dst.slot, setF, setH, mapF, mapH, initF, binE, unE, cnt, boundE, newsE, freshE, opE, rmH, blkQ, frz_us, Nat.reduceEqDiff, Nat.reduceLT, Nat.reduceAdd, ↓reduceIte, reduceCtorEq, Nat.reduceLeDiff])
        refine callC_pure cd rfl ?_
        repeat (first | (refine W_seq ?_) | (refine W_reg ?_) | (refine W_regd ?_) | (refine W_block ?_) | (refine And.intro (by omega) ?_) | simp (config := {maxSteps := 1000000}) (disch := omega) only [cA, cB, lk, lkH, Dst.onT, Dst.onX, Dst.slot, setF, setH, mapF, mapH, initF, binE, unE, cnt, boundE, newsE, freshE, opE, rmH, blkQ, frz_us, Nat.reduceEqDiff, Nat.reduceLT, Nat.reduceAdd, ↓reduceIte, reduceCtorEq, Nat.reduceLeDiff])
        refine callC_pure cs rfl ?_
        repeat (first | (refine W_seq ?_) | (refine W_reg ?_) | (refine W_regd ?_) | (refine W_block ?_) | (refine And.intro (by omega) ?_) | simp (config := {maxSteps := 1000000}) (disch := omega) only [cA, cB, lk, lkH, Dst.onT, Dst.onX, Dst.slot, setF, setH, mapF, mapH, initF, binE, unE, cnt, boundE, newsE, freshE, opE, rmH, blkQ, frz_us, Nat.reduceEqDiff, Nat.reduceLT, Nat.reduceAdd, ↓reduceIte, reduceCtorEq, Nat.reduceLeDiff])
        refine W_cond rfl (fun h2 => ?_) (fun h2 => ?_)
        · have h2 := of_decide_eq_true h2
          have c1' := rDouble_calls q 1 (by omega) (by omega)
          repeat (first | (refine W_seq ?_) | (refine W_reg ?_) | (refine W_regd ?_) | (refine W_block ?_) | (refine And.intro (by omega) ?_) | simp (config := {maxSteps := 1000000}) (disch := omega) only [cA, cB, lk, lkH, Dst.onT, Dst.onX, Dst.slot, setF, setH, mapF, mapH, initF, binE, unE, cnt, boundE, newsE, freshE, opE, rmH, blkQ, frz_us, Nat.reduceEqDiff, Nat.reduceLT, Nat.reduceAdd, ↓reduceIte, reduceCtorEq, Nat.reduceLeDiff])
          refine callC_pure c1' rfl ?_
          repeat (first | (refine W_seq ?_) | (refine W_reg ?_) | (refine W_regd ?_) | (refine W_block ?_) | (refine And.intro (by omega) ?_) | simp (config := {maxSteps := 1000000}) (disch := omega) only [cA, cB, lk, lkH, Dst.onT, Dst.onX, Dst.slot, setF, setH, mapF, mapH, initF, binE, unE, cnt, boundE, newsE, freshE, opE, rmH, blkQ, frz_us, Nat.reduceEqDiff, Nat.reduceLT, Nat.reduceAdd, ↓reduceIte, reduceCtorEq, Nat.reduceLeDiff, e1])
          refine ⟨(i, 2 * q + 1, 2 * r + bt - y), ⟨by simp only; omega, ?_, by simp only; omega⟩, by simp only; omega, by simp [subF, lk]⟩
          simp only
          rw [hs.out, Nat.add_mul, Nat.mul_assoc]; omega
        · have h2 := of_decide_eq_false h2
          have c0' := rDouble_calls q 0 (by omega) (by omega)
          repeat (first | (refine W_seq ?_) | (refine W_reg ?_) | (refine W_regd ?_) | (refine W_block ?_) | (refine And.intro (by omega) ?_) | simp (config := {maxSteps := 1000000}) (disch := omega) only [cA, cB, lk, lkH, Dst.onT, Dst.onX, Dst.slot, setF, setH, mapF, mapH, initF, binE, unE, cnt, boundE, newsE, freshE, opE, rmH, blkQ, frz_us, Nat.reduceEqDiff, Nat.reduceLT, Nat.reduceAdd, ↓reduceIte, reduceCtorEq, Nat.reduceLeDiff])
          refine callC_pure c0' rfl ?_
          repeat (first | (refine W_seq ?_) | (refine W_reg ?_) | (refine W_regd ?_) | (refine W_block ?_) | (refine And.intro (by omega) ?_) | simp (config := {maxSteps := 1000000}) (disch := omega) only [cA, cB, lk, lkH, Dst.onT, Dst.onX, Dst.slot, setF, setH, mapF, mapH, initF, binE, unE, cnt, boundE, newsE, freshE, opE, rmH, blkQ, frz_us, Nat.reduceEqDiff, Nat.reduceLT, Nat.reduceAdd, ↓reduceIte, reduceCtorEq, Nat.reduceLeDiff, e1])
          refine ⟨(i, 2 * q, 2 * r + bt), ⟨by simp only; omega, ?_, by simp only; omega⟩, by simp only; omega, by simp [subF, lk]⟩
          simp only
          rw [hs.out, Nat.mul_assoc]; omega
      · have hc := of_decide_eq_false hc
        have : j = 0 := by omega
        subst this
        rw [Nat.pow_zero, Nat.div_one] at hinv
        obtain ⟨d1, d2⟩ := div_fin hinv hr
        repeat (first | (refine W_seq ?_) | (refine W_reg ?_) | (refine W_regd ?_) | (refine W_block ?_) | (refine And.intro (by omega) ?_) | simp (config := {maxSteps := 1000000}) (disch := omega) only [cA, cB, lk, lkH, Dst.onT, Dst.onX, Dst.slot, setF, setH, mapF, mapH, initF, binE, unE, cnt, boundE, newsE, freshE, opE, rmH, blkQ, frz_us, Nat.reduceEqDiff, Nat.reduceLT, Nat.reduceAdd, ↓reduceIte, reduceCtorEq, Nat.reduceLeDiff])
        rw [← d1, ← d2]
        exact W_ret (RetP_3 (.imm rfl) (.imm rfl) (.imm rfl))
end Go.Proofs.YtecilkmigjbfoaaDoor
namespace Go.Proofs.YtecilkmigjbfoaaDoor
open Go Go.Dat Go.Proofs Nat32

theorem gcd_step (x y : Nat) : Nat.gcd y (x % y) = Nat.gcd x y := by
  rw [Nat.gcd_comm y, ← Nat.gcd_rec, Nat.gcd_comm]
theorem gcd_le {a b n : Nat} (ha : (limbs a).length ≤ n) (hb : (limbs b).length ≤ n) : (limbs (Nat.gcd a b)).length ≤ n := by
  rcases Nat.eq_zero_or_pos a with e | e
  · subst e; rw [Nat.gcd_zero_left]; exact hb
  · exact Nat.le_trans (len_mono (Nat.gcd_le_left b e)) ha
end Go.Proofs.YtecilkmigjbfoaaDoor
namespace Go.Proofs.YtecilkmigjbfoaaDoor
open Go Go.Dat Go.Proofs Nat32

theorem nMul_calls (a b : List Nat) (ha : a.length ≤ 10000) (hb : b.length ≤ 10000) (la : lim a) (lb : lim b) : PCalls Tryd.prog 17 [.sl 1 (us a), .sl 1 (us b)] (.sl 1 (us (limbs (vn a * vn b)))) := by
  have h1 := vn_len la
  have h2 := vn_len lb
  have c1 := nValue_calls a (by omega) la
  have c2 := nValue_calls b (by omega) lb
  refine PCalls_of isnMul (by simp [fnnMul]) ?_
  unfold codenMul
  generalize vn a = x at h1 c1 ⊢
  generalize vn b = y at h2 c2 ⊢
  have laX := lim_limbs x
  have laY := lim_limbs y
  refine W_seq (W_reg ?_)
  simp (config := {maxSteps := 1000000}) (disch := omega) only [cA, cB, lk, lkH, Dst.onT, Dst.onX, Dst.slot, setF, setH, mapF, mapH, initF, binE, unE, cnt, boundE, newsE, freshE, opE, rmH, blkQ, frz_us, Nat.reduceEqDiff, Nat.reduceLT, Nat.reduceAdd, ↓reduceIte, reduceCtorEq, Nat.reduceLeDiff]
  repeat refine ⟨by omega, ?_⟩
  refine W_seq (W_reg ?_)
  simp (config := {maxSteps := 1000000}) (disch := omega) only [cA, cB, lk, lkH, Dst.onT, Dst.onX, Dst.slot, setF, setH, mapF, mapH, initF, binE, unE, cnt, boundE, newsE, freshE, opE, rmH, blkQ, frz_us, Nat.reduceEqDiff, Nat.reduceLT, Nat.reduceAdd, ↓reduceIte, reduceCtorEq, Nat.reduceLeDiff]
  repeat refine ⟨by omega, ?_⟩
  refine callC_pure c1 rfl ?_
  simp (config := {maxSteps := 1000000}) (disch := omega) only [cA, cB, lk, lkH, Dst.onT, Dst.onX, Dst.slot, setF, setH, mapF, mapH, initF, binE, unE, cnt, boundE, newsE, freshE, opE, rmH, blkQ, frz_us, Nat.reduceEqDiff, Nat.reduceLT, Nat.reduceAdd, ↓reduceIte, reduceCtorEq, Nat.reduceLeDiff]
  repeat refine ⟨by omega, ?_⟩
  refine callC_pure c2 rfl ?_
  simp (config := {maxSteps := 1000000}) (disch := omega) only [cA, cB, lk, lkH, Dst.onT, Dst.onX, Dst.slot, setF, setH, mapF, mapH, initF, binE, unE, cnt, boundE, newsE, freshE, opE, rmH, blkQ, frz_us, Nat.reduceEqDiff, Nat.reduceLT, Nat.reduceAdd, ↓reduceIte, reduceCtorEq, Nat.reduceLeDiff]
  repeat refine ⟨by omega, ?_⟩
  refine W_seq (W_reg ?_)
  simp (config := {maxSteps := 1000000}) (disch := omega) only [cA, cB, lk, lkH, Dst.onT, Dst.onX, Dst.slot, setF, setH, mapF, mapH, initF, binE, unE, cnt, boundE, newsE, freshE, opE, rmH, blkQ, frz_us, Nat.reduceEqDiff, Nat.reduceLT, Nat.reduceAdd, ↓reduceIte, reduceCtorEq, Nat.reduceLeDiff, us_length, us_rep, nbnMul, add_nat]
  repeat refine ⟨by omega, ?_⟩
  refine W_seq (W_seq (W_reg ?_))
  simp (config := {maxSteps := 1000000}) (disch := omega) only [cA, cB, lk, lkH, Dst.onT, Dst.onX, Dst.slot, setF, setH, mapF, mapH, initF, binE, unE, cnt, boundE, newsE, freshE, opE, rmH, blkQ, frz_us, Nat.reduceEqDiff, Nat.reduceLT, Nat.reduceAdd, ↓reduceIte, reduceCtorEq, Nat.reduceLeDiff, us_length]
  repeat refine ⟨by omega, ?_⟩
  obtain ⟨N, hN⟩ : ∃ N, N = (limbs x).length + (limbs y).length := ⟨_, rfl⟩
  rw [← hN]
  refine W_block (W_loop (σ := Nat × List Nat) (fun s => [(0, .sl 1 (us (limbs x))), (1, .sl 1 (us (limbs y))), (5, .osl 1 20 0 N), (21, .sl 1 (us (limbs x))), (22, .int .i64 (limbs x).length), (23, .int .i64 s.1)])
    (fun s => [(20, us s.2)])
    (fun s => s.1 ≤ (limbs x).length ∧ s.2.length = N ∧ lim s.2 ∧ nv s.2 = nv ((limbs x).take s.1) * y ∧ ∀ k, s.1 + (limbs y).length ≤ k → s.2.getD k 0 = 0)
    (fun s => (limbs x).length - s.1) (0, List.replicate N 0) ⟨Nat.zero_le _, by simp, ?_, by simp [nv, nv_rep], ?_⟩ ?_ ?_ ?_)
  · intro z hz; rw [List.eq_of_mem_replicate hz]; decide
  · intro k _; simp [List.getD_eq_getElem?_getD, List.getElem?_replicate]; split <;> rfl
  · simp [subF, lk]
  · rfl
  · rintro ⟨i, out⟩ ⟨hi, ho, hlo, hno, hzo⟩
    simp only at hi ho hlo hno hzo ⊢
    refine W_seq (W_reg ?_)
    simp (config := {maxSteps := 1000000}) (disch := omega) only [cA, cB, lk, lkH, Dst.onT, Dst.onX, Dst.slot, setF, setH, mapF, mapH, initF, binE, unE, cnt, boundE, newsE, freshE, opE, rmH, blkQ, frz_us, Nat.reduceEqDiff, Nat.reduceLT, Nat.reduceAdd, ↓reduceIte, reduceCtorEq, Nat.reduceLeDiff]
    repeat refine ⟨by omega, ?_⟩
    refine W_seq (W_cond rfl (fun hcd => W_skip ?_) (fun hcd => W_exit ?_))
    · have hlt := of_decide_eq_true hcd
      have hlt : i < (limbs x).length := by omega
      have hxi := lim_getD laX i
      simp (config := {maxSteps := 1000000}) (disch := omega) only [cA, cB, lk, lkH, Dst.onT, Dst.onX, Dst.slot, setF, setH, mapF, mapH, initF, binE, unE, cnt, boundE, newsE, freshE, opE, rmH, blkQ, frz_us, Nat.reduceEqDiff, Nat.reduceLT, Nat.reduceAdd, ↓reduceIte, reduceCtorEq, Nat.reduceLeDiff]
      repeat refine ⟨by omega, ?_⟩
      refine W_seq (W_block (W_seq (W_reg ?_)))
      simp (config := {maxSteps := 1000000}) (disch := omega) only [cA, cB, lk, lkH, Dst.onT, Dst.onX, Dst.slot, setF, setH, mapF, mapH, initF, binE, unE, cnt, boundE, newsE, freshE, opE, rmH, blkQ, frz_us, Nat.reduceEqDiff, Nat.reduceLT, Nat.reduceAdd, ↓reduceIte, reduceCtorEq, Nat.reduceLeDiff, us_length, us_getD]
      repeat refine ⟨by omega, ?_⟩
      refine W_seq (W_reg ?_)
      simp (config := {maxSteps := 1000000}) (disch := omega) only [cA, cB, lk, lkH, Dst.onT, Dst.onX, Dst.slot, setF, setH, mapF, mapH, initF, binE, unE, cnt, boundE, newsE, freshE, opE, rmH, blkQ, frz_us, Nat.reduceEqDiff, Nat.reduceLT, Nat.reduceAdd, ↓reduceIte, reduceCtorEq, Nat.reduceLeDiff]
      repeat refine ⟨by omega, ?_⟩
      have hts := nv_take_succ' (a := limbs x) i
      generalize hxe : (limbs x).getD i 0 = xi at hxi hts ⊢
      refine W_seq (W_join (ι := Nat × List Nat) (fun s => s.1 < 4294967296 ∧ s.2.length = N ∧ lim s.2 ∧ nv s.2 + 4294967296 ^ (i + (limbs y).length) * s.1 = nv out + 4294967296 ^ i * (xi * y) ∧ ∀ k, i + (limbs y).length ≤ k → s.2.getD k 0 = 0)
        (fun s => [(0, .sl 1 (us (limbs x))), (1, .sl 1 (us (limbs y))), (5, .osl 1 20 0 N), (6, .int .i64 i), (8, .int .u64 s.1), (21, .sl 1 (us (limbs x))), (22, .int .i64 (limbs x).length), (23, .int .i64 i)]) (fun s => [(20, us s.2)]) (W_seq (W_reg ?_)) ?_)
      · simp (config := {maxSteps := 1000000}) (disch := omega) only [cA, cB, lk, lkH, Dst.onT, Dst.onX, Dst.slot, setF, setH, mapF, mapH, initF, binE, unE, cnt, boundE, newsE, freshE, opE, rmH, blkQ, frz_us, Nat.reduceEqDiff, Nat.reduceLT, Nat.reduceAdd, ↓reduceIte, reduceCtorEq, Nat.reduceLeDiff, us_length]
        repeat refine ⟨by omega, ?_⟩
        refine W_block (W_loop (σ := Nat × List Nat × Nat) (fun s => [(0, .sl 1 (us (limbs x))), (1, .sl 1 (us (limbs y))), (5, .osl 1 20 0 N), (6, .int .i64 i), (7, .int .u32 xi), (8, .int .u64 s.2.2), (21, .sl 1 (us (limbs x))), (22, .int .i64 (limbs x).length), (23, .int .i64 i), (28, .sl 1 (us (limbs y))), (29, .int .i64 (limbs y).length), (30, .int .i64 s.1)])
          (fun s => [(20, us s.2.1)])
          (fun s => s.1 ≤ (limbs y).length ∧ s.2.1.length = N ∧ lim s.2.1 ∧ s.2.2 < 4294967296 ∧ nv s.2.1 + 4294967296 ^ (i + s.1) * s.2.2 = nv out + 4294967296 ^ i * (xi * nv ((limbs y).take s.1)) ∧ ∀ k, i + (limbs y).length ≤ k → s.2.1.getD k 0 = 0)
          (fun s => (limbs y).length - s.1) (0, out, 0) ⟨Nat.zero_le _, ho, hlo, by simp only; omega, by simp [nv], hzo⟩ ?_ rfl ?_)
        · simp [subF, lk]
        · rintro ⟨j, q, c⟩ ⟨hj, hq, hlq, hc, hnv, hzq⟩
          simp only at hj hq hlq hc hnv hzq ⊢
          refine W_seq (W_reg ?_)
          simp (config := {maxSteps := 1000000}) (disch := omega) only [cA, cB, lk, lkH, Dst.onT, Dst.onX, Dst.slot, setF, setH, mapF, mapH, initF, binE, unE, cnt, boundE, newsE, freshE, opE, rmH, blkQ, frz_us, Nat.reduceEqDiff, Nat.reduceLT, Nat.reduceAdd, ↓reduceIte, reduceCtorEq, Nat.reduceLeDiff]
          repeat refine ⟨by omega, ?_⟩
          refine W_seq (W_cond rfl (fun hcd2 => W_skip ?_) (fun hcd2 => W_exit ?_))
          · have hlt2 := of_decide_eq_true hcd2
            have hlt2 : j < (limbs y).length := by omega
            have hyj := lim_getD laY j
            have htj := nv_take_succ' (a := limbs y) j
            have hoj := lim_getD hlq (i + j)
            have hidx : (((i : Int) + (j : Int))).toNat = i + j := by omega
            simp (config := {maxSteps := 1000000}) (disch := omega) only [cA, cB, lk, lkH, Dst.onT, Dst.onX, Dst.slot, setF, setH, mapF, mapH, initF, binE, unE, cnt, boundE, newsE, freshE, opE, rmH, blkQ, frz_us, Nat.reduceEqDiff, Nat.reduceLT, Nat.reduceAdd, ↓reduceIte, reduceCtorEq, Nat.reduceLeDiff]
            repeat refine ⟨by omega, ?_⟩
            refine W_seq (W_block (W_seq (W_reg ?_)))
            simp (config := {maxSteps := 1000000}) (disch := omega) only [cA, cB, lk, lkH, Dst.onT, Dst.onX, Dst.slot, setF, setH, mapF, mapH, initF, binE, unE, cnt, boundE, newsE, freshE, opE, rmH, blkQ, frz_us, Nat.reduceEqDiff, Nat.reduceLT, Nat.reduceAdd, ↓reduceIte, reduceCtorEq, Nat.reduceLeDiff, us_length, us_getD]
            repeat refine ⟨by omega, ?_⟩
            generalize (limbs y).getD j 0 = yj at hyj htj ⊢
            refine W_seq (W_reg ?_)
            simp (config := {maxSteps := 1000000}) (disch := omega) only [cA, cB, lk, lkH, Dst.onT, Dst.onX, Dst.slot, setF, setH, mapF, mapH, initF, binE, unE, cnt, boundE, newsE, freshE, opE, rmH, blkQ, frz_us, Nat.reduceEqDiff, Nat.reduceLT, Nat.reduceAdd, ↓reduceIte, reduceCtorEq, Nat.reduceLeDiff, us_length, us_getD, hidx, hq]
            repeat refine ⟨by omega, ?_⟩
            obtain ⟨m1, m2⟩ := mac_w hxi hyj hc hoj
            have hw : IntKind.u64.wrap ((c : Int) + IntKind.u64.wrap (IntKind.u64.wrap ((xi : Int) * (yj : Int)) + ((q.getD (i + j) 0 : Nat) : Int))) = ((xi * yj + q.getD (i + j) 0 + c : Nat) : Int) := by
              rw [mul_w hxi hyj]
              generalize xi * yj = p at m1 ⊢
              generalize q.getD (i + j) 0 = o at m1 ⊢
              rw [wu64 (x := (p : Int) + (o : Int)) (by omega) (by omega), wu64 (by omega) (by omega)]
              omega
            rw [hw]
            have hset := nv_set (l := q) (k := i + j) (v := (xi * yj + q.getD (i + j) 0 + c) % 4294967296) (by omega)
            have hstep := mac_step hnv hset rfl
            generalize xi * yj + q.getD (i + j) 0 + c = t at m1 m2 hset hstep ⊢
            have halg : 4294967296 ^ (i + j) * (xi * yj) = 4294967296 ^ i * (xi * (4294967296 ^ j * yj)) := by
              rw [Nat.pow_add, Nat.mul_assoc, ← Nat.mul_assoc (4294967296 ^ j) xi yj, Nat.mul_comm (4294967296 ^ j) xi, Nat.mul_assoc xi]
            have hfin : nv (q.set (i + j) (t % 4294967296)) + 4294967296 ^ (i + (j + 1)) * (t / 4294967296) = nv out + 4294967296 ^ i * (xi * nv ((limbs y).take (j + 1))) := by
              rw [htj, Nat.mul_add, Nat.mul_add, ← halg, ← Nat.add_assoc (nv out), ← hstep, show i + (j + 1) = i + j + 1 from rfl, Nat.pow_succ]
            refine W_seq (W_reg ?_)
            simp (config := {maxSteps := 1000000}) (disch := omega) only [cA, cB, lk, lkH, Dst.onT, Dst.onX, Dst.slot, setF, setH, mapF, mapH, initF, binE, unE, cnt, boundE, newsE, freshE, opE, rmH, blkQ, frz_us, Nat.reduceEqDiff, Nat.reduceLT, Nat.reduceAdd, ↓reduceIte, reduceCtorEq, Nat.reduceLeDiff, us_length, hidx, hq, us_set, wu32', mod32]
            repeat refine ⟨by omega, ?_⟩
            refine W_reg ?_
            simp (config := {maxSteps := 1000000}) (disch := omega) only [cA, cB, lk, lkH, Dst.onT, Dst.onX, Dst.slot, setF, setH, mapF, mapH, initF, binE, unE, cnt, boundE, newsE, freshE, opE, rmH, blkQ, frz_us, Nat.reduceEqDiff, Nat.reduceLT, Nat.reduceAdd, ↓reduceIte, reduceCtorEq, Nat.reduceLeDiff, shr32u64]
            repeat refine ⟨by omega, ?_⟩
            refine W_reg ?_
            simp (config := {maxSteps := 1000000}) (disch := omega) only [cA, cB, lk, lkH, Dst.onT, Dst.onX, Dst.slot, setF, setH, mapF, mapH, initF, binE, unE, cnt, boundE, newsE, freshE, opE, rmH, blkQ, frz_us, Nat.reduceEqDiff, Nat.reduceLT, Nat.reduceAdd, ↓reduceIte, reduceCtorEq, Nat.reduceLeDiff]
            refine ⟨(j + 1, q.set (i + j) (t % 4294967296), t / 4294967296), ⟨by simp only; omega, by simp [hq], lim_set hlq (by omega), m2, hfin, ?_⟩, by simp only; omega, by simp [subF, lk], rfl⟩
            intro k hk
            simp only
            rw [getD_set_ne' (by omega)]
            exact hzq k hk
          · have hge2 := of_decide_eq_false hcd2
            have hjl : j = (limbs y).length := by omega
            subst hjl
            rw [List.take_of_length_le (Nat.le_refl _), nv_limbs] at hnv
            simp (config := {maxSteps := 1000000}) (disch := omega) only [cA, cB, lk, lkH, Dst.onT, Dst.onX, Dst.slot, setF, setH, mapF, mapH, initF, binE, unE, cnt, boundE, newsE, freshE, opE, rmH, blkQ, frz_us, Nat.reduceEqDiff, Nat.reduceLT, Nat.reduceAdd, ↓reduceIte, reduceCtorEq, Nat.reduceLeDiff]
            exact ⟨(c, q), ⟨hc, hq, hlq, hnv, hzq⟩, by simp [subF, lk], rfl⟩
      · rintro ⟨c, q⟩ ⟨hc, hq, hlq, hnv, hzq⟩
        simp only at hc hq hlq hnv hzq ⊢
        have hidx : ((((i : Int) + ((limbs y).length : Int)))).toNat = i + (limbs y).length := by omega
        have hset := nv_set (l := q) (k := i + (limbs y).length) (v := c) (by omega)
        rw [hzq _ (Nat.le_refl _), Nat.mul_zero, Nat.add_zero] at hset
        have hcm : c % 4294967296 = c := Nat.mod_eq_of_lt hc
        refine W_reg ?_
        simp (config := {maxSteps := 1000000}) (disch := omega) only [cA, cB, lk, lkH, Dst.onT, Dst.onX, Dst.slot, setF, setH, mapF, mapH, initF, binE, unE, cnt, boundE, newsE, freshE, opE, rmH, blkQ, frz_us, Nat.reduceEqDiff, Nat.reduceLT, Nat.reduceAdd, ↓reduceIte, reduceCtorEq, Nat.reduceLeDiff, us_length, hidx, hq, us_set, wu32', mod32, hcm]
        repeat refine ⟨by omega, ?_⟩
        refine W_reg ?_
        simp (config := {maxSteps := 1000000}) (disch := omega) only [cA, cB, lk, lkH, Dst.onT, Dst.onX, Dst.slot, setF, setH, mapF, mapH, initF, binE, unE, cnt, boundE, newsE, freshE, opE, rmH, blkQ, frz_us, Nat.reduceEqDiff, Nat.reduceLT, Nat.reduceAdd, ↓reduceIte, reduceCtorEq, Nat.reduceLeDiff]
        refine ⟨(i + 1, q.set (i + (limbs y).length) c), ⟨by simp only; omega, by simp [hq], lim_set hlq hc, ?_, ?_⟩, by simp only; omega, by simp [subF, lk], rfl⟩
        · simp only
          rw [hset, hnv, hno, hts, Nat.add_mul, Nat.mul_assoc]
        · intro k hk
          simp only at hk ⊢
          rw [getD_set_ne' (by omega)]
          exact hzq k (by omega)
    · have hge := of_decide_eq_false hcd
      have hil : i = (limbs x).length := by omega
      subst hil
      rw [List.take_of_length_le (Nat.le_refl _), nv_limbs] at hno
      have ct := nTrim_calls out (by omega) hlo
      rw [hno] at ct
      simp (config := {maxSteps := 1000000}) (disch := omega) only [cA, cB, lk, lkH, Dst.onT, Dst.onX, Dst.slot, setF, setH, mapF, mapH, initF, binE, unE, cnt, boundE, newsE, freshE, opE, rmH, blkQ, frz_us, Nat.reduceEqDiff, Nat.reduceLT, Nat.reduceAdd, ↓reduceIte, reduceCtorEq, Nat.reduceLeDiff]
      repeat refine ⟨by omega, ?_⟩
      refine W_seq (W_reg ?_)
      simp (config := {maxSteps := 1000000}) (disch := omega) only [cA, cB, lk, lkH, Dst.onT, Dst.onX, Dst.slot, setF, setH, mapF, mapH, initF, binE, unE, cnt, boundE, newsE, freshE, opE, rmH, blkQ, frz_us, Nat.reduceEqDiff, Nat.reduceLT, Nat.reduceAdd, ↓reduceIte, reduceCtorEq, Nat.reduceLeDiff]
      repeat refine ⟨by omega, ?_⟩
      refine callC_freeze rfl 20 (cells := us out) (by simp [lkH]) (us_rf _) ?_
      simp (config := {maxSteps := 1000000}) (disch := omega) only [cA, cB, lk, lkH, Dst.onT, Dst.onX, Dst.slot, setF, setH, mapF, mapH, initF, binE, unE, cnt, boundE, newsE, freshE, opE, rmH, blkQ, frz_us, Nat.reduceEqDiff, Nat.reduceLT, Nat.reduceAdd, ↓reduceIte, reduceCtorEq, Nat.reduceLeDiff, frz_us ho.symm]
      refine callC_pure ct rfl ?_
      simp (config := {maxSteps := 1000000}) (disch := omega) only [cA, cB, lk, lkH, Dst.onT, Dst.onX, Dst.slot, setF, setH, mapF, mapH, initF, binE, unE, cnt, boundE, newsE, freshE, opE, rmH, blkQ, frz_us, Nat.reduceEqDiff, Nat.reduceLT, Nat.reduceAdd, ↓reduceIte, reduceCtorEq, Nat.reduceLeDiff]
      exact W_ret (RetP_1 (.imm rfl))
end Go.Proofs.YtecilkmigjbfoaaDoor
namespace Go.Proofs.YtecilkmigjbfoaaDoor
open Go Go.Dat Go.Proofs Nat32

end Go.Proofs.YtecilkmigjbfoaaDoor
namespace Go.Proofs.YtecilkmigjbfoaaDoor
open Go Go.Dat Go.Proofs Nat32

def fairB (a b c : List Nat) : Bool := decide (a.length ≤ 12) && decide (b.length ≤ 12) && decide (c.length ≤ 12) && vld a && vld b && vld c
end Go.Proofs.YtecilkmigjbfoaaDoor
namespace Go.Proofs.YtecilkmigjbfoaaDoor
open Go Go.Dat Go.Proofs Nat32

theorem fairB_spec {a b c : List Nat} (h : fairB a b c = true) : a.length ≤ 12 ∧ b.length ≤ 12 ∧ c.length ≤ 12 ∧ vld a = true ∧ vld b = true ∧ vld c = true := by
  simp only [fairB, Bool.and_eq_true, decide_eq_true_eq] at h
  exact ⟨h.1.1.1.1.1, h.1.1.1.1.2, h.1.1.1.2, h.1.1.2, h.1.2, h.2⟩
theorem vld_eq {a : List Nat} (la : lim a) (h : vld a = true) : limbs (vn a) = a := by
  rw [vn, val, h, if_pos rfl, limbs_nv la h]
theorem cmp_geq (x y : Nat) : decide (0 ≤ cmpN x y) = decide (y ≤ x) := by
  rw [decide_eq_decide]; unfold cmpN; split
  · omega
  · split <;> omega
theorem cmp_neg (x y : Nat) : IntKind.i64.wrap (0 - cmpN y x) = cmpN x y := by
  unfold cmpN; by_cases h : x < y <;> by_cases h2 : y < x <;> simp [h, h2] <;> first | omega | rfl | decide
theorem cmp_add (x y z : Nat) : cmpN (x + z) (y + z) = cmpN x y := by
  unfold cmpN; simp
end Go.Proofs.YtecilkmigjbfoaaDoor
namespace Go.Proofs.YtecilkmigjbfoaaDoor
open Go Go.Dat Go.Proofs Nat32

theorem len_add {p q m : Nat} (h1 : (limbs p).length ≤ m) (h2 : (limbs q).length ≤ m) : (limbs (p + q)).length ≤ m + 1 := by
  rw [limbs_len] at h1 h2 ⊢
  rw [Nat.pow_succ]; omega
theorem sameL (p q : Nat) (h : p = q) (hl : (limbs p).length ≤ 100000) : PCalls Tryd.prog 11 [.sl 1 (us (limbs p)), .sl 1 (us (limbs q))] (.bool true) := by
  subst h
  have := rSame_calls (limbs p) (limbs p) (by omega) (by omega)
  rwa [decide_eq_true rfl] at this
theorem nAddL (p q : Nat) (h1 : (limbs p).length ≤ 100000) (h2 : (limbs q).length ≤ 100000) : PCalls Tryd.prog 16 [.sl 1 (us (limbs p)), .sl 1 (us (limbs q))] (.sl 1 (us (limbs (p + q)))) := by
  have := nAdd_calls (limbs p) (limbs q) h1 h2 (lim_limbs _) (lim_limbs _)
  rwa [vn_limbs, vn_limbs] at this
theorem nMulL (p q : Nat) (h1 : (limbs p).length ≤ 10000) (h2 : (limbs q).length ≤ 10000) : PCalls Tryd.prog 17 [.sl 1 (us (limbs p)), .sl 1 (us (limbs q))] (.sl 1 (us (limbs (p * q)))) := by
  have := nMul_calls (limbs p) (limbs q) h1 h2 (lim_limbs _) (lim_limbs _)
  rwa [vn_limbs, vn_limbs] at this
theorem nDivL (p q : Nat) (h1 : (limbs p).length ≤ 100000) (h2 : (limbs q).length ≤ 100000) : PCalls Tryd.prog 13 [.sl 1 (us (limbs p)), .sl 1 (us (limbs q))] (.tup [.sl 1 (us (limbs (p / q))), .sl 1 (us (limbs (dmod p q))), .bool (decide (0 < q))]) := by
  have := nDiv_calls (limbs p) (limbs q) h1 h2 (lim_limbs _) (lim_limbs _)
  rwa [vn_limbs, vn_limbs] at this
theorem nCmpL (p q : Nat) (h1 : (limbs p).length ≤ 100000) (h2 : (limbs q).length ≤ 100000) : PCalls Tryd.prog 30 [.sl 1 (us (limbs p)), .sl 1 (us (limbs q))] (.int .i64 (cmpN p q)) := by
  have := nCmp_calls (limbs p) (limbs q) (by omega) (by omega) (lim_limbs _) (lim_limbs _)
  rwa [vn_limbs, vn_limbs] at this
theorem nValidL (p : Nat) (h1 : (limbs p).length ≤ 100000) : PCalls Tryd.prog 37 [.sl 1 (us (limbs p))] (.bool true) := by
  have := nValid_calls (limbs p) (by omega)
  rwa [vld_limbs] at this
theorem ex_limbs {a : List Nat} (la : lim a) (h : vld a = true) : ∃ x, a = limbs x := ⟨vn a, (vld_eq la h).symm⟩
theorem limbs1 : limbs 1 = [1] := limbs_one (by decide) (by decide)
theorem us1L : [DV.int .u32 1] = us (limbs 1) := by rw [limbs1]; rfl
theorem usnilL : us (limbs 0) = [] := by rw [limbs_zero]; rfl

theorem us_rfd (xs : List Nat) : (∀ d ∈ us xs, d.rf = true) = True := by simp [us, u32, DV.rf]

theorem rAddL (p q : Nat) (h1 : (limbs p).length ≤ 100000) (h2 : (limbs q).length ≤ 100000) : PCalls Tryd.prog 18 [.sl 1 (us (limbs p)), .sl 1 (us (limbs q))] (.sl 1 (us (limbs (p + q)))) := by
  have := rAdd_calls (limbs p) (limbs q) h1 h2 (lim_limbs _) (lim_limbs _)
  rwa [vn_limbs, vn_limbs] at this
theorem rDivL (p q : Nat) (h1 : (limbs p).length ≤ 1000) (h2 : (limbs q).length ≤ 1000) : PCalls Tryd.prog 28 [.sl 1 (us (limbs p)), .sl 1 (us (limbs q))] (.tup [.sl 1 (us (limbs (p / q))), .sl 1 (us (limbs (dmod p q))), .bool (decide (0 < q))]) := by
  have := rDiv_calls (limbs p) (limbs q) h1 h2 (lim_limbs _) (lim_limbs _)
  rwa [vn_limbs, vn_limbs] at this
theorem limbs2 : limbs 2 = [2] := limbs_one (by decide) (by decide)
theorem us2L : [DV.int .u32 2] = us (limbs 2) := by rw [limbs2]; rfl
theorem cmp_eq0 (x y : Nat) : decide (cmpN x y = 0) = decide (x = y) := by
  rw [decide_eq_decide]; unfold cmpN
  split
  · constructor
    · intro h; cases h
    · intro h; omega
  · split
    · constructor
      · intro h; cases h
      · intro h; omega
    · constructor
      · intro _; omega
      · intro _; rfl
theorem cmp_le0 (x y : Nat) : decide (cmpN x y ≤ 0) = decide (x ≤ y) := by
  rw [decide_eq_decide]; unfold cmpN
  split
  · constructor
    · intro _; omega
    · intro _; decide
  · split
    · constructor
      · intro h; omega
      · intro h; omega
    · constructor
      · intro _; omega
      · intro _; decide
end Go.Proofs.YtecilkmigjbfoaaDoor
namespace Go.Proofs
open Go.Shelf
def Tryd.lays170_ren : Go.Shelf.Ren := ⟨fun | 170 => 44 | n => n, fun | 70 => 57 | 3 => 3 | 0 => 0 | 72 => 59 | 37 => 36 | 5 => 5 | n => n, fun | n => n⟩
theorem Tryd.lays170 : Go.Proofs.Lays.n170 Tryd.prog Tryd.lays170_ren := {
  mixed := by kernel_rfl
  f170 := Tryd.func44.trans (congrArg some (by kernel_rfl))
  t0 := Tryd.underlying0
  a0 := Tryd.isAgg0
  z0 := Tryd.sizeOf0
  v0 := Tryd.zeroValue0
  t3 := Tryd.underlying3
  a3 := Tryd.isAgg3
  z3 := Tryd.sizeOf3
  v3 := Tryd.zeroValue3
  t37 := Tryd.underlying36
  a37 := Tryd.isAgg36
  z37 := Tryd.sizeOf36
  v37 := Tryd.zeroValue36
  t70 := Tryd.underlying57
  a70 := Tryd.isAgg57
  z70 := Tryd.sizeOf57
  v70 := Tryd.zeroValue57
  t72 := Tryd.underlying59
  a72 := Tryd.isAgg59
  z72 := Tryd.sizeOf59
  v72 := Tryd.zeroValue59 }
open Go.RowKit in
theorem Tryd.Builder_Len (B b : Nat) (bs : List Value) (w : World) (h : Lib.IsBuilder 59 5 B b bs w) :
    Calls Tryd.prog 44 #[.pointer (some ⟨b, 0, none⟩)] w fun e w' => e = .returned (.int .i64 bs.length) ∧ w' = w := Any.Builder_Len Tryd.lays170 B b bs w h
def Tryd.lays169_ren : Go.Shelf.Ren := ⟨fun | 169 => 45 | n => n, fun | 70 => 57 | 9 => 9 | 0 => 0 | 72 => 59 | 37 => 36 | 127 => 78 | 3 => 3 | 5 => 5 | n => n, fun | n => n⟩
theorem Tryd.lays169 : Go.Proofs.Lays.n169 Tryd.prog Tryd.lays169_ren := {
  mixed := by kernel_rfl
  f169 := Tryd.func45.trans (congrArg some (by kernel_rfl))
  t0 := Tryd.underlying0
  a0 := Tryd.isAgg0
  z0 := Tryd.sizeOf0
  v0 := Tryd.zeroValue0
  t3 := Tryd.underlying3
  a3 := Tryd.isAgg3
  z3 := Tryd.sizeOf3
  v3 := Tryd.zeroValue3
  t9 := Tryd.underlying9
  a9 := Tryd.isAgg9
  z9 := Tryd.sizeOf9
  v9 := Tryd.zeroValue9
  t37 := Tryd.underlying36
  a37 := Tryd.isAgg36
  z37 := Tryd.sizeOf36
  v37 := Tryd.zeroValue36
  t70 := Tryd.underlying57
  a70 := Tryd.isAgg57
  z70 := Tryd.sizeOf57
  v70 := Tryd.zeroValue57
  t72 := Tryd.underlying59
  a72 := Tryd.isAgg59
  z72 := Tryd.sizeOf59
  v72 := Tryd.zeroValue59
  t127 := Tryd.underlying78
  a127 := Tryd.isAgg78
  z127 := Tryd.sizeOf78
  v127 := Tryd.zeroValue78 }
theorem Tryd.Builder_Extra_169 : Builder.Extra Tryd.prog Tryd.lays169_ren := {
  sizeBuilder := by kernel_rfl
  liesBuilder := by kernel_rfl
  t5 := Tryd.underlying5
  a5 := Tryd.isAgg5
  z5 := Tryd.sizeOf5
  v5 := Tryd.zeroValue5
  infoByte := by kernel_rfl
  cellsByte := by kernel_rfl
  sizeByte := by kernel_rfl
  neB5 := by decide }
open Go.RowKit in
theorem Tryd.Builder_String (B b : Nat) (l : List UInt8) (w : World) (h : Lib.IsBuilder 59 5 B b (Lib.byteCells l) w) (h0 : l ≠ []) :
    Calls Tryd.prog 45 #[.pointer (some ⟨b, 0, none⟩)] w fun e w' => e = .returned (.string ⟨l.toArray⟩) ∧ Below B w w' := Any.Builder_String Tryd.lays169 Tryd.Builder_Extra_169 B b l w h h0
open Go.RowKit in
theorem Tryd.Builder_String_empty (B b : Nat) (w : World) (h : Lib.IsBuilder 59 5 B b [] w) (hBw : B ≤ w.heap.size) :
    Calls Tryd.prog 45 #[.pointer (some ⟨b, 0, none⟩)] w fun e w' => e = .returned (.string ⟨#[]⟩) ∧ Below B w w' := Any.Builder_String_empty Tryd.lays169 Tryd.Builder_Extra_169 B b w h hBw
open Go.RowKit in
theorem Tryd.Builder_String_any (B b : Nat) (l : List UInt8) (w : World) (h : Lib.IsBuilder 59 5 B b (Lib.byteCells l) w) (hBw : B ≤ w.heap.size) :
    Calls Tryd.prog 45 #[.pointer (some ⟨b, 0, none⟩)] w fun e w' => e = .returned (.string ⟨l.toArray⟩) ∧ Below B w w' := Any.Builder_String_any Tryd.lays169 Tryd.Builder_Extra_169 B b l w h hBw
def Tryd.lays241_ren : Go.Shelf.Ren := ⟨fun | 241 => 59 | 277 => 67 | n => n, fun | 70 => 57 | 3 => 3 | 0 => 0 | 72 => 59 | 37 => 36 | 5 => 5 | n => n, fun | n => n⟩
theorem Tryd.lays241 : Go.Proofs.Lays.n241 Tryd.prog Tryd.lays241_ren := {
  mixed := by kernel_rfl
  f241 := Tryd.func59.trans (congrArg some (by kernel_rfl))
  f277 := Tryd.func67.trans (congrArg some (by kernel_rfl))
  t0 := Tryd.underlying0
  a0 := Tryd.isAgg0
  z0 := Tryd.sizeOf0
  v0 := Tryd.zeroValue0
  t3 := Tryd.underlying3
  a3 := Tryd.isAgg3
  z3 := Tryd.sizeOf3
  v3 := Tryd.zeroValue3
  t37 := Tryd.underlying36
  a37 := Tryd.isAgg36
  z37 := Tryd.sizeOf36
  v37 := Tryd.zeroValue36
  t70 := Tryd.underlying57
  a70 := Tryd.isAgg57
  z70 := Tryd.sizeOf57
  v70 := Tryd.zeroValue57
  t72 := Tryd.underlying59
  a72 := Tryd.isAgg59
  z72 := Tryd.sizeOf59
  v72 := Tryd.zeroValue59 }
theorem Tryd.Builder_Extra_241 : Builder.Extra Tryd.prog Tryd.lays241_ren := {
  sizeBuilder := by kernel_rfl
  liesBuilder := by kernel_rfl
  t5 := Tryd.underlying5
  a5 := Tryd.isAgg5
  z5 := Tryd.sizeOf5
  v5 := Tryd.zeroValue5
  infoByte := by kernel_rfl
  cellsByte := by kernel_rfl
  sizeByte := by kernel_rfl
  neB5 := by decide }
open Go.RowKit in
theorem Tryd.Builder_grow_fresh (B b n : Nat) (w : World) (hB : B ≤ b) (hbk : w.heap[b]? = some (.cells #[.pointer (some ⟨b, 0, none⟩), .slice none 0 0] 59 (0, 0))) (hBw : B ≤ w.heap.size) (hn : n ≤ 281474976710656) :
    Calls Tryd.prog 59 #[.pointer (some ⟨b, 0, none⟩), .int .i64 n] w fun e w' => e = .returned (.tuple #[]) ∧ (Lib.BuilderAt 59 5 B b (.pointer (some ⟨b, 0, none⟩)) [] w' ∧ Below B w w') := Any.Builder_grow_fresh Tryd.lays241 Tryd.Builder_Extra_241 B b n w hB hbk hBw hn
def Tryd.lays165_ren : Go.Shelf.Ren := ⟨fun | 165 => 42 | 240 => 58 | 241 => 59 | 276 => 66 | 277 => 67 | n => n, fun | 70 => 57 | 3 => 3 | 0 => 0 | 4 => 4 | 9 => 9 | 20 => 20 | 72 => 59 | 37 => 36 | 164 => 84 | 5 => 5 | n => n, fun | n => n⟩
theorem Tryd.lays165 : Go.Proofs.Lays.n165 Tryd.prog Tryd.lays165_ren := {
  mixed := by kernel_rfl
  f165 := Tryd.func42.trans (congrArg some (by kernel_rfl))
  f240 := Tryd.func58.trans (congrArg some (by kernel_rfl))
  f241 := Tryd.func59.trans (congrArg some (by kernel_rfl))
  f276 := Tryd.func66.trans (congrArg some (by kernel_rfl))
  f277 := Tryd.func67.trans (congrArg some (by kernel_rfl))
  t0 := Tryd.underlying0
  a0 := Tryd.isAgg0
  z0 := Tryd.sizeOf0
  v0 := Tryd.zeroValue0
  t3 := Tryd.underlying3
  a3 := Tryd.isAgg3
  z3 := Tryd.sizeOf3
  v3 := Tryd.zeroValue3
  t4 := Tryd.underlying4
  a4 := Tryd.isAgg4
  z4 := Tryd.sizeOf4
  v4 := Tryd.zeroValue4
  t9 := Tryd.underlying9
  a9 := Tryd.isAgg9
  z9 := Tryd.sizeOf9
  v9 := Tryd.zeroValue9
  t20 := Tryd.underlying20
  a20 := Tryd.isAgg20
  z20 := Tryd.sizeOf20
  v20 := Tryd.zeroValue20
  t37 := Tryd.underlying36
  a37 := Tryd.isAgg36
  z37 := Tryd.sizeOf36
  v37 := Tryd.zeroValue36
  t70 := Tryd.underlying57
  a70 := Tryd.isAgg57
  z70 := Tryd.sizeOf57
  v70 := Tryd.zeroValue57
  t72 := Tryd.underlying59
  a72 := Tryd.isAgg59
  z72 := Tryd.sizeOf59
  v72 := Tryd.zeroValue59
  t164 := Tryd.underlying84
  a164 := Tryd.isAgg84
  z164 := Tryd.sizeOf84
  v164 := Tryd.zeroValue84 }
theorem Tryd.Builder_Extra_165 : Builder.Extra Tryd.prog Tryd.lays165_ren := {
  sizeBuilder := by kernel_rfl
  liesBuilder := by kernel_rfl
  t5 := Tryd.underlying5
  a5 := Tryd.isAgg5
  z5 := Tryd.sizeOf5
  v5 := Tryd.zeroValue5
  infoByte := by kernel_rfl
  cellsByte := by kernel_rfl
  sizeByte := by kernel_rfl
  neB5 := by decide }
open Go.RowKit in
theorem Tryd.Builder_Grow_fresh (B b n : Nat) (w : World) (hB : B ≤ b) (hbk : w.heap[b]? = some (.cells #[.pointer none, .slice none 0 0] 59 (0, 0))) (hBw : B ≤ w.heap.size) (hn : n ≤ 281474976710656) :
    Calls Tryd.prog 42 #[.pointer (some ⟨b, 0, none⟩), .int .i64 n] w fun e w' => e = .returned (.tuple #[]) ∧ (Lib.BuilderAt 59 5 B b (.pointer (some ⟨b, 0, none⟩)) [] w' ∧ Below B w w') := Any.Builder_Grow_fresh Tryd.lays165 Tryd.Builder_Extra_165 B b n w hB hbk hBw hn
def Tryd.lays156_ren : Go.Shelf.Ren := ⟨fun | 156 => 26 | 165 => 42 | 166 => 43 | 169 => 45 | 240 => 58 | 241 => 59 | 276 => 66 | 277 => 67 | n => n, fun | 31 => 39 | 9 => 9 | 3 => 3 | 4 => 4 | 0 => 0 | 20 => 20 | 72 => 59 | 76 => 63 | 70 => 57 | 37 => 36 | 75 => 62 | 127 => 78 | 164 => 84 | 5 => 5 | 80 => 66 | n => n, fun | n => n⟩
theorem Tryd.lays156 : Go.Proofs.Lays.n156 Tryd.prog Tryd.lays156_ren := {
  mixed := by kernel_rfl
  f156 := Tryd.func26.trans (congrArg some (by kernel_rfl))
  f165 := Tryd.func42.trans (congrArg some (by kernel_rfl))
  f166 := Tryd.func43.trans (congrArg some (by kernel_rfl))
  f169 := Tryd.func45.trans (congrArg some (by kernel_rfl))
  f240 := Tryd.func58.trans (congrArg some (by kernel_rfl))
  f241 := Tryd.func59.trans (congrArg some (by kernel_rfl))
  f276 := Tryd.func66.trans (congrArg some (by kernel_rfl))
  f277 := Tryd.func67.trans (congrArg some (by kernel_rfl))
  t0 := Tryd.underlying0
  a0 := Tryd.isAgg0
  z0 := Tryd.sizeOf0
  v0 := Tryd.zeroValue0
  t3 := Tryd.underlying3
  a3 := Tryd.isAgg3
  z3 := Tryd.sizeOf3
  v3 := Tryd.zeroValue3
  t4 := Tryd.underlying4
  a4 := Tryd.isAgg4
  z4 := Tryd.sizeOf4
  v4 := Tryd.zeroValue4
  t9 := Tryd.underlying9
  a9 := Tryd.isAgg9
  z9 := Tryd.sizeOf9
  v9 := Tryd.zeroValue9
  t20 := Tryd.underlying20
  a20 := Tryd.isAgg20
  z20 := Tryd.sizeOf20
  v20 := Tryd.zeroValue20
  t31 := Tryd.underlying39
  a31 := Tryd.isAgg39
  z31 := Tryd.sizeOf39
  v31 := Tryd.zeroValue39
  t37 := Tryd.underlying36
  a37 := Tryd.isAgg36
  z37 := Tryd.sizeOf36
  v37 := Tryd.zeroValue36
  t70 := Tryd.underlying57
  a70 := Tryd.isAgg57
  z70 := Tryd.sizeOf57
  v70 := Tryd.zeroValue57
  t72 := Tryd.underlying59
  a72 := Tryd.isAgg59
  z72 := Tryd.sizeOf59
  v72 := Tryd.zeroValue59
  t75 := Tryd.underlying62
  a75 := Tryd.isAgg62
  z75 := Tryd.sizeOf62
  v75 := Tryd.zeroValue62
  t76 := Tryd.underlying63
  a76 := Tryd.isAgg63
  z76 := Tryd.sizeOf63
  v76 := Tryd.zeroValue63
  t127 := Tryd.underlying78
  a127 := Tryd.isAgg78
  z127 := Tryd.sizeOf78
  v127 := Tryd.zeroValue78
  t164 := Tryd.underlying84
  a164 := Tryd.isAgg84
  z164 := Tryd.sizeOf84
  v164 := Tryd.zeroValue84 }
theorem Tryd.Builder_Extra_156 : Builder.Extra Tryd.prog Tryd.lays156_ren := {
  sizeBuilder := by kernel_rfl
  liesBuilder := by kernel_rfl
  t5 := Tryd.underlying5
  a5 := Tryd.isAgg5
  z5 := Tryd.sizeOf5
  v5 := Tryd.zeroValue5
  infoByte := by kernel_rfl
  cellsByte := by kernel_rfl
  sizeByte := by kernel_rfl
  neB5 := by decide }
open Go.RowKit in
theorem Tryd.strings_Join_none (a : Option Addr) (c : Nat) (sep : ByteArray) (w : World) :
    Calls Tryd.prog 26 #[.slice a 0 c, .string sep] w fun e w' => e = .returned (.string ⟨#[]⟩) ∧ w' = w := Any.strings_Join_none Tryd.lays156 Tryd.Builder_Extra_156 a c sep w
open Go.RowKit in
theorem Tryd.strings_Join (bk o c : Nat) (xs : List ByteArray) (sep : ByteArray) (w : World) (hcells : ∀ (j : Nat) x, xs[j]? = some x → w.cell? ⟨bk, o + j, none⟩ = some (.string x)) (hbk : bk < w.heap.size) (hN : xs.length ≤ 140737488355328) (hcap : xs.length ≤ c) (hlen : (Lib.join (xs.map (·.data.toList)) sep.data.toList).length ≤ 140737488355328) :
    Calls Tryd.prog 26 #[.slice (some ⟨bk, o, none⟩) xs.length c, .string sep] w fun e w' => e = .returned (.string ⟨(Lib.join (xs.map (·.data.toList)) sep.data.toList).toArray⟩) ∧ Below w.heap.size w w' := Any.strings_Join Tryd.lays156 Tryd.Builder_Extra_156 bk o c xs sep w hcells hbk hN hcap hlen
def Tryd.lays128_ren : Go.Shelf.Ren := ⟨fun | 128 => 53 | n => n, fun | 51 => 32 | 3 => 3 | 4 => 4 | 46 => 50 | 5 => 5 | 9 => 9 | n => n, fun | n => n⟩
theorem Tryd.lays128 : Go.Proofs.Lays.n128 Tryd.prog Tryd.lays128_ren := {
  mixed := by kernel_rfl
  f128 := Tryd.func53.trans (congrArg some (by kernel_rfl))
  t3 := Tryd.underlying3
  a3 := Tryd.isAgg3
  z3 := Tryd.sizeOf3
  v3 := Tryd.zeroValue3
  t4 := Tryd.underlying4
  a4 := Tryd.isAgg4
  z4 := Tryd.sizeOf4
  v4 := Tryd.zeroValue4
  t5 := Tryd.underlying5
  a5 := Tryd.isAgg5
  z5 := Tryd.sizeOf5
  v5 := Tryd.zeroValue5
  t9 := Tryd.underlying9
  a9 := Tryd.isAgg9
  z9 := Tryd.sizeOf9
  v9 := Tryd.zeroValue9
  t46 := Tryd.underlying50
  a46 := Tryd.isAgg50
  z46 := Tryd.sizeOf50
  v46 := Tryd.zeroValue50
  t51 := Tryd.underlying32
  a51 := Tryd.isAgg32
  z51 := Tryd.sizeOf32
  v51 := Tryd.zeroValue32 }
theorem Tryd.bits_Len32 (x : Int) (w : World) (h0 : 0 ≤ x) (h1 : x ≤ 4294967295) :
    Calls Tryd.prog 53 #[.int .u32 x] w fun e w' => e = .returned (.int .i64 (Lib.bitLen x.toNat)) ∧ w' = w := Any.bits_Len32 Tryd.lays128 x w h0 h1
def Tryd.lays133_ren : Go.Shelf.Ren := ⟨fun | 133 => 34 | 128 => 53 | n => n, fun | 51 => 32 | 3 => 3 | 4 => 4 | 46 => 50 | 5 => 5 | 9 => 9 | n => n, fun | n => n⟩
theorem Tryd.lays133 : Go.Proofs.Lays.n133 Tryd.prog Tryd.lays133_ren := {
  mixed := by kernel_rfl
  f128 := Tryd.func53.trans (congrArg some (by kernel_rfl))
  f133 := Tryd.func34.trans (congrArg some (by kernel_rfl))
  t3 := Tryd.underlying3
  a3 := Tryd.isAgg3
  z3 := Tryd.sizeOf3
  v3 := Tryd.zeroValue3
  t4 := Tryd.underlying4
  a4 := Tryd.isAgg4
  z4 := Tryd.sizeOf4
  v4 := Tryd.zeroValue4
  t5 := Tryd.underlying5
  a5 := Tryd.isAgg5
  z5 := Tryd.sizeOf5
  v5 := Tryd.zeroValue5
  t9 := Tryd.underlying9
  a9 := Tryd.isAgg9
  z9 := Tryd.sizeOf9
  v9 := Tryd.zeroValue9
  t46 := Tryd.underlying50
  a46 := Tryd.isAgg50
  z46 := Tryd.sizeOf50
  v46 := Tryd.zeroValue50
  t51 := Tryd.underlying32
  a51 := Tryd.isAgg32
  z51 := Tryd.sizeOf32
  v51 := Tryd.zeroValue32 }
theorem Tryd.bits_LeadingZeros32 (x : Int) (w : World) (h0 : 0 ≤ x) (h1 : x ≤ 4294967295) :
    Calls Tryd.prog 34 #[.int .u32 x] w fun e w' => e = .returned (.int .i64 (32 - (Lib.bitLen x.toNat : Int))) ∧ w' = w := Any.bits_LeadingZeros32 Tryd.lays133 x w h0 h1
open Go.RowKit in
theorem Tryd.Builder_Len_f (B b : Nat) (bs : List Value) (w : World) (h : Lib.IsBuilderF 59 5 B b bs w) :
    Calls Tryd.prog 44 #[.pointer (some ⟨b, 0, none⟩)] w fun e w' => e = .returned (.int .i64 bs.length) ∧ w' = w := Any.Builder_Len_f Tryd.lays170 B b bs w h
open Go.RowKit in
theorem Tryd.Builder_String_f (B b : Nat) (l : List UInt8) (w : World) (h : Lib.IsBuilderF 59 5 B b (Lib.byteCells l) w) (h0 : l ≠ []) :
    Calls Tryd.prog 45 #[.pointer (some ⟨b, 0, none⟩)] w fun e w' => e = .returned (.string ⟨l.toArray⟩) ∧ (Lib.IsBuilderF 59 5 B b (Lib.byteCells l) w' ∧ Below B w w') := Any.Builder_String_f Tryd.lays169 Tryd.Builder_Extra_169 B b l w h h0
open Go.RowKit in
theorem Tryd.Builder_String_empty_f (B b : Nat) (w : World) (h : Lib.IsBuilderF 59 5 B b [] w) (hBw : B ≤ w.heap.size) :
    Calls Tryd.prog 45 #[.pointer (some ⟨b, 0, none⟩)] w fun e w' => e = .returned (.string ⟨#[]⟩) ∧ (Lib.IsBuilderF 59 5 B b [] w' ∧ Below B w w') := Any.Builder_String_empty_f Tryd.lays169 Tryd.Builder_Extra_169 B b w h hBw
open Go.RowKit in
theorem Tryd.Builder_String_any_f (B b : Nat) (l : List UInt8) (w : World) (h : Lib.IsBuilderF 59 5 B b (Lib.byteCells l) w) (hBw : B ≤ w.heap.size) :
    Calls Tryd.prog 45 #[.pointer (some ⟨b, 0, none⟩)] w fun e w' => e = .returned (.string ⟨l.toArray⟩) ∧ (Lib.IsBuilderF 59 5 B b (Lib.byteCells l) w' ∧ Below B w w') := Any.Builder_String_any_f Tryd.lays169 Tryd.Builder_Extra_169 B b l w h hBw
open Go.RowKit in
theorem Tryd.Builder_String_k (B b : Nat) (l : List UInt8) (w : World) (h : Lib.IsBuilderF 59 5 B b (Lib.byteCells l) w) (h0 : l ≠ []) :
    Calls Tryd.prog 45 #[.pointer (some ⟨b, 0, none⟩)] w fun e w' => e = .returned (.string ⟨l.toArray⟩) ∧ (Lib.IsBuilderF 59 5 B b (Lib.byteCells l) w' ∧ Below B w w' ∧ Lib.OthersKept 5 (some b) w w') := Any.Builder_String_k Tryd.lays169 Tryd.Builder_Extra_169 B b l w h h0
open Go.RowKit in
theorem Tryd.Builder_String_empty_k (B b : Nat) (w : World) (h : Lib.IsBuilderF 59 5 B b [] w) (hBw : B ≤ w.heap.size) :
    Calls Tryd.prog 45 #[.pointer (some ⟨b, 0, none⟩)] w fun e w' => e = .returned (.string ⟨#[]⟩) ∧ (Lib.IsBuilderF 59 5 B b [] w' ∧ Below B w w' ∧ Lib.OthersKept 5 (some b) w w') := Any.Builder_String_empty_k Tryd.lays169 Tryd.Builder_Extra_169 B b w h hBw
open Go.RowKit in
theorem Tryd.Builder_String_any_k (B b : Nat) (l : List UInt8) (w : World) (h : Lib.IsBuilderF 59 5 B b (Lib.byteCells l) w) (hBw : B ≤ w.heap.size) :
    Calls Tryd.prog 45 #[.pointer (some ⟨b, 0, none⟩)] w fun e w' => e = .returned (.string ⟨l.toArray⟩) ∧ (Lib.IsBuilderF 59 5 B b (Lib.byteCells l) w' ∧ Below B w w' ∧ Lib.OthersKept 5 (some b) w w') := Any.Builder_String_any_k Tryd.lays169 Tryd.Builder_Extra_169 B b l w h hBw
open Go.RowKit in
theorem Tryd.Builder_grow_fresh_cap (B b n : Nat) (w : World) (hB : B ≤ b) (hbk : w.heap[b]? = some (.cells #[.pointer (some ⟨b, 0, none⟩), .slice none 0 0] 59 (0, 0))) (hBw : B ≤ w.heap.size) (hn : n ≤ 281474976710656) :
    Calls Tryd.prog 59 #[.pointer (some ⟨b, 0, none⟩), .int .i64 n] w fun e w' => e = .returned (.tuple #[]) ∧ (Lib.BuilderAt 59 5 B b (.pointer (some ⟨b, 0, none⟩)) [] w' ∧ Below B w w') ∧ ∃ p cap, w'.cell? ⟨b, 1, none⟩ = some (.slice p 0 cap) ∧ n ≤ cap := Any.Builder_grow_fresh_cap Tryd.lays241 Tryd.Builder_Extra_241 B b n w hB hbk hBw hn
open Go.RowKit in
theorem Tryd.Builder_Grow_fresh_cap (B b n : Nat) (w : World) (hB : B ≤ b) (hbk : w.heap[b]? = some (.cells #[.pointer none, .slice none 0 0] 59 (0, 0))) (hBw : B ≤ w.heap.size) (hn : n ≤ 281474976710656) :
    Calls Tryd.prog 42 #[.pointer (some ⟨b, 0, none⟩), .int .i64 n] w fun e w' => e = .returned (.tuple #[]) ∧ (Lib.BuilderAt 59 5 B b (.pointer (some ⟨b, 0, none⟩)) [] w' ∧ Below B w w') ∧ ∃ p cap, w'.cell? ⟨b, 1, none⟩ = some (.slice p 0 cap) ∧ n ≤ cap := Any.Builder_Grow_fresh_cap Tryd.lays165 Tryd.Builder_Extra_165 B b n w hB hbk hBw hn
def Tryd.lays129_ren : Go.Shelf.Ren := ⟨fun | 129 => 69 | n => n, fun | 53 => 34 | 3 => 3 | 4 => 4 | 46 => 50 | 5 => 5 | 9 => 9 | n => n, fun | n => n⟩
theorem Tryd.lays129 : Go.Proofs.Lays.n129 Tryd.prog Tryd.lays129_ren := {
  mixed := by kernel_rfl
  f129 := Tryd.func69.trans (congrArg some (by kernel_rfl))
  t3 := Tryd.underlying3
  a3 := Tryd.isAgg3
  z3 := Tryd.sizeOf3
  v3 := Tryd.zeroValue3
  t4 := Tryd.underlying4
  a4 := Tryd.isAgg4
  z4 := Tryd.sizeOf4
  v4 := Tryd.zeroValue4
  t5 := Tryd.underlying5
  a5 := Tryd.isAgg5
  z5 := Tryd.sizeOf5
  v5 := Tryd.zeroValue5
  t9 := Tryd.underlying9
  a9 := Tryd.isAgg9
  z9 := Tryd.sizeOf9
  v9 := Tryd.zeroValue9
  t46 := Tryd.underlying50
  a46 := Tryd.isAgg50
  z46 := Tryd.sizeOf50
  v46 := Tryd.zeroValue50
  t53 := Tryd.underlying34
  a53 := Tryd.isAgg34
  z53 := Tryd.sizeOf34
  v53 := Tryd.zeroValue34 }
theorem Tryd.bits_Len64 (x : Int) (w : World) (h0 : 0 ≤ x) (h1 : x ≤ 18446744073709551615) :
    Calls Tryd.prog 69 #[.int .u64 x] w fun e w' => e = .returned (.int .i64 (Lib.bitLen x.toNat)) ∧ w' = w := Any.bits_Len64 Tryd.lays129 x w h0 h1
def Tryd.lays317_ren : Go.Shelf.Ren := ⟨fun | 317 => 68 | n => n, fun | 3 => 3 | 46 => 50 | n => n, fun | n => n⟩
theorem Tryd.lays317 : Go.Proofs.Lays.n317 Tryd.prog Tryd.lays317_ren := {
  mixed := by kernel_rfl
  f317 := Tryd.func68.trans (congrArg some (by kernel_rfl))
  t3 := Tryd.underlying3
  a3 := Tryd.isAgg3
  z3 := Tryd.sizeOf3
  v3 := Tryd.zeroValue3
  t46 := Tryd.underlying50
  a46 := Tryd.isAgg50
  z46 := Tryd.sizeOf50
  v46 := Tryd.zeroValue50 }
open Go.Lib in
theorem Tryd.internal_strconv_log10Pow2 (x : Nat) (h : x ≤ 64) (w : World) :
    Calls Tryd.prog 68 #[.int .i64 x] w fun e w' => e = .returned (.int .i64 (Lib.l10 x)) ∧ w' = w := Any.internal_strconv_log10Pow2 Tryd.lays317 x h w
def Tryd.lays318_ren : Go.Shelf.Ren := ⟨fun | 318 => 70 | n => n, fun | 3 => 3 | 4 => 4 | n => n, fun | n => n⟩
theorem Tryd.lays318 : Go.Proofs.Lays.n318 Tryd.prog Tryd.lays318_ren := {
  mixed := by kernel_rfl
  f318 := Tryd.func70.trans (congrArg some (by kernel_rfl))
  t3 := Tryd.underlying3
  a3 := Tryd.isAgg3
  z3 := Tryd.sizeOf3
  v3 := Tryd.zeroValue3
  t4 := Tryd.underlying4
  a4 := Tryd.isAgg4
  z4 := Tryd.sizeOf4
  v4 := Tryd.zeroValue4 }
open Go.Lib in
theorem Tryd.internal_strconv_bool2_int (b : Bool) (w : World) :
    Calls Tryd.prog 70 #[.bool b] w fun e w' => e = .returned (.int .i64 (if b then 1 else 0)) ∧ w' = w := Any.internal_strconv_bool2_int Tryd.lays318 b w
def Tryd.lays283_ren : Go.Shelf.Ren := ⟨fun | 283 => 62 | n => n, fun | 3 => 3 | 9 => 9 | 4 => 4 | n => n, fun | n => n⟩
theorem Tryd.lays283 : Go.Proofs.Lays.n283 Tryd.prog Tryd.lays283_ren := {
  mixed := by kernel_rfl
  f283 := Tryd.func62.trans (congrArg some (by kernel_rfl))
  t3 := Tryd.underlying3
  a3 := Tryd.isAgg3
  z3 := Tryd.sizeOf3
  v3 := Tryd.zeroValue3
  t4 := Tryd.underlying4
  a4 := Tryd.isAgg4
  z4 := Tryd.sizeOf4
  v4 := Tryd.zeroValue4
  t9 := Tryd.underlying9
  a9 := Tryd.isAgg9
  z9 := Tryd.sizeOf9
  v9 := Tryd.zeroValue9 }
open Go.Lib in
theorem Tryd.internal_strconv_small (i : Nat) (h : i < 100) (w : World) :
    Calls Tryd.prog 62 #[.int .i64 i] w fun e w' => e = .returned (.string ⟨(Lib.decDigits i).toArray⟩) ∧ w' = w := Any.internal_strconv_small Tryd.lays283 i h w
def Tryd.laysM284_ren : Go.Shelf.Ren := ⟨fun | 284 => 63 | 129 => 69 | 317 => 68 | 318 => 70 | n => n, fun | 53 => 34 | 3 => 3 | 212 => 89 | 0 => 0 | 4 => 4 | 46 => 50 | 5 => 5 | 9 => 9 | n => n, fun | 17 => 1 | n => n⟩
theorem Tryd.laysM284 : Go.Proofs.LaysM.n284 Tryd.prog Tryd.laysM284_ren := {
  mixed := by kernel_rfl
  f129 := Tryd.func69.trans (congrArg some (by kernel_rfl))
  f284 := Tryd.func63.trans (congrArg some (by kernel_rfl))
  f317 := Tryd.func68.trans (congrArg some (by kernel_rfl))
  f318 := Tryd.func70.trans (congrArg some (by kernel_rfl))
  t0 := Tryd.underlying0
  a0 := Tryd.isAgg0
  z0 := Tryd.sizeOf0
  v0 := Tryd.zeroValue0
  t3 := Tryd.underlying3
  a3 := Tryd.isAgg3
  z3 := Tryd.sizeOf3
  v3 := Tryd.zeroValue3
  t4 := Tryd.underlying4
  a4 := Tryd.isAgg4
  z4 := Tryd.sizeOf4
  v4 := Tryd.zeroValue4
  t5 := Tryd.underlying5
  a5 := Tryd.isAgg5
  z5 := Tryd.sizeOf5
  v5 := Tryd.zeroValue5
  t9 := Tryd.underlying9
  a9 := Tryd.isAgg9
  z9 := Tryd.sizeOf9
  v9 := Tryd.zeroValue9
  t46 := Tryd.underlying50
  a46 := Tryd.isAgg50
  z46 := Tryd.sizeOf50
  v46 := Tryd.zeroValue50
  t53 := Tryd.underlying34
  a53 := Tryd.isAgg34
  z53 := Tryd.sizeOf34
  v53 := Tryd.zeroValue34
  t212 := Tryd.underlying89
  a212 := Tryd.isAgg89
  z212 := Tryd.sizeOf89
  v212 := Tryd.zeroValue89
  g17 := by kernel_rfl
  i0 := by kernel_rfl
  i3 := by kernel_rfl
  i4 := by kernel_rfl
  i5 := by kernel_rfl
  i9 := by kernel_rfl
  i46 := by kernel_rfl
  i53 := by kernel_rfl
  i212 := by kernel_rfl
  m17 := by kernel_rfl }
open Go.Lib in
theorem Tryd.internal_strconv_numDigits (u : Nat) (h1 : 1 ≤ u) (h2 : u < 18446744073709551616) (w : World) (htab : Lib.TabIs Tryd.prog w "internal/strconv.uint64pow10" .u64 Lib.pow10Tab) :
    Calls Tryd.prog 63 #[.int .u64 u] w fun e w' => e = .returned (.int .i64 (Lib.nDigits u)) ∧ w' = w := Any.internal_strconv_numDigits Tryd.laysM284 u h1 h2 w htab
def Tryd.lays285_ren : Go.Shelf.Ren := ⟨fun | 285 => 64 | n => n, fun | 37 => 36 | 53 => 34 | 3 => 3 | 4 => 4 | 51 => 32 | 9 => 9 | 5 => 5 | 0 => 0 | n => n, fun | n => n⟩
theorem Tryd.lays285 : Go.Proofs.Lays.n285 Tryd.prog Tryd.lays285_ren := {
  mixed := by kernel_rfl
  f285 := Tryd.func64.trans (congrArg some (by kernel_rfl))
  t0 := Tryd.underlying0
  a0 := Tryd.isAgg0
  z0 := Tryd.sizeOf0
  v0 := Tryd.zeroValue0
  t3 := Tryd.underlying3
  a3 := Tryd.isAgg3
  z3 := Tryd.sizeOf3
  v3 := Tryd.zeroValue3
  t4 := Tryd.underlying4
  a4 := Tryd.isAgg4
  z4 := Tryd.sizeOf4
  v4 := Tryd.zeroValue4
  t5 := Tryd.underlying5
  a5 := Tryd.isAgg5
  z5 := Tryd.sizeOf5
  v5 := Tryd.zeroValue5
  t9 := Tryd.underlying9
  a9 := Tryd.isAgg9
  z9 := Tryd.sizeOf9
  v9 := Tryd.zeroValue9
  t37 := Tryd.underlying36
  a37 := Tryd.isAgg36
  z37 := Tryd.sizeOf36
  v37 := Tryd.zeroValue36
  t51 := Tryd.underlying32
  a51 := Tryd.isAgg32
  z51 := Tryd.sizeOf32
  v51 := Tryd.zeroValue32
  t53 := Tryd.underlying34
  a53 := Tryd.isAgg34
  z53 := Tryd.sizeOf34
  v53 := Tryd.zeroValue34 }
open Go.RowKit Go.Sort Go.Lib in
theorem Tryd.internal_strconv_formatBase10 (blk off cap : Nat) (u : Nat) (d : Array UInt8) (w : World) (hH : Holds (fun (b : UInt8) => Value.int .u8 (b.toNat : Int)) w blk off d) (hu : u < 10 ^ d.size) (hu64 : u < 18446744073709551616) (hsz : d.size < 4611686018427387904) :
    Calls Tryd.prog 64 #[.slice (some ⟨blk, off, none⟩) d.size cap, .int .u64 u] w fun e w' =>
      e = .returned (.tuple #[]) ∧ ∃ (n v' : Nat) (dk : Array UInt8), w' = (putRow (fun (b : UInt8) => Value.int .u8 (b.toNat : Int)) w blk off dk).drewN n ∧ FmtInv d.size u 0 v' dk := Any.internal_strconv_formatBase10 Tryd.lays285 blk off cap u d w hH hu hu64 hsz
def Tryd.laysM246_ren : Go.Shelf.Ren := ⟨fun | 246 => 54 | 283 => 62 | 284 => 63 | 285 => 64 | 286 => 65 | 129 => 69 | 317 => 68 | 318 => 70 | 319 => 71 | 320 => 72 | 337 => 73 | 338 => 74 | n => n, fun | 2 => 2 | 3 => 3 | 9 => 9 | 4 => 4 | 171 => 79 | 0 => 0 | 53 => 34 | 37 => 36 | 5 => 5 | 173 => 82 | 212 => 89 | 51 => 32 | 20 => 20 | 213 => 90 | 46 => 50 | 232 => 93 | 233 => 94 | n => n, fun | 17 => 1 | 18 => 3 | 19 => 4 | n => n⟩
theorem Tryd.laysM246 : Go.Proofs.LaysM.n246 Tryd.prog Tryd.laysM246_ren := {
  mixed := by kernel_rfl
  f129 := Tryd.func69.trans (congrArg some (by kernel_rfl))
  f246 := Tryd.func54.trans (congrArg some (by kernel_rfl))
  f283 := Tryd.func62.trans (congrArg some (by kernel_rfl))
  f284 := Tryd.func63.trans (congrArg some (by kernel_rfl))
  f285 := Tryd.func64.trans (congrArg some (by kernel_rfl))
  f286 := Tryd.func65.trans (congrArg some (by kernel_rfl))
  f317 := Tryd.func68.trans (congrArg some (by kernel_rfl))
  f318 := Tryd.func70.trans (congrArg some (by kernel_rfl))
  f319 := Tryd.func71.trans (congrArg some (by kernel_rfl))
  f320 := Tryd.func72.trans (congrArg some (by kernel_rfl))
  f337 := Tryd.func73.trans (congrArg some (by kernel_rfl))
  f338 := Tryd.func74.trans (congrArg some (by kernel_rfl))
  t0 := Tryd.underlying0
  a0 := Tryd.isAgg0
  z0 := Tryd.sizeOf0
  v0 := Tryd.zeroValue0
  t2 := Tryd.underlying2
  a2 := Tryd.isAgg2
  z2 := Tryd.sizeOf2
  v2 := Tryd.zeroValue2
  t3 := Tryd.underlying3
  a3 := Tryd.isAgg3
  z3 := Tryd.sizeOf3
  v3 := Tryd.zeroValue3
  t4 := Tryd.underlying4
  a4 := Tryd.isAgg4
  z4 := Tryd.sizeOf4
  v4 := Tryd.zeroValue4
  t5 := Tryd.underlying5
  a5 := Tryd.isAgg5
  z5 := Tryd.sizeOf5
  v5 := Tryd.zeroValue5
  t9 := Tryd.underlying9
  a9 := Tryd.isAgg9
  z9 := Tryd.sizeOf9
  v9 := Tryd.zeroValue9
  t20 := Tryd.underlying20
  a20 := Tryd.isAgg20
  z20 := Tryd.sizeOf20
  v20 := Tryd.zeroValue20
  t37 := Tryd.underlying36
  a37 := Tryd.isAgg36
  z37 := Tryd.sizeOf36
  v37 := Tryd.zeroValue36
  t46 := Tryd.underlying50
  a46 := Tryd.isAgg50
  z46 := Tryd.sizeOf50
  v46 := Tryd.zeroValue50
  t51 := Tryd.underlying32
  a51 := Tryd.isAgg32
  z51 := Tryd.sizeOf32
  v51 := Tryd.zeroValue32
  t53 := Tryd.underlying34
  a53 := Tryd.isAgg34
  z53 := Tryd.sizeOf34
  v53 := Tryd.zeroValue34
  t171 := Tryd.underlying79
  a171 := Tryd.isAgg79
  z171 := Tryd.sizeOf79
  v171 := Tryd.zeroValue79
  t173 := Tryd.underlying82
  a173 := Tryd.isAgg82
  z173 := Tryd.sizeOf82
  v173 := Tryd.zeroValue82
  t212 := Tryd.underlying89
  a212 := Tryd.isAgg89
  z212 := Tryd.sizeOf89
  v212 := Tryd.zeroValue89
  t213 := Tryd.underlying90
  a213 := Tryd.isAgg90
  z213 := Tryd.sizeOf90
  t232 := Tryd.underlying93
  a232 := Tryd.isAgg93
  z232 := Tryd.sizeOf93
  v232 := Tryd.zeroValue93
  t233 := Tryd.underlying94
  a233 := Tryd.isAgg94
  z233 := Tryd.sizeOf94
  v233 := Tryd.zeroValue94
  g17 := by kernel_rfl
  g18 := by kernel_rfl
  g19 := by kernel_rfl
  i0 := by kernel_rfl
  i2 := by kernel_rfl
  i3 := by kernel_rfl
  i4 := by kernel_rfl
  i5 := by kernel_rfl
  i9 := by kernel_rfl
  i20 := by kernel_rfl
  i37 := by kernel_rfl
  i46 := by kernel_rfl
  i51 := by kernel_rfl
  i53 := by kernel_rfl
  i171 := by kernel_rfl
  i173 := by kernel_rfl
  i212 := by kernel_rfl
  i232 := by kernel_rfl
  i233 := by kernel_rfl
  m17 := by kernel_rfl
  m18 := by kernel_rfl
  m19 := by kernel_rfl }
open Go.RowKit Go.Sort Go.Lib in
theorem Tryd.internal_strconv_FormatInt_10 (n : Int) (h0 : -9223372036854775808 ≤ n) (h1 : n ≤ 9223372036854775807) (w : World) (htab : Lib.TabIs Tryd.prog w "internal/strconv.uint64pow10" .u64 Lib.pow10Tab) :
    Calls Tryd.prog 54 #[.int .i64 n, .int .i64 10] w fun e w' => e = .returned (.string ⟨(Lib.itoa n).toArray⟩) ∧ ∃ k os, w' = grow (w.drewN k) os := Any.internal_strconv_FormatInt_10 Tryd.laysM246 n h0 h1 w htab
def Tryd.lays246_ren : Go.Shelf.Ren := ⟨fun | 246 => 54 | 283 => 62 | 284 => 63 | 285 => 64 | 286 => 65 | 129 => 69 | 317 => 68 | 318 => 70 | 319 => 71 | 320 => 72 | 337 => 73 | 338 => 74 | n => n, fun | 2 => 2 | 3 => 3 | 9 => 9 | 4 => 4 | 171 => 79 | 0 => 0 | 53 => 34 | 37 => 36 | 5 => 5 | 173 => 82 | 212 => 89 | 51 => 32 | 20 => 20 | 213 => 90 | 46 => 50 | 232 => 93 | 233 => 94 | n => n, fun | 17 => 1 | 18 => 3 | 19 => 4 | n => n⟩
theorem Tryd.lays246 : Go.Proofs.Lays.n246 Tryd.prog Tryd.lays246_ren := {
  mixed := by kernel_rfl
  f129 := Tryd.func69.trans (congrArg some (by kernel_rfl))
  f246 := Tryd.func54.trans (congrArg some (by kernel_rfl))
  f283 := Tryd.func62.trans (congrArg some (by kernel_rfl))
  f284 := Tryd.func63.trans (congrArg some (by kernel_rfl))
  f285 := Tryd.func64.trans (congrArg some (by kernel_rfl))
  f286 := Tryd.func65.trans (congrArg some (by kernel_rfl))
  f317 := Tryd.func68.trans (congrArg some (by kernel_rfl))
  f318 := Tryd.func70.trans (congrArg some (by kernel_rfl))
  f319 := Tryd.func71.trans (congrArg some (by kernel_rfl))
  f320 := Tryd.func72.trans (congrArg some (by kernel_rfl))
  f337 := Tryd.func73.trans (congrArg some (by kernel_rfl))
  f338 := Tryd.func74.trans (congrArg some (by kernel_rfl))
  t0 := Tryd.underlying0
  a0 := Tryd.isAgg0
  z0 := Tryd.sizeOf0
  v0 := Tryd.zeroValue0
  t2 := Tryd.underlying2
  a2 := Tryd.isAgg2
  z2 := Tryd.sizeOf2
  v2 := Tryd.zeroValue2
  t3 := Tryd.underlying3
  a3 := Tryd.isAgg3
  z3 := Tryd.sizeOf3
  v3 := Tryd.zeroValue3
  t4 := Tryd.underlying4
  a4 := Tryd.isAgg4
  z4 := Tryd.sizeOf4
  v4 := Tryd.zeroValue4
  t5 := Tryd.underlying5
  a5 := Tryd.isAgg5
  z5 := Tryd.sizeOf5
  v5 := Tryd.zeroValue5
  t9 := Tryd.underlying9
  a9 := Tryd.isAgg9
  z9 := Tryd.sizeOf9
  v9 := Tryd.zeroValue9
  t20 := Tryd.underlying20
  a20 := Tryd.isAgg20
  z20 := Tryd.sizeOf20
  v20 := Tryd.zeroValue20
  t37 := Tryd.underlying36
  a37 := Tryd.isAgg36
  z37 := Tryd.sizeOf36
  v37 := Tryd.zeroValue36
  t46 := Tryd.underlying50
  a46 := Tryd.isAgg50
  z46 := Tryd.sizeOf50
  v46 := Tryd.zeroValue50
  t51 := Tryd.underlying32
  a51 := Tryd.isAgg32
  z51 := Tryd.sizeOf32
  v51 := Tryd.zeroValue32
  t53 := Tryd.underlying34
  a53 := Tryd.isAgg34
  z53 := Tryd.sizeOf34
  v53 := Tryd.zeroValue34
  t171 := Tryd.underlying79
  a171 := Tryd.isAgg79
  z171 := Tryd.sizeOf79
  v171 := Tryd.zeroValue79
  t173 := Tryd.underlying82
  a173 := Tryd.isAgg82
  z173 := Tryd.sizeOf82
  v173 := Tryd.zeroValue82
  t212 := Tryd.underlying89
  a212 := Tryd.isAgg89
  z212 := Tryd.sizeOf89
  v212 := Tryd.zeroValue89
  t213 := Tryd.underlying90
  a213 := Tryd.isAgg90
  z213 := Tryd.sizeOf90
  t232 := Tryd.underlying93
  a232 := Tryd.isAgg93
  z232 := Tryd.sizeOf93
  v232 := Tryd.zeroValue93
  t233 := Tryd.underlying94
  a233 := Tryd.isAgg94
  z233 := Tryd.sizeOf94
  v233 := Tryd.zeroValue94
  g17 := by kernel_rfl
  g18 := by kernel_rfl
  g19 := by kernel_rfl }
open Go.RowKit Go.Sort Go.Lib in
theorem Tryd.internal_strconv_FormatInt_10_small (i : Nat) (hi : i < 100) (w : World) :
    Calls Tryd.prog 54 #[.int .i64 i, .int .i64 10] w fun e w' => e = .returned (.string ⟨(Lib.decDigits i).toArray⟩) ∧ w' = w := Any.internal_strconv_FormatInt_10_small Tryd.lays246 i hi w
def Tryd.laysM243_ren : Go.Shelf.Ren := ⟨fun | 243 => 39 | 246 => 54 | 283 => 62 | 284 => 63 | 285 => 64 | 286 => 65 | 129 => 69 | 317 => 68 | 318 => 70 | 319 => 71 | 320 => 72 | 337 => 73 | 338 => 74 | n => n, fun | 3 => 3 | 9 => 9 | 2 => 2 | 4 => 4 | 171 => 79 | 0 => 0 | 53 => 34 | 37 => 36 | 5 => 5 | 173 => 82 | 212 => 89 | 51 => 32 | 20 => 20 | 213 => 90 | 46 => 50 | 232 => 93 | 233 => 94 | n => n, fun | 17 => 1 | 18 => 3 | 19 => 4 | n => n⟩
theorem Tryd.laysM243 : Go.Proofs.LaysM.n243 Tryd.prog Tryd.laysM243_ren := {
  mixed := by kernel_rfl
  f129 := Tryd.func69.trans (congrArg some (by kernel_rfl))
  f243 := Tryd.func39.trans (congrArg some (by kernel_rfl))
  f246 := Tryd.func54.trans (congrArg some (by kernel_rfl))
  f283 := Tryd.func62.trans (congrArg some (by kernel_rfl))
  f284 := Tryd.func63.trans (congrArg some (by kernel_rfl))
  f285 := Tryd.func64.trans (congrArg some (by kernel_rfl))
  f286 := Tryd.func65.trans (congrArg some (by kernel_rfl))
  f317 := Tryd.func68.trans (congrArg some (by kernel_rfl))
  f318 := Tryd.func70.trans (congrArg some (by kernel_rfl))
  f319 := Tryd.func71.trans (congrArg some (by kernel_rfl))
  f320 := Tryd.func72.trans (congrArg some (by kernel_rfl))
  f337 := Tryd.func73.trans (congrArg some (by kernel_rfl))
  f338 := Tryd.func74.trans (congrArg some (by kernel_rfl))
  t0 := Tryd.underlying0
  a0 := Tryd.isAgg0
  z0 := Tryd.sizeOf0
  v0 := Tryd.zeroValue0
  t2 := Tryd.underlying2
  a2 := Tryd.isAgg2
  z2 := Tryd.sizeOf2
  v2 := Tryd.zeroValue2
  t3 := Tryd.underlying3
  a3 := Tryd.isAgg3
  z3 := Tryd.sizeOf3
  v3 := Tryd.zeroValue3
  t4 := Tryd.underlying4
  a4 := Tryd.isAgg4
  z4 := Tryd.sizeOf4
  v4 := Tryd.zeroValue4
  t5 := Tryd.underlying5
  a5 := Tryd.isAgg5
  z5 := Tryd.sizeOf5
  v5 := Tryd.zeroValue5
  t9 := Tryd.underlying9
  a9 := Tryd.isAgg9
  z9 := Tryd.sizeOf9
  v9 := Tryd.zeroValue9
  t20 := Tryd.underlying20
  a20 := Tryd.isAgg20
  z20 := Tryd.sizeOf20
  v20 := Tryd.zeroValue20
  t37 := Tryd.underlying36
  a37 := Tryd.isAgg36
  z37 := Tryd.sizeOf36
  v37 := Tryd.zeroValue36
  t46 := Tryd.underlying50
  a46 := Tryd.isAgg50
  z46 := Tryd.sizeOf50
  v46 := Tryd.zeroValue50
  t51 := Tryd.underlying32
  a51 := Tryd.isAgg32
  z51 := Tryd.sizeOf32
  v51 := Tryd.zeroValue32
  t53 := Tryd.underlying34
  a53 := Tryd.isAgg34
  z53 := Tryd.sizeOf34
  v53 := Tryd.zeroValue34
  t171 := Tryd.underlying79
  a171 := Tryd.isAgg79
  z171 := Tryd.sizeOf79
  v171 := Tryd.zeroValue79
  t173 := Tryd.underlying82
  a173 := Tryd.isAgg82
  z173 := Tryd.sizeOf82
  v173 := Tryd.zeroValue82
  t212 := Tryd.underlying89
  a212 := Tryd.isAgg89
  z212 := Tryd.sizeOf89
  v212 := Tryd.zeroValue89
  t213 := Tryd.underlying90
  a213 := Tryd.isAgg90
  z213 := Tryd.sizeOf90
  t232 := Tryd.underlying93
  a232 := Tryd.isAgg93
  z232 := Tryd.sizeOf93
  v232 := Tryd.zeroValue93
  t233 := Tryd.underlying94
  a233 := Tryd.isAgg94
  z233 := Tryd.sizeOf94
  v233 := Tryd.zeroValue94
  g17 := by kernel_rfl
  g18 := by kernel_rfl
  g19 := by kernel_rfl
  i0 := by kernel_rfl
  i2 := by kernel_rfl
  i3 := by kernel_rfl
  i4 := by kernel_rfl
  i5 := by kernel_rfl
  i9 := by kernel_rfl
  i20 := by kernel_rfl
  i37 := by kernel_rfl
  i46 := by kernel_rfl
  i51 := by kernel_rfl
  i53 := by kernel_rfl
  i171 := by kernel_rfl
  i173 := by kernel_rfl
  i212 := by kernel_rfl
  i232 := by kernel_rfl
  i233 := by kernel_rfl
  m17 := by kernel_rfl
  m18 := by kernel_rfl
  m19 := by kernel_rfl }
open Go.RowKit Go.Sort Go.Lib in
theorem Tryd.internal_strconv_Itoa (n : Int) (h0 : -9223372036854775808 ≤ n) (h1 : n ≤ 9223372036854775807) (w : World) (htab : Lib.TabIs Tryd.prog w "internal/strconv.uint64pow10" .u64 Lib.pow10Tab) :
    Calls Tryd.prog 39 #[.int .i64 n] w fun e w' => e = .returned (.string ⟨(Lib.itoa n).toArray⟩) ∧ ∃ k os, w' = grow (w.drewN k) os := Any.internal_strconv_Itoa Tryd.laysM243 n h0 h1 w htab
def Tryd.lays243_ren : Go.Shelf.Ren := ⟨fun | 243 => 39 | 246 => 54 | 283 => 62 | 284 => 63 | 285 => 64 | 286 => 65 | 129 => 69 | 317 => 68 | 318 => 70 | 319 => 71 | 320 => 72 | 337 => 73 | 338 => 74 | n => n, fun | 3 => 3 | 9 => 9 | 2 => 2 | 4 => 4 | 171 => 79 | 0 => 0 | 53 => 34 | 37 => 36 | 5 => 5 | 173 => 82 | 212 => 89 | 51 => 32 | 20 => 20 | 213 => 90 | 46 => 50 | 232 => 93 | 233 => 94 | n => n, fun | 17 => 1 | 18 => 3 | 19 => 4 | n => n⟩
theorem Tryd.lays243 : Go.Proofs.Lays.n243 Tryd.prog Tryd.lays243_ren := {
  mixed := by kernel_rfl
  f129 := Tryd.func69.trans (congrArg some (by kernel_rfl))
  f243 := Tryd.func39.trans (congrArg some (by kernel_rfl))
  f246 := Tryd.func54.trans (congrArg some (by kernel_rfl))
  f283 := Tryd.func62.trans (congrArg some (by kernel_rfl))
  f284 := Tryd.func63.trans (congrArg some (by kernel_rfl))
  f285 := Tryd.func64.trans (congrArg some (by kernel_rfl))
  f286 := Tryd.func65.trans (congrArg some (by kernel_rfl))
  f317 := Tryd.func68.trans (congrArg some (by kernel_rfl))
  f318 := Tryd.func70.trans (congrArg some (by kernel_rfl))
  f319 := Tryd.func71.trans (congrArg some (by kernel_rfl))
  f320 := Tryd.func72.trans (congrArg some (by kernel_rfl))
  f337 := Tryd.func73.trans (congrArg some (by kernel_rfl))
  f338 := Tryd.func74.trans (congrArg some (by kernel_rfl))
  t0 := Tryd.underlying0
  a0 := Tryd.isAgg0
  z0 := Tryd.sizeOf0
  v0 := Tryd.zeroValue0
  t2 := Tryd.underlying2
  a2 := Tryd.isAgg2
  z2 := Tryd.sizeOf2
  v2 := Tryd.zeroValue2
  t3 := Tryd.underlying3
  a3 := Tryd.isAgg3
  z3 := Tryd.sizeOf3
  v3 := Tryd.zeroValue3
  t4 := Tryd.underlying4
  a4 := Tryd.isAgg4
  z4 := Tryd.sizeOf4
  v4 := Tryd.zeroValue4
  t5 := Tryd.underlying5
  a5 := Tryd.isAgg5
  z5 := Tryd.sizeOf5
  v5 := Tryd.zeroValue5
  t9 := Tryd.underlying9
  a9 := Tryd.isAgg9
  z9 := Tryd.sizeOf9
  v9 := Tryd.zeroValue9
  t20 := Tryd.underlying20
  a20 := Tryd.isAgg20
  z20 := Tryd.sizeOf20
  v20 := Tryd.zeroValue20
  t37 := Tryd.underlying36
  a37 := Tryd.isAgg36
  z37 := Tryd.sizeOf36
  v37 := Tryd.zeroValue36
  t46 := Tryd.underlying50
  a46 := Tryd.isAgg50
  z46 := Tryd.sizeOf50
  v46 := Tryd.zeroValue50
  t51 := Tryd.underlying32
  a51 := Tryd.isAgg32
  z51 := Tryd.sizeOf32
  v51 := Tryd.zeroValue32
  t53 := Tryd.underlying34
  a53 := Tryd.isAgg34
  z53 := Tryd.sizeOf34
  v53 := Tryd.zeroValue34
  t171 := Tryd.underlying79
  a171 := Tryd.isAgg79
  z171 := Tryd.sizeOf79
  v171 := Tryd.zeroValue79
  t173 := Tryd.underlying82
  a173 := Tryd.isAgg82
  z173 := Tryd.sizeOf82
  v173 := Tryd.zeroValue82
  t212 := Tryd.underlying89
  a212 := Tryd.isAgg89
  z212 := Tryd.sizeOf89
  v212 := Tryd.zeroValue89
  t213 := Tryd.underlying90
  a213 := Tryd.isAgg90
  z213 := Tryd.sizeOf90
  t232 := Tryd.underlying93
  a232 := Tryd.isAgg93
  z232 := Tryd.sizeOf93
  v232 := Tryd.zeroValue93
  t233 := Tryd.underlying94
  a233 := Tryd.isAgg94
  z233 := Tryd.sizeOf94
  v233 := Tryd.zeroValue94
  g17 := by kernel_rfl
  g18 := by kernel_rfl
  g19 := by kernel_rfl }
open Go.RowKit Go.Sort Go.Lib in
theorem Tryd.internal_strconv_Itoa_small (i : Nat) (hi : i < 100) (w : World) :
    Calls Tryd.prog 39 #[.int .i64 i] w fun e w' => e = .returned (.string ⟨(Lib.decDigits i).toArray⟩) ∧ w' = w := Any.internal_strconv_Itoa_small Tryd.lays243 i hi w
def Tryd.laysM171_ren : Go.Shelf.Ren := ⟨fun | 171 => 23 | 243 => 39 | 246 => 54 | 283 => 62 | 284 => 63 | 285 => 64 | 286 => 65 | 129 => 69 | 317 => 68 | 318 => 70 | 319 => 71 | 320 => 72 | 337 => 73 | 338 => 74 | n => n, fun | 3 => 3 | 9 => 9 | 2 => 2 | 4 => 4 | 171 => 79 | 0 => 0 | 53 => 34 | 37 => 36 | 5 => 5 | 173 => 82 | 212 => 89 | 51 => 32 | 20 => 20 | 213 => 90 | 46 => 50 | 232 => 93 | 233 => 94 | n => n, fun | 17 => 1 | 18 => 3 | 19 => 4 | n => n⟩
theorem Tryd.laysM171 : Go.Proofs.LaysM.n171 Tryd.prog Tryd.laysM171_ren := {
  mixed := by kernel_rfl
  f129 := Tryd.func69.trans (congrArg some (by kernel_rfl))
  f171 := Tryd.func23.trans (congrArg some (by kernel_rfl))
  f243 := Tryd.func39.trans (congrArg some (by kernel_rfl))
  f246 := Tryd.func54.trans (congrArg some (by kernel_rfl))
  f283 := Tryd.func62.trans (congrArg some (by kernel_rfl))
  f284 := Tryd.func63.trans (congrArg some (by kernel_rfl))
  f285 := Tryd.func64.trans (congrArg some (by kernel_rfl))
  f286 := Tryd.func65.trans (congrArg some (by kernel_rfl))
  f317 := Tryd.func68.trans (congrArg some (by kernel_rfl))
  f318 := Tryd.func70.trans (congrArg some (by kernel_rfl))
  f319 := Tryd.func71.trans (congrArg some (by kernel_rfl))
  f320 := Tryd.func72.trans (congrArg some (by kernel_rfl))
  f337 := Tryd.func73.trans (congrArg some (by kernel_rfl))
  f338 := Tryd.func74.trans (congrArg some (by kernel_rfl))
  t0 := Tryd.underlying0
  a0 := Tryd.isAgg0
  z0 := Tryd.sizeOf0
  v0 := Tryd.zeroValue0
  t2 := Tryd.underlying2
  a2 := Tryd.isAgg2
  z2 := Tryd.sizeOf2
  v2 := Tryd.zeroValue2
  t3 := Tryd.underlying3
  a3 := Tryd.isAgg3
  z3 := Tryd.sizeOf3
  v3 := Tryd.zeroValue3
  t4 := Tryd.underlying4
  a4 := Tryd.isAgg4
  z4 := Tryd.sizeOf4
  v4 := Tryd.zeroValue4
  t5 := Tryd.underlying5
  a5 := Tryd.isAgg5
  z5 := Tryd.sizeOf5
  v5 := Tryd.zeroValue5
  t9 := Tryd.underlying9
  a9 := Tryd.isAgg9
  z9 := Tryd.sizeOf9
  v9 := Tryd.zeroValue9
  t20 := Tryd.underlying20
  a20 := Tryd.isAgg20
  z20 := Tryd.sizeOf20
  v20 := Tryd.zeroValue20
  t37 := Tryd.underlying36
  a37 := Tryd.isAgg36
  z37 := Tryd.sizeOf36
  v37 := Tryd.zeroValue36
  t46 := Tryd.underlying50
  a46 := Tryd.isAgg50
  z46 := Tryd.sizeOf50
  v46 := Tryd.zeroValue50
  t51 := Tryd.underlying32
  a51 := Tryd.isAgg32
  z51 := Tryd.sizeOf32
  v51 := Tryd.zeroValue32
  t53 := Tryd.underlying34
  a53 := Tryd.isAgg34
  z53 := Tryd.sizeOf34
  v53 := Tryd.zeroValue34
  t171 := Tryd.underlying79
  a171 := Tryd.isAgg79
  z171 := Tryd.sizeOf79
  v171 := Tryd.zeroValue79
  t173 := Tryd.underlying82
  a173 := Tryd.isAgg82
  z173 := Tryd.sizeOf82
  v173 := Tryd.zeroValue82
  t212 := Tryd.underlying89
  a212 := Tryd.isAgg89
  z212 := Tryd.sizeOf89
  v212 := Tryd.zeroValue89
  t213 := Tryd.underlying90
  a213 := Tryd.isAgg90
  z213 := Tryd.sizeOf90
  t232 := Tryd.underlying93
  a232 := Tryd.isAgg93
  z232 := Tryd.sizeOf93
  v232 := Tryd.zeroValue93
  t233 := Tryd.underlying94
  a233 := Tryd.isAgg94
  z233 := Tryd.sizeOf94
  v233 := Tryd.zeroValue94
  g17 := by kernel_rfl
  g18 := by kernel_rfl
  g19 := by kernel_rfl
  i0 := by kernel_rfl
  i2 := by kernel_rfl
  i3 := by kernel_rfl
  i4 := by kernel_rfl
  i5 := by kernel_rfl
  i9 := by kernel_rfl
  i20 := by kernel_rfl
  i37 := by kernel_rfl
  i46 := by kernel_rfl
  i51 := by kernel_rfl
  i53 := by kernel_rfl
  i171 := by kernel_rfl
  i173 := by kernel_rfl
  i212 := by kernel_rfl
  i232 := by kernel_rfl
  i233 := by kernel_rfl
  m17 := by kernel_rfl
  m18 := by kernel_rfl
  m19 := by kernel_rfl }
open Go.RowKit Go.Sort Go.Lib in
theorem Tryd.strconv_Itoa (n : Int) (h0 : -9223372036854775808 ≤ n) (h1 : n ≤ 9223372036854775807) (w : World) (htab : Lib.TabIs Tryd.prog w "internal/strconv.uint64pow10" .u64 Lib.pow10Tab) :
    Calls Tryd.prog 23 #[.int .i64 n] w fun e w' => e = .returned (.string ⟨(Lib.itoa n).toArray⟩) ∧ ∃ k os, w' = grow (w.drewN k) os := Any.strconv_Itoa Tryd.laysM171 n h0 h1 w htab
def Tryd.lays171_ren : Go.Shelf.Ren := ⟨fun | 171 => 23 | 243 => 39 | 246 => 54 | 283 => 62 | 284 => 63 | 285 => 64 | 286 => 65 | 129 => 69 | 317 => 68 | 318 => 70 | 319 => 71 | 320 => 72 | 337 => 73 | 338 => 74 | n => n, fun | 3 => 3 | 9 => 9 | 2 => 2 | 4 => 4 | 171 => 79 | 0 => 0 | 53 => 34 | 37 => 36 | 5 => 5 | 173 => 82 | 212 => 89 | 51 => 32 | 20 => 20 | 213 => 90 | 46 => 50 | 232 => 93 | 233 => 94 | n => n, fun | 17 => 1 | 18 => 3 | 19 => 4 | n => n⟩
theorem Tryd.lays171 : Go.Proofs.Lays.n171 Tryd.prog Tryd.lays171_ren := {
  mixed := by kernel_rfl
  f129 := Tryd.func69.trans (congrArg some (by kernel_rfl))
  f171 := Tryd.func23.trans (congrArg some (by kernel_rfl))
  f243 := Tryd.func39.trans (congrArg some (by kernel_rfl))
  f246 := Tryd.func54.trans (congrArg some (by kernel_rfl))
  f283 := Tryd.func62.trans (congrArg some (by kernel_rfl))
  f284 := Tryd.func63.trans (congrArg some (by kernel_rfl))
  f285 := Tryd.func64.trans (congrArg some (by kernel_rfl))
  f286 := Tryd.func65.trans (congrArg some (by kernel_rfl))
  f317 := Tryd.func68.trans (congrArg some (by kernel_rfl))
  f318 := Tryd.func70.trans (congrArg some (by kernel_rfl))
  f319 := Tryd.func71.trans (congrArg some (by kernel_rfl))
  f320 := Tryd.func72.trans (congrArg some (by kernel_rfl))
  f337 := Tryd.func73.trans (congrArg some (by kernel_rfl))
  f338 := Tryd.func74.trans (congrArg some (by kernel_rfl))
  t0 := Tryd.underlying0
  a0 := Tryd.isAgg0
  z0 := Tryd.sizeOf0
  v0 := Tryd.zeroValue0
  t2 := Tryd.underlying2
  a2 := Tryd.isAgg2
  z2 := Tryd.sizeOf2
  v2 := Tryd.zeroValue2
  t3 := Tryd.underlying3
  a3 := Tryd.isAgg3
  z3 := Tryd.sizeOf3
  v3 := Tryd.zeroValue3
  t4 := Tryd.underlying4
  a4 := Tryd.isAgg4
  z4 := Tryd.sizeOf4
  v4 := Tryd.zeroValue4
  t5 := Tryd.underlying5
  a5 := Tryd.isAgg5
  z5 := Tryd.sizeOf5
  v5 := Tryd.zeroValue5
  t9 := Tryd.underlying9
  a9 := Tryd.isAgg9
  z9 := Tryd.sizeOf9
  v9 := Tryd.zeroValue9
  t20 := Tryd.underlying20
  a20 := Tryd.isAgg20
  z20 := Tryd.sizeOf20
  v20 := Tryd.zeroValue20
  t37 := Tryd.underlying36
  a37 := Tryd.isAgg36
  z37 := Tryd.sizeOf36
  v37 := Tryd.zeroValue36
  t46 := Tryd.underlying50
  a46 := Tryd.isAgg50
  z46 := Tryd.sizeOf50
  v46 := Tryd.zeroValue50
  t51 := Tryd.underlying32
  a51 := Tryd.isAgg32
  z51 := Tryd.sizeOf32
  v51 := Tryd.zeroValue32
  t53 := Tryd.underlying34
  a53 := Tryd.isAgg34
  z53 := Tryd.sizeOf34
  v53 := Tryd.zeroValue34
  t171 := Tryd.underlying79
  a171 := Tryd.isAgg79
  z171 := Tryd.sizeOf79
  v171 := Tryd.zeroValue79
  t173 := Tryd.underlying82
  a173 := Tryd.isAgg82
  z173 := Tryd.sizeOf82
  v173 := Tryd.zeroValue82
  t212 := Tryd.underlying89
  a212 := Tryd.isAgg89
  z212 := Tryd.sizeOf89
  v212 := Tryd.zeroValue89
  t213 := Tryd.underlying90
  a213 := Tryd.isAgg90
  z213 := Tryd.sizeOf90
  t232 := Tryd.underlying93
  a232 := Tryd.isAgg93
  z232 := Tryd.sizeOf93
  v232 := Tryd.zeroValue93
  t233 := Tryd.underlying94
  a233 := Tryd.isAgg94
  z233 := Tryd.sizeOf94
  v233 := Tryd.zeroValue94
  g17 := by kernel_rfl
  g18 := by kernel_rfl
  g19 := by kernel_rfl }
open Go.RowKit Go.Sort Go.Lib in
theorem Tryd.strconv_Itoa_small (i : Nat) (hi : i < 100) (w : World) :
    Calls Tryd.prog 23 #[.int .i64 i] w fun e w' => e = .returned (.string ⟨(Lib.decDigits i).toArray⟩) ∧ w' = w := Any.strconv_Itoa_small Tryd.lays171 i hi w
def Tryd.lays206_ren : Go.Shelf.Ren := ⟨fun | 206 => 57 | n => n, fun | 9 => 9 | 4 => 4 | 3 => 3 | n => n, fun | n => n⟩
theorem Tryd.lays206 : Go.Proofs.Lays.n206 Tryd.prog Tryd.lays206_ren := {
  mixed := by kernel_rfl
  f206 := Tryd.func57.trans (congrArg some (by kernel_rfl))
  t3 := Tryd.underlying3
  a3 := Tryd.isAgg3
  z3 := Tryd.sizeOf3
  v3 := Tryd.zeroValue3
  t4 := Tryd.underlying4
  a4 := Tryd.isAgg4
  z4 := Tryd.sizeOf4
  v4 := Tryd.zeroValue4
  t9 := Tryd.underlying9
  a9 := Tryd.isAgg9
  z9 := Tryd.sizeOf9
  v9 := Tryd.zeroValue9 }
open Go.RowKit Go.Lib in
theorem Tryd.stringslite_HasPrefix (s p : ByteArray) (w : World) :
    Calls Tryd.prog 57 #[.string s, .string p] w fun e w' => e = .returned (.bool (Lib.hasPrefix s.data.toList p.data.toList)) ∧ w' = w := Any.stringslite_HasPrefix Tryd.lays206 s p w
def Tryd.lays99_ren : Go.Shelf.Ren := ⟨fun | 99 => 41 | 206 => 57 | n => n, fun | 9 => 9 | 4 => 4 | 3 => 3 | n => n, fun | n => n⟩
theorem Tryd.lays99 : Go.Proofs.Lays.n99 Tryd.prog Tryd.lays99_ren := {
  mixed := by kernel_rfl
  f99 := Tryd.func41.trans (congrArg some (by kernel_rfl))
  f206 := Tryd.func57.trans (congrArg some (by kernel_rfl))
  t3 := Tryd.underlying3
  a3 := Tryd.isAgg3
  z3 := Tryd.sizeOf3
  v3 := Tryd.zeroValue3
  t4 := Tryd.underlying4
  a4 := Tryd.isAgg4
  z4 := Tryd.sizeOf4
  v4 := Tryd.zeroValue4
  t9 := Tryd.underlying9
  a9 := Tryd.isAgg9
  z9 := Tryd.sizeOf9
  v9 := Tryd.zeroValue9 }
open Go.RowKit Go.Lib in
theorem Tryd.strings_HasPrefix (s p : ByteArray) (w : World) :
    Calls Tryd.prog 41 #[.string s, .string p] w fun e w' => e = .returned (.bool (Lib.hasPrefix s.data.toList p.data.toList)) ∧ w' = w := Any.strings_HasPrefix Tryd.lays99 s p w
def Tryd.lays264_ren : Go.Shelf.Ren := ⟨fun | 264 => 56 | n => n, fun | 53 => 34 | 46 => 50 | n => n, fun | n => n⟩
theorem Tryd.lays264 : Go.Proofs.Lays.n264 Tryd.prog Tryd.lays264_ren := {
  mixed := by kernel_rfl
  f264 := Tryd.func56.trans (congrArg some (by kernel_rfl))
  t46 := Tryd.underlying50
  a46 := Tryd.isAgg50
  z46 := Tryd.sizeOf50
  v46 := Tryd.zeroValue50
  t53 := Tryd.underlying34
  a53 := Tryd.isAgg34
  z53 := Tryd.sizeOf34
  v53 := Tryd.zeroValue34 }
open Go.RowKit Go.Lib in
theorem Tryd.bits_Mul64 (x y : Nat) (hx : x < 18446744073709551616) (hy : y < 18446744073709551616) (w : World) :
    Calls Tryd.prog 56 #[.int .u64 x, .int .u64 y] w fun e w' => e = .returned (.tuple #[.int .u64 ((x * y / 18446744073709551616 : Nat) : Int), .int .u64 ((x * y % 18446744073709551616 : Nat) : Int)]) ∧ w' = w := Any.bits_Mul64 Tryd.lays264 x y hx hy w
def Tryd.lays212_ren : Go.Shelf.Ren := ⟨fun | 212 => 40 | 263 => 55 | 264 => 56 | n => n, fun | 46 => 50 | 51 => 32 | 146 => 52 | 53 => 34 | 148 => 76 | n => n, fun | n => n⟩
theorem Tryd.lays212 : Go.Proofs.Lays.n212 Tryd.prog Tryd.lays212_ren := {
  mixed := by kernel_rfl
  f212 := Tryd.func40.trans (congrArg some (by kernel_rfl))
  f263 := Tryd.func55.trans (congrArg some (by kernel_rfl))
  f264 := Tryd.func56.trans (congrArg some (by kernel_rfl))
  t46 := Tryd.underlying50
  a46 := Tryd.isAgg50
  z46 := Tryd.sizeOf50
  v46 := Tryd.zeroValue50
  t51 := Tryd.underlying32
  a51 := Tryd.isAgg32
  z51 := Tryd.sizeOf32
  v51 := Tryd.zeroValue32
  t53 := Tryd.underlying34
  a53 := Tryd.isAgg34
  z53 := Tryd.sizeOf34
  v53 := Tryd.zeroValue34
  t146 := Tryd.underlying52
  a146 := Tryd.isAgg52
  z146 := Tryd.sizeOf52
  v146 := Tryd.zeroValue52
  t148 := Tryd.underlying76
  a148 := Tryd.isAgg76
  z148 := Tryd.sizeOf76
  v148 := Tryd.zeroValue76 }
open Go.RowKit Go.Lib in
theorem Tryd.bits_Mul (x y : Nat) (hx : x < 18446744073709551616) (hy : y < 18446744073709551616) (w : World) :
    Calls Tryd.prog 40 #[.int .u64 x, .int .u64 y] w fun e w' => e = .returned (.tuple #[.int .u64 ((x * y / 18446744073709551616 : Nat) : Int), .int .u64 ((x * y % 18446744073709551616 : Nat) : Int)]) ∧ w' = w := Any.bits_Mul Tryd.lays212 x y hx hy w
def Tryd.lays105_ren : Go.Shelf.Ren := ⟨fun | 105 => 24 | 212 => 40 | 99 => 41 | 165 => 42 | 166 => 43 | 170 => 44 | 169 => 45 | 263 => 55 | 264 => 56 | 206 => 57 | 240 => 58 | 241 => 59 | 276 => 66 | 277 => 67 | n => n, fun | 9 => 9 | 3 => 3 | 4 => 4 | 20 => 20 | 0 => 0 | 46 => 50 | 109 => 54 | 5 => 5 | 72 => 59 | 76 => 63 | 51 => 32 | 146 => 52 | 53 => 34 | 148 => 76 | 70 => 57 | 37 => 36 | 75 => 62 | 127 => 78 | 164 => 84 | 80 => 66 | n => n, fun | n => n⟩
theorem Tryd.lays105 : Go.Proofs.Lays.n105 Tryd.prog Tryd.lays105_ren := {
  mixed := by kernel_rfl
  f99 := Tryd.func41.trans (congrArg some (by kernel_rfl))
  f105 := Tryd.func24.trans (congrArg some (by kernel_rfl))
  f165 := Tryd.func42.trans (congrArg some (by kernel_rfl))
  f166 := Tryd.func43.trans (congrArg some (by kernel_rfl))
  f169 := Tryd.func45.trans (congrArg some (by kernel_rfl))
  f170 := Tryd.func44.trans (congrArg some (by kernel_rfl))
  f206 := Tryd.func57.trans (congrArg some (by kernel_rfl))
  f212 := Tryd.func40.trans (congrArg some (by kernel_rfl))
  f240 := Tryd.func58.trans (congrArg some (by kernel_rfl))
  f241 := Tryd.func59.trans (congrArg some (by kernel_rfl))
  f263 := Tryd.func55.trans (congrArg some (by kernel_rfl))
  f264 := Tryd.func56.trans (congrArg some (by kernel_rfl))
  f276 := Tryd.func66.trans (congrArg some (by kernel_rfl))
  f277 := Tryd.func67.trans (congrArg some (by kernel_rfl))
  t0 := Tryd.underlying0
  a0 := Tryd.isAgg0
  z0 := Tryd.sizeOf0
  v0 := Tryd.zeroValue0
  t3 := Tryd.underlying3
  a3 := Tryd.isAgg3
  z3 := Tryd.sizeOf3
  v3 := Tryd.zeroValue3
  t4 := Tryd.underlying4
  a4 := Tryd.isAgg4
  z4 := Tryd.sizeOf4
  v4 := Tryd.zeroValue4
  t5 := Tryd.underlying5
  a5 := Tryd.isAgg5
  z5 := Tryd.sizeOf5
  v5 := Tryd.zeroValue5
  t9 := Tryd.underlying9
  a9 := Tryd.isAgg9
  z9 := Tryd.sizeOf9
  v9 := Tryd.zeroValue9
  t20 := Tryd.underlying20
  a20 := Tryd.isAgg20
  z20 := Tryd.sizeOf20
  v20 := Tryd.zeroValue20
  t37 := Tryd.underlying36
  a37 := Tryd.isAgg36
  z37 := Tryd.sizeOf36
  v37 := Tryd.zeroValue36
  t46 := Tryd.underlying50
  a46 := Tryd.isAgg50
  z46 := Tryd.sizeOf50
  v46 := Tryd.zeroValue50
  t51 := Tryd.underlying32
  a51 := Tryd.isAgg32
  z51 := Tryd.sizeOf32
  v51 := Tryd.zeroValue32
  t53 := Tryd.underlying34
  a53 := Tryd.isAgg34
  z53 := Tryd.sizeOf34
  v53 := Tryd.zeroValue34
  t70 := Tryd.underlying57
  a70 := Tryd.isAgg57
  z70 := Tryd.sizeOf57
  v70 := Tryd.zeroValue57
  t72 := Tryd.underlying59
  a72 := Tryd.isAgg59
  z72 := Tryd.sizeOf59
  v72 := Tryd.zeroValue59
  t75 := Tryd.underlying62
  a75 := Tryd.isAgg62
  z75 := Tryd.sizeOf62
  v75 := Tryd.zeroValue62
  t76 := Tryd.underlying63
  a76 := Tryd.isAgg63
  z76 := Tryd.sizeOf63
  v76 := Tryd.zeroValue63
  t109 := Tryd.underlying54
  a109 := Tryd.isAgg54
  z109 := Tryd.sizeOf54
  v109 := Tryd.zeroValue54
  t127 := Tryd.underlying78
  a127 := Tryd.isAgg78
  z127 := Tryd.sizeOf78
  v127 := Tryd.zeroValue78
  t146 := Tryd.underlying52
  a146 := Tryd.isAgg52
  z146 := Tryd.sizeOf52
  v146 := Tryd.zeroValue52
  t148 := Tryd.underlying76
  a148 := Tryd.isAgg76
  z148 := Tryd.sizeOf76
  v148 := Tryd.zeroValue76
  t164 := Tryd.underlying84
  a164 := Tryd.isAgg84
  z164 := Tryd.sizeOf84
  v164 := Tryd.zeroValue84 }
theorem Tryd.Builder_Extra_105 : Builder.Extra Tryd.prog Tryd.lays105_ren := {
  sizeBuilder := by kernel_rfl
  liesBuilder := by kernel_rfl
  t5 := Tryd.underlying5
  a5 := Tryd.isAgg5
  z5 := Tryd.sizeOf5
  v5 := Tryd.zeroValue5
  infoByte := by kernel_rfl
  cellsByte := by kernel_rfl
  sizeByte := by kernel_rfl
  neB5 := by decide }
open Go.RowKit Go.Lib in
theorem Tryd.strings_Repeat_main (s : ByteArray) (c : Nat) (w : World) (hc2 : 2 ≤ c) (hc : c ≤ 9223372036854775807) (hlen : s.size * c ≤ 140737488355328) (h0 : 0 < s.size) :
    Calls Tryd.prog 24 #[.string s, .int .i64 c] w fun e w' => e = .returned (.string ⟨(Lib.repeatL s.data.toList c).toArray⟩) ∧ Below w.heap.size w w' := Any.strings_Repeat_main Tryd.lays105 Tryd.Builder_Extra_105 s c w hc2 hc hlen h0
open Go.RowKit Go.Lib in
theorem Tryd.strings_Repeat_zero (s : ByteArray) (w : World) :
    Calls Tryd.prog 24 #[.string s, .int .i64 0] w fun e w' => e = .returned (.string ⟨#[]⟩) ∧ w' = w := Any.strings_Repeat_zero Tryd.lays105 s w
open Go.RowKit Go.Lib in
theorem Tryd.strings_Repeat_one (s : ByteArray) (w : World) :
    Calls Tryd.prog 24 #[.string s, .int .i64 1] w fun e w' => e = .returned (.string s) ∧ w' = w := Any.strings_Repeat_one Tryd.lays105 s w
open Go.RowKit Go.Lib in
theorem Tryd.strings_Repeat_empty (s : ByteArray) (c : Nat) (w : World) (hc2 : 2 ≤ c) (hc : c ≤ 9223372036854775807) (h0 : s.size = 0) :
    Calls Tryd.prog 24 #[.string s, .int .i64 c] w fun e w' => e = .returned (.string ⟨#[]⟩) ∧ w' = w := Any.strings_Repeat_empty Tryd.lays105 s c w hc2 hc h0
open Go.RowKit Go.Lib in
theorem Tryd.strings_Repeat_negative (s : ByteArray) (c : Int) (w : World) (hc : c < 0) :
    Calls Tryd.prog 24 #[.string s, .int .i64 c] w fun e w' => e = .panicked [{ v := repeatPanic Tryd.lays105_ren "strings: negative Repeat count", recovered := false }] ∧ w' = w := Any.strings_Repeat_negative Tryd.lays105 s c w hc
open Go.RowKit Go.Lib in
theorem Tryd.strings_Repeat_overflow (s : ByteArray) (c : Nat) (w : World) (hc : c ≤ 9223372036854775807) (hs : s.size ≤ 9223372036854775807) (hbig : 9223372036854775807 < s.size * c) :
    Calls Tryd.prog 24 #[.string s, .int .i64 c] w fun e w' => e = .panicked [{ v := repeatPanic Tryd.lays105_ren "strings: Repeat output length overflow", recovered := false }] ∧ w' = w := Any.strings_Repeat_overflow Tryd.lays105 s c w hc hs hbig
open Go.RowKit Go.Lib in
theorem Tryd.strings_Repeat (s : ByteArray) (c : Nat) (w : World) (hc : c ≤ 9223372036854775807) (hlen : s.size * c ≤ 140737488355328) :
    Calls Tryd.prog 24 #[.string s, .int .i64 c] w fun e w' => e = .returned (.string ⟨(Lib.repeatL s.data.toList c).toArray⟩) ∧ Below w.heap.size w w' := Any.strings_Repeat Tryd.lays105 Tryd.Builder_Extra_105 s c w hc hlen
def Tryd.laysNm217_ren : Go.Shelf.Ren := ⟨fun | 17 => 25 | n => n, fun | 24 => 39 | 9 => 9 | 3 => 3 | 4 => 4 | 0 => 0 | n => n, fun | n => n⟩
theorem Tryd.laysNm217 : Go.Proofs.Lays2.n17 Tryd.prog Tryd.laysNm217_ren := {
  mixed := by kernel_rfl
  f17 := Tryd.func25.trans (congrArg some (by kernel_rfl))
  t0 := Tryd.underlying0
  a0 := Tryd.isAgg0
  z0 := Tryd.sizeOf0
  v0 := Tryd.zeroValue0
  t3 := Tryd.underlying3
  a3 := Tryd.isAgg3
  z3 := Tryd.sizeOf3
  v3 := Tryd.zeroValue3
  t4 := Tryd.underlying4
  a4 := Tryd.isAgg4
  z4 := Tryd.sizeOf4
  v4 := Tryd.zeroValue4
  t9 := Tryd.underlying9
  a9 := Tryd.isAgg9
  z9 := Tryd.sizeOf9
  v9 := Tryd.zeroValue9
  t24 := Tryd.underlying39
  a24 := Tryd.isAgg39
  z24 := Tryd.sizeOf39
  v24 := Tryd.zeroValue39 }
open Go.RowKit Go.Lib Go.Sort in
theorem Tryd.slices_Reverse_string_arr (blk off cap : Nat) (d : Array (List UInt8)) (w : World) (hH : Holds encStr w blk off d) (hsz : d.size ≤ 9223372036854775807) :
    Calls Tryd.prog 25 #[.slice (some ⟨blk, off, none⟩) d.size cap] w fun e w' => e = .returned (.tuple #[]) ∧ ∃ n, w' = putRow encStr (Sort.ahead w n) blk off d.reverse := Any.slices_Reverse_string_arr Tryd.laysNm217 blk off cap d w hH hsz
open Go.RowKit Go.Lib Go.Sort in
theorem Tryd.slices_Reverse_string (blk off cap : Nat) (zs : List (List UInt8)) (w : World) (hH : Holds encStr w blk off zs.toArray) (hsz : zs.length ≤ 9223372036854775807) :
    Calls Tryd.prog 25 #[.slice (some ⟨blk, off, none⟩) zs.length cap] w fun e w' => e = .returned (.tuple #[]) ∧ ∃ n, w' = putRow encStr (Sort.ahead w n) blk off zs.reverse.toArray := Any.slices_Reverse_string Tryd.laysNm217 blk off cap zs w hH hsz
open Go.RowKit Go.Lib Go.Sort in
theorem Tryd.slices_Reverse_string_empty (a : Option Addr) (cap : Nat) (w : World) :
    Calls Tryd.prog 25 #[.slice a 0 cap] w fun e w' => e = .returned (.tuple #[]) ∧ w' = w := Any.slices_Reverse_string_empty Tryd.laysNm217 a cap w
open Go.RowKit Go.Lib Go.Sort in
theorem Tryd.slices_Reverse_string_cells (b off n c : Nat) (Sx : Nat → ByteArray) (w : World) (hbig : n ≤ 9223372036854775807) (hc : ∀ i, i < n → w.cell? ⟨b, off + i, none⟩ = some (.string (Sx i))) (hf : ∀ j, j < n → w.frozen? ⟨b, off + j, none⟩ = false) :
    Calls Tryd.prog 25 #[.slice (some ⟨b, off, none⟩) n c] w fun e w' => e = .returned (.tuple #[]) ∧ ∃ q, w' = (w.drewN q).setCells b off ((Lib.strsOf Sx n).reverse.map encStr) := Any.slices_Reverse_string_cells Tryd.laysNm217 b off n c Sx w hbig hc hf
end Go.Proofs
namespace Go.Proofs.YtecilkmigjbfoaaDoor
open Go Go.Dat Go.Proofs Nat32
open Go.Lib (decDigits repeatL)

/-! ### The library's functions -/
theorem scItoaD (n : Nat) (hn : n ≤ 4294967295) : PCalls Tryd.prog 23 [.int .i64 n] (.str (decDigits n)) := by
  obtain ⟨g, hg⟩ := Option.isSome_iff_exists.1 (show (Tryd.prog.globalNamed tabName).isSome = true by kernel_rfl)
  refine PCalls_itoa hg fun w ht => ?_
  have h := Tryd.strconv_Itoa (n : Int) (by omega) (by omega) w ht
  have e : Go.Lib.itoa (n : Int) = decDigits n := by unfold Go.Lib.itoa; rw [if_neg (by omega), Int.toNat_natCast]
  rwa [e] at h
theorem repeatD (l : List UInt8) (n : Nat) (hl : l.length ≤ 10000) (hn : n ≤ 10000) : PCalls Tryd.prog 24 [.str l, .int .i64 n] (.str (repeatL l n)) := by
  refine PCalls_strint fun w => ?_
  have hs : (⟨l.toArray⟩ : ByteArray).size = l.length := by simp [ByteArray.size]
  have h := Tryd.strings_Repeat ⟨l.toArray⟩ n w (by omega) (by rw [hs]; exact Nat.le_trans (Nat.mul_le_mul hl hn) (by decide))
  exact h
theorem joinD (ls : List (List UInt8)) (sep : List UInt8) (h0 : 0 < ls.length) (hl : ls.length ≤ 100000) (hj : (Go.Lib.join ls sep).length ≤ 1000000) :
    WCalls Tryd.prog 26 [.osl 1 1048576 0 ls.length, .str sep] (strs ls) (.str (Go.Lib.join ls sep)) (strs ls) := by
  refine WCalls_join h0 fun bk c w hc hb hcap => ?_
  have e1 : (ls.map fun l => (⟨l.toArray⟩ : ByteArray)).map (·.data.toList) = ls := by
    rw [List.map_map]; exact (List.map_congr_left fun l _ => by simp).trans (List.map_id _)
  have h := Tryd.strings_Join bk 0 c (ls.map fun l => (⟨l.toArray⟩ : ByteArray)) ⟨sep.toArray⟩ w hc hb (by simp; omega) (by simpa using hcap) (by rw [e1]; simp only; omega)
  rw [e1, List.length_map] at h
  exact h
theorem reverseD (ls : List (List UInt8)) (h0 : 0 < ls.length) (hl : ls.length ≤ 100000) : WCalls Tryd.prog 25 [.osl 1 1048576 0 ls.length] (strs ls) (.tup []) (strs ls.reverse) :=
  WCalls_reverse h0 fun blk cap w hH => Tryd.slices_Reverse_string blk 0 cap ls w hH (by omega)

/-! ### ref01.Format -/
theorem rFormat_calls (a : List Nat) (ha : a.length ≤ 900) (la : lim a) : PCalls Tryd.prog 10 [.sl 1 (us a)] (.str (decDigits (vn a))) := by
  have c1 := rTake_calls a (by omega) la
  have h1 := vn_len la
  refine PCalls_of isrFormat (by simp [fnrFormat]) ?_
  unfold coderFormat
  generalize vn a = N at *
  repeat (first | (refine W_seq ?_) | (refine W_reg ?_) | (refine W_regd ?_) | (refine W_block ?_) | (refine And.intro (by omega) ?_) | simp (config := {maxSteps := 1000000}) (disch := omega) only [cA, cB, lk, lkH, Dst.onT, Dst.onX, Dst.slot, setF, setH, mapF, mapH, initF, binE, unE, cnt, boundE, newsE, freshE, opE, rmH, blkQ, frz_us, Nat.reduceEqDiff, Nat.reduceLT, Nat.reduceAdd, ↓reduceIte, reduceCtorEq, Nat.reduceLeDiff] | (refine callC_pure (c1) rfl ?_) | exact W_ret (RetP_1 (.imm rfl)) | exact W_ret (RetP_c rfl rfl rfl (.imm rfl)))
  refine W_loop (σ := Nat × List UInt8) (fun s => [(0, .sl 1 (us (limbs s.1))), (3, .str s.2)]) (fun _ => []) (fun s => decDigits s.1 ++ s.2 = decDigits N ∧ (limbs s.1).length ≤ 900) (fun s => s.1) (N, []) ⟨by simp, Nat.le_trans h1 ha⟩ ?_ rfl ?_
  · simp [subF, lk]
  · rintro ⟨n, s⟩ ⟨hs, hl⟩
    simp only at hs hl ⊢
    have l10 : [DV.int .u32 10] = us (limbs 10) := by rw [limbs_one (by decide) (by decide)]; rfl
    have c2 := rDivL n 10 (by omega) (by rw [limbs_one (by decide) (by decide)]; simp)
    have em : dmod n 10 = n % 10 := by unfold dmod; rw [if_neg (by decide)]
    rw [em, decide_eq_true (show 0 < 10 by decide)] at c2
    have hd : n % 10 < 10 := Nat.mod_lt _ (by decide)
    have c3 := rLimb_calls (limbs (n % 10)) 0 (by have := limbs_len.2 (show n % 10 < 4294967296 ^ 1 by omega); omega) (lim_limbs _)
    have eg : (limbs (n % 10)).getD 0 0 = n % 10 := by
      by_cases h0 : n % 10 = 0
      · rw [h0, limbs_zero]; rfl
      · rw [limbs_one (by omega) (by omega)]; rfl
    rw [eg] at c3
    have e8 : ((48 : Int) + ((n % 10 : Nat) : Int)) = ((48 + n % 10 : Nat) : Int) := by omega
    have eb : bytesOf [DV.int .u8 ((48 + n % 10 : Nat) : Int)] = some [UInt8.ofNat (48 + n % 10)] := by
      show some [UInt8.ofNat (((48 + n % 10 : Nat) : Int)).toNat] = _
      rw [Int.toNat_natCast]
    have hn2 := dd_limbs (Nat.le_trans h1 ha)
    have hsl := congrArg List.length hs
    rw [List.length_append] at hsl
    have e1 : ∀ l : List UInt8, [UInt8.ofNat (48 + n % 10)] ++ l = UInt8.ofNat (48 + n % 10) :: l := fun _ => rfl
    by_cases hq : n < 10
    · have h0 : (limbs (n / 10)).length = 0 := by rw [Nat.div_eq_of_lt hq, limbs_zero]; rfl
      have hf : UInt8.ofNat (48 + n % 10) :: s = decDigits N := by rw [← hs, dd_lt hq, Nat.mod_eq_of_lt hq]; rfl
      repeat (first | (refine W_seq ?_) | (refine W_reg ?_) | (refine W_regd ?_) | (refine W_block ?_) | (refine And.intro (by omega) ?_) | simp (config := {maxSteps := 1000000}) (disch := omega) only [cA, cB, lk, lkH, Dst.onT, Dst.onX, Dst.slot, setF, setH, mapF, mapH, initF, binE, unE, cnt, boundE, newsE, freshE, opE, rmH, blkQ, frz_us, Nat.reduceEqDiff, Nat.reduceLT, Nat.reduceAdd, ↓reduceIte, reduceCtorEq, Nat.reduceLeDiff, l10, us_rfd, e8, eb, List.mem_singleton, forall_eq, DV.rf, us_length, h0, e1, hf] | (refine callC_pure (c2) rfl ?_) | (refine callC_pure (c3) rfl ?_) | exact W_ret (RetP_1 (.imm rfl)) | exact W_ret (RetP_c rfl rfl rfl (.imm rfl)))
      refine W_cond rfl (fun _ => ?_) (fun h => by simp at h)
      repeat (first | (refine W_seq ?_) | (refine W_reg ?_) | (refine W_regd ?_) | (refine W_block ?_) | (refine And.intro (by omega) ?_) | simp (config := {maxSteps := 1000000}) (disch := omega) only [cA, cB, lk, lkH, Dst.onT, Dst.onX, Dst.slot, setF, setH, mapF, mapH, initF, binE, unE, cnt, boundE, newsE, freshE, opE, rmH, blkQ, frz_us, Nat.reduceEqDiff, Nat.reduceLT, Nat.reduceAdd, ↓reduceIte, reduceCtorEq, Nat.reduceLeDiff])
      exact W_ret (RetP_1 (.imm rfl))
    · have hl2 : (limbs (n / 10)).length ≤ 900 := Nat.le_trans (len_mono (Nat.div_le_self n 10)) hl
      have h0 : decide (((limbs (n / 10)).length : Int) = 0) = false := decide_eq_false fun h => by
        have := (limbs_len (n := n / 10) (k := 0)).1 (by omega)
        rw [Nat.pow_zero] at this
        omega
      have hf : decDigits (n / 10) ++ (UInt8.ofNat (48 + n % 10) :: s) = decDigits N := by rw [← hs, dd_ge hq, List.append_assoc]; rfl
      repeat (first | (refine W_seq ?_) | (refine W_reg ?_) | (refine W_regd ?_) | (refine W_block ?_) | (refine And.intro (by omega) ?_) | simp (config := {maxSteps := 1000000}) (disch := omega) only [cA, cB, lk, lkH, Dst.onT, Dst.onX, Dst.slot, setF, setH, mapF, mapH, initF, binE, unE, cnt, boundE, newsE, freshE, opE, rmH, blkQ, frz_us, Nat.reduceEqDiff, Nat.reduceLT, Nat.reduceAdd, ↓reduceIte, reduceCtorEq, Nat.reduceLeDiff, l10, us_rfd, e8, eb, List.mem_singleton, forall_eq, DV.rf, us_length, h0, e1] | (refine callC_pure (c2) rfl ?_) | (refine callC_pure (c3) rfl ?_) | exact W_ret (RetP_1 (.imm rfl)) | exact W_ret (RetP_c rfl rfl rfl (.imm rfl)))
      refine W_cond rfl (fun h => by cases h) (fun _ => W_skip ?_)
      repeat (first | (refine W_seq ?_) | (refine W_reg ?_) | (refine W_regd ?_) | (refine W_block ?_) | (refine And.intro (by omega) ?_) | simp (config := {maxSteps := 1000000}) (disch := omega) only [cA, cB, lk, lkH, Dst.onT, Dst.onX, Dst.slot, setF, setH, mapF, mapH, initF, binE, unE, cnt, boundE, newsE, freshE, opE, rmH, blkQ, frz_us, Nat.reduceEqDiff, Nat.reduceLT, Nat.reduceAdd, ↓reduceIte, reduceCtorEq, Nat.reduceLeDiff])
      exact ⟨(n / 10, UInt8.ofNat (48 + n % 10) :: s), And.intro hf hl2, Nat.div_lt_self (by omega) (by decide), by simp [subF, lk]⟩

/-! ### natural.Format -/
theorem join_flat (ls : List (List UInt8)) : Go.Lib.join ls [] = ls.flatten := by
  unfold Go.Lib.join List.intercalate
  induction ls with
  | nil => rfl
  | cons a l ih =>
    cases l with
    | nil => rfl
    | cons b l => rw [List.intersperse_cons_cons, List.flatten_cons, List.flatten_cons, ih]; rfl
def gsD (gs : List (List UInt8)) : DV := if gs = [] then .nils else .osl 1 35 0 gs.length
def gsH (gs : List (List UInt8)) : Hp := if gs = [] then [] else [(35, strs gs)]
theorem gsD_snoc (gs : List (List UInt8)) (g : List UInt8) : gsD (gs ++ [g]) = .osl 1 35 0 (gs.length + 1) := by unfold gsD; rw [if_neg (by simp)]; simp
theorem gsH_snoc (gs : List (List UInt8)) (g : List UInt8) : gsH (gs ++ [g]) = [(35, strs (gs ++ [g]))] := by unfold gsH; rw [if_neg (by simp)]
theorem grp_ne (n : Nat) : 0 < (grp n).length := by
  unfold grp
  have := List.length_pos_iff.2 (dd_ne (n % 1000000000))
  split
  · exact this
  · rw [List.length_append]; omega

set_option maxHeartbeats 1000000 in
theorem nFormat_calls (a : List Nat) (ha : a.length ≤ 900) (la : lim a) : PCalls Tryd.prog 9 [.sl 1 (us a)] (.str (decDigits (vn a))) := by
  have c1 := nValue_calls a (by omega) la
  have h1 := vn_len la
  refine PCalls_of isnFormat (by simp [fnnFormat]) ?_
  unfold codenFormat
  generalize vn a = N at *
  by_cases hN : N = 0
  · subst hN
    have h0 : (limbs 0).length = 0 := by rw [limbs_zero]; rfl
    repeat (first | (refine W_seq ?_) | (refine W_reg ?_) | (refine W_regd ?_) | (refine W_block ?_) | (refine And.intro (by omega) ?_) | simp (config := {maxSteps := 1000000}) (disch := omega) only [cA, cB, lk, lkH, Dst.onT, Dst.onX, Dst.slot, setF, setH, mapF, mapH, initF, binE, unE, cnt, boundE, newsE, freshE, opE, rmH, blkQ, frz_us, Nat.reduceEqDiff, Nat.reduceLT, Nat.reduceAdd, ↓reduceIte, reduceCtorEq, Nat.reduceLeDiff, us_length, h0] | (refine callC_pure (c1) rfl ?_) | exact W_ret (RetP_1 (.imm rfl)) | exact W_ret (RetP_c rfl rfl rfl (.imm rfl)))
    refine W_cond rfl (fun _ => ?_) (fun h => by simp at h)
    have e0 : decDigits 0 = [48] := by rw [dd_lt (by decide)]; rfl
    rw [e0]
    repeat (first | (refine W_seq ?_) | (refine W_reg ?_) | (refine W_regd ?_) | (refine W_block ?_) | (refine And.intro (by omega) ?_) | simp (config := {maxSteps := 1000000}) (disch := omega) only [cA, cB, lk, lkH, Dst.onT, Dst.onX, Dst.slot, setF, setH, mapF, mapH, initF, binE, unE, cnt, boundE, newsE, freshE, opE, rmH, blkQ, frz_us, Nat.reduceEqDiff, Nat.reduceLT, Nat.reduceAdd, ↓reduceIte, reduceCtorEq, Nat.reduceLeDiff])
    exact W_ret (RetP_1 (.imm rfl))
  · have h0 : decide (((limbs N).length : Int) = 0) = false := decide_eq_false fun h => by
      have := (limbs_len (n := N) (k := 0)).1 (by omega)
      rw [Nat.pow_zero] at this
      omega
    repeat (first | (refine W_seq ?_) | (refine W_reg ?_) | (refine W_regd ?_) | (refine W_block ?_) | (refine And.intro (by omega) ?_) | simp (config := {maxSteps := 1000000}) (disch := omega) only [cA, cB, lk, lkH, Dst.onT, Dst.onX, Dst.slot, setF, setH, mapF, mapH, initF, binE, unE, cnt, boundE, newsE, freshE, opE, rmH, blkQ, frz_us, Nat.reduceEqDiff, Nat.reduceLT, Nat.reduceAdd, ↓reduceIte, reduceCtorEq, Nat.reduceLeDiff, us_length, h0] | (refine callC_pure (c1) rfl ?_) | exact W_ret (RetP_1 (.imm rfl)) | exact W_ret (RetP_c rfl rfl rfl (.imm rfl)))
    refine W_cond rfl (fun h => by cases h) (fun _ => W_skip ?_)
    repeat (first | (refine W_seq ?_) | (refine W_reg ?_) | (refine W_regd ?_) | (refine W_block ?_) | (refine And.intro (by omega) ?_) | simp (config := {maxSteps := 1000000}) (disch := omega) only [cA, cB, lk, lkH, Dst.onT, Dst.onX, Dst.slot, setF, setH, mapF, mapH, initF, binE, unE, cnt, boundE, newsE, freshE, opE, rmH, blkQ, frz_us, Nat.reduceEqDiff, Nat.reduceLT, Nat.reduceAdd, ↓reduceIte, reduceCtorEq, Nat.reduceLeDiff])
    have hdl := dd_limbs (Nat.le_trans h1 ha)
    have hE : ddE N = decDigits N := by unfold ddE; rw [if_neg hN]
    refine W_loop (σ := Nat × List (List UInt8)) (fun s => [(0, .sl 1 (us (limbs s.1))), (3, gsD s.2)]) (fun s => gsH s.2) (fun s => ddE s.1 ++ s.2.reverse.flatten = ddE N ∧ (limbs s.1).length ≤ 900 ∧ s.2.length ≤ s.2.reverse.flatten.length) (fun s => s.1) (N, []) ⟨by simp, Nat.le_trans h1 ha, by simp⟩ ?_ rfl ?_
    · simp [subF, lk, gsD]
    · rintro ⟨n, gs⟩ ⟨hs, hl, hg⟩
      simp only at hs hl hg ⊢
      have hsl := congrArg List.length hs
      rw [List.length_append, hE] at hsl
      by_cases hn : n = 0
      · subst hn
        have h00 : (limbs 0).length = 0 := by rw [limbs_zero]; rfl
        have hgs : gs ≠ [] := by
          rintro rfl
          rw [hE] at hs
          exact dd_ne N (by rw [← hs]; simp [ddE])
        have hgl : 0 < gs.length := List.length_pos_iff.2 hgs
        have hres : Go.Lib.join gs.reverse [] = decDigits N := by rw [join_flat, ← hE, ← hs]; simp [ddE]
        have c2 := reverseD gs hgl (by omega)
        have c3 := joinD gs.reverse [] (by simpa using hgl) (by simp; omega) (by rw [hres]; omega)
        rw [hres, List.length_reverse] at c3
        have ed : gsD gs = .osl 1 35 0 gs.length := by unfold gsD; rw [if_neg hgs]
        have eh : gsH gs = [(35, strs gs)] := by unfold gsH; rw [if_neg hgs]
        have hrf : (strs gs).all DV.rf = true := by simp [strs, DV.rf]
        have hrf2 : (strs gs.reverse).all DV.rf = true := by simp [strs, DV.rf]
        have hne : strs gs ≠ [] := by simpa [strs] using hgs
        have hne2 : strs gs.reverse ≠ [] := by simpa [strs] using hgs
        rw [ed, eh]
        repeat (first | (refine W_seq ?_) | (refine W_reg ?_) | (refine W_regd ?_) | (refine W_block ?_) | (refine And.intro (by omega) ?_) | simp (config := {maxSteps := 1000000}) (disch := omega) only [cA, cB, lk, lkH, Dst.onT, Dst.onX, Dst.slot, setF, setH, mapF, mapH, initF, binE, unE, cnt, boundE, newsE, freshE, opE, rmH, blkQ, frz_us, Nat.reduceEqDiff, Nat.reduceLT, Nat.reduceAdd, ↓reduceIte, reduceCtorEq, Nat.reduceLeDiff, us_length, h00])
        refine W_cond rfl (fun h => by simp at h) (fun _ => W_exit ?_)
        repeat (first | (refine W_seq ?_) | (refine W_reg ?_) | (refine W_regd ?_) | (refine W_block ?_) | (refine And.intro (by omega) ?_) | simp (config := {maxSteps := 1000000}) (disch := omega) only [cA, cB, lk, lkH, Dst.onT, Dst.onX, Dst.slot, setF, setH, mapF, mapH, initF, binE, unE, cnt, boundE, newsE, freshE, opE, rmH, blkQ, frz_us, Nat.reduceEqDiff, Nat.reduceLT, Nat.reduceAdd, ↓reduceIte, reduceCtorEq, Nat.reduceLeDiff])
        refine callC_lend rfl 35 (cells := strs gs) (by simp [lkH]) hrf hne c2 ?_
        repeat (first | (refine W_seq ?_) | (refine W_reg ?_) | (refine W_regd ?_) | (refine W_block ?_) | (refine And.intro (by omega) ?_) | simp (config := {maxSteps := 1000000}) (disch := omega) only [cA, cB, lk, lkH, Dst.onT, Dst.onX, Dst.slot, setF, setH, mapF, mapH, initF, binE, unE, cnt, boundE, newsE, freshE, opE, rmH, blkQ, frz_us, Nat.reduceEqDiff, Nat.reduceLT, Nat.reduceAdd, ↓reduceIte, reduceCtorEq, Nat.reduceLeDiff])
        refine callC_lend rfl 35 (cells := strs gs.reverse) (by simp [lkH, setH]) hrf2 hne2 c3 ?_
        repeat (first | (refine W_seq ?_) | (refine W_reg ?_) | (refine W_regd ?_) | (refine W_block ?_) | (refine And.intro (by omega) ?_) | simp (config := {maxSteps := 1000000}) (disch := omega) only [cA, cB, lk, lkH, Dst.onT, Dst.onX, Dst.slot, setF, setH, mapF, mapH, initF, binE, unE, cnt, boundE, newsE, freshE, opE, rmH, blkQ, frz_us, Nat.reduceEqDiff, Nat.reduceLT, Nat.reduceAdd, ↓reduceIte, reduceCtorEq, Nat.reduceLeDiff])
        exact W_ret (RetP_1 (.imm rfl))
      · have hlp : decide ((0 : Int) < (limbs n).length) = true := decide_eq_true (by
          have := (limbs_len (n := n) (k := 0))
          rw [Nat.pow_zero] at this
          omega)
        have hr : n % 1000000000 < 1000000000 := Nat.mod_lt _ (by decide)
        have c2 := nShort_calls n 1000000000 (by omega) (by decide) (by decide)
        have c3 := scItoaD (n % 1000000000) (by omega)
        have hs2 : ddE (n / 1000000000) ++ (gs ++ [grp n]).reverse.flatten = ddE N := by
          rw [← hs, ddE_step (by omega : 0 < n)]; simp
        have hl2 : (limbs (n / 1000000000)).length ≤ 900 := Nat.le_trans (len_mono (Nat.div_le_self _ _)) hl
        have hg2 : (gs ++ [grp n]).length ≤ (gs ++ [grp n]).reverse.flatten.length := by
          have := grp_ne n
          simp only [List.length_append, List.length_singleton, List.reverse_append, List.reverse_singleton, List.singleton_append, List.flatten_cons]
          omega
        have hmu : n / 1000000000 < n := Nat.div_lt_self (by omega) (by decide)
        have hgl : gs.length ≤ 10000 := by omega
        have hrl : (decDigits (n % 1000000000)).length ≤ 9 := dd_len (k := 8) hr
        by_cases hq : n / 1000000000 = 0
        · have h00 : (limbs (n / 1000000000)).length = 0 := by rw [hq, limbs_zero]; rfl
          have hgr : grp n = decDigits (n % 1000000000) := by unfold grp; rw [if_pos hq]
          rw [← hgr] at c3
          have hcat : True = True := rfl
          by_cases he : gs = []
          · subst he
            clear hs hg hsl c1 hdl hE
            (replace hs2 := Hid.mk hs2; replace hg2 := Hid.mk hg2; replace hl2 := Hid.mk hl2; replace hmu := Hid.mk hmu)
            repeat (first | (refine W_seq ?_) | (refine W_reg ?_) | (refine W_regd ?_) | (refine W_block ?_) | (refine And.intro (by omega) ?_) | simp (config := {maxSteps := 1000000}) (disch := omega) only [cA, cB, lk, lkH, Dst.onT, Dst.onX, Dst.slot, setF, setH, mapF, mapH, initF, binE, unE, cnt, boundE, newsE, freshE, opE, rmH, blkQ, frz_us, Nat.reduceEqDiff, Nat.reduceLT, Nat.reduceAdd, ↓reduceIte, reduceCtorEq, Nat.reduceLeDiff, us_length, hlp, gsD, gsH])
            refine W_cond rfl (fun _ => W_skip ?_) (fun h => by cases h)
            repeat (first | (refine W_seq ?_) | (refine W_reg ?_) | (refine W_regd ?_) | (refine W_block ?_) | (refine And.intro (by omega) ?_) | simp (config := {maxSteps := 1000000}) (disch := omega) only [cA, cB, lk, lkH, Dst.onT, Dst.onX, Dst.slot, setF, setH, mapF, mapH, initF, binE, unE, cnt, boundE, newsE, freshE, opE, rmH, blkQ, frz_us, Nat.reduceEqDiff, Nat.reduceLT, Nat.reduceAdd, ↓reduceIte, reduceCtorEq, Nat.reduceLeDiff] | (refine callC_pure (c2) rfl ?_) | (refine callC_pure (c3) rfl ?_) | exact W_ret (RetP_1 (.imm rfl)) | exact W_ret (RetP_c rfl rfl rfl (.imm rfl)))
            repeat (first | (refine W_seq ?_) | (refine W_reg ?_) | (refine W_regd ?_) | (refine W_block ?_) | (refine And.intro (by omega) ?_) | simp (config := {maxSteps := 1000000}) (disch := omega) only [cA, cB, lk, lkH, Dst.onT, Dst.onX, Dst.slot, setF, setH, mapF, mapH, initF, binE, unE, cnt, boundE, newsE, freshE, opE, rmH, blkQ, frz_us, Nat.reduceEqDiff, Nat.reduceLT, Nat.reduceAdd, ↓reduceIte, reduceCtorEq, Nat.reduceLeDiff, us_length, h00])
            refine W_cond rfl (fun h => by simp at h) (fun _ => W_skip ?_)
            repeat (first | (refine W_seq ?_) | (refine W_reg ?_) | (refine W_regd ?_) | (refine W_block ?_) | (refine And.intro (by omega) ?_) | simp (config := {maxSteps := 1000000}) (disch := omega) only [cA, cB, lk, lkH, Dst.onT, Dst.onX, Dst.slot, setF, setH, mapF, mapH, initF, binE, unE, cnt, boundE, newsE, freshE, opE, rmH, blkQ, frz_us, Nat.reduceEqDiff, Nat.reduceLT, Nat.reduceAdd, ↓reduceIte, reduceCtorEq, Nat.reduceLeDiff, laid_str, newsE, cS, DV.rf, List.mem_singleton, forall_eq, nbnFormat, hcat])
            exact ⟨(n / 1000000000, [] ++ [grp n]), And.intro hs2.out (And.intro hl2.out hg2.out), hmu.out, by simp [subF, lk], by simp [strs]⟩
          · have ed : gsD gs = .osl 1 35 0 gs.length := by unfold gsD; rw [if_neg he]
            have eh : gsH gs = [(35, strs gs)] := by unfold gsH; rw [if_neg he]
            have hsn : (strs gs).length = gs.length := by simp [strs]
            have hpu : (strs gs ++ [DV.str (grp n)]).map (purge 35) = strs (gs ++ [grp n]) := by
              simp only [strs, List.map_append, List.map_map, List.map_singleton]
              rfl
            rw [ed, eh]
            clear hs hg hsl c1 hdl hE
            (replace hs2 := Hid.mk hs2; replace hg2 := Hid.mk hg2; replace hl2 := Hid.mk hl2; replace hmu := Hid.mk hmu)
            repeat (first | (refine W_seq ?_) | (refine W_reg ?_) | (refine W_regd ?_) | (refine W_block ?_) | (refine And.intro (by omega) ?_) | simp (config := {maxSteps := 1000000}) (disch := omega) only [cA, cB, lk, lkH, Dst.onT, Dst.onX, Dst.slot, setF, setH, mapF, mapH, initF, binE, unE, cnt, boundE, newsE, freshE, opE, rmH, blkQ, frz_us, Nat.reduceEqDiff, Nat.reduceLT, Nat.reduceAdd, ↓reduceIte, reduceCtorEq, Nat.reduceLeDiff, us_length, hlp])
            refine W_cond rfl (fun _ => W_skip ?_) (fun h => by cases h)
            repeat (first | (refine W_seq ?_) | (refine W_reg ?_) | (refine W_regd ?_) | (refine W_block ?_) | (refine And.intro (by omega) ?_) | simp (config := {maxSteps := 1000000}) (disch := omega) only [cA, cB, lk, lkH, Dst.onT, Dst.onX, Dst.slot, setF, setH, mapF, mapH, initF, binE, unE, cnt, boundE, newsE, freshE, opE, rmH, blkQ, frz_us, Nat.reduceEqDiff, Nat.reduceLT, Nat.reduceAdd, ↓reduceIte, reduceCtorEq, Nat.reduceLeDiff] | (refine callC_pure (c2) rfl ?_) | (refine callC_pure (c3) rfl ?_) | exact W_ret (RetP_1 (.imm rfl)) | exact W_ret (RetP_c rfl rfl rfl (.imm rfl)))
            repeat (first | (refine W_seq ?_) | (refine W_reg ?_) | (refine W_regd ?_) | (refine W_block ?_) | (refine And.intro (by omega) ?_) | simp (config := {maxSteps := 1000000}) (disch := omega) only [cA, cB, lk, lkH, Dst.onT, Dst.onX, Dst.slot, setF, setH, mapF, mapH, initF, binE, unE, cnt, boundE, newsE, freshE, opE, rmH, blkQ, frz_us, Nat.reduceEqDiff, Nat.reduceLT, Nat.reduceAdd, ↓reduceIte, reduceCtorEq, Nat.reduceLeDiff, us_length, h00])
            refine W_cond rfl (fun h => by simp at h) (fun _ => W_skip ?_)
            repeat (first | (refine W_seq ?_) | (refine W_reg ?_) | (refine W_regd ?_) | (refine W_block ?_) | (refine And.intro (by omega) ?_) | simp (config := {maxSteps := 1000000}) (disch := omega) only [cA, cB, lk, lkH, Dst.onT, Dst.onX, Dst.slot, setF, setH, mapF, mapH, initF, binE, unE, cnt, boundE, newsE, freshE, opE, rmH, blkQ, frz_us, Nat.reduceEqDiff, Nat.reduceLT, Nat.reduceAdd, ↓reduceIte, reduceCtorEq, Nat.reduceLeDiff, laid_str, newsE, cS, DV.rf, List.mem_singleton, forall_eq, nbnFormat, hcat, hsn, hpu, List.length_singleton])
            exact ⟨(n / 1000000000, gs ++ [grp n]), And.intro hs2.out (And.intro hl2.out hg2.out), hmu.out, by simp [subF, lk, gsD_snoc], by rw [gsH_snoc]⟩
        · have h00 : decide ((0 : Int) < ((limbs (n / 1000000000)).length : Int)) = true := decide_eq_true (by
            have := (limbs_len (n := n / 1000000000) (k := 0))
            rw [Nat.pow_zero] at this
            omega)
          have hcat : repeatL [48] (9 - (decDigits (n % 1000000000)).length) ++ decDigits (n % 1000000000) = grp n := by unfold grp; rw [if_neg hq]
          have c4 := repeatD [48] (9 - (decDigits (n % 1000000000)).length) (by decide) (by omega)
          have hrp : (repeatL [48] (9 - (decDigits (n % 1000000000)).length)).length = 9 - (decDigits (n % 1000000000)).length := by rw [rep_len]; simp
          have e9 : (9 : Int) - ((decDigits (n % 1000000000)).length : Int) = ((9 - (decDigits (n % 1000000000)).length : Nat) : Int) := by omega
          by_cases he : gs = []
          · subst he
            clear hs hg hsl c1 hdl hE
            (replace hs2 := Hid.mk hs2; replace hg2 := Hid.mk hg2; replace hl2 := Hid.mk hl2; replace hmu := Hid.mk hmu)
            repeat (first | (refine W_seq ?_) | (refine W_reg ?_) | (refine W_regd ?_) | (refine W_block ?_) | (refine And.intro (by omega) ?_) | simp (config := {maxSteps := 1000000}) (disch := omega) only [cA, cB, lk, lkH, Dst.onT, Dst.onX, Dst.slot, setF, setH, mapF, mapH, initF, binE, unE, cnt, boundE, newsE, freshE, opE, rmH, blkQ, frz_us, Nat.reduceEqDiff, Nat.reduceLT, Nat.reduceAdd, ↓reduceIte, reduceCtorEq, Nat.reduceLeDiff, us_length, hlp, gsD, gsH])
            refine W_cond rfl (fun _ => W_skip ?_) (fun h => by cases h)
            repeat (first | (refine W_seq ?_) | (refine W_reg ?_) | (refine W_regd ?_) | (refine W_block ?_) | (refine And.intro (by omega) ?_) | simp (config := {maxSteps := 1000000}) (disch := omega) only [cA, cB, lk, lkH, Dst.onT, Dst.onX, Dst.slot, setF, setH, mapF, mapH, initF, binE, unE, cnt, boundE, newsE, freshE, opE, rmH, blkQ, frz_us, Nat.reduceEqDiff, Nat.reduceLT, Nat.reduceAdd, ↓reduceIte, reduceCtorEq, Nat.reduceLeDiff] | (refine callC_pure (c2) rfl ?_) | (refine callC_pure (c3) rfl ?_) | exact W_ret (RetP_1 (.imm rfl)) | exact W_ret (RetP_c rfl rfl rfl (.imm rfl)))
            repeat (first | (refine W_seq ?_) | (refine W_reg ?_) | (refine W_regd ?_) | (refine W_block ?_) | (refine And.intro (by omega) ?_) | simp (config := {maxSteps := 1000000}) (disch := omega) only [cA, cB, lk, lkH, Dst.onT, Dst.onX, Dst.slot, setF, setH, mapF, mapH, initF, binE, unE, cnt, boundE, newsE, freshE, opE, rmH, blkQ, frz_us, Nat.reduceEqDiff, Nat.reduceLT, Nat.reduceAdd, ↓reduceIte, reduceCtorEq, Nat.reduceLeDiff, us_length, h00])
            refine W_cond rfl (fun _ => ?_) (fun h => by cases h)
            repeat (first | (refine W_seq ?_) | (refine W_reg ?_) | (refine W_regd ?_) | (refine W_block ?_) | (refine And.intro (by omega) ?_) | simp (config := {maxSteps := 1000000}) (disch := omega) only [cA, cB, lk, lkH, Dst.onT, Dst.onX, Dst.slot, setF, setH, mapF, mapH, initF, binE, unE, cnt, boundE, newsE, freshE, opE, rmH, blkQ, frz_us, Nat.reduceEqDiff, Nat.reduceLT, Nat.reduceAdd, ↓reduceIte, reduceCtorEq, Nat.reduceLeDiff, e9] | (refine callC_pure (c4) rfl ?_) | exact W_ret (RetP_1 (.imm rfl)) | exact W_ret (RetP_c rfl rfl rfl (.imm rfl)))
            repeat (first | (refine W_seq ?_) | (refine W_reg ?_) | (refine W_regd ?_) | (refine W_block ?_) | (refine And.intro (by omega) ?_) | simp (config := {maxSteps := 1000000}) (disch := omega) only [cA, cB, lk, lkH, Dst.onT, Dst.onX, Dst.slot, setF, setH, mapF, mapH, initF, binE, unE, cnt, boundE, newsE, freshE, opE, rmH, blkQ, frz_us, Nat.reduceEqDiff, Nat.reduceLT, Nat.reduceAdd, ↓reduceIte, reduceCtorEq, Nat.reduceLeDiff, laid_str, newsE, cS, DV.rf, List.mem_singleton, forall_eq, nbnFormat, hcat])
            exact ⟨(n / 1000000000, [] ++ [grp n]), And.intro hs2.out (And.intro hl2.out hg2.out), hmu.out, by simp [subF, lk], by simp [strs]⟩
          · have ed : gsD gs = .osl 1 35 0 gs.length := by unfold gsD; rw [if_neg he]
            have eh : gsH gs = [(35, strs gs)] := by unfold gsH; rw [if_neg he]
            have hsn : (strs gs).length = gs.length := by simp [strs]
            have hpu : (strs gs ++ [DV.str (grp n)]).map (purge 35) = strs (gs ++ [grp n]) := by
              simp only [strs, List.map_append, List.map_map, List.map_singleton]
              rfl
            rw [ed, eh]
            clear hs hg hsl c1 hdl hE
            (replace hs2 := Hid.mk hs2; replace hg2 := Hid.mk hg2; replace hl2 := Hid.mk hl2; replace hmu := Hid.mk hmu)
            repeat (first | (refine W_seq ?_) | (refine W_reg ?_) | (refine W_regd ?_) | (refine W_block ?_) | (refine And.intro (by omega) ?_) | simp (config := {maxSteps := 1000000}) (disch := omega) only [cA, cB, lk, lkH, Dst.onT, Dst.onX, Dst.slot, setF, setH, mapF, mapH, initF, binE, unE, cnt, boundE, newsE, freshE, opE, rmH, blkQ, frz_us, Nat.reduceEqDiff, Nat.reduceLT, Nat.reduceAdd, ↓reduceIte, reduceCtorEq, Nat.reduceLeDiff, us_length, hlp])
            refine W_cond rfl (fun _ => W_skip ?_) (fun h => by cases h)
            repeat (first | (refine W_seq ?_) | (refine W_reg ?_) | (refine W_regd ?_) | (refine W_block ?_) | (refine And.intro (by omega) ?_) | simp (config := {maxSteps := 1000000}) (disch := omega) only [cA, cB, lk, lkH, Dst.onT, Dst.onX, Dst.slot, setF, setH, mapF, mapH, initF, binE, unE, cnt, boundE, newsE, freshE, opE, rmH, blkQ, frz_us, Nat.reduceEqDiff, Nat.reduceLT, Nat.reduceAdd, ↓reduceIte, reduceCtorEq, Nat.reduceLeDiff] | (refine callC_pure (c2) rfl ?_) | (refine callC_pure (c3) rfl ?_) | exact W_ret (RetP_1 (.imm rfl)) | exact W_ret (RetP_c rfl rfl rfl (.imm rfl)))
            repeat (first | (refine W_seq ?_) | (refine W_reg ?_) | (refine W_regd ?_) | (refine W_block ?_) | (refine And.intro (by omega) ?_) | simp (config := {maxSteps := 1000000}) (disch := omega) only [cA, cB, lk, lkH, Dst.onT, Dst.onX, Dst.slot, setF, setH, mapF, mapH, initF, binE, unE, cnt, boundE, newsE, freshE, opE, rmH, blkQ, frz_us, Nat.reduceEqDiff, Nat.reduceLT, Nat.reduceAdd, ↓reduceIte, reduceCtorEq, Nat.reduceLeDiff, us_length, h00])
            refine W_cond rfl (fun _ => ?_) (fun h => by cases h)
            repeat (first | (refine W_seq ?_) | (refine W_reg ?_) | (refine W_regd ?_) | (refine W_block ?_) | (refine And.intro (by omega) ?_) | simp (config := {maxSteps := 1000000}) (disch := omega) only [cA, cB, lk, lkH, Dst.onT, Dst.onX, Dst.slot, setF, setH, mapF, mapH, initF, binE, unE, cnt, boundE, newsE, freshE, opE, rmH, blkQ, frz_us, Nat.reduceEqDiff, Nat.reduceLT, Nat.reduceAdd, ↓reduceIte, reduceCtorEq, Nat.reduceLeDiff, e9] | (refine callC_pure (c4) rfl ?_) | exact W_ret (RetP_1 (.imm rfl)) | exact W_ret (RetP_c rfl rfl rfl (.imm rfl)))
            repeat (first | (refine W_seq ?_) | (refine W_reg ?_) | (refine W_regd ?_) | (refine W_block ?_) | (refine And.intro (by omega) ?_) | simp (config := {maxSteps := 1000000}) (disch := omega) only [cA, cB, lk, lkH, Dst.onT, Dst.onX, Dst.slot, setF, setH, mapF, mapH, initF, binE, unE, cnt, boundE, newsE, freshE, opE, rmH, blkQ, frz_us, Nat.reduceEqDiff, Nat.reduceLT, Nat.reduceAdd, ↓reduceIte, reduceCtorEq, Nat.reduceLeDiff, laid_str, newsE, cS, DV.rf, List.mem_singleton, forall_eq, nbnFormat, hcat, hsn, hpu, List.length_singleton])
            exact ⟨(n / 1000000000, gs ++ [grp n]), And.intro hs2.out (And.intro hl2.out hg2.out), hmu.out, by simp [subF, lk, gsD_snoc], by rw [gsH_snoc]⟩
end Go.Proofs.YtecilkmigjbfoaaDoor
namespace Go.Proofs.YtecilkmigjbfoaaDoor
open Go Go.Dat Go.Proofs Nat32

def parseR (l : List UInt8) : DV := if okD l then .tup [.sl 1 (us (limbs (dval 0 l))), .bool true] else .tup [.sl 1 [], .bool false]
theorem parseR_bad {l : List UInt8} (h : okD l = false) : parseR l = .tup [.sl 1 [], .bool false] := by unfold parseR; rw [h]; rfl
def accD (l : List UInt8) (i : Nat) : DV := if i = 0 then .nils else .sl 1 (us (limbs (dval 0 (l.take i))))
theorem okD_iff (l : List UInt8) : okD l = true ↔ l ≠ [] ∧ l.length ≤ 4000 ∧ ¬ (l.head? = some 48 ∧ 1 < l.length) ∧ l.all isD = true := by
  unfold okD
  cases l with
  | nil => simp
  | cons c l =>
    simp only [List.isEmpty_cons, Bool.false_or, Bool.and_eq_true, Bool.not_eq_true', Bool.or_eq_false_iff, decide_eq_false_iff_not, Bool.and_eq_false_iff]
    constructor
    · rintro ⟨⟨h1, h2⟩, h3⟩
      exact ⟨by simp, by omega, fun h => h2.elim (fun e => e h.1) (fun e => e h.2), h3⟩
    · rintro ⟨_, h1, h2, h3⟩
      refine ⟨⟨by omega, ?_⟩, h3⟩
      by_cases e : (c :: l).head? = some 48
      · exact .inr fun h => h2 ⟨e, h⟩
      · exact .inl e
theorem dval_len {l : List UInt8} (h : l.all isD = true) {m : Nat} (hm : l.length ≤ m) : (limbs (dval 0 l)).length ≤ m :=
  limbs_len.2 (Nat.lt_of_lt_of_le (dval_lt l h) (Nat.le_trans (Nat.pow_le_pow_left (by decide) _) (Nat.pow_le_pow_right (by decide) hm)))
theorem take_all {l : List UInt8} {i : Nat} (hi : i < l.length) (h : (l.take i).all isD = true) (hd : isD l[i] = true) : (l.take (i + 1)).all isD = true := by
  rw [List.take_succ_eq_append_getElem hi, List.all_append, h]; simp [hd]
theorem take_dval {l : List UInt8} {i : Nat} (hi : i < l.length) : dval 0 (l.take (i + 1)) = dval 0 (l.take i) * 10 + (l[i].toNat - 48) := by
  rw [List.take_succ_eq_append_getElem hi, dval_append, dval_cons, dval_nil, Nat.mul_comm]

set_option maxHeartbeats 2000000 in
theorem rParse_calls (l : List UInt8) : PCalls Tryd.prog 8 [.str l] (parseR l) := by
  refine PCalls_of isrParse (by simp [fnrParse]) ?_
  unfold coderParse
  by_cases hn : l = []
  · subst hn
    have hb : okD [] = false := rfl
    rw [parseR_bad hb]
    repeat (first | (refine W_seq ?_) | (refine W_reg ?_) | (refine W_regd ?_) | (refine W_block ?_) | (refine And.intro (by omega) ?_) | simp (config := {maxSteps := 1000000}) (disch := omega) only [cA, cB, lk, lkH, Dst.onT, Dst.onX, Dst.slot, setF, setH, mapF, mapH, initF, binE, unE, cnt, boundE, newsE, freshE, opE, rmH, blkQ, frz_us, Nat.reduceEqDiff, Nat.reduceLT, Nat.reduceAdd, ↓reduceIte, reduceCtorEq, Nat.reduceLeDiff, decide_true])
    refine W_cond rfl (fun _ => ?_) (fun h => by cases h)
    repeat (first | (refine W_seq ?_) | (refine W_reg ?_) | (refine W_regd ?_) | (refine W_block ?_) | (refine And.intro (by omega) ?_) | simp (config := {maxSteps := 1000000}) (disch := omega) only [cA, cB, lk, lkH, Dst.onT, Dst.onX, Dst.slot, setF, setH, mapF, mapH, initF, binE, unE, cnt, boundE, newsE, freshE, opE, rmH, blkQ, frz_us, Nat.reduceEqDiff, Nat.reduceLT, Nat.reduceAdd, ↓reduceIte, reduceCtorEq, Nat.reduceLeDiff])
    exact W_ret (RetP_2 (.nils _) (.imm rfl))
  · have hpos : 0 < l.length := List.length_pos_iff.2 hn
    have dn : decide (l = []) = false := decide_eq_false hn
    by_cases h4 : 4000 < l.length
    · have d4 : decide ((4000 : Int) < l.length) = true := decide_eq_true (by omega)
      have hb : okD l = false := by
        rw [← Bool.not_eq_true, okD_iff]
        exact fun h => by omega
      rw [parseR_bad hb]
      repeat (first | (refine W_seq ?_) | (refine W_reg ?_) | (refine W_regd ?_) | (refine W_block ?_) | (refine And.intro (by omega) ?_) | simp (config := {maxSteps := 1000000}) (disch := omega) only [cA, cB, lk, lkH, Dst.onT, Dst.onX, Dst.slot, setF, setH, mapF, mapH, initF, binE, unE, cnt, boundE, newsE, freshE, opE, rmH, blkQ, frz_us, Nat.reduceEqDiff, Nat.reduceLT, Nat.reduceAdd, ↓reduceIte, reduceCtorEq, Nat.reduceLeDiff, dn, d4])
      refine W_cond rfl (fun _ => ?_) (fun h => by cases h)
      repeat (first | (refine W_seq ?_) | (refine W_reg ?_) | (refine W_regd ?_) | (refine W_block ?_) | (refine And.intro (by omega) ?_) | simp (config := {maxSteps := 1000000}) (disch := omega) only [cA, cB, lk, lkH, Dst.onT, Dst.onX, Dst.slot, setF, setH, mapF, mapH, initF, binE, unE, cnt, boundE, newsE, freshE, opE, rmH, blkQ, frz_us, Nat.reduceEqDiff, Nat.reduceLT, Nat.reduceAdd, ↓reduceIte, reduceCtorEq, Nat.reduceLeDiff])
      exact W_ret (RetP_2 (.nils _) (.imm rfl))
    · have d4 : decide ((4000 : Int) < l.length) = false := decide_eq_false (by omega)
      by_cases hz : l.head? = some 48 ∧ 1 < l.length
      · have hb : okD l = false := by
          rw [← Bool.not_eq_true, okD_iff]
          exact fun h => h.2.2.1 hz
        have d1 : decide ((1 : Int) < l.length) = true := decide_eq_true (by omega)
        have hg : l.getD 0 0 = 48 := by
          cases l with
          | nil => exact absurd rfl hn
          | cons c r => simpa using hz.1
        have e0 : (Int.toNat 0) = 0 := rfl
        have e48 : byteD 48 = .int .u8 48 := rfl
        rw [parseR_bad hb]
        repeat (first | (refine W_seq ?_) | (refine W_reg ?_) | (refine W_regd ?_) | (refine W_block ?_) | (refine And.intro (by omega) ?_) | simp (config := {maxSteps := 1000000}) (disch := omega) only [cA, cB, lk, lkH, Dst.onT, Dst.onX, Dst.slot, setF, setH, mapF, mapH, initF, binE, unE, cnt, boundE, newsE, freshE, opE, rmH, blkQ, frz_us, Nat.reduceEqDiff, Nat.reduceLT, Nat.reduceAdd, ↓reduceIte, reduceCtorEq, Nat.reduceLeDiff, dn, d4, d1, e0, hg, e48])
        refine W_cond rfl (fun _ => ?_) (fun h => by simp at h)
        repeat (first | (refine W_seq ?_) | (refine W_reg ?_) | (refine W_regd ?_) | (refine W_block ?_) | (refine And.intro (by omega) ?_) | simp (config := {maxSteps := 1000000}) (disch := omega) only [cA, cB, lk, lkH, Dst.onT, Dst.onX, Dst.slot, setF, setH, mapF, mapH, initF, binE, unE, cnt, boundE, newsE, freshE, opE, rmH, blkQ, frz_us, Nat.reduceEqDiff, Nat.reduceLT, Nat.reduceAdd, ↓reduceIte, reduceCtorEq, Nat.reduceLeDiff])
        exact W_ret (RetP_2 (.nils _) (.imm rfl))
      · have e0 : (Int.toNat 0) = 0 := rfl
        by_cases h1 : 1 < l.length
        · have d1 : decide ((1 : Int) < l.length) = true := decide_eq_true (by omega)
          have hne : ¬ (l.getD 0 0).toNat = 48 := fun e => hz ⟨by
            cases l with
            | nil => exact absurd rfl hn
            | cons c r => simp only [List.getD_cons_zero] at e; rw [List.head?_cons, ← UInt8.toNat_inj.1 (show c.toNat = (48 : UInt8).toNat from e)], h1⟩
          have ebd : byteD (l.getD 0 0) = .int .u8 ((l.getD 0 0).toNat : Nat) := rfl
          have d2 : decide ((((l.getD 0 0).toNat : Nat) : Int) = 48) = false := decide_eq_false (by omega)
          repeat (first | (refine W_seq ?_) | (refine W_reg ?_) | (refine W_regd ?_) | (refine W_block ?_) | (refine And.intro (by omega) ?_) | simp (config := {maxSteps := 1000000}) (disch := omega) only [cA, cB, lk, lkH, Dst.onT, Dst.onX, Dst.slot, setF, setH, mapF, mapH, initF, binE, unE, cnt, boundE, newsE, freshE, opE, rmH, blkQ, frz_us, Nat.reduceEqDiff, Nat.reduceLT, Nat.reduceAdd, ↓reduceIte, reduceCtorEq, Nat.reduceLeDiff, dn, d4, d1, e0, ebd, d2])
          refine W_cond rfl (fun h => by cases h) (fun _ => W_skip ?_)
          clear hne ebd d2 d1
          repeat (first | (refine W_seq ?_) | (refine W_reg ?_) | (refine W_regd ?_) | (refine W_block ?_) | (refine And.intro (by omega) ?_) | simp (config := {maxSteps := 1000000}) (disch := omega) only [cA, cB, lk, lkH, Dst.onT, Dst.onX, Dst.slot, setF, setH, mapF, mapH, initF, binE, unE, cnt, boundE, newsE, freshE, opE, rmH, blkQ, frz_us, Nat.reduceEqDiff, Nat.reduceLT, Nat.reduceAdd, ↓reduceIte, reduceCtorEq, Nat.reduceLeDiff])
          refine W_loop (σ := Nat) (fun i => [(0, .str l), (2, .nils), (3, .bool false), (4, accD l i), (5, .int .i64 i)]) (fun _ => []) (fun i => i ≤ l.length ∧ (l.take i).all isD = true) (fun i => l.length - i) 0 (And.intro (Nat.zero_le _) rfl) ?_ rfl ?_
          · simp [subF, lk, accD]
          · rintro i ⟨hi, hall⟩
            try simp only at hi hall ⊢
            by_cases hlt : i < l.length
            · have dl : decide ((i : Int) < l.length) = true := decide_eq_true (by omega)
              have ei : (i : Int).toNat = i := Int.toNat_natCast i
              have hgd : l.getD i 0 = l[i] := by rw [List.getD_eq_getElem?_getD, List.getElem?_eq_getElem hlt]; rfl
              have hta := take_all hlt hall
              have htd := take_dval hlt
              have hmem : l[i] ∈ l := List.getElem_mem hlt
              have hdl := dval_len hall (m := 4000) (by simp; omega)
              generalize l[i] = c at *
              have hk : c.toNat < 256 := UInt8.toNat_lt c
              have ebd : byteD c = .int .u8 (c.toNat : Nat) := rfl
              repeat (first | (refine W_seq ?_) | (refine W_reg ?_) | (refine W_regd ?_) | (refine W_block ?_) | (refine And.intro (by omega) ?_) | simp (config := {maxSteps := 1000000}) (disch := omega) only [cA, cB, lk, lkH, Dst.onT, Dst.onX, Dst.slot, setF, setH, mapF, mapH, initF, binE, unE, cnt, boundE, newsE, freshE, opE, rmH, blkQ, frz_us, Nat.reduceEqDiff, Nat.reduceLT, Nat.reduceAdd, ↓reduceIte, reduceCtorEq, Nat.reduceLeDiff, dl])
              refine W_cond rfl (fun _ => W_skip ?_) (fun h => by cases h)
              by_cases hd : isD c = true
              · have hd' := hd
                simp only [isD, Bool.and_eq_true, decide_eq_true_eq] at hd'
                have d5 : decide ((c.toNat : Int) < 48) = false := decide_eq_false (by omega)
                have d6 : decide ((57 : Int) < c.toNat) = false := decide_eq_false (by omega)
                have e7 : IntKind.u8.wrap ((c.toNat : Int) - 48) = ((c.toNat - 48 : Nat) : Int) := by rw [IntKind.wrap_u8]; omega
                have e8 : (c.toNat : Int) - 48 = ((c.toNat - 48 : Nat) : Int) := by omega
                have hta' := hta hd
                have ct : PCalls Tryd.prog 19 [accD l i, .int .u32 10, .int .i64 0] (.sl 1 (us (limbs (dval 0 (l.take i) * 10)))) := by
                  have h := rTimes_calls (dval 0 (l.take i)) 10 0 (by omega) (by decide) (by decide)
                  rw [Nat.pow_zero, Nat.one_mul] at h
                  unfold accD
                  split
                  · rename_i h0
                    subst h0
                    refine PCalls_nz 1 ?_
                    rw [List.take_zero, dval_nil, Nat.zero_mul, limbs_zero] at h
                    rw [List.take_zero, dval_nil, Nat.zero_mul, limbs_zero]
                    exact h
                  · exact h
                have cf := rFromUint_calls (c.toNat - 48) (by omega)
                have hm10 := len_mul hdl (show (limbs 10).length ≤ 1 by rw [limbs_one (by decide) (by decide)]; simp)
                have ca := rAddL (dval 0 (l.take i) * 10) (c.toNat - 48) (by omega) (Nat.le_trans (limbs_len.2 (show c.toNat - 48 < 4294967296 ^ 1 by omega)) (by decide))
                rw [← htd] at ca
                have hac : accD l (i + 1) = .sl 1 (us (limbs (dval 0 (l.take (i + 1))))) := by unfold accD; rw [if_neg (by omega)]
                rw [← hac] at ca
                have i1 : ((i : Int) + 1) = ((i + 1 : Nat) : Int) := by omega
                have hacc : accD l i = .nils ∨ ∃ xs, accD l i = .sl 1 xs := by
                  unfold accD
                  split
                  · exact .inl rfl
                  · exact .inr ⟨_, rfl⟩
                clear hta htd hdl hm10 hall hd hac
                (replace hta' := Hid.mk hta')
                repeat (first | (refine W_seq ?_) | (refine W_reg ?_) | (refine W_regd ?_) | (refine W_block ?_) | (refine And.intro (by omega) ?_) | simp (config := {maxSteps := 1000000}) (disch := omega) only [cA, cB, lk, lkH, Dst.onT, Dst.onX, Dst.slot, setF, setH, mapF, mapH, initF, binE, unE, cnt, boundE, newsE, freshE, opE, rmH, blkQ, frz_us, Nat.reduceEqDiff, Nat.reduceLT, Nat.reduceAdd, ↓reduceIte, reduceCtorEq, Nat.reduceLeDiff, ei, hgd, ebd, d5, d6])
                refine W_cond rfl (fun h => by cases h) (fun _ => W_skip ?_)
                rcases hacc with e | ⟨xs, e⟩
                · rw [e] at ct ⊢
                  repeat (first | (refine W_seq ?_) | (refine W_reg ?_) | (refine W_regd ?_) | (refine W_block ?_) | (refine And.intro (by omega) ?_) | simp (config := {maxSteps := 1000000}) (disch := omega) only [cA, cB, lk, lkH, Dst.onT, Dst.onX, Dst.slot, setF, setH, mapF, mapH, initF, binE, unE, cnt, boundE, newsE, freshE, opE, rmH, blkQ, frz_us, Nat.reduceEqDiff, Nat.reduceLT, Nat.reduceAdd, ↓reduceIte, reduceCtorEq, Nat.reduceLeDiff, ei, hgd, ebd, e7, e8, i1] | (refine callC_pure (ct) rfl ?_) | (refine callC_pure (cf) rfl ?_) | (refine callC_pure (ca) rfl ?_) | exact W_ret (RetP_1 (.imm rfl)) | exact W_ret (RetP_c rfl rfl rfl (.imm rfl)))
                  exact ⟨i + 1, And.intro hlt hta'.out, by omega, by simp [subF, lk]⟩
                · rw [e] at ct ⊢
                  repeat (first | (refine W_seq ?_) | (refine W_reg ?_) | (refine W_regd ?_) | (refine W_block ?_) | (refine And.intro (by omega) ?_) | simp (config := {maxSteps := 1000000}) (disch := omega) only [cA, cB, lk, lkH, Dst.onT, Dst.onX, Dst.slot, setF, setH, mapF, mapH, initF, binE, unE, cnt, boundE, newsE, freshE, opE, rmH, blkQ, frz_us, Nat.reduceEqDiff, Nat.reduceLT, Nat.reduceAdd, ↓reduceIte, reduceCtorEq, Nat.reduceLeDiff, ei, hgd, ebd, e7, e8, i1] | (refine callC_pure (ct) rfl ?_) | (refine callC_pure (cf) rfl ?_) | (refine callC_pure (ca) rfl ?_) | exact W_ret (RetP_1 (.imm rfl)) | exact W_ret (RetP_c rfl rfl rfl (.imm rfl)))
                  exact ⟨i + 1, And.intro hlt hta'.out, by omega, by simp [subF, lk]⟩
              · have hb : okD l = false := by
                  rw [← Bool.not_eq_true, okD_iff]
                  exact fun h => hd (List.all_eq_true.1 h.2.2.2 c hmem)
                rw [parseR_bad hb]
                clear hta htd hall hdl
                by_cases h5 : c.toNat < 48
                · have d5 : decide ((c.toNat : Int) < 48) = true := decide_eq_true (by omega)
                  repeat (first | (refine W_seq ?_) | (refine W_reg ?_) | (refine W_regd ?_) | (refine W_block ?_) | (refine And.intro (by omega) ?_) | simp (config := {maxSteps := 1000000}) (disch := omega) only [cA, cB, lk, lkH, Dst.onT, Dst.onX, Dst.slot, setF, setH, mapF, mapH, initF, binE, unE, cnt, boundE, newsE, freshE, opE, rmH, blkQ, frz_us, Nat.reduceEqDiff, Nat.reduceLT, Nat.reduceAdd, ↓reduceIte, reduceCtorEq, Nat.reduceLeDiff, ei, hgd, ebd, d5])
                  refine W_cond rfl (fun _ => ?_) (fun h => by cases h)
                  repeat (first | (refine W_seq ?_) | (refine W_reg ?_) | (refine W_regd ?_) | (refine W_block ?_) | (refine And.intro (by omega) ?_) | simp (config := {maxSteps := 1000000}) (disch := omega) only [cA, cB, lk, lkH, Dst.onT, Dst.onX, Dst.slot, setF, setH, mapF, mapH, initF, binE, unE, cnt, boundE, newsE, freshE, opE, rmH, blkQ, frz_us, Nat.reduceEqDiff, Nat.reduceLT, Nat.reduceAdd, ↓reduceIte, reduceCtorEq, Nat.reduceLeDiff])
                  exact W_ret (RetP_2 (.nils _) (.imm rfl))
                · have d5 : decide ((c.toNat : Int) < 48) = false := decide_eq_false (by omega)
                  have d6 : decide ((57 : Int) < c.toNat) = true := decide_eq_true (by
                    simp only [isD, Bool.and_eq_true, decide_eq_true_eq] at hd
                    omega)
                  repeat (first | (refine W_seq ?_) | (refine W_reg ?_) | (refine W_regd ?_) | (refine W_block ?_) | (refine And.intro (by omega) ?_) | simp (config := {maxSteps := 1000000}) (disch := omega) only [cA, cB, lk, lkH, Dst.onT, Dst.onX, Dst.slot, setF, setH, mapF, mapH, initF, binE, unE, cnt, boundE, newsE, freshE, opE, rmH, blkQ, frz_us, Nat.reduceEqDiff, Nat.reduceLT, Nat.reduceAdd, ↓reduceIte, reduceCtorEq, Nat.reduceLeDiff, ei, hgd, ebd, d5, d6])
                  refine W_cond rfl (fun _ => ?_) (fun h => by cases h)
                  repeat (first | (refine W_seq ?_) | (refine W_reg ?_) | (refine W_regd ?_) | (refine W_block ?_) | (refine And.intro (by omega) ?_) | simp (config := {maxSteps := 1000000}) (disch := omega) only [cA, cB, lk, lkH, Dst.onT, Dst.onX, Dst.slot, setF, setH, mapF, mapH, initF, binE, unE, cnt, boundE, newsE, freshE, opE, rmH, blkQ, frz_us, Nat.reduceEqDiff, Nat.reduceLT, Nat.reduceAdd, ↓reduceIte, reduceCtorEq, Nat.reduceLeDiff])
                  exact W_ret (RetP_2 (.nils _) (.imm rfl))
            · have hil : i = l.length := by omega
              subst hil
              have dl : decide ((l.length : Int) < l.length) = false := decide_eq_false (by omega)
              rw [List.take_length] at hall
              have hb : okD l = true := (okD_iff l).2 ⟨hn, by omega, hz, hall⟩
              have hr : parseR l = .tup [.sl 1 (us (limbs (dval 0 l))), .bool true] := by unfold parseR; rw [hb]; rfl
              have hac : accD l l.length = .sl 1 (us (limbs (dval 0 l))) := by unfold accD; rw [if_neg (by omega), List.take_length]
              rw [hr, hac]
              repeat (first | (refine W_seq ?_) | (refine W_reg ?_) | (refine W_regd ?_) | (refine W_block ?_) | (refine And.intro (by omega) ?_) | simp (config := {maxSteps := 1000000}) (disch := omega) only [cA, cB, lk, lkH, Dst.onT, Dst.onX, Dst.slot, setF, setH, mapF, mapH, initF, binE, unE, cnt, boundE, newsE, freshE, opE, rmH, blkQ, frz_us, Nat.reduceEqDiff, Nat.reduceLT, Nat.reduceAdd, ↓reduceIte, reduceCtorEq, Nat.reduceLeDiff, dl])
              refine W_cond rfl (fun h => by cases h) (fun _ => W_exit ?_)
              repeat (first | (refine W_seq ?_) | (refine W_reg ?_) | (refine W_regd ?_) | (refine W_block ?_) | (refine And.intro (by omega) ?_) | simp (config := {maxSteps := 1000000}) (disch := omega) only [cA, cB, lk, lkH, Dst.onT, Dst.onX, Dst.slot, setF, setH, mapF, mapH, initF, binE, unE, cnt, boundE, newsE, freshE, opE, rmH, blkQ, frz_us, Nat.reduceEqDiff, Nat.reduceLT, Nat.reduceAdd, ↓reduceIte, reduceCtorEq, Nat.reduceLeDiff])
              exact W_ret (RetP_2 (.imm rfl) (.imm rfl))
        · have d1 : decide ((1 : Int) < l.length) = false := decide_eq_false (by omega)
          repeat (first | (refine W_seq ?_) | (refine W_reg ?_) | (refine W_regd ?_) | (refine W_block ?_) | (refine And.intro (by omega) ?_) | simp (config := {maxSteps := 1000000}) (disch := omega) only [cA, cB, lk, lkH, Dst.onT, Dst.onX, Dst.slot, setF, setH, mapF, mapH, initF, binE, unE, cnt, boundE, newsE, freshE, opE, rmH, blkQ, frz_us, Nat.reduceEqDiff, Nat.reduceLT, Nat.reduceAdd, ↓reduceIte, reduceCtorEq, Nat.reduceLeDiff, dn, d4, d1])
          refine W_cond rfl (fun h => by cases h) (fun _ => W_skip ?_)
          repeat (first | (refine W_seq ?_) | (refine W_reg ?_) | (refine W_regd ?_) | (refine W_block ?_) | (refine And.intro (by omega) ?_) | simp (config := {maxSteps := 1000000}) (disch := omega) only [cA, cB, lk, lkH, Dst.onT, Dst.onX, Dst.slot, setF, setH, mapF, mapH, initF, binE, unE, cnt, boundE, newsE, freshE, opE, rmH, blkQ, frz_us, Nat.reduceEqDiff, Nat.reduceLT, Nat.reduceAdd, ↓reduceIte, reduceCtorEq, Nat.reduceLeDiff])
          refine W_loop (σ := Nat) (fun i => [(0, .str l), (2, .nils), (3, .bool false), (4, accD l i), (5, .int .i64 i)]) (fun _ => []) (fun i => i ≤ l.length ∧ (l.take i).all isD = true) (fun i => l.length - i) 0 (And.intro (Nat.zero_le _) rfl) ?_ rfl ?_
          · simp [subF, lk, accD]
          · rintro i ⟨hi, hall⟩
            try simp only at hi hall ⊢
            by_cases hlt : i < l.length
            · have dl : decide ((i : Int) < l.length) = true := decide_eq_true (by omega)
              have ei : (i : Int).toNat = i := Int.toNat_natCast i
              have hgd : l.getD i 0 = l[i] := by rw [List.getD_eq_getElem?_getD, List.getElem?_eq_getElem hlt]; rfl
              have hta := take_all hlt hall
              have htd := take_dval hlt
              have hmem : l[i] ∈ l := List.getElem_mem hlt
              have hdl := dval_len hall (m := 4000) (by simp; omega)
              generalize l[i] = c at *
              have hk : c.toNat < 256 := UInt8.toNat_lt c
              have ebd : byteD c = .int .u8 (c.toNat : Nat) := rfl
              repeat (first | (refine W_seq ?_) | (refine W_reg ?_) | (refine W_regd ?_) | (refine W_block ?_) | (refine And.intro (by omega) ?_) | simp (config := {maxSteps := 1000000}) (disch := omega) only [cA, cB, lk, lkH, Dst.onT, Dst.onX, Dst.slot, setF, setH, mapF, mapH, initF, binE, unE, cnt, boundE, newsE, freshE, opE, rmH, blkQ, frz_us, Nat.reduceEqDiff, Nat.reduceLT, Nat.reduceAdd, ↓reduceIte, reduceCtorEq, Nat.reduceLeDiff, dl])
              refine W_cond rfl (fun _ => W_skip ?_) (fun h => by cases h)
              by_cases hd : isD c = true
              · have hd' := hd
                simp only [isD, Bool.and_eq_true, decide_eq_true_eq] at hd'
                have d5 : decide ((c.toNat : Int) < 48) = false := decide_eq_false (by omega)
                have d6 : decide ((57 : Int) < c.toNat) = false := decide_eq_false (by omega)
                have e7 : IntKind.u8.wrap ((c.toNat : Int) - 48) = ((c.toNat - 48 : Nat) : Int) := by rw [IntKind.wrap_u8]; omega
                have e8 : (c.toNat : Int) - 48 = ((c.toNat - 48 : Nat) : Int) := by omega
                have hta' := hta hd
                have ct : PCalls Tryd.prog 19 [accD l i, .int .u32 10, .int .i64 0] (.sl 1 (us (limbs (dval 0 (l.take i) * 10)))) := by
                  have h := rTimes_calls (dval 0 (l.take i)) 10 0 (by omega) (by decide) (by decide)
                  rw [Nat.pow_zero, Nat.one_mul] at h
                  unfold accD
                  split
                  · rename_i h0
                    subst h0
                    refine PCalls_nz 1 ?_
                    rw [List.take_zero, dval_nil, Nat.zero_mul, limbs_zero] at h
                    rw [List.take_zero, dval_nil, Nat.zero_mul, limbs_zero]
                    exact h
                  · exact h
                have cf := rFromUint_calls (c.toNat - 48) (by omega)
                have hm10 := len_mul hdl (show (limbs 10).length ≤ 1 by rw [limbs_one (by decide) (by decide)]; simp)
                have ca := rAddL (dval 0 (l.take i) * 10) (c.toNat - 48) (by omega) (Nat.le_trans (limbs_len.2 (show c.toNat - 48 < 4294967296 ^ 1 by omega)) (by decide))
                rw [← htd] at ca
                have hac : accD l (i + 1) = .sl 1 (us (limbs (dval 0 (l.take (i + 1))))) := by unfold accD; rw [if_neg (by omega)]
                rw [← hac] at ca
                have i1 : ((i : Int) + 1) = ((i + 1 : Nat) : Int) := by omega
                have hacc : accD l i = .nils ∨ ∃ xs, accD l i = .sl 1 xs := by
                  unfold accD
                  split
                  · exact .inl rfl
                  · exact .inr ⟨_, rfl⟩
                clear hta htd hdl hm10 hall hd hac
                (replace hta' := Hid.mk hta')
                repeat (first | (refine W_seq ?_) | (refine W_reg ?_) | (refine W_regd ?_) | (refine W_block ?_) | (refine And.intro (by omega) ?_) | simp (config := {maxSteps := 1000000}) (disch := omega) only [cA, cB, lk, lkH, Dst.onT, Dst.onX, Dst.slot, setF, setH, mapF, mapH, initF, binE, unE, cnt, boundE, newsE, freshE, opE, rmH, blkQ, frz_us, Nat.reduceEqDiff, Nat.reduceLT, Nat.reduceAdd, ↓reduceIte, reduceCtorEq, Nat.reduceLeDiff, ei, hgd, ebd, d5, d6])
                refine W_cond rfl (fun h => by cases h) (fun _ => W_skip ?_)
                rcases hacc with e | ⟨xs, e⟩
                · rw [e] at ct ⊢
                  repeat (first | (refine W_seq ?_) | (refine W_reg ?_) | (refine W_regd ?_) | (refine W_block ?_) | (refine And.intro (by omega) ?_) | simp (config := {maxSteps := 1000000}) (disch := omega) only [cA, cB, lk, lkH, Dst.onT, Dst.onX, Dst.slot, setF, setH, mapF, mapH, initF, binE, unE, cnt, boundE, newsE, freshE, opE, rmH, blkQ, frz_us, Nat.reduceEqDiff, Nat.reduceLT, Nat.reduceAdd, ↓reduceIte, reduceCtorEq, Nat.reduceLeDiff, ei, hgd, ebd, e7, e8, i1] | (refine callC_pure (ct) rfl ?_) | (refine callC_pure (cf) rfl ?_) | (refine callC_pure (ca) rfl ?_) | exact W_ret (RetP_1 (.imm rfl)) | exact W_ret (RetP_c rfl rfl rfl (.imm rfl)))
                  exact ⟨i + 1, And.intro hlt hta'.out, by omega, by simp [subF, lk]⟩
                · rw [e] at ct ⊢
                  repeat (first | (refine W_seq ?_) | (refine W_reg ?_) | (refine W_regd ?_) | (refine W_block ?_) | (refine And.intro (by omega) ?_) | simp (config := {maxSteps := 1000000}) (disch := omega) only [cA, cB, lk, lkH, Dst.onT, Dst.onX, Dst.slot, setF, setH, mapF, mapH, initF, binE, unE, cnt, boundE, newsE, freshE, opE, rmH, blkQ, frz_us, Nat.reduceEqDiff, Nat.reduceLT, Nat.reduceAdd, ↓reduceIte, reduceCtorEq, Nat.reduceLeDiff, ei, hgd, ebd, e7, e8, i1] | (refine callC_pure (ct) rfl ?_) | (refine callC_pure (cf) rfl ?_) | (refine callC_pure (ca) rfl ?_) | exact W_ret (RetP_1 (.imm rfl)) | exact W_ret (RetP_c rfl rfl rfl (.imm rfl)))
                  exact ⟨i + 1, And.intro hlt hta'.out, by omega, by simp [subF, lk]⟩
              · have hb : okD l = false := by
                  rw [← Bool.not_eq_true, okD_iff]
                  exact fun h => hd (List.all_eq_true.1 h.2.2.2 c hmem)
                rw [parseR_bad hb]
                clear hta htd hall hdl
                by_cases h5 : c.toNat < 48
                · have d5 : decide ((c.toNat : Int) < 48) = true := decide_eq_true (by omega)
                  repeat (first | (refine W_seq ?_) | (refine W_reg ?_) | (refine W_regd ?_) | (refine W_block ?_) | (refine And.intro (by omega) ?_) | simp (config := {maxSteps := 1000000}) (disch := omega) only [cA, cB, lk, lkH, Dst.onT, Dst.onX, Dst.slot, setF, setH, mapF, mapH, initF, binE, unE, cnt, boundE, newsE, freshE, opE, rmH, blkQ, frz_us, Nat.reduceEqDiff, Nat.reduceLT, Nat.reduceAdd, ↓reduceIte, reduceCtorEq, Nat.reduceLeDiff, ei, hgd, ebd, d5])
                  refine W_cond rfl (fun _ => ?_) (fun h => by cases h)
                  repeat (first | (refine W_seq ?_) | (refine W_reg ?_) | (refine W_regd ?_) | (refine W_block ?_) | (refine And.intro (by omega) ?_) | simp (config := {maxSteps := 1000000}) (disch := omega) only [cA, cB, lk, lkH, Dst.onT, Dst.onX, Dst.slot, setF, setH, mapF, mapH, initF, binE, unE, cnt, boundE, newsE, freshE, opE, rmH, blkQ, frz_us, Nat.reduceEqDiff, Nat.reduceLT, Nat.reduceAdd, ↓reduceIte, reduceCtorEq, Nat.reduceLeDiff])
                  exact W_ret (RetP_2 (.nils _) (.imm rfl))
                · have d5 : decide ((c.toNat : Int) < 48) = false := decide_eq_false (by omega)
                  have d6 : decide ((57 : Int) < c.toNat) = true := decide_eq_true (by
                    simp only [isD, Bool.and_eq_true, decide_eq_true_eq] at hd
                    omega)
                  repeat (first | (refine W_seq ?_) | (refine W_reg ?_) | (refine W_regd ?_) | (refine W_block ?_) | (refine And.intro (by omega) ?_) | simp (config := {maxSteps := 1000000}) (disch := omega) only [cA, cB, lk, lkH, Dst.onT, Dst.onX, Dst.slot, setF, setH, mapF, mapH, initF, binE, unE, cnt, boundE, newsE, freshE, opE, rmH, blkQ, frz_us, Nat.reduceEqDiff, Nat.reduceLT, Nat.reduceAdd, ↓reduceIte, reduceCtorEq, Nat.reduceLeDiff, ei, hgd, ebd, d5, d6])
                  refine W_cond rfl (fun _ => ?_) (fun h => by cases h)
                  repeat (first | (refine W_seq ?_) | (refine W_reg ?_) | (refine W_regd ?_) | (refine W_block ?_) | (refine And.intro (by omega) ?_) | simp (config := {maxSteps := 1000000}) (disch := omega) only [cA, cB, lk, lkH, Dst.onT, Dst.onX, Dst.slot, setF, setH, mapF, mapH, initF, binE, unE, cnt, boundE, newsE, freshE, opE, rmH, blkQ, frz_us, Nat.reduceEqDiff, Nat.reduceLT, Nat.reduceAdd, ↓reduceIte, reduceCtorEq, Nat.reduceLeDiff])
                  exact W_ret (RetP_2 (.nils _) (.imm rfl))
            · have hil : i = l.length := by omega
              subst hil
              have dl : decide ((l.length : Int) < l.length) = false := decide_eq_false (by omega)
              rw [List.take_length] at hall
              have hb : okD l = true := (okD_iff l).2 ⟨hn, by omega, hz, hall⟩
              have hr : parseR l = .tup [.sl 1 (us (limbs (dval 0 l))), .bool true] := by unfold parseR; rw [hb]; rfl
              have hac : accD l l.length = .sl 1 (us (limbs (dval 0 l))) := by unfold accD; rw [if_neg (by omega), List.take_length]
              rw [hr, hac]
              repeat (first | (refine W_seq ?_) | (refine W_reg ?_) | (refine W_regd ?_) | (refine W_block ?_) | (refine And.intro (by omega) ?_) | simp (config := {maxSteps := 1000000}) (disch := omega) only [cA, cB, lk, lkH, Dst.onT, Dst.onX, Dst.slot, setF, setH, mapF, mapH, initF, binE, unE, cnt, boundE, newsE, freshE, opE, rmH, blkQ, frz_us, Nat.reduceEqDiff, Nat.reduceLT, Nat.reduceAdd, ↓reduceIte, reduceCtorEq, Nat.reduceLeDiff, dl])
              refine W_cond rfl (fun h => by cases h) (fun _ => W_exit ?_)
              repeat (first | (refine W_seq ?_) | (refine W_reg ?_) | (refine W_regd ?_) | (refine W_block ?_) | (refine And.intro (by omega) ?_) | simp (config := {maxSteps := 1000000}) (disch := omega) only [cA, cB, lk, lkH, Dst.onT, Dst.onX, Dst.slot, setF, setH, mapF, mapH, initF, binE, unE, cnt, boundE, newsE, freshE, opE, rmH, blkQ, frz_us, Nat.reduceEqDiff, Nat.reduceLT, Nat.reduceAdd, ↓reduceIte, reduceCtorEq, Nat.reduceLeDiff])
              exact W_ret (RetP_2 (.imm rfl) (.imm rfl))
end Go.Proofs.YtecilkmigjbfoaaDoor
