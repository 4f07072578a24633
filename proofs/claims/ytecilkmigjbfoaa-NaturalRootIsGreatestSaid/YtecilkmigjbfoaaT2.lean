/- Lemmas of the walk; no conditions beyond those that each states. -/
import Derived.WalkKit
import Derived.Below
import Derived.Lib.SliceRun
import Derived.Lib.Walk
import Derived.Test.YtecilkmigjbfoaaT1
import Derived.Test.YtecilkmigjbfoaaN1
import Derived.Test.YtecilkmigjbfoaaC1
import Derived.Test.YtecilkmigjbfoaaD2
set_option linter.unusedSimpArgs false
set_option linter.unusedVariables false
set_option linter.unnecessarySimpa false
namespace Go.Proofs.Ytecilkmigjbfoaa
open Go Go.Dat Go.Proofs Nat32

set_option maxHeartbeats 4000000 in
theorem nDivide_calls (x y n : Nat) (hn : (limbs y).length = n + 2) (hx : (limbs x).length ≤ 100000) (hyx : y ≤ x) :
    PCalls Try.prog 46 [.sl 1 (us (limbs x)), .sl 1 (us (limbs y))] (.tup [.sl 1 (us (limbs (x / y))), .sl 1 (us (limbs (x % y)))]) := by
  obtain ⟨m, hm, hm0⟩ : ∃ m, (limbs x).length + 1 = m + (n + 2) ∧ 0 < m := by
    have : n + 2 ≤ (limbs x).length := by
      rcases Nat.lt_or_ge (limbs x).length (n + 2) with e | e
      · have h1 := limbs_len.1 (show (limbs x).length ≤ n + 1 by omega)
        have h2 := limbs_len.2 (Nat.lt_of_le_of_lt hyx h1)
        omega
      · exact e
    exact ⟨(limbs x).length + 1 - (n + 2), by omega, by omega⟩
  have ht0 := limbs_top_ne hn
  have htl := lim_getD (lim_limbs y) (n + 1)
  obtain ⟨hk, hV1, hV2⟩ := norm_V hn
  have hxl := limbs_len.1 (Nat.le_refl (limbs x).length)
  have c1 := Lz32_calls ((limbs y).getD (n + 1) 0) htl
  generalize 32 - blen ((limbs y).getD (n + 1) 0) = k at hk hV1 hV2 c1
  have fA := nShifted_fcalls (limbs x) k (by omega) (lim_limbs x) hk
  have cV := nShifted_calls (limbs y) k (by omega) (lim_limbs y) hk
  rw [nv_limbs] at fA cV
  rw [hn] at cV
  have cT := nTrim_calls (dig (n + 2 + 1) (y * 2 ^ k)) (by rw [dig_length]; omega) (dig_lim _ _)
  have hVn : y * 2 ^ k < 4294967296 ^ (n + 2 + 1) := Nat.lt_of_lt_of_le hV1 (Nat.pow_le_pow_right (by decide) (by omega))
  rw [nv_dig, Nat.mod_eq_of_lt hVn] at cT
  have hA1 : x * 2 ^ k < 4294967296 ^ ((limbs x).length + 1) := by
    rw [Nat.pow_succ]
    exact Nat.mul_lt_mul_of_lt_of_le hxl (by have := pow_le31 hk; omega) (by decide)
  have hu0l := dig_length ((limbs x).length + 1) (x * 2 ^ k)
  have hu0 := dig_lim ((limbs x).length + 1) (x * 2 ^ k)
  have hu0v := nv_dig ((limbs x).length + 1) (x * 2 ^ k)
  rw [Nat.mod_eq_of_lt hA1] at hu0v
  generalize dig ((limbs x).length + 1) (x * 2 ^ k) = u0 at *
  have hVl : (limbs (y * 2 ^ k)).length = n + 2 := limbs_len_eq hV1 (Nat.le_trans (Nat.le_mul_of_pos_right _ (by decide)) hV2)
  have hdivx : x / y = x * 2 ^ k / (y * 2 ^ k) := (Nat.mul_div_mul_right _ _ (Nat.two_pow_pos k)).symm
  have hmodx : x % y = x * 2 ^ k % (y * 2 ^ k) / 2 ^ k := by rw [Nat.mul_mod_mul_right, Nat.mul_div_cancel _ (Nat.two_pow_pos k)]
  rw [hdivx, hmodx]
  generalize y * 2 ^ k = V at *
  have hinit : nv (u0.drop m) < V := init_lt (m := m) (n := n + 1) (by rw [show m + (n + 1) = (limbs x).length by omega]; exact hxl) hk hV2 (by omega) hu0v
  have hV0 : 0 < V := by
    have := Nat.pos_of_ne_zero (n := 4294967296 ^ (n + 1)) (by intro h; have := Nat.pow_eq_zero.1 h; omega)
    exact Nat.lt_of_lt_of_le (Nat.mul_pos this (by decide)) hV2
  clear ht0 htl hxl hyx hVn hA1
  (replace hV1 := Hid.mk hV1; replace hV2 := Hid.mk hV2; replace hu0v := Hid.mk hu0v; replace hinit := Hid.mk hinit; replace hdivx := Hid.mk hdivx; replace hmodx := Hid.mk hmodx)
  refine PCalls_of isnDivide (by simp [fnnDivide]) ?_
  unfold codenDivide
  have e1 : (((n + 2 : Nat) : Int) - 1).toNat = n + 1 := by omega
  repeat (first | (refine W_seq ?_) | (refine W_reg ?_) | (refine W_regd ?_) | (refine W_block ?_) | (refine And.intro (by omega) ?_) | simp (config := {maxSteps := 1000000}) (disch := omega) only [cA, cB, lk, lkH, Dst.onT, Dst.onX, Dst.slot, setF, setH, mapF, mapH, initF, binE, unE, cnt, boundE, newsE, freshE, opE, rmH, blkQ, frz_us, Nat.reduceEqDiff, Nat.reduceLT, Nat.reduceAdd, ↓reduceIte, reduceCtorEq, Nat.reduceLeDiff, us_length, hn, us_getD, e1])
  refine callC_pure c1 rfl ?_
  repeat (first | (refine W_seq ?_) | (refine W_reg ?_) | (refine W_regd ?_) | (refine W_block ?_) | (refine And.intro (by omega) ?_) | simp (config := {maxSteps := 1000000}) (disch := omega) only [cA, cB, lk, lkH, Dst.onT, Dst.onX, Dst.slot, setF, setH, mapF, mapH, initF, binE, unE, cnt, boundE, newsE, freshE, opE, rmH, blkQ, frz_us, Nat.reduceEqDiff, Nat.reduceLT, Nat.reduceAdd, ↓reduceIte, reduceCtorEq, Nat.reduceLeDiff, us_length, hn])
  refine callC_fresh rfl 24 (by simp [lkH]) rfl fA ?_
  repeat (first | (refine W_seq ?_) | (refine W_reg ?_) | (refine W_regd ?_) | (refine W_block ?_) | (refine And.intro (by omega) ?_) | simp (config := {maxSteps := 1000000}) (disch := omega) only [cA, cB, lk, lkH, Dst.onT, Dst.onX, Dst.slot, setF, setH, mapF, mapH, initF, binE, unE, cnt, boundE, newsE, freshE, opE, rmH, blkQ, frz_us, Nat.reduceEqDiff, Nat.reduceLT, Nat.reduceAdd, ↓reduceIte, reduceCtorEq, Nat.reduceLeDiff])
  refine callC_pure cV rfl ?_
  repeat (first | (refine W_seq ?_) | (refine W_reg ?_) | (refine W_regd ?_) | (refine W_block ?_) | (refine And.intro (by omega) ?_) | simp (config := {maxSteps := 1000000}) (disch := omega) only [cA, cB, lk, lkH, Dst.onT, Dst.onX, Dst.slot, setF, setH, mapF, mapH, initF, binE, unE, cnt, boundE, newsE, freshE, opE, rmH, blkQ, frz_us, Nat.reduceEqDiff, Nat.reduceLT, Nat.reduceAdd, ↓reduceIte, reduceCtorEq, Nat.reduceLeDiff])
  refine callC_pure cT rfl ?_
  have e2 : (((limbs x).length : Int) - ((n + 2 : Nat) : Int) + 1) = (m : Int) := by omega
  repeat (first | (refine W_seq ?_) | (refine W_reg ?_) | (refine W_regd ?_) | (refine W_block ?_) | (refine And.intro (by omega) ?_) | simp (config := {maxSteps := 1000000}) (disch := omega) only [cA, cB, lk, lkH, Dst.onT, Dst.onX, Dst.slot, setF, setH, mapF, mapH, initF, binE, unE, cnt, boundE, newsE, freshE, opE, rmH, blkQ, frz_us, Nat.reduceEqDiff, Nat.reduceLT, Nat.reduceAdd, ↓reduceIte, reduceCtorEq, Nat.reduceLeDiff, us_length, e2, us_rep, nbnDivide])
  refine W_loop (σ := Nat × List Nat × List Nat) (fun z => [(4, .osl 1 34 0 m), (6, .int .i64 k), (7, .int .i64 ((n + 2 : Nat) : Int)), (8, .osl 1 24 0 ((limbs x).length + 1)), (9, .sl 1 (us (limbs V))), (10, .int .i64 ((z.1 : Int) - 1))])
    (fun z => [(24, us z.2.1), (34, us (List.replicate z.1 0 ++ z.2.2))])
    (fun z => z.1 + z.2.2.length = m ∧ z.2.1.length = (limbs x).length + 1 ∧ lim z.2.1 ∧ lim z.2.2 ∧ x * 2 ^ k = 4294967296 ^ z.1 * nv z.2.2 * V + nv z.2.1 ∧ nv (z.2.1.drop z.1) < V)
    (fun z => z.1) (m, u0, []) ⟨by simp, hu0l, hu0, lim_nil, by simp [nv, hu0v.out], hinit.out⟩ ?_ (by simp) ?_
  · simp [subF, lk]
  · rintro ⟨j, u, qs⟩ ⟨hj, hul, hu, hqs, hA, hR⟩
    simp only at hj hul hu hqs hA hR ⊢
    (replace hA := Hid.mk hA; replace hR := Hid.mk hR)
    repeat (first | (refine W_seq ?_) | (refine W_reg ?_) | (refine W_regd ?_) | (refine W_block ?_) | (refine And.intro (by omega) ?_) | simp (config := {maxSteps := 1000000}) (disch := omega) only [cA, cB, lk, lkH, Dst.onT, Dst.onX, Dst.slot, setF, setH, mapF, mapH, initF, binE, unE, cnt, boundE, newsE, freshE, opE, rmH, blkQ, frz_us, Nat.reduceEqDiff, Nat.reduceLT, Nat.reduceAdd, ↓reduceIte, reduceCtorEq, Nat.reduceLeDiff])
    refine W_cond rfl (fun hc => W_skip ?_) (fun hc => W_exit ?_)
    · have hc := of_decide_eq_true hc
      obtain ⟨i, rfl⟩ : ∃ i, j = i + 1 := ⟨j - 1, by omega⟩
      have hS := step_of (n := n) hu (by omega) hR.out hV1.out
      obtain ⟨g1, g2, g3, g4⟩ := step_guess hu hS hV1.out hV2.out
      have l2 := lim_getD hu (i + n + 2)
      have l1 := lim_getD hu (i + n + 1)
      have l0 := lim_getD hu (i + n)
      have k1 := lim_getD (lim_limbs V) (n + 1)
      have k0 := lim_getD (lim_limbs V) n
      have cG := nGuess_calls _ _ _ _ _ _ _ l2 l1 l0 k1 k0 g1 g2 rfl rfl
      have hqB : gq ((u.getD (i + n + 2) 0 * 4294967296 + u.getD (i + n + 1) 0) * 4294967296 + u.getD (i + n) 0) ((limbs V).getD (n + 1) 0 * 4294967296 + (limbs V).getD n 0) < 4294967296 := Nat.lt_of_le_of_lt (Nat.min_le_right _ _) (by decide)
      obtain ⟨q, hq⟩ : ∃ q, gq ((u.getD (i + n + 2) 0 * 4294967296 + u.getD (i + n + 1) 0) * 4294967296 + u.getD (i + n) 0) ((limbs V).getD (n + 1) 0 * 4294967296 + (limbs V).getD n 0) = q := ⟨_, rfl⟩
      rw [hq] at g3 g4 cG hqB
      have hqe : q = q := rfl
      have hsV := hS.eq
      have hUlt := hS.lt
      rw [hsV] at g3 g4 hUlt
      have hqV := qv_lt hqB hV1.out
      have hVM := le_pow3 hV1.out
      have hpl : (u.take i).length = i := by simp; omega
      have hsl := hS.slen
      have hlp := lim_take hu i
      have hls := lim_take (lim_drop hu i) (n + 3)
      have hlt := lim_drop hu (i + (n + 3))
      have hcells := hS.cells
      have ht0 := hS.rest
      have htl : (u.drop (i + (n + 3))).length = m - (i + 1) := by simp; omega
      have e3 : (((i + 1 : Nat) : Int) - 1) = (i : Int) := by omega
      have e4 : ((i : Int) + ((n + 2 : Nat) : Int)).toNat = i + n + 2 := by omega
      have e5 : ((i : Int) + ((n + 2 : Nat) : Int) - 1).toNat = i + n + 1 := by omega
      have e6 : ((i : Int) + ((n + 2 : Nat) : Int) - 2).toNat = i + n := by omega
      have e7 : (((n + 2 : Nat) : Int) - 2).toNat = n := by omega
      have e8 : ((i : Int) + ((n + 2 : Nat) : Int) + 1).toNat = i + (n + 3) := by omega
      (replace e1 := Hid.mk e1; replace e2 := Hid.mk e2; replace e3 := Hid.mk e3; replace e4 := Hid.mk e4; replace e5 := Hid.mk e5; replace e6 := Hid.mk e6; replace e7 := Hid.mk e7; replace e8 := Hid.mk e8; replace g3 := Hid.mk g3; replace g4 := Hid.mk g4; replace hUlt := Hid.mk hUlt; replace hqV := Hid.mk hqV; replace hVM := Hid.mk hVM; replace hcells := Hid.mk hcells; replace ht0 := Hid.mk ht0; replace hsV := Hid.mk hsV; replace hq := Hid.mk hq)
      clear g1 g2
      (replace hqB := Hid.mk hqB; replace hqe := Hid.mk hqe)
      repeat (first | (refine W_seq ?_) | (refine W_reg ?_) | (refine W_regd ?_) | (refine W_block ?_) | (refine And.intro (by omega) ?_) | simp (config := {maxSteps := 1000000}) (disch := omega) only [cA, cB, lk, lkH, Dst.onT, Dst.onX, Dst.slot, setF, setH, mapF, mapH, initF, binE, unE, cnt, boundE, newsE, freshE, opE, rmH, blkQ, frz_us, Nat.reduceEqDiff, Nat.reduceLT, Nat.reduceAdd, ↓reduceIte, reduceCtorEq, Nat.reduceLeDiff, us_length, us_getD, hul, hVl, e1.out, e3.out, e4.out, e5.out, e6.out, e7.out])
      refine callC_pure cG rfl ?_
      clear cG hq l2 l1 l0 k1 k0 hS
      generalize u.take i = p at *
      generalize (u.drop i).take (n + 3) = s at *
      generalize u.drop (i + (n + 3)) = t at *
      obtain ⟨U, hU⟩ : ∃ U, nv s = U := ⟨_, rfl⟩
      obtain ⟨hnvu, hnvr⟩ := nv_put (r := U % V) hpl hsl ht0.out hU
      rw [hU] at g3 g4 hsV hUlt
      have hmod : U % V < V := Nat.mod_lt _ hV0
      have hn12 := Hid.mk (hnvr (Nat.lt_of_lt_of_le hmod hVM.out))
      clear hnvr
      (replace hnvu := Hid.mk hnvu; replace hU := Hid.mk hU; replace hmod := Hid.mk hmod)
      have hlen : (p ++ s ++ t).length ≤ 1000000 := by rw [← hcells.out]; omega
      have hplen : p.length + s.length + t.length = (limbs x).length + 1 := by
        rw [hcells.out] at hul
        simpa only [List.length_append] using hul
      have hlen2 : ∀ r, (p ++ dig (n + 3) r ++ t).length = (limbs x).length + 1 := fun r => by
        simp only [List.length_append, dig_length]; omega
      have cR := nReduce_calls p s t (limbs V) q hlen hls (lim_limbs V) (by omega) (Nat.lt_of_le_of_lt (Nat.le_of_eq hqe.out.symm) hqB.out) (by rw [nv_limbs, hsl]; exact hqV.out)
      have cS := nRestore_calls p (dig (n + 3) ((U + 4294967296 ^ (n + 3) - q * V) % 4294967296 ^ (n + 3))) t (limbs V) (by rw [hlen2]; omega) (dig_lim _ _) (lim_limbs V) (by rw [dig_length]; omega)
      rw [← hcells.out, hpl, hsl, nv_limbs, hU.out] at cR
      rw [hpl, dig_length, nv_limbs, nv_dig, Nat.mod_mod] at cS
      have e9 := Hid.mk (Nat.add_sub_cancel_left i (n + 3))
      repeat (first | (refine W_seq ?_) | (refine W_reg ?_) | (refine W_regd ?_) | (refine W_block ?_) | (refine And.intro (by omega) ?_) | simp (config := {maxSteps := 1000000}) (disch := omega) only [cA, cB, lk, lkH, Dst.onT, Dst.onX, Dst.slot, setF, setH, mapF, mapH, initF, binE, unE, cnt, boundE, newsE, freshE, opE, rmH, blkQ, frz_us, Nat.reduceEqDiff, Nat.reduceLT, Nat.reduceAdd, ↓reduceIte, reduceCtorEq, Nat.reduceLeDiff, us_length, hul, e3.out, e8.out, e9.out])
      refine callC_lend rfl 24 rfl (us_rf _) (by intro h; have := congrArg List.length h; rw [us_length, hul] at this; simp at this) cR ?_
      repeat (first | (refine W_seq ?_) | (refine W_reg ?_) | (refine W_regd ?_) | (refine W_block ?_) | (refine And.intro (by omega) ?_) | simp (config := {maxSteps := 1000000}) (disch := omega) only [cA, cB, lk, lkH, Dst.onT, Dst.onX, Dst.slot, setF, setH, mapF, mapH, initF, binE, unE, cnt, boundE, newsE, freshE, opE, rmH, blkQ, frz_us, Nat.reduceEqDiff, Nat.reduceLT, Nat.reduceAdd, ↓reduceIte, reduceCtorEq, Nat.reduceLeDiff])
      refine W_join (ι := Unit) (fun _ => True) (fun _ => [(4, .osl 1 34 0 m), (6, .int .i64 k), (7, .int .i64 ((n + 2 : Nat) : Int)), (8, .osl 1 24 0 ((limbs x).length + 1)), (9, .sl 1 (us (limbs V))), (10, .int .i64 i), (11, .int .u64 (U / V : Nat))])
        (fun _ => [(24, us (p ++ dig (n + 3) (U % V) ++ t)), (34, us (List.replicate (i + 1) 0 ++ qs))]) ?_ ?_
      · refine W_cond rfl (fun h2 => ?_) (fun h2 => W_skip ?_)
        · have h2 := of_decide_eq_true h2
          obtain ⟨f1, f2⟩ := kn_over g3.out g4.out h2 hVM.out hV0 hqV.out
          rw [f2] at cS
          have hq0 : 0 < q := by
            rcases Nat.eq_zero_or_pos q with e | e
            · subst e; rw [Nat.zero_mul] at h2; omega
            · exact e
          have e10 : ((q : Int) - 1) = ((U / V : Nat) : Int) := by rw [← f1]; omega
          have hqB' := hqB.out
          have hlr := hlen2 ((U + 4294967296 ^ (n + 3) - q * V) % 4294967296 ^ (n + 3))
          have hqd : U / V < 4294967296 := by rw [← f1]; omega
          clear h2 f2 f1
          generalize U / V = qd at *
          (replace e10 := Hid.mk e10)
          repeat (first | (refine W_seq ?_) | (refine W_reg ?_) | (refine W_regd ?_) | (refine W_block ?_) | (refine And.intro (by omega) ?_) | simp (config := {maxSteps := 1000000}) (disch := omega) only [cA, cB, lk, lkH, Dst.onT, Dst.onX, Dst.slot, setF, setH, mapF, mapH, initF, binE, unE, cnt, boundE, newsE, freshE, opE, rmH, blkQ, frz_us, Nat.reduceEqDiff, Nat.reduceLT, Nat.reduceAdd, ↓reduceIte, reduceCtorEq, Nat.reduceLeDiff, us_length, hlr, e8.out, e9.out])
          refine callC_lend rfl 24 rfl (us_rf _) (by intro h; have := congrArg List.length h; rw [us_length, hlr] at this; simp at this) cS ?_
          repeat (first | (refine W_seq ?_) | (refine W_reg ?_) | (refine W_regd ?_) | (refine W_block ?_) | (refine And.intro (by omega) ?_) | simp (config := {maxSteps := 1000000}) (disch := omega) only [cA, cB, lk, lkH, Dst.onT, Dst.onX, Dst.slot, setF, setH, mapF, mapH, initF, binE, unE, cnt, boundE, newsE, freshE, opE, rmH, blkQ, frz_us, Nat.reduceEqDiff, Nat.reduceLT, Nat.reduceAdd, ↓reduceIte, reduceCtorEq, Nat.reduceLeDiff, e10.out])
          first | exact ⟨(), trivial, by simp [subF, lk], rfl⟩ | exact ⟨(), by simp [subF, lk], rfl⟩ | exact ⟨(), by simp [subF, lk]⟩ | exact ⟨(), trivial, by simp [subF, lk]⟩
        · have h2 := of_decide_eq_false h2
          obtain ⟨f1, f2⟩ := kn_fit g3.out g4.out h2 hVM.out hV0
          rw [f2, ← f1]
          first | exact ⟨(), trivial, by simp [subF, lk], rfl⟩ | exact ⟨(), by simp [subF, lk], rfl⟩ | exact ⟨(), by simp [subF, lk]⟩ | exact ⟨(), trivial, by simp [subF, lk]⟩
      · rintro ⟨⟩ _
        have hqB' : U / V < 4294967296 := Nat.lt_of_le_of_lt g3.out hqB.out
        have hsum := step_sum (q := U / V) hA.out ((congrArg nv hcells.out).trans hnvu.out) rfl
        have hrl : (List.replicate (i + 1) 0 ++ qs).length = m := by simp; omega
        have hqm : U / V % 4294967296 = U / V := Nat.mod_eq_of_lt hqB'
        obtain ⟨z1, z2⟩ := hn12.out
        rw [← z1] at hsum
        have hfl := hlen2 (U % V)
        have hlf : lim (p ++ dig (n + 3) (U % V) ++ t) := lim_append.2 ⟨lim_append.2 ⟨hlp, dig_lim _ _⟩, hlt⟩
        have hmod' := hmod.out
        rw [← z2] at hmod'
        (replace hsum := Hid.mk hsum; replace hmod' := Hid.mk hmod'; replace hqm := Hid.mk hqm; replace z1 := Hid.mk z1; replace z2 := Hid.mk z2)
        generalize U / V = qd at *
        generalize p ++ dig (n + 3) (U % V) ++ t = u' at *
        repeat (first | (refine W_seq ?_) | (refine W_reg ?_) | (refine W_regd ?_) | (refine W_block ?_) | (refine And.intro (by omega) ?_) | simp (config := {maxSteps := 1000000}) (disch := omega) only [cA, cB, lk, lkH, Dst.onT, Dst.onX, Dst.slot, setF, setH, mapF, mapH, initF, binE, unE, cnt, boundE, newsE, freshE, opE, rmH, blkQ, frz_us, Nat.reduceEqDiff, Nat.reduceLT, Nat.reduceAdd, ↓reduceIte, reduceCtorEq, Nat.reduceLeDiff, us_length, hrl, wu32', mod32, hqm.out, us_set, set_rep])
        refine ⟨(i, u', qd :: qs), ⟨by simp only [List.length_cons]; omega, hfl, hlf, lim_cons.2 ⟨hqB', hqs⟩, hsum.out, hmod'.out⟩, by simp only; omega, by simp [subF, lk], rfl⟩
    · have hc := of_decide_eq_false hc
      have hj0 : j = 0 := by omega
      subst hj0
      have hA' := hA.out
      have hR' := hR.out
      rw [Nat.pow_zero, Nat.one_mul] at hA'
      rw [List.drop_zero] at hR'
      obtain ⟨d1, d2⟩ := div_fin hA' hR'
      rw [← d1, ← d2]
      have hrn : nv u / 2 ^ k < 4294967296 ^ (n + 2) := Nat.lt_of_le_of_lt (Nat.div_le_self _ _) (Nat.lt_trans hR' hV1.out)
      clear hA' hR' d1 d2 hA hR hdivx hmodx hu0v hinit fA cV cT
      (replace hrn := Hid.mk hrn)
      have e11 := Hid.mk (show ((n + 2 : Nat) : Int).toNat = n + 2 by omega)
      repeat (first | (refine W_seq ?_) | (refine W_reg ?_) | (refine W_regd ?_) | (refine W_block ?_) | (refine And.intro (by omega) ?_) | simp (config := {maxSteps := 1000000}) (disch := omega) only [cA, cB, lk, lkH, Dst.onT, Dst.onX, Dst.slot, setF, setH, mapF, mapH, initF, binE, unE, cnt, boundE, newsE, freshE, opE, rmH, blkQ, frz_us, Nat.reduceEqDiff, Nat.reduceLT, Nat.reduceAdd, ↓reduceIte, reduceCtorEq, Nat.reduceLeDiff, us_length, us_rep, nbnDivide, e11.out])
      generalize hRR : nv u / 2 ^ k = R at *
      (replace hRR := Hid.mk hRR)
      simp only [List.replicate_zero, List.nil_append]
      refine W_loop (σ := Nat) (fun i => [(4, .osl 1 34 0 m), (5, .osl 1 100 0 (n + 2)), (6, .int .i64 k), (8, .osl 1 24 0 ((limbs x).length + 1)), (102, .int .i64 ((n + 2 : Nat) : Int)), (103, .int .i64 i)])
        (fun i => [(24, us u), (34, us qs), (100, us (dig i R ++ List.replicate (n + 2 - i) 0))]) (fun i => i ≤ n + 2) (fun i => n + 2 - i) 0 (Nat.zero_le _) ?_ (by simp [dig]) ?_
      · simp [subF, lk]
      · rintro i hi
        repeat (first | (refine W_seq ?_) | (refine W_reg ?_) | (refine W_regd ?_) | (refine W_block ?_) | (refine And.intro (by omega) ?_) | simp (config := {maxSteps := 1000000}) (disch := omega) only [cA, cB, lk, lkH, Dst.onT, Dst.onX, Dst.slot, setF, setH, mapF, mapH, initF, binE, unE, cnt, boundE, newsE, freshE, opE, rmH, blkQ, frz_us, Nat.reduceEqDiff, Nat.reduceLT, Nat.reduceAdd, ↓reduceIte, reduceCtorEq, Nat.reduceLeDiff])
        refine W_cond rfl (fun hc2 => W_skip ?_) (fun hc2 => W_exit ?_)
        · have hc2 := of_decide_eq_true hc2
          obtain ⟨r, hr⟩ : ∃ r, n + 2 - i = r + 1 := ⟨n + 2 - i - 1, by omega⟩
          have hr' : n + 2 - (i + 1) = r := by omega
          have hb := back hu (i := i) (k := k) (by omega) hk
          rw [hRR.out] at hb
          have hs := dig_snoc i R
          rw [← hb] at hs
          have hDl := dig_length i R
          have hll : (dig i R ++ List.replicate (r + 1) 0).length = n + 2 := by simp [dig_length]; omega
          have a0 := lim_getD hu i
          have a1 := lim_getD hu (i + 1)
          have hset : ∀ v, (dig i R ++ List.replicate (r + 1) 0).set i v = (dig i R ++ [v]) ++ List.replicate r 0 := fun v => by
            have := set_mid (dig i R) 0 v (List.replicate r 0)
            rw [hDl] at this
            rw [List.replicate_succ, this]; simp
          have e12 := Hid.mk (show ((i : Int) + 1).toNat = i + 1 by omega)
          rw [hr]
          (replace hb := Hid.mk hb; replace hs := Hid.mk hs; replace hDl := Hid.mk hDl; replace hset := Hid.mk hset)
          repeat (first | (refine W_seq ?_) | (refine W_reg ?_) | (refine W_regd ?_) | (refine W_block ?_) | (refine And.intro (by omega) ?_) | simp (config := {maxSteps := 1000000}) (disch := omega) only [cA, cB, lk, lkH, Dst.onT, Dst.onX, Dst.slot, setF, setH, mapF, mapH, initF, binE, unE, cnt, boundE, newsE, freshE, opE, rmH, blkQ, frz_us, Nat.reduceEqDiff, Nat.reduceLT, Nat.reduceAdd, ↓reduceIte, reduceCtorEq, Nat.reduceLeDiff, us_length, us_getD, hul, e12.out])
          generalize u.getD i 0 = c0 at *
          generalize u.getD (i + 1) 0 = c1 at *
          repeat (first | (refine W_seq ?_) | (refine W_reg ?_) | (refine W_regd ?_) | (refine W_block ?_) | (refine And.intro (by omega) ?_) | simp (config := {maxSteps := 1000000}) (disch := omega) only [cA, cB, lk, lkH, Dst.onT, Dst.onX, Dst.slot, setF, setH, mapF, mapH, initF, binE, unE, cnt, boundE, newsE, freshE, opE, rmH, blkQ, frz_us, Nat.reduceEqDiff, Nat.reduceLT, Nat.reduceAdd, ↓reduceIte, reduceCtorEq, Nat.reduceLeDiff, us_length, hll, orsh a1 a0 rfl, shr_w _ _ hk, wu32', mod32, us_set, hset.out])
          refine ⟨i + 1, by omega, by omega, by simp [subF, lk], ?_⟩
          rw [hr', hs.out]
        · have hc2 := of_decide_eq_false hc2
          have hi2 : i = n + 2 := by omega
          subst hi2
          have cQ := nTrim_calls qs (by omega) hqs
          have cR := nTrim_calls (dig (n + 2) R) (by rw [dig_length]; omega) (dig_lim _ _)
          rw [nv_dig, Nat.mod_eq_of_lt hrn.out] at cR
          have hqsl : m = qs.length := by omega
          have hrl := dig_length (n + 2) R
          have hz : dig (n + 2) R ++ List.replicate (n + 2 - (n + 2)) 0 = dig (n + 2) R := by simp
          rw [hz]
          repeat (first | (refine W_seq ?_) | (refine W_reg ?_) | (refine W_regd ?_) | (refine W_block ?_) | (refine And.intro (by omega) ?_) | simp (config := {maxSteps := 1000000}) (disch := omega) only [cA, cB, lk, lkH, Dst.onT, Dst.onX, Dst.slot, setF, setH, mapF, mapH, initF, binE, unE, cnt, boundE, newsE, freshE, opE, rmH, blkQ, frz_us, Nat.reduceEqDiff, Nat.reduceLT, Nat.reduceAdd, ↓reduceIte, reduceCtorEq, Nat.reduceLeDiff])
          refine callC_freeze rfl 34 (cells := us qs) (by simp [lkH]) (us_rf _) ?_
          simp (config := {maxSteps := 1000000}) (disch := omega) only [cA, cB, lk, lkH, Dst.onT, Dst.onX, Dst.slot, setF, setH, mapF, mapH, initF, binE, unE, cnt, boundE, newsE, freshE, opE, rmH, blkQ, frz_us, Nat.reduceEqDiff, Nat.reduceLT, Nat.reduceAdd, ↓reduceIte, reduceCtorEq, Nat.reduceLeDiff, frz_us hqsl]
          refine callC_pure cQ rfl ?_
          repeat (first | (refine W_seq ?_) | (refine W_reg ?_) | (refine W_regd ?_) | (refine W_block ?_) | (refine And.intro (by omega) ?_) | simp (config := {maxSteps := 1000000}) (disch := omega) only [cA, cB, lk, lkH, Dst.onT, Dst.onX, Dst.slot, setF, setH, mapF, mapH, initF, binE, unE, cnt, boundE, newsE, freshE, opE, rmH, blkQ, frz_us, Nat.reduceEqDiff, Nat.reduceLT, Nat.reduceAdd, ↓reduceIte, reduceCtorEq, Nat.reduceLeDiff])
          refine callC_freeze rfl 100 (cells := us (dig (n + 2) R)) (by simp [lkH, us_frz]) (us_rf _) ?_
          simp (config := {maxSteps := 1000000}) (disch := omega) only [cA, cB, lk, lkH, Dst.onT, Dst.onX, Dst.slot, setF, setH, mapF, mapH, initF, binE, unE, cnt, boundE, newsE, freshE, opE, rmH, blkQ, frz_us, Nat.reduceEqDiff, Nat.reduceLT, Nat.reduceAdd, ↓reduceIte, reduceCtorEq, Nat.reduceLeDiff, frz_us hrl.symm]
          refine callC_pure cR rfl ?_
          repeat (first | (refine W_seq ?_) | (refine W_reg ?_) | (refine W_regd ?_) | (refine W_block ?_) | (refine And.intro (by omega) ?_) | simp (config := {maxSteps := 1000000}) (disch := omega) only [cA, cB, lk, lkH, Dst.onT, Dst.onX, Dst.slot, setF, setH, mapF, mapH, initF, binE, unE, cnt, boundE, newsE, freshE, opE, rmH, blkQ, frz_us, Nat.reduceEqDiff, Nat.reduceLT, Nat.reduceAdd, ↓reduceIte, reduceCtorEq, Nat.reduceLeDiff])
          exact W_ret (RetP_2 (.imm rfl) (.imm rfl))
end Go.Proofs.Ytecilkmigjbfoaa
namespace Go.Proofs.Ytecilkmigjbfoaa
open Go Go.Dat Go.Proofs Go.RowKit Go.Lib Nat32

set_option maxHeartbeats 2000000 in
set_option maxRecDepth 100000 in
theorem Clone_some (ad : Addr) (n c : Nat) (vs : List Value) (w : World) (hl : vs.length = n) (hn : n ≤ 1000000) (hc : ∀ j u, vs[j]? = some u → w.cell? (ad.add j) = some u) (h1 : ∀ u ∈ vs, u.oneCell' = true) :
    Calls Try.prog 44 #[.slice (some ad) n c] w fun e w' => ∃ v', e = .returned v' ∧ w'.ownsRow w.heap.size 33 1 v' n vs ∧ Below w.heap.size w w' := by
  have q22 : ∀ (w : World) (a : Option Addr) (n c n' c' : Nat), (binOp .eql 22 (.slice a n c) (.slice none n' c')).run Try.prog w = .ok (.bool a.isNone) w := fun w a n c n' c' => Lib.run_eql_slice_nil w _ _ a n c n' c' Try.underlying22
  replace hc := Hid.mk hc
  replace h1 := Hid.mk h1
  go_enter Try.func44, Try.ntmps44
  go_wp2_with (at_builtin; refine wpList_append_own _ rfl _ _ 22 rfl w.heap.size 33 Try.t33 (.int .u32 0) 1 4 Try.underlying22 (by kernel_rfl) (by kernel_rfl) (by kernel_rfl) (by kernel_rfl) rfl (by decide) _ _ _ rfl (World.ownsRow_made w #[] 0 (Nat.le_refl _) (Nat.zero_le _) rfl) ad n c vs rfl ?qc1 ?qc2 ?qc3 ?qc4 ?qc5 ?qc6 ?_)
  case qc1 => simp; omega
  case qc2 =>
    intro j u hj
    exact Lib.cell?_alloc_some _ (hc.out j u hj)
  case qc3 => exact h1.out
  case qc4 => unfold maxLen; omega
  case qc5 => omega
  case qc6 => simp
  intro v' w1 hown hgrow hnil
  go_wp2
  go_ret
  refine ⟨v', rfl, by simpa using hown, ?_⟩
  exact ((Below.refl _ w).alloc (Nat.le_refl _) _).grown hgrow (by simp) (by intro k hk; simp [Value.ownBlock] at hk; omega)

set_option maxHeartbeats 2000000 in
theorem Clone_none (c : Nat) (w : World) : Calls Try.prog 44 #[.slice none 0 c] w fun e w' => e = .returned (.slice none 0 0) ∧ w' = w := by
  have q22 : ∀ (w : World) (a : Option Addr) (n c n' c' : Nat), (binOp .eql 22 (.slice a n c) (.slice none n' c')).run Try.prog w = .ok (.bool a.isNone) w := fun w a n c n' c' => Lib.run_eql_slice_nil w _ _ a n c n' c' Try.underlying22
  go_enter Try.func44, Try.ntmps44
  go_wp2
  go_ret
  exact ⟨rfl, rfl⟩

theorem Clone_calls (a : List Nat) (ha : a.length ≤ 1000000) : PCalls Try.prog 44 [.sl 1 (us a)] (.sl 1 (us a)) := by
  intro A w us0 hA hs hv
  obtain ⟨v, rfl⟩ : ∃ v, us0 = #[v] := by
    obtain ⟨l⟩ := us0
    match l, hs with
    | [v], _ => exact ⟨v, rfl⟩
  have hvi := hv 0 _ v rfl rfl
  generalize hxs : us a = xs at hvi ⊢
  have hxl : xs.length = a.length := by rw [← hxs, us_length]
  cases hvi with
  | sl0 _ ad c =>
    cases ad with
    | none =>
      refine (Clone_none c w).mono ?_
      rintro e w' ⟨rfl, rfl⟩
      exact ⟨_, rfl, .sl0 _ _ _, Ext.refl _ _⟩
    | some ad =>
      refine (Clone_some ad 0 c [] w rfl (by omega) (by simp) (by simp)).mono ?_
      rintro e w' ⟨v', rfl, hown, hb⟩
      exact ⟨_, rfl, VI_of_ownsRow (by decide) hA hown rfl (by simp), Ext_of_below hb⟩
  | @sl _ _ n c ad vs hx hn hc hAb hcell hvv =>
    have hget : ∀ j u, ((List.range xs.length).map vs)[j]? = some u → j < xs.length ∧ u = vs j := by
      intro j u hj
      simp only [List.getElem?_map, Option.map_eq_some_iff] at hj
      obtain ⟨i, hi, rfl⟩ := hj
      obtain ⟨h1, h2⟩ := List.getElem?_eq_some_iff.1 hi
      simp at h1 h2
      subst h2; exact ⟨h1, rfl⟩
    have hex : ∀ j, j < xs.length → ∃ d, xs[j]? = some d := fun j hj => exists_get hj
    refine (Clone_some ad n c ((List.range xs.length).map vs) w (by simp; omega) (by omega) (fun j u hj => ?_) (fun u hu => ?_)).mono ?_
    · obtain ⟨h1, rfl⟩ := hget j u hj
      obtain ⟨d, hd⟩ := hex j h1
      exact hcell j d hd
    · obtain ⟨j, hj⟩ := List.mem_iff_getElem?.1 hu
      obtain ⟨h1, rfl⟩ := hget j u hj
      obtain ⟨d, hd⟩ := hex j h1
      have h3 := hvv j d hd
      have hone : d.one = true := by
        have h4 := us_one a
        rw [hxs] at h4
        exact h4.mpr trivial d (List.mem_of_getElem? hd)
      exact V.oneCell hone (V.imm (L := fun _ => none) h3)
    · rintro e w' ⟨v', rfl, hown, hb⟩
      refine ⟨_, rfl, VI_of_ownsRow (by decide) hA hown hn (fun k d u hk hu => ?_), Ext_of_below hb⟩
      obtain ⟨h1, rfl⟩ := hget k u hu
      exact (hvv k d hk).mono fun b hb' hA' => ⟨hb.block b hb', hA'⟩
end Go.Proofs.Ytecilkmigjbfoaa
namespace Go.Proofs.Ytecilkmigjbfoaa
open Go Go.Dat Go.Proofs Nat32

/-- The rest, and 0 where the divisor is 0. -/
def dmod (x y : Nat) : Nat := if y = 0 then 0 else x % y
theorem dmod_pos {x y : Nat} (h : 0 < y) : dmod x y = x % y := by unfold dmod; rw [if_neg (by omega)]
theorem nDiv_calls (a b : List Nat) (ha : a.length ≤ 100000) (hb : b.length ≤ 100000) (la : lim a) (lb : lim b) :
    PCalls Try.prog 26 [.sl 1 (us a), .sl 1 (us b)] (.tup [.sl 1 (us (limbs (vn a / vn b))), .sl 1 (us (limbs (dmod (vn a) (vn b)))), .bool (decide (0 < vn b))]) := by
  have l1 := vn_len la
  have l2 := vn_len lb
  have c1 := nValue_calls a (by omega) la
  have c2 := nValue_calls b (by omega) lb
  have cC := Clone_calls (limbs (vn a)) (by omega)
  have cc := nCmp_calls (limbs (vn a)) (limbs (vn b)) (by omega) (by omega) (lim_limbs _) (lim_limbs _)
  rw [vn_limbs, vn_limbs] at cc
  refine PCalls_of isnDiv (by simp [fnnDiv]) ?_
  unfold codenDiv
  generalize vn a = x at *
  generalize vn b = y at *
  repeat (first | (refine W_seq ?_) | (refine W_reg ?_) | (refine W_regd ?_) | (refine W_block ?_) | (refine And.intro (by omega) ?_) | simp (config := {maxSteps := 1000000}) (disch := omega) only [cA, cB, lk, lkH, Dst.onT, Dst.onX, Dst.slot, setF, setH, mapF, mapH, initF, binE, unE, cnt, boundE, newsE, freshE, opE, rmH, blkQ, frz_us, Nat.reduceEqDiff, Nat.reduceLT, Nat.reduceAdd, ↓reduceIte, reduceCtorEq, Nat.reduceLeDiff])
  refine callC_pure c1 rfl ?_
  repeat (first | (refine W_seq ?_) | (refine W_reg ?_) | (refine W_regd ?_) | (refine W_block ?_) | (refine And.intro (by omega) ?_) | simp (config := {maxSteps := 1000000}) (disch := omega) only [cA, cB, lk, lkH, Dst.onT, Dst.onX, Dst.slot, setF, setH, mapF, mapH, initF, binE, unE, cnt, boundE, newsE, freshE, opE, rmH, blkQ, frz_us, Nat.reduceEqDiff, Nat.reduceLT, Nat.reduceAdd, ↓reduceIte, reduceCtorEq, Nat.reduceLeDiff])
  refine callC_pure c2 rfl ?_
  repeat (first | (refine W_seq ?_) | (refine W_reg ?_) | (refine W_regd ?_) | (refine W_block ?_) | (refine And.intro (by omega) ?_) | simp (config := {maxSteps := 1000000}) (disch := omega) only [cA, cB, lk, lkH, Dst.onT, Dst.onX, Dst.slot, setF, setH, mapF, mapH, initF, binE, unE, cnt, boundE, newsE, freshE, opE, rmH, blkQ, frz_us, Nat.reduceEqDiff, Nat.reduceLT, Nat.reduceAdd, ↓reduceIte, reduceCtorEq, Nat.reduceLeDiff, us_length])
  refine W_cond rfl (fun h => ?_) (fun h => ?_)
  · have h := of_decide_eq_true h
    have hy : y = 0 := limbs_eq_nil.1 (List.eq_nil_of_length_eq_zero (by omega))
    subst hy
    repeat (first | (refine W_seq ?_) | (refine W_reg ?_) | (refine W_regd ?_) | (refine W_block ?_) | (refine And.intro (by omega) ?_) | simp (config := {maxSteps := 1000000}) (disch := omega) only [cA, cB, lk, lkH, Dst.onT, Dst.onX, Dst.slot, setF, setH, mapF, mapH, initF, binE, unE, cnt, boundE, newsE, freshE, opE, rmH, blkQ, frz_us, Nat.reduceEqDiff, Nat.reduceLT, Nat.reduceAdd, ↓reduceIte, reduceCtorEq, Nat.reduceLeDiff])
    refine W_ret (RetP_3 ?_ ?_ ?_)
    · rw [Nat.div_zero, limbs_zero]; exact .nils 1
    · rw [show dmod x 0 = 0 from rfl, limbs_zero]; exact .nils 1
    · exact .imm rfl
  · have h := of_decide_eq_false h
    have hy : 0 < y := by
      rcases Nat.eq_zero_or_pos y with e | e
      · subst e; rw [limbs_zero] at h; simp at h
      · exact e
    rw [dmod_pos hy, decide_eq_true hy]
    repeat (first | (refine W_seq ?_) | (refine W_reg ?_) | (refine W_regd ?_) | (refine W_block ?_) | (refine And.intro (by omega) ?_) | simp (config := {maxSteps := 1000000}) (disch := omega) only [cA, cB, lk, lkH, Dst.onT, Dst.onX, Dst.slot, setF, setH, mapF, mapH, initF, binE, unE, cnt, boundE, newsE, freshE, opE, rmH, blkQ, frz_us, Nat.reduceEqDiff, Nat.reduceLT, Nat.reduceAdd, ↓reduceIte, reduceCtorEq, Nat.reduceLeDiff])
    refine callC_pure cc rfl ?_
    repeat (first | (refine W_seq ?_) | (refine W_reg ?_) | (refine W_regd ?_) | (refine W_block ?_) | (refine And.intro (by omega) ?_) | simp (config := {maxSteps := 1000000}) (disch := omega) only [cA, cB, lk, lkH, Dst.onT, Dst.onX, Dst.slot, setF, setH, mapF, mapH, initF, binE, unE, cnt, boundE, newsE, freshE, opE, rmH, blkQ, frz_us, Nat.reduceEqDiff, Nat.reduceLT, Nat.reduceAdd, ↓reduceIte, reduceCtorEq, Nat.reduceLeDiff])
    by_cases hxy : x < y
    · have e1 : decide (cmpN x y < 0) = true := decide_eq_true (by unfold cmpN; rw [if_pos hxy]; decide)
      rw [e1]
      refine W_cond rfl (fun _ => ?_) (fun h => by cases h)
      repeat (first | (refine W_seq ?_) | (refine W_reg ?_) | (refine W_regd ?_) | (refine W_block ?_) | (refine And.intro (by omega) ?_) | simp (config := {maxSteps := 1000000}) (disch := omega) only [cA, cB, lk, lkH, Dst.onT, Dst.onX, Dst.slot, setF, setH, mapF, mapH, initF, binE, unE, cnt, boundE, newsE, freshE, opE, rmH, blkQ, frz_us, Nat.reduceEqDiff, Nat.reduceLT, Nat.reduceAdd, ↓reduceIte, reduceCtorEq, Nat.reduceLeDiff])
      refine callC_pure cC rfl ?_
      repeat (first | (refine W_seq ?_) | (refine W_reg ?_) | (refine W_regd ?_) | (refine W_block ?_) | (refine And.intro (by omega) ?_) | simp (config := {maxSteps := 1000000}) (disch := omega) only [cA, cB, lk, lkH, Dst.onT, Dst.onX, Dst.slot, setF, setH, mapF, mapH, initF, binE, unE, cnt, boundE, newsE, freshE, opE, rmH, blkQ, frz_us, Nat.reduceEqDiff, Nat.reduceLT, Nat.reduceAdd, ↓reduceIte, reduceCtorEq, Nat.reduceLeDiff])
      rw [Nat.div_eq_of_lt hxy, Nat.mod_eq_of_lt hxy, limbs_zero]
      exact W_ret (RetP_3 (.nils 1) (.imm rfl) (.imm rfl))
    · have e1 : decide (cmpN x y < 0) = false := decide_eq_false (by unfold cmpN; rw [if_neg hxy]; split <;> decide)
      rw [e1]
      refine W_cond rfl (fun h => by cases h) (fun _ => ?_)
      repeat (first | (refine W_seq ?_) | (refine W_reg ?_) | (refine W_regd ?_) | (refine W_block ?_) | (refine And.intro (by omega) ?_) | simp (config := {maxSteps := 1000000}) (disch := omega) only [cA, cB, lk, lkH, Dst.onT, Dst.onX, Dst.slot, setF, setH, mapF, mapH, initF, binE, unE, cnt, boundE, newsE, freshE, opE, rmH, blkQ, frz_us, Nat.reduceEqDiff, Nat.reduceLT, Nat.reduceAdd, ↓reduceIte, reduceCtorEq, Nat.reduceLeDiff, us_length])
      refine W_cond rfl (fun h1 => ?_) (fun h1 => W_skip ?_)
      · have h1 := of_decide_eq_true h1
        have hyB : y < 4294967296 := by simpa using limbs_len.1 (show (limbs y).length ≤ 1 by omega)
        have hby : limbs y = [y] := limbs_one (by omega) hyB
        have cs := nShort_calls x y (by omega) hy hyB
        have hr := Nat.mod_lt x hy
        have cf := nFromUint_calls (x % y) (by omega)
        have g0 : (us [y]).getD (Int.toNat 0) DV.undef = .int .u32 y := rfl
        rw [hby]
        generalize x % y = r at *
        repeat (first | (refine W_seq ?_) | (refine W_reg ?_) | (refine W_regd ?_) | (refine W_block ?_) | (refine And.intro (by omega) ?_) | simp (config := {maxSteps := 1000000}) (disch := omega) only [cA, cB, lk, lkH, Dst.onT, Dst.onX, Dst.slot, setF, setH, mapF, mapH, initF, binE, unE, cnt, boundE, newsE, freshE, opE, rmH, blkQ, frz_us, Nat.reduceEqDiff, Nat.reduceLT, Nat.reduceAdd, ↓reduceIte, reduceCtorEq, Nat.reduceLeDiff, us_length, g0])
        refine callC_pure cs rfl ?_
        repeat (first | (refine W_seq ?_) | (refine W_reg ?_) | (refine W_regd ?_) | (refine W_block ?_) | (refine And.intro (by omega) ?_) | simp (config := {maxSteps := 1000000}) (disch := omega) only [cA, cB, lk, lkH, Dst.onT, Dst.onX, Dst.slot, setF, setH, mapF, mapH, initF, binE, unE, cnt, boundE, newsE, freshE, opE, rmH, blkQ, frz_us, Nat.reduceEqDiff, Nat.reduceLT, Nat.reduceAdd, ↓reduceIte, reduceCtorEq, Nat.reduceLeDiff])
        refine callC_pure cf rfl ?_
        repeat (first | (refine W_seq ?_) | (refine W_reg ?_) | (refine W_regd ?_) | (refine W_block ?_) | (refine And.intro (by omega) ?_) | simp (config := {maxSteps := 1000000}) (disch := omega) only [cA, cB, lk, lkH, Dst.onT, Dst.onX, Dst.slot, setF, setH, mapF, mapH, initF, binE, unE, cnt, boundE, newsE, freshE, opE, rmH, blkQ, frz_us, Nat.reduceEqDiff, Nat.reduceLT, Nat.reduceAdd, ↓reduceIte, reduceCtorEq, Nat.reduceLeDiff])
        exact W_ret (RetP_3 (.imm rfl) (.imm rfl) (.imm rfl))
      · have h1 := of_decide_eq_false h1
        obtain ⟨n, hn⟩ : ∃ n, (limbs y).length = n + 2 := ⟨(limbs y).length - 2, by omega⟩
        have cd := nDivide_calls x y n hn (by omega) (by omega)
        repeat (first | (refine W_seq ?_) | (refine W_reg ?_) | (refine W_regd ?_) | (refine W_block ?_) | (refine And.intro (by omega) ?_) | simp (config := {maxSteps := 1000000}) (disch := omega) only [cA, cB, lk, lkH, Dst.onT, Dst.onX, Dst.slot, setF, setH, mapF, mapH, initF, binE, unE, cnt, boundE, newsE, freshE, opE, rmH, blkQ, frz_us, Nat.reduceEqDiff, Nat.reduceLT, Nat.reduceAdd, ↓reduceIte, reduceCtorEq, Nat.reduceLeDiff])
        refine callC_pure cd rfl ?_
        repeat (first | (refine W_seq ?_) | (refine W_reg ?_) | (refine W_regd ?_) | (refine W_block ?_) | (refine And.intro (by omega) ?_) | simp (config := {maxSteps := 1000000}) (disch := omega) only [cA, cB, lk, lkH, Dst.onT, Dst.onX, Dst.slot, setF, setH, mapF, mapH, initF, binE, unE, cnt, boundE, newsE, freshE, opE, rmH, blkQ, frz_us, Nat.reduceEqDiff, Nat.reduceLT, Nat.reduceAdd, ↓reduceIte, reduceCtorEq, Nat.reduceLeDiff])
        exact W_ret (RetP_3 (.imm rfl) (.imm rfl) (.imm rfl))
end Go.Proofs.Ytecilkmigjbfoaa
namespace Go.Proofs.Ytecilkmigjbfoaa
open Go Go.Dat Go.Proofs Nat32

theorem rTimes_calls (x v b : Nat) (ha : (limbs x).length ≤ 100000) (hv : v < 4294967296) (hb : b ≤ 100000) : PCalls Try.prog 53 [.sl 1 (us (limbs x)), .int .u32 v, .int .i64 b] (.sl 1 (us (limbs (4294967296 ^ b * (x * v))))) := by
  refine PCalls_of isrTimes (by simp [fnrTimes]) ?_
  unfold coderTimes
  have laX := lim_limbs x
  refine W_seq (W_reg ?_)
  simp (config := {maxSteps := 1000000}) (disch := omega) only [cA, cB, lk, lkH, Dst.onT, Dst.onX, Dst.slot, setF, setH, mapF, mapH, initF, binE, unE, cnt, boundE, newsE, freshE, opE, rmH, blkQ, frz_us, Nat.reduceEqDiff, Nat.reduceLT, Nat.reduceAdd, ↓reduceIte, reduceCtorEq, Nat.reduceLeDiff]
  repeat refine ⟨by omega, ?_⟩
  refine W_seq (W_reg ?_)
  simp (config := {maxSteps := 1000000}) (disch := omega) only [cA, cB, lk, lkH, Dst.onT, Dst.onX, Dst.slot, setF, setH, mapF, mapH, initF, binE, unE, cnt, boundE, newsE, freshE, opE, rmH, blkQ, frz_us, Nat.reduceEqDiff, Nat.reduceLT, Nat.reduceAdd, ↓reduceIte, reduceCtorEq, Nat.reduceLeDiff, us_rep, nbrTimes]
  repeat refine ⟨by omega, ?_⟩
  refine W_seq (W_reg ?_)
  simp (config := {maxSteps := 1000000}) (disch := omega) only [cA, cB, lk, lkH, Dst.onT, Dst.onX, Dst.slot, setF, setH, mapF, mapH, initF, binE, unE, cnt, boundE, newsE, freshE, opE, rmH, blkQ, frz_us, Nat.reduceEqDiff, Nat.reduceLT, Nat.reduceAdd, ↓reduceIte, reduceCtorEq, Nat.reduceLeDiff]
  repeat refine ⟨by omega, ?_⟩
  refine W_seq (W_seq (W_reg ?_))
  simp (config := {maxSteps := 1000000}) (disch := omega) only [cA, cB, lk, lkH, Dst.onT, Dst.onX, Dst.slot, setF, setH, mapF, mapH, initF, binE, unE, cnt, boundE, newsE, freshE, opE, rmH, blkQ, frz_us, Nat.reduceEqDiff, Nat.reduceLT, Nat.reduceAdd, ↓reduceIte, reduceCtorEq, Nat.reduceLeDiff]
  repeat refine ⟨by omega, ?_⟩
  refine W_block (W_loop (σ := List Nat × Nat) (fun s => [(0, .sl 1 (us (limbs x))), (1, .int .u32 v), (7, .osl 1 12 0 (b + s.1.length)), (8, .int .u64 s.2), (9, .int .i64 s.1.length)])
    (fun s => [(12, us (List.replicate b 0 ++ s.1))])
    (fun s => s.1.length ≤ (limbs x).length + 1 ∧ lim s.1 ∧ s.2 < 4294967296 ∧ nv s.1 + 4294967296 ^ s.1.length * s.2 = nv ((limbs x).take s.1.length) * v)
    (fun s => (limbs x).length + 1 - s.1.length) ([], 0) ⟨Nat.zero_le _, lim_nil, by decide, by simp [nv]⟩ ?_ ?_ ?_)
  · simp [subF, lk]
  · simp
  · rintro ⟨q, c⟩ ⟨hn, hlq, hc, hnv⟩
    simp only at hn hlq hc hnv ⊢
    refine W_seq (W_seq (W_reg ?_))
    simp (config := {maxSteps := 1000000}) (disch := omega) only [cA, cB, lk, lkH, Dst.onT, Dst.onX, Dst.slot, setF, setH, mapF, mapH, initF, binE, unE, cnt, boundE, newsE, freshE, opE, rmH, blkQ, frz_us, Nat.reduceEqDiff, Nat.reduceLT, Nat.reduceAdd, ↓reduceIte, reduceCtorEq, Nat.reduceLeDiff, us_length]
    repeat refine ⟨by omega, ?_⟩
    refine W_cond rfl (fun hcd => W_skip ?_) (fun hcd => W_exit ?_)
    · have hlt := of_decide_eq_true hcd
      have hxn := lim_getD laX q.length
      have cx := rLimb_calls (limbs x) q.length (by omega) laX
      have hsum := mul_step (a := (limbs x).getD q.length 0) hnv
      rw [← nv_take_succ', ← Nat.pow_succ] at hsum
      have hcl := mul_div_lt hxn hv hc
      simp (config := {maxSteps := 1000000}) (disch := omega) only [cA, cB, lk, lkH, Dst.onT, Dst.onX, Dst.slot, setF, setH, mapF, mapH, initF, binE, unE, cnt, boundE, newsE, freshE, opE, rmH, blkQ, frz_us, Nat.reduceEqDiff, Nat.reduceLT, Nat.reduceAdd, ↓reduceIte, reduceCtorEq, Nat.reduceLeDiff]
      repeat refine ⟨by omega, ?_⟩
      refine W_seq (W_block (W_seq (W_reg ?_)))
      simp (config := {maxSteps := 1000000}) (disch := omega) only [cA, cB, lk, lkH, Dst.onT, Dst.onX, Dst.slot, setF, setH, mapF, mapH, initF, binE, unE, cnt, boundE, newsE, freshE, opE, rmH, blkQ, frz_us, Nat.reduceEqDiff, Nat.reduceLT, Nat.reduceAdd, ↓reduceIte, reduceCtorEq, Nat.reduceLeDiff]
      repeat refine ⟨by omega, ?_⟩
      refine callC_pure cx rfl ?_
      generalize (limbs x).getD q.length 0 = xn at *
      simp (config := {maxSteps := 1000000}) (disch := omega) only [cA, cB, lk, lkH, Dst.onT, Dst.onX, Dst.slot, setF, setH, mapF, mapH, initF, binE, unE, cnt, boundE, newsE, freshE, opE, rmH, blkQ, frz_us, Nat.reduceEqDiff, Nat.reduceLT, Nat.reduceAdd, ↓reduceIte, reduceCtorEq, Nat.reduceLeDiff, mul_w, mul_w2]
      repeat refine ⟨by omega, ?_⟩
      rw [show ((xn : Int) * (v : Int) + (c : Int)) = ((xn * v + c : Nat) : Int) by simp]
      refine W_reg ?_
      have hsm : xn * v + c < 18446744073709551616 := by
        have := mul_le hxn hv
        omega
      generalize xn * v + c = s at *
      have hlen : (List.replicate b 0 ++ q).length = b + q.length := by simp
      have hap : List.replicate b 0 ++ q ++ [s % 4294967296] = List.replicate b 0 ++ (q ++ [s % 4294967296]) := by simp
      simp (config := {maxSteps := 1000000}) (disch := omega) only [cA, cB, lk, lkH, Dst.onT, Dst.onX, Dst.slot, setF, setH, mapF, mapH, initF, binE, unE, cnt, boundE, newsE, freshE, opE, rmH, blkQ, frz_us, Nat.reduceEqDiff, Nat.reduceLT, Nat.reduceAdd, ↓reduceIte, reduceCtorEq, Nat.reduceLeDiff, wu32', mod32, rf1, one1, newsE, shr32u64, us_length, us_snoc, us_purge, hlen, hap]
      repeat refine ⟨by omega, ?_⟩
      refine W_reg ?_
      simp (config := {maxSteps := 1000000}) (disch := omega) only [cA, cB, lk, lkH, Dst.onT, Dst.onX, Dst.slot, setF, setH, mapF, mapH, initF, binE, unE, cnt, boundE, newsE, freshE, opE, rmH, blkQ, frz_us, Nat.reduceEqDiff, Nat.reduceLT, Nat.reduceAdd, ↓reduceIte, reduceCtorEq, Nat.reduceLeDiff]
      have hql : (q ++ [s % 4294967296]).length = q.length + 1 := by simp
      refine ⟨(q ++ [s % 4294967296], s / 4294967296), ⟨by simp only; omega, ?_, hcl, ?_⟩, by simp only; omega, by simp [subF, lk, Nat.add_assoc], by simp⟩
      · intro z hz
        rcases List.mem_append.1 hz with h | h
        · exact hlq z h
        · rw [List.mem_singleton.1 h]; omega
      · simp only [hql]
        rw [nv_app]
        simp only [nv, Nat.mul_zero, Nat.add_zero]
        exact hsum
    · have hge := of_decide_eq_false hcd
      have hl : q.length = (limbs x).length + 1 := by omega
      rw [List.take_of_length_le (by omega), nv_limbs, hl] at hnv
      have hxl : x < 4294967296 ^ (limbs x).length := limbs_len.1 (Nat.le_refl _)
      have hc0 : c = 0 := c_zero (by rw [hnv]; exact mul_lt_pow hxl hv)
      subst hc0
      rw [Nat.mul_zero, Nat.add_zero] at hnv
      have hlim : lim (List.replicate b 0 ++ q) := by
        intro z hz
        rcases List.mem_append.1 hz with h | h
        · rw [List.eq_of_mem_replicate h]; decide
        · exact hlq z h
      have hlen : b + q.length = (List.replicate b 0 ++ q).length := by simp
      have ct := rTrim_calls (List.replicate b 0 ++ q) (by omega) hlim
      rw [nv_rep_app, hnv] at ct
      simp (config := {maxSteps := 1000000}) (disch := omega) only [cA, cB, lk, lkH, Dst.onT, Dst.onX, Dst.slot, setF, setH, mapF, mapH, initF, binE, unE, cnt, boundE, newsE, freshE, opE, rmH, blkQ, frz_us, Nat.reduceEqDiff, Nat.reduceLT, Nat.reduceAdd, ↓reduceIte, reduceCtorEq, Nat.reduceLeDiff]
      repeat refine ⟨by omega, ?_⟩
      refine W_seq (W_reg ?_)
      simp (config := {maxSteps := 1000000}) (disch := omega) only [cA, cB, lk, lkH, Dst.onT, Dst.onX, Dst.slot, setF, setH, mapF, mapH, initF, binE, unE, cnt, boundE, newsE, freshE, opE, rmH, blkQ, frz_us, Nat.reduceEqDiff, Nat.reduceLT, Nat.reduceAdd, ↓reduceIte, reduceCtorEq, Nat.reduceLeDiff]
      repeat refine ⟨by omega, ?_⟩
      refine callC_freeze rfl 12 (cells := us (List.replicate b 0 ++ q)) (by simp [lkH]) (us_rf _) ?_
      simp (config := {maxSteps := 1000000}) (disch := omega) only [cA, cB, lk, lkH, Dst.onT, Dst.onX, Dst.slot, setF, setH, mapF, mapH, initF, binE, unE, cnt, boundE, newsE, freshE, opE, rmH, blkQ, frz_us, Nat.reduceEqDiff, Nat.reduceLT, Nat.reduceAdd, ↓reduceIte, reduceCtorEq, Nat.reduceLeDiff, frz_us hlen]
      refine callC_pure ct rfl ?_
      simp (config := {maxSteps := 1000000}) (disch := omega) only [cA, cB, lk, lkH, Dst.onT, Dst.onX, Dst.slot, setF, setH, mapF, mapH, initF, binE, unE, cnt, boundE, newsE, freshE, opE, rmH, blkQ, frz_us, Nat.reduceEqDiff, Nat.reduceLT, Nat.reduceAdd, ↓reduceIte, reduceCtorEq, Nat.reduceLeDiff]
      exact W_ret (RetP_1 (.imm rfl))

theorem rMul_calls (a b : List Nat) (ha : a.length ≤ 10000) (hb : b.length ≤ 10000) (la : lim a) (lb : lim b) : PCalls Try.prog 37 [.sl 1 (us a), .sl 1 (us b)] (.sl 1 (us (limbs (vn a * vn b)))) := by
  have h1 := vn_len la
  have h2 := vn_len lb
  have c1 := rTake_calls a (by omega) la
  have c2 := rTake_calls b (by omega) lb
  refine PCalls_of isrMul (by simp [fnrMul]) ?_
  unfold coderMul
  generalize vn a = x at h1 c1 ⊢
  generalize vn b = y at h2 c2 ⊢
  have laY := lim_limbs y
  refine W_seq (W_reg ?_)
  simp (config := {maxSteps := 1000000}) (disch := omega) only [cA, cB, lk, lkH, Dst.onT, Dst.onX, Dst.slot, setF, setH, mapF, mapH, initF, binE, unE, cnt, boundE, newsE, freshE, opE, rmH, blkQ, frz_us, Nat.reduceEqDiff, Nat.reduceLT, Nat.reduceAdd, ↓reduceIte, reduceCtorEq, Nat.reduceLeDiff]
  repeat refine ⟨by omega, ?_⟩
  refine W_seq (W_reg ?_)
  simp (config := {maxSteps := 1000000}) (disch := omega) only [cA, cB, lk, lkH, Dst.onT, Dst.onX, Dst.slot, setF, setH, mapF, mapH, initF, binE, unE, cnt, boundE, newsE, freshE, opE, rmH, blkQ, frz_us, Nat.reduceEqDiff, Nat.reduceLT, Nat.reduceAdd, ↓reduceIte, reduceCtorEq, Nat.reduceLeDiff]
  repeat refine ⟨by omega, ?_⟩
  refine callC_pure c1 rfl ?_
  simp (config := {maxSteps := 1000000}) (disch := omega) only [cA, cB, lk, lkH, Dst.onT, Dst.onX, Dst.slot, setF, setH, mapF, mapH, initF, binE, unE, cnt, boundE, newsE, freshE, opE, rmH, blkQ, frz_us, Nat.reduceEqDiff, Nat.reduceLT, Nat.reduceAdd, ↓reduceIte, reduceCtorEq, Nat.reduceLeDiff]
  repeat refine ⟨by omega, ?_⟩
  refine callC_pure c2 rfl ?_
  simp (config := {maxSteps := 1000000}) (disch := omega) only [cA, cB, lk, lkH, Dst.onT, Dst.onX, Dst.slot, setF, setH, mapF, mapH, initF, binE, unE, cnt, boundE, newsE, freshE, opE, rmH, blkQ, frz_us, Nat.reduceEqDiff, Nat.reduceLT, Nat.reduceAdd, ↓reduceIte, reduceCtorEq, Nat.reduceLeDiff]
  repeat refine ⟨by omega, ?_⟩
  refine W_seq (W_reg ?_)
  simp (config := {maxSteps := 1000000}) (disch := omega) only [cA, cB, lk, lkH, Dst.onT, Dst.onX, Dst.slot, setF, setH, mapF, mapH, initF, binE, unE, cnt, boundE, newsE, freshE, opE, rmH, blkQ, frz_us, Nat.reduceEqDiff, Nat.reduceLT, Nat.reduceAdd, ↓reduceIte, reduceCtorEq, Nat.reduceLeDiff]
  repeat refine ⟨by omega, ?_⟩
  refine W_seq (W_seq (W_reg ?_))
  simp (config := {maxSteps := 1000000}) (disch := omega) only [cA, cB, lk, lkH, Dst.onT, Dst.onX, Dst.slot, setF, setH, mapF, mapH, initF, binE, unE, cnt, boundE, newsE, freshE, opE, rmH, blkQ, frz_us, Nat.reduceEqDiff, Nat.reduceLT, Nat.reduceAdd, ↓reduceIte, reduceCtorEq, Nat.reduceLeDiff]
  repeat refine ⟨by omega, ?_⟩
  refine W_block (W_loop (σ := Nat) (fun n => [(0, .sl 1 (us (limbs x))), (1, .sl 1 (us (limbs y))), (5, if n = 0 then .nils else .sl 1 (us (limbs (x * nv ((limbs y).take n))))), (6, .int .i64 n)]) (fun _ => []) (fun n => n ≤ (limbs y).length) (fun n => (limbs y).length - n) 0 (Nat.zero_le _) ?_ rfl ?_)
  · simp [subF, lk]
  · rintro n hn
    refine W_seq (W_seq (W_reg ?_))
    simp (config := {maxSteps := 1000000}) (disch := omega) only [cA, cB, lk, lkH, Dst.onT, Dst.onX, Dst.slot, setF, setH, mapF, mapH, initF, binE, unE, cnt, boundE, newsE, freshE, opE, rmH, blkQ, frz_us, Nat.reduceEqDiff, Nat.reduceLT, Nat.reduceAdd, ↓reduceIte, reduceCtorEq, Nat.reduceLeDiff, us_length]
    repeat refine ⟨by omega, ?_⟩
    refine W_cond rfl (fun hcd => W_skip ?_) (fun hcd => W_exit ?_)
    · have hlt := of_decide_eq_true hcd
      have hlt : n < (limbs y).length := by omega
      have hyn := lim_getD laY n
      have hts := nv_take_succ' (a := limbs y) n
      have ct := rTimes_calls x ((limbs y).getD n 0) n (by omega) hyn (by omega)
      have hz : (limbs (nv ((limbs y).take n))).length ≤ (limbs y).length := limbs_len.2 (Nat.lt_of_lt_of_le (nv_lt (lim_take laY n)) (Nat.pow_le_pow_right (by decide) (by simp; omega)))
      have hw : (limbs ((limbs y).getD n 0)).length ≤ 1 := limbs_len.2 (by omega)
      have l1 := len_mul (x := x) (show (limbs x).length ≤ 10000 by omega) hz
      have hp : (limbs (4294967296 ^ n)).length ≤ n + 1 := limbs_len.2 (Nat.pow_lt_pow_right (by decide) (by omega))
      have l2 := len_mul (y := x * (limbs y).getD n 0) hp (len_mul (x := x) (show (limbs x).length ≤ 10000 by omega) hw)
      have ca := rAdd_calls (limbs (x * nv ((limbs y).take n))) (limbs (4294967296 ^ n * (x * (limbs y).getD n 0))) (by omega) (by omega) (lim_limbs _) (lim_limbs _)
      have he : x * nv ((limbs y).take n) + 4294967296 ^ n * (x * (limbs y).getD n 0) = x * nv ((limbs y).take (n + 1)) := by
        rw [hts, Nat.mul_add]
        congr 1
        rw [← Nat.mul_assoc, Nat.mul_comm (4294967296 ^ n) x, Nat.mul_assoc]
      rw [vn_limbs, vn_limbs, he] at ca
      simp (config := {maxSteps := 1000000}) (disch := omega) only [cA, cB, lk, lkH, Dst.onT, Dst.onX, Dst.slot, setF, setH, mapF, mapH, initF, binE, unE, cnt, boundE, newsE, freshE, opE, rmH, blkQ, frz_us, Nat.reduceEqDiff, Nat.reduceLT, Nat.reduceAdd, ↓reduceIte, reduceCtorEq, Nat.reduceLeDiff]
      repeat refine ⟨by omega, ?_⟩
      refine W_seq (W_block (W_reg ?_))
      simp (config := {maxSteps := 1000000}) (disch := omega) only [cA, cB, lk, lkH, Dst.onT, Dst.onX, Dst.slot, setF, setH, mapF, mapH, initF, binE, unE, cnt, boundE, newsE, freshE, opE, rmH, blkQ, frz_us, Nat.reduceEqDiff, Nat.reduceLT, Nat.reduceAdd, ↓reduceIte, reduceCtorEq, Nat.reduceLeDiff, us_length, us_getD]
      repeat refine ⟨by omega, ?_⟩
      refine callC_pure ct rfl ?_
      simp (config := {maxSteps := 1000000}) (disch := omega) only [cA, cB, lk, lkH, Dst.onT, Dst.onX, Dst.slot, setF, setH, mapF, mapH, initF, binE, unE, cnt, boundE, newsE, freshE, opE, rmH, blkQ, frz_us, Nat.reduceEqDiff, Nat.reduceLT, Nat.reduceAdd, ↓reduceIte, reduceCtorEq, Nat.reduceLeDiff]
      repeat refine ⟨by omega, ?_⟩
      refine callC_nil (rs := [.sl 1 (us (limbs (x * nv ((limbs y).take n)))), .sl 1 (us (limbs (4294967296 ^ n * (x * (limbs y).getD n 0))))]) rfl rfl (fun k d r h1 h2 => ?_) ca rfl ?_
      · match k with
        | 0 =>
          simp at h1 h2; subst h1; subst h2
          by_cases hn0 : n = 0
          · subst hn0
            simp only [if_true, List.take_zero, nv, Nat.mul_zero, limbs_zero, us_nil]
            exact .nil 1
          · rw [if_neg hn0]; exact .same _
        | 1 => simp at h1 h2; subst h1; subst h2; exact .same _
        | k + 2 => simp at h1
      · simp (config := {maxSteps := 1000000}) (disch := omega) only [cA, cB, lk, lkH, Dst.onT, Dst.onX, Dst.slot, setF, setH, mapF, mapH, initF, binE, unE, cnt, boundE, newsE, freshE, opE, rmH, blkQ, frz_us, Nat.reduceEqDiff, Nat.reduceLT, Nat.reduceAdd, ↓reduceIte, reduceCtorEq, Nat.reduceLeDiff]
        repeat refine ⟨by omega, ?_⟩
        refine W_reg ?_
        simp (config := {maxSteps := 1000000}) (disch := omega) only [cA, cB, lk, lkH, Dst.onT, Dst.onX, Dst.slot, setF, setH, mapF, mapH, initF, binE, unE, cnt, boundE, newsE, freshE, opE, rmH, blkQ, frz_us, Nat.reduceEqDiff, Nat.reduceLT, Nat.reduceAdd, ↓reduceIte, reduceCtorEq, Nat.reduceLeDiff]
        exact ⟨n + 1, by omega, by omega, by simp [subF, lk]⟩
    · have hge := of_decide_eq_false hcd
      have hnl : n = (limbs y).length := by omega
      subst hnl
      simp (config := {maxSteps := 1000000}) (disch := omega) only [cA, cB, lk, lkH, Dst.onT, Dst.onX, Dst.slot, setF, setH, mapF, mapH, initF, binE, unE, cnt, boundE, newsE, freshE, opE, rmH, blkQ, frz_us, Nat.reduceEqDiff, Nat.reduceLT, Nat.reduceAdd, ↓reduceIte, reduceCtorEq, Nat.reduceLeDiff]
      repeat refine ⟨by omega, ?_⟩
      refine W_seq (W_reg ?_)
      simp (config := {maxSteps := 1000000}) (disch := omega) only [cA, cB, lk, lkH, Dst.onT, Dst.onX, Dst.slot, setF, setH, mapF, mapH, initF, binE, unE, cnt, boundE, newsE, freshE, opE, rmH, blkQ, frz_us, Nat.reduceEqDiff, Nat.reduceLT, Nat.reduceAdd, ↓reduceIte, reduceCtorEq, Nat.reduceLeDiff]
      repeat refine ⟨by omega, ?_⟩
      refine W_ret (RetP_1 ?_)
      simp (config := {maxSteps := 1000000}) (disch := omega) only [cA, cB, lk, lkH, Dst.onT, Dst.onX, Dst.slot, setF, setH, mapF, mapH, initF, binE, unE, cnt, boundE, newsE, freshE, opE, rmH, blkQ, frz_us, Nat.reduceEqDiff, Nat.reduceLT, Nat.reduceAdd, ↓reduceIte, reduceCtorEq, Nat.reduceLeDiff]
      repeat refine ⟨by omega, ?_⟩
      rw [List.take_of_length_le (Nat.le_refl _), nv_limbs]
      by_cases hn0 : (limbs y).length = 0
      · rw [if_pos hn0]
        have : y = 0 := limbs_eq_nil.1 (List.eq_nil_of_length_eq_zero hn0)
        subst this
        rw [Nat.mul_zero, limbs_zero]
        exact .nils 1
      · rw [if_neg hn0]; exact .imm rfl
end Go.Proofs.Ytecilkmigjbfoaa
namespace Go.Proofs.Ytecilkmigjbfoaa
open Go Go.Dat Go.Proofs Nat32

theorem rBit_calls (a : List Nat) (i : Nat) (ha : a.length ≤ 1000000) (la : lim a) (hi : i / 32 < a.length) : PCalls Try.prog 50 [.sl 1 (us a), .int .i64 i] (.int .u32 (nv a / 2 ^ i % 2 : Nat)) := by
  have hx := lim_getD la (i / 32)
  have hm : i % 32 < 32 := Nat.mod_lt _ (by decide)
  have hdl := Nat.lt_of_le_of_lt (Nat.div_le_self (a.getD (i / 32) 0) (2 ^ (i % 32))) hx
  rw [← bit_of la i hi]
  refine PCalls_of isrBit (by simp [fnrBit]) ?_
  unfold coderBit
  have hm2 : i % 32 ≤ 31 := by omega
  repeat (first | (refine W_seq ?_) | (refine W_reg ?_) | (refine W_regd ?_) | (refine W_block ?_) | (refine And.intro (by omega) ?_) | simp (config := {maxSteps := 1000000}) (disch := omega) only [cA, cB, lk, lkH, Dst.onT, Dst.onX, Dst.slot, setF, setH, mapF, mapH, initF, binE, unE, cnt, boundE, newsE, freshE, opE, rmH, blkQ, frz_us, Nat.reduceEqDiff, Nat.reduceLT, Nat.reduceAdd, ↓reduceIte, reduceCtorEq, Nat.reduceLeDiff, tdiv32, tmod32, us_length, us_getD])
  generalize a.getD (i / 32) 0 = x at *
  generalize i % 32 = m at *
  repeat (first | (refine W_seq ?_) | (refine W_reg ?_) | (refine W_regd ?_) | (refine W_block ?_) | (refine And.intro (by omega) ?_) | simp (config := {maxSteps := 1000000}) (disch := omega) only [cA, cB, lk, lkH, Dst.onT, Dst.onX, Dst.slot, setF, setH, mapF, mapH, initF, binE, unE, cnt, boundE, newsE, freshE, opE, rmH, blkQ, frz_us, Nat.reduceEqDiff, Nat.reduceLT, Nat.reduceAdd, ↓reduceIte, reduceCtorEq, Nat.reduceLeDiff, shr_w32 _ _ hm2, and_one hdl])
  exact W_ret (RetP_1 (.imm rfl))

theorem vn1 : vn [1] = 1 := by decide
theorem rDouble_calls (x one : Nat) (hx : (limbs x).length ≤ 10000) (h1 : one ≤ 1) : PCalls Try.prog 49 [.sl 1 (us (limbs x)), .int .u32 one] (.sl 1 (us (limbs (2 * x + one)))) := by
  have ct := rTimes_calls x 2 0 (by omega) (by decide) (by decide)
  rw [Nat.pow_zero, Nat.one_mul, Nat.mul_comm x] at ct
  have hl := len_double hx
  have hl2 := len_mono (show 2 * x ≤ 2 * x + 1 by omega)
  have ca := rAdd_calls (limbs (2 * x)) [1] (by omega) (by simp) (lim_limbs _) (lim1 (by decide))
  rw [vn_limbs, vn1] at ca
  refine PCalls_of isrDouble (by simp [fnrDouble]) ?_
  unfold coderDouble
  repeat (first | (refine W_seq ?_) | (refine W_reg ?_) | (refine W_regd ?_) | (refine W_block ?_) | (refine And.intro (by omega) ?_) | simp (config := {maxSteps := 1000000}) (disch := omega) only [cA, cB, lk, lkH, Dst.onT, Dst.onX, Dst.slot, setF, setH, mapF, mapH, initF, binE, unE, cnt, boundE, newsE, freshE, opE, rmH, blkQ, frz_us, Nat.reduceEqDiff, Nat.reduceLT, Nat.reduceAdd, ↓reduceIte, reduceCtorEq, Nat.reduceLeDiff])
  refine callC_pure ct rfl ?_
  repeat (first | (refine W_seq ?_) | (refine W_reg ?_) | (refine W_regd ?_) | (refine W_block ?_) | (refine And.intro (by omega) ?_) | simp (config := {maxSteps := 1000000}) (disch := omega) only [cA, cB, lk, lkH, Dst.onT, Dst.onX, Dst.slot, setF, setH, mapF, mapH, initF, binE, unE, cnt, boundE, newsE, freshE, opE, rmH, blkQ, frz_us, Nat.reduceEqDiff, Nat.reduceLT, Nat.reduceAdd, ↓reduceIte, reduceCtorEq, Nat.reduceLeDiff])
  refine W_cond rfl (fun h => ?_) (fun h => W_skip ?_)
  · have h := of_decide_eq_true h
    have : one = 1 := by omega
    subst this
    repeat (first | (refine W_seq ?_) | (refine W_reg ?_) | (refine W_regd ?_) | (refine W_block ?_) | (refine And.intro (by omega) ?_) | simp (config := {maxSteps := 1000000}) (disch := omega) only [cA, cB, lk, lkH, Dst.onT, Dst.onX, Dst.slot, setF, setH, mapF, mapH, initF, binE, unE, cnt, boundE, newsE, freshE, opE, rmH, blkQ, frz_us, Nat.reduceEqDiff, Nat.reduceLT, Nat.reduceAdd, ↓reduceIte, reduceCtorEq, Nat.reduceLeDiff, usrf1])
    refine callC_pure ca rfl ?_
    repeat (first | (refine W_seq ?_) | (refine W_reg ?_) | (refine W_regd ?_) | (refine W_block ?_) | (refine And.intro (by omega) ?_) | simp (config := {maxSteps := 1000000}) (disch := omega) only [cA, cB, lk, lkH, Dst.onT, Dst.onX, Dst.slot, setF, setH, mapF, mapH, initF, binE, unE, cnt, boundE, newsE, freshE, opE, rmH, blkQ, frz_us, Nat.reduceEqDiff, Nat.reduceLT, Nat.reduceAdd, ↓reduceIte, reduceCtorEq, Nat.reduceLeDiff])
    exact W_ret (RetP_1 (.imm rfl))
  · have h := of_decide_eq_false h
    have : one = 0 := by omega
    subst this
    repeat (first | (refine W_seq ?_) | (refine W_reg ?_) | (refine W_regd ?_) | (refine W_block ?_) | (refine And.intro (by omega) ?_) | simp (config := {maxSteps := 1000000}) (disch := omega) only [cA, cB, lk, lkH, Dst.onT, Dst.onX, Dst.slot, setF, setH, mapF, mapH, initF, binE, unE, cnt, boundE, newsE, freshE, opE, rmH, blkQ, frz_us, Nat.reduceEqDiff, Nat.reduceLT, Nat.reduceAdd, ↓reduceIte, reduceCtorEq, Nat.reduceLeDiff])
    exact W_ret (RetP_1 (.imm rfl))

theorem rDiv_calls (a b : List Nat) (ha : a.length ≤ 1000) (hb : b.length ≤ 1000) (la : lim a) (lb : lim b) :
    PCalls Try.prog 32 [.sl 1 (us a), .sl 1 (us b)] (.tup [.sl 1 (us (limbs (vn a / vn b))), .sl 1 (us (limbs (dmod (vn a) (vn b)))), .bool (decide (0 < vn b))]) := by
  have l1 := vn_len la
  have l2 := vn_len lb
  have c1 := rTake_calls a (by omega) la
  have c2 := rTake_calls b (by omega) lb
  refine PCalls_of isrDiv (by simp [fnrDiv]) ?_
  unfold coderDiv
  generalize vn a = x at *
  generalize vn b = y at *
  repeat (first | (refine W_seq ?_) | (refine W_reg ?_) | (refine W_regd ?_) | (refine W_block ?_) | (refine And.intro (by omega) ?_) | simp (config := {maxSteps := 1000000}) (disch := omega) only [cA, cB, lk, lkH, Dst.onT, Dst.onX, Dst.slot, setF, setH, mapF, mapH, initF, binE, unE, cnt, boundE, newsE, freshE, opE, rmH, blkQ, frz_us, Nat.reduceEqDiff, Nat.reduceLT, Nat.reduceAdd, ↓reduceIte, reduceCtorEq, Nat.reduceLeDiff])
  refine callC_pure c1 rfl ?_
  repeat (first | (refine W_seq ?_) | (refine W_reg ?_) | (refine W_regd ?_) | (refine W_block ?_) | (refine And.intro (by omega) ?_) | simp (config := {maxSteps := 1000000}) (disch := omega) only [cA, cB, lk, lkH, Dst.onT, Dst.onX, Dst.slot, setF, setH, mapF, mapH, initF, binE, unE, cnt, boundE, newsE, freshE, opE, rmH, blkQ, frz_us, Nat.reduceEqDiff, Nat.reduceLT, Nat.reduceAdd, ↓reduceIte, reduceCtorEq, Nat.reduceLeDiff])
  refine callC_pure c2 rfl ?_
  repeat (first | (refine W_seq ?_) | (refine W_reg ?_) | (refine W_regd ?_) | (refine W_block ?_) | (refine And.intro (by omega) ?_) | simp (config := {maxSteps := 1000000}) (disch := omega) only [cA, cB, lk, lkH, Dst.onT, Dst.onX, Dst.slot, setF, setH, mapF, mapH, initF, binE, unE, cnt, boundE, newsE, freshE, opE, rmH, blkQ, frz_us, Nat.reduceEqDiff, Nat.reduceLT, Nat.reduceAdd, ↓reduceIte, reduceCtorEq, Nat.reduceLeDiff, us_length])
  refine W_cond rfl (fun h => ?_) (fun h => W_skip ?_)
  · have h := of_decide_eq_true h
    have hy : y = 0 := limbs_eq_nil.1 (List.eq_nil_of_length_eq_zero (by omega))
    subst hy
    repeat (first | (refine W_seq ?_) | (refine W_reg ?_) | (refine W_regd ?_) | (refine W_block ?_) | (refine And.intro (by omega) ?_) | simp (config := {maxSteps := 1000000}) (disch := omega) only [cA, cB, lk, lkH, Dst.onT, Dst.onX, Dst.slot, setF, setH, mapF, mapH, initF, binE, unE, cnt, boundE, newsE, freshE, opE, rmH, blkQ, frz_us, Nat.reduceEqDiff, Nat.reduceLT, Nat.reduceAdd, ↓reduceIte, reduceCtorEq, Nat.reduceLeDiff])
    refine W_ret (RetP_3 ?_ ?_ ?_)
    · rw [Nat.div_zero, limbs_zero]; exact .nils 1
    · rw [show dmod x 0 = 0 from rfl, limbs_zero]; exact .nils 1
    · exact .imm rfl
  · have h := of_decide_eq_false h
    have hy : 0 < y := by
      rcases Nat.eq_zero_or_pos y with e | e
      · subst e; rw [limbs_zero] at h; simp at h
      · exact e
    rw [dmod_pos hy, decide_eq_true hy]
    repeat (first | (refine W_seq ?_) | (refine W_reg ?_) | (refine W_regd ?_) | (refine W_block ?_) | (refine And.intro (by omega) ?_) | simp (config := {maxSteps := 1000000}) (disch := omega) only [cA, cB, lk, lkH, Dst.onT, Dst.onX, Dst.slot, setF, setH, mapF, mapH, initF, binE, unE, cnt, boundE, newsE, freshE, opE, rmH, blkQ, frz_us, Nat.reduceEqDiff, Nat.reduceLT, Nat.reduceAdd, ↓reduceIte, reduceCtorEq, Nat.reduceLeDiff, us_length])
    refine W_nil 7 1 (by simp [lk]) (W_nil 8 1 (by simp [lk, setF]) ?_)
    simp (config := {maxSteps := 1000000}) (disch := omega) only [cA, cB, lk, lkH, Dst.onT, Dst.onX, Dst.slot, setF, setH, mapF, mapH, initF, binE, unE, cnt, boundE, newsE, freshE, opE, rmH, blkQ, frz_us, Nat.reduceEqDiff, Nat.reduceLT, Nat.reduceAdd, ↓reduceIte, reduceCtorEq, Nat.reduceLeDiff]
    have hx0 : x / 2 ^ (32 * (limbs x).length) = 0 := Nat.div_eq_of_lt (by rw [← pow32]; exact limbs_len.1 (Nat.le_refl _))
    refine W_loop (σ := Nat × Nat × Nat) (fun z => [(0, .sl 1 (us (limbs x))), (1, .sl 1 (us (limbs y))), (7, .sl 1 (us (limbs z.2.1))), (8, .sl 1 (us (limbs z.2.2))), (9, .int .i64 ((z.1 : Int) - 1))]) (fun _ => [])
      (fun z => z.1 ≤ 32 * (limbs x).length ∧ x / 2 ^ z.1 = z.2.1 * y + z.2.2 ∧ z.2.2 < y) (fun z => z.1) (32 * (limbs x).length, 0, 0) ⟨Nat.le_refl _, by simp [hx0], hy⟩ ?_ rfl ?_
    · simp [subF, lk, limbs_zero, us]
    · rintro ⟨j, q, r⟩ ⟨hj, hinv, hr⟩
      simp only at hj hinv hr ⊢
      have hqx : q ≤ x := by
        have h1 : q ≤ q * y := Nat.le_mul_of_pos_right _ hy
        have h2 := Nat.div_le_self x (2 ^ j)
        omega
      have lq := len_mono hqx
      have lr := len_mono (Nat.le_of_lt hr)
      repeat (first | (refine W_seq ?_) | (refine W_reg ?_) | (refine W_regd ?_) | (refine W_block ?_) | (refine And.intro (by omega) ?_) | simp (config := {maxSteps := 1000000}) (disch := omega) only [cA, cB, lk, lkH, Dst.onT, Dst.onX, Dst.slot, setF, setH, mapF, mapH, initF, binE, unE, cnt, boundE, newsE, freshE, opE, rmH, blkQ, frz_us, Nat.reduceEqDiff, Nat.reduceLT, Nat.reduceAdd, ↓reduceIte, reduceCtorEq, Nat.reduceLeDiff])
      refine W_cond rfl (fun hc => W_skip ?_) (fun hc => W_exit ?_)
      · have hc := of_decide_eq_true hc
        obtain ⟨i, rfl⟩ : ∃ i, j = i + 1 := ⟨j - 1, by omega⟩
        have hs := bit_step x i
        rw [hinv] at hs
        have hb1 : x / 2 ^ i % 2 < 2 := Nat.mod_lt _ (by decide)
        have cb := rBit_calls (limbs x) i (by omega) (lim_limbs x) (by omega)
        rw [nv_limbs] at cb
        generalize hbit : x / 2 ^ i % 2 = bt at *
        have cd := rDouble_calls r bt (by omega) (by omega)
        have lrd : (limbs (2 * r + bt)).length ≤ (limbs y).length + 1 := Nat.le_trans (len_mono (by omega)) (len_double (Nat.le_refl _))
        have cs := rSub_calls (limbs (2 * r + bt)) (limbs y) (by omega) (by omega) (lim_limbs _) (lim_limbs _)
        rw [vn_limbs, vn_limbs] at cs
        have e1 : (((i + 1 : Nat) : Int) - 1) = (i : Int) := by omega
        (replace hs := Hid.mk hs; replace hbit := Hid.mk hbit; replace hinv := Hid.mk hinv)
        repeat (first | (refine W_seq ?_) | (refine W_reg ?_) | (refine W_regd ?_) | (refine W_block ?_) | (refine And.intro (by omega) ?_) | simp (config := {maxSteps := 1000000}) (disch := omega) only [cA, cB, lk, lkH, Dst.onT, Dst.onX, Dst.slot, setF, setH, mapF, mapH, initF, binE, unE, cnt, boundE, newsE, freshE, opE, rmH, blkQ, frz_us, Nat.reduceEqDiff, Nat.reduceLT, Nat.reduceAdd, ↓reduceIte, reduceCtorEq, Nat.reduceLeDiff, e1])
        refine callC_pure cb rfl ?_
        repeat (first | (refine W_seq ?_) | (refine W_reg ?_) | (refine W_regd ?_) | (refine W_block ?_) | (refine And.intro (by omega) ?_) | simp (config := {maxSteps := 1000000}) (disch := omega) only [cA, cB, lk, lkH, Dst.onT, Dst.onX, Dst.slot, setF, setH, mapF, mapH, initF, binE, unE, cnt, boundE, newsE, freshE, opE, rmH, blkQ, frz_us, Nat.reduceEqDiff, Nat.reduceLT, Nat.reduceAdd, ↓reduceIte, reduceCtorEq, Nat.reduceLeDiff])
        refine callC_pure cd rfl ?_
        repeat (first | (refine W_seq ?_) | (refine W_reg ?_) | (refine W_regd ?_) | (refine W_block ?_) | (refine And.intro (by omega) ?_) | simp (config := {maxSteps := 1000000}) (disch := omega) only [cA, cB, lk, lkH, Dst.onT, Dst.onX, Dst.slot, setF, setH, mapF, mapH, initF, binE, unE, cnt, boundE, newsE, freshE, opE, rmH, blkQ, frz_us, Nat.reduceEqDiff, Nat.reduceLT, Nat.reduceAdd, ↓reduceIte, reduceCtorEq, Nat.reduceLeDiff])
        refine callC_pure cs rfl ?_
        repeat (first | (refine W_seq ?_) | (refine W_reg ?_) | (refine W_regd ?_) | (refine W_block ?_) | (refine And.intro (by omega) ?_) | simp (config := {maxSteps := 1000000}) (disch := omega) only [cA, cB, lk, lkH, Dst.onT, Dst.onX, Dst.slot, setF, setH, mapF, mapH, initF, binE, unE, cnt, boundE, newsE, freshE, opE, rmH, blkQ, frz_us, Nat.reduceEqDiff, Nat.reduceLT, Nat.reduceAdd, ↓reduceIte, reduceCtorEq, Nat.reduceLeDiff])
        refine W_cond rfl (fun h2 => ?_) (fun h2 => ?_)
        · have h2 := of_decide_eq_true h2
          have c1' := rDouble_calls q 1 (by omega) (by omega)
          repeat (first | (refine W_seq ?_) | (refine W_reg ?_) | (refine W_regd ?_) | (refine W_block ?_) | (refine And.intro (by omega) ?_) | simp (config := {maxSteps := 1000000}) (disch := omega) only [cA, cB, lk, lkH, Dst.onT, Dst.onX, Dst.slot, setF, setH, mapF, mapH, initF, binE, unE, cnt, boundE, newsE, freshE, opE, rmH, blkQ, frz_us, Nat.reduceEqDiff, Nat.reduceLT, Nat.reduceAdd, ↓reduceIte, reduceCtorEq, Nat.reduceLeDiff])
          refine callC_pure c1' rfl ?_
          repeat (first | (refine W_seq ?_) | (refine W_reg ?_) | (refine W_regd ?_) | (refine W_block ?_) | (refine And.intro (by omega) ?_) | simp (config := {maxSteps := 1000000}) (disch := omega) only [cA, cB, lk, lkH, Dst.onT, Dst.onX, Dst.slot, setF, setH, mapF, mapH, initF, binE, unE, cnt, boundE, newsE, freshE, opE, rmH, blkQ, frz_us, Nat.reduceEqDiff, Nat.reduceLT, Nat.reduceAdd, ↓reduceIte, reduceCtorEq, Nat.reduceLeDiff, e1])
          refine ⟨(i, 2 * q + 1, 2 * r + bt - y), ⟨by simp only; omega, ?_, by simp only; omega⟩, by simp only; omega, by simp [subF, lk]⟩
          simp only
          rw [hs.out, Nat.add_mul, Nat.mul_assoc]; omega
        · have h2 := of_decide_eq_false h2
          have c0' := rDouble_calls q 0 (by omega) (by omega)
          repeat (first | (refine W_seq ?_) | (refine W_reg ?_) | (refine W_regd ?_) | (refine W_block ?_) | (refine And.intro (by omega) ?_) | simp (config := {maxSteps := 1000000}) (disch := omega) only [cA, cB, lk, lkH, Dst.onT, Dst.onX, Dst.slot, setF, setH, mapF, mapH, initF, binE, unE, cnt, boundE, newsE, freshE, opE, rmH, blkQ, frz_us, Nat.reduceEqDiff, Nat.reduceLT, Nat.reduceAdd, ↓reduceIte, reduceCtorEq, Nat.reduceLeDiff])
          refine callC_pure c0' rfl ?_
          repeat (first | (refine W_seq ?_) | (refine W_reg ?_) | (refine W_regd ?_) | (refine W_block ?_) | (refine And.intro (by omega) ?_) | simp (config := {maxSteps := 1000000}) (disch := omega) only [cA, cB, lk, lkH, Dst.onT, Dst.onX, Dst.slot, setF, setH, mapF, mapH, initF, binE, unE, cnt, boundE, newsE, freshE, opE, rmH, blkQ, frz_us, Nat.reduceEqDiff, Nat.reduceLT, Nat.reduceAdd, ↓reduceIte, reduceCtorEq, Nat.reduceLeDiff, e1])
          refine ⟨(i, 2 * q, 2 * r + bt), ⟨by simp only; omega, ?_, by simp only; omega⟩, by simp only; omega, by simp [subF, lk]⟩
          simp only
          rw [hs.out, Nat.mul_assoc]; omega
      · have hc := of_decide_eq_false hc
        have : j = 0 := by omega
        subst this
        rw [Nat.pow_zero, Nat.div_one] at hinv
        obtain ⟨d1, d2⟩ := div_fin hinv hr
        repeat (first | (refine W_seq ?_) | (refine W_reg ?_) | (refine W_regd ?_) | (refine W_block ?_) | (refine And.intro (by omega) ?_) | simp (config := {maxSteps := 1000000}) (disch := omega) only [cA, cB, lk, lkH, Dst.onT, Dst.onX, Dst.slot, setF, setH, mapF, mapH, initF, binE, unE, cnt, boundE, newsE, freshE, opE, rmH, blkQ, frz_us, Nat.reduceEqDiff, Nat.reduceLT, Nat.reduceAdd, ↓reduceIte, reduceCtorEq, Nat.reduceLeDiff])
        rw [← d1, ← d2]
        exact W_ret (RetP_3 (.imm rfl) (.imm rfl) (.imm rfl))
end Go.Proofs.Ytecilkmigjbfoaa
namespace Go.Proofs.Ytecilkmigjbfoaa
open Go Go.Dat Go.Proofs Nat32

theorem gcd_step (x y : Nat) : Nat.gcd y (x % y) = Nat.gcd x y := by
  rw [Nat.gcd_comm y, ← Nat.gcd_rec, Nat.gcd_comm]
theorem ngcd_calls (a b : Nat) (ha : a < 18446744073709551616) (hb : b < 18446744073709551616) : PCalls Try.prog 51 [.int .u64 a, .int .u64 b] (.int .u64 (Nat.gcd a b : Nat)) := by
  refine PCalls_of isngcd (by simp [fnngcd]) ?_
  unfold codengcd
  repeat (first | (refine W_seq ?_) | (refine W_reg ?_) | (refine W_regd ?_) | (refine W_block ?_) | (refine And.intro (by omega) ?_) | simp (config := {maxSteps := 1000000}) (disch := omega) only [cA, cB, lk, lkH, Dst.onT, Dst.onX, Dst.slot, setF, setH, mapF, mapH, initF, binE, unE, cnt, boundE, newsE, freshE, opE, rmH, blkQ, frz_us, Nat.reduceEqDiff, Nat.reduceLT, Nat.reduceAdd, ↓reduceIte, reduceCtorEq, Nat.reduceLeDiff])
  refine W_loop (σ := Nat × Nat) (fun z => [(0, .int .u64 z.1), (1, .int .u64 z.2)]) (fun _ => []) (fun z => Nat.gcd z.1 z.2 = Nat.gcd a b ∧ z.1 < 18446744073709551616 ∧ z.2 < 18446744073709551616) (fun z => z.2) (a, b) ⟨rfl, ha, hb⟩ ?_ rfl ?_
  · simp [subF, lk]
  · rintro ⟨x, y⟩ ⟨hg, hx, hy⟩
    simp only at hg hx hy ⊢
    repeat (first | (refine W_seq ?_) | (refine W_reg ?_) | (refine W_regd ?_) | (refine W_block ?_) | (refine And.intro (by omega) ?_) | simp (config := {maxSteps := 1000000}) (disch := omega) only [cA, cB, lk, lkH, Dst.onT, Dst.onX, Dst.slot, setF, setH, mapF, mapH, initF, binE, unE, cnt, boundE, newsE, freshE, opE, rmH, blkQ, frz_us, Nat.reduceEqDiff, Nat.reduceLT, Nat.reduceAdd, ↓reduceIte, reduceCtorEq, Nat.reduceLeDiff])
    refine W_cond rfl (fun h => W_skip ?_) (fun h => W_exit ?_)
    · have h := of_decide_eq_true h
      have hm := Nat.mod_lt x (show 0 < y by omega)
      repeat (first | (refine W_seq ?_) | (refine W_reg ?_) | (refine W_regd ?_) | (refine W_block ?_) | (refine And.intro (by omega) ?_) | simp (config := {maxSteps := 1000000}) (disch := omega) only [cA, cB, lk, lkH, Dst.onT, Dst.onX, Dst.slot, setF, setH, mapF, mapH, initF, binE, unE, cnt, boundE, newsE, freshE, opE, rmH, blkQ, frz_us, Nat.reduceEqDiff, Nat.reduceLT, Nat.reduceAdd, ↓reduceIte, reduceCtorEq, Nat.reduceLeDiff, tmod_nat])
      refine ⟨(y, x % y), ⟨by rw [← hg]; exact gcd_step x y, hy, by simp only; omega⟩, hm, by simp [subF, lk]⟩
    · have h := of_decide_eq_false h
      have : y = 0 := by omega
      subst this
      rw [Nat.gcd_zero_right] at hg
      subst hg
      repeat (first | (refine W_seq ?_) | (refine W_reg ?_) | (refine W_regd ?_) | (refine W_block ?_) | (refine And.intro (by omega) ?_) | simp (config := {maxSteps := 1000000}) (disch := omega) only [cA, cB, lk, lkH, Dst.onT, Dst.onX, Dst.slot, setF, setH, mapF, mapH, initF, binE, unE, cnt, boundE, newsE, freshE, opE, rmH, blkQ, frz_us, Nat.reduceEqDiff, Nat.reduceLT, Nat.reduceAdd, ↓reduceIte, reduceCtorEq, Nat.reduceLeDiff])
      exact W_ret (RetP_1 (.imm rfl))

theorem gcd_le {a b n : Nat} (ha : (limbs a).length ≤ n) (hb : (limbs b).length ≤ n) : (limbs (Nat.gcd a b)).length ≤ n := by
  rcases Nat.eq_zero_or_pos a with e | e
  · subst e; rw [Nat.gcd_zero_left]; exact hb
  · exact Nat.le_trans (len_mono (Nat.gcd_le_left b e)) ha
theorem nGcd_calls (a b : List Nat) (ha : a.length ≤ 100000) (hb : b.length ≤ 100000) (la : lim a) (lb : lim b) : PCalls Try.prog 33 [.sl 1 (us a), .sl 1 (us b)] (.sl 1 (us (limbs (Nat.gcd (vn a) (vn b))))) := by
  have l1 := vn_len la
  have l2 := vn_len lb
  have c1 := nValue_calls a (by omega) la
  have c2 := nValue_calls b (by omega) lb
  refine PCalls_of isnGcd (by simp [fnnGcd]) ?_
  unfold codenGcd
  generalize vn a = x0 at *
  generalize vn b = y0 at *
  repeat (first | (refine W_seq ?_) | (refine W_reg ?_) | (refine W_regd ?_) | (refine W_block ?_) | (refine And.intro (by omega) ?_) | simp (config := {maxSteps := 1000000}) (disch := omega) only [cA, cB, lk, lkH, Dst.onT, Dst.onX, Dst.slot, setF, setH, mapF, mapH, initF, binE, unE, cnt, boundE, newsE, freshE, opE, rmH, blkQ, frz_us, Nat.reduceEqDiff, Nat.reduceLT, Nat.reduceAdd, ↓reduceIte, reduceCtorEq, Nat.reduceLeDiff])
  refine callC_pure c1 rfl ?_
  repeat (first | (refine W_seq ?_) | (refine W_reg ?_) | (refine W_regd ?_) | (refine W_block ?_) | (refine And.intro (by omega) ?_) | simp (config := {maxSteps := 1000000}) (disch := omega) only [cA, cB, lk, lkH, Dst.onT, Dst.onX, Dst.slot, setF, setH, mapF, mapH, initF, binE, unE, cnt, boundE, newsE, freshE, opE, rmH, blkQ, frz_us, Nat.reduceEqDiff, Nat.reduceLT, Nat.reduceAdd, ↓reduceIte, reduceCtorEq, Nat.reduceLeDiff])
  refine callC_pure c2 rfl ?_
  repeat (first | (refine W_seq ?_) | (refine W_reg ?_) | (refine W_regd ?_) | (refine W_block ?_) | (refine And.intro (by omega) ?_) | simp (config := {maxSteps := 1000000}) (disch := omega) only [cA, cB, lk, lkH, Dst.onT, Dst.onX, Dst.slot, setF, setH, mapF, mapH, initF, binE, unE, cnt, boundE, newsE, freshE, opE, rmH, blkQ, frz_us, Nat.reduceEqDiff, Nat.reduceLT, Nat.reduceAdd, ↓reduceIte, reduceCtorEq, Nat.reduceLeDiff])
  refine W_loop (σ := Nat × Nat) (fun z => [(0, .sl 1 (us (limbs z.1))), (1, .sl 1 (us (limbs z.2)))]) (fun _ => []) (fun z => Nat.gcd z.1 z.2 = Nat.gcd x0 y0 ∧ (limbs z.1).length ≤ 100000 ∧ (limbs z.2).length ≤ 100000) (fun z => z.2) (x0, y0) ⟨rfl, by simp only; omega, by simp only; omega⟩ ?_ rfl ?_
  · simp [subF, lk]
  · rintro ⟨x, y⟩ ⟨hg, hx, hy⟩
    simp only at hg hx hy ⊢
    repeat (first | (refine W_seq ?_) | (refine W_reg ?_) | (refine W_regd ?_) | (refine W_block ?_) | (refine And.intro (by omega) ?_) | simp (config := {maxSteps := 1000000}) (disch := omega) only [cA, cB, lk, lkH, Dst.onT, Dst.onX, Dst.slot, setF, setH, mapF, mapH, initF, binE, unE, cnt, boundE, newsE, freshE, opE, rmH, blkQ, frz_us, Nat.reduceEqDiff, Nat.reduceLT, Nat.reduceAdd, ↓reduceIte, reduceCtorEq, Nat.reduceLeDiff, us_length])
    refine W_cond rfl (fun h => W_skip ?_) (fun h => W_exit ?_)
    · have h := of_decide_eq_true h
      have hy0 : 0 < y := by
        rcases Nat.eq_zero_or_pos y with e | e
        · subst e; rw [limbs_zero] at h; simp at h
        · exact e
      have hm := Nat.mod_lt x hy0
      have u1 := nUint_calls (limbs x) (by omega) (lim_limbs x)
      have u2 := nUint_calls (limbs y) (by omega) (lim_limbs y)
      have cd := nDiv_calls (limbs x) (limbs y) hx hy (lim_limbs x) (lim_limbs y)
      rw [vn_limbs, vn_limbs, dmod_pos hy0, decide_eq_true hy0] at cd
      rw [vn_limbs] at u1 u2
      have lm := len_mono (Nat.le_of_lt hm)
      have fin : ∃ s', (Nat.gcd s'.1 s'.2 = Nat.gcd x0 y0 ∧ (limbs s'.1).length ≤ 100000 ∧ (limbs s'.2).length ≤ 100000) ∧ s'.2 < y ∧ s' = (y, x % y) := ⟨(y, x % y), ⟨by rw [← hg]; exact gcd_step x y, hy, by simp only; omega⟩, hm, rfl⟩
      by_cases hs1 : (limbs x).length > 2
      · rw [uintR, if_pos hs1] at u1
        obtain ⟨p, s, e⟩ : ∃ p s, uintR y = .tup [.int .u64 p, .bool s] := by unfold uintR; split <;> exact ⟨_, _, rfl⟩
        rw [e] at u2
        repeat (first | (refine W_seq ?_) | (refine W_reg ?_) | (refine W_regd ?_) | (refine W_block ?_) | (refine And.intro (by omega) ?_) | simp (config := {maxSteps := 1000000}) (disch := omega) only [cA, cB, lk, lkH, Dst.onT, Dst.onX, Dst.slot, setF, setH, mapF, mapH, initF, binE, unE, cnt, boundE, newsE, freshE, opE, rmH, blkQ, frz_us, Nat.reduceEqDiff, Nat.reduceLT, Nat.reduceAdd, ↓reduceIte, reduceCtorEq, Nat.reduceLeDiff])
        refine callC_pure u1 rfl ?_
        repeat (first | (refine W_seq ?_) | (refine W_reg ?_) | (refine W_regd ?_) | (refine W_block ?_) | (refine And.intro (by omega) ?_) | simp (config := {maxSteps := 1000000}) (disch := omega) only [cA, cB, lk, lkH, Dst.onT, Dst.onX, Dst.slot, setF, setH, mapF, mapH, initF, binE, unE, cnt, boundE, newsE, freshE, opE, rmH, blkQ, frz_us, Nat.reduceEqDiff, Nat.reduceLT, Nat.reduceAdd, ↓reduceIte, reduceCtorEq, Nat.reduceLeDiff])
        refine callC_pure u2 rfl ?_
        repeat (first | (refine W_seq ?_) | (refine W_reg ?_) | (refine W_regd ?_) | (refine W_block ?_) | (refine And.intro (by omega) ?_) | simp (config := {maxSteps := 1000000}) (disch := omega) only [cA, cB, lk, lkH, Dst.onT, Dst.onX, Dst.slot, setF, setH, mapF, mapH, initF, binE, unE, cnt, boundE, newsE, freshE, opE, rmH, blkQ, frz_us, Nat.reduceEqDiff, Nat.reduceLT, Nat.reduceAdd, ↓reduceIte, reduceCtorEq, Nat.reduceLeDiff])
        refine W_cond rfl (fun h => by cases h) (fun _ => W_skip ?_)
        repeat (first | (refine W_seq ?_) | (refine W_reg ?_) | (refine W_regd ?_) | (refine W_block ?_) | (refine And.intro (by omega) ?_) | simp (config := {maxSteps := 1000000}) (disch := omega) only [cA, cB, lk, lkH, Dst.onT, Dst.onX, Dst.slot, setF, setH, mapF, mapH, initF, binE, unE, cnt, boundE, newsE, freshE, opE, rmH, blkQ, frz_us, Nat.reduceEqDiff, Nat.reduceLT, Nat.reduceAdd, ↓reduceIte, reduceCtorEq, Nat.reduceLeDiff])
        refine callC_pure cd rfl ?_
        repeat (first | (refine W_seq ?_) | (refine W_reg ?_) | (refine W_regd ?_) | (refine W_block ?_) | (refine And.intro (by omega) ?_) | simp (config := {maxSteps := 1000000}) (disch := omega) only [cA, cB, lk, lkH, Dst.onT, Dst.onX, Dst.slot, setF, setH, mapF, mapH, initF, binE, unE, cnt, boundE, newsE, freshE, opE, rmH, blkQ, frz_us, Nat.reduceEqDiff, Nat.reduceLT, Nat.reduceAdd, ↓reduceIte, reduceCtorEq, Nat.reduceLeDiff])
        obtain ⟨s', i1, i2, rfl⟩ := fin
        exact ⟨_, i1, i2, by simp [subF, lk]⟩
      · rw [uintR, if_neg hs1] at u1
        have hx64 := limbs_le2 (show (limbs x).length ≤ 2 by omega)
        by_cases hs2 : (limbs y).length > 2
        · rw [uintR, if_pos hs2] at u2
          repeat (first | (refine W_seq ?_) | (refine W_reg ?_) | (refine W_regd ?_) | (refine W_block ?_) | (refine And.intro (by omega) ?_) | simp (config := {maxSteps := 1000000}) (disch := omega) only [cA, cB, lk, lkH, Dst.onT, Dst.onX, Dst.slot, setF, setH, mapF, mapH, initF, binE, unE, cnt, boundE, newsE, freshE, opE, rmH, blkQ, frz_us, Nat.reduceEqDiff, Nat.reduceLT, Nat.reduceAdd, ↓reduceIte, reduceCtorEq, Nat.reduceLeDiff])
          refine callC_pure u1 rfl ?_
          repeat (first | (refine W_seq ?_) | (refine W_reg ?_) | (refine W_regd ?_) | (refine W_block ?_) | (refine And.intro (by omega) ?_) | simp (config := {maxSteps := 1000000}) (disch := omega) only [cA, cB, lk, lkH, Dst.onT, Dst.onX, Dst.slot, setF, setH, mapF, mapH, initF, binE, unE, cnt, boundE, newsE, freshE, opE, rmH, blkQ, frz_us, Nat.reduceEqDiff, Nat.reduceLT, Nat.reduceAdd, ↓reduceIte, reduceCtorEq, Nat.reduceLeDiff])
          refine callC_pure u2 rfl ?_
          repeat (first | (refine W_seq ?_) | (refine W_reg ?_) | (refine W_regd ?_) | (refine W_block ?_) | (refine And.intro (by omega) ?_) | simp (config := {maxSteps := 1000000}) (disch := omega) only [cA, cB, lk, lkH, Dst.onT, Dst.onX, Dst.slot, setF, setH, mapF, mapH, initF, binE, unE, cnt, boundE, newsE, freshE, opE, rmH, blkQ, frz_us, Nat.reduceEqDiff, Nat.reduceLT, Nat.reduceAdd, ↓reduceIte, reduceCtorEq, Nat.reduceLeDiff])
          refine W_cond rfl (fun h => by cases h) (fun _ => W_skip ?_)
          repeat (first | (refine W_seq ?_) | (refine W_reg ?_) | (refine W_regd ?_) | (refine W_block ?_) | (refine And.intro (by omega) ?_) | simp (config := {maxSteps := 1000000}) (disch := omega) only [cA, cB, lk, lkH, Dst.onT, Dst.onX, Dst.slot, setF, setH, mapF, mapH, initF, binE, unE, cnt, boundE, newsE, freshE, opE, rmH, blkQ, frz_us, Nat.reduceEqDiff, Nat.reduceLT, Nat.reduceAdd, ↓reduceIte, reduceCtorEq, Nat.reduceLeDiff])
          refine callC_pure cd rfl ?_
          repeat (first | (refine W_seq ?_) | (refine W_reg ?_) | (refine W_regd ?_) | (refine W_block ?_) | (refine And.intro (by omega) ?_) | simp (config := {maxSteps := 1000000}) (disch := omega) only [cA, cB, lk, lkH, Dst.onT, Dst.onX, Dst.slot, setF, setH, mapF, mapH, initF, binE, unE, cnt, boundE, newsE, freshE, opE, rmH, blkQ, frz_us, Nat.reduceEqDiff, Nat.reduceLT, Nat.reduceAdd, ↓reduceIte, reduceCtorEq, Nat.reduceLeDiff])
          obtain ⟨s', i1, i2, rfl⟩ := fin
          exact ⟨_, i1, i2, by simp [subF, lk]⟩
        · rw [uintR, if_neg hs2] at u2
          have hy64 := limbs_le2 (show (limbs y).length ≤ 2 by omega)
          have cg := ngcd_calls x y hx64 hy64
          have hgl : Nat.gcd x y ≤ y := Nat.gcd_le_right x hy0
          have cf := nFromUint_calls (Nat.gcd x y) (by omega)
          repeat (first | (refine W_seq ?_) | (refine W_reg ?_) | (refine W_regd ?_) | (refine W_block ?_) | (refine And.intro (by omega) ?_) | simp (config := {maxSteps := 1000000}) (disch := omega) only [cA, cB, lk, lkH, Dst.onT, Dst.onX, Dst.slot, setF, setH, mapF, mapH, initF, binE, unE, cnt, boundE, newsE, freshE, opE, rmH, blkQ, frz_us, Nat.reduceEqDiff, Nat.reduceLT, Nat.reduceAdd, ↓reduceIte, reduceCtorEq, Nat.reduceLeDiff])
          refine callC_pure u1 rfl ?_
          repeat (first | (refine W_seq ?_) | (refine W_reg ?_) | (refine W_regd ?_) | (refine W_block ?_) | (refine And.intro (by omega) ?_) | simp (config := {maxSteps := 1000000}) (disch := omega) only [cA, cB, lk, lkH, Dst.onT, Dst.onX, Dst.slot, setF, setH, mapF, mapH, initF, binE, unE, cnt, boundE, newsE, freshE, opE, rmH, blkQ, frz_us, Nat.reduceEqDiff, Nat.reduceLT, Nat.reduceAdd, ↓reduceIte, reduceCtorEq, Nat.reduceLeDiff])
          refine callC_pure u2 rfl ?_
          repeat (first | (refine W_seq ?_) | (refine W_reg ?_) | (refine W_regd ?_) | (refine W_block ?_) | (refine And.intro (by omega) ?_) | simp (config := {maxSteps := 1000000}) (disch := omega) only [cA, cB, lk, lkH, Dst.onT, Dst.onX, Dst.slot, setF, setH, mapF, mapH, initF, binE, unE, cnt, boundE, newsE, freshE, opE, rmH, blkQ, frz_us, Nat.reduceEqDiff, Nat.reduceLT, Nat.reduceAdd, ↓reduceIte, reduceCtorEq, Nat.reduceLeDiff])
          refine W_cond rfl (fun _ => ?_) (fun h => by cases h)
          repeat (first | (refine W_seq ?_) | (refine W_reg ?_) | (refine W_regd ?_) | (refine W_block ?_) | (refine And.intro (by omega) ?_) | simp (config := {maxSteps := 1000000}) (disch := omega) only [cA, cB, lk, lkH, Dst.onT, Dst.onX, Dst.slot, setF, setH, mapF, mapH, initF, binE, unE, cnt, boundE, newsE, freshE, opE, rmH, blkQ, frz_us, Nat.reduceEqDiff, Nat.reduceLT, Nat.reduceAdd, ↓reduceIte, reduceCtorEq, Nat.reduceLeDiff])
          refine callC_pure cg rfl ?_
          repeat (first | (refine W_seq ?_) | (refine W_reg ?_) | (refine W_regd ?_) | (refine W_block ?_) | (refine And.intro (by omega) ?_) | simp (config := {maxSteps := 1000000}) (disch := omega) only [cA, cB, lk, lkH, Dst.onT, Dst.onX, Dst.slot, setF, setH, mapF, mapH, initF, binE, unE, cnt, boundE, newsE, freshE, opE, rmH, blkQ, frz_us, Nat.reduceEqDiff, Nat.reduceLT, Nat.reduceAdd, ↓reduceIte, reduceCtorEq, Nat.reduceLeDiff])
          refine callC_pure cf rfl ?_
          repeat (first | (refine W_seq ?_) | (refine W_reg ?_) | (refine W_regd ?_) | (refine W_block ?_) | (refine And.intro (by omega) ?_) | simp (config := {maxSteps := 1000000}) (disch := omega) only [cA, cB, lk, lkH, Dst.onT, Dst.onX, Dst.slot, setF, setH, mapF, mapH, initF, binE, unE, cnt, boundE, newsE, freshE, opE, rmH, blkQ, frz_us, Nat.reduceEqDiff, Nat.reduceLT, Nat.reduceAdd, ↓reduceIte, reduceCtorEq, Nat.reduceLeDiff])
          rw [← hg]
          exact W_ret (RetP_1 (.imm rfl))
    · have h := of_decide_eq_false h
      have hy0 : y = 0 := limbs_eq_nil.1 (List.eq_nil_of_length_eq_zero (by omega))
      subst hy0
      rw [Nat.gcd_zero_right] at hg
      rw [← hg]
      have cc := Clone_calls (limbs x) (by omega)
      repeat (first | (refine W_seq ?_) | (refine W_reg ?_) | (refine W_regd ?_) | (refine W_block ?_) | (refine And.intro (by omega) ?_) | simp (config := {maxSteps := 1000000}) (disch := omega) only [cA, cB, lk, lkH, Dst.onT, Dst.onX, Dst.slot, setF, setH, mapF, mapH, initF, binE, unE, cnt, boundE, newsE, freshE, opE, rmH, blkQ, frz_us, Nat.reduceEqDiff, Nat.reduceLT, Nat.reduceAdd, ↓reduceIte, reduceCtorEq, Nat.reduceLeDiff])
      refine callC_pure cc rfl ?_
      repeat (first | (refine W_seq ?_) | (refine W_reg ?_) | (refine W_regd ?_) | (refine W_block ?_) | (refine And.intro (by omega) ?_) | simp (config := {maxSteps := 1000000}) (disch := omega) only [cA, cB, lk, lkH, Dst.onT, Dst.onX, Dst.slot, setF, setH, mapF, mapH, initF, binE, unE, cnt, boundE, newsE, freshE, opE, rmH, blkQ, frz_us, Nat.reduceEqDiff, Nat.reduceLT, Nat.reduceAdd, ↓reduceIte, reduceCtorEq, Nat.reduceLeDiff])
      exact W_ret (RetP_1 (.imm rfl))

theorem rGcd_calls (a b : List Nat) (ha : a.length ≤ 1000) (hb : b.length ≤ 1000) (la : lim a) (lb : lim b) : PCalls Try.prog 34 [.sl 1 (us a), .sl 1 (us b)] (.sl 1 (us (limbs (Nat.gcd (vn a) (vn b))))) := by
  have l1 := vn_len la
  have l2 := vn_len lb
  have c1 := rTake_calls a (by omega) la
  have c2 := rTake_calls b (by omega) lb
  refine PCalls_of isrGcd (by simp [fnrGcd]) ?_
  unfold coderGcd
  generalize vn a = x0 at *
  generalize vn b = y0 at *
  repeat (first | (refine W_seq ?_) | (refine W_reg ?_) | (refine W_regd ?_) | (refine W_block ?_) | (refine And.intro (by omega) ?_) | simp (config := {maxSteps := 1000000}) (disch := omega) only [cA, cB, lk, lkH, Dst.onT, Dst.onX, Dst.slot, setF, setH, mapF, mapH, initF, binE, unE, cnt, boundE, newsE, freshE, opE, rmH, blkQ, frz_us, Nat.reduceEqDiff, Nat.reduceLT, Nat.reduceAdd, ↓reduceIte, reduceCtorEq, Nat.reduceLeDiff])
  refine callC_pure c1 rfl ?_
  repeat (first | (refine W_seq ?_) | (refine W_reg ?_) | (refine W_regd ?_) | (refine W_block ?_) | (refine And.intro (by omega) ?_) | simp (config := {maxSteps := 1000000}) (disch := omega) only [cA, cB, lk, lkH, Dst.onT, Dst.onX, Dst.slot, setF, setH, mapF, mapH, initF, binE, unE, cnt, boundE, newsE, freshE, opE, rmH, blkQ, frz_us, Nat.reduceEqDiff, Nat.reduceLT, Nat.reduceAdd, ↓reduceIte, reduceCtorEq, Nat.reduceLeDiff])
  refine callC_pure c2 rfl ?_
  repeat (first | (refine W_seq ?_) | (refine W_reg ?_) | (refine W_regd ?_) | (refine W_block ?_) | (refine And.intro (by omega) ?_) | simp (config := {maxSteps := 1000000}) (disch := omega) only [cA, cB, lk, lkH, Dst.onT, Dst.onX, Dst.slot, setF, setH, mapF, mapH, initF, binE, unE, cnt, boundE, newsE, freshE, opE, rmH, blkQ, frz_us, Nat.reduceEqDiff, Nat.reduceLT, Nat.reduceAdd, ↓reduceIte, reduceCtorEq, Nat.reduceLeDiff])
  refine W_loop (σ := Nat × Nat) (fun z => [(0, .sl 1 (us (limbs z.1))), (1, .sl 1 (us (limbs z.2)))]) (fun _ => []) (fun z => Nat.gcd z.1 z.2 = Nat.gcd x0 y0 ∧ (limbs z.1).length ≤ 1000 ∧ (limbs z.2).length ≤ 1000) (fun z => z.2) (x0, y0) ⟨rfl, by simp only; omega, by simp only; omega⟩ ?_ rfl ?_
  · simp [subF, lk]
  · rintro ⟨x, y⟩ ⟨hg, hx, hy⟩
    simp only at hg hx hy ⊢
    repeat (first | (refine W_seq ?_) | (refine W_reg ?_) | (refine W_regd ?_) | (refine W_block ?_) | (refine And.intro (by omega) ?_) | simp (config := {maxSteps := 1000000}) (disch := omega) only [cA, cB, lk, lkH, Dst.onT, Dst.onX, Dst.slot, setF, setH, mapF, mapH, initF, binE, unE, cnt, boundE, newsE, freshE, opE, rmH, blkQ, frz_us, Nat.reduceEqDiff, Nat.reduceLT, Nat.reduceAdd, ↓reduceIte, reduceCtorEq, Nat.reduceLeDiff, us_length])
    refine W_cond rfl (fun h => W_skip ?_) (fun h => W_exit ?_)
    · have h := of_decide_eq_true h
      have hy0 : 0 < y := by
        rcases Nat.eq_zero_or_pos y with e | e
        · subst e; rw [limbs_zero] at h; simp at h
        · exact e
      have hm := Nat.mod_lt x hy0
      have cd := rDiv_calls (limbs x) (limbs y) hx hy (lim_limbs x) (lim_limbs y)
      rw [vn_limbs, vn_limbs, dmod_pos hy0, decide_eq_true hy0] at cd
      have lm := len_mono (Nat.le_of_lt hm)
      repeat (first | (refine W_seq ?_) | (refine W_reg ?_) | (refine W_regd ?_) | (refine W_block ?_) | (refine And.intro (by omega) ?_) | simp (config := {maxSteps := 1000000}) (disch := omega) only [cA, cB, lk, lkH, Dst.onT, Dst.onX, Dst.slot, setF, setH, mapF, mapH, initF, binE, unE, cnt, boundE, newsE, freshE, opE, rmH, blkQ, frz_us, Nat.reduceEqDiff, Nat.reduceLT, Nat.reduceAdd, ↓reduceIte, reduceCtorEq, Nat.reduceLeDiff])
      refine callC_pure cd rfl ?_
      repeat (first | (refine W_seq ?_) | (refine W_reg ?_) | (refine W_regd ?_) | (refine W_block ?_) | (refine And.intro (by omega) ?_) | simp (config := {maxSteps := 1000000}) (disch := omega) only [cA, cB, lk, lkH, Dst.onT, Dst.onX, Dst.slot, setF, setH, mapF, mapH, initF, binE, unE, cnt, boundE, newsE, freshE, opE, rmH, blkQ, frz_us, Nat.reduceEqDiff, Nat.reduceLT, Nat.reduceAdd, ↓reduceIte, reduceCtorEq, Nat.reduceLeDiff])
      refine ⟨(y, x % y), ⟨by rw [← hg]; exact gcd_step x y, hy, by simp only; omega⟩, hm, by simp [subF, lk]⟩
    · have h := of_decide_eq_false h
      have hy0 : y = 0 := limbs_eq_nil.1 (List.eq_nil_of_length_eq_zero (by omega))
      subst hy0
      rw [Nat.gcd_zero_right] at hg
      rw [← hg]
      repeat (first | (refine W_seq ?_) | (refine W_reg ?_) | (refine W_regd ?_) | (refine W_block ?_) | (refine And.intro (by omega) ?_) | simp (config := {maxSteps := 1000000}) (disch := omega) only [cA, cB, lk, lkH, Dst.onT, Dst.onX, Dst.slot, setF, setH, mapF, mapH, initF, binE, unE, cnt, boundE, newsE, freshE, opE, rmH, blkQ, frz_us, Nat.reduceEqDiff, Nat.reduceLT, Nat.reduceAdd, ↓reduceIte, reduceCtorEq, Nat.reduceLeDiff])
      exact W_ret (RetP_1 (.imm rfl))
end Go.Proofs.Ytecilkmigjbfoaa
namespace Go.Proofs.Ytecilkmigjbfoaa
open Go Go.Dat Go.Proofs Nat32

theorem nMul_calls (a b : List Nat) (ha : a.length ≤ 10000) (hb : b.length ≤ 10000) (la : lim a) (lb : lim b) : PCalls Try.prog 25 [.sl 1 (us a), .sl 1 (us b)] (.sl 1 (us (limbs (vn a * vn b)))) := by
  have h1 := vn_len la
  have h2 := vn_len lb
  have c1 := nValue_calls a (by omega) la
  have c2 := nValue_calls b (by omega) lb
  refine PCalls_of isnMul (by simp [fnnMul]) ?_
  unfold codenMul
  generalize vn a = x at h1 c1 ⊢
  generalize vn b = y at h2 c2 ⊢
  have laX := lim_limbs x
  have laY := lim_limbs y
  refine W_seq (W_reg ?_)
  simp (config := {maxSteps := 1000000}) (disch := omega) only [cA, cB, lk, lkH, Dst.onT, Dst.onX, Dst.slot, setF, setH, mapF, mapH, initF, binE, unE, cnt, boundE, newsE, freshE, opE, rmH, blkQ, frz_us, Nat.reduceEqDiff, Nat.reduceLT, Nat.reduceAdd, ↓reduceIte, reduceCtorEq, Nat.reduceLeDiff]
  repeat refine ⟨by omega, ?_⟩
  refine W_seq (W_reg ?_)
  simp (config := {maxSteps := 1000000}) (disch := omega) only [cA, cB, lk, lkH, Dst.onT, Dst.onX, Dst.slot, setF, setH, mapF, mapH, initF, binE, unE, cnt, boundE, newsE, freshE, opE, rmH, blkQ, frz_us, Nat.reduceEqDiff, Nat.reduceLT, Nat.reduceAdd, ↓reduceIte, reduceCtorEq, Nat.reduceLeDiff]
  repeat refine ⟨by omega, ?_⟩
  refine callC_pure c1 rfl ?_
  simp (config := {maxSteps := 1000000}) (disch := omega) only [cA, cB, lk, lkH, Dst.onT, Dst.onX, Dst.slot, setF, setH, mapF, mapH, initF, binE, unE, cnt, boundE, newsE, freshE, opE, rmH, blkQ, frz_us, Nat.reduceEqDiff, Nat.reduceLT, Nat.reduceAdd, ↓reduceIte, reduceCtorEq, Nat.reduceLeDiff]
  repeat refine ⟨by omega, ?_⟩
  refine callC_pure c2 rfl ?_
  simp (config := {maxSteps := 1000000}) (disch := omega) only [cA, cB, lk, lkH, Dst.onT, Dst.onX, Dst.slot, setF, setH, mapF, mapH, initF, binE, unE, cnt, boundE, newsE, freshE, opE, rmH, blkQ, frz_us, Nat.reduceEqDiff, Nat.reduceLT, Nat.reduceAdd, ↓reduceIte, reduceCtorEq, Nat.reduceLeDiff]
  repeat refine ⟨by omega, ?_⟩
  refine W_seq (W_reg ?_)
  simp (config := {maxSteps := 1000000}) (disch := omega) only [cA, cB, lk, lkH, Dst.onT, Dst.onX, Dst.slot, setF, setH, mapF, mapH, initF, binE, unE, cnt, boundE, newsE, freshE, opE, rmH, blkQ, frz_us, Nat.reduceEqDiff, Nat.reduceLT, Nat.reduceAdd, ↓reduceIte, reduceCtorEq, Nat.reduceLeDiff, us_length, us_rep, nbnMul, add_nat]
  repeat refine ⟨by omega, ?_⟩
  refine W_seq (W_seq (W_reg ?_))
  simp (config := {maxSteps := 1000000}) (disch := omega) only [cA, cB, lk, lkH, Dst.onT, Dst.onX, Dst.slot, setF, setH, mapF, mapH, initF, binE, unE, cnt, boundE, newsE, freshE, opE, rmH, blkQ, frz_us, Nat.reduceEqDiff, Nat.reduceLT, Nat.reduceAdd, ↓reduceIte, reduceCtorEq, Nat.reduceLeDiff, us_length]
  repeat refine ⟨by omega, ?_⟩
  obtain ⟨N, hN⟩ : ∃ N, N = (limbs x).length + (limbs y).length := ⟨_, rfl⟩
  rw [← hN]
  refine W_block (W_loop (σ := Nat × List Nat) (fun s => [(0, .sl 1 (us (limbs x))), (1, .sl 1 (us (limbs y))), (5, .osl 1 20 0 N), (21, .sl 1 (us (limbs x))), (22, .int .i64 (limbs x).length), (23, .int .i64 s.1)])
    (fun s => [(20, us s.2)])
    (fun s => s.1 ≤ (limbs x).length ∧ s.2.length = N ∧ lim s.2 ∧ nv s.2 = nv ((limbs x).take s.1) * y ∧ ∀ k, s.1 + (limbs y).length ≤ k → s.2.getD k 0 = 0)
    (fun s => (limbs x).length - s.1) (0, List.replicate N 0) ⟨Nat.zero_le _, by simp, ?_, by simp [nv, nv_rep], ?_⟩ ?_ ?_ ?_)
  · intro z hz; rw [List.eq_of_mem_replicate hz]; decide
  · intro k _; simp [List.getD_eq_getElem?_getD, List.getElem?_replicate]; split <;> rfl
  · simp [subF, lk]
  · rfl
  · rintro ⟨i, out⟩ ⟨hi, ho, hlo, hno, hzo⟩
    simp only at hi ho hlo hno hzo ⊢
    refine W_seq (W_reg ?_)
    simp (config := {maxSteps := 1000000}) (disch := omega) only [cA, cB, lk, lkH, Dst.onT, Dst.onX, Dst.slot, setF, setH, mapF, mapH, initF, binE, unE, cnt, boundE, newsE, freshE, opE, rmH, blkQ, frz_us, Nat.reduceEqDiff, Nat.reduceLT, Nat.reduceAdd, ↓reduceIte, reduceCtorEq, Nat.reduceLeDiff]
    repeat refine ⟨by omega, ?_⟩
    refine W_seq (W_cond rfl (fun hcd => W_skip ?_) (fun hcd => W_exit ?_))
    · have hlt := of_decide_eq_true hcd
      have hlt : i < (limbs x).length := by omega
      have hxi := lim_getD laX i
      simp (config := {maxSteps := 1000000}) (disch := omega) only [cA, cB, lk, lkH, Dst.onT, Dst.onX, Dst.slot, setF, setH, mapF, mapH, initF, binE, unE, cnt, boundE, newsE, freshE, opE, rmH, blkQ, frz_us, Nat.reduceEqDiff, Nat.reduceLT, Nat.reduceAdd, ↓reduceIte, reduceCtorEq, Nat.reduceLeDiff]
      repeat refine ⟨by omega, ?_⟩
      refine W_seq (W_block (W_seq (W_reg ?_)))
      simp (config := {maxSteps := 1000000}) (disch := omega) only [cA, cB, lk, lkH, Dst.onT, Dst.onX, Dst.slot, setF, setH, mapF, mapH, initF, binE, unE, cnt, boundE, newsE, freshE, opE, rmH, blkQ, frz_us, Nat.reduceEqDiff, Nat.reduceLT, Nat.reduceAdd, ↓reduceIte, reduceCtorEq, Nat.reduceLeDiff, us_length, us_getD]
      repeat refine ⟨by omega, ?_⟩
      refine W_seq (W_reg ?_)
      simp (config := {maxSteps := 1000000}) (disch := omega) only [cA, cB, lk, lkH, Dst.onT, Dst.onX, Dst.slot, setF, setH, mapF, mapH, initF, binE, unE, cnt, boundE, newsE, freshE, opE, rmH, blkQ, frz_us, Nat.reduceEqDiff, Nat.reduceLT, Nat.reduceAdd, ↓reduceIte, reduceCtorEq, Nat.reduceLeDiff]
      repeat refine ⟨by omega, ?_⟩
      have hts := nv_take_succ' (a := limbs x) i
      generalize hxe : (limbs x).getD i 0 = xi at hxi hts ⊢
      refine W_seq (W_join (ι := Nat × List Nat) (fun s => s.1 < 4294967296 ∧ s.2.length = N ∧ lim s.2 ∧ nv s.2 + 4294967296 ^ (i + (limbs y).length) * s.1 = nv out + 4294967296 ^ i * (xi * y) ∧ ∀ k, i + (limbs y).length ≤ k → s.2.getD k 0 = 0)
        (fun s => [(0, .sl 1 (us (limbs x))), (1, .sl 1 (us (limbs y))), (5, .osl 1 20 0 N), (6, .int .i64 i), (8, .int .u64 s.1), (21, .sl 1 (us (limbs x))), (22, .int .i64 (limbs x).length), (23, .int .i64 i)]) (fun s => [(20, us s.2)]) (W_seq (W_reg ?_)) ?_)
      · simp (config := {maxSteps := 1000000}) (disch := omega) only [cA, cB, lk, lkH, Dst.onT, Dst.onX, Dst.slot, setF, setH, mapF, mapH, initF, binE, unE, cnt, boundE, newsE, freshE, opE, rmH, blkQ, frz_us, Nat.reduceEqDiff, Nat.reduceLT, Nat.reduceAdd, ↓reduceIte, reduceCtorEq, Nat.reduceLeDiff, us_length]
        repeat refine ⟨by omega, ?_⟩
        refine W_block (W_loop (σ := Nat × List Nat × Nat) (fun s => [(0, .sl 1 (us (limbs x))), (1, .sl 1 (us (limbs y))), (5, .osl 1 20 0 N), (6, .int .i64 i), (7, .int .u32 xi), (8, .int .u64 s.2.2), (21, .sl 1 (us (limbs x))), (22, .int .i64 (limbs x).length), (23, .int .i64 i), (28, .sl 1 (us (limbs y))), (29, .int .i64 (limbs y).length), (30, .int .i64 s.1)])
          (fun s => [(20, us s.2.1)])
          (fun s => s.1 ≤ (limbs y).length ∧ s.2.1.length = N ∧ lim s.2.1 ∧ s.2.2 < 4294967296 ∧ nv s.2.1 + 4294967296 ^ (i + s.1) * s.2.2 = nv out + 4294967296 ^ i * (xi * nv ((limbs y).take s.1)) ∧ ∀ k, i + (limbs y).length ≤ k → s.2.1.getD k 0 = 0)
          (fun s => (limbs y).length - s.1) (0, out, 0) ⟨Nat.zero_le _, ho, hlo, by simp only; omega, by simp [nv], hzo⟩ ?_ rfl ?_)
        · simp [subF, lk]
        · rintro ⟨j, q, c⟩ ⟨hj, hq, hlq, hc, hnv, hzq⟩
          simp only at hj hq hlq hc hnv hzq ⊢
          refine W_seq (W_reg ?_)
          simp (config := {maxSteps := 1000000}) (disch := omega) only [cA, cB, lk, lkH, Dst.onT, Dst.onX, Dst.slot, setF, setH, mapF, mapH, initF, binE, unE, cnt, boundE, newsE, freshE, opE, rmH, blkQ, frz_us, Nat.reduceEqDiff, Nat.reduceLT, Nat.reduceAdd, ↓reduceIte, reduceCtorEq, Nat.reduceLeDiff]
          repeat refine ⟨by omega, ?_⟩
          refine W_seq (W_cond rfl (fun hcd2 => W_skip ?_) (fun hcd2 => W_exit ?_))
          · have hlt2 := of_decide_eq_true hcd2
            have hlt2 : j < (limbs y).length := by omega
            have hyj := lim_getD laY j
            have htj := nv_take_succ' (a := limbs y) j
            have hoj := lim_getD hlq (i + j)
            have hidx : (((i : Int) + (j : Int))).toNat = i + j := by omega
            simp (config := {maxSteps := 1000000}) (disch := omega) only [cA, cB, lk, lkH, Dst.onT, Dst.onX, Dst.slot, setF, setH, mapF, mapH, initF, binE, unE, cnt, boundE, newsE, freshE, opE, rmH, blkQ, frz_us, Nat.reduceEqDiff, Nat.reduceLT, Nat.reduceAdd, ↓reduceIte, reduceCtorEq, Nat.reduceLeDiff]
            repeat refine ⟨by omega, ?_⟩
            refine W_seq (W_block (W_seq (W_reg ?_)))
            simp (config := {maxSteps := 1000000}) (disch := omega) only [cA, cB, lk, lkH, Dst.onT, Dst.onX, Dst.slot, setF, setH, mapF, mapH, initF, binE, unE, cnt, boundE, newsE, freshE, opE, rmH, blkQ, frz_us, Nat.reduceEqDiff, Nat.reduceLT, Nat.reduceAdd, ↓reduceIte, reduceCtorEq, Nat.reduceLeDiff, us_length, us_getD]
            repeat refine ⟨by omega, ?_⟩
            generalize (limbs y).getD j 0 = yj at hyj htj ⊢
            refine W_seq (W_reg ?_)
            simp (config := {maxSteps := 1000000}) (disch := omega) only [cA, cB, lk, lkH, Dst.onT, Dst.onX, Dst.slot, setF, setH, mapF, mapH, initF, binE, unE, cnt, boundE, newsE, freshE, opE, rmH, blkQ, frz_us, Nat.reduceEqDiff, Nat.reduceLT, Nat.reduceAdd, ↓reduceIte, reduceCtorEq, Nat.reduceLeDiff, us_length, us_getD, hidx, hq]
            repeat refine ⟨by omega, ?_⟩
            obtain ⟨m1, m2⟩ := mac_w hxi hyj hc hoj
            have hw : IntKind.u64.wrap ((c : Int) + IntKind.u64.wrap (IntKind.u64.wrap ((xi : Int) * (yj : Int)) + ((q.getD (i + j) 0 : Nat) : Int))) = ((xi * yj + q.getD (i + j) 0 + c : Nat) : Int) := by
              rw [mul_w hxi hyj]
              generalize xi * yj = p at m1 ⊢
              generalize q.getD (i + j) 0 = o at m1 ⊢
              rw [wu64 (x := (p : Int) + (o : Int)) (by omega) (by omega), wu64 (by omega) (by omega)]
              omega
            rw [hw]
            have hset := nv_set (l := q) (k := i + j) (v := (xi * yj + q.getD (i + j) 0 + c) % 4294967296) (by omega)
            have hstep := mac_step hnv hset rfl
            generalize xi * yj + q.getD (i + j) 0 + c = t at m1 m2 hset hstep ⊢
            have halg : 4294967296 ^ (i + j) * (xi * yj) = 4294967296 ^ i * (xi * (4294967296 ^ j * yj)) := by
              rw [Nat.pow_add, Nat.mul_assoc, ← Nat.mul_assoc (4294967296 ^ j) xi yj, Nat.mul_comm (4294967296 ^ j) xi, Nat.mul_assoc xi]
            have hfin : nv (q.set (i + j) (t % 4294967296)) + 4294967296 ^ (i + (j + 1)) * (t / 4294967296) = nv out + 4294967296 ^ i * (xi * nv ((limbs y).take (j + 1))) := by
              rw [htj, Nat.mul_add, Nat.mul_add, ← halg, ← Nat.add_assoc (nv out), ← hstep, show i + (j + 1) = i + j + 1 from rfl, Nat.pow_succ]
            refine W_seq (W_reg ?_)
            simp (config := {maxSteps := 1000000}) (disch := omega) only [cA, cB, lk, lkH, Dst.onT, Dst.onX, Dst.slot, setF, setH, mapF, mapH, initF, binE, unE, cnt, boundE, newsE, freshE, opE, rmH, blkQ, frz_us, Nat.reduceEqDiff, Nat.reduceLT, Nat.reduceAdd, ↓reduceIte, reduceCtorEq, Nat.reduceLeDiff, us_length, hidx, hq, us_set, wu32', mod32]
            repeat refine ⟨by omega, ?_⟩
            refine W_reg ?_
            simp (config := {maxSteps := 1000000}) (disch := omega) only [cA, cB, lk, lkH, Dst.onT, Dst.onX, Dst.slot, setF, setH, mapF, mapH, initF, binE, unE, cnt, boundE, newsE, freshE, opE, rmH, blkQ, frz_us, Nat.reduceEqDiff, Nat.reduceLT, Nat.reduceAdd, ↓reduceIte, reduceCtorEq, Nat.reduceLeDiff, shr32u64]
            repeat refine ⟨by omega, ?_⟩
            refine W_reg ?_
            simp (config := {maxSteps := 1000000}) (disch := omega) only [cA, cB, lk, lkH, Dst.onT, Dst.onX, Dst.slot, setF, setH, mapF, mapH, initF, binE, unE, cnt, boundE, newsE, freshE, opE, rmH, blkQ, frz_us, Nat.reduceEqDiff, Nat.reduceLT, Nat.reduceAdd, ↓reduceIte, reduceCtorEq, Nat.reduceLeDiff]
            refine ⟨(j + 1, q.set (i + j) (t % 4294967296), t / 4294967296), ⟨by simp only; omega, by simp [hq], lim_set hlq (by omega), m2, hfin, ?_⟩, by simp only; omega, by simp [subF, lk], rfl⟩
            intro k hk
            simp only
            rw [getD_set_ne' (by omega)]
            exact hzq k hk
          · have hge2 := of_decide_eq_false hcd2
            have hjl : j = (limbs y).length := by omega
            subst hjl
            rw [List.take_of_length_le (Nat.le_refl _), nv_limbs] at hnv
            simp (config := {maxSteps := 1000000}) (disch := omega) only [cA, cB, lk, lkH, Dst.onT, Dst.onX, Dst.slot, setF, setH, mapF, mapH, initF, binE, unE, cnt, boundE, newsE, freshE, opE, rmH, blkQ, frz_us, Nat.reduceEqDiff, Nat.reduceLT, Nat.reduceAdd, ↓reduceIte, reduceCtorEq, Nat.reduceLeDiff]
            exact ⟨(c, q), ⟨hc, hq, hlq, hnv, hzq⟩, by simp [subF, lk], rfl⟩
      · rintro ⟨c, q⟩ ⟨hc, hq, hlq, hnv, hzq⟩
        simp only at hc hq hlq hnv hzq ⊢
        have hidx : ((((i : Int) + ((limbs y).length : Int)))).toNat = i + (limbs y).length := by omega
        have hset := nv_set (l := q) (k := i + (limbs y).length) (v := c) (by omega)
        rw [hzq _ (Nat.le_refl _), Nat.mul_zero, Nat.add_zero] at hset
        have hcm : c % 4294967296 = c := Nat.mod_eq_of_lt hc
        refine W_reg ?_
        simp (config := {maxSteps := 1000000}) (disch := omega) only [cA, cB, lk, lkH, Dst.onT, Dst.onX, Dst.slot, setF, setH, mapF, mapH, initF, binE, unE, cnt, boundE, newsE, freshE, opE, rmH, blkQ, frz_us, Nat.reduceEqDiff, Nat.reduceLT, Nat.reduceAdd, ↓reduceIte, reduceCtorEq, Nat.reduceLeDiff, us_length, hidx, hq, us_set, wu32', mod32, hcm]
        repeat refine ⟨by omega, ?_⟩
        refine W_reg ?_
        simp (config := {maxSteps := 1000000}) (disch := omega) only [cA, cB, lk, lkH, Dst.onT, Dst.onX, Dst.slot, setF, setH, mapF, mapH, initF, binE, unE, cnt, boundE, newsE, freshE, opE, rmH, blkQ, frz_us, Nat.reduceEqDiff, Nat.reduceLT, Nat.reduceAdd, ↓reduceIte, reduceCtorEq, Nat.reduceLeDiff]
        refine ⟨(i + 1, q.set (i + (limbs y).length) c), ⟨by simp only; omega, by simp [hq], lim_set hlq hc, ?_, ?_⟩, by simp only; omega, by simp [subF, lk], rfl⟩
        · simp only
          rw [hset, hnv, hno, hts, Nat.add_mul, Nat.mul_assoc]
        · intro k hk
          simp only at hk ⊢
          rw [getD_set_ne' (by omega)]
          exact hzq k (by omega)
    · have hge := of_decide_eq_false hcd
      have hil : i = (limbs x).length := by omega
      subst hil
      rw [List.take_of_length_le (Nat.le_refl _), nv_limbs] at hno
      have ct := nTrim_calls out (by omega) hlo
      rw [hno] at ct
      simp (config := {maxSteps := 1000000}) (disch := omega) only [cA, cB, lk, lkH, Dst.onT, Dst.onX, Dst.slot, setF, setH, mapF, mapH, initF, binE, unE, cnt, boundE, newsE, freshE, opE, rmH, blkQ, frz_us, Nat.reduceEqDiff, Nat.reduceLT, Nat.reduceAdd, ↓reduceIte, reduceCtorEq, Nat.reduceLeDiff]
      repeat refine ⟨by omega, ?_⟩
      refine W_seq (W_reg ?_)
      simp (config := {maxSteps := 1000000}) (disch := omega) only [cA, cB, lk, lkH, Dst.onT, Dst.onX, Dst.slot, setF, setH, mapF, mapH, initF, binE, unE, cnt, boundE, newsE, freshE, opE, rmH, blkQ, frz_us, Nat.reduceEqDiff, Nat.reduceLT, Nat.reduceAdd, ↓reduceIte, reduceCtorEq, Nat.reduceLeDiff]
      repeat refine ⟨by omega, ?_⟩
      refine callC_freeze rfl 20 (cells := us out) (by simp [lkH]) (us_rf _) ?_
      simp (config := {maxSteps := 1000000}) (disch := omega) only [cA, cB, lk, lkH, Dst.onT, Dst.onX, Dst.slot, setF, setH, mapF, mapH, initF, binE, unE, cnt, boundE, newsE, freshE, opE, rmH, blkQ, frz_us, Nat.reduceEqDiff, Nat.reduceLT, Nat.reduceAdd, ↓reduceIte, reduceCtorEq, Nat.reduceLeDiff, frz_us ho.symm]
      refine callC_pure ct rfl ?_
      simp (config := {maxSteps := 1000000}) (disch := omega) only [cA, cB, lk, lkH, Dst.onT, Dst.onX, Dst.slot, setF, setH, mapF, mapH, initF, binE, unE, cnt, boundE, newsE, freshE, opE, rmH, blkQ, frz_us, Nat.reduceEqDiff, Nat.reduceLT, Nat.reduceAdd, ↓reduceIte, reduceCtorEq, Nat.reduceLeDiff]
      exact W_ret (RetP_1 (.imm rfl))
end Go.Proofs.Ytecilkmigjbfoaa
namespace Go.Proofs.Ytecilkmigjbfoaa
open Go Go.Dat Go.Proofs Nat32

theorem lwCalc_calls (a b : List Nat) (la : lim a) (lb : lim b) : PCalls Try.prog 10 [.sl 1 (us a), .sl 1 (us b)] (.bool true) := by
  refine PCalls_of islwCalc (by simp [fnlwCalc]) ?_
  unfold codelwCalc
  refine W_seq (W_reg ?_)
  simp (config := {maxSteps := 1000000}) (disch := omega) only [cA, cB, lk, lkH, Dst.onT, Dst.onX, Dst.slot, setF, setH, mapF, mapH, initF, binE, unE, cnt, boundE, newsE, freshE, opE, rmH, blkQ, frz_us, Nat.reduceEqDiff, Nat.reduceLT, Nat.reduceAdd, ↓reduceIte, reduceCtorEq, Nat.reduceLeDiff]
  repeat refine ⟨by omega, ?_⟩
  refine W_seq (W_join (ι := Unit) (fun _ => a.length ≤ 12 ∧ b.length ≤ 12) (fun _ => [(0, .sl 1 (us a)), (1, .sl 1 (us b))]) (fun _ => []) (W_seq (W_reg ?_)) ?_)
  · simp (config := {maxSteps := 1000000}) (disch := omega) only [cA, cB, lk, lkH, Dst.onT, Dst.onX, Dst.slot, setF, setH, mapF, mapH, initF, binE, unE, cnt, boundE, newsE, freshE, opE, rmH, blkQ, frz_us, Nat.reduceEqDiff, Nat.reduceLT, Nat.reduceAdd, ↓reduceIte, reduceCtorEq, Nat.reduceLeDiff]
    repeat refine ⟨by omega, ?_⟩
    refine callC_pure (light_calls a) rfl ?_
    simp (config := {maxSteps := 1000000}) (disch := omega) only [cA, cB, lk, lkH, Dst.onT, Dst.onX, Dst.slot, setF, setH, mapF, mapH, initF, binE, unE, cnt, boundE, newsE, freshE, opE, rmH, blkQ, frz_us, Nat.reduceEqDiff, Nat.reduceLT, Nat.reduceAdd, ↓reduceIte, reduceCtorEq, Nat.reduceLeDiff]
    repeat refine ⟨by omega, ?_⟩
    refine regG_split (fun h1 => ?_) (fun h1 => ?_)
    · simp (config := {maxSteps := 1000000}) (disch := omega) only [cA, cB, lk, lkH, Dst.onT, Dst.onX, Dst.slot, setF, setH, mapF, mapH, initF, binE, unE, cnt, boundE, newsE, freshE, opE, rmH, blkQ, frz_us, Nat.reduceEqDiff, Nat.reduceLT, Nat.reduceAdd, ↓reduceIte, reduceCtorEq, Nat.reduceLeDiff, h1]
      repeat refine ⟨by omega, ?_⟩
      refine W_cond rfl (fun _ => ?_) (fun h => by cases h)
      refine W_seq (W_reg ?_)
      simp (config := {maxSteps := 1000000}) (disch := omega) only [cA, cB, lk, lkH, Dst.onT, Dst.onX, Dst.slot, setF, setH, mapF, mapH, initF, binE, unE, cnt, boundE, newsE, freshE, opE, rmH, blkQ, frz_us, Nat.reduceEqDiff, Nat.reduceLT, Nat.reduceAdd, ↓reduceIte, reduceCtorEq, Nat.reduceLeDiff]
      repeat refine ⟨by omega, ?_⟩
      refine callC_pure awake_calls rfl ?_
      simp (config := {maxSteps := 1000000}) (disch := omega) only [cA, cB, lk, lkH, Dst.onT, Dst.onX, Dst.slot, setF, setH, mapF, mapH, initF, binE, unE, cnt, boundE, newsE, freshE, opE, rmH, blkQ, frz_us, Nat.reduceEqDiff, Nat.reduceLT, Nat.reduceAdd, ↓reduceIte, reduceCtorEq, Nat.reduceLeDiff]
      repeat refine ⟨by omega, ?_⟩
      exact W_ret (RetP_1 (.imm rfl))
    · simp (config := {maxSteps := 1000000}) (disch := omega) only [cA, cB, lk, lkH, Dst.onT, Dst.onX, Dst.slot, setF, setH, mapF, mapH, initF, binE, unE, cnt, boundE, newsE, freshE, opE, rmH, blkQ, frz_us, Nat.reduceEqDiff, Nat.reduceLT, Nat.reduceAdd, ↓reduceIte, reduceCtorEq, Nat.reduceLeDiff, h1]
      repeat refine ⟨by omega, ?_⟩
      refine callC_pure (light_calls b) rfl ?_
      simp (config := {maxSteps := 1000000}) (disch := omega) only [cA, cB, lk, lkH, Dst.onT, Dst.onX, Dst.slot, setF, setH, mapF, mapH, initF, binE, unE, cnt, boundE, newsE, freshE, opE, rmH, blkQ, frz_us, Nat.reduceEqDiff, Nat.reduceLT, Nat.reduceAdd, ↓reduceIte, reduceCtorEq, Nat.reduceLeDiff]
      repeat refine ⟨by omega, ?_⟩
      refine W_cond rfl (fun h2 => ?_) (fun h2 => W_skip ?_)
      · refine W_seq (W_reg ?_)
        simp (config := {maxSteps := 1000000}) (disch := omega) only [cA, cB, lk, lkH, Dst.onT, Dst.onX, Dst.slot, setF, setH, mapF, mapH, initF, binE, unE, cnt, boundE, newsE, freshE, opE, rmH, blkQ, frz_us, Nat.reduceEqDiff, Nat.reduceLT, Nat.reduceAdd, ↓reduceIte, reduceCtorEq, Nat.reduceLeDiff]
        repeat refine ⟨by omega, ?_⟩
        refine callC_pure awake_calls rfl ?_
        simp (config := {maxSteps := 1000000}) (disch := omega) only [cA, cB, lk, lkH, Dst.onT, Dst.onX, Dst.slot, setF, setH, mapF, mapH, initF, binE, unE, cnt, boundE, newsE, freshE, opE, rmH, blkQ, frz_us, Nat.reduceEqDiff, Nat.reduceLT, Nat.reduceAdd, ↓reduceIte, reduceCtorEq, Nat.reduceLeDiff]
        repeat refine ⟨by omega, ?_⟩
        exact W_ret (RetP_1 (.imm rfl))
      · simp (config := {maxSteps := 1000000}) (disch := omega) only [cA, cB, lk, lkH, Dst.onT, Dst.onX, Dst.slot, setF, setH, mapF, mapH, initF, binE, unE, cnt, boundE, newsE, freshE, opE, rmH, blkQ, frz_us, Nat.reduceEqDiff, Nat.reduceLT, Nat.reduceAdd, ↓reduceIte, reduceCtorEq, Nat.reduceLeDiff]
        refine ⟨(), ⟨?_, ?_⟩, by simp [subF, lk]⟩
        · simpa using h1
        · simpa using h2
  · rintro ⟨⟩ ⟨h1, h2⟩
    have l1 := vn_len la
    have l2 := vn_len lb
    have hA : (limbs (vn a + vn b)).length ≤ 13 := by
      have h3 : vn a < 4294967296 ^ 12 := limbs_len.1 (by omega)
      have h4 : vn b < 4294967296 ^ 12 := limbs_len.1 (by omega)
      exact limbs_len.2 (by omega)
    have hD : (limbs (vn a - vn b)).length ≤ 12 := by
      have h3 : vn a < 4294967296 ^ 12 := limbs_len.1 (by omega)
      exact limbs_len.2 (by omega)
    have hM := len_mul (x := vn a) (y := vn b) (show _ ≤ 12 by omega) (show _ ≤ 12 by omega)
    have s1 := rSame_calls (limbs (vn a + vn b)) (limbs (vn a + vn b)) (by omega) (by omega)
    have s2 := rSame_calls (limbs (vn a - vn b)) (limbs (vn a - vn b)) (by omega) (by omega)
    have s3 := rSame_calls (limbs (vn a * vn b)) (limbs (vn a * vn b)) (by omega) (by omega)
    simp only [decide_true] at s1 s2 s3
    refine W_seq (W_reg ?_)
    simp (config := {maxSteps := 1000000}) (disch := omega) only [cA, cB, lk, lkH, Dst.onT, Dst.onX, Dst.slot, setF, setH, mapF, mapH, initF, binE, unE, cnt, boundE, newsE, freshE, opE, rmH, blkQ, frz_us, Nat.reduceEqDiff, Nat.reduceLT, Nat.reduceAdd, ↓reduceIte, reduceCtorEq, Nat.reduceLeDiff]
    repeat refine ⟨by omega, ?_⟩
    refine callC_pure (nSub_calls a b (by omega) (by omega) la lb) rfl ?_
    simp (config := {maxSteps := 1000000}) (disch := omega) only [cA, cB, lk, lkH, Dst.onT, Dst.onX, Dst.slot, setF, setH, mapF, mapH, initF, binE, unE, cnt, boundE, newsE, freshE, opE, rmH, blkQ, frz_us, Nat.reduceEqDiff, Nat.reduceLT, Nat.reduceAdd, ↓reduceIte, reduceCtorEq, Nat.reduceLeDiff]
    repeat refine ⟨by omega, ?_⟩
    refine W_seq (W_reg ?_)
    simp (config := {maxSteps := 1000000}) (disch := omega) only [cA, cB, lk, lkH, Dst.onT, Dst.onX, Dst.slot, setF, setH, mapF, mapH, initF, binE, unE, cnt, boundE, newsE, freshE, opE, rmH, blkQ, frz_us, Nat.reduceEqDiff, Nat.reduceLT, Nat.reduceAdd, ↓reduceIte, reduceCtorEq, Nat.reduceLeDiff]
    repeat refine ⟨by omega, ?_⟩
    refine callC_pure (rSub_calls a b (by omega) (by omega) la lb) rfl ?_
    simp (config := {maxSteps := 1000000}) (disch := omega) only [cA, cB, lk, lkH, Dst.onT, Dst.onX, Dst.slot, setF, setH, mapF, mapH, initF, binE, unE, cnt, boundE, newsE, freshE, opE, rmH, blkQ, frz_us, Nat.reduceEqDiff, Nat.reduceLT, Nat.reduceAdd, ↓reduceIte, reduceCtorEq, Nat.reduceLeDiff]
    repeat refine ⟨by omega, ?_⟩
    refine W_seq (W_reg ?_)
    simp (config := {maxSteps := 1000000}) (disch := omega) only [cA, cB, lk, lkH, Dst.onT, Dst.onX, Dst.slot, setF, setH, mapF, mapH, initF, binE, unE, cnt, boundE, newsE, freshE, opE, rmH, blkQ, frz_us, Nat.reduceEqDiff, Nat.reduceLT, Nat.reduceAdd, ↓reduceIte, reduceCtorEq, Nat.reduceLeDiff]
    repeat refine ⟨by omega, ?_⟩
    refine callC_pure awake_calls rfl ?_
    simp (config := {maxSteps := 1000000}) (disch := omega) only [cA, cB, lk, lkH, Dst.onT, Dst.onX, Dst.slot, setF, setH, mapF, mapH, initF, binE, unE, cnt, boundE, newsE, freshE, opE, rmH, blkQ, frz_us, Nat.reduceEqDiff, Nat.reduceLT, Nat.reduceAdd, ↓reduceIte, reduceCtorEq, Nat.reduceLeDiff]
    repeat refine ⟨by omega, ?_⟩
    refine callC_pure (nAdd_calls a b (by omega) (by omega) la lb) rfl ?_
    simp (config := {maxSteps := 1000000}) (disch := omega) only [cA, cB, lk, lkH, Dst.onT, Dst.onX, Dst.slot, setF, setH, mapF, mapH, initF, binE, unE, cnt, boundE, newsE, freshE, opE, rmH, blkQ, frz_us, Nat.reduceEqDiff, Nat.reduceLT, Nat.reduceAdd, ↓reduceIte, reduceCtorEq, Nat.reduceLeDiff]
    repeat refine ⟨by omega, ?_⟩
    refine callC_pure (rAdd_calls a b (by omega) (by omega) la lb) rfl ?_
    simp (config := {maxSteps := 1000000}) (disch := omega) only [cA, cB, lk, lkH, Dst.onT, Dst.onX, Dst.slot, setF, setH, mapF, mapH, initF, binE, unE, cnt, boundE, newsE, freshE, opE, rmH, blkQ, frz_us, Nat.reduceEqDiff, Nat.reduceLT, Nat.reduceAdd, ↓reduceIte, reduceCtorEq, Nat.reduceLeDiff]
    repeat refine ⟨by omega, ?_⟩
    refine callC_pure s1 rfl ?_
    simp (config := {maxSteps := 1000000}) (disch := omega) only [cA, cB, lk, lkH, Dst.onT, Dst.onX, Dst.slot, setF, setH, mapF, mapH, initF, binE, unE, cnt, boundE, newsE, freshE, opE, rmH, blkQ, frz_us, Nat.reduceEqDiff, Nat.reduceLT, Nat.reduceAdd, ↓reduceIte, reduceCtorEq, Nat.reduceLeDiff]
    repeat refine ⟨by omega, ?_⟩
    refine callC_pure s2 rfl ?_
    simp (config := {maxSteps := 1000000}) (disch := omega) only [cA, cB, lk, lkH, Dst.onT, Dst.onX, Dst.slot, setF, setH, mapF, mapH, initF, binE, unE, cnt, boundE, newsE, freshE, opE, rmH, blkQ, frz_us, Nat.reduceEqDiff, Nat.reduceLT, Nat.reduceAdd, ↓reduceIte, reduceCtorEq, Nat.reduceLeDiff, beq_self_bool]
    repeat refine ⟨by omega, ?_⟩
    refine callC_pure (nMul_calls a b (by omega) (by omega) la lb) rfl ?_
    simp (config := {maxSteps := 1000000}) (disch := omega) only [cA, cB, lk, lkH, Dst.onT, Dst.onX, Dst.slot, setF, setH, mapF, mapH, initF, binE, unE, cnt, boundE, newsE, freshE, opE, rmH, blkQ, frz_us, Nat.reduceEqDiff, Nat.reduceLT, Nat.reduceAdd, ↓reduceIte, reduceCtorEq, Nat.reduceLeDiff]
    repeat refine ⟨by omega, ?_⟩
    refine callC_pure (rMul_calls a b (by omega) (by omega) la lb) rfl ?_
    simp (config := {maxSteps := 1000000}) (disch := omega) only [cA, cB, lk, lkH, Dst.onT, Dst.onX, Dst.slot, setF, setH, mapF, mapH, initF, binE, unE, cnt, boundE, newsE, freshE, opE, rmH, blkQ, frz_us, Nat.reduceEqDiff, Nat.reduceLT, Nat.reduceAdd, ↓reduceIte, reduceCtorEq, Nat.reduceLeDiff]
    repeat refine ⟨by omega, ?_⟩
    refine callC_pure s3 rfl ?_
    simp (config := {maxSteps := 1000000}) (disch := omega) only [cA, cB, lk, lkH, Dst.onT, Dst.onX, Dst.slot, setF, setH, mapF, mapH, initF, binE, unE, cnt, boundE, newsE, freshE, opE, rmH, blkQ, frz_us, Nat.reduceEqDiff, Nat.reduceLT, Nat.reduceAdd, ↓reduceIte, reduceCtorEq, Nat.reduceLeDiff]
    repeat refine ⟨by omega, ?_⟩
    exact W_ret (RetP_1 (.imm rfl))
end Go.Proofs.Ytecilkmigjbfoaa
namespace Go.Proofs.Ytecilkmigjbfoaa
open Go Go.Dat Go.Proofs Nat32

def fairB (a b c : List Nat) : Bool := decide (a.length ≤ 12) && decide (b.length ≤ 12) && decide (c.length ≤ 12) && vld a && vld b && vld c
theorem fair_calls (a b c : List Nat) : PCalls Try.prog 23 [.sl 1 (us a), .sl 1 (us b), .sl 1 (us c)] (.bool (fairB a b c)) := by
  refine PCalls_of isfair (by simp [fnfair]) ?_
  unfold codefair fairB
  refine W_seq (W_reg ?_)
  simp (config := {maxSteps := 1000000}) (disch := omega) only [cA, cB, lk, lkH, Dst.onT, Dst.onX, Dst.slot, setF, setH, mapF, mapH, initF, binE, unE, cnt, boundE, newsE, freshE, opE, rmH, blkQ, frz_us, Nat.reduceEqDiff, Nat.reduceLT, Nat.reduceAdd, ↓reduceIte, reduceCtorEq, Nat.reduceLeDiff]
  repeat refine ⟨by omega, ?_⟩
  refine W_seq (W_reg ?_)
  simp (config := {maxSteps := 1000000}) (disch := omega) only [cA, cB, lk, lkH, Dst.onT, Dst.onX, Dst.slot, setF, setH, mapF, mapH, initF, binE, unE, cnt, boundE, newsE, freshE, opE, rmH, blkQ, frz_us, Nat.reduceEqDiff, Nat.reduceLT, Nat.reduceAdd, ↓reduceIte, reduceCtorEq, Nat.reduceLeDiff]
  repeat refine ⟨by omega, ?_⟩
  refine callC_pure (light_calls a) rfl ?_
  by_cases h1 : a.length ≤ 12
  · simp only [h1, decide_true, Bool.true_and]
    simp (config := {maxSteps := 1000000}) (disch := omega) only [cA, cB, lk, lkH, Dst.onT, Dst.onX, Dst.slot, setF, setH, mapF, mapH, initF, binE, unE, cnt, boundE, newsE, freshE, opE, rmH, blkQ, frz_us, Nat.reduceEqDiff, Nat.reduceLT, Nat.reduceAdd, ↓reduceIte, reduceCtorEq, Nat.reduceLeDiff]
    repeat refine ⟨by omega, ?_⟩
    refine callC_pure (light_calls b) rfl ?_
    by_cases h2 : b.length ≤ 12
    · simp only [h2, decide_true, Bool.true_and]
      simp (config := {maxSteps := 1000000}) (disch := omega) only [cA, cB, lk, lkH, Dst.onT, Dst.onX, Dst.slot, setF, setH, mapF, mapH, initF, binE, unE, cnt, boundE, newsE, freshE, opE, rmH, blkQ, frz_us, Nat.reduceEqDiff, Nat.reduceLT, Nat.reduceAdd, ↓reduceIte, reduceCtorEq, Nat.reduceLeDiff]
      repeat refine ⟨by omega, ?_⟩
      refine callC_pure (light_calls c) rfl ?_
      by_cases h3 : c.length ≤ 12
      · simp only [h3, decide_true, Bool.true_and]
        simp (config := {maxSteps := 1000000}) (disch := omega) only [cA, cB, lk, lkH, Dst.onT, Dst.onX, Dst.slot, setF, setH, mapF, mapH, initF, binE, unE, cnt, boundE, newsE, freshE, opE, rmH, blkQ, frz_us, Nat.reduceEqDiff, Nat.reduceLT, Nat.reduceAdd, ↓reduceIte, reduceCtorEq, Nat.reduceLeDiff]
        repeat refine ⟨by omega, ?_⟩
        refine callC_pure (rValid_calls a (by omega)) rfl ?_
        generalize vld a = va
        cases va
        · simp only [Bool.false_and]
          simp (config := {maxSteps := 1000000}) (disch := omega) only [cA, cB, lk, lkH, Dst.onT, Dst.onX, Dst.slot, setF, setH, mapF, mapH, initF, binE, unE, cnt, boundE, newsE, freshE, opE, rmH, blkQ, frz_us, Nat.reduceEqDiff, Nat.reduceLT, Nat.reduceAdd, ↓reduceIte, reduceCtorEq, Nat.reduceLeDiff]
          repeat refine ⟨by omega, ?_⟩
          exact W_ret (RetP_1 (.imm rfl))
        · simp only [Bool.true_and]
          simp (config := {maxSteps := 1000000}) (disch := omega) only [cA, cB, lk, lkH, Dst.onT, Dst.onX, Dst.slot, setF, setH, mapF, mapH, initF, binE, unE, cnt, boundE, newsE, freshE, opE, rmH, blkQ, frz_us, Nat.reduceEqDiff, Nat.reduceLT, Nat.reduceAdd, ↓reduceIte, reduceCtorEq, Nat.reduceLeDiff]
          repeat refine ⟨by omega, ?_⟩
          refine callC_pure (rValid_calls b (by omega)) rfl ?_
          generalize vld b = vb
          cases vb
          · simp only [Bool.false_and]
            simp (config := {maxSteps := 1000000}) (disch := omega) only [cA, cB, lk, lkH, Dst.onT, Dst.onX, Dst.slot, setF, setH, mapF, mapH, initF, binE, unE, cnt, boundE, newsE, freshE, opE, rmH, blkQ, frz_us, Nat.reduceEqDiff, Nat.reduceLT, Nat.reduceAdd, ↓reduceIte, reduceCtorEq, Nat.reduceLeDiff]
            repeat refine ⟨by omega, ?_⟩
            exact W_ret (RetP_1 (.imm rfl))
          · simp only [Bool.true_and]
            simp (config := {maxSteps := 1000000}) (disch := omega) only [cA, cB, lk, lkH, Dst.onT, Dst.onX, Dst.slot, setF, setH, mapF, mapH, initF, binE, unE, cnt, boundE, newsE, freshE, opE, rmH, blkQ, frz_us, Nat.reduceEqDiff, Nat.reduceLT, Nat.reduceAdd, ↓reduceIte, reduceCtorEq, Nat.reduceLeDiff]
            repeat refine ⟨by omega, ?_⟩
            refine callC_pure (rValid_calls c (by omega)) rfl ?_
            simp (config := {maxSteps := 1000000}) (disch := omega) only [cA, cB, lk, lkH, Dst.onT, Dst.onX, Dst.slot, setF, setH, mapF, mapH, initF, binE, unE, cnt, boundE, newsE, freshE, opE, rmH, blkQ, frz_us, Nat.reduceEqDiff, Nat.reduceLT, Nat.reduceAdd, ↓reduceIte, reduceCtorEq, Nat.reduceLeDiff]
            repeat refine ⟨by omega, ?_⟩
            exact W_ret (RetP_1 (.imm rfl))
      · simp only [h3, decide_false, Bool.false_and]
        simp (config := {maxSteps := 1000000}) (disch := omega) only [cA, cB, lk, lkH, Dst.onT, Dst.onX, Dst.slot, setF, setH, mapF, mapH, initF, binE, unE, cnt, boundE, newsE, freshE, opE, rmH, blkQ, frz_us, Nat.reduceEqDiff, Nat.reduceLT, Nat.reduceAdd, ↓reduceIte, reduceCtorEq, Nat.reduceLeDiff]
        repeat refine ⟨by omega, ?_⟩
        exact W_ret (RetP_1 (.imm rfl))
    · simp only [h2, decide_false, Bool.false_and]
      simp (config := {maxSteps := 1000000}) (disch := omega) only [cA, cB, lk, lkH, Dst.onT, Dst.onX, Dst.slot, setF, setH, mapF, mapH, initF, binE, unE, cnt, boundE, newsE, freshE, opE, rmH, blkQ, frz_us, Nat.reduceEqDiff, Nat.reduceLT, Nat.reduceAdd, ↓reduceIte, reduceCtorEq, Nat.reduceLeDiff]
      repeat refine ⟨by omega, ?_⟩
      exact W_ret (RetP_1 (.imm rfl))
  · simp only [h1, decide_false, Bool.false_and]
    simp (config := {maxSteps := 1000000}) (disch := omega) only [cA, cB, lk, lkH, Dst.onT, Dst.onX, Dst.slot, setF, setH, mapF, mapH, initF, binE, unE, cnt, boundE, newsE, freshE, opE, rmH, blkQ, frz_us, Nat.reduceEqDiff, Nat.reduceLT, Nat.reduceAdd, ↓reduceIte, reduceCtorEq, Nat.reduceLeDiff]
    repeat refine ⟨by omega, ?_⟩
    exact W_ret (RetP_1 (.imm rfl))
end Go.Proofs.Ytecilkmigjbfoaa
namespace Go.Proofs.Ytecilkmigjbfoaa
open Go Go.Dat Go.Proofs Nat32

theorem fairB_spec {a b c : List Nat} (h : fairB a b c = true) : a.length ≤ 12 ∧ b.length ≤ 12 ∧ c.length ≤ 12 ∧ vld a = true ∧ vld b = true ∧ vld c = true := by
  simp only [fairB, Bool.and_eq_true, decide_eq_true_eq] at h
  exact ⟨h.1.1.1.1.1, h.1.1.1.1.2, h.1.1.1.2, h.1.1.2, h.1.2, h.2⟩
theorem vld_eq {a : List Nat} (la : lim a) (h : vld a = true) : limbs (vn a) = a := by
  rw [vn, val, h, if_pos rfl, limbs_nv la h]
theorem cmp_geq (x y : Nat) : decide (0 ≤ cmpN x y) = decide (y ≤ x) := by
  rw [decide_eq_decide]; unfold cmpN; split
  · omega
  · split <;> omega
theorem cmp_neg (x y : Nat) : IntKind.i64.wrap (0 - cmpN y x) = cmpN x y := by
  unfold cmpN; by_cases h : x < y <;> by_cases h2 : y < x <;> simp [h, h2] <;> first | omega | rfl | decide
theorem cmp_add (x y z : Nat) : cmpN (x + z) (y + z) = cmpN x y := by
  unfold cmpN; simp
end Go.Proofs.Ytecilkmigjbfoaa
namespace Go.Proofs.Ytecilkmigjbfoaa
open Go Go.Dat Go.Proofs Nat32

theorem len_add {p q m : Nat} (h1 : (limbs p).length ≤ m) (h2 : (limbs q).length ≤ m) : (limbs (p + q)).length ≤ m + 1 := by
  rw [limbs_len] at h1 h2 ⊢
  rw [Nat.pow_succ]; omega
theorem sameL (p q : Nat) (h : p = q) (hl : (limbs p).length ≤ 100000) : PCalls Try.prog 18 [.sl 1 (us (limbs p)), .sl 1 (us (limbs q))] (.bool true) := by
  subst h
  have := rSame_calls (limbs p) (limbs p) (by omega) (by omega)
  rwa [decide_eq_true rfl] at this
theorem nAddL (p q : Nat) (h1 : (limbs p).length ≤ 100000) (h2 : (limbs q).length ≤ 100000) : PCalls Try.prog 24 [.sl 1 (us (limbs p)), .sl 1 (us (limbs q))] (.sl 1 (us (limbs (p + q)))) := by
  have := nAdd_calls (limbs p) (limbs q) h1 h2 (lim_limbs _) (lim_limbs _)
  rwa [vn_limbs, vn_limbs] at this
theorem nMulL (p q : Nat) (h1 : (limbs p).length ≤ 10000) (h2 : (limbs q).length ≤ 10000) : PCalls Try.prog 25 [.sl 1 (us (limbs p)), .sl 1 (us (limbs q))] (.sl 1 (us (limbs (p * q)))) := by
  have := nMul_calls (limbs p) (limbs q) h1 h2 (lim_limbs _) (lim_limbs _)
  rwa [vn_limbs, vn_limbs] at this
theorem nDivL (p q : Nat) (h1 : (limbs p).length ≤ 100000) (h2 : (limbs q).length ≤ 100000) : PCalls Try.prog 26 [.sl 1 (us (limbs p)), .sl 1 (us (limbs q))] (.tup [.sl 1 (us (limbs (p / q))), .sl 1 (us (limbs (dmod p q))), .bool (decide (0 < q))]) := by
  have := nDiv_calls (limbs p) (limbs q) h1 h2 (lim_limbs _) (lim_limbs _)
  rwa [vn_limbs, vn_limbs] at this
theorem nGcdL (p q : Nat) (h1 : (limbs p).length ≤ 100000) (h2 : (limbs q).length ≤ 100000) : PCalls Try.prog 33 [.sl 1 (us (limbs p)), .sl 1 (us (limbs q))] (.sl 1 (us (limbs (Nat.gcd p q)))) := by
  have := nGcd_calls (limbs p) (limbs q) h1 h2 (lim_limbs _) (lim_limbs _)
  rwa [vn_limbs, vn_limbs] at this
theorem nCmpL (p q : Nat) (h1 : (limbs p).length ≤ 100000) (h2 : (limbs q).length ≤ 100000) : PCalls Try.prog 21 [.sl 1 (us (limbs p)), .sl 1 (us (limbs q))] (.int .i64 (cmpN p q)) := by
  have := nCmp_calls (limbs p) (limbs q) (by omega) (by omega) (lim_limbs _) (lim_limbs _)
  rwa [vn_limbs, vn_limbs] at this
theorem nValidL (p : Nat) (h1 : (limbs p).length ≤ 100000) : PCalls Try.prog 16 [.sl 1 (us (limbs p))] (.bool true) := by
  have := nValid_calls (limbs p) (by omega)
  rwa [vld_limbs] at this
theorem ex_limbs {a : List Nat} (la : lim a) (h : vld a = true) : ∃ x, a = limbs x := ⟨vn a, (vld_eq la h).symm⟩
theorem limbs1 : limbs 1 = [1] := limbs_one (by decide) (by decide)
theorem us1L : [DV.int .u32 1] = us (limbs 1) := by rw [limbs1]; rfl
theorem usnilL : us (limbs 0) = [] := by rw [limbs_zero]; rfl

theorem us_rfd (xs : List Nat) : (∀ d ∈ us xs, d.rf = true) = True := by simp [us, u32, DV.rf]

theorem lwRing_calls (a b c : List Nat) (la : lim a) (lb : lim b) (lc : lim c) : PCalls Try.prog 4 [.sl 1 (us a), .sl 1 (us b), .sl 1 (us c)] (.bool true) := by
  refine PCalls_of islwRing (by simp [fnlwRing]) ?_
  unfold codelwRing
  repeat (first | (refine W_seq ?_) | (refine W_reg ?_) | (refine W_regd ?_) | (refine W_block ?_) | (refine And.intro (by omega) ?_) | simp (config := {maxSteps := 1000000}) (disch := omega) only [cA, cB, lk, lkH, Dst.onT, Dst.onX, Dst.slot, setF, setH, mapF, mapH, initF, binE, unE, cnt, boundE, newsE, freshE, opE, rmH, blkQ, frz_us, Nat.reduceEqDiff, Nat.reduceLT, Nat.reduceAdd, ↓reduceIte, reduceCtorEq, Nat.reduceLeDiff])
  refine callC_pure (fair_calls a b c) rfl ?_
  repeat (first | (refine W_seq ?_) | (refine W_reg ?_) | (refine W_regd ?_) | (refine W_block ?_) | (refine And.intro (by omega) ?_) | simp (config := {maxSteps := 1000000}) (disch := omega) only [cA, cB, lk, lkH, Dst.onT, Dst.onX, Dst.slot, setF, setH, mapF, mapH, initF, binE, unE, cnt, boundE, newsE, freshE, opE, rmH, blkQ, frz_us, Nat.reduceEqDiff, Nat.reduceLT, Nat.reduceAdd, ↓reduceIte, reduceCtorEq, Nat.reduceLeDiff])
  refine W_cond rfl (fun _ => ?_) (fun hcd => W_skip ?_)
  · repeat (first | (refine W_seq ?_) | (refine W_reg ?_) | (refine W_regd ?_) | (refine W_block ?_) | (refine And.intro (by omega) ?_) | simp (config := {maxSteps := 1000000}) (disch := omega) only [cA, cB, lk, lkH, Dst.onT, Dst.onX, Dst.slot, setF, setH, mapF, mapH, initF, binE, unE, cnt, boundE, newsE, freshE, opE, rmH, blkQ, frz_us, Nat.reduceEqDiff, Nat.reduceLT, Nat.reduceAdd, ↓reduceIte, reduceCtorEq, Nat.reduceLeDiff] | (refine callC_pure (awake_calls) rfl ?_) | exact W_ret (RetP_1 (.imm rfl)))
  · have hf : fairB a b c = true := by simpa using hcd
    clear hcd
    obtain ⟨h1, h2, h3, va, vb, vc⟩ := fairB_spec hf
    obtain ⟨x, rfl⟩ := ex_limbs la va
    obtain ⟨y, rfl⟩ := ex_limbs lb vb
    obtain ⟨z, rfl⟩ := ex_limbs lc vc
    clear hf va vb vc la lb lc
    have l1 := len_add h1 h2
    have l1' := len_add h2 h1
    have l2 := len_add h2 h3
    have l3 := len_add l1 (show (limbs z).length ≤ 13 by omega)
    have l4 := len_add (show (limbs x).length ≤ 13 by omega) l2
    have m1 := len_mul h1 h2
    have m1' := len_mul h2 h1
    have m2 := len_mul h2 h3
    have m3 := len_mul m1 h3
    have m4 := len_mul h1 m2
    have m5 := len_mul h1 l2
    have m6 := len_mul h1 h3
    have m7 := len_add m1 m6
    have o1 : (limbs 1).length ≤ 1 := by rw [limbs1]; simp
    have o0 : (limbs 0).length ≤ 0 := by rw [limbs_zero]; simp
    have c0 := nAddL x 0 (by omega) (by omega)
    have c1 := nMulL x 0 (by omega) (by omega)
    rw [usnilL, Nat.add_zero] at c0
    rw [usnilL, Nat.mul_zero, usnilL] at c1
    have c2 := nMulL x 1 (by omega) (by omega)
    rw [Nat.mul_one] at c2
    clear o0 o1
    repeat (first | (refine W_seq ?_) | (refine W_reg ?_) | (refine W_regd ?_) | (refine W_block ?_) | (refine And.intro (by omega) ?_) | simp (config := {maxSteps := 1000000}) (disch := omega) only [cA, cB, lk, lkH, Dst.onT, Dst.onX, Dst.slot, setF, setH, mapF, mapH, initF, binE, unE, cnt, boundE, newsE, freshE, opE, rmH, blkQ, frz_us, Nat.reduceEqDiff, Nat.reduceLT, Nat.reduceAdd, ↓reduceIte, reduceCtorEq, Nat.reduceLeDiff, us_rfd, us1L] | (refine callC_pure (awake_calls) rfl ?_) | (refine callC_pure (nAddL x y (by omega) (by omega)) rfl ?_) | (refine callC_pure (nAddL y x (by omega) (by omega)) rfl ?_) | (refine callC_pure (sameL (x + y) (y + x) (Nat.add_comm x y) (by omega)) rfl ?_) | (refine callC_pure (nMulL x y (by omega) (by omega)) rfl ?_) | (refine callC_pure (nMulL y x (by omega) (by omega)) rfl ?_) | (refine callC_pure (sameL (x * y) (y * x) (Nat.mul_comm x y) (by omega)) rfl ?_) | (refine callC_pure (nAddL (x + y) z (by omega) (by omega)) rfl ?_) | (refine callC_pure (nAddL y z (by omega) (by omega)) rfl ?_) | (refine callC_pure (nAddL x (y + z) (by omega) (by omega)) rfl ?_) | (refine callC_pure (sameL (x + y + z) (x + (y + z)) (Nat.add_assoc x y z) (by omega)) rfl ?_) | (refine callC_pure (nMulL (x * y) z (by omega) (by omega)) rfl ?_) | (refine callC_pure (nMulL y z (by omega) (by omega)) rfl ?_) | (refine callC_pure (nMulL x (y * z) (by omega) (by omega)) rfl ?_) | (refine callC_pure (sameL (x * y * z) (x * (y * z)) (Nat.mul_assoc x y z) (by omega)) rfl ?_) | (refine callC_pure (nMulL x (y + z) (by omega) (by omega)) rfl ?_) | (refine callC_pure (nMulL x z (by omega) (by omega)) rfl ?_) | (refine callC_pure (nAddL (x * y) (x * z) (by omega) (by omega)) rfl ?_) | (refine callC_pure (sameL (x * (y + z)) (x * y + x * z) (Nat.mul_add x y z) (by omega)) rfl ?_) | (refine callC_nz 1 (c0) rfl ?_) | (refine callC_pure (sameL x x rfl (by omega)) rfl ?_) | (refine callC_pure (c2) rfl ?_) | (refine callC_nz 1 (c1) rfl ?_) | exact W_ret (RetP_1 (.imm rfl)))
end Go.Proofs.Ytecilkmigjbfoaa
namespace Go.Proofs.Ytecilkmigjbfoaa
open Go Go.Dat Go.Proofs Nat32

theorem tdiv2 (i : Nat) : ((i : Int)).tdiv 2 = ((i / 2 : Nat) : Int) := tdiv_nat i 2
theorem shl1_w {k : Nat} (hk : k ≤ 31) : IntKind.u32.wrap ((1 : Int) * 2 ^ min k IntKind.u32.bits) = ((2 ^ k : Nat) : Int) := by
  have e : min k IntKind.u32.bits = k := by
    have : IntKind.u32.bits = 32 := rfl
    omega
  have hp := pow_le31 hk
  rw [e, show ((2 : Int) ^ k) = ((2 ^ k : Nat) : Int) by simp, Int.one_mul]
  generalize 2 ^ k = p at *
  exact wu32 (by omega) (by omega)
theorem nRoot_calls (a : List Nat) (ha : a.length ≤ 10000) (la : lim a) : PCalls Try.prog 27 [.sl 1 (us a)] (.sl 1 (us (limbs (isq (vn a))))) := by
  have l1 := vn_len la
  have c1 := nValue_calls a (by omega) la
  refine PCalls_of isnRoot (by simp [fnnRoot]) ?_
  unfold codenRoot
  generalize vn a = x at *
  repeat (first | (refine W_seq ?_) | (refine W_reg ?_) | (refine W_regd ?_) | (refine W_block ?_) | (refine And.intro (by omega) ?_) | simp (config := {maxSteps := 1000000}) (disch := omega) only [cA, cB, lk, lkH, Dst.onT, Dst.onX, Dst.slot, setF, setH, mapF, mapH, initF, binE, unE, cnt, boundE, newsE, freshE, opE, rmH, blkQ, frz_us, Nat.reduceEqDiff, Nat.reduceLT, Nat.reduceAdd, ↓reduceIte, reduceCtorEq, Nat.reduceLeDiff])
  refine callC_pure c1 rfl ?_
  repeat (first | (refine W_seq ?_) | (refine W_reg ?_) | (refine W_regd ?_) | (refine W_block ?_) | (refine And.intro (by omega) ?_) | simp (config := {maxSteps := 1000000}) (disch := omega) only [cA, cB, lk, lkH, Dst.onT, Dst.onX, Dst.slot, setF, setH, mapF, mapH, initF, binE, unE, cnt, boundE, newsE, freshE, opE, rmH, blkQ, frz_us, Nat.reduceEqDiff, Nat.reduceLT, Nat.reduceAdd, ↓reduceIte, reduceCtorEq, Nat.reduceLeDiff, us_length])
  refine W_cond rfl (fun h => ?_) (fun h => W_skip ?_)
  · have h := of_decide_eq_true h
    have hx : x = 0 := limbs_eq_nil.1 (List.eq_nil_of_length_eq_zero (by omega))
    subst hx
    repeat (first | (refine W_seq ?_) | (refine W_reg ?_) | (refine W_regd ?_) | (refine W_block ?_) | (refine And.intro (by omega) ?_) | simp (config := {maxSteps := 1000000}) (disch := omega) only [cA, cB, lk, lkH, Dst.onT, Dst.onX, Dst.slot, setF, setH, mapF, mapH, initF, binE, unE, cnt, boundE, newsE, freshE, opE, rmH, blkQ, frz_us, Nat.reduceEqDiff, Nat.reduceLT, Nat.reduceAdd, ↓reduceIte, reduceCtorEq, Nat.reduceLeDiff])
    rw [show isq 0 = 0 from rfl, limbs_zero]
    exact W_ret (RetP_1 (.nils 1))
  · have h := of_decide_eq_false h
    obtain ⟨n, hn⟩ : ∃ n, (limbs x).length = n + 1 := ⟨(limbs x).length - 1, by omega⟩
    have hx : 0 < x := by
      rcases Nat.eq_zero_or_pos x with e | e
      · subst e; rw [limbs_zero] at hn; simp at hn
      · exact e
    have htop := lim_getD (lim_limbs x) n
    have cl := Lz32_calls ((limbs x).getD n 0) htop
    have hst := root_start hn
    have hb := blen_le_of (k := 32) (show (limbs x).getD n 0 < 2 ^ 32 by omega)
    have e0 := Hid.mk (show (((n + 1 : Nat) : Int) - 1).toNat = n by omega)
    clear h
    repeat (first | (refine W_seq ?_) | (refine W_reg ?_) | (refine W_regd ?_) | (refine W_block ?_) | (refine And.intro (by omega) ?_) | simp (config := {maxSteps := 1000000}) (disch := omega) only [cA, cB, lk, lkH, Dst.onT, Dst.onX, Dst.slot, setF, setH, mapF, mapH, initF, binE, unE, cnt, boundE, newsE, freshE, opE, rmH, blkQ, frz_us, Nat.reduceEqDiff, Nat.reduceLT, Nat.reduceAdd, ↓reduceIte, reduceCtorEq, Nat.reduceLeDiff, us_length, hn, us_getD, e0.out])
    refine callC_pure cl rfl ?_
    generalize (limbs x).getD n 0 = t at *
    obtain ⟨hf, hhf⟩ : ∃ hf, hf = (32 * (n + 1) - (32 - blen t) + 1) / 2 := ⟨_, rfl⟩
    rw [← hhf] at hst
    have e1 := Hid.mk (show ((32 : Int) * ((n + 1 : Nat) : Int) - ((32 - blen t : Nat) : Int) + 1) = ((32 * (n + 1) - (32 - blen t) + 1 : Nat) : Int) by omega)
    have e2 := Hid.mk (show ((hf / 32 : Nat) : Int) + 1 = ((hf / 32 + 1 : Nat) : Int) by omega)
    have hm : hf % 32 ≤ 31 := by omega
    have hf2 : hf / 32 ≤ n + 1 := by omega
    (replace hst := Hid.mk hst)
    clear cl
    repeat (first | (refine W_seq ?_) | (refine W_reg ?_) | (refine W_regd ?_) | (refine W_block ?_) | (refine And.intro (by omega) ?_) | simp (config := {maxSteps := 1000000}) (disch := omega) only [cA, cB, lk, lkH, Dst.onT, Dst.onX, Dst.slot, setF, setH, mapF, mapH, initF, binE, unE, cnt, boundE, newsE, freshE, opE, rmH, blkQ, frz_us, Nat.reduceEqDiff, Nat.reduceLT, Nat.reduceAdd, ↓reduceIte, reduceCtorEq, Nat.reduceLeDiff, e1.out, tdiv2, ← hhf, tdiv32, e2.out, tmod32, us_rep, nbnRoot, us_length, List.length_replicate, shl1_w hm, us_set])
    have hcell : (List.replicate (hf / 32 + 1) 0).set (hf / 32) (2 ^ (hf % 32)) = limbs (2 ^ hf) := by
      have := set_rep (hf / 32) (2 ^ (hf % 32)) []
      rw [List.append_nil] at this
      rw [this, ← limbs_two_pow]
    have hlen0 : (limbs (2 ^ hf)).length = hf / 32 + 1 := by rw [limbs_two_pow]; simp
    rw [hcell]
    have hi0 : isq x ≤ 2 ^ hf := Nat.le_of_lt (sq_lt (Nat.lt_of_le_of_lt (isq_spec x).1 hst.out))
    have hp0 : 0 < 2 ^ hf := Nat.two_pow_pos hf
    have hlb : (limbs (2 ^ hf)).length ≤ n + 2 := by omega
    clear hst hhf e1 e2
    generalize 2 ^ hf = x0 at *
    refine W_freeze 31 (cells := us (limbs x0)) (by simp [lkH]) (us_rf _) ?_
    simp (config := {maxSteps := 1000000}) (disch := omega) only [cA, cB, lk, lkH, Dst.onT, Dst.onX, Dst.slot, setF, setH, mapF, mapH, initF, binE, unE, cnt, boundE, newsE, freshE, opE, rmH, blkQ, frz_us, Nat.reduceEqDiff, Nat.reduceLT, Nat.reduceAdd, ↓reduceIte, reduceCtorEq, Nat.reduceLeDiff, mapF, frz_us hlen0.symm]
    refine W_loop (σ := Nat) (fun v => [(0, .sl 1 (us (limbs x))), (4, .sl 1 (us (limbs v)))]) (fun _ => []) (fun v => isq x ≤ v ∧ 0 < v ∧ (limbs v).length ≤ n + 2) (fun v => v) x0 ⟨hi0, hp0, hlb⟩ ?_ rfl ?_
    · simp [subF, lk]
    · rintro v ⟨h1, h2, h3⟩
      have lq := len_mono (Nat.div_le_self x v)
      have la1 := len_add h3 (show (limbs (x / v)).length ≤ n + 2 by omega)
      have cd := nDivL x v (by omega) (by omega)
      have ca := nAddL v (x / v) (by omega) (by omega)
      have cs := nShort_calls (v + x / v) 2 (by omega) (by decide) (by decide)
      have ly := len_mono (Nat.div_le_self (v + x / v) 2)
      have cc := nCmpL ((v + x / v) / 2) v (by omega) (by omega)
      have hge := newton_ge h1 h2
      have hpos := isq_pos hx
      have hstop := newton_stop h1 h2
      generalize hy : (v + x / v) / 2 = y at *
      repeat (first | (refine W_seq ?_) | (refine W_reg ?_) | (refine W_regd ?_) | (refine W_block ?_) | (refine And.intro (by omega) ?_) | simp (config := {maxSteps := 1000000}) (disch := omega) only [cA, cB, lk, lkH, Dst.onT, Dst.onX, Dst.slot, setF, setH, mapF, mapH, initF, binE, unE, cnt, boundE, newsE, freshE, opE, rmH, blkQ, frz_us, Nat.reduceEqDiff, Nat.reduceLT, Nat.reduceAdd, ↓reduceIte, reduceCtorEq, Nat.reduceLeDiff])
      refine callC_pure cd rfl ?_
      repeat (first | (refine W_seq ?_) | (refine W_reg ?_) | (refine W_regd ?_) | (refine W_block ?_) | (refine And.intro (by omega) ?_) | simp (config := {maxSteps := 1000000}) (disch := omega) only [cA, cB, lk, lkH, Dst.onT, Dst.onX, Dst.slot, setF, setH, mapF, mapH, initF, binE, unE, cnt, boundE, newsE, freshE, opE, rmH, blkQ, frz_us, Nat.reduceEqDiff, Nat.reduceLT, Nat.reduceAdd, ↓reduceIte, reduceCtorEq, Nat.reduceLeDiff])
      refine callC_pure ca rfl ?_
      repeat (first | (refine W_seq ?_) | (refine W_reg ?_) | (refine W_regd ?_) | (refine W_block ?_) | (refine And.intro (by omega) ?_) | simp (config := {maxSteps := 1000000}) (disch := omega) only [cA, cB, lk, lkH, Dst.onT, Dst.onX, Dst.slot, setF, setH, mapF, mapH, initF, binE, unE, cnt, boundE, newsE, freshE, opE, rmH, blkQ, frz_us, Nat.reduceEqDiff, Nat.reduceLT, Nat.reduceAdd, ↓reduceIte, reduceCtorEq, Nat.reduceLeDiff])
      refine callC_pure cs rfl ?_
      repeat (first | (refine W_seq ?_) | (refine W_reg ?_) | (refine W_regd ?_) | (refine W_block ?_) | (refine And.intro (by omega) ?_) | simp (config := {maxSteps := 1000000}) (disch := omega) only [cA, cB, lk, lkH, Dst.onT, Dst.onX, Dst.slot, setF, setH, mapF, mapH, initF, binE, unE, cnt, boundE, newsE, freshE, opE, rmH, blkQ, frz_us, Nat.reduceEqDiff, Nat.reduceLT, Nat.reduceAdd, ↓reduceIte, reduceCtorEq, Nat.reduceLeDiff])
      refine callC_pure cc rfl ?_
      repeat (first | (refine W_seq ?_) | (refine W_reg ?_) | (refine W_regd ?_) | (refine W_block ?_) | (refine And.intro (by omega) ?_) | simp (config := {maxSteps := 1000000}) (disch := omega) only [cA, cB, lk, lkH, Dst.onT, Dst.onX, Dst.slot, setF, setH, mapF, mapH, initF, binE, unE, cnt, boundE, newsE, freshE, opE, rmH, blkQ, frz_us, Nat.reduceEqDiff, Nat.reduceLT, Nat.reduceAdd, ↓reduceIte, reduceCtorEq, Nat.reduceLeDiff, cmp_geq])
      refine W_cond rfl (fun h => ?_) (fun h => W_skip ?_)
      · have h := of_decide_eq_true h
        rw [← hstop h]
        repeat (first | (refine W_seq ?_) | (refine W_reg ?_) | (refine W_regd ?_) | (refine W_block ?_) | (refine And.intro (by omega) ?_) | simp (config := {maxSteps := 1000000}) (disch := omega) only [cA, cB, lk, lkH, Dst.onT, Dst.onX, Dst.slot, setF, setH, mapF, mapH, initF, binE, unE, cnt, boundE, newsE, freshE, opE, rmH, blkQ, frz_us, Nat.reduceEqDiff, Nat.reduceLT, Nat.reduceAdd, ↓reduceIte, reduceCtorEq, Nat.reduceLeDiff])
        exact W_ret (RetP_1 (.imm rfl))
      · have h := of_decide_eq_false h
        have ly2 := len_mono (show y ≤ v by omega)
        repeat (first | (refine W_seq ?_) | (refine W_reg ?_) | (refine W_regd ?_) | (refine W_block ?_) | (refine And.intro (by omega) ?_) | simp (config := {maxSteps := 1000000}) (disch := omega) only [cA, cB, lk, lkH, Dst.onT, Dst.onX, Dst.slot, setF, setH, mapF, mapH, initF, binE, unE, cnt, boundE, newsE, freshE, opE, rmH, blkQ, frz_us, Nat.reduceEqDiff, Nat.reduceLT, Nat.reduceAdd, ↓reduceIte, reduceCtorEq, Nat.reduceLeDiff])
        refine ⟨y, ⟨hge, by omega, by omega⟩, by omega, by simp [subF, lk]⟩
end Go.Proofs.Ytecilkmigjbfoaa
namespace Go.Proofs.Ytecilkmigjbfoaa
open Go Go.Dat Go.Proofs Nat32

theorem rAddL (p q : Nat) (h1 : (limbs p).length ≤ 100000) (h2 : (limbs q).length ≤ 100000) : PCalls Try.prog 36 [.sl 1 (us (limbs p)), .sl 1 (us (limbs q))] (.sl 1 (us (limbs (p + q)))) := by
  have := rAdd_calls (limbs p) (limbs q) h1 h2 (lim_limbs _) (lim_limbs _)
  rwa [vn_limbs, vn_limbs] at this
theorem rMulL (p q : Nat) (h1 : (limbs p).length ≤ 10000) (h2 : (limbs q).length ≤ 10000) : PCalls Try.prog 37 [.sl 1 (us (limbs p)), .sl 1 (us (limbs q))] (.sl 1 (us (limbs (p * q)))) := by
  have := rMul_calls (limbs p) (limbs q) h1 h2 (lim_limbs _) (lim_limbs _)
  rwa [vn_limbs, vn_limbs] at this
theorem rDivL (p q : Nat) (h1 : (limbs p).length ≤ 1000) (h2 : (limbs q).length ≤ 1000) : PCalls Try.prog 32 [.sl 1 (us (limbs p)), .sl 1 (us (limbs q))] (.tup [.sl 1 (us (limbs (p / q))), .sl 1 (us (limbs (dmod p q))), .bool (decide (0 < q))]) := by
  have := rDiv_calls (limbs p) (limbs q) h1 h2 (lim_limbs _) (lim_limbs _)
  rwa [vn_limbs, vn_limbs] at this
theorem limbs2 : limbs 2 = [2] := limbs_one (by decide) (by decide)
theorem us2L : [DV.int .u32 2] = us (limbs 2) := by rw [limbs2]; rfl
theorem cmp_eq0 (x y : Nat) : decide (cmpN x y = 0) = decide (x = y) := by
  rw [decide_eq_decide]; unfold cmpN
  split
  · constructor
    · intro h; cases h
    · intro h; omega
  · split
    · constructor
      · intro h; cases h
      · intro h; omega
    · constructor
      · intro _; omega
      · intro _; rfl
theorem cmp_le0 (x y : Nat) : decide (cmpN x y ≤ 0) = decide (x ≤ y) := by
  rw [decide_eq_decide]; unfold cmpN
  split
  · constructor
    · intro _; omega
    · intro _; decide
  · split
    · constructor
      · intro h; omega
      · intro h; omega
    · constructor
      · intro _; omega
      · intro _; decide
theorem rRoot_calls (a : List Nat) (ha : a.length ≤ 100) (la : lim a) : PCalls Try.prog 29 [.sl 1 (us a)] (.sl 1 (us (limbs (isq (vn a))))) := by
  have l1 := vn_len la
  have c1 := rTake_calls a (by omega) la
  refine PCalls_of isrRoot (by simp [fnrRoot]) ?_
  unfold coderRoot
  generalize vn a = x at *
  have o1 : (limbs 1).length ≤ 1 := by rw [limbs1]; simp
  have o2 : (limbs 2).length ≤ 1 := by rw [limbs2]; simp
  have lx1 := len_add (show (limbs x).length ≤ 100 by omega) (show (limbs 1).length ≤ 100 by omega)
  have ca := rAddL x 1 (by omega) (by omega)
  repeat (first | (refine W_seq ?_) | (refine W_reg ?_) | (refine W_regd ?_) | (refine W_block ?_) | (refine And.intro (by omega) ?_) | simp (config := {maxSteps := 1000000}) (disch := omega) only [cA, cB, lk, lkH, Dst.onT, Dst.onX, Dst.slot, setF, setH, mapF, mapH, initF, binE, unE, cnt, boundE, newsE, freshE, opE, rmH, blkQ, frz_us, Nat.reduceEqDiff, Nat.reduceLT, Nat.reduceAdd, ↓reduceIte, reduceCtorEq, Nat.reduceLeDiff])
  refine callC_pure c1 rfl ?_
  repeat (first | (refine W_seq ?_) | (refine W_reg ?_) | (refine W_regd ?_) | (refine W_block ?_) | (refine And.intro (by omega) ?_) | simp (config := {maxSteps := 1000000}) (disch := omega) only [cA, cB, lk, lkH, Dst.onT, Dst.onX, Dst.slot, setF, setH, mapF, mapH, initF, binE, unE, cnt, boundE, newsE, freshE, opE, rmH, blkQ, frz_us, Nat.reduceEqDiff, Nat.reduceLT, Nat.reduceAdd, ↓reduceIte, reduceCtorEq, Nat.reduceLeDiff, us_rfd, us1L])
  refine callC_pure ca rfl ?_
  repeat (first | (refine W_seq ?_) | (refine W_reg ?_) | (refine W_regd ?_) | (refine W_block ?_) | (refine And.intro (by omega) ?_) | simp (config := {maxSteps := 1000000}) (disch := omega) only [cA, cB, lk, lkH, Dst.onT, Dst.onX, Dst.slot, setF, setH, mapF, mapH, initF, binE, unE, cnt, boundE, newsE, freshE, opE, rmH, blkQ, frz_us, Nat.reduceEqDiff, Nat.reduceLT, Nat.reduceAdd, ↓reduceIte, reduceCtorEq, Nat.reduceLeDiff])
  refine W_nil 3 1 (by simp [lk]) ?_
  simp (config := {maxSteps := 1000000}) (disch := omega) only [cA, cB, lk, lkH, Dst.onT, Dst.onX, Dst.slot, setF, setH, mapF, mapH, initF, binE, unE, cnt, boundE, newsE, freshE, opE, rmH, blkQ, frz_us, Nat.reduceEqDiff, Nat.reduceLT, Nat.reduceAdd, ↓reduceIte, reduceCtorEq, Nat.reduceLeDiff]
  refine W_loop (σ := Nat × Nat) (fun z => [(0, .sl 1 (us (limbs x))), (3, .sl 1 (us (limbs z.1))), (4, .sl 1 (us (limbs z.2)))]) (fun _ => []) (fun z => z.1 * z.1 ≤ x ∧ x < z.2 * z.2 ∧ z.1 < z.2 ∧ z.2 ≤ x + 1) (fun z => z.2 - z.1) (0, x + 1)
    ⟨Nat.zero_le _, by simp only; exact Nat.lt_of_lt_of_le (Nat.lt_succ_self x) (Nat.le_mul_of_pos_left _ (Nat.succ_pos x)), Nat.succ_pos x, Nat.le_refl _⟩ ?_ rfl ?_
  · simp [subF, lk, limbs_zero, us]
  · rintro ⟨lo, hi⟩ ⟨h1, h2, h3, h4⟩
    simp only at h1 h2 h3 h4 ⊢
    have llo := len_mono (show lo ≤ x + 1 by omega)
    have lhi := len_mono h4
    have ls := len_add (show (limbs lo).length ≤ 101 by omega) (show (limbs hi).length ≤ 101 by omega)
    have cAd := rAddL lo hi (by omega) (by omega)
    have cD := rDivL (lo + hi) 2 (by omega) (by omega)
    rw [dmod_pos (by decide), decide_eq_true (show 0 < 2 by decide)] at cD
    have lm := len_mono (Nat.div_le_self (lo + hi) 2)
    have cC := rcmp_calls ((lo + hi) / 2) lo (by omega) (by omega)
    have cM := rMulL ((lo + hi) / 2) ((lo + hi) / 2) (by omega) (by omega)
    have lmm := len_mul lm lm
    have cC2 := rcmp_calls ((lo + hi) / 2 * ((lo + hi) / 2)) x (by omega) (by omega)
    have hbis := bisect_mid h3
    have hm1 : lo ≤ (lo + hi) / 2 := by omega
    have hm2 : (lo + hi) / 2 < hi := by omega
    generalize (lo + hi) / 2 = mid at *
    repeat (first | (refine W_seq ?_) | (refine W_reg ?_) | (refine W_regd ?_) | (refine W_block ?_) | (refine And.intro (by omega) ?_) | simp (config := {maxSteps := 1000000}) (disch := omega) only [cA, cB, lk, lkH, Dst.onT, Dst.onX, Dst.slot, setF, setH, mapF, mapH, initF, binE, unE, cnt, boundE, newsE, freshE, opE, rmH, blkQ, frz_us, Nat.reduceEqDiff, Nat.reduceLT, Nat.reduceAdd, ↓reduceIte, reduceCtorEq, Nat.reduceLeDiff, us_rfd, us2L])
    refine callC_pure cAd rfl ?_
    repeat (first | (refine W_seq ?_) | (refine W_reg ?_) | (refine W_regd ?_) | (refine W_block ?_) | (refine And.intro (by omega) ?_) | simp (config := {maxSteps := 1000000}) (disch := omega) only [cA, cB, lk, lkH, Dst.onT, Dst.onX, Dst.slot, setF, setH, mapF, mapH, initF, binE, unE, cnt, boundE, newsE, freshE, opE, rmH, blkQ, frz_us, Nat.reduceEqDiff, Nat.reduceLT, Nat.reduceAdd, ↓reduceIte, reduceCtorEq, Nat.reduceLeDiff, us_rfd, us2L])
    refine callC_pure cD rfl ?_
    repeat (first | (refine W_seq ?_) | (refine W_reg ?_) | (refine W_regd ?_) | (refine W_block ?_) | (refine And.intro (by omega) ?_) | simp (config := {maxSteps := 1000000}) (disch := omega) only [cA, cB, lk, lkH, Dst.onT, Dst.onX, Dst.slot, setF, setH, mapF, mapH, initF, binE, unE, cnt, boundE, newsE, freshE, opE, rmH, blkQ, frz_us, Nat.reduceEqDiff, Nat.reduceLT, Nat.reduceAdd, ↓reduceIte, reduceCtorEq, Nat.reduceLeDiff])
    refine callC_pure cC rfl ?_
    repeat (first | (refine W_seq ?_) | (refine W_reg ?_) | (refine W_regd ?_) | (refine W_block ?_) | (refine And.intro (by omega) ?_) | simp (config := {maxSteps := 1000000}) (disch := omega) only [cA, cB, lk, lkH, Dst.onT, Dst.onX, Dst.slot, setF, setH, mapF, mapH, initF, binE, unE, cnt, boundE, newsE, freshE, opE, rmH, blkQ, frz_us, Nat.reduceEqDiff, Nat.reduceLT, Nat.reduceAdd, ↓reduceIte, reduceCtorEq, Nat.reduceLeDiff, cmp_eq0])
    refine W_cond rfl (fun h => ?_) (fun h => W_skip ?_)
    · have h := of_decide_eq_true h
      have hh := hbis h
      subst hh
      rw [← isq_of h1 h2]
      repeat (first | (refine W_seq ?_) | (refine W_reg ?_) | (refine W_regd ?_) | (refine W_block ?_) | (refine And.intro (by omega) ?_) | simp (config := {maxSteps := 1000000}) (disch := omega) only [cA, cB, lk, lkH, Dst.onT, Dst.onX, Dst.slot, setF, setH, mapF, mapH, initF, binE, unE, cnt, boundE, newsE, freshE, opE, rmH, blkQ, frz_us, Nat.reduceEqDiff, Nat.reduceLT, Nat.reduceAdd, ↓reduceIte, reduceCtorEq, Nat.reduceLeDiff])
      exact W_ret (RetP_1 (.imm rfl))
    · have h := of_decide_eq_false h
      repeat (first | (refine W_seq ?_) | (refine W_reg ?_) | (refine W_regd ?_) | (refine W_block ?_) | (refine And.intro (by omega) ?_) | simp (config := {maxSteps := 1000000}) (disch := omega) only [cA, cB, lk, lkH, Dst.onT, Dst.onX, Dst.slot, setF, setH, mapF, mapH, initF, binE, unE, cnt, boundE, newsE, freshE, opE, rmH, blkQ, frz_us, Nat.reduceEqDiff, Nat.reduceLT, Nat.reduceAdd, ↓reduceIte, reduceCtorEq, Nat.reduceLeDiff])
      refine callC_pure cM rfl ?_
      repeat (first | (refine W_seq ?_) | (refine W_reg ?_) | (refine W_regd ?_) | (refine W_block ?_) | (refine And.intro (by omega) ?_) | simp (config := {maxSteps := 1000000}) (disch := omega) only [cA, cB, lk, lkH, Dst.onT, Dst.onX, Dst.slot, setF, setH, mapF, mapH, initF, binE, unE, cnt, boundE, newsE, freshE, opE, rmH, blkQ, frz_us, Nat.reduceEqDiff, Nat.reduceLT, Nat.reduceAdd, ↓reduceIte, reduceCtorEq, Nat.reduceLeDiff])
      refine callC_pure cC2 rfl ?_
      repeat (first | (refine W_seq ?_) | (refine W_reg ?_) | (refine W_regd ?_) | (refine W_block ?_) | (refine And.intro (by omega) ?_) | simp (config := {maxSteps := 1000000}) (disch := omega) only [cA, cB, lk, lkH, Dst.onT, Dst.onX, Dst.slot, setF, setH, mapF, mapH, initF, binE, unE, cnt, boundE, newsE, freshE, opE, rmH, blkQ, frz_us, Nat.reduceEqDiff, Nat.reduceLT, Nat.reduceAdd, ↓reduceIte, reduceCtorEq, Nat.reduceLeDiff, cmp_le0])
      refine W_cond rfl (fun h5 => ?_) (fun h5 => ?_)
      · have h5 := of_decide_eq_true h5
        repeat (first | (refine W_seq ?_) | (refine W_reg ?_) | (refine W_regd ?_) | (refine W_block ?_) | (refine And.intro (by omega) ?_) | simp (config := {maxSteps := 1000000}) (disch := omega) only [cA, cB, lk, lkH, Dst.onT, Dst.onX, Dst.slot, setF, setH, mapF, mapH, initF, binE, unE, cnt, boundE, newsE, freshE, opE, rmH, blkQ, frz_us, Nat.reduceEqDiff, Nat.reduceLT, Nat.reduceAdd, ↓reduceIte, reduceCtorEq, Nat.reduceLeDiff])
        refine ⟨(mid, hi), ⟨h5, h2, hm2, h4⟩, by simp only; omega, by simp [subF, lk]⟩
      · have h5 := of_decide_eq_false h5
        repeat (first | (refine W_seq ?_) | (refine W_reg ?_) | (refine W_regd ?_) | (refine W_block ?_) | (refine And.intro (by omega) ?_) | simp (config := {maxSteps := 1000000}) (disch := omega) only [cA, cB, lk, lkH, Dst.onT, Dst.onX, Dst.slot, setF, setH, mapF, mapH, initF, binE, unE, cnt, boundE, newsE, freshE, opE, rmH, blkQ, frz_us, Nat.reduceEqDiff, Nat.reduceLT, Nat.reduceAdd, ↓reduceIte, reduceCtorEq, Nat.reduceLeDiff])
        refine ⟨(lo, mid), ⟨h1, by simp only; omega, by simp only; omega, by simp only; omega⟩, by simp only; omega, by simp [subF, lk]⟩

/-- The power, 0 for an exponent that is not allowed. -/
def pw (x : Nat) (k : Int) : Nat := if k < 0 ∨ 64 < k then 0 else x ^ k.toNat
theorem nPower_calls (a : List Nat) (k : Int) (ha : a.length ≤ 100) (la : lim a) : PCalls Try.prog 30 [.sl 1 (us a), .int .i64 k] (.sl 1 (us (limbs (pw (vn a) k)))) := by
  have l1 := vn_len la
  refine PCalls_of isnPower (by simp [fnnPower]) ?_
  unfold codenPower pw
  by_cases h0 : k < 0
  · have d0 : decide (k < 0) = true := decide_eq_true h0
    rw [if_pos (.inl h0), limbs_zero]
    repeat (first | (refine W_seq ?_) | (refine W_reg ?_) | (refine W_regd ?_) | (refine W_block ?_) | (refine And.intro (by omega) ?_) | simp (config := {maxSteps := 1000000}) (disch := omega) only [cA, cB, lk, lkH, Dst.onT, Dst.onX, Dst.slot, setF, setH, mapF, mapH, initF, binE, unE, cnt, boundE, newsE, freshE, opE, rmH, blkQ, frz_us, Nat.reduceEqDiff, Nat.reduceLT, Nat.reduceAdd, ↓reduceIte, reduceCtorEq, Nat.reduceLeDiff, d0])
    refine W_cond rfl (fun _ => ?_) (fun h => by cases h)
    repeat (first | (refine W_seq ?_) | (refine W_reg ?_) | (refine W_regd ?_) | (refine W_block ?_) | (refine And.intro (by omega) ?_) | simp (config := {maxSteps := 1000000}) (disch := omega) only [cA, cB, lk, lkH, Dst.onT, Dst.onX, Dst.slot, setF, setH, mapF, mapH, initF, binE, unE, cnt, boundE, newsE, freshE, opE, rmH, blkQ, frz_us, Nat.reduceEqDiff, Nat.reduceLT, Nat.reduceAdd, ↓reduceIte, reduceCtorEq, Nat.reduceLeDiff])
    exact W_ret (RetP_1 (.nils 1))
  · have d0 : decide (k < 0) = false := decide_eq_false h0
    by_cases h64 : 64 < k
    · have d1 : decide (64 < k) = true := decide_eq_true h64
      rw [if_pos (.inr h64), limbs_zero]
      repeat (first | (refine W_seq ?_) | (refine W_reg ?_) | (refine W_regd ?_) | (refine W_block ?_) | (refine And.intro (by omega) ?_) | simp (config := {maxSteps := 1000000}) (disch := omega) only [cA, cB, lk, lkH, Dst.onT, Dst.onX, Dst.slot, setF, setH, mapF, mapH, initF, binE, unE, cnt, boundE, newsE, freshE, opE, rmH, blkQ, frz_us, Nat.reduceEqDiff, Nat.reduceLT, Nat.reduceAdd, ↓reduceIte, reduceCtorEq, Nat.reduceLeDiff, d0, d1])
      refine W_cond rfl (fun _ => ?_) (fun h => by cases h)
      repeat (first | (refine W_seq ?_) | (refine W_reg ?_) | (refine W_regd ?_) | (refine W_block ?_) | (refine And.intro (by omega) ?_) | simp (config := {maxSteps := 1000000}) (disch := omega) only [cA, cB, lk, lkH, Dst.onT, Dst.onX, Dst.slot, setF, setH, mapF, mapH, initF, binE, unE, cnt, boundE, newsE, freshE, opE, rmH, blkQ, frz_us, Nat.reduceEqDiff, Nat.reduceLT, Nat.reduceAdd, ↓reduceIte, reduceCtorEq, Nat.reduceLeDiff])
      exact W_ret (RetP_1 (.nils 1))
    · have d1 : decide (64 < k) = false := decide_eq_false h64
      rw [if_neg (by omega)]
      obtain ⟨n, rfl⟩ : ∃ n : Nat, k = n := ⟨k.toNat, by omega⟩
      have hn : n ≤ 64 := by omega
      rw [Int.toNat_natCast]
      repeat (first | (refine W_seq ?_) | (refine W_reg ?_) | (refine W_regd ?_) | (refine W_block ?_) | (refine And.intro (by omega) ?_) | simp (config := {maxSteps := 1000000}) (disch := omega) only [cA, cB, lk, lkH, Dst.onT, Dst.onX, Dst.slot, setF, setH, mapF, mapH, initF, binE, unE, cnt, boundE, newsE, freshE, opE, rmH, blkQ, frz_us, Nat.reduceEqDiff, Nat.reduceLT, Nat.reduceAdd, ↓reduceIte, reduceCtorEq, Nat.reduceLeDiff, d0, d1])
      refine W_cond rfl (fun h => by cases h) (fun _ => W_skip ?_)
      clear d0 d1 h0 h64
      repeat (first | (refine W_seq ?_) | (refine W_reg ?_) | (refine W_regd ?_) | (refine W_block ?_) | (refine And.intro (by omega) ?_) | simp (config := {maxSteps := 1000000}) (disch := omega) only [cA, cB, lk, lkH, Dst.onT, Dst.onX, Dst.slot, setF, setH, mapF, mapH, initF, binE, unE, cnt, boundE, newsE, freshE, opE, rmH, blkQ, frz_us, Nat.reduceEqDiff, Nat.reduceLT, Nat.reduceAdd, ↓reduceIte, reduceCtorEq, Nat.reduceLeDiff, us_rfd, us1L])
      refine W_loop (σ := Nat) (fun i => [(0, .sl 1 (us a)), (5, .sl 1 (us (limbs (vn a ^ i)))), (13, .int .i64 n), (14, .int .i64 i)]) (fun _ => []) (fun i => i ≤ n) (fun i => n - i) 0 (Nat.zero_le _) ?_ rfl ?_
      · simp [subF, lk]
      · rintro i hi
        have lp := len_pow (show (limbs (vn a)).length ≤ 100 by omega) i
        have cm := nMul_calls (limbs (vn a ^ i)) a (by omega) (by omega) (lim_limbs _) la
        rw [vn_limbs, ← Nat.pow_succ] at cm
        repeat (first | (refine W_seq ?_) | (refine W_reg ?_) | (refine W_regd ?_) | (refine W_block ?_) | (refine And.intro (by omega) ?_) | simp (config := {maxSteps := 1000000}) (disch := omega) only [cA, cB, lk, lkH, Dst.onT, Dst.onX, Dst.slot, setF, setH, mapF, mapH, initF, binE, unE, cnt, boundE, newsE, freshE, opE, rmH, blkQ, frz_us, Nat.reduceEqDiff, Nat.reduceLT, Nat.reduceAdd, ↓reduceIte, reduceCtorEq, Nat.reduceLeDiff])
        refine W_cond rfl (fun h => W_skip ?_) (fun h => W_exit ?_)
        · have h := of_decide_eq_true h
          repeat (first | (refine W_seq ?_) | (refine W_reg ?_) | (refine W_regd ?_) | (refine W_block ?_) | (refine And.intro (by omega) ?_) | simp (config := {maxSteps := 1000000}) (disch := omega) only [cA, cB, lk, lkH, Dst.onT, Dst.onX, Dst.slot, setF, setH, mapF, mapH, initF, binE, unE, cnt, boundE, newsE, freshE, opE, rmH, blkQ, frz_us, Nat.reduceEqDiff, Nat.reduceLT, Nat.reduceAdd, ↓reduceIte, reduceCtorEq, Nat.reduceLeDiff])
          refine callC_pure cm rfl ?_
          repeat (first | (refine W_seq ?_) | (refine W_reg ?_) | (refine W_regd ?_) | (refine W_block ?_) | (refine And.intro (by omega) ?_) | simp (config := {maxSteps := 1000000}) (disch := omega) only [cA, cB, lk, lkH, Dst.onT, Dst.onX, Dst.slot, setF, setH, mapF, mapH, initF, binE, unE, cnt, boundE, newsE, freshE, opE, rmH, blkQ, frz_us, Nat.reduceEqDiff, Nat.reduceLT, Nat.reduceAdd, ↓reduceIte, reduceCtorEq, Nat.reduceLeDiff])
          refine ⟨i + 1, by omega, by omega, by simp [subF, lk]⟩
        · have h := of_decide_eq_false h
          have : i = n := by omega
          subst this
          repeat (first | (refine W_seq ?_) | (refine W_reg ?_) | (refine W_regd ?_) | (refine W_block ?_) | (refine And.intro (by omega) ?_) | simp (config := {maxSteps := 1000000}) (disch := omega) only [cA, cB, lk, lkH, Dst.onT, Dst.onX, Dst.slot, setF, setH, mapF, mapH, initF, binE, unE, cnt, boundE, newsE, freshE, opE, rmH, blkQ, frz_us, Nat.reduceEqDiff, Nat.reduceLT, Nat.reduceAdd, ↓reduceIte, reduceCtorEq, Nat.reduceLeDiff])
          exact W_ret (RetP_1 (.imm rfl))
theorem rPower_calls (a : List Nat) (k : Int) (ha : a.length ≤ 100) (la : lim a) : PCalls Try.prog 31 [.sl 1 (us a), .int .i64 k] (.sl 1 (us (limbs (pw (vn a) k)))) := by
  have l1 := vn_len la
  refine PCalls_of isrPower (by simp [fnrPower]) ?_
  unfold coderPower pw
  by_cases h0 : k < 0
  · have d0 : decide (k < 0) = true := decide_eq_true h0
    rw [if_pos (.inl h0), limbs_zero]
    repeat (first | (refine W_seq ?_) | (refine W_reg ?_) | (refine W_regd ?_) | (refine W_block ?_) | (refine And.intro (by omega) ?_) | simp (config := {maxSteps := 1000000}) (disch := omega) only [cA, cB, lk, lkH, Dst.onT, Dst.onX, Dst.slot, setF, setH, mapF, mapH, initF, binE, unE, cnt, boundE, newsE, freshE, opE, rmH, blkQ, frz_us, Nat.reduceEqDiff, Nat.reduceLT, Nat.reduceAdd, ↓reduceIte, reduceCtorEq, Nat.reduceLeDiff, d0])
    refine W_cond rfl (fun _ => ?_) (fun h => by cases h)
    repeat (first | (refine W_seq ?_) | (refine W_reg ?_) | (refine W_regd ?_) | (refine W_block ?_) | (refine And.intro (by omega) ?_) | simp (config := {maxSteps := 1000000}) (disch := omega) only [cA, cB, lk, lkH, Dst.onT, Dst.onX, Dst.slot, setF, setH, mapF, mapH, initF, binE, unE, cnt, boundE, newsE, freshE, opE, rmH, blkQ, frz_us, Nat.reduceEqDiff, Nat.reduceLT, Nat.reduceAdd, ↓reduceIte, reduceCtorEq, Nat.reduceLeDiff])
    exact W_ret (RetP_1 (.nils 1))
  · have d0 : decide (k < 0) = false := decide_eq_false h0
    by_cases h64 : 64 < k
    · have d1 : decide (64 < k) = true := decide_eq_true h64
      rw [if_pos (.inr h64), limbs_zero]
      repeat (first | (refine W_seq ?_) | (refine W_reg ?_) | (refine W_regd ?_) | (refine W_block ?_) | (refine And.intro (by omega) ?_) | simp (config := {maxSteps := 1000000}) (disch := omega) only [cA, cB, lk, lkH, Dst.onT, Dst.onX, Dst.slot, setF, setH, mapF, mapH, initF, binE, unE, cnt, boundE, newsE, freshE, opE, rmH, blkQ, frz_us, Nat.reduceEqDiff, Nat.reduceLT, Nat.reduceAdd, ↓reduceIte, reduceCtorEq, Nat.reduceLeDiff, d0, d1])
      refine W_cond rfl (fun _ => ?_) (fun h => by cases h)
      repeat (first | (refine W_seq ?_) | (refine W_reg ?_) | (refine W_regd ?_) | (refine W_block ?_) | (refine And.intro (by omega) ?_) | simp (config := {maxSteps := 1000000}) (disch := omega) only [cA, cB, lk, lkH, Dst.onT, Dst.onX, Dst.slot, setF, setH, mapF, mapH, initF, binE, unE, cnt, boundE, newsE, freshE, opE, rmH, blkQ, frz_us, Nat.reduceEqDiff, Nat.reduceLT, Nat.reduceAdd, ↓reduceIte, reduceCtorEq, Nat.reduceLeDiff])
      exact W_ret (RetP_1 (.nils 1))
    · have d1 : decide (64 < k) = false := decide_eq_false h64
      rw [if_neg (by omega)]
      obtain ⟨n, rfl⟩ : ∃ n : Nat, k = n := ⟨k.toNat, by omega⟩
      have hn : n ≤ 64 := by omega
      rw [Int.toNat_natCast]
      repeat (first | (refine W_seq ?_) | (refine W_reg ?_) | (refine W_regd ?_) | (refine W_block ?_) | (refine And.intro (by omega) ?_) | simp (config := {maxSteps := 1000000}) (disch := omega) only [cA, cB, lk, lkH, Dst.onT, Dst.onX, Dst.slot, setF, setH, mapF, mapH, initF, binE, unE, cnt, boundE, newsE, freshE, opE, rmH, blkQ, frz_us, Nat.reduceEqDiff, Nat.reduceLT, Nat.reduceAdd, ↓reduceIte, reduceCtorEq, Nat.reduceLeDiff, d0, d1])
      refine W_cond rfl (fun h => by cases h) (fun _ => W_skip ?_)
      clear d0 d1 h0 h64
      repeat (first | (refine W_seq ?_) | (refine W_reg ?_) | (refine W_regd ?_) | (refine W_block ?_) | (refine And.intro (by omega) ?_) | simp (config := {maxSteps := 1000000}) (disch := omega) only [cA, cB, lk, lkH, Dst.onT, Dst.onX, Dst.slot, setF, setH, mapF, mapH, initF, binE, unE, cnt, boundE, newsE, freshE, opE, rmH, blkQ, frz_us, Nat.reduceEqDiff, Nat.reduceLT, Nat.reduceAdd, ↓reduceIte, reduceCtorEq, Nat.reduceLeDiff, us_rfd, us1L])
      refine W_loop (σ := Nat) (fun i => [(0, .sl 1 (us a)), (1, .int .i64 n), (5, .sl 1 (us (limbs (vn a ^ i)))), (6, .int .i64 i)]) (fun _ => []) (fun i => i ≤ n) (fun i => n - i) 0 (Nat.zero_le _) ?_ rfl ?_
      · simp [subF, lk]
      · rintro i hi
        have lp := len_pow (show (limbs (vn a)).length ≤ 100 by omega) i
        have cm := rMul_calls (limbs (vn a ^ i)) a (by omega) (by omega) (lim_limbs _) la
        rw [vn_limbs, ← Nat.pow_succ] at cm
        repeat (first | (refine W_seq ?_) | (refine W_reg ?_) | (refine W_regd ?_) | (refine W_block ?_) | (refine And.intro (by omega) ?_) | simp (config := {maxSteps := 1000000}) (disch := omega) only [cA, cB, lk, lkH, Dst.onT, Dst.onX, Dst.slot, setF, setH, mapF, mapH, initF, binE, unE, cnt, boundE, newsE, freshE, opE, rmH, blkQ, frz_us, Nat.reduceEqDiff, Nat.reduceLT, Nat.reduceAdd, ↓reduceIte, reduceCtorEq, Nat.reduceLeDiff])
        refine W_cond rfl (fun h => W_skip ?_) (fun h => W_exit ?_)
        · have h := of_decide_eq_true h
          repeat (first | (refine W_seq ?_) | (refine W_reg ?_) | (refine W_regd ?_) | (refine W_block ?_) | (refine And.intro (by omega) ?_) | simp (config := {maxSteps := 1000000}) (disch := omega) only [cA, cB, lk, lkH, Dst.onT, Dst.onX, Dst.slot, setF, setH, mapF, mapH, initF, binE, unE, cnt, boundE, newsE, freshE, opE, rmH, blkQ, frz_us, Nat.reduceEqDiff, Nat.reduceLT, Nat.reduceAdd, ↓reduceIte, reduceCtorEq, Nat.reduceLeDiff])
          refine callC_pure cm rfl ?_
          repeat (first | (refine W_seq ?_) | (refine W_reg ?_) | (refine W_regd ?_) | (refine W_block ?_) | (refine And.intro (by omega) ?_) | simp (config := {maxSteps := 1000000}) (disch := omega) only [cA, cB, lk, lkH, Dst.onT, Dst.onX, Dst.slot, setF, setH, mapF, mapH, initF, binE, unE, cnt, boundE, newsE, freshE, opE, rmH, blkQ, frz_us, Nat.reduceEqDiff, Nat.reduceLT, Nat.reduceAdd, ↓reduceIte, reduceCtorEq, Nat.reduceLeDiff])
          refine ⟨i + 1, by omega, by omega, by simp [subF, lk]⟩
        · have h := of_decide_eq_false h
          have : i = n := by omega
          subst this
          repeat (first | (refine W_seq ?_) | (refine W_reg ?_) | (refine W_regd ?_) | (refine W_block ?_) | (refine And.intro (by omega) ?_) | simp (config := {maxSteps := 1000000}) (disch := omega) only [cA, cB, lk, lkH, Dst.onT, Dst.onX, Dst.slot, setF, setH, mapF, mapH, initF, binE, unE, cnt, boundE, newsE, freshE, opE, rmH, blkQ, frz_us, Nat.reduceEqDiff, Nat.reduceLT, Nat.reduceAdd, ↓reduceIte, reduceCtorEq, Nat.reduceLeDiff])
          exact W_ret (RetP_1 (.imm rfl))
end Go.Proofs.Ytecilkmigjbfoaa
namespace Go.Proofs.Ytecilkmigjbfoaa
open Go Go.Dat Go.Proofs Nat32

theorem beq_self_b (b : Bool) : (b == b) = true := by cases b <;> rfl
theorem lim0 : lim [] := lim_nil
theorem lwDivBack_calls (a b : List Nat) (la : lim a) (lb : lim b) : PCalls Try.prog 5 [.sl 1 (us a), .sl 1 (us b)] (.bool true) := by
  refine PCalls_of islwDivBack (by simp [fnlwDivBack]) ?_
  unfold codelwDivBack
  by_cases hf : fairB a b [] = true
  · have cf := fair_calls a b []
    rw [hf] at cf
    by_cases h0 : b.length = 0
    · have d0 : decide ((b.length : Int) = 0) = true := decide_eq_true (by omega)
      repeat (first | (refine W_seq ?_) | (refine W_reg ?_) | (refine W_regd ?_) | (refine W_block ?_) | (refine And.intro (by omega) ?_) | simp (config := {maxSteps := 1000000}) (disch := omega) only [cA, cB, lk, lkH, Dst.onT, Dst.onX, Dst.slot, setF, setH, mapF, mapH, initF, binE, unE, cnt, boundE, newsE, freshE, opE, rmH, blkQ, frz_us, Nat.reduceEqDiff, Nat.reduceLT, Nat.reduceAdd, ↓reduceIte, reduceCtorEq, Nat.reduceLeDiff, us_length, d0] | (refine callC_nz 1 (cf) rfl ?_) | (refine callC_pure (awake_calls) rfl ?_) | exact W_ret (RetP_1 (.imm rfl)))
      refine W_cond rfl (fun _ => ?_) (fun h => by cases h)
      repeat (first | (refine W_seq ?_) | (refine W_reg ?_) | (refine W_regd ?_) | (refine W_block ?_) | (refine And.intro (by omega) ?_) | simp (config := {maxSteps := 1000000}) (disch := omega) only [cA, cB, lk, lkH, Dst.onT, Dst.onX, Dst.slot, setF, setH, mapF, mapH, initF, binE, unE, cnt, boundE, newsE, freshE, opE, rmH, blkQ, frz_us, Nat.reduceEqDiff, Nat.reduceLT, Nat.reduceAdd, ↓reduceIte, reduceCtorEq, Nat.reduceLeDiff] | (refine callC_pure (awake_calls) rfl ?_) | exact W_ret (RetP_1 (.imm rfl)))
    · have d0 : decide ((b.length : Int) = 0) = false := decide_eq_false (by omega)
      repeat (first | (refine W_seq ?_) | (refine W_reg ?_) | (refine W_regd ?_) | (refine W_block ?_) | (refine And.intro (by omega) ?_) | simp (config := {maxSteps := 1000000}) (disch := omega) only [cA, cB, lk, lkH, Dst.onT, Dst.onX, Dst.slot, setF, setH, mapF, mapH, initF, binE, unE, cnt, boundE, newsE, freshE, opE, rmH, blkQ, frz_us, Nat.reduceEqDiff, Nat.reduceLT, Nat.reduceAdd, ↓reduceIte, reduceCtorEq, Nat.reduceLeDiff, us_length, d0] | (refine callC_nz 1 (cf) rfl ?_) | (refine callC_pure (awake_calls) rfl ?_) | exact W_ret (RetP_1 (.imm rfl)))
      refine W_cond rfl (fun h => by cases h) (fun _ => W_skip ?_)
      obtain ⟨h1, h2, h3, va, vb, vc⟩ := fairB_spec hf
      clear hf cf d0
      obtain ⟨x, rfl⟩ := ex_limbs la va
      obtain ⟨y, rfl⟩ := ex_limbs lb vb
      have hy : 0 < y := by
        rcases Nat.eq_zero_or_pos y with e | e
        · subst e; rw [limbs_zero] at h0; simp at h0
        · exact e
      have hm := Nat.mod_lt x hy
      have cd := nDivL x y (by omega) (by omega)
      rw [dmod_pos hy, decide_eq_true hy] at cd
      have l1 := len_mono (Nat.div_le_self x y)
      have l2 := len_mono (Nat.le_of_lt hm)
      have l3 := len_mono (Nat.div_mul_le_self x y)
      have cc := nCmpL (x % y) y (by omega) (by omega)
      rw [show cmpN (x % y) y = -1 by unfold cmpN; rw [if_pos hm]] at cc
      have hs := Nat.div_add_mod' x y
      have ss := sameL (x / y * y + x % y) x hs (by rw [hs]; omega)
      clear hm hs va vb vc h0
      repeat (first | (refine W_seq ?_) | (refine W_reg ?_) | (refine W_regd ?_) | (refine W_block ?_) | (refine And.intro (by omega) ?_) | simp (config := {maxSteps := 1000000}) (disch := omega) only [cA, cB, lk, lkH, Dst.onT, Dst.onX, Dst.slot, setF, setH, mapF, mapH, initF, binE, unE, cnt, boundE, newsE, freshE, opE, rmH, blkQ, frz_us, Nat.reduceEqDiff, Nat.reduceLT, Nat.reduceAdd, ↓reduceIte, reduceCtorEq, Nat.reduceLeDiff, Int.reduceLT, decide_true] | (refine callC_pure (cd) rfl ?_) | (refine callC_pure (awake_calls) rfl ?_) | (refine callC_pure (nValidL (x / y) (by omega)) rfl ?_) | (refine callC_pure (cc) rfl ?_) | (refine callC_pure (nMulL (x / y) y (by omega) (by omega)) rfl ?_) | (refine callC_pure (nAddL (x / y * y) (x % y) (by omega) (by omega)) rfl ?_) | (refine callC_pure (ss) rfl ?_) | exact W_ret (RetP_1 (.imm rfl)))
  · have cf := fair_calls a b []
    rw [show fairB a b [] = false by simpa using hf] at cf
    repeat (first | (refine W_seq ?_) | (refine W_reg ?_) | (refine W_regd ?_) | (refine W_block ?_) | (refine And.intro (by omega) ?_) | simp (config := {maxSteps := 1000000}) (disch := omega) only [cA, cB, lk, lkH, Dst.onT, Dst.onX, Dst.slot, setF, setH, mapF, mapH, initF, binE, unE, cnt, boundE, newsE, freshE, opE, rmH, blkQ, frz_us, Nat.reduceEqDiff, Nat.reduceLT, Nat.reduceAdd, ↓reduceIte, reduceCtorEq, Nat.reduceLeDiff, us_length] | (refine callC_nz 1 (cf) rfl ?_) | (refine callC_pure (awake_calls) rfl ?_) | exact W_ret (RetP_1 (.imm rfl)))
    refine W_cond rfl (fun _ => ?_) (fun h => by cases h)
    repeat (first | (refine W_seq ?_) | (refine W_reg ?_) | (refine W_regd ?_) | (refine W_block ?_) | (refine And.intro (by omega) ?_) | simp (config := {maxSteps := 1000000}) (disch := omega) only [cA, cB, lk, lkH, Dst.onT, Dst.onX, Dst.slot, setF, setH, mapF, mapH, initF, binE, unE, cnt, boundE, newsE, freshE, opE, rmH, blkQ, frz_us, Nat.reduceEqDiff, Nat.reduceLT, Nat.reduceAdd, ↓reduceIte, reduceCtorEq, Nat.reduceLeDiff] | (refine callC_pure (awake_calls) rfl ?_) | exact W_ret (RetP_1 (.imm rfl)))

theorem light_true {a : List Nat} (h : a.length ≤ 12) : PCalls Try.prog 12 [.sl 1 (us a)] (.bool true) := by
  have := light_calls a
  rwa [decide_eq_true h] at this
theorem light_false {a : List Nat} (h : ¬ a.length ≤ 12) : PCalls Try.prog 12 [.sl 1 (us a)] (.bool false) := by
  have := light_calls a
  rwa [decide_eq_false h] at this
theorem lwDiv_calls (a b : List Nat) (la : lim a) (lb : lim b) : PCalls Try.prog 9 [.sl 1 (us a), .sl 1 (us b)] (.bool true) := by
  refine PCalls_of islwDiv (by simp [fnlwDiv]) ?_
  unfold codelwDiv
  by_cases h1 : a.length ≤ 12
  · by_cases h2 : b.length ≤ 12
    · repeat (first | (refine W_seq ?_) | (refine W_reg ?_) | (refine W_regd ?_) | (refine W_block ?_) | (refine And.intro (by omega) ?_) | simp (config := {maxSteps := 1000000}) (disch := omega) only [cA, cB, lk, lkH, Dst.onT, Dst.onX, Dst.slot, setF, setH, mapF, mapH, initF, binE, unE, cnt, boundE, newsE, freshE, opE, rmH, blkQ, frz_us, Nat.reduceEqDiff, Nat.reduceLT, Nat.reduceAdd, ↓reduceIte, reduceCtorEq, Nat.reduceLeDiff] | (refine callC_pure (light_true h1) rfl ?_) | (refine callC_pure (light_true h2) rfl ?_) | exact W_ret (RetP_1 (.imm rfl)))
      refine W_cond rfl (fun h => by cases h) (fun _ => W_skip ?_)
      have l1 := vn_len la
      have l2 := vn_len lb
      have lq := len_mono (Nat.div_le_self (vn a) (vn b))
      have lr : (limbs (dmod (vn a) (vn b))).length ≤ (limbs (vn a)).length := by
        unfold dmod
        split
        · rw [limbs_zero]; simp
        · exact len_mono (Nat.mod_le _ _)
      have lg := gcd_le (show (limbs (vn a)).length ≤ 12 by omega) (show (limbs (vn b)).length ≤ 12 by omega)
      repeat (first | (refine W_seq ?_) | (refine W_reg ?_) | (refine W_regd ?_) | (refine W_block ?_) | (refine And.intro (by omega) ?_) | simp (config := {maxSteps := 1000000}) (disch := omega) only [cA, cB, lk, lkH, Dst.onT, Dst.onX, Dst.slot, setF, setH, mapF, mapH, initF, binE, unE, cnt, boundE, newsE, freshE, opE, rmH, blkQ, frz_us, Nat.reduceEqDiff, Nat.reduceLT, Nat.reduceAdd, ↓reduceIte, reduceCtorEq, Nat.reduceLeDiff, beq_self_b] | (refine callC_pure (nDiv_calls a b (by omega) (by omega) la lb) rfl ?_) | (refine callC_pure (rDiv_calls a b (by omega) (by omega) la lb) rfl ?_) | (refine callC_pure (awake_calls) rfl ?_) | (refine callC_pure (sameL (vn a / vn b) (vn a / vn b) rfl (by omega)) rfl ?_) | (refine callC_pure (sameL (dmod (vn a) (vn b)) (dmod (vn a) (vn b)) rfl (by omega)) rfl ?_) | (refine callC_pure (nGcd_calls a b (by omega) (by omega) la lb) rfl ?_) | (refine callC_pure (rGcd_calls a b (by omega) (by omega) la lb) rfl ?_) | (refine callC_pure (sameL (Nat.gcd (vn a) (vn b)) (Nat.gcd (vn a) (vn b)) rfl (by omega)) rfl ?_) | exact W_ret (RetP_1 (.imm rfl)))
    · repeat (first | (refine W_seq ?_) | (refine W_reg ?_) | (refine W_regd ?_) | (refine W_block ?_) | (refine And.intro (by omega) ?_) | simp (config := {maxSteps := 1000000}) (disch := omega) only [cA, cB, lk, lkH, Dst.onT, Dst.onX, Dst.slot, setF, setH, mapF, mapH, initF, binE, unE, cnt, boundE, newsE, freshE, opE, rmH, blkQ, frz_us, Nat.reduceEqDiff, Nat.reduceLT, Nat.reduceAdd, ↓reduceIte, reduceCtorEq, Nat.reduceLeDiff] | (refine callC_pure (light_true h1) rfl ?_) | (refine callC_pure (light_false h2) rfl ?_) | exact W_ret (RetP_1 (.imm rfl)))
      refine W_cond rfl (fun _ => ?_) (fun h => by cases h)
      repeat (first | (refine W_seq ?_) | (refine W_reg ?_) | (refine W_regd ?_) | (refine W_block ?_) | (refine And.intro (by omega) ?_) | simp (config := {maxSteps := 1000000}) (disch := omega) only [cA, cB, lk, lkH, Dst.onT, Dst.onX, Dst.slot, setF, setH, mapF, mapH, initF, binE, unE, cnt, boundE, newsE, freshE, opE, rmH, blkQ, frz_us, Nat.reduceEqDiff, Nat.reduceLT, Nat.reduceAdd, ↓reduceIte, reduceCtorEq, Nat.reduceLeDiff] | (refine callC_pure (awake_calls) rfl ?_) | exact W_ret (RetP_1 (.imm rfl)))
  · repeat (first | (refine W_seq ?_) | (refine W_reg ?_) | (refine W_regd ?_) | (refine W_block ?_) | (refine And.intro (by omega) ?_) | simp (config := {maxSteps := 1000000}) (disch := omega) only [cA, cB, lk, lkH, Dst.onT, Dst.onX, Dst.slot, setF, setH, mapF, mapH, initF, binE, unE, cnt, boundE, newsE, freshE, opE, rmH, blkQ, frz_us, Nat.reduceEqDiff, Nat.reduceLT, Nat.reduceAdd, ↓reduceIte, reduceCtorEq, Nat.reduceLeDiff] | (refine callC_pure (light_false h1) rfl ?_) | exact W_ret (RetP_1 (.imm rfl)))
    refine W_cond rfl (fun _ => ?_) (fun h => by cases h)
    repeat (first | (refine W_seq ?_) | (refine W_reg ?_) | (refine W_regd ?_) | (refine W_block ?_) | (refine And.intro (by omega) ?_) | simp (config := {maxSteps := 1000000}) (disch := omega) only [cA, cB, lk, lkH, Dst.onT, Dst.onX, Dst.slot, setF, setH, mapF, mapH, initF, binE, unE, cnt, boundE, newsE, freshE, opE, rmH, blkQ, frz_us, Nat.reduceEqDiff, Nat.reduceLT, Nat.reduceAdd, ↓reduceIte, reduceCtorEq, Nat.reduceLeDiff] | (refine callC_pure (awake_calls) rfl ?_) | exact W_ret (RetP_1 (.imm rfl)))

theorem lwGcd_calls (a b c : List Nat) (la : lim a) (lb : lim b) (lc : lim c) : PCalls Try.prog 11 [.sl 1 (us a), .sl 1 (us b), .sl 1 (us c)] (.bool true) := by
  refine PCalls_of islwGcd (by simp [fnlwGcd]) ?_
  unfold codelwGcd
  have cf := fair_calls a b c
  by_cases hf : fairB a b c = true
  · rw [hf] at cf
    by_cases h6 : 6 < a.length
    · have d6 : decide ((6 : Int) < a.length) = true := decide_eq_true (by omega)
      repeat (first | (refine W_seq ?_) | (refine W_reg ?_) | (refine W_regd ?_) | (refine W_block ?_) | (refine And.intro (by omega) ?_) | simp (config := {maxSteps := 1000000}) (disch := omega) only [cA, cB, lk, lkH, Dst.onT, Dst.onX, Dst.slot, setF, setH, mapF, mapH, initF, binE, unE, cnt, boundE, newsE, freshE, opE, rmH, blkQ, frz_us, Nat.reduceEqDiff, Nat.reduceLT, Nat.reduceAdd, ↓reduceIte, reduceCtorEq, Nat.reduceLeDiff, us_length, d6] | (refine callC_pure (cf) rfl ?_) | (refine callC_pure (awake_calls) rfl ?_) | exact W_ret (RetP_1 (.imm rfl)))
      refine W_cond rfl (fun _ => ?_) (fun h => by cases h)
      repeat (first | (refine W_seq ?_) | (refine W_reg ?_) | (refine W_regd ?_) | (refine W_block ?_) | (refine And.intro (by omega) ?_) | simp (config := {maxSteps := 1000000}) (disch := omega) only [cA, cB, lk, lkH, Dst.onT, Dst.onX, Dst.slot, setF, setH, mapF, mapH, initF, binE, unE, cnt, boundE, newsE, freshE, opE, rmH, blkQ, frz_us, Nat.reduceEqDiff, Nat.reduceLT, Nat.reduceAdd, ↓reduceIte, reduceCtorEq, Nat.reduceLeDiff] | (refine callC_pure (awake_calls) rfl ?_) | exact W_ret (RetP_1 (.imm rfl)))
    · have d6 : decide ((6 : Int) < a.length) = false := decide_eq_false (by omega)
      by_cases h7 : 6 < b.length
      · have d7 : decide ((6 : Int) < b.length) = true := decide_eq_true (by omega)
        repeat (first | (refine W_seq ?_) | (refine W_reg ?_) | (refine W_regd ?_) | (refine W_block ?_) | (refine And.intro (by omega) ?_) | simp (config := {maxSteps := 1000000}) (disch := omega) only [cA, cB, lk, lkH, Dst.onT, Dst.onX, Dst.slot, setF, setH, mapF, mapH, initF, binE, unE, cnt, boundE, newsE, freshE, opE, rmH, blkQ, frz_us, Nat.reduceEqDiff, Nat.reduceLT, Nat.reduceAdd, ↓reduceIte, reduceCtorEq, Nat.reduceLeDiff, us_length, d6, d7] | (refine callC_pure (cf) rfl ?_) | (refine callC_pure (awake_calls) rfl ?_) | exact W_ret (RetP_1 (.imm rfl)))
        refine W_cond rfl (fun _ => ?_) (fun h => by cases h)
        repeat (first | (refine W_seq ?_) | (refine W_reg ?_) | (refine W_regd ?_) | (refine W_block ?_) | (refine And.intro (by omega) ?_) | simp (config := {maxSteps := 1000000}) (disch := omega) only [cA, cB, lk, lkH, Dst.onT, Dst.onX, Dst.slot, setF, setH, mapF, mapH, initF, binE, unE, cnt, boundE, newsE, freshE, opE, rmH, blkQ, frz_us, Nat.reduceEqDiff, Nat.reduceLT, Nat.reduceAdd, ↓reduceIte, reduceCtorEq, Nat.reduceLeDiff] | (refine callC_pure (awake_calls) rfl ?_) | exact W_ret (RetP_1 (.imm rfl)))
      · have d7 : decide ((6 : Int) < b.length) = false := decide_eq_false (by omega)
        by_cases h8 : 3 < c.length
        · have d8 : decide ((3 : Int) < c.length) = true := decide_eq_true (by omega)
          repeat (first | (refine W_seq ?_) | (refine W_reg ?_) | (refine W_regd ?_) | (refine W_block ?_) | (refine And.intro (by omega) ?_) | simp (config := {maxSteps := 1000000}) (disch := omega) only [cA, cB, lk, lkH, Dst.onT, Dst.onX, Dst.slot, setF, setH, mapF, mapH, initF, binE, unE, cnt, boundE, newsE, freshE, opE, rmH, blkQ, frz_us, Nat.reduceEqDiff, Nat.reduceLT, Nat.reduceAdd, ↓reduceIte, reduceCtorEq, Nat.reduceLeDiff, us_length, d6, d7, d8] | (refine callC_pure (cf) rfl ?_) | (refine callC_pure (awake_calls) rfl ?_) | exact W_ret (RetP_1 (.imm rfl)))
          refine W_cond rfl (fun _ => ?_) (fun h => by cases h)
          repeat (first | (refine W_seq ?_) | (refine W_reg ?_) | (refine W_regd ?_) | (refine W_block ?_) | (refine And.intro (by omega) ?_) | simp (config := {maxSteps := 1000000}) (disch := omega) only [cA, cB, lk, lkH, Dst.onT, Dst.onX, Dst.slot, setF, setH, mapF, mapH, initF, binE, unE, cnt, boundE, newsE, freshE, opE, rmH, blkQ, frz_us, Nat.reduceEqDiff, Nat.reduceLT, Nat.reduceAdd, ↓reduceIte, reduceCtorEq, Nat.reduceLeDiff] | (refine callC_pure (awake_calls) rfl ?_) | exact W_ret (RetP_1 (.imm rfl)))
        · have d8 : decide ((3 : Int) < c.length) = false := decide_eq_false (by omega)
          by_cases h9 : a.length = 0
          · have d9 : decide ((a.length : Int) = 0) = true := decide_eq_true (by omega)
            repeat (first | (refine W_seq ?_) | (refine W_reg ?_) | (refine W_regd ?_) | (refine W_block ?_) | (refine And.intro (by omega) ?_) | simp (config := {maxSteps := 1000000}) (disch := omega) only [cA, cB, lk, lkH, Dst.onT, Dst.onX, Dst.slot, setF, setH, mapF, mapH, initF, binE, unE, cnt, boundE, newsE, freshE, opE, rmH, blkQ, frz_us, Nat.reduceEqDiff, Nat.reduceLT, Nat.reduceAdd, ↓reduceIte, reduceCtorEq, Nat.reduceLeDiff, us_length, d6, d7, d8, d9] | (refine callC_pure (cf) rfl ?_) | (refine callC_pure (awake_calls) rfl ?_) | exact W_ret (RetP_1 (.imm rfl)))
            refine W_cond rfl (fun _ => ?_) (fun h => by cases h)
            repeat (first | (refine W_seq ?_) | (refine W_reg ?_) | (refine W_regd ?_) | (refine W_block ?_) | (refine And.intro (by omega) ?_) | simp (config := {maxSteps := 1000000}) (disch := omega) only [cA, cB, lk, lkH, Dst.onT, Dst.onX, Dst.slot, setF, setH, mapF, mapH, initF, binE, unE, cnt, boundE, newsE, freshE, opE, rmH, blkQ, frz_us, Nat.reduceEqDiff, Nat.reduceLT, Nat.reduceAdd, ↓reduceIte, reduceCtorEq, Nat.reduceLeDiff] | (refine callC_pure (awake_calls) rfl ?_) | exact W_ret (RetP_1 (.imm rfl)))
          · have d9 : decide ((a.length : Int) = 0) = false := decide_eq_false (by omega)
            repeat (first | (refine W_seq ?_) | (refine W_reg ?_) | (refine W_regd ?_) | (refine W_block ?_) | (refine And.intro (by omega) ?_) | simp (config := {maxSteps := 1000000}) (disch := omega) only [cA, cB, lk, lkH, Dst.onT, Dst.onX, Dst.slot, setF, setH, mapF, mapH, initF, binE, unE, cnt, boundE, newsE, freshE, opE, rmH, blkQ, frz_us, Nat.reduceEqDiff, Nat.reduceLT, Nat.reduceAdd, ↓reduceIte, reduceCtorEq, Nat.reduceLeDiff, us_length, d6, d7, d8, d9] | (refine callC_pure (cf) rfl ?_) | (refine callC_pure (awake_calls) rfl ?_) | exact W_ret (RetP_1 (.imm rfl)))
            refine W_cond rfl (fun h => by cases h) (fun _ => W_skip ?_)
            obtain ⟨h1, h2, h3, va, vb, vc⟩ := fairB_spec hf
            clear hf cf d6 d7 d8 d9
            obtain ⟨x, rfl⟩ := ex_limbs la va
            obtain ⟨y, rfl⟩ := ex_limbs lb vb
            obtain ⟨z, rfl⟩ := ex_limbs lc vc
            have hx : 0 < x := by
              rcases Nat.eq_zero_or_pos x with e | e
              · subst e; rw [limbs_zero] at h9; simp at h9
              · exact e
            have hg : 0 < Nat.gcd x y := Nat.gcd_pos_of_pos_left y hx
            have lg := gcd_le (show (limbs x).length ≤ 6 by omega) (show (limbs y).length ≤ 6 by omega)
            have r1 : dmod x (Nat.gcd x y) = 0 := by rw [dmod_pos hg]; exact Nat.mod_eq_zero_of_dvd (Nat.gcd_dvd_left x y)
            have r2 : dmod y (Nat.gcd x y) = 0 := by rw [dmod_pos hg]; exact Nat.mod_eq_zero_of_dvd (Nat.gcd_dvd_right x y)
            have cd1 := nDivL x (Nat.gcd x y) (by omega) (by omega)
            have cd2 := nDivL y (Nat.gcd x y) (by omega) (by omega)
            rw [r1, usnilL, decide_eq_true hg] at cd1
            rw [r2, usnilL, decide_eq_true hg] at cd2
            have lp := len_mono (Nat.div_le_self x (Nat.gcd x y))
            have lq := len_mono (Nat.div_le_self y (Nat.gcd x y))
            have cg1 := nGcdL (x / Nat.gcd x y) (y / Nat.gcd x y) (by omega) (by omega)
            rw [Nat.gcd_div_gcd_div_gcd_of_pos_left hx] at cg1
            have m1 := len_mul (show (limbs x).length ≤ 6 by omega) (show (limbs z).length ≤ 3 by omega)
            have m2 := len_mul (show (limbs y).length ≤ 6 by omega) (show (limbs z).length ≤ 3 by omega)
            have m3 := len_mul lg (show (limbs z).length ≤ 3 by omega)
            have cg2 := nGcdL (x * z) (y * z) (by omega) (by omega)
            rw [Nat.gcd_mul_right] at cg2
            have s1 := sameL 1 1 rfl (by rw [limbs1]; decide)
            have cg0 := nGcdL x y (by omega) (by omega)
            have mm1 := nMulL x z (by omega) (by omega)
            have mm2 := nMulL y z (by omega) (by omega)
            have mm3 := nMulL (Nat.gcd x y) z (by omega) (by omega)
            have s2 := sameL (Nat.gcd x y * z) (Nat.gcd x y * z) rfl (by omega)
            clear h9 h6 h7 h8 va vb vc r1 r2 hg
            have dz : decide (((0 : Nat) : Int) = 0) = true := rfl
            repeat (first | (refine W_seq ?_) | (refine W_reg ?_) | (refine W_regd ?_) | (refine W_block ?_) | (refine And.intro (by omega) ?_) | simp (config := {maxSteps := 1000000}) (disch := omega) only [cA, cB, lk, lkH, Dst.onT, Dst.onX, Dst.slot, setF, setH, mapF, mapH, initF, binE, unE, cnt, boundE, newsE, freshE, opE, rmH, blkQ, frz_us, Nat.reduceEqDiff, Nat.reduceLT, Nat.reduceAdd, ↓reduceIte, reduceCtorEq, Nat.reduceLeDiff, dz, us_rfd, us1L] | (refine callC_pure (cg0) rfl ?_) | (refine callC_pure (cd1) rfl ?_) | (refine callC_pure (cd2) rfl ?_) | (refine callC_pure (awake_calls) rfl ?_) | (refine callC_pure (cg1) rfl ?_) | (refine callC_pure (s1) rfl ?_) | (refine callC_pure (mm1) rfl ?_) | (refine callC_pure (mm2) rfl ?_) | (refine callC_pure (cg2) rfl ?_) | (refine callC_pure (mm3) rfl ?_) | (refine callC_pure (s2) rfl ?_) | exact W_ret (RetP_1 (.imm rfl)))
  · rw [show fairB a b c = false by simpa using hf] at cf
    repeat (first | (refine W_seq ?_) | (refine W_reg ?_) | (refine W_regd ?_) | (refine W_block ?_) | (refine And.intro (by omega) ?_) | simp (config := {maxSteps := 1000000}) (disch := omega) only [cA, cB, lk, lkH, Dst.onT, Dst.onX, Dst.slot, setF, setH, mapF, mapH, initF, binE, unE, cnt, boundE, newsE, freshE, opE, rmH, blkQ, frz_us, Nat.reduceEqDiff, Nat.reduceLT, Nat.reduceAdd, ↓reduceIte, reduceCtorEq, Nat.reduceLeDiff, us_length] | (refine callC_pure (cf) rfl ?_) | (refine callC_pure (awake_calls) rfl ?_) | exact W_ret (RetP_1 (.imm rfl)))
    refine W_cond rfl (fun _ => ?_) (fun h => by cases h)
    repeat (first | (refine W_seq ?_) | (refine W_reg ?_) | (refine W_regd ?_) | (refine W_block ?_) | (refine And.intro (by omega) ?_) | simp (config := {maxSteps := 1000000}) (disch := omega) only [cA, cB, lk, lkH, Dst.onT, Dst.onX, Dst.slot, setF, setH, mapF, mapH, initF, binE, unE, cnt, boundE, newsE, freshE, opE, rmH, blkQ, frz_us, Nat.reduceEqDiff, Nat.reduceLT, Nat.reduceAdd, ↓reduceIte, reduceCtorEq, Nat.reduceLeDiff] | (refine callC_pure (awake_calls) rfl ?_) | exact W_ret (RetP_1 (.imm rfl)))
end Go.Proofs.Ytecilkmigjbfoaa
namespace Go.Proofs.Ytecilkmigjbfoaa
open Go Go.Dat Go.Proofs Nat32

theorem nRootL (p : Nat) (h1 : (limbs p).length ≤ 10000) : PCalls Try.prog 27 [.sl 1 (us (limbs p))] (.sl 1 (us (limbs (isq p)))) := by
  have := nRoot_calls (limbs p) h1 (lim_limbs _)
  rwa [vn_limbs] at this
theorem lwRoot_calls (a : List Nat) (la : lim a) : PCalls Try.prog 6 [.sl 1 (us a)] (.bool true) := by
  refine PCalls_of islwRoot (by simp [fnlwRoot]) ?_
  unfold codelwRoot
  by_cases h1 : a.length ≤ 12
  · have cv := rValid_calls a (by omega)
    by_cases va : vld a = true
    · rw [va] at cv
      repeat (first | (refine W_seq ?_) | (refine W_reg ?_) | (refine W_regd ?_) | (refine W_block ?_) | (refine And.intro (by omega) ?_) | simp (config := {maxSteps := 1000000}) (disch := omega) only [cA, cB, lk, lkH, Dst.onT, Dst.onX, Dst.slot, setF, setH, mapF, mapH, initF, binE, unE, cnt, boundE, newsE, freshE, opE, rmH, blkQ, frz_us, Nat.reduceEqDiff, Nat.reduceLT, Nat.reduceAdd, ↓reduceIte, reduceCtorEq, Nat.reduceLeDiff] | (refine callC_pure (light_true h1) rfl ?_) | (refine callC_pure (cv) rfl ?_) | exact W_ret (RetP_1 (.imm rfl)))
      refine W_cond rfl (fun h => by cases h) (fun _ => W_skip ?_)
      clear cv
      obtain ⟨x, rfl⟩ := ex_limbs la va
      obtain ⟨s1, s2⟩ := isq_spec x
      have ls := len_mono (isq_le x)
      have o1 : (limbs 1).length ≤ 1 := by rw [limbs1]; simp
      have l1 := len_add (show (limbs (isq x)).length ≤ 12 by omega) (show (limbs 1).length ≤ 12 by omega)
      have m1 := len_mul (show (limbs (isq x)).length ≤ 12 by omega) (show (limbs (isq x)).length ≤ 12 by omega)
      have m2 := len_mul l1 l1
      have m3 := len_mul h1 h1
      have r0 := nRootL x (by omega)
      have a1 := nAddL (isq x) 1 (by omega) (by omega)
      have p1 := nMulL (isq x) (isq x) (by omega) (by omega)
      have p2 := nMulL (isq x + 1) (isq x + 1) (by omega) (by omega)
      have p3 := nMulL x x (by omega) (by omega)
      have q1 := nCmpL (isq x * isq x) x (by omega) (by omega)
      have q2 := nCmpL ((isq x + 1) * (isq x + 1)) x (by omega) (by omega)
      have r1 := nRootL (x * x) (by omega)
      rw [isq_sq] at r1
      have ss := sameL x x rfl (by omega)
      have d1 : decide (cmpN (isq x * isq x) x ≤ 0) = true := by rw [cmp_le0]; exact decide_eq_true s1
      have d2 : decide (0 < cmpN ((isq x + 1) * (isq x + 1)) x) = true := decide_eq_true (by unfold cmpN; rw [if_neg (by omega), if_pos s2]; decide)
      clear s1 s2 va la m1 m2 m3 l1 o1
      (replace d1 := Hid.mk d1; replace d2 := Hid.mk d2)
      repeat (first | (refine W_seq ?_) | (refine W_reg ?_) | (refine W_regd ?_) | (refine W_block ?_) | (refine And.intro (by omega) ?_) | simp (config := {maxSteps := 1000000}) (disch := omega) only [cA, cB, lk, lkH, Dst.onT, Dst.onX, Dst.slot, setF, setH, mapF, mapH, initF, binE, unE, cnt, boundE, newsE, freshE, opE, rmH, blkQ, frz_us, Nat.reduceEqDiff, Nat.reduceLT, Nat.reduceAdd, ↓reduceIte, reduceCtorEq, Nat.reduceLeDiff, us_rfd, us1L, d1.out, d2.out] | (refine callC_pure (r0) rfl ?_) | (refine callC_pure (a1) rfl ?_) | (refine callC_pure (awake_calls) rfl ?_) | (refine callC_pure (p1) rfl ?_) | (refine callC_pure (q1) rfl ?_) | (refine callC_pure (p2) rfl ?_) | (refine callC_pure (q2) rfl ?_) | (refine callC_pure (p3) rfl ?_) | (refine callC_pure (r1) rfl ?_) | (refine callC_pure (ss) rfl ?_) | exact W_ret (RetP_1 (.imm rfl)))
    · rw [show vld a = false by simpa using va] at cv
      repeat (first | (refine W_seq ?_) | (refine W_reg ?_) | (refine W_regd ?_) | (refine W_block ?_) | (refine And.intro (by omega) ?_) | simp (config := {maxSteps := 1000000}) (disch := omega) only [cA, cB, lk, lkH, Dst.onT, Dst.onX, Dst.slot, setF, setH, mapF, mapH, initF, binE, unE, cnt, boundE, newsE, freshE, opE, rmH, blkQ, frz_us, Nat.reduceEqDiff, Nat.reduceLT, Nat.reduceAdd, ↓reduceIte, reduceCtorEq, Nat.reduceLeDiff] | (refine callC_pure (light_true h1) rfl ?_) | (refine callC_pure (cv) rfl ?_) | exact W_ret (RetP_1 (.imm rfl)))
      refine W_cond rfl (fun _ => ?_) (fun h => by cases h)
      repeat (first | (refine W_seq ?_) | (refine W_reg ?_) | (refine W_regd ?_) | (refine W_block ?_) | (refine And.intro (by omega) ?_) | simp (config := {maxSteps := 1000000}) (disch := omega) only [cA, cB, lk, lkH, Dst.onT, Dst.onX, Dst.slot, setF, setH, mapF, mapH, initF, binE, unE, cnt, boundE, newsE, freshE, opE, rmH, blkQ, frz_us, Nat.reduceEqDiff, Nat.reduceLT, Nat.reduceAdd, ↓reduceIte, reduceCtorEq, Nat.reduceLeDiff] | (refine callC_pure (awake_calls) rfl ?_) | exact W_ret (RetP_1 (.imm rfl)))
  · repeat (first | (refine W_seq ?_) | (refine W_reg ?_) | (refine W_regd ?_) | (refine W_block ?_) | (refine And.intro (by omega) ?_) | simp (config := {maxSteps := 1000000}) (disch := omega) only [cA, cB, lk, lkH, Dst.onT, Dst.onX, Dst.slot, setF, setH, mapF, mapH, initF, binE, unE, cnt, boundE, newsE, freshE, opE, rmH, blkQ, frz_us, Nat.reduceEqDiff, Nat.reduceLT, Nat.reduceAdd, ↓reduceIte, reduceCtorEq, Nat.reduceLeDiff] | (refine callC_pure (light_false h1) rfl ?_) | exact W_ret (RetP_1 (.imm rfl)))
    refine W_cond rfl (fun _ => ?_) (fun h => by cases h)
    repeat (first | (refine W_seq ?_) | (refine W_reg ?_) | (refine W_regd ?_) | (refine W_block ?_) | (refine And.intro (by omega) ?_) | simp (config := {maxSteps := 1000000}) (disch := omega) only [cA, cB, lk, lkH, Dst.onT, Dst.onX, Dst.slot, setF, setH, mapF, mapH, initF, binE, unE, cnt, boundE, newsE, freshE, opE, rmH, blkQ, frz_us, Nat.reduceEqDiff, Nat.reduceLT, Nat.reduceAdd, ↓reduceIte, reduceCtorEq, Nat.reduceLeDiff] | (refine callC_pure (awake_calls) rfl ?_) | exact W_ret (RetP_1 (.imm rfl)))

theorem lwPow_calls (a : List Nat) (k : Int) (la : lim a) : PCalls Try.prog 8 [.sl 1 (us a), .int .i64 k] (.bool true) := by
  refine PCalls_of islwPow (by simp [fnlwPow]) ?_
  unfold codelwPow
  by_cases h1 : 6 < a.length
  · have d1 : decide ((6 : Int) < a.length) = true := decide_eq_true (by omega)
    repeat (first | (refine W_seq ?_) | (refine W_reg ?_) | (refine W_regd ?_) | (refine W_block ?_) | (refine And.intro (by omega) ?_) | simp (config := {maxSteps := 1000000}) (disch := omega) only [cA, cB, lk, lkH, Dst.onT, Dst.onX, Dst.slot, setF, setH, mapF, mapH, initF, binE, unE, cnt, boundE, newsE, freshE, opE, rmH, blkQ, frz_us, Nat.reduceEqDiff, Nat.reduceLT, Nat.reduceAdd, ↓reduceIte, reduceCtorEq, Nat.reduceLeDiff, us_length, d1] | (refine callC_pure (awake_calls) rfl ?_) | exact W_ret (RetP_1 (.imm rfl)))
    refine W_cond rfl (fun _ => ?_) (fun h => by cases h)
    repeat (first | (refine W_seq ?_) | (refine W_reg ?_) | (refine W_regd ?_) | (refine W_block ?_) | (refine And.intro (by omega) ?_) | simp (config := {maxSteps := 1000000}) (disch := omega) only [cA, cB, lk, lkH, Dst.onT, Dst.onX, Dst.slot, setF, setH, mapF, mapH, initF, binE, unE, cnt, boundE, newsE, freshE, opE, rmH, blkQ, frz_us, Nat.reduceEqDiff, Nat.reduceLT, Nat.reduceAdd, ↓reduceIte, reduceCtorEq, Nat.reduceLeDiff] | (refine callC_pure (awake_calls) rfl ?_) | exact W_ret (RetP_1 (.imm rfl)))
  · have d1 : decide ((6 : Int) < a.length) = false := decide_eq_false (by omega)
    repeat (first | (refine W_seq ?_) | (refine W_reg ?_) | (refine W_regd ?_) | (refine W_block ?_) | (refine And.intro (by omega) ?_) | simp (config := {maxSteps := 1000000}) (disch := omega) only [cA, cB, lk, lkH, Dst.onT, Dst.onX, Dst.slot, setF, setH, mapF, mapH, initF, binE, unE, cnt, boundE, newsE, freshE, opE, rmH, blkQ, frz_us, Nat.reduceEqDiff, Nat.reduceLT, Nat.reduceAdd, ↓reduceIte, reduceCtorEq, Nat.reduceLeDiff, us_length, d1] | (refine callC_pure (awake_calls) rfl ?_) | exact W_ret (RetP_1 (.imm rfl)))
    refine W_cond rfl (fun h => by cases h) (fun _ => W_skip ?_)
    have l1 := vn_len la
    have ls := len_mono (isq_le (vn a))
    have lp : (limbs (pw (vn a) k)).length ≤ 1000 := by
      unfold pw
      split
      · rw [limbs_zero]; simp
      · have := len_pow (show (limbs (vn a)).length ≤ 6 by omega) k.toNat
        omega
    repeat (first | (refine W_seq ?_) | (refine W_reg ?_) | (refine W_regd ?_) | (refine W_block ?_) | (refine And.intro (by omega) ?_) | simp (config := {maxSteps := 1000000}) (disch := omega) only [cA, cB, lk, lkH, Dst.onT, Dst.onX, Dst.slot, setF, setH, mapF, mapH, initF, binE, unE, cnt, boundE, newsE, freshE, opE, rmH, blkQ, frz_us, Nat.reduceEqDiff, Nat.reduceLT, Nat.reduceAdd, ↓reduceIte, reduceCtorEq, Nat.reduceLeDiff] | (refine callC_pure (awake_calls) rfl ?_) | (refine callC_pure (nRoot_calls a (by omega) la) rfl ?_) | (refine callC_pure (rRoot_calls a (by omega) la) rfl ?_) | (refine callC_pure (sameL (isq (vn a)) (isq (vn a)) rfl (by omega)) rfl ?_) | (refine callC_pure (nPower_calls a k (by omega) la) rfl ?_) | (refine callC_pure (rPower_calls a k (by omega) la) rfl ?_) | (refine callC_pure (sameL (pw (vn a) k) (pw (vn a) k) rfl (by omega)) rfl ?_) | exact W_ret (RetP_1 (.imm rfl)))
end Go.Proofs.Ytecilkmigjbfoaa
