/- Lemmas of the walk; no conditions beyond those that each states. -/
import Derived.Test.YteiagmmfapbaiaaGreatDoorProg
import Derived.KernelRfl
import Derived.Test.YteiagmmfapbaiaaGreatDoorT2
import Derived.Test.YteiagmmfapbaiaaGreatDoorT4
import Derived.Test.YteiagmmfapbaiaaGreatDoorN1
set_option linter.unusedSimpArgs false
set_option linter.unusedVariables false
set_option linter.unnecessarySimpa false
namespace Go.Proofs.YteiagmmfapbaiaaGreatDoor
open Go Go.Dat Go.Proofs
noncomputable def fnlqRationalDecimalIsNear : FnD := ⟨Tryz.prog, [0, 1, 2, 4, 5, 6, 7, 8, 9, 17, 30, 38], [], 69, 0, false⟩
def codelqRationalDecimalIsNear : DC := (.seq (.reg [⟨(.x 2), .box (.x 0), none⟩,⟨(.x 4), .mv (.c (.bool false)), none⟩]) (.seq (.seq (.reg [⟨(.t 10), .ldn 3 (.x 2), none⟩,⟨(.t 11), .call 17 [(.t 10)], none⟩,⟨(.t 12), .un .not (.t 11), none⟩,⟨(.t 13), .mv (.t 12), none⟩,⟨(.t 14), .ldn 3 (.x 2), (some ((.t 13), false))⟩,⟨(.t 15), .call 30 [(.t 14)], (some ((.t 13), false))⟩,⟨(.t 16), .un .not (.t 15), (some ((.t 13), false))⟩,⟨(.x 17), .pick (.t 13) (.c (.bool true)) (.t 16), none⟩]) (.cond (.x 17) (.seq (.reg [⟨(.t 18), .call 13 [], none⟩,⟨(.x 4), .mv (.t 18), none⟩]) .ret) .skip)) (.seq (.reg [⟨(.t 19), .mv (.x 1), none⟩,⟨(.t 20), .call 43 [(.t 19), (.c (.int .i64 101))], none⟩,⟨(.x 1), .mv (.t 20), none⟩]) (.seq (.reg [⟨(.t 21), .ldn 3 (.x 2), none⟩,⟨(.t 22), .mv (.x 1), none⟩,⟨(.t 23), .call 22 [(.t 21), (.t 22)], none⟩,⟨(.x 5), .mv (.t 23), none⟩]) (.seq (.reg [⟨(.t 25), .mv (.x 5), none⟩,⟨(.t 26), .call 18 [(.t 25)], none⟩,⟨(.t 24), .mv (.t 26), none⟩,⟨(.t 27), .ext (.t 24) 0, none⟩,⟨(.t 28), .ext (.t 24) 1, none⟩,⟨(.x 6), .alloc [(.bool false), .nils, .nils], none⟩,⟨.no, .stn 3 (.x 6) (.t 27), none⟩,⟨(.x 7), .mv (.t 28), none⟩]) (.seq (.seq (.reg [⟨(.t 29), .mv (.x 7), none⟩,⟨(.x 30), .un .not (.t 29), none⟩]) (.cond (.x 30) (.seq (.reg [⟨(.x 4), .mv (.c (.bool false)), none⟩]) .ret) .skip)) (.seq (.reg [⟨(.t 31), .bsl 1 [(.int .u32 0)] [(0, 1, (.c (.int .u32 10)))], none⟩,⟨(.t 32), .mv (.x 1), none⟩,⟨(.t 33), .min2 (.t 32) (.c (.int .i64 64)), none⟩,⟨(.t 34), .call 44 [(.t 31), (.t 33)], none⟩,⟨(.t 35), .build [(.bool false), .nils] [(1, 1, (.t 34))], none⟩,⟨(.t 36), .build [(.bool false), .nils, .nils] [(0, 2, (.t 35))], none⟩,⟨(.x 8), .alloc [(.bool false), .nils, .nils], none⟩,⟨.no, .stn 3 (.x 8) (.t 36), none⟩]) (.seq (.seq (.reg [⟨(.t 37), .mv (.x 1), none⟩,⟨(.x 38), .bin .gtr (.t 37) (.c (.int .i64 64)), none⟩]) (.cond (.x 38) (.regd [⟨(.t 39), .ldn 3 (.x 8), none⟩,⟨(.t 40), .bsl 1 [(.int .u32 0)] [(0, 1, (.c (.int .u32 10)))], none⟩,⟨(.t 41), .mv (.x 1), none⟩,⟨(.t 42), .bin .sub (.t 41) (.c (.int .i64 64)), none⟩,⟨(.t 43), .call 44 [(.t 40), (.t 42)], none⟩,⟨(.t 44), .build [(.bool false), .nils] [(1, 1, (.t 43))], none⟩,⟨(.t 45), .build [(.bool false), .nils, .nils] [(0, 2, (.t 44))], none⟩,⟨(.t 46), .call 38 [(.t 39), (.t 45)], none⟩,⟨.no, .stn 3 (.x 8) (.t 46), none⟩]) .skip)) (.seq (.regd [⟨(.t 47), .ldn 3 (.x 2), none⟩,⟨(.t 48), .ldn 3 (.x 6), none⟩,⟨(.t 49), .call 35 [(.t 47), (.t 48)], none⟩,⟨(.t 50), .call 45 [(.t 49)], none⟩,⟨(.t 51), .ldn 3 (.x 8), none⟩,⟨(.t 52), .call 46 [(.c (.int .i64 2))], none⟩,⟨(.t 53), .call 37 [(.t 51), (.t 52)], none⟩,⟨(.t 54), .call 37 [(.t 50), (.t 53)], none⟩,⟨(.x 9), .alloc [(.bool false), .nils, .nils], none⟩,⟨.no, .stn 3 (.x 9) (.t 54), none⟩]) (.seq (.regd [⟨(.t 55), .call 13 [], none⟩,⟨(.t 56), .mv (.t 55), none⟩,⟨(.t 57), .ldn 3 (.x 9), (some ((.t 56), true))⟩,⟨(.t 58), .call 46 [(.c (.int .i64 1))], (some ((.t 56), true))⟩,⟨(.t 59), .call 42 [(.t 57), (.t 58)], (some ((.t 56), true))⟩,⟨(.t 60), .bin .leq (.t 59) (.c (.int .i64 0)), (some ((.t 56), true))⟩,⟨(.t 61), .pick (.t 56) (.t 60) (.c (.bool false)), none⟩,⟨(.t 62), .mv (.t 61), none⟩,⟨(.t 63), .ldn 3 (.x 6), (some ((.t 62), true))⟩,⟨(.t 64), .mv (.x 1), (some ((.t 62), true))⟩,⟨(.t 65), .call 22 [(.t 63), (.t 64)], (some ((.t 62), true))⟩,⟨(.t 66), .mv (.x 5), (some ((.t 62), true))⟩,⟨(.t 67), .bin .eql (.t 65) (.t 66), (some ((.t 62), true))⟩,⟨(.t 68), .pick (.t 62) (.t 67) (.c (.bool false)), none⟩,⟨(.x 4), .mv (.t 68), none⟩]) .ret))))))))))
def reslqRationalDecimalIsNear : List RV := [.t 4]
theorem nblqRationalDecimalIsNear : fnlqRationalDecimalIsNear.nb = 0 := rfl
theorem islqRationalDecimalIsNear : IsFn fnlqRationalDecimalIsNear 10 codelqRationalDecimalIsNear reslqRationalDecimalIsNear := ⟨⟨Tryz.f10, _, Tryz.func10, rfl, rfl, by kernel_rfl, by kernel_rfl, by kernel_rfl⟩⟩
end Go.Proofs.YteiagmmfapbaiaaGreatDoor
namespace Go.Proofs.YteiagmmfapbaiaaGreatDoor
open Go Go.Dat Go.Proofs Nat32 Go.RowKit
open Go.Lib (decDigits repeatL)
def lightB (a d : List Nat) : Bool := decide (a.length ≤ 8) && decide (d.length ≤ 8)
theorem mdLight_calls (neg : Bool) (a d : List Nat) : PCalls Tryz.prog 17 [XQ neg a d] (.bool (lightB a d)) := by
  have k1 : decide ((a.length : Int) ≤ 8) = decide (a.length ≤ 8) := by rw [decide_eq_decide]; omega
  have k2 : decide ((d.length : Int) ≤ 8) = decide (d.length ≤ 8) := by rw [decide_eq_decide]; omega
  refine PCalls_of ismdLight (by simp [fnmdLight]) ?_
  unfold codemdLight lightB
  by_cases h : a.length ≤ 8
  · rw [decide_eq_true h] at k1 ⊢
    repeat (first | (refine W_seq ?_) | (refine W_reg ?_) | (refine W_regd ?_) | (refine W_block ?_) | (refine And.intro (by omega) ?_) | simp (maxSteps := 1000000) (disch := omega) only [cA, cB, lk, lkH, Dst.onT, Dst.onX, Dst.slot, setF, setH, mapF, mapH, initF, binE, unE, cnt, boundE, newsE, freshE, opE, rmH, blkQ, frz_us, Nat.reduceEqDiff, Nat.reduceLT, Nat.reduceAdd, ↓reduceIte, reduceCtorEq, Nat.reduceLeDiff, XQ, cS, nbmdLight, us_length, k1, k2, Bool.true_and])
    exact W_ret (RetP_1 (.imm rfl))
  · rw [decide_eq_false h] at k1 ⊢
    repeat (first | (refine W_seq ?_) | (refine W_reg ?_) | (refine W_regd ?_) | (refine W_block ?_) | (refine And.intro (by omega) ?_) | simp (maxSteps := 1000000) (disch := omega) only [cA, cB, lk, lkH, Dst.onT, Dst.onX, Dst.slot, setF, setH, mapF, mapH, initF, binE, unE, cnt, boundE, newsE, freshE, opE, rmH, blkQ, frz_us, Nat.reduceEqDiff, Nat.reduceLT, Nat.reduceAdd, ↓reduceIte, reduceCtorEq, Nat.reduceLeDiff, XQ, cS, nbmdLight, us_length, k1, k2, Bool.false_and])
    exact W_ret (RetP_1 (.imm rfl))
theorem lightB_spec {a d : List Nat} (h : lightB a d = true) : a.length ≤ 8 ∧ d.length ≤ 8 := by
  unfold lightB at h; simpa using h
theorem RB_light {neg : Bool} {a d : List Nat} (h : lightB a d = true) (la : lim a) (ld : lim d) : RB (rv neg a d) 8 :=
  RB_rv la ld (lightB_spec h).1 (lightB_spec h).2 (by decide)
end Go.Proofs.YteiagmmfapbaiaaGreatDoor
namespace Go.Proofs.YteiagmmfapbaiaaGreatDoor
open Go Go.Dat Go.Proofs Nat32 Go.RowKit
open Go.Lib (decDigits repeatL)
theorem tmod101 (k : Int) : -101 < k.tmod 101 ∧ k.tmod 101 < 101 ∧ (k.tmod 101 < 0 → k.tmod 101 + 101 = k % 101) ∧ (¬ k.tmod 101 < 0 → k.tmod 101 = k % 101) := by
  by_cases h : 0 ≤ k
  · rw [Int.tmod_eq_emod_of_nonneg h]; omega
  · obtain ⟨n, hn⟩ : ∃ n : Nat, k = -(n : Int) := ⟨k.natAbs, by omega⟩
    subst hn
    rw [Int.neg_tmod, Int.tmod_eq_emod_of_nonneg (by omega)]
    omega
theorem mdMod_calls (k : Int) : PCalls Tryz.prog 43 [.int .i64 k, .int .i64 101] (.int .i64 (k % 101)) := by
  obtain ⟨h1, h2, h3, h4⟩ := tmod101 k
  refine PCalls_of ismdMod (by simp [fnmdMod]) ?_
  unfold codemdMod
  by_cases h : k.tmod 101 < 0
  · have d : decide (k.tmod 101 < 0) = true := decide_eq_true h
    rw [← h3 h]
    repeat (first | (refine W_seq ?_) | (refine W_reg ?_) | (refine W_regd ?_) | (refine W_block ?_) | (refine And.intro (by omega) ?_) | simp (maxSteps := 1000000) (disch := omega) only [cA, cB, lk, lkH, Dst.onT, Dst.onX, Dst.slot, setF, setH, mapF, mapH, initF, binE, unE, cnt, boundE, newsE, freshE, opE, rmH, blkQ, frz_us, Nat.reduceEqDiff, Nat.reduceLT, Nat.reduceAdd, ↓reduceIte, reduceCtorEq, Nat.reduceLeDiff, d])
    refine W_cond rfl (fun _ => ?_) (fun h => by cases h)
    repeat (first | (refine W_seq ?_) | (refine W_reg ?_) | (refine W_regd ?_) | (refine W_block ?_) | (refine And.intro (by omega) ?_) | simp (maxSteps := 1000000) (disch := omega) only [cA, cB, lk, lkH, Dst.onT, Dst.onX, Dst.slot, setF, setH, mapF, mapH, initF, binE, unE, cnt, boundE, newsE, freshE, opE, rmH, blkQ, frz_us, Nat.reduceEqDiff, Nat.reduceLT, Nat.reduceAdd, ↓reduceIte, reduceCtorEq, Nat.reduceLeDiff])
    exact W_ret (RetP_1 (.imm rfl))
  · have d : decide (k.tmod 101 < 0) = false := decide_eq_false h
    rw [← h4 h]
    repeat (first | (refine W_seq ?_) | (refine W_reg ?_) | (refine W_regd ?_) | (refine W_block ?_) | (refine And.intro (by omega) ?_) | simp (maxSteps := 1000000) (disch := omega) only [cA, cB, lk, lkH, Dst.onT, Dst.onX, Dst.slot, setF, setH, mapF, mapH, initF, binE, unE, cnt, boundE, newsE, freshE, opE, rmH, blkQ, frz_us, Nat.reduceEqDiff, Nat.reduceLT, Nat.reduceAdd, ↓reduceIte, reduceCtorEq, Nat.reduceLeDiff, d])
    refine W_cond rfl (fun h => by cases h) (fun _ => W_skip ?_)
    repeat (first | (refine W_seq ?_) | (refine W_reg ?_) | (refine W_regd ?_) | (refine W_block ?_) | (refine And.intro (by omega) ?_) | simp (maxSteps := 1000000) (disch := omega) only [cA, cB, lk, lkH, Dst.onT, Dst.onX, Dst.slot, setF, setH, mapF, mapH, initF, binE, unE, cnt, boundE, newsE, freshE, opE, rmH, blkQ, frz_us, Nat.reduceEqDiff, Nat.reduceLT, Nat.reduceAdd, ↓reduceIte, reduceCtorEq, Nat.reduceLeDiff])
    exact W_ret (RetP_1 (.imm rfl))
theorem rPow10 (k : Nat) (h : k ≤ 64) : PCalls Tryz.prog 44 [.sl 1 (us (limbs 10)), .int .i64 k] (.sl 1 (us (limbs (10 ^ k)))) := by
  have := rPower_calls (limbs 10) k (Nat.le_trans limbs10 (by decide)) (lim_limbs _)
  unfold pw at this
  rwa [if_neg (by omega), Int.toNat_natCast, vn_limbs] at this
theorem Q_nat (n : Nat) : Q (((n : Nat) : Int) : Rat) = .agg [.bool false, .sl 1 (us (limbs n)), .sl 1 []] := by
  rw [Q_int, decide_eq_false (by omega), Int.natAbs_natCast]
theorem RB_nat {n m : Nat} (h : (limbs n).length ≤ m) (hm : 1 ≤ m) : RB (((n : Nat) : Int) : Rat) m := RB_int (by rw [Int.natAbs_natCast]; exact h) hm
theorem RB_decV {r : Rat} {k m : Nat} (h : RB r m) : RB (decV r k) (m + k + 2) := by
  unfold decV
  refine RB_mk (ten_ne k) ?_ (Nat.le_trans (ten_le k) (by omega))
  rw [sgn_abs]
  exact Nat.le_trans (rnd_len (m := m + (k + 1)) (len_mul h.1 (ten_le k))) (by omega)
theorem RB_abs {r : Rat} {m : Nat} (h : RB r m) : RB (absQ r) m := by
  unfold absQ; split
  · exact RB_neg h
  · exact h
theorem nat_mul_cast (a b : Nat) : (((a : Nat) : Int) : Rat) * (((b : Nat) : Int) : Rat) = (((a * b : Nat) : Int) : Rat) := by
  rw [rat_mulI rfl rfl]; rfl
theorem near' (r : Rat) (k : Nat) : absQ (r - decV r k) * ((((10 ^ k : Nat) : Int) : Rat) * ((2 : Int) : Rat)) ≤ ((1 : Int) : Rat) := by
  have h := dec_near r k
  rwa [show ((10 ^ k : Nat) : Rat) = (((10 ^ k : Nat) : Int) : Rat) from rfl] at h
theorem pow_split (a b : Nat) : (10 ^ 10) ^ a * 10 ^ b = 10 ^ (10 * a + b) := by rw [← Nat.pow_mul, ← Nat.pow_add]
theorem decS_len2 {r : Rat} {m k : Nat} (h : RB r m) : (decS r k).length ≤ 10 * m + 2 * k + 6 := by
  have h0 : r.num.natAbs < (10 ^ 10) ^ m := Nat.lt_of_lt_of_le (limbs_len.1 h.1) (Nat.pow_le_pow_left (by decide) m)
  have h1 : r.num.natAbs * 10 ^ k < 10 ^ (10 * m + k) := by
    rw [← pow_split]
    exact Nat.mul_lt_mul_of_pos_right h0 (Nat.pow_pos (by decide))
  have h2 : rnd (r.num.natAbs * 10 ^ k) r.den ≤ r.num.natAbs * 10 ^ k + 1 := by
    have := Nat.div_le_self (r.num.natAbs * 10 ^ k) r.den
    unfold rnd; split <;> omega
  have h3 : rnd (r.num.natAbs * 10 ^ k) r.den < 10 ^ (10 * m + k + 1) := by
    rw [Nat.pow_succ]; omega
  have h4 := dd_len h3
  have h5 := padz_len (k + 1) (decDigits (rnd (r.num.natAbs * 10 ^ k) r.den))
  have hp : (pointed k (padz (k + 1) (decDigits (rnd (r.num.natAbs * 10 ^ k) r.den)))).length ≤ (padz (k + 1) (decDigits (rnd (r.num.natAbs * 10 ^ k) r.den))).length + 1 := by
    unfold pointed; split
    · simp; omega
    · omega
  unfold decS
  split
  · simp; omega
  · omega
set_option maxHeartbeats 4000000 in
theorem lqNear_calls (neg : Bool) (a d : List Nat) (k : Int) (la : lim a) (ld : lim d) : PCalls Tryz.prog 10 [XQ neg a d, .int .i64 k] (.bool true) := by
  have aw := lq_awake_calls
  have g1 := mdLight_calls neg a d
  refine PCalls_of islqRationalDecimalIsNear (by simp [fnlqRationalDecimalIsNear]) ?_
  unfold codelqRationalDecimalIsNear
  cases h1 : lightB a d
  · rw [h1] at g1
    repeat (first | (refine W_seq ?_) | (refine W_reg ?_) | (refine W_regd ?_) | (refine W_block ?_) | (refine And.intro (by omega) ?_) | simp (maxSteps := 1000000) (disch := omega) only [cA, cB, lk, lkH, Dst.onT, Dst.onX, Dst.slot, setF, setH, mapF, mapH, initF, binE, unE, cnt, boundE, newsE, freshE, opE, rmH, blkQ, frz_us, Nat.reduceEqDiff, Nat.reduceLT, Nat.reduceAdd, ↓reduceIte, reduceCtorEq, Nat.reduceLeDiff, XQ, cS, nblqRationalDecimalIsNear] | (refine callC_pure (g1) rfl ?_) | exact W_ret (RetP_1 (.imm rfl)) | exact W_ret (RetP_c rfl rfl rfl (.imm rfl)))
    refine W_cond rfl (fun _ => ?_) (fun h => by cases h)
    repeat (first | (refine W_seq ?_) | (refine W_reg ?_) | (refine W_regd ?_) | (refine W_block ?_) | (refine And.intro (by omega) ?_) | simp (maxSteps := 1000000) (disch := omega) only [cA, cB, lk, lkH, Dst.onT, Dst.onX, Dst.slot, setF, setH, mapF, mapH, initF, binE, unE, cnt, boundE, newsE, freshE, opE, rmH, blkQ, frz_us, Nat.reduceEqDiff, Nat.reduceLT, Nat.reduceAdd, ↓reduceIte, reduceCtorEq, Nat.reduceLeDiff, cS] | (refine callC_pure (aw) rfl ?_) | exact W_ret (RetP_1 (.imm rfl)) | exact W_ret (RetP_c rfl rfl rfl (.imm rfl)))
  · rw [h1] at g1
    obtain ⟨k1, k2⟩ := lightB_spec h1
    have cv := pValid_calls neg a d (by omega) (by omega) la ld
    cases hv : vldQ neg a d
    · rw [hv] at cv
      repeat (first | (refine W_seq ?_) | (refine W_reg ?_) | (refine W_regd ?_) | (refine W_block ?_) | (refine And.intro (by omega) ?_) | simp (maxSteps := 1000000) (disch := omega) only [cA, cB, lk, lkH, Dst.onT, Dst.onX, Dst.slot, setF, setH, mapF, mapH, initF, binE, unE, cnt, boundE, newsE, freshE, opE, rmH, blkQ, frz_us, Nat.reduceEqDiff, Nat.reduceLT, Nat.reduceAdd, ↓reduceIte, reduceCtorEq, Nat.reduceLeDiff, XQ, cS, nblqRationalDecimalIsNear] | (refine callC_pure (g1) rfl ?_) | (refine callC_pure (cv) rfl ?_) | exact W_ret (RetP_1 (.imm rfl)) | exact W_ret (RetP_c rfl rfl rfl (.imm rfl)))
      refine W_cond rfl (fun _ => ?_) (fun h => by cases h)
      repeat (first | (refine W_seq ?_) | (refine W_reg ?_) | (refine W_regd ?_) | (refine W_block ?_) | (refine And.intro (by omega) ?_) | simp (maxSteps := 1000000) (disch := omega) only [cA, cB, lk, lkH, Dst.onT, Dst.onX, Dst.slot, setF, setH, mapF, mapH, initF, binE, unE, cnt, boundE, newsE, freshE, opE, rmH, blkQ, frz_us, Nat.reduceEqDiff, Nat.reduceLT, Nat.reduceAdd, ↓reduceIte, reduceCtorEq, Nat.reduceLeDiff, cS] | (refine callC_pure (aw) rfl ?_) | exact W_ret (RetP_1 (.imm rfl)) | exact W_ret (RetP_c rfl rfl rfl (.imm rfl)))
    · rw [hv] at cv
      have r1 := RB_light (neg := neg) h1 la ld
      rw [XQ_Q la ld hv] at g1 cv ⊢
      generalize rv neg a d = x at *
      clear h1 k1 k2 hv la ld
      have cm := mdMod_calls k
      obtain ⟨n, hn, hn2⟩ : ∃ n : Nat, k % 101 = (n : Int) ∧ n ≤ 100 := ⟨(k % 101).toNat, by omega, by omega⟩
      rw [hn] at cm
      have c1 := qDecimalL x n (r1.mono (by decide))
      unfold decR at c1
      rw [if_neg (by omega), Int.toNat_natCast] at c1
      have hlen := decS_len2 (k := n) r1
      have c2 := qParse_calls (decS x n) (by omega) (.inl (ascii_dec x n))
      have hdl : (decDigits (rnd (x.num.natAbs * 10 ^ n) x.den)).length ≤ 3000 := by
        have := dd_limbs (Nat.le_trans (rnd_len (d := x.den) (m := 8 + (n + 1)) (len_mul r1.1 (ten_le n))) (show _ ≤ 120 by omega))
        omega
      rw [parse_dec x n hdl (by omega)] at c2
      unfold resQ at c2
      dsimp only at c2
      have ry : RB (decV x n) 110 := (RB_decV (k := n) r1).mono (by omega)
      have c3 := qSubL x (decV x n) (r1.mono (by decide)) (ry.mono (by decide))
      have rs := RB_sub r1 ry
      have c4 := qAbsL (x - decV x n) (rs.mono (by decide))
      have c5 := qFromInt_calls 2 (by decide) (by decide)
      have t1 := ten_len n
      have rU : RB (((10 ^ n : Nat) : Int) : Rat) 101 := RB_nat (by omega) (by decide)
      have r2 : RB ((2 : Int) : Rat) 1 := RB_int (limbs_len.2 (by decide)) (by decide)
      have c6 := qMulL (((10 ^ n : Nat) : Int) : Rat) ((2 : Int) : Rat) (rU.mono (by decide)) (r2.mono (by decide))
      have rU2 := RB_mul rU r2
      have c7 := qMulL (absQ (x - decV x n)) ((((10 ^ n : Nat) : Int) : Rat) * ((2 : Int) : Rat)) ((RB_abs rs).mono (by decide)) (rU2.mono (by decide))
      have c8 := qFromInt_calls 1 (by decide) (by decide)
      have ro : RB ((1 : Int) : Rat) 1 := RB_int (limbs_len.2 (by decide)) (by decide)
      have c9 := qCompareL (absQ (x - decV x n) * ((((10 ^ n : Nat) : Int) : Rat) * ((2 : Int) : Rat))) ((1 : Int) : Rat) ((RB_mul (RB_abs rs) rU2).mono (by decide)) (ro.mono (by decide))
      have e9 := cmpQ_le (near' x n)
      have c10 := qDecimalL (decV x n) n (ry.mono (by decide))
      unfold decR at c10
      rw [if_neg (by omega), Int.toNat_natCast, dec_back] at c10
      clear hdl hlen rs rU2 ro r2 hn ry r1
      by_cases h64 : 64 < n
      · have d64 : decide ((64 : Int) < (n : Int)) = true := decide_eq_true (by omega)
        have emin : (if (64 : Int) < (n : Int) then (64 : Int) else (n : Int)) = 64 := if_pos (by omega)
        have esub : (n : Int) - 64 = ((n - 64 : Nat) : Int) := by omega
        have p1 := rPow10 64 (Nat.le_refl _)
        have p2 := rPow10 (n - 64) (by omega)
        have t2 := ten_len 64
        have t3 := ten_len (n - 64)
        have p3 := pMulL (((10 ^ 64 : Nat) : Int) : Rat) (((10 ^ (n - 64) : Nat) : Int) : Rat) (RB_nat (Nat.le_trans t2 (by decide)) (by decide)) (RB_nat (by omega) (by decide))
        rw [nat_mul_cast, ← Nat.pow_add, show 64 + (n - 64) = n by omega, Q_nat (10 ^ 64), Q_nat (10 ^ (n - 64))] at p3
        clear rU t1 t2 t3
        generalize 10 ^ 64 = T1 at *
        generalize 10 ^ (n - 64) = T2 at *
        generalize absQ (x - decV x n) * ((((10 ^ n : Nat) : Int) : Rat) * ((2 : Int) : Rat)) = z1 at *
        generalize (((10 ^ n : Nat) : Int) : Rat) * ((2 : Int) : Rat) = z2 at *
        generalize absQ (x - decV x n) = z3 at *
        generalize x - decV x n = z4 at *
        generalize decV x n = y at *
        generalize decS x n = S at *
        generalize (((10 ^ n : Nat) : Int) : Rat) = U at *
        generalize ((2 : Int) : Rat) = two at *
        generalize ((1 : Int) : Rat) = one at *
        generalize cmpQ z1 one = C at *
        repeat (first | (refine W_seq ?_) | (refine W_reg ?_) | (refine W_regd ?_) | (refine W_block ?_) | (refine And.intro (by omega) ?_) | simp (maxSteps := 1000000) (disch := omega) only [cA, cB, lk, lkH, Dst.onT, Dst.onX, Dst.slot, setF, setH, mapF, mapH, initF, binE, unE, cnt, boundE, newsE, freshE, opE, rmH, blkQ, frz_us, Nat.reduceEqDiff, Nat.reduceLT, Nat.reduceAdd, ↓reduceIte, reduceCtorEq, Nat.reduceLeDiff, Q, cS, cT, nblqRationalDecimalIsNear] | (refine callC_pure (g1) rfl ?_) | (refine callC_pure (cv) rfl ?_) | exact W_ret (RetP_1 (.imm rfl)) | exact W_ret (RetP_c rfl rfl rfl (.imm rfl)))
        refine W_cond rfl (fun h => by cases h) (fun _ => W_skip ?_)
        repeat (first | (refine W_seq ?_) | (refine W_reg ?_) | (refine W_regd ?_) | (refine W_block ?_) | (refine And.intro (by omega) ?_) | simp (maxSteps := 1000000) (disch := omega) only [cA, cB, lk, lkH, Dst.onT, Dst.onX, Dst.slot, setF, setH, mapF, mapH, initF, binE, unE, cnt, boundE, newsE, freshE, opE, rmH, blkQ, frz_us, Nat.reduceEqDiff, Nat.reduceLT, Nat.reduceAdd, ↓reduceIte, reduceCtorEq, Nat.reduceLeDiff, Q, cS, cT, nblqRationalDecimalIsNear] | (refine callC_pure (cm) rfl ?_) | (refine callC_pure (c1) rfl ?_) | (refine callC_pure (c2) rfl ?_) | exact W_ret (RetP_1 (.imm rfl)) | exact W_ret (RetP_c rfl rfl rfl (.imm rfl)))
        refine W_cond rfl (fun h => by cases h) (fun _ => W_skip ?_)
        repeat (first | (refine W_seq ?_) | (refine W_reg ?_) | (refine W_regd ?_) | (refine W_block ?_) | (refine And.intro (by omega) ?_) | simp (maxSteps := 1000000) (disch := omega) only [cA, cB, lk, lkH, Dst.onT, Dst.onX, Dst.slot, setF, setH, mapF, mapH, initF, binE, unE, cnt, boundE, newsE, freshE, opE, rmH, blkQ, frz_us, Nat.reduceEqDiff, Nat.reduceLT, Nat.reduceAdd, ↓reduceIte, reduceCtorEq, Nat.reduceLeDiff, Q, cS, cT, nblqRationalDecimalIsNear, l10, us_rfd, emin, d64] | (refine callC_pure (p1) rfl ?_) | exact W_ret (RetP_1 (.imm rfl)) | exact W_ret (RetP_c rfl rfl rfl (.imm rfl)))
        refine W_cond rfl (fun _ => ?_) (fun h => by cases h)
        repeat (first | (refine W_seq ?_) | (refine W_reg ?_) | (refine W_regd ?_) | (refine W_block ?_) | (refine And.intro (by omega) ?_) | simp (maxSteps := 1000000) (disch := omega) only [cA, cB, lk, lkH, Dst.onT, Dst.onX, Dst.slot, setF, setH, mapF, mapH, initF, binE, unE, cnt, boundE, newsE, freshE, opE, rmH, blkQ, frz_us, Nat.reduceEqDiff, Nat.reduceLT, Nat.reduceAdd, ↓reduceIte, reduceCtorEq, Nat.reduceLeDiff, Q, cS, cT, nblqRationalDecimalIsNear, l10, us_rfd, esub, e9, decide_true] | (refine callC_pure (p2) rfl ?_) | (refine callC_pure (PCalls_nz1 1 (p3)) rfl ?_) | (refine callC_pure (c3) rfl ?_) | (refine callC_pure (c4) rfl ?_) | (refine callC_pure (c5) rfl ?_) | (refine callC_pure (c6) rfl ?_) | (refine callC_pure (c7) rfl ?_) | (refine callC_pure (aw) rfl ?_) | (refine callC_pure (c8) rfl ?_) | (refine callC_pure (c9) rfl ?_) | (refine callC_pure (c10) rfl ?_) | exact W_ret (RetP_1 (.imm rfl)) | exact W_ret (RetP_c rfl rfl rfl (.imm rfl)))
      · have d64 : decide ((64 : Int) < (n : Int)) = false := decide_eq_false (by omega)
        have emin : (if (64 : Int) < (n : Int) then (64 : Int) else (n : Int)) = (n : Int) := if_neg (by omega)
        have p1 := rPow10 n (by omega)
        rw [Q_nat] at c6
        clear rU t1
        generalize absQ (x - decV x n) * ((((10 ^ n : Nat) : Int) : Rat) * ((2 : Int) : Rat)) = z1 at *
        generalize (((10 ^ n : Nat) : Int) : Rat) * ((2 : Int) : Rat) = z2 at *
        generalize absQ (x - decV x n) = z3 at *
        generalize x - decV x n = z4 at *
        generalize decV x n = y at *
        generalize decS x n = S at *
        generalize 10 ^ n = T1 at *
        generalize ((2 : Int) : Rat) = two at *
        generalize ((1 : Int) : Rat) = one at *
        generalize cmpQ z1 one = C at *
        repeat (first | (refine W_seq ?_) | (refine W_reg ?_) | (refine W_regd ?_) | (refine W_block ?_) | (refine And.intro (by omega) ?_) | simp (maxSteps := 1000000) (disch := omega) only [cA, cB, lk, lkH, Dst.onT, Dst.onX, Dst.slot, setF, setH, mapF, mapH, initF, binE, unE, cnt, boundE, newsE, freshE, opE, rmH, blkQ, frz_us, Nat.reduceEqDiff, Nat.reduceLT, Nat.reduceAdd, ↓reduceIte, reduceCtorEq, Nat.reduceLeDiff, Q, cS, cT, nblqRationalDecimalIsNear] | (refine callC_pure (g1) rfl ?_) | (refine callC_pure (cv) rfl ?_) | exact W_ret (RetP_1 (.imm rfl)) | exact W_ret (RetP_c rfl rfl rfl (.imm rfl)))
        refine W_cond rfl (fun h => by cases h) (fun _ => W_skip ?_)
        repeat (first | (refine W_seq ?_) | (refine W_reg ?_) | (refine W_regd ?_) | (refine W_block ?_) | (refine And.intro (by omega) ?_) | simp (maxSteps := 1000000) (disch := omega) only [cA, cB, lk, lkH, Dst.onT, Dst.onX, Dst.slot, setF, setH, mapF, mapH, initF, binE, unE, cnt, boundE, newsE, freshE, opE, rmH, blkQ, frz_us, Nat.reduceEqDiff, Nat.reduceLT, Nat.reduceAdd, ↓reduceIte, reduceCtorEq, Nat.reduceLeDiff, Q, cS, cT, nblqRationalDecimalIsNear] | (refine callC_pure (cm) rfl ?_) | (refine callC_pure (c1) rfl ?_) | (refine callC_pure (c2) rfl ?_) | exact W_ret (RetP_1 (.imm rfl)) | exact W_ret (RetP_c rfl rfl rfl (.imm rfl)))
        refine W_cond rfl (fun h => by cases h) (fun _ => W_skip ?_)
        repeat (first | (refine W_seq ?_) | (refine W_reg ?_) | (refine W_regd ?_) | (refine W_block ?_) | (refine And.intro (by omega) ?_) | simp (maxSteps := 1000000) (disch := omega) only [cA, cB, lk, lkH, Dst.onT, Dst.onX, Dst.slot, setF, setH, mapF, mapH, initF, binE, unE, cnt, boundE, newsE, freshE, opE, rmH, blkQ, frz_us, Nat.reduceEqDiff, Nat.reduceLT, Nat.reduceAdd, ↓reduceIte, reduceCtorEq, Nat.reduceLeDiff, Q, cS, cT, nblqRationalDecimalIsNear, l10, us_rfd, emin, d64] | (refine callC_pure (p1) rfl ?_) | exact W_ret (RetP_1 (.imm rfl)) | exact W_ret (RetP_c rfl rfl rfl (.imm rfl)))
        refine W_cond rfl (fun h => by cases h) (fun _ => W_skip ?_)
        repeat (first | (refine W_seq ?_) | (refine W_reg ?_) | (refine W_regd ?_) | (refine W_block ?_) | (refine And.intro (by omega) ?_) | simp (maxSteps := 1000000) (disch := omega) only [cA, cB, lk, lkH, Dst.onT, Dst.onX, Dst.slot, setF, setH, mapF, mapH, initF, binE, unE, cnt, boundE, newsE, freshE, opE, rmH, blkQ, frz_us, Nat.reduceEqDiff, Nat.reduceLT, Nat.reduceAdd, ↓reduceIte, reduceCtorEq, Nat.reduceLeDiff, Q, cS, cT, nblqRationalDecimalIsNear, e9, decide_true] | (refine callC_pure (c3) rfl ?_) | (refine callC_pure (c4) rfl ?_) | (refine callC_pure (c5) rfl ?_) | (refine callC_pure (PCalls_nz1 1 (c6)) rfl ?_) | (refine callC_pure (c7) rfl ?_) | (refine callC_pure (aw) rfl ?_) | (refine callC_pure (c8) rfl ?_) | (refine callC_pure (c9) rfl ?_) | (refine callC_pure (c10) rfl ?_) | exact W_ret (RetP_1 (.imm rfl)) | exact W_ret (RetP_c rfl rfl rfl (.imm rfl)))
end Go.Proofs.YteiagmmfapbaiaaGreatDoor
