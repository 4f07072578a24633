/- Lemmas of the walk; no conditions beyond those that each states. -/
import Derived.Test.YtgonkeglcehkeaaT1
import Derived.Test.YtgonkeglcehkeaaN1
set_option linter.unusedSimpArgs false
set_option linter.unusedVariables false
set_option linter.unnecessarySimpa false
namespace Go.Proofs.Ytgonkeglcehkeaa
open Go Go.Dat Go.Proofs Go.RowKit Go.Shelf Nat32
theorem dpD_ok {T : Bs} {d : UInt8} {R : List (List Bs)} {k : Nat} (hd : delB d = true) (hT : T.length ≤ 65536) (h : parS d 1024 T = .ok R k) : dpD T d = .tup [.sl 1 (recD R), .int .i64 (0 : Nat), .int .i64 (0 : Nat)] := by
  unfold dpD
  rw [if_neg (by rw [hd]; decide), if_neg (by omega), h]
theorem recD_app (L M : List (List Bs)) : recD L ++ recD M = recD (L ++ M) := by simp [recD]
set_option maxHeartbeats 8000000 in
set_option maxRecDepth 10000 in
theorem ldJoins_calls (A B : Bs) : PCalls Try.prog 4 [.str A, .str B] (.bool true) := by
  have aw := awake_calls
  refine PCalls_of isldJoins (by simp [fnldJoins]) ?_
  have hlong : ∀ (fr : Fr), W fnldJoins (.seq (.reg [⟨.t 28, .call 6 [], none⟩, ⟨.x 4, .mv (.t 28), none⟩]) .ret) (RetP resldJoins (.bool true)) fr [] := by
    intro fr
    refine W_sub (fr' := []) trivial ?_
    repeat (first | (refine W_seq ?_) | (refine W_reg ?_) | (refine W_regd ?_) | (refine W_regs ?_) | (refine W_block ?_) | (refine And.intro (by omega) ?_) | simp (maxSteps := 1000000) (disch := omega) only [cA, cB, lk, lkH, Dst.onT, Dst.onX, Dst.slot, setF, setH, mapF, mapH, initF, binE, unE, cnt, boundE, newsE, freshE, freshT, opE, rmH, blkQ, frz_us, Nat.reduceEqDiff, Nat.reduceLT, Nat.reduceAdd, Nat.reduceMul, Nat.reduceMod, ↓reduceIte, reduceCtorEq, Nat.reduceLeDiff] | (refine callC_pure (aw) rfl ?_) | exact W_ret (RetP_1 (.imm rfl)) | exact W_ret (RetP_c rfl rfl rfl (.imm rfl)))
  unfold codeldJoins
  by_cases h1 : 500 < A.length
  · have d1 : decide ((500 : Int) < (A.length : Int)) = true := decide_eq_true (by omega)
    repeat (first | (refine W_seq ?_) | (refine W_reg ?_) | (refine W_regd ?_) | (refine W_regs ?_) | (refine W_block ?_) | (refine And.intro (by omega) ?_) | simp (maxSteps := 1000000) (disch := omega) only [cA, cB, lk, lkH, Dst.onT, Dst.onX, Dst.slot, setF, setH, mapF, mapH, initF, binE, unE, cnt, boundE, newsE, freshE, freshT, opE, rmH, blkQ, frz_us, Nat.reduceEqDiff, Nat.reduceLT, Nat.reduceAdd, Nat.reduceMul, Nat.reduceMod, ↓reduceIte, reduceCtorEq, Nat.reduceLeDiff, d1])
    refine W_cond rfl (fun _ => ?_) (fun h => by cases h)
    repeat (first | (refine W_seq ?_) | (refine W_reg ?_) | (refine W_regd ?_) | (refine W_regs ?_) | (refine W_block ?_) | (refine And.intro (by omega) ?_) | simp (maxSteps := 1000000) (disch := omega) only [cA, cB, lk, lkH, Dst.onT, Dst.onX, Dst.slot, setF, setH, mapF, mapH, initF, binE, unE, cnt, boundE, newsE, freshE, freshT, opE, rmH, blkQ, frz_us, Nat.reduceEqDiff, Nat.reduceLT, Nat.reduceAdd, Nat.reduceMul, Nat.reduceMod, ↓reduceIte, reduceCtorEq, Nat.reduceLeDiff] | (refine callC_pure (aw) rfl ?_) | exact W_ret (RetP_1 (.imm rfl)) | exact W_ret (RetP_c rfl rfl rfl (.imm rfl)))
  · have d1 : decide ((500 : Int) < (A.length : Int)) = false := decide_eq_false (by omega)
    by_cases h2 : 500 < B.length
    · have d2 : decide ((500 : Int) < (B.length : Int)) = true := decide_eq_true (by omega)
      repeat (first | (refine W_seq ?_) | (refine W_reg ?_) | (refine W_regd ?_) | (refine W_regs ?_) | (refine W_block ?_) | (refine And.intro (by omega) ?_) | simp (maxSteps := 1000000) (disch := omega) only [cA, cB, lk, lkH, Dst.onT, Dst.onX, Dst.slot, setF, setH, mapF, mapH, initF, binE, unE, cnt, boundE, newsE, freshE, freshT, opE, rmH, blkQ, frz_us, Nat.reduceEqDiff, Nat.reduceLT, Nat.reduceAdd, Nat.reduceMul, Nat.reduceMod, ↓reduceIte, reduceCtorEq, Nat.reduceLeDiff, d1, d2])
      refine W_cond rfl (fun _ => ?_) (fun h => by cases h)
      repeat (first | (refine W_seq ?_) | (refine W_reg ?_) | (refine W_regd ?_) | (refine W_regs ?_) | (refine W_block ?_) | (refine And.intro (by omega) ?_) | simp (maxSteps := 1000000) (disch := omega) only [cA, cB, lk, lkH, Dst.onT, Dst.onX, Dst.slot, setF, setH, mapF, mapH, initF, binE, unE, cnt, boundE, newsE, freshE, freshT, opE, rmH, blkQ, frz_us, Nat.reduceEqDiff, Nat.reduceLT, Nat.reduceAdd, Nat.reduceMul, Nat.reduceMod, ↓reduceIte, reduceCtorEq, Nat.reduceLeDiff] | (refine callC_pure (aw) rfl ?_) | exact W_ret (RetP_1 (.imm rfl)) | exact W_ret (RetP_c rfl rfl rfl (.imm rfl)))
    · have d2 : decide ((500 : Int) < (B.length : Int)) = false := decide_eq_false (by omega)
      repeat (first | (refine W_seq ?_) | (refine W_reg ?_) | (refine W_regd ?_) | (refine W_regs ?_) | (refine W_block ?_) | (refine And.intro (by omega) ?_) | simp (maxSteps := 1000000) (disch := omega) only [cA, cB, lk, lkH, Dst.onT, Dst.onX, Dst.slot, setF, setH, mapF, mapH, initF, binE, unE, cnt, boundE, newsE, freshE, freshT, opE, rmH, blkQ, frz_us, Nat.reduceEqDiff, Nat.reduceLT, Nat.reduceAdd, Nat.reduceMul, Nat.reduceMod, ↓reduceIte, reduceCtorEq, Nat.reduceLeDiff, d1, d2])
      refine W_cond rfl (fun h => by cases h) (fun _ => W_skip ?_)
      have hAl : (A ++ [10]).length ≤ 501 := by simp; omega
      have c1 : PCalls Try.prog 7 [.str (A ++ [10]), .int .u8 44] (dpD (A ++ [10]) 44) := parse_calls (A ++ [10]) 44
      have c2 : PCalls Try.prog 7 [.str B, .int .u8 44] (dpD B 44) := parse_calls B 44
      have f1 : PCalls Try.prog 8 [.str (A ++ [10]), .int .u8 44] (dpD (A ++ [10]) 44) := fparse_calls (A ++ [10]) 44
      have f2 : PCalls Try.prog 8 [.str B, .int .u8 44] (dpD B 44) := fparse_calls B 44
      have n0 : ((0 : Nat) : Int) = 0 := rfl
      rcases dpD_cases (A ++ [10]) 44 with ⟨n, e, hd1, he, _⟩ | ⟨L, k1, hp1, _, hl1, hd1, hL1, hL2⟩
      · rw [hd1] at c1 f1
        have de : decide (¬ (e : Int) = 0) = true := decide_eq_true (by omega)
        rcases dpD_cases B 44 with ⟨n', e', hd2, he', _⟩ | ⟨M, k2, hp2, _, hl2, hd2, hM1, hM2⟩
        · rw [hd2] at c2 f2
          repeat (first | (refine W_seq ?_) | (refine W_reg ?_) | (refine W_regd ?_) | (refine W_regs ?_) | (refine W_block ?_) | (refine And.intro (by omega) ?_) | simp (maxSteps := 1000000) (disch := omega) only [cA, cB, lk, lkH, Dst.onT, Dst.onX, Dst.slot, setF, setH, mapF, mapH, initF, binE, unE, cnt, boundE, newsE, freshE, freshT, opE, rmH, blkQ, frz_us, Nat.reduceEqDiff, Nat.reduceLT, Nat.reduceAdd, Nat.reduceMul, Nat.reduceMod, ↓reduceIte, reduceCtorEq, Nat.reduceLeDiff, de, decide_true, not_true_eq_false, decide_false] | (refine callC_pure (c1) rfl ?_) | (refine callC_pure (c2) rfl ?_) | exact W_ret (RetP_1 (.imm rfl)) | exact W_ret (RetP_c rfl rfl rfl (.imm rfl)))
          refine W_cond rfl (fun _ => ?_) (fun h => by cases h)
          repeat (first | (refine W_seq ?_) | (refine W_reg ?_) | (refine W_regd ?_) | (refine W_regs ?_) | (refine W_block ?_) | (refine And.intro (by omega) ?_) | simp (maxSteps := 1000000) (disch := omega) only [cA, cB, lk, lkH, Dst.onT, Dst.onX, Dst.slot, setF, setH, mapF, mapH, initF, binE, unE, cnt, boundE, newsE, freshE, freshT, opE, rmH, blkQ, frz_us, Nat.reduceEqDiff, Nat.reduceLT, Nat.reduceAdd, Nat.reduceMul, Nat.reduceMod, ↓reduceIte, reduceCtorEq, Nat.reduceLeDiff, de, decide_true, not_true_eq_false, decide_false] | (refine callC_pure (f1) rfl ?_) | (refine callC_pure (f2) rfl ?_) | (refine callC_pure (aw) rfl ?_) | exact W_ret (RetP_1 (.imm rfl)) | exact W_ret (RetP_c rfl rfl rfl (.imm rfl)))
        · rw [hd2] at c2 f2
          repeat (first | (refine W_seq ?_) | (refine W_reg ?_) | (refine W_regd ?_) | (refine W_regs ?_) | (refine W_block ?_) | (refine And.intro (by omega) ?_) | simp (maxSteps := 1000000) (disch := omega) only [cA, cB, lk, lkH, Dst.onT, Dst.onX, Dst.slot, setF, setH, mapF, mapH, initF, binE, unE, cnt, boundE, newsE, freshE, freshT, opE, rmH, blkQ, frz_us, Nat.reduceEqDiff, Nat.reduceLT, Nat.reduceAdd, Nat.reduceMul, Nat.reduceMod, ↓reduceIte, reduceCtorEq, Nat.reduceLeDiff, de, decide_true, not_true_eq_false, decide_false] | (refine callC_pure (c1) rfl ?_) | (refine callC_pure (c2) rfl ?_) | exact W_ret (RetP_1 (.imm rfl)) | exact W_ret (RetP_c rfl rfl rfl (.imm rfl)))
          refine W_cond rfl (fun _ => ?_) (fun h => by cases h)
          repeat (first | (refine W_seq ?_) | (refine W_reg ?_) | (refine W_regd ?_) | (refine W_regs ?_) | (refine W_block ?_) | (refine And.intro (by omega) ?_) | simp (maxSteps := 1000000) (disch := omega) only [cA, cB, lk, lkH, Dst.onT, Dst.onX, Dst.slot, setF, setH, mapF, mapH, initF, binE, unE, cnt, boundE, newsE, freshE, freshT, opE, rmH, blkQ, frz_us, Nat.reduceEqDiff, Nat.reduceLT, Nat.reduceAdd, Nat.reduceMul, Nat.reduceMod, ↓reduceIte, reduceCtorEq, Nat.reduceLeDiff, de, decide_true, not_true_eq_false, decide_false] | (refine callC_pure (f1) rfl ?_) | (refine callC_pure (f2) rfl ?_) | (refine callC_pure (aw) rfl ?_) | exact W_ret (RetP_1 (.imm rfl)) | exact W_ret (RetP_c rfl rfl rfl (.imm rfl)))
      · rw [hd1, n0] at c1 f1
        rcases dpD_cases B 44 with ⟨n', e', hd2, he', _⟩ | ⟨M, k2, hp2, _, hl2, hd2, hM1, hM2⟩
        · rw [hd2] at c2 f2
          have de : decide (¬ (e' : Int) = 0) = true := decide_eq_true (by omega)
          repeat (first | (refine W_seq ?_) | (refine W_reg ?_) | (refine W_regd ?_) | (refine W_regs ?_) | (refine W_block ?_) | (refine And.intro (by omega) ?_) | simp (maxSteps := 1000000) (disch := omega) only [cA, cB, lk, lkH, Dst.onT, Dst.onX, Dst.slot, setF, setH, mapF, mapH, initF, binE, unE, cnt, boundE, newsE, freshE, freshT, opE, rmH, blkQ, frz_us, Nat.reduceEqDiff, Nat.reduceLT, Nat.reduceAdd, Nat.reduceMul, Nat.reduceMod, ↓reduceIte, reduceCtorEq, Nat.reduceLeDiff, de, decide_true, not_true_eq_false, decide_false] | (refine callC_pure (c1) rfl ?_) | (refine callC_pure (c2) rfl ?_) | exact W_ret (RetP_1 (.imm rfl)) | exact W_ret (RetP_c rfl rfl rfl (.imm rfl)))
          refine W_cond rfl (fun _ => ?_) (fun h => by cases h)
          repeat (first | (refine W_seq ?_) | (refine W_reg ?_) | (refine W_regd ?_) | (refine W_regs ?_) | (refine W_block ?_) | (refine And.intro (by omega) ?_) | simp (maxSteps := 1000000) (disch := omega) only [cA, cB, lk, lkH, Dst.onT, Dst.onX, Dst.slot, setF, setH, mapF, mapH, initF, binE, unE, cnt, boundE, newsE, freshE, freshT, opE, rmH, blkQ, frz_us, Nat.reduceEqDiff, Nat.reduceLT, Nat.reduceAdd, Nat.reduceMul, Nat.reduceMod, ↓reduceIte, reduceCtorEq, Nat.reduceLeDiff, de, decide_true, not_true_eq_false, decide_false] | (refine callC_pure (f1) rfl ?_) | (refine callC_pure (f2) rfl ?_) | (refine callC_pure (aw) rfl ?_) | exact W_ret (RetP_1 (.imm rfl)) | exact W_ret (RetP_c rfl rfl rfl (.imm rfl)))
        · rw [hd2, n0] at c2 f2
          have hLl := recD_len L
          have hMl := recD_len M
          repeat (first | (refine W_seq ?_) | (refine W_reg ?_) | (refine W_regd ?_) | (refine W_regs ?_) | (refine W_block ?_) | (refine And.intro (by omega) ?_) | simp (maxSteps := 1000000) (disch := omega) only [cA, cB, lk, lkH, Dst.onT, Dst.onX, Dst.slot, setF, setH, mapF, mapH, initF, binE, unE, cnt, boundE, newsE, freshE, freshT, opE, rmH, blkQ, frz_us, Nat.reduceEqDiff, Nat.reduceLT, Nat.reduceAdd, Nat.reduceMul, Nat.reduceMod, ↓reduceIte, reduceCtorEq, Nat.reduceLeDiff, decide_true, not_true_eq_false, decide_false] | (refine callC_pure (c1) rfl ?_) | (refine callC_pure (c2) rfl ?_) | exact W_ret (RetP_1 (.imm rfl)) | exact W_ret (RetP_c rfl rfl rfl (.imm rfl)))
          refine W_cond rfl (fun h => by cases h) (fun _ => W_skip ?_)
          by_cases hc : 1024 < L.length + M.length
          · have dc : decide ((1024 : Int) < (L.length : Int) + (M.length : Int)) = true := decide_eq_true (by omega)
            repeat (first | (refine W_seq ?_) | (refine W_reg ?_) | (refine W_regd ?_) | (refine W_regs ?_) | (refine W_block ?_) | (refine And.intro (by omega) ?_) | simp (maxSteps := 1000000) (disch := omega) only [cA, cB, lk, lkH, Dst.onT, Dst.onX, Dst.slot, setF, setH, mapF, mapH, initF, binE, unE, cnt, boundE, newsE, freshE, freshT, opE, rmH, blkQ, frz_us, Nat.reduceEqDiff, Nat.reduceLT, Nat.reduceAdd, Nat.reduceMul, Nat.reduceMod, ↓reduceIte, reduceCtorEq, Nat.reduceLeDiff, hLl, hMl, dc])
            refine W_cond rfl (fun _ => ?_) (fun h => by cases h)
            repeat (first | (refine W_seq ?_) | (refine W_reg ?_) | (refine W_regd ?_) | (refine W_regs ?_) | (refine W_block ?_) | (refine And.intro (by omega) ?_) | simp (maxSteps := 1000000) (disch := omega) only [cA, cB, lk, lkH, Dst.onT, Dst.onX, Dst.slot, setF, setH, mapF, mapH, initF, binE, unE, cnt, boundE, newsE, freshE, freshT, opE, rmH, blkQ, frz_us, Nat.reduceEqDiff, Nat.reduceLT, Nat.reduceAdd, Nat.reduceMul, Nat.reduceMod, ↓reduceIte, reduceCtorEq, Nat.reduceLeDiff] | (refine callC_pure (aw) rfl ?_) | exact W_ret (RetP_1 (.imm rfl)) | exact W_ret (RetP_c rfl rfl rfl (.imm rfl)))
          · have dc : decide ((1024 : Int) < (L.length : Int) + (M.length : Int)) = false := decide_eq_false (by omega)
            repeat (first | (refine W_seq ?_) | (refine W_reg ?_) | (refine W_regd ?_) | (refine W_regs ?_) | (refine W_block ?_) | (refine And.intro (by omega) ?_) | simp (maxSteps := 1000000) (disch := omega) only [cA, cB, lk, lkH, Dst.onT, Dst.onX, Dst.slot, setF, setH, mapF, mapH, initF, binE, unE, cnt, boundE, newsE, freshE, freshT, opE, rmH, blkQ, frz_us, Nat.reduceEqDiff, Nat.reduceLT, Nat.reduceAdd, Nat.reduceMul, Nat.reduceMod, ↓reduceIte, reduceCtorEq, Nat.reduceLeDiff, hLl, hMl, dc])
            refine W_cond rfl (fun h => by cases h) (fun _ => W_skip ?_)
            have hj := parS_app B hp2 1024 1024 A L k1 hp1 (by omega)
            rw [show A ++ 10 :: B = A ++ [10] ++ B by simp] at hj
            have hd3 := dpD_ok (d := 44) rfl (by simp at hAl ⊢; omega) hj
            have c3 : PCalls Try.prog 7 [.str (A ++ [10] ++ B), .int .u8 44] (dpD (A ++ [10] ++ B) 44) := parse_calls (A ++ [10] ++ B) 44
            rw [hd3, n0] at c3
            have cs := same_calls (L ++ M) (by simp; omega) (fun x hx => by
              rcases List.mem_append.1 hx with h | h
              · have := hL2 x h; omega
              · have := hM2 x h; omega)
            repeat (first | (refine W_seq ?_) | (refine W_reg ?_) | (refine W_regd ?_) | (refine W_regs ?_) | (refine W_block ?_) | (refine And.intro (by omega) ?_) | simp (maxSteps := 1000000) (disch := omega) only [cA, cB, lk, lkH, Dst.onT, Dst.onX, Dst.slot, setF, setH, mapF, mapH, initF, binE, unE, cnt, boundE, newsE, freshE, freshT, opE, rmH, blkQ, frz_us, Nat.reduceEqDiff, Nat.reduceLT, Nat.reduceAdd, Nat.reduceMul, Nat.reduceMod, ↓reduceIte, reduceCtorEq, Nat.reduceLeDiff, decide_true] | (refine callC_pure (c3) rfl ?_) | (refine callC_pure (aw) rfl ?_) | exact W_ret (RetP_1 (.imm rfl)) | exact W_ret (RetP_c rfl rfl rfl (.imm rfl)))
            have hone : ∀ R : List (List Bs), ∀ d ∈ recD R, d.one = true := fun R d hd => by
              unfold recD at hd
              obtain ⟨r, _, rfl⟩ := List.mem_map.1 hd
              rfl
            have hpR : ∀ o, ∀ X, (recD X).map (purge o) = recD X := fun o X => map_purge o (recD_rf X)
            refine And.intro ⟨by omega, by omega, hone L⟩ ?_
            repeat (first | (refine W_seq ?_) | (refine W_reg ?_) | (refine W_regd ?_) | (refine W_regs ?_) | (refine W_block ?_) | (refine And.intro (by omega) ?_) | simp (maxSteps := 1000000) (disch := omega) only [cA, cB, lk, lkH, Dst.onT, Dst.onX, Dst.slot, setF, setH, mapF, mapH, initF, binE, unE, cnt, boundE, newsE, freshE, freshT, opE, rmH, blkQ, frz_us, Nat.reduceEqDiff, Nat.reduceLT, Nat.reduceAdd, Nat.reduceMul, Nat.reduceMod, ↓reduceIte, reduceCtorEq, Nat.reduceLeDiff, hpR, recD_app, hLl, hMl, nbldJoins])
            refine And.intro ⟨by omega, by omega, fun h => h, hone M⟩ ?_
            repeat (first | (refine W_seq ?_) | (refine W_reg ?_) | (refine W_regd ?_) | (refine W_regs ?_) | (refine W_block ?_) | (refine And.intro (by omega) ?_) | simp (maxSteps := 1000000) (disch := omega) only [cA, cB, lk, lkH, Dst.onT, Dst.onX, Dst.slot, setF, setH, mapF, mapH, initF, binE, unE, cnt, boundE, newsE, freshE, freshT, opE, rmH, blkQ, frz_us, Nat.reduceEqDiff, Nat.reduceLT, Nat.reduceAdd, Nat.reduceMul, Nat.reduceMod, ↓reduceIte, reduceCtorEq, Nat.reduceLeDiff, hpR, recD_app, hLl, hMl, nbldJoins])
            have hfz : frz 96 (recD (L ++ M)) (.osl 1 96 0 (L.length + M.length)) = .sl 1 (recD (L ++ M)) := by
              have := recD_len (L ++ M)
              rw [List.length_append] at this
              simp only [frz, if_true, Nat.zero_add, List.drop_zero, Nat.mul_one]
              rw [if_pos (by omega), List.take_of_length_le (Nat.le_of_eq this)]
            have z1 : ∀ s ys, frz 96 (recD (L ++ M)) (.sl s ys) = .sl s ys := fun _ _ => rfl
            have z2 : ∀ k n, frz 96 (recD (L ++ M)) (.int k n) = .int k n := fun _ _ => rfl
            have z3 : ∀ b, frz 96 (recD (L ++ M)) (.bool b) = .bool b := fun _ => rfl
            have z4 : ∀ b, frz 96 (recD (L ++ M)) (.str b) = .str b := fun _ => rfl
            have z5 : frz 96 (recD (L ++ M)) .undef = .undef := rfl
            refine callC_freeze rfl 96 (cells := recD (L ++ M)) rfl (List.all_eq_true.2 (recD_rf _)) ?_
            simp only [List.map_cons, List.map_nil, mapF, hfz, z1, z2, z3, z4, z5]
            repeat (first | (refine W_seq ?_) | (refine W_reg ?_) | (refine W_regd ?_) | (refine W_regs ?_) | (refine W_block ?_) | (refine And.intro (by omega) ?_) | simp (maxSteps := 1000000) (disch := omega) only [cA, cB, lk, lkH, Dst.onT, Dst.onX, Dst.slot, setF, setH, mapF, mapH, initF, binE, unE, cnt, boundE, newsE, freshE, freshT, opE, rmH, blkQ, frz_us, Nat.reduceEqDiff, Nat.reduceLT, Nat.reduceAdd, Nat.reduceMul, Nat.reduceMod, ↓reduceIte, reduceCtorEq, Nat.reduceLeDiff] | (refine callC_pure (cs) rfl ?_) | exact W_ret (RetP_1 (.imm rfl)) | exact W_ret (RetP_c rfl rfl rfl (.imm rfl)))
end Go.Proofs.Ytgonkeglcehkeaa
