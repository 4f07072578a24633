/- Lemmas of the walk; no conditions beyond those that each states. -/
import Derived.Test.YtecilkmigjbfoaaDoorT2
set_option linter.unusedSimpArgs false
set_option linter.unusedVariables false
set_option linter.unnecessarySimpa false
namespace Go.Proofs.YtecilkmigjbfoaaDoor
open Go Go.Dat Go.Proofs Nat32

theorem byteD_get {g : List UInt8} {j : Nat} (h : j < g.length) : (g.map byteD).getD j .undef = .int .u8 (g[j].toNat : Nat) := by
  rw [List.getD_eq_getElem?_getD, List.getElem?_map, List.getElem?_eq_getElem h]; rfl
theorem byteD_get? {g : List UInt8} {j : Nat} (h : j < g.length) : (g.map byteD)[j]? = some (.int .u8 (g[j].toNat : Nat)) := by
  rw [List.getElem?_map, List.getElem?_eq_getElem h]; rfl
theorem seg_len {l : List UInt8} {at' e : Nat} (h : e ≤ l.length) : ((l.take e).drop at').length = e - at' := by
  rw [List.length_drop, List.length_take]; omega
theorem take_seg {l : List UInt8} {at' e : Nat} (h : at' ≤ e) : l.take e = l.take at' ++ (l.take e).drop at' := by
  have := List.take_append_drop at' (l.take e)
  rw [List.take_take, Nat.min_eq_left h] at this
  exact this.symm
theorem dval_seg {l : List UInt8} {at' e : Nat} (h : at' ≤ e) (he : e ≤ l.length) (h9 : at' = 0 ∨ e - at' = 9) : dval 0 (l.take at') * 1000000000 + dval 0 ((l.take e).drop at') = dval 0 (l.take e) := by
  rcases h9 with rfl | h9
  · rw [List.take_zero, dval_nil, List.drop_zero]; omega
  · have e1 := take_seg (l := l) h
    have e2 := congrArg (dval 0) e1
    rw [dval_append, dval_acc _ (dval 0 (l.take at'))] at e2
    rw [e2, seg_len he, h9]

theorem accD_cases (l : List UInt8) (i : Nat) : accD l i = .nils ∨ ∃ xs, accD l i = .sl 1 xs := by
  unfold accD
  by_cases h : i = 0
  · rw [if_pos h]; exact .inl rfl
  · rw [if_neg h]; exact .inr ⟨_, rfl⟩
theorem accD_nMul (l : List UInt8) (i : Nat) (hd : (limbs (dval 0 (l.take i))).length ≤ 10000) : PCalls Tryd.prog 17 [accD l i, .sl 1 (us (limbs 1000000000))] (.sl 1 (us (limbs (dval 0 (l.take i) * 1000000000)))) := by
  have h := nMulL (dval 0 (l.take i)) 1000000000 hd (by rw [limbs_one (by decide) (by decide)]; simp)
  unfold accD
  by_cases h0 : i = 0
  · subst h0
    rw [if_pos rfl]
    refine PCalls_nz 1 ?_
    rw [List.take_zero, dval_nil, Nat.zero_mul, limbs_zero] at h
    rw [List.take_zero, dval_nil, Nat.zero_mul, limbs_zero]
    exact h
  · rw [if_neg h0]; exact h

set_option maxHeartbeats 4000000 in
theorem nParse_calls (l : List UInt8) : PCalls Tryd.prog 7 [.str l] (parseR l) := by
  refine PCalls_of isnParse (by simp [fnnParse]) ?_
  unfold codenParse
  by_cases hn : l = []
  · subst hn
    have hb : okD [] = false := rfl
    rw [parseR_bad hb]
    repeat (first | (refine W_seq ?_) | (refine W_reg ?_) | (refine W_regd ?_) | (refine W_block ?_) | (refine And.intro (by omega) ?_) | simp (config := {maxSteps := 1000000}) (disch := omega) only [cA, cB, lk, lkH, Dst.onT, Dst.onX, Dst.slot, setF, setH, mapF, mapH, initF, binE, unE, cnt, boundE, newsE, freshE, opE, rmH, blkQ, frz_us, Nat.reduceEqDiff, Nat.reduceLT, Nat.reduceAdd, ↓reduceIte, reduceCtorEq, Nat.reduceLeDiff, decide_true])
    refine W_cond rfl (fun _ => ?_) (fun h => by cases h)
    repeat (first | (refine W_seq ?_) | (refine W_reg ?_) | (refine W_regd ?_) | (refine W_block ?_) | (refine And.intro (by omega) ?_) | simp (config := {maxSteps := 1000000}) (disch := omega) only [cA, cB, lk, lkH, Dst.onT, Dst.onX, Dst.slot, setF, setH, mapF, mapH, initF, binE, unE, cnt, boundE, newsE, freshE, opE, rmH, blkQ, frz_us, Nat.reduceEqDiff, Nat.reduceLT, Nat.reduceAdd, ↓reduceIte, reduceCtorEq, Nat.reduceLeDiff])
    exact W_ret (RetP_2 (.nils _) (.imm rfl))
  · have hpos : 0 < l.length := List.length_pos_iff.2 hn
    have dn : decide (l = []) = false := decide_eq_false hn
    by_cases h4 : 4000 < l.length
    · have d4 : decide ((4000 : Int) < l.length) = true := decide_eq_true (by omega)
      have hb : okD l = false := by
        rw [← Bool.not_eq_true, okD_iff]
        exact fun h => by omega
      rw [parseR_bad hb]
      repeat (first | (refine W_seq ?_) | (refine W_reg ?_) | (refine W_regd ?_) | (refine W_block ?_) | (refine And.intro (by omega) ?_) | simp (config := {maxSteps := 1000000}) (disch := omega) only [cA, cB, lk, lkH, Dst.onT, Dst.onX, Dst.slot, setF, setH, mapF, mapH, initF, binE, unE, cnt, boundE, newsE, freshE, opE, rmH, blkQ, frz_us, Nat.reduceEqDiff, Nat.reduceLT, Nat.reduceAdd, ↓reduceIte, reduceCtorEq, Nat.reduceLeDiff, dn, d4])
      refine W_cond rfl (fun _ => ?_) (fun h => by cases h)
      repeat (first | (refine W_seq ?_) | (refine W_reg ?_) | (refine W_regd ?_) | (refine W_block ?_) | (refine And.intro (by omega) ?_) | simp (config := {maxSteps := 1000000}) (disch := omega) only [cA, cB, lk, lkH, Dst.onT, Dst.onX, Dst.slot, setF, setH, mapF, mapH, initF, binE, unE, cnt, boundE, newsE, freshE, opE, rmH, blkQ, frz_us, Nat.reduceEqDiff, Nat.reduceLT, Nat.reduceAdd, ↓reduceIte, reduceCtorEq, Nat.reduceLeDiff])
      exact W_ret (RetP_2 (.nils _) (.imm rfl))
    · have d4 : decide ((4000 : Int) < l.length) = false := decide_eq_false (by omega)
      have e0 : (Int.toNat 0) = 0 := rfl
      have ebd : byteD (l.getD 0 0) = .int .u8 ((l.getD 0 0).toNat : Nat) := rfl
      by_cases h48 : (l.getD 0 0).toNat = 48
      · have d2 : decide ((((l.getD 0 0).toNat : Nat) : Int) = 48) = true := decide_eq_true (by omega)
        by_cases h1 : 1 < l.length
        · have d1 : decide ((1 : Int) < l.length) = true := decide_eq_true (by omega)
          have hz : l.head? = some 48 ∧ 1 < l.length := ⟨by
            cases l with
            | nil => exact absurd rfl hn
            | cons c r => simp only [List.getD_cons_zero] at h48; rw [List.head?_cons, ← UInt8.toNat_inj.1 (show c.toNat = (48 : UInt8).toNat from h48)], h1⟩
          have hb : okD l = false := by
            rw [← Bool.not_eq_true, okD_iff]
            exact fun h => h.2.2.1 hz
          rw [parseR_bad hb]
          repeat (first | (refine W_seq ?_) | (refine W_reg ?_) | (refine W_regd ?_) | (refine W_block ?_) | (refine And.intro (by omega) ?_) | simp (config := {maxSteps := 1000000}) (disch := omega) only [cA, cB, lk, lkH, Dst.onT, Dst.onX, Dst.slot, setF, setH, mapF, mapH, initF, binE, unE, cnt, boundE, newsE, freshE, opE, rmH, blkQ, frz_us, Nat.reduceEqDiff, Nat.reduceLT, Nat.reduceAdd, ↓reduceIte, reduceCtorEq, Nat.reduceLeDiff, dn, d4, d1, e0, ebd, d2])
          refine W_cond rfl (fun _ => ?_) (fun h => by cases h)
          repeat (first | (refine W_seq ?_) | (refine W_reg ?_) | (refine W_regd ?_) | (refine W_block ?_) | (refine And.intro (by omega) ?_) | simp (config := {maxSteps := 1000000}) (disch := omega) only [cA, cB, lk, lkH, Dst.onT, Dst.onX, Dst.slot, setF, setH, mapF, mapH, initF, binE, unE, cnt, boundE, newsE, freshE, opE, rmH, blkQ, frz_us, Nat.reduceEqDiff, Nat.reduceLT, Nat.reduceAdd, ↓reduceIte, reduceCtorEq, Nat.reduceLeDiff])
          exact W_ret (RetP_2 (.nils _) (.imm rfl))
        · have d1 : decide ((1 : Int) < l.length) = false := decide_eq_false (by omega)
          have hz : ¬ (l.head? = some 48 ∧ 1 < l.length) := fun h => h1 h.2
          repeat (first | (refine W_seq ?_) | (refine W_reg ?_) | (refine W_regd ?_) | (refine W_block ?_) | (refine And.intro (by omega) ?_) | simp (config := {maxSteps := 1000000}) (disch := omega) only [cA, cB, lk, lkH, Dst.onT, Dst.onX, Dst.slot, setF, setH, mapF, mapH, initF, binE, unE, cnt, boundE, newsE, freshE, opE, rmH, blkQ, frz_us, Nat.reduceEqDiff, Nat.reduceLT, Nat.reduceAdd, ↓reduceIte, reduceCtorEq, Nat.reduceLeDiff, dn, d4, d1, e0, ebd, d2])
          refine W_cond rfl (fun h => by cases h) (fun _ => W_skip ?_)
          clear d1 d2 ebd h48 h1
          have r9 : ((l.length : Int).tmod 9) = ((l.length % 9 : Nat) : Int) := by
            rw [Int.tmod_eq_emod_of_nonneg (by omega)]; omega
          repeat (first | (refine W_seq ?_) | (refine W_reg ?_) | (refine W_regd ?_) | (refine W_block ?_) | (refine And.intro (by omega) ?_) | simp (config := {maxSteps := 1000000}) (disch := omega) only [cA, cB, lk, lkH, Dst.onT, Dst.onX, Dst.slot, setF, setH, mapF, mapH, initF, binE, unE, cnt, boundE, newsE, freshE, opE, rmH, blkQ, frz_us, Nat.reduceEqDiff, Nat.reduceLT, Nat.reduceAdd, ↓reduceIte, reduceCtorEq, Nat.reduceLeDiff, r9])
          refine W_loop (σ := Nat) (fun i => [(0, .str l), (2, accD l i), (3, .bool false), (4, .int .i64 (l.length % 9 : Nat)), (5, .int .i64 i)]) (fun _ => []) (fun i => i ≤ l.length ∧ (l.take i).all isD = true ∧ (i = 0 ∨ (l.length - i) % 9 = 0)) (fun i => l.length - i) 0 (And.intro (Nat.zero_le _) (And.intro rfl (.inl rfl))) ?_ rfl ?_
          · simp [subF, lk, accD]
          · rintro i ⟨hi, hall, h9⟩
            by_cases hlt : i < l.length
            · have dl : decide ((i : Int) < l.length) = true := decide_eq_true (by omega)
              repeat (first | (refine W_seq ?_) | (refine W_reg ?_) | (refine W_regd ?_) | (refine W_block ?_) | (refine And.intro (by omega) ?_) | simp (config := {maxSteps := 1000000}) (disch := omega) only [cA, cB, lk, lkH, Dst.onT, Dst.onX, Dst.slot, setF, setH, mapF, mapH, initF, binE, unE, cnt, boundE, newsE, freshE, opE, rmH, blkQ, frz_us, Nat.reduceEqDiff, Nat.reduceLT, Nat.reduceAdd, ↓reduceIte, reduceCtorEq, Nat.reduceLeDiff, dl])
              refine W_cond rfl (fun _ => W_skip ?_) (fun h => by cases h)
              have ti : (i : Int).toNat = i := Int.toNat_natCast i
              by_cases hi0 : i = 0
              · have di : decide ((i : Int) = 0) = true := decide_eq_true (by omega)
                by_cases hf : 0 < l.length % 9
                · have df : decide ((0 : Int) < (l.length % 9 : Nat)) = true := decide_eq_true (by omega)
                  have he1 : i < l.length % 9 := by omega
                  have he2 : l.length % 9 ≤ l.length := Nat.mod_le _ _
                  have he4 : i = 0 ∨ l.length % 9 - i = 9 := .inl hi0
                  have he3 : l.length % 9 - i ≤ 9 := by omega
                  have he5 : (l.length - l.length % 9) % 9 = 0 := by omega
                  have te : ((l.length % 9 : Nat) : Int).toNat = l.length % 9 := Int.toNat_natCast _
                  repeat (first | (refine W_seq ?_) | (refine W_reg ?_) | (refine W_regd ?_) | (refine W_block ?_) | (refine And.intro (by omega) ?_) | simp (config := {maxSteps := 1000000}) (disch := omega) only [cA, cB, lk, lkH, Dst.onT, Dst.onX, Dst.slot, setF, setH, mapF, mapH, initF, binE, unE, cnt, boundE, newsE, freshE, opE, rmH, blkQ, frz_us, Nat.reduceEqDiff, Nat.reduceLT, Nat.reduceAdd, ↓reduceIte, reduceCtorEq, Nat.reduceLeDiff, di, df])
                  refine W_cond rfl (fun _ => ?_) (fun h => by cases h)
                  have hg := seg_len (l := l) (at' := i) (e := (l.length % 9)) he2
                  have hseg := take_seg (l := l) (at' := i) (e := (l.length % 9)) (Nat.le_of_lt he1)
                  have hval := dval_seg (l := l) (at' := i) (e := (l.length % 9)) (Nat.le_of_lt he1) he2 he4
                  have hmem : ∀ c ∈ (l.take (l.length % 9)).drop i, c ∈ l := fun c h => List.mem_of_mem_take (List.mem_of_mem_drop h)
                  repeat (first | (refine W_seq ?_) | (refine W_reg ?_) | (refine W_regd ?_) | (refine W_block ?_) | (refine And.intro (by omega) ?_) | simp (config := {maxSteps := 1000000}) (disch := omega) only [cA, cB, lk, lkH, Dst.onT, Dst.onX, Dst.slot, setF, setH, mapF, mapH, initF, binE, unE, cnt, boundE, newsE, freshE, opE, rmH, blkQ, frz_us, Nat.reduceEqDiff, Nat.reduceLT, Nat.reduceAdd, ↓reduceIte, reduceCtorEq, Nat.reduceLeDiff, ti, te])
                  generalize (l.take (l.length % 9)).drop i = g at *
                  have hglen : ((g.map byteD).length) = g.length := List.length_map ..
                  repeat (first | (refine W_seq ?_) | (refine W_reg ?_) | (refine W_regd ?_) | (refine W_block ?_) | (refine And.intro (by omega) ?_) | simp (config := {maxSteps := 1000000}) (disch := omega) only [cA, cB, lk, lkH, Dst.onT, Dst.onX, Dst.slot, setF, setH, mapF, mapH, initF, binE, unE, cnt, boundE, newsE, freshE, opE, rmH, blkQ, frz_us, Nat.reduceEqDiff, Nat.reduceLT, Nat.reduceAdd, ↓reduceIte, reduceCtorEq, Nat.reduceLeDiff, hglen])
                  refine W_loop (σ := Nat) (fun j => [(0, .str l), (2, accD l i), (3, .bool false), (4, .int .i64 (l.length % 9 : Nat)), (5, .int .i64 i), (6, .int .i64 ((l.length % 9) : Nat)), (47, .sl 1 (g.map byteD)), (48, .int .i64 g.length), (49, .int .i64 j), (7, .int .u64 (dval 0 (g.take j) : Nat))]) (fun _ => []) (fun j => j ≤ g.length ∧ (g.take j).all isD = true) (fun j => g.length - j) 0 (And.intro (Nat.zero_le _) rfl) ?_ rfl ?_
                  · simp [subF, lk, dval_nil]
                  · rintro j ⟨hj, hgall⟩
                    by_cases hjl : j < g.length
                    · have dj : decide ((j : Int) < g.length) = true := decide_eq_true (by omega)
                      repeat (first | (refine W_seq ?_) | (refine W_reg ?_) | (refine W_regd ?_) | (refine W_block ?_) | (refine And.intro (by omega) ?_) | simp (config := {maxSteps := 1000000}) (disch := omega) only [cA, cB, lk, lkH, Dst.onT, Dst.onX, Dst.slot, setF, setH, mapF, mapH, initF, binE, unE, cnt, boundE, newsE, freshE, opE, rmH, blkQ, frz_us, Nat.reduceEqDiff, Nat.reduceLT, Nat.reduceAdd, ↓reduceIte, reduceCtorEq, Nat.reduceLeDiff, dj])
                      refine W_cond rfl (fun _ => W_skip ?_) (fun h => by cases h)
                      have tj : (j : Int).toNat = j := Int.toNat_natCast j
                      have hg1 := byteD_get hjl
                      have hg2 := byteD_get? hjl
                      have hta := take_all hjl hgall
                      have htd := take_dval hjl
                      have hmc := hmem g[j] (List.getElem_mem hjl)
                      have hv : dval 0 (g.take j) < 1000000000 := Nat.lt_of_lt_of_le (dval_lt _ hgall) (Nat.le_trans (Nat.pow_le_pow_right (by decide) (show (g.take j).length ≤ 9 by rw [List.length_take]; omega)) (by decide))
                      generalize g[j] = c at *
                      generalize dval 0 (g.take j) = v at *
                      have hk : c.toNat < 256 := UInt8.toNat_lt c
                      have j1 : ((j : Int) + 1) = ((j + 1 : Nat) : Int) := by omega
                      clear hval hseg
                      by_cases hd : isD c = true
                      · have hd' := hd
                        simp only [isD, Bool.and_eq_true, decide_eq_true_eq] at hd'
                        have d5 : decide ((c.toNat : Int) < 48) = false := decide_eq_false (by omega)
                        have d6 : decide ((57 : Int) < c.toNat) = false := decide_eq_false (by omega)
                        have e8 : (c.toNat : Int) - 48 = ((c.toNat - 48 : Nat) : Int) := by omega
                        have e10 : 10 * (v : Int) + ((c.toNat - 48 : Nat) : Int) = ((dval 0 (g.take (j + 1)) : Nat) : Int) := by rw [htd]; omega
                        have hta' := hta hd
                        clear hta htd hgall hall hmem
                        (replace hta' := Hid.mk hta')
                        repeat (first | (refine W_seq ?_) | (refine W_reg ?_) | (refine W_regd ?_) | (refine W_block ?_) | (refine And.intro (by omega) ?_) | simp (config := {maxSteps := 1000000}) (disch := omega) only [cA, cB, lk, lkH, Dst.onT, Dst.onX, Dst.slot, setF, setH, mapF, mapH, initF, binE, unE, cnt, boundE, newsE, freshE, opE, rmH, blkQ, frz_us, Nat.reduceEqDiff, Nat.reduceLT, Nat.reduceAdd, ↓reduceIte, reduceCtorEq, Nat.reduceLeDiff, tj, hg1, hg2, d5, d6])
                        refine W_cond rfl (fun h => by cases h) (fun _ => W_skip ?_)
                        repeat (first | (refine W_seq ?_) | (refine W_reg ?_) | (refine W_regd ?_) | (refine W_block ?_) | (refine And.intro (by omega) ?_) | simp (config := {maxSteps := 1000000}) (disch := omega) only [cA, cB, lk, lkH, Dst.onT, Dst.onX, Dst.slot, setF, setH, mapF, mapH, initF, binE, unE, cnt, boundE, newsE, freshE, opE, rmH, blkQ, frz_us, Nat.reduceEqDiff, Nat.reduceLT, Nat.reduceAdd, ↓reduceIte, reduceCtorEq, Nat.reduceLeDiff, e8, e10, j1])
                        exact ⟨j + 1, And.intro hjl hta'.out, by omega, by simp [subF, lk]⟩
                      · have hb : okD l = false := by
                          rw [← Bool.not_eq_true, okD_iff]
                          exact fun h => hd (List.all_eq_true.1 h.2.2.2 c hmc)
                        rw [parseR_bad hb]
                        clear hta htd hall hgall hmem
                        by_cases h5 : c.toNat < 48
                        · have d5 : decide ((c.toNat : Int) < 48) = true := decide_eq_true (by omega)
                          repeat (first | (refine W_seq ?_) | (refine W_reg ?_) | (refine W_regd ?_) | (refine W_block ?_) | (refine And.intro (by omega) ?_) | simp (config := {maxSteps := 1000000}) (disch := omega) only [cA, cB, lk, lkH, Dst.onT, Dst.onX, Dst.slot, setF, setH, mapF, mapH, initF, binE, unE, cnt, boundE, newsE, freshE, opE, rmH, blkQ, frz_us, Nat.reduceEqDiff, Nat.reduceLT, Nat.reduceAdd, ↓reduceIte, reduceCtorEq, Nat.reduceLeDiff, tj, hg1, hg2, d5])
                          refine W_cond rfl (fun _ => ?_) (fun h => by cases h)
                          repeat (first | (refine W_seq ?_) | (refine W_reg ?_) | (refine W_regd ?_) | (refine W_block ?_) | (refine And.intro (by omega) ?_) | simp (config := {maxSteps := 1000000}) (disch := omega) only [cA, cB, lk, lkH, Dst.onT, Dst.onX, Dst.slot, setF, setH, mapF, mapH, initF, binE, unE, cnt, boundE, newsE, freshE, opE, rmH, blkQ, frz_us, Nat.reduceEqDiff, Nat.reduceLT, Nat.reduceAdd, ↓reduceIte, reduceCtorEq, Nat.reduceLeDiff])
                          exact W_ret (RetP_2 (.nils _) (.imm rfl))
                        · have d5 : decide ((c.toNat : Int) < 48) = false := decide_eq_false (by omega)
                          have d6 : decide ((57 : Int) < c.toNat) = true := decide_eq_true (by
                            simp only [isD, Bool.and_eq_true, decide_eq_true_eq] at hd
                            omega)
                          repeat (first | (refine W_seq ?_) | (refine W_reg ?_) | (refine W_regd ?_) | (refine W_block ?_) | (refine And.intro (by omega) ?_) | simp (config := {maxSteps := 1000000}) (disch := omega) only [cA, cB, lk, lkH, Dst.onT, Dst.onX, Dst.slot, setF, setH, mapF, mapH, initF, binE, unE, cnt, boundE, newsE, freshE, opE, rmH, blkQ, frz_us, Nat.reduceEqDiff, Nat.reduceLT, Nat.reduceAdd, ↓reduceIte, reduceCtorEq, Nat.reduceLeDiff, tj, hg1, hg2, d5, d6])
                          refine W_cond rfl (fun _ => ?_) (fun h => by cases h)
                          repeat (first | (refine W_seq ?_) | (refine W_reg ?_) | (refine W_regd ?_) | (refine W_block ?_) | (refine And.intro (by omega) ?_) | simp (config := {maxSteps := 1000000}) (disch := omega) only [cA, cB, lk, lkH, Dst.onT, Dst.onX, Dst.slot, setF, setH, mapF, mapH, initF, binE, unE, cnt, boundE, newsE, freshE, opE, rmH, blkQ, frz_us, Nat.reduceEqDiff, Nat.reduceLT, Nat.reduceAdd, ↓reduceIte, reduceCtorEq, Nat.reduceLeDiff])
                          exact W_ret (RetP_2 (.nils _) (.imm rfl))
                    · have dj : decide ((j : Int) < g.length) = false := decide_eq_false (by omega)
                      obtain rfl : j = g.length := by omega
                      rw [List.take_length] at hgall ⊢
                      have u9 : [DV.int .u32 1000000000] = us (limbs 1000000000) := by rw [limbs_one (by decide) (by decide)]; rfl
                      have hl9 : (limbs 1000000000).length ≤ 1 := by rw [limbs_one (by decide) (by decide)]; simp
                      have hv : dval 0 g < 1000000000 := Nat.lt_of_lt_of_le (dval_lt _ hgall) (Nat.le_trans (Nat.pow_le_pow_right (by decide) (show g.length ≤ 9 by omega)) (by decide))
                      have hdl := dval_len hall (m := 4000) (by simp; omega)
                      have ct := accD_nMul l i (by omega)
                      have cf := nFromUint_calls (dval 0 g) (by omega)
                      have hm := len_mul hdl hl9
                      have ca := nAddL (dval 0 (l.take i) * 1000000000) (dval 0 g) (by omega) (Nat.le_trans (limbs_len.2 (show dval 0 g < 4294967296 ^ 1 by omega)) (by decide))
                      rw [hval] at ca
                      have hac : accD l (l.length % 9) = .sl 1 (us (limbs (dval 0 (l.take (l.length % 9))))) := by unfold accD; rw [if_neg (by omega)]
                      rw [← hac] at ca
                      have halle : (l.take (l.length % 9)).all isD = true := by rw [hseg, List.all_append, hall, hgall]; rfl
                      have hacc := accD_cases l i
                      clear hval hseg hall hgall hm hdl hl9 hac hmem
                      (replace halle := Hid.mk halle)
                      rcases hacc with e | ⟨xs, e⟩
                      · rw [e] at ct ⊢
                        repeat (first | (refine W_seq ?_) | (refine W_reg ?_) | (refine W_regd ?_) | (refine W_block ?_) | (refine And.intro (by omega) ?_) | simp (config := {maxSteps := 1000000}) (disch := omega) only [cA, cB, lk, lkH, Dst.onT, Dst.onX, Dst.slot, setF, setH, mapF, mapH, initF, binE, unE, cnt, boundE, newsE, freshE, opE, rmH, blkQ, frz_us, Nat.reduceEqDiff, Nat.reduceLT, Nat.reduceAdd, ↓reduceIte, reduceCtorEq, Nat.reduceLeDiff, dj])
                        refine W_cond rfl (fun h => by cases h) (fun _ => W_exit ?_)
                        repeat (first | (refine W_seq ?_) | (refine W_reg ?_) | (refine W_regd ?_) | (refine W_block ?_) | (refine And.intro (by omega) ?_) | simp (config := {maxSteps := 1000000}) (disch := omega) only [cA, cB, lk, lkH, Dst.onT, Dst.onX, Dst.slot, setF, setH, mapF, mapH, initF, binE, unE, cnt, boundE, newsE, freshE, opE, rmH, blkQ, frz_us, Nat.reduceEqDiff, Nat.reduceLT, Nat.reduceAdd, ↓reduceIte, reduceCtorEq, Nat.reduceLeDiff, u9, us_rfd] | (refine callC_pure (ct) rfl ?_) | (refine callC_pure (cf) rfl ?_) | (refine callC_pure (ca) rfl ?_) | exact W_ret (RetP_1 (.imm rfl)) | exact W_ret (RetP_c rfl rfl rfl (.imm rfl)))
                        exact ⟨(l.length % 9), And.intro he2 (And.intro halle.out (.inr he5)), by omega, by simp [subF, lk]⟩
                      · rw [e] at ct ⊢
                        repeat (first | (refine W_seq ?_) | (refine W_reg ?_) | (refine W_regd ?_) | (refine W_block ?_) | (refine And.intro (by omega) ?_) | simp (config := {maxSteps := 1000000}) (disch := omega) only [cA, cB, lk, lkH, Dst.onT, Dst.onX, Dst.slot, setF, setH, mapF, mapH, initF, binE, unE, cnt, boundE, newsE, freshE, opE, rmH, blkQ, frz_us, Nat.reduceEqDiff, Nat.reduceLT, Nat.reduceAdd, ↓reduceIte, reduceCtorEq, Nat.reduceLeDiff, dj])
                        refine W_cond rfl (fun h => by cases h) (fun _ => W_exit ?_)
                        repeat (first | (refine W_seq ?_) | (refine W_reg ?_) | (refine W_regd ?_) | (refine W_block ?_) | (refine And.intro (by omega) ?_) | simp (config := {maxSteps := 1000000}) (disch := omega) only [cA, cB, lk, lkH, Dst.onT, Dst.onX, Dst.slot, setF, setH, mapF, mapH, initF, binE, unE, cnt, boundE, newsE, freshE, opE, rmH, blkQ, frz_us, Nat.reduceEqDiff, Nat.reduceLT, Nat.reduceAdd, ↓reduceIte, reduceCtorEq, Nat.reduceLeDiff, u9, us_rfd] | (refine callC_pure (ct) rfl ?_) | (refine callC_pure (cf) rfl ?_) | (refine callC_pure (ca) rfl ?_) | exact W_ret (RetP_1 (.imm rfl)) | exact W_ret (RetP_c rfl rfl rfl (.imm rfl)))
                        exact ⟨(l.length % 9), And.intro he2 (And.intro halle.out (.inr he5)), by omega, by simp [subF, lk]⟩
                · have df : decide ((0 : Int) < (l.length % 9 : Nat)) = false := decide_eq_false (by omega)
                  have he1 : i < i + 9 := by omega
                  have he2 : i + 9 ≤ l.length := by omega
                  have he4 : i = 0 ∨ i + 9 - i = 9 := .inl hi0
                  have he3 : i + 9 - i ≤ 9 := by omega
                  have he5 : (l.length - (i + 9)) % 9 = 0 := by omega
                  have ei9 : (i : Int) + 9 = ((i + 9 : Nat) : Int) := by omega
                  have te : ((i + 9 : Nat) : Int).toNat = i + 9 := Int.toNat_natCast _
                  repeat (first | (refine W_seq ?_) | (refine W_reg ?_) | (refine W_regd ?_) | (refine W_block ?_) | (refine And.intro (by omega) ?_) | simp (config := {maxSteps := 1000000}) (disch := omega) only [cA, cB, lk, lkH, Dst.onT, Dst.onX, Dst.slot, setF, setH, mapF, mapH, initF, binE, unE, cnt, boundE, newsE, freshE, opE, rmH, blkQ, frz_us, Nat.reduceEqDiff, Nat.reduceLT, Nat.reduceAdd, ↓reduceIte, reduceCtorEq, Nat.reduceLeDiff, di, df, ei9])
                  refine W_cond rfl (fun h => by cases h) (fun _ => W_skip ?_)
                  have hg := seg_len (l := l) (at' := i) (e := (i + 9)) he2
                  have hseg := take_seg (l := l) (at' := i) (e := (i + 9)) (Nat.le_of_lt he1)
                  have hval := dval_seg (l := l) (at' := i) (e := (i + 9)) (Nat.le_of_lt he1) he2 he4
                  have hmem : ∀ c ∈ (l.take (i + 9)).drop i, c ∈ l := fun c h => List.mem_of_mem_take (List.mem_of_mem_drop h)
                  repeat (first | (refine W_seq ?_) | (refine W_reg ?_) | (refine W_regd ?_) | (refine W_block ?_) | (refine And.intro (by omega) ?_) | simp (config := {maxSteps := 1000000}) (disch := omega) only [cA, cB, lk, lkH, Dst.onT, Dst.onX, Dst.slot, setF, setH, mapF, mapH, initF, binE, unE, cnt, boundE, newsE, freshE, opE, rmH, blkQ, frz_us, Nat.reduceEqDiff, Nat.reduceLT, Nat.reduceAdd, ↓reduceIte, reduceCtorEq, Nat.reduceLeDiff, ti, te])
                  generalize (l.take (i + 9)).drop i = g at *
                  have hglen : ((g.map byteD).length) = g.length := List.length_map ..
                  repeat (first | (refine W_seq ?_) | (refine W_reg ?_) | (refine W_regd ?_) | (refine W_block ?_) | (refine And.intro (by omega) ?_) | simp (config := {maxSteps := 1000000}) (disch := omega) only [cA, cB, lk, lkH, Dst.onT, Dst.onX, Dst.slot, setF, setH, mapF, mapH, initF, binE, unE, cnt, boundE, newsE, freshE, opE, rmH, blkQ, frz_us, Nat.reduceEqDiff, Nat.reduceLT, Nat.reduceAdd, ↓reduceIte, reduceCtorEq, Nat.reduceLeDiff, hglen])
                  refine W_loop (σ := Nat) (fun j => [(0, .str l), (2, accD l i), (3, .bool false), (4, .int .i64 (l.length % 9 : Nat)), (5, .int .i64 i), (6, .int .i64 ((i + 9) : Nat)), (47, .sl 1 (g.map byteD)), (48, .int .i64 g.length), (49, .int .i64 j), (7, .int .u64 (dval 0 (g.take j) : Nat))]) (fun _ => []) (fun j => j ≤ g.length ∧ (g.take j).all isD = true) (fun j => g.length - j) 0 (And.intro (Nat.zero_le _) rfl) ?_ rfl ?_
                  · simp [subF, lk, dval_nil]
                  · rintro j ⟨hj, hgall⟩
                    by_cases hjl : j < g.length
                    · have dj : decide ((j : Int) < g.length) = true := decide_eq_true (by omega)
                      repeat (first | (refine W_seq ?_) | (refine W_reg ?_) | (refine W_regd ?_) | (refine W_block ?_) | (refine And.intro (by omega) ?_) | simp (config := {maxSteps := 1000000}) (disch := omega) only [cA, cB, lk, lkH, Dst.onT, Dst.onX, Dst.slot, setF, setH, mapF, mapH, initF, binE, unE, cnt, boundE, newsE, freshE, opE, rmH, blkQ, frz_us, Nat.reduceEqDiff, Nat.reduceLT, Nat.reduceAdd, ↓reduceIte, reduceCtorEq, Nat.reduceLeDiff, dj])
                      refine W_cond rfl (fun _ => W_skip ?_) (fun h => by cases h)
                      have tj : (j : Int).toNat = j := Int.toNat_natCast j
                      have hg1 := byteD_get hjl
                      have hg2 := byteD_get? hjl
                      have hta := take_all hjl hgall
                      have htd := take_dval hjl
                      have hmc := hmem g[j] (List.getElem_mem hjl)
                      have hv : dval 0 (g.take j) < 1000000000 := Nat.lt_of_lt_of_le (dval_lt _ hgall) (Nat.le_trans (Nat.pow_le_pow_right (by decide) (show (g.take j).length ≤ 9 by rw [List.length_take]; omega)) (by decide))
                      generalize g[j] = c at *
                      generalize dval 0 (g.take j) = v at *
                      have hk : c.toNat < 256 := UInt8.toNat_lt c
                      have j1 : ((j : Int) + 1) = ((j + 1 : Nat) : Int) := by omega
                      clear hval hseg
                      by_cases hd : isD c = true
                      · have hd' := hd
                        simp only [isD, Bool.and_eq_true, decide_eq_true_eq] at hd'
                        have d5 : decide ((c.toNat : Int) < 48) = false := decide_eq_false (by omega)
                        have d6 : decide ((57 : Int) < c.toNat) = false := decide_eq_false (by omega)
                        have e8 : (c.toNat : Int) - 48 = ((c.toNat - 48 : Nat) : Int) := by omega
                        have e10 : 10 * (v : Int) + ((c.toNat - 48 : Nat) : Int) = ((dval 0 (g.take (j + 1)) : Nat) : Int) := by rw [htd]; omega
                        have hta' := hta hd
                        clear hta htd hgall hall hmem
                        (replace hta' := Hid.mk hta')
                        repeat (first | (refine W_seq ?_) | (refine W_reg ?_) | (refine W_regd ?_) | (refine W_block ?_) | (refine And.intro (by omega) ?_) | simp (config := {maxSteps := 1000000}) (disch := omega) only [cA, cB, lk, lkH, Dst.onT, Dst.onX, Dst.slot, setF, setH, mapF, mapH, initF, binE, unE, cnt, boundE, newsE, freshE, opE, rmH, blkQ, frz_us, Nat.reduceEqDiff, Nat.reduceLT, Nat.reduceAdd, ↓reduceIte, reduceCtorEq, Nat.reduceLeDiff, tj, hg1, hg2, d5, d6])
                        refine W_cond rfl (fun h => by cases h) (fun _ => W_skip ?_)
                        repeat (first | (refine W_seq ?_) | (refine W_reg ?_) | (refine W_regd ?_) | (refine W_block ?_) | (refine And.intro (by omega) ?_) | simp (config := {maxSteps := 1000000}) (disch := omega) only [cA, cB, lk, lkH, Dst.onT, Dst.onX, Dst.slot, setF, setH, mapF, mapH, initF, binE, unE, cnt, boundE, newsE, freshE, opE, rmH, blkQ, frz_us, Nat.reduceEqDiff, Nat.reduceLT, Nat.reduceAdd, ↓reduceIte, reduceCtorEq, Nat.reduceLeDiff, e8, e10, j1])
                        exact ⟨j + 1, And.intro hjl hta'.out, by omega, by simp [subF, lk]⟩
                      · have hb : okD l = false := by
                          rw [← Bool.not_eq_true, okD_iff]
                          exact fun h => hd (List.all_eq_true.1 h.2.2.2 c hmc)
                        rw [parseR_bad hb]
                        clear hta htd hall hgall hmem
                        by_cases h5 : c.toNat < 48
                        · have d5 : decide ((c.toNat : Int) < 48) = true := decide_eq_true (by omega)
                          repeat (first | (refine W_seq ?_) | (refine W_reg ?_) | (refine W_regd ?_) | (refine W_block ?_) | (refine And.intro (by omega) ?_) | simp (config := {maxSteps := 1000000}) (disch := omega) only [cA, cB, lk, lkH, Dst.onT, Dst.onX, Dst.slot, setF, setH, mapF, mapH, initF, binE, unE, cnt, boundE, newsE, freshE, opE, rmH, blkQ, frz_us, Nat.reduceEqDiff, Nat.reduceLT, Nat.reduceAdd, ↓reduceIte, reduceCtorEq, Nat.reduceLeDiff, tj, hg1, hg2, d5])
                          refine W_cond rfl (fun _ => ?_) (fun h => by cases h)
                          repeat (first | (refine W_seq ?_) | (refine W_reg ?_) | (refine W_regd ?_) | (refine W_block ?_) | (refine And.intro (by omega) ?_) | simp (config := {maxSteps := 1000000}) (disch := omega) only [cA, cB, lk, lkH, Dst.onT, Dst.onX, Dst.slot, setF, setH, mapF, mapH, initF, binE, unE, cnt, boundE, newsE, freshE, opE, rmH, blkQ, frz_us, Nat.reduceEqDiff, Nat.reduceLT, Nat.reduceAdd, ↓reduceIte, reduceCtorEq, Nat.reduceLeDiff])
                          exact W_ret (RetP_2 (.nils _) (.imm rfl))
                        · have d5 : decide ((c.toNat : Int) < 48) = false := decide_eq_false (by omega)
                          have d6 : decide ((57 : Int) < c.toNat) = true := decide_eq_true (by
                            simp only [isD, Bool.and_eq_true, decide_eq_true_eq] at hd
                            omega)
                          repeat (first | (refine W_seq ?_) | (refine W_reg ?_) | (refine W_regd ?_) | (refine W_block ?_) | (refine And.intro (by omega) ?_) | simp (config := {maxSteps := 1000000}) (disch := omega) only [cA, cB, lk, lkH, Dst.onT, Dst.onX, Dst.slot, setF, setH, mapF, mapH, initF, binE, unE, cnt, boundE, newsE, freshE, opE, rmH, blkQ, frz_us, Nat.reduceEqDiff, Nat.reduceLT, Nat.reduceAdd, ↓reduceIte, reduceCtorEq, Nat.reduceLeDiff, tj, hg1, hg2, d5, d6])
                          refine W_cond rfl (fun _ => ?_) (fun h => by cases h)
                          repeat (first | (refine W_seq ?_) | (refine W_reg ?_) | (refine W_regd ?_) | (refine W_block ?_) | (refine And.intro (by omega) ?_) | simp (config := {maxSteps := 1000000}) (disch := omega) only [cA, cB, lk, lkH, Dst.onT, Dst.onX, Dst.slot, setF, setH, mapF, mapH, initF, binE, unE, cnt, boundE, newsE, freshE, opE, rmH, blkQ, frz_us, Nat.reduceEqDiff, Nat.reduceLT, Nat.reduceAdd, ↓reduceIte, reduceCtorEq, Nat.reduceLeDiff])
                          exact W_ret (RetP_2 (.nils _) (.imm rfl))
                    · have dj : decide ((j : Int) < g.length) = false := decide_eq_false (by omega)
                      obtain rfl : j = g.length := by omega
                      rw [List.take_length] at hgall ⊢
                      have u9 : [DV.int .u32 1000000000] = us (limbs 1000000000) := by rw [limbs_one (by decide) (by decide)]; rfl
                      have hl9 : (limbs 1000000000).length ≤ 1 := by rw [limbs_one (by decide) (by decide)]; simp
                      have hv : dval 0 g < 1000000000 := Nat.lt_of_lt_of_le (dval_lt _ hgall) (Nat.le_trans (Nat.pow_le_pow_right (by decide) (show g.length ≤ 9 by omega)) (by decide))
                      have hdl := dval_len hall (m := 4000) (by simp; omega)
                      have ct := accD_nMul l i (by omega)
                      have cf := nFromUint_calls (dval 0 g) (by omega)
                      have hm := len_mul hdl hl9
                      have ca := nAddL (dval 0 (l.take i) * 1000000000) (dval 0 g) (by omega) (Nat.le_trans (limbs_len.2 (show dval 0 g < 4294967296 ^ 1 by omega)) (by decide))
                      rw [hval] at ca
                      have hac : accD l (i + 9) = .sl 1 (us (limbs (dval 0 (l.take (i + 9))))) := by unfold accD; rw [if_neg (by omega)]
                      rw [← hac] at ca
                      have halle : (l.take (i + 9)).all isD = true := by rw [hseg, List.all_append, hall, hgall]; rfl
                      have hacc := accD_cases l i
                      clear hval hseg hall hgall hm hdl hl9 hac hmem
                      (replace halle := Hid.mk halle)
                      rcases hacc with e | ⟨xs, e⟩
                      · rw [e] at ct ⊢
                        repeat (first | (refine W_seq ?_) | (refine W_reg ?_) | (refine W_regd ?_) | (refine W_block ?_) | (refine And.intro (by omega) ?_) | simp (config := {maxSteps := 1000000}) (disch := omega) only [cA, cB, lk, lkH, Dst.onT, Dst.onX, Dst.slot, setF, setH, mapF, mapH, initF, binE, unE, cnt, boundE, newsE, freshE, opE, rmH, blkQ, frz_us, Nat.reduceEqDiff, Nat.reduceLT, Nat.reduceAdd, ↓reduceIte, reduceCtorEq, Nat.reduceLeDiff, dj])
                        refine W_cond rfl (fun h => by cases h) (fun _ => W_exit ?_)
                        repeat (first | (refine W_seq ?_) | (refine W_reg ?_) | (refine W_regd ?_) | (refine W_block ?_) | (refine And.intro (by omega) ?_) | simp (config := {maxSteps := 1000000}) (disch := omega) only [cA, cB, lk, lkH, Dst.onT, Dst.onX, Dst.slot, setF, setH, mapF, mapH, initF, binE, unE, cnt, boundE, newsE, freshE, opE, rmH, blkQ, frz_us, Nat.reduceEqDiff, Nat.reduceLT, Nat.reduceAdd, ↓reduceIte, reduceCtorEq, Nat.reduceLeDiff, u9, us_rfd] | (refine callC_pure (ct) rfl ?_) | (refine callC_pure (cf) rfl ?_) | (refine callC_pure (ca) rfl ?_) | exact W_ret (RetP_1 (.imm rfl)) | exact W_ret (RetP_c rfl rfl rfl (.imm rfl)))
                        exact ⟨(i + 9), And.intro he2 (And.intro halle.out (.inr he5)), by omega, by simp [subF, lk]⟩
                      · rw [e] at ct ⊢
                        repeat (first | (refine W_seq ?_) | (refine W_reg ?_) | (refine W_regd ?_) | (refine W_block ?_) | (refine And.intro (by omega) ?_) | simp (config := {maxSteps := 1000000}) (disch := omega) only [cA, cB, lk, lkH, Dst.onT, Dst.onX, Dst.slot, setF, setH, mapF, mapH, initF, binE, unE, cnt, boundE, newsE, freshE, opE, rmH, blkQ, frz_us, Nat.reduceEqDiff, Nat.reduceLT, Nat.reduceAdd, ↓reduceIte, reduceCtorEq, Nat.reduceLeDiff, dj])
                        refine W_cond rfl (fun h => by cases h) (fun _ => W_exit ?_)
                        repeat (first | (refine W_seq ?_) | (refine W_reg ?_) | (refine W_regd ?_) | (refine W_block ?_) | (refine And.intro (by omega) ?_) | simp (config := {maxSteps := 1000000}) (disch := omega) only [cA, cB, lk, lkH, Dst.onT, Dst.onX, Dst.slot, setF, setH, mapF, mapH, initF, binE, unE, cnt, boundE, newsE, freshE, opE, rmH, blkQ, frz_us, Nat.reduceEqDiff, Nat.reduceLT, Nat.reduceAdd, ↓reduceIte, reduceCtorEq, Nat.reduceLeDiff, u9, us_rfd] | (refine callC_pure (ct) rfl ?_) | (refine callC_pure (cf) rfl ?_) | (refine callC_pure (ca) rfl ?_) | exact W_ret (RetP_1 (.imm rfl)) | exact W_ret (RetP_c rfl rfl rfl (.imm rfl)))
                        exact ⟨(i + 9), And.intro he2 (And.intro halle.out (.inr he5)), by omega, by simp [subF, lk]⟩
              · have di : decide ((i : Int) = 0) = false := decide_eq_false (by omega)
                have he1 : i < i + 9 := by omega
                have he2 : i + 9 ≤ l.length := by omega
                have he4 : i = 0 ∨ i + 9 - i = 9 := .inr (by omega)
                have he3 : i + 9 - i ≤ 9 := by omega
                have he5 : (l.length - (i + 9)) % 9 = 0 := by omega
                have ei9 : (i : Int) + 9 = ((i + 9 : Nat) : Int) := by omega
                have te : ((i + 9 : Nat) : Int).toNat = i + 9 := Int.toNat_natCast _
                repeat (first | (refine W_seq ?_) | (refine W_reg ?_) | (refine W_regd ?_) | (refine W_block ?_) | (refine And.intro (by omega) ?_) | simp (config := {maxSteps := 1000000}) (disch := omega) only [cA, cB, lk, lkH, Dst.onT, Dst.onX, Dst.slot, setF, setH, mapF, mapH, initF, binE, unE, cnt, boundE, newsE, freshE, opE, rmH, blkQ, frz_us, Nat.reduceEqDiff, Nat.reduceLT, Nat.reduceAdd, ↓reduceIte, reduceCtorEq, Nat.reduceLeDiff, di, ei9])
                refine W_cond rfl (fun h => by cases h) (fun _ => W_skip ?_)
                have hg := seg_len (l := l) (at' := i) (e := (i + 9)) he2
                have hseg := take_seg (l := l) (at' := i) (e := (i + 9)) (Nat.le_of_lt he1)
                have hval := dval_seg (l := l) (at' := i) (e := (i + 9)) (Nat.le_of_lt he1) he2 he4
                have hmem : ∀ c ∈ (l.take (i + 9)).drop i, c ∈ l := fun c h => List.mem_of_mem_take (List.mem_of_mem_drop h)
                repeat (first | (refine W_seq ?_) | (refine W_reg ?_) | (refine W_regd ?_) | (refine W_block ?_) | (refine And.intro (by omega) ?_) | simp (config := {maxSteps := 1000000}) (disch := omega) only [cA, cB, lk, lkH, Dst.onT, Dst.onX, Dst.slot, setF, setH, mapF, mapH, initF, binE, unE, cnt, boundE, newsE, freshE, opE, rmH, blkQ, frz_us, Nat.reduceEqDiff, Nat.reduceLT, Nat.reduceAdd, ↓reduceIte, reduceCtorEq, Nat.reduceLeDiff, ti, te])
                generalize (l.take (i + 9)).drop i = g at *
                have hglen : ((g.map byteD).length) = g.length := List.length_map ..
                repeat (first | (refine W_seq ?_) | (refine W_reg ?_) | (refine W_regd ?_) | (refine W_block ?_) | (refine And.intro (by omega) ?_) | simp (config := {maxSteps := 1000000}) (disch := omega) only [cA, cB, lk, lkH, Dst.onT, Dst.onX, Dst.slot, setF, setH, mapF, mapH, initF, binE, unE, cnt, boundE, newsE, freshE, opE, rmH, blkQ, frz_us, Nat.reduceEqDiff, Nat.reduceLT, Nat.reduceAdd, ↓reduceIte, reduceCtorEq, Nat.reduceLeDiff, hglen])
                refine W_loop (σ := Nat) (fun j => [(0, .str l), (2, accD l i), (3, .bool false), (4, .int .i64 (l.length % 9 : Nat)), (5, .int .i64 i), (6, .int .i64 ((i + 9) : Nat)), (47, .sl 1 (g.map byteD)), (48, .int .i64 g.length), (49, .int .i64 j), (7, .int .u64 (dval 0 (g.take j) : Nat))]) (fun _ => []) (fun j => j ≤ g.length ∧ (g.take j).all isD = true) (fun j => g.length - j) 0 (And.intro (Nat.zero_le _) rfl) ?_ rfl ?_
                · simp [subF, lk, dval_nil]
                · rintro j ⟨hj, hgall⟩
                  by_cases hjl : j < g.length
                  · have dj : decide ((j : Int) < g.length) = true := decide_eq_true (by omega)
                    repeat (first | (refine W_seq ?_) | (refine W_reg ?_) | (refine W_regd ?_) | (refine W_block ?_) | (refine And.intro (by omega) ?_) | simp (config := {maxSteps := 1000000}) (disch := omega) only [cA, cB, lk, lkH, Dst.onT, Dst.onX, Dst.slot, setF, setH, mapF, mapH, initF, binE, unE, cnt, boundE, newsE, freshE, opE, rmH, blkQ, frz_us, Nat.reduceEqDiff, Nat.reduceLT, Nat.reduceAdd, ↓reduceIte, reduceCtorEq, Nat.reduceLeDiff, dj])
                    refine W_cond rfl (fun _ => W_skip ?_) (fun h => by cases h)
                    have tj : (j : Int).toNat = j := Int.toNat_natCast j
                    have hg1 := byteD_get hjl
                    have hg2 := byteD_get? hjl
                    have hta := take_all hjl hgall
                    have htd := take_dval hjl
                    have hmc := hmem g[j] (List.getElem_mem hjl)
                    have hv : dval 0 (g.take j) < 1000000000 := Nat.lt_of_lt_of_le (dval_lt _ hgall) (Nat.le_trans (Nat.pow_le_pow_right (by decide) (show (g.take j).length ≤ 9 by rw [List.length_take]; omega)) (by decide))
                    generalize g[j] = c at *
                    generalize dval 0 (g.take j) = v at *
                    have hk : c.toNat < 256 := UInt8.toNat_lt c
                    have j1 : ((j : Int) + 1) = ((j + 1 : Nat) : Int) := by omega
                    clear hval hseg
                    by_cases hd : isD c = true
                    · have hd' := hd
                      simp only [isD, Bool.and_eq_true, decide_eq_true_eq] at hd'
                      have d5 : decide ((c.toNat : Int) < 48) = false := decide_eq_false (by omega)
                      have d6 : decide ((57 : Int) < c.toNat) = false := decide_eq_false (by omega)
                      have e8 : (c.toNat : Int) - 48 = ((c.toNat - 48 : Nat) : Int) := by omega
                      have e10 : 10 * (v : Int) + ((c.toNat - 48 : Nat) : Int) = ((dval 0 (g.take (j + 1)) : Nat) : Int) := by rw [htd]; omega
                      have hta' := hta hd
                      clear hta htd hgall hall hmem
                      (replace hta' := Hid.mk hta')
                      repeat (first | (refine W_seq ?_) | (refine W_reg ?_) | (refine W_regd ?_) | (refine W_block ?_) | (refine And.intro (by omega) ?_) | simp (config := {maxSteps := 1000000}) (disch := omega) only [cA, cB, lk, lkH, Dst.onT, Dst.onX, Dst.slot, setF, setH, mapF, mapH, initF, binE, unE, cnt, boundE, newsE, freshE, opE, rmH, blkQ, frz_us, Nat.reduceEqDiff, Nat.reduceLT, Nat.reduceAdd, ↓reduceIte, reduceCtorEq, Nat.reduceLeDiff, tj, hg1, hg2, d5, d6])
                      refine W_cond rfl (fun h => by cases h) (fun _ => W_skip ?_)
                      repeat (first | (refine W_seq ?_) | (refine W_reg ?_) | (refine W_regd ?_) | (refine W_block ?_) | (refine And.intro (by omega) ?_) | simp (config := {maxSteps := 1000000}) (disch := omega) only [cA, cB, lk, lkH, Dst.onT, Dst.onX, Dst.slot, setF, setH, mapF, mapH, initF, binE, unE, cnt, boundE, newsE, freshE, opE, rmH, blkQ, frz_us, Nat.reduceEqDiff, Nat.reduceLT, Nat.reduceAdd, ↓reduceIte, reduceCtorEq, Nat.reduceLeDiff, e8, e10, j1])
                      exact ⟨j + 1, And.intro hjl hta'.out, by omega, by simp [subF, lk]⟩
                    · have hb : okD l = false := by
                        rw [← Bool.not_eq_true, okD_iff]
                        exact fun h => hd (List.all_eq_true.1 h.2.2.2 c hmc)
                      rw [parseR_bad hb]
                      clear hta htd hall hgall hmem
                      by_cases h5 : c.toNat < 48
                      · have d5 : decide ((c.toNat : Int) < 48) = true := decide_eq_true (by omega)
                        repeat (first | (refine W_seq ?_) | (refine W_reg ?_) | (refine W_regd ?_) | (refine W_block ?_) | (refine And.intro (by omega) ?_) | simp (config := {maxSteps := 1000000}) (disch := omega) only [cA, cB, lk, lkH, Dst.onT, Dst.onX, Dst.slot, setF, setH, mapF, mapH, initF, binE, unE, cnt, boundE, newsE, freshE, opE, rmH, blkQ, frz_us, Nat.reduceEqDiff, Nat.reduceLT, Nat.reduceAdd, ↓reduceIte, reduceCtorEq, Nat.reduceLeDiff, tj, hg1, hg2, d5])
                        refine W_cond rfl (fun _ => ?_) (fun h => by cases h)
                        repeat (first | (refine W_seq ?_) | (refine W_reg ?_) | (refine W_regd ?_) | (refine W_block ?_) | (refine And.intro (by omega) ?_) | simp (config := {maxSteps := 1000000}) (disch := omega) only [cA, cB, lk, lkH, Dst.onT, Dst.onX, Dst.slot, setF, setH, mapF, mapH, initF, binE, unE, cnt, boundE, newsE, freshE, opE, rmH, blkQ, frz_us, Nat.reduceEqDiff, Nat.reduceLT, Nat.reduceAdd, ↓reduceIte, reduceCtorEq, Nat.reduceLeDiff])
                        exact W_ret (RetP_2 (.nils _) (.imm rfl))
                      · have d5 : decide ((c.toNat : Int) < 48) = false := decide_eq_false (by omega)
                        have d6 : decide ((57 : Int) < c.toNat) = true := decide_eq_true (by
                          simp only [isD, Bool.and_eq_true, decide_eq_true_eq] at hd
                          omega)
                        repeat (first | (refine W_seq ?_) | (refine W_reg ?_) | (refine W_regd ?_) | (refine W_block ?_) | (refine And.intro (by omega) ?_) | simp (config := {maxSteps := 1000000}) (disch := omega) only [cA, cB, lk, lkH, Dst.onT, Dst.onX, Dst.slot, setF, setH, mapF, mapH, initF, binE, unE, cnt, boundE, newsE, freshE, opE, rmH, blkQ, frz_us, Nat.reduceEqDiff, Nat.reduceLT, Nat.reduceAdd, ↓reduceIte, reduceCtorEq, Nat.reduceLeDiff, tj, hg1, hg2, d5, d6])
                        refine W_cond rfl (fun _ => ?_) (fun h => by cases h)
                        repeat (first | (refine W_seq ?_) | (refine W_reg ?_) | (refine W_regd ?_) | (refine W_block ?_) | (refine And.intro (by omega) ?_) | simp (config := {maxSteps := 1000000}) (disch := omega) only [cA, cB, lk, lkH, Dst.onT, Dst.onX, Dst.slot, setF, setH, mapF, mapH, initF, binE, unE, cnt, boundE, newsE, freshE, opE, rmH, blkQ, frz_us, Nat.reduceEqDiff, Nat.reduceLT, Nat.reduceAdd, ↓reduceIte, reduceCtorEq, Nat.reduceLeDiff])
                        exact W_ret (RetP_2 (.nils _) (.imm rfl))
                  · have dj : decide ((j : Int) < g.length) = false := decide_eq_false (by omega)
                    obtain rfl : j = g.length := by omega
                    rw [List.take_length] at hgall ⊢
                    have u9 : [DV.int .u32 1000000000] = us (limbs 1000000000) := by rw [limbs_one (by decide) (by decide)]; rfl
                    have hl9 : (limbs 1000000000).length ≤ 1 := by rw [limbs_one (by decide) (by decide)]; simp
                    have hv : dval 0 g < 1000000000 := Nat.lt_of_lt_of_le (dval_lt _ hgall) (Nat.le_trans (Nat.pow_le_pow_right (by decide) (show g.length ≤ 9 by omega)) (by decide))
                    have hdl := dval_len hall (m := 4000) (by simp; omega)
                    have ct := accD_nMul l i (by omega)
                    have cf := nFromUint_calls (dval 0 g) (by omega)
                    have hm := len_mul hdl hl9
                    have ca := nAddL (dval 0 (l.take i) * 1000000000) (dval 0 g) (by omega) (Nat.le_trans (limbs_len.2 (show dval 0 g < 4294967296 ^ 1 by omega)) (by decide))
                    rw [hval] at ca
                    have hac : accD l (i + 9) = .sl 1 (us (limbs (dval 0 (l.take (i + 9))))) := by unfold accD; rw [if_neg (by omega)]
                    rw [← hac] at ca
                    have halle : (l.take (i + 9)).all isD = true := by rw [hseg, List.all_append, hall, hgall]; rfl
                    have hacc := accD_cases l i
                    clear hval hseg hall hgall hm hdl hl9 hac hmem
                    (replace halle := Hid.mk halle)
                    rcases hacc with e | ⟨xs, e⟩
                    · rw [e] at ct ⊢
                      repeat (first | (refine W_seq ?_) | (refine W_reg ?_) | (refine W_regd ?_) | (refine W_block ?_) | (refine And.intro (by omega) ?_) | simp (config := {maxSteps := 1000000}) (disch := omega) only [cA, cB, lk, lkH, Dst.onT, Dst.onX, Dst.slot, setF, setH, mapF, mapH, initF, binE, unE, cnt, boundE, newsE, freshE, opE, rmH, blkQ, frz_us, Nat.reduceEqDiff, Nat.reduceLT, Nat.reduceAdd, ↓reduceIte, reduceCtorEq, Nat.reduceLeDiff, dj])
                      refine W_cond rfl (fun h => by cases h) (fun _ => W_exit ?_)
                      repeat (first | (refine W_seq ?_) | (refine W_reg ?_) | (refine W_regd ?_) | (refine W_block ?_) | (refine And.intro (by omega) ?_) | simp (config := {maxSteps := 1000000}) (disch := omega) only [cA, cB, lk, lkH, Dst.onT, Dst.onX, Dst.slot, setF, setH, mapF, mapH, initF, binE, unE, cnt, boundE, newsE, freshE, opE, rmH, blkQ, frz_us, Nat.reduceEqDiff, Nat.reduceLT, Nat.reduceAdd, ↓reduceIte, reduceCtorEq, Nat.reduceLeDiff, u9, us_rfd] | (refine callC_pure (ct) rfl ?_) | (refine callC_pure (cf) rfl ?_) | (refine callC_pure (ca) rfl ?_) | exact W_ret (RetP_1 (.imm rfl)) | exact W_ret (RetP_c rfl rfl rfl (.imm rfl)))
                      exact ⟨(i + 9), And.intro he2 (And.intro halle.out (.inr he5)), by omega, by simp [subF, lk]⟩
                    · rw [e] at ct ⊢
                      repeat (first | (refine W_seq ?_) | (refine W_reg ?_) | (refine W_regd ?_) | (refine W_block ?_) | (refine And.intro (by omega) ?_) | simp (config := {maxSteps := 1000000}) (disch := omega) only [cA, cB, lk, lkH, Dst.onT, Dst.onX, Dst.slot, setF, setH, mapF, mapH, initF, binE, unE, cnt, boundE, newsE, freshE, opE, rmH, blkQ, frz_us, Nat.reduceEqDiff, Nat.reduceLT, Nat.reduceAdd, ↓reduceIte, reduceCtorEq, Nat.reduceLeDiff, dj])
                      refine W_cond rfl (fun h => by cases h) (fun _ => W_exit ?_)
                      repeat (first | (refine W_seq ?_) | (refine W_reg ?_) | (refine W_regd ?_) | (refine W_block ?_) | (refine And.intro (by omega) ?_) | simp (config := {maxSteps := 1000000}) (disch := omega) only [cA, cB, lk, lkH, Dst.onT, Dst.onX, Dst.slot, setF, setH, mapF, mapH, initF, binE, unE, cnt, boundE, newsE, freshE, opE, rmH, blkQ, frz_us, Nat.reduceEqDiff, Nat.reduceLT, Nat.reduceAdd, ↓reduceIte, reduceCtorEq, Nat.reduceLeDiff, u9, us_rfd] | (refine callC_pure (ct) rfl ?_) | (refine callC_pure (cf) rfl ?_) | (refine callC_pure (ca) rfl ?_) | exact W_ret (RetP_1 (.imm rfl)) | exact W_ret (RetP_c rfl rfl rfl (.imm rfl)))
                      exact ⟨(i + 9), And.intro he2 (And.intro halle.out (.inr he5)), by omega, by simp [subF, lk]⟩
            · have hil : i = l.length := by omega
              subst hil
              have dl : decide ((l.length : Int) < l.length) = false := decide_eq_false (by omega)
              rw [List.take_length] at hall
              have hb : okD l = true := (okD_iff l).2 ⟨hn, by omega, hz, hall⟩
              have hr : parseR l = .tup [.sl 1 (us (limbs (dval 0 l))), .bool true] := by unfold parseR; rw [hb]; rfl
              have hac : accD l l.length = .sl 1 (us (limbs (dval 0 l))) := by unfold accD; rw [if_neg (by omega), List.take_length]
              rw [hr, hac]
              repeat (first | (refine W_seq ?_) | (refine W_reg ?_) | (refine W_regd ?_) | (refine W_block ?_) | (refine And.intro (by omega) ?_) | simp (config := {maxSteps := 1000000}) (disch := omega) only [cA, cB, lk, lkH, Dst.onT, Dst.onX, Dst.slot, setF, setH, mapF, mapH, initF, binE, unE, cnt, boundE, newsE, freshE, opE, rmH, blkQ, frz_us, Nat.reduceEqDiff, Nat.reduceLT, Nat.reduceAdd, ↓reduceIte, reduceCtorEq, Nat.reduceLeDiff, dl])
              refine W_cond rfl (fun h => by cases h) (fun _ => W_exit ?_)
              repeat (first | (refine W_seq ?_) | (refine W_reg ?_) | (refine W_regd ?_) | (refine W_block ?_) | (refine And.intro (by omega) ?_) | simp (config := {maxSteps := 1000000}) (disch := omega) only [cA, cB, lk, lkH, Dst.onT, Dst.onX, Dst.slot, setF, setH, mapF, mapH, initF, binE, unE, cnt, boundE, newsE, freshE, opE, rmH, blkQ, frz_us, Nat.reduceEqDiff, Nat.reduceLT, Nat.reduceAdd, ↓reduceIte, reduceCtorEq, Nat.reduceLeDiff])
              exact W_ret (RetP_2 (.imm rfl) (.imm rfl))
      · have d2 : decide ((((l.getD 0 0).toNat : Nat) : Int) = 48) = false := decide_eq_false (by omega)
        have hz : ¬ (l.head? = some 48 ∧ 1 < l.length) := fun h => h48 (by
          cases l with
          | nil => exact absurd rfl hn
          | cons c r =>
            have h1 := h.1
            rw [List.head?_cons, Option.some.injEq] at h1
            rw [List.getD_cons_zero, h1]; rfl)
        repeat (first | (refine W_seq ?_) | (refine W_reg ?_) | (refine W_regd ?_) | (refine W_block ?_) | (refine And.intro (by omega) ?_) | simp (config := {maxSteps := 1000000}) (disch := omega) only [cA, cB, lk, lkH, Dst.onT, Dst.onX, Dst.slot, setF, setH, mapF, mapH, initF, binE, unE, cnt, boundE, newsE, freshE, opE, rmH, blkQ, frz_us, Nat.reduceEqDiff, Nat.reduceLT, Nat.reduceAdd, ↓reduceIte, reduceCtorEq, Nat.reduceLeDiff, dn, d4, e0, ebd, d2])
        refine W_cond rfl (fun h => by cases h) (fun _ => W_skip ?_)
        clear d2 ebd h48
        have r9 : ((l.length : Int).tmod 9) = ((l.length % 9 : Nat) : Int) := by
          rw [Int.tmod_eq_emod_of_nonneg (by omega)]; omega
        repeat (first | (refine W_seq ?_) | (refine W_reg ?_) | (refine W_regd ?_) | (refine W_block ?_) | (refine And.intro (by omega) ?_) | simp (config := {maxSteps := 1000000}) (disch := omega) only [cA, cB, lk, lkH, Dst.onT, Dst.onX, Dst.slot, setF, setH, mapF, mapH, initF, binE, unE, cnt, boundE, newsE, freshE, opE, rmH, blkQ, frz_us, Nat.reduceEqDiff, Nat.reduceLT, Nat.reduceAdd, ↓reduceIte, reduceCtorEq, Nat.reduceLeDiff, r9])
        refine W_loop (σ := Nat) (fun i => [(0, .str l), (2, accD l i), (3, .bool false), (4, .int .i64 (l.length % 9 : Nat)), (5, .int .i64 i)]) (fun _ => []) (fun i => i ≤ l.length ∧ (l.take i).all isD = true ∧ (i = 0 ∨ (l.length - i) % 9 = 0)) (fun i => l.length - i) 0 (And.intro (Nat.zero_le _) (And.intro rfl (.inl rfl))) ?_ rfl ?_
        · simp [subF, lk, accD]
        · rintro i ⟨hi, hall, h9⟩
          by_cases hlt : i < l.length
          · have dl : decide ((i : Int) < l.length) = true := decide_eq_true (by omega)
            repeat (first | (refine W_seq ?_) | (refine W_reg ?_) | (refine W_regd ?_) | (refine W_block ?_) | (refine And.intro (by omega) ?_) | simp (config := {maxSteps := 1000000}) (disch := omega) only [cA, cB, lk, lkH, Dst.onT, Dst.onX, Dst.slot, setF, setH, mapF, mapH, initF, binE, unE, cnt, boundE, newsE, freshE, opE, rmH, blkQ, frz_us, Nat.reduceEqDiff, Nat.reduceLT, Nat.reduceAdd, ↓reduceIte, reduceCtorEq, Nat.reduceLeDiff, dl])
            refine W_cond rfl (fun _ => W_skip ?_) (fun h => by cases h)
            have ti : (i : Int).toNat = i := Int.toNat_natCast i
            by_cases hi0 : i = 0
            · have di : decide ((i : Int) = 0) = true := decide_eq_true (by omega)
              by_cases hf : 0 < l.length % 9
              · have df : decide ((0 : Int) < (l.length % 9 : Nat)) = true := decide_eq_true (by omega)
                have he1 : i < l.length % 9 := by omega
                have he2 : l.length % 9 ≤ l.length := Nat.mod_le _ _
                have he4 : i = 0 ∨ l.length % 9 - i = 9 := .inl hi0
                have he3 : l.length % 9 - i ≤ 9 := by omega
                have he5 : (l.length - l.length % 9) % 9 = 0 := by omega
                have te : ((l.length % 9 : Nat) : Int).toNat = l.length % 9 := Int.toNat_natCast _
                repeat (first | (refine W_seq ?_) | (refine W_reg ?_) | (refine W_regd ?_) | (refine W_block ?_) | (refine And.intro (by omega) ?_) | simp (config := {maxSteps := 1000000}) (disch := omega) only [cA, cB, lk, lkH, Dst.onT, Dst.onX, Dst.slot, setF, setH, mapF, mapH, initF, binE, unE, cnt, boundE, newsE, freshE, opE, rmH, blkQ, frz_us, Nat.reduceEqDiff, Nat.reduceLT, Nat.reduceAdd, ↓reduceIte, reduceCtorEq, Nat.reduceLeDiff, di, df])
                refine W_cond rfl (fun _ => ?_) (fun h => by cases h)
                have hg := seg_len (l := l) (at' := i) (e := (l.length % 9)) he2
                have hseg := take_seg (l := l) (at' := i) (e := (l.length % 9)) (Nat.le_of_lt he1)
                have hval := dval_seg (l := l) (at' := i) (e := (l.length % 9)) (Nat.le_of_lt he1) he2 he4
                have hmem : ∀ c ∈ (l.take (l.length % 9)).drop i, c ∈ l := fun c h => List.mem_of_mem_take (List.mem_of_mem_drop h)
                repeat (first | (refine W_seq ?_) | (refine W_reg ?_) | (refine W_regd ?_) | (refine W_block ?_) | (refine And.intro (by omega) ?_) | simp (config := {maxSteps := 1000000}) (disch := omega) only [cA, cB, lk, lkH, Dst.onT, Dst.onX, Dst.slot, setF, setH, mapF, mapH, initF, binE, unE, cnt, boundE, newsE, freshE, opE, rmH, blkQ, frz_us, Nat.reduceEqDiff, Nat.reduceLT, Nat.reduceAdd, ↓reduceIte, reduceCtorEq, Nat.reduceLeDiff, ti, te])
                generalize (l.take (l.length % 9)).drop i = g at *
                have hglen : ((g.map byteD).length) = g.length := List.length_map ..
                repeat (first | (refine W_seq ?_) | (refine W_reg ?_) | (refine W_regd ?_) | (refine W_block ?_) | (refine And.intro (by omega) ?_) | simp (config := {maxSteps := 1000000}) (disch := omega) only [cA, cB, lk, lkH, Dst.onT, Dst.onX, Dst.slot, setF, setH, mapF, mapH, initF, binE, unE, cnt, boundE, newsE, freshE, opE, rmH, blkQ, frz_us, Nat.reduceEqDiff, Nat.reduceLT, Nat.reduceAdd, ↓reduceIte, reduceCtorEq, Nat.reduceLeDiff, hglen])
                refine W_loop (σ := Nat) (fun j => [(0, .str l), (2, accD l i), (3, .bool false), (4, .int .i64 (l.length % 9 : Nat)), (5, .int .i64 i), (6, .int .i64 ((l.length % 9) : Nat)), (47, .sl 1 (g.map byteD)), (48, .int .i64 g.length), (49, .int .i64 j), (7, .int .u64 (dval 0 (g.take j) : Nat))]) (fun _ => []) (fun j => j ≤ g.length ∧ (g.take j).all isD = true) (fun j => g.length - j) 0 (And.intro (Nat.zero_le _) rfl) ?_ rfl ?_
                · simp [subF, lk, dval_nil]
                · rintro j ⟨hj, hgall⟩
                  by_cases hjl : j < g.length
                  · have dj : decide ((j : Int) < g.length) = true := decide_eq_true (by omega)
                    repeat (first | (refine W_seq ?_) | (refine W_reg ?_) | (refine W_regd ?_) | (refine W_block ?_) | (refine And.intro (by omega) ?_) | simp (config := {maxSteps := 1000000}) (disch := omega) only [cA, cB, lk, lkH, Dst.onT, Dst.onX, Dst.slot, setF, setH, mapF, mapH, initF, binE, unE, cnt, boundE, newsE, freshE, opE, rmH, blkQ, frz_us, Nat.reduceEqDiff, Nat.reduceLT, Nat.reduceAdd, ↓reduceIte, reduceCtorEq, Nat.reduceLeDiff, dj])
                    refine W_cond rfl (fun _ => W_skip ?_) (fun h => by cases h)
                    have tj : (j : Int).toNat = j := Int.toNat_natCast j
                    have hg1 := byteD_get hjl
                    have hg2 := byteD_get? hjl
                    have hta := take_all hjl hgall
                    have htd := take_dval hjl
                    have hmc := hmem g[j] (List.getElem_mem hjl)
                    have hv : dval 0 (g.take j) < 1000000000 := Nat.lt_of_lt_of_le (dval_lt _ hgall) (Nat.le_trans (Nat.pow_le_pow_right (by decide) (show (g.take j).length ≤ 9 by rw [List.length_take]; omega)) (by decide))
                    generalize g[j] = c at *
                    generalize dval 0 (g.take j) = v at *
                    have hk : c.toNat < 256 := UInt8.toNat_lt c
                    have j1 : ((j : Int) + 1) = ((j + 1 : Nat) : Int) := by omega
                    clear hval hseg
                    by_cases hd : isD c = true
                    · have hd' := hd
                      simp only [isD, Bool.and_eq_true, decide_eq_true_eq] at hd'
                      have d5 : decide ((c.toNat : Int) < 48) = false := decide_eq_false (by omega)
                      have d6 : decide ((57 : Int) < c.toNat) = false := decide_eq_false (by omega)
                      have e8 : (c.toNat : Int) - 48 = ((c.toNat - 48 : Nat) : Int) := by omega
                      have e10 : 10 * (v : Int) + ((c.toNat - 48 : Nat) : Int) = ((dval 0 (g.take (j + 1)) : Nat) : Int) := by rw [htd]; omega
                      have hta' := hta hd
                      clear hta htd hgall hall hmem
                      (replace hta' := Hid.mk hta')
                      repeat (first | (refine W_seq ?_) | (refine W_reg ?_) | (refine W_regd ?_) | (refine W_block ?_) | (refine And.intro (by omega) ?_) | simp (config := {maxSteps := 1000000}) (disch := omega) only [cA, cB, lk, lkH, Dst.onT, Dst.onX, Dst.slot, setF, setH, mapF, mapH, initF, binE, unE, cnt, boundE, newsE, freshE, opE, rmH, blkQ, frz_us, Nat.reduceEqDiff, Nat.reduceLT, Nat.reduceAdd, ↓reduceIte, reduceCtorEq, Nat.reduceLeDiff, tj, hg1, hg2, d5, d6])
                      refine W_cond rfl (fun h => by cases h) (fun _ => W_skip ?_)
                      repeat (first | (refine W_seq ?_) | (refine W_reg ?_) | (refine W_regd ?_) | (refine W_block ?_) | (refine And.intro (by omega) ?_) | simp (config := {maxSteps := 1000000}) (disch := omega) only [cA, cB, lk, lkH, Dst.onT, Dst.onX, Dst.slot, setF, setH, mapF, mapH, initF, binE, unE, cnt, boundE, newsE, freshE, opE, rmH, blkQ, frz_us, Nat.reduceEqDiff, Nat.reduceLT, Nat.reduceAdd, ↓reduceIte, reduceCtorEq, Nat.reduceLeDiff, e8, e10, j1])
                      exact ⟨j + 1, And.intro hjl hta'.out, by omega, by simp [subF, lk]⟩
                    · have hb : okD l = false := by
                        rw [← Bool.not_eq_true, okD_iff]
                        exact fun h => hd (List.all_eq_true.1 h.2.2.2 c hmc)
                      rw [parseR_bad hb]
                      clear hta htd hall hgall hmem
                      by_cases h5 : c.toNat < 48
                      · have d5 : decide ((c.toNat : Int) < 48) = true := decide_eq_true (by omega)
                        repeat (first | (refine W_seq ?_) | (refine W_reg ?_) | (refine W_regd ?_) | (refine W_block ?_) | (refine And.intro (by omega) ?_) | simp (config := {maxSteps := 1000000}) (disch := omega) only [cA, cB, lk, lkH, Dst.onT, Dst.onX, Dst.slot, setF, setH, mapF, mapH, initF, binE, unE, cnt, boundE, newsE, freshE, opE, rmH, blkQ, frz_us, Nat.reduceEqDiff, Nat.reduceLT, Nat.reduceAdd, ↓reduceIte, reduceCtorEq, Nat.reduceLeDiff, tj, hg1, hg2, d5])
                        refine W_cond rfl (fun _ => ?_) (fun h => by cases h)
                        repeat (first | (refine W_seq ?_) | (refine W_reg ?_) | (refine W_regd ?_) | (refine W_block ?_) | (refine And.intro (by omega) ?_) | simp (config := {maxSteps := 1000000}) (disch := omega) only [cA, cB, lk, lkH, Dst.onT, Dst.onX, Dst.slot, setF, setH, mapF, mapH, initF, binE, unE, cnt, boundE, newsE, freshE, opE, rmH, blkQ, frz_us, Nat.reduceEqDiff, Nat.reduceLT, Nat.reduceAdd, ↓reduceIte, reduceCtorEq, Nat.reduceLeDiff])
                        exact W_ret (RetP_2 (.nils _) (.imm rfl))
                      · have d5 : decide ((c.toNat : Int) < 48) = false := decide_eq_false (by omega)
                        have d6 : decide ((57 : Int) < c.toNat) = true := decide_eq_true (by
                          simp only [isD, Bool.and_eq_true, decide_eq_true_eq] at hd
                          omega)
                        repeat (first | (refine W_seq ?_) | (refine W_reg ?_) | (refine W_regd ?_) | (refine W_block ?_) | (refine And.intro (by omega) ?_) | simp (config := {maxSteps := 1000000}) (disch := omega) only [cA, cB, lk, lkH, Dst.onT, Dst.onX, Dst.slot, setF, setH, mapF, mapH, initF, binE, unE, cnt, boundE, newsE, freshE, opE, rmH, blkQ, frz_us, Nat.reduceEqDiff, Nat.reduceLT, Nat.reduceAdd, ↓reduceIte, reduceCtorEq, Nat.reduceLeDiff, tj, hg1, hg2, d5, d6])
                        refine W_cond rfl (fun _ => ?_) (fun h => by cases h)
                        repeat (first | (refine W_seq ?_) | (refine W_reg ?_) | (refine W_regd ?_) | (refine W_block ?_) | (refine And.intro (by omega) ?_) | simp (config := {maxSteps := 1000000}) (disch := omega) only [cA, cB, lk, lkH, Dst.onT, Dst.onX, Dst.slot, setF, setH, mapF, mapH, initF, binE, unE, cnt, boundE, newsE, freshE, opE, rmH, blkQ, frz_us, Nat.reduceEqDiff, Nat.reduceLT, Nat.reduceAdd, ↓reduceIte, reduceCtorEq, Nat.reduceLeDiff])
                        exact W_ret (RetP_2 (.nils _) (.imm rfl))
                  · have dj : decide ((j : Int) < g.length) = false := decide_eq_false (by omega)
                    obtain rfl : j = g.length := by omega
                    rw [List.take_length] at hgall ⊢
                    have u9 : [DV.int .u32 1000000000] = us (limbs 1000000000) := by rw [limbs_one (by decide) (by decide)]; rfl
                    have hl9 : (limbs 1000000000).length ≤ 1 := by rw [limbs_one (by decide) (by decide)]; simp
                    have hv : dval 0 g < 1000000000 := Nat.lt_of_lt_of_le (dval_lt _ hgall) (Nat.le_trans (Nat.pow_le_pow_right (by decide) (show g.length ≤ 9 by omega)) (by decide))
                    have hdl := dval_len hall (m := 4000) (by simp; omega)
                    have ct := accD_nMul l i (by omega)
                    have cf := nFromUint_calls (dval 0 g) (by omega)
                    have hm := len_mul hdl hl9
                    have ca := nAddL (dval 0 (l.take i) * 1000000000) (dval 0 g) (by omega) (Nat.le_trans (limbs_len.2 (show dval 0 g < 4294967296 ^ 1 by omega)) (by decide))
                    rw [hval] at ca
                    have hac : accD l (l.length % 9) = .sl 1 (us (limbs (dval 0 (l.take (l.length % 9))))) := by unfold accD; rw [if_neg (by omega)]
                    rw [← hac] at ca
                    have halle : (l.take (l.length % 9)).all isD = true := by rw [hseg, List.all_append, hall, hgall]; rfl
                    have hacc := accD_cases l i
                    clear hval hseg hall hgall hm hdl hl9 hac hmem
                    (replace halle := Hid.mk halle)
                    rcases hacc with e | ⟨xs, e⟩
                    · rw [e] at ct ⊢
                      repeat (first | (refine W_seq ?_) | (refine W_reg ?_) | (refine W_regd ?_) | (refine W_block ?_) | (refine And.intro (by omega) ?_) | simp (config := {maxSteps := 1000000}) (disch := omega) only [cA, cB, lk, lkH, Dst.onT, Dst.onX, Dst.slot, setF, setH, mapF, mapH, initF, binE, unE, cnt, boundE, newsE, freshE, opE, rmH, blkQ, frz_us, Nat.reduceEqDiff, Nat.reduceLT, Nat.reduceAdd, ↓reduceIte, reduceCtorEq, Nat.reduceLeDiff, dj])
                      refine W_cond rfl (fun h => by cases h) (fun _ => W_exit ?_)
                      repeat (first | (refine W_seq ?_) | (refine W_reg ?_) | (refine W_regd ?_) | (refine W_block ?_) | (refine And.intro (by omega) ?_) | simp (config := {maxSteps := 1000000}) (disch := omega) only [cA, cB, lk, lkH, Dst.onT, Dst.onX, Dst.slot, setF, setH, mapF, mapH, initF, binE, unE, cnt, boundE, newsE, freshE, opE, rmH, blkQ, frz_us, Nat.reduceEqDiff, Nat.reduceLT, Nat.reduceAdd, ↓reduceIte, reduceCtorEq, Nat.reduceLeDiff, u9, us_rfd] | (refine callC_pure (ct) rfl ?_) | (refine callC_pure (cf) rfl ?_) | (refine callC_pure (ca) rfl ?_) | exact W_ret (RetP_1 (.imm rfl)) | exact W_ret (RetP_c rfl rfl rfl (.imm rfl)))
                      exact ⟨(l.length % 9), And.intro he2 (And.intro halle.out (.inr he5)), by omega, by simp [subF, lk]⟩
                    · rw [e] at ct ⊢
                      repeat (first | (refine W_seq ?_) | (refine W_reg ?_) | (refine W_regd ?_) | (refine W_block ?_) | (refine And.intro (by omega) ?_) | simp (config := {maxSteps := 1000000}) (disch := omega) only [cA, cB, lk, lkH, Dst.onT, Dst.onX, Dst.slot, setF, setH, mapF, mapH, initF, binE, unE, cnt, boundE, newsE, freshE, opE, rmH, blkQ, frz_us, Nat.reduceEqDiff, Nat.reduceLT, Nat.reduceAdd, ↓reduceIte, reduceCtorEq, Nat.reduceLeDiff, dj])
                      refine W_cond rfl (fun h => by cases h) (fun _ => W_exit ?_)
                      repeat (first | (refine W_seq ?_) | (refine W_reg ?_) | (refine W_regd ?_) | (refine W_block ?_) | (refine And.intro (by omega) ?_) | simp (config := {maxSteps := 1000000}) (disch := omega) only [cA, cB, lk, lkH, Dst.onT, Dst.onX, Dst.slot, setF, setH, mapF, mapH, initF, binE, unE, cnt, boundE, newsE, freshE, opE, rmH, blkQ, frz_us, Nat.reduceEqDiff, Nat.reduceLT, Nat.reduceAdd, ↓reduceIte, reduceCtorEq, Nat.reduceLeDiff, u9, us_rfd] | (refine callC_pure (ct) rfl ?_) | (refine callC_pure (cf) rfl ?_) | (refine callC_pure (ca) rfl ?_) | exact W_ret (RetP_1 (.imm rfl)) | exact W_ret (RetP_c rfl rfl rfl (.imm rfl)))
                      exact ⟨(l.length % 9), And.intro he2 (And.intro halle.out (.inr he5)), by omega, by simp [subF, lk]⟩
              · have df : decide ((0 : Int) < (l.length % 9 : Nat)) = false := decide_eq_false (by omega)
                have he1 : i < i + 9 := by omega
                have he2 : i + 9 ≤ l.length := by omega
                have he4 : i = 0 ∨ i + 9 - i = 9 := .inl hi0
                have he3 : i + 9 - i ≤ 9 := by omega
                have he5 : (l.length - (i + 9)) % 9 = 0 := by omega
                have ei9 : (i : Int) + 9 = ((i + 9 : Nat) : Int) := by omega
                have te : ((i + 9 : Nat) : Int).toNat = i + 9 := Int.toNat_natCast _
                repeat (first | (refine W_seq ?_) | (refine W_reg ?_) | (refine W_regd ?_) | (refine W_block ?_) | (refine And.intro (by omega) ?_) | simp (config := {maxSteps := 1000000}) (disch := omega) only [cA, cB, lk, lkH, Dst.onT, Dst.onX, Dst.slot, setF, setH, mapF, mapH, initF, binE, unE, cnt, boundE, newsE, freshE, opE, rmH, blkQ, frz_us, Nat.reduceEqDiff, Nat.reduceLT, Nat.reduceAdd, ↓reduceIte, reduceCtorEq, Nat.reduceLeDiff, di, df, ei9])
                refine W_cond rfl (fun h => by cases h) (fun _ => W_skip ?_)
                have hg := seg_len (l := l) (at' := i) (e := (i + 9)) he2
                have hseg := take_seg (l := l) (at' := i) (e := (i + 9)) (Nat.le_of_lt he1)
                have hval := dval_seg (l := l) (at' := i) (e := (i + 9)) (Nat.le_of_lt he1) he2 he4
                have hmem : ∀ c ∈ (l.take (i + 9)).drop i, c ∈ l := fun c h => List.mem_of_mem_take (List.mem_of_mem_drop h)
                repeat (first | (refine W_seq ?_) | (refine W_reg ?_) | (refine W_regd ?_) | (refine W_block ?_) | (refine And.intro (by omega) ?_) | simp (config := {maxSteps := 1000000}) (disch := omega) only [cA, cB, lk, lkH, Dst.onT, Dst.onX, Dst.slot, setF, setH, mapF, mapH, initF, binE, unE, cnt, boundE, newsE, freshE, opE, rmH, blkQ, frz_us, Nat.reduceEqDiff, Nat.reduceLT, Nat.reduceAdd, ↓reduceIte, reduceCtorEq, Nat.reduceLeDiff, ti, te])
                generalize (l.take (i + 9)).drop i = g at *
                have hglen : ((g.map byteD).length) = g.length := List.length_map ..
                repeat (first | (refine W_seq ?_) | (refine W_reg ?_) | (refine W_regd ?_) | (refine W_block ?_) | (refine And.intro (by omega) ?_) | simp (config := {maxSteps := 1000000}) (disch := omega) only [cA, cB, lk, lkH, Dst.onT, Dst.onX, Dst.slot, setF, setH, mapF, mapH, initF, binE, unE, cnt, boundE, newsE, freshE, opE, rmH, blkQ, frz_us, Nat.reduceEqDiff, Nat.reduceLT, Nat.reduceAdd, ↓reduceIte, reduceCtorEq, Nat.reduceLeDiff, hglen])
                refine W_loop (σ := Nat) (fun j => [(0, .str l), (2, accD l i), (3, .bool false), (4, .int .i64 (l.length % 9 : Nat)), (5, .int .i64 i), (6, .int .i64 ((i + 9) : Nat)), (47, .sl 1 (g.map byteD)), (48, .int .i64 g.length), (49, .int .i64 j), (7, .int .u64 (dval 0 (g.take j) : Nat))]) (fun _ => []) (fun j => j ≤ g.length ∧ (g.take j).all isD = true) (fun j => g.length - j) 0 (And.intro (Nat.zero_le _) rfl) ?_ rfl ?_
                · simp [subF, lk, dval_nil]
                · rintro j ⟨hj, hgall⟩
                  by_cases hjl : j < g.length
                  · have dj : decide ((j : Int) < g.length) = true := decide_eq_true (by omega)
                    repeat (first | (refine W_seq ?_) | (refine W_reg ?_) | (refine W_regd ?_) | (refine W_block ?_) | (refine And.intro (by omega) ?_) | simp (config := {maxSteps := 1000000}) (disch := omega) only [cA, cB, lk, lkH, Dst.onT, Dst.onX, Dst.slot, setF, setH, mapF, mapH, initF, binE, unE, cnt, boundE, newsE, freshE, opE, rmH, blkQ, frz_us, Nat.reduceEqDiff, Nat.reduceLT, Nat.reduceAdd, ↓reduceIte, reduceCtorEq, Nat.reduceLeDiff, dj])
                    refine W_cond rfl (fun _ => W_skip ?_) (fun h => by cases h)
                    have tj : (j : Int).toNat = j := Int.toNat_natCast j
                    have hg1 := byteD_get hjl
                    have hg2 := byteD_get? hjl
                    have hta := take_all hjl hgall
                    have htd := take_dval hjl
                    have hmc := hmem g[j] (List.getElem_mem hjl)
                    have hv : dval 0 (g.take j) < 1000000000 := Nat.lt_of_lt_of_le (dval_lt _ hgall) (Nat.le_trans (Nat.pow_le_pow_right (by decide) (show (g.take j).length ≤ 9 by rw [List.length_take]; omega)) (by decide))
                    generalize g[j] = c at *
                    generalize dval 0 (g.take j) = v at *
                    have hk : c.toNat < 256 := UInt8.toNat_lt c
                    have j1 : ((j : Int) + 1) = ((j + 1 : Nat) : Int) := by omega
                    clear hval hseg
                    by_cases hd : isD c = true
                    · have hd' := hd
                      simp only [isD, Bool.and_eq_true, decide_eq_true_eq] at hd'
                      have d5 : decide ((c.toNat : Int) < 48) = false := decide_eq_false (by omega)
                      have d6 : decide ((57 : Int) < c.toNat) = false := decide_eq_false (by omega)
                      have e8 : (c.toNat : Int) - 48 = ((c.toNat - 48 : Nat) : Int) := by omega
                      have e10 : 10 * (v : Int) + ((c.toNat - 48 : Nat) : Int) = ((dval 0 (g.take (j + 1)) : Nat) : Int) := by rw [htd]; omega
                      have hta' := hta hd
                      clear hta htd hgall hall hmem
                      (replace hta' := Hid.mk hta')
                      repeat (first | (refine W_seq ?_) | (refine W_reg ?_) | (refine W_regd ?_) | (refine W_block ?_) | (refine And.intro (by omega) ?_) | simp (config := {maxSteps := 1000000}) (disch := omega) only [cA, cB, lk, lkH, Dst.onT, Dst.onX, Dst.slot, setF, setH, mapF, mapH, initF, binE, unE, cnt, boundE, newsE, freshE, opE, rmH, blkQ, frz_us, Nat.reduceEqDiff, Nat.reduceLT, Nat.reduceAdd, ↓reduceIte, reduceCtorEq, Nat.reduceLeDiff, tj, hg1, hg2, d5, d6])
                      refine W_cond rfl (fun h => by cases h) (fun _ => W_skip ?_)
                      repeat (first | (refine W_seq ?_) | (refine W_reg ?_) | (refine W_regd ?_) | (refine W_block ?_) | (refine And.intro (by omega) ?_) | simp (config := {maxSteps := 1000000}) (disch := omega) only [cA, cB, lk, lkH, Dst.onT, Dst.onX, Dst.slot, setF, setH, mapF, mapH, initF, binE, unE, cnt, boundE, newsE, freshE, opE, rmH, blkQ, frz_us, Nat.reduceEqDiff, Nat.reduceLT, Nat.reduceAdd, ↓reduceIte, reduceCtorEq, Nat.reduceLeDiff, e8, e10, j1])
                      exact ⟨j + 1, And.intro hjl hta'.out, by omega, by simp [subF, lk]⟩
                    · have hb : okD l = false := by
                        rw [← Bool.not_eq_true, okD_iff]
                        exact fun h => hd (List.all_eq_true.1 h.2.2.2 c hmc)
                      rw [parseR_bad hb]
                      clear hta htd hall hgall hmem
                      by_cases h5 : c.toNat < 48
                      · have d5 : decide ((c.toNat : Int) < 48) = true := decide_eq_true (by omega)
                        repeat (first | (refine W_seq ?_) | (refine W_reg ?_) | (refine W_regd ?_) | (refine W_block ?_) | (refine And.intro (by omega) ?_) | simp (config := {maxSteps := 1000000}) (disch := omega) only [cA, cB, lk, lkH, Dst.onT, Dst.onX, Dst.slot, setF, setH, mapF, mapH, initF, binE, unE, cnt, boundE, newsE, freshE, opE, rmH, blkQ, frz_us, Nat.reduceEqDiff, Nat.reduceLT, Nat.reduceAdd, ↓reduceIte, reduceCtorEq, Nat.reduceLeDiff, tj, hg1, hg2, d5])
                        refine W_cond rfl (fun _ => ?_) (fun h => by cases h)
                        repeat (first | (refine W_seq ?_) | (refine W_reg ?_) | (refine W_regd ?_) | (refine W_block ?_) | (refine And.intro (by omega) ?_) | simp (config := {maxSteps := 1000000}) (disch := omega) only [cA, cB, lk, lkH, Dst.onT, Dst.onX, Dst.slot, setF, setH, mapF, mapH, initF, binE, unE, cnt, boundE, newsE, freshE, opE, rmH, blkQ, frz_us, Nat.reduceEqDiff, Nat.reduceLT, Nat.reduceAdd, ↓reduceIte, reduceCtorEq, Nat.reduceLeDiff])
                        exact W_ret (RetP_2 (.nils _) (.imm rfl))
                      · have d5 : decide ((c.toNat : Int) < 48) = false := decide_eq_false (by omega)
                        have d6 : decide ((57 : Int) < c.toNat) = true := decide_eq_true (by
                          simp only [isD, Bool.and_eq_true, decide_eq_true_eq] at hd
                          omega)
                        repeat (first | (refine W_seq ?_) | (refine W_reg ?_) | (refine W_regd ?_) | (refine W_block ?_) | (refine And.intro (by omega) ?_) | simp (config := {maxSteps := 1000000}) (disch := omega) only [cA, cB, lk, lkH, Dst.onT, Dst.onX, Dst.slot, setF, setH, mapF, mapH, initF, binE, unE, cnt, boundE, newsE, freshE, opE, rmH, blkQ, frz_us, Nat.reduceEqDiff, Nat.reduceLT, Nat.reduceAdd, ↓reduceIte, reduceCtorEq, Nat.reduceLeDiff, tj, hg1, hg2, d5, d6])
                        refine W_cond rfl (fun _ => ?_) (fun h => by cases h)
                        repeat (first | (refine W_seq ?_) | (refine W_reg ?_) | (refine W_regd ?_) | (refine W_block ?_) | (refine And.intro (by omega) ?_) | simp (config := {maxSteps := 1000000}) (disch := omega) only [cA, cB, lk, lkH, Dst.onT, Dst.onX, Dst.slot, setF, setH, mapF, mapH, initF, binE, unE, cnt, boundE, newsE, freshE, opE, rmH, blkQ, frz_us, Nat.reduceEqDiff, Nat.reduceLT, Nat.reduceAdd, ↓reduceIte, reduceCtorEq, Nat.reduceLeDiff])
                        exact W_ret (RetP_2 (.nils _) (.imm rfl))
                  · have dj : decide ((j : Int) < g.length) = false := decide_eq_false (by omega)
                    obtain rfl : j = g.length := by omega
                    rw [List.take_length] at hgall ⊢
                    have u9 : [DV.int .u32 1000000000] = us (limbs 1000000000) := by rw [limbs_one (by decide) (by decide)]; rfl
                    have hl9 : (limbs 1000000000).length ≤ 1 := by rw [limbs_one (by decide) (by decide)]; simp
                    have hv : dval 0 g < 1000000000 := Nat.lt_of_lt_of_le (dval_lt _ hgall) (Nat.le_trans (Nat.pow_le_pow_right (by decide) (show g.length ≤ 9 by omega)) (by decide))
                    have hdl := dval_len hall (m := 4000) (by simp; omega)
                    have ct := accD_nMul l i (by omega)
                    have cf := nFromUint_calls (dval 0 g) (by omega)
                    have hm := len_mul hdl hl9
                    have ca := nAddL (dval 0 (l.take i) * 1000000000) (dval 0 g) (by omega) (Nat.le_trans (limbs_len.2 (show dval 0 g < 4294967296 ^ 1 by omega)) (by decide))
                    rw [hval] at ca
                    have hac : accD l (i + 9) = .sl 1 (us (limbs (dval 0 (l.take (i + 9))))) := by unfold accD; rw [if_neg (by omega)]
                    rw [← hac] at ca
                    have halle : (l.take (i + 9)).all isD = true := by rw [hseg, List.all_append, hall, hgall]; rfl
                    have hacc := accD_cases l i
                    clear hval hseg hall hgall hm hdl hl9 hac hmem
                    (replace halle := Hid.mk halle)
                    rcases hacc with e | ⟨xs, e⟩
                    · rw [e] at ct ⊢
                      repeat (first | (refine W_seq ?_) | (refine W_reg ?_) | (refine W_regd ?_) | (refine W_block ?_) | (refine And.intro (by omega) ?_) | simp (config := {maxSteps := 1000000}) (disch := omega) only [cA, cB, lk, lkH, Dst.onT, Dst.onX, Dst.slot, setF, setH, mapF, mapH, initF, binE, unE, cnt, boundE, newsE, freshE, opE, rmH, blkQ, frz_us, Nat.reduceEqDiff, Nat.reduceLT, Nat.reduceAdd, ↓reduceIte, reduceCtorEq, Nat.reduceLeDiff, dj])
                      refine W_cond rfl (fun h => by cases h) (fun _ => W_exit ?_)
                      repeat (first | (refine W_seq ?_) | (refine W_reg ?_) | (refine W_regd ?_) | (refine W_block ?_) | (refine And.intro (by omega) ?_) | simp (config := {maxSteps := 1000000}) (disch := omega) only [cA, cB, lk, lkH, Dst.onT, Dst.onX, Dst.slot, setF, setH, mapF, mapH, initF, binE, unE, cnt, boundE, newsE, freshE, opE, rmH, blkQ, frz_us, Nat.reduceEqDiff, Nat.reduceLT, Nat.reduceAdd, ↓reduceIte, reduceCtorEq, Nat.reduceLeDiff, u9, us_rfd] | (refine callC_pure (ct) rfl ?_) | (refine callC_pure (cf) rfl ?_) | (refine callC_pure (ca) rfl ?_) | exact W_ret (RetP_1 (.imm rfl)) | exact W_ret (RetP_c rfl rfl rfl (.imm rfl)))
                      exact ⟨(i + 9), And.intro he2 (And.intro halle.out (.inr he5)), by omega, by simp [subF, lk]⟩
                    · rw [e] at ct ⊢
                      repeat (first | (refine W_seq ?_) | (refine W_reg ?_) | (refine W_regd ?_) | (refine W_block ?_) | (refine And.intro (by omega) ?_) | simp (config := {maxSteps := 1000000}) (disch := omega) only [cA, cB, lk, lkH, Dst.onT, Dst.onX, Dst.slot, setF, setH, mapF, mapH, initF, binE, unE, cnt, boundE, newsE, freshE, opE, rmH, blkQ, frz_us, Nat.reduceEqDiff, Nat.reduceLT, Nat.reduceAdd, ↓reduceIte, reduceCtorEq, Nat.reduceLeDiff, dj])
                      refine W_cond rfl (fun h => by cases h) (fun _ => W_exit ?_)
                      repeat (first | (refine W_seq ?_) | (refine W_reg ?_) | (refine W_regd ?_) | (refine W_block ?_) | (refine And.intro (by omega) ?_) | simp (config := {maxSteps := 1000000}) (disch := omega) only [cA, cB, lk, lkH, Dst.onT, Dst.onX, Dst.slot, setF, setH, mapF, mapH, initF, binE, unE, cnt, boundE, newsE, freshE, opE, rmH, blkQ, frz_us, Nat.reduceEqDiff, Nat.reduceLT, Nat.reduceAdd, ↓reduceIte, reduceCtorEq, Nat.reduceLeDiff, u9, us_rfd] | (refine callC_pure (ct) rfl ?_) | (refine callC_pure (cf) rfl ?_) | (refine callC_pure (ca) rfl ?_) | exact W_ret (RetP_1 (.imm rfl)) | exact W_ret (RetP_c rfl rfl rfl (.imm rfl)))
                      exact ⟨(i + 9), And.intro he2 (And.intro halle.out (.inr he5)), by omega, by simp [subF, lk]⟩
            · have di : decide ((i : Int) = 0) = false := decide_eq_false (by omega)
              have he1 : i < i + 9 := by omega
              have he2 : i + 9 ≤ l.length := by omega
              have he4 : i = 0 ∨ i + 9 - i = 9 := .inr (by omega)
              have he3 : i + 9 - i ≤ 9 := by omega
              have he5 : (l.length - (i + 9)) % 9 = 0 := by omega
              have ei9 : (i : Int) + 9 = ((i + 9 : Nat) : Int) := by omega
              have te : ((i + 9 : Nat) : Int).toNat = i + 9 := Int.toNat_natCast _
              repeat (first | (refine W_seq ?_) | (refine W_reg ?_) | (refine W_regd ?_) | (refine W_block ?_) | (refine And.intro (by omega) ?_) | simp (config := {maxSteps := 1000000}) (disch := omega) only [cA, cB, lk, lkH, Dst.onT, Dst.onX, Dst.slot, setF, setH, mapF, mapH, initF, binE, unE, cnt, boundE, newsE, freshE, opE, rmH, blkQ, frz_us, Nat.reduceEqDiff, Nat.reduceLT, Nat.reduceAdd, ↓reduceIte, reduceCtorEq, Nat.reduceLeDiff, di, ei9])
              refine W_cond rfl (fun h => by cases h) (fun _ => W_skip ?_)
              have hg := seg_len (l := l) (at' := i) (e := (i + 9)) he2
              have hseg := take_seg (l := l) (at' := i) (e := (i + 9)) (Nat.le_of_lt he1)
              have hval := dval_seg (l := l) (at' := i) (e := (i + 9)) (Nat.le_of_lt he1) he2 he4
              have hmem : ∀ c ∈ (l.take (i + 9)).drop i, c ∈ l := fun c h => List.mem_of_mem_take (List.mem_of_mem_drop h)
              repeat (first | (refine W_seq ?_) | (refine W_reg ?_) | (refine W_regd ?_) | (refine W_block ?_) | (refine And.intro (by omega) ?_) | simp (config := {maxSteps := 1000000}) (disch := omega) only [cA, cB, lk, lkH, Dst.onT, Dst.onX, Dst.slot, setF, setH, mapF, mapH, initF, binE, unE, cnt, boundE, newsE, freshE, opE, rmH, blkQ, frz_us, Nat.reduceEqDiff, Nat.reduceLT, Nat.reduceAdd, ↓reduceIte, reduceCtorEq, Nat.reduceLeDiff, ti, te])
              generalize (l.take (i + 9)).drop i = g at *
              have hglen : ((g.map byteD).length) = g.length := List.length_map ..
              repeat (first | (refine W_seq ?_) | (refine W_reg ?_) | (refine W_regd ?_) | (refine W_block ?_) | (refine And.intro (by omega) ?_) | simp (config := {maxSteps := 1000000}) (disch := omega) only [cA, cB, lk, lkH, Dst.onT, Dst.onX, Dst.slot, setF, setH, mapF, mapH, initF, binE, unE, cnt, boundE, newsE, freshE, opE, rmH, blkQ, frz_us, Nat.reduceEqDiff, Nat.reduceLT, Nat.reduceAdd, ↓reduceIte, reduceCtorEq, Nat.reduceLeDiff, hglen])
              refine W_loop (σ := Nat) (fun j => [(0, .str l), (2, accD l i), (3, .bool false), (4, .int .i64 (l.length % 9 : Nat)), (5, .int .i64 i), (6, .int .i64 ((i + 9) : Nat)), (47, .sl 1 (g.map byteD)), (48, .int .i64 g.length), (49, .int .i64 j), (7, .int .u64 (dval 0 (g.take j) : Nat))]) (fun _ => []) (fun j => j ≤ g.length ∧ (g.take j).all isD = true) (fun j => g.length - j) 0 (And.intro (Nat.zero_le _) rfl) ?_ rfl ?_
              · simp [subF, lk, dval_nil]
              · rintro j ⟨hj, hgall⟩
                by_cases hjl : j < g.length
                · have dj : decide ((j : Int) < g.length) = true := decide_eq_true (by omega)
                  repeat (first | (refine W_seq ?_) | (refine W_reg ?_) | (refine W_regd ?_) | (refine W_block ?_) | (refine And.intro (by omega) ?_) | simp (config := {maxSteps := 1000000}) (disch := omega) only [cA, cB, lk, lkH, Dst.onT, Dst.onX, Dst.slot, setF, setH, mapF, mapH, initF, binE, unE, cnt, boundE, newsE, freshE, opE, rmH, blkQ, frz_us, Nat.reduceEqDiff, Nat.reduceLT, Nat.reduceAdd, ↓reduceIte, reduceCtorEq, Nat.reduceLeDiff, dj])
                  refine W_cond rfl (fun _ => W_skip ?_) (fun h => by cases h)
                  have tj : (j : Int).toNat = j := Int.toNat_natCast j
                  have hg1 := byteD_get hjl
                  have hg2 := byteD_get? hjl
                  have hta := take_all hjl hgall
                  have htd := take_dval hjl
                  have hmc := hmem g[j] (List.getElem_mem hjl)
                  have hv : dval 0 (g.take j) < 1000000000 := Nat.lt_of_lt_of_le (dval_lt _ hgall) (Nat.le_trans (Nat.pow_le_pow_right (by decide) (show (g.take j).length ≤ 9 by rw [List.length_take]; omega)) (by decide))
                  generalize g[j] = c at *
                  generalize dval 0 (g.take j) = v at *
                  have hk : c.toNat < 256 := UInt8.toNat_lt c
                  have j1 : ((j : Int) + 1) = ((j + 1 : Nat) : Int) := by omega
                  clear hval hseg
                  by_cases hd : isD c = true
                  · have hd' := hd
                    simp only [isD, Bool.and_eq_true, decide_eq_true_eq] at hd'
                    have d5 : decide ((c.toNat : Int) < 48) = false := decide_eq_false (by omega)
                    have d6 : decide ((57 : Int) < c.toNat) = false := decide_eq_false (by omega)
                    have e8 : (c.toNat : Int) - 48 = ((c.toNat - 48 : Nat) : Int) := by omega
                    have e10 : 10 * (v : Int) + ((c.toNat - 48 : Nat) : Int) = ((dval 0 (g.take (j + 1)) : Nat) : Int) := by rw [htd]; omega
                    have hta' := hta hd
                    clear hta htd hgall hall hmem
                    (replace hta' := Hid.mk hta')
                    repeat (first | (refine W_seq ?_) | (refine W_reg ?_) | (refine W_regd ?_) | (refine W_block ?_) | (refine And.intro (by omega) ?_) | simp (config := {maxSteps := 1000000}) (disch := omega) only [cA, cB, lk, lkH, Dst.onT, Dst.onX, Dst.slot, setF, setH, mapF, mapH, initF, binE, unE, cnt, boundE, newsE, freshE, opE, rmH, blkQ, frz_us, Nat.reduceEqDiff, Nat.reduceLT, Nat.reduceAdd, ↓reduceIte, reduceCtorEq, Nat.reduceLeDiff, tj, hg1, hg2, d5, d6])
                    refine W_cond rfl (fun h => by cases h) (fun _ => W_skip ?_)
                    repeat (first | (refine W_seq ?_) | (refine W_reg ?_) | (refine W_regd ?_) | (refine W_block ?_) | (refine And.intro (by omega) ?_) | simp (config := {maxSteps := 1000000}) (disch := omega) only [cA, cB, lk, lkH, Dst.onT, Dst.onX, Dst.slot, setF, setH, mapF, mapH, initF, binE, unE, cnt, boundE, newsE, freshE, opE, rmH, blkQ, frz_us, Nat.reduceEqDiff, Nat.reduceLT, Nat.reduceAdd, ↓reduceIte, reduceCtorEq, Nat.reduceLeDiff, e8, e10, j1])
                    exact ⟨j + 1, And.intro hjl hta'.out, by omega, by simp [subF, lk]⟩
                  · have hb : okD l = false := by
                      rw [← Bool.not_eq_true, okD_iff]
                      exact fun h => hd (List.all_eq_true.1 h.2.2.2 c hmc)
                    rw [parseR_bad hb]
                    clear hta htd hall hgall hmem
                    by_cases h5 : c.toNat < 48
                    · have d5 : decide ((c.toNat : Int) < 48) = true := decide_eq_true (by omega)
                      repeat (first | (refine W_seq ?_) | (refine W_reg ?_) | (refine W_regd ?_) | (refine W_block ?_) | (refine And.intro (by omega) ?_) | simp (config := {maxSteps := 1000000}) (disch := omega) only [cA, cB, lk, lkH, Dst.onT, Dst.onX, Dst.slot, setF, setH, mapF, mapH, initF, binE, unE, cnt, boundE, newsE, freshE, opE, rmH, blkQ, frz_us, Nat.reduceEqDiff, Nat.reduceLT, Nat.reduceAdd, ↓reduceIte, reduceCtorEq, Nat.reduceLeDiff, tj, hg1, hg2, d5])
                      refine W_cond rfl (fun _ => ?_) (fun h => by cases h)
                      repeat (first | (refine W_seq ?_) | (refine W_reg ?_) | (refine W_regd ?_) | (refine W_block ?_) | (refine And.intro (by omega) ?_) | simp (config := {maxSteps := 1000000}) (disch := omega) only [cA, cB, lk, lkH, Dst.onT, Dst.onX, Dst.slot, setF, setH, mapF, mapH, initF, binE, unE, cnt, boundE, newsE, freshE, opE, rmH, blkQ, frz_us, Nat.reduceEqDiff, Nat.reduceLT, Nat.reduceAdd, ↓reduceIte, reduceCtorEq, Nat.reduceLeDiff])
                      exact W_ret (RetP_2 (.nils _) (.imm rfl))
                    · have d5 : decide ((c.toNat : Int) < 48) = false := decide_eq_false (by omega)
                      have d6 : decide ((57 : Int) < c.toNat) = true := decide_eq_true (by
                        simp only [isD, Bool.and_eq_true, decide_eq_true_eq] at hd
                        omega)
                      repeat (first | (refine W_seq ?_) | (refine W_reg ?_) | (refine W_regd ?_) | (refine W_block ?_) | (refine And.intro (by omega) ?_) | simp (config := {maxSteps := 1000000}) (disch := omega) only [cA, cB, lk, lkH, Dst.onT, Dst.onX, Dst.slot, setF, setH, mapF, mapH, initF, binE, unE, cnt, boundE, newsE, freshE, opE, rmH, blkQ, frz_us, Nat.reduceEqDiff, Nat.reduceLT, Nat.reduceAdd, ↓reduceIte, reduceCtorEq, Nat.reduceLeDiff, tj, hg1, hg2, d5, d6])
                      refine W_cond rfl (fun _ => ?_) (fun h => by cases h)
                      repeat (first | (refine W_seq ?_) | (refine W_reg ?_) | (refine W_regd ?_) | (refine W_block ?_) | (refine And.intro (by omega) ?_) | simp (config := {maxSteps := 1000000}) (disch := omega) only [cA, cB, lk, lkH, Dst.onT, Dst.onX, Dst.slot, setF, setH, mapF, mapH, initF, binE, unE, cnt, boundE, newsE, freshE, opE, rmH, blkQ, frz_us, Nat.reduceEqDiff, Nat.reduceLT, Nat.reduceAdd, ↓reduceIte, reduceCtorEq, Nat.reduceLeDiff])
                      exact W_ret (RetP_2 (.nils _) (.imm rfl))
                · have dj : decide ((j : Int) < g.length) = false := decide_eq_false (by omega)
                  obtain rfl : j = g.length := by omega
                  rw [List.take_length] at hgall ⊢
                  have u9 : [DV.int .u32 1000000000] = us (limbs 1000000000) := by rw [limbs_one (by decide) (by decide)]; rfl
                  have hl9 : (limbs 1000000000).length ≤ 1 := by rw [limbs_one (by decide) (by decide)]; simp
                  have hv : dval 0 g < 1000000000 := Nat.lt_of_lt_of_le (dval_lt _ hgall) (Nat.le_trans (Nat.pow_le_pow_right (by decide) (show g.length ≤ 9 by omega)) (by decide))
                  have hdl := dval_len hall (m := 4000) (by simp; omega)
                  have ct := accD_nMul l i (by omega)
                  have cf := nFromUint_calls (dval 0 g) (by omega)
                  have hm := len_mul hdl hl9
                  have ca := nAddL (dval 0 (l.take i) * 1000000000) (dval 0 g) (by omega) (Nat.le_trans (limbs_len.2 (show dval 0 g < 4294967296 ^ 1 by omega)) (by decide))
                  rw [hval] at ca
                  have hac : accD l (i + 9) = .sl 1 (us (limbs (dval 0 (l.take (i + 9))))) := by unfold accD; rw [if_neg (by omega)]
                  rw [← hac] at ca
                  have halle : (l.take (i + 9)).all isD = true := by rw [hseg, List.all_append, hall, hgall]; rfl
                  have hacc := accD_cases l i
                  clear hval hseg hall hgall hm hdl hl9 hac hmem
                  (replace halle := Hid.mk halle)
                  rcases hacc with e | ⟨xs, e⟩
                  · rw [e] at ct ⊢
                    repeat (first | (refine W_seq ?_) | (refine W_reg ?_) | (refine W_regd ?_) | (refine W_block ?_) | (refine And.intro (by omega) ?_) | simp (config := {maxSteps := 1000000}) (disch := omega) only [cA, cB, lk, lkH, Dst.onT, Dst.onX, Dst.slot, setF, setH, mapF, mapH, initF, binE, unE, cnt, boundE, newsE, freshE, opE, rmH, blkQ, frz_us, Nat.reduceEqDiff, Nat.reduceLT, Nat.reduceAdd, ↓reduceIte, reduceCtorEq, Nat.reduceLeDiff, dj])
                    refine W_cond rfl (fun h => by cases h) (fun _ => W_exit ?_)
                    repeat (first | (refine W_seq ?_) | (refine W_reg ?_) | (refine W_regd ?_) | (refine W_block ?_) | (refine And.intro (by omega) ?_) | simp (config := {maxSteps := 1000000}) (disch := omega) only [cA, cB, lk, lkH, Dst.onT, Dst.onX, Dst.slot, setF, setH, mapF, mapH, initF, binE, unE, cnt, boundE, newsE, freshE, opE, rmH, blkQ, frz_us, Nat.reduceEqDiff, Nat.reduceLT, Nat.reduceAdd, ↓reduceIte, reduceCtorEq, Nat.reduceLeDiff, u9, us_rfd] | (refine callC_pure (ct) rfl ?_) | (refine callC_pure (cf) rfl ?_) | (refine callC_pure (ca) rfl ?_) | exact W_ret (RetP_1 (.imm rfl)) | exact W_ret (RetP_c rfl rfl rfl (.imm rfl)))
                    exact ⟨(i + 9), And.intro he2 (And.intro halle.out (.inr he5)), by omega, by simp [subF, lk]⟩
                  · rw [e] at ct ⊢
                    repeat (first | (refine W_seq ?_) | (refine W_reg ?_) | (refine W_regd ?_) | (refine W_block ?_) | (refine And.intro (by omega) ?_) | simp (config := {maxSteps := 1000000}) (disch := omega) only [cA, cB, lk, lkH, Dst.onT, Dst.onX, Dst.slot, setF, setH, mapF, mapH, initF, binE, unE, cnt, boundE, newsE, freshE, opE, rmH, blkQ, frz_us, Nat.reduceEqDiff, Nat.reduceLT, Nat.reduceAdd, ↓reduceIte, reduceCtorEq, Nat.reduceLeDiff, dj])
                    refine W_cond rfl (fun h => by cases h) (fun _ => W_exit ?_)
                    repeat (first | (refine W_seq ?_) | (refine W_reg ?_) | (refine W_regd ?_) | (refine W_block ?_) | (refine And.intro (by omega) ?_) | simp (config := {maxSteps := 1000000}) (disch := omega) only [cA, cB, lk, lkH, Dst.onT, Dst.onX, Dst.slot, setF, setH, mapF, mapH, initF, binE, unE, cnt, boundE, newsE, freshE, opE, rmH, blkQ, frz_us, Nat.reduceEqDiff, Nat.reduceLT, Nat.reduceAdd, ↓reduceIte, reduceCtorEq, Nat.reduceLeDiff, u9, us_rfd] | (refine callC_pure (ct) rfl ?_) | (refine callC_pure (cf) rfl ?_) | (refine callC_pure (ca) rfl ?_) | exact W_ret (RetP_1 (.imm rfl)) | exact W_ret (RetP_c rfl rfl rfl (.imm rfl)))
                    exact ⟨(i + 9), And.intro he2 (And.intro halle.out (.inr he5)), by omega, by simp [subF, lk]⟩
          · have hil : i = l.length := by omega
            subst hil
            have dl : decide ((l.length : Int) < l.length) = false := decide_eq_false (by omega)
            rw [List.take_length] at hall
            have hb : okD l = true := (okD_iff l).2 ⟨hn, by omega, hz, hall⟩
            have hr : parseR l = .tup [.sl 1 (us (limbs (dval 0 l))), .bool true] := by unfold parseR; rw [hb]; rfl
            have hac : accD l l.length = .sl 1 (us (limbs (dval 0 l))) := by unfold accD; rw [if_neg (by omega), List.take_length]
            rw [hr, hac]
            repeat (first | (refine W_seq ?_) | (refine W_reg ?_) | (refine W_regd ?_) | (refine W_block ?_) | (refine And.intro (by omega) ?_) | simp (config := {maxSteps := 1000000}) (disch := omega) only [cA, cB, lk, lkH, Dst.onT, Dst.onX, Dst.slot, setF, setH, mapF, mapH, initF, binE, unE, cnt, boundE, newsE, freshE, opE, rmH, blkQ, frz_us, Nat.reduceEqDiff, Nat.reduceLT, Nat.reduceAdd, ↓reduceIte, reduceCtorEq, Nat.reduceLeDiff, dl])
            refine W_cond rfl (fun h => by cases h) (fun _ => W_exit ?_)
            repeat (first | (refine W_seq ?_) | (refine W_reg ?_) | (refine W_regd ?_) | (refine W_block ?_) | (refine And.intro (by omega) ?_) | simp (config := {maxSteps := 1000000}) (disch := omega) only [cA, cB, lk, lkH, Dst.onT, Dst.onX, Dst.slot, setF, setH, mapF, mapH, initF, binE, unE, cnt, boundE, newsE, freshE, opE, rmH, blkQ, frz_us, Nat.reduceEqDiff, Nat.reduceLT, Nat.reduceAdd, ↓reduceIte, reduceCtorEq, Nat.reduceLeDiff])
            exact W_ret (RetP_2 (.imm rfl) (.imm rfl))
end Go.Proofs.YtecilkmigjbfoaaDoor
namespace Go.Proofs.YtecilkmigjbfoaaDoor
open Go Go.Dat Go.Proofs Nat32

theorem beq_self_b (b : Bool) : (b == b) = true := by cases b <;> rfl
theorem lim0 : lim [] := lim_nil
theorem light_true {a : List Nat} (h : a.length ≤ 12) : PCalls Tryd.prog 5 [.sl 1 (us a)] (.bool true) := by
  have := light_calls a
  rwa [decide_eq_true h] at this
theorem light_false {a : List Nat} (h : ¬ a.length ≤ 12) : PCalls Tryd.prog 5 [.sl 1 (us a)] (.bool false) := by
  have := light_calls a
  rwa [decide_eq_false h] at this
end Go.Proofs.YtecilkmigjbfoaaDoor
namespace Go.Proofs.YtecilkmigjbfoaaDoor
open Go Go.Dat Go.Proofs Nat32
open Go.Lib (decDigits)

theorem okD_ddN {n : Nat} (h : (decDigits n).length ≤ 4000) : okD (decDigits n) = true := by
  refine (okD_iff _).2 ⟨dd_ne n, h, ?_, all_dd n⟩
  rintro ⟨h1, h2⟩
  by_cases h0 : n = 0
  · subst h0
    rw [dd_lt (by decide)] at h2
    simp at h2
  · exact head_dd (Nat.pos_of_ne_zero h0) h1
theorem parseR_ok {l : List UInt8} (h : okD l = true) : parseR l = .tup [.sl 1 (us (limbs (dval 0 l))), .bool true] := by unfold parseR; rw [h]; rfl
theorem dd_back {l : List UInt8} (h : okD l = true) : decDigits (dval 0 l) = l := by
  obtain ⟨h1, h2, h3, h4⟩ := (okD_iff l).1 h
  refine (dd_dval l h1 h4 ?_).1
  by_cases e : l.length = 1
  · exact .inl e
  · refine .inr fun hh => h3 ⟨hh, ?_⟩
    have := List.length_pos_iff.2 h1
    omega
set_option maxHeartbeats 4000000 in
theorem lwWrites_calls (a : List Nat) (l : List UInt8) (la : lim a) : PCalls Tryd.prog 3 [.sl 1 (us a), .str l] (.bool true) := by
  refine PCalls_of islwNaturalWrites (by simp [fnlwNaturalWrites]) ?_
  unfold codelwNaturalWrites
  by_cases h1 : a.length ≤ 12
  · have p1 := nParse_calls l
    have p2 := rParse_calls l
    have f1 := nFormat_calls a (by omega) la
    have f2 := rFormat_calls a (by omega) la
    have hs : ∀ (h : okD l = true), PCalls Tryd.prog 11 [.sl 1 (us (limbs (dval 0 l))), .sl 1 (us (limbs (dval 0 l)))] (.bool true) := fun h =>
      sameL _ _ rfl (Nat.le_trans (dval_len ((okD_iff l).1 h).2.2.2 ((okD_iff l).1 h).2.1) (by decide))
    have s0 := sameL 0 0 rfl (by rw [limbs_zero]; simp)
    rw [limbs_zero] at s0
    generalize decDigits (vn a) = D at *
    by_cases h2 : 100 < l.length
    · have d2 : decide ((100 : Int) < l.length) = true := decide_eq_true (by omega)
      by_cases h3 : l.length ≤ 4000
      · have d3 : decide ((l.length : Int) ≤ 4000) = true := decide_eq_true (by omega)
        repeat (first | (refine W_seq ?_) | (refine W_reg ?_) | (refine W_regd ?_) | (refine W_block ?_) | (refine And.intro (by omega) ?_) | simp (config := {maxSteps := 1000000}) (disch := omega) only [cA, cB, lk, lkH, Dst.onT, Dst.onX, Dst.slot, setF, setH, mapF, mapH, initF, binE, unE, cnt, boundE, newsE, freshE, opE, rmH, blkQ, frz_us, Nat.reduceEqDiff, Nat.reduceLT, Nat.reduceAdd, ↓reduceIte, reduceCtorEq, Nat.reduceLeDiff, d2, d3] | (refine callC_pure (light_true h1) rfl ?_) | exact W_ret (RetP_1 (.imm rfl)) | exact W_ret (RetP_c rfl rfl rfl (.imm rfl)))
        refine W_cond rfl (fun _ => ?_) (fun h => by cases h)
        repeat (first | (refine W_seq ?_) | (refine W_reg ?_) | (refine W_regd ?_) | (refine W_block ?_) | (refine And.intro (by omega) ?_) | simp (config := {maxSteps := 1000000}) (disch := omega) only [cA, cB, lk, lkH, Dst.onT, Dst.onX, Dst.slot, setF, setH, mapF, mapH, initF, binE, unE, cnt, boundE, newsE, freshE, opE, rmH, blkQ, frz_us, Nat.reduceEqDiff, Nat.reduceLT, Nat.reduceAdd, ↓reduceIte, reduceCtorEq, Nat.reduceLeDiff] | (refine callC_pure (awake_calls) rfl ?_) | exact W_ret (RetP_1 (.imm rfl)) | exact W_ret (RetP_c rfl rfl rfl (.imm rfl)))
      · have d3 : decide ((l.length : Int) ≤ 4000) = false := decide_eq_false (by omega)
        by_cases h4 : 4010 < l.length
        · have d4 : decide ((4010 : Int) < l.length) = true := decide_eq_true (by omega)
          repeat (first | (refine W_seq ?_) | (refine W_reg ?_) | (refine W_regd ?_) | (refine W_block ?_) | (refine And.intro (by omega) ?_) | simp (config := {maxSteps := 1000000}) (disch := omega) only [cA, cB, lk, lkH, Dst.onT, Dst.onX, Dst.slot, setF, setH, mapF, mapH, initF, binE, unE, cnt, boundE, newsE, freshE, opE, rmH, blkQ, frz_us, Nat.reduceEqDiff, Nat.reduceLT, Nat.reduceAdd, ↓reduceIte, reduceCtorEq, Nat.reduceLeDiff, d2, d3, d4] | (refine callC_pure (light_true h1) rfl ?_) | exact W_ret (RetP_1 (.imm rfl)) | exact W_ret (RetP_c rfl rfl rfl (.imm rfl)))
          refine W_cond rfl (fun _ => ?_) (fun h => by cases h)
          repeat (first | (refine W_seq ?_) | (refine W_reg ?_) | (refine W_regd ?_) | (refine W_block ?_) | (refine And.intro (by omega) ?_) | simp (config := {maxSteps := 1000000}) (disch := omega) only [cA, cB, lk, lkH, Dst.onT, Dst.onX, Dst.slot, setF, setH, mapF, mapH, initF, binE, unE, cnt, boundE, newsE, freshE, opE, rmH, blkQ, frz_us, Nat.reduceEqDiff, Nat.reduceLT, Nat.reduceAdd, ↓reduceIte, reduceCtorEq, Nat.reduceLeDiff] | (refine callC_pure (awake_calls) rfl ?_) | exact W_ret (RetP_1 (.imm rfl)) | exact W_ret (RetP_c rfl rfl rfl (.imm rfl)))
        · have d4 : decide ((4010 : Int) < l.length) = false := decide_eq_false (by omega)
          repeat (first | (refine W_seq ?_) | (refine W_reg ?_) | (refine W_regd ?_) | (refine W_block ?_) | (refine And.intro (by omega) ?_) | simp (config := {maxSteps := 1000000}) (disch := omega) only [cA, cB, lk, lkH, Dst.onT, Dst.onX, Dst.slot, setF, setH, mapF, mapH, initF, binE, unE, cnt, boundE, newsE, freshE, opE, rmH, blkQ, frz_us, Nat.reduceEqDiff, Nat.reduceLT, Nat.reduceAdd, ↓reduceIte, reduceCtorEq, Nat.reduceLeDiff, d2, d3, d4] | (refine callC_pure (light_true h1) rfl ?_) | exact W_ret (RetP_1 (.imm rfl)) | exact W_ret (RetP_c rfl rfl rfl (.imm rfl)))
          refine W_cond rfl (fun h => by cases h) (fun _ => W_skip ?_)
          have ho : okD l = false := by
            rw [← Bool.not_eq_true, okD_iff]
            exact fun h => by omega
          rw [parseR_bad ho] at p1 p2
          clear hs
          repeat (first | (refine W_seq ?_) | (refine W_reg ?_) | (refine W_regd ?_) | (refine W_block ?_) | (refine And.intro (by omega) ?_) | simp (config := {maxSteps := 1000000}) (disch := omega) only [cA, cB, lk, lkH, Dst.onT, Dst.onX, Dst.slot, setF, setH, mapF, mapH, initF, binE, unE, cnt, boundE, newsE, freshE, opE, rmH, blkQ, frz_us, Nat.reduceEqDiff, Nat.reduceLT, Nat.reduceAdd, ↓reduceIte, reduceCtorEq, Nat.reduceLeDiff, decide_true, beq_self_eq_true] | (refine callC_pure (awake_calls) rfl ?_) | (refine callC_pure (p1) rfl ?_) | (refine callC_pure (p2) rfl ?_) | (refine callC_pure (f1) rfl ?_) | (refine callC_pure (f2) rfl ?_) | (refine callC_pure (s0) rfl ?_) | exact W_ret (RetP_1 (.imm rfl)) | exact W_ret (RetP_c rfl rfl rfl (.imm rfl)))
    · have d2 : decide ((100 : Int) < l.length) = false := decide_eq_false (by omega)
      repeat (first | (refine W_seq ?_) | (refine W_reg ?_) | (refine W_regd ?_) | (refine W_block ?_) | (refine And.intro (by omega) ?_) | simp (config := {maxSteps := 1000000}) (disch := omega) only [cA, cB, lk, lkH, Dst.onT, Dst.onX, Dst.slot, setF, setH, mapF, mapH, initF, binE, unE, cnt, boundE, newsE, freshE, opE, rmH, blkQ, frz_us, Nat.reduceEqDiff, Nat.reduceLT, Nat.reduceAdd, ↓reduceIte, reduceCtorEq, Nat.reduceLeDiff, d2] | (refine callC_pure (light_true h1) rfl ?_) | exact W_ret (RetP_1 (.imm rfl)) | exact W_ret (RetP_c rfl rfl rfl (.imm rfl)))
      refine W_cond rfl (fun h => by cases h) (fun _ => W_skip ?_)
      by_cases ho : okD l = true
      · rw [parseR_ok ho] at p1 p2
        have hs' := hs ho
        clear hs
        repeat (first | (refine W_seq ?_) | (refine W_reg ?_) | (refine W_regd ?_) | (refine W_block ?_) | (refine And.intro (by omega) ?_) | simp (config := {maxSteps := 1000000}) (disch := omega) only [cA, cB, lk, lkH, Dst.onT, Dst.onX, Dst.slot, setF, setH, mapF, mapH, initF, binE, unE, cnt, boundE, newsE, freshE, opE, rmH, blkQ, frz_us, Nat.reduceEqDiff, Nat.reduceLT, Nat.reduceAdd, ↓reduceIte, reduceCtorEq, Nat.reduceLeDiff, decide_true, beq_self_eq_true] | (refine callC_pure (awake_calls) rfl ?_) | (refine callC_pure (p1) rfl ?_) | (refine callC_pure (p2) rfl ?_) | (refine callC_pure (f1) rfl ?_) | (refine callC_pure (f2) rfl ?_) | (refine callC_pure (hs') rfl ?_) | exact W_ret (RetP_1 (.imm rfl)) | exact W_ret (RetP_c rfl rfl rfl (.imm rfl)))
      · rw [parseR_bad (by simpa using ho)] at p1 p2
        clear hs
        repeat (first | (refine W_seq ?_) | (refine W_reg ?_) | (refine W_regd ?_) | (refine W_block ?_) | (refine And.intro (by omega) ?_) | simp (config := {maxSteps := 1000000}) (disch := omega) only [cA, cB, lk, lkH, Dst.onT, Dst.onX, Dst.slot, setF, setH, mapF, mapH, initF, binE, unE, cnt, boundE, newsE, freshE, opE, rmH, blkQ, frz_us, Nat.reduceEqDiff, Nat.reduceLT, Nat.reduceAdd, ↓reduceIte, reduceCtorEq, Nat.reduceLeDiff, decide_true, beq_self_eq_true] | (refine callC_pure (awake_calls) rfl ?_) | (refine callC_pure (p1) rfl ?_) | (refine callC_pure (p2) rfl ?_) | (refine callC_pure (f1) rfl ?_) | (refine callC_pure (f2) rfl ?_) | (refine callC_pure (s0) rfl ?_) | exact W_ret (RetP_1 (.imm rfl)) | exact W_ret (RetP_c rfl rfl rfl (.imm rfl)))
  · repeat (first | (refine W_seq ?_) | (refine W_reg ?_) | (refine W_regd ?_) | (refine W_block ?_) | (refine And.intro (by omega) ?_) | simp (config := {maxSteps := 1000000}) (disch := omega) only [cA, cB, lk, lkH, Dst.onT, Dst.onX, Dst.slot, setF, setH, mapF, mapH, initF, binE, unE, cnt, boundE, newsE, freshE, opE, rmH, blkQ, frz_us, Nat.reduceEqDiff, Nat.reduceLT, Nat.reduceAdd, ↓reduceIte, reduceCtorEq, Nat.reduceLeDiff] | (refine callC_pure (light_false h1) rfl ?_) | exact W_ret (RetP_1 (.imm rfl)) | exact W_ret (RetP_c rfl rfl rfl (.imm rfl)))
    refine W_cond rfl (fun _ => ?_) (fun h => by cases h)
    repeat (first | (refine W_seq ?_) | (refine W_reg ?_) | (refine W_regd ?_) | (refine W_block ?_) | (refine And.intro (by omega) ?_) | simp (config := {maxSteps := 1000000}) (disch := omega) only [cA, cB, lk, lkH, Dst.onT, Dst.onX, Dst.slot, setF, setH, mapF, mapH, initF, binE, unE, cnt, boundE, newsE, freshE, opE, rmH, blkQ, frz_us, Nat.reduceEqDiff, Nat.reduceLT, Nat.reduceAdd, ↓reduceIte, reduceCtorEq, Nat.reduceLeDiff] | (refine callC_pure (awake_calls) rfl ?_) | exact W_ret (RetP_1 (.imm rfl)) | exact W_ret (RetP_c rfl rfl rfl (.imm rfl)))
set_option maxHeartbeats 4000000 in
theorem lwReadsBack_calls (a : List Nat) (l : List UInt8) (la : lim a) : PCalls Tryd.prog 4 [.sl 1 (us a), .str l] (.bool true) := by
  refine PCalls_of islwNaturalReadsBack (by simp [fnlwNaturalReadsBack]) ?_
  unfold codelwNaturalReadsBack
  by_cases h1 : a.length ≤ 12
  · have cv := rValid_calls a (by omega)
    by_cases hv : vld a = true
    · rw [hv] at cv
      by_cases h2 : 100 < l.length
      · have d2 : decide ((100 : Int) < l.length) = true := decide_eq_true (by omega)
        repeat (first | (refine W_seq ?_) | (refine W_reg ?_) | (refine W_regd ?_) | (refine W_block ?_) | (refine And.intro (by omega) ?_) | simp (config := {maxSteps := 1000000}) (disch := omega) only [cA, cB, lk, lkH, Dst.onT, Dst.onX, Dst.slot, setF, setH, mapF, mapH, initF, binE, unE, cnt, boundE, newsE, freshE, opE, rmH, blkQ, frz_us, Nat.reduceEqDiff, Nat.reduceLT, Nat.reduceAdd, ↓reduceIte, reduceCtorEq, Nat.reduceLeDiff, d2] | (refine callC_pure (light_true h1) rfl ?_) | (refine callC_pure (cv) rfl ?_) | exact W_ret (RetP_1 (.imm rfl)) | exact W_ret (RetP_c rfl rfl rfl (.imm rfl)))
        refine W_cond rfl (fun _ => ?_) (fun h => by cases h)
        repeat (first | (refine W_seq ?_) | (refine W_reg ?_) | (refine W_regd ?_) | (refine W_block ?_) | (refine And.intro (by omega) ?_) | simp (config := {maxSteps := 1000000}) (disch := omega) only [cA, cB, lk, lkH, Dst.onT, Dst.onX, Dst.slot, setF, setH, mapF, mapH, initF, binE, unE, cnt, boundE, newsE, freshE, opE, rmH, blkQ, frz_us, Nat.reduceEqDiff, Nat.reduceLT, Nat.reduceAdd, ↓reduceIte, reduceCtorEq, Nat.reduceLeDiff] | (refine callC_pure (awake_calls) rfl ?_) | exact W_ret (RetP_1 (.imm rfl)) | exact W_ret (RetP_c rfl rfl rfl (.imm rfl)))
      · have d2 : decide ((100 : Int) < l.length) = false := decide_eq_false (by omega)
        repeat (first | (refine W_seq ?_) | (refine W_reg ?_) | (refine W_regd ?_) | (refine W_block ?_) | (refine And.intro (by omega) ?_) | simp (config := {maxSteps := 1000000}) (disch := omega) only [cA, cB, lk, lkH, Dst.onT, Dst.onX, Dst.slot, setF, setH, mapF, mapH, initF, binE, unE, cnt, boundE, newsE, freshE, opE, rmH, blkQ, frz_us, Nat.reduceEqDiff, Nat.reduceLT, Nat.reduceAdd, ↓reduceIte, reduceCtorEq, Nat.reduceLeDiff, d2] | (refine callC_pure (light_true h1) rfl ?_) | (refine callC_pure (cv) rfl ?_) | exact W_ret (RetP_1 (.imm rfl)) | exact W_ret (RetP_c rfl rfl rfl (.imm rfl)))
        refine W_cond rfl (fun h => by cases h) (fun _ => W_skip ?_)
        clear cv
        obtain ⟨x, rfl⟩ := ex_limbs la hv
        have f1 := nFormat_calls (limbs x) (by omega) (lim_limbs _)
        rw [vn_limbs] at f1
        have p1 := nParse_calls (decDigits x)
        rw [parseR_ok (okD_ddN (Nat.le_trans (dd_limbs h1) (by decide))), dval_dd] at p1
        have p2 := nParse_calls l
        have s1 := sameL x x rfl (by omega)
        generalize decDigits x = D at *
        by_cases ho : okD l = true
        · rw [parseR_ok ho] at p2
          have f2 := nFormat_calls (limbs (dval 0 l)) (Nat.le_trans (dval_len ((okD_iff l).1 ho).2.2.2 (show l.length ≤ 100 by omega)) (by decide)) (lim_limbs _)
          rw [vn_limbs, dd_back ho] at f2
          clear hv la
          repeat (first | (refine W_seq ?_) | (refine W_reg ?_) | (refine W_regd ?_) | (refine W_block ?_) | (refine And.intro (by omega) ?_) | simp (config := {maxSteps := 1000000}) (disch := omega) only [cA, cB, lk, lkH, Dst.onT, Dst.onX, Dst.slot, setF, setH, mapF, mapH, initF, binE, unE, cnt, boundE, newsE, freshE, opE, rmH, blkQ, frz_us, Nat.reduceEqDiff, Nat.reduceLT, Nat.reduceAdd, ↓reduceIte, reduceCtorEq, Nat.reduceLeDiff, decide_true, not_true, decide_false] | (refine callC_pure (f1) rfl ?_) | (refine callC_pure (p1) rfl ?_) | (refine callC_pure (p2) rfl ?_) | (refine callC_pure (f2) rfl ?_) | (refine callC_pure (s1) rfl ?_) | exact W_ret (RetP_1 (.imm rfl)) | exact W_ret (RetP_c rfl rfl rfl (.imm rfl)))
          refine W_cond rfl (fun h => by cases h) (fun _ => W_skip ?_)
          repeat (first | (refine W_seq ?_) | (refine W_reg ?_) | (refine W_regd ?_) | (refine W_block ?_) | (refine And.intro (by omega) ?_) | simp (config := {maxSteps := 1000000}) (disch := omega) only [cA, cB, lk, lkH, Dst.onT, Dst.onX, Dst.slot, setF, setH, mapF, mapH, initF, binE, unE, cnt, boundE, newsE, freshE, opE, rmH, blkQ, frz_us, Nat.reduceEqDiff, Nat.reduceLT, Nat.reduceAdd, ↓reduceIte, reduceCtorEq, Nat.reduceLeDiff] | (refine callC_pure (awake_calls) rfl ?_) | exact W_ret (RetP_1 (.imm rfl)) | exact W_ret (RetP_c rfl rfl rfl (.imm rfl)))
        · rw [parseR_bad (by simpa using ho)] at p2
          clear hv la
          repeat (first | (refine W_seq ?_) | (refine W_reg ?_) | (refine W_regd ?_) | (refine W_block ?_) | (refine And.intro (by omega) ?_) | simp (config := {maxSteps := 1000000}) (disch := omega) only [cA, cB, lk, lkH, Dst.onT, Dst.onX, Dst.slot, setF, setH, mapF, mapH, initF, binE, unE, cnt, boundE, newsE, freshE, opE, rmH, blkQ, frz_us, Nat.reduceEqDiff, Nat.reduceLT, Nat.reduceAdd, ↓reduceIte, reduceCtorEq, Nat.reduceLeDiff, decide_true, not_true, decide_false] | (refine callC_pure (f1) rfl ?_) | (refine callC_pure (p1) rfl ?_) | (refine callC_pure (p2) rfl ?_) | (refine callC_pure (s1) rfl ?_) | exact W_ret (RetP_1 (.imm rfl)) | exact W_ret (RetP_c rfl rfl rfl (.imm rfl)))
          refine W_cond rfl (fun h => by cases h) (fun _ => W_skip ?_)
          repeat (first | (refine W_seq ?_) | (refine W_reg ?_) | (refine W_regd ?_) | (refine W_block ?_) | (refine And.intro (by omega) ?_) | simp (config := {maxSteps := 1000000}) (disch := omega) only [cA, cB, lk, lkH, Dst.onT, Dst.onX, Dst.slot, setF, setH, mapF, mapH, initF, binE, unE, cnt, boundE, newsE, freshE, opE, rmH, blkQ, frz_us, Nat.reduceEqDiff, Nat.reduceLT, Nat.reduceAdd, ↓reduceIte, reduceCtorEq, Nat.reduceLeDiff, List.length_nil, decide_true] | (refine callC_pure (awake_calls) rfl ?_) | exact W_ret (RetP_1 (.imm rfl)) | exact W_ret (RetP_c rfl rfl rfl (.imm rfl)))
    · rw [show vld a = false by simpa using hv] at cv
      repeat (first | (refine W_seq ?_) | (refine W_reg ?_) | (refine W_regd ?_) | (refine W_block ?_) | (refine And.intro (by omega) ?_) | simp (config := {maxSteps := 1000000}) (disch := omega) only [cA, cB, lk, lkH, Dst.onT, Dst.onX, Dst.slot, setF, setH, mapF, mapH, initF, binE, unE, cnt, boundE, newsE, freshE, opE, rmH, blkQ, frz_us, Nat.reduceEqDiff, Nat.reduceLT, Nat.reduceAdd, ↓reduceIte, reduceCtorEq, Nat.reduceLeDiff] | (refine callC_pure (light_true h1) rfl ?_) | (refine callC_pure (cv) rfl ?_) | exact W_ret (RetP_1 (.imm rfl)) | exact W_ret (RetP_c rfl rfl rfl (.imm rfl)))
      refine W_cond rfl (fun _ => ?_) (fun h => by cases h)
      repeat (first | (refine W_seq ?_) | (refine W_reg ?_) | (refine W_regd ?_) | (refine W_block ?_) | (refine And.intro (by omega) ?_) | simp (config := {maxSteps := 1000000}) (disch := omega) only [cA, cB, lk, lkH, Dst.onT, Dst.onX, Dst.slot, setF, setH, mapF, mapH, initF, binE, unE, cnt, boundE, newsE, freshE, opE, rmH, blkQ, frz_us, Nat.reduceEqDiff, Nat.reduceLT, Nat.reduceAdd, ↓reduceIte, reduceCtorEq, Nat.reduceLeDiff] | (refine callC_pure (awake_calls) rfl ?_) | exact W_ret (RetP_1 (.imm rfl)) | exact W_ret (RetP_c rfl rfl rfl (.imm rfl)))
  · repeat (first | (refine W_seq ?_) | (refine W_reg ?_) | (refine W_regd ?_) | (refine W_block ?_) | (refine And.intro (by omega) ?_) | simp (config := {maxSteps := 1000000}) (disch := omega) only [cA, cB, lk, lkH, Dst.onT, Dst.onX, Dst.slot, setF, setH, mapF, mapH, initF, binE, unE, cnt, boundE, newsE, freshE, opE, rmH, blkQ, frz_us, Nat.reduceEqDiff, Nat.reduceLT, Nat.reduceAdd, ↓reduceIte, reduceCtorEq, Nat.reduceLeDiff] | (refine callC_pure (light_false h1) rfl ?_) | exact W_ret (RetP_1 (.imm rfl)) | exact W_ret (RetP_c rfl rfl rfl (.imm rfl)))
    refine W_cond rfl (fun _ => ?_) (fun h => by cases h)
    repeat (first | (refine W_seq ?_) | (refine W_reg ?_) | (refine W_regd ?_) | (refine W_block ?_) | (refine And.intro (by omega) ?_) | simp (config := {maxSteps := 1000000}) (disch := omega) only [cA, cB, lk, lkH, Dst.onT, Dst.onX, Dst.slot, setF, setH, mapF, mapH, initF, binE, unE, cnt, boundE, newsE, freshE, opE, rmH, blkQ, frz_us, Nat.reduceEqDiff, Nat.reduceLT, Nat.reduceAdd, ↓reduceIte, reduceCtorEq, Nat.reduceLeDiff] | (refine callC_pure (awake_calls) rfl ?_) | exact W_ret (RetP_1 (.imm rfl)) | exact W_ret (RetP_c rfl rfl rfl (.imm rfl)))
end Go.Proofs.YtecilkmigjbfoaaDoor
