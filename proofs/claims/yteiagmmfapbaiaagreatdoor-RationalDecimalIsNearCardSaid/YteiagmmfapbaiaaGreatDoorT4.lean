/- Lemmas of the walk; no conditions beyond those that each states. -/
import Derived.Test.YteiagmmfapbaiaaGreatDoorProg
import Derived.KernelRfl
import Derived.Test.YteiagmmfapbaiaaGreatDoorT3
import Derived.Test.YteiagmmfapbaiaaGreatDoorT2
import Derived.Test.YteiagmmfapbaiaaGreatDoorD2
import Derived.Test.YteiagmmfapbaiaaGreatDoorC1
import Derived.Test.YteiagmmfapbaiaaGreatDoorN1
set_option linter.unusedSimpArgs false
set_option linter.unusedVariables false
set_option linter.unnecessarySimpa false
namespace Go.Proofs.YteiagmmfapbaiaaGreatDoor
open Go Go.Dat Go.Proofs Nat32
theorem byteD_get {g : List UInt8} {j : Nat} (h : j < g.length) : (g.map byteD).getD j .undef = .int .u8 (g[j].toNat : Nat) := by
  rw [List.getD_eq_getElem?_getD, List.getElem?_map, List.getElem?_eq_getElem h]; rfl
theorem byteD_get? {g : List UInt8} {j : Nat} (h : j < g.length) : (g.map byteD)[j]? = some (.int .u8 (g[j].toNat : Nat)) := by
  rw [List.getElem?_map, List.getElem?_eq_getElem h]; rfl
theorem seg_len {l : List UInt8} {at' e : Nat} (h : e ≤ l.length) : ((l.take e).drop at').length = e - at' := by
  rw [List.length_drop, List.length_take]; omega
theorem take_seg {l : List UInt8} {at' e : Nat} (h : at' ≤ e) : l.take e = l.take at' ++ (l.take e).drop at' := by
  have := List.take_append_drop at' (l.take e)
  rw [List.take_take, Nat.min_eq_left h] at this
  exact this.symm
theorem dval_seg {l : List UInt8} {at' e : Nat} (h : at' ≤ e) (he : e ≤ l.length) (h9 : at' = 0 ∨ e - at' = 9) : dval 0 (l.take at') * 1000000000 + dval 0 ((l.take e).drop at') = dval 0 (l.take e) := by
  rcases h9 with rfl | h9
  · rw [List.take_zero, dval_nil, List.drop_zero]; omega
  · have e1 := take_seg (l := l) h
    have e2 := congrArg (dval 0) e1
    rw [dval_append, dval_acc _ (dval 0 (l.take at'))] at e2
    rw [e2, seg_len he, h9]
theorem accD_cases (l : List UInt8) (i : Nat) : accD l i = .nils ∨ ∃ xs, accD l i = .sl 1 xs := by
  unfold accD
  by_cases h : i = 0
  · rw [if_pos h]; exact .inl rfl
  · rw [if_neg h]; exact .inr ⟨_, rfl⟩
theorem accD_nMul (l : List UInt8) (i : Nat) (hd : (limbs (dval 0 (l.take i))).length ≤ 10000) : PCalls Tryz.prog 74 [accD l i, .sl 1 (us (limbs 1000000000))] (.sl 1 (us (limbs (dval 0 (l.take i) * 1000000000)))) := by
  have h := nMulL (dval 0 (l.take i)) 1000000000 hd (by rw [limbs_one (by decide) (by decide)]; simp)
  unfold accD
  by_cases h0 : i = 0
  · subst h0
    rw [if_pos rfl]
    refine PCalls_nz 1 ?_
    rw [List.take_zero, dval_nil, Nat.zero_mul, limbs_zero] at h
    rw [List.take_zero, dval_nil, Nat.zero_mul, limbs_zero]
    exact h
  · rw [if_neg h0]; exact h
set_option maxHeartbeats 4000000 in
theorem nParse_calls (l : List UInt8) : PCalls Tryz.prog 108 [.str l] (parseR l) := by
  refine PCalls_of isnParse (by simp [fnnParse]) ?_
  unfold codenParse
  by_cases hn : l = []
  · subst hn
    have hb : okD [] = false := rfl
    rw [parseR_bad hb]
    repeat (first | (refine W_seq ?_) | (refine W_reg ?_) | (refine W_regd ?_) | (refine W_block ?_) | (refine And.intro (by omega) ?_) | simp (maxSteps := 1000000) (disch := omega) only [cA, cB, lk, lkH, Dst.onT, Dst.onX, Dst.slot, setF, setH, mapF, mapH, initF, binE, unE, cnt, boundE, newsE, freshE, opE, rmH, blkQ, frz_us, Nat.reduceEqDiff, Nat.reduceLT, Nat.reduceAdd, ↓reduceIte, reduceCtorEq, Nat.reduceLeDiff, decide_true])
    refine W_cond rfl (fun _ => ?_) (fun h => by cases h)
    repeat (first | (refine W_seq ?_) | (refine W_reg ?_) | (refine W_regd ?_) | (refine W_block ?_) | (refine And.intro (by omega) ?_) | simp (maxSteps := 1000000) (disch := omega) only [cA, cB, lk, lkH, Dst.onT, Dst.onX, Dst.slot, setF, setH, mapF, mapH, initF, binE, unE, cnt, boundE, newsE, freshE, opE, rmH, blkQ, frz_us, Nat.reduceEqDiff, Nat.reduceLT, Nat.reduceAdd, ↓reduceIte, reduceCtorEq, Nat.reduceLeDiff])
    exact W_ret (RetP_2 (.nils _) (.imm rfl))
  · have hpos : 0 < l.length := List.length_pos_iff.2 hn
    have dn : decide (l = []) = false := decide_eq_false hn
    by_cases h4 : 4000 < l.length
    · have d4 : decide ((4000 : Int) < l.length) = true := decide_eq_true (by omega)
      have hb : okD l = false := by
        rw [← Bool.not_eq_true, okD_iff]
        exact fun h => by omega
      rw [parseR_bad hb]
      repeat (first | (refine W_seq ?_) | (refine W_reg ?_) | (refine W_regd ?_) | (refine W_block ?_) | (refine And.intro (by omega) ?_) | simp (maxSteps := 1000000) (disch := omega) only [cA, cB, lk, lkH, Dst.onT, Dst.onX, Dst.slot, setF, setH, mapF, mapH, initF, binE, unE, cnt, boundE, newsE, freshE, opE, rmH, blkQ, frz_us, Nat.reduceEqDiff, Nat.reduceLT, Nat.reduceAdd, ↓reduceIte, reduceCtorEq, Nat.reduceLeDiff, dn, d4])
      refine W_cond rfl (fun _ => ?_) (fun h => by cases h)
      repeat (first | (refine W_seq ?_) | (refine W_reg ?_) | (refine W_regd ?_) | (refine W_block ?_) | (refine And.intro (by omega) ?_) | simp (maxSteps := 1000000) (disch := omega) only [cA, cB, lk, lkH, Dst.onT, Dst.onX, Dst.slot, setF, setH, mapF, mapH, initF, binE, unE, cnt, boundE, newsE, freshE, opE, rmH, blkQ, frz_us, Nat.reduceEqDiff, Nat.reduceLT, Nat.reduceAdd, ↓reduceIte, reduceCtorEq, Nat.reduceLeDiff])
      exact W_ret (RetP_2 (.nils _) (.imm rfl))
    · have d4 : decide ((4000 : Int) < l.length) = false := decide_eq_false (by omega)
      have e0 : (Int.toNat 0) = 0 := rfl
      have ebd : byteD (l.getD 0 0) = .int .u8 ((l.getD 0 0).toNat : Nat) := rfl
      by_cases h48 : (l.getD 0 0).toNat = 48
      · have d2 : decide ((((l.getD 0 0).toNat : Nat) : Int) = 48) = true := decide_eq_true (by omega)
        by_cases h1 : 1 < l.length
        · have d1 : decide ((1 : Int) < l.length) = true := decide_eq_true (by omega)
          have hz : l.head? = some 48 ∧ 1 < l.length := ⟨by
            cases l with
            | nil => exact absurd rfl hn
            | cons c r => simp only [List.getD_cons_zero] at h48; rw [List.head?_cons, ← UInt8.toNat_inj.1 (show c.toNat = (48 : UInt8).toNat from h48)], h1⟩
          have hb : okD l = false := by
            rw [← Bool.not_eq_true, okD_iff]
            exact fun h => h.2.2.1 hz
          rw [parseR_bad hb]
          repeat (first | (refine W_seq ?_) | (refine W_reg ?_) | (refine W_regd ?_) | (refine W_block ?_) | (refine And.intro (by omega) ?_) | simp (maxSteps := 1000000) (disch := omega) only [cA, cB, lk, lkH, Dst.onT, Dst.onX, Dst.slot, setF, setH, mapF, mapH, initF, binE, unE, cnt, boundE, newsE, freshE, opE, rmH, blkQ, frz_us, Nat.reduceEqDiff, Nat.reduceLT, Nat.reduceAdd, ↓reduceIte, reduceCtorEq, Nat.reduceLeDiff, dn, d4, d1, e0, ebd, d2])
          refine W_cond rfl (fun _ => ?_) (fun h => by cases h)
          repeat (first | (refine W_seq ?_) | (refine W_reg ?_) | (refine W_regd ?_) | (refine W_block ?_) | (refine And.intro (by omega) ?_) | simp (maxSteps := 1000000) (disch := omega) only [cA, cB, lk, lkH, Dst.onT, Dst.onX, Dst.slot, setF, setH, mapF, mapH, initF, binE, unE, cnt, boundE, newsE, freshE, opE, rmH, blkQ, frz_us, Nat.reduceEqDiff, Nat.reduceLT, Nat.reduceAdd, ↓reduceIte, reduceCtorEq, Nat.reduceLeDiff])
          exact W_ret (RetP_2 (.nils _) (.imm rfl))
        · have d1 : decide ((1 : Int) < l.length) = false := decide_eq_false (by omega)
          have hz : ¬ (l.head? = some 48 ∧ 1 < l.length) := fun h => h1 h.2
          repeat (first | (refine W_seq ?_) | (refine W_reg ?_) | (refine W_regd ?_) | (refine W_block ?_) | (refine And.intro (by omega) ?_) | simp (maxSteps := 1000000) (disch := omega) only [cA, cB, lk, lkH, Dst.onT, Dst.onX, Dst.slot, setF, setH, mapF, mapH, initF, binE, unE, cnt, boundE, newsE, freshE, opE, rmH, blkQ, frz_us, Nat.reduceEqDiff, Nat.reduceLT, Nat.reduceAdd, ↓reduceIte, reduceCtorEq, Nat.reduceLeDiff, dn, d4, d1, e0, ebd, d2])
          refine W_cond rfl (fun h => by cases h) (fun _ => W_skip ?_)
          clear d1 d2 ebd h48 h1
          have r9 : ((l.length : Int).tmod 9) = ((l.length % 9 : Nat) : Int) := by
            rw [Int.tmod_eq_emod_of_nonneg (by omega)]; omega
          repeat (first | (refine W_seq ?_) | (refine W_reg ?_) | (refine W_regd ?_) | (refine W_block ?_) | (refine And.intro (by omega) ?_) | simp (maxSteps := 1000000) (disch := omega) only [cA, cB, lk, lkH, Dst.onT, Dst.onX, Dst.slot, setF, setH, mapF, mapH, initF, binE, unE, cnt, boundE, newsE, freshE, opE, rmH, blkQ, frz_us, Nat.reduceEqDiff, Nat.reduceLT, Nat.reduceAdd, ↓reduceIte, reduceCtorEq, Nat.reduceLeDiff, r9])
          refine W_loop (σ := Nat) (fun i => [(0, .str l), (2, accD l i), (3, .bool false), (4, .int .i64 (l.length % 9 : Nat)), (5, .int .i64 i)]) (fun _ => []) (fun i => i ≤ l.length ∧ (l.take i).all isD = true ∧ (i = 0 ∨ (l.length - i) % 9 = 0)) (fun i => l.length - i) 0 (And.intro (Nat.zero_le _) (And.intro rfl (.inl rfl))) ?_ rfl ?_
          · simp [subF, lk, accD]
          · rintro i ⟨hi, hall, h9⟩
            by_cases hlt : i < l.length
            · have dl : decide ((i : Int) < l.length) = true := decide_eq_true (by omega)
              repeat (first | (refine W_seq ?_) | (refine W_reg ?_) | (refine W_regd ?_) | (refine W_block ?_) | (refine And.intro (by omega) ?_) | simp (maxSteps := 1000000) (disch := omega) only [cA, cB, lk, lkH, Dst.onT, Dst.onX, Dst.slot, setF, setH, mapF, mapH, initF, binE, unE, cnt, boundE, newsE, freshE, opE, rmH, blkQ, frz_us, Nat.reduceEqDiff, Nat.reduceLT, Nat.reduceAdd, ↓reduceIte, reduceCtorEq, Nat.reduceLeDiff, dl])
              refine W_cond rfl (fun _ => W_skip ?_) (fun h => by cases h)
              have ti : (i : Int).toNat = i := Int.toNat_natCast i
              by_cases hi0 : i = 0
              · have di : decide ((i : Int) = 0) = true := decide_eq_true (by omega)
                by_cases hf : 0 < l.length % 9
                · have df : decide ((0 : Int) < (l.length % 9 : Nat)) = true := decide_eq_true (by omega)
                  have he1 : i < l.length % 9 := by omega
                  have he2 : l.length % 9 ≤ l.length := Nat.mod_le _ _
                  have he4 : i = 0 ∨ l.length % 9 - i = 9 := .inl hi0
                  have he3 : l.length % 9 - i ≤ 9 := by omega
                  have he5 : (l.length - l.length % 9) % 9 = 0 := by omega
                  have te : ((l.length % 9 : Nat) : Int).toNat = l.length % 9 := Int.toNat_natCast _
                  repeat (first | (refine W_seq ?_) | (refine W_reg ?_) | (refine W_regd ?_) | (refine W_block ?_) | (refine And.intro (by omega) ?_) | simp (maxSteps := 1000000) (disch := omega) only [cA, cB, lk, lkH, Dst.onT, Dst.onX, Dst.slot, setF, setH, mapF, mapH, initF, binE, unE, cnt, boundE, newsE, freshE, opE, rmH, blkQ, frz_us, Nat.reduceEqDiff, Nat.reduceLT, Nat.reduceAdd, ↓reduceIte, reduceCtorEq, Nat.reduceLeDiff, di, df])
                  refine W_cond rfl (fun _ => ?_) (fun h => by cases h)
                  have hg := seg_len (l := l) (at' := i) (e := (l.length % 9)) he2
                  have hseg := take_seg (l := l) (at' := i) (e := (l.length % 9)) (Nat.le_of_lt he1)
                  have hval := dval_seg (l := l) (at' := i) (e := (l.length % 9)) (Nat.le_of_lt he1) he2 he4
                  have hmem : ∀ c ∈ (l.take (l.length % 9)).drop i, c ∈ l := fun c h => List.mem_of_mem_take (List.mem_of_mem_drop h)
                  repeat (first | (refine W_seq ?_) | (refine W_reg ?_) | (refine W_regd ?_) | (refine W_block ?_) | (refine And.intro (by omega) ?_) | simp (maxSteps := 1000000) (disch := omega) only [cA, cB, lk, lkH, Dst.onT, Dst.onX, Dst.slot, setF, setH, mapF, mapH, initF, binE, unE, cnt, boundE, newsE, freshE, opE, rmH, blkQ, frz_us, Nat.reduceEqDiff, Nat.reduceLT, Nat.reduceAdd, ↓reduceIte, reduceCtorEq, Nat.reduceLeDiff, ti, te])
                  generalize (l.take (l.length % 9)).drop i = g at *
                  have hglen : ((g.map byteD).length) = g.length := List.length_map ..
                  repeat (first | (refine W_seq ?_) | (refine W_reg ?_) | (refine W_regd ?_) | (refine W_block ?_) | (refine And.intro (by omega) ?_) | simp (maxSteps := 1000000) (disch := omega) only [cA, cB, lk, lkH, Dst.onT, Dst.onX, Dst.slot, setF, setH, mapF, mapH, initF, binE, unE, cnt, boundE, newsE, freshE, opE, rmH, blkQ, frz_us, Nat.reduceEqDiff, Nat.reduceLT, Nat.reduceAdd, ↓reduceIte, reduceCtorEq, Nat.reduceLeDiff, hglen])
                  refine W_loop (σ := Nat) (fun j => [(0, .str l), (2, accD l i), (3, .bool false), (4, .int .i64 (l.length % 9 : Nat)), (5, .int .i64 i), (6, .int .i64 ((l.length % 9) : Nat)), (47, .sl 1 (g.map byteD)), (48, .int .i64 g.length), (49, .int .i64 j), (7, .int .u64 (dval 0 (g.take j) : Nat))]) (fun _ => []) (fun j => j ≤ g.length ∧ (g.take j).all isD = true) (fun j => g.length - j) 0 (And.intro (Nat.zero_le _) rfl) ?_ rfl ?_
                  · simp [subF, lk, dval_nil]
                  · rintro j ⟨hj, hgall⟩
                    by_cases hjl : j < g.length
                    · have dj : decide ((j : Int) < g.length) = true := decide_eq_true (by omega)
                      repeat (first | (refine W_seq ?_) | (refine W_reg ?_) | (refine W_regd ?_) | (refine W_block ?_) | (refine And.intro (by omega) ?_) | simp (maxSteps := 1000000) (disch := omega) only [cA, cB, lk, lkH, Dst.onT, Dst.onX, Dst.slot, setF, setH, mapF, mapH, initF, binE, unE, cnt, boundE, newsE, freshE, opE, rmH, blkQ, frz_us, Nat.reduceEqDiff, Nat.reduceLT, Nat.reduceAdd, ↓reduceIte, reduceCtorEq, Nat.reduceLeDiff, dj])
                      refine W_cond rfl (fun _ => W_skip ?_) (fun h => by cases h)
                      have tj : (j : Int).toNat = j := Int.toNat_natCast j
                      have hg1 := byteD_get hjl
                      have hg2 := byteD_get? hjl
                      have hta := take_all hjl hgall
                      have htd := take_dval hjl
                      have hmc := hmem g[j] (List.getElem_mem hjl)
                      have hv : dval 0 (g.take j) < 1000000000 := Nat.lt_of_lt_of_le (dval_lt _ hgall) (Nat.le_trans (Nat.pow_le_pow_right (by decide) (show (g.take j).length ≤ 9 by rw [List.length_take]; omega)) (by decide))
                      generalize g[j] = c at *
                      generalize dval 0 (g.take j) = v at *
                      have hk : c.toNat < 256 := UInt8.toNat_lt c
                      have j1 : ((j : Int) + 1) = ((j + 1 : Nat) : Int) := by omega
                      clear hval hseg
                      by_cases hd : isD c = true
                      · have hd' := hd
                        simp only [isD, Bool.and_eq_true, decide_eq_true_eq] at hd'
                        have d5 : decide ((c.toNat : Int) < 48) = false := decide_eq_false (by omega)
                        have d6 : decide ((57 : Int) < c.toNat) = false := decide_eq_false (by omega)
                        have e8 : (c.toNat : Int) - 48 = ((c.toNat - 48 : Nat) : Int) := by omega
                        have e10 : 10 * (v : Int) + ((c.toNat - 48 : Nat) : Int) = ((dval 0 (g.take (j + 1)) : Nat) : Int) := by rw [htd]; omega
                        have hta' := hta hd
                        clear hta htd hgall hall hmem
                        (replace hta' := Hid.mk hta')
                        repeat (first | (refine W_seq ?_) | (refine W_reg ?_) | (refine W_regd ?_) | (refine W_block ?_) | (refine And.intro (by omega) ?_) | simp (maxSteps := 1000000) (disch := omega) only [cA, cB, lk, lkH, Dst.onT, Dst.onX, Dst.slot, setF, setH, mapF, mapH, initF, binE, unE, cnt, boundE, newsE, freshE, opE, rmH, blkQ, frz_us, Nat.reduceEqDiff, Nat.reduceLT, Nat.reduceAdd, ↓reduceIte, reduceCtorEq, Nat.reduceLeDiff, tj, hg1, hg2, d5, d6])
                        refine W_cond rfl (fun h => by cases h) (fun _ => W_skip ?_)
                        repeat (first | (refine W_seq ?_) | (refine W_reg ?_) | (refine W_regd ?_) | (refine W_block ?_) | (refine And.intro (by omega) ?_) | simp (maxSteps := 1000000) (disch := omega) only [cA, cB, lk, lkH, Dst.onT, Dst.onX, Dst.slot, setF, setH, mapF, mapH, initF, binE, unE, cnt, boundE, newsE, freshE, opE, rmH, blkQ, frz_us, Nat.reduceEqDiff, Nat.reduceLT, Nat.reduceAdd, ↓reduceIte, reduceCtorEq, Nat.reduceLeDiff, e8, e10, j1])
                        exact ⟨j + 1, And.intro hjl hta'.out, by omega, by simp [subF, lk]⟩
                      · have hb : okD l = false := by
                          rw [← Bool.not_eq_true, okD_iff]
                          exact fun h => hd (List.all_eq_true.1 h.2.2.2 c hmc)
                        rw [parseR_bad hb]
                        clear hta htd hall hgall hmem
                        by_cases h5 : c.toNat < 48
                        · have d5 : decide ((c.toNat : Int) < 48) = true := decide_eq_true (by omega)
                          repeat (first | (refine W_seq ?_) | (refine W_reg ?_) | (refine W_regd ?_) | (refine W_block ?_) | (refine And.intro (by omega) ?_) | simp (maxSteps := 1000000) (disch := omega) only [cA, cB, lk, lkH, Dst.onT, Dst.onX, Dst.slot, setF, setH, mapF, mapH, initF, binE, unE, cnt, boundE, newsE, freshE, opE, rmH, blkQ, frz_us, Nat.reduceEqDiff, Nat.reduceLT, Nat.reduceAdd, ↓reduceIte, reduceCtorEq, Nat.reduceLeDiff, tj, hg1, hg2, d5])
                          refine W_cond rfl (fun _ => ?_) (fun h => by cases h)
                          repeat (first | (refine W_seq ?_) | (refine W_reg ?_) | (refine W_regd ?_) | (refine W_block ?_) | (refine And.intro (by omega) ?_) | simp (maxSteps := 1000000) (disch := omega) only [cA, cB, lk, lkH, Dst.onT, Dst.onX, Dst.slot, setF, setH, mapF, mapH, initF, binE, unE, cnt, boundE, newsE, freshE, opE, rmH, blkQ, frz_us, Nat.reduceEqDiff, Nat.reduceLT, Nat.reduceAdd, ↓reduceIte, reduceCtorEq, Nat.reduceLeDiff])
                          exact W_ret (RetP_2 (.nils _) (.imm rfl))
                        · have d5 : decide ((c.toNat : Int) < 48) = false := decide_eq_false (by omega)
                          have d6 : decide ((57 : Int) < c.toNat) = true := decide_eq_true (by
                            simp only [isD, Bool.and_eq_true, decide_eq_true_eq] at hd
                            omega)
                          repeat (first | (refine W_seq ?_) | (refine W_reg ?_) | (refine W_regd ?_) | (refine W_block ?_) | (refine And.intro (by omega) ?_) | simp (maxSteps := 1000000) (disch := omega) only [cA, cB, lk, lkH, Dst.onT, Dst.onX, Dst.slot, setF, setH, mapF, mapH, initF, binE, unE, cnt, boundE, newsE, freshE, opE, rmH, blkQ, frz_us, Nat.reduceEqDiff, Nat.reduceLT, Nat.reduceAdd, ↓reduceIte, reduceCtorEq, Nat.reduceLeDiff, tj, hg1, hg2, d5, d6])
                          refine W_cond rfl (fun _ => ?_) (fun h => by cases h)
                          repeat (first | (refine W_seq ?_) | (refine W_reg ?_) | (refine W_regd ?_) | (refine W_block ?_) | (refine And.intro (by omega) ?_) | simp (maxSteps := 1000000) (disch := omega) only [cA, cB, lk, lkH, Dst.onT, Dst.onX, Dst.slot, setF, setH, mapF, mapH, initF, binE, unE, cnt, boundE, newsE, freshE, opE, rmH, blkQ, frz_us, Nat.reduceEqDiff, Nat.reduceLT, Nat.reduceAdd, ↓reduceIte, reduceCtorEq, Nat.reduceLeDiff])
                          exact W_ret (RetP_2 (.nils _) (.imm rfl))
                    · have dj : decide ((j : Int) < g.length) = false := decide_eq_false (by omega)
                      obtain rfl : j = g.length := by omega
                      rw [List.take_length] at hgall ⊢
                      have u9 : [DV.int .u32 1000000000] = us (limbs 1000000000) := by rw [limbs_one (by decide) (by decide)]; rfl
                      have hl9 : (limbs 1000000000).length ≤ 1 := by rw [limbs_one (by decide) (by decide)]; simp
                      have hv : dval 0 g < 1000000000 := Nat.lt_of_lt_of_le (dval_lt _ hgall) (Nat.le_trans (Nat.pow_le_pow_right (by decide) (show g.length ≤ 9 by omega)) (by decide))
                      have hdl := dval_len hall (m := 4000) (by simp; omega)
                      have ct := accD_nMul l i (by omega)
                      have cf := nFromUint_calls (dval 0 g) (by omega)
                      have hm := len_mul hdl hl9
                      have ca := nAddL (dval 0 (l.take i) * 1000000000) (dval 0 g) (by omega) (Nat.le_trans (limbs_len.2 (show dval 0 g < 4294967296 ^ 1 by omega)) (by decide))
                      rw [hval] at ca
                      have hac : accD l (l.length % 9) = .sl 1 (us (limbs (dval 0 (l.take (l.length % 9))))) := by unfold accD; rw [if_neg (by omega)]
                      rw [← hac] at ca
                      have halle : (l.take (l.length % 9)).all isD = true := by rw [hseg, List.all_append, hall, hgall]; rfl
                      have hacc := accD_cases l i
                      clear hval hseg hall hgall hm hdl hl9 hac hmem
                      (replace halle := Hid.mk halle)
                      rcases hacc with e | ⟨xs, e⟩
                      · rw [e] at ct ⊢
                        repeat (first | (refine W_seq ?_) | (refine W_reg ?_) | (refine W_regd ?_) | (refine W_block ?_) | (refine And.intro (by omega) ?_) | simp (maxSteps := 1000000) (disch := omega) only [cA, cB, lk, lkH, Dst.onT, Dst.onX, Dst.slot, setF, setH, mapF, mapH, initF, binE, unE, cnt, boundE, newsE, freshE, opE, rmH, blkQ, frz_us, Nat.reduceEqDiff, Nat.reduceLT, Nat.reduceAdd, ↓reduceIte, reduceCtorEq, Nat.reduceLeDiff, dj])
                        refine W_cond rfl (fun h => by cases h) (fun _ => W_exit ?_)
                        repeat (first | (refine W_seq ?_) | (refine W_reg ?_) | (refine W_regd ?_) | (refine W_block ?_) | (refine And.intro (by omega) ?_) | simp (maxSteps := 1000000) (disch := omega) only [cA, cB, lk, lkH, Dst.onT, Dst.onX, Dst.slot, setF, setH, mapF, mapH, initF, binE, unE, cnt, boundE, newsE, freshE, opE, rmH, blkQ, frz_us, Nat.reduceEqDiff, Nat.reduceLT, Nat.reduceAdd, ↓reduceIte, reduceCtorEq, Nat.reduceLeDiff, u9, us_rfd] | (refine callC_pure (ct) rfl ?_) | (refine callC_pure (cf) rfl ?_) | (refine callC_pure (ca) rfl ?_) | exact W_ret (RetP_1 (.imm rfl)) | exact W_ret (RetP_c rfl rfl rfl (.imm rfl)))
                        exact ⟨(l.length % 9), And.intro he2 (And.intro halle.out (.inr he5)), by omega, by simp [subF, lk]⟩
                      · rw [e] at ct ⊢
                        repeat (first | (refine W_seq ?_) | (refine W_reg ?_) | (refine W_regd ?_) | (refine W_block ?_) | (refine And.intro (by omega) ?_) | simp (maxSteps := 1000000) (disch := omega) only [cA, cB, lk, lkH, Dst.onT, Dst.onX, Dst.slot, setF, setH, mapF, mapH, initF, binE, unE, cnt, boundE, newsE, freshE, opE, rmH, blkQ, frz_us, Nat.reduceEqDiff, Nat.reduceLT, Nat.reduceAdd, ↓reduceIte, reduceCtorEq, Nat.reduceLeDiff, dj])
                        refine W_cond rfl (fun h => by cases h) (fun _ => W_exit ?_)
                        repeat (first | (refine W_seq ?_) | (refine W_reg ?_) | (refine W_regd ?_) | (refine W_block ?_) | (refine And.intro (by omega) ?_) | simp (maxSteps := 1000000) (disch := omega) only [cA, cB, lk, lkH, Dst.onT, Dst.onX, Dst.slot, setF, setH, mapF, mapH, initF, binE, unE, cnt, boundE, newsE, freshE, opE, rmH, blkQ, frz_us, Nat.reduceEqDiff, Nat.reduceLT, Nat.reduceAdd, ↓reduceIte, reduceCtorEq, Nat.reduceLeDiff, u9, us_rfd] | (refine callC_pure (ct) rfl ?_) | (refine callC_pure (cf) rfl ?_) | (refine callC_pure (ca) rfl ?_) | exact W_ret (RetP_1 (.imm rfl)) | exact W_ret (RetP_c rfl rfl rfl (.imm rfl)))
                        exact ⟨(l.length % 9), And.intro he2 (And.intro halle.out (.inr he5)), by omega, by simp [subF, lk]⟩
                · have df : decide ((0 : Int) < (l.length % 9 : Nat)) = false := decide_eq_false (by omega)
                  have he1 : i < i + 9 := by omega
                  have he2 : i + 9 ≤ l.length := by omega
                  have he4 : i = 0 ∨ i + 9 - i = 9 := .inl hi0
                  have he3 : i + 9 - i ≤ 9 := by omega
                  have he5 : (l.length - (i + 9)) % 9 = 0 := by omega
                  have ei9 : (i : Int) + 9 = ((i + 9 : Nat) : Int) := by omega
                  have te : ((i + 9 : Nat) : Int).toNat = i + 9 := Int.toNat_natCast _
                  repeat (first | (refine W_seq ?_) | (refine W_reg ?_) | (refine W_regd ?_) | (refine W_block ?_) | (refine And.intro (by omega) ?_) | simp (maxSteps := 1000000) (disch := omega) only [cA, cB, lk, lkH, Dst.onT, Dst.onX, Dst.slot, setF, setH, mapF, mapH, initF, binE, unE, cnt, boundE, newsE, freshE, opE, rmH, blkQ, frz_us, Nat.reduceEqDiff, Nat.reduceLT, Nat.reduceAdd, ↓reduceIte, reduceCtorEq, Nat.reduceLeDiff, di, df, ei9])
                  refine W_cond rfl (fun h => by cases h) (fun _ => W_skip ?_)
                  have hg := seg_len (l := l) (at' := i) (e := (i + 9)) he2
                  have hseg := take_seg (l := l) (at' := i) (e := (i + 9)) (Nat.le_of_lt he1)
                  have hval := dval_seg (l := l) (at' := i) (e := (i + 9)) (Nat.le_of_lt he1) he2 he4
                  have hmem : ∀ c ∈ (l.take (i + 9)).drop i, c ∈ l := fun c h => List.mem_of_mem_take (List.mem_of_mem_drop h)
                  repeat (first | (refine W_seq ?_) | (refine W_reg ?_) | (refine W_regd ?_) | (refine W_block ?_) | (refine And.intro (by omega) ?_) | simp (maxSteps := 1000000) (disch := omega) only [cA, cB, lk, lkH, Dst.onT, Dst.onX, Dst.slot, setF, setH, mapF, mapH, initF, binE, unE, cnt, boundE, newsE, freshE, opE, rmH, blkQ, frz_us, Nat.reduceEqDiff, Nat.reduceLT, Nat.reduceAdd, ↓reduceIte, reduceCtorEq, Nat.reduceLeDiff, ti, te])
                  generalize (l.take (i + 9)).drop i = g at *
                  have hglen : ((g.map byteD).length) = g.length := List.length_map ..
                  repeat (first | (refine W_seq ?_) | (refine W_reg ?_) | (refine W_regd ?_) | (refine W_block ?_) | (refine And.intro (by omega) ?_) | simp (maxSteps := 1000000) (disch := omega) only [cA, cB, lk, lkH, Dst.onT, Dst.onX, Dst.slot, setF, setH, mapF, mapH, initF, binE, unE, cnt, boundE, newsE, freshE, opE, rmH, blkQ, frz_us, Nat.reduceEqDiff, Nat.reduceLT, Nat.reduceAdd, ↓reduceIte, reduceCtorEq, Nat.reduceLeDiff, hglen])
                  refine W_loop (σ := Nat) (fun j => [(0, .str l), (2, accD l i), (3, .bool false), (4, .int .i64 (l.length % 9 : Nat)), (5, .int .i64 i), (6, .int .i64 ((i + 9) : Nat)), (47, .sl 1 (g.map byteD)), (48, .int .i64 g.length), (49, .int .i64 j), (7, .int .u64 (dval 0 (g.take j) : Nat))]) (fun _ => []) (fun j => j ≤ g.length ∧ (g.take j).all isD = true) (fun j => g.length - j) 0 (And.intro (Nat.zero_le _) rfl) ?_ rfl ?_
                  · simp [subF, lk, dval_nil]
                  · rintro j ⟨hj, hgall⟩
                    by_cases hjl : j < g.length
                    · have dj : decide ((j : Int) < g.length) = true := decide_eq_true (by omega)
                      repeat (first | (refine W_seq ?_) | (refine W_reg ?_) | (refine W_regd ?_) | (refine W_block ?_) | (refine And.intro (by omega) ?_) | simp (maxSteps := 1000000) (disch := omega) only [cA, cB, lk, lkH, Dst.onT, Dst.onX, Dst.slot, setF, setH, mapF, mapH, initF, binE, unE, cnt, boundE, newsE, freshE, opE, rmH, blkQ, frz_us, Nat.reduceEqDiff, Nat.reduceLT, Nat.reduceAdd, ↓reduceIte, reduceCtorEq, Nat.reduceLeDiff, dj])
                      refine W_cond rfl (fun _ => W_skip ?_) (fun h => by cases h)
                      have tj : (j : Int).toNat = j := Int.toNat_natCast j
                      have hg1 := byteD_get hjl
                      have hg2 := byteD_get? hjl
                      have hta := take_all hjl hgall
                      have htd := take_dval hjl
                      have hmc := hmem g[j] (List.getElem_mem hjl)
                      have hv : dval 0 (g.take j) < 1000000000 := Nat.lt_of_lt_of_le (dval_lt _ hgall) (Nat.le_trans (Nat.pow_le_pow_right (by decide) (show (g.take j).length ≤ 9 by rw [List.length_take]; omega)) (by decide))
                      generalize g[j] = c at *
                      generalize dval 0 (g.take j) = v at *
                      have hk : c.toNat < 256 := UInt8.toNat_lt c
                      have j1 : ((j : Int) + 1) = ((j + 1 : Nat) : Int) := by omega
                      clear hval hseg
                      by_cases hd : isD c = true
                      · have hd' := hd
                        simp only [isD, Bool.and_eq_true, decide_eq_true_eq] at hd'
                        have d5 : decide ((c.toNat : Int) < 48) = false := decide_eq_false (by omega)
                        have d6 : decide ((57 : Int) < c.toNat) = false := decide_eq_false (by omega)
                        have e8 : (c.toNat : Int) - 48 = ((c.toNat - 48 : Nat) : Int) := by omega
                        have e10 : 10 * (v : Int) + ((c.toNat - 48 : Nat) : Int) = ((dval 0 (g.take (j + 1)) : Nat) : Int) := by rw [htd]; omega
                        have hta' := hta hd
                        clear hta htd hgall hall hmem
                        (replace hta' := Hid.mk hta')
                        repeat (first | (refine W_seq ?_) | (refine W_reg ?_) | (refine W_regd ?_) | (refine W_block ?_) | (refine And.intro (by omega) ?_) | simp (maxSteps := 1000000) (disch := omega) only [cA, cB, lk, lkH, Dst.onT, Dst.onX, Dst.slot, setF, setH, mapF, mapH, initF, binE, unE, cnt, boundE, newsE, freshE, opE, rmH, blkQ, frz_us, Nat.reduceEqDiff, Nat.reduceLT, Nat.reduceAdd, ↓reduceIte, reduceCtorEq, Nat.reduceLeDiff, tj, hg1, hg2, d5, d6])
                        refine W_cond rfl (fun h => by cases h) (fun _ => W_skip ?_)
                        repeat (first | (refine W_seq ?_) | (refine W_reg ?_) | (refine W_regd ?_) | (refine W_block ?_) | (refine And.intro (by omega) ?_) | simp (maxSteps := 1000000) (disch := omega) only [cA, cB, lk, lkH, Dst.onT, Dst.onX, Dst.slot, setF, setH, mapF, mapH, initF, binE, unE, cnt, boundE, newsE, freshE, opE, rmH, blkQ, frz_us, Nat.reduceEqDiff, Nat.reduceLT, Nat.reduceAdd, ↓reduceIte, reduceCtorEq, Nat.reduceLeDiff, e8, e10, j1])
                        exact ⟨j + 1, And.intro hjl hta'.out, by omega, by simp [subF, lk]⟩
                      · have hb : okD l = false := by
                          rw [← Bool.not_eq_true, okD_iff]
                          exact fun h => hd (List.all_eq_true.1 h.2.2.2 c hmc)
                        rw [parseR_bad hb]
                        clear hta htd hall hgall hmem
                        by_cases h5 : c.toNat < 48
                        · have d5 : decide ((c.toNat : Int) < 48) = true := decide_eq_true (by omega)
                          repeat (first | (refine W_seq ?_) | (refine W_reg ?_) | (refine W_regd ?_) | (refine W_block ?_) | (refine And.intro (by omega) ?_) | simp (maxSteps := 1000000) (disch := omega) only [cA, cB, lk, lkH, Dst.onT, Dst.onX, Dst.slot, setF, setH, mapF, mapH, initF, binE, unE, cnt, boundE, newsE, freshE, opE, rmH, blkQ, frz_us, Nat.reduceEqDiff, Nat.reduceLT, Nat.reduceAdd, ↓reduceIte, reduceCtorEq, Nat.reduceLeDiff, tj, hg1, hg2, d5])
                          refine W_cond rfl (fun _ => ?_) (fun h => by cases h)
                          repeat (first | (refine W_seq ?_) | (refine W_reg ?_) | (refine W_regd ?_) | (refine W_block ?_) | (refine And.intro (by omega) ?_) | simp (maxSteps := 1000000) (disch := omega) only [cA, cB, lk, lkH, Dst.onT, Dst.onX, Dst.slot, setF, setH, mapF, mapH, initF, binE, unE, cnt, boundE, newsE, freshE, opE, rmH, blkQ, frz_us, Nat.reduceEqDiff, Nat.reduceLT, Nat.reduceAdd, ↓reduceIte, reduceCtorEq, Nat.reduceLeDiff])
                          exact W_ret (RetP_2 (.nils _) (.imm rfl))
                        · have d5 : decide ((c.toNat : Int) < 48) = false := decide_eq_false (by omega)
                          have d6 : decide ((57 : Int) < c.toNat) = true := decide_eq_true (by
                            simp only [isD, Bool.and_eq_true, decide_eq_true_eq] at hd
                            omega)
                          repeat (first | (refine W_seq ?_) | (refine W_reg ?_) | (refine W_regd ?_) | (refine W_block ?_) | (refine And.intro (by omega) ?_) | simp (maxSteps := 1000000) (disch := omega) only [cA, cB, lk, lkH, Dst.onT, Dst.onX, Dst.slot, setF, setH, mapF, mapH, initF, binE, unE, cnt, boundE, newsE, freshE, opE, rmH, blkQ, frz_us, Nat.reduceEqDiff, Nat.reduceLT, Nat.reduceAdd, ↓reduceIte, reduceCtorEq, Nat.reduceLeDiff, tj, hg1, hg2, d5, d6])
                          refine W_cond rfl (fun _ => ?_) (fun h => by cases h)
                          repeat (first | (refine W_seq ?_) | (refine W_reg ?_) | (refine W_regd ?_) | (refine W_block ?_) | (refine And.intro (by omega) ?_) | simp (maxSteps := 1000000) (disch := omega) only [cA, cB, lk, lkH, Dst.onT, Dst.onX, Dst.slot, setF, setH, mapF, mapH, initF, binE, unE, cnt, boundE, newsE, freshE, opE, rmH, blkQ, frz_us, Nat.reduceEqDiff, Nat.reduceLT, Nat.reduceAdd, ↓reduceIte, reduceCtorEq, Nat.reduceLeDiff])
                          exact W_ret (RetP_2 (.nils _) (.imm rfl))
                    · have dj : decide ((j : Int) < g.length) = false := decide_eq_false (by omega)
                      obtain rfl : j = g.length := by omega
                      rw [List.take_length] at hgall ⊢
                      have u9 : [DV.int .u32 1000000000] = us (limbs 1000000000) := by rw [limbs_one (by decide) (by decide)]; rfl
                      have hl9 : (limbs 1000000000).length ≤ 1 := by rw [limbs_one (by decide) (by decide)]; simp
                      have hv : dval 0 g < 1000000000 := Nat.lt_of_lt_of_le (dval_lt _ hgall) (Nat.le_trans (Nat.pow_le_pow_right (by decide) (show g.length ≤ 9 by omega)) (by decide))
                      have hdl := dval_len hall (m := 4000) (by simp; omega)
                      have ct := accD_nMul l i (by omega)
                      have cf := nFromUint_calls (dval 0 g) (by omega)
                      have hm := len_mul hdl hl9
                      have ca := nAddL (dval 0 (l.take i) * 1000000000) (dval 0 g) (by omega) (Nat.le_trans (limbs_len.2 (show dval 0 g < 4294967296 ^ 1 by omega)) (by decide))
                      rw [hval] at ca
                      have hac : accD l (i + 9) = .sl 1 (us (limbs (dval 0 (l.take (i + 9))))) := by unfold accD; rw [if_neg (by omega)]
                      rw [← hac] at ca
                      have halle : (l.take (i + 9)).all isD = true := by rw [hseg, List.all_append, hall, hgall]; rfl
                      have hacc := accD_cases l i
                      clear hval hseg hall hgall hm hdl hl9 hac hmem
                      (replace halle := Hid.mk halle)
                      rcases hacc with e | ⟨xs, e⟩
                      · rw [e] at ct ⊢
                        repeat (first | (refine W_seq ?_) | (refine W_reg ?_) | (refine W_regd ?_) | (refine W_block ?_) | (refine And.intro (by omega) ?_) | simp (maxSteps := 1000000) (disch := omega) only [cA, cB, lk, lkH, Dst.onT, Dst.onX, Dst.slot, setF, setH, mapF, mapH, initF, binE, unE, cnt, boundE, newsE, freshE, opE, rmH, blkQ, frz_us, Nat.reduceEqDiff, Nat.reduceLT, Nat.reduceAdd, ↓reduceIte, reduceCtorEq, Nat.reduceLeDiff, dj])
                        refine W_cond rfl (fun h => by cases h) (fun _ => W_exit ?_)
                        repeat (first | (refine W_seq ?_) | (refine W_reg ?_) | (refine W_regd ?_) | (refine W_block ?_) | (refine And.intro (by omega) ?_) | simp (maxSteps := 1000000) (disch := omega) only [cA, cB, lk, lkH, Dst.onT, Dst.onX, Dst.slot, setF, setH, mapF, mapH, initF, binE, unE, cnt, boundE, newsE, freshE, opE, rmH, blkQ, frz_us, Nat.reduceEqDiff, Nat.reduceLT, Nat.reduceAdd, ↓reduceIte, reduceCtorEq, Nat.reduceLeDiff, u9, us_rfd] | (refine callC_pure (ct) rfl ?_) | (refine callC_pure (cf) rfl ?_) | (refine callC_pure (ca) rfl ?_) | exact W_ret (RetP_1 (.imm rfl)) | exact W_ret (RetP_c rfl rfl rfl (.imm rfl)))
                        exact ⟨(i + 9), And.intro he2 (And.intro halle.out (.inr he5)), by omega, by simp [subF, lk]⟩
                      · rw [e] at ct ⊢
                        repeat (first | (refine W_seq ?_) | (refine W_reg ?_) | (refine W_regd ?_) | (refine W_block ?_) | (refine And.intro (by omega) ?_) | simp (maxSteps := 1000000) (disch := omega) only [cA, cB, lk, lkH, Dst.onT, Dst.onX, Dst.slot, setF, setH, mapF, mapH, initF, binE, unE, cnt, boundE, newsE, freshE, opE, rmH, blkQ, frz_us, Nat.reduceEqDiff, Nat.reduceLT, Nat.reduceAdd, ↓reduceIte, reduceCtorEq, Nat.reduceLeDiff, dj])
                        refine W_cond rfl (fun h => by cases h) (fun _ => W_exit ?_)
                        repeat (first | (refine W_seq ?_) | (refine W_reg ?_) | (refine W_regd ?_) | (refine W_block ?_) | (refine And.intro (by omega) ?_) | simp (maxSteps := 1000000) (disch := omega) only [cA, cB, lk, lkH, Dst.onT, Dst.onX, Dst.slot, setF, setH, mapF, mapH, initF, binE, unE, cnt, boundE, newsE, freshE, opE, rmH, blkQ, frz_us, Nat.reduceEqDiff, Nat.reduceLT, Nat.reduceAdd, ↓reduceIte, reduceCtorEq, Nat.reduceLeDiff, u9, us_rfd] | (refine callC_pure (ct) rfl ?_) | (refine callC_pure (cf) rfl ?_) | (refine callC_pure (ca) rfl ?_) | exact W_ret (RetP_1 (.imm rfl)) | exact W_ret (RetP_c rfl rfl rfl (.imm rfl)))
                        exact ⟨(i + 9), And.intro he2 (And.intro halle.out (.inr he5)), by omega, by simp [subF, lk]⟩
              · have di : decide ((i : Int) = 0) = false := decide_eq_false (by omega)
                have he1 : i < i + 9 := by omega
                have he2 : i + 9 ≤ l.length := by omega
                have he4 : i = 0 ∨ i + 9 - i = 9 := .inr (by omega)
                have he3 : i + 9 - i ≤ 9 := by omega
                have he5 : (l.length - (i + 9)) % 9 = 0 := by omega
                have ei9 : (i : Int) + 9 = ((i + 9 : Nat) : Int) := by omega
                have te : ((i + 9 : Nat) : Int).toNat = i + 9 := Int.toNat_natCast _
                repeat (first | (refine W_seq ?_) | (refine W_reg ?_) | (refine W_regd ?_) | (refine W_block ?_) | (refine And.intro (by omega) ?_) | simp (maxSteps := 1000000) (disch := omega) only [cA, cB, lk, lkH, Dst.onT, Dst.onX, Dst.slot, setF, setH, mapF, mapH, initF, binE, unE, cnt, boundE, newsE, freshE, opE, rmH, blkQ, frz_us, Nat.reduceEqDiff, Nat.reduceLT, Nat.reduceAdd, ↓reduceIte, reduceCtorEq, Nat.reduceLeDiff, di, ei9])
                refine W_cond rfl (fun h => by cases h) (fun _ => W_skip ?_)
                have hg := seg_len (l := l) (at' := i) (e := (i + 9)) he2
                have hseg := take_seg (l := l) (at' := i) (e := (i + 9)) (Nat.le_of_lt he1)
                have hval := dval_seg (l := l) (at' := i) (e := (i + 9)) (Nat.le_of_lt he1) he2 he4
                have hmem : ∀ c ∈ (l.take (i + 9)).drop i, c ∈ l := fun c h => List.mem_of_mem_take (List.mem_of_mem_drop h)
                repeat (first | (refine W_seq ?_) | (refine W_reg ?_) | (refine W_regd ?_) | (refine W_block ?_) | (refine And.intro (by omega) ?_) | simp (maxSteps := 1000000) (disch := omega) only [cA, cB, lk, lkH, Dst.onT, Dst.onX, Dst.slot, setF, setH, mapF, mapH, initF, binE, unE, cnt, boundE, newsE, freshE, opE, rmH, blkQ, frz_us, Nat.reduceEqDiff, Nat.reduceLT, Nat.reduceAdd, ↓reduceIte, reduceCtorEq, Nat.reduceLeDiff, ti, te])
                generalize (l.take (i + 9)).drop i = g at *
                have hglen : ((g.map byteD).length) = g.length := List.length_map ..
                repeat (first | (refine W_seq ?_) | (refine W_reg ?_) | (refine W_regd ?_) | (refine W_block ?_) | (refine And.intro (by omega) ?_) | simp (maxSteps := 1000000) (disch := omega) only [cA, cB, lk, lkH, Dst.onT, Dst.onX, Dst.slot, setF, setH, mapF, mapH, initF, binE, unE, cnt, boundE, newsE, freshE, opE, rmH, blkQ, frz_us, Nat.reduceEqDiff, Nat.reduceLT, Nat.reduceAdd, ↓reduceIte, reduceCtorEq, Nat.reduceLeDiff, hglen])
                refine W_loop (σ := Nat) (fun j => [(0, .str l), (2, accD l i), (3, .bool false), (4, .int .i64 (l.length % 9 : Nat)), (5, .int .i64 i), (6, .int .i64 ((i + 9) : Nat)), (47, .sl 1 (g.map byteD)), (48, .int .i64 g.length), (49, .int .i64 j), (7, .int .u64 (dval 0 (g.take j) : Nat))]) (fun _ => []) (fun j => j ≤ g.length ∧ (g.take j).all isD = true) (fun j => g.length - j) 0 (And.intro (Nat.zero_le _) rfl) ?_ rfl ?_
                · simp [subF, lk, dval_nil]
                · rintro j ⟨hj, hgall⟩
                  by_cases hjl : j < g.length
                  · have dj : decide ((j : Int) < g.length) = true := decide_eq_true (by omega)
                    repeat (first | (refine W_seq ?_) | (refine W_reg ?_) | (refine W_regd ?_) | (refine W_block ?_) | (refine And.intro (by omega) ?_) | simp (maxSteps := 1000000) (disch := omega) only [cA, cB, lk, lkH, Dst.onT, Dst.onX, Dst.slot, setF, setH, mapF, mapH, initF, binE, unE, cnt, boundE, newsE, freshE, opE, rmH, blkQ, frz_us, Nat.reduceEqDiff, Nat.reduceLT, Nat.reduceAdd, ↓reduceIte, reduceCtorEq, Nat.reduceLeDiff, dj])
                    refine W_cond rfl (fun _ => W_skip ?_) (fun h => by cases h)
                    have tj : (j : Int).toNat = j := Int.toNat_natCast j
                    have hg1 := byteD_get hjl
                    have hg2 := byteD_get? hjl
                    have hta := take_all hjl hgall
                    have htd := take_dval hjl
                    have hmc := hmem g[j] (List.getElem_mem hjl)
                    have hv : dval 0 (g.take j) < 1000000000 := Nat.lt_of_lt_of_le (dval_lt _ hgall) (Nat.le_trans (Nat.pow_le_pow_right (by decide) (show (g.take j).length ≤ 9 by rw [List.length_take]; omega)) (by decide))
                    generalize g[j] = c at *
                    generalize dval 0 (g.take j) = v at *
                    have hk : c.toNat < 256 := UInt8.toNat_lt c
                    have j1 : ((j : Int) + 1) = ((j + 1 : Nat) : Int) := by omega
                    clear hval hseg
                    by_cases hd : isD c = true
                    · have hd' := hd
                      simp only [isD, Bool.and_eq_true, decide_eq_true_eq] at hd'
                      have d5 : decide ((c.toNat : Int) < 48) = false := decide_eq_false (by omega)
                      have d6 : decide ((57 : Int) < c.toNat) = false := decide_eq_false (by omega)
                      have e8 : (c.toNat : Int) - 48 = ((c.toNat - 48 : Nat) : Int) := by omega
                      have e10 : 10 * (v : Int) + ((c.toNat - 48 : Nat) : Int) = ((dval 0 (g.take (j + 1)) : Nat) : Int) := by rw [htd]; omega
                      have hta' := hta hd
                      clear hta htd hgall hall hmem
                      (replace hta' := Hid.mk hta')
                      repeat (first | (refine W_seq ?_) | (refine W_reg ?_) | (refine W_regd ?_) | (refine W_block ?_) | (refine And.intro (by omega) ?_) | simp (maxSteps := 1000000) (disch := omega) only [cA, cB, lk, lkH, Dst.onT, Dst.onX, Dst.slot, setF, setH, mapF, mapH, initF, binE, unE, cnt, boundE, newsE, freshE, opE, rmH, blkQ, frz_us, Nat.reduceEqDiff, Nat.reduceLT, Nat.reduceAdd, ↓reduceIte, reduceCtorEq, Nat.reduceLeDiff, tj, hg1, hg2, d5, d6])
                      refine W_cond rfl (fun h => by cases h) (fun _ => W_skip ?_)
                      repeat (first | (refine W_seq ?_) | (refine W_reg ?_) | (refine W_regd ?_) | (refine W_block ?_) | (refine And.intro (by omega) ?_) | simp (maxSteps := 1000000) (disch := omega) only [cA, cB, lk, lkH, Dst.onT, Dst.onX, Dst.slot, setF, setH, mapF, mapH, initF, binE, unE, cnt, boundE, newsE, freshE, opE, rmH, blkQ, frz_us, Nat.reduceEqDiff, Nat.reduceLT, Nat.reduceAdd, ↓reduceIte, reduceCtorEq, Nat.reduceLeDiff, e8, e10, j1])
                      exact ⟨j + 1, And.intro hjl hta'.out, by omega, by simp [subF, lk]⟩
                    · have hb : okD l = false := by
                        rw [← Bool.not_eq_true, okD_iff]
                        exact fun h => hd (List.all_eq_true.1 h.2.2.2 c hmc)
                      rw [parseR_bad hb]
                      clear hta htd hall hgall hmem
                      by_cases h5 : c.toNat < 48
                      · have d5 : decide ((c.toNat : Int) < 48) = true := decide_eq_true (by omega)
                        repeat (first | (refine W_seq ?_) | (refine W_reg ?_) | (refine W_regd ?_) | (refine W_block ?_) | (refine And.intro (by omega) ?_) | simp (maxSteps := 1000000) (disch := omega) only [cA, cB, lk, lkH, Dst.onT, Dst.onX, Dst.slot, setF, setH, mapF, mapH, initF, binE, unE, cnt, boundE, newsE, freshE, opE, rmH, blkQ, frz_us, Nat.reduceEqDiff, Nat.reduceLT, Nat.reduceAdd, ↓reduceIte, reduceCtorEq, Nat.reduceLeDiff, tj, hg1, hg2, d5])
                        refine W_cond rfl (fun _ => ?_) (fun h => by cases h)
                        repeat (first | (refine W_seq ?_) | (refine W_reg ?_) | (refine W_regd ?_) | (refine W_block ?_) | (refine And.intro (by omega) ?_) | simp (maxSteps := 1000000) (disch := omega) only [cA, cB, lk, lkH, Dst.onT, Dst.onX, Dst.slot, setF, setH, mapF, mapH, initF, binE, unE, cnt, boundE, newsE, freshE, opE, rmH, blkQ, frz_us, Nat.reduceEqDiff, Nat.reduceLT, Nat.reduceAdd, ↓reduceIte, reduceCtorEq, Nat.reduceLeDiff])
                        exact W_ret (RetP_2 (.nils _) (.imm rfl))
                      · have d5 : decide ((c.toNat : Int) < 48) = false := decide_eq_false (by omega)
                        have d6 : decide ((57 : Int) < c.toNat) = true := decide_eq_true (by
                          simp only [isD, Bool.and_eq_true, decide_eq_true_eq] at hd
                          omega)
                        repeat (first | (refine W_seq ?_) | (refine W_reg ?_) | (refine W_regd ?_) | (refine W_block ?_) | (refine And.intro (by omega) ?_) | simp (maxSteps := 1000000) (disch := omega) only [cA, cB, lk, lkH, Dst.onT, Dst.onX, Dst.slot, setF, setH, mapF, mapH, initF, binE, unE, cnt, boundE, newsE, freshE, opE, rmH, blkQ, frz_us, Nat.reduceEqDiff, Nat.reduceLT, Nat.reduceAdd, ↓reduceIte, reduceCtorEq, Nat.reduceLeDiff, tj, hg1, hg2, d5, d6])
                        refine W_cond rfl (fun _ => ?_) (fun h => by cases h)
                        repeat (first | (refine W_seq ?_) | (refine W_reg ?_) | (refine W_regd ?_) | (refine W_block ?_) | (refine And.intro (by omega) ?_) | simp (maxSteps := 1000000) (disch := omega) only [cA, cB, lk, lkH, Dst.onT, Dst.onX, Dst.slot, setF, setH, mapF, mapH, initF, binE, unE, cnt, boundE, newsE, freshE, opE, rmH, blkQ, frz_us, Nat.reduceEqDiff, Nat.reduceLT, Nat.reduceAdd, ↓reduceIte, reduceCtorEq, Nat.reduceLeDiff])
                        exact W_ret (RetP_2 (.nils _) (.imm rfl))
                  · have dj : decide ((j : Int) < g.length) = false := decide_eq_false (by omega)
                    obtain rfl : j = g.length := by omega
                    rw [List.take_length] at hgall ⊢
                    have u9 : [DV.int .u32 1000000000] = us (limbs 1000000000) := by rw [limbs_one (by decide) (by decide)]; rfl
                    have hl9 : (limbs 1000000000).length ≤ 1 := by rw [limbs_one (by decide) (by decide)]; simp
                    have hv : dval 0 g < 1000000000 := Nat.lt_of_lt_of_le (dval_lt _ hgall) (Nat.le_trans (Nat.pow_le_pow_right (by decide) (show g.length ≤ 9 by omega)) (by decide))
                    have hdl := dval_len hall (m := 4000) (by simp; omega)
                    have ct := accD_nMul l i (by omega)
                    have cf := nFromUint_calls (dval 0 g) (by omega)
                    have hm := len_mul hdl hl9
                    have ca := nAddL (dval 0 (l.take i) * 1000000000) (dval 0 g) (by omega) (Nat.le_trans (limbs_len.2 (show dval 0 g < 4294967296 ^ 1 by omega)) (by decide))
                    rw [hval] at ca
                    have hac : accD l (i + 9) = .sl 1 (us (limbs (dval 0 (l.take (i + 9))))) := by unfold accD; rw [if_neg (by omega)]
                    rw [← hac] at ca
                    have halle : (l.take (i + 9)).all isD = true := by rw [hseg, List.all_append, hall, hgall]; rfl
                    have hacc := accD_cases l i
                    clear hval hseg hall hgall hm hdl hl9 hac hmem
                    (replace halle := Hid.mk halle)
                    rcases hacc with e | ⟨xs, e⟩
                    · rw [e] at ct ⊢
                      repeat (first | (refine W_seq ?_) | (refine W_reg ?_) | (refine W_regd ?_) | (refine W_block ?_) | (refine And.intro (by omega) ?_) | simp (maxSteps := 1000000) (disch := omega) only [cA, cB, lk, lkH, Dst.onT, Dst.onX, Dst.slot, setF, setH, mapF, mapH, initF, binE, unE, cnt, boundE, newsE, freshE, opE, rmH, blkQ, frz_us, Nat.reduceEqDiff, Nat.reduceLT, Nat.reduceAdd, ↓reduceIte, reduceCtorEq, Nat.reduceLeDiff, dj])
                      refine W_cond rfl (fun h => by cases h) (fun _ => W_exit ?_)
                      repeat (first | (refine W_seq ?_) | (refine W_reg ?_) | (refine W_regd ?_) | (refine W_block ?_) | (refine And.intro (by omega) ?_) | simp (maxSteps := 1000000) (disch := omega) only [cA, cB, lk, lkH, Dst.onT, Dst.onX, Dst.slot, setF, setH, mapF, mapH, initF, binE, unE, cnt, boundE, newsE, freshE, opE, rmH, blkQ, frz_us, Nat.reduceEqDiff, Nat.reduceLT, Nat.reduceAdd, ↓reduceIte, reduceCtorEq, Nat.reduceLeDiff, u9, us_rfd] | (refine callC_pure (ct) rfl ?_) | (refine callC_pure (cf) rfl ?_) | (refine callC_pure (ca) rfl ?_) | exact W_ret (RetP_1 (.imm rfl)) | exact W_ret (RetP_c rfl rfl rfl (.imm rfl)))
                      exact ⟨(i + 9), And.intro he2 (And.intro halle.out (.inr he5)), by omega, by simp [subF, lk]⟩
                    · rw [e] at ct ⊢
                      repeat (first | (refine W_seq ?_) | (refine W_reg ?_) | (refine W_regd ?_) | (refine W_block ?_) | (refine And.intro (by omega) ?_) | simp (maxSteps := 1000000) (disch := omega) only [cA, cB, lk, lkH, Dst.onT, Dst.onX, Dst.slot, setF, setH, mapF, mapH, initF, binE, unE, cnt, boundE, newsE, freshE, opE, rmH, blkQ, frz_us, Nat.reduceEqDiff, Nat.reduceLT, Nat.reduceAdd, ↓reduceIte, reduceCtorEq, Nat.reduceLeDiff, dj])
                      refine W_cond rfl (fun h => by cases h) (fun _ => W_exit ?_)
                      repeat (first | (refine W_seq ?_) | (refine W_reg ?_) | (refine W_regd ?_) | (refine W_block ?_) | (refine And.intro (by omega) ?_) | simp (maxSteps := 1000000) (disch := omega) only [cA, cB, lk, lkH, Dst.onT, Dst.onX, Dst.slot, setF, setH, mapF, mapH, initF, binE, unE, cnt, boundE, newsE, freshE, opE, rmH, blkQ, frz_us, Nat.reduceEqDiff, Nat.reduceLT, Nat.reduceAdd, ↓reduceIte, reduceCtorEq, Nat.reduceLeDiff, u9, us_rfd] | (refine callC_pure (ct) rfl ?_) | (refine callC_pure (cf) rfl ?_) | (refine callC_pure (ca) rfl ?_) | exact W_ret (RetP_1 (.imm rfl)) | exact W_ret (RetP_c rfl rfl rfl (.imm rfl)))
                      exact ⟨(i + 9), And.intro he2 (And.intro halle.out (.inr he5)), by omega, by simp [subF, lk]⟩
            · have hil : i = l.length := by omega
              subst hil
              have dl : decide ((l.length : Int) < l.length) = false := decide_eq_false (by omega)
              rw [List.take_length] at hall
              have hb : okD l = true := (okD_iff l).2 ⟨hn, by omega, hz, hall⟩
              have hr : parseR l = .tup [.sl 1 (us (limbs (dval 0 l))), .bool true] := by unfold parseR; rw [hb]; rfl
              have hac : accD l l.length = .sl 1 (us (limbs (dval 0 l))) := by unfold accD; rw [if_neg (by omega), List.take_length]
              rw [hr, hac]
              repeat (first | (refine W_seq ?_) | (refine W_reg ?_) | (refine W_regd ?_) | (refine W_block ?_) | (refine And.intro (by omega) ?_) | simp (maxSteps := 1000000) (disch := omega) only [cA, cB, lk, lkH, Dst.onT, Dst.onX, Dst.slot, setF, setH, mapF, mapH, initF, binE, unE, cnt, boundE, newsE, freshE, opE, rmH, blkQ, frz_us, Nat.reduceEqDiff, Nat.reduceLT, Nat.reduceAdd, ↓reduceIte, reduceCtorEq, Nat.reduceLeDiff, dl])
              refine W_cond rfl (fun h => by cases h) (fun _ => W_exit ?_)
              repeat (first | (refine W_seq ?_) | (refine W_reg ?_) | (refine W_regd ?_) | (refine W_block ?_) | (refine And.intro (by omega) ?_) | simp (maxSteps := 1000000) (disch := omega) only [cA, cB, lk, lkH, Dst.onT, Dst.onX, Dst.slot, setF, setH, mapF, mapH, initF, binE, unE, cnt, boundE, newsE, freshE, opE, rmH, blkQ, frz_us, Nat.reduceEqDiff, Nat.reduceLT, Nat.reduceAdd, ↓reduceIte, reduceCtorEq, Nat.reduceLeDiff])
              exact W_ret (RetP_2 (.imm rfl) (.imm rfl))
      · have d2 : decide ((((l.getD 0 0).toNat : Nat) : Int) = 48) = false := decide_eq_false (by omega)
        have hz : ¬ (l.head? = some 48 ∧ 1 < l.length) := fun h => h48 (by
          cases l with
          | nil => exact absurd rfl hn
          | cons c r =>
            have h1 := h.1
            rw [List.head?_cons, Option.some.injEq] at h1
            rw [List.getD_cons_zero, h1]; rfl)
        repeat (first | (refine W_seq ?_) | (refine W_reg ?_) | (refine W_regd ?_) | (refine W_block ?_) | (refine And.intro (by omega) ?_) | simp (maxSteps := 1000000) (disch := omega) only [cA, cB, lk, lkH, Dst.onT, Dst.onX, Dst.slot, setF, setH, mapF, mapH, initF, binE, unE, cnt, boundE, newsE, freshE, opE, rmH, blkQ, frz_us, Nat.reduceEqDiff, Nat.reduceLT, Nat.reduceAdd, ↓reduceIte, reduceCtorEq, Nat.reduceLeDiff, dn, d4, e0, ebd, d2])
        refine W_cond rfl (fun h => by cases h) (fun _ => W_skip ?_)
        clear d2 ebd h48
        have r9 : ((l.length : Int).tmod 9) = ((l.length % 9 : Nat) : Int) := by
          rw [Int.tmod_eq_emod_of_nonneg (by omega)]; omega
        repeat (first | (refine W_seq ?_) | (refine W_reg ?_) | (refine W_regd ?_) | (refine W_block ?_) | (refine And.intro (by omega) ?_) | simp (maxSteps := 1000000) (disch := omega) only [cA, cB, lk, lkH, Dst.onT, Dst.onX, Dst.slot, setF, setH, mapF, mapH, initF, binE, unE, cnt, boundE, newsE, freshE, opE, rmH, blkQ, frz_us, Nat.reduceEqDiff, Nat.reduceLT, Nat.reduceAdd, ↓reduceIte, reduceCtorEq, Nat.reduceLeDiff, r9])
        refine W_loop (σ := Nat) (fun i => [(0, .str l), (2, accD l i), (3, .bool false), (4, .int .i64 (l.length % 9 : Nat)), (5, .int .i64 i)]) (fun _ => []) (fun i => i ≤ l.length ∧ (l.take i).all isD = true ∧ (i = 0 ∨ (l.length - i) % 9 = 0)) (fun i => l.length - i) 0 (And.intro (Nat.zero_le _) (And.intro rfl (.inl rfl))) ?_ rfl ?_
        · simp [subF, lk, accD]
        · rintro i ⟨hi, hall, h9⟩
          by_cases hlt : i < l.length
          · have dl : decide ((i : Int) < l.length) = true := decide_eq_true (by omega)
            repeat (first | (refine W_seq ?_) | (refine W_reg ?_) | (refine W_regd ?_) | (refine W_block ?_) | (refine And.intro (by omega) ?_) | simp (maxSteps := 1000000) (disch := omega) only [cA, cB, lk, lkH, Dst.onT, Dst.onX, Dst.slot, setF, setH, mapF, mapH, initF, binE, unE, cnt, boundE, newsE, freshE, opE, rmH, blkQ, frz_us, Nat.reduceEqDiff, Nat.reduceLT, Nat.reduceAdd, ↓reduceIte, reduceCtorEq, Nat.reduceLeDiff, dl])
            refine W_cond rfl (fun _ => W_skip ?_) (fun h => by cases h)
            have ti : (i : Int).toNat = i := Int.toNat_natCast i
            by_cases hi0 : i = 0
            · have di : decide ((i : Int) = 0) = true := decide_eq_true (by omega)
              by_cases hf : 0 < l.length % 9
              · have df : decide ((0 : Int) < (l.length % 9 : Nat)) = true := decide_eq_true (by omega)
                have he1 : i < l.length % 9 := by omega
                have he2 : l.length % 9 ≤ l.length := Nat.mod_le _ _
                have he4 : i = 0 ∨ l.length % 9 - i = 9 := .inl hi0
                have he3 : l.length % 9 - i ≤ 9 := by omega
                have he5 : (l.length - l.length % 9) % 9 = 0 := by omega
                have te : ((l.length % 9 : Nat) : Int).toNat = l.length % 9 := Int.toNat_natCast _
                repeat (first | (refine W_seq ?_) | (refine W_reg ?_) | (refine W_regd ?_) | (refine W_block ?_) | (refine And.intro (by omega) ?_) | simp (maxSteps := 1000000) (disch := omega) only [cA, cB, lk, lkH, Dst.onT, Dst.onX, Dst.slot, setF, setH, mapF, mapH, initF, binE, unE, cnt, boundE, newsE, freshE, opE, rmH, blkQ, frz_us, Nat.reduceEqDiff, Nat.reduceLT, Nat.reduceAdd, ↓reduceIte, reduceCtorEq, Nat.reduceLeDiff, di, df])
                refine W_cond rfl (fun _ => ?_) (fun h => by cases h)
                have hg := seg_len (l := l) (at' := i) (e := (l.length % 9)) he2
                have hseg := take_seg (l := l) (at' := i) (e := (l.length % 9)) (Nat.le_of_lt he1)
                have hval := dval_seg (l := l) (at' := i) (e := (l.length % 9)) (Nat.le_of_lt he1) he2 he4
                have hmem : ∀ c ∈ (l.take (l.length % 9)).drop i, c ∈ l := fun c h => List.mem_of_mem_take (List.mem_of_mem_drop h)
                repeat (first | (refine W_seq ?_) | (refine W_reg ?_) | (refine W_regd ?_) | (refine W_block ?_) | (refine And.intro (by omega) ?_) | simp (maxSteps := 1000000) (disch := omega) only [cA, cB, lk, lkH, Dst.onT, Dst.onX, Dst.slot, setF, setH, mapF, mapH, initF, binE, unE, cnt, boundE, newsE, freshE, opE, rmH, blkQ, frz_us, Nat.reduceEqDiff, Nat.reduceLT, Nat.reduceAdd, ↓reduceIte, reduceCtorEq, Nat.reduceLeDiff, ti, te])
                generalize (l.take (l.length % 9)).drop i = g at *
                have hglen : ((g.map byteD).length) = g.length := List.length_map ..
                repeat (first | (refine W_seq ?_) | (refine W_reg ?_) | (refine W_regd ?_) | (refine W_block ?_) | (refine And.intro (by omega) ?_) | simp (maxSteps := 1000000) (disch := omega) only [cA, cB, lk, lkH, Dst.onT, Dst.onX, Dst.slot, setF, setH, mapF, mapH, initF, binE, unE, cnt, boundE, newsE, freshE, opE, rmH, blkQ, frz_us, Nat.reduceEqDiff, Nat.reduceLT, Nat.reduceAdd, ↓reduceIte, reduceCtorEq, Nat.reduceLeDiff, hglen])
                refine W_loop (σ := Nat) (fun j => [(0, .str l), (2, accD l i), (3, .bool false), (4, .int .i64 (l.length % 9 : Nat)), (5, .int .i64 i), (6, .int .i64 ((l.length % 9) : Nat)), (47, .sl 1 (g.map byteD)), (48, .int .i64 g.length), (49, .int .i64 j), (7, .int .u64 (dval 0 (g.take j) : Nat))]) (fun _ => []) (fun j => j ≤ g.length ∧ (g.take j).all isD = true) (fun j => g.length - j) 0 (And.intro (Nat.zero_le _) rfl) ?_ rfl ?_
                · simp [subF, lk, dval_nil]
                · rintro j ⟨hj, hgall⟩
                  by_cases hjl : j < g.length
                  · have dj : decide ((j : Int) < g.length) = true := decide_eq_true (by omega)
                    repeat (first | (refine W_seq ?_) | (refine W_reg ?_) | (refine W_regd ?_) | (refine W_block ?_) | (refine And.intro (by omega) ?_) | simp (maxSteps := 1000000) (disch := omega) only [cA, cB, lk, lkH, Dst.onT, Dst.onX, Dst.slot, setF, setH, mapF, mapH, initF, binE, unE, cnt, boundE, newsE, freshE, opE, rmH, blkQ, frz_us, Nat.reduceEqDiff, Nat.reduceLT, Nat.reduceAdd, ↓reduceIte, reduceCtorEq, Nat.reduceLeDiff, dj])
                    refine W_cond rfl (fun _ => W_skip ?_) (fun h => by cases h)
                    have tj : (j : Int).toNat = j := Int.toNat_natCast j
                    have hg1 := byteD_get hjl
                    have hg2 := byteD_get? hjl
                    have hta := take_all hjl hgall
                    have htd := take_dval hjl
                    have hmc := hmem g[j] (List.getElem_mem hjl)
                    have hv : dval 0 (g.take j) < 1000000000 := Nat.lt_of_lt_of_le (dval_lt _ hgall) (Nat.le_trans (Nat.pow_le_pow_right (by decide) (show (g.take j).length ≤ 9 by rw [List.length_take]; omega)) (by decide))
                    generalize g[j] = c at *
                    generalize dval 0 (g.take j) = v at *
                    have hk : c.toNat < 256 := UInt8.toNat_lt c
                    have j1 : ((j : Int) + 1) = ((j + 1 : Nat) : Int) := by omega
                    clear hval hseg
                    by_cases hd : isD c = true
                    · have hd' := hd
                      simp only [isD, Bool.and_eq_true, decide_eq_true_eq] at hd'
                      have d5 : decide ((c.toNat : Int) < 48) = false := decide_eq_false (by omega)
                      have d6 : decide ((57 : Int) < c.toNat) = false := decide_eq_false (by omega)
                      have e8 : (c.toNat : Int) - 48 = ((c.toNat - 48 : Nat) : Int) := by omega
                      have e10 : 10 * (v : Int) + ((c.toNat - 48 : Nat) : Int) = ((dval 0 (g.take (j + 1)) : Nat) : Int) := by rw [htd]; omega
                      have hta' := hta hd
                      clear hta htd hgall hall hmem
                      (replace hta' := Hid.mk hta')
                      repeat (first | (refine W_seq ?_) | (refine W_reg ?_) | (refine W_regd ?_) | (refine W_block ?_) | (refine And.intro (by omega) ?_) | simp (maxSteps := 1000000) (disch := omega) only [cA, cB, lk, lkH, Dst.onT, Dst.onX, Dst.slot, setF, setH, mapF, mapH, initF, binE, unE, cnt, boundE, newsE, freshE, opE, rmH, blkQ, frz_us, Nat.reduceEqDiff, Nat.reduceLT, Nat.reduceAdd, ↓reduceIte, reduceCtorEq, Nat.reduceLeDiff, tj, hg1, hg2, d5, d6])
                      refine W_cond rfl (fun h => by cases h) (fun _ => W_skip ?_)
                      repeat (first | (refine W_seq ?_) | (refine W_reg ?_) | (refine W_regd ?_) | (refine W_block ?_) | (refine And.intro (by omega) ?_) | simp (maxSteps := 1000000) (disch := omega) only [cA, cB, lk, lkH, Dst.onT, Dst.onX, Dst.slot, setF, setH, mapF, mapH, initF, binE, unE, cnt, boundE, newsE, freshE, opE, rmH, blkQ, frz_us, Nat.reduceEqDiff, Nat.reduceLT, Nat.reduceAdd, ↓reduceIte, reduceCtorEq, Nat.reduceLeDiff, e8, e10, j1])
                      exact ⟨j + 1, And.intro hjl hta'.out, by omega, by simp [subF, lk]⟩
                    · have hb : okD l = false := by
                        rw [← Bool.not_eq_true, okD_iff]
                        exact fun h => hd (List.all_eq_true.1 h.2.2.2 c hmc)
                      rw [parseR_bad hb]
                      clear hta htd hall hgall hmem
                      by_cases h5 : c.toNat < 48
                      · have d5 : decide ((c.toNat : Int) < 48) = true := decide_eq_true (by omega)
                        repeat (first | (refine W_seq ?_) | (refine W_reg ?_) | (refine W_regd ?_) | (refine W_block ?_) | (refine And.intro (by omega) ?_) | simp (maxSteps := 1000000) (disch := omega) only [cA, cB, lk, lkH, Dst.onT, Dst.onX, Dst.slot, setF, setH, mapF, mapH, initF, binE, unE, cnt, boundE, newsE, freshE, opE, rmH, blkQ, frz_us, Nat.reduceEqDiff, Nat.reduceLT, Nat.reduceAdd, ↓reduceIte, reduceCtorEq, Nat.reduceLeDiff, tj, hg1, hg2, d5])
                        refine W_cond rfl (fun _ => ?_) (fun h => by cases h)
                        repeat (first | (refine W_seq ?_) | (refine W_reg ?_) | (refine W_regd ?_) | (refine W_block ?_) | (refine And.intro (by omega) ?_) | simp (maxSteps := 1000000) (disch := omega) only [cA, cB, lk, lkH, Dst.onT, Dst.onX, Dst.slot, setF, setH, mapF, mapH, initF, binE, unE, cnt, boundE, newsE, freshE, opE, rmH, blkQ, frz_us, Nat.reduceEqDiff, Nat.reduceLT, Nat.reduceAdd, ↓reduceIte, reduceCtorEq, Nat.reduceLeDiff])
                        exact W_ret (RetP_2 (.nils _) (.imm rfl))
                      · have d5 : decide ((c.toNat : Int) < 48) = false := decide_eq_false (by omega)
                        have d6 : decide ((57 : Int) < c.toNat) = true := decide_eq_true (by
                          simp only [isD, Bool.and_eq_true, decide_eq_true_eq] at hd
                          omega)
                        repeat (first | (refine W_seq ?_) | (refine W_reg ?_) | (refine W_regd ?_) | (refine W_block ?_) | (refine And.intro (by omega) ?_) | simp (maxSteps := 1000000) (disch := omega) only [cA, cB, lk, lkH, Dst.onT, Dst.onX, Dst.slot, setF, setH, mapF, mapH, initF, binE, unE, cnt, boundE, newsE, freshE, opE, rmH, blkQ, frz_us, Nat.reduceEqDiff, Nat.reduceLT, Nat.reduceAdd, ↓reduceIte, reduceCtorEq, Nat.reduceLeDiff, tj, hg1, hg2, d5, d6])
                        refine W_cond rfl (fun _ => ?_) (fun h => by cases h)
                        repeat (first | (refine W_seq ?_) | (refine W_reg ?_) | (refine W_regd ?_) | (refine W_block ?_) | (refine And.intro (by omega) ?_) | simp (maxSteps := 1000000) (disch := omega) only [cA, cB, lk, lkH, Dst.onT, Dst.onX, Dst.slot, setF, setH, mapF, mapH, initF, binE, unE, cnt, boundE, newsE, freshE, opE, rmH, blkQ, frz_us, Nat.reduceEqDiff, Nat.reduceLT, Nat.reduceAdd, ↓reduceIte, reduceCtorEq, Nat.reduceLeDiff])
                        exact W_ret (RetP_2 (.nils _) (.imm rfl))
                  · have dj : decide ((j : Int) < g.length) = false := decide_eq_false (by omega)
                    obtain rfl : j = g.length := by omega
                    rw [List.take_length] at hgall ⊢
                    have u9 : [DV.int .u32 1000000000] = us (limbs 1000000000) := by rw [limbs_one (by decide) (by decide)]; rfl
                    have hl9 : (limbs 1000000000).length ≤ 1 := by rw [limbs_one (by decide) (by decide)]; simp
                    have hv : dval 0 g < 1000000000 := Nat.lt_of_lt_of_le (dval_lt _ hgall) (Nat.le_trans (Nat.pow_le_pow_right (by decide) (show g.length ≤ 9 by omega)) (by decide))
                    have hdl := dval_len hall (m := 4000) (by simp; omega)
                    have ct := accD_nMul l i (by omega)
                    have cf := nFromUint_calls (dval 0 g) (by omega)
                    have hm := len_mul hdl hl9
                    have ca := nAddL (dval 0 (l.take i) * 1000000000) (dval 0 g) (by omega) (Nat.le_trans (limbs_len.2 (show dval 0 g < 4294967296 ^ 1 by omega)) (by decide))
                    rw [hval] at ca
                    have hac : accD l (l.length % 9) = .sl 1 (us (limbs (dval 0 (l.take (l.length % 9))))) := by unfold accD; rw [if_neg (by omega)]
                    rw [← hac] at ca
                    have halle : (l.take (l.length % 9)).all isD = true := by rw [hseg, List.all_append, hall, hgall]; rfl
                    have hacc := accD_cases l i
                    clear hval hseg hall hgall hm hdl hl9 hac hmem
                    (replace halle := Hid.mk halle)
                    rcases hacc with e | ⟨xs, e⟩
                    · rw [e] at ct ⊢
                      repeat (first | (refine W_seq ?_) | (refine W_reg ?_) | (refine W_regd ?_) | (refine W_block ?_) | (refine And.intro (by omega) ?_) | simp (maxSteps := 1000000) (disch := omega) only [cA, cB, lk, lkH, Dst.onT, Dst.onX, Dst.slot, setF, setH, mapF, mapH, initF, binE, unE, cnt, boundE, newsE, freshE, opE, rmH, blkQ, frz_us, Nat.reduceEqDiff, Nat.reduceLT, Nat.reduceAdd, ↓reduceIte, reduceCtorEq, Nat.reduceLeDiff, dj])
                      refine W_cond rfl (fun h => by cases h) (fun _ => W_exit ?_)
                      repeat (first | (refine W_seq ?_) | (refine W_reg ?_) | (refine W_regd ?_) | (refine W_block ?_) | (refine And.intro (by omega) ?_) | simp (maxSteps := 1000000) (disch := omega) only [cA, cB, lk, lkH, Dst.onT, Dst.onX, Dst.slot, setF, setH, mapF, mapH, initF, binE, unE, cnt, boundE, newsE, freshE, opE, rmH, blkQ, frz_us, Nat.reduceEqDiff, Nat.reduceLT, Nat.reduceAdd, ↓reduceIte, reduceCtorEq, Nat.reduceLeDiff, u9, us_rfd] | (refine callC_pure (ct) rfl ?_) | (refine callC_pure (cf) rfl ?_) | (refine callC_pure (ca) rfl ?_) | exact W_ret (RetP_1 (.imm rfl)) | exact W_ret (RetP_c rfl rfl rfl (.imm rfl)))
                      exact ⟨(l.length % 9), And.intro he2 (And.intro halle.out (.inr he5)), by omega, by simp [subF, lk]⟩
                    · rw [e] at ct ⊢
                      repeat (first | (refine W_seq ?_) | (refine W_reg ?_) | (refine W_regd ?_) | (refine W_block ?_) | (refine And.intro (by omega) ?_) | simp (maxSteps := 1000000) (disch := omega) only [cA, cB, lk, lkH, Dst.onT, Dst.onX, Dst.slot, setF, setH, mapF, mapH, initF, binE, unE, cnt, boundE, newsE, freshE, opE, rmH, blkQ, frz_us, Nat.reduceEqDiff, Nat.reduceLT, Nat.reduceAdd, ↓reduceIte, reduceCtorEq, Nat.reduceLeDiff, dj])
                      refine W_cond rfl (fun h => by cases h) (fun _ => W_exit ?_)
                      repeat (first | (refine W_seq ?_) | (refine W_reg ?_) | (refine W_regd ?_) | (refine W_block ?_) | (refine And.intro (by omega) ?_) | simp (maxSteps := 1000000) (disch := omega) only [cA, cB, lk, lkH, Dst.onT, Dst.onX, Dst.slot, setF, setH, mapF, mapH, initF, binE, unE, cnt, boundE, newsE, freshE, opE, rmH, blkQ, frz_us, Nat.reduceEqDiff, Nat.reduceLT, Nat.reduceAdd, ↓reduceIte, reduceCtorEq, Nat.reduceLeDiff, u9, us_rfd] | (refine callC_pure (ct) rfl ?_) | (refine callC_pure (cf) rfl ?_) | (refine callC_pure (ca) rfl ?_) | exact W_ret (RetP_1 (.imm rfl)) | exact W_ret (RetP_c rfl rfl rfl (.imm rfl)))
                      exact ⟨(l.length % 9), And.intro he2 (And.intro halle.out (.inr he5)), by omega, by simp [subF, lk]⟩
              · have df : decide ((0 : Int) < (l.length % 9 : Nat)) = false := decide_eq_false (by omega)
                have he1 : i < i + 9 := by omega
                have he2 : i + 9 ≤ l.length := by omega
                have he4 : i = 0 ∨ i + 9 - i = 9 := .inl hi0
                have he3 : i + 9 - i ≤ 9 := by omega
                have he5 : (l.length - (i + 9)) % 9 = 0 := by omega
                have ei9 : (i : Int) + 9 = ((i + 9 : Nat) : Int) := by omega
                have te : ((i + 9 : Nat) : Int).toNat = i + 9 := Int.toNat_natCast _
                repeat (first | (refine W_seq ?_) | (refine W_reg ?_) | (refine W_regd ?_) | (refine W_block ?_) | (refine And.intro (by omega) ?_) | simp (maxSteps := 1000000) (disch := omega) only [cA, cB, lk, lkH, Dst.onT, Dst.onX, Dst.slot, setF, setH, mapF, mapH, initF, binE, unE, cnt, boundE, newsE, freshE, opE, rmH, blkQ, frz_us, Nat.reduceEqDiff, Nat.reduceLT, Nat.reduceAdd, ↓reduceIte, reduceCtorEq, Nat.reduceLeDiff, di, df, ei9])
                refine W_cond rfl (fun h => by cases h) (fun _ => W_skip ?_)
                have hg := seg_len (l := l) (at' := i) (e := (i + 9)) he2
                have hseg := take_seg (l := l) (at' := i) (e := (i + 9)) (Nat.le_of_lt he1)
                have hval := dval_seg (l := l) (at' := i) (e := (i + 9)) (Nat.le_of_lt he1) he2 he4
                have hmem : ∀ c ∈ (l.take (i + 9)).drop i, c ∈ l := fun c h => List.mem_of_mem_take (List.mem_of_mem_drop h)
                repeat (first | (refine W_seq ?_) | (refine W_reg ?_) | (refine W_regd ?_) | (refine W_block ?_) | (refine And.intro (by omega) ?_) | simp (maxSteps := 1000000) (disch := omega) only [cA, cB, lk, lkH, Dst.onT, Dst.onX, Dst.slot, setF, setH, mapF, mapH, initF, binE, unE, cnt, boundE, newsE, freshE, opE, rmH, blkQ, frz_us, Nat.reduceEqDiff, Nat.reduceLT, Nat.reduceAdd, ↓reduceIte, reduceCtorEq, Nat.reduceLeDiff, ti, te])
                generalize (l.take (i + 9)).drop i = g at *
                have hglen : ((g.map byteD).length) = g.length := List.length_map ..
                repeat (first | (refine W_seq ?_) | (refine W_reg ?_) | (refine W_regd ?_) | (refine W_block ?_) | (refine And.intro (by omega) ?_) | simp (maxSteps := 1000000) (disch := omega) only [cA, cB, lk, lkH, Dst.onT, Dst.onX, Dst.slot, setF, setH, mapF, mapH, initF, binE, unE, cnt, boundE, newsE, freshE, opE, rmH, blkQ, frz_us, Nat.reduceEqDiff, Nat.reduceLT, Nat.reduceAdd, ↓reduceIte, reduceCtorEq, Nat.reduceLeDiff, hglen])
                refine W_loop (σ := Nat) (fun j => [(0, .str l), (2, accD l i), (3, .bool false), (4, .int .i64 (l.length % 9 : Nat)), (5, .int .i64 i), (6, .int .i64 ((i + 9) : Nat)), (47, .sl 1 (g.map byteD)), (48, .int .i64 g.length), (49, .int .i64 j), (7, .int .u64 (dval 0 (g.take j) : Nat))]) (fun _ => []) (fun j => j ≤ g.length ∧ (g.take j).all isD = true) (fun j => g.length - j) 0 (And.intro (Nat.zero_le _) rfl) ?_ rfl ?_
                · simp [subF, lk, dval_nil]
                · rintro j ⟨hj, hgall⟩
                  by_cases hjl : j < g.length
                  · have dj : decide ((j : Int) < g.length) = true := decide_eq_true (by omega)
                    repeat (first | (refine W_seq ?_) | (refine W_reg ?_) | (refine W_regd ?_) | (refine W_block ?_) | (refine And.intro (by omega) ?_) | simp (maxSteps := 1000000) (disch := omega) only [cA, cB, lk, lkH, Dst.onT, Dst.onX, Dst.slot, setF, setH, mapF, mapH, initF, binE, unE, cnt, boundE, newsE, freshE, opE, rmH, blkQ, frz_us, Nat.reduceEqDiff, Nat.reduceLT, Nat.reduceAdd, ↓reduceIte, reduceCtorEq, Nat.reduceLeDiff, dj])
                    refine W_cond rfl (fun _ => W_skip ?_) (fun h => by cases h)
                    have tj : (j : Int).toNat = j := Int.toNat_natCast j
                    have hg1 := byteD_get hjl
                    have hg2 := byteD_get? hjl
                    have hta := take_all hjl hgall
                    have htd := take_dval hjl
                    have hmc := hmem g[j] (List.getElem_mem hjl)
                    have hv : dval 0 (g.take j) < 1000000000 := Nat.lt_of_lt_of_le (dval_lt _ hgall) (Nat.le_trans (Nat.pow_le_pow_right (by decide) (show (g.take j).length ≤ 9 by rw [List.length_take]; omega)) (by decide))
                    generalize g[j] = c at *
                    generalize dval 0 (g.take j) = v at *
                    have hk : c.toNat < 256 := UInt8.toNat_lt c
                    have j1 : ((j : Int) + 1) = ((j + 1 : Nat) : Int) := by omega
                    clear hval hseg
                    by_cases hd : isD c = true
                    · have hd' := hd
                      simp only [isD, Bool.and_eq_true, decide_eq_true_eq] at hd'
                      have d5 : decide ((c.toNat : Int) < 48) = false := decide_eq_false (by omega)
                      have d6 : decide ((57 : Int) < c.toNat) = false := decide_eq_false (by omega)
                      have e8 : (c.toNat : Int) - 48 = ((c.toNat - 48 : Nat) : Int) := by omega
                      have e10 : 10 * (v : Int) + ((c.toNat - 48 : Nat) : Int) = ((dval 0 (g.take (j + 1)) : Nat) : Int) := by rw [htd]; omega
                      have hta' := hta hd
                      clear hta htd hgall hall hmem
                      (replace hta' := Hid.mk hta')
                      repeat (first | (refine W_seq ?_) | (refine W_reg ?_) | (refine W_regd ?_) | (refine W_block ?_) | (refine And.intro (by omega) ?_) | simp (maxSteps := 1000000) (disch := omega) only [cA, cB, lk, lkH, Dst.onT, Dst.onX, Dst.slot, setF, setH, mapF, mapH, initF, binE, unE, cnt, boundE, newsE, freshE, opE, rmH, blkQ, frz_us, Nat.reduceEqDiff, Nat.reduceLT, Nat.reduceAdd, ↓reduceIte, reduceCtorEq, Nat.reduceLeDiff, tj, hg1, hg2, d5, d6])
                      refine W_cond rfl (fun h => by cases h) (fun _ => W_skip ?_)
                      repeat (first | (refine W_seq ?_) | (refine W_reg ?_) | (refine W_regd ?_) | (refine W_block ?_) | (refine And.intro (by omega) ?_) | simp (maxSteps := 1000000) (disch := omega) only [cA, cB, lk, lkH, Dst.onT, Dst.onX, Dst.slot, setF, setH, mapF, mapH, initF, binE, unE, cnt, boundE, newsE, freshE, opE, rmH, blkQ, frz_us, Nat.reduceEqDiff, Nat.reduceLT, Nat.reduceAdd, ↓reduceIte, reduceCtorEq, Nat.reduceLeDiff, e8, e10, j1])
                      exact ⟨j + 1, And.intro hjl hta'.out, by omega, by simp [subF, lk]⟩
                    · have hb : okD l = false := by
                        rw [← Bool.not_eq_true, okD_iff]
                        exact fun h => hd (List.all_eq_true.1 h.2.2.2 c hmc)
                      rw [parseR_bad hb]
                      clear hta htd hall hgall hmem
                      by_cases h5 : c.toNat < 48
                      · have d5 : decide ((c.toNat : Int) < 48) = true := decide_eq_true (by omega)
                        repeat (first | (refine W_seq ?_) | (refine W_reg ?_) | (refine W_regd ?_) | (refine W_block ?_) | (refine And.intro (by omega) ?_) | simp (maxSteps := 1000000) (disch := omega) only [cA, cB, lk, lkH, Dst.onT, Dst.onX, Dst.slot, setF, setH, mapF, mapH, initF, binE, unE, cnt, boundE, newsE, freshE, opE, rmH, blkQ, frz_us, Nat.reduceEqDiff, Nat.reduceLT, Nat.reduceAdd, ↓reduceIte, reduceCtorEq, Nat.reduceLeDiff, tj, hg1, hg2, d5])
                        refine W_cond rfl (fun _ => ?_) (fun h => by cases h)
                        repeat (first | (refine W_seq ?_) | (refine W_reg ?_) | (refine W_regd ?_) | (refine W_block ?_) | (refine And.intro (by omega) ?_) | simp (maxSteps := 1000000) (disch := omega) only [cA, cB, lk, lkH, Dst.onT, Dst.onX, Dst.slot, setF, setH, mapF, mapH, initF, binE, unE, cnt, boundE, newsE, freshE, opE, rmH, blkQ, frz_us, Nat.reduceEqDiff, Nat.reduceLT, Nat.reduceAdd, ↓reduceIte, reduceCtorEq, Nat.reduceLeDiff])
                        exact W_ret (RetP_2 (.nils _) (.imm rfl))
                      · have d5 : decide ((c.toNat : Int) < 48) = false := decide_eq_false (by omega)
                        have d6 : decide ((57 : Int) < c.toNat) = true := decide_eq_true (by
                          simp only [isD, Bool.and_eq_true, decide_eq_true_eq] at hd
                          omega)
                        repeat (first | (refine W_seq ?_) | (refine W_reg ?_) | (refine W_regd ?_) | (refine W_block ?_) | (refine And.intro (by omega) ?_) | simp (maxSteps := 1000000) (disch := omega) only [cA, cB, lk, lkH, Dst.onT, Dst.onX, Dst.slot, setF, setH, mapF, mapH, initF, binE, unE, cnt, boundE, newsE, freshE, opE, rmH, blkQ, frz_us, Nat.reduceEqDiff, Nat.reduceLT, Nat.reduceAdd, ↓reduceIte, reduceCtorEq, Nat.reduceLeDiff, tj, hg1, hg2, d5, d6])
                        refine W_cond rfl (fun _ => ?_) (fun h => by cases h)
                        repeat (first | (refine W_seq ?_) | (refine W_reg ?_) | (refine W_regd ?_) | (refine W_block ?_) | (refine And.intro (by omega) ?_) | simp (maxSteps := 1000000) (disch := omega) only [cA, cB, lk, lkH, Dst.onT, Dst.onX, Dst.slot, setF, setH, mapF, mapH, initF, binE, unE, cnt, boundE, newsE, freshE, opE, rmH, blkQ, frz_us, Nat.reduceEqDiff, Nat.reduceLT, Nat.reduceAdd, ↓reduceIte, reduceCtorEq, Nat.reduceLeDiff])
                        exact W_ret (RetP_2 (.nils _) (.imm rfl))
                  · have dj : decide ((j : Int) < g.length) = false := decide_eq_false (by omega)
                    obtain rfl : j = g.length := by omega
                    rw [List.take_length] at hgall ⊢
                    have u9 : [DV.int .u32 1000000000] = us (limbs 1000000000) := by rw [limbs_one (by decide) (by decide)]; rfl
                    have hl9 : (limbs 1000000000).length ≤ 1 := by rw [limbs_one (by decide) (by decide)]; simp
                    have hv : dval 0 g < 1000000000 := Nat.lt_of_lt_of_le (dval_lt _ hgall) (Nat.le_trans (Nat.pow_le_pow_right (by decide) (show g.length ≤ 9 by omega)) (by decide))
                    have hdl := dval_len hall (m := 4000) (by simp; omega)
                    have ct := accD_nMul l i (by omega)
                    have cf := nFromUint_calls (dval 0 g) (by omega)
                    have hm := len_mul hdl hl9
                    have ca := nAddL (dval 0 (l.take i) * 1000000000) (dval 0 g) (by omega) (Nat.le_trans (limbs_len.2 (show dval 0 g < 4294967296 ^ 1 by omega)) (by decide))
                    rw [hval] at ca
                    have hac : accD l (i + 9) = .sl 1 (us (limbs (dval 0 (l.take (i + 9))))) := by unfold accD; rw [if_neg (by omega)]
                    rw [← hac] at ca
                    have halle : (l.take (i + 9)).all isD = true := by rw [hseg, List.all_append, hall, hgall]; rfl
                    have hacc := accD_cases l i
                    clear hval hseg hall hgall hm hdl hl9 hac hmem
                    (replace halle := Hid.mk halle)
                    rcases hacc with e | ⟨xs, e⟩
                    · rw [e] at ct ⊢
                      repeat (first | (refine W_seq ?_) | (refine W_reg ?_) | (refine W_regd ?_) | (refine W_block ?_) | (refine And.intro (by omega) ?_) | simp (maxSteps := 1000000) (disch := omega) only [cA, cB, lk, lkH, Dst.onT, Dst.onX, Dst.slot, setF, setH, mapF, mapH, initF, binE, unE, cnt, boundE, newsE, freshE, opE, rmH, blkQ, frz_us, Nat.reduceEqDiff, Nat.reduceLT, Nat.reduceAdd, ↓reduceIte, reduceCtorEq, Nat.reduceLeDiff, dj])
                      refine W_cond rfl (fun h => by cases h) (fun _ => W_exit ?_)
                      repeat (first | (refine W_seq ?_) | (refine W_reg ?_) | (refine W_regd ?_) | (refine W_block ?_) | (refine And.intro (by omega) ?_) | simp (maxSteps := 1000000) (disch := omega) only [cA, cB, lk, lkH, Dst.onT, Dst.onX, Dst.slot, setF, setH, mapF, mapH, initF, binE, unE, cnt, boundE, newsE, freshE, opE, rmH, blkQ, frz_us, Nat.reduceEqDiff, Nat.reduceLT, Nat.reduceAdd, ↓reduceIte, reduceCtorEq, Nat.reduceLeDiff, u9, us_rfd] | (refine callC_pure (ct) rfl ?_) | (refine callC_pure (cf) rfl ?_) | (refine callC_pure (ca) rfl ?_) | exact W_ret (RetP_1 (.imm rfl)) | exact W_ret (RetP_c rfl rfl rfl (.imm rfl)))
                      exact ⟨(i + 9), And.intro he2 (And.intro halle.out (.inr he5)), by omega, by simp [subF, lk]⟩
                    · rw [e] at ct ⊢
                      repeat (first | (refine W_seq ?_) | (refine W_reg ?_) | (refine W_regd ?_) | (refine W_block ?_) | (refine And.intro (by omega) ?_) | simp (maxSteps := 1000000) (disch := omega) only [cA, cB, lk, lkH, Dst.onT, Dst.onX, Dst.slot, setF, setH, mapF, mapH, initF, binE, unE, cnt, boundE, newsE, freshE, opE, rmH, blkQ, frz_us, Nat.reduceEqDiff, Nat.reduceLT, Nat.reduceAdd, ↓reduceIte, reduceCtorEq, Nat.reduceLeDiff, dj])
                      refine W_cond rfl (fun h => by cases h) (fun _ => W_exit ?_)
                      repeat (first | (refine W_seq ?_) | (refine W_reg ?_) | (refine W_regd ?_) | (refine W_block ?_) | (refine And.intro (by omega) ?_) | simp (maxSteps := 1000000) (disch := omega) only [cA, cB, lk, lkH, Dst.onT, Dst.onX, Dst.slot, setF, setH, mapF, mapH, initF, binE, unE, cnt, boundE, newsE, freshE, opE, rmH, blkQ, frz_us, Nat.reduceEqDiff, Nat.reduceLT, Nat.reduceAdd, ↓reduceIte, reduceCtorEq, Nat.reduceLeDiff, u9, us_rfd] | (refine callC_pure (ct) rfl ?_) | (refine callC_pure (cf) rfl ?_) | (refine callC_pure (ca) rfl ?_) | exact W_ret (RetP_1 (.imm rfl)) | exact W_ret (RetP_c rfl rfl rfl (.imm rfl)))
                      exact ⟨(i + 9), And.intro he2 (And.intro halle.out (.inr he5)), by omega, by simp [subF, lk]⟩
            · have di : decide ((i : Int) = 0) = false := decide_eq_false (by omega)
              have he1 : i < i + 9 := by omega
              have he2 : i + 9 ≤ l.length := by omega
              have he4 : i = 0 ∨ i + 9 - i = 9 := .inr (by omega)
              have he3 : i + 9 - i ≤ 9 := by omega
              have he5 : (l.length - (i + 9)) % 9 = 0 := by omega
              have ei9 : (i : Int) + 9 = ((i + 9 : Nat) : Int) := by omega
              have te : ((i + 9 : Nat) : Int).toNat = i + 9 := Int.toNat_natCast _
              repeat (first | (refine W_seq ?_) | (refine W_reg ?_) | (refine W_regd ?_) | (refine W_block ?_) | (refine And.intro (by omega) ?_) | simp (maxSteps := 1000000) (disch := omega) only [cA, cB, lk, lkH, Dst.onT, Dst.onX, Dst.slot, setF, setH, mapF, mapH, initF, binE, unE, cnt, boundE, newsE, freshE, opE, rmH, blkQ, frz_us, Nat.reduceEqDiff, Nat.reduceLT, Nat.reduceAdd, ↓reduceIte, reduceCtorEq, Nat.reduceLeDiff, di, ei9])
              refine W_cond rfl (fun h => by cases h) (fun _ => W_skip ?_)
              have hg := seg_len (l := l) (at' := i) (e := (i + 9)) he2
              have hseg := take_seg (l := l) (at' := i) (e := (i + 9)) (Nat.le_of_lt he1)
              have hval := dval_seg (l := l) (at' := i) (e := (i + 9)) (Nat.le_of_lt he1) he2 he4
              have hmem : ∀ c ∈ (l.take (i + 9)).drop i, c ∈ l := fun c h => List.mem_of_mem_take (List.mem_of_mem_drop h)
              repeat (first | (refine W_seq ?_) | (refine W_reg ?_) | (refine W_regd ?_) | (refine W_block ?_) | (refine And.intro (by omega) ?_) | simp (maxSteps := 1000000) (disch := omega) only [cA, cB, lk, lkH, Dst.onT, Dst.onX, Dst.slot, setF, setH, mapF, mapH, initF, binE, unE, cnt, boundE, newsE, freshE, opE, rmH, blkQ, frz_us, Nat.reduceEqDiff, Nat.reduceLT, Nat.reduceAdd, ↓reduceIte, reduceCtorEq, Nat.reduceLeDiff, ti, te])
              generalize (l.take (i + 9)).drop i = g at *
              have hglen : ((g.map byteD).length) = g.length := List.length_map ..
              repeat (first | (refine W_seq ?_) | (refine W_reg ?_) | (refine W_regd ?_) | (refine W_block ?_) | (refine And.intro (by omega) ?_) | simp (maxSteps := 1000000) (disch := omega) only [cA, cB, lk, lkH, Dst.onT, Dst.onX, Dst.slot, setF, setH, mapF, mapH, initF, binE, unE, cnt, boundE, newsE, freshE, opE, rmH, blkQ, frz_us, Nat.reduceEqDiff, Nat.reduceLT, Nat.reduceAdd, ↓reduceIte, reduceCtorEq, Nat.reduceLeDiff, hglen])
              refine W_loop (σ := Nat) (fun j => [(0, .str l), (2, accD l i), (3, .bool false), (4, .int .i64 (l.length % 9 : Nat)), (5, .int .i64 i), (6, .int .i64 ((i + 9) : Nat)), (47, .sl 1 (g.map byteD)), (48, .int .i64 g.length), (49, .int .i64 j), (7, .int .u64 (dval 0 (g.take j) : Nat))]) (fun _ => []) (fun j => j ≤ g.length ∧ (g.take j).all isD = true) (fun j => g.length - j) 0 (And.intro (Nat.zero_le _) rfl) ?_ rfl ?_
              · simp [subF, lk, dval_nil]
              · rintro j ⟨hj, hgall⟩
                by_cases hjl : j < g.length
                · have dj : decide ((j : Int) < g.length) = true := decide_eq_true (by omega)
                  repeat (first | (refine W_seq ?_) | (refine W_reg ?_) | (refine W_regd ?_) | (refine W_block ?_) | (refine And.intro (by omega) ?_) | simp (maxSteps := 1000000) (disch := omega) only [cA, cB, lk, lkH, Dst.onT, Dst.onX, Dst.slot, setF, setH, mapF, mapH, initF, binE, unE, cnt, boundE, newsE, freshE, opE, rmH, blkQ, frz_us, Nat.reduceEqDiff, Nat.reduceLT, Nat.reduceAdd, ↓reduceIte, reduceCtorEq, Nat.reduceLeDiff, dj])
                  refine W_cond rfl (fun _ => W_skip ?_) (fun h => by cases h)
                  have tj : (j : Int).toNat = j := Int.toNat_natCast j
                  have hg1 := byteD_get hjl
                  have hg2 := byteD_get? hjl
                  have hta := take_all hjl hgall
                  have htd := take_dval hjl
                  have hmc := hmem g[j] (List.getElem_mem hjl)
                  have hv : dval 0 (g.take j) < 1000000000 := Nat.lt_of_lt_of_le (dval_lt _ hgall) (Nat.le_trans (Nat.pow_le_pow_right (by decide) (show (g.take j).length ≤ 9 by rw [List.length_take]; omega)) (by decide))
                  generalize g[j] = c at *
                  generalize dval 0 (g.take j) = v at *
                  have hk : c.toNat < 256 := UInt8.toNat_lt c
                  have j1 : ((j : Int) + 1) = ((j + 1 : Nat) : Int) := by omega
                  clear hval hseg
                  by_cases hd : isD c = true
                  · have hd' := hd
                    simp only [isD, Bool.and_eq_true, decide_eq_true_eq] at hd'
                    have d5 : decide ((c.toNat : Int) < 48) = false := decide_eq_false (by omega)
                    have d6 : decide ((57 : Int) < c.toNat) = false := decide_eq_false (by omega)
                    have e8 : (c.toNat : Int) - 48 = ((c.toNat - 48 : Nat) : Int) := by omega
                    have e10 : 10 * (v : Int) + ((c.toNat - 48 : Nat) : Int) = ((dval 0 (g.take (j + 1)) : Nat) : Int) := by rw [htd]; omega
                    have hta' := hta hd
                    clear hta htd hgall hall hmem
                    (replace hta' := Hid.mk hta')
                    repeat (first | (refine W_seq ?_) | (refine W_reg ?_) | (refine W_regd ?_) | (refine W_block ?_) | (refine And.intro (by omega) ?_) | simp (maxSteps := 1000000) (disch := omega) only [cA, cB, lk, lkH, Dst.onT, Dst.onX, Dst.slot, setF, setH, mapF, mapH, initF, binE, unE, cnt, boundE, newsE, freshE, opE, rmH, blkQ, frz_us, Nat.reduceEqDiff, Nat.reduceLT, Nat.reduceAdd, ↓reduceIte, reduceCtorEq, Nat.reduceLeDiff, tj, hg1, hg2, d5, d6])
                    refine W_cond rfl (fun h => by cases h) (fun _ => W_skip ?_)
                    repeat (first | (refine W_seq ?_) | (refine W_reg ?_) | (refine W_regd ?_) | (refine W_block ?_) | (refine And.intro (by omega) ?_) | simp (maxSteps := 1000000) (disch := omega) only [cA, cB, lk, lkH, Dst.onT, Dst.onX, Dst.slot, setF, setH, mapF, mapH, initF, binE, unE, cnt, boundE, newsE, freshE, opE, rmH, blkQ, frz_us, Nat.reduceEqDiff, Nat.reduceLT, Nat.reduceAdd, ↓reduceIte, reduceCtorEq, Nat.reduceLeDiff, e8, e10, j1])
                    exact ⟨j + 1, And.intro hjl hta'.out, by omega, by simp [subF, lk]⟩
                  · have hb : okD l = false := by
                      rw [← Bool.not_eq_true, okD_iff]
                      exact fun h => hd (List.all_eq_true.1 h.2.2.2 c hmc)
                    rw [parseR_bad hb]
                    clear hta htd hall hgall hmem
                    by_cases h5 : c.toNat < 48
                    · have d5 : decide ((c.toNat : Int) < 48) = true := decide_eq_true (by omega)
                      repeat (first | (refine W_seq ?_) | (refine W_reg ?_) | (refine W_regd ?_) | (refine W_block ?_) | (refine And.intro (by omega) ?_) | simp (maxSteps := 1000000) (disch := omega) only [cA, cB, lk, lkH, Dst.onT, Dst.onX, Dst.slot, setF, setH, mapF, mapH, initF, binE, unE, cnt, boundE, newsE, freshE, opE, rmH, blkQ, frz_us, Nat.reduceEqDiff, Nat.reduceLT, Nat.reduceAdd, ↓reduceIte, reduceCtorEq, Nat.reduceLeDiff, tj, hg1, hg2, d5])
                      refine W_cond rfl (fun _ => ?_) (fun h => by cases h)
                      repeat (first | (refine W_seq ?_) | (refine W_reg ?_) | (refine W_regd ?_) | (refine W_block ?_) | (refine And.intro (by omega) ?_) | simp (maxSteps := 1000000) (disch := omega) only [cA, cB, lk, lkH, Dst.onT, Dst.onX, Dst.slot, setF, setH, mapF, mapH, initF, binE, unE, cnt, boundE, newsE, freshE, opE, rmH, blkQ, frz_us, Nat.reduceEqDiff, Nat.reduceLT, Nat.reduceAdd, ↓reduceIte, reduceCtorEq, Nat.reduceLeDiff])
                      exact W_ret (RetP_2 (.nils _) (.imm rfl))
                    · have d5 : decide ((c.toNat : Int) < 48) = false := decide_eq_false (by omega)
                      have d6 : decide ((57 : Int) < c.toNat) = true := decide_eq_true (by
                        simp only [isD, Bool.and_eq_true, decide_eq_true_eq] at hd
                        omega)
                      repeat (first | (refine W_seq ?_) | (refine W_reg ?_) | (refine W_regd ?_) | (refine W_block ?_) | (refine And.intro (by omega) ?_) | simp (maxSteps := 1000000) (disch := omega) only [cA, cB, lk, lkH, Dst.onT, Dst.onX, Dst.slot, setF, setH, mapF, mapH, initF, binE, unE, cnt, boundE, newsE, freshE, opE, rmH, blkQ, frz_us, Nat.reduceEqDiff, Nat.reduceLT, Nat.reduceAdd, ↓reduceIte, reduceCtorEq, Nat.reduceLeDiff, tj, hg1, hg2, d5, d6])
                      refine W_cond rfl (fun _ => ?_) (fun h => by cases h)
                      repeat (first | (refine W_seq ?_) | (refine W_reg ?_) | (refine W_regd ?_) | (refine W_block ?_) | (refine And.intro (by omega) ?_) | simp (maxSteps := 1000000) (disch := omega) only [cA, cB, lk, lkH, Dst.onT, Dst.onX, Dst.slot, setF, setH, mapF, mapH, initF, binE, unE, cnt, boundE, newsE, freshE, opE, rmH, blkQ, frz_us, Nat.reduceEqDiff, Nat.reduceLT, Nat.reduceAdd, ↓reduceIte, reduceCtorEq, Nat.reduceLeDiff])
                      exact W_ret (RetP_2 (.nils _) (.imm rfl))
                · have dj : decide ((j : Int) < g.length) = false := decide_eq_false (by omega)
                  obtain rfl : j = g.length := by omega
                  rw [List.take_length] at hgall ⊢
                  have u9 : [DV.int .u32 1000000000] = us (limbs 1000000000) := by rw [limbs_one (by decide) (by decide)]; rfl
                  have hl9 : (limbs 1000000000).length ≤ 1 := by rw [limbs_one (by decide) (by decide)]; simp
                  have hv : dval 0 g < 1000000000 := Nat.lt_of_lt_of_le (dval_lt _ hgall) (Nat.le_trans (Nat.pow_le_pow_right (by decide) (show g.length ≤ 9 by omega)) (by decide))
                  have hdl := dval_len hall (m := 4000) (by simp; omega)
                  have ct := accD_nMul l i (by omega)
                  have cf := nFromUint_calls (dval 0 g) (by omega)
                  have hm := len_mul hdl hl9
                  have ca := nAddL (dval 0 (l.take i) * 1000000000) (dval 0 g) (by omega) (Nat.le_trans (limbs_len.2 (show dval 0 g < 4294967296 ^ 1 by omega)) (by decide))
                  rw [hval] at ca
                  have hac : accD l (i + 9) = .sl 1 (us (limbs (dval 0 (l.take (i + 9))))) := by unfold accD; rw [if_neg (by omega)]
                  rw [← hac] at ca
                  have halle : (l.take (i + 9)).all isD = true := by rw [hseg, List.all_append, hall, hgall]; rfl
                  have hacc := accD_cases l i
                  clear hval hseg hall hgall hm hdl hl9 hac hmem
                  (replace halle := Hid.mk halle)
                  rcases hacc with e | ⟨xs, e⟩
                  · rw [e] at ct ⊢
                    repeat (first | (refine W_seq ?_) | (refine W_reg ?_) | (refine W_regd ?_) | (refine W_block ?_) | (refine And.intro (by omega) ?_) | simp (maxSteps := 1000000) (disch := omega) only [cA, cB, lk, lkH, Dst.onT, Dst.onX, Dst.slot, setF, setH, mapF, mapH, initF, binE, unE, cnt, boundE, newsE, freshE, opE, rmH, blkQ, frz_us, Nat.reduceEqDiff, Nat.reduceLT, Nat.reduceAdd, ↓reduceIte, reduceCtorEq, Nat.reduceLeDiff, dj])
                    refine W_cond rfl (fun h => by cases h) (fun _ => W_exit ?_)
                    repeat (first | (refine W_seq ?_) | (refine W_reg ?_) | (refine W_regd ?_) | (refine W_block ?_) | (refine And.intro (by omega) ?_) | simp (maxSteps := 1000000) (disch := omega) only [cA, cB, lk, lkH, Dst.onT, Dst.onX, Dst.slot, setF, setH, mapF, mapH, initF, binE, unE, cnt, boundE, newsE, freshE, opE, rmH, blkQ, frz_us, Nat.reduceEqDiff, Nat.reduceLT, Nat.reduceAdd, ↓reduceIte, reduceCtorEq, Nat.reduceLeDiff, u9, us_rfd] | (refine callC_pure (ct) rfl ?_) | (refine callC_pure (cf) rfl ?_) | (refine callC_pure (ca) rfl ?_) | exact W_ret (RetP_1 (.imm rfl)) | exact W_ret (RetP_c rfl rfl rfl (.imm rfl)))
                    exact ⟨(i + 9), And.intro he2 (And.intro halle.out (.inr he5)), by omega, by simp [subF, lk]⟩
                  · rw [e] at ct ⊢
                    repeat (first | (refine W_seq ?_) | (refine W_reg ?_) | (refine W_regd ?_) | (refine W_block ?_) | (refine And.intro (by omega) ?_) | simp (maxSteps := 1000000) (disch := omega) only [cA, cB, lk, lkH, Dst.onT, Dst.onX, Dst.slot, setF, setH, mapF, mapH, initF, binE, unE, cnt, boundE, newsE, freshE, opE, rmH, blkQ, frz_us, Nat.reduceEqDiff, Nat.reduceLT, Nat.reduceAdd, ↓reduceIte, reduceCtorEq, Nat.reduceLeDiff, dj])
                    refine W_cond rfl (fun h => by cases h) (fun _ => W_exit ?_)
                    repeat (first | (refine W_seq ?_) | (refine W_reg ?_) | (refine W_regd ?_) | (refine W_block ?_) | (refine And.intro (by omega) ?_) | simp (maxSteps := 1000000) (disch := omega) only [cA, cB, lk, lkH, Dst.onT, Dst.onX, Dst.slot, setF, setH, mapF, mapH, initF, binE, unE, cnt, boundE, newsE, freshE, opE, rmH, blkQ, frz_us, Nat.reduceEqDiff, Nat.reduceLT, Nat.reduceAdd, ↓reduceIte, reduceCtorEq, Nat.reduceLeDiff, u9, us_rfd] | (refine callC_pure (ct) rfl ?_) | (refine callC_pure (cf) rfl ?_) | (refine callC_pure (ca) rfl ?_) | exact W_ret (RetP_1 (.imm rfl)) | exact W_ret (RetP_c rfl rfl rfl (.imm rfl)))
                    exact ⟨(i + 9), And.intro he2 (And.intro halle.out (.inr he5)), by omega, by simp [subF, lk]⟩
          · have hil : i = l.length := by omega
            subst hil
            have dl : decide ((l.length : Int) < l.length) = false := decide_eq_false (by omega)
            rw [List.take_length] at hall
            have hb : okD l = true := (okD_iff l).2 ⟨hn, by omega, hz, hall⟩
            have hr : parseR l = .tup [.sl 1 (us (limbs (dval 0 l))), .bool true] := by unfold parseR; rw [hb]; rfl
            have hac : accD l l.length = .sl 1 (us (limbs (dval 0 l))) := by unfold accD; rw [if_neg (by omega), List.take_length]
            rw [hr, hac]
            repeat (first | (refine W_seq ?_) | (refine W_reg ?_) | (refine W_regd ?_) | (refine W_block ?_) | (refine And.intro (by omega) ?_) | simp (maxSteps := 1000000) (disch := omega) only [cA, cB, lk, lkH, Dst.onT, Dst.onX, Dst.slot, setF, setH, mapF, mapH, initF, binE, unE, cnt, boundE, newsE, freshE, opE, rmH, blkQ, frz_us, Nat.reduceEqDiff, Nat.reduceLT, Nat.reduceAdd, ↓reduceIte, reduceCtorEq, Nat.reduceLeDiff, dl])
            refine W_cond rfl (fun h => by cases h) (fun _ => W_exit ?_)
            repeat (first | (refine W_seq ?_) | (refine W_reg ?_) | (refine W_regd ?_) | (refine W_block ?_) | (refine And.intro (by omega) ?_) | simp (maxSteps := 1000000) (disch := omega) only [cA, cB, lk, lkH, Dst.onT, Dst.onX, Dst.slot, setF, setH, mapF, mapH, initF, binE, unE, cnt, boundE, newsE, freshE, opE, rmH, blkQ, frz_us, Nat.reduceEqDiff, Nat.reduceLT, Nat.reduceAdd, ↓reduceIte, reduceCtorEq, Nat.reduceLeDiff])
            exact W_ret (RetP_2 (.imm rfl) (.imm rfl))
end Go.Proofs.YteiagmmfapbaiaaGreatDoor
namespace Go.Proofs.YteiagmmfapbaiaaGreatDoor
open Go Go.Dat Go.Proofs Nat32
open Go.Lib (decDigits)
def fmtI (z : Int) : List UInt8 := if z < 0 then 45 :: decDigits z.natAbs else decDigits z.natAbs
theorem iFormat_calls (neg : Bool) (a : List Nat) (ha : a.length ≤ 900) (la : lim a) : PCalls Tryz.prog 68 [X neg a] (.str (fmtI (iv neg a))) := by
  have cv := i_value_calls neg a (by omega) la
  have cg := iSign_calls neg a (by omega) la
  have l1 := iv_len la neg
  generalize iv neg a = z at *
  have cf := nFormat_calls (limbs z.natAbs) (by omega) (lim_limbs _)
  rw [vn_limbs] at cf
  have hd := dd_limbs (Nat.le_trans l1 ha)
  unfold fmtI
  generalize decDigits z.natAbs = D at *
  refine PCalls_of isiFormat (by simp [fniFormat]) ?_
  unfold codeiFormat
  repeat (first | (refine W_seq ?_) | (refine W_reg ?_) | (refine W_regd ?_) | (refine W_block ?_) | (refine And.intro (by omega) ?_) | simp (maxSteps := 1000000) (disch := omega) only [cA, cB, lk, lkH, Dst.onT, Dst.onX, Dst.slot, setF, setH, mapF, mapH, initF, binE, unE, cnt, boundE, newsE, freshE, opE, rmH, blkQ, frz_us, Nat.reduceEqDiff, Nat.reduceLT, Nat.reduceAdd, ↓reduceIte, reduceCtorEq, Nat.reduceLeDiff, X, I, cS, nbiFormat] | (refine callC_pure (cv) rfl ?_) | (refine callC_pure (cf) rfl ?_) | (refine callC_pure (cg) rfl ?_) | exact W_ret (RetP_1 (.imm rfl)) | exact W_ret (RetP_c rfl rfl rfl (.imm rfl)))
  by_cases hz : z < 0
  · have ds : decide (z.sign < 0) = true := by rw [Int.sign_eq_neg_one_of_neg hz]; decide
    rw [ds, if_pos hz]
    refine W_cond rfl (fun _ => ?_) (fun h => by cases h)
    have e : [(45 : UInt8)] ++ D = 45 :: D := rfl
    repeat (first | (refine W_seq ?_) | (refine W_reg ?_) | (refine W_regd ?_) | (refine W_block ?_) | (refine And.intro (by omega) ?_) | simp (maxSteps := 1000000) (disch := omega) only [cA, cB, lk, lkH, Dst.onT, Dst.onX, Dst.slot, setF, setH, mapF, mapH, initF, binE, unE, cnt, boundE, newsE, freshE, opE, rmH, blkQ, frz_us, Nat.reduceEqDiff, Nat.reduceLT, Nat.reduceAdd, ↓reduceIte, reduceCtorEq, Nat.reduceLeDiff, e, List.length_singleton])
    exact W_ret (RetP_1 (.imm rfl))
  · have ds : decide (z.sign < 0) = false := decide_eq_false (by have := Int.sign_nonneg_iff.2 (show 0 ≤ z by omega); omega)
    rw [ds, if_neg hz]
    refine W_cond rfl (fun h => by cases h) (fun _ => W_skip ?_)
    repeat (first | (refine W_seq ?_) | (refine W_reg ?_) | (refine W_regd ?_) | (refine W_block ?_) | (refine And.intro (by omega) ?_) | simp (maxSteps := 1000000) (disch := omega) only [cA, cB, lk, lkH, Dst.onT, Dst.onX, Dst.slot, setF, setH, mapF, mapH, initF, binE, unE, cnt, boundE, newsE, freshE, opE, rmH, blkQ, frz_us, Nat.reduceEqDiff, Nat.reduceLT, Nat.reduceAdd, ↓reduceIte, reduceCtorEq, Nat.reduceLeDiff])
    exact W_ret (RetP_1 (.imm rfl))
theorem sFormat_calls (neg : Bool) (a : List Nat) (ha : a.length ≤ 900) (la : lim a) : PCalls Tryz.prog 71 [X neg a] (.str (fmtI (iv neg a))) := by
  have cv := sTake_calls neg a (by omega) la
  have l1 := iv_len la neg
  generalize iv neg a = z at *
  have cf := rFormat_calls (limbs z.natAbs) (by omega) (lim_limbs _)
  rw [vn_limbs] at cf
  have hd := dd_limbs (Nat.le_trans l1 ha)
  unfold fmtI
  generalize decDigits z.natAbs = D at *
  refine PCalls_of issFormat (by simp [fnsFormat]) ?_
  unfold codesFormat
  repeat (first | (refine W_seq ?_) | (refine W_reg ?_) | (refine W_regd ?_) | (refine W_block ?_) | (refine And.intro (by omega) ?_) | simp (maxSteps := 1000000) (disch := omega) only [cA, cB, lk, lkH, Dst.onT, Dst.onX, Dst.slot, setF, setH, mapF, mapH, initF, binE, unE, cnt, boundE, newsE, freshE, opE, rmH, blkQ, frz_us, Nat.reduceEqDiff, Nat.reduceLT, Nat.reduceAdd, ↓reduceIte, reduceCtorEq, Nat.reduceLeDiff, X, I, cS, nbsFormat] | (refine callC_pure (cv) rfl ?_) | exact W_ret (RetP_1 (.imm rfl)) | exact W_ret (RetP_c rfl rfl rfl (.imm rfl)))
  by_cases hz : z < 0
  · have ds : decide (z < 0) = true := decide_eq_true hz
    rw [ds, if_pos hz]
    refine W_cond rfl (fun _ => ?_) (fun h => by cases h)
    have e : [(45 : UInt8)] ++ D = 45 :: D := rfl
    repeat (first | (refine W_seq ?_) | (refine W_reg ?_) | (refine W_regd ?_) | (refine W_block ?_) | (refine And.intro (by omega) ?_) | simp (maxSteps := 1000000) (disch := omega) only [cA, cB, lk, lkH, Dst.onT, Dst.onX, Dst.slot, setF, setH, mapF, mapH, initF, binE, unE, cnt, boundE, newsE, freshE, opE, rmH, blkQ, frz_us, Nat.reduceEqDiff, Nat.reduceLT, Nat.reduceAdd, ↓reduceIte, reduceCtorEq, Nat.reduceLeDiff, cS, e, List.length_singleton] | (refine callC_pure (cf) rfl ?_) | exact W_ret (RetP_1 (.imm rfl)) | exact W_ret (RetP_c rfl rfl rfl (.imm rfl)))
  · have ds : decide (z < 0) = false := decide_eq_false hz
    rw [ds, if_neg hz]
    refine W_cond rfl (fun h => by cases h) (fun _ => W_skip ?_)
    repeat (first | (refine W_seq ?_) | (refine W_reg ?_) | (refine W_regd ?_) | (refine W_block ?_) | (refine And.intro (by omega) ?_) | simp (maxSteps := 1000000) (disch := omega) only [cA, cB, lk, lkH, Dst.onT, Dst.onX, Dst.slot, setF, setH, mapF, mapH, initF, binE, unE, cnt, boundE, newsE, freshE, opE, rmH, blkQ, frz_us, Nat.reduceEqDiff, Nat.reduceLT, Nat.reduceAdd, ↓reduceIte, reduceCtorEq, Nat.reduceLeDiff, cS] | (refine callC_pure (cf) rfl ?_) | exact W_ret (RetP_1 (.imm rfl)) | exact W_ret (RetP_c rfl rfl rfl (.imm rfl)))
end Go.Proofs.YteiagmmfapbaiaaGreatDoor
namespace Go.Proofs.YteiagmmfapbaiaaGreatDoor
open Go Go.Dat Go.Proofs
noncomputable def fnstrCut : FnD := ⟨Tryz.prog, [0, 1, 4, 5, 6], [], 13, 0, false⟩
def codestrCut : DC := (.seq (.reg [⟨(.x 4), .mv (.c (.str [])), none⟩,⟨(.x 5), .mv (.c (.str [])), none⟩,⟨(.x 6), .mv (.c (.bool false)), none⟩]) (.seq (.reg [⟨(.t 7), .mv (.x 0), none⟩,⟨(.t 8), .mv (.x 1), none⟩,⟨(.t 9), .call 142 [(.t 7), (.t 8)], none⟩,⟨(.t 10), .ext (.t 9) 0, none⟩,⟨(.t 11), .ext (.t 9) 1, none⟩,⟨(.t 12), .ext (.t 9) 2, none⟩,⟨(.x 4), .mv (.t 10), none⟩,⟨(.x 5), .mv (.t 11), none⟩,⟨(.x 6), .mv (.t 12), none⟩]) .ret))
def resstrCut : List RV := [.t 4, .t 5, .t 6]
theorem isstrCut : IsFn fnstrCut 107 codestrCut resstrCut := ⟨⟨Tryz.f107, _, Tryz.func107, rfl, rfl, by kernel_rfl, by kernel_rfl, by kernel_rfl⟩⟩
noncomputable def fnislCut : FnD := ⟨Tryz.prog, [0, 1, 4, 5, 6, 7, 12], [], 23, 0, false⟩
def codeislCut : DC := (.seq (.reg [⟨(.x 4), .mv (.c (.str [])), none⟩,⟨(.x 5), .mv (.c (.str [])), none⟩,⟨(.x 6), .mv (.c (.bool false)), none⟩]) (.seq (.seq (.reg [⟨(.t 8), .mv (.x 0), none⟩,⟨(.t 9), .mv (.x 1), none⟩,⟨(.t 10), .call 163 [(.t 8), (.t 9)], none⟩,⟨(.x 7), .mv (.t 10), none⟩]) (.seq (.reg [⟨(.t 11), .mv (.x 7), none⟩,⟨(.x 12), .bin .geq (.t 11) (.c (.int .i64 0)), none⟩]) (.cond (.x 12) (.seq (.regd [⟨(.t 13), .mv (.x 0), none⟩,⟨(.t 14), .mv (.x 7), none⟩,⟨(.t 15), .slcS (.t 13) none (some (.t 14)), none⟩,⟨(.t 16), .mv (.x 0), none⟩,⟨(.t 17), .mv (.x 7), none⟩,⟨(.t 18), .mv (.x 1), none⟩,⟨(.t 19), .lenS (.t 18), none⟩,⟨(.t 20), .bin .add (.t 17) (.t 19), none⟩,⟨(.t 21), .slcS (.t 16) (some (.t 20)) none, none⟩,⟨(.x 4), .mv (.t 15), none⟩,⟨(.x 5), .mv (.t 21), none⟩,⟨(.x 6), .mv (.c (.bool true)), none⟩]) .ret) .skip))) (.seq (.reg [⟨(.t 22), .mv (.x 0), none⟩,⟨(.x 4), .mv (.t 22), none⟩,⟨(.x 5), .mv (.c (.str [])), none⟩,⟨(.x 6), .mv (.c (.bool false)), none⟩]) .ret)))
def resislCut : List RV := [.t 4, .t 5, .t 6]
theorem isislCut : IsFn fnislCut 142 codeislCut resislCut := ⟨⟨Tryz.f142, _, Tryz.func142, rfl, rfl, by kernel_rfl, by kernel_rfl, by kernel_rfl⟩⟩
end Go.Proofs.YteiagmmfapbaiaaGreatDoor
namespace Go.Proofs.YteiagmmfapbaiaaGreatDoor
open Go Go.Dat Go.Proofs Nat32 Go.RowKit
open Go.Lib (decDigits)
theorem islIndex1 (l : List UInt8) (c : UInt8) : PCalls Tryz.prog 163 [.str l, .str [c]] (.int .i64 (idx (isC c) l)) :=
  PCalls_str2 (fun _ _ => .int _ _) fun w => (Tryz.stringslite_Index_one ⟨l.toArray⟩ c w).mono fun e w' h => ⟨by rw [h.1, indexByte_idx], by rw [h.2]; exact Below.refl _ _⟩
theorem cutPrefixD (l : List UInt8) : PCalls Tryz.prog 60 [.str l, .str [45]] (.tup [.str (expD l), .bool (decide (l.head? = some 45))]) :=
  PCalls_str2 (fun _ _ => VI_strbool _ _) fun w => (Tryz.strings_CutPrefix ⟨l.toArray⟩ ⟨[45].toArray⟩ w).mono fun e w' h => ⟨by rw [h.1, ← trimPrefix45, ← hasPrefix45], by rw [h.2]; exact Below.refl _ _⟩
theorem trimLeftD (l : List UInt8) : PCalls Tryz.prog 147 [.str l, .str [48]] (.str (Lib.trimLeftB l 48)) :=
  PCalls_str2 (fun _ _ => .str _) fun w => (Tryz.strings_TrimLeft_one ⟨l.toArray⟩ 48 (by decide) w).mono fun e w' h => ⟨h.1, by rw [h.2]; exact Below.refl _ _⟩
def A7 (l : List UInt8) : Prop := (∀ b ∈ l, b.toNat < 128) ∨ 8 < l.length
theorem indexAnyD (l : List UInt8) (h7 : A7 l) (hl : l.length ≤ 100000) : PCalls Tryz.prog 109 [.str l, .str [101, 69]] (.int .i64 (idx isE l)) := by
  have hc : ∀ (j : Nat) b, ([101, 69] : List UInt8)[j]? = some b → b.toNat < 128 := fun j b hb => by
    have := List.mem_of_getElem? hb
    simp at this
    rcases this with rfl | rfl <;> decide
  have hz : (⟨l.toArray⟩ : ByteArray).size = l.length := by simp [ByteArray.size]
  rcases h7 with ha | h8
  · exact PCalls_str2 (fun _ _ => .int _ _) fun w => (Tryz.strings_IndexAny_laid ⟨l.toArray⟩ ⟨[101, 69].toArray⟩ w (by omega) (by decide) (fun j b hb => ha b (List.mem_of_getElem? hb)) hc).mono fun e w' h => ⟨by rw [h.1, ← indexAny_idx], h.2⟩
  · refine PCalls_str2 (fun _ _ => .int _ _) fun w => (Tryz.strings_IndexAny_long (zero_of_info (n := 256) (by kernel_rfl)).1 ⟨l.toArray⟩ ⟨[101, 69].toArray⟩ w (by decide) (by omega) (by omega) (by decide) hc).mono fun e w' h => ⟨by rw [h.1, ← indexAny_idx], ?_⟩
    rw [h.2]
    exact ((Below.refl _ _).alloc (Nat.le_refl _) _).alloc (by simp) _
def cutR (p : UInt8 → Bool) (l : List UInt8) : DV := if fi p l < l.length then .tup [.str (l.take (fi p l)), .str (l.drop (fi p l + 1)), .bool true] else .tup [.str l, .str [], .bool false]
theorem islCut_calls (l : List UInt8) (c : UInt8) (hl : l.length ≤ 100000) : PCalls Tryz.prog 142 [.str l, .str [c]] (cutR (isC c) l) := by
  have ci := islIndex1 l c
  have hge := idx_ge (isC c) l
  refine PCalls_of isislCut (by simp [fnislCut]) ?_
  unfold codeislCut cutR
  by_cases h : fi (isC c) l < l.length
  · rw [if_pos h]
    rw [decide_eq_true h] at hge
    rw [idx_of h] at ci hge
    generalize fi (isC c) l = i at *
    have e1 : ((i : Int) + ((1 : Nat) : Int)).toNat = i + 1 := by omega
    have e2 : (l.take l.length).drop (i + 1) = l.drop (i + 1) := by rw [List.take_length]
    have e3 : (l.take i).drop 0 = l.take i := rfl
    repeat (first | (refine W_seq ?_) | (refine W_reg ?_) | (refine W_regd ?_) | (refine W_block ?_) | (refine And.intro (by omega) ?_) | simp (maxSteps := 1000000) (disch := omega) only [cA, cB, lk, lkH, Dst.onT, Dst.onX, Dst.slot, setF, setH, mapF, mapH, initF, binE, unE, cnt, boundE, newsE, freshE, opE, rmH, blkQ, frz_us, Nat.reduceEqDiff, Nat.reduceLT, Nat.reduceAdd, ↓reduceIte, reduceCtorEq, Nat.reduceLeDiff, hge] | (refine callC_pure (ci) rfl ?_) | exact W_ret (RetP_1 (.imm rfl)) | exact W_ret (RetP_c rfl rfl rfl (.imm rfl)))
    refine W_cond rfl (fun _ => ?_) (fun h => by cases h)
    repeat (first | (refine W_seq ?_) | (refine W_reg ?_) | (refine W_regd ?_) | (refine W_block ?_) | (refine And.intro (by omega) ?_) | simp (maxSteps := 1000000) (disch := omega) only [cA, cB, lk, lkH, Dst.onT, Dst.onX, Dst.slot, setF, setH, mapF, mapH, initF, binE, unE, cnt, boundE, newsE, freshE, opE, rmH, blkQ, frz_us, Nat.reduceEqDiff, Nat.reduceLT, Nat.reduceAdd, ↓reduceIte, reduceCtorEq, Nat.reduceLeDiff, e1, e2, e3, List.length_singleton, List.take_length])
    exact W_ret (RetP_3 (.imm rfl) (.imm rfl) (.imm rfl))
  · rw [if_neg h]
    rw [decide_eq_false h] at hge
    repeat (first | (refine W_seq ?_) | (refine W_reg ?_) | (refine W_regd ?_) | (refine W_block ?_) | (refine And.intro (by omega) ?_) | simp (maxSteps := 1000000) (disch := omega) only [cA, cB, lk, lkH, Dst.onT, Dst.onX, Dst.slot, setF, setH, mapF, mapH, initF, binE, unE, cnt, boundE, newsE, freshE, opE, rmH, blkQ, frz_us, Nat.reduceEqDiff, Nat.reduceLT, Nat.reduceAdd, ↓reduceIte, reduceCtorEq, Nat.reduceLeDiff, hge] | (refine callC_pure (ci) rfl ?_) | exact W_ret (RetP_1 (.imm rfl)) | exact W_ret (RetP_c rfl rfl rfl (.imm rfl)))
    refine W_cond rfl (fun h => by cases h) (fun _ => W_skip ?_)
    repeat (first | (refine W_seq ?_) | (refine W_reg ?_) | (refine W_regd ?_) | (refine W_block ?_) | (refine And.intro (by omega) ?_) | simp (maxSteps := 1000000) (disch := omega) only [cA, cB, lk, lkH, Dst.onT, Dst.onX, Dst.slot, setF, setH, mapF, mapH, initF, binE, unE, cnt, boundE, newsE, freshE, opE, rmH, blkQ, frz_us, Nat.reduceEqDiff, Nat.reduceLT, Nat.reduceAdd, ↓reduceIte, reduceCtorEq, Nat.reduceLeDiff])
    exact W_ret (RetP_3 (.imm rfl) (.imm rfl) (.imm rfl))
theorem strCut_calls (l : List UInt8) (c : UInt8) (hl : l.length ≤ 100000) : PCalls Tryz.prog 107 [.str l, .str [c]] (cutR (isC c) l) := by
  have ci := islCut_calls l c hl
  refine PCalls_of isstrCut (by simp [fnstrCut]) ?_
  unfold codestrCut
  unfold cutR at ci ⊢
  by_cases h : fi (isC c) l < l.length
  · rw [if_pos h] at ci ⊢
    repeat (first | (refine W_seq ?_) | (refine W_reg ?_) | (refine W_regd ?_) | (refine W_block ?_) | (refine And.intro (by omega) ?_) | simp (maxSteps := 1000000) (disch := omega) only [cA, cB, lk, lkH, Dst.onT, Dst.onX, Dst.slot, setF, setH, mapF, mapH, initF, binE, unE, cnt, boundE, newsE, freshE, opE, rmH, blkQ, frz_us, Nat.reduceEqDiff, Nat.reduceLT, Nat.reduceAdd, ↓reduceIte, reduceCtorEq, Nat.reduceLeDiff] | (refine callC_pure (ci) rfl ?_) | exact W_ret (RetP_1 (.imm rfl)) | exact W_ret (RetP_c rfl rfl rfl (.imm rfl)))
    exact W_ret (RetP_3 (.imm rfl) (.imm rfl) (.imm rfl))
  · rw [if_neg h] at ci ⊢
    repeat (first | (refine W_seq ?_) | (refine W_reg ?_) | (refine W_regd ?_) | (refine W_block ?_) | (refine And.intro (by omega) ?_) | simp (maxSteps := 1000000) (disch := omega) only [cA, cB, lk, lkH, Dst.onT, Dst.onX, Dst.slot, setF, setH, mapF, mapH, initF, binE, unE, cnt, boundE, newsE, freshE, opE, rmH, blkQ, frz_us, Nat.reduceEqDiff, Nat.reduceLT, Nat.reduceAdd, ↓reduceIte, reduceCtorEq, Nat.reduceLeDiff] | (refine callC_pure (ci) rfl ?_) | exact W_ret (RetP_1 (.imm rfl)) | exact W_ret (RetP_c rfl rfl rfl (.imm rfl)))
    exact W_ret (RetP_3 (.imm rfl) (.imm rfl) (.imm rfl))
theorem ten_len (k : Nat) : (limbs (10 ^ k)).length ≤ k + 1 := by
  rw [limbs_len]
  refine Nat.lt_of_le_of_lt (Nat.pow_le_pow_left (show 10 ≤ 4294967296 by decide) k) ?_
  exact Nat.pow_lt_pow_right (by decide) (by omega)
theorem l10 : [DV.int .u32 10] = us (limbs 10) := by rw [limbs_one (by decide) (by decide)]; rfl
theorem limbs10 : (limbs 10).length ≤ 1 := by rw [limbs_one (by decide) (by decide)]; simp
theorem nPow10 (k : Nat) (h : k ≤ 64) : PCalls Tryz.prog 129 [.sl 1 (us (limbs 10)), .int .i64 k] (.sl 1 (us (limbs (10 ^ k)))) := by
  have := nPower_calls (limbs 10) k (Nat.le_trans limbs10 (by decide)) (lim_limbs _)
  unfold pw at this
  rwa [if_neg (by omega), Int.toNat_natCast, vn_limbs] at this
theorem q_ten_calls (k : Nat) (hk : k ≤ 5000) : PCalls Tryz.prog 75 [.int .i64 k] (.sl 1 (us (limbs (10 ^ k)))) := by
  refine PCalls_of isq_ten (by simp [fnq_ten]) ?_
  unfold codeq_ten
  have hone := q_one_calls
  repeat (first | (refine W_seq ?_) | (refine W_reg ?_) | (refine W_regd ?_) | (refine W_block ?_) | (refine And.intro (by omega) ?_) | simp (maxSteps := 1000000) (disch := omega) only [cA, cB, lk, lkH, Dst.onT, Dst.onX, Dst.slot, setF, setH, mapF, mapH, initF, binE, unE, cnt, boundE, newsE, freshE, opE, rmH, blkQ, frz_us, Nat.reduceEqDiff, Nat.reduceLT, Nat.reduceAdd, ↓reduceIte, reduceCtorEq, Nat.reduceLeDiff] | (refine callC_pure (hone) rfl ?_) | exact W_ret (RetP_1 (.imm rfl)) | exact W_ret (RetP_c rfl rfl rfl (.imm rfl)))
  refine W_loop (σ := Nat) (fun i => [(0, .int .i64 i), (2, .nils), (3, .sl 1 (us (limbs (10 ^ (k - i)))))]) (fun _ => []) (fun i => i ≤ k) (fun i => i) k (Nat.le_refl _) ?_ rfl ?_
  · simp [subF, lk]
  · rintro i hi
    try simp only at hi ⊢
    have hl := ten_len (k - i)
    by_cases h : 64 < i
    · have d : decide ((64 : Int) < i) = true := decide_eq_true (by omega)
      have c1 := nPow10 64 (Nat.le_refl _)
      have c2 := nMulL (10 ^ (k - i)) (10 ^ 64) (by omega) (Nat.le_trans (ten_len 64) (by decide))
      rw [← Nat.pow_add, show k - i + 64 = k - (i - 64) by omega] at c2
      have e1 : (i : Int) - 64 = ((i - 64 : Nat) : Int) := by omega
      generalize 10 ^ 64 = T at *
      repeat (first | (refine W_seq ?_) | (refine W_reg ?_) | (refine W_regd ?_) | (refine W_block ?_) | (refine And.intro (by omega) ?_) | simp (maxSteps := 1000000) (disch := omega) only [cA, cB, lk, lkH, Dst.onT, Dst.onX, Dst.slot, setF, setH, mapF, mapH, initF, binE, unE, cnt, boundE, newsE, freshE, opE, rmH, blkQ, frz_us, Nat.reduceEqDiff, Nat.reduceLT, Nat.reduceAdd, ↓reduceIte, reduceCtorEq, Nat.reduceLeDiff, d])
      refine W_cond rfl (fun _ => W_skip ?_) (fun h => by cases h)
      repeat (first | (refine W_seq ?_) | (refine W_reg ?_) | (refine W_regd ?_) | (refine W_block ?_) | (refine And.intro (by omega) ?_) | simp (maxSteps := 1000000) (disch := omega) only [cA, cB, lk, lkH, Dst.onT, Dst.onX, Dst.slot, setF, setH, mapF, mapH, initF, binE, unE, cnt, boundE, newsE, freshE, opE, rmH, blkQ, frz_us, Nat.reduceEqDiff, Nat.reduceLT, Nat.reduceAdd, ↓reduceIte, reduceCtorEq, Nat.reduceLeDiff, l10, us_rfd, e1] | (refine callC_pure (c1) rfl ?_) | (refine callC_pure (c2) rfl ?_) | exact W_ret (RetP_1 (.imm rfl)) | exact W_ret (RetP_c rfl rfl rfl (.imm rfl)))
      exact ⟨i - 64, by omega, by omega, by simp [subF, lk]⟩
    · have d : decide ((64 : Int) < i) = false := decide_eq_false (by omega)
      have c1 := nPow10 i (by omega)
      have c2 := nMulL (10 ^ (k - i)) (10 ^ i) (by omega) (Nat.le_trans (ten_len i) (by omega))
      rw [← Nat.pow_add, show k - i + i = k by omega] at c2
      repeat (first | (refine W_seq ?_) | (refine W_reg ?_) | (refine W_regd ?_) | (refine W_block ?_) | (refine And.intro (by omega) ?_) | simp (maxSteps := 1000000) (disch := omega) only [cA, cB, lk, lkH, Dst.onT, Dst.onX, Dst.slot, setF, setH, mapF, mapH, initF, binE, unE, cnt, boundE, newsE, freshE, opE, rmH, blkQ, frz_us, Nat.reduceEqDiff, Nat.reduceLT, Nat.reduceAdd, ↓reduceIte, reduceCtorEq, Nat.reduceLeDiff, d])
      refine W_cond rfl (fun h => by cases h) (fun _ => W_exit ?_)
      repeat (first | (refine W_seq ?_) | (refine W_reg ?_) | (refine W_regd ?_) | (refine W_block ?_) | (refine And.intro (by omega) ?_) | simp (maxSteps := 1000000) (disch := omega) only [cA, cB, lk, lkH, Dst.onT, Dst.onX, Dst.slot, setF, setH, mapF, mapH, initF, binE, unE, cnt, boundE, newsE, freshE, opE, rmH, blkQ, frz_us, Nat.reduceEqDiff, Nat.reduceLT, Nat.reduceAdd, ↓reduceIte, reduceCtorEq, Nat.reduceLeDiff, l10, us_rfd] | (refine callC_pure (c1) rfl ?_) | (refine callC_pure (c2) rfl ?_) | exact W_ret (RetP_1 (.imm rfl)) | exact W_ret (RetP_c rfl rfl rfl (.imm rfl)))
theorem q_significant_calls (l : List UInt8) : PCalls Tryz.prog 112 [.str l] (.str (sig l)) := by
  have ct := trimLeftD l
  refine PCalls_of isq_significant (by simp [fnq_significant]) ?_
  unfold codeq_significant sig
  generalize Lib.trimLeftB l 48 = T at *
  by_cases h : T = []
  · have d : decide (T = []) = true := decide_eq_true h
    rw [if_pos h]
    repeat (first | (refine W_seq ?_) | (refine W_reg ?_) | (refine W_regd ?_) | (refine W_block ?_) | (refine And.intro (by omega) ?_) | simp (maxSteps := 1000000) (disch := omega) only [cA, cB, lk, lkH, Dst.onT, Dst.onX, Dst.slot, setF, setH, mapF, mapH, initF, binE, unE, cnt, boundE, newsE, freshE, opE, rmH, blkQ, frz_us, Nat.reduceEqDiff, Nat.reduceLT, Nat.reduceAdd, ↓reduceIte, reduceCtorEq, Nat.reduceLeDiff, d] | (refine callC_pure (ct) rfl ?_) | exact W_ret (RetP_1 (.imm rfl)) | exact W_ret (RetP_c rfl rfl rfl (.imm rfl)))
    refine W_cond rfl (fun _ => ?_) (fun h => by cases h)
    repeat (first | (refine W_seq ?_) | (refine W_reg ?_) | (refine W_regd ?_) | (refine W_block ?_) | (refine And.intro (by omega) ?_) | simp (maxSteps := 1000000) (disch := omega) only [cA, cB, lk, lkH, Dst.onT, Dst.onX, Dst.slot, setF, setH, mapF, mapH, initF, binE, unE, cnt, boundE, newsE, freshE, opE, rmH, blkQ, frz_us, Nat.reduceEqDiff, Nat.reduceLT, Nat.reduceAdd, ↓reduceIte, reduceCtorEq, Nat.reduceLeDiff])
    exact W_ret (RetP_1 (.imm rfl))
  · have d : decide (T = []) = false := decide_eq_false h
    rw [if_neg h]
    repeat (first | (refine W_seq ?_) | (refine W_reg ?_) | (refine W_regd ?_) | (refine W_block ?_) | (refine And.intro (by omega) ?_) | simp (maxSteps := 1000000) (disch := omega) only [cA, cB, lk, lkH, Dst.onT, Dst.onX, Dst.slot, setF, setH, mapF, mapH, initF, binE, unE, cnt, boundE, newsE, freshE, opE, rmH, blkQ, frz_us, Nat.reduceEqDiff, Nat.reduceLT, Nat.reduceAdd, ↓reduceIte, reduceCtorEq, Nat.reduceLeDiff, d] | (refine callC_pure (ct) rfl ?_) | exact W_ret (RetP_1 (.imm rfl)) | exact W_ret (RetP_c rfl rfl rfl (.imm rfl)))
    refine W_cond rfl (fun h => by cases h) (fun _ => W_skip ?_)
    repeat (first | (refine W_seq ?_) | (refine W_reg ?_) | (refine W_regd ?_) | (refine W_block ?_) | (refine And.intro (by omega) ?_) | simp (maxSteps := 1000000) (disch := omega) only [cA, cB, lk, lkH, Dst.onT, Dst.onX, Dst.slot, setF, setH, mapF, mapH, initF, binE, unE, cnt, boundE, newsE, freshE, opE, rmH, blkQ, frz_us, Nat.reduceEqDiff, Nat.reduceLT, Nat.reduceAdd, ↓reduceIte, reduceCtorEq, Nat.reduceLeDiff])
    exact W_ret (RetP_1 (.imm rfl))
end Go.Proofs.YteiagmmfapbaiaaGreatDoor
namespace Go.Proofs.YteiagmmfapbaiaaGreatDoor
open Go Go.Dat Go.Proofs Nat32 Go.RowKit
open Go.Lib (decDigits)
theorem bs_getD {l : List UInt8} {k : Nat} (h : k < l.length) : (l.map byteD).getD k .undef = .int .u8 ((l.getD k 0).toNat : Nat) := by
  simp [List.getD_eq_getElem?_getD, h, byteD]
theorem q_digits_calls (l : List UInt8) (hl : l.length ≤ 100000) : PCalls Tryz.prog 111 [.str l] (.bool (digs l)) := by
  refine PCalls_of isq_digits (by simp [fnq_digits]) ?_
  unfold codeq_digits
  repeat (first | (refine W_seq ?_) | (refine W_reg ?_) | (refine W_regd ?_) | (refine W_block ?_) | (refine And.intro (by omega) ?_) | simp (maxSteps := 1000000) (disch := omega) only [cA, cB, lk, lkH, Dst.onT, Dst.onX, Dst.slot, setF, setH, mapF, mapH, initF, binE, unE, cnt, boundE, newsE, freshE, opE, rmH, blkQ, frz_us, Nat.reduceEqDiff, Nat.reduceLT, Nat.reduceAdd, ↓reduceIte, reduceCtorEq, Nat.reduceLeDiff, List.length_map])
  refine W_loop (σ := Nat) (fun i => [(0, .str l), (2, .bool false), (6, .sl 1 (l.map byteD)), (7, .int .i64 l.length), (8, .int .i64 i)]) (fun _ => []) (fun i => i ≤ l.length ∧ (l.take i).all isD = true) (fun i => l.length - i) 0 (And.intro (Nat.zero_le _) rfl) ?_ rfl ?_
  · simp [subF, lk]
  · rintro i ⟨hi, hall⟩
    try simp only at hi hall ⊢
    by_cases hlt : i < l.length
    · have dl : decide ((i : Int) < l.length) = true := decide_eq_true (by omega)
      have ei : (i : Int).toNat = i := Int.toNat_natCast i
      have hgd := bs_getD hlt
      have hg2 : l.getD i 0 = l[i] := by rw [List.getD_eq_getElem?_getD, List.getElem?_eq_getElem hlt]; rfl
      rw [hg2] at hgd
      have hta := take_all hlt hall
      have hmem : l[i] ∈ l := List.getElem_mem hlt
      clear hg2
      generalize l[i] = c at *
      have hk : c.toNat < 256 := UInt8.toNat_lt c
      have e1 : ((i : Int) + 1) = ((i + 1 : Nat) : Int) := by omega
      have hbad : ¬ isD c = true → digs l = false := fun h => by
        unfold digs
        rw [Bool.and_eq_false_iff]
        right
        rw [← Bool.not_eq_true]
        exact fun k => h (List.all_eq_true.1 k c hmem)
      repeat (first | (refine W_seq ?_) | (refine W_reg ?_) | (refine W_regd ?_) | (refine W_block ?_) | (refine And.intro (by omega) ?_) | simp (maxSteps := 1000000) (disch := omega) only [cA, cB, lk, lkH, Dst.onT, Dst.onX, Dst.slot, setF, setH, mapF, mapH, initF, binE, unE, cnt, boundE, newsE, freshE, opE, rmH, blkQ, frz_us, Nat.reduceEqDiff, Nat.reduceLT, Nat.reduceAdd, ↓reduceIte, reduceCtorEq, Nat.reduceLeDiff, dl])
      refine W_cond rfl (fun _ => W_skip ?_) (fun h => by cases h)
      by_cases hd : isD c = true
      · have hd' := hd
        simp only [isD, Bool.and_eq_true, decide_eq_true_eq] at hd'
        have d5 : decide (((c.toNat : Nat) : Int) < 48) = false := decide_eq_false (by omega)
        have d6 : decide ((57 : Int) < ((c.toNat : Nat) : Int)) = false := decide_eq_false (by omega)
        have hta' := hta hd
        clear hta hall hd hbad hmem
        (replace hta' := Hid.mk hta')
        repeat (first | (refine W_seq ?_) | (refine W_reg ?_) | (refine W_regd ?_) | (refine W_block ?_) | (refine And.intro (by omega) ?_) | simp (maxSteps := 1000000) (disch := omega) only [cA, cB, lk, lkH, Dst.onT, Dst.onX, Dst.slot, setF, setH, mapF, mapH, initF, binE, unE, cnt, boundE, newsE, freshE, opE, rmH, blkQ, frz_us, Nat.reduceEqDiff, Nat.reduceLT, Nat.reduceAdd, ↓reduceIte, reduceCtorEq, Nat.reduceLeDiff, ei, hgd, d5, d6, List.length_map])
        refine W_cond rfl (fun h => by cases h) (fun _ => W_skip ?_)
        repeat (first | (refine W_seq ?_) | (refine W_reg ?_) | (refine W_regd ?_) | (refine W_block ?_) | (refine And.intro (by omega) ?_) | simp (maxSteps := 1000000) (disch := omega) only [cA, cB, lk, lkH, Dst.onT, Dst.onX, Dst.slot, setF, setH, mapF, mapH, initF, binE, unE, cnt, boundE, newsE, freshE, opE, rmH, blkQ, frz_us, Nat.reduceEqDiff, Nat.reduceLT, Nat.reduceAdd, ↓reduceIte, reduceCtorEq, Nat.reduceLeDiff, e1])
        exact ⟨i + 1, And.intro hlt hta'.out, by omega, by simp [subF, lk]⟩
      · rw [hbad hd]
        clear hta hall hbad hmem
        by_cases h5 : c.toNat < 48
        · have d5 : decide (((c.toNat : Nat) : Int) < 48) = true := decide_eq_true (by omega)
          repeat (first | (refine W_seq ?_) | (refine W_reg ?_) | (refine W_regd ?_) | (refine W_block ?_) | (refine And.intro (by omega) ?_) | simp (maxSteps := 1000000) (disch := omega) only [cA, cB, lk, lkH, Dst.onT, Dst.onX, Dst.slot, setF, setH, mapF, mapH, initF, binE, unE, cnt, boundE, newsE, freshE, opE, rmH, blkQ, frz_us, Nat.reduceEqDiff, Nat.reduceLT, Nat.reduceAdd, ↓reduceIte, reduceCtorEq, Nat.reduceLeDiff, ei, hgd, d5, List.length_map])
          refine W_cond rfl (fun _ => ?_) (fun h => by cases h)
          repeat (first | (refine W_seq ?_) | (refine W_reg ?_) | (refine W_regd ?_) | (refine W_block ?_) | (refine And.intro (by omega) ?_) | simp (maxSteps := 1000000) (disch := omega) only [cA, cB, lk, lkH, Dst.onT, Dst.onX, Dst.slot, setF, setH, mapF, mapH, initF, binE, unE, cnt, boundE, newsE, freshE, opE, rmH, blkQ, frz_us, Nat.reduceEqDiff, Nat.reduceLT, Nat.reduceAdd, ↓reduceIte, reduceCtorEq, Nat.reduceLeDiff])
          exact W_ret (RetP_1 (.imm rfl))
        · have h57 : 57 < c.toNat := by
            simp only [isD, Bool.and_eq_true, decide_eq_true_eq] at hd
            omega
          have d5 : decide (((c.toNat : Nat) : Int) < 48) = false := decide_eq_false (by omega)
          have d6 : decide ((57 : Int) < ((c.toNat : Nat) : Int)) = true := decide_eq_true (by omega)
          clear hd
          repeat (first | (refine W_seq ?_) | (refine W_reg ?_) | (refine W_regd ?_) | (refine W_block ?_) | (refine And.intro (by omega) ?_) | simp (maxSteps := 1000000) (disch := omega) only [cA, cB, lk, lkH, Dst.onT, Dst.onX, Dst.slot, setF, setH, mapF, mapH, initF, binE, unE, cnt, boundE, newsE, freshE, opE, rmH, blkQ, frz_us, Nat.reduceEqDiff, Nat.reduceLT, Nat.reduceAdd, ↓reduceIte, reduceCtorEq, Nat.reduceLeDiff, ei, hgd, d5, d6, List.length_map])
          refine W_cond rfl (fun _ => ?_) (fun h => by cases h)
          repeat (first | (refine W_seq ?_) | (refine W_reg ?_) | (refine W_regd ?_) | (refine W_block ?_) | (refine And.intro (by omega) ?_) | simp (maxSteps := 1000000) (disch := omega) only [cA, cB, lk, lkH, Dst.onT, Dst.onX, Dst.slot, setF, setH, mapF, mapH, initF, binE, unE, cnt, boundE, newsE, freshE, opE, rmH, blkQ, frz_us, Nat.reduceEqDiff, Nat.reduceLT, Nat.reduceAdd, ↓reduceIte, reduceCtorEq, Nat.reduceLeDiff])
          exact W_ret (RetP_1 (.imm rfl))
    · have dl : decide ((i : Int) < l.length) = false := decide_eq_false (by omega)
      have hil : i = l.length := by omega
      have hdg : digs l = decide (¬ l = []) := by
        unfold digs
        rw [hil, List.take_length] at hall
        rw [hall, Bool.and_true]
        cases l <;> simp
      rw [hdg]
      repeat (first | (refine W_seq ?_) | (refine W_reg ?_) | (refine W_regd ?_) | (refine W_block ?_) | (refine And.intro (by omega) ?_) | simp (maxSteps := 1000000) (disch := omega) only [cA, cB, lk, lkH, Dst.onT, Dst.onX, Dst.slot, setF, setH, mapF, mapH, initF, binE, unE, cnt, boundE, newsE, freshE, opE, rmH, blkQ, frz_us, Nat.reduceEqDiff, Nat.reduceLT, Nat.reduceAdd, ↓reduceIte, reduceCtorEq, Nat.reduceLeDiff, dl])
      refine W_cond rfl (fun h => by cases h) (fun _ => W_exit ?_)
      repeat (first | (refine W_seq ?_) | (refine W_reg ?_) | (refine W_regd ?_) | (refine W_block ?_) | (refine And.intro (by omega) ?_) | simp (maxSteps := 1000000) (disch := omega) only [cA, cB, lk, lkH, Dst.onT, Dst.onX, Dst.slot, setF, setH, mapF, mapH, initF, binE, unE, cnt, boundE, newsE, freshE, opE, rmH, blkQ, frz_us, Nat.reduceEqDiff, Nat.reduceLT, Nat.reduceAdd, ↓reduceIte, reduceCtorEq, Nat.reduceLeDiff])
      exact W_ret (RetP_1 (.imm rfl))
theorem nUint_pn (a : List UInt8) (hl : a.length ≤ 1000) : PCalls Tryz.prog 138 [.sl 1 (us (limbs (pn a)))] (uintR (pn a)) := by
  have hx : (limbs (pn a)).length ≤ 1000 := by
    unfold pn
    by_cases h : okD a = true
    · rw [if_pos h]; exact dval_le (okD_all h) hl
    · rw [if_neg h, limbs_zero]; simp
  have := nUint_calls (limbs (pn a)) (by omega) (lim_limbs _)
  rwa [vn_limbs] at this
theorem parseR_pn (a : List UInt8) : parseR a = .tup [.sl 1 (us (limbs (pn a))), .bool (okD a)] := by
  unfold parseR pn
  by_cases h : okD a = true
  · rw [h]; rfl
  · rw [show okD a = false by simpa using h]
    simp [limbs_zero, us_nil]
theorem nParse_pn (a : List UInt8) : PCalls Tryz.prog 108 [.str a] (.tup [.sl 1 (us (limbs (pn a))), .bool (okD a)]) := by
  have := nParse_calls a
  rwa [parseR_pn] at this
theorem uintR_small {x : Nat} (h : x < 18446744073709551616) : uintR x = .tup [.int .u64 x, .bool true] := by
  unfold uintR
  rw [if_neg (by have := limbs_len.2 (show x < 4294967296 ^ 2 by omega); omega)]
theorem uintR_big {x : Nat} (h : ¬ x < 18446744073709551616) : uintR x = .tup [.int .u64 0, .bool false] := by
  unfold uintR
  rw [if_pos ?_]
  rcases Nat.lt_or_ge 2 (limbs x).length with k | k
  · exact k
  · have := limbs_len.1 k
    omega
theorem q_exponent_calls (e : List UInt8) (hl : e.length ≤ 1000) : PCalls Tryz.prog 110 [.str e] (expR e) := by
  have c1 := cutPrefixD e
  have hel : (expD e).length ≤ 1000 := by
    unfold expD; split
    · rw [List.length_tail]; omega
    · exact hl
  have c2 := nParse_pn (expD e)
  have c3 := nUint_pn (expD e) hel
  refine PCalls_of isq_exponent (by simp [fnq_exponent]) ?_
  unfold codeq_exponent expR expOk expV
  unfold pn at c2 c3
  generalize expD e = D at *
  by_cases ho : okD D = true
  · rw [ho, if_pos rfl] at c2
    rw [ho, if_pos rfl] at c3
    rw [ho, Bool.true_and]
    generalize dval 0 D = v at *
    by_cases hs : v < 18446744073709551616
    · rw [uintR_small hs] at c3
      by_cases h40 : v ≤ 40
      · have d40 : decide ((40 : Int) < (v : Int)) = false := decide_eq_false (by omega)
        rw [if_pos (decide_eq_true h40)]
        clear hs
        by_cases hn : e.head? = some 45
        · rw [decide_eq_true hn] at c1
          rw [if_pos hn]
          repeat (first | (refine W_seq ?_) | (refine W_reg ?_) | (refine W_regd ?_) | (refine W_block ?_) | (refine And.intro (by omega) ?_) | simp (maxSteps := 1000000) (disch := omega) only [cA, cB, lk, lkH, Dst.onT, Dst.onX, Dst.slot, setF, setH, mapF, mapH, initF, binE, unE, cnt, boundE, newsE, freshE, opE, rmH, blkQ, frz_us, Nat.reduceEqDiff, Nat.reduceLT, Nat.reduceAdd, ↓reduceIte, reduceCtorEq, Nat.reduceLeDiff, d40] | (refine callC_pure (c1) rfl ?_) | (refine callC_pure (c2) rfl ?_) | (refine callC_pure (c3) rfl ?_) | exact W_ret (RetP_1 (.imm rfl)) | exact W_ret (RetP_c rfl rfl rfl (.imm rfl)))
          refine W_cond rfl (fun h => by cases h) (fun _ => W_skip ?_)
          repeat (first | (refine W_seq ?_) | (refine W_reg ?_) | (refine W_regd ?_) | (refine W_block ?_) | (refine And.intro (by omega) ?_) | simp (maxSteps := 1000000) (disch := omega) only [cA, cB, lk, lkH, Dst.onT, Dst.onX, Dst.slot, setF, setH, mapF, mapH, initF, binE, unE, cnt, boundE, newsE, freshE, opE, rmH, blkQ, frz_us, Nat.reduceEqDiff, Nat.reduceLT, Nat.reduceAdd, ↓reduceIte, reduceCtorEq, Nat.reduceLeDiff])
          refine W_cond rfl (fun _ => ?_) (fun h => by cases h)
          repeat (first | (refine W_seq ?_) | (refine W_reg ?_) | (refine W_regd ?_) | (refine W_block ?_) | (refine And.intro (by omega) ?_) | simp (maxSteps := 1000000) (disch := omega) only [cA, cB, lk, lkH, Dst.onT, Dst.onX, Dst.slot, setF, setH, mapF, mapH, initF, binE, unE, cnt, boundE, newsE, freshE, opE, rmH, blkQ, frz_us, Nat.reduceEqDiff, Nat.reduceLT, Nat.reduceAdd, ↓reduceIte, reduceCtorEq, Nat.reduceLeDiff, Int.zero_sub])
          exact W_ret (RetP_2 (.imm rfl) (.imm rfl))
        · rw [decide_eq_false hn] at c1
          rw [if_neg hn]
          repeat (first | (refine W_seq ?_) | (refine W_reg ?_) | (refine W_regd ?_) | (refine W_block ?_) | (refine And.intro (by omega) ?_) | simp (maxSteps := 1000000) (disch := omega) only [cA, cB, lk, lkH, Dst.onT, Dst.onX, Dst.slot, setF, setH, mapF, mapH, initF, binE, unE, cnt, boundE, newsE, freshE, opE, rmH, blkQ, frz_us, Nat.reduceEqDiff, Nat.reduceLT, Nat.reduceAdd, ↓reduceIte, reduceCtorEq, Nat.reduceLeDiff, d40] | (refine callC_pure (c1) rfl ?_) | (refine callC_pure (c2) rfl ?_) | (refine callC_pure (c3) rfl ?_) | exact W_ret (RetP_1 (.imm rfl)) | exact W_ret (RetP_c rfl rfl rfl (.imm rfl)))
          refine W_cond rfl (fun h => by cases h) (fun _ => W_skip ?_)
          repeat (first | (refine W_seq ?_) | (refine W_reg ?_) | (refine W_regd ?_) | (refine W_block ?_) | (refine And.intro (by omega) ?_) | simp (maxSteps := 1000000) (disch := omega) only [cA, cB, lk, lkH, Dst.onT, Dst.onX, Dst.slot, setF, setH, mapF, mapH, initF, binE, unE, cnt, boundE, newsE, freshE, opE, rmH, blkQ, frz_us, Nat.reduceEqDiff, Nat.reduceLT, Nat.reduceAdd, ↓reduceIte, reduceCtorEq, Nat.reduceLeDiff])
          refine W_cond rfl (fun h => by cases h) (fun _ => W_skip ?_)
          repeat (first | (refine W_seq ?_) | (refine W_reg ?_) | (refine W_regd ?_) | (refine W_block ?_) | (refine And.intro (by omega) ?_) | simp (maxSteps := 1000000) (disch := omega) only [cA, cB, lk, lkH, Dst.onT, Dst.onX, Dst.slot, setF, setH, mapF, mapH, initF, binE, unE, cnt, boundE, newsE, freshE, opE, rmH, blkQ, frz_us, Nat.reduceEqDiff, Nat.reduceLT, Nat.reduceAdd, ↓reduceIte, reduceCtorEq, Nat.reduceLeDiff])
          exact W_ret (RetP_2 (.imm rfl) (.imm rfl))
      · have d40 : decide ((40 : Int) < (v : Int)) = true := decide_eq_true (by omega)
        rw [if_neg (by simpa using h40)]
        repeat (first | (refine W_seq ?_) | (refine W_reg ?_) | (refine W_regd ?_) | (refine W_block ?_) | (refine And.intro (by omega) ?_) | simp (maxSteps := 1000000) (disch := omega) only [cA, cB, lk, lkH, Dst.onT, Dst.onX, Dst.slot, setF, setH, mapF, mapH, initF, binE, unE, cnt, boundE, newsE, freshE, opE, rmH, blkQ, frz_us, Nat.reduceEqDiff, Nat.reduceLT, Nat.reduceAdd, ↓reduceIte, reduceCtorEq, Nat.reduceLeDiff, d40] | (refine callC_pure (c1) rfl ?_) | (refine callC_pure (c2) rfl ?_) | (refine callC_pure (c3) rfl ?_) | exact W_ret (RetP_1 (.imm rfl)) | exact W_ret (RetP_c rfl rfl rfl (.imm rfl)))
        refine W_cond rfl (fun _ => ?_) (fun h => by cases h)
        repeat (first | (refine W_seq ?_) | (refine W_reg ?_) | (refine W_regd ?_) | (refine W_block ?_) | (refine And.intro (by omega) ?_) | simp (maxSteps := 1000000) (disch := omega) only [cA, cB, lk, lkH, Dst.onT, Dst.onX, Dst.slot, setF, setH, mapF, mapH, initF, binE, unE, cnt, boundE, newsE, freshE, opE, rmH, blkQ, frz_us, Nat.reduceEqDiff, Nat.reduceLT, Nat.reduceAdd, ↓reduceIte, reduceCtorEq, Nat.reduceLeDiff])
        exact W_ret (RetP_2 (.imm rfl) (.imm rfl))
    · rw [uintR_big hs] at c3
      rw [if_neg (by simp; omega)]
      clear hs
      repeat (first | (refine W_seq ?_) | (refine W_reg ?_) | (refine W_regd ?_) | (refine W_block ?_) | (refine And.intro (by omega) ?_) | simp (maxSteps := 1000000) (disch := omega) only [cA, cB, lk, lkH, Dst.onT, Dst.onX, Dst.slot, setF, setH, mapF, mapH, initF, binE, unE, cnt, boundE, newsE, freshE, opE, rmH, blkQ, frz_us, Nat.reduceEqDiff, Nat.reduceLT, Nat.reduceAdd, ↓reduceIte, reduceCtorEq, Nat.reduceLeDiff] | (refine callC_pure (c1) rfl ?_) | (refine callC_pure (c2) rfl ?_) | (refine callC_pure (c3) rfl ?_) | exact W_ret (RetP_1 (.imm rfl)) | exact W_ret (RetP_c rfl rfl rfl (.imm rfl)))
      refine W_cond rfl (fun _ => ?_) (fun h => by cases h)
      repeat (first | (refine W_seq ?_) | (refine W_reg ?_) | (refine W_regd ?_) | (refine W_block ?_) | (refine And.intro (by omega) ?_) | simp (maxSteps := 1000000) (disch := omega) only [cA, cB, lk, lkH, Dst.onT, Dst.onX, Dst.slot, setF, setH, mapF, mapH, initF, binE, unE, cnt, boundE, newsE, freshE, opE, rmH, blkQ, frz_us, Nat.reduceEqDiff, Nat.reduceLT, Nat.reduceAdd, ↓reduceIte, reduceCtorEq, Nat.reduceLeDiff])
      exact W_ret (RetP_2 (.imm rfl) (.imm rfl))
  · have ho : okD D = false := by simpa using ho
    rw [ho] at c2 c3 ⊢
    simp only [Bool.false_eq_true, if_false] at c2 c3
    rw [Bool.false_and, if_neg (by decide)]
    rw [uintR_small (by decide)] at c3
    repeat (first | (refine W_seq ?_) | (refine W_reg ?_) | (refine W_regd ?_) | (refine W_block ?_) | (refine And.intro (by omega) ?_) | simp (maxSteps := 1000000) (disch := omega) only [cA, cB, lk, lkH, Dst.onT, Dst.onX, Dst.slot, setF, setH, mapF, mapH, initF, binE, unE, cnt, boundE, newsE, freshE, opE, rmH, blkQ, frz_us, Nat.reduceEqDiff, Nat.reduceLT, Nat.reduceAdd, ↓reduceIte, reduceCtorEq, Nat.reduceLeDiff] | (refine callC_pure (c1) rfl ?_) | (refine callC_pure (c2) rfl ?_) | (refine callC_pure (c3) rfl ?_) | exact W_ret (RetP_1 (.imm rfl)) | exact W_ret (RetP_c rfl rfl rfl (.imm rfl)))
    refine W_cond rfl (fun _ => ?_) (fun h => by cases h)
    repeat (first | (refine W_seq ?_) | (refine W_reg ?_) | (refine W_regd ?_) | (refine W_block ?_) | (refine And.intro (by omega) ?_) | simp (maxSteps := 1000000) (disch := omega) only [cA, cB, lk, lkH, Dst.onT, Dst.onX, Dst.slot, setF, setH, mapF, mapH, initF, binE, unE, cnt, boundE, newsE, freshE, opE, rmH, blkQ, frz_us, Nat.reduceEqDiff, Nat.reduceLT, Nat.reduceAdd, ↓reduceIte, reduceCtorEq, Nat.reduceLeDiff])
    exact W_ret (RetP_2 (.imm rfl) (.imm rfl))
end Go.Proofs.YteiagmmfapbaiaaGreatDoor
namespace Go.Proofs.YteiagmmfapbaiaaGreatDoor
open Go Go.Dat Go.Proofs Nat32 Go.RowKit
open Go.Lib (decDigits)
def pairR (r : Option (Nat × Nat)) : DV := match r with
  | some p => .tup [.sl 1 (us (limbs p.1)), .sl 1 (us (limbs p.2)), .bool true]
  | none => .tup [.sl 1 [], .sl 1 [], .bool false]
def tailU : DC := match codeq_unsigned with | .seq _ (.seq _ (.seq _ (.seq _ t))) => t | _ => .skip
theorem cut46 (m : List UInt8) (hl : m.length ≤ 100000) : PCalls Tryz.prog 107 [.str m, .str [46]] (.tup [.str (decN m), .str (decF m), .bool (decide (fi is46 m < m.length))]) := by
  have cc := strCut_calls m 46 hl
  rw [isC46] at cc
  unfold cutR at cc
  unfold decN decF
  by_cases h : fi is46 m < m.length
  · rw [if_pos h] at cc
    rw [decide_eq_true h]; exact cc
  · rw [if_neg h] at cc
    rw [decide_eq_false h, List.take_of_length_le (by omega), List.drop_eq_nil_of_le (by omega)]
    exact cc
set_option maxHeartbeats 2000000 in
theorem tail_W (m : List UInt8) (k : Int) (b : Bool) (hm : m.length ≤ 900) (hk : k.natAbs ≤ 40) :
    W fnq_unsigned tailU (RetP resq_unsigned (pairR (mantP m k))) [(0, .str m), (2, .nils), (3, .nils), (4, .bool b), (8, .int .i64 k)] [] := by
  have cc := cut46 m (by omega)
  have c2 := nParse_pn (decN m)
  have c3 := q_digits_calls (decF m) (by have := decN_len m; omega)
  have hNF := decN_len m
  have hfe : decide (fi is46 m = m.length) = !decide (fi is46 m < m.length) := by
    have := fi_le is46 m
    by_cases h : fi is46 m < m.length
    · rw [decide_eq_true h, decide_eq_false (by omega)]; rfl
    · rw [decide_eq_false h, decide_eq_true (by omega)]; rfl
  have hgood : decOk m = true → okD (sig (decN m ++ decF m)) = true ∧ dval 0 (sig (decN m ++ decF m)) = dval 0 (decN m ++ decF m) ∧ (limbs (dval 0 (decN m ++ decF m))).length ≤ 900 := fun h => by
    obtain ⟨h1, h2⟩ := decOk_all h
    obtain ⟨h3, h4⟩ := sig_ok h1 h2
    exact ⟨h3, h4, dval_le h1 (by rw [List.length_append]; omega)⟩
  have c5 := q_significant_calls (decN m ++ decF m)
  have c6 := nParse_pn (sig (decN m ++ decF m))
  have c7 := q_ten_calls (decF m).length (by omega)
  have c8 := q_ten_calls k.natAbs (by omega)
  have d4 : decide ((4000 : Int) < ((decN m).length : Int) + ((decF m).length : Int)) = false := decide_eq_false (by omega)
  have d4' : decide ((decN m).length + (decF m).length ≤ 4000) = true := decide_eq_true (by omega)
  have hdef : decOk m = (okD (decN m) && (decide (fi is46 m = m.length) || digs (decF m)) && decide ((decN m).length + (decF m).length ≤ 4000)) := rfl
  have hmant : mantP m k = if decOk m then (if k < 0 then some (dval 0 (decN m ++ decF m), 10 ^ (decF m).length * 10 ^ k.natAbs) else some (dval 0 (decN m ++ decF m) * 10 ^ k.natAbs, 10 ^ (decF m).length)) else none := rfl
  rw [hmant]
  rw [hfe, d4', Bool.and_true] at hdef
  clear hmant hfe d4'
  unfold tailU codeq_unsigned
  dsimp only
  generalize decOk m = ok at *
  generalize decide (fi is46 m < m.length) = pt at *
  generalize decN m = N at *
  generalize decF m = F at *
  by_cases ho : ok = true
  · obtain ⟨g1, g2, g3⟩ := hgood ho
    have t1 := ten_len F.length
    have t2 := ten_len k.natAbs
    unfold pn at c6
    rw [g1, if_pos rfl, g2] at c6
    subst ho
    rw [if_pos rfl]
    have hN : okD N = true := by
      cases h : okD N
      · rw [h] at hdef; simp at hdef
      · rfl
    have hP : pt = true → digs F = true := fun hpt => by
      cases h : digs F
      · rw [h, hpt] at hdef; simp at hdef
      · rfl
    rw [hN] at c2
    have m1 := nMulL (10 ^ F.length) (10 ^ k.natAbs) (by omega) (by omega)
    have m2 := nMulL (dval 0 (N ++ F)) (10 ^ k.natAbs) (by omega) (by omega)
    generalize dval 0 (N ++ F) = v at *
    generalize 10 ^ F.length = TF at *
    generalize 10 ^ k.natAbs = TK at *
    clear hgood hdef g1 g2 g3 t1 t2
    by_cases hk0 : k < 0
    · have dk : decide (k < 0) = true := decide_eq_true hk0
      have ek : (0 : Int) - k = (k.natAbs : Int) := by omega
      rw [if_pos hk0]
      cases pt
      · repeat (first | (refine W_seq ?_) | (refine W_reg ?_) | (refine W_regd ?_) | (refine W_block ?_) | (refine And.intro (by omega) ?_) | simp (maxSteps := 1000000) (disch := omega) only [cA, cB, lk, lkH, Dst.onT, Dst.onX, Dst.slot, setF, setH, mapF, mapH, initF, binE, unE, cnt, boundE, newsE, freshE, opE, rmH, blkQ, frz_us, Nat.reduceEqDiff, Nat.reduceLT, Nat.reduceAdd, ↓reduceIte, reduceCtorEq, Nat.reduceLeDiff, d4] | (refine callC_pure (cc) rfl ?_) | (refine callC_pure (c2) rfl ?_) | (refine callC_pure (c3) rfl ?_) | exact W_ret (RetP_1 (.imm rfl)) | exact W_ret (RetP_c rfl rfl rfl (.imm rfl)))
        refine W_cond rfl (fun h => by cases h) (fun _ => W_skip ?_)
        repeat (first | (refine W_seq ?_) | (refine W_reg ?_) | (refine W_regd ?_) | (refine W_block ?_) | (refine And.intro (by omega) ?_) | simp (maxSteps := 1000000) (disch := omega) only [cA, cB, lk, lkH, Dst.onT, Dst.onX, Dst.slot, setF, setH, mapF, mapH, initF, binE, unE, cnt, boundE, newsE, freshE, opE, rmH, blkQ, frz_us, Nat.reduceEqDiff, Nat.reduceLT, Nat.reduceAdd, ↓reduceIte, reduceCtorEq, Nat.reduceLeDiff, dk] | (refine callC_pure (c5) rfl ?_) | (refine callC_pure (c6) rfl ?_) | (refine callC_pure (c7) rfl ?_) | exact W_ret (RetP_1 (.imm rfl)) | exact W_ret (RetP_c rfl rfl rfl (.imm rfl)))
        refine W_cond rfl (fun _ => ?_) (fun h => by cases h)
        repeat (first | (refine W_seq ?_) | (refine W_reg ?_) | (refine W_regd ?_) | (refine W_block ?_) | (refine And.intro (by omega) ?_) | simp (maxSteps := 1000000) (disch := omega) only [cA, cB, lk, lkH, Dst.onT, Dst.onX, Dst.slot, setF, setH, mapF, mapH, initF, binE, unE, cnt, boundE, newsE, freshE, opE, rmH, blkQ, frz_us, Nat.reduceEqDiff, Nat.reduceLT, Nat.reduceAdd, ↓reduceIte, reduceCtorEq, Nat.reduceLeDiff, ek] | (refine callC_pure (c8) rfl ?_) | (refine callC_pure (m1) rfl ?_) | exact W_ret (RetP_1 (.imm rfl)) | exact W_ret (RetP_c rfl rfl rfl (.imm rfl)))
        exact W_ret (RetP_3 (.imm rfl) (.imm rfl) (.imm rfl))
      · rw [hP rfl] at c3
        repeat (first | (refine W_seq ?_) | (refine W_reg ?_) | (refine W_regd ?_) | (refine W_block ?_) | (refine And.intro (by omega) ?_) | simp (maxSteps := 1000000) (disch := omega) only [cA, cB, lk, lkH, Dst.onT, Dst.onX, Dst.slot, setF, setH, mapF, mapH, initF, binE, unE, cnt, boundE, newsE, freshE, opE, rmH, blkQ, frz_us, Nat.reduceEqDiff, Nat.reduceLT, Nat.reduceAdd, ↓reduceIte, reduceCtorEq, Nat.reduceLeDiff, d4] | (refine callC_pure (cc) rfl ?_) | (refine callC_pure (c2) rfl ?_) | (refine callC_pure (c3) rfl ?_) | exact W_ret (RetP_1 (.imm rfl)) | exact W_ret (RetP_c rfl rfl rfl (.imm rfl)))
        refine W_cond rfl (fun h => by cases h) (fun _ => W_skip ?_)
        repeat (first | (refine W_seq ?_) | (refine W_reg ?_) | (refine W_regd ?_) | (refine W_block ?_) | (refine And.intro (by omega) ?_) | simp (maxSteps := 1000000) (disch := omega) only [cA, cB, lk, lkH, Dst.onT, Dst.onX, Dst.slot, setF, setH, mapF, mapH, initF, binE, unE, cnt, boundE, newsE, freshE, opE, rmH, blkQ, frz_us, Nat.reduceEqDiff, Nat.reduceLT, Nat.reduceAdd, ↓reduceIte, reduceCtorEq, Nat.reduceLeDiff, dk] | (refine callC_pure (c5) rfl ?_) | (refine callC_pure (c6) rfl ?_) | (refine callC_pure (c7) rfl ?_) | exact W_ret (RetP_1 (.imm rfl)) | exact W_ret (RetP_c rfl rfl rfl (.imm rfl)))
        refine W_cond rfl (fun _ => ?_) (fun h => by cases h)
        repeat (first | (refine W_seq ?_) | (refine W_reg ?_) | (refine W_regd ?_) | (refine W_block ?_) | (refine And.intro (by omega) ?_) | simp (maxSteps := 1000000) (disch := omega) only [cA, cB, lk, lkH, Dst.onT, Dst.onX, Dst.slot, setF, setH, mapF, mapH, initF, binE, unE, cnt, boundE, newsE, freshE, opE, rmH, blkQ, frz_us, Nat.reduceEqDiff, Nat.reduceLT, Nat.reduceAdd, ↓reduceIte, reduceCtorEq, Nat.reduceLeDiff, ek] | (refine callC_pure (c8) rfl ?_) | (refine callC_pure (m1) rfl ?_) | exact W_ret (RetP_1 (.imm rfl)) | exact W_ret (RetP_c rfl rfl rfl (.imm rfl)))
        exact W_ret (RetP_3 (.imm rfl) (.imm rfl) (.imm rfl))
    · have dk : decide (k < 0) = false := decide_eq_false hk0
      rw [if_neg hk0]
      have ek : k = (k.natAbs : Int) := by omega
      generalize k.natAbs = kn at *
      subst ek
      cases pt
      · repeat (first | (refine W_seq ?_) | (refine W_reg ?_) | (refine W_regd ?_) | (refine W_block ?_) | (refine And.intro (by omega) ?_) | simp (maxSteps := 1000000) (disch := omega) only [cA, cB, lk, lkH, Dst.onT, Dst.onX, Dst.slot, setF, setH, mapF, mapH, initF, binE, unE, cnt, boundE, newsE, freshE, opE, rmH, blkQ, frz_us, Nat.reduceEqDiff, Nat.reduceLT, Nat.reduceAdd, ↓reduceIte, reduceCtorEq, Nat.reduceLeDiff, d4] | (refine callC_pure (cc) rfl ?_) | (refine callC_pure (c2) rfl ?_) | (refine callC_pure (c3) rfl ?_) | exact W_ret (RetP_1 (.imm rfl)) | exact W_ret (RetP_c rfl rfl rfl (.imm rfl)))
        refine W_cond rfl (fun h => by cases h) (fun _ => W_skip ?_)
        repeat (first | (refine W_seq ?_) | (refine W_reg ?_) | (refine W_regd ?_) | (refine W_block ?_) | (refine And.intro (by omega) ?_) | simp (maxSteps := 1000000) (disch := omega) only [cA, cB, lk, lkH, Dst.onT, Dst.onX, Dst.slot, setF, setH, mapF, mapH, initF, binE, unE, cnt, boundE, newsE, freshE, opE, rmH, blkQ, frz_us, Nat.reduceEqDiff, Nat.reduceLT, Nat.reduceAdd, ↓reduceIte, reduceCtorEq, Nat.reduceLeDiff, dk] | (refine callC_pure (c5) rfl ?_) | (refine callC_pure (c6) rfl ?_) | (refine callC_pure (c7) rfl ?_) | exact W_ret (RetP_1 (.imm rfl)) | exact W_ret (RetP_c rfl rfl rfl (.imm rfl)))
        refine W_cond rfl (fun h => by cases h) (fun _ => W_skip ?_)
        repeat (first | (refine W_seq ?_) | (refine W_reg ?_) | (refine W_regd ?_) | (refine W_block ?_) | (refine And.intro (by omega) ?_) | simp (maxSteps := 1000000) (disch := omega) only [cA, cB, lk, lkH, Dst.onT, Dst.onX, Dst.slot, setF, setH, mapF, mapH, initF, binE, unE, cnt, boundE, newsE, freshE, opE, rmH, blkQ, frz_us, Nat.reduceEqDiff, Nat.reduceLT, Nat.reduceAdd, ↓reduceIte, reduceCtorEq, Nat.reduceLeDiff] | (refine callC_pure (c8) rfl ?_) | (refine callC_pure (m2) rfl ?_) | exact W_ret (RetP_1 (.imm rfl)) | exact W_ret (RetP_c rfl rfl rfl (.imm rfl)))
        exact W_ret (RetP_3 (.imm rfl) (.imm rfl) (.imm rfl))
      · rw [hP rfl] at c3
        repeat (first | (refine W_seq ?_) | (refine W_reg ?_) | (refine W_regd ?_) | (refine W_block ?_) | (refine And.intro (by omega) ?_) | simp (maxSteps := 1000000) (disch := omega) only [cA, cB, lk, lkH, Dst.onT, Dst.onX, Dst.slot, setF, setH, mapF, mapH, initF, binE, unE, cnt, boundE, newsE, freshE, opE, rmH, blkQ, frz_us, Nat.reduceEqDiff, Nat.reduceLT, Nat.reduceAdd, ↓reduceIte, reduceCtorEq, Nat.reduceLeDiff, d4] | (refine callC_pure (cc) rfl ?_) | (refine callC_pure (c2) rfl ?_) | (refine callC_pure (c3) rfl ?_) | exact W_ret (RetP_1 (.imm rfl)) | exact W_ret (RetP_c rfl rfl rfl (.imm rfl)))
        refine W_cond rfl (fun h => by cases h) (fun _ => W_skip ?_)
        repeat (first | (refine W_seq ?_) | (refine W_reg ?_) | (refine W_regd ?_) | (refine W_block ?_) | (refine And.intro (by omega) ?_) | simp (maxSteps := 1000000) (disch := omega) only [cA, cB, lk, lkH, Dst.onT, Dst.onX, Dst.slot, setF, setH, mapF, mapH, initF, binE, unE, cnt, boundE, newsE, freshE, opE, rmH, blkQ, frz_us, Nat.reduceEqDiff, Nat.reduceLT, Nat.reduceAdd, ↓reduceIte, reduceCtorEq, Nat.reduceLeDiff, dk] | (refine callC_pure (c5) rfl ?_) | (refine callC_pure (c6) rfl ?_) | (refine callC_pure (c7) rfl ?_) | exact W_ret (RetP_1 (.imm rfl)) | exact W_ret (RetP_c rfl rfl rfl (.imm rfl)))
        refine W_cond rfl (fun h => by cases h) (fun _ => W_skip ?_)
        repeat (first | (refine W_seq ?_) | (refine W_reg ?_) | (refine W_regd ?_) | (refine W_block ?_) | (refine And.intro (by omega) ?_) | simp (maxSteps := 1000000) (disch := omega) only [cA, cB, lk, lkH, Dst.onT, Dst.onX, Dst.slot, setF, setH, mapF, mapH, initF, binE, unE, cnt, boundE, newsE, freshE, opE, rmH, blkQ, frz_us, Nat.reduceEqDiff, Nat.reduceLT, Nat.reduceAdd, ↓reduceIte, reduceCtorEq, Nat.reduceLeDiff] | (refine callC_pure (c8) rfl ?_) | (refine callC_pure (m2) rfl ?_) | exact W_ret (RetP_1 (.imm rfl)) | exact W_ret (RetP_c rfl rfl rfl (.imm rfl)))
        exact W_ret (RetP_3 (.imm rfl) (.imm rfl) (.imm rfl))
  · have ho' : ok = false := by simpa using ho
    rw [ho'] at hdef
    subst ho'
    rw [if_neg ho]
    clear hgood c5 c6 c7 c8
    cases hN : okD N
    · rw [hN] at c2
      repeat (first | (refine W_seq ?_) | (refine W_reg ?_) | (refine W_regd ?_) | (refine W_block ?_) | (refine And.intro (by omega) ?_) | simp (maxSteps := 1000000) (disch := omega) only [cA, cB, lk, lkH, Dst.onT, Dst.onX, Dst.slot, setF, setH, mapF, mapH, initF, binE, unE, cnt, boundE, newsE, freshE, opE, rmH, blkQ, frz_us, Nat.reduceEqDiff, Nat.reduceLT, Nat.reduceAdd, ↓reduceIte, reduceCtorEq, Nat.reduceLeDiff, d4] | (refine callC_pure (cc) rfl ?_) | (refine callC_pure (c2) rfl ?_) | (refine callC_pure (c3) rfl ?_) | exact W_ret (RetP_1 (.imm rfl)) | exact W_ret (RetP_c rfl rfl rfl (.imm rfl)))
      refine W_cond rfl (fun _ => ?_) (fun h => by cases h)
      repeat (first | (refine W_seq ?_) | (refine W_reg ?_) | (refine W_regd ?_) | (refine W_block ?_) | (refine And.intro (by omega) ?_) | simp (maxSteps := 1000000) (disch := omega) only [cA, cB, lk, lkH, Dst.onT, Dst.onX, Dst.slot, setF, setH, mapF, mapH, initF, binE, unE, cnt, boundE, newsE, freshE, opE, rmH, blkQ, frz_us, Nat.reduceEqDiff, Nat.reduceLT, Nat.reduceAdd, ↓reduceIte, reduceCtorEq, Nat.reduceLeDiff])
      exact W_ret (RetP_3 (.nils _) (.nils _) (.imm rfl))
    · rw [hN] at c2 hdef
      have hpt : pt = true := by
        cases pt
        · simp at hdef
        · rfl
      subst hpt
      have hF : digs F = false := by simpa using hdef.symm
      rw [hF] at c3
      repeat (first | (refine W_seq ?_) | (refine W_reg ?_) | (refine W_regd ?_) | (refine W_block ?_) | (refine And.intro (by omega) ?_) | simp (maxSteps := 1000000) (disch := omega) only [cA, cB, lk, lkH, Dst.onT, Dst.onX, Dst.slot, setF, setH, mapF, mapH, initF, binE, unE, cnt, boundE, newsE, freshE, opE, rmH, blkQ, frz_us, Nat.reduceEqDiff, Nat.reduceLT, Nat.reduceAdd, ↓reduceIte, reduceCtorEq, Nat.reduceLeDiff, d4] | (refine callC_pure (cc) rfl ?_) | (refine callC_pure (c2) rfl ?_) | (refine callC_pure (c3) rfl ?_) | exact W_ret (RetP_1 (.imm rfl)) | exact W_ret (RetP_c rfl rfl rfl (.imm rfl)))
      refine W_cond rfl (fun _ => ?_) (fun h => by cases h)
      repeat (first | (refine W_seq ?_) | (refine W_reg ?_) | (refine W_regd ?_) | (refine W_block ?_) | (refine And.intro (by omega) ?_) | simp (maxSteps := 1000000) (disch := omega) only [cA, cB, lk, lkH, Dst.onT, Dst.onX, Dst.slot, setF, setH, mapF, mapH, initF, binE, unE, cnt, boundE, newsE, freshE, opE, rmH, blkQ, frz_us, Nat.reduceEqDiff, Nat.reduceLT, Nat.reduceAdd, ↓reduceIte, reduceCtorEq, Nat.reduceLeDiff])
      exact W_ret (RetP_3 (.nils _) (.nils _) (.imm rfl))
def unsR (s : List UInt8) : DV :=
  if fi is47 s < s.length then .tup [.sl 1 (us (limbs (pn (s.take (fi is47 s))))), .sl 1 (us (limbs (pn (s.drop (fi is47 s + 1))))), .bool (okD (s.take (fi is47 s)) && (okD (s.drop (fi is47 s + 1)) && decide (0 < pn (s.drop (fi is47 s + 1)))))]
  else pairR (unsP s)
theorem unsR_some {s : List UInt8} {n d : Nat} (h : unsP s = some (n, d)) : unsR s = pairR (some (n, d)) := by
  unfold unsR
  by_cases h1 : fi is47 s < s.length
  · rw [if_pos h1]
    unfold unsP at h
    rw [if_pos h1] at h
    split at h
    · rename_i h2
      simp only [Bool.and_eq_true, decide_eq_true_eq] at h2
      simp only [Option.some.injEq, Prod.mk.injEq] at h
      unfold pn pairR
      simp only [h2.1.1, h2.1.2, if_true, Bool.true_and, h.1, h.2]
      rw [decide_eq_true (by rw [← h.2]; exact h2.2)]
    · cases h
  · rw [if_neg h1, h]
theorem unsR_none {s : List UInt8} (h : unsP s = none) : ∃ x y, unsR s = .tup [.sl 1 (us (limbs x)), .sl 1 (us (limbs y)), .bool false] := by
  unfold unsR
  by_cases h1 : fi is47 s < s.length
  · rw [if_pos h1]
    unfold unsP at h
    rw [if_pos h1] at h
    split at h
    · cases h
    · rename_i h2
      refine ⟨pn (s.take (fi is47 s)), pn (s.drop (fi is47 s + 1)), ?_⟩
      suffices hb : (okD (s.take (fi is47 s)) && (okD (s.drop (fi is47 s + 1)) && decide (0 < pn (s.drop (fi is47 s + 1))))) = false by rw [hb]
      rw [← Bool.not_eq_true]
      intro h3
      refine h2 ?_
      simp only [Bool.and_eq_true, decide_eq_true_eq] at h3 ⊢
      refine ⟨⟨h3.1, h3.2.1⟩, ?_⟩
      have := h3.2.2
      unfold pn at this
      rwa [h3.2.1, if_pos rfl] at this
  · rw [if_neg h1, h]
    exact ⟨0, 0, by rw [limbs_zero]; rfl⟩
set_option maxHeartbeats 2000000 in
theorem q_unsigned_calls (s : List UInt8) (hs : s.length ≤ 900) (h7 : A7 s) : PCalls Tryz.prog 61 [.str s] (unsR s) := by
  have cs := strCut_calls s 47 (by omega)
  rw [isC47] at cs
  unfold cutR at cs
  have hi := fi_le is47 s
  have hj := fi_le isE s
  refine PCalls_of isq_unsigned (by simp [fnq_unsigned]) ?_
  unfold unsR
  by_cases h1 : fi is47 s < s.length
  · rw [if_pos h1] at cs ⊢
    generalize s.take (fi is47 s) = A at *
    generalize s.drop (fi is47 s + 1) = B at *
    have c1 := nParse_pn A
    have c2 := nParse_pn B
    unfold codeq_unsigned
    cases hA : okD A
    · rw [hA] at c1
      simp only [Bool.false_and]
      repeat (first | (refine W_seq ?_) | (refine W_reg ?_) | (refine W_regd ?_) | (refine W_block ?_) | (refine And.intro (by omega) ?_) | simp (maxSteps := 1000000) (disch := omega) only [cA, cB, lk, lkH, Dst.onT, Dst.onX, Dst.slot, setF, setH, mapF, mapH, initF, binE, unE, cnt, boundE, newsE, freshE, opE, rmH, blkQ, frz_us, Nat.reduceEqDiff, Nat.reduceLT, Nat.reduceAdd, ↓reduceIte, reduceCtorEq, Nat.reduceLeDiff] | (refine callC_pure (cs) rfl ?_) | exact W_ret (RetP_1 (.imm rfl)) | exact W_ret (RetP_c rfl rfl rfl (.imm rfl)))
      refine W_cond rfl (fun _ => ?_) (fun h => by cases h)
      repeat (first | (refine W_seq ?_) | (refine W_reg ?_) | (refine W_regd ?_) | (refine W_block ?_) | (refine And.intro (by omega) ?_) | simp (maxSteps := 1000000) (disch := omega) only [cA, cB, lk, lkH, Dst.onT, Dst.onX, Dst.slot, setF, setH, mapF, mapH, initF, binE, unE, cnt, boundE, newsE, freshE, opE, rmH, blkQ, frz_us, Nat.reduceEqDiff, Nat.reduceLT, Nat.reduceAdd, ↓reduceIte, reduceCtorEq, Nat.reduceLeDiff] | (refine callC_pure (c1) rfl ?_) | (refine callC_pure (c2) rfl ?_) | exact W_ret (RetP_1 (.imm rfl)) | exact W_ret (RetP_c rfl rfl rfl (.imm rfl)))
      exact W_ret (RetP_3 (.imm rfl) (.imm rfl) (.imm rfl))
    · rw [hA] at c1
      cases hB : okD B
      · rw [hB] at c2
        simp only [Bool.false_and, Bool.true_and]
        repeat (first | (refine W_seq ?_) | (refine W_reg ?_) | (refine W_regd ?_) | (refine W_block ?_) | (refine And.intro (by omega) ?_) | simp (maxSteps := 1000000) (disch := omega) only [cA, cB, lk, lkH, Dst.onT, Dst.onX, Dst.slot, setF, setH, mapF, mapH, initF, binE, unE, cnt, boundE, newsE, freshE, opE, rmH, blkQ, frz_us, Nat.reduceEqDiff, Nat.reduceLT, Nat.reduceAdd, ↓reduceIte, reduceCtorEq, Nat.reduceLeDiff] | (refine callC_pure (cs) rfl ?_) | exact W_ret (RetP_1 (.imm rfl)) | exact W_ret (RetP_c rfl rfl rfl (.imm rfl)))
        refine W_cond rfl (fun _ => ?_) (fun h => by cases h)
        repeat (first | (refine W_seq ?_) | (refine W_reg ?_) | (refine W_regd ?_) | (refine W_block ?_) | (refine And.intro (by omega) ?_) | simp (maxSteps := 1000000) (disch := omega) only [cA, cB, lk, lkH, Dst.onT, Dst.onX, Dst.slot, setF, setH, mapF, mapH, initF, binE, unE, cnt, boundE, newsE, freshE, opE, rmH, blkQ, frz_us, Nat.reduceEqDiff, Nat.reduceLT, Nat.reduceAdd, ↓reduceIte, reduceCtorEq, Nat.reduceLeDiff] | (refine callC_pure (c1) rfl ?_) | (refine callC_pure (c2) rfl ?_) | exact W_ret (RetP_1 (.imm rfl)) | exact W_ret (RetP_c rfl rfl rfl (.imm rfl)))
        exact W_ret (RetP_3 (.imm rfl) (.imm rfl) (.imm rfl))
      · rw [hB] at c2
        simp only [Bool.true_and]
        repeat (first | (refine W_seq ?_) | (refine W_reg ?_) | (refine W_regd ?_) | (refine W_block ?_) | (refine And.intro (by omega) ?_) | simp (maxSteps := 1000000) (disch := omega) only [cA, cB, lk, lkH, Dst.onT, Dst.onX, Dst.slot, setF, setH, mapF, mapH, initF, binE, unE, cnt, boundE, newsE, freshE, opE, rmH, blkQ, frz_us, Nat.reduceEqDiff, Nat.reduceLT, Nat.reduceAdd, ↓reduceIte, reduceCtorEq, Nat.reduceLeDiff] | (refine callC_pure (cs) rfl ?_) | exact W_ret (RetP_1 (.imm rfl)) | exact W_ret (RetP_c rfl rfl rfl (.imm rfl)))
        refine W_cond rfl (fun _ => ?_) (fun h => by cases h)
        repeat (first | (refine W_seq ?_) | (refine W_reg ?_) | (refine W_regd ?_) | (refine W_block ?_) | (refine And.intro (by omega) ?_) | simp (maxSteps := 1000000) (disch := omega) only [cA, cB, lk, lkH, Dst.onT, Dst.onX, Dst.slot, setF, setH, mapF, mapH, initF, binE, unE, cnt, boundE, newsE, freshE, opE, rmH, blkQ, frz_us, Nat.reduceEqDiff, Nat.reduceLT, Nat.reduceAdd, ↓reduceIte, reduceCtorEq, Nat.reduceLeDiff, us_length, len_gt] | (refine callC_pure (c1) rfl ?_) | (refine callC_pure (c2) rfl ?_) | exact W_ret (RetP_1 (.imm rfl)) | exact W_ret (RetP_c rfl rfl rfl (.imm rfl)))
        exact W_ret (RetP_3 (.imm rfl) (.imm rfl) (.imm rfl))
  · rw [if_neg h1] at cs ⊢
    have ci := indexAnyD s h7 (by omega)
    have hge := idx_ge isE s
    unfold unsP
    rw [if_neg h1]
    have htail := tail_W
    unfold tailU at htail
    unfold codeq_unsigned at htail ⊢
    dsimp only at htail
    by_cases h2 : fi isE s < s.length
    · rw [decide_eq_true h2] at hge
      rw [if_pos h2]
      rw [idx_of h2] at ci hge
      have c3 := q_exponent_calls (s.drop (fi isE s + 1)) (by rw [List.length_drop]; omega)
      have e1 : ((fi isE s : Int) + 1).toNat = fi isE s + 1 := by omega
      have e2 : (s.take s.length).drop (fi isE s + 1) = s.drop (fi isE s + 1) := by rw [List.take_length]
      have e3 : (s.take (fi isE s)).drop 0 = s.take (fi isE s) := rfl
      have ht := htail (s.take (fi isE s)) (expV (s.drop (fi isE s + 1))) true (by rw [List.length_take]; omega)
      unfold expR at c3
      have hex := @expOk_le (s.drop (fi isE s + 1))
      clear htail
      generalize expV (s.drop (fi isE s + 1)) = V at *
      cases h3 : expOk (s.drop (fi isE s + 1))
      · rw [h3, if_neg (by decide)] at c3
        rw [if_neg (by decide)]
        clear ht hex
        repeat (first | (refine W_seq ?_) | (refine W_reg ?_) | (refine W_regd ?_) | (refine W_block ?_) | (refine And.intro (by omega) ?_) | simp (maxSteps := 1000000) (disch := omega) only [cA, cB, lk, lkH, Dst.onT, Dst.onX, Dst.slot, setF, setH, mapF, mapH, initF, binE, unE, cnt, boundE, newsE, freshE, opE, rmH, blkQ, frz_us, Nat.reduceEqDiff, Nat.reduceLT, Nat.reduceAdd, ↓reduceIte, reduceCtorEq, Nat.reduceLeDiff] | (refine callC_pure (cs) rfl ?_) | exact W_ret (RetP_1 (.imm rfl)) | exact W_ret (RetP_c rfl rfl rfl (.imm rfl)))
        refine W_cond rfl (fun h => by cases h) (fun _ => W_skip ?_)
        repeat (first | (refine W_seq ?_) | (refine W_reg ?_) | (refine W_regd ?_) | (refine W_block ?_) | (refine And.intro (by omega) ?_) | simp (maxSteps := 1000000) (disch := omega) only [cA, cB, lk, lkH, Dst.onT, Dst.onX, Dst.slot, setF, setH, mapF, mapH, initF, binE, unE, cnt, boundE, newsE, freshE, opE, rmH, blkQ, frz_us, Nat.reduceEqDiff, Nat.reduceLT, Nat.reduceAdd, ↓reduceIte, reduceCtorEq, Nat.reduceLeDiff, hge] | (refine callC_pure (ci) rfl ?_) | exact W_ret (RetP_1 (.imm rfl)) | exact W_ret (RetP_c rfl rfl rfl (.imm rfl)))
        refine W_cond rfl (fun _ => ?_) (fun h => by cases h)
        repeat (first | (refine W_seq ?_) | (refine W_reg ?_) | (refine W_regd ?_) | (refine W_block ?_) | (refine And.intro (by omega) ?_) | simp (maxSteps := 1000000) (disch := omega) only [cA, cB, lk, lkH, Dst.onT, Dst.onX, Dst.slot, setF, setH, mapF, mapH, initF, binE, unE, cnt, boundE, newsE, freshE, opE, rmH, blkQ, frz_us, Nat.reduceEqDiff, Nat.reduceLT, Nat.reduceAdd, ↓reduceIte, reduceCtorEq, Nat.reduceLeDiff, e1, e2, List.take_length] | (refine callC_pure (c3) rfl ?_) | exact W_ret (RetP_1 (.imm rfl)) | exact W_ret (RetP_c rfl rfl rfl (.imm rfl)))
        refine W_cond rfl (fun _ => ?_) (fun h => by cases h)
        repeat (first | (refine W_seq ?_) | (refine W_reg ?_) | (refine W_regd ?_) | (refine W_block ?_) | (refine And.intro (by omega) ?_) | simp (maxSteps := 1000000) (disch := omega) only [cA, cB, lk, lkH, Dst.onT, Dst.onX, Dst.slot, setF, setH, mapF, mapH, initF, binE, unE, cnt, boundE, newsE, freshE, opE, rmH, blkQ, frz_us, Nat.reduceEqDiff, Nat.reduceLT, Nat.reduceAdd, ↓reduceIte, reduceCtorEq, Nat.reduceLeDiff])
        exact W_ret (RetP_3 (.nils _) (.nils _) (.imm rfl))
      · rw [h3, if_pos rfl] at c3
        rw [if_pos rfl]
        have ht := ht (hex h3)
        clear hex
        repeat (first | (refine W_seq ?_) | (refine W_reg ?_) | (refine W_regd ?_) | (refine W_block ?_) | (refine And.intro (by omega) ?_) | simp (maxSteps := 1000000) (disch := omega) only [cA, cB, lk, lkH, Dst.onT, Dst.onX, Dst.slot, setF, setH, mapF, mapH, initF, binE, unE, cnt, boundE, newsE, freshE, opE, rmH, blkQ, frz_us, Nat.reduceEqDiff, Nat.reduceLT, Nat.reduceAdd, ↓reduceIte, reduceCtorEq, Nat.reduceLeDiff] | (refine callC_pure (cs) rfl ?_) | exact W_ret (RetP_1 (.imm rfl)) | exact W_ret (RetP_c rfl rfl rfl (.imm rfl)))
        refine W_cond rfl (fun h => by cases h) (fun _ => W_skip ?_)
        repeat (first | (refine W_seq ?_) | (refine W_reg ?_) | (refine W_regd ?_) | (refine W_block ?_) | (refine And.intro (by omega) ?_) | simp (maxSteps := 1000000) (disch := omega) only [cA, cB, lk, lkH, Dst.onT, Dst.onX, Dst.slot, setF, setH, mapF, mapH, initF, binE, unE, cnt, boundE, newsE, freshE, opE, rmH, blkQ, frz_us, Nat.reduceEqDiff, Nat.reduceLT, Nat.reduceAdd, ↓reduceIte, reduceCtorEq, Nat.reduceLeDiff, hge] | (refine callC_pure (ci) rfl ?_) | exact W_ret (RetP_1 (.imm rfl)) | exact W_ret (RetP_c rfl rfl rfl (.imm rfl)))
        refine W_cond rfl (fun _ => ?_) (fun h => by cases h)
        repeat (first | (refine W_seq ?_) | (refine W_reg ?_) | (refine W_regd ?_) | (refine W_block ?_) | (refine And.intro (by omega) ?_) | simp (maxSteps := 1000000) (disch := omega) only [cA, cB, lk, lkH, Dst.onT, Dst.onX, Dst.slot, setF, setH, mapF, mapH, initF, binE, unE, cnt, boundE, newsE, freshE, opE, rmH, blkQ, frz_us, Nat.reduceEqDiff, Nat.reduceLT, Nat.reduceAdd, ↓reduceIte, reduceCtorEq, Nat.reduceLeDiff, e1, e2, List.take_length] | (refine callC_pure (c3) rfl ?_) | exact W_ret (RetP_1 (.imm rfl)) | exact W_ret (RetP_c rfl rfl rfl (.imm rfl)))
        refine W_cond rfl (fun h => by cases h) (fun _ => W_skip ?_)
        refine W_reg ?_
        simp (maxSteps := 1000000) (disch := omega) only [cA, cB, lk, lkH, Dst.onT, Dst.onX, Dst.slot, setF, setH, mapF, mapH, initF, binE, unE, cnt, boundE, newsE, freshE, opE, rmH, blkQ, frz_us, Nat.reduceEqDiff, Nat.reduceLT, Nat.reduceAdd, ↓reduceIte, reduceCtorEq, Nat.reduceLeDiff, e3]
        repeat refine And.intro (by omega) ?_
        refine W_sub ?_ ht
        simp [subF, lk]
    · rw [decide_eq_false h2] at hge
      rw [if_neg h2]
      have ht := htail s 0 false hs (by decide)
      clear htail
      repeat (first | (refine W_seq ?_) | (refine W_reg ?_) | (refine W_regd ?_) | (refine W_block ?_) | (refine And.intro (by omega) ?_) | simp (maxSteps := 1000000) (disch := omega) only [cA, cB, lk, lkH, Dst.onT, Dst.onX, Dst.slot, setF, setH, mapF, mapH, initF, binE, unE, cnt, boundE, newsE, freshE, opE, rmH, blkQ, frz_us, Nat.reduceEqDiff, Nat.reduceLT, Nat.reduceAdd, ↓reduceIte, reduceCtorEq, Nat.reduceLeDiff] | (refine callC_pure (cs) rfl ?_) | exact W_ret (RetP_1 (.imm rfl)) | exact W_ret (RetP_c rfl rfl rfl (.imm rfl)))
      refine W_cond rfl (fun h => by cases h) (fun _ => W_skip ?_)
      repeat (first | (refine W_seq ?_) | (refine W_reg ?_) | (refine W_regd ?_) | (refine W_block ?_) | (refine And.intro (by omega) ?_) | simp (maxSteps := 1000000) (disch := omega) only [cA, cB, lk, lkH, Dst.onT, Dst.onX, Dst.slot, setF, setH, mapF, mapH, initF, binE, unE, cnt, boundE, newsE, freshE, opE, rmH, blkQ, frz_us, Nat.reduceEqDiff, Nat.reduceLT, Nat.reduceAdd, ↓reduceIte, reduceCtorEq, Nat.reduceLeDiff, hge] | (refine callC_pure (ci) rfl ?_) | exact W_ret (RetP_1 (.imm rfl)) | exact W_ret (RetP_c rfl rfl rfl (.imm rfl)))
      refine W_cond rfl (fun h => by cases h) (fun _ => W_skip ?_)
      refine W_sub ?_ ht
      simp [subF, lk]
theorem I_sgn (b : Bool) (n : Nat) : I (sgn b n) = .agg [.bool (b && decide (0 < n)), .sl 1 (us (limbs n))] := by
  unfold I; rw [sgn_lt, sgn_abs]
theorem qParse_calls (l : List UInt8) (hl : l.length ≤ 900) (h7 : A7 (expD l)) : PCalls Tryz.prog 18 [.str l] (resQ (parseQ l)) := by
  have c1 := cutPrefixD l
  have hel : (expD l).length ≤ 900 := by
    unfold expD; split
    · rw [List.length_tail]; omega
    · exact hl
  have c2 := q_unsigned_calls (expD l) hel h7
  rw [parseQ_P]
  refine PCalls_of isqParse (by simp [fnqParse]) ?_
  unfold codeqParse
  cases h : unsP (expD l) with
  | none =>
    obtain ⟨x, y, e⟩ := unsR_none h
    rw [e] at c2
    rw [Option.map_none]
    unfold resQ
    dsimp only
    rw [Q0]
    repeat (first | (refine W_seq ?_) | (refine W_reg ?_) | (refine W_regd ?_) | (refine W_block ?_) | (refine And.intro (by omega) ?_) | simp (maxSteps := 1000000) (disch := omega) only [cA, cB, lk, lkH, Dst.onT, Dst.onX, Dst.slot, setF, setH, mapF, mapH, initF, binE, unE, cnt, boundE, newsE, freshE, opE, rmH, blkQ, frz_us, Nat.reduceEqDiff, Nat.reduceLT, Nat.reduceAdd, ↓reduceIte, reduceCtorEq, Nat.reduceLeDiff, cS, cT, nbqParse] | (refine callC_pure (c1) rfl ?_) | (refine callC_pure (c2) rfl ?_) | exact W_ret (RetP_1 (.imm rfl)) | exact W_ret (RetP_c rfl rfl rfl (.imm rfl)))
    refine W_cond rfl (fun _ => ?_) (fun h => by cases h)
    repeat (first | (refine W_seq ?_) | (refine W_reg ?_) | (refine W_regd ?_) | (refine W_block ?_) | (refine And.intro (by omega) ?_) | simp (maxSteps := 1000000) (disch := omega) only [cA, cB, lk, lkH, Dst.onT, Dst.onX, Dst.slot, setF, setH, mapF, mapH, initF, binE, unE, cnt, boundE, newsE, freshE, opE, rmH, blkQ, frz_us, Nat.reduceEqDiff, Nat.reduceLT, Nat.reduceAdd, ↓reduceIte, reduceCtorEq, Nat.reduceLeDiff, cS, cT, nbqParse])
    exact W_ret (RetP_ct rfl rfl rfl (Exp_bnn _ _ _) (.imm rfl))
  | some p =>
    obtain ⟨n, d⟩ := p
    rw [unsR_some h] at c2
    unfold pairR at c2
    dsimp only at c2
    have hd := unsP_pos h
    obtain ⟨b1, b2⟩ := unsP_len h hel
    rw [Option.map_some]
    unfold resQ
    dsimp only
    have cl := q_lowest_calls (sgn (decide (l.head? = some 45)) n) d (by omega) (by unfold il; rw [sgn_abs]; omega) (by omega)
    rw [I_sgn] at cl
    clear h b1 b2 hel
    by_cases hn : l.head? = some 45
    · rw [decide_eq_true hn] at c1 cl ⊢
      rw [Bool.true_and] at cl
      repeat (first | (refine W_seq ?_) | (refine W_reg ?_) | (refine W_regd ?_) | (refine W_block ?_) | (refine And.intro (by omega) ?_) | simp (maxSteps := 1000000) (disch := omega) only [cA, cB, lk, lkH, Dst.onT, Dst.onX, Dst.slot, setF, setH, mapF, mapH, initF, binE, unE, cnt, boundE, newsE, freshE, opE, rmH, blkQ, frz_us, Nat.reduceEqDiff, Nat.reduceLT, Nat.reduceAdd, ↓reduceIte, reduceCtorEq, Nat.reduceLeDiff, cS, cT, nbqParse] | (refine callC_pure (c1) rfl ?_) | (refine callC_pure (c2) rfl ?_) | exact W_ret (RetP_1 (.imm rfl)) | exact W_ret (RetP_c rfl rfl rfl (.imm rfl)))
      refine W_cond rfl (fun h => by cases h) (fun _ => W_skip ?_)
      repeat (first | (refine W_seq ?_) | (refine W_reg ?_) | (refine W_regd ?_) | (refine W_block ?_) | (refine And.intro (by omega) ?_) | simp (maxSteps := 1000000) (disch := omega) only [cA, cB, lk, lkH, Dst.onT, Dst.onX, Dst.slot, setF, setH, mapF, mapH, initF, binE, unE, cnt, boundE, newsE, freshE, opE, rmH, blkQ, frz_us, Nat.reduceEqDiff, Nat.reduceLT, Nat.reduceAdd, ↓reduceIte, reduceCtorEq, Nat.reduceLeDiff, Q, cS, cT, nbqParse, us_length, len_gt] | (refine callC_pure (cl) rfl ?_) | exact W_ret (RetP_1 (.imm rfl)) | exact W_ret (RetP_c rfl rfl rfl (.imm rfl)))
      exact W_ret (RetP_ct rfl rfl rfl (.imm rfl) (.imm rfl))
    · rw [decide_eq_false hn] at c1 cl ⊢
      rw [Bool.false_and] at cl
      repeat (first | (refine W_seq ?_) | (refine W_reg ?_) | (refine W_regd ?_) | (refine W_block ?_) | (refine And.intro (by omega) ?_) | simp (maxSteps := 1000000) (disch := omega) only [cA, cB, lk, lkH, Dst.onT, Dst.onX, Dst.slot, setF, setH, mapF, mapH, initF, binE, unE, cnt, boundE, newsE, freshE, opE, rmH, blkQ, frz_us, Nat.reduceEqDiff, Nat.reduceLT, Nat.reduceAdd, ↓reduceIte, reduceCtorEq, Nat.reduceLeDiff, cS, cT, nbqParse] | (refine callC_pure (c1) rfl ?_) | (refine callC_pure (c2) rfl ?_) | exact W_ret (RetP_1 (.imm rfl)) | exact W_ret (RetP_c rfl rfl rfl (.imm rfl)))
      refine W_cond rfl (fun h => by cases h) (fun _ => W_skip ?_)
      repeat (first | (refine W_seq ?_) | (refine W_reg ?_) | (refine W_regd ?_) | (refine W_block ?_) | (refine And.intro (by omega) ?_) | simp (maxSteps := 1000000) (disch := omega) only [cA, cB, lk, lkH, Dst.onT, Dst.onX, Dst.slot, setF, setH, mapF, mapH, initF, binE, unE, cnt, boundE, newsE, freshE, opE, rmH, blkQ, frz_us, Nat.reduceEqDiff, Nat.reduceLT, Nat.reduceAdd, ↓reduceIte, reduceCtorEq, Nat.reduceLeDiff, Q, cS, cT, nbqParse, us_length, len_gt] | (refine callC_pure (cl) rfl ?_) | exact W_ret (RetP_1 (.imm rfl)) | exact W_ret (RetP_c rfl rfl rfl (.imm rfl)))
      exact W_ret (RetP_ct rfl rfl rfl (.imm rfl) (.imm rfl))
end Go.Proofs.YteiagmmfapbaiaaGreatDoor
namespace Go.Proofs.YteiagmmfapbaiaaGreatDoor
open Go Go.Dat Go.Proofs Nat32 Go.RowKit
open Go.Lib (decDigits repeatL)
theorem dd_le {n m : Nat} (h : (limbs n).length ≤ m) : (decDigits n).length ≤ 10 * m + 1 := Nat.le_trans (dd_limbs h) (by omega)
theorem vn_dn' {r : Rat} (h : ¬ r.den = 1) : vn (dn r.den) = r.den := vn_dn h
theorem qFormat_calls (neg : Bool) (a d : List Nat) (ha : a.length ≤ 800) (hd : d.length ≤ 800) (la : lim a) (ld : lim d) : PCalls Tryz.prog 20 [XQ neg a d] (.str (fmtQ (rv neg a d))) := by
  have v1 := q_value_calls neg a d (by omega) (by omega) la ld
  have k1 : RB (rv neg a d) 800 := RB_rv la ld ha hd (by decide)
  generalize rv neg a d = r at *
  have c1 := iFormat_calls (decide (r.num < 0)) (limbs r.num.natAbs) (Nat.le_trans k1.1 (by decide)) (lim_limbs _)
  rw [iv_I, show fmtI r.num = fmtZ r.num from rfl] at c1
  have c2 := nFormat_calls (dn r.den) (Nat.le_trans (RB_dn k1) (by decide)) (lim_dn _)
  have kd := dk1 r
  have kg : decide ((0 : Int) < ((dn r.den).length : Int)) = !decide (r.den = 1) := by
    rw [← kd]
    by_cases h : ((dn r.den).length : Int) = 0
    · rw [decide_eq_true h, decide_eq_false (by omega)]; rfl
    · rw [decide_eq_false h, decide_eq_true (by omega)]; rfl
  have l1 : (fmtZ r.num).length ≤ 8002 := by
    have := dd_le k1.1
    unfold fmtZ; split
    · simp; omega
    · omega
  have l2 := dd_le k1.2
  refine PCalls_of isqFormat (by simp [fnqFormat]) ?_
  unfold codeqFormat fmtQ
  by_cases h : r.den = 1
  · rw [decide_eq_true h] at kg
    rw [if_pos h, List.append_nil]
    generalize fmtZ r.num = S at *
    clear l2 kd k1
    repeat (first | (refine W_seq ?_) | (refine W_reg ?_) | (refine W_regd ?_) | (refine W_block ?_) | (refine And.intro (by omega) ?_) | simp (maxSteps := 1000000) (disch := omega) only [cA, cB, lk, lkH, Dst.onT, Dst.onX, Dst.slot, setF, setH, mapF, mapH, initF, binE, unE, cnt, boundE, newsE, freshE, opE, rmH, blkQ, frz_us, Nat.reduceEqDiff, Nat.reduceLT, Nat.reduceAdd, ↓reduceIte, reduceCtorEq, Nat.reduceLeDiff, XQ, Q, cS, cT, nbqFormat, us_length, kg, Bool.not_true] | (refine callC_pure (v1) rfl ?_) | (refine callC_pure (c1) rfl ?_) | exact W_ret (RetP_1 (.imm rfl)) | exact W_ret (RetP_c rfl rfl rfl (.imm rfl)))
    refine W_cond rfl (fun h => by cases h) (fun _ => W_skip ?_)
    repeat (first | (refine W_seq ?_) | (refine W_reg ?_) | (refine W_regd ?_) | (refine W_block ?_) | (refine And.intro (by omega) ?_) | simp (maxSteps := 1000000) (disch := omega) only [cA, cB, lk, lkH, Dst.onT, Dst.onX, Dst.slot, setF, setH, mapF, mapH, initF, binE, unE, cnt, boundE, newsE, freshE, opE, rmH, blkQ, frz_us, Nat.reduceEqDiff, Nat.reduceLT, Nat.reduceAdd, ↓reduceIte, reduceCtorEq, Nat.reduceLeDiff, cS])
    exact W_ret (RetP_1 (.imm rfl))
  · rw [decide_eq_false h] at kg
    rw [if_neg h]
    rw [vn_dn h] at c2
    generalize fmtZ r.num = S at *
    generalize decDigits r.den = D at *
    clear kd k1
    have e : [(47 : UInt8)] ++ D = 47 :: D := rfl
    repeat (first | (refine W_seq ?_) | (refine W_reg ?_) | (refine W_regd ?_) | (refine W_block ?_) | (refine And.intro (by omega) ?_) | simp (maxSteps := 1000000) (disch := omega) only [cA, cB, lk, lkH, Dst.onT, Dst.onX, Dst.slot, setF, setH, mapF, mapH, initF, binE, unE, cnt, boundE, newsE, freshE, opE, rmH, blkQ, frz_us, Nat.reduceEqDiff, Nat.reduceLT, Nat.reduceAdd, ↓reduceIte, reduceCtorEq, Nat.reduceLeDiff, XQ, Q, cS, cT, nbqFormat, us_length, kg, Bool.not_false] | (refine callC_pure (v1) rfl ?_) | (refine callC_pure (c1) rfl ?_) | exact W_ret (RetP_1 (.imm rfl)) | exact W_ret (RetP_c rfl rfl rfl (.imm rfl)))
    refine W_cond rfl (fun _ => ?_) (fun h => by cases h)
    repeat (first | (refine W_seq ?_) | (refine W_reg ?_) | (refine W_regd ?_) | (refine W_block ?_) | (refine And.intro (by omega) ?_) | simp (maxSteps := 1000000) (disch := omega) only [cA, cB, lk, lkH, Dst.onT, Dst.onX, Dst.slot, setF, setH, mapF, mapH, initF, binE, unE, cnt, boundE, newsE, freshE, opE, rmH, blkQ, frz_us, Nat.reduceEqDiff, Nat.reduceLT, Nat.reduceAdd, ↓reduceIte, reduceCtorEq, Nat.reduceLeDiff, cS, e, List.length_cons, List.length_singleton] | (refine callC_pure (c2) rfl ?_) | exact W_ret (RetP_1 (.imm rfl)) | exact W_ret (RetP_c rfl rfl rfl (.imm rfl)))
theorem qFormatL (r : Rat) (h : RB r 800) : PCalls Tryz.prog 20 [Q r] (.str (fmtQ r)) := by
  have := qFormat_calls (decide (r.num < 0)) (limbs r.num.natAbs) (dn r.den) h.1 (RB_dn h) (lim_limbs _) (lim_dn _)
  rwa [rv_Q] at this
theorem pFormat_calls (neg : Bool) (a d : List Nat) (ha : a.length ≤ 800) (hd : d.length ≤ 800) (la : lim a) (ld : lim d) : PCalls Tryz.prog 21 [XQ neg a d] (.str (fmtQ (rv neg a d))) := by
  have v1 := pTake_calls neg a d (by omega) (by omega) la ld
  have k1 : RB (rv neg a d) 800 := RB_rv la ld ha hd (by decide)
  generalize rv neg a d = r at *
  have c1 := sFormat_calls (decide (r.num < 0)) (limbs r.num.natAbs) (Nat.le_trans k1.1 (by decide)) (lim_limbs _)
  rw [iv_I, show fmtI r.num = fmtZ r.num from rfl] at c1
  have c2 := rFormat_calls (dn r.den) (Nat.le_trans (RB_dn k1) (by decide)) (lim_dn _)
  have kd := dk1 r
  have l1 : (fmtZ r.num).length ≤ 8002 := by
    have := dd_le k1.1
    unfold fmtZ; split
    · simp; omega
    · omega
  have l2 := dd_le k1.2
  refine PCalls_of ispFormat (by simp [fnpFormat]) ?_
  unfold codepFormat fmtQ
  by_cases h : r.den = 1
  · rw [decide_eq_true h] at kd
    rw [if_pos h, List.append_nil]
    generalize fmtZ r.num = S at *
    clear l2 k1
    repeat (first | (refine W_seq ?_) | (refine W_reg ?_) | (refine W_regd ?_) | (refine W_block ?_) | (refine And.intro (by omega) ?_) | simp (maxSteps := 1000000) (disch := omega) only [cA, cB, lk, lkH, Dst.onT, Dst.onX, Dst.slot, setF, setH, mapF, mapH, initF, binE, unE, cnt, boundE, newsE, freshE, opE, rmH, blkQ, frz_us, Nat.reduceEqDiff, Nat.reduceLT, Nat.reduceAdd, ↓reduceIte, reduceCtorEq, Nat.reduceLeDiff, XQ, Q, cS, cT, nbpFormat, us_length, kd] | (refine callC_pure (v1) rfl ?_) | exact W_ret (RetP_1 (.imm rfl)) | exact W_ret (RetP_c rfl rfl rfl (.imm rfl)))
    refine W_cond rfl (fun _ => ?_) (fun h => by cases h)
    repeat (first | (refine W_seq ?_) | (refine W_reg ?_) | (refine W_regd ?_) | (refine W_block ?_) | (refine And.intro (by omega) ?_) | simp (maxSteps := 1000000) (disch := omega) only [cA, cB, lk, lkH, Dst.onT, Dst.onX, Dst.slot, setF, setH, mapF, mapH, initF, binE, unE, cnt, boundE, newsE, freshE, opE, rmH, blkQ, frz_us, Nat.reduceEqDiff, Nat.reduceLT, Nat.reduceAdd, ↓reduceIte, reduceCtorEq, Nat.reduceLeDiff, cS] | (refine callC_pure (c1) rfl ?_) | exact W_ret (RetP_1 (.imm rfl)) | exact W_ret (RetP_c rfl rfl rfl (.imm rfl)))
  · rw [decide_eq_false h] at kd
    rw [if_neg h]
    rw [vn_dn h] at c2
    generalize fmtZ r.num = S at *
    generalize decDigits r.den = D at *
    clear k1
    have e : (S ++ [47]) ++ D = S ++ 47 :: D := by simp
    repeat (first | (refine W_seq ?_) | (refine W_reg ?_) | (refine W_regd ?_) | (refine W_block ?_) | (refine And.intro (by omega) ?_) | simp (maxSteps := 1000000) (disch := omega) only [cA, cB, lk, lkH, Dst.onT, Dst.onX, Dst.slot, setF, setH, mapF, mapH, initF, binE, unE, cnt, boundE, newsE, freshE, opE, rmH, blkQ, frz_us, Nat.reduceEqDiff, Nat.reduceLT, Nat.reduceAdd, ↓reduceIte, reduceCtorEq, Nat.reduceLeDiff, XQ, Q, cS, cT, nbpFormat, us_length, kd] | (refine callC_pure (v1) rfl ?_) | exact W_ret (RetP_1 (.imm rfl)) | exact W_ret (RetP_c rfl rfl rfl (.imm rfl)))
    refine W_cond rfl (fun h => by cases h) (fun _ => W_skip ?_)
    repeat (first | (refine W_seq ?_) | (refine W_reg ?_) | (refine W_regd ?_) | (refine W_block ?_) | (refine And.intro (by omega) ?_) | simp (maxSteps := 1000000) (disch := omega) only [cA, cB, lk, lkH, Dst.onT, Dst.onX, Dst.slot, setF, setH, mapF, mapH, initF, binE, unE, cnt, boundE, newsE, freshE, opE, rmH, blkQ, frz_us, Nat.reduceEqDiff, Nat.reduceLT, Nat.reduceAdd, ↓reduceIte, reduceCtorEq, Nat.reduceLeDiff, cS, e, List.length_append, List.length_singleton] | (refine callC_pure (c1) rfl ?_) | (refine callC_pure (c2) rfl ?_) | exact W_ret (RetP_1 (.imm rfl)) | exact W_ret (RetP_c rfl rfl rfl (.imm rfl)))
    try exact W_ret (RetP_1 (.imm rfl))
theorem pFormatL (r : Rat) (h : RB r 800) : PCalls Tryz.prog 21 [Q r] (.str (fmtQ r)) := by
  have := pFormat_calls (decide (r.num < 0)) (limbs r.num.natAbs) (dn r.den) h.1 (RB_dn h) (lim_limbs _) (lim_dn _)
  rwa [rv_Q] at this
def decR (r : Rat) (k : Int) : List UInt8 := if k < 0 ∨ 100 < k then [] else decS r k.toNat
theorem rep_rep (n : Nat) : repeatL [48] n = List.replicate n (48 : UInt8) := by
  induction n with
  | zero => rfl
  | succ n ih => rw [List.replicate_succ, ← ih]; rfl
def tailDec : DC := match codeqDecimal with | .seq _ (.seq _ (.seq _ (.seq _ (.seq _ (.seq _ t))))) => t | _ => .skip
theorem tailDec_W (b : Bool) (a dd : List Nat) (q k : Nat) (hq : (limbs q).length ≤ 900) (hk : k ≤ 100) :
    W fnqDecimal tailDec (RetP resqDecimal (.str (if b && decide (0 < q) then 45 :: pointed k (padz (k + 1) (decDigits q)) else pointed k (padz (k + 1) (decDigits q)))))
      [(1, .int .i64 k), (2, .ptr 2 0), (4, .str []), (5, .sl 1 (us (limbs q)))] [(2, [.bool b, .sl 1 (us a), .sl 1 (us dd)])] := by
  have c1 := nFormat_calls (limbs q) hq (lim_limbs _)
  rw [vn_limbs] at c1
  have hD := dd_le hq
  have hl := len_gt q
  unfold tailDec codeqDecimal
  dsimp only
  generalize decDigits q = D at *
  have c2 := repeatD [48] (k + 1 - D.length) (by simp) (by omega)
  rw [rep_rep] at c2
  repeat (first | (refine W_seq ?_) | (refine W_reg ?_) | (refine W_regd ?_) | (refine W_block ?_) | (refine And.intro (by omega) ?_) | simp (maxSteps := 1000000) (disch := omega) only [cA, cB, lk, lkH, Dst.onT, Dst.onX, Dst.slot, setF, setH, mapF, mapH, initF, binE, unE, cnt, boundE, newsE, freshE, opE, rmH, blkQ, frz_us, Nat.reduceEqDiff, Nat.reduceLT, Nat.reduceAdd, ↓reduceIte, reduceCtorEq, Nat.reduceLeDiff, cS, cT, nbqDecimal] | (refine callC_pure (c1) rfl ?_) | exact W_ret (RetP_1 (.imm rfl)) | exact W_ret (RetP_c rfl rfl rfl (.imm rfl)))
  refine W_join (ι := Unit) (fun _ => True) (fun _ => [(1, .int .i64 k), (2, .ptr 2 0), (4, .str []), (5, .sl 1 (us (limbs q))), (9, .str (padz (k + 1) D))]) (fun _ => [(2, [.bool b, .sl 1 (us a), .sl 1 (us dd)])]) ?_ ?_
  · repeat (first | (refine W_seq ?_) | (refine W_reg ?_) | (refine W_regd ?_) | (refine W_block ?_) | (refine And.intro (by omega) ?_) | simp (maxSteps := 1000000) (disch := omega) only [cA, cB, lk, lkH, Dst.onT, Dst.onX, Dst.slot, setF, setH, mapF, mapH, initF, binE, unE, cnt, boundE, newsE, freshE, opE, rmH, blkQ, frz_us, Nat.reduceEqDiff, Nat.reduceLT, Nat.reduceAdd, ↓reduceIte, reduceCtorEq, Nat.reduceLeDiff])
    by_cases h : D.length < k + 1
    · have d : decide ((0 : Int) < (k : Int) + 1 - (D.length : Int)) = true := decide_eq_true (by omega)
      have e : (k : Int) + 1 - (D.length : Int) = ((k + 1 - D.length : Nat) : Int) := by omega
      have ep : List.replicate (k + 1 - D.length) 48 ++ D = padz (k + 1) D := rfl
      repeat (first | (refine W_seq ?_) | (refine W_reg ?_) | (refine W_regd ?_) | (refine W_block ?_) | (refine And.intro (by omega) ?_) | simp (maxSteps := 1000000) (disch := omega) only [cA, cB, lk, lkH, Dst.onT, Dst.onX, Dst.slot, setF, setH, mapF, mapH, initF, binE, unE, cnt, boundE, newsE, freshE, opE, rmH, blkQ, frz_us, Nat.reduceEqDiff, Nat.reduceLT, Nat.reduceAdd, ↓reduceIte, reduceCtorEq, Nat.reduceLeDiff, d])
      refine W_cond rfl (fun _ => ?_) (fun h => by cases h)
      repeat (first | (refine W_seq ?_) | (refine W_reg ?_) | (refine W_regd ?_) | (refine W_block ?_) | (refine And.intro (by omega) ?_) | simp (maxSteps := 1000000) (disch := omega) only [cA, cB, lk, lkH, Dst.onT, Dst.onX, Dst.slot, setF, setH, mapF, mapH, initF, binE, unE, cnt, boundE, newsE, freshE, opE, rmH, blkQ, frz_us, Nat.reduceEqDiff, Nat.reduceLT, Nat.reduceAdd, ↓reduceIte, reduceCtorEq, Nat.reduceLeDiff, e, List.length_replicate, ep] | (refine callC_pure (c2) rfl ?_) | exact W_ret (RetP_1 (.imm rfl)) | exact W_ret (RetP_c rfl rfl rfl (.imm rfl)))
      first | exact ⟨(), trivial, by simp [subF, lk], rfl⟩ | exact ⟨(), by simp [subF, lk], rfl⟩ | exact ⟨(), by simp [subF, lk]⟩ | exact ⟨(), trivial, by simp [subF, lk]⟩
    · have d : decide ((0 : Int) < (k : Int) + 1 - (D.length : Int)) = false := decide_eq_false (by omega)
      have ep : padz (k + 1) D = D := by unfold padz; rw [show k + 1 - D.length = 0 by omega]; rfl
      repeat (first | (refine W_seq ?_) | (refine W_reg ?_) | (refine W_regd ?_) | (refine W_block ?_) | (refine And.intro (by omega) ?_) | simp (maxSteps := 1000000) (disch := omega) only [cA, cB, lk, lkH, Dst.onT, Dst.onX, Dst.slot, setF, setH, mapF, mapH, initF, binE, unE, cnt, boundE, newsE, freshE, opE, rmH, blkQ, frz_us, Nat.reduceEqDiff, Nat.reduceLT, Nat.reduceAdd, ↓reduceIte, reduceCtorEq, Nat.reduceLeDiff, d])
      refine W_cond rfl (fun h => by cases h) (fun _ => W_skip ?_)
      rw [ep]
      first | exact ⟨(), trivial, by simp [subF, lk], rfl⟩ | exact ⟨(), by simp [subF, lk], rfl⟩ | exact ⟨(), by simp [subF, lk]⟩ | exact ⟨(), trivial, by simp [subF, lk]⟩
  · rintro ⟨⟩ -
    have hp := padz_len (k + 1) D
    generalize padz (k + 1) D = L at *
    clear c1 c2
    have hPl : (pointed k L).length ≤ L.length + 1 := by
      unfold pointed; split
      · simp; omega
      · omega
    refine W_seq (W_join (ι := Unit) (fun _ => True) (fun _ => [(1, .int .i64 k), (2, .ptr 2 0), (4, .str []), (5, .sl 1 (us (limbs q))), (9, .str (pointed k L))]) (fun _ => [(2, [.bool b, .sl 1 (us a), .sl 1 (us dd)])]) ?_ ?_)
    · by_cases h : 0 < k
      · have d : decide ((0 : Int) < (k : Int)) = true := decide_eq_true (by omega)
        have e : (((L.length : Int) - (k : Int))).toNat = L.length - k := by omega
        have e0 : (L.take (L.length - k)).drop 0 = L.take (L.length - k) := rfl
        have ep : (L.take (L.length - k) ++ [46]) ++ L.drop (L.length - k) = pointed k L := by unfold pointed; rw [if_pos h]; simp
        repeat (first | (refine W_seq ?_) | (refine W_reg ?_) | (refine W_regd ?_) | (refine W_block ?_) | (refine And.intro (by omega) ?_) | simp (maxSteps := 1000000) (disch := omega) only [cA, cB, lk, lkH, Dst.onT, Dst.onX, Dst.slot, setF, setH, mapF, mapH, initF, binE, unE, cnt, boundE, newsE, freshE, opE, rmH, blkQ, frz_us, Nat.reduceEqDiff, Nat.reduceLT, Nat.reduceAdd, ↓reduceIte, reduceCtorEq, Nat.reduceLeDiff, d])
        refine W_cond rfl (fun _ => ?_) (fun h => by cases h)
        repeat (first | (refine W_seq ?_) | (refine W_reg ?_) | (refine W_regd ?_) | (refine W_block ?_) | (refine And.intro (by omega) ?_) | simp (maxSteps := 1000000) (disch := omega) only [cA, cB, lk, lkH, Dst.onT, Dst.onX, Dst.slot, setF, setH, mapF, mapH, initF, binE, unE, cnt, boundE, newsE, freshE, opE, rmH, blkQ, frz_us, Nat.reduceEqDiff, Nat.reduceLT, Nat.reduceAdd, ↓reduceIte, reduceCtorEq, Nat.reduceLeDiff, e, e0, List.take_length, ep, List.length_append, List.length_take, List.length_drop, List.length_singleton])
        first | exact ⟨(), trivial, by simp [subF, lk], rfl⟩ | exact ⟨(), by simp [subF, lk], rfl⟩ | exact ⟨(), by simp [subF, lk]⟩ | exact ⟨(), trivial, by simp [subF, lk]⟩
      · have d : decide ((0 : Int) < (k : Int)) = false := decide_eq_false (by omega)
        have ep : pointed k L = L := by unfold pointed; rw [if_neg h]
        repeat (first | (refine W_seq ?_) | (refine W_reg ?_) | (refine W_regd ?_) | (refine W_block ?_) | (refine And.intro (by omega) ?_) | simp (maxSteps := 1000000) (disch := omega) only [cA, cB, lk, lkH, Dst.onT, Dst.onX, Dst.slot, setF, setH, mapF, mapH, initF, binE, unE, cnt, boundE, newsE, freshE, opE, rmH, blkQ, frz_us, Nat.reduceEqDiff, Nat.reduceLT, Nat.reduceAdd, ↓reduceIte, reduceCtorEq, Nat.reduceLeDiff, d])
        refine W_cond rfl (fun h => by cases h) (fun _ => W_skip ?_)
        rw [ep]
        first | exact ⟨(), trivial, by simp [subF, lk], rfl⟩ | exact ⟨(), by simp [subF, lk], rfl⟩ | exact ⟨(), by simp [subF, lk]⟩ | exact ⟨(), trivial, by simp [subF, lk]⟩
    · rintro ⟨⟩ -
      generalize pointed k L = P at *
      have e : [(45 : UInt8)] ++ P = 45 :: P := rfl
      cases b
      · repeat (first | (refine W_seq ?_) | (refine W_reg ?_) | (refine W_regd ?_) | (refine W_block ?_) | (refine And.intro (by omega) ?_) | simp (maxSteps := 1000000) (disch := omega) only [cA, cB, lk, lkH, Dst.onT, Dst.onX, Dst.slot, setF, setH, mapF, mapH, initF, binE, unE, cnt, boundE, newsE, freshE, opE, rmH, blkQ, frz_us, Nat.reduceEqDiff, Nat.reduceLT, Nat.reduceAdd, ↓reduceIte, reduceCtorEq, Nat.reduceLeDiff, cS, nbqDecimal, us_length, hl])
        refine W_cond rfl (fun h => by cases h) (fun _ => W_skip ?_)
        repeat (first | (refine W_seq ?_) | (refine W_reg ?_) | (refine W_regd ?_) | (refine W_block ?_) | (refine And.intro (by omega) ?_) | simp (maxSteps := 1000000) (disch := omega) only [cA, cB, lk, lkH, Dst.onT, Dst.onX, Dst.slot, setF, setH, mapF, mapH, initF, binE, unE, cnt, boundE, newsE, freshE, opE, rmH, blkQ, frz_us, Nat.reduceEqDiff, Nat.reduceLT, Nat.reduceAdd, ↓reduceIte, reduceCtorEq, Nat.reduceLeDiff, cS])
        exact W_ret (RetP_1 (.imm rfl))
      · by_cases h : 0 < q
        · rw [decide_eq_true h] at hl ⊢
          repeat (first | (refine W_seq ?_) | (refine W_reg ?_) | (refine W_regd ?_) | (refine W_block ?_) | (refine And.intro (by omega) ?_) | simp (maxSteps := 1000000) (disch := omega) only [cA, cB, lk, lkH, Dst.onT, Dst.onX, Dst.slot, setF, setH, mapF, mapH, initF, binE, unE, cnt, boundE, newsE, freshE, opE, rmH, blkQ, frz_us, Nat.reduceEqDiff, Nat.reduceLT, Nat.reduceAdd, ↓reduceIte, reduceCtorEq, Nat.reduceLeDiff, cS, nbqDecimal, us_length, hl])
          refine W_cond rfl (fun _ => ?_) (fun h => by cases h)
          repeat (first | (refine W_seq ?_) | (refine W_reg ?_) | (refine W_regd ?_) | (refine W_block ?_) | (refine And.intro (by omega) ?_) | simp (maxSteps := 1000000) (disch := omega) only [cA, cB, lk, lkH, Dst.onT, Dst.onX, Dst.slot, setF, setH, mapF, mapH, initF, binE, unE, cnt, boundE, newsE, freshE, opE, rmH, blkQ, frz_us, Nat.reduceEqDiff, Nat.reduceLT, Nat.reduceAdd, ↓reduceIte, reduceCtorEq, Nat.reduceLeDiff, cS, e, List.length_singleton])
          exact W_ret (RetP_1 (.imm rfl))
        · rw [decide_eq_false h] at hl ⊢
          repeat (first | (refine W_seq ?_) | (refine W_reg ?_) | (refine W_regd ?_) | (refine W_block ?_) | (refine And.intro (by omega) ?_) | simp (maxSteps := 1000000) (disch := omega) only [cA, cB, lk, lkH, Dst.onT, Dst.onX, Dst.slot, setF, setH, mapF, mapH, initF, binE, unE, cnt, boundE, newsE, freshE, opE, rmH, blkQ, frz_us, Nat.reduceEqDiff, Nat.reduceLT, Nat.reduceAdd, ↓reduceIte, reduceCtorEq, Nat.reduceLeDiff, cS, nbqDecimal, us_length, hl])
          refine W_cond rfl (fun h => by cases h) (fun _ => W_skip ?_)
          repeat (first | (refine W_seq ?_) | (refine W_reg ?_) | (refine W_regd ?_) | (refine W_block ?_) | (refine And.intro (by omega) ?_) | simp (maxSteps := 1000000) (disch := omega) only [cA, cB, lk, lkH, Dst.onT, Dst.onX, Dst.slot, setF, setH, mapF, mapH, initF, binE, unE, cnt, boundE, newsE, freshE, opE, rmH, blkQ, frz_us, Nat.reduceEqDiff, Nat.reduceLT, Nat.reduceAdd, ↓reduceIte, reduceCtorEq, Nat.reduceLeDiff, cS])
          exact W_ret (RetP_1 (.imm rfl))
end Go.Proofs.YteiagmmfapbaiaaGreatDoor
namespace Go.Proofs.YteiagmmfapbaiaaGreatDoor
open Go Go.Dat Go.Proofs Nat32 Go.RowKit
open Go.Lib (decDigits repeatL)
theorem cmp_gt (x y : Nat) : decide ((0 : Int) < cmpN x y) = decide (y < x) := by
  rw [decide_eq_decide]; unfold cmpN; (repeat' split) <;> omega
theorem cmp_e0 (x y : Nat) : decide (cmpN x y = 0) = decide (x = y) := by
  rw [decide_eq_decide]; unfold cmpN; (repeat' split) <;> omega
theorem rnd_up {a d : Nat} (h : d < 2 * (a % d) ∨ (2 * (a % d) = d ∧ a / d % 2 = 1)) : rnd a d = a / d + 1 := by unfold rnd; rw [if_pos h]
theorem rnd_dn {a d : Nat} (h : ¬ (d < 2 * (a % d) ∨ (2 * (a % d) = d ∧ a / d % 2 = 1))) : rnd a d = a / d := by unfold rnd; rw [if_neg h]
set_option maxHeartbeats 1000000 in
theorem qDecimal_calls (neg : Bool) (a d : List Nat) (k : Int) (ha : a.length ≤ 700) (hd : d.length ≤ 700) (la : lim a) (ld : lim d) : PCalls Tryz.prog 22 [XQ neg a d, .int .i64 k] (.str (decR (rv neg a d) k)) := by
  have v1 := q_value_calls neg a d (by omega) (by omega) la ld
  have k1 : RB (rv neg a d) 700 := RB_rv la ld ha hd (by decide)
  generalize rv neg a d = r at *
  refine PCalls_of isqDecimal (by simp [fnqDecimal]) ?_
  unfold codeqDecimal decR
  by_cases h0 : k < 0
  · rw [if_pos (.inl h0)]
    have d0 : decide (k < 0) = true := decide_eq_true h0
    repeat (first | (refine W_seq ?_) | (refine W_reg ?_) | (refine W_regd ?_) | (refine W_block ?_) | (refine And.intro (by omega) ?_) | simp (maxSteps := 1000000) (disch := omega) only [cA, cB, lk, lkH, Dst.onT, Dst.onX, Dst.slot, setF, setH, mapF, mapH, initF, binE, unE, cnt, boundE, newsE, freshE, opE, rmH, blkQ, frz_us, Nat.reduceEqDiff, Nat.reduceLT, Nat.reduceAdd, ↓reduceIte, reduceCtorEq, Nat.reduceLeDiff, XQ, cS, nbqDecimal, d0])
    refine W_cond rfl (fun _ => ?_) (fun h => by cases h)
    repeat (first | (refine W_seq ?_) | (refine W_reg ?_) | (refine W_regd ?_) | (refine W_block ?_) | (refine And.intro (by omega) ?_) | simp (maxSteps := 1000000) (disch := omega) only [cA, cB, lk, lkH, Dst.onT, Dst.onX, Dst.slot, setF, setH, mapF, mapH, initF, binE, unE, cnt, boundE, newsE, freshE, opE, rmH, blkQ, frz_us, Nat.reduceEqDiff, Nat.reduceLT, Nat.reduceAdd, ↓reduceIte, reduceCtorEq, Nat.reduceLeDiff])
    exact W_ret (RetP_1 (.imm rfl))
  · have d0 : decide (k < 0) = false := decide_eq_false h0
    by_cases h1 : 100 < k
    · rw [if_pos (.inr h1)]
      have d1 : decide (100 < k) = true := decide_eq_true h1
      repeat (first | (refine W_seq ?_) | (refine W_reg ?_) | (refine W_regd ?_) | (refine W_block ?_) | (refine And.intro (by omega) ?_) | simp (maxSteps := 1000000) (disch := omega) only [cA, cB, lk, lkH, Dst.onT, Dst.onX, Dst.slot, setF, setH, mapF, mapH, initF, binE, unE, cnt, boundE, newsE, freshE, opE, rmH, blkQ, frz_us, Nat.reduceEqDiff, Nat.reduceLT, Nat.reduceAdd, ↓reduceIte, reduceCtorEq, Nat.reduceLeDiff, XQ, cS, nbqDecimal, d0, d1])
      refine W_cond rfl (fun _ => ?_) (fun h => by cases h)
      repeat (first | (refine W_seq ?_) | (refine W_reg ?_) | (refine W_regd ?_) | (refine W_block ?_) | (refine And.intro (by omega) ?_) | simp (maxSteps := 1000000) (disch := omega) only [cA, cB, lk, lkH, Dst.onT, Dst.onX, Dst.slot, setF, setH, mapF, mapH, initF, binE, unE, cnt, boundE, newsE, freshE, opE, rmH, blkQ, frz_us, Nat.reduceEqDiff, Nat.reduceLT, Nat.reduceAdd, ↓reduceIte, reduceCtorEq, Nat.reduceLeDiff])
      exact W_ret (RetP_1 (.imm rfl))
    · rw [if_neg (by omega)]
      have d1 : decide (100 < k) = false := decide_eq_false h1
      obtain ⟨n, rfl⟩ : ∃ n : Nat, k = n := ⟨k.toNat, by omega⟩
      rw [Int.toNat_natCast]
      have hn : n ≤ 100 := by omega
      have ct := q_ten_calls n (by omega)
      have tl := ten_len n
      have cm := nMulL r.num.natAbs (10 ^ n) (Nat.le_trans k1.1 (by decide)) (by omega)
      have ml := len_mul k1.1 tl
      have cd := q_den_calls r
      have hdl := k1.2
      have hd0 := r.den_pos
      have ht := tailDec_W (decide (r.num < 0)) (limbs r.num.natAbs) (dn r.den) (rnd (r.num.natAbs * 10 ^ n) r.den) n (Nat.le_trans (rnd_len (m := 801) (by omega)) (by decide)) hn
      have hres : decS r n = (if decide (r.num < 0) && decide (0 < rnd (r.num.natAbs * 10 ^ n) r.den) then 45 :: pointed n (padz (n + 1) (decDigits (rnd (r.num.natAbs * 10 ^ n) r.den))) else pointed n (padz (n + 1) (decDigits (rnd (r.num.natAbs * 10 ^ n) r.den)))) := by
        unfold decS
        rw [← Bool.decide_and]
        simp only [decide_eq_true_eq]
      rw [← hres] at ht
      clear hres
      generalize decS r n = RES at *
      unfold tailDec codeqDecimal at ht
      dsimp only at ht
      generalize r.num.natAbs * 10 ^ n = A at *
      generalize hDen : r.den = D at *
      have lq := Nat.le_trans (len_mono (Nat.div_le_self A D)) ml
      have lr := Nat.le_trans (len_mono (Nat.mod_le A D)) ml
      have ci := nDivL A D (by omega) (by omega)
      rw [dmod_pos hd0] at ci
      have la2 := ladd lr lr
      have ca := nAddL (A % D) (A % D) (by omega) (by omega)
      have cc := nCmpL (A % D + A % D) D (by omega) (by omega)
      have e1 := cmp_gt (A % D + A % D) D
      have e2 := cmp_e0 (A % D + A % D) D
      have cu := nAddL (A / D) 1 (by omega) (limbs1_le (by decide))
      generalize hR : A % D = R at *
      generalize hQ : A / D = q at *
      have hup := @rnd_up A D
      have hdn := @rnd_dn A D
      rw [hR, hQ] at hup hdn
      generalize rnd A D = RN at *
      generalize cmpN (R + R) D = C at *
      have hone := q_one_calls
      have hlg := len_gt q
      have e0 : (Int.toNat 0) = 0 := rfl
      have hDq : 10 ^ n = 10 ^ n := rfl
      generalize 10 ^ n = TN at *
      clear hR hQ ml la2 hdl hd0 k1 tl
      by_cases hA : D < R + R
      · rw [decide_eq_true hA] at e1
        rw [hup (.inl (by omega))] at ht
        clear hup hdn
        repeat (first | (refine W_seq ?_) | (refine W_reg ?_) | (refine W_regd ?_) | (refine W_block ?_) | (refine And.intro (by omega) ?_) | simp (maxSteps := 1000000) (disch := omega) only [cA, cB, lk, lkH, Dst.onT, Dst.onX, Dst.slot, setF, setH, mapF, mapH, initF, binE, unE, cnt, boundE, newsE, freshE, opE, rmH, blkQ, frz_us, Nat.reduceEqDiff, Nat.reduceLT, Nat.reduceAdd, ↓reduceIte, reduceCtorEq, Nat.reduceLeDiff, XQ, cS, cT, nbqDecimal, d0, d1] | (refine callC_pure (v1) rfl ?_) | exact W_ret (RetP_1 (.imm rfl)) | exact W_ret (RetP_c rfl rfl rfl (.imm rfl)))
        refine W_cond rfl (fun h => by cases h) (fun _ => W_skip ?_)
        repeat (first | (refine W_seq ?_) | (refine W_reg ?_) | (refine W_regd ?_) | (refine W_block ?_) | (refine And.intro (by omega) ?_) | simp (maxSteps := 1000000) (disch := omega) only [cA, cB, lk, lkH, Dst.onT, Dst.onX, Dst.slot, setF, setH, mapF, mapH, initF, binE, unE, cnt, boundE, newsE, freshE, opE, rmH, blkQ, frz_us, Nat.reduceEqDiff, Nat.reduceLT, Nat.reduceAdd, ↓reduceIte, reduceCtorEq, Nat.reduceLeDiff, XQ, Q, cS, cT, nbqDecimal, e1] | (refine callC_pure (v1) rfl ?_) | (refine callC_pure (ct) rfl ?_) | (refine callC_pure (cm) rfl ?_) | (refine callC_pure (cd) rfl ?_) | (refine callC_pure (ci) rfl ?_) | (refine callC_pure (ca) rfl ?_) | (refine callC_pure (cc) rfl ?_) | exact W_ret (RetP_1 (.imm rfl)) | exact W_ret (RetP_c rfl rfl rfl (.imm rfl)))
        refine W_cond rfl (fun _ => ?_) (fun h => by cases h)
        refine W_reg ?_
        simp (maxSteps := 1000000) (disch := omega) only [cA, cB, lk, lkH, Dst.onT, Dst.onX, Dst.slot, setF, setH, mapF, mapH, initF, binE, unE, cnt, boundE, newsE, freshE, opE, rmH, blkQ, frz_us, Nat.reduceEqDiff, Nat.reduceLT, Nat.reduceAdd, ↓reduceIte, reduceCtorEq, Nat.reduceLeDiff]
        refine callC_pure hone rfl ?_
        simp (maxSteps := 1000000) (disch := omega) only [cA, cB, lk, lkH, Dst.onT, Dst.onX, Dst.slot, setF, setH, mapF, mapH, initF, binE, unE, cnt, boundE, newsE, freshE, opE, rmH, blkQ, frz_us, Nat.reduceEqDiff, Nat.reduceLT, Nat.reduceAdd, ↓reduceIte, reduceCtorEq, Nat.reduceLeDiff]
        refine callC_pure cu rfl ?_
        simp (maxSteps := 1000000) (disch := omega) only [cA, cB, lk, lkH, Dst.onT, Dst.onX, Dst.slot, setF, setH, mapF, mapH, initF, binE, unE, cnt, boundE, newsE, freshE, opE, rmH, blkQ, frz_us, Nat.reduceEqDiff, Nat.reduceLT, Nat.reduceAdd, ↓reduceIte, reduceCtorEq, Nat.reduceLeDiff]
        rw [hDen]; refine W_sub ?_ ht
        simp [subF, lk]
      · rw [decide_eq_false hA] at e1
        by_cases hE : R + R = D
        · rw [decide_eq_true hE] at e2
          by_cases hq : 0 < q
          · rw [decide_eq_true hq] at hlg
            have hlq : 0 < (limbs q).length := limbs_len0.2 hq
            have hg0 := getD_limbs0 q
            have tm2 : (((q % 4294967296 : Nat) : Int)).tmod 2 = ((q % 2 : Nat) : Int) := by
              have := tmod_nat (q % 4294967296) 2
              rw [Nat.mod_mod_of_dvd q (show 2 ∣ 4294967296 by decide)] at this
              exact this
            have hug := us_getD hlq
            rw [hg0] at hug
            by_cases ho : q % 2 = 1
            · rw [hup (.inr ⟨by omega, ho⟩)] at ht
              have d2 : decide (((q % 2 : Nat) : Int) = 1) = true := decide_eq_true (by omega)
              clear hup hdn hg0
              repeat (first | (refine W_seq ?_) | (refine W_reg ?_) | (refine W_regd ?_) | (refine W_block ?_) | (refine And.intro (by omega) ?_) | simp (maxSteps := 1000000) (disch := omega) only [cA, cB, lk, lkH, Dst.onT, Dst.onX, Dst.slot, setF, setH, mapF, mapH, initF, binE, unE, cnt, boundE, newsE, freshE, opE, rmH, blkQ, frz_us, Nat.reduceEqDiff, Nat.reduceLT, Nat.reduceAdd, ↓reduceIte, reduceCtorEq, Nat.reduceLeDiff, XQ, cS, cT, nbqDecimal, d0, d1] | (refine callC_pure (v1) rfl ?_) | exact W_ret (RetP_1 (.imm rfl)) | exact W_ret (RetP_c rfl rfl rfl (.imm rfl)))
              refine W_cond rfl (fun h => by cases h) (fun _ => W_skip ?_)
              repeat (first | (refine W_seq ?_) | (refine W_reg ?_) | (refine W_regd ?_) | (refine W_block ?_) | (refine And.intro (by omega) ?_) | simp (maxSteps := 1000000) (disch := omega) only [cA, cB, lk, lkH, Dst.onT, Dst.onX, Dst.slot, setF, setH, mapF, mapH, initF, binE, unE, cnt, boundE, newsE, freshE, opE, rmH, blkQ, frz_us, Nat.reduceEqDiff, Nat.reduceLT, Nat.reduceAdd, ↓reduceIte, reduceCtorEq, Nat.reduceLeDiff, XQ, Q, cS, cT, nbqDecimal, e1, e2, hlg, us_length, e0, hug, tm2, d2] | (refine callC_pure (v1) rfl ?_) | (refine callC_pure (ct) rfl ?_) | (refine callC_pure (cm) rfl ?_) | (refine callC_pure (cd) rfl ?_) | (refine callC_pure (ci) rfl ?_) | (refine callC_pure (ca) rfl ?_) | (refine callC_pure (cc) rfl ?_) | exact W_ret (RetP_1 (.imm rfl)) | exact W_ret (RetP_c rfl rfl rfl (.imm rfl)))
              refine W_cond rfl (fun _ => ?_) (fun h => by cases h)
              refine W_reg ?_
              simp (maxSteps := 1000000) (disch := omega) only [cA, cB, lk, lkH, Dst.onT, Dst.onX, Dst.slot, setF, setH, mapF, mapH, initF, binE, unE, cnt, boundE, newsE, freshE, opE, rmH, blkQ, frz_us, Nat.reduceEqDiff, Nat.reduceLT, Nat.reduceAdd, ↓reduceIte, reduceCtorEq, Nat.reduceLeDiff]
              refine callC_pure hone rfl ?_
              simp (maxSteps := 1000000) (disch := omega) only [cA, cB, lk, lkH, Dst.onT, Dst.onX, Dst.slot, setF, setH, mapF, mapH, initF, binE, unE, cnt, boundE, newsE, freshE, opE, rmH, blkQ, frz_us, Nat.reduceEqDiff, Nat.reduceLT, Nat.reduceAdd, ↓reduceIte, reduceCtorEq, Nat.reduceLeDiff]
              refine callC_pure cu rfl ?_
              simp (maxSteps := 1000000) (disch := omega) only [cA, cB, lk, lkH, Dst.onT, Dst.onX, Dst.slot, setF, setH, mapF, mapH, initF, binE, unE, cnt, boundE, newsE, freshE, opE, rmH, blkQ, frz_us, Nat.reduceEqDiff, Nat.reduceLT, Nat.reduceAdd, ↓reduceIte, reduceCtorEq, Nat.reduceLeDiff]
              rw [hDen]; refine W_sub ?_ ht
              simp [subF, lk]
            · rw [hdn (fun h => by omega)] at ht
              have d2 : decide (((q % 2 : Nat) : Int) = 1) = false := decide_eq_false (by omega)
              clear hup hdn hg0
              repeat (first | (refine W_seq ?_) | (refine W_reg ?_) | (refine W_regd ?_) | (refine W_block ?_) | (refine And.intro (by omega) ?_) | simp (maxSteps := 1000000) (disch := omega) only [cA, cB, lk, lkH, Dst.onT, Dst.onX, Dst.slot, setF, setH, mapF, mapH, initF, binE, unE, cnt, boundE, newsE, freshE, opE, rmH, blkQ, frz_us, Nat.reduceEqDiff, Nat.reduceLT, Nat.reduceAdd, ↓reduceIte, reduceCtorEq, Nat.reduceLeDiff, XQ, cS, cT, nbqDecimal, d0, d1] | (refine callC_pure (v1) rfl ?_) | exact W_ret (RetP_1 (.imm rfl)) | exact W_ret (RetP_c rfl rfl rfl (.imm rfl)))
              refine W_cond rfl (fun h => by cases h) (fun _ => W_skip ?_)
              repeat (first | (refine W_seq ?_) | (refine W_reg ?_) | (refine W_regd ?_) | (refine W_block ?_) | (refine And.intro (by omega) ?_) | simp (maxSteps := 1000000) (disch := omega) only [cA, cB, lk, lkH, Dst.onT, Dst.onX, Dst.slot, setF, setH, mapF, mapH, initF, binE, unE, cnt, boundE, newsE, freshE, opE, rmH, blkQ, frz_us, Nat.reduceEqDiff, Nat.reduceLT, Nat.reduceAdd, ↓reduceIte, reduceCtorEq, Nat.reduceLeDiff, XQ, Q, cS, cT, nbqDecimal, e1, e2, hlg, us_length, e0, hug, tm2, d2] | (refine callC_pure (v1) rfl ?_) | (refine callC_pure (ct) rfl ?_) | (refine callC_pure (cm) rfl ?_) | (refine callC_pure (cd) rfl ?_) | (refine callC_pure (ci) rfl ?_) | (refine callC_pure (ca) rfl ?_) | (refine callC_pure (cc) rfl ?_) | exact W_ret (RetP_1 (.imm rfl)) | exact W_ret (RetP_c rfl rfl rfl (.imm rfl)))
              refine W_cond rfl (fun h => by cases h) (fun _ => W_skip ?_)
              rw [hDen]; refine W_sub ?_ ht
              simp [subF, lk]
          · rw [decide_eq_false hq] at hlg
            rw [hdn (fun h => by have h0 : q = 0 := by omega
                                 rw [h0] at h; omega)] at ht
            clear hup hdn
            repeat (first | (refine W_seq ?_) | (refine W_reg ?_) | (refine W_regd ?_) | (refine W_block ?_) | (refine And.intro (by omega) ?_) | simp (maxSteps := 1000000) (disch := omega) only [cA, cB, lk, lkH, Dst.onT, Dst.onX, Dst.slot, setF, setH, mapF, mapH, initF, binE, unE, cnt, boundE, newsE, freshE, opE, rmH, blkQ, frz_us, Nat.reduceEqDiff, Nat.reduceLT, Nat.reduceAdd, ↓reduceIte, reduceCtorEq, Nat.reduceLeDiff, XQ, cS, cT, nbqDecimal, d0, d1] | (refine callC_pure (v1) rfl ?_) | exact W_ret (RetP_1 (.imm rfl)) | exact W_ret (RetP_c rfl rfl rfl (.imm rfl)))
            refine W_cond rfl (fun h => by cases h) (fun _ => W_skip ?_)
            repeat (first | (refine W_seq ?_) | (refine W_reg ?_) | (refine W_regd ?_) | (refine W_block ?_) | (refine And.intro (by omega) ?_) | simp (maxSteps := 1000000) (disch := omega) only [cA, cB, lk, lkH, Dst.onT, Dst.onX, Dst.slot, setF, setH, mapF, mapH, initF, binE, unE, cnt, boundE, newsE, freshE, opE, rmH, blkQ, frz_us, Nat.reduceEqDiff, Nat.reduceLT, Nat.reduceAdd, ↓reduceIte, reduceCtorEq, Nat.reduceLeDiff, XQ, Q, cS, cT, nbqDecimal, e1, e2, hlg, us_length] | (refine callC_pure (v1) rfl ?_) | (refine callC_pure (ct) rfl ?_) | (refine callC_pure (cm) rfl ?_) | (refine callC_pure (cd) rfl ?_) | (refine callC_pure (ci) rfl ?_) | (refine callC_pure (ca) rfl ?_) | (refine callC_pure (cc) rfl ?_) | exact W_ret (RetP_1 (.imm rfl)) | exact W_ret (RetP_c rfl rfl rfl (.imm rfl)))
            refine W_cond rfl (fun h => by cases h) (fun _ => W_skip ?_)
            rw [hDen]; refine W_sub ?_ ht
            simp [subF, lk]
        · rw [decide_eq_false hE] at e2
          rw [hdn (fun h => by omega)] at ht
          clear hup hdn
          repeat (first | (refine W_seq ?_) | (refine W_reg ?_) | (refine W_regd ?_) | (refine W_block ?_) | (refine And.intro (by omega) ?_) | simp (maxSteps := 1000000) (disch := omega) only [cA, cB, lk, lkH, Dst.onT, Dst.onX, Dst.slot, setF, setH, mapF, mapH, initF, binE, unE, cnt, boundE, newsE, freshE, opE, rmH, blkQ, frz_us, Nat.reduceEqDiff, Nat.reduceLT, Nat.reduceAdd, ↓reduceIte, reduceCtorEq, Nat.reduceLeDiff, XQ, cS, cT, nbqDecimal, d0, d1] | (refine callC_pure (v1) rfl ?_) | exact W_ret (RetP_1 (.imm rfl)) | exact W_ret (RetP_c rfl rfl rfl (.imm rfl)))
          refine W_cond rfl (fun h => by cases h) (fun _ => W_skip ?_)
          repeat (first | (refine W_seq ?_) | (refine W_reg ?_) | (refine W_regd ?_) | (refine W_block ?_) | (refine And.intro (by omega) ?_) | simp (maxSteps := 1000000) (disch := omega) only [cA, cB, lk, lkH, Dst.onT, Dst.onX, Dst.slot, setF, setH, mapF, mapH, initF, binE, unE, cnt, boundE, newsE, freshE, opE, rmH, blkQ, frz_us, Nat.reduceEqDiff, Nat.reduceLT, Nat.reduceAdd, ↓reduceIte, reduceCtorEq, Nat.reduceLeDiff, XQ, Q, cS, cT, nbqDecimal, e1, e2] | (refine callC_pure (v1) rfl ?_) | (refine callC_pure (ct) rfl ?_) | (refine callC_pure (cm) rfl ?_) | (refine callC_pure (cd) rfl ?_) | (refine callC_pure (ci) rfl ?_) | (refine callC_pure (ca) rfl ?_) | (refine callC_pure (cc) rfl ?_) | exact W_ret (RetP_1 (.imm rfl)) | exact W_ret (RetP_c rfl rfl rfl (.imm rfl)))
          refine W_cond rfl (fun h => by cases h) (fun _ => W_skip ?_)
          rw [hDen]; refine W_sub ?_ ht
          simp [subF, lk]
theorem qDecimalL (r : Rat) (k : Int) (h : RB r 700) : PCalls Tryz.prog 22 [Q r, .int .i64 k] (.str (decR r k)) := by
  have := qDecimal_calls (decide (r.num < 0)) (limbs r.num.natAbs) (dn r.den) k h.1 (RB_dn h) (lim_limbs _) (lim_dn _)
  rwa [rv_Q] at this
theorem us1' (n : Nat) (h0 : n ≠ 0) (h : n < 4294967296) : [DV.int .u32 (n : Int)] = us (limbs n) := by rw [limbs_one h0 h]; rfl
theorem lq_awake_calls : PCalls Tryz.prog 13 [] (.bool true) := by
  have i6 : iv false (limbs 6) = 6 := by rw [iv_nat]; rfl
  have i4 : iv true (limbs 4) = -4 := by unfold iv; rw [vn_limbs]; rfl
  have ll : ∀ n, n < 10 → (limbs n).length ≤ 1 := fun n h => limbs_len.2 (by omega)
  have cm := qMake_calls false (limbs 6) true (limbs 4) (Nat.le_trans (ll 6 (by decide)) (by decide)) (Nat.le_trans (ll 4 (by decide)) (by decide)) (lim_limbs _) (lim_limbs _)
  rw [i6, i4] at cm
  unfold mkR at cm
  rw [if_neg (by decide)] at cm
  have r1 : Rat.divInt 6 (-4) = mkRat (-3) 2 := by decide +kernel
  have r2 : parseQ [49, 46, 50, 53, 48, 101, 45, 49] = some (mkRat 1 8) := by decide +kernel
  rw [r1] at cm
  have b1 : RB (mkRat (-3) 2) 1 := RB_mk (by decide) (ll 3 (by decide)) (ll 2 (by decide))
  have b2 : RB (mkRat 1 8) 1 := RB_mk (by decide) (ll 1 (by decide)) (ll 8 (by decide))
  have cp := qParse_calls [49, 46, 50, 53, 48, 101, 45, 49] (by decide) (.inl (by decide))
  rw [r2] at cp
  unfold resQ at cp
  dsimp only at cp
  have f1 := qFormatL (mkRat (-3) 2) (b1.mono (by decide))
  have f2 := qFormatL (mkRat 1 8) (b2.mono (by decide))
  have f3 := qDecimalL (mkRat 1 8) 2 (b2.mono (by decide))
  have t1 : fmtQ (mkRat (-3) 2) = [45, 51, 47, 50] := by decide +kernel
  have t2 : fmtQ (mkRat 1 8) = [49, 47, 56] := by decide +kernel
  have t3 : decR (mkRat 1 8) 2 = [48, 46, 49, 50] := by decide +kernel
  rw [t1] at f1
  rw [t2] at f2
  rw [t3] at f3
  clear i6 i4 ll r1 r2 b1 b2 t1 t2 t3
  have u6 : [DV.int .u32 6] = us (limbs 6) := us1' 6 (by decide) (by decide)
  have u4 : [DV.int .u32 4] = us (limbs 4) := us1' 4 (by decide) (by decide)
  refine PCalls_of islq_awake (by simp [fnlq_awake]) ?_
  unfold codelq_awake
  generalize mkRat (-3) 2 = R1 at *
  generalize mkRat 1 8 = R2 at *
  repeat (first | (refine W_seq ?_) | (refine W_reg ?_) | (refine W_regd ?_) | (refine W_block ?_) | (refine And.intro (by omega) ?_) | simp (maxSteps := 1000000) (disch := omega) only [cA, cB, lk, lkH, Dst.onT, Dst.onX, Dst.slot, setF, setH, mapF, mapH, initF, binE, unE, cnt, boundE, newsE, freshE, opE, rmH, blkQ, frz_us, Nat.reduceEqDiff, Nat.reduceLT, Nat.reduceAdd, ↓reduceIte, reduceCtorEq, Nat.reduceLeDiff, X, Q, cS, cT, nblq_awake, us_rfd, u6, u4, decide_true] | (refine callC_pure (cm) rfl ?_) | (refine callC_pure (cp) rfl ?_) | (refine callC_pure (f1) rfl ?_) | (refine callC_pure (f2) rfl ?_) | (refine callC_pure (f3) rfl ?_) | exact W_ret (RetP_1 (.imm rfl)) | exact W_ret (RetP_c rfl rfl rfl (.imm rfl)))
end Go.Proofs.YteiagmmfapbaiaaGreatDoor
