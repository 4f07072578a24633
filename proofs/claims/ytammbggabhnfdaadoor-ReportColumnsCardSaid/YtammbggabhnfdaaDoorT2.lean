/- Lemmas of the walk; no conditions beyond those that each states. -/
import Derived.OpenShut
import Derived.Below
import Derived.HandedShaped
import Derived.Handed
import Derived.Test.YtammbggabhnfdaaDoorT1
import Derived.Test.YtammbggabhnfdaaDoorN1
import Derived.Test.YtammbggabhnfdaaDoorD2
set_option linter.unusedSimpArgs false
set_option linter.unusedVariables false
set_option linter.unnecessarySimpa false
namespace Go.Proofs.YtammbggabhnfdaaDoor
open Go Go.Dat Go.Proofs Nat32 Go.RowKit
theorem bytesOf_1 (c : UInt8) : bytesOf [.int .u8 ((c.toNat : Nat) : Int)] = some [c] := bytesOf_bys [c]
set_option maxHeartbeats 2000000 in
theorem reWords_calls (t : Bs) (hs : t.length ≤ 1000000) : PCalls Tryd.prog 25 [.str t] (.sl 1 (recD (wordsL t))) := by
  refine PCalls_of isreWords (by simp [fnreWords]) ?_
  unfold codereWords
  repeat (first | (refine W_seq ?_) | (refine W_reg ?_) | (refine W_regd ?_) | (refine W_block ?_) | (refine And.intro (by omega) ?_) | simp (maxSteps := 1000000) (disch := omega) only [cA, cB, lk, lkH, Dst.onT, Dst.onX, Dst.slot, setF, setH, mapF, mapH, initF, binE, unE, cnt, boundE, newsE, freshE, opE, rmH, blkQ, frz_us, Nat.reduceEqDiff, Nat.reduceLT, Nat.reduceAdd, ↓reduceIte, reduceCtorEq, Nat.reduceLeDiff])
  refine W_own 3 1 39 rfl (by simp [lkH]) ?_
  simp (maxSteps := 1000000) (disch := omega) only [cA, cB, lk, lkH, Dst.onT, Dst.onX, Dst.slot, setF, setH, mapF, mapH, initF, binE, unE, cnt, boundE, newsE, freshE, opE, rmH, blkQ, frz_us, Nat.reduceEqDiff, Nat.reduceLT, Nat.reduceAdd, ↓reduceIte, reduceCtorEq, Nat.reduceLeDiff]
  refine W_own 4 1 33 rfl (by simp [lkH]) ?_
  simp (maxSteps := 1000000) (disch := omega) only [cA, cB, lk, lkH, Dst.onT, Dst.onX, Dst.slot, setF, setH, mapF, mapH, initF, binE, unE, cnt, boundE, newsE, freshE, opE, rmH, blkQ, frz_us, Nat.reduceEqDiff, Nat.reduceLT, Nat.reduceAdd, ↓reduceIte, reduceCtorEq, Nat.reduceLeDiff]
  refine W_loop (σ := Nat × WS) (fun s => [(0, .str t), (3, .osl 1 39 0 s.2.1.length), (4, .osl 1 33 0 s.2.2.1.length), (5, .str s.2.2.2), (6, .int .i64 s.1)]) (fun s => [(33, strL s.2.2.1), (39, recD s.2.1)]) (fun s => s.1 ≤ t.length ∧ s.2 = wst t s.1) (fun s => t.length - s.1) (0, ([], [], [])) (And.intro (Nat.zero_le _) rfl) ?_ rfl ?_
  · simp [subF, lk]
  · rintro ⟨i, out, row, w⟩ ⟨hi, hst⟩
    try simp only at hi hst ⊢
    obtain ⟨b1, ⟨b2, _⟩, _, _⟩ := wst_bd t i hi
    rw [← hst] at b1 b2
    try simp only at b1 b2
    have hrl := recD_len out
    have hsl := strL_len row
    by_cases hlt : i < t.length
    · have dl : decide ((i : Int) < t.length) = true := decide_eq_true (by omega)
      have ei : (i : Int).toNat = i := Int.toNat_natCast i
      have e1 : ((i : Int) + 1) = ((i + 1 : Nat) : Int) := by omega
      have hsu := wst_succ hlt
      rw [← hst] at hsu
      obtain ⟨c, hc⟩ : ∃ c, t.getD i 0 = c := ⟨_, rfl⟩
      rw [hc] at hsu
      have eb : byteD c = .int .u8 (c.toNat : Nat) := rfl
      have hb1 := bytesOf_1 c
      have c32 : (c = 32) ↔ c.toNat = 32 := ⟨fun h => by rw [h]; rfl, fun h => UInt8.toNat_inj.1 h⟩
      have c10 : (c = 10) ↔ c.toNat = 10 := ⟨fun h => by rw [h]; rfl, fun h => UInt8.toNat_inj.1 h⟩
      replace hst := Dat.Hid.mk hst
      repeat (first | (refine W_seq ?_) | (refine W_reg ?_) | (refine W_regd ?_) | (refine W_block ?_) | (refine And.intro (by omega) ?_) | simp (maxSteps := 1000000) (disch := omega) only [cA, cB, lk, lkH, Dst.onT, Dst.onX, Dst.slot, setF, setH, mapF, mapH, initF, binE, unE, cnt, boundE, newsE, freshE, opE, rmH, blkQ, frz_us, Nat.reduceEqDiff, Nat.reduceLT, Nat.reduceAdd, ↓reduceIte, reduceCtorEq, Nat.reduceLeDiff, dl])
      refine W_cond rfl (fun _ => W_skip ?_) (fun h => by cases h)
      by_cases h1 : c ≠ 32 ∧ c ≠ 10
      · have d1 : decide (¬ ((c.toNat : Nat) : Int) = 32) = true := decide_eq_true (by have := h1.1; rw [ne_eq, c32] at this; omega)
        have d2 : decide (¬ ((c.toNat : Nat) : Int) = 10) = true := decide_eq_true (by have := h1.2; rw [ne_eq, c10] at this; omega)
        have hs2 : wst t (i + 1) = (out, row, w ++ [c]) := by rw [hsu]; simp [wstep, h1]
        repeat (first | (refine W_seq ?_) | (refine W_reg ?_) | (refine W_regd ?_) | (refine W_block ?_) | (refine And.intro (by omega) ?_) | simp (maxSteps := 1000000) (disch := omega) only [cA, cB, lk, lkH, Dst.onT, Dst.onX, Dst.slot, setF, setH, mapF, mapH, initF, binE, unE, cnt, boundE, newsE, freshE, opE, rmH, blkQ, frz_us, Nat.reduceEqDiff, Nat.reduceLT, Nat.reduceAdd, ↓reduceIte, reduceCtorEq, Nat.reduceLeDiff, ei, hc, eb, d1, d2])
        refine W_cond rfl (fun _ => ?_) (fun h => by cases h)
        repeat (first | (refine W_seq ?_) | (refine W_reg ?_) | (refine W_regd ?_) | (refine W_block ?_) | (refine And.intro (by omega) ?_) | simp (maxSteps := 1000000) (disch := omega) only [cA, cB, lk, lkH, Dst.onT, Dst.onX, Dst.slot, setF, setH, mapF, mapH, initF, binE, unE, cnt, boundE, newsE, freshE, opE, rmH, blkQ, frz_us, Nat.reduceEqDiff, Nat.reduceLT, Nat.reduceAdd, ↓reduceIte, reduceCtorEq, Nat.reduceLeDiff, cS, rfm_nil0, rfm_int, hb1])
        have hwl : w.length ≤ i := by have := (wst_bd t i hi).2.2.1; rw [← hst.out] at this; exact this
        refine And.intro (by omega) ?_
        refine W_exit ?_
        repeat (first | (refine W_seq ?_) | (refine W_reg ?_) | (refine W_regd ?_) | (refine W_block ?_) | (refine And.intro (by omega) ?_) | simp (maxSteps := 1000000) (disch := omega) only [cA, cB, lk, lkH, Dst.onT, Dst.onX, Dst.slot, setF, setH, mapF, mapH, initF, binE, unE, cnt, boundE, newsE, freshE, opE, rmH, blkQ, frz_us, Nat.reduceEqDiff, Nat.reduceLT, Nat.reduceAdd, ↓reduceIte, reduceCtorEq, Nat.reduceLeDiff, e1])
        exact ⟨(i + 1, (out, row, w ++ [c])), And.intro hlt hs2.symm, by simp only; omega, by simp [subF, lk], rfl⟩
      · have d12 : decide (¬ ((c.toNat : Nat) : Int) = 32) = true → decide (¬ ((c.toNat : Nat) : Int) = 10) = false := fun h => decide_eq_false (fun h2 => h1 ⟨fun h3 => of_decide_eq_true h (by have := c32.1 h3; omega), fun h3 => h2 (by have := c10.1 h3; omega)⟩)
        have hs2 : wst t (i + 1) = if c = 10 then (out ++ [addW row w], [], []) else (out, addW row w, []) := by rw [hsu]; simp only [wstep, if_neg h1]
        cases d1 : decide (¬ ((c.toNat : Nat) : Int) = 32)
        · repeat (first | (refine W_seq ?_) | (refine W_reg ?_) | (refine W_regd ?_) | (refine W_block ?_) | (refine And.intro (by omega) ?_) | simp (maxSteps := 1000000) (disch := omega) only [cA, cB, lk, lkH, Dst.onT, Dst.onX, Dst.slot, setF, setH, mapF, mapH, initF, binE, unE, cnt, boundE, newsE, freshE, opE, rmH, blkQ, frz_us, Nat.reduceEqDiff, Nat.reduceLT, Nat.reduceAdd, ↓reduceIte, reduceCtorEq, Nat.reduceLeDiff, ei, hc, eb, d1])
          refine W_cond rfl (fun h => by cases h) (fun _ => W_skip ?_)
          repeat (first | (refine W_seq ?_) | (refine W_reg ?_) | (refine W_regd ?_) | (refine W_block ?_) | (refine And.intro (by omega) ?_) | simp (maxSteps := 1000000) (disch := omega) only [cA, cB, lk, lkH, Dst.onT, Dst.onX, Dst.slot, setF, setH, mapF, mapH, initF, binE, unE, cnt, boundE, newsE, freshE, opE, rmH, blkQ, frz_us, Nat.reduceEqDiff, Nat.reduceLT, Nat.reduceAdd, ↓reduceIte, reduceCtorEq, Nat.reduceLeDiff])
          refine W_join (ι := Unit) (fun _ => True) (fun _ => [(0, .str t), (3, .osl 1 39 0 out.length), (4, .osl 1 33 0 (addW row w).length), (5, .str []), (6, .int .i64 i), (7, .int .u8 (c.toNat : Nat))]) (fun _ => [(33, strL (addW row w)), (39, recD out)]) ?_ ?_
          · by_cases hw : w = []
            · have dw : decide (¬ w = []) = false := decide_eq_false (fun h => h hw)
              refine W_cond (by rw [dw]; rfl) (fun h => by cases h) (fun _ => W_skip ?_)
              exact ⟨(), trivial, by simp [subF, lk, addW, hw], by simp [addW, hw]⟩
            · have dw : decide (¬ w = []) = true := decide_eq_true hw
              have ha : row ++ [w] = addW row w := by unfold addW; rw [if_neg hw]
              have el : row.length + 1 = (row ++ [w]).length := by simp
              refine W_cond (by rw [dw]; rfl) (fun _ => ?_) (fun h => by cases h)
              repeat (first | (refine W_seq ?_) | (refine W_reg ?_) | (refine W_regd ?_) | (refine W_block ?_) | (refine And.intro (by omega) ?_) | simp (maxSteps := 1000000) (disch := omega) only [cA, cB, lk, lkH, Dst.onT, Dst.onX, Dst.slot, setF, setH, mapF, mapH, initF, binE, unE, cnt, boundE, newsE, freshE, opE, rmH, blkQ, frz_us, Nat.reduceEqDiff, Nat.reduceLT, Nat.reduceAdd, ↓reduceIte, reduceCtorEq, Nat.reduceLeDiff, cS, rfm_nil, rfm_str, hsl])
              refine And.intro (And.intro (by omega) (And.intro (by omega) (fun d hd => by rw [List.mem_singleton.1 hd]; rfl))) ?_
              repeat (first | (refine W_seq ?_) | (refine W_reg ?_) | (refine W_regd ?_) | (refine W_block ?_) | (refine And.intro (by omega) ?_) | simp (maxSteps := 1000000) (disch := omega) only [cA, cB, lk, lkH, Dst.onT, Dst.onX, Dst.slot, setF, setH, mapF, mapH, initF, binE, unE, cnt, boundE, newsE, freshE, opE, rmH, blkQ, frz_us, Nat.reduceEqDiff, Nat.reduceLT, Nat.reduceAdd, ↓reduceIte, reduceCtorEq, Nat.reduceLeDiff, strL_app, purge_strL, purge_recD, el, ha])
              exact ⟨(), by simp [subF, lk, purge, DV.has]⟩
          · intro _ _
            have hal := addW_len row w
            have hsa := strL_len (addW row w)
            generalize addW row w = rw' at *
            by_cases hc10 : c = 10
            · rw [if_pos hc10] at hs2
              have d3 : decide (((c.toNat : Nat) : Int) = 10) = true := decide_eq_true (by have := c10.1 hc10; omega)
              have e4 : out.length + 1 = (out ++ [rw']).length := by simp
              repeat (first | (refine W_seq ?_) | (refine W_reg ?_) | (refine W_regd ?_) | (refine W_block ?_) | (refine And.intro (by omega) ?_) | simp (maxSteps := 1000000) (disch := omega) only [cA, cB, lk, lkH, Dst.onT, Dst.onX, Dst.slot, setF, setH, mapF, mapH, initF, binE, unE, cnt, boundE, newsE, freshE, opE, rmH, blkQ, frz_us, Nat.reduceEqDiff, Nat.reduceLT, Nat.reduceAdd, ↓reduceIte, reduceCtorEq, Nat.reduceLeDiff, d3])
              refine W_cond rfl (fun _ => ?_) (fun h => by cases h)
              refine W_freeze 33 (cells := strL rw') rfl (strL_rf rw') ?_
              have hfz := frz_strL rw' 33
              repeat (first | (refine W_seq ?_) | (refine W_reg ?_) | (refine W_regd ?_) | (refine W_block ?_) | (refine And.intro (by omega) ?_) | simp (maxSteps := 1000000) (disch := omega) only [cA, cB, lk, lkH, Dst.onT, Dst.onX, Dst.slot, setF, setH, mapF, mapH, initF, binE, unE, cnt, boundE, newsE, freshE, opE, rmH, blkQ, frz_us, Nat.reduceEqDiff, Nat.reduceLT, Nat.reduceAdd, ↓reduceIte, reduceCtorEq, Nat.reduceLeDiff, hfz, cS, rfm_nil, rfm_sl, hrl, frz_recD])
              refine And.intro (And.intro (by omega) (And.intro (by omega) (fun d hd => by rw [List.mem_singleton.1 hd]; rfl))) ?_
              refine W_reg ?_
              simp (maxSteps := 1000000) (disch := omega) only [cA, cB, lk, lkH, Dst.onT, Dst.onX, Dst.slot, setF, setH, mapF, mapH, initF, binE, unE, cnt, boundE, newsE, freshE, opE, rmH, blkQ, frz_us, Nat.reduceEqDiff, Nat.reduceLT, Nat.reduceAdd, ↓reduceIte, reduceCtorEq, Nat.reduceLeDiff, purge_recD, recD_app, e4]
              refine W_own 4 1 33 rfl (by simp [lkH]) ?_
              repeat (first | (refine W_seq ?_) | (refine W_reg ?_) | (refine W_regd ?_) | (refine W_block ?_) | (refine And.intro (by omega) ?_) | simp (maxSteps := 1000000) (disch := omega) only [cA, cB, lk, lkH, Dst.onT, Dst.onX, Dst.slot, setF, setH, mapF, mapH, initF, binE, unE, cnt, boundE, newsE, freshE, opE, rmH, blkQ, frz_us, Nat.reduceEqDiff, Nat.reduceLT, Nat.reduceAdd, ↓reduceIte, reduceCtorEq, Nat.reduceLeDiff, e1])
              exact ⟨(i + 1, (out ++ [rw'], [], [])), And.intro hlt hs2.symm, by simp only; omega, by simp [subF, lk, purge, DV.has], rfl⟩
            · rw [if_neg hc10] at hs2
              have d3 : decide (((c.toNat : Nat) : Int) = 10) = false := decide_eq_false (fun h => hc10 (c10.2 (by omega)))
              repeat (first | (refine W_seq ?_) | (refine W_reg ?_) | (refine W_regd ?_) | (refine W_block ?_) | (refine And.intro (by omega) ?_) | simp (maxSteps := 1000000) (disch := omega) only [cA, cB, lk, lkH, Dst.onT, Dst.onX, Dst.slot, setF, setH, mapF, mapH, initF, binE, unE, cnt, boundE, newsE, freshE, opE, rmH, blkQ, frz_us, Nat.reduceEqDiff, Nat.reduceLT, Nat.reduceAdd, ↓reduceIte, reduceCtorEq, Nat.reduceLeDiff, d3])
              refine W_cond rfl (fun h => by cases h) (fun _ => W_skip ?_)
              repeat (first | (refine W_seq ?_) | (refine W_reg ?_) | (refine W_regd ?_) | (refine W_block ?_) | (refine And.intro (by omega) ?_) | simp (maxSteps := 1000000) (disch := omega) only [cA, cB, lk, lkH, Dst.onT, Dst.onX, Dst.slot, setF, setH, mapF, mapH, initF, binE, unE, cnt, boundE, newsE, freshE, opE, rmH, blkQ, frz_us, Nat.reduceEqDiff, Nat.reduceLT, Nat.reduceAdd, ↓reduceIte, reduceCtorEq, Nat.reduceLeDiff, e1])
              exact ⟨(i + 1, (out, rw', [])), And.intro hlt hs2.symm, by simp only; omega, by simp [subF, lk], rfl⟩
        · have d2 := d12 d1
          repeat (first | (refine W_seq ?_) | (refine W_reg ?_) | (refine W_regd ?_) | (refine W_block ?_) | (refine And.intro (by omega) ?_) | simp (maxSteps := 1000000) (disch := omega) only [cA, cB, lk, lkH, Dst.onT, Dst.onX, Dst.slot, setF, setH, mapF, mapH, initF, binE, unE, cnt, boundE, newsE, freshE, opE, rmH, blkQ, frz_us, Nat.reduceEqDiff, Nat.reduceLT, Nat.reduceAdd, ↓reduceIte, reduceCtorEq, Nat.reduceLeDiff, ei, hc, eb, d1, d2])
          refine W_cond rfl (fun h => by cases h) (fun _ => W_skip ?_)
          repeat (first | (refine W_seq ?_) | (refine W_reg ?_) | (refine W_regd ?_) | (refine W_block ?_) | (refine And.intro (by omega) ?_) | simp (maxSteps := 1000000) (disch := omega) only [cA, cB, lk, lkH, Dst.onT, Dst.onX, Dst.slot, setF, setH, mapF, mapH, initF, binE, unE, cnt, boundE, newsE, freshE, opE, rmH, blkQ, frz_us, Nat.reduceEqDiff, Nat.reduceLT, Nat.reduceAdd, ↓reduceIte, reduceCtorEq, Nat.reduceLeDiff])
          refine W_join (ι := Unit) (fun _ => True) (fun _ => [(0, .str t), (3, .osl 1 39 0 out.length), (4, .osl 1 33 0 (addW row w).length), (5, .str []), (6, .int .i64 i), (7, .int .u8 (c.toNat : Nat))]) (fun _ => [(33, strL (addW row w)), (39, recD out)]) ?_ ?_
          · by_cases hw : w = []
            · have dw : decide (¬ w = []) = false := decide_eq_false (fun h => h hw)
              refine W_cond (by rw [dw]; rfl) (fun h => by cases h) (fun _ => W_skip ?_)
              exact ⟨(), trivial, by simp [subF, lk, addW, hw], by simp [addW, hw]⟩
            · have dw : decide (¬ w = []) = true := decide_eq_true hw
              have ha : row ++ [w] = addW row w := by unfold addW; rw [if_neg hw]
              have el : row.length + 1 = (row ++ [w]).length := by simp
              refine W_cond (by rw [dw]; rfl) (fun _ => ?_) (fun h => by cases h)
              repeat (first | (refine W_seq ?_) | (refine W_reg ?_) | (refine W_regd ?_) | (refine W_block ?_) | (refine And.intro (by omega) ?_) | simp (maxSteps := 1000000) (disch := omega) only [cA, cB, lk, lkH, Dst.onT, Dst.onX, Dst.slot, setF, setH, mapF, mapH, initF, binE, unE, cnt, boundE, newsE, freshE, opE, rmH, blkQ, frz_us, Nat.reduceEqDiff, Nat.reduceLT, Nat.reduceAdd, ↓reduceIte, reduceCtorEq, Nat.reduceLeDiff, cS, rfm_nil, rfm_str, hsl])
              refine And.intro (And.intro (by omega) (And.intro (by omega) (fun d hd => by rw [List.mem_singleton.1 hd]; rfl))) ?_
              repeat (first | (refine W_seq ?_) | (refine W_reg ?_) | (refine W_regd ?_) | (refine W_block ?_) | (refine And.intro (by omega) ?_) | simp (maxSteps := 1000000) (disch := omega) only [cA, cB, lk, lkH, Dst.onT, Dst.onX, Dst.slot, setF, setH, mapF, mapH, initF, binE, unE, cnt, boundE, newsE, freshE, opE, rmH, blkQ, frz_us, Nat.reduceEqDiff, Nat.reduceLT, Nat.reduceAdd, ↓reduceIte, reduceCtorEq, Nat.reduceLeDiff, strL_app, purge_strL, purge_recD, el, ha])
              exact ⟨(), by simp [subF, lk, purge, DV.has]⟩
          · intro _ _
            have hal := addW_len row w
            have hsa := strL_len (addW row w)
            generalize addW row w = rw' at *
            by_cases hc10 : c = 10
            · rw [if_pos hc10] at hs2
              have d3 : decide (((c.toNat : Nat) : Int) = 10) = true := decide_eq_true (by have := c10.1 hc10; omega)
              have e4 : out.length + 1 = (out ++ [rw']).length := by simp
              repeat (first | (refine W_seq ?_) | (refine W_reg ?_) | (refine W_regd ?_) | (refine W_block ?_) | (refine And.intro (by omega) ?_) | simp (maxSteps := 1000000) (disch := omega) only [cA, cB, lk, lkH, Dst.onT, Dst.onX, Dst.slot, setF, setH, mapF, mapH, initF, binE, unE, cnt, boundE, newsE, freshE, opE, rmH, blkQ, frz_us, Nat.reduceEqDiff, Nat.reduceLT, Nat.reduceAdd, ↓reduceIte, reduceCtorEq, Nat.reduceLeDiff, d3])
              refine W_cond rfl (fun _ => ?_) (fun h => by cases h)
              refine W_freeze 33 (cells := strL rw') rfl (strL_rf rw') ?_
              have hfz := frz_strL rw' 33
              repeat (first | (refine W_seq ?_) | (refine W_reg ?_) | (refine W_regd ?_) | (refine W_block ?_) | (refine And.intro (by omega) ?_) | simp (maxSteps := 1000000) (disch := omega) only [cA, cB, lk, lkH, Dst.onT, Dst.onX, Dst.slot, setF, setH, mapF, mapH, initF, binE, unE, cnt, boundE, newsE, freshE, opE, rmH, blkQ, frz_us, Nat.reduceEqDiff, Nat.reduceLT, Nat.reduceAdd, ↓reduceIte, reduceCtorEq, Nat.reduceLeDiff, hfz, cS, rfm_nil, rfm_sl, hrl, frz_recD])
              refine And.intro (And.intro (by omega) (And.intro (by omega) (fun d hd => by rw [List.mem_singleton.1 hd]; rfl))) ?_
              refine W_reg ?_
              simp (maxSteps := 1000000) (disch := omega) only [cA, cB, lk, lkH, Dst.onT, Dst.onX, Dst.slot, setF, setH, mapF, mapH, initF, binE, unE, cnt, boundE, newsE, freshE, opE, rmH, blkQ, frz_us, Nat.reduceEqDiff, Nat.reduceLT, Nat.reduceAdd, ↓reduceIte, reduceCtorEq, Nat.reduceLeDiff, purge_recD, recD_app, e4]
              refine W_own 4 1 33 rfl (by simp [lkH]) ?_
              repeat (first | (refine W_seq ?_) | (refine W_reg ?_) | (refine W_regd ?_) | (refine W_block ?_) | (refine And.intro (by omega) ?_) | simp (maxSteps := 1000000) (disch := omega) only [cA, cB, lk, lkH, Dst.onT, Dst.onX, Dst.slot, setF, setH, mapF, mapH, initF, binE, unE, cnt, boundE, newsE, freshE, opE, rmH, blkQ, frz_us, Nat.reduceEqDiff, Nat.reduceLT, Nat.reduceAdd, ↓reduceIte, reduceCtorEq, Nat.reduceLeDiff, e1])
              exact ⟨(i + 1, (out ++ [rw'], [], [])), And.intro hlt hs2.symm, by simp only; omega, by simp [subF, lk, purge, DV.has], rfl⟩
            · rw [if_neg hc10] at hs2
              have d3 : decide (((c.toNat : Nat) : Int) = 10) = false := decide_eq_false (fun h => hc10 (c10.2 (by omega)))
              repeat (first | (refine W_seq ?_) | (refine W_reg ?_) | (refine W_regd ?_) | (refine W_block ?_) | (refine And.intro (by omega) ?_) | simp (maxSteps := 1000000) (disch := omega) only [cA, cB, lk, lkH, Dst.onT, Dst.onX, Dst.slot, setF, setH, mapF, mapH, initF, binE, unE, cnt, boundE, newsE, freshE, opE, rmH, blkQ, frz_us, Nat.reduceEqDiff, Nat.reduceLT, Nat.reduceAdd, ↓reduceIte, reduceCtorEq, Nat.reduceLeDiff, d3])
              refine W_cond rfl (fun h => by cases h) (fun _ => W_skip ?_)
              repeat (first | (refine W_seq ?_) | (refine W_reg ?_) | (refine W_regd ?_) | (refine W_block ?_) | (refine And.intro (by omega) ?_) | simp (maxSteps := 1000000) (disch := omega) only [cA, cB, lk, lkH, Dst.onT, Dst.onX, Dst.slot, setF, setH, mapF, mapH, initF, binE, unE, cnt, boundE, newsE, freshE, opE, rmH, blkQ, frz_us, Nat.reduceEqDiff, Nat.reduceLT, Nat.reduceAdd, ↓reduceIte, reduceCtorEq, Nat.reduceLeDiff, e1])
              exact ⟨(i + 1, (out, rw', [])), And.intro hlt hs2.symm, by simp only; omega, by simp [subF, lk], rfl⟩
    · have dl : decide ((i : Int) < t.length) = false := decide_eq_false (by omega)
      have hil : i = t.length := by omega
      have ho : out = wordsL t := by rw [← wst_full, ← hil, ← hst]
      repeat (first | (refine W_seq ?_) | (refine W_reg ?_) | (refine W_regd ?_) | (refine W_block ?_) | (refine And.intro (by omega) ?_) | simp (maxSteps := 1000000) (disch := omega) only [cA, cB, lk, lkH, Dst.onT, Dst.onX, Dst.slot, setF, setH, mapF, mapH, initF, binE, unE, cnt, boundE, newsE, freshE, opE, rmH, blkQ, frz_us, Nat.reduceEqDiff, Nat.reduceLT, Nat.reduceAdd, ↓reduceIte, reduceCtorEq, Nat.reduceLeDiff, dl])
      refine W_cond rfl (fun h => by cases h) (fun _ => W_exit ?_)
      simp (maxSteps := 1000000) (disch := omega) only [cA, cB, lk, lkH, Dst.onT, Dst.onX, Dst.slot, setF, setH, mapF, mapH, initF, binE, unE, cnt, boundE, newsE, freshE, opE, rmH, blkQ, frz_us, Nat.reduceEqDiff, Nat.reduceLT, Nat.reduceAdd, ↓reduceIte, reduceCtorEq, Nat.reduceLeDiff]
      refine W_freeze 39 (cells := recD out) rfl (List.all_eq_true.2 (recD_rf out)) ?_
      have hfz := frz_recD' out 39
      repeat (first | (refine W_seq ?_) | (refine W_reg ?_) | (refine W_regd ?_) | (refine W_block ?_) | (refine And.intro (by omega) ?_) | simp (maxSteps := 1000000) (disch := omega) only [cA, cB, lk, lkH, Dst.onT, Dst.onX, Dst.slot, setF, setH, mapF, mapH, initF, binE, unE, cnt, boundE, newsE, freshE, opE, rmH, blkQ, frz_us, Nat.reduceEqDiff, Nat.reduceLT, Nat.reduceAdd, ↓reduceIte, reduceCtorEq, Nat.reduceLeDiff, hfz])
      rw [ho]
      exact W_ret (RetP_1 (.imm rfl))
set_option maxHeartbeats 1000000 in
theorem reParse_calls (s : Bs) (hs : s.length ≤ 1000000) : PCalls Tryd.prog 12 [.str s] (parD s) := by
  have c0 := reWords_calls s hs
  obtain ⟨b1, b2, b3⟩ := recB_words s
  have cc := reColumns_calls (wordsL s) (by omega) (fun i => by have := b2 i; omega) (fun i j => by have := b3 i j; omega)
  clear b1 b2 b3
  have hpD : parD s = if colP (wordsL s) = some s then .tup [.sl 1 (recD (wordsL s)), .int .i64 0] else .tup [.nils, .int .i64 3] := rfl
  rw [hpD]
  clear hpD
  generalize wordsL s = R at *
  refine PCalls_of isreParse (by simp [fnreParse]) ?_
  unfold codereParse
  cases hcp : colP R with
  | none =>
    obtain ⟨e, he, hce⟩ := colR_none hcp
    rw [hce] at cc
    have de : decide (¬ e = 0) = true := decide_eq_true he
    rw [if_neg (by simp)]
    repeat (first | (refine W_seq ?_) | (refine W_reg ?_) | (refine W_regd ?_) | (refine W_block ?_) | (refine And.intro (by omega) ?_) | simp (maxSteps := 1000000) (disch := omega) only [cA, cB, lk, lkH, Dst.onT, Dst.onX, Dst.slot, setF, setH, mapF, mapH, initF, binE, unE, cnt, boundE, newsE, freshE, opE, rmH, blkQ, frz_us, Nat.reduceEqDiff, Nat.reduceLT, Nat.reduceAdd, ↓reduceIte, reduceCtorEq, Nat.reduceLeDiff, de] | (refine callC_pure (c0) rfl ?_) | (refine callC_pure (cc) rfl ?_) | exact W_ret (RetP_1 (.imm rfl)) | exact W_ret (RetP_c rfl rfl rfl (.imm rfl)))
    refine W_cond rfl (fun _ => ?_) (fun h => by cases h)
    repeat (first | (refine W_seq ?_) | (refine W_reg ?_) | (refine W_regd ?_) | (refine W_block ?_) | (refine And.intro (by omega) ?_) | simp (maxSteps := 1000000) (disch := omega) only [cA, cB, lk, lkH, Dst.onT, Dst.onX, Dst.slot, setF, setH, mapF, mapH, initF, binE, unE, cnt, boundE, newsE, freshE, opE, rmH, blkQ, frz_us, Nat.reduceEqDiff, Nat.reduceLT, Nat.reduceAdd, ↓reduceIte, reduceCtorEq, Nat.reduceLeDiff])
    exact W_ret (RetP_2 (.imm rfl) (.imm rfl))
  | some u =>
    rw [colR_some hcp] at cc
    obtain ⟨e, he⟩ : ∃ e : Int, e = 0 := ⟨0, rfl⟩
    have de : decide (¬ e = 0) = false := decide_eq_false (fun h => h he)
    rw [← he] at cc
    by_cases hu : u = s
    · have du : decide (¬ u = s) = false := decide_eq_false (fun h => h hu)
      rw [if_pos (by rw [hu])]
      repeat (first | (refine W_seq ?_) | (refine W_reg ?_) | (refine W_regd ?_) | (refine W_block ?_) | (refine And.intro (by omega) ?_) | simp (maxSteps := 1000000) (disch := omega) only [cA, cB, lk, lkH, Dst.onT, Dst.onX, Dst.slot, setF, setH, mapF, mapH, initF, binE, unE, cnt, boundE, newsE, freshE, opE, rmH, blkQ, frz_us, Nat.reduceEqDiff, Nat.reduceLT, Nat.reduceAdd, ↓reduceIte, reduceCtorEq, Nat.reduceLeDiff, de, du] | (refine callC_pure (c0) rfl ?_) | (refine callC_pure (cc) rfl ?_) | exact W_ret (RetP_1 (.imm rfl)) | exact W_ret (RetP_c rfl rfl rfl (.imm rfl)))
      refine W_cond rfl (fun h => by cases h) (fun _ => W_skip ?_)
      repeat (first | (refine W_seq ?_) | (refine W_reg ?_) | (refine W_regd ?_) | (refine W_block ?_) | (refine And.intro (by omega) ?_) | simp (maxSteps := 1000000) (disch := omega) only [cA, cB, lk, lkH, Dst.onT, Dst.onX, Dst.slot, setF, setH, mapF, mapH, initF, binE, unE, cnt, boundE, newsE, freshE, opE, rmH, blkQ, frz_us, Nat.reduceEqDiff, Nat.reduceLT, Nat.reduceAdd, ↓reduceIte, reduceCtorEq, Nat.reduceLeDiff])
      exact W_ret (RetP_2 (.imm rfl) (.imm rfl))
    · have du : decide (¬ u = s) = true := decide_eq_true hu
      rw [if_neg (by simpa using hu)]
      repeat (first | (refine W_seq ?_) | (refine W_reg ?_) | (refine W_regd ?_) | (refine W_block ?_) | (refine And.intro (by omega) ?_) | simp (maxSteps := 1000000) (disch := omega) only [cA, cB, lk, lkH, Dst.onT, Dst.onX, Dst.slot, setF, setH, mapF, mapH, initF, binE, unE, cnt, boundE, newsE, freshE, opE, rmH, blkQ, frz_us, Nat.reduceEqDiff, Nat.reduceLT, Nat.reduceAdd, ↓reduceIte, reduceCtorEq, Nat.reduceLeDiff, de, du] | (refine callC_pure (c0) rfl ?_) | (refine callC_pure (cc) rfl ?_) | exact W_ret (RetP_1 (.imm rfl)) | exact W_ret (RetP_c rfl rfl rfl (.imm rfl)))
      refine W_cond rfl (fun _ => ?_) (fun h => by cases h)
      repeat (first | (refine W_seq ?_) | (refine W_reg ?_) | (refine W_regd ?_) | (refine W_block ?_) | (refine And.intro (by omega) ?_) | simp (maxSteps := 1000000) (disch := omega) only [cA, cB, lk, lkH, Dst.onT, Dst.onX, Dst.slot, setF, setH, mapF, mapH, initF, binE, unE, cnt, boundE, newsE, freshE, opE, rmH, blkQ, frz_us, Nat.reduceEqDiff, Nat.reduceLT, Nat.reduceAdd, ↓reduceIte, reduceCtorEq, Nat.reduceLeDiff])
      exact W_ret (RetP_2 (.imm rfl) (.imm rfl))
theorem reSameWords_calls (r : List Bs) (hr : r.length ≤ 9223372036854775807) : PCalls Tryd.prog 26 [.sl 1 (strL r), .sl 1 (strL r)] (.bool true) := by
  refine PCalls_of isreSameWords (by simp [fnreSameWords]) ?_
  unfold codereSameWords
  have hsl := strL_len r
  have d0 : decide (¬ (r.length : Int) = (r.length : Int)) = false := decide_eq_false (fun h => h rfl)
  repeat (first | (refine W_seq ?_) | (refine W_reg ?_) | (refine W_regd ?_) | (refine W_block ?_) | (refine And.intro (by omega) ?_) | simp (maxSteps := 1000000) (disch := omega) only [cA, cB, lk, lkH, Dst.onT, Dst.onX, Dst.slot, setF, setH, mapF, mapH, initF, binE, unE, cnt, boundE, newsE, freshE, opE, rmH, blkQ, frz_us, Nat.reduceEqDiff, Nat.reduceLT, Nat.reduceAdd, ↓reduceIte, reduceCtorEq, Nat.reduceLeDiff, hsl, d0])
  refine W_cond rfl (fun h => by cases h) (fun _ => W_skip ?_)
  repeat (first | (refine W_seq ?_) | (refine W_reg ?_) | (refine W_regd ?_) | (refine W_block ?_) | (refine And.intro (by omega) ?_) | simp (maxSteps := 1000000) (disch := omega) only [cA, cB, lk, lkH, Dst.onT, Dst.onX, Dst.slot, setF, setH, mapF, mapH, initF, binE, unE, cnt, boundE, newsE, freshE, opE, rmH, blkQ, frz_us, Nat.reduceEqDiff, Nat.reduceLT, Nat.reduceAdd, ↓reduceIte, reduceCtorEq, Nat.reduceLeDiff, hsl])
  refine W_loop (σ := Nat) (fun i => [(0, .sl 1 (strL r)), (1, .sl 1 (strL r)), (12, .int .i64 r.length), (13, .int .i64 i)]) (fun _ => []) (fun i => i ≤ r.length) (fun i => r.length - i) 0 (Nat.zero_le _) ?_ rfl ?_
  · simp [subF, lk]
  · rintro i hi
    try simp only at hi ⊢
    by_cases hlt : i < r.length
    · have dl : decide ((i : Int) < r.length) = true := decide_eq_true (by omega)
      have ei : (i : Int).toNat = i := Int.toNat_natCast i
      have e1 : ((i : Int) + 1) = ((i + 1 : Nat) : Int) := by omega
      have hg := strL_getD hlt
      generalize r.getD i [] = x at *
      have dx : decide (¬ x = x) = false := decide_eq_false (fun h => h rfl)
      repeat (first | (refine W_seq ?_) | (refine W_reg ?_) | (refine W_regd ?_) | (refine W_block ?_) | (refine And.intro (by omega) ?_) | simp (maxSteps := 1000000) (disch := omega) only [cA, cB, lk, lkH, Dst.onT, Dst.onX, Dst.slot, setF, setH, mapF, mapH, initF, binE, unE, cnt, boundE, newsE, freshE, opE, rmH, blkQ, frz_us, Nat.reduceEqDiff, Nat.reduceLT, Nat.reduceAdd, ↓reduceIte, reduceCtorEq, Nat.reduceLeDiff, dl])
      refine W_cond rfl (fun _ => W_skip ?_) (fun h => by cases h)
      repeat (first | (refine W_seq ?_) | (refine W_reg ?_) | (refine W_regd ?_) | (refine W_block ?_) | (refine And.intro (by omega) ?_) | simp (maxSteps := 1000000) (disch := omega) only [cA, cB, lk, lkH, Dst.onT, Dst.onX, Dst.slot, setF, setH, mapF, mapH, initF, binE, unE, cnt, boundE, newsE, freshE, opE, rmH, blkQ, frz_us, Nat.reduceEqDiff, Nat.reduceLT, Nat.reduceAdd, ↓reduceIte, reduceCtorEq, Nat.reduceLeDiff, ei, hsl, hg, dx])
      refine W_cond rfl (fun h => by cases h) (fun _ => W_skip ?_)
      repeat (first | (refine W_seq ?_) | (refine W_reg ?_) | (refine W_regd ?_) | (refine W_block ?_) | (refine And.intro (by omega) ?_) | simp (maxSteps := 1000000) (disch := omega) only [cA, cB, lk, lkH, Dst.onT, Dst.onX, Dst.slot, setF, setH, mapF, mapH, initF, binE, unE, cnt, boundE, newsE, freshE, opE, rmH, blkQ, frz_us, Nat.reduceEqDiff, Nat.reduceLT, Nat.reduceAdd, ↓reduceIte, reduceCtorEq, Nat.reduceLeDiff, e1])
      exact ⟨i + 1, hlt, by omega, by simp [subF, lk]⟩
    · have dl : decide ((i : Int) < r.length) = false := decide_eq_false (by omega)
      repeat (first | (refine W_seq ?_) | (refine W_reg ?_) | (refine W_regd ?_) | (refine W_block ?_) | (refine And.intro (by omega) ?_) | simp (maxSteps := 1000000) (disch := omega) only [cA, cB, lk, lkH, Dst.onT, Dst.onX, Dst.slot, setF, setH, mapF, mapH, initF, binE, unE, cnt, boundE, newsE, freshE, opE, rmH, blkQ, frz_us, Nat.reduceEqDiff, Nat.reduceLT, Nat.reduceAdd, ↓reduceIte, reduceCtorEq, Nat.reduceLeDiff, dl])
      refine W_cond rfl (fun h => by cases h) (fun _ => W_exit ?_)
      repeat (first | (refine W_seq ?_) | (refine W_reg ?_) | (refine W_regd ?_) | (refine W_block ?_) | (refine And.intro (by omega) ?_) | simp (maxSteps := 1000000) (disch := omega) only [cA, cB, lk, lkH, Dst.onT, Dst.onX, Dst.slot, setF, setH, mapF, mapH, initF, binE, unE, cnt, boundE, newsE, freshE, opE, rmH, blkQ, frz_us, Nat.reduceEqDiff, Nat.reduceLT, Nat.reduceAdd, ↓reduceIte, reduceCtorEq, Nat.reduceLeDiff])
      exact W_ret (RetP_1 (.imm rfl))
theorem reSameRecs_calls (r : List (List Bs)) (hr : recB 9223372036854775807 r) : PCalls Tryd.prog 13 [.sl 1 (recD r), .sl 1 (recD r)] (.bool true) := by
  refine PCalls_of isreSameRecs (by simp [fnreSameRecs]) ?_
  unfold codereSameRecs
  have hsl := recD_len r
  have d0 : decide (¬ (r.length : Int) = (r.length : Int)) = false := decide_eq_false (fun h => h rfl)
  have hrl := hr.1
  repeat (first | (refine W_seq ?_) | (refine W_reg ?_) | (refine W_regd ?_) | (refine W_block ?_) | (refine And.intro (by omega) ?_) | simp (maxSteps := 1000000) (disch := omega) only [cA, cB, lk, lkH, Dst.onT, Dst.onX, Dst.slot, setF, setH, mapF, mapH, initF, binE, unE, cnt, boundE, newsE, freshE, opE, rmH, blkQ, frz_us, Nat.reduceEqDiff, Nat.reduceLT, Nat.reduceAdd, ↓reduceIte, reduceCtorEq, Nat.reduceLeDiff, hsl, d0])
  refine W_cond rfl (fun h => by cases h) (fun _ => W_skip ?_)
  repeat (first | (refine W_seq ?_) | (refine W_reg ?_) | (refine W_regd ?_) | (refine W_block ?_) | (refine And.intro (by omega) ?_) | simp (maxSteps := 1000000) (disch := omega) only [cA, cB, lk, lkH, Dst.onT, Dst.onX, Dst.slot, setF, setH, mapF, mapH, initF, binE, unE, cnt, boundE, newsE, freshE, opE, rmH, blkQ, frz_us, Nat.reduceEqDiff, Nat.reduceLT, Nat.reduceAdd, ↓reduceIte, reduceCtorEq, Nat.reduceLeDiff, hsl])
  refine W_loop (σ := Nat) (fun i => [(0, .sl 1 (recD r)), (1, .sl 1 (recD r)), (12, .int .i64 r.length), (13, .int .i64 i)]) (fun _ => []) (fun i => i ≤ r.length) (fun i => r.length - i) 0 (Nat.zero_le _) ?_ rfl ?_
  · simp [subF, lk]
  · rintro i hi
    try simp only at hi ⊢
    by_cases hlt : i < r.length
    · have dl : decide ((i : Int) < r.length) = true := decide_eq_true (by omega)
      have ei : (i : Int).toNat = i := Int.toNat_natCast i
      have e1 : ((i : Int) + 1) = ((i + 1 : Nat) : Int) := by omega
      have hg := recD_getD hlt
      have cw := reSameWords_calls (r.getD i []) (hr.2.1 i)
      generalize r.getD i [] = x at *
      repeat (first | (refine W_seq ?_) | (refine W_reg ?_) | (refine W_regd ?_) | (refine W_block ?_) | (refine And.intro (by omega) ?_) | simp (maxSteps := 1000000) (disch := omega) only [cA, cB, lk, lkH, Dst.onT, Dst.onX, Dst.slot, setF, setH, mapF, mapH, initF, binE, unE, cnt, boundE, newsE, freshE, opE, rmH, blkQ, frz_us, Nat.reduceEqDiff, Nat.reduceLT, Nat.reduceAdd, ↓reduceIte, reduceCtorEq, Nat.reduceLeDiff, dl])
      refine W_cond rfl (fun _ => W_skip ?_) (fun h => by cases h)
      repeat (first | (refine W_seq ?_) | (refine W_reg ?_) | (refine W_regd ?_) | (refine W_block ?_) | (refine And.intro (by omega) ?_) | simp (maxSteps := 1000000) (disch := omega) only [cA, cB, lk, lkH, Dst.onT, Dst.onX, Dst.slot, setF, setH, mapF, mapH, initF, binE, unE, cnt, boundE, newsE, freshE, opE, rmH, blkQ, frz_us, Nat.reduceEqDiff, Nat.reduceLT, Nat.reduceAdd, ↓reduceIte, reduceCtorEq, Nat.reduceLeDiff, ei, hsl, hg] | (refine callC_pure (cw) rfl ?_) | exact W_ret (RetP_1 (.imm rfl)) | exact W_ret (RetP_c rfl rfl rfl (.imm rfl)))
      refine W_cond rfl (fun h => by cases h) (fun _ => W_skip ?_)
      repeat (first | (refine W_seq ?_) | (refine W_reg ?_) | (refine W_regd ?_) | (refine W_block ?_) | (refine And.intro (by omega) ?_) | simp (maxSteps := 1000000) (disch := omega) only [cA, cB, lk, lkH, Dst.onT, Dst.onX, Dst.slot, setF, setH, mapF, mapH, initF, binE, unE, cnt, boundE, newsE, freshE, opE, rmH, blkQ, frz_us, Nat.reduceEqDiff, Nat.reduceLT, Nat.reduceAdd, ↓reduceIte, reduceCtorEq, Nat.reduceLeDiff, e1])
      exact ⟨i + 1, hlt, by omega, by simp [subF, lk]⟩
    · have dl : decide ((i : Int) < r.length) = false := decide_eq_false (by omega)
      repeat (first | (refine W_seq ?_) | (refine W_reg ?_) | (refine W_regd ?_) | (refine W_block ?_) | (refine And.intro (by omega) ?_) | simp (maxSteps := 1000000) (disch := omega) only [cA, cB, lk, lkH, Dst.onT, Dst.onX, Dst.slot, setF, setH, mapF, mapH, initF, binE, unE, cnt, boundE, newsE, freshE, opE, rmH, blkQ, frz_us, Nat.reduceEqDiff, Nat.reduceLT, Nat.reduceAdd, ↓reduceIte, reduceCtorEq, Nat.reduceLeDiff, dl])
      refine W_cond rfl (fun h => by cases h) (fun _ => W_exit ?_)
      repeat (first | (refine W_seq ?_) | (refine W_reg ?_) | (refine W_regd ?_) | (refine W_block ?_) | (refine And.intro (by omega) ?_) | simp (maxSteps := 1000000) (disch := omega) only [cA, cB, lk, lkH, Dst.onT, Dst.onX, Dst.slot, setF, setH, mapF, mapH, initF, binE, unE, cnt, boundE, newsE, freshE, opE, rmH, blkQ, frz_us, Nat.reduceEqDiff, Nat.reduceLT, Nat.reduceAdd, ↓reduceIte, reduceCtorEq, Nat.reduceLeDiff])
      exact W_ret (RetP_1 (.imm rfl))
theorem reSameNil_calls : PCalls Tryd.prog 13 [.nils, .nils] (.bool true) := by
  intro A w us hT hA hs hv
  refine reSameRecs_calls [] (recB_of (Nat.zero_le _) (fun r h => by cases h)) A w us hT hA hs fun k d v hd hu => ?_
  match k with
  | 0 =>
    have h0 := hv 0 _ v rfl hu
    cases hd; cases h0
    exact .sl0 _ _ _
  | 1 =>
    have h0 := hv 1 _ v rfl hu
    cases hd; cases h0
    exact .sl0 _ _ _
  | k + 2 => simp at hd
end Go.Proofs.YtammbggabhnfdaaDoor
namespace Go.Proofs.YtammbggabhnfdaaDoor
open Go Go.Dat Go.Proofs Nat32 Go.RowKit
theorem rfk_nil : (∀ d ∈ ([] : List DV), d.rf = true) ↔ True := by simp
theorem rfk_str (l : List UInt8) (xs : List DV) : (∀ d ∈ DV.str l :: xs, d.rf = true) ↔ ∀ d ∈ xs, d.rf = true := by simp [DV.rf]
theorem rfk_sl (s : Nat) (ys xs : List DV) : (∀ d ∈ DV.sl s ys :: xs, d.rf = true) ↔ ∀ d ∈ xs, d.rf = true := by simp [DV.rf]
theorem getD_bd {α : Type} {p : α → Prop} {l : List α} {d : α} (hd : p d) (h : ∀ x ∈ l, p x) (i : Nat) : p (l.getD i d) := by
  rw [List.getD_eq_getElem?_getD]
  cases hi : l[i]? with
  | none => exact hd
  | some x => exact h x (List.mem_of_getElem? hi)
theorem lr_awake_calls : PCalls Tryd.prog 4 [] (.bool true) := by
  have hc : colR [[[97], [49, 48]], [[98, 99, 100], [50]]] = .tup [.str [32, 32, 97, 32, 32, 49, 48, 10, 98, 99, 100, 32, 32, 32, 50, 10], .int .i64 0] := by
    have h1 : shapeOk [[[97], [49, 48]], [[98, 99, 100], [50]]] = true := by decide +kernel
    have h2 : formB [[[97], [49, 48]], [[98, 99, 100], [50]]] = true := by decide +kernel
    have h3 : colT (wdT [[[97], [49, 48]], [[98, 99, 100], [50]]] 2) [[[97], [49, 48]], [[98, 99, 100], [50]]] 2 2 = [32, 32, 97, 32, 32, 49, 48, 10, 98, 99, 100, 32, 32, 32, 50, 10] := by decide +kernel
    unfold colR
    rw [h1, h2]
    show DV.tup [.str (colT (wdT [[[97], [49, 48]], [[98, 99, 100], [50]]] 2) [[[97], [49, 48]], [[98, 99, 100], [50]]] 2 2), .int .i64 0] = _
    rw [h3]
  have c := rpColumns_calls [[[97], [49, 48]], [[98, 99, 100], [50]]] (by decide)
    (fun i => getD_bd (p := fun r : List (List UInt8) => r.length ≤ 9223372036854775807) (by decide) (by decide) i)
    (fun i j => getD_bd (p := fun r : List (List UInt8) => (r.getD j []).length ≤ 9223372036854775807) (by simp) (fun r hr => getD_bd (p := fun s : List UInt8 => s.length ≤ 9223372036854775807) (by decide) (by
      intro x hx
      simp only [List.mem_cons, List.not_mem_nil, or_false] at hr
      rcases hr with rfl | rfl <;> (simp only [List.mem_cons, List.not_mem_nil, or_false] at hx; rcases hx with rfl | rfl <;> decide)) j) i)
  rw [hc] at c
  have c' : PCalls Tryd.prog 8 [.sl 1 [.sl 1 [.str [97], .str [49, 48]], .sl 1 [.str [98, 99, 100], .str [50]]]] (.tup [.str [32, 32, 97, 32, 32, 49, 48, 10, 98, 99, 100, 32, 32, 32, 50, 10], .int .i64 0]) := c
  clear c hc
  refine PCalls_of islr_awake (by simp [fnlr_awake]) ?_
  unfold codelr_awake
  repeat (first | (refine W_seq ?_) | (refine W_reg ?_) | (refine W_regd ?_) | (refine W_block ?_) | (refine And.intro (by omega) ?_) | simp (maxSteps := 1000000) (disch := omega) only [cA, cB, lk, lkH, Dst.onT, Dst.onX, Dst.slot, setF, setH, mapF, mapH, initF, binE, unE, cnt, boundE, newsE, freshE, opE, rmH, blkQ, frz_us, Nat.reduceEqDiff, Nat.reduceLT, Nat.reduceAdd, ↓reduceIte, reduceCtorEq, Nat.reduceLeDiff, cS, rfk_nil, rfk_str, rfk_sl, decide_true] | (refine callC_pure (c') rfl ?_) | exact W_ret (RetP_1 (.imm rfl)) | exact W_ret (RetP_c rfl rfl rfl (.imm rfl)))
end Go.Proofs.YtammbggabhnfdaaDoor
namespace Go.Proofs.YtammbggabhnfdaaDoor
open Go Go.Dat Go.Proofs Nat32 Go.RowKit
theorem drawQ_some (n : Nat) {c : List DV} (hc : isTp c) : ∃ d c', d.rf = true ∧ (∀ x ∈ c', x.rf = true) ∧ drawQ n d c' := ⟨.int .i64 (0 : Nat), c, rfl, hc.rf, hc, 0, .inr rfl, rfl⟩
theorem colR_shape {r : List (List Bs)} (h : r.length ≤ 20) : ∃ s e, colR r = .tup [.str s, .int .i64 e] ∧ s.length ≤ 30000 := by
  unfold colR
  by_cases h1 : shapeOk r = true
  · rw [if_pos h1]
    by_cases h2 : formB r = true
    · rw [if_pos h2]
      have h3 : (r.headD []).length ≤ 32 := by
        unfold shapeOk shapeB at h1
        simp only [Bool.and_eq_true, decide_eq_true_eq, List.all_eq_true] at h1
        cases r with
        | nil => exact Nat.zero_le _
        | cons x t => exact (h1.2 x (by simp)).2.2
      have := colT_len h3 (fun i j => wdT_ge (recs := r) i j) (fun j => wdT_le h2 j) r.length
      exact ⟨_, _, rfl, by omega⟩
    · rw [if_neg h2]; exact ⟨[], _, rfl, Nat.zero_le _⟩
  · rw [if_neg h1]; exact ⟨[], _, rfl, Nat.zero_le _⟩
theorem same_par (u : Bs) (h : u.length ≤ 1000000) : ∃ D e, parD u = .tup [D, .int .i64 e] ∧ D.rf = true ∧ PCalls Tryd.prog 13 [D, D] (.bool true) := by
  unfold parD
  by_cases h1 : colP (wordsL u) = some u
  · rw [if_pos h1]
    obtain ⟨b1, b2, b3⟩ := recB_words u
    exact ⟨_, _, rfl, rfl, reSameRecs_calls _ ⟨by omega, fun i => by have := b2 i; omega, fun i j => by have := b3 i j; omega⟩⟩
  · rw [if_neg h1]
    exact ⟨_, _, rfl, rfl, reSameNil_calls⟩
def dBlk : DC → DC
  | .block _ b => b
  | _ => .skip
def dLoop : DC → DC
  | .loop b => b
  | _ => .skip
def lcT : DC := dSeq2 (dSeq2 (dSeq2 (dSeq2 (dSeq2 codelrColumns))))
def lcB : DC := dBlk (dSeq1 (dSeq2 (dSeq2 (dLoop (dBlk (dSeq2 (dSeq1 lcT)))))))
set_option maxHeartbeats 4000000 in
theorem colTail (X raw : List (List Bs)) (text : Bs) (c : List DV) (hc : isTp c) (hX : recB 9223372036854775807 X) (hX2 : X.length ≤ 20) (hr : recB 9223372036854775807 raw) (hr2 : raw.length ≤ 20) (ht : text.length ≤ 500) :
    W fnlrColumns lcT (RetP reslrColumns (.bool true)) [(1, .sl 1 (recD raw)), (2, .str text), (7, .ptr 32 0), (8, .sl 1 (recD X))] [(32, c)] := by
  unfold lcT codelrColumns
  dsimp only [dSeq2]
  repeat (first | (refine W_seq ?_) | (refine W_reg ?_) | (refine W_regd ?_) | (refine W_block ?_) | (refine And.intro (by omega) ?_) | simp (maxSteps := 1000000) (disch := omega) only [cA, cB, lk, lkH, Dst.onT, Dst.onX, Dst.slot, setF, setH, mapF, mapH, initF, binE, unE, cnt, boundE, newsE, freshE, opE, rmH, blkQ, frz_us, Nat.reduceEqDiff, Nat.reduceLT, Nat.reduceAdd, ↓reduceIte, reduceCtorEq, Nat.reduceLeDiff, cS, rfm_nil, rfm_sl])
  refine W_loop (σ := Nat × List DV) (fun s => [(2, .str text), (7, .ptr 32 0), (53, .sl 1 [.sl 1 (recD X), .sl 1 (recD raw)]), (54, .int .i64 2), (55, .int .i64 s.1)]) (fun s => [(32, s.2)]) (fun s => s.1 ≤ 2 ∧ isTp s.2) (fun s => 2 - s.1) (0, c) (And.intro (Nat.zero_le _) hc) ?_ rfl ?_
  · simp [subF, lk]
  · rintro ⟨i, c1⟩ ⟨hi, ht1⟩
    try simp only at hi ht1 ⊢
    by_cases hlt : i < 2
    · have dl : decide ((i : Int) < 2) = true := decide_eq_true (by omega)
      have ei : (i : Int).toNat = i := Int.toNat_natCast i
      have e1 : ((i : Int) + 1) = ((i + 1 : Nat) : Int) := by omega
      obtain ⟨r, hgi, hb, hb2⟩ : ∃ r, [DV.sl 1 (recD X), DV.sl 1 (recD raw)].getD i .undef = .sl 1 (recD r) ∧ recB 9223372036854775807 r ∧ r.length ≤ 20 := by
        match i, hlt with
        | 0, _ => exact ⟨X, rfl, hX, hX2⟩
        | 1, _ => exact ⟨raw, rfl, hr, hr2⟩
      have cc1 := rpColumns_calls r hb.1 hb.2.1 hb.2.2
      have cc2 := reColumns_calls r hb.1 hb.2.1 hb.2.2
      obtain ⟨s, e, hce, hsl⟩ := colR_shape hb2
      rw [hce] at cc1 cc2
      have dT : decide (¬ True) = false := rfl
      have hl2 : ([DV.sl 1 (recD X), DV.sl 1 (recD raw)]).length = 2 := rfl
      repeat (first | (refine W_seq ?_) | (refine W_reg ?_) | (refine W_regd ?_) | (refine W_block ?_) | (refine And.intro (by omega) ?_) | simp (maxSteps := 1000000) (disch := omega) only [cA, cB, lk, lkH, Dst.onT, Dst.onX, Dst.slot, setF, setH, mapF, mapH, initF, binE, unE, cnt, boundE, newsE, freshE, opE, rmH, blkQ, frz_us, Nat.reduceEqDiff, Nat.reduceLT, Nat.reduceAdd, ↓reduceIte, reduceCtorEq, Nat.reduceLeDiff, dl])
      refine W_cond rfl (fun _ => W_skip ?_) (fun h => by cases h)
      repeat (first | (refine W_seq ?_) | (refine W_reg ?_) | (refine W_regd ?_) | (refine W_block ?_) | (refine And.intro (by omega) ?_) | simp (maxSteps := 1000000) (disch := omega) only [cA, cB, lk, lkH, Dst.onT, Dst.onX, Dst.slot, setF, setH, mapF, mapH, initF, binE, unE, cnt, boundE, newsE, freshE, opE, rmH, blkQ, frz_us, Nat.reduceEqDiff, Nat.reduceLT, Nat.reduceAdd, ↓reduceIte, reduceCtorEq, Nat.reduceLeDiff, ei, hgi, hl2, dT] | (refine callC_pure (cc1) rfl ?_) | (refine callC_pure (cc2) rfl ?_) | exact W_ret (RetP_1 (.imm rfl)) | exact W_ret (RetP_c rfl rfl rfl (.imm rfl)))
      refine W_cond rfl (fun h => by cases h) (fun _ => W_skip ?_)
      clear cc1 cc2 hce hb hb2 hgi
      have inner : ∀ (A : Bs) (c2 : List DV), isTp c2 → A.length ≤ 1000000 → W fnlrColumns (dSeq2 (dSeq2 (dSeq2 (dSeq2 (dSeq2 lcB))))) (fun e fr1 H1 => e = .norm ∧ subF fr1 [(2, .str text), (7, .ptr 32 0), (53, .sl 1 [.sl 1 (recD X), .sl 1 (recD raw)]), (54, .int .i64 2), (55, .int .i64 i)] ∧ H1 = [(32, c2)])
          [(2, .str text), (7, .ptr 32 0), (11, .str A), (53, .sl 1 [.sl 1 (recD X), .sl 1 (recD raw)]), (54, .int .i64 2), (55, .int .i64 i)] [(32, c2)] := by
        intro A c2 ht2 hA
        unfold lcB lcT codelrColumns
        dsimp only [dSeq1, dSeq2, dBlk, dLoop]
        repeat (first | (refine W_seq ?_) | (refine W_reg ?_) | (refine W_regd ?_) | (refine W_block ?_) | (refine And.intro (by omega) ?_) | simp (maxSteps := 1000000) (disch := omega) only [cA, cB, lk, lkH, Dst.onT, Dst.onX, Dst.slot, setF, setH, mapF, mapH, initF, binE, unE, cnt, boundE, newsE, freshE, opE, rmH, blkQ, frz_us, Nat.reduceEqDiff, Nat.reduceLT, Nat.reduceAdd, ↓reduceIte, reduceCtorEq, Nat.reduceLeDiff, cS, rfm_nil, rfm_str])
        refine W_loop (σ := Nat) (fun j => [(2, .str text), (7, .ptr 32 0), (53, .sl 1 [.sl 1 (recD X), .sl 1 (recD raw)]), (54, .int .i64 2), (55, .int .i64 i), (107, .sl 1 [.str A, .str text]), (108, .int .i64 2), (109, .int .i64 j)]) (fun _ => [(32, c2)]) (fun j => j ≤ 2) (fun j => 2 - j) 0 (Nat.zero_le _) ?_ rfl ?_
        · simp [subF, lk]
        · rintro j hj
          try simp only at hj ⊢
          by_cases hjt : j < 2
          · have dj : decide ((j : Int) < 2) = true := decide_eq_true (by omega)
            have ej : (j : Int).toNat = j := Int.toNat_natCast j
            have e1j : ((j : Int) + 1) = ((j + 1 : Nat) : Int) := by omega
            obtain ⟨u, hgj, hu⟩ : ∃ u, [DV.str A, DV.str text].getD j .undef = .str u ∧ u.length ≤ 1000000 := by
              match j, hjt with
              | 0, _ => exact ⟨A, rfl, hA⟩
              | 1, _ => exact ⟨text, rfl, by omega⟩
            have p1 := rpParse_calls u hu
            have p2 := reParse_calls u hu
            obtain ⟨D, e', hpe, hDr, ps⟩ := same_par u hu
            rw [hpe] at p1 p2
            have hl2' : ([DV.str A, DV.str text]).length = 2 := rfl
            have dF : decide False = false := rfl
            repeat (first | (refine W_seq ?_) | (refine W_reg ?_) | (refine W_regd ?_) | (refine W_block ?_) | (refine And.intro (by omega) ?_) | simp (maxSteps := 1000000) (disch := omega) only [cA, cB, lk, lkH, Dst.onT, Dst.onX, Dst.slot, setF, setH, mapF, mapH, initF, binE, unE, cnt, boundE, newsE, freshE, opE, rmH, blkQ, frz_us, Nat.reduceEqDiff, Nat.reduceLT, Nat.reduceAdd, ↓reduceIte, reduceCtorEq, Nat.reduceLeDiff, dj])
            refine W_cond rfl (fun _ => W_skip ?_) (fun h => by cases h)
            repeat (first | (refine W_seq ?_) | (refine W_reg ?_) | (refine W_regd ?_) | (refine W_block ?_) | (refine And.intro (by omega) ?_) | simp (maxSteps := 1000000) (disch := omega) only [cA, cB, lk, lkH, Dst.onT, Dst.onX, Dst.slot, setF, setH, mapF, mapH, initF, binE, unE, cnt, boundE, newsE, freshE, opE, rmH, blkQ, frz_us, Nat.reduceEqDiff, Nat.reduceLT, Nat.reduceAdd, ↓reduceIte, reduceCtorEq, Nat.reduceLeDiff, ej, hgj, hl2', dT] | (refine callC_pure (p1) rfl ?_) | (refine callC_pure (p2) rfl ?_) | exact W_ret (RetP_1 (.imm rfl)) | exact W_ret (RetP_c rfl rfl rfl (.imm rfl)))
            refine callC_pure ps (by simp [hDr]) ?_
            repeat (first | (refine W_seq ?_) | (refine W_reg ?_) | (refine W_regd ?_) | (refine W_block ?_) | (refine And.intro (by omega) ?_) | simp (maxSteps := 1000000) (disch := omega) only [cA, cB, lk, lkH, Dst.onT, Dst.onX, Dst.slot, setF, setH, mapF, mapH, initF, binE, unE, cnt, boundE, newsE, freshE, opE, rmH, blkQ, frz_us, Nat.reduceEqDiff, Nat.reduceLT, Nat.reduceAdd, ↓reduceIte, reduceCtorEq, Nat.reduceLeDiff, dT])
            refine W_cond rfl (fun h => by cases h) (fun _ => W_skip ?_)
            repeat (first | (refine W_seq ?_) | (refine W_reg ?_) | (refine W_regd ?_) | (refine W_block ?_) | (refine And.intro (by omega) ?_) | simp (maxSteps := 1000000) (disch := omega) only [cA, cB, lk, lkH, Dst.onT, Dst.onX, Dst.slot, setF, setH, mapF, mapH, initF, binE, unE, cnt, boundE, newsE, freshE, opE, rmH, blkQ, frz_us, Nat.reduceEqDiff, Nat.reduceLT, Nat.reduceAdd, ↓reduceIte, reduceCtorEq, Nat.reduceLeDiff, e1j])
            exact ⟨j + 1, hjt, by omega, by simp [subF, lk]⟩
          · have dj : decide ((j : Int) < 2) = false := decide_eq_false (by omega)
            repeat (first | (refine W_seq ?_) | (refine W_reg ?_) | (refine W_regd ?_) | (refine W_block ?_) | (refine And.intro (by omega) ?_) | simp (maxSteps := 1000000) (disch := omega) only [cA, cB, lk, lkH, Dst.onT, Dst.onX, Dst.slot, setF, setH, mapF, mapH, initF, binE, unE, cnt, boundE, newsE, freshE, opE, rmH, blkQ, frz_us, Nat.reduceEqDiff, Nat.reduceLT, Nat.reduceAdd, ↓reduceIte, reduceCtorEq, Nat.reduceLeDiff, dj])
            refine W_cond rfl (fun h => by cases h) (fun _ => W_exit ?_)
            simp (maxSteps := 1000000) (disch := omega) only [cA, cB, lk, lkH, Dst.onT, Dst.onX, Dst.slot, setF, setH, mapF, mapH, initF, binE, unE, cnt, boundE, newsE, freshE, opE, rmH, blkQ, frz_us, Nat.reduceEqDiff, Nat.reduceLT, Nat.reduceAdd, ↓reduceIte, reduceCtorEq, Nat.reduceLeDiff]
            simp [subF, lk]
      by_cases h0 : 0 < s.length
      · have d0 : decide ((0 : Int) < (s.length : Int)) = true := decide_eq_true (by omega)
        have cb := wBool_calls c1 2 ht1 (by decide)
        repeat (first | (refine W_seq ?_) | (refine W_reg ?_) | (refine W_regd ?_) | (refine W_block ?_) | (refine And.intro (by omega) ?_) | simp (maxSteps := 1000000) (disch := omega) only [cA, cB, lk, lkH, Dst.onT, Dst.onX, Dst.slot, setF, setH, mapF, mapH, initF, binE, unE, cnt, boundE, newsE, freshE, opE, rmH, blkQ, frz_us, Nat.reduceEqDiff, Nat.reduceLT, Nat.reduceAdd, ↓reduceIte, reduceCtorEq, Nat.reduceLeDiff, d0])
        refine callC_lend1 32 cb rfl (by simp [lkH]) ht1.rf (by simp [rn, fwd1]) fun q c2 hq hc2 hQ => ?_
        obtain ⟨ht2, b, rfl⟩ := hQ
        cases b
        · repeat (first | (refine W_seq ?_) | (refine W_reg ?_) | (refine W_regd ?_) | (refine W_block ?_) | (refine And.intro (by omega) ?_) | simp (maxSteps := 1000000) (disch := omega) only [cA, cB, lk, lkH, Dst.onT, Dst.onX, Dst.slot, setF, setH, mapF, mapH, initF, binE, unE, cnt, boundE, newsE, freshE, opE, rmH, blkQ, frz_us, Nat.reduceEqDiff, Nat.reduceLT, Nat.reduceAdd, ↓reduceIte, reduceCtorEq, Nat.reduceLeDiff])
          refine W_cond rfl (fun h => by cases h) (fun _ => W_skip ?_)
          simp (maxSteps := 1000000) (disch := omega) only [cA, cB, lk, lkH, Dst.onT, Dst.onX, Dst.slot, setF, setH, mapF, mapH, initF, binE, unE, cnt, boundE, newsE, freshE, opE, rmH, blkQ, frz_us, Nat.reduceEqDiff, Nat.reduceLT, Nat.reduceAdd, ↓reduceIte, reduceCtorEq, Nat.reduceLeDiff]
          unfold lcB lcT codelrColumns at inner
          dsimp only [dSeq1, dSeq2, dBlk, dLoop] at inner
          refine W_mono (W_sub (by simp [subF, lk]) (inner s c2 ht2 (by omega))) fun e' fr1 H1 h => ?_
          obtain ⟨rfl, hs, rfl⟩ := h
          simp (maxSteps := 1000000) (disch := omega) only [cA, cB, lk, lkH, Dst.onT, Dst.onX, Dst.slot, setF, setH, mapF, mapH, initF, binE, unE, cnt, boundE, newsE, freshE, opE, rmH, blkQ, frz_us, Nat.reduceEqDiff, Nat.reduceLT, Nat.reduceAdd, ↓reduceIte, reduceCtorEq, Nat.reduceLeDiff]
          refine W_sub hs ?_
          repeat (first | (refine W_seq ?_) | (refine W_reg ?_) | (refine W_regd ?_) | (refine W_block ?_) | (refine And.intro (by omega) ?_) | simp (maxSteps := 1000000) (disch := omega) only [cA, cB, lk, lkH, Dst.onT, Dst.onX, Dst.slot, setF, setH, mapF, mapH, initF, binE, unE, cnt, boundE, newsE, freshE, opE, rmH, blkQ, frz_us, Nat.reduceEqDiff, Nat.reduceLT, Nat.reduceAdd, ↓reduceIte, reduceCtorEq, Nat.reduceLeDiff, e1])
          exact ⟨(i + 1, c2), And.intro (by omega) ht2, by simp only; omega, by simp [subF, lk], rfl⟩
        · repeat (first | (refine W_seq ?_) | (refine W_reg ?_) | (refine W_regd ?_) | (refine W_block ?_) | (refine And.intro (by omega) ?_) | simp (maxSteps := 1000000) (disch := omega) only [cA, cB, lk, lkH, Dst.onT, Dst.onX, Dst.slot, setF, setH, mapF, mapH, initF, binE, unE, cnt, boundE, newsE, freshE, opE, rmH, blkQ, frz_us, Nat.reduceEqDiff, Nat.reduceLT, Nat.reduceAdd, ↓reduceIte, reduceCtorEq, Nat.reduceLeDiff])
          refine W_cond rfl (fun _ => ?_) (fun h => by cases h)
          have cn := wNext_calls c2 s.length ht2 (by omega)
          repeat (first | (refine W_seq ?_) | (refine W_reg ?_) | (refine W_regd ?_) | (refine W_block ?_) | (refine And.intro (by omega) ?_) | simp (maxSteps := 1000000) (disch := omega) only [cA, cB, lk, lkH, Dst.onT, Dst.onX, Dst.slot, setF, setH, mapF, mapH, initF, binE, unE, cnt, boundE, newsE, freshE, opE, rmH, blkQ, frz_us, Nat.reduceEqDiff, Nat.reduceLT, Nat.reduceAdd, ↓reduceIte, reduceCtorEq, Nat.reduceLeDiff])
          refine callC_lend1 32 cn rfl (by simp [lkH]) ht2.rf (by simp [rn, fwd1]) fun q c3 hq3 hc3 hQ => ?_
          obtain ⟨ht3, k, hk, rfl⟩ := hQ
          simp (maxSteps := 1000000) (disch := omega) only [cA, cB, lk, lkH, Dst.onT, Dst.onX, Dst.slot, setF, setH, mapF, mapH, initF, binE, unE, cnt, boundE, newsE, freshE, opE, rmH, blkQ, frz_us, Nat.reduceEqDiff, Nat.reduceLT, Nat.reduceAdd, ↓reduceIte, reduceCtorEq, Nat.reduceLeDiff]
          refine W_regdT ?_
          have hk1 : k < s.length := by omega
          have ek : (k : Int).toNat = k := Int.toNat_natCast k
          have hkl : (k : Int) ≤ (s.length : Int) := by omega
          have htk : (s.take k).length ≤ 30000 := by rw [List.length_take]; omega
          repeat (first | (refine And.intro (by omega) ?_) | (refine regWT_op rfl (by decide) ?_) | simp (maxSteps := 1000000) (disch := omega) only [cA, cB, lk, lkH, Dst.onT, Dst.onX, Dst.slot, setF, setH, mapF, mapH, initF, binE, unE, cnt, boundE, newsE, freshE, opE, rmH, blkQ, frz_us, Nat.reduceEqDiff, Nat.reduceLT, Nat.reduceAdd, ↓reduceIte, reduceCtorEq, Nat.reduceLeDiff, contT_go, regWT_call, ek, List.drop_zero])
          refine callTW_of 32 (wNext_calls c3 3 ht3 (by decide)) (by simp [lkH]) ht3.rf (by simp [rn, fwd1]) (drawQ_some 3 ht3) fun q c4 hq4 hc4 hQ => ?_
          obtain ⟨ht4, z, hz, rfl⟩ := hQ
          have hz3 : z < 3 := by omega
          have hzb : bytesOf [.int .u8 ((32 : Int) + (z : Int))] = some [UInt8.ofNat (32 + z)] := by
            have : ((32 : Int) + (z : Int)).toNat = 32 + z := by omega
            simp [Dat.bytesOf, Dat.byteOf, this]
          repeat (first | (refine And.intro (by omega) ?_) | (refine regWT_op rfl (by decide) ?_) | simp (maxSteps := 1000000) (disch := omega) only [cA, cB, lk, lkH, Dst.onT, Dst.onX, Dst.slot, setF, setH, mapF, mapH, initF, binE, unE, cnt, boundE, newsE, freshE, opE, rmH, blkQ, frz_us, Nat.reduceEqDiff, Nat.reduceLT, Nat.reduceAdd, ↓reduceIte, reduceCtorEq, Nat.reduceLeDiff, contT_go, regWT_call, ek, List.drop_zero, cS, rfm_nil, rfm_int, hzb])
          refine callTW_of 32 (wNext_calls c4 2 ht4 (by decide)) (by simp [lkH]) ht4.rf (by simp [rn, fwd1]) (drawQ_some 2 ht4) fun q c5 hq5 hc5 hQ => ?_
          obtain ⟨ht5, y, hy, rfl⟩ := hQ
          have hy2 : y < 2 := by omega
          have eky : ((k : Int) + (y : Int)).toNat = k + y := by omega
          have hky : (k : Int) + (y : Int) ≤ (s.length : Int) := by omega
          have hta : (s.take s.length).drop (k + y) = s.drop (k + y) := by rw [List.take_length]
          have hdl : (s.drop (k + y)).length ≤ 30000 := by rw [List.length_drop]; omega
          repeat (first | (refine And.intro (by omega) ?_) | (refine regWT_op rfl (by decide) ?_) | simp (maxSteps := 1000000) (disch := omega) only [cA, cB, lk, lkH, Dst.onT, Dst.onX, Dst.slot, setF, setH, mapF, mapH, initF, binE, unE, cnt, boundE, newsE, freshE, opE, rmH, blkQ, frz_us, Nat.reduceEqDiff, Nat.reduceLT, Nat.reduceAdd, ↓reduceIte, reduceCtorEq, Nat.reduceLeDiff, contT_go, regWT_call, eky, hta])
          have hAl : ((s.take k ++ [UInt8.ofNat (32 + z)]) ++ s.drop (k + y)).length ≤ 100000 := by
            rw [List.length_append, List.length_append, List.length_singleton]; omega
          refine And.intro (by rw [List.length_append, List.length_singleton]; omega) ?_
          refine regWT_op rfl (by decide) ?_
          simp (maxSteps := 1000000) (disch := omega) only [cA, cB, lk, lkH, Dst.onT, Dst.onX, Dst.slot, setF, setH, mapF, mapH, initF, binE, unE, cnt, boundE, newsE, freshE, opE, rmH, blkQ, frz_us, Nat.reduceEqDiff, Nat.reduceLT, Nat.reduceAdd, ↓reduceIte, reduceCtorEq, Nat.reduceLeDiff, contT_go, regWT_nil]
          unfold lcB lcT codelrColumns at inner
          dsimp only [dSeq1, dSeq2, dBlk, dLoop] at inner
          refine W_mono (W_sub (by simp [subF, lk]) (inner ((s.take k ++ [UInt8.ofNat (32 + z)]) ++ s.drop (k + y)) c5 ht5 (by omega))) fun e' fr1 H1 h => ?_
          obtain ⟨rfl, hs, rfl⟩ := h
          simp (maxSteps := 1000000) (disch := omega) only [cA, cB, lk, lkH, Dst.onT, Dst.onX, Dst.slot, setF, setH, mapF, mapH, initF, binE, unE, cnt, boundE, newsE, freshE, opE, rmH, blkQ, frz_us, Nat.reduceEqDiff, Nat.reduceLT, Nat.reduceAdd, ↓reduceIte, reduceCtorEq, Nat.reduceLeDiff]
          refine W_sub hs ?_
          repeat (first | (refine W_seq ?_) | (refine W_reg ?_) | (refine W_regd ?_) | (refine W_block ?_) | (refine And.intro (by omega) ?_) | simp (maxSteps := 1000000) (disch := omega) only [cA, cB, lk, lkH, Dst.onT, Dst.onX, Dst.slot, setF, setH, mapF, mapH, initF, binE, unE, cnt, boundE, newsE, freshE, opE, rmH, blkQ, frz_us, Nat.reduceEqDiff, Nat.reduceLT, Nat.reduceAdd, ↓reduceIte, reduceCtorEq, Nat.reduceLeDiff, e1])
          exact ⟨(i + 1, c5), And.intro (by omega) ht5, by simp only; omega, by simp [subF, lk], rfl⟩
      · have d0 : decide ((0 : Int) < (s.length : Int)) = false := decide_eq_false (by omega)
        repeat (first | (refine W_seq ?_) | (refine W_reg ?_) | (refine W_regd ?_) | (refine W_block ?_) | (refine And.intro (by omega) ?_) | simp (maxSteps := 1000000) (disch := omega) only [cA, cB, lk, lkH, Dst.onT, Dst.onX, Dst.slot, setF, setH, mapF, mapH, initF, binE, unE, cnt, boundE, newsE, freshE, opE, rmH, blkQ, frz_us, Nat.reduceEqDiff, Nat.reduceLT, Nat.reduceAdd, ↓reduceIte, reduceCtorEq, Nat.reduceLeDiff, d0])
        refine W_cond rfl (fun h => by cases h) (fun _ => W_skip ?_)
        simp (maxSteps := 1000000) (disch := omega) only [cA, cB, lk, lkH, Dst.onT, Dst.onX, Dst.slot, setF, setH, mapF, mapH, initF, binE, unE, cnt, boundE, newsE, freshE, opE, rmH, blkQ, frz_us, Nat.reduceEqDiff, Nat.reduceLT, Nat.reduceAdd, ↓reduceIte, reduceCtorEq, Nat.reduceLeDiff]
        unfold lcB lcT codelrColumns at inner
        dsimp only [dSeq1, dSeq2, dBlk, dLoop] at inner
        refine W_mono (W_sub (by simp [subF, lk]) (inner s c1 ht1 (by omega))) fun e' fr1 H1 h => ?_
        obtain ⟨rfl, hs, rfl⟩ := h
        simp (maxSteps := 1000000) (disch := omega) only [cA, cB, lk, lkH, Dst.onT, Dst.onX, Dst.slot, setF, setH, mapF, mapH, initF, binE, unE, cnt, boundE, newsE, freshE, opE, rmH, blkQ, frz_us, Nat.reduceEqDiff, Nat.reduceLT, Nat.reduceAdd, ↓reduceIte, reduceCtorEq, Nat.reduceLeDiff]
        refine W_sub hs ?_
        repeat (first | (refine W_seq ?_) | (refine W_reg ?_) | (refine W_regd ?_) | (refine W_block ?_) | (refine And.intro (by omega) ?_) | simp (maxSteps := 1000000) (disch := omega) only [cA, cB, lk, lkH, Dst.onT, Dst.onX, Dst.slot, setF, setH, mapF, mapH, initF, binE, unE, cnt, boundE, newsE, freshE, opE, rmH, blkQ, frz_us, Nat.reduceEqDiff, Nat.reduceLT, Nat.reduceAdd, ↓reduceIte, reduceCtorEq, Nat.reduceLeDiff, e1])
        exact ⟨(i + 1, c1), And.intro (by omega) ht1, by simp only; omega, by simp [subF, lk], rfl⟩
    · have dl : decide ((i : Int) < 2) = false := decide_eq_false (by omega)
      have aw := lr_awake_calls
      repeat (first | (refine W_seq ?_) | (refine W_reg ?_) | (refine W_regd ?_) | (refine W_block ?_) | (refine And.intro (by omega) ?_) | simp (maxSteps := 1000000) (disch := omega) only [cA, cB, lk, lkH, Dst.onT, Dst.onX, Dst.slot, setF, setH, mapF, mapH, initF, binE, unE, cnt, boundE, newsE, freshE, opE, rmH, blkQ, frz_us, Nat.reduceEqDiff, Nat.reduceLT, Nat.reduceAdd, ↓reduceIte, reduceCtorEq, Nat.reduceLeDiff, dl])
      refine W_cond rfl (fun h => by cases h) (fun _ => W_exit ?_)
      repeat (first | (refine W_seq ?_) | (refine W_reg ?_) | (refine W_regd ?_) | (refine W_block ?_) | (refine And.intro (by omega) ?_) | simp (maxSteps := 1000000) (disch := omega) only [cA, cB, lk, lkH, Dst.onT, Dst.onX, Dst.slot, setF, setH, mapF, mapH, initF, binE, unE, cnt, boundE, newsE, freshE, opE, rmH, blkQ, frz_us, Nat.reduceEqDiff, Nat.reduceLT, Nat.reduceAdd, ↓reduceIte, reduceCtorEq, Nat.reduceLeDiff] | (refine callC_pure (aw) rfl ?_) | exact W_ret (RetP_1 (.imm rfl)) | exact W_ret (RetP_c rfl rfl rfl (.imm rfl)))
theorem recB_mono {n m : Nat} {rs : List (List Bs)} (h : recB n rs) (hm : n ≤ m) : recB m rs := ⟨by have := h.1; omega, fun i => by have := h.2.1 i; omega, fun i j => by have := h.2.2 i j; omega⟩
theorem drawn_len (odd : Bool) : ∀ s ∈ drawn odd, s.length ≤ 40 := by cases odd <;> decide
theorem recsQ_B {S : List Bs} (hS : ∀ s ∈ S, s.length ≤ 40) {c' : List DV} {n : Nat} {cs : List DV} (h : recsQ S c' n cs) : isTp c' ∧ ∃ rs : List (List Bs), cs = recD rs ∧ n = rs.length ∧ 1 ≤ n ∧ n ≤ 4 ∧ ∀ r ∈ rs, r.length ≤ 40 ∧ ∀ x ∈ r, x.length ≤ 40 := by
  obtain ⟨h1, rs, h2, h3, h4, h5, m, h6, h7, h8⟩ := h
  exact ⟨h1, rs, h5, h3, h4, by omega, fun r hr => ⟨by have := (h8 r hr).1; omega, fun x hx => hS x ((h8 r hr).2 x hx)⟩⟩
theorem set_nil_wk {rs : List (List Bs)} {k : Nat} (hk : k < rs.length) (i : Nat) (d d' : DV) (h1 : ((recD rs).set k .nils)[i]? = some d) (h2 : (recD (rs.set k []))[i]? = some d') (w : World) (L : Nat → Option Nat) (A : Nat → Prop) (v : Value) (hv : V w L A d v) : V w L A d' v := by
  have hs := recD_len rs
  rw [List.getElem?_set] at h1
  unfold recD at h2
  rw [List.getElem?_map, List.getElem?_set] at h2
  by_cases e : k = i
  · subst e
    rw [if_pos rfl, if_pos (by omega)] at h1
    rw [if_pos rfl, if_pos hk] at h2
    cases h1; cases h2
    exact wk_nils 1 _ _ _ _ hv
  · rw [if_neg e] at h1
    rw [if_neg e] at h2
    unfold recD at h1
    rw [List.getElem?_map] at h1
    rw [h1] at h2
    cases h2; exact hv
set_option maxHeartbeats 4000000 in
theorem lrColumns_calls (l : List Int) (raw : List (List Bs)) (text : Bs) (hl : l.length ≤ 9223372036854775807) (hr : recB 9223372036854775807 raw) (ht : text.length ≤ 9223372036854775807) :
    PCalls Tryd.prog 3 [.sl 1 (l.map (.int .i64)), .sl 1 (recD raw), .str text] (.bool true) := by
  have aw := lr_awake_calls
  have hrl := recD_len raw
  refine PCalls_of islrColumns (by simp [fnlrColumns]) ?_
  unfold codelrColumns
  by_cases h1 : 20 < raw.length
  · have d1 : decide ((20 : Int) < (raw.length : Int)) = true := decide_eq_true (by omega)
    repeat (first | (refine W_seq ?_) | (refine W_reg ?_) | (refine W_regd ?_) | (refine W_block ?_) | (refine And.intro (by omega) ?_) | simp (maxSteps := 1000000) (disch := omega) only [cA, cB, lk, lkH, Dst.onT, Dst.onX, Dst.slot, setF, setH, mapF, mapH, initF, binE, unE, cnt, boundE, newsE, freshE, opE, rmH, blkQ, frz_us, Nat.reduceEqDiff, Nat.reduceLT, Nat.reduceAdd, ↓reduceIte, reduceCtorEq, Nat.reduceLeDiff, hrl, d1])
    refine W_cond rfl (fun _ => ?_) (fun h => by cases h)
    repeat (first | (refine W_seq ?_) | (refine W_reg ?_) | (refine W_regd ?_) | (refine W_block ?_) | (refine And.intro (by omega) ?_) | simp (maxSteps := 1000000) (disch := omega) only [cA, cB, lk, lkH, Dst.onT, Dst.onX, Dst.slot, setF, setH, mapF, mapH, initF, binE, unE, cnt, boundE, newsE, freshE, opE, rmH, blkQ, frz_us, Nat.reduceEqDiff, Nat.reduceLT, Nat.reduceAdd, ↓reduceIte, reduceCtorEq, Nat.reduceLeDiff] | (refine callC_pure (aw) rfl ?_) | exact W_ret (RetP_1 (.imm rfl)) | exact W_ret (RetP_c rfl rfl rfl (.imm rfl)))
  · have d1 : decide ((20 : Int) < (raw.length : Int)) = false := decide_eq_false (by omega)
    by_cases h2 : 500 < text.length
    · have d2 : decide ((500 : Int) < (text.length : Int)) = true := decide_eq_true (by omega)
      repeat (first | (refine W_seq ?_) | (refine W_reg ?_) | (refine W_regd ?_) | (refine W_block ?_) | (refine And.intro (by omega) ?_) | simp (maxSteps := 1000000) (disch := omega) only [cA, cB, lk, lkH, Dst.onT, Dst.onX, Dst.slot, setF, setH, mapF, mapH, initF, binE, unE, cnt, boundE, newsE, freshE, opE, rmH, blkQ, frz_us, Nat.reduceEqDiff, Nat.reduceLT, Nat.reduceAdd, ↓reduceIte, reduceCtorEq, Nat.reduceLeDiff, hrl, d1, d2])
      refine W_cond rfl (fun _ => ?_) (fun h => by cases h)
      repeat (first | (refine W_seq ?_) | (refine W_reg ?_) | (refine W_regd ?_) | (refine W_block ?_) | (refine And.intro (by omega) ?_) | simp (maxSteps := 1000000) (disch := omega) only [cA, cB, lk, lkH, Dst.onT, Dst.onX, Dst.slot, setF, setH, mapF, mapH, initF, binE, unE, cnt, boundE, newsE, freshE, opE, rmH, blkQ, frz_us, Nat.reduceEqDiff, Nat.reduceLT, Nat.reduceAdd, ↓reduceIte, reduceCtorEq, Nat.reduceLeDiff] | (refine callC_pure (aw) rfl ?_) | exact W_ret (RetP_1 (.imm rfl)) | exact W_ret (RetP_c rfl rfl rfl (.imm rfl)))
    · have d2 : decide ((500 : Int) < (text.length : Int)) = false := decide_eq_false (by omega)
      have hfin : ∀ (X : List (List Bs)) (c : List DV), isTp c → (∀ r ∈ X, r.length ≤ 40 ∧ ∀ x ∈ r, x.length ≤ 40) → X.length ≤ 4 → W fnlrColumns lcT (RetP reslrColumns (.bool true)) [(1, .sl 1 (recD raw)), (2, .str text), (7, .ptr 32 0), (8, .sl 1 (recD X))] [(32, c)] := fun X c hc hX hX2 =>
        colTail X raw text c hc (recB_mono (recB_of (n := 40) (by omega) hX) (by decide)) (by omega) hr (by omega) (by omega)
      unfold lcT codelrColumns at hfin
      dsimp only [dSeq2] at hfin
      clear aw
      repeat (first | (refine W_seq ?_) | (refine W_reg ?_) | (refine W_regd ?_) | (refine W_block ?_) | (refine And.intro (by omega) ?_) | simp (maxSteps := 1000000) (disch := omega) only [cA, cB, lk, lkH, Dst.onT, Dst.onX, Dst.slot, setF, setH, mapF, mapH, initF, binE, unE, cnt, boundE, newsE, freshE, opE, rmH, blkQ, frz_us, Nat.reduceEqDiff, Nat.reduceLT, Nat.reduceAdd, ↓reduceIte, reduceCtorEq, Nat.reduceLeDiff, hrl, d1, d2])
      refine W_cond rfl (fun h => by cases h) (fun _ => W_skip ?_)
      repeat (first | (refine W_seq ?_) | (refine W_reg ?_) | (refine W_regd ?_) | (refine W_block ?_) | (refine And.intro (by omega) ?_) | simp (maxSteps := 1000000) (disch := omega) only [cA, cB, lk, lkH, Dst.onT, Dst.onX, Dst.slot, setF, setH, mapF, mapH, initF, binE, unE, cnt, boundE, newsE, freshE, opE, rmH, blkQ, frz_us, Nat.reduceEqDiff, Nat.reduceLT, Nat.reduceAdd, ↓reduceIte, reduceCtorEq, Nat.reduceLeDiff])
      refine callC_new1 32 (wNew_calls l hl) rfl (by decide) (by simp [lkH]) (by simp [DV.rf]) fun c0 hc0 ht0 => ?_
      repeat (first | (refine W_seq ?_) | (refine W_reg ?_) | (refine W_regd ?_) | (refine W_block ?_) | (refine And.intro (by omega) ?_) | simp (maxSteps := 1000000) (disch := omega) only [cA, cB, lk, lkH, Dst.onT, Dst.onX, Dst.slot, setF, setH, mapF, mapH, initF, binE, unE, cnt, boundE, newsE, freshE, opE, rmH, blkQ, frz_us, Nat.reduceEqDiff, Nat.reduceLT, Nat.reduceAdd, ↓reduceIte, reduceCtorEq, Nat.reduceLeDiff])
      refine callC_lendn 32 34 (lrRecords_calls c0 true ht0) rfl (by decide) (by decide) (by decide) (by simp [lkH]) (by simp [lkH]) hc0 (by simp [rn, fwdm]) fun c1 n cs hc1 hcs hQ => ?_
      obtain ⟨ht1, rs, rfl, rfl, hn1, hn4, hrs⟩ := recsQ_B (drawn_len true) hQ
      clear hQ
      repeat (first | (refine W_seq ?_) | (refine W_reg ?_) | (refine W_regd ?_) | (refine W_block ?_) | (refine And.intro (by omega) ?_) | simp (maxSteps := 1000000) (disch := omega) only [cA, cB, lk, lkH, Dst.onT, Dst.onX, Dst.slot, setF, setH, mapF, mapH, initF, binE, unE, cnt, boundE, newsE, freshE, opE, rmH, blkQ, frz_us, Nat.reduceEqDiff, Nat.reduceLT, Nat.reduceAdd, ↓reduceIte, reduceCtorEq, Nat.reduceLeDiff])
      refine callC_lend1 32 (wNext_calls c1 8 ht1 (by decide)) rfl (by simp [lkH]) hc1 (by simp [rn, fwd1]) fun q c2 hq hc2 hQ => ?_
      obtain ⟨ht2, k, hk, rfl⟩ := hQ
      have hrc := List.all_eq_true.2 (recD_rf rs)
      have hz := frz_recD' rs 34
      have hlr := recD_len rs
      have hpz : ∀ o xs, o ≠ 32 → frz o xs (.ptr 32 0) = .ptr 32 0 := fun o xs h => frz_ptr_ne _ _ 0 (Ne.symm h)
      by_cases k5 : k = 5
      · have e5 : decide ((k : Int) = 5) = true := decide_eq_true (by omega)
        repeat (first | (refine W_seq ?_) | (refine W_reg ?_) | (refine W_regd ?_) | (refine W_block ?_) | (refine And.intro (by omega) ?_) | simp (maxSteps := 1000000) (disch := omega) only [cA, cB, lk, lkH, Dst.onT, Dst.onX, Dst.slot, setF, setH, mapF, mapH, initF, binE, unE, cnt, boundE, newsE, freshE, opE, rmH, blkQ, frz_us, Nat.reduceEqDiff, Nat.reduceLT, Nat.reduceAdd, ↓reduceIte, reduceCtorEq, Nat.reduceLeDiff, e5])
        refine W_cond rfl (fun _ => ?_) (fun h => by cases h)
        repeat (first | (refine W_seq ?_) | (refine W_reg ?_) | (refine W_regd ?_) | (refine W_block ?_) | (refine And.intro (by omega) ?_) | simp (maxSteps := 1000000) (disch := omega) only [cA, cB, lk, lkH, Dst.onT, Dst.onX, Dst.slot, setF, setH, mapF, mapH, initF, binE, unE, cnt, boundE, newsE, freshE, opE, rmH, blkQ, frz_us, Nat.reduceEqDiff, Nat.reduceLT, Nat.reduceAdd, ↓reduceIte, reduceCtorEq, Nat.reduceLeDiff])
        refine callC_lendn 32 40 (lrRecords_calls c2 false ht2) rfl (by decide) (by decide) (by decide) (by simp [lkH]) (by simp [lkH]) hc2 (by simp [rn, fwdm]) fun c3 n3 cs3 hc3 hcs3 hQ => ?_
        obtain ⟨ht3, rs3, rfl, rfl, hn31, hn34, hrs3⟩ := recsQ_B (drawn_len false) hQ
        clear hQ
        simp (maxSteps := 1000000) (disch := omega) only [cA, cB, lk, lkH, Dst.onT, Dst.onX, Dst.slot, setF, setH, mapF, mapH, initF, binE, unE, cnt, boundE, newsE, freshE, opE, rmH, blkQ, frz_us, Nat.reduceEqDiff, Nat.reduceLT, Nat.reduceAdd, ↓reduceIte, reduceCtorEq, Nat.reduceLeDiff]
        refine W_freeze 40 (cells := recD rs3) rfl (List.all_eq_true.2 (recD_rf rs3)) ?_
        have hz3 := frz_recD' rs3 40
        have hf3 := fun o xs => map_frz o xs hc3
        simp (maxSteps := 1000000) (disch := omega) only [cA, cB, lk, lkH, Dst.onT, Dst.onX, Dst.slot, setF, setH, mapF, mapH, initF, binE, unE, cnt, boundE, newsE, freshE, opE, rmH, blkQ, frz_us, Nat.reduceEqDiff, Nat.reduceLT, Nat.reduceAdd, ↓reduceIte, reduceCtorEq, Nat.reduceLeDiff, hz3, frz_recD, hf3]
        refine W_freeze 34 (cells := recD rs) rfl hrc ?_
        simp (maxSteps := 1000000) (disch := omega) only [cA, cB, lk, lkH, Dst.onT, Dst.onX, Dst.slot, setF, setH, mapF, mapH, initF, binE, unE, cnt, boundE, newsE, freshE, opE, rmH, blkQ, frz_us, Nat.reduceEqDiff, Nat.reduceLT, Nat.reduceAdd, ↓reduceIte, reduceCtorEq, Nat.reduceLeDiff, frz_recD, hf3]
        exact W_sub (by simp [subF, lk, hpz]) (hfin rs3 c3 ht3 hrs3 hn34)
      · have e5 : decide ((k : Int) = 5) = false := decide_eq_false (by omega)
        have hf2 := fun o xs => map_frz o xs hc2
        by_cases k6 : k = 6
        · have e6 : decide ((k : Int) = 6) = true := decide_eq_true (by omega)
          repeat (first | (refine W_seq ?_) | (refine W_reg ?_) | (refine W_regd ?_) | (refine W_block ?_) | (refine And.intro (by omega) ?_) | simp (maxSteps := 1000000) (disch := omega) only [cA, cB, lk, lkH, Dst.onT, Dst.onX, Dst.slot, setF, setH, mapF, mapH, initF, binE, unE, cnt, boundE, newsE, freshE, opE, rmH, blkQ, frz_us, Nat.reduceEqDiff, Nat.reduceLT, Nat.reduceAdd, ↓reduceIte, reduceCtorEq, Nat.reduceLeDiff, e5])
          refine W_cond rfl (fun h => by cases h) (fun _ => ?_)
          repeat (first | (refine W_seq ?_) | (refine W_reg ?_) | (refine W_regd ?_) | (refine W_block ?_) | (refine And.intro (by omega) ?_) | simp (maxSteps := 1000000) (disch := omega) only [cA, cB, lk, lkH, Dst.onT, Dst.onX, Dst.slot, setF, setH, mapF, mapH, initF, binE, unE, cnt, boundE, newsE, freshE, opE, rmH, blkQ, frz_us, Nat.reduceEqDiff, Nat.reduceLT, Nat.reduceAdd, ↓reduceIte, reduceCtorEq, Nat.reduceLeDiff, e6])
          refine W_cond rfl (fun _ => ?_) (fun h => by cases h)
          repeat (first | (refine W_seq ?_) | (refine W_reg ?_) | (refine W_regd ?_) | (refine W_block ?_) | (refine And.intro (by omega) ?_) | simp (maxSteps := 1000000) (disch := omega) only [cA, cB, lk, lkH, Dst.onT, Dst.onX, Dst.slot, setF, setH, mapF, mapH, initF, binE, unE, cnt, boundE, newsE, freshE, opE, rmH, blkQ, frz_us, Nat.reduceEqDiff, Nat.reduceLT, Nat.reduceAdd, ↓reduceIte, reduceCtorEq, Nat.reduceLeDiff])
          refine callC_lend1 32 (wNext_calls c2 rs.length ht2 (by omega)) rfl (by simp [lkH]) hc2 (by simp [rn, fwd1]) fun q c3 hq3 hc3 hQ => ?_
          obtain ⟨ht3, j, hj, rfl⟩ := hQ
          have hjl : j < rs.length := by omega
          have ej : (j : Int).toNat = j := Int.toNat_natCast j
          have hjc : (j : Int) < (rs.length : Int) := by omega
          have hf3 := fun o xs => map_frz o xs hc3
          repeat (first | (refine And.intro (by omega) ?_) | simp (maxSteps := 1000000) (disch := omega) only [cA, cB, lk, lkH, Dst.onT, Dst.onX, Dst.slot, setF, setH, mapF, mapH, initF, binE, unE, cnt, boundE, newsE, freshE, opE, rmH, blkQ, frz_us, Nat.reduceEqDiff, Nat.reduceLT, Nat.reduceAdd, ↓reduceIte, reduceCtorEq, Nat.reduceLeDiff, ej, hlr])
          refine And.intro (And.intro rfl hjl) ?_
          refine W_wkc 34 (cells := (recD rs).set j .nils) (cells' := recD (rs.set j [])) rfl (by rw [List.length_set, hlr, recD_len, List.length_set]) (set_nil_wk hjl) ?_
          simp (maxSteps := 1000000) (disch := omega) only [cA, cB, lk, lkH, Dst.onT, Dst.onX, Dst.slot, setF, setH, mapF, mapH, initF, binE, unE, cnt, boundE, newsE, freshE, opE, rmH, blkQ, frz_us, Nat.reduceEqDiff, Nat.reduceLT, Nat.reduceAdd, ↓reduceIte, reduceCtorEq, Nat.reduceLeDiff]
          refine W_freeze 34 (cells := recD (rs.set j [])) rfl (List.all_eq_true.2 (recD_rf _)) ?_
          have hz3 := frz_recD' (rs.set j []) 34
          rw [List.length_set] at hz3
          simp (maxSteps := 1000000) (disch := omega) only [cA, cB, lk, lkH, Dst.onT, Dst.onX, Dst.slot, setF, setH, mapF, mapH, initF, binE, unE, cnt, boundE, newsE, freshE, opE, rmH, blkQ, frz_us, Nat.reduceEqDiff, Nat.reduceLT, Nat.reduceAdd, ↓reduceIte, reduceCtorEq, Nat.reduceLeDiff, hz3, hf3]
          exact W_sub (by simp [subF, lk, hpz]) (hfin (rs.set j []) c3 ht3 (fun r hr => by
            rcases List.mem_or_eq_of_mem_set hr with h | h
            · exact hrs r h
            · rw [h]; exact ⟨Nat.zero_le _, fun x hx => by cases hx⟩) (by rw [List.length_set]; omega))
        · have e6 : decide ((k : Int) = 6) = false := decide_eq_false (by omega)
          repeat (first | (refine W_seq ?_) | (refine W_reg ?_) | (refine W_regd ?_) | (refine W_block ?_) | (refine And.intro (by omega) ?_) | simp (maxSteps := 1000000) (disch := omega) only [cA, cB, lk, lkH, Dst.onT, Dst.onX, Dst.slot, setF, setH, mapF, mapH, initF, binE, unE, cnt, boundE, newsE, freshE, opE, rmH, blkQ, frz_us, Nat.reduceEqDiff, Nat.reduceLT, Nat.reduceAdd, ↓reduceIte, reduceCtorEq, Nat.reduceLeDiff, e5])
          refine W_cond rfl (fun h => by cases h) (fun _ => ?_)
          repeat (first | (refine W_seq ?_) | (refine W_reg ?_) | (refine W_regd ?_) | (refine W_block ?_) | (refine And.intro (by omega) ?_) | simp (maxSteps := 1000000) (disch := omega) only [cA, cB, lk, lkH, Dst.onT, Dst.onX, Dst.slot, setF, setH, mapF, mapH, initF, binE, unE, cnt, boundE, newsE, freshE, opE, rmH, blkQ, frz_us, Nat.reduceEqDiff, Nat.reduceLT, Nat.reduceAdd, ↓reduceIte, reduceCtorEq, Nat.reduceLeDiff, e6])
          refine W_cond rfl (fun h => by cases h) (fun _ => ?_)
          by_cases k7 : k = 7
          · have e7 : decide ((k : Int) = 7) = true := decide_eq_true (by omega)
            repeat (first | (refine W_seq ?_) | (refine W_reg ?_) | (refine W_regd ?_) | (refine W_block ?_) | (refine And.intro (by omega) ?_) | simp (maxSteps := 1000000) (disch := omega) only [cA, cB, lk, lkH, Dst.onT, Dst.onX, Dst.slot, setF, setH, mapF, mapH, initF, binE, unE, cnt, boundE, newsE, freshE, opE, rmH, blkQ, frz_us, Nat.reduceEqDiff, Nat.reduceLT, Nat.reduceAdd, ↓reduceIte, reduceCtorEq, Nat.reduceLeDiff, e7])
            refine W_cond rfl (fun _ => ?_) (fun h => by cases h)
            refine W_reg ?_
            simp (maxSteps := 1000000) (disch := omega) only [cA, cB, lk, lkH, Dst.onT, Dst.onX, Dst.slot, setF, setH, mapF, mapH, initF, binE, unE, cnt, boundE, newsE, freshE, opE, rmH, blkQ, frz_us, Nat.reduceEqDiff, Nat.reduceLT, Nat.reduceAdd, ↓reduceIte, reduceCtorEq, Nat.reduceLeDiff]
            refine W_own 8 1 8 rfl (by simp [lkH]) ?_
            simp (maxSteps := 1000000) (disch := omega) only [cA, cB, lk, lkH, Dst.onT, Dst.onX, Dst.slot, setF, setH, mapF, mapH, initF, binE, unE, cnt, boundE, newsE, freshE, opE, rmH, blkQ, frz_us, Nat.reduceEqDiff, Nat.reduceLT, Nat.reduceAdd, ↓reduceIte, reduceCtorEq, Nat.reduceLeDiff]
            refine W_freeze 8 (cells := []) rfl rfl ?_
            simp (maxSteps := 1000000) (disch := omega) only [cA, cB, lk, lkH, Dst.onT, Dst.onX, Dst.slot, setF, setH, mapF, mapH, initF, binE, unE, cnt, boundE, newsE, freshE, opE, rmH, blkQ, frz_us, Nat.reduceEqDiff, Nat.reduceLT, Nat.reduceAdd, ↓reduceIte, reduceCtorEq, Nat.reduceLeDiff, frz_recD, hf2]
            refine W_freeze 34 (cells := recD rs) rfl hrc ?_
            simp (maxSteps := 1000000) (disch := omega) only [cA, cB, lk, lkH, Dst.onT, Dst.onX, Dst.slot, setF, setH, mapF, mapH, initF, binE, unE, cnt, boundE, newsE, freshE, opE, rmH, blkQ, frz_us, Nat.reduceEqDiff, Nat.reduceLT, Nat.reduceAdd, ↓reduceIte, reduceCtorEq, Nat.reduceLeDiff, hf2]
            exact W_sub (by simp [subF, lk, hpz, frz, purge, DV.has, recD]) (hfin [] c2 ht2 (fun r hr => by cases hr) (Nat.zero_le _))
          · have e7 : decide ((k : Int) = 7) = false := decide_eq_false (by omega)
            repeat (first | (refine W_seq ?_) | (refine W_reg ?_) | (refine W_regd ?_) | (refine W_block ?_) | (refine And.intro (by omega) ?_) | simp (maxSteps := 1000000) (disch := omega) only [cA, cB, lk, lkH, Dst.onT, Dst.onX, Dst.slot, setF, setH, mapF, mapH, initF, binE, unE, cnt, boundE, newsE, freshE, opE, rmH, blkQ, frz_us, Nat.reduceEqDiff, Nat.reduceLT, Nat.reduceAdd, ↓reduceIte, reduceCtorEq, Nat.reduceLeDiff, e7])
            refine W_cond rfl (fun h => by cases h) (fun _ => W_skip ?_)
            simp (maxSteps := 1000000) (disch := omega) only [cA, cB, lk, lkH, Dst.onT, Dst.onX, Dst.slot, setF, setH, mapF, mapH, initF, binE, unE, cnt, boundE, newsE, freshE, opE, rmH, blkQ, frz_us, Nat.reduceEqDiff, Nat.reduceLT, Nat.reduceAdd, ↓reduceIte, reduceCtorEq, Nat.reduceLeDiff]
            refine W_freeze 34 (cells := recD rs) rfl hrc ?_
            simp (maxSteps := 1000000) (disch := omega) only [cA, cB, lk, lkH, Dst.onT, Dst.onX, Dst.slot, setF, setH, mapF, mapH, initF, binE, unE, cnt, boundE, newsE, freshE, opE, rmH, blkQ, frz_us, Nat.reduceEqDiff, Nat.reduceLT, Nat.reduceAdd, ↓reduceIte, reduceCtorEq, Nat.reduceLeDiff, hz, hf2]
            exact W_sub (by simp [subF, lk, hpz]) (hfin rs c2 ht2 hrs hn4)
end Go.Proofs.YtammbggabhnfdaaDoor
namespace Go.Proofs.YtammbggabhnfdaaDoor
open Go Go.Dat Go.Proofs Go.RowKit
theorem law_of {f : Nat} {ds : List DV} {vs : Array Value} {w : World} (hc : PCalls Tryd.prog f ds (.bool true)) (hT : Tab Tryd.prog w) (hs : vs.size = ds.length) (hv : ∀ (k : Nat) d v, ds[k]? = some d → vs[k]? = some v → VI w (fun _ => False) d v) :
    Calls Tryd.prog f vs w fun e w' => e = .returned (.bool true) ∧ Below w.heap.size w w' := by
  refine (hc (fun _ => False) w vs hT (fun b h => h.elim) hs hv).mono ?_
  rintro e w' ⟨v, rfl, hvi, hx⟩
  refine ⟨?_, hx.os, hx.tape, hx.output, hx.size, fun k hk => hx.block k hk id⟩
  cases hvi; rfl
theorem tab_shaped {w : World} (h : w.ShapedOpen Tryd.prog) : Tab Tryd.prog w := by
  refine ⟨fun g hg => ?_, fun g hg => ?_⟩
  · rw [show Tryd.prog.globalNamed tabName = none by kernel_rfl] at hg
    cases hg
  · rw [show Tryd.prog.globalNamed maxName = some 0 by kernel_rfl] at hg
    cases hg
    obtain ⟨m, hm⟩ := Tryd.laysM146.s1_3 w h
    exact ⟨World.block_lt_of_cell? w _ hm, m, hm⟩
theorem handed_and_shaped {H : Type} {enc : TypeId × Value → H} {a : Assume} {C : Checked} {os : Os} {f : FuncId} {fn : Func} {s : ChangeSpec} {conds : List PathCond} {apart fresh handsOn again : Bool} {X : World → Array Value → Prop}
    (hX : ∀ (w w' : World) (args : Array Value), w.heap = w'.heap → X w args → X w' args)
    (own : ownKnob C.prog.godebug = none) (started : os.Started) (noInit : C.prog.inits.idxOf? f = none) (hfn : C.prog.funcs[f]? = some fn)
    (witness : ∃ (w : World) (tape : Tape) (i : Input), w.os = os ∧ (w.forCall tape i).Shaped C.prog ∧ i.vars = [] ∧ Input.okWide C.prog (w.forCall tape i) .any w.heap.size f i ∧
      ((s.pre enc C.prog fn conds apart (w.forCall tape i).memory i.args ∧ X (w.forCall tape i).memory i.args) ∧ sizedMet enc C.prog fn (OpenSpec.ofChange s) apart (w.forCall tape i).memory i.args) ∧ a.holds C.prog (lone (Frame.enter C.prog f i.args .normal) [] (w.forCall tape i)))
    (contract : ∀ (W : World) (base : Nat) (args : Array Value) (ds gs : List (DataW H)) (before : List MemPlace),
      (∀ (j : Nat) t v, fn.params[j]? = some t → args[j]? = some v → Value.okWide C.prog W .any base t v) →
      DataW.Whole enc C.prog fn.params.toList s.vars apart W args.toList ds gs before → X W args → W.ShapedOpen C.prog →
      Calls C.prog f args W fun e W' => ∃ v, e = .returned v ∧ s.post enc C.prog fn apart fresh handsOn again W args v W') :
    ReturnsInHanded a C os f .any (fun w args => (s.pre enc C.prog fn conds apart w args ∧ X w args) ∧ sizedMet enc C.prog fn (OpenSpec.ofChange s) apart w args) (s.post enc C.prog fn apart fresh handsOn again) := by
  refine returnsInHanded_of_calls own started noInit witness ?_
  intro w tape i _ hsh _ hok hpre _
  obtain ⟨_, _, _, fn', hfn', _, _, _, _, hval⟩ := hok
  obtain rfl : fn' = fn := Option.some.inj (hfn'.symm.trans hfn)
  obtain ⟨⟨⟨ds, gs, before, hw, _⟩, hx⟩, _⟩ := hpre
  refine (contract (w.forCall tape i) w.heap.size i.args ds gs before hval (DataW.Whole.of_heap (w' := w.forCall tape i) (by rfl) hw) (hX _ _ _ (by rfl) hx) hsh).mono ?_
  rintro e W' ⟨v, rfl, hp⟩
  exact ChangeSpec.post_blind hp
end Go.Proofs.YtammbggabhnfdaaDoor
