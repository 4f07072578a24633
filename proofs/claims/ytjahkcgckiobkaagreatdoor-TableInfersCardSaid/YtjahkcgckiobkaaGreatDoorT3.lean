/- Lemmas of the walk; no conditions beyond those that each states. -/
import Derived.OpenShut
import Derived.Below
import Derived.HandedShaped
import Derived.Handed
import Derived.Test.YtjahkcgckiobkaaGreatDoorD2
import Derived.Test.YtjahkcgckiobkaaGreatDoorT2
import Derived.Test.YtjahkcgckiobkaaGreatDoorN1
import Derived.Test.YtjahkcgckiobkaaGreatDoorD3
import Derived.Test.YtjahkcgckiobkaaGreatDoorT1
import Derived.Test.YtjahkcgckiobkaaGreatDoorC1
set_option linter.unusedSimpArgs false
set_option linter.unusedVariables false
set_option linter.unnecessarySimpa false
set_option maxHeartbeats 4000000
namespace Go.Proofs.YtjahkcgckiobkaaGreatDoor
open Go Go.Dat Go.Proofs Go.RowKit Nat32
def rdQ (pre post : List DV) (D : Hp) (x y : DV) (R : Int × List Bs × List Tc) (r : DV) (H' : Hp) : Prop :=
 r = .int .i64 R.1 ∧ H' = (1000, strL R.2.1) :: (1001, cxs R.2.2) :: (1048576, wnd pre post x y (.osl 1 1000 0 R.2.1.length) (.osl 5 1001 0 R.2.2.length)) :: D
theorem Ret_read {pre post : List DV} {D : Hp} {x y : DV} {R : Int × List Bs × List Tc} {k : Nat} {fr : Fr} {H H0 : Hp} (hD : okHD D) (hp : ∀ d ∈ pre, okO D d) (hq : ∀ d ∈ post, okO D d) (hx : x.rf = true) (hy : y.rf = true)
  (h0 : ∀ o, 1048576 ≤ o → (lkH H0 o).isSome = true → o = 1048576)
  (hd : lk fr k = .int .i64 R.1) (h1 : lkH H 1000 = some (strL R.2.1)) (h2 : lkH H 1001 = some (cxs R.2.2))
  (h3 : lkH H 1048576 = some (wnd pre post x y (.osl 1 1000 0 R.2.1.length) (.osl 5 1001 0 R.2.2.length))) (h4 : ∀ p, 100000 ≤ p → p < 200000 → lkH H p = lkH D p) :
  RetPR [.t k] H0 (rdQ pre post D x y R) .ret fr H := by
 obtain ⟨C, hC⟩ : ∃ C, C = wnd pre post x y (.osl 1 1000 0 R.2.1.length) (.osl 5 1001 0 R.2.2.length) := ⟨_, rfl⟩
 obtain ⟨H', hH'⟩ : ∃ H', H' = (1000, strL R.2.1) :: (1001, cxs R.2.2) :: (1048576, C) :: D := ⟨_, rfl⟩
 have hl : ∀ p, lkH H' p = if 1000 = p then some (strL R.2.1) else if 1001 = p then some (cxs R.2.2) else if 1048576 = p then some C else lkH D p := fun p => by rw [hH']; rfl
 have n1 : nmH H' 1000 = some 1000 := by unfold nmH; rw [hl]; rfl
 have n2 : nmH H' 1001 = some 1001 := by unfold nmH; rw [hl]; rfl
 have hok : ∀ d, okO D d → rn (nmH H') d = d := by
  rintro d (h | ⟨s, o, n, rfl, ho⟩)
  ·exact rn_rf _ d h
  ·obtain ⟨c, hc⟩ := Option.isSome_iff_exists.1 ho
   have hr := (hD.lk hc).1
   have e : lkH H' o = some c := by rw [hl, if_neg (by omega), if_neg (by omega), if_neg (by omega), hc]
   have : nmH H' o = some o := by unfold nmH; rw [e]; rfl
   simp [rn, this]
 refine ⟨.inr rfl, [lk fr k], .int .i64 R.1, H', ⟨rfl, by rw [hH', hC]⟩, fun o ho h => ?_, rfl, ?_, fun o c h => ?_⟩
 ·rw [h0 o ho h, hl]; rfl
 ·show rn _ (lk fr k) = _
  rw [hd]; rfl
 ·rw [hl] at h
  split at h
  ·rename_i e; subst e; cases h
   exact ⟨_, h1, map_rf _ (List.all_eq_true.1 (strL_rf _))⟩
  ·split at h
   ·rename_i e; subst e; cases h
    exact ⟨_, h2, map_rf _ (cxs_rf _)⟩
   ·split at h
    ·rename_i e; subst e; cases h
     refine ⟨_, h3, ?_⟩
     rw [wnd_map (fun d hd => hok d (hp d hd)) (fun d hd => hok d (hq d hd)), hC, rn_rf _ x hx, rn_rf _ y hy]
     simp [rn, n1, n2]
    ·have hr := (hD.lk h)
     exact ⟨c, by rw [h4 o hr.1.1 hr.1.2, h], map_rf _ hr.2⟩
theorem parseQ_RB1 {l : List UInt8} (hl : l.length ≤ 450) {x : Rat} (h : parseQ l = some x) : RB x 100 := by
 have key : ∀ {s : List UInt8}, s.length ≤ 450 → ∀ {x : Rat}, unsQ s = some x → RB x 100 := by
  intro s hs x h
  rw [unsQ_P, Option.map_eq_some_iff] at h
  obtain ⟨⟨n, d⟩, hp, rfl⟩ := h
  obtain ⟨b1, b2⟩ := unsP_9 hp hs
  exact RB_mk (show d ≠ 0 by have := unsP_pos hp; omega) (by rw [Int.natAbs_natCast]; exact len9 b1 (by decide)) (len9 b2 (by decide))
 unfold parseQ at h
 by_cases h45 : l.head? = some 45
 ·rw [decide_eq_true h45, if_pos h45] at h
  unfold negQ at h
  rw [if_pos rfl, Option.map_eq_some_iff] at h
  obtain ⟨y, hy, rfl⟩ := h
  exact RB_neg (key (by rw [List.length_tail]; omega) hy)
 ·rw [decide_eq_false h45, if_neg h45] at h
  exact key hl h
theorem lk_skip {k p : Nat} {c : List DV} {r : Hp} (h : ¬ k = p) : lkH ((k, c) :: r) p = lkH r p := by simp only [lkH]; rw [if_neg h]
theorem wk_append {X ys ys' : List DV} {w : World} {L : Nat → Option Nat} {A : Nat → Prop} {v : Value} (h : ∀ (k : Nat) d d', ys[k]? = some d → ys'[k]? = some d' → V w L A d v → V w L A d' v) (k : Nat) (d d' : DV)
  (h1 : (X ++ ys)[k]? = some d) (h2 : (X ++ ys')[k]? = some d') (hv : V w L A d v) : V w L A d' v := by
 rcases Nat.lt_or_ge k X.length with hk | hk
 ·rw [List.getElem?_append_left hk] at h1 h2
  rw [h1] at h2; cases h2; exact hv
 ·rw [List.getElem?_append_right hk] at h1 h2
  exact h _ d d' h1 h2 hv
theorem cx_wk (ce : List Tc) (b : Bool) (n : Int) (k : Nat) (d d' : DV) (h : (cxs ce ++ [DV.bool b, .bool false, .nils, .nils, .int .i64 n])[k]? = some d) (h' : (cxs (ce ++ [⟨b, (false, [], []), n⟩]))[k]? = some d') (w : World) (L : Nat → Option Nat) (A : Nat → Prop) (v : Value) (hv : V w L A d v) : V w L A d' v := by
 have e : cxs (ce ++ [⟨b, (false, [], []), n⟩]) = cxs ce ++ cxC ⟨b, (false, [], []), n⟩ := (fm_snoc ce _).symm
 rw [e] at h'
 refine wk_append (fun j x x' h1 h2 hv => ?_) k d d' h h' hv
 match j, h1, h2 with
 | 0, h1, h2 => cases h1; cases h2; exact hv
 | 1, h1, h2 => cases h1; cases h2; exact hv
 | 2, h1, h2 => cases h1; cases h2; exact wk_nils 1 w L A v hv
 | 3, h1, h2 => cases h1; cases h2; exact wk_nils 1 w L A v hv
 | 4, h1, h2 => cases h1; cases h2; exact hv
 | j + 5, h1, h2 => cases h1
theorem tRead_rel (pre post : List DV) (D : Hp) (nm : Bs) (kd : Int) (lv : List Bs) (ce : List Tc) (f : Fx) (s : Bs) (hD : okHD D) (hp : ∀ d ∈ pre, okO D d) (hq : ∀ d ∈ post, okO D d)
  (hu : okN0 f.un) (hm : f.ms.length ≤ 1000000) (hs : s.length ≤ 450) (hlv : lv.length ≤ 1000000) (hce : ce.length ≤ 1000000) :
  MRel Tryz.prog 45 [.ptr 1048576 pre.length, .agg (fxC f), .str s] ((1000, strL lv) :: (1001, cxs ce) :: (1048576, wnd pre post (.str nm) (.int .i64 kd) (.osl 1 1000 0 lv.length) (.osl 5 1001 0 ce.length)) :: D)
   (rdQ pre post D (.str nm) (.int .i64 kd) (readR parseQ f lv ce s)) := by
 have hpD := hD.purge
 have hml := strL_len f.ms
 have hcc : (DV.agg (fxC f)).cells? = some (fxC f) := rfl
 have hcl := fxC_len f
 have g2 : (fxC f).getD 2 .undef = .sl 1 (strL f.ms) := rfl
 have g1 : (fxC f).getD 1 .undef = .int .i64 f.kd := rfl
 have g3 : ((fxC f).drop 3).take 3 = xnC f.un := rfl
 have ck := slContainsS_calls f.ms s (by omega)
 have hw2 : ∀ l c : DV, (wnd pre post (.str nm) (.int .i64 kd) l c).getD (pre.length + 2) .undef = l := fun l c => wnd_getD (by decide) _
 have hw3 : ∀ l c : DV, (wnd pre post (.str nm) (.int .i64 kd) l c).getD (pre.length + 3) .undef = c := fun l c => wnd_getD (by decide) _
 have hwl : ∀ l c : DV, (wnd pre post (.str nm) (.int .i64 kd) l c).length = pre.length + 4 + post.length := fun l c => wnd_len
 have hwp : ∀ (l c : DV) (o : Nat), o < 100000 → (wnd pre post (.str nm) (.int .i64 kd) l c).map (purge o) = wnd pre post (.str nm) (.int .i64 kd) (purge o l) (purge o c) := fun l c o ho => wnd_map (fun d hd => (hp d hd).purge hD ho) (fun d hd => (hq d hd).purge hD ho)
 have hs2 : ∀ l c d : DV, (wnd pre post (.str nm) (.int .i64 kd) l c).set (pre.length + 2) d = wnd pre post (.str nm) (.int .i64 kd) d c := fun l c d => wnd_set2 d
 have hs3 : ∀ l c d : DV, (wnd pre post (.str nm) (.int .i64 kd) l c).set (pre.length + 3) d = wnd pre post (.str nm) (.int .i64 kd) l d := fun l c d => wnd_set3 d
 have hD7 : lkH D 7 = none := hD.no (by omega)
 have hD4 : lkH D 4 = none := hD.no (by omega)
 have hld0 : ∀ (b : Bool) (n : Int), laid [.bool false, .bool false, .nils, .nils, .int .i64 0] [(0, 5, .agg [.bool b, .bool false, .nils, .nils, .int .i64 n])] = some [.bool b, .bool false, .nils, .nils, .int .i64 n] := fun _ _ => rfl
 have hxl := cxs_len ce
 have q1 : ∀ k, purge 1001 (DV.ptr 1048576 k) = DV.ptr 1048576 k := fun k => by simp [purge, DV.has]
 have q2 : ∀ z n, purge 1001 (DV.osl z 1000 0 n) = DV.osl z 1000 0 n := fun z n => by simp [purge, DV.has]
 have q3 : ∀ z n, purge 1001 (DV.osl z 1001 0 n) = DV.undef := fun z n => by simp [purge, DV.has]
 have hpS := fun l => map_purge 1001 (List.all_eq_true.1 (strL_rf l))
 have hpX0 : ∀ (b : Bool) (n : Int), (cxs ce ++ [DV.bool b, DV.bool false, DV.nils, DV.nils, DV.int .i64 n]).map (purge 1001) = cxs ce ++ [DV.bool b, DV.bool false, DV.nils, DV.nils, DV.int .i64 n] := fun b n => map_purge 1001 fun d hd => by
  rcases List.mem_append.1 hd with h | h
  ·exact cxs_rf _ d h
  ·simp only [List.mem_cons, List.not_mem_nil, or_false] at h
   rcases h with rfl | rfl | rfl | rfl | rfl <;> rfl
 have p1 : ∀ k, purge 1000 (DV.ptr 1048576 k) = DV.ptr 1048576 k := fun k => by simp [purge, DV.has]
 have p2 : ∀ z n, purge 1000 (DV.osl z 1001 0 n) = DV.osl z 1001 0 n := fun z n => by simp [purge, DV.has]
 have p3 : ∀ z n, purge 1000 (DV.osl z 1000 0 n) = DV.undef := fun z n => by simp [purge, DV.has]
 have hpA : (strL lv ++ [DV.str s]).map (purge 1000) = strL (lv ++ [s]) := by
  have e : strL lv ++ [DV.str s] = strL (lv ++ [s]) := by unfold strL; simp
  rw [e]; exact map_purge 1000 (List.all_eq_true.1 (strL_rf _))
 have hpX := map_purge 1000 (cxs_rf ce)
 have hwp0 := fun l c => hwp l c 1000 (by decide)
 have hwp1 := fun l c => hwp l c 1001 (by decide)
 have h0 : ∀ o, 1048576 ≤ o → (lkH ((1000, strL lv) :: (1001, cxs ce) :: (1048576, wnd pre post (.str nm) (.int .i64 kd) (.osl 1 1000 0 lv.length) (.osl 5 1001 0 ce.length)) :: D) o).isSome = true → o = 1048576 := fun o ho h => by
  simp only [lkH] at h
  rw [if_neg (show ¬ 1000 = o by omega), if_neg (show ¬ 1001 = o by omega)] at h
  by_cases e : 1048576 = o
  ·exact e.symm
  ·rw [if_neg e, hD.no (by omega)] at h; cases h
 generalize hF : fxC f = FC at *
 refine MRel_of istRead (by simp [fntRead]) ?_
 unfold codetRead
 generalize hWW : wnd pre post (.str nm) (.int .i64 kd) = WW at *
 repeat (first | refine W_seq ?_ | refine W_reg ?_ | refine W_regd ?_ | refine W_regs ?_ | refine W_regp ?_ | refine W_block ?_ | refine And.intro (by omega) ?_ | simp (maxSteps := 1000000) (disch := omega) only [cA, cB, cN, FnD.nb, lk, lkH, Dst.onT, Dst.onX, Dst.slot, setF, setH, mapF, mapH, initF, binE, unE, cnt, boundE, newsE, freshE, freshT, opE, rmH, blkQ, frz_us, Nat.reduceEqDiff, Nat.reduceLT, Nat.reduceAdd, Nat.reduceMul, Nat.reduceMod, ↓reduceIte, reduceCtorEq, Nat.reduceLeDiff, hcc, hD4, g2])
 refine cP ck ?_
 by_cases hms : 0 ≤ ixS f.ms s
 ·have dm : decide (0 ≤ ixS f.ms s) = true := decide_eq_true hms
  have hR : readR parseQ f lv ce s = (0, lv, ce ++ [⟨true, (false, [], []), 0⟩]) := by unfold readR; rw [if_pos hms]
  rw [hR, dm]
  refine zR ?_
  refine wT ?_
  refine zS (zA hw3 (zA hwl (zA @cS hld0))) ?_
  refine ⟨by simp [DV.rf], ⟨hxl, by omega, by omega, fun h => h, by simp [DV.one]⟩, ?_⟩
  refine zS (zA q1 (zA q2 (zA q3 (zA hpD (zA hwp1 (zA hwl (zA hw3 (zA hs3 (zA hpS hpX0))))))))) ?_
  refine ⟨⟨rfl, by omega⟩, ?_⟩
  refine zR ?_
  refine W_wkc 1001 (cells := cxs ce ++ [.bool true, .bool false, .nils, .nils, .int .i64 0]) (cells' := cxs (ce ++ [⟨true, (false, [], []), 0⟩])) rfl (by rw [cxs_len, List.length_append, List.length_append, hxl]; show (ce.length + 1) * 5 = ce.length * 5 + 5; omega) (cx_wk ce true 0) ?_
  refine W_ret ?_
  refine Ret_read hD hp hq rfl rfl h0 rfl rfl rfl ?_ ?_
  ·show some (WW _ _) = _
   rw [← hWW, List.length_append]; rfl
  ·intro p h1 h2
   rw [lkH_setH, if_neg (by omega)]
   repeat rw [lk_skip (by omega)]
 ·have dm : decide (0 ≤ ixS f.ms s) = false := decide_eq_false hms
  rw [dm]
  have cp := qParse_all s (by omega)
  refine zR ?_
  refine wFs ?_
  by_cases k1 : f.kd = 1
  ·have d1 : decide (f.kd = 1) = true := decide_eq_true k1
   repeat (first | refine W_seq ?_ | refine W_reg ?_ | refine W_regd ?_ | refine W_regs ?_ | refine W_regp ?_ | refine W_block ?_ | refine And.intro (by omega) ?_ | simp (maxSteps := 1000000) (disch := omega) only [cA, cB, cN, FnD.nb, lk, lkH, Dst.onT, Dst.onX, Dst.slot, setF, setH, mapF, mapH, initF, binE, unE, cnt, boundE, newsE, freshE, freshT, opE, rmH, blkQ, frz_us, Nat.reduceEqDiff, Nat.reduceLT, Nat.reduceAdd, Nat.reduceMul, Nat.reduceMod, ↓reduceIte, reduceCtorEq, Nat.reduceLeDiff, g1, hcl, d1])
   refine wT ?_
   refine zR ?_
   refine cP cp ?_
   cases hps : parseQ s with
   | none =>
    have hR : readR parseQ f lv ce s = (4, lv, ce) := by unfold readR; rw [if_neg hms, if_pos k1, hps]
    rw [hR]
    rw [show resQ none = .tup [.agg (xc0 0), .bool false] from rfl]
    have hxc := xc0_cells 0
    have hx3 : (xc0 0).length = 3 := rfl
    have h33 : (xc0 0).take 3 = xc0 0 := rfl
    refine zS (zA hxc (zA hx3 (zA h33 (zA @cS hD7)))) ?_
    refine wT ?_
    repeat (first | refine W_seq ?_ | refine W_reg ?_ | refine W_regd ?_ | refine W_regs ?_ | refine W_regp ?_ | refine W_block ?_ | refine And.intro (by omega) ?_ | simp (maxSteps := 1000000) (disch := omega) only [cA, cB, cN, FnD.nb, lk, lkH, Dst.onT, Dst.onX, Dst.slot, setF, setH, mapF, mapH, initF, binE, unE, cnt, boundE, newsE, freshE, freshT, opE, rmH, blkQ, frz_us, Nat.reduceEqDiff, Nat.reduceLT, Nat.reduceAdd, Nat.reduceMul, Nat.reduceMod, ↓reduceIte, reduceCtorEq, Nat.reduceLeDiff])
    refine W_ret ?_
    refine Ret_read hD hp hq rfl rfl h0 rfl rfl rfl ?_ ?_
    ·show some (WW _ _) = _
     rw [← hWW]
    ·intro p h1 h2
     repeat rw [lk_skip (by omega)]
   | some x =>
    have hR : readR parseQ f lv ce s = (0, lv, ce ++ [⟨false, qX (x * xnV f.un), 0⟩]) := by unfold readR; rw [if_neg hms, if_pos k1, hps]
    rw [hR]
    rw [show resQ (some x) = .tup [.agg (xc0 x), .bool true] from rfl]
    have hxc := xc0_cells x
    have hx3 : (xc0 x).length = 3 := rfl
    have h33 : (xc0 x).take 3 = xc0 x := rfl
    repeat (first | refine W_seq ?_ | refine W_reg ?_ | refine W_regd ?_ | refine W_regs ?_ | refine W_regp ?_ | refine W_block ?_ | refine And.intro (by omega) ?_ | simp (maxSteps := 1000000) (disch := omega) only [cA, cB, cN, FnD.nb, lk, lkH, Dst.onT, Dst.onX, Dst.slot, setF, setH, mapF, mapH, initF, binE, unE, cnt, boundE, newsE, freshE, freshT, opE, rmH, blkQ, frz_us, Nat.reduceEqDiff, Nat.reduceLT, Nat.reduceAdd, Nat.reduceMul, Nat.reduceMod, ↓reduceIte, reduceCtorEq, Nat.reduceLeDiff, hxc, hx3, h33, cS, hD7])
    refine wFs ?_
    have cm : PCalls Tryz.prog 91 [.agg (xc0 x), .agg (xnC f.un)] (.agg (xnC (qX (x * xnV f.un)))) := by
     have hx := parseQ_RB1 (by omega) hps
     have := qMul_calls (decide (x.num < 0)) (limbs x.num.natAbs) (dn x.den) f.un.1 f.un.2.1 f.un.2.2 (Nat.le_trans hx.1 (by decide)) (Nat.le_trans (RB_dn hx) (by decide)) (by have := hu.2.2.1; omega) (by have := hu.2.2.2; omega) (lim_limbs _) (lim_dn _) hu.1 hu.2.1
     rwa [rv_Q] at this
    repeat (first | refine W_seq ?_ | refine W_reg ?_ | refine W_regd ?_ | refine W_regs ?_ | refine W_regp ?_ | refine W_block ?_ | refine And.intro (by omega) ?_ | simp (maxSteps := 1000000) (disch := omega) only [cA, cB, cN, FnD.nb, lk, lkH, Dst.onT, Dst.onX, Dst.slot, setF, setH, mapF, mapH, initF, binE, unE, cnt, boundE, newsE, freshE, freshT, opE, rmH, blkQ, frz_us, Nat.reduceEqDiff, Nat.reduceLT, Nat.reduceAdd, Nat.reduceMul, Nat.reduceMod, ↓reduceIte, reduceCtorEq, Nat.reduceLeDiff, hxc, hx3, h33, cS, hcl, g3, hw3, hwl, List.drop_zero])
    refine cP cm ?_
    generalize qX (x * xnV f.un) = q at *
    have hlq : laid [DV.bool false, .bool false, .nils, .nils, .int .i64 0] [(1, 3, .agg (xnC q))] = some (cxC ⟨false, q, 0⟩) := rfl
    have hl5 : laid [DV.bool false, .bool false, .nils, .nils, .int .i64 0] [(0, 5, .agg (cxC ⟨false, q, 0⟩))] = some (cxC ⟨false, q, 0⟩) := rfl
    have hc5 := cxC_len ⟨false, q, 0⟩
    have hsn : cxs ce ++ cxC ⟨false, q, 0⟩ = cxs (ce ++ [⟨false, q, 0⟩]) := fm_snoc ce _
    have hpq := map_purge 1001 (cxs_rf (ce ++ [⟨false, q, 0⟩]))
    have hone := cxC_one ⟨false, q, 0⟩
    have hrfq := cxC_rf ⟨false, q, 0⟩
    generalize cxC ⟨false, q, 0⟩ = cq at *
    repeat (first | refine W_seq ?_ | refine W_reg ?_ | refine W_regd ?_ | refine W_regs ?_ | refine W_regp ?_ | refine W_block ?_ | refine And.intro (by omega) ?_ | simp (maxSteps := 1000000) (disch := omega) only [cA, cB, cN, FnD.nb, lk, lkH, Dst.onT, Dst.onX, Dst.slot, setF, setH, mapF, mapH, initF, binE, unE, cnt, boundE, newsE, freshE, freshT, opE, rmH, blkQ, frz_us, Nat.reduceEqDiff, Nat.reduceLT, Nat.reduceAdd, Nat.reduceMul, Nat.reduceMod, ↓reduceIte, reduceCtorEq, Nat.reduceLeDiff, hlq, hl5, hc5])
    refine ⟨⟨hxl, by omega, by omega, fun h => h, hone⟩, ?_⟩
    refine zS (zA q1 (zA q2 (zA q3 (zA hpD (zA hwp1 (zA hwl (zA hw3 (zA hs3 (zA hpS (zA hsn hpq)))))))))) ?_
    refine ⟨⟨rfl, by omega⟩, ?_⟩
    refine zR ?_
    refine W_ret ?_
    refine Ret_read hD hp hq rfl rfl h0 rfl rfl rfl ?_ ?_
    ·show some (WW _ _) = _
     rw [← hWW, List.length_append]; rfl
    ·intro p h1 h2
     repeat rw [lk_skip (by omega)]
  ·have d1 : decide (f.kd = 1) = false := decide_eq_false k1
   repeat (first | refine W_seq ?_ | refine W_reg ?_ | refine W_regd ?_ | refine W_regs ?_ | refine W_regp ?_ | refine W_block ?_ | refine And.intro (by omega) ?_ | simp (maxSteps := 1000000) (disch := omega) only [cA, cB, cN, FnD.nb, lk, lkH, Dst.onT, Dst.onX, Dst.slot, setF, setH, mapF, mapH, initF, binE, unE, cnt, boundE, newsE, freshE, freshT, opE, rmH, blkQ, frz_us, Nat.reduceEqDiff, Nat.reduceLT, Nat.reduceAdd, Nat.reduceMul, Nat.reduceMod, ↓reduceIte, reduceCtorEq, Nat.reduceLeDiff, g1, hcl, d1])
   refine wFs ?_
   have ci := slIndexS_calls lv s (by omega)
   have hsl := strL_len lv
   have hrl := List.all_eq_true.1 (strL_rf lv)
   have hfz : frz 1000 (strL lv) (.osl 1 1000 0 lv.length) = .sl 1 (strL lv) := by
    simp [frz, hsl]
    rw [List.take_of_length_le (Nat.le_of_eq hsl)]
   have hsq : [DV.osl 1 1000 0 lv.length, .str s].map (slo 1000 (strL lv)) = [.sl 1 (strL lv), .str s] := by
    simp [slo, hsl, DV.rf]
    rw [List.take_of_length_le (Nat.le_of_eq hsl)]
   have hbd := ixS_bd s lv
   refine zS (zA q1 (zA q2 (zA hw2 (zA hw3 hwl)))) ?_
   refine callC_readS rfl 1000 ci rfl hrl hsq rfl ?_
   by_cases hneg : ixS lv s < 0
   ·have dn : decide (ixS lv s < 0) = true := decide_eq_true hneg
    refine zS dn ?_
    refine wT ?_
    by_cases h32 : lv.length = 32
    ·have d32 : decide ((lv.length : Int) = 32) = true := decide_eq_true (by omega)
     have hR : readR parseQ f lv ce s = (2, lv, ce) := by unfold readR; rw [if_neg hms, if_neg k1, if_pos hneg, if_pos h32]
     rw [hR]
     refine zS (zA q1 (zA q2 (zA hw2 (zA hw3 (zA hwl d32))))) ?_
     refine wT ?_
     refine zR ?_
     refine W_ret ?_
     refine Ret_read hD hp hq rfl rfl h0 rfl rfl rfl ?_ ?_
     ·show some (WW _ _) = _
      rw [← hWW]
     ·intro p h1 h2
      repeat rw [lk_skip (by omega)]
    ·have d32 : decide ((lv.length : Int) = 32) = false := decide_eq_false (by omega)
     have hR : readR parseQ f lv ce s = (0, lv ++ [s], ce ++ [⟨false, (false, [], []), lv.length⟩]) := by unfold readR; rw [if_neg hms, if_neg k1, if_pos hneg, if_neg h32]
     rw [hR]
     repeat (first | refine W_seq ?_ | refine W_reg ?_ | refine W_regd ?_ | refine W_regs ?_ | refine W_regp ?_ | refine W_block ?_ | refine And.intro (by omega) ?_ | simp (maxSteps := 1000000) (disch := omega) only [cA, cB, cN, FnD.nb, lk, lkH, Dst.onT, Dst.onX, Dst.slot, setF, setH, mapF, mapH, initF, binE, unE, cnt, boundE, newsE, freshE, freshT, opE, rmH, blkQ, frz_us, Nat.reduceEqDiff, Nat.reduceLT, Nat.reduceAdd, Nat.reduceMul, Nat.reduceMod, ↓reduceIte, reduceCtorEq, Nat.reduceLeDiff, q1, q2, hw2, hw3, hwl, d32])
     refine wFs ?_
     repeat (first | refine W_seq ?_ | refine W_reg ?_ | refine W_regd ?_ | refine W_regs ?_ | refine W_regp ?_ | refine W_block ?_ | refine And.intro (by omega) ?_ | simp (maxSteps := 1000000) (disch := omega) only [cA, cB, cN, FnD.nb, lk, lkH, Dst.onT, Dst.onX, Dst.slot, setF, setH, mapF, mapH, initF, binE, unE, cnt, boundE, newsE, freshE, freshT, opE, rmH, blkQ, frz_us, Nat.reduceEqDiff, Nat.reduceLT, Nat.reduceAdd, Nat.reduceMul, Nat.reduceMod, ↓reduceIte, reduceCtorEq, Nat.reduceLeDiff, q1, q2, hw2, hw3, hwl, d32, cS])
     refine ⟨by simp [DV.rf], ⟨hsl, by omega, by omega, fun h => h, by simp [DV.one]⟩, ?_⟩
     repeat (first | refine W_seq ?_ | refine W_reg ?_ | refine W_regd ?_ | refine W_regs ?_ | refine W_regp ?_ | refine W_block ?_ | refine And.intro (by omega) ?_ | simp (maxSteps := 1000000) (disch := omega) only [cA, cB, cN, FnD.nb, lk, lkH, Dst.onT, Dst.onX, Dst.slot, setF, setH, mapF, mapH, initF, binE, unE, cnt, boundE, newsE, freshE, freshT, opE, rmH, blkQ, frz_us, Nat.reduceEqDiff, Nat.reduceLT, Nat.reduceAdd, Nat.reduceMul, Nat.reduceMod, ↓reduceIte, reduceCtorEq, Nat.reduceLeDiff, p1, p2, p3, hpD, hwp0, hwl, hw2, hs2, hpA, hpX])
     refine ⟨⟨rfl, by omega⟩, ?_⟩
     repeat (first | refine W_seq ?_ | refine W_reg ?_ | refine W_regd ?_ | refine W_regs ?_ | refine W_regp ?_ | refine W_block ?_ | refine And.intro (by omega) ?_ | simp (maxSteps := 1000000) (disch := omega) only [cA, cB, cN, FnD.nb, lk, lkH, Dst.onT, Dst.onX, Dst.slot, setF, setH, mapF, mapH, initF, binE, unE, cnt, boundE, newsE, freshE, freshT, opE, rmH, blkQ, frz_us, Nat.reduceEqDiff, Nat.reduceLT, Nat.reduceAdd, Nat.reduceMul, Nat.reduceMod, ↓reduceIte, reduceCtorEq, Nat.reduceLeDiff, q1, q2, hw2, hw3, hwl, cS, hld0])
     refine ⟨by simp [DV.rf], ⟨hxl, by omega, by omega, fun h => h, by simp [DV.one]⟩, by rw [List.length_map, hwl]; omega, ?_⟩
     rw [hwp1, q2, q3, hs3, hpD, hpS, hpX0]
     refine zR ?_
     refine W_wkc 1001 (cells := cxs ce ++ [.bool false, .bool false, .nils, .nils, .int .i64 lv.length]) (cells' := cxs (ce ++ [⟨false, (false, [], []), lv.length⟩])) rfl (by rw [cxs_len, List.length_append, List.length_append, hxl]; show (ce.length + 1) * 5 = ce.length * 5 + 5; omega) (cx_wk ce false lv.length) ?_
     refine W_ret ?_
     refine Ret_read hD hp hq rfl rfl h0 rfl rfl rfl ?_ ?_
     ·show some (WW _ _) = _
      rw [← hWW, List.length_append, List.length_append]; rfl
     ·intro p h1 h2
      rw [lkH_setH, if_neg (by omega)]
      repeat rw [lk_skip (by omega)]
   ·have dn : decide (ixS lv s < 0) = false := decide_eq_false hneg
    have hR : readR parseQ f lv ce s = (0, lv, ce ++ [⟨false, (false, [], []), ixS lv s⟩]) := by unfold readR; rw [if_neg hms, if_neg k1, if_neg hneg]
    rw [hR]
    generalize ixS lv s = z at *
    refine zS dn ?_
    refine wFs ?_
    refine zS (zA hw3 (zA hwl (zA @cS hld0))) ?_
    refine ⟨by simp [DV.rf], ⟨hxl, by omega, by omega, fun h => h, by simp [DV.one]⟩, ?_⟩
    refine zS (zA q1 (zA q2 (zA q3 (zA hpD (zA hwp1 (zA hwl (zA hw3 (zA hs3 (zA hpS hpX0))))))))) ?_
    refine ⟨⟨rfl, by omega⟩, ?_⟩
    refine zR ?_
    refine W_wkc 1001 (cells := cxs ce ++ [.bool false, .bool false, .nils, .nils, .int .i64 z]) (cells' := cxs (ce ++ [⟨false, (false, [], []), z⟩])) rfl (by rw [cxs_len, List.length_append, List.length_append, hxl]; show (ce.length + 1) * 5 = ce.length * 5 + 5; omega) (cx_wk ce false z) ?_
    refine W_ret ?_
    refine Ret_read hD hp hq rfl rfl h0 rfl rfl rfl ?_ ?_
    ·show some (WW _ _) = _
     rw [← hWW, List.length_append]; rfl
    ·intro p h1 h2
     rw [lkH_setH, if_neg (by omega)]
     repeat rw [lk_skip (by omega)]
theorem Exp_in {h : Heap} (n : Int) (sz : Nat) : Exp h (.agg [.int .i64 n, .nils]) (.agg [.int .i64 n, .sl sz []]) := .agg rfl fun k d r h1 h2 => by
 match k, h1, h2 with
 | 0, h1, h2 => cases h1; cases h2; exact .imm rfl
 | 1, h1, h2 => cases h1; cases h2; exact .nils _
 | k + 2, h1, h2 => cases h1
theorem Ret_bad {fr : Fr} {H : Hp} {row e : Int} (h1 : lk fr 4 = .ptr 4 0) (h2 : lkH H 4 = some [.int .i64 0, .nils]) (h3 : lk fr 5 = .int .i64 row) (h4 : lk fr 6 = .int .i64 e) : RetP [.cn 2 4, .t 5, .t 6] (badT row e) .ret fr H :=
 RetP_ctt h1 h2 rfl (Exp_in 0 4) (by rw [h3]; exact .imm rfl) (by rw [h4]; exact .imm rfl)
theorem tBuild_limit (l : List Fx) (recs : List (List Bs)) (hl : l.length ≤ 1000000) (hr : recs.length ≤ 1000000) (h : 32 < l.length ∨ 1024 < recs.length) : PCalls Tryz.prog 13 [.sl 6 (fxs l), .sl 1 (recD recs)] (badT 0 2) := by
 have hln : (fxs l).length / 6 = l.length := by rw [fxs_len]; omega
 have hrl := recD_len recs
 refine PCalls_of istBld (by simp [fntBld]) ?_
 unfold codetBld
 by_cases h1 : 32 < l.length
 ·have d1 : decide ((32 : Int) < (l.length : Int)) = true := decide_eq_true (by omega)
  refine zS (zA hln (zA hrl d1)) ?_
  refine wT ?_
  refine zS @cS ?_
  exact W_ret (Ret_bad rfl rfl rfl rfl)
 ·have d1 : decide ((32 : Int) < (l.length : Int)) = false := decide_eq_false (by omega)
  have h2 : 1024 < recs.length := h.resolve_left h1
  have d2 : decide ((1024 : Int) < (recs.length : Int)) = true := decide_eq_true (by omega)
  refine zS (zA hln (zA hrl (zA d1 d2))) ?_
  refine wT ?_
  refine zS @cS ?_
  exact W_ret (Ret_bad rfl rfl rfl rfl)
theorem goW_clr {F : FnD} {os : List DOper} {dst : Dst} {te fr : Fr} {H : Hp} {K : Fr → Fr → Hp → Prop} (sz : Nat) (z : List DV) (x : Opd) : goW F os dst te fr H K (.clr sz z x) = stepW F os dst te fr H K (opE F.nb dst.slot (ev te fr) (lkH H) (.clr sz z x)) := rfl
theorem tBuild2_calls (k : Kx) : PCalls Tryz.prog 47 [.agg (kxC k)] (.bool (decide (k.kd = 3))) := by
 have hcc : (DV.agg (kxC k)).cells? = some (kxC k) := rfl
 have hcl := kxC_len k
 have hg1 : (kxC k).getD 1 .undef = .int .i64 k.kd := rfl
 refine PCalls_of istBuild2 (by simp [fntBuild2]) ?_
 unfold codetBuild2
 repeat (first | refine W_seq ?_ | refine W_reg ?_ | refine W_regd ?_ | refine W_regs ?_ | refine W_regp ?_ | refine W_block ?_ | refine And.intro (by omega) ?_ | simp (maxSteps := 1000000) (disch := omega) only [cA, cB, cN, FnD.nb, lk, lkH, Dst.onT, Dst.onX, Dst.slot, setF, setH, mapF, mapH, initF, binE, unE, cnt, boundE, newsE, freshE, freshT, opE, rmH, blkQ, frz_us, Nat.reduceEqDiff, Nat.reduceLT, Nat.reduceAdd, Nat.reduceMul, Nat.reduceMod, ↓reduceIte, reduceCtorEq, Nat.reduceLeDiff, cS, hcc, hcl, hg1])
 exact W_ret (RetP_1 (.imm rfl))
theorem slIFCol_calls (l : List Kx) (hl : l.length ≤ 1000000) (p : Kx → Bool) (v : DV) (g : Nat) (cs : List DV) (hv : isClo v g cs) (hcs : cs.all DV.rf = true) (hg : Callable Tryz.prog g) (hc : ∀ f ∈ l, PCalls Tryz.prog g ([.agg (kxC f)] ++ cs) (.bool (p f))) : PCalls Tryz.prog 92 [.sl 4 (kxs l), v] (.int .i64 (ixP p l)) := by
 have hln : (kxs l).length / 4 = l.length := by rw [kxs_len]; omega
 have hlen := kxs_len l
 refine PCalls_of isslIFCol (by simp [fnslIFCol]) ?_
 unfold codeslIFCol
 refine zS hln ?_
 refine W_loop (σ := Nat) (fun i => [(0, .sl 4 (kxs l)), (1, v), (7, .int .i64 l.length), (8, .int .i64 i)]) (fun _ => []) (fun i => i ≤ l.length ∧ ∀ j, j < i → p (l.getD j default) = false) (fun i => l.length - i) 0 ⟨Nat.zero_le _, by simp⟩ ?_ rfl ?_
 ·simp [subF, lk]
 ·rintro i ⟨hi, hall⟩
  try simp only at hi hall ⊢
  by_cases hlt : i < l.length
  ·have dl : decide ((i : Int) < (l.length : Int)) = true := decide_eq_true (by omega)
   have ei : (i : Int).toNat = i := Int.toNat_natCast i
   have e1 : ((i : Int) + 1) = ((i + 1 : Nat) : Int) := by omega
   have hw : ((kxs l).drop (i * 4)).take 4 = kxC (l.getD i default) := fm_win (j := 0) kxC_len default hlt (Nat.le_refl _)
   have cf := hc _ (memG hlt)
   have hb6 : i * 4 + 4 ≤ (kxs l).length := by omega
   refine zS dl ?_
   refine wTs ?_
   refine W_seq ?_
   refine W_block ?_
   refine W_seq ?_
   refine W_reg ?_
   refine zD ?_
   refine W_seq ?_
   refine W_callV [om 11 1, om 12 0, om 13 5, ot 14 (.iad 4 (.t 12) (.t 13)), ot 15 (.ldn 4 (.t 14))] [] (.x 16) (.t 11) [.t 15] rfl ?_
   refine zE (zA ei (zA hlen hw)) ?_
   refine ⟨⟨by omega, by omega⟩, by omega, g, cs, hv, hg, callR_pure cf (by rw [List.all_append, hcs]; rfl) ?_⟩
   cases hp : p (l.getD i default)
   ·have hnx : ∀ j, j < i + 1 → p (l.getD j default) = false := fun j hj => by
     rcases Nat.lt_or_ge j i with h | h
     ·exact hall j h
     ·obtain rfl : j = i := by omega
      exact hp
    refine zR ?_
    refine wFs ?_
    refine zS e1 ?_
    exact ⟨i + 1, ⟨by omega, hnx⟩, by omega, by simp [subF, lk]⟩
   ·have hx := ixP_at default hlt hp hall
    rw [hx]
    refine zR ?_
    refine wT ?_
    refine zR ?_
    exact W_ret (RetP_1 (.imm rfl))
  ·have dl : decide ((i : Int) < (l.length : Int)) = false := decide_eq_false (by omega)
   rw [ixP_no default fun j hj => hall j (by omega)]
   refine zS dl ?_
   refine W_cond rfl (fun h => by cases h) (fun _ => W_exit ?_)
   refine zR ?_
   exact W_ret (RetP_1 (.imm rfl))
theorem Ret_dat {k z o : Nat} {X : List DV} {c : List DV} {fr : Fr} {H : Hp} (ho : o < 1048576) (hd : lk fr k = .sl z X) : RetPR [.t k] [(o, c)] (fun r H' => r = .sl z X ∧ H' = []) .ret fr H := by
 refine ⟨.inr rfl, [.sl z X], .sl z X, [], ⟨rfl, rfl⟩, fun p hp h => ?_, by simp [resDs, resD1, hd], by simp only [oneOf]; exact rn_rf _ _ rfl, fun p c h => by cases h⟩
 simp only [lkH] at h
 rw [if_neg (by omega)] at h; cases h
set_option maxHeartbeats 1000000 in
theorem slDFCol_rel (S : List Kx) (hl : S.length ≤ 1000000) (p : Kx → Bool) (v : DV) (g : Nat) (hv : isClo v g []) (hvr : v.rf = true) (hg : Callable Tryz.prog g) (hc : ∀ f, PCalls Tryz.prog g [.agg (kxC f)] (.bool (p f))) :
  MRel Tryz.prog 46 [.osl 4 1000 0 S.length, v] [(1000, kxs S)] (fun r H' => r = .sl 4 (kxs (S.filter fun x => !p x)) ∧ H' = []) := by
 have ci := slIFCol_calls S hl p v g [] hv rfl hg fun f _ => hc f
 have hlen := kxs_len S
 have hrl := kxs_rf S
 have hsq : [DV.osl 4 1000 0 S.length, v].map (slo 1000 (kxs S)) = [.sl 4 (kxs S), v] := by
  have h2 : slo 1000 (kxs S) v = v := by
   cases v <;> first | (cases hvr; done) | simp [slo, hvr] | rfl
  have h3 : slo 1000 (kxs S) (.osl 4 1000 0 S.length) = .sl 4 (kxs S) := by
   simp [slo, hlen]
   rw [List.take_of_length_le (by omega)]
  rw [List.map_cons, List.map_cons, List.map_nil, h2, h3]
 have hv0 : purge 7 v = v := purge_of_rf 7 hvr
 have hv1 : ∀ cs, frz 7 cs v = v := fun cs => by
  have := map_frz 7 cs (cs := [v]) (by simpa using hvr)
  simpa using this
 have hb := ixP_bd p S
 have hneg := @ixP_neg _ p S
 have hzero := fun k => @filI_zero _ p default S k
 refine MRel_of isslDFCol (by simp [fnslDFCol]) ?_
 unfold codeslDFCol
 generalize hK : ixP p S = K at *
 refine zR ?_
 refine callC_readS rfl 1000 ci rfl hrl hsq rfl ?_
 by_cases hk : K = -1
 ·have dk : decide (K = -1) = true := decide_eq_true hk
  rw [hneg hk]
  refine zS dk ?_
  refine wT ?_
  refine W_freeze 1000 (cells := kxs S) rfl (List.all_eq_true.2 hrl) ?_
  have hfz : frz 1000 (kxs S) (.osl 4 1000 0 S.length) = .sl 4 (kxs S) := by
   simp [frz, hlen]
   rw [List.take_of_length_le (by omega)]
  refine zS hfz ?_
  exact W_ret (Ret_dat (by decide) rfl)
 ·have dk : decide (K = -1) = false := decide_eq_false hk
  obtain ⟨k, rfl⟩ : ∃ k : Nat, K = k := ⟨K.toNat, by omega⟩
  have hF := hzero k rfl
  refine zS dk ?_
  refine wFs ?_
  have e1 : ((k : Int) + 1) = ((k + 1 : Nat) : Int) := by omega
  refine zS e1 ?_
  refine W_loop (σ := Nat × Nat × List Kx) (fun s => [(0, .osl 4 1000 0 S.length), (1, v), (5, .int .i64 s.1), (6, .int .i64 s.2.1)]) (fun s => [(1000, kxs s.2.2)]) (fun s => filI p S s.1 s.2.1 s.2.2) (fun s : Nat × Nat × List Kx => S.length - s.2.1) (k, k + 1, S) hF ?_ rfl ?_
  ·simp [subF, lk]
  ·rintro ⟨i, j, A⟩ hI
   try simp only at hI ⊢
   have hAl := hI.1
   have hij := hI.2.1
   have hjl := hI.2.2.1
   have hAx := kxs_len A
   by_cases hlt : j < S.length
   ·have dl : decide ((j : Int) < (S.length : Int)) = true := decide_eq_true (by omega)
    have ei : (i : Int).toNat = i := Int.toNat_natCast i
    have ej : (j : Int).toNat = j := Int.toNat_natCast j
    have e1 : ((i : Int) + 1) = ((i + 1 : Nat) : Int) := by omega
    have e2 : ((j : Int) + 1) = ((j + 1 : Nat) : Int) := by omega
    have hw : ((kxs A).drop (j * 4)).take 4 = kxC (S.getD j default) := by
     rw [← filI_get default hI hlt]
     exact fm_win (j := 0) kxC_len default (by omega) (Nat.le_refl _)
    have hb4 : j * 4 + 4 ≤ (kxs A).length := by omega
    have hset : (kxs A).take (i * 4) ++ kxC (S.getD j default) ++ (kxs A).drop (i * 4 + 4) = kxs (A.set i (S.getD j default)) := fm_set kxC_len _ (by omega)
    have cf := hc (S.getD j default)
    have hkeep := filI_keep default hI hlt
    have hskip := filI_skip default hI hlt
    have hcc : (DV.agg (kxC (S.getD j default))).cells? = some (kxC (S.getD j default)) := rfl
    have hcl := kxC_len (S.getD j default)
    have htk : (kxC (S.getD j default)).take 4 = kxC (S.getD j default) := rfl
    have hCrf := kxC_rf (S.getD j default)
    have hCa : (kxC (S.getD j default)).all DV.rf = true := List.all_eq_true.2 hCrf
    generalize hX : S.getD j default = x at *
    generalize hC : kxC x = C at *
    refine zS dl ?_
    refine wTs ?_
    refine W_seq ?_
    refine W_block ?_
    refine W_seq ?_
    refine W_reg ?_
    refine zE (zA ei (zA ej (zA hAx (zA hw (zA hcc (zA hcl (zA htk (zA @List.drop_zero.{0} @cS)))))))) ?_
    refine ⟨⟨by omega, by omega⟩, by omega, ?_⟩
    refine W_seq ?_
    refine W_callV [om 26 1, ot 27 (.ldn 4 (.x 7))] [ox 29 (.un .not (.t 28))] (.t 28) (.t 26) [.t 27] rfl ?_
    refine zE (zA ei (zA ej (zA hAx (zA hw (zA hcc (zA hcl (zA htk (zA @List.drop_zero.{0} @cS)))))))) ?_
    refine ⟨g, [], hv, hg, callR_pure cf (by simp [DV.rf_agg, hCa]) ?_⟩
    cases hp : p x
    ·refine zR ?_
     refine wT ?_
     have hf1 := map_frz 7 C (kxs_rf (A.set i x))
     refine W_seq ?_
     refine W_reg ?_
     refine zE (zA ei (zA ej (zA hAx (zA hw (zA hcc (zA hcl (zA htk (zA @List.drop_zero.{0} @cS)))))))) ?_
     refine ⟨⟨by omega, by omega⟩, by omega, ?_⟩
     rw [hset]
     refine W_freeze 7 (cells := C) rfl hCa ?_
     refine zS (zA e1 (zA e2 (zA hf1 hv1))) ?_
     exact ⟨(i + 1, j + 1, A.set i x), hkeep hp, by show S.length - (j + 1) < S.length - j; omega, by simp [subF, lk, frz_osl_ne], rfl⟩
    ·refine zR ?_
     refine wFs ?_
     have hf1 := map_frz 7 C (kxs_rf A)
     refine W_freeze 7 (cells := C) rfl hCa ?_
     refine zS (zA e2 (zA hf1 hv1)) ?_
     exact ⟨(i, j + 1, A), hskip hp, by show S.length - (j + 1) < S.length - j; omega, by simp [subF, lk, frz_osl_ne], rfl⟩
   ·have dl : decide ((j : Int) < (S.length : Int)) = false := decide_eq_false (by omega)
    obtain rfl : j = S.length := by omega
    have hend := filI_end hI
    have ei : (i : Int).toNat = i := Int.toNat_natCast i
    refine zS dl ?_
    refine W_cond rfl (fun h => by cases h) (fun _ => W_exit ?_)
    obtain ⟨hr1, hr2⟩ := rep4 (S.length - i) (.str []) (.int .i64 0) .nils .nils rfl
    refine zD ?_
    refine W_seq ?_
    refine W_reg ?_
    refine zE (zA @goW_clr (zA ei hAx)) ?_
    refine ⟨⟨by omega, by omega⟩, by omega, by omega, ?_⟩
    have hil : i < S.length := by omega
    have htA : (kxs A).take (i * 4) = kxs (S.filter fun x => !p x) := by
     rw [← hend]; exact fm_take kxC_len A i
    have hlT : ((kxs A).take (i * 4)).length = i * 4 := by rw [List.length_take]; omega
    have hdA : (kxs A).drop (i * 4 + (S.length - i) * 4) = [] := List.drop_eq_nil_of_le (by omega)
    rw [hdA, List.append_nil, htA]
    rw [htA] at hlT
    obtain ⟨Z, hZ⟩ : ∃ Z, Z = kxs (S.filter fun x => !p x) ++ rep (S.length - i) [DV.str [], .int .i64 0, .nils, .nils] := ⟨_, rfl⟩
    have hZl : Z.length = S.length * 4 := by rw [hZ, List.length_append, hr1, hlT]; omega
    have hZr : ∀ d ∈ Z, d.rf = true := fun d hd => by
     rw [hZ, List.mem_append] at hd
     rcases hd with hd | hd
     ·exact kxs_rf _ d hd
     ·exact hr2 d hd
    have hZt : Z.take (i * 4) = kxs (S.filter fun x => !p x) := by rw [hZ, ← hlT, List.take_left]
    rw [← hZ]
    refine W_freeze 1000 (cells := Z) rfl (List.all_eq_true.2 hZr) ?_
    have hfz : frz 1000 Z (.osl 4 1000 0 S.length) = .sl 4 Z := by
     simp [frz, hZl]
     rw [List.take_of_length_le (by omega)]
    have hv2 : frz 1000 Z v = v := by
     have := map_frz 1000 Z (cs := [v]) (by simpa using hvr)
     simpa using this
    have hZc : Z.length / 4 = S.length := by omega
    refine zS (zA hfz (zA hv2 (zA ei (zA hZc (zA hZt (zA @List.drop_zero.{0} @Nat.zero_mul)))))) ?_
    exact W_ret (Ret_dat (by decide) rfl)
end Go.Proofs.YtjahkcgckiobkaaGreatDoor
namespace Go.Proofs.YtjahkcgckiobkaaGreatDoor
open Go Go.Dat Go.Proofs Go.RowKit Go.Shelf Nat32
theorem pFraction_calls (a b : Int) (ha : a.natAbs ≤ 1000000) (hb : b ≠ 0) (hb2 : b.natAbs ≤ 1000000) : PCalls Tryz.prog 39 [.int .i64 a, .int .i64 b] (Q (Rat.divInt a b)) := by
 have c1 := sFromInt_calls a (by omega) (by omega)
 have c2 := sFromInt_calls b (by omega) (by omega)
 have il1 : ∀ z : Int, z.natAbs ≤ 1000000 → il z ≤ 900 := fun z hz => Nat.le_trans (limbs_len.2 (show z.natAbs < 4294967296 ^ 1 by omega)) (by decide)
 have c3 := p_over_calls a b hb (il1 a ha) (il1 b hb2)
 refine PCalls_of ispFraction (by simp [fnpFraction]) ?_
 unfold codepFraction
 generalize Rat.divInt a b = r at *
 have hx3 : (xnC (qX r)).length = 3 := rfl
 have hcc : (Q r).cells? = some (xnC (qX r)) := rfl
 repeat (first | refine zP ?_ | refine cP c1 ?_ | refine cP c2 ?_ | refine cP c3 ?_ | exact zT)
 refine zS (zA hcc (zA hx3 @cS)) ?_
 exact W_ret (RetP_c rfl rfl rfl (.imm rfl))
def strsB (l : List Bs) : Bool := decide (l.length ≤ 40) && l.all fun s => decide (s.length ≤ 60)
theorem all_yes {α : Type} [Inhabited α] {p : α → Bool} {l : List α} (h : ∀ j, j < l.length → p (l.getD j default) = true) : l.all p = true := by
 rw [List.all_eq_true]
 intro x hx
 obtain ⟨i, hi, rfl⟩ := List.getElem_of_mem hx
 have := h i hi
 rw [List.getD_eq_getElem?_getD, List.getElem?_eq_getElem hi] at this
 simpa using this
theorem all_no {α : Type} [Inhabited α] {p : α → Bool} {l : List α} {i : Nat} (hi : i < l.length) (h : p (l.getD i default) = false) : l.all p = false := by
 rw [List.all_eq_false]
 exact ⟨_, memG hi, by rw [h]; decide⟩
theorem lt_strings_calls (l : List Bs) (hl : l.length ≤ 9223372036854775807) (hs : ∀ s ∈ l, s.length ≤ 9223372036854775807) : PCalls Tryz.prog 22 [.sl 1 (strL l)] (.bool (strsB l)) := by
 have hll := strL_len l
 refine PCalls_of islt_strings (by simp [fnlt_strings]) ?_
 unfold codelt_strings strsB
 by_cases h : l.length ≤ 40
 ·have d1 : decide ((40 : Int) < (l.length : Int)) = false := decide_eq_false (by omega)
  rw [decide_eq_true h, Bool.true_and]
  refine zS (zA hll d1) ?_
  refine wFs ?_
  refine zR ?_
  refine W_loop (σ := Nat) (fun i => [(0, .sl 1 (strL l)), (3, .int .i64 i)]) (fun _ => []) (fun i => i ≤ l.length ∧ ∀ j, j < i → (l.getD j []).length ≤ 60) (fun i => l.length - i) 0 ⟨Nat.zero_le _, by simp⟩ ?_ rfl ?_
  ·simp [subF, lk]
  ·rintro i ⟨hi, hall⟩
   try simp only at hi hall ⊢
   by_cases hlt : i < l.length
   ·have dl : decide ((i : Int) < (l.length : Int)) = true := decide_eq_true (by omega)
    have ei : (i : Int).toNat = i := Int.toNat_natCast i
    have e1 : ((i : Int) + 1) = ((i + 1 : Nat) : Int) := by omega
    have hg := strL_getD hlt
    by_cases hc : (l.getD i []).length ≤ 60
    ·have dc : decide ((60 : Int) < ((l.getD i []).length : Int)) = false := decide_eq_false (by omega)
     refine zS (zA dl hll) ?_
     refine wTs ?_
     refine zS (zA ei (zA hll (zA hg dc))) ?_
     refine wFs ?_
     refine zS e1 ?_
     exact ⟨i + 1, ⟨by omega, fun j hj => by
      rcases Nat.lt_or_ge j i with h2 | h2
      ·exact hall j h2
      ·obtain rfl : j = i := by omega
       exact hc⟩, by omega, by simp [subF, lk]⟩
    ·have dc : decide ((60 : Int) < ((l.getD i []).length : Int)) = true := decide_eq_true (by omega)
     rw [all_no (p := fun s : Bs => decide (s.length ≤ 60)) hlt (decide_eq_false hc)]
     refine zS (zA dl hll) ?_
     refine wTs ?_
     refine zS (zA ei (zA hll (zA hg dc))) ?_
     refine wT ?_
     refine zR ?_
     exact W_ret (RetP_1 (.imm rfl))
   ·have dl : decide ((i : Int) < (l.length : Int)) = false := decide_eq_false (by omega)
    rw [all_yes (p := fun s : Bs => decide (s.length ≤ 60)) fun j hj => decide_eq_true (hall j (by omega))]
    refine zS (zA dl hll) ?_
    refine W_cond rfl (fun h => by cases h) (fun _ => W_exit ?_)
    refine zR ?_
    exact W_ret (RetP_1 (.imm rfl))
 ·have d1 : decide ((40 : Int) < (l.length : Int)) = true := decide_eq_true (by omega)
  rw [decide_eq_false h, Bool.false_and]
  refine zS (zA hll d1) ?_
  refine wT ?_
  refine zR ?_
  exact W_ret (RetP_1 (.imm rfl))
def recsB (l : List (List Bs)) : Bool := decide (l.length ≤ 40) && l.all strsB
theorem lt_records_calls (l : List (List Bs)) (hl : l.length ≤ 9223372036854775807) (hs : ∀ r ∈ l, r.length ≤ 9223372036854775807 ∧ ∀ s ∈ r, s.length ≤ 9223372036854775807) : PCalls Tryz.prog 11 [.sl 1 (recD l)] (.bool (recsB l)) := by
 have hll := recD_len l
 refine PCalls_of islt_records (by simp [fnlt_records]) ?_
 unfold codelt_records recsB
 by_cases h : l.length ≤ 40
 ·have d1 : decide ((40 : Int) < (l.length : Int)) = false := decide_eq_false (by omega)
  rw [decide_eq_true h, Bool.true_and]
  refine zS (zA hll d1) ?_
  refine wFs ?_
  refine zR ?_
  refine W_loop (σ := Nat) (fun i => [(0, .sl 1 (recD l)), (3, .int .i64 i)]) (fun _ => []) (fun i => i ≤ l.length ∧ ∀ j, j < i → strsB (l.getD j []) = true) (fun i => l.length - i) 0 ⟨Nat.zero_le _, by simp⟩ ?_ rfl ?_
  ·simp [subF, lk]
  ·rintro i ⟨hi, hall⟩
   try simp only at hi hall ⊢
   by_cases hlt : i < l.length
   ·have dl : decide ((i : Int) < (l.length : Int)) = true := decide_eq_true (by omega)
    have ei : (i : Int).toNat = i := Int.toNat_natCast i
    have e1 : ((i : Int) + 1) = ((i + 1 : Nat) : Int) := by omega
    have hg := recD_getD hlt
    have hm := hs _ (memR_getD hlt)
    have cs := lt_strings_calls (l.getD i []) hm.1 hm.2
    refine zS (zA dl hll) ?_
    refine wTs ?_
    refine zS (zA ei (zA hll hg)) ?_
    refine cP cs ?_
    cases hc : strsB (l.getD i [])
    ·rw [all_no (p := strsB) hlt hc]
     refine zR ?_
     refine wT ?_
     refine zR ?_
     exact W_ret (RetP_1 (.imm rfl))
    ·refine zR ?_
     refine wFs ?_
     refine zS e1 ?_
     exact ⟨i + 1, ⟨by omega, fun j hj => by
      rcases Nat.lt_or_ge j i with h2 | h2
      ·exact hall j h2
      ·obtain rfl : j = i := by omega
       exact hc⟩, by omega, by simp [subF, lk]⟩
   ·have dl : decide ((i : Int) < (l.length : Int)) = false := decide_eq_false (by omega)
    rw [all_yes (p := strsB) fun j hj => hall j (by omega)]
    refine zS (zA dl hll) ?_
    refine W_cond rfl (fun h => by cases h) (fun _ => W_exit ?_)
    refine zR ?_
    exact W_ret (RetP_1 (.imm rfl))
 ·have d1 : decide ((40 : Int) < (l.length : Int)) = true := decide_eq_true (by omega)
  rw [decide_eq_false h, Bool.false_and]
  refine zS (zA hll d1) ?_
  refine wT ?_
  refine zR ?_
  exact W_ret (RetP_1 (.imm rfl))
end Go.Proofs.YtjahkcgckiobkaaGreatDoor
namespace Go.Proofs.YtjahkcgckiobkaaGreatDoor
open Go Go.Dat Go.Proofs Go.RowKit Nat32
theorem call_b1 : Callable Tryz.prog 43 := ⟨_, Tryz.func43, by kernel_rfl, by kernel_rfl⟩
theorem call_b2 : Callable Tryz.prog 47 := ⟨_, Tryz.func47, by kernel_rfl, by kernel_rfl⟩
set_option maxHeartbeats 4000000 in
theorem tBld_calls (fs : List Fx) (recs : List (List Bs)) (hl : fs.length ≤ 1000000) (hl2 : recs.length ≤ 1000000) (hu : ∀ f ∈ fs, okN0 f.un) (hm : ∀ f ∈ fs, f.ms.length ≤ 1000000) (hn : ∀ f ∈ fs, f.nm.length ≤ 9223372036854775807)
  (hr : ∀ r ∈ recs, r.length ≤ 1000000 ∧ ∀ s ∈ r, s.length ≤ 450) : PCalls Tryz.prog 13 [.sl 6 (fxs fs), .sl 1 (recD recs)] (bldR fs recs) := by
 by_cases h1 : 32 < fs.length ∨ 1024 < recs.length
 ·have : bldR fs recs = badT 0 2 := by unfold bldR; rw [if_pos h1]
  rw [this]; exact tBuild_limit fs recs hl hl2 h1
 have hf32 : fs.length ≤ 32 := by omega
 have hr1024 : recs.length ≤ 1024 := by omega
 have hln : (fxs fs).length / 6 = fs.length := by rw [fxs_len]; omega
 have hrl := recD_len recs
 have hfl := fxs_len fs
 have d1 : decide ((32 : Int) < (fs.length : Int)) = false := decide_eq_false (by omega)
 have d2 : decide ((1024 : Int) < (recs.length : Int)) = false := decide_eq_false (by omega)
 have c1 := tFieldNames_calls fs hl
 have c2 := tNames_calls (fnmL fs) (by rw [fnmL_len]; omega) (fun s hs => by
  unfold fnmL at hs
  obtain ⟨f, hf, rfl⟩ := List.mem_map.1 hs
  exact hn f hf)
 have c3 := slCFField_calls fs hl (fun f => !rdB f) (.fn 43) 43 [] (.inr ⟨rfl, rfl⟩) rfl rfl call_b1 (fun f hf => tBuild1_calls f (hu f hf))
 refine PCalls_of istBld (by simp [fntBld]) ?_
 unfold codetBld
 refine zS (zA hln (zA hrl (zA d1 d2))) ?_
 refine wFs ?_
 refine zR ?_
 refine cP c1 ?_
 refine zR ?_
 refine cP c2 ?_
 cases hnb : namesB (fnmL fs)
 ·have : bldR fs recs = badT 0 8 := by unfold bldR; rw [if_neg h1, if_pos hnb]
  rw [this]
  refine zR ?_
  refine wT ?_
  refine zS @cS ?_
  exact W_ret (Ret_bad rfl rfl rfl rfl)
 refine zR ?_
 refine wFs ?_
 refine zR ?_
 refine cP c3 ?_
 cases hrd : fs.any fun f => !rdB f
 ·have en : (fs.length : Int).toNat = fs.length := Int.toNat_natCast _
  have hP0 := P1_zero fs
  refine zR ?_
  refine wFs ?_
  refine zS (zA hln en) ?_
  rw [hP0]
  refine zS hln ?_
  refine W_loop (σ := Nat) (fun i => [(0, .sl 6 (fxs fs)), (1, .sl 1 (recD recs)), (4, .ptr 4 0), (5, .int .i64 0), (6, .int .i64 0), (7, .osl 4 34 0 fs.length), (35, .sl 6 (fxs fs)), (36, .int .i64 fs.length), (37, .int .i64 i)]) (fun i => [(4, [.int .i64 0, .nils]), (34, nilC (P1 fs i))]) (fun i => i ≤ fs.length) (fun i => fs.length - i) 0 (Nat.zero_le _) ?_ rfl ?_
  ·simp [subF, lk]
  ·intro i hi
   try simp only at hi ⊢
   by_cases hlt : i < fs.length
   ·have dl : decide ((i : Int) < (fs.length : Int)) = true := decide_eq_true (by omega)
    have ei : (i : Int).toNat = i := Int.toNat_natCast i
    have e1 : ((i : Int) + 1) = ((i + 1 : Nat) : Int) := by omega
    have hw : ((fxs fs).drop (i * 6)).take 6 = fxC (fs.getD i default) := fm_win (j := 0) fxC_len default hlt (Nat.le_refl _)
    have hpl := P1_len (fs := fs) (i := i) hi
    have hnl := nilC_len (P1 fs i)
    have hst := nilC_set (S := P1 fs i) (i := i) (fs.getD i default).nm (fs.getD i default).kd (by omega)
    have hnx : nilC ((P1 fs i).set i ⟨(fs.getD i default).nm, (fs.getD i default).kd, [], []⟩) = nilC (P1 fs (i + 1)) := congrArg nilC (P1_next hlt)
    rw [hnx] at hst
    have hf9 := map_frz 9 (fxC (fs.getD i default)) (nilC_one (P1 fs (i + 1)))
    have hcc : (DV.agg (fxC (fs.getD i default))).cells? = some (fxC (fs.getD i default)) := rfl
    have hcl := fxC_len (fs.getD i default)
    have htf : (fxC (fs.getD i default)).take 6 = fxC (fs.getD i default) := rfl
    have hg0 : (fxC (fs.getD i default)).getD 0 .undef = .str (fs.getD i default).nm := rfl
    have hg1 : (fxC (fs.getD i default)).getD 1 .undef = .int .i64 (fs.getD i default).kd := rfl
    have hrf := fxC_rf (fs.getD i default)
    have hrfa : ((fxC (fs.getD i default)).all DV.rf) = true := List.all_eq_true.2 hrf
    generalize (fs.getD i default).nm = nm at *
    generalize (fs.getD i default).kd = kd at *
    generalize fxC (fs.getD i default) = C at *
    repeat (first | refine W_seq ?_ | refine W_reg ?_ | refine W_regd ?_ | refine W_regs ?_ | refine W_regp ?_ | refine W_block ?_ | refine And.intro (by omega) ?_ | simp (maxSteps := 1000000) (disch := omega) only [cA, cB, cN, FnD.nb, lk, lkH, Dst.onT, Dst.onX, Dst.slot, setF, setH, mapF, mapH, initF, binE, unE, cnt, boundE, newsE, freshE, freshT, opE, rmH, blkQ, frz_us, Nat.reduceEqDiff, Nat.reduceLT, Nat.reduceAdd, Nat.reduceMul, Nat.reduceMod, ↓reduceIte, reduceCtorEq, Nat.reduceLeDiff, dl])
    refine wTs ?_
    refine W_seq ?_
    refine W_block ?_
    refine W_seq ?_
    refine W_reg ?_
    simp (maxSteps := 1000000) (disch := omega) only [cA, cB, cN, FnD.nb, lk, lkH, Dst.onT, Dst.onX, Dst.slot, setF, setH, mapF, mapH, initF, binE, unE, cnt, boundE, newsE, freshE, freshT, opE, rmH, blkQ, frz_us, Nat.reduceEqDiff, Nat.reduceLT, Nat.reduceAdd, Nat.reduceMul, Nat.reduceMod, ↓reduceIte, reduceCtorEq, Nat.reduceLeDiff, ei, hw, hfl, hcc, hcl, htf, List.drop_zero, cS]
    refine ⟨⟨by omega, by omega⟩, by omega, ?_⟩
    refine W_reg ?_
    simp (maxSteps := 1000000) (disch := omega) only [cA, cB, cN, FnD.nb, lk, lkH, Dst.onT, Dst.onX, Dst.slot, setF, setH, mapF, mapH, initF, binE, unE, cnt, boundE, newsE, freshE, freshT, opE, rmH, blkQ, frz_us, Nat.reduceEqDiff, Nat.reduceLT, Nat.reduceAdd, Nat.reduceMul, Nat.reduceMod, ↓reduceIte, reduceCtorEq, Nat.reduceLeDiff, ei, hw, hfl, hcc, hcl, htf, List.drop_zero, cS, hg0, hg1, hnl, hpl]
    refine ⟨⟨by omega, by omega⟩, by omega, ?_⟩
    rw [hst]
    refine W_freeze 9 (cells := C) rfl hrfa ?_
    refine zS (zA e1 hf9) ?_
    exact ⟨i + 1, by omega, by omega, by simp [subF, lk, frz_osl_ne, frz, purge, DV.has], by simp [rmH, frz, purge, DV.has, hf9]⟩
   ·have dl : decide ((i : Int) < (fs.length : Int)) = false := decide_eq_false (by omega)
    obtain rfl : i = fs.length := by omega
    rw [P1_end]
    have hS0 : (asm fs (fs.map fun _ => ([], []))).length = fs.length := asm_len _ _
    refine W_owns 34 (by decide) (asm fs (fs.map fun _ => ([], []))) (by omega) (fun j hj => ?_) ((4, [.int .i64 0, .nils]) :: (34, contO 0 (asm fs (fs.map fun _ => ([], [])))) :: DD 0 (asm fs (fs.map fun _ => ([], [])))) rfl (fun p hp => ?_) ?_ fs.length 0 (by omega) _ ?_ (fun p hp => ?_) (fun p hp h3 => ?_)
    ·rw [asm_get (by omega)]
     have : (fs.map fun _ => (([], []) : Tx)).getD j default = ([], []) := by
      rw [List.getD_eq_getElem?_getD, List.getElem?_map, List.getElem?_eq_getElem (by omega)]; rfl
     rw [this]; exact ⟨rfl, rfl⟩
    ·simp only [lkH]
     rw [if_neg (by omega), if_neg (by omega)]
    rotate_left
    ·simp [lkH, contO]
    ·simp only [lkH, List.take_zero, DD]
     rw [if_neg (by omega), if_neg (by omega)]
    ·simp only [lkH]
     by_cases e4 : 4 = p
     ·rw [if_pos e4, if_pos e4]
     ·rw [if_neg e4, if_neg e4, if_neg (by omega), if_neg (by omega), DD_none hp]
    refine zS dl ?_
    refine W_cond rfl (fun h => by cases h) (fun _ => W_exit ?_)
    refine zS hrl ?_
    refine W_loop (σ := Nat) (fun i => [(0, .sl 6 (fxs fs)), (1, .sl 1 (recD recs)), (4, .ptr 4 0), (5, .int .i64 0), (6, .int .i64 0), (7, .osl 4 34 0 fs.length), (51, .sl 1 (recD recs)), (52, .int .i64 recs.length), (53, .int .i64 i)]) (fun i => (4, [.int .i64 0, .nils]) :: (34, contO 0 (asm fs (recR parseQ fs recs i).2)) :: DD 0 (asm fs (recR parseQ fs recs i).2)) (fun i => i ≤ recs.length ∧ (recR parseQ fs recs i).1.2 = 0) (fun i => recs.length - i) 0 ⟨Nat.zero_le _, rfl⟩ ?_ rfl ?_
    ·simp [subF, lk]
    ·rintro i ⟨hi, h0⟩
     try simp only at hi h0 ⊢
     have hSl : (asm fs (recR parseQ fs recs i).2).length = fs.length := asm_len _ _
     by_cases hlt : i < recs.length
     ·have dl : decide ((i : Int) < (recs.length : Int)) = true := decide_eq_true (by omega)
      have ei : (i : Int).toNat = i := Int.toNat_natCast i
      have e1 : ((i : Int) + 1) = ((i + 1 : Nat) : Int) := by omega
      have hg := recD_getD hlt
      have hrm := hr _ (memR_getD hlt)
      have hxl := strL_len (recs.getD i [])
      refine zS dl ?_
      refine wTs ?_
      refine zS (zA ei (zA hg hrl)) ?_
      by_cases hsh : (recs.getD i []).length = fs.length
      ·have dsh : decide (¬ ((recs.getD i []).length : Int) = (fs.length : Int)) = false := decide_eq_false (by omega)
       have hTl := recR_len parseQ fs recs i
       have hsz := recR_sz parseQ fs recs i
       have hrow := fun {e : Int} => @recR_row parseQ fs recs i h0 hsh e
       have hgood := @recR_good parseQ fs recs i h0 hsh
       generalize hT : (recR parseQ fs recs i).2 = T at *
       generalize hrr : recs.getD i [] = r at *
       refine zS (zA hxl (zA hln dsh)) ?_
       refine wFs ?_
       refine zS hln ?_
       refine W_loop (σ := Nat) (fun k => [(0, .sl 6 (fxs fs)), (1, .sl 1 (recD recs)), (4, .ptr 4 0), (5, .int .i64 0), (6, .int .i64 0), (7, .osl 4 34 0 fs.length), (10, .int .i64 i), (11, .sl 1 (strL r)), (51, .sl 1 (recD recs)), (52, .int .i64 recs.length), (53, .int .i64 i), (66, .sl 6 (fxs fs)), (67, .int .i64 fs.length), (68, .int .i64 k)]) (fun k => (4, [.int .i64 0, .nils]) :: (34, contO 0 (asm fs (rowR parseQ fs r T k).2)) :: DD 0 (asm fs (rowR parseQ fs r T k).2)) (fun k => k ≤ fs.length ∧ (rowR parseQ fs r T k).1 = 0) (fun k => fs.length - k) 0 ⟨Nat.zero_le _, rfl⟩ ?_ rfl ?_
       ·simp [subF, lk]
       ·rintro k ⟨hk, hk0⟩
        try simp only at hk hk0 ⊢
        by_cases hlt2 : k < fs.length
        ·have dl2 : decide ((k : Int) < (fs.length : Int)) = true := decide_eq_true (by omega)
         have ek : (k : Int).toNat = k := Int.toNat_natCast k
         have e2 : ((k : Int) + 1) = ((k + 1 : Nat) : Int) := by omega
         have hw : ((fxs fs).drop (k * 6)).take 6 = fxC (fs.getD k default) := fm_win (j := 0) fxC_len default hlt2 (Nat.le_refl _)
         have hgs := strL_getD (r := r) (j := k) (by omega)
         have hs450 := hrm.2 _ (mem_getD (l := r) (i := k) (by omega))
         have hTk := rowR_len parseQ fs r T k
         have hsk := (rowR_sz parseQ fs r (n := i) (T := T) (fun j hj => hsz j (by omega)) k k (by omega)).1
         have hnx := @rowR_next parseQ fs r T k hk0
         have hbd := fun he => @rowR_bad parseQ fs r T k hk0 he fs.length hlt2
         have hfm := memG hlt2
         generalize (rowR parseQ fs r T k).2 = T2 at *
         have hSl2 : (asm fs T2).length = fs.length := asm_len _ _
         have hag := asm_get (fs := fs) (T := T2) hlt2
         have hset := fun t => asm_set (fs := fs) (T := T2) (k := k) t (by omega)
         have hSS : (asm fs T2).length ≤ 1000 := by omega
         have hkS : k < (asm fs T2).length := by omega
         generalize fs.getD k default = f at *
         generalize r.getD k [] = s at *
         have hDok := DD_ok 0 (asm fs T2) (by omega)
         have hD13 : lkH (DD 0 (asm fs T2)) 13 = none := DD_none (by omega)
         have hcr := tRead_rel (contO 0 ((asm fs T2).take k)) (contO (k + 1) ((asm fs T2).drop (k + 1))) (drp (ai k) (bi k) (DD 0 (asm fs T2))) ((asm fs T2).getD k default).nm ((asm fs T2).getD k default).kd ((asm fs T2).getD k default).le ((asm fs T2).getD k default).ce f s (drp_ok hDok) (nb_ok hkS).1 (nb_ok hkS).2 (hu f hfm) (hm f hfm) hs450 (by rw [hag]; exact Nat.le_trans hsk.1 (by decide)) (by rw [hag]; exact Nat.le_trans hsk.2 (by omega))
         have hst : ∀ R : Int × List Bs × List Tc, (asm fs T2).set k ⟨((asm fs T2).getD k default).nm, ((asm fs T2).getD k default).kd, R.2.1, R.2.2⟩ = asm fs (T2.set k R.2) := fun R => by rw [hset, hag]; rfl
         have hRe : readR parseQ f ((asm fs T2).getD k default).le ((asm fs T2).getD k default).ce s = readR parseQ f (T2.getD k default).1 (T2.getD k default).2 s := by rw [hag]; rfl
         have hcc : (DV.agg (fxC f)).cells? = some (fxC f) := rfl
         have hcl := fxC_len f
         have htf : (fxC f).take 6 = fxC f := rfl
         have hg1 : (fxC f).getD 1 .undef = .int .i64 f.kd := rfl
         have hrf := fxC_rf f
         have hrfa : ((fxC f).all DV.rf) = true := List.all_eq_true.2 hrf
         have hcf := fun S => contO_frz (o := 13) (by decide) (fxC f) 0 S
         have hrD := fun (S : List Kx) (h : S.length ≤ 1000) => (DD_ok 0 S (by omega)).rm (o := 13) (by decide) (fxC f)
         have z2 : ∀ d ∈ [DV.int .i64 0, .nils], d.rf = true := by
          intro d hd
          simp only [List.mem_cons, List.not_mem_nil, or_false] at hd
          rcases hd with rfl | rfl <;> rfl
         generalize hC : fxC f = C at *
         by_cases k3 : f.kd = 3
         ·have d3 : decide (f.kd = 3) = true := decide_eq_true k3
          rw [colStep_skip k3, set_self] at hnx
          have hrD0 := hrD _ hSS
          refine zS dl2 ?_
          refine wTs ?_
          refine zS (zA ek (zA hw (zA hfl (zA hcc (zA hcl (zA htf (zA @List.drop_zero.{0} (zA @cS (zA hg1 (zA hD13 d3)))))))))) ?_
          refine wT ?_
          refine W_freeze 13 (cells := C) rfl hrfa ?_
          refine W_exit ?_
          refine zS (zA e2 (zA hcf hrD0)) ?_
          exact ⟨k + 1, ⟨by omega, by rw [hnx]⟩, by omega, by simp [subF, lk, frz, purge, DV.has], by rw [hnx]⟩
         ·have d3 : decide (f.kd = 3) = false := decide_eq_false k3
          rw [colStep_read k3, ← hRe] at hnx hbd
          refine zS dl2 ?_
          refine wTs ?_
          refine zS (zA ek (zA hw (zA hfl (zA hcc (zA hcl (zA htf (zA @List.drop_zero.{0} (zA @cS (zA hg1 (zA hD13 d3)))))))))) ?_
          refine wFs ?_
          refine zS (zA ek (zA hw (zA hcc (zA hcl (zA htf (zA @List.drop_zero.{0} (zA @cS (zA hgs (zA hxl (zA hSl2 (zA @List.take_succ_cons.{0} (zA @List.take_zero.{0} @List.drop_succ_cons.{0})))))))))))) ?_
          generalize hR : readR parseQ f ((asm fs T2).getD k default).le ((asm fs T2).getD k default).ce s = R at *
          refine callC_col rfl (asm fs T2) k hkS hSS (.agg C) (.str s) (by simp [DV.rf_agg, hrfa]) rfl rfl (col_DD _ _ _) (col_lo z2 hrf) R.1 R.2.1 R.2.2 _ (by omega) hcr (by simp [lowN, DV.rf_agg, hrfa]; exact ⟨rfl, rfl, rfl, rfl, rfl⟩) (by simp [lowN, DV.rf]) _ (col_H2 _ _ _ _) ?_
          rw [hst]
          have hRD := hrD (asm fs (T2.set k R.2)) (by rw [asm_len]; omega)
          by_cases he : R.1 = 0
          ·have de : decide (¬ R.1 = 0) = false := by rw [he]; rfl
           refine zS de ?_
           refine wFs ?_
           refine W_freeze 13 (cells := C) rfl hrfa ?_
           refine zS (zA e2 (zA hcf hRD)) ?_
           exact ⟨k + 1, ⟨by omega, by rw [hnx]; exact he⟩, by omega, by simp [subF, lk, frz, purge, DV.has], by rw [hnx]⟩
          ·have de : decide (¬ R.1 = 0) = true := decide_eq_true he
           have hx := bldR_err h1 hnb hrd hlt he (hrow he (hbd he))
           rw [hx]
           refine zS de ?_
           refine wT ?_
           refine zS (zA @cS e1) ?_
           exact W_ret (Ret_bad rfl rfl rfl rfl)
        ·have dl2 : decide ((k : Int) < (fs.length : Int)) = false := decide_eq_false (by omega)
         obtain rfl : k = fs.length := by omega
         have hgd := hgood hk0
         refine zS dl2 ?_
         refine W_cond rfl (fun h => by cases h) (fun _ => W_exit ?_)
         refine zS e1 ?_
         exact ⟨i + 1, ⟨by omega, by rw [hgd]⟩, by omega, by simp [subF, lk], by rw [hgd]⟩
      ·have dsh : decide (¬ ((recs.getD i []).length : Int) = (fs.length : Int)) = true := decide_eq_true (by omega)
       have hx := bldR_err h1 hnb hrd hlt (e := 6) (by decide) (recR_shape h0 hsh)
       rw [hx]
       refine zS (zA hxl (zA hln dsh)) ?_
       refine wT ?_
       refine zS (zA @cS e1) ?_
       exact W_ret (Ret_bad rfl rfl rfl rfl)
     ·have dl : decide ((i : Int) < (recs.length : Int)) = false := decide_eq_false (by omega)
      obtain rfl : i = recs.length := by omega
      rw [bldR_ok h1 hnb hrd h0]
      generalize (recR parseQ fs recs recs.length).2 = T at *
      have hrfK := kxs_rf (asm fs T)
      have hlo : ∀ p, p < 100000 → p ≠ 34 → lkH ((4, [.int .i64 0, .nils]) :: (34, contO 0 (asm fs T)) :: DD 0 (asm fs T)) p = lkH [(4, [.int .i64 0, .nils]), (34, kxs (asm fs T))] p := fun p hp h3 => by
       simp only [lkH]
       by_cases e4 : 4 = p
       ·rw [if_pos e4, if_pos e4]
       ·rw [if_neg e4, if_neg e4, if_neg (by omega), if_neg (by omega), DD_none hp]
      refine W_frzs 34 (by decide) (asm fs T) (by omega) [(4, [.int .i64 0, .nils]), (34, kxs (asm fs T))] rfl (fun p hp => ?_) (fun p c hpc => ?_) rfl ?_ fs.length 0 (by omega) _ ?_ (fun p hp => ?_) hlo
      ·simp only [lkH]
       rw [if_neg (by omega), if_neg (by omega)]
      ·simp only [lkH] at hpc
       split at hpc
       ·cases hpc
        intro d hd
        simp only [List.mem_cons, List.not_mem_nil, or_false] at hd
        rcases hd with rfl | rfl <;> rfl
       ·split at hpc
        ·cases hpc; exact hrfK
        ·cases hpc
      rotate_left
      ·simp [lkH, kxs]
      ·simp only [lkH, List.drop_zero]
       rw [if_neg (by omega), if_neg (by omega)]
      refine zS dl ?_
      refine W_cond rfl (fun h => by cases h) (fun _ => W_exit ?_)
      have cd := slDFCol_rel (asm fs T) (by omega) (fun x => decide (x.kd = 3)) (.fn 47) 47 (.inr ⟨rfl, rfl⟩) rfl call_b2 tBuild2_calls
      rw [hSl] at cd
      refine zS hrl ?_
      have hfe : ((asm fs T).filter fun x => !decide (x.kd = 3)) = tabK fs T := by
       unfold tabK
       congr 1
       funext x
       by_cases hx : x.kd = 3 <;> simp [hx]
      rw [hfe] at cd
      generalize kxs (tabK fs T) = X at *
      refine callC_mv1 rfl 34 4 fs.length (.fn 47) (.sl 4 X) (by decide) rfl hrfK rfl rfl cd [(4, [.int .i64 recs.length, .nils])] (fun p => ?_) ?_
      ·simp only [lkH]
       by_cases e4 : 4 = p
       ·subst e4; simp [rn]
       ·rw [if_neg e4, if_neg e4]
        by_cases e5 : p = 34
        ·rw [if_pos e5]
        ·rw [if_neg e5, if_neg (Ne.symm e5)]; rfl
      simp only [mapF, rn, gout, Nat.reduceEqDiff, if_true, if_false]
      refine zS @cS ?_
      refine W_ret ?_
      refine RetP_ctt rfl rfl rfl (.imm rfl) (.imm rfl) (.imm rfl)
 ·have : bldR fs recs = badT 0 4 := by unfold bldR; rw [if_neg h1, hnb, if_neg (by decide), if_pos hrd]
  rw [this]
  refine zR ?_
  refine wT ?_
  refine zS @cS ?_
  exact W_ret (Ret_bad rfl rfl rfl rfl)
end Go.Proofs.YtjahkcgckiobkaaGreatDoor
namespace Go.Proofs.YtjahkcgckiobkaaGreatDoor
open Go Go.Dat Go.Proofs Go.RowKit Go.Shelf Nat32
def exF1 : Fx := ⟨[120], 1, [[78, 65]], qX (Rat.divInt 1 100)⟩
def exF2 : Fx := ⟨[103], 2, [], (false, [], [])⟩
def exR : List (List Bs) := [[[50, 53, 48], [97]], [[78, 65], [98]]]
def exC1 : List Tc := [⟨false, qX (Rat.divInt 5 2), 0⟩, ⟨true, (false, [], []), 0⟩]
def exC2 : List Tc := [⟨false, (false, [], []), 0⟩, ⟨false, (false, [], []), 1⟩]
def exK : List DV := [.str [120], .int .i64 1, .sl 1 (strL []), .sl 5 (cxs exC1), .str [103], .int .i64 2, .sl 1 (strL [[97], [98]]), .sl 5 (cxs exC2)]
theorem ex_bld : bldR [exF1, exF2] exR = .tup [.agg [.int .i64 2, .sl 4 exK], .int .i64 0, .int .i64 0] := by
 rw [bldR_ok (by decide) (by kernel_rfl) (by kernel_rfl) (by kernel_rfl)]
 have e : (recR parseQ [exF1, exF2] exR exR.length).2 = [([], exC1), ([[97], [98]], exC2)] := by kernel_rfl
 rw [e]
 rfl
theorem ex_lim (x : Rat) (h : RB x 10) : okN0 (qX x) := ⟨lim_limbs _, lim_dn _, Nat.le_trans h.1 (by decide), Nat.le_trans (RB_dn h) (by decide)⟩
theorem ex_build : PCalls Tryz.prog 13 [.sl 6 (fxC exF1 ++ [.str [103], .int .i64 2, .nils, .bool false, .nils, .nils]), .sl 1 [.sl 1 [.str [50, 53, 48], .str [97]], .sl 1 [.str [78, 65], .str [98]]]] (.tup [.agg [.int .i64 2, .sl 4 exK], .int .i64 0, .int .i64 0]) := by
 rw [← ex_bld]
 refine PCalls_wk (ds' := [.sl 6 (fxs [exF1, exF2]), .sl 1 (recD exR)]) (.cons (WkD.sl 6 (WkL.app (WkL.refl _) ?_)) (.cons (WkD.refl _) .nil)) (tBld_calls [exF1, exF2] exR (by decide) (by decide) ?_ ?_ ?_ ?_)
 ·exact .cons (WkD.refl _) (.cons (WkD.refl _) (.cons (WkD.nils 1) (.cons (WkD.refl _) (.cons (WkD.nils 1) (.cons (WkD.nils 1) .nil)))))
 ·intro f hf
  simp only [List.mem_cons, List.not_mem_nil, or_false] at hf
  rcases hf with rfl | rfl
  ·exact ex_lim _ (by unfold RB; decide +kernel)
  ·show okN0 ((false, [], []) : XN)
   exact ⟨fun x hx => absurd hx List.not_mem_nil, fun x hx => absurd hx List.not_mem_nil, Nat.zero_le _, Nat.zero_le _⟩
 ·intro f hf
  simp only [List.mem_cons, List.not_mem_nil, or_false] at hf
  rcases hf with rfl | rfl <;> decide
 ·intro f hf
  simp only [List.mem_cons, List.not_mem_nil, or_false] at hf
  rcases hf with rfl | rfl <;> decide
 ·intro r hr
  simp only [exR, List.mem_cons, List.not_mem_nil, or_false] at hr
  rcases hr with rfl | rfl
  ·refine ⟨by decide, fun s hs => ?_⟩
   simp only [List.mem_cons, List.not_mem_nil, or_false] at hs
   rcases hs with rfl | rfl <;> decide
  ·refine ⟨by decide, fun s hs => ?_⟩
   simp only [List.mem_cons, List.not_mem_nil, or_false] at hs
   rcases hs with rfl | rfl <;> decide
theorem lt_awake_calls : PCalls Tryz.prog 12 [] (.bool true) := by
 have c1 := pFraction_calls 1 100 (by decide) (by decide) (by decide)
 have c2 := pFraction_calls 5 2 (by decide) (by decide) (by decide)
 have c3 := ex_build
 have c4 : PCalls Tryz.prog 20 [Q (Rat.divInt 5 2), Q (Rat.divInt 5 2)] (.bool true) := by
  have := pSameL (Rat.divInt 5 2) (Rat.divInt 5 2) (by unfold RB; decide +kernel) (by unfold RB; decide +kernel)
  rwa [decide_eq_true rfl] at this
 have h1 : laid [.str [], .int .i64 0, .nils, .bool false, .nils, .nils] [(0, 1, .str [120]), (1, 1, .int .i64 1), (2, 1, .sl 1 [.str [78, 65]]), (3, 3, Q (Rat.divInt 1 100))] = some (fxC exF1) := rfl
 have h2 : laid [.str [], .int .i64 0, .nils, .bool false, .nils, .nils] [(0, 1, .str [103]), (1, 1, .int .i64 2)] = some [.str [103], .int .i64 2, .nils, .bool false, .nils, .nils] := rfl
 have h3 : laid [.str [], .int .i64 0, .nils, .bool false, .nils, .nils, .str [], .int .i64 0, .nils, .bool false, .nils, .nils] [(0, 6, .agg (fxC exF1)), (6, 6, .agg [.str [103], .int .i64 2, .nils, .bool false, .nils, .nils])] = some (fxC exF1 ++ [.str [103], .int .i64 2, .nils, .bool false, .nils, .nils]) := rfl
 have h4 : ∀ a b : List DV, laid [.nils, .nils] [(0, 1, .sl 1 a), (1, 1, .sl 1 b)] = some [.sl 1 a, .sl 1 b] := fun _ _ => rfl
 have h5 : ∀ a b : Bs, laid [.str [], .str []] [(0, 1, .str a), (1, 1, .str b)] = some [.str a, .str b] := fun _ _ => rfl
 have h6 : ∀ a : Bs, laid [.str []] [(0, 1, .str a)] = some [.str a] := fun _ => rfl
 generalize hA : fxC exF1 ++ [.str [103], .int .i64 2, .nils, .bool false, .nils, .nils] = A at *
 have hAr : ∀ d ∈ A, d.rf = true := by rw [← hA]; exact List.all_eq_true.1 rfl
 have k3 : exK.getD 3 .undef = .sl 5 (cxs exC1) := rfl
 obtain ⟨Y, hY⟩ : ∃ Y : List DV, Y = [.str [97], .str [98]] := ⟨_, rfl⟩
 have k6 : exK.getD 6 .undef = .sl 1 Y := by rw [hY]; rfl
 have yl : Y.length = 2 := by rw [hY]; rfl
 have kl : exK.length = 8 := rfl
 have x1 : ((cxs exC1).drop 1).take 3 = xnC (qX (Rat.divInt 5 2)) := rfl
 have x5 : (cxs exC1).getD 5 .undef = .bool true := rfl
 have xl : (cxs exC1).length = 10 := rfl
 have hq : DV.agg (xnC (qX (Rat.divInt 5 2))) = Q (Rat.divInt 5 2) := rfl
 generalize exK = K at *
 generalize cxs exC1 = C at *
 generalize xnC (qX (Rat.divInt 5 2)) = X at *
 refine PCalls_of islt_awake (by simp [fnlt_awake]) ?_
 unfold codelt_awake
 refine zS h6 ?_
 refine ⟨List.all_eq_true.1 rfl, ?_⟩
 refine cP c1 ?_
 refine zS (zA h1 (zA h2 (zA h3 (zA h4 h5)))) ?_
 repeat refine ⟨List.all_eq_true.1 rfl, ?_⟩
 refine cP c3 ?_
 have dT : decide True = true := rfl
 have e84 : 8 / 4 = 2 := rfl
 have e105 : 10 / 5 = 2 := rfl
 have c22 : ((2 : Nat) : Int) = 2 := rfl
 have t0 : (0 : Int).toNat = 0 := rfl
 have t1 : (1 : Int).toNat = 1 := rfl
 refine zS (zA @cS (zA k3 (zA k6 (zA kl (zA x1 (zA x5 (zA xl (zA yl (zA hq (zA dT (zA e84 (zA e105 (zA c22 (zA t0 (zA t1 (zA @Nat.zero_mul (zA @Nat.zero_add @Nat.one_mul))))))))))))))))) ?_
 refine cP c2 ?_
 refine zS (zA @cS (zA k3 (zA k6 (zA kl (zA x1 (zA x5 (zA xl (zA yl (zA hq (zA dT (zA e84 (zA e105 (zA c22 (zA t0 (zA t1 (zA @Nat.zero_mul (zA @Nat.zero_add @Nat.one_mul))))))))))))))))) ?_
 refine cP c4 ?_
 refine zS (zA @cS (zA k3 (zA k6 (zA kl (zA x1 (zA x5 (zA xl (zA yl (zA hq (zA dT (zA e84 (zA e105 (zA c22 (zA t0 (zA t1 (zA @Nat.zero_mul (zA @Nat.zero_add @Nat.one_mul))))))))))))))))) ?_
 exact W_ret (RetP_1 (.imm rfl))
theorem strsB_spec {l : List Bs} (h : strsB l = true) : l.length ≤ 40 ∧ ∀ s ∈ l, s.length ≤ 60 := by
 unfold strsB at h
 simp only [Bool.and_eq_true, decide_eq_true_eq, List.all_eq_true] at h
 exact h
theorem recsB_spec {l : List (List Bs)} (h : recsB l = true) : l.length ≤ 40 ∧ ∀ r ∈ l, r.length ≤ 40 ∧ ∀ s ∈ r, s.length ≤ 60 := by
 unfold recsB at h
 simp only [Bool.and_eq_true, decide_eq_true_eq, List.all_eq_true] at h
 exact ⟨h.1, fun r hr => strsB_spec (h.2 r hr)⟩
theorem inf_okU (hd : List Bs) (recs : List (List Bs)) (miss : List Bs) (hh : hd.length ≤ 1000000) (hm : miss.length ≤ 1000000) : (infR parseQ hd recs miss).1.length ≤ 1000000 ∧ ∀ f ∈ (infR parseQ hd recs miss).1, f.ms.length ≤ 1000000 ∧ okU f.un := by
 unfold infR
 split
 ·exact ⟨Nat.zero_le _, fun f hf => by cases hf⟩
 ·split
  ·refine ⟨by rw [infL_len]; exact hh, fun f hf => ?_⟩
   obtain ⟨h1, h2⟩ := infL_mem parseQ hf
   refine ⟨by rw [h1]; exact hm, ?_⟩
   rcases h2 with h2 | h2
   ·exact ⟨1, by unfold RB; decide +kernel, h2⟩
   ·exact ⟨0, by unfold RB; decide +kernel, h2⟩
  ·exact ⟨Nat.zero_le _, fun f hf => by cases hf⟩
theorem ltInfers_calls (hd : List Bs) (recs : List (List Bs)) (miss : List Bs) (hh : hd.length ≤ 9223372036854775807) (hhs : ∀ s ∈ hd, s.length ≤ 9223372036854775807) (hl : recs.length ≤ 9223372036854775807) (hr : ∀ r ∈ recs, r.length ≤ 9223372036854775807 ∧ ∀ s ∈ r, s.length ≤ 9223372036854775807) (hm : miss.length ≤ 9223372036854775807) (hms : ∀ s ∈ miss, s.length ≤ 9223372036854775807) :
  PCalls Tryz.prog 6 [.sl 1 (strL hd), .sl 1 (recD recs), .sl 1 (strL miss)] (.bool true) := by
 have aw := lt_awake_calls
 have c1 := lt_strings_calls hd hh hhs
 have c2 := lt_records_calls recs hl hr
 have c3 := lt_strings_calls miss hm hms
 have hll := strL_len hd
 refine PCalls_of isltInfers (by simp [fnltInfers]) ?_
 unfold codeltInfers
 refine zR ?_
 refine cP c1 ?_
 cases h1 : strsB hd
 ·refine zR ?_
  refine wT ?_
  refine zR ?_
  refine cP aw ?_
  refine zR ?_
  exact W_ret (RetP_1 (.imm rfl))
 refine zR ?_
 refine cP c2 ?_
 cases h2 : recsB recs
 ·refine zR ?_
  refine wT ?_
  refine zR ?_
  refine cP aw ?_
  refine zR ?_
  exact W_ret (RetP_1 (.imm rfl))
 refine zR ?_
 refine cP c3 ?_
 cases h3 : strsB miss
 ·refine zR ?_
  refine wT ?_
  refine zR ?_
  refine cP aw ?_
  refine zR ?_
  exact W_ret (RetP_1 (.imm rfl))
 obtain ⟨k1, k1'⟩ := strsB_spec h1
 obtain ⟨k2, k2'⟩ := recsB_spec h2
 obtain ⟨k3, k3'⟩ := strsB_spec h3
 have hrr : ∀ r ∈ recs, r.length ≤ 9223372036854775807 ∧ ∀ s ∈ r, s.length ≤ 450 := fun r h => ⟨(hr r h).1, fun s hs => Nat.le_trans ((k2' r h).2 s hs) (by decide)⟩
 have ct := tInfer_calls hd recs miss (by omega) hhs (by omega) (by omega) hrr
 have cu := uInfer_calls hd recs miss (by omega) hhs (by omega) (by omega) hrr
 refine zR ?_
 refine wFs ?_
 refine zR ?_
 refine W_loop (σ := Nat) (fun i => [(0, .sl 1 (strL hd)), (1, .sl 1 (recD recs)), (2, .sl 1 (strL miss)), (7, .int .i64 i)]) (fun _ => []) (fun i => i ≤ hd.length) (fun i => hd.length - i) 0 (Nat.zero_le _) ?_ rfl ?_
 ·simp [subF, lk]
 ·intro i hi
  try simp only at hi ⊢
  by_cases hlt : i < hd.length
  ·have dl : decide ((i : Int) < (hd.length : Int)) = true := decide_eq_true (by omega)
   have ei : (i : Int).toNat = i := Int.toNat_natCast i
   have e1 : ((i : Int) + 1) = ((i + 1 : Nat) : Int) := by omega
   have hg := strL_getD hlt
   have hs := hhs _ (mem_getD hlt)
   have n1 := tName_calls (hd.getD i []) hs
   have n2 := uName_calls (hd.getD i []) hs
   generalize nameB (hd.getD i []) = b at *
   have hbb : (!(b == b)) = false := by cases b <;> rfl
   refine zS (zA dl hll) ?_
   refine wTs ?_
   refine zS (zA ei (zA hll hg)) ?_
   refine cP n1 ?_
   refine zS (zA ei (zA hll hg)) ?_
   refine cP n2 ?_
   refine zS hbb ?_
   refine wFs ?_
   refine zS e1 ?_
   exact ⟨i + 1, by omega, by omega, by simp [subF, lk]⟩
  ·have dl : decide ((i : Int) < (hd.length : Int)) = false := decide_eq_false (by omega)
   have hok := inf_okU hd recs miss (by omega) (by omega)
   have cs := uSameFields_eq (infR parseQ hd recs miss).1 hok.1 hok.2
   generalize infR parseQ hd recs miss = R at *
   refine zS (zA dl hll) ?_
   refine W_cond rfl (fun h => by cases h) (fun _ => W_exit ?_)
   refine zR ?_
   refine cP ct ?_
   refine zR ?_
   refine cP cu ?_
   refine zR ?_
   refine cP aw ?_
   refine zR ?_
   refine cP cs ?_
   have dT : decide True = true := rfl
   refine zS dT ?_
   exact W_ret (RetP_1 (.imm rfl))
end Go.Proofs.YtjahkcgckiobkaaGreatDoor
namespace Go.Proofs.YtjahkcgckiobkaaGreatDoor
open Go Go.Dat Go.Proofs Go.RowKit Nat32
theorem law_of {f : Nat} {ds : List DV} {vs : Array Value} {w : World} (hc : PCalls Tryz.prog f ds (.bool true)) (hT : Tab Tryz.prog w) (hs : vs.size = ds.length) (hv : ∀ (k : Nat) d v, ds[k]? = some d → vs[k]? = some v → VI w (fun _ => False) d v) :
  Calls Tryz.prog f vs w fun e w' => e = .returned (.bool true) ∧ Below w.heap.size w w' := by
 refine (hc (fun _ => False) w vs hT (fun b h => h.elim) hs hv).mono ?_
 rintro e w' ⟨v, rfl, hvi, hx⟩
 refine ⟨?_, hx.os, hx.tape, hx.output, hx.size, fun k hk => hx.block k hk id⟩
 cases hvi; rfl
theorem max_shaped {w : World} (h : w.ShapedOpen Tryz.prog) : ∀ g, Tryz.prog.globalNamed maxName = some g → g < w.heap.size ∧ ∃ m, w.cell? ⟨g, 0, none⟩ = some (.int .i64 m) := by
 intro g hg
 rw [show Tryz.prog.globalNamed maxName = some 1 by kernel_rfl] at hg
 cases hg
 obtain ⟨m, hm⟩ := Go.Proofs.cell_of_shapedOpen_int (zero := #[.int .i64 0]) (t := 3) (g := 1) h (of_decide_eq_true (by kernel_rfl)) (by kernel_rfl) rfl (by kernel_rfl) (by kernel_rfl) Tryz.underlying3
 exact ⟨World.block_lt_of_cell? w _ hm, m, hm⟩
theorem tab_shaped {w : World} (h : w.ShapedOpen Tryz.prog) : Tab Tryz.prog w := by
 refine ⟨fun g hg => ?_, max_shaped h⟩
 rw [show Tryz.prog.globalNamed tabName = none by kernel_rfl] at hg
 cases hg
theorem handed_and_shaped {H : Type} {enc : TypeId × Value → H} {a : Assume} {C : Checked} {os : Os} {f : FuncId} {fn : Func} {s : ChangeSpec} {conds : List PathCond} {apart fresh handsOn again : Bool} {X : World → Array Value → Prop}
  (hX : ∀ (w w' : World) (args : Array Value), w.heap = w'.heap → X w args → X w' args)
  (own : ownKnob C.prog.godebug = none) (started : os.Started) (noInit : C.prog.inits.idxOf? f = none) (hfn : C.prog.funcs[f]? = some fn)
  (witness : ∃ (w : World) (tape : Tape) (i : Input), w.os = os ∧ (w.forCall tape i).Shaped C.prog ∧ i.vars = [] ∧ Input.okWide C.prog (w.forCall tape i) .any w.heap.size f i ∧
   ((s.pre enc C.prog fn conds apart (w.forCall tape i).memory i.args ∧ X (w.forCall tape i).memory i.args) ∧ sizedMet enc C.prog fn (OpenSpec.ofChange s) apart (w.forCall tape i).memory i.args) ∧ a.holds C.prog (lone (Frame.enter C.prog f i.args .normal) [] (w.forCall tape i)))
  (contract : ∀ (W : World) (base : Nat) (args : Array Value) (ds gs : List (DataW H)) (before : List MemPlace),
   (∀ (j : Nat) t v, fn.params[j]? = some t → args[j]? = some v → Value.okWide C.prog W .any base t v) →
   DataW.Whole enc C.prog fn.params.toList s.vars apart W args.toList ds gs before → X W args → W.ShapedOpen C.prog →
   Calls C.prog f args W fun e W' => ∃ v, e = .returned v ∧ s.post enc C.prog fn apart fresh handsOn again W args v W') :
  ReturnsInHanded a C os f .any (fun w args => (s.pre enc C.prog fn conds apart w args ∧ X w args) ∧ sizedMet enc C.prog fn (OpenSpec.ofChange s) apart w args) (s.post enc C.prog fn apart fresh handsOn again) := by
 refine returnsInHanded_of_calls own started noInit witness ?_
 intro w tape i _ hsh _ hok hpre _
 obtain ⟨_, _, _, fn', hfn', _, _, _, _, hval⟩ := hok
 obtain rfl : fn' = fn := Option.some.inj (hfn'.symm.trans hfn)
 obtain ⟨⟨⟨ds, gs, before, hw, _⟩, hx⟩, _⟩ := hpre
 refine (contract (w.forCall tape i) w.heap.size i.args ds gs before hval (DataW.Whole.of_heap (w' := w.forCall tape i) (by rfl) hw) (hX _ _ _ (by rfl) hx) hsh).mono ?_
 rintro e W' ⟨v, rfl, hp⟩
 exact ChangeSpec.post_blind hp
theorem lst_D {α : Type} {t : Ty} {f : α → List DV} {p : α → Prop} (hf : ∀ z, IsD t z → ∃ a, p a ∧ z = f a) : ∀ {zs : List (List DV)}, (∀ z ∈ zs, IsD t z) → ∃ l : List α, l.length = zs.length ∧ zs.flatten = l.flatMap f ∧ ∀ a ∈ l, p a
 | [], _ => ⟨[], rfl, rfl, fun a h => by cases h⟩
 | z :: zs, h => by
  obtain ⟨l, h1, h2, h3⟩ := lst_D hf (zs := zs) fun y hy => h y (List.mem_cons_of_mem _ hy)
  obtain ⟨a, g1, g2⟩ := hf z (h z List.mem_cons_self)
  refine ⟨a :: l, by simp [h1], by rw [List.flatten_cons, h2, g2]; rfl, fun x hx => ?_⟩
  rcases List.mem_cons.1 hx with rfl | hx
  ·exact g1
  ·exact h3 x hx
theorem strL_fm (l : List Bs) : l.flatMap (fun s => [DV.str s]) = strL l := by
 induction l with
 | nil => rfl
 | cons s l ih => rw [List.flatMap_cons, ih]; rfl
def okStrs (l : List Bs) : Prop := l.length ≤ 9223372036854775807 ∧ ∀ s ∈ l, s.length ≤ 9223372036854775807
theorem strs_D {zs : List (List DV)} (h : ∀ z ∈ zs, IsD .str z) (hl : zs.length ≤ 9223372036854775807) : ∃ l : List Bs, zs.flatten = strL l ∧ okStrs l := by
 obtain ⟨l, h1, h2, h3⟩ := lst_D (f := fun s : Bs => [DV.str s]) (p := fun s => s.length ≤ 9223372036854775807) (fun z hz => by obtain ⟨s, g1, g2⟩ := hz; exact ⟨s, g1, g2⟩) h
 exact ⟨l, by rw [h2, strL_fm], by rw [h1]; exact hl, h3⟩
theorem strs_D1 {z : List DV} (h : IsD (.sl .str) z) : ∃ l : List Bs, okStrs l ∧ z = [.sl 1 (strL l)] := by
 obtain ⟨zs, h1, h2, rfl⟩ := h
 obtain ⟨l, e, h3⟩ := strs_D h1 h2
 exact ⟨l, h3, by rw [e]; rfl⟩
theorem recs_D {zs : List (List DV)} (h : ∀ z ∈ zs, IsD (.sl .str) z) (hl : zs.length ≤ 9223372036854775807) : ∃ l : List (List Bs), zs.flatten = recD l ∧ l.length ≤ 9223372036854775807 ∧ ∀ r ∈ l, okStrs r := by
 obtain ⟨l, h1, h2, h3⟩ := lst_D (f := fun r : List Bs => [DV.sl 1 (strL r)]) (p := okStrs) (fun z hz => strs_D1 hz) h
 refine ⟨l, ?_, by rw [h1]; exact hl, h3⟩
 rw [h2]
 clear h1 h2 h3
 induction l with
 | nil => rfl
 | cons s l ih => rw [List.flatMap_cons, ih]; rfl
end Go.Proofs.YtjahkcgckiobkaaGreatDoor
