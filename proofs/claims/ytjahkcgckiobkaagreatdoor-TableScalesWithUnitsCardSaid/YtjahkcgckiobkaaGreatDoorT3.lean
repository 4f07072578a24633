/- Lemmas of the walk; no conditions beyond those that each states. -/
import Derived.OpenShut
import Derived.Below
import Derived.HandedShaped
import Derived.Handed
import Derived.Test.YtjahkcgckiobkaaGreatDoorProg
import Derived.Test.YtjahkcgckiobkaaGreatDoorD2
import Derived.Test.YtjahkcgckiobkaaGreatDoorT2
import Derived.Test.YtjahkcgckiobkaaGreatDoorN1
import Derived.Test.YtjahkcgckiobkaaGreatDoorD3
import Derived.Test.YtjahkcgckiobkaaGreatDoorT1
import Derived.Test.YtjahkcgckiobkaaGreatDoorC1
set_option linter.unusedSimpArgs false
set_option linter.unusedVariables false
set_option linter.unnecessarySimpa false
set_option maxHeartbeats 4000000
namespace Go.Proofs.YtjahkcgckiobkaaGreatDoor
open Go Go.Dat Go.Proofs Go.RowKit Nat32
set_option maxHeartbeats 4000000 in
theorem uBld_calls (fs : List Fx) (recs : List (List Bs)) (hl : fs.length ≤ 1000000) (hl2 : recs.length ≤ 1000000) (hu : ∀ f ∈ fs, okN0 f.un) (hm : ∀ f ∈ fs, f.ms.length ≤ 1000000) (hn : ∀ f ∈ fs, f.nm.length ≤ 9223372036854775807)
  (hr : ∀ r ∈ recs, r.length ≤ 1000000 ∧ ∀ s ∈ r, s.length ≤ 450) : PCalls Tryz.prog 14 [.sl 6 (fxs fs), .sl 1 (recD recs)] (bldR fs recs) := by
 have hln : (fxs fs).length / 6 = fs.length := by rw [fxs_len]; omega
 have hrl := recD_len recs
 have hfl := fxs_len fs
 by_cases h1 : 32 < fs.length ∨ 1024 < recs.length
 ·have : bldR fs recs = badT 0 2 := by unfold bldR; rw [if_pos h1]
  rw [this]
  refine PCalls_of isuBld (by simp [fnuBld]) ?_
  unfold codeuBld
  by_cases h2 : 32 < fs.length
  ·have d1 : decide ((32 : Int) < (fs.length : Int)) = true := decide_eq_true (by omega)
   refine zS (zA hln (zA hrl d1)) ?_
   refine wT ?_
   refine zS @cS ?_
   exact W_ret (Ret_bad rfl rfl rfl rfl)
  ·have d1 : decide ((32 : Int) < (fs.length : Int)) = false := decide_eq_false (by omega)
   have h3 : 1024 < recs.length := h1.resolve_left h2
   have d2 : decide ((1024 : Int) < (recs.length : Int)) = true := decide_eq_true (by omega)
   refine zS (zA hln (zA hrl (zA d1 d2))) ?_
   refine wT ?_
   refine zS @cS ?_
   exact W_ret (Ret_bad rfl rfl rfl rfl)
 have hf32 : fs.length ≤ 32 := by omega
 have hr1024 : recs.length ≤ 1024 := by omega
 have d1 : decide ((32 : Int) < (fs.length : Int)) = false := decide_eq_false (by omega)
 have d2 : decide ((1024 : Int) < (recs.length : Int)) = false := decide_eq_false (by omega)
 have c1 := u_fields_calls fs hl hu hn
 refine PCalls_of isuBld (by simp [fnuBld]) ?_
 unfold codeuBld
 refine zS (zA hln (zA hrl (zA d1 d2))) ?_
 refine wFs ?_
 refine zR ?_
 refine cP c1 ?_
 unfold ufR
 cases hnb : namesB (fnmL fs)
 ·have : bldR fs recs = badT 0 8 := by unfold bldR; rw [if_neg h1, if_pos hnb]
  rw [this, if_pos rfl]
  refine zR ?_
  refine wT ?_
  refine zS @cS ?_
  exact W_ret (Ret_bad rfl rfl rfl rfl)
 rw [if_neg (by decide)]
 cases hrd : fs.any fun f => !rdB f
 ·rw [if_neg (by decide)]
  have en : (fs.length : Int).toNat = fs.length := Int.toNat_natCast _
  have hP0 := asmU_zero fs
  have dF : decide (¬ True) = false := rfl
  refine zS dF ?_
  refine wFs ?_
  refine zS (zA hln en) ?_
  rw [hP0]
  have hT0 : (fs.map fun _ => (([], []) : Tx)).length = fs.length := List.length_map _
  refine W_owns 32 (by decide) (asmU (fs.map fun _ => ([], []))) (by rw [asmU_len]; omega) (fun j hj => ?_) ((4, [.int .i64 0, .nils]) :: (32, contO 0 (asmU (fs.map fun _ => ([], [])))) :: DD 0 (asmU (fs.map fun _ => ([], [])))) rfl (fun p hp => ?_) ?_ fs.length 0 (by rw [asmU_len]; omega) _ ?_ (fun p hp => ?_) (fun p hp h3 => ?_)
  ·rw [asmU_len] at hj
   rw [asmU_get hj]
   have : (fs.map fun _ => (([], []) : Tx)).getD j default = ([], []) := by
    rw [List.getD_eq_getElem?_getD, List.getElem?_map, List.getElem?_eq_getElem (by omega)]; rfl
   rw [this]; exact ⟨rfl, rfl⟩
  ·simp only [lkH]
   rw [if_neg (by omega), if_neg (by omega)]
  rotate_left
  ·simp [lkH, contO]
  ·simp only [lkH, List.take_zero, DD]
   rw [if_neg (by omega), if_neg (by omega)]
  ·simp only [lkH]
   by_cases e4 : 4 = p
   ·rw [if_pos e4, if_pos e4]
   ·rw [if_neg e4, if_neg e4, if_neg (by omega), if_neg (by omega), DD_none hp]
  refine zR ?_
  refine W_loop (σ := Nat) (fun i => [(0, .sl 6 (fxs fs)), (1, .sl 1 (recD recs)), (4, .ptr 4 0), (8, .osl 4 32 0 fs.length), (9, .int .i64 i)]) (fun i => (4, [.int .i64 0, .nils]) :: (32, contO 0 (asmU (recR parseQ fs recs i).2)) :: DD 0 (asmU (recR parseQ fs recs i).2)) (fun i => i ≤ recs.length ∧ (recR parseQ fs recs i).1.2 = 0) (fun i => recs.length - i) 0 ⟨Nat.zero_le _, rfl⟩ ?_ rfl ?_
  ·simp [subF, lk]
  ·rintro i ⟨hi, h0⟩
   try simp only at hi h0 ⊢
   have hTl := recR_len parseQ fs recs i
   by_cases hlt : i < recs.length
   ·have dl : decide ((i : Int) < (recs.length : Int)) = true := decide_eq_true (by omega)
    have ei : (i : Int).toNat = i := Int.toNat_natCast i
    have e1 : ((i : Int) + 1) = ((i + 1 : Nat) : Int) := by omega
    have hg := recD_getD hlt
    have hrm := hr _ (memR_getD hlt)
    have hxl := strL_len (recs.getD i [])
    refine zS (zA dl hrl) ?_
    refine wTs ?_
    by_cases hsh : (recs.getD i []).length = fs.length
    ·have dsh : decide (¬ ((recs.getD i []).length : Int) = (fs.length : Int)) = false := decide_eq_false (by omega)
     have hsz := recR_sz parseQ fs recs i
     have hrow := fun {e : Int} => @recR_row parseQ fs recs i h0 hsh e
     have hgood := @recR_good parseQ fs recs i h0 hsh
     generalize hT : (recR parseQ fs recs i).2 = T at *
     generalize hrr : recs.getD i [] = r at *
     refine zS (zA ei (zA hg (zA hrl (zA hxl (zA hln dsh))))) ?_
     refine wFs ?_
     refine zR ?_
     refine W_loop (σ := Nat) (fun k => [(0, .sl 6 (fxs fs)), (1, .sl 1 (recD recs)), (4, .ptr 4 0), (8, .osl 4 32 0 fs.length), (9, .int .i64 i), (10, .int .i64 k)]) (fun k => (4, [.int .i64 0, .nils]) :: (32, contO 0 (asmU (rowR parseQ fs r T k).2)) :: DD 0 (asmU (rowR parseQ fs r T k).2)) (fun k => k ≤ fs.length ∧ (rowR parseQ fs r T k).1 = 0) (fun k => fs.length - k) 0 ⟨Nat.zero_le _, rfl⟩ ?_ rfl ?_
     ·simp [subF, lk]
     ·rintro k ⟨hk, hk0⟩
      try simp only at hk hk0 ⊢
      by_cases hlt2 : k < fs.length
      ·have dl2 : decide ((k : Int) < (fs.length : Int)) = true := decide_eq_true (by omega)
       have ek : (k : Int).toNat = k := Int.toNat_natCast k
       have e2 : ((k : Int) + 1) = ((k + 1 : Nat) : Int) := by omega
       have hw : ((fxs fs).drop (k * 6)).take 6 = fxC (fs.getD k default) := fm_win (j := 0) fxC_len default hlt2 (Nat.le_refl _)
       have hg1 : (fxs fs).getD (k * 6 + 1) .undef = .int .i64 (fs.getD k default).kd := fm_at (j := 1) fxC_len default hlt2 (by decide) .undef
       have hgs := strL_getD (r := r) (j := k) (by omega)
       have hs450 := hrm.2 _ (mem_getD (l := r) (i := k) (by omega))
       have hTk := rowR_len parseQ fs r T k
       have hsk := (rowR_sz parseQ fs r (n := i) (T := T) (fun j hj => hsz j (by omega)) k k (by omega)).1
       have hnx := @rowR_next parseQ fs r T k hk0
       have hbd := fun he => @rowR_bad parseQ fs r T k hk0 he fs.length hlt2
       have hfm := memG hlt2
       generalize (rowR parseQ fs r T k).2 = T2 at *
       have hSl2 : (asmU T2).length = fs.length := by rw [asmU_len]; omega
       have hag := asmU_get (T := T2) (j := k) (by omega)
       have hkS : k < (asmU T2).length := by omega
       generalize fs.getD k default = f at *
       generalize r.getD k [] = s at *
       by_cases k3 : f.kd = 3
       ·have d3 : decide (f.kd = 3) = true := decide_eq_true k3
        rw [colStep_skip k3, set_self] at hnx
        refine zS (zA dl2 hln) ?_
        refine wTs ?_
        refine zS (zA ek (zA hfl (zA hg1 d3))) ?_
        refine wT ?_
        refine W_exit ?_
        refine zS e2 ?_
        exact ⟨k + 1, ⟨by omega, by rw [hnx]⟩, by omega, by simp [subF, lk], by rw [hnx]⟩
       ·have d3 : decide (f.kd = 3) = false := decide_eq_false k3
        rw [colStep_read k3] at hnx hbd
        have hRe : readR parseQ f ((asmU T2).getD k default).le ((asmU T2).getD k default).ce s = readR parseQ f (T2.getD k default).1 (T2.getD k default).2 s := by rw [hag]
        rw [← hRe] at hnx hbd
        have hcr := uCell_rel [] 0 ((asmU T2).getD k default).le ((asmU T2).getD k default).ce f s (hu f hfm) (hm f hfm) hs450 (by rw [hag]; exact Nat.le_trans hsk.1 (by decide)) (by rw [hag]; exact Nat.le_trans hsk.2 (by omega))
        generalize hR : readR parseQ f ((asmU T2).getD k default).le ((asmU T2).getD k default).ce s = R at *
        have hst := asmU_set T2 k R.2
        have hcl := contO_len 0 (asmU T2)
        have hwc : ((contO 0 (asmU T2)).drop (k * 4)).take 4 = colV [] 0 (ai k) (bi k) ((asmU T2).getD k default).le.length ((asmU T2).getD k default).ce.length := by
         have hl : (contO 0 ((asmU T2).take k)).length = k * 4 := by rw [contO_len, List.length_take]; omega
         rw [contO_split 0 (asmU T2) k hkS, List.append_assoc, ← hl, List.drop_left, Nat.zero_add, hag]; rfl
        have hxs : (contX (asmU T2) k).take (k * 4) ++ colV [] 0 (ai k) (bi k) R.2.1.length R.2.2.length ++ (contX (asmU T2) k).drop (k * 4 + 4) = contO 0 (asmU (T2.set k R.2)) := by
         rw [← hst]; exact contX_set hkS (⟨[], 0, R.2.1, R.2.2⟩ : Kx)
        have p4 : purge 11 (.ptr 4 0) = .ptr 4 0 := by simp [purge, DV.has]
        have p11 : purge 11 (.ptr 11 0) = .undef := by simp [purge, DV.has]
        have hxc := contX_len hkS
        have z2 : ∀ d ∈ [DV.int .i64 0, .nils], d.rf = true := by
         intro d hd
         simp only [List.mem_cons, List.not_mem_nil, or_false] at hd
         rcases hd with rfl | rfl <;> rfl
        have z4 : ∀ d ∈ [DV.str [], .int .i64 0, .nils, .nils], d.rf = true := by
         intro d hd
         simp only [List.mem_cons, List.not_mem_nil, or_false] at hd
         rcases hd with rfl | rfl | rfl | rfl <;> rfl
        have hrf := fxC_rf f
        have hrfa : ((fxC f).all DV.rf) = true := List.all_eq_true.2 hrf
        have hcv : ∀ n m, (DV.agg (colV [] 0 (ai k) (bi k) n m)).cells? = some (colV [] 0 (ai k) (bi k) n m) := fun _ _ => rfl
        have hcl4 : ∀ n m, (colV [] 0 (ai k) (bi k) n m).length = 4 := fun _ _ => rfl
        have hct : ∀ n m, (colV [] 0 (ai k) (bi k) n m).take 4 = colV [] 0 (ai k) (bi k) n m := fun _ _ => rfl
        have hD11 : ∀ S, lkH (DD 0 S) 11 = none := fun S => DD_none (by decide)
        have hpD := DD_rmP (o := 11) (by decide) (asmU (T2.set k R.2)) (by rw [asmU_len, List.length_set]; omega)
        have hpC := contO_purge (o := 11) (by decide) 0 (asmU (T2.set k R.2))
        refine zS (zA dl2 hln) ?_
        refine wTs ?_
        refine zS (zA ek (zA hfl (zA hg1 d3))) ?_
        refine wFs ?_
        refine W_seq ?_
        refine W_rego ?_
        rw [regT_pre]
        dsimp only [DT.pre]
        refine zE (zA ek (zA ei (zA hw (zA hfl (zA hrl (zA hg (zA hxl (zA hgs (zA hSl2 (zA hwc hcl)))))))))) ?_
        refine ⟨⟨by omega, by omega⟩, by omega, ⟨by omega, by omega⟩, by omega, ⟨by omega, by omega⟩, by omega, ⟨by omega, by omega⟩, by omega, ?_, ?_⟩
        ·rw [regT_pre]
         dsimp only [DT.pre]
         refine zD ?_
         refine callC_ucol rfl 32 (by decide) (asmU T2) k hkS (by omega) (.agg (fxC f)) (.str s) (by simp [DV.rf_agg, hrfa]) rfl rfl (ucol_DD _ _) (ucol_lo z2) R.1 R.2.1 R.2.2 [] 0 (by rw [hag]) (by rw [hag]) hcr (by simp only [mapF]; rfl) (by simp [lowN, DV.rf]) _ (ucol_H2 _ _ _ _) ?_
         rw [hst]
         refine zE (zA hD11 (zA hcv (zA hcl4 @cS))) ?_
         simp only [regT]
         by_cases he : R.1 = 0
         ·have de : decide (¬ R.1 = 0) = false := by rw [he]; rfl
          refine zS de ?_
          refine wFs ?_
          refine W_reg ?_
          refine zE (zA ek (zA hcl4 (zA hcv (zA hct (zA hxc (zA hSl2 (zA @cS @List.drop_zero.{0}))))))) ?_
          refine ⟨⟨by omega, by omega⟩, by omega, ?_⟩
          rw [hxs]
          refine W_drop 11 ?_
          repeat (first | refine W_seq ?_ | refine W_reg ?_ | refine W_regd ?_ | refine W_regs ?_ | refine W_regp ?_ | refine W_block ?_ | refine And.intro (by omega) ?_ | simp (maxSteps := 1000000) (disch := omega) only [cA, cB, cN, FnD.nb, lk, lkH, Dst.onT, Dst.onX, Dst.slot, setF, setH, mapF, mapH, initF, binE, unE, cnt, boundE, newsE, freshE, freshT, opE, rmH, blkQ, frz_us, Nat.reduceEqDiff, Nat.reduceLT, Nat.reduceAdd, Nat.reduceMul, Nat.reduceMod, ↓reduceIte, reduceCtorEq, Nat.reduceLeDiff, e2, rmP, hpC, hpD, p4, p11])
          exact ⟨k + 1, ⟨by omega, by rw [hnx]; exact he⟩, by omega, by simp [subF, lk, purge, DV.has], by rw [hnx]⟩
         ·have de : decide (¬ R.1 = 0) = true := decide_eq_true he
          have hx := bldR_err h1 hnb hrd hlt he (hrow he (hbd he))
          rw [hx]
          refine zS de ?_
          refine wT ?_
          refine zS (zA @cS e1) ?_
          exact W_ret (Ret_bad rfl rfl rfl rfl)
        ·rw [regT_pre]
         dsimp only [DT.pre]
         refine zE hD11 ?_
         refine callC_ucol rfl 32 (by decide) (asmU T2) k hkS (by omega) (.agg (fxC f)) (.str s) (by simp [DV.rf_agg, hrfa]) rfl rfl (ucol_DD3 _ _ _) (ucol_lo3 z2 z4) R.1 R.2.1 R.2.2 [] 0 (by rw [hag]) (by rw [hag]) hcr (by simp only [mapF]; rfl) (by simp [lowN, DV.rf]) _ (ucol_H3 _ _ _ _ _) ?_
         rw [hst]
         refine zE (zA hD11 (zA hcv (zA hcl4 @cS))) ?_
         simp only [regT]
         by_cases he : R.1 = 0
         ·have de : decide (¬ R.1 = 0) = false := by rw [he]; rfl
          refine zS de ?_
          refine wFs ?_
          refine W_reg ?_
          refine zE (zA ek (zA hcl4 (zA hcv (zA hct (zA hxc (zA hSl2 (zA @cS @List.drop_zero.{0}))))))) ?_
          refine ⟨⟨by omega, by omega⟩, by omega, ?_⟩
          rw [hxs]
          refine W_drop 11 ?_
          repeat (first | refine W_seq ?_ | refine W_reg ?_ | refine W_regd ?_ | refine W_regs ?_ | refine W_regp ?_ | refine W_block ?_ | refine And.intro (by omega) ?_ | simp (maxSteps := 1000000) (disch := omega) only [cA, cB, cN, FnD.nb, lk, lkH, Dst.onT, Dst.onX, Dst.slot, setF, setH, mapF, mapH, initF, binE, unE, cnt, boundE, newsE, freshE, freshT, opE, rmH, blkQ, frz_us, Nat.reduceEqDiff, Nat.reduceLT, Nat.reduceAdd, Nat.reduceMul, Nat.reduceMod, ↓reduceIte, reduceCtorEq, Nat.reduceLeDiff, e2, rmP, hpC, hpD, p4, p11])
          exact ⟨k + 1, ⟨by omega, by rw [hnx]; exact he⟩, by omega, by simp [subF, lk, purge, DV.has], by rw [hnx]⟩
         ·have de : decide (¬ R.1 = 0) = true := decide_eq_true he
          have hx := bldR_err h1 hnb hrd hlt he (hrow he (hbd he))
          rw [hx]
          refine zS de ?_
          refine wT ?_
          refine zS (zA @cS e1) ?_
          exact W_ret (Ret_bad rfl rfl rfl rfl)
      ·have dl2 : decide ((k : Int) < (fs.length : Int)) = false := decide_eq_false (by omega)
       obtain rfl : k = fs.length := by omega
       have hgd := hgood hk0
       refine zS (zA dl2 hln) ?_
       refine W_cond rfl (fun h => by cases h) (fun _ => W_exit ?_)
       refine zS e1 ?_
       exact ⟨i + 1, ⟨by omega, by rw [hgd]⟩, by omega, by simp [subF, lk], by rw [hgd]⟩
    ·have dsh : decide (¬ ((recs.getD i []).length : Int) = (fs.length : Int)) = true := decide_eq_true (by omega)
     have hx := bldR_err h1 hnb hrd hlt (e := 6) (by decide) (recR_shape h0 hsh)
     rw [hx]
     refine zS (zA ei (zA hg (zA hrl (zA hxl (zA hln dsh))))) ?_
     refine wT ?_
     refine zS (zA @cS e1) ?_
     exact W_ret (Ret_bad rfl rfl rfl rfl)
   ·have dl : decide ((i : Int) < (recs.length : Int)) = false := decide_eq_false (by omega)
    obtain rfl : i = recs.length := by omega
    rw [bldR_ok h1 hnb hrd h0]
    generalize (recR parseQ fs recs recs.length).2 = T at *
    have hrfK := kxs_rf (asmU T)
    have hlo : ∀ p, p < 100000 → p ≠ 32 → lkH ((4, [.int .i64 0, .nils]) :: (32, contO 0 (asmU T)) :: DD 0 (asmU T)) p = lkH [(4, [.int .i64 0, .nils]), (32, kxs (asmU T))] p := fun p hp h3 => by
     simp only [lkH]
     by_cases e4 : 4 = p
     ·rw [if_pos e4, if_pos e4]
     ·rw [if_neg e4, if_neg e4, if_neg (by omega), if_neg (by omega), DD_none hp]
    refine W_frzs 32 (by decide) (asmU T) (by rw [asmU_len]; omega) [(4, [.int .i64 0, .nils]), (32, kxs (asmU T))] rfl (fun p hp => ?_) (fun p c hpc => ?_) rfl ?_ fs.length 0 (by rw [asmU_len]; omega) _ ?_ (fun p hp => ?_) hlo
    ·simp only [lkH]
     rw [if_neg (by omega), if_neg (by omega)]
    ·simp only [lkH] at hpc
     split at hpc
     ·cases hpc
      intro d hd
      simp only [List.mem_cons, List.not_mem_nil, or_false] at hd
      rcases hd with rfl | rfl <;> rfl
     ·split at hpc
      ·cases hpc; exact hrfK
      ·cases hpc
    rotate_left
    ·simp [lkH, kxs]
    ·simp only [lkH, List.drop_zero]
     rw [if_neg (by omega), if_neg (by omega)]
    refine W_freeze 32 (cells := kxs (asmU T)) rfl (List.all_eq_true.2 hrfK) ?_
    have hKl : (kxs (asmU T)).length = fs.length * 4 := by rw [kxs_len, asmU_len, hTl]
    have hfz : frz 32 (kxs (asmU T)) (.osl 4 32 0 fs.length) = .sl 4 (kxs (asmU T)) := by
     simp [frz, hKl]
     rw [List.take_of_length_le (by omega)]
    have fp4 : frz 32 (kxs (asmU T)) (.ptr 4 0) = .ptr 4 0 := by simp [frz, purge, DV.has]
    refine zS (zA dl (zA hrl (zA hfz fp4))) ?_
    refine W_cond rfl (fun h => by cases h) (fun _ => W_exit ?_)
    refine zS (zA hrl @cS) ?_
    refine W_ownc 13 1 4 300 rfl rfl (by simp [lkH]) ?_
    refine zS @cS ?_
    have hkz : kept fs T 0 = [] := rfl
    refine W_loop (σ := Nat) (fun i => [(0, .sl 6 (fxs fs)), (4, .ptr 4 0), (8, .sl 4 (kxs (asmU T))), (13, .ptr 13 0), (14, .int .i64 i)]) (fun i => [(4, [.int .i64 0, .nils]), (13, [.int .i64 recs.length, .osl 4 300 0 (kept fs T i).length]), (300, kxs (kept fs T i))]) (fun i => i ≤ fs.length) (fun i => fs.length - i) 0 (Nat.zero_le _) ?_ rfl ?_
    ·simp [subF, lk]
    ·intro i hi
     try simp only at hi ⊢
     have hKi := kept_len fs T i
     have hKx := kxs_len (kept fs T i)
     by_cases hlt : i < fs.length
     ·have dl : decide ((i : Int) < (fs.length : Int)) = true := decide_eq_true (by omega)
      have ei : (i : Int).toNat = i := Int.toNat_natCast i
      have e1 : ((i : Int) + 1) = ((i + 1 : Nat) : Int) := by omega
      have hg0 : (fxs fs).getD (i * 6) .undef = .str (fs.getD i default).nm := fm_at (j := 0) fxC_len default hlt (by decide) .undef
      have hg1 : (fxs fs).getD (i * 6 + 1) .undef = .int .i64 (fs.getD i default).kd := fm_at (j := 1) fxC_len default hlt (by decide) .undef
      have hag := asmU_get (T := T) (j := i) (by omega)
      have hg2 : (kxs (asmU T)).getD (i * 4 + 2) .undef = .sl 1 (strL (T.getD i default).1) := by
       have := fm_at (j := 2) kxC_len default (l := asmU T) (i := i) (by rw [asmU_len]; omega) (by decide) .undef
       rw [hag] at this; exact this
      have hg3 : (kxs (asmU T)).getD (i * 4 + 3) .undef = .sl 5 (cxs (T.getD i default).2) := by
       have := fm_at (j := 3) kxC_len default (l := asmU T) (i := i) (by rw [asmU_len]; omega) (by decide) .undef
       rw [hag] at this; exact this
      have hky := @kept_yes fs T i
      have hkn := @kept_no fs T i
      have hsn : kxs (kept fs T i) ++ [.str (fs.getD i default).nm, .int .i64 (fs.getD i default).kd, .sl 1 (strL (T.getD i default).1), .sl 5 (cxs (T.getD i default).2)] = kxs (kept fs T i ++ [mkK (fs.getD i default) (T.getD i default)]) := fm_snoc (f := kxC) (kept fs T i) (mkK (fs.getD i default) (T.getD i default))
      have hpn := map_purge 300 (kxs_rf (kept fs T i ++ [mkK (fs.getD i default) (T.getD i default)]))
      generalize fs.getD i default = f at *
      generalize T.getD i default = t at *
      by_cases k3 : f.kd = 3
      ·have d3 : decide (¬ f.kd = 3) = false := by rw [k3]; rfl
       refine zS (zA dl hln) ?_
       refine wTs ?_
       refine zS (zA ei (zA hfl (zA hg1 d3))) ?_
       refine wFs ?_
       refine zS e1 ?_
       exact ⟨i + 1, by omega, by omega, by simp [subF, lk], by rw [hkn k3]⟩
      ·have d3 : decide (¬ f.kd = 3) = true := decide_eq_true k3
       have hlk : laid [DV.str [], .int .i64 0, .nils, .nils] [(0, 1, .str f.nm), (1, 1, .int .i64 f.kd), (2, 1, .sl 1 (strL t.1)), (3, 1, .sl 5 (cxs t.2))] = some [.str f.nm, .int .i64 f.kd, .sl 1 (strL t.1), .sl 5 (cxs t.2)] := rfl
       have hl4 : laid [DV.str [], .int .i64 0, .nils, .nils] [(0, 4, .agg [.str f.nm, .int .i64 f.kd, .sl 1 (strL t.1), .sl 5 (cxs t.2)])] = some [.str f.nm, .int .i64 f.kd, .sl 1 (strL t.1), .sl 5 (cxs t.2)] := rfl
       have p4 : purge 300 (.ptr 4 0) = .ptr 4 0 := by simp [purge, DV.has]
       have p13 : ∀ z, purge 300 (.ptr 13 z) = .ptr 13 z := fun z => by simp [purge, DV.has]
       refine zS (zA dl hln) ?_
       refine wTs ?_
       refine zS (zA ei (zA hfl (zA hg1 d3))) ?_
       refine wT ?_
       refine zS (zA ei (zA hfl (zA hg0 (zA hg1 (zA hKl (zA hg2 (zA hg3 (zA @cS (zA hlk hl4))))))))) ?_
       refine ⟨fun d hd => ?_, ⟨hKx, by omega, by omega, fun h => h, fun d hd => ?_⟩, ?_⟩
       ·exact kxC_rf (mkK f t) d hd
       ·exact kxC_one (mkK f t) d hd
       refine zS (zA p4 (zA p13 (zA hsn hpn))) ?_
       refine ⟨rfl, ?_⟩
       refine zS e1 ?_
       exact ⟨i + 1, by omega, by omega, by simp [subF, lk], by rw [hky k3, List.length_append]; rfl⟩
     ·have dl : decide ((i : Int) < (fs.length : Int)) = false := decide_eq_false (by omega)
      obtain rfl : i = fs.length := by omega
      have hke : kept fs T fs.length = tabK fs T := kept_end fs T
      rw [hke] at hKx ⊢
      refine W_freeze 300 (cells := kxs (tabK fs T)) rfl (List.all_eq_true.2 (kxs_rf _)) ?_
      have hf3 : frz 300 (kxs (tabK fs T)) (.osl 4 300 0 (tabK fs T).length) = .sl 4 (kxs (tabK fs T)) := by
       simp [frz, hKx]
       rw [List.take_of_length_le (by omega)]
      have fp4 : frz 300 (kxs (tabK fs T)) (.ptr 4 0) = .ptr 4 0 := by simp [frz, purge, DV.has]
      have fp13 : frz 300 (kxs (tabK fs T)) (.ptr 13 0) = .ptr 13 0 := by simp [frz, purge, DV.has]
      refine zS (zA dl (zA hln (zA hf3 (zA fp4 fp13)))) ?_
      refine W_cond rfl (fun h => by cases h) (fun _ => W_exit ?_)
      refine zS @cS ?_
      refine W_ret ?_
      refine RetP_ctt rfl rfl rfl (.imm rfl) (.imm rfl) (.imm rfl)
 ·rw [if_pos rfl]
  have : bldR fs recs = badT 0 4 := by unfold bldR; rw [if_neg h1, hnb, if_neg (by decide), if_pos hrd]
  rw [this]
  refine zR ?_
  refine wT ?_
  refine zS @cS ?_
  exact W_ret (Ret_bad rfl rfl rfl rfl)
end Go.Proofs.YtjahkcgckiobkaaGreatDoor
namespace Go.Proofs.YtjahkcgckiobkaaGreatDoor
open Go Go.Dat Go.Proofs Go.RowKit Go.Shelf Nat32
theorem pFraction_calls (a b : Int) (ha : a.natAbs ≤ 1000000) (hb : b ≠ 0) (hb2 : b.natAbs ≤ 1000000) : PCalls Tryz.prog 39 [.int .i64 a, .int .i64 b] (Q (Rat.divInt a b)) := by
 have c1 := sFromInt_calls a (by omega) (by omega)
 have c2 := sFromInt_calls b (by omega) (by omega)
 have il1 : ∀ z : Int, z.natAbs ≤ 1000000 → il z ≤ 900 := fun z hz => Nat.le_trans (limbs_len.2 (show z.natAbs < 4294967296 ^ 1 by omega)) (by decide)
 have c3 := p_over_calls a b hb (il1 a ha) (il1 b hb2)
 refine PCalls_of ispFraction (by simp [fnpFraction]) ?_
 unfold codepFraction
 generalize Rat.divInt a b = r at *
 have hx3 : (xnC (qX r)).length = 3 := rfl
 have hcc : (Q r).cells? = some (xnC (qX r)) := rfl
 repeat (first | refine zP ?_ | refine cP c1 ?_ | refine cP c2 ?_ | refine cP c3 ?_ | exact zT)
 refine zS (zA hcc (zA hx3 @cS)) ?_
 exact W_ret (RetP_c rfl rfl rfl (.imm rfl))
def strsB (l : List Bs) : Bool := decide (l.length ≤ 40) && l.all fun s => decide (s.length ≤ 60)
theorem all_yes {α : Type} [Inhabited α] {p : α → Bool} {l : List α} (h : ∀ j, j < l.length → p (l.getD j default) = true) : l.all p = true := by
 rw [List.all_eq_true]
 intro x hx
 obtain ⟨i, hi, rfl⟩ := List.getElem_of_mem hx
 have := h i hi
 rw [List.getD_eq_getElem?_getD, List.getElem?_eq_getElem hi] at this
 simpa using this
theorem all_no {α : Type} [Inhabited α] {p : α → Bool} {l : List α} {i : Nat} (hi : i < l.length) (h : p (l.getD i default) = false) : l.all p = false := by
 rw [List.all_eq_false]
 exact ⟨_, memG hi, by rw [h]; decide⟩
theorem lt_strings_calls (l : List Bs) (hl : l.length ≤ 9223372036854775807) (hs : ∀ s ∈ l, s.length ≤ 9223372036854775807) : PCalls Tryz.prog 22 [.sl 1 (strL l)] (.bool (strsB l)) := by
 have hll := strL_len l
 refine PCalls_of islt_strings (by simp [fnlt_strings]) ?_
 unfold codelt_strings strsB
 by_cases h : l.length ≤ 40
 ·have d1 : decide ((40 : Int) < (l.length : Int)) = false := decide_eq_false (by omega)
  rw [decide_eq_true h, Bool.true_and]
  refine zS (zA hll d1) ?_
  refine wFs ?_
  refine zR ?_
  refine W_loop (σ := Nat) (fun i => [(0, .sl 1 (strL l)), (3, .int .i64 i)]) (fun _ => []) (fun i => i ≤ l.length ∧ ∀ j, j < i → (l.getD j []).length ≤ 60) (fun i => l.length - i) 0 ⟨Nat.zero_le _, by simp⟩ ?_ rfl ?_
  ·simp [subF, lk]
  ·rintro i ⟨hi, hall⟩
   try simp only at hi hall ⊢
   by_cases hlt : i < l.length
   ·have dl : decide ((i : Int) < (l.length : Int)) = true := decide_eq_true (by omega)
    have ei : (i : Int).toNat = i := Int.toNat_natCast i
    have e1 : ((i : Int) + 1) = ((i + 1 : Nat) : Int) := by omega
    have hg := strL_getD hlt
    by_cases hc : (l.getD i []).length ≤ 60
    ·have dc : decide ((60 : Int) < ((l.getD i []).length : Int)) = false := decide_eq_false (by omega)
     refine zS (zA dl hll) ?_
     refine wTs ?_
     refine zS (zA ei (zA hll (zA hg dc))) ?_
     refine wFs ?_
     refine zS e1 ?_
     exact ⟨i + 1, ⟨by omega, fun j hj => by
      rcases Nat.lt_or_ge j i with h2 | h2
      ·exact hall j h2
      ·obtain rfl : j = i := by omega
       exact hc⟩, by omega, by simp [subF, lk]⟩
    ·have dc : decide ((60 : Int) < ((l.getD i []).length : Int)) = true := decide_eq_true (by omega)
     rw [all_no (p := fun s : Bs => decide (s.length ≤ 60)) hlt (decide_eq_false hc)]
     refine zS (zA dl hll) ?_
     refine wTs ?_
     refine zS (zA ei (zA hll (zA hg dc))) ?_
     refine wT ?_
     refine zR ?_
     exact W_ret (RetP_1 (.imm rfl))
   ·have dl : decide ((i : Int) < (l.length : Int)) = false := decide_eq_false (by omega)
    rw [all_yes (p := fun s : Bs => decide (s.length ≤ 60)) fun j hj => decide_eq_true (hall j (by omega))]
    refine zS (zA dl hll) ?_
    refine W_cond rfl (fun h => by cases h) (fun _ => W_exit ?_)
    refine zR ?_
    exact W_ret (RetP_1 (.imm rfl))
 ·have d1 : decide ((40 : Int) < (l.length : Int)) = true := decide_eq_true (by omega)
  rw [decide_eq_false h, Bool.false_and]
  refine zS (zA hll d1) ?_
  refine wT ?_
  refine zR ?_
  exact W_ret (RetP_1 (.imm rfl))
def recsB (l : List (List Bs)) : Bool := decide (l.length ≤ 40) && l.all strsB
theorem lt_records_calls (l : List (List Bs)) (hl : l.length ≤ 9223372036854775807) (hs : ∀ r ∈ l, r.length ≤ 9223372036854775807 ∧ ∀ s ∈ r, s.length ≤ 9223372036854775807) : PCalls Tryz.prog 11 [.sl 1 (recD l)] (.bool (recsB l)) := by
 have hll := recD_len l
 refine PCalls_of islt_records (by simp [fnlt_records]) ?_
 unfold codelt_records recsB
 by_cases h : l.length ≤ 40
 ·have d1 : decide ((40 : Int) < (l.length : Int)) = false := decide_eq_false (by omega)
  rw [decide_eq_true h, Bool.true_and]
  refine zS (zA hll d1) ?_
  refine wFs ?_
  refine zR ?_
  refine W_loop (σ := Nat) (fun i => [(0, .sl 1 (recD l)), (3, .int .i64 i)]) (fun _ => []) (fun i => i ≤ l.length ∧ ∀ j, j < i → strsB (l.getD j []) = true) (fun i => l.length - i) 0 ⟨Nat.zero_le _, by simp⟩ ?_ rfl ?_
  ·simp [subF, lk]
  ·rintro i ⟨hi, hall⟩
   try simp only at hi hall ⊢
   by_cases hlt : i < l.length
   ·have dl : decide ((i : Int) < (l.length : Int)) = true := decide_eq_true (by omega)
    have ei : (i : Int).toNat = i := Int.toNat_natCast i
    have e1 : ((i : Int) + 1) = ((i + 1 : Nat) : Int) := by omega
    have hg := recD_getD hlt
    have hm := hs _ (memR_getD hlt)
    have cs := lt_strings_calls (l.getD i []) hm.1 hm.2
    refine zS (zA dl hll) ?_
    refine wTs ?_
    refine zS (zA ei (zA hll hg)) ?_
    refine cP cs ?_
    cases hc : strsB (l.getD i [])
    ·rw [all_no (p := strsB) hlt hc]
     refine zR ?_
     refine wT ?_
     refine zR ?_
     exact W_ret (RetP_1 (.imm rfl))
    ·refine zR ?_
     refine wFs ?_
     refine zS e1 ?_
     exact ⟨i + 1, ⟨by omega, fun j hj => by
      rcases Nat.lt_or_ge j i with h2 | h2
      ·exact hall j h2
      ·obtain rfl : j = i := by omega
       exact hc⟩, by omega, by simp [subF, lk]⟩
   ·have dl : decide ((i : Int) < (l.length : Int)) = false := decide_eq_false (by omega)
    rw [all_yes (p := strsB) fun j hj => hall j (by omega)]
    refine zS (zA dl hll) ?_
    refine W_cond rfl (fun h => by cases h) (fun _ => W_exit ?_)
    refine zR ?_
    exact W_ret (RetP_1 (.imm rfl))
 ·have d1 : decide ((40 : Int) < (l.length : Int)) = true := decide_eq_true (by omega)
  rw [decide_eq_false h, Bool.false_and]
  refine zS (zA hll d1) ?_
  refine wT ?_
  refine zR ?_
  exact W_ret (RetP_1 (.imm rfl))
def ligX (x : XN) : Bool := lightB x.2.1 x.2.2
def fldB (f : Fx) : Bool := decide (f.nm.length ≤ 60) && strsB f.ms && ligX f.un
def fldsB (l : List Fx) : Bool := decide (l.length ≤ 40) && l.all fldB
theorem lt_fields_calls (l : List Fx) (hl : l.length ≤ 9223372036854775807) (hs : ∀ f ∈ l, f.ms.length ≤ 9223372036854775807 ∧ ∀ s ∈ f.ms, s.length ≤ 9223372036854775807) : PCalls Tryz.prog 10 [.sl 6 (fxs l)] (.bool (fldsB l)) := by
 have hln : (fxs l).length / 6 = l.length := by rw [fxs_len]; omega
 have hlen := fxs_len l
 refine PCalls_of islt_fields (by simp [fnlt_fields]) ?_
 unfold codelt_fields fldsB
 by_cases h : l.length ≤ 40
 ·have d1 : decide ((40 : Int) < (l.length : Int)) = false := decide_eq_false (by omega)
  rw [decide_eq_true h, Bool.true_and]
  refine zS (zA hln d1) ?_
  refine wFs ?_
  refine zR ?_
  refine W_loop (σ := Nat) (fun i => [(0, .sl 6 (fxs l)), (3, .int .i64 i)]) (fun _ => []) (fun i => i ≤ l.length ∧ ∀ j, j < i → fldB (l.getD j default) = true) (fun i => l.length - i) 0 ⟨Nat.zero_le _, by simp⟩ ?_ rfl ?_
  ·simp [subF, lk]
  ·rintro i ⟨hi, hall⟩
   try simp only at hi hall ⊢
   by_cases hlt : i < l.length
   ·have dl : decide ((i : Int) < (l.length : Int)) = true := decide_eq_true (by omega)
    have ei : (i : Int).toNat = i := Int.toNat_natCast i
    have e1 : ((i : Int) + 1) = ((i + 1 : Nat) : Int) := by omega
    have hg0 : (fxs l).getD (i * 6) .undef = .str (l.getD i default).nm := fm_at (j := 0) fxC_len default hlt (by decide) .undef
    have hg2 : (fxs l).getD (i * 6 + 2) .undef = .sl 1 (strL (l.getD i default).ms) := fm_at (j := 2) fxC_len default hlt (by decide) .undef
    have hg3 : ((fxs l).drop (i * 6 + 3)).take 3 = xnC (l.getD i default).un := fm_win (j := 3) fxC_len default hlt (by decide)
    have hm := hs _ (memG hlt)
    have cs := lt_strings_calls (l.getD i default).ms hm.1 hm.2
    have cl : PCalls Tryz.prog 38 [.agg (xnC (l.getD i default).un)] (.bool (ligX (l.getD i default).un)) := mdLight_calls (l.getD i default).un.1 (l.getD i default).un.2.1 (l.getD i default).un.2.2
    have hno := fun h => all_no (p := fldB) hlt h
    have hnx : fldB (l.getD i default) = true → ∀ j, j < i + 1 → fldB (l.getD j default) = true := fun h j hj => by
     rcases Nat.lt_or_ge j i with h2 | h2
     ·exact hall j h2
     ·obtain rfl : j = i := by omega
      exact h
    generalize l.getD i default = f at *
    have hxr : List.all (xnC f.un) DV.rf = true := rfl
    refine zS (zA dl hln) ?_
    refine wTs ?_
    by_cases hc : f.nm.length ≤ 60
    ·have dc : decide ((60 : Int) < (f.nm.length : Int)) = false := decide_eq_false (by omega)
     refine zS (zA ei (zA hlen (zA hg0 (zA hg2 dc)))) ?_
     refine cP cs ?_
     cases hb : strsB f.ms
     ·have hf : fldB f = false := by unfold fldB; rw [hb]; simp
      rw [hno hf]
      refine zR ?_
      refine wT ?_
      refine zR ?_
      exact W_ret (RetP_1 (.imm rfl))
     ·refine zS (zA ei (zA hlen hg3)) ?_
      refine cP cl ?_
      cases hb2 : ligX f.un
      ·have hf : fldB f = false := by unfold fldB; rw [hb2]; simp
       rw [hno hf]
       refine zR ?_
       refine wT ?_
       refine zR ?_
       exact W_ret (RetP_1 (.imm rfl))
      ·have hf : fldB f = true := by unfold fldB; rw [hb, hb2, decide_eq_true hc]; rfl
       refine zR ?_
       refine wFs ?_
       refine zS e1 ?_
       exact ⟨i + 1, ⟨by omega, hnx hf⟩, by omega, by simp [subF, lk]⟩
    ·have dc : decide ((60 : Int) < (f.nm.length : Int)) = true := decide_eq_true (by omega)
     have hf : fldB f = false := by unfold fldB; rw [decide_eq_false hc]; simp
     rw [hno hf]
     refine zS (zA ei (zA hlen (zA hg0 (zA hg2 dc)))) ?_
     refine wT ?_
     refine zR ?_
     exact W_ret (RetP_1 (.imm rfl))
   ·have dl : decide ((i : Int) < (l.length : Int)) = false := decide_eq_false (by omega)
    rw [all_yes (p := fldB) fun j hj => hall j (by omega)]
    refine zS (zA dl hln) ?_
    refine W_cond rfl (fun h => by cases h) (fun _ => W_exit ?_)
    refine zR ?_
    exact W_ret (RetP_1 (.imm rfl))
 ·have d1 : decide ((40 : Int) < (l.length : Int)) = true := decide_eq_true (by omega)
  rw [decide_eq_false h, Bool.false_and]
  refine zS (zA hln d1) ?_
  refine wT ?_
  refine zR ?_
  exact W_ret (RetP_1 (.imm rfl))
end Go.Proofs.YtjahkcgckiobkaaGreatDoor
namespace Go.Proofs.YtjahkcgckiobkaaGreatDoor
open Go Go.Dat Go.Proofs Go.RowKit Nat32
theorem call_b1 : Callable Tryz.prog 43 := ⟨_, Tryz.func43, by kernel_rfl, by kernel_rfl⟩
theorem call_b2 : Callable Tryz.prog 47 := ⟨_, Tryz.func47, by kernel_rfl, by kernel_rfl⟩
set_option maxHeartbeats 4000000 in
theorem tBld_calls (fs : List Fx) (recs : List (List Bs)) (hl : fs.length ≤ 1000000) (hl2 : recs.length ≤ 1000000) (hu : ∀ f ∈ fs, okN0 f.un) (hm : ∀ f ∈ fs, f.ms.length ≤ 1000000) (hn : ∀ f ∈ fs, f.nm.length ≤ 9223372036854775807)
  (hr : ∀ r ∈ recs, r.length ≤ 1000000 ∧ ∀ s ∈ r, s.length ≤ 450) : PCalls Tryz.prog 13 [.sl 6 (fxs fs), .sl 1 (recD recs)] (bldR fs recs) := by
 by_cases h1 : 32 < fs.length ∨ 1024 < recs.length
 ·have : bldR fs recs = badT 0 2 := by unfold bldR; rw [if_pos h1]
  rw [this]; exact tBuild_limit fs recs hl hl2 h1
 have hf32 : fs.length ≤ 32 := by omega
 have hr1024 : recs.length ≤ 1024 := by omega
 have hln : (fxs fs).length / 6 = fs.length := by rw [fxs_len]; omega
 have hrl := recD_len recs
 have hfl := fxs_len fs
 have d1 : decide ((32 : Int) < (fs.length : Int)) = false := decide_eq_false (by omega)
 have d2 : decide ((1024 : Int) < (recs.length : Int)) = false := decide_eq_false (by omega)
 have c1 := tFieldNames_calls fs hl
 have c2 := tNames_calls (fnmL fs) (by rw [fnmL_len]; omega) (fun s hs => by
  unfold fnmL at hs
  obtain ⟨f, hf, rfl⟩ := List.mem_map.1 hs
  exact hn f hf)
 have c3 := slCFField_calls fs hl (fun f => !rdB f) (.fn 43) 43 [] (.inr ⟨rfl, rfl⟩) rfl rfl call_b1 (fun f hf => tBuild1_calls f (hu f hf))
 refine PCalls_of istBld (by simp [fntBld]) ?_
 unfold codetBld
 refine zS (zA hln (zA hrl (zA d1 d2))) ?_
 refine wFs ?_
 refine zR ?_
 refine cP c1 ?_
 refine zR ?_
 refine cP c2 ?_
 cases hnb : namesB (fnmL fs)
 ·have : bldR fs recs = badT 0 8 := by unfold bldR; rw [if_neg h1, if_pos hnb]
  rw [this]
  refine zR ?_
  refine wT ?_
  refine zS @cS ?_
  exact W_ret (Ret_bad rfl rfl rfl rfl)
 refine zR ?_
 refine wFs ?_
 refine zR ?_
 refine cP c3 ?_
 cases hrd : fs.any fun f => !rdB f
 ·have en : (fs.length : Int).toNat = fs.length := Int.toNat_natCast _
  have hP0 := P1_zero fs
  refine zR ?_
  refine wFs ?_
  refine zS (zA hln en) ?_
  rw [hP0]
  refine zS hln ?_
  refine W_loop (σ := Nat) (fun i => [(0, .sl 6 (fxs fs)), (1, .sl 1 (recD recs)), (4, .ptr 4 0), (5, .int .i64 0), (6, .int .i64 0), (7, .osl 4 34 0 fs.length), (35, .sl 6 (fxs fs)), (36, .int .i64 fs.length), (37, .int .i64 i)]) (fun i => [(4, [.int .i64 0, .nils]), (34, nilC (P1 fs i))]) (fun i => i ≤ fs.length) (fun i => fs.length - i) 0 (Nat.zero_le _) ?_ rfl ?_
  ·simp [subF, lk]
  ·intro i hi
   try simp only at hi ⊢
   by_cases hlt : i < fs.length
   ·have dl : decide ((i : Int) < (fs.length : Int)) = true := decide_eq_true (by omega)
    have ei : (i : Int).toNat = i := Int.toNat_natCast i
    have e1 : ((i : Int) + 1) = ((i + 1 : Nat) : Int) := by omega
    have hw : ((fxs fs).drop (i * 6)).take 6 = fxC (fs.getD i default) := fm_win (j := 0) fxC_len default hlt (Nat.le_refl _)
    have hpl := P1_len (fs := fs) (i := i) hi
    have hnl := nilC_len (P1 fs i)
    have hst := nilC_set (S := P1 fs i) (i := i) (fs.getD i default).nm (fs.getD i default).kd (by omega)
    have hnx : nilC ((P1 fs i).set i ⟨(fs.getD i default).nm, (fs.getD i default).kd, [], []⟩) = nilC (P1 fs (i + 1)) := congrArg nilC (P1_next hlt)
    rw [hnx] at hst
    have hf9 := map_frz 9 (fxC (fs.getD i default)) (nilC_one (P1 fs (i + 1)))
    have hcc : (DV.agg (fxC (fs.getD i default))).cells? = some (fxC (fs.getD i default)) := rfl
    have hcl := fxC_len (fs.getD i default)
    have htf : (fxC (fs.getD i default)).take 6 = fxC (fs.getD i default) := rfl
    have hg0 : (fxC (fs.getD i default)).getD 0 .undef = .str (fs.getD i default).nm := rfl
    have hg1 : (fxC (fs.getD i default)).getD 1 .undef = .int .i64 (fs.getD i default).kd := rfl
    have hrf := fxC_rf (fs.getD i default)
    have hrfa : ((fxC (fs.getD i default)).all DV.rf) = true := List.all_eq_true.2 hrf
    generalize (fs.getD i default).nm = nm at *
    generalize (fs.getD i default).kd = kd at *
    generalize fxC (fs.getD i default) = C at *
    repeat (first | refine W_seq ?_ | refine W_reg ?_ | refine W_regd ?_ | refine W_regs ?_ | refine W_regp ?_ | refine W_block ?_ | refine And.intro (by omega) ?_ | simp (maxSteps := 1000000) (disch := omega) only [cA, cB, cN, FnD.nb, lk, lkH, Dst.onT, Dst.onX, Dst.slot, setF, setH, mapF, mapH, initF, binE, unE, cnt, boundE, newsE, freshE, freshT, opE, rmH, blkQ, frz_us, Nat.reduceEqDiff, Nat.reduceLT, Nat.reduceAdd, Nat.reduceMul, Nat.reduceMod, ↓reduceIte, reduceCtorEq, Nat.reduceLeDiff, dl])
    refine wTs ?_
    refine W_seq ?_
    refine W_block ?_
    refine W_seq ?_
    refine W_reg ?_
    simp (maxSteps := 1000000) (disch := omega) only [cA, cB, cN, FnD.nb, lk, lkH, Dst.onT, Dst.onX, Dst.slot, setF, setH, mapF, mapH, initF, binE, unE, cnt, boundE, newsE, freshE, freshT, opE, rmH, blkQ, frz_us, Nat.reduceEqDiff, Nat.reduceLT, Nat.reduceAdd, Nat.reduceMul, Nat.reduceMod, ↓reduceIte, reduceCtorEq, Nat.reduceLeDiff, ei, hw, hfl, hcc, hcl, htf, List.drop_zero, cS]
    refine ⟨⟨by omega, by omega⟩, by omega, ?_⟩
    refine W_reg ?_
    simp (maxSteps := 1000000) (disch := omega) only [cA, cB, cN, FnD.nb, lk, lkH, Dst.onT, Dst.onX, Dst.slot, setF, setH, mapF, mapH, initF, binE, unE, cnt, boundE, newsE, freshE, freshT, opE, rmH, blkQ, frz_us, Nat.reduceEqDiff, Nat.reduceLT, Nat.reduceAdd, Nat.reduceMul, Nat.reduceMod, ↓reduceIte, reduceCtorEq, Nat.reduceLeDiff, ei, hw, hfl, hcc, hcl, htf, List.drop_zero, cS, hg0, hg1, hnl, hpl]
    refine ⟨⟨by omega, by omega⟩, by omega, ?_⟩
    rw [hst]
    refine W_freeze 9 (cells := C) rfl hrfa ?_
    refine zS (zA e1 hf9) ?_
    exact ⟨i + 1, by omega, by omega, by simp [subF, lk, frz_osl_ne, frz, purge, DV.has], by simp [rmH, frz, purge, DV.has, hf9]⟩
   ·have dl : decide ((i : Int) < (fs.length : Int)) = false := decide_eq_false (by omega)
    obtain rfl : i = fs.length := by omega
    rw [P1_end]
    have hS0 : (asm fs (fs.map fun _ => ([], []))).length = fs.length := asm_len _ _
    refine W_owns 34 (by decide) (asm fs (fs.map fun _ => ([], []))) (by omega) (fun j hj => ?_) ((4, [.int .i64 0, .nils]) :: (34, contO 0 (asm fs (fs.map fun _ => ([], [])))) :: DD 0 (asm fs (fs.map fun _ => ([], [])))) rfl (fun p hp => ?_) ?_ fs.length 0 (by omega) _ ?_ (fun p hp => ?_) (fun p hp h3 => ?_)
    ·rw [asm_get (by omega)]
     have : (fs.map fun _ => (([], []) : Tx)).getD j default = ([], []) := by
      rw [List.getD_eq_getElem?_getD, List.getElem?_map, List.getElem?_eq_getElem (by omega)]; rfl
     rw [this]; exact ⟨rfl, rfl⟩
    ·simp only [lkH]
     rw [if_neg (by omega), if_neg (by omega)]
    rotate_left
    ·simp [lkH, contO]
    ·simp only [lkH, List.take_zero, DD]
     rw [if_neg (by omega), if_neg (by omega)]
    ·simp only [lkH]
     by_cases e4 : 4 = p
     ·rw [if_pos e4, if_pos e4]
     ·rw [if_neg e4, if_neg e4, if_neg (by omega), if_neg (by omega), DD_none hp]
    refine zS dl ?_
    refine W_cond rfl (fun h => by cases h) (fun _ => W_exit ?_)
    refine zS hrl ?_
    refine W_loop (σ := Nat) (fun i => [(0, .sl 6 (fxs fs)), (1, .sl 1 (recD recs)), (4, .ptr 4 0), (5, .int .i64 0), (6, .int .i64 0), (7, .osl 4 34 0 fs.length), (51, .sl 1 (recD recs)), (52, .int .i64 recs.length), (53, .int .i64 i)]) (fun i => (4, [.int .i64 0, .nils]) :: (34, contO 0 (asm fs (recR parseQ fs recs i).2)) :: DD 0 (asm fs (recR parseQ fs recs i).2)) (fun i => i ≤ recs.length ∧ (recR parseQ fs recs i).1.2 = 0) (fun i => recs.length - i) 0 ⟨Nat.zero_le _, rfl⟩ ?_ rfl ?_
    ·simp [subF, lk]
    ·rintro i ⟨hi, h0⟩
     try simp only at hi h0 ⊢
     have hSl : (asm fs (recR parseQ fs recs i).2).length = fs.length := asm_len _ _
     by_cases hlt : i < recs.length
     ·have dl : decide ((i : Int) < (recs.length : Int)) = true := decide_eq_true (by omega)
      have ei : (i : Int).toNat = i := Int.toNat_natCast i
      have e1 : ((i : Int) + 1) = ((i + 1 : Nat) : Int) := by omega
      have hg := recD_getD hlt
      have hrm := hr _ (memR_getD hlt)
      have hxl := strL_len (recs.getD i [])
      refine zS dl ?_
      refine wTs ?_
      refine zS (zA ei (zA hg hrl)) ?_
      by_cases hsh : (recs.getD i []).length = fs.length
      ·have dsh : decide (¬ ((recs.getD i []).length : Int) = (fs.length : Int)) = false := decide_eq_false (by omega)
       have hTl := recR_len parseQ fs recs i
       have hsz := recR_sz parseQ fs recs i
       have hrow := fun {e : Int} => @recR_row parseQ fs recs i h0 hsh e
       have hgood := @recR_good parseQ fs recs i h0 hsh
       generalize hT : (recR parseQ fs recs i).2 = T at *
       generalize hrr : recs.getD i [] = r at *
       refine zS (zA hxl (zA hln dsh)) ?_
       refine wFs ?_
       refine zS hln ?_
       refine W_loop (σ := Nat) (fun k => [(0, .sl 6 (fxs fs)), (1, .sl 1 (recD recs)), (4, .ptr 4 0), (5, .int .i64 0), (6, .int .i64 0), (7, .osl 4 34 0 fs.length), (10, .int .i64 i), (11, .sl 1 (strL r)), (51, .sl 1 (recD recs)), (52, .int .i64 recs.length), (53, .int .i64 i), (66, .sl 6 (fxs fs)), (67, .int .i64 fs.length), (68, .int .i64 k)]) (fun k => (4, [.int .i64 0, .nils]) :: (34, contO 0 (asm fs (rowR parseQ fs r T k).2)) :: DD 0 (asm fs (rowR parseQ fs r T k).2)) (fun k => k ≤ fs.length ∧ (rowR parseQ fs r T k).1 = 0) (fun k => fs.length - k) 0 ⟨Nat.zero_le _, rfl⟩ ?_ rfl ?_
       ·simp [subF, lk]
       ·rintro k ⟨hk, hk0⟩
        try simp only at hk hk0 ⊢
        by_cases hlt2 : k < fs.length
        ·have dl2 : decide ((k : Int) < (fs.length : Int)) = true := decide_eq_true (by omega)
         have ek : (k : Int).toNat = k := Int.toNat_natCast k
         have e2 : ((k : Int) + 1) = ((k + 1 : Nat) : Int) := by omega
         have hw : ((fxs fs).drop (k * 6)).take 6 = fxC (fs.getD k default) := fm_win (j := 0) fxC_len default hlt2 (Nat.le_refl _)
         have hgs := strL_getD (r := r) (j := k) (by omega)
         have hs450 := hrm.2 _ (mem_getD (l := r) (i := k) (by omega))
         have hTk := rowR_len parseQ fs r T k
         have hsk := (rowR_sz parseQ fs r (n := i) (T := T) (fun j hj => hsz j (by omega)) k k (by omega)).1
         have hnx := @rowR_next parseQ fs r T k hk0
         have hbd := fun he => @rowR_bad parseQ fs r T k hk0 he fs.length hlt2
         have hfm := memG hlt2
         generalize (rowR parseQ fs r T k).2 = T2 at *
         have hSl2 : (asm fs T2).length = fs.length := asm_len _ _
         have hag := asm_get (fs := fs) (T := T2) hlt2
         have hset := fun t => asm_set (fs := fs) (T := T2) (k := k) t (by omega)
         have hSS : (asm fs T2).length ≤ 1000 := by omega
         have hkS : k < (asm fs T2).length := by omega
         generalize fs.getD k default = f at *
         generalize r.getD k [] = s at *
         have hDok := DD_ok 0 (asm fs T2) (by omega)
         have hD13 : lkH (DD 0 (asm fs T2)) 13 = none := DD_none (by omega)
         have hcr := tRead_rel (contO 0 ((asm fs T2).take k)) (contO (k + 1) ((asm fs T2).drop (k + 1))) (drp (ai k) (bi k) (DD 0 (asm fs T2))) ((asm fs T2).getD k default).nm ((asm fs T2).getD k default).kd ((asm fs T2).getD k default).le ((asm fs T2).getD k default).ce f s (drp_ok hDok) (nb_ok hkS).1 (nb_ok hkS).2 (hu f hfm) (hm f hfm) hs450 (by rw [hag]; exact Nat.le_trans hsk.1 (by decide)) (by rw [hag]; exact Nat.le_trans hsk.2 (by omega))
         have hst : ∀ R : Int × List Bs × List Tc, (asm fs T2).set k ⟨((asm fs T2).getD k default).nm, ((asm fs T2).getD k default).kd, R.2.1, R.2.2⟩ = asm fs (T2.set k R.2) := fun R => by rw [hset, hag]; rfl
         have hRe : readR parseQ f ((asm fs T2).getD k default).le ((asm fs T2).getD k default).ce s = readR parseQ f (T2.getD k default).1 (T2.getD k default).2 s := by rw [hag]; rfl
         have hcc : (DV.agg (fxC f)).cells? = some (fxC f) := rfl
         have hcl := fxC_len f
         have htf : (fxC f).take 6 = fxC f := rfl
         have hg1 : (fxC f).getD 1 .undef = .int .i64 f.kd := rfl
         have hrf := fxC_rf f
         have hrfa : ((fxC f).all DV.rf) = true := List.all_eq_true.2 hrf
         have hcf := fun S => contO_frz (o := 13) (by decide) (fxC f) 0 S
         have hrD := fun (S : List Kx) (h : S.length ≤ 1000) => (DD_ok 0 S (by omega)).rm (o := 13) (by decide) (fxC f)
         have z2 : ∀ d ∈ [DV.int .i64 0, .nils], d.rf = true := by
          intro d hd
          simp only [List.mem_cons, List.not_mem_nil, or_false] at hd
          rcases hd with rfl | rfl <;> rfl
         generalize hC : fxC f = C at *
         by_cases k3 : f.kd = 3
         ·have d3 : decide (f.kd = 3) = true := decide_eq_true k3
          rw [colStep_skip k3, set_self] at hnx
          have hrD0 := hrD _ hSS
          refine zS dl2 ?_
          refine wTs ?_
          refine zS (zA ek (zA hw (zA hfl (zA hcc (zA hcl (zA htf (zA @List.drop_zero.{0} (zA @cS (zA hg1 (zA hD13 d3)))))))))) ?_
          refine wT ?_
          refine W_freeze 13 (cells := C) rfl hrfa ?_
          refine W_exit ?_
          refine zS (zA e2 (zA hcf hrD0)) ?_
          exact ⟨k + 1, ⟨by omega, by rw [hnx]⟩, by omega, by simp [subF, lk, frz, purge, DV.has], by rw [hnx]⟩
         ·have d3 : decide (f.kd = 3) = false := decide_eq_false k3
          rw [colStep_read k3, ← hRe] at hnx hbd
          refine zS dl2 ?_
          refine wTs ?_
          refine zS (zA ek (zA hw (zA hfl (zA hcc (zA hcl (zA htf (zA @List.drop_zero.{0} (zA @cS (zA hg1 (zA hD13 d3)))))))))) ?_
          refine wFs ?_
          refine zS (zA ek (zA hw (zA hcc (zA hcl (zA htf (zA @List.drop_zero.{0} (zA @cS (zA hgs (zA hxl (zA hSl2 (zA @List.take_succ_cons.{0} (zA @List.take_zero.{0} @List.drop_succ_cons.{0})))))))))))) ?_
          generalize hR : readR parseQ f ((asm fs T2).getD k default).le ((asm fs T2).getD k default).ce s = R at *
          refine callC_col rfl (asm fs T2) k hkS hSS (.agg C) (.str s) (by simp [DV.rf_agg, hrfa]) rfl rfl (col_DD _ _ _) (col_lo z2 hrf) R.1 R.2.1 R.2.2 _ (by omega) hcr (by simp [lowN, DV.rf_agg, hrfa]; exact ⟨rfl, rfl, rfl, rfl, rfl⟩) (by simp [lowN, DV.rf]) _ (col_H2 _ _ _ _) ?_
          rw [hst]
          have hRD := hrD (asm fs (T2.set k R.2)) (by rw [asm_len]; omega)
          by_cases he : R.1 = 0
          ·have de : decide (¬ R.1 = 0) = false := by rw [he]; rfl
           refine zS de ?_
           refine wFs ?_
           refine W_freeze 13 (cells := C) rfl hrfa ?_
           refine zS (zA e2 (zA hcf hRD)) ?_
           exact ⟨k + 1, ⟨by omega, by rw [hnx]; exact he⟩, by omega, by simp [subF, lk, frz, purge, DV.has], by rw [hnx]⟩
          ·have de : decide (¬ R.1 = 0) = true := decide_eq_true he
           have hx := bldR_err h1 hnb hrd hlt he (hrow he (hbd he))
           rw [hx]
           refine zS de ?_
           refine wT ?_
           refine zS (zA @cS e1) ?_
           exact W_ret (Ret_bad rfl rfl rfl rfl)
        ·have dl2 : decide ((k : Int) < (fs.length : Int)) = false := decide_eq_false (by omega)
         obtain rfl : k = fs.length := by omega
         have hgd := hgood hk0
         refine zS dl2 ?_
         refine W_cond rfl (fun h => by cases h) (fun _ => W_exit ?_)
         refine zS e1 ?_
         exact ⟨i + 1, ⟨by omega, by rw [hgd]⟩, by omega, by simp [subF, lk], by rw [hgd]⟩
      ·have dsh : decide (¬ ((recs.getD i []).length : Int) = (fs.length : Int)) = true := decide_eq_true (by omega)
       have hx := bldR_err h1 hnb hrd hlt (e := 6) (by decide) (recR_shape h0 hsh)
       rw [hx]
       refine zS (zA hxl (zA hln dsh)) ?_
       refine wT ?_
       refine zS (zA @cS e1) ?_
       exact W_ret (Ret_bad rfl rfl rfl rfl)
     ·have dl : decide ((i : Int) < (recs.length : Int)) = false := decide_eq_false (by omega)
      obtain rfl : i = recs.length := by omega
      rw [bldR_ok h1 hnb hrd h0]
      generalize (recR parseQ fs recs recs.length).2 = T at *
      have hrfK := kxs_rf (asm fs T)
      have hlo : ∀ p, p < 100000 → p ≠ 34 → lkH ((4, [.int .i64 0, .nils]) :: (34, contO 0 (asm fs T)) :: DD 0 (asm fs T)) p = lkH [(4, [.int .i64 0, .nils]), (34, kxs (asm fs T))] p := fun p hp h3 => by
       simp only [lkH]
       by_cases e4 : 4 = p
       ·rw [if_pos e4, if_pos e4]
       ·rw [if_neg e4, if_neg e4, if_neg (by omega), if_neg (by omega), DD_none hp]
      refine W_frzs 34 (by decide) (asm fs T) (by omega) [(4, [.int .i64 0, .nils]), (34, kxs (asm fs T))] rfl (fun p hp => ?_) (fun p c hpc => ?_) rfl ?_ fs.length 0 (by omega) _ ?_ (fun p hp => ?_) hlo
      ·simp only [lkH]
       rw [if_neg (by omega), if_neg (by omega)]
      ·simp only [lkH] at hpc
       split at hpc
       ·cases hpc
        intro d hd
        simp only [List.mem_cons, List.not_mem_nil, or_false] at hd
        rcases hd with rfl | rfl <;> rfl
       ·split at hpc
        ·cases hpc; exact hrfK
        ·cases hpc
      rotate_left
      ·simp [lkH, kxs]
      ·simp only [lkH, List.drop_zero]
       rw [if_neg (by omega), if_neg (by omega)]
      refine zS dl ?_
      refine W_cond rfl (fun h => by cases h) (fun _ => W_exit ?_)
      have cd := slDFCol_rel (asm fs T) (by omega) (fun x => decide (x.kd = 3)) (.fn 47) 47 (.inr ⟨rfl, rfl⟩) rfl call_b2 tBuild2_calls
      rw [hSl] at cd
      refine zS hrl ?_
      have hfe : ((asm fs T).filter fun x => !decide (x.kd = 3)) = tabK fs T := by
       unfold tabK
       congr 1
       funext x
       by_cases hx : x.kd = 3 <;> simp [hx]
      rw [hfe] at cd
      generalize kxs (tabK fs T) = X at *
      refine callC_mv1 rfl 34 4 fs.length (.fn 47) (.sl 4 X) (by decide) rfl hrfK rfl rfl cd [(4, [.int .i64 recs.length, .nils])] (fun p => ?_) ?_
      ·simp only [lkH]
       by_cases e4 : 4 = p
       ·subst e4; simp [rn]
       ·rw [if_neg e4, if_neg e4]
        by_cases e5 : p = 34
        ·rw [if_pos e5]
        ·rw [if_neg e5, if_neg (Ne.symm e5)]; rfl
      simp only [mapF, rn, gout, Nat.reduceEqDiff, if_true, if_false]
      refine zS @cS ?_
      refine W_ret ?_
      refine RetP_ctt rfl rfl rfl (.imm rfl) (.imm rfl) (.imm rfl)
 ·have : bldR fs recs = badT 0 4 := by unfold bldR; rw [if_neg h1, hnb, if_neg (by decide), if_pos hrd]
  rw [this]
  refine zR ?_
  refine wT ?_
  refine zS @cS ?_
  exact W_ret (Ret_bad rfl rfl rfl rfl)
end Go.Proofs.YtjahkcgckiobkaaGreatDoor
namespace Go.Proofs.YtjahkcgckiobkaaGreatDoor
open Go Go.Dat Go.Proofs Go.RowKit Go.Shelf Nat32
def exF1 : Fx := ⟨[120], 1, [[78, 65]], qX (Rat.divInt 1 100)⟩
def exF2 : Fx := ⟨[103], 2, [], (false, [], [])⟩
def exR : List (List Bs) := [[[50, 53, 48], [97]], [[78, 65], [98]]]
def exC1 : List Tc := [⟨false, qX (Rat.divInt 5 2), 0⟩, ⟨true, (false, [], []), 0⟩]
def exC2 : List Tc := [⟨false, (false, [], []), 0⟩, ⟨false, (false, [], []), 1⟩]
def exK : List DV := [.str [120], .int .i64 1, .sl 1 (strL []), .sl 5 (cxs exC1), .str [103], .int .i64 2, .sl 1 (strL [[97], [98]]), .sl 5 (cxs exC2)]
theorem ex_bld : bldR [exF1, exF2] exR = .tup [.agg [.int .i64 2, .sl 4 exK], .int .i64 0, .int .i64 0] := by
 rw [bldR_ok (by decide) (by kernel_rfl) (by kernel_rfl) (by kernel_rfl)]
 have e : (recR parseQ [exF1, exF2] exR exR.length).2 = [([], exC1), ([[97], [98]], exC2)] := by kernel_rfl
 rw [e]
 rfl
theorem ex_lim (x : Rat) (h : RB x 10) : okN0 (qX x) := ⟨lim_limbs _, lim_dn _, Nat.le_trans h.1 (by decide), Nat.le_trans (RB_dn h) (by decide)⟩
theorem ex_build : PCalls Tryz.prog 13 [.sl 6 (fxC exF1 ++ [.str [103], .int .i64 2, .nils, .bool false, .nils, .nils]), .sl 1 [.sl 1 [.str [50, 53, 48], .str [97]], .sl 1 [.str [78, 65], .str [98]]]] (.tup [.agg [.int .i64 2, .sl 4 exK], .int .i64 0, .int .i64 0]) := by
 rw [← ex_bld]
 refine PCalls_wk (ds' := [.sl 6 (fxs [exF1, exF2]), .sl 1 (recD exR)]) (.cons (WkD.sl 6 (WkL.app (WkL.refl _) ?_)) (.cons (WkD.refl _) .nil)) (tBld_calls [exF1, exF2] exR (by decide) (by decide) ?_ ?_ ?_ ?_)
 ·exact .cons (WkD.refl _) (.cons (WkD.refl _) (.cons (WkD.nils 1) (.cons (WkD.refl _) (.cons (WkD.nils 1) (.cons (WkD.nils 1) .nil)))))
 ·intro f hf
  simp only [List.mem_cons, List.not_mem_nil, or_false] at hf
  rcases hf with rfl | rfl
  ·exact ex_lim _ (by unfold RB; decide +kernel)
  ·show okN0 ((false, [], []) : XN)
   exact ⟨fun x hx => absurd hx List.not_mem_nil, fun x hx => absurd hx List.not_mem_nil, Nat.zero_le _, Nat.zero_le _⟩
 ·intro f hf
  simp only [List.mem_cons, List.not_mem_nil, or_false] at hf
  rcases hf with rfl | rfl <;> decide
 ·intro f hf
  simp only [List.mem_cons, List.not_mem_nil, or_false] at hf
  rcases hf with rfl | rfl <;> decide
 ·intro r hr
  simp only [exR, List.mem_cons, List.not_mem_nil, or_false] at hr
  rcases hr with rfl | rfl
  ·refine ⟨by decide, fun s hs => ?_⟩
   simp only [List.mem_cons, List.not_mem_nil, or_false] at hs
   rcases hs with rfl | rfl <;> decide
  ·refine ⟨by decide, fun s hs => ?_⟩
   simp only [List.mem_cons, List.not_mem_nil, or_false] at hs
   rcases hs with rfl | rfl <;> decide
theorem lt_awake_calls : PCalls Tryz.prog 12 [] (.bool true) := by
 have c1 := pFraction_calls 1 100 (by decide) (by decide) (by decide)
 have c2 := pFraction_calls 5 2 (by decide) (by decide) (by decide)
 have c3 := ex_build
 have c4 : PCalls Tryz.prog 20 [Q (Rat.divInt 5 2), Q (Rat.divInt 5 2)] (.bool true) := by
  have := pSameL (Rat.divInt 5 2) (Rat.divInt 5 2) (by unfold RB; decide +kernel) (by unfold RB; decide +kernel)
  rwa [decide_eq_true rfl] at this
 have h1 : laid [.str [], .int .i64 0, .nils, .bool false, .nils, .nils] [(0, 1, .str [120]), (1, 1, .int .i64 1), (2, 1, .sl 1 [.str [78, 65]]), (3, 3, Q (Rat.divInt 1 100))] = some (fxC exF1) := rfl
 have h2 : laid [.str [], .int .i64 0, .nils, .bool false, .nils, .nils] [(0, 1, .str [103]), (1, 1, .int .i64 2)] = some [.str [103], .int .i64 2, .nils, .bool false, .nils, .nils] := rfl
 have h3 : laid [.str [], .int .i64 0, .nils, .bool false, .nils, .nils, .str [], .int .i64 0, .nils, .bool false, .nils, .nils] [(0, 6, .agg (fxC exF1)), (6, 6, .agg [.str [103], .int .i64 2, .nils, .bool false, .nils, .nils])] = some (fxC exF1 ++ [.str [103], .int .i64 2, .nils, .bool false, .nils, .nils]) := rfl
 have h4 : ∀ a b : List DV, laid [.nils, .nils] [(0, 1, .sl 1 a), (1, 1, .sl 1 b)] = some [.sl 1 a, .sl 1 b] := fun _ _ => rfl
 have h5 : ∀ a b : Bs, laid [.str [], .str []] [(0, 1, .str a), (1, 1, .str b)] = some [.str a, .str b] := fun _ _ => rfl
 have h6 : ∀ a : Bs, laid [.str []] [(0, 1, .str a)] = some [.str a] := fun _ => rfl
 generalize hA : fxC exF1 ++ [.str [103], .int .i64 2, .nils, .bool false, .nils, .nils] = A at *
 have hAr : ∀ d ∈ A, d.rf = true := by rw [← hA]; exact List.all_eq_true.1 rfl
 have k3 : exK.getD 3 .undef = .sl 5 (cxs exC1) := rfl
 obtain ⟨Y, hY⟩ : ∃ Y : List DV, Y = [.str [97], .str [98]] := ⟨_, rfl⟩
 have k6 : exK.getD 6 .undef = .sl 1 Y := by rw [hY]; rfl
 have yl : Y.length = 2 := by rw [hY]; rfl
 have kl : exK.length = 8 := rfl
 have x1 : ((cxs exC1).drop 1).take 3 = xnC (qX (Rat.divInt 5 2)) := rfl
 have x5 : (cxs exC1).getD 5 .undef = .bool true := rfl
 have xl : (cxs exC1).length = 10 := rfl
 have hq : DV.agg (xnC (qX (Rat.divInt 5 2))) = Q (Rat.divInt 5 2) := rfl
 generalize exK = K at *
 generalize cxs exC1 = C at *
 generalize xnC (qX (Rat.divInt 5 2)) = X at *
 refine PCalls_of islt_awake (by simp [fnlt_awake]) ?_
 unfold codelt_awake
 refine zS h6 ?_
 refine ⟨List.all_eq_true.1 rfl, ?_⟩
 refine cP c1 ?_
 refine zS (zA h1 (zA h2 (zA h3 (zA h4 h5)))) ?_
 repeat refine ⟨List.all_eq_true.1 rfl, ?_⟩
 refine cP c3 ?_
 have dT : decide True = true := rfl
 have e84 : 8 / 4 = 2 := rfl
 have e105 : 10 / 5 = 2 := rfl
 have c22 : ((2 : Nat) : Int) = 2 := rfl
 have t0 : (0 : Int).toNat = 0 := rfl
 have t1 : (1 : Int).toNat = 1 := rfl
 refine zS (zA @cS (zA k3 (zA k6 (zA kl (zA x1 (zA x5 (zA xl (zA yl (zA hq (zA dT (zA e84 (zA e105 (zA c22 (zA t0 (zA t1 (zA @Nat.zero_mul (zA @Nat.zero_add @Nat.one_mul))))))))))))))))) ?_
 refine cP c2 ?_
 refine zS (zA @cS (zA k3 (zA k6 (zA kl (zA x1 (zA x5 (zA xl (zA yl (zA hq (zA dT (zA e84 (zA e105 (zA c22 (zA t0 (zA t1 (zA @Nat.zero_mul (zA @Nat.zero_add @Nat.one_mul))))))))))))))))) ?_
 refine cP c4 ?_
 refine zS (zA @cS (zA k3 (zA k6 (zA kl (zA x1 (zA x5 (zA xl (zA yl (zA hq (zA dT (zA e84 (zA e105 (zA c22 (zA t0 (zA t1 (zA @Nat.zero_mul (zA @Nat.zero_add @Nat.one_mul))))))))))))))))) ?_
 exact W_ret (RetP_1 (.imm rfl))
theorem strsB_spec {l : List Bs} (h : strsB l = true) : l.length ≤ 40 ∧ ∀ s ∈ l, s.length ≤ 60 := by
 unfold strsB at h
 simp only [Bool.and_eq_true, decide_eq_true_eq, List.all_eq_true] at h
 exact h
theorem recsB_spec {l : List (List Bs)} (h : recsB l = true) : l.length ≤ 40 ∧ ∀ r ∈ l, r.length ≤ 40 ∧ ∀ s ∈ r, s.length ≤ 60 := by
 unfold recsB at h
 simp only [Bool.and_eq_true, decide_eq_true_eq, List.all_eq_true] at h
 exact ⟨h.1, fun r hr => strsB_spec (h.2 r hr)⟩
end Go.Proofs.YtjahkcgckiobkaaGreatDoor
namespace Go.Proofs.YtjahkcgckiobkaaGreatDoor
open Go Go.Dat Go.Proofs Go.RowKit Nat32
theorem law_of {f : Nat} {ds : List DV} {vs : Array Value} {w : World} (hc : PCalls Tryz.prog f ds (.bool true)) (hT : Tab Tryz.prog w) (hs : vs.size = ds.length) (hv : ∀ (k : Nat) d v, ds[k]? = some d → vs[k]? = some v → VI w (fun _ => False) d v) :
  Calls Tryz.prog f vs w fun e w' => e = .returned (.bool true) ∧ Below w.heap.size w w' := by
 refine (hc (fun _ => False) w vs hT (fun b h => h.elim) hs hv).mono ?_
 rintro e w' ⟨v, rfl, hvi, hx⟩
 refine ⟨?_, hx.os, hx.tape, hx.output, hx.size, fun k hk => hx.block k hk id⟩
 cases hvi; rfl
theorem max_shaped {w : World} (h : w.ShapedOpen Tryz.prog) : ∀ g, Tryz.prog.globalNamed maxName = some g → g < w.heap.size ∧ ∃ m, w.cell? ⟨g, 0, none⟩ = some (.int .i64 m) := by
 intro g hg
 rw [show Tryz.prog.globalNamed maxName = some 1 by kernel_rfl] at hg
 cases hg
 obtain ⟨m, hm⟩ := Go.Proofs.cell_of_shapedOpen_int (zero := #[.int .i64 0]) (t := 3) (g := 1) h (of_decide_eq_true (by kernel_rfl)) (by kernel_rfl) rfl (by kernel_rfl) (by kernel_rfl) Tryz.underlying3
 exact ⟨World.block_lt_of_cell? w _ hm, m, hm⟩
theorem tab_shaped {w : World} (h : w.ShapedOpen Tryz.prog) : Tab Tryz.prog w := by
 refine ⟨fun g hg => ?_, max_shaped h⟩
 rw [show Tryz.prog.globalNamed tabName = none by kernel_rfl] at hg
 cases hg
theorem handed_and_shaped {H : Type} {enc : TypeId × Value → H} {a : Assume} {C : Checked} {os : Os} {f : FuncId} {fn : Func} {s : ChangeSpec} {conds : List PathCond} {apart fresh handsOn again : Bool} {X : World → Array Value → Prop}
  (hX : ∀ (w w' : World) (args : Array Value), w.heap = w'.heap → X w args → X w' args)
  (own : ownKnob C.prog.godebug = none) (started : os.Started) (noInit : C.prog.inits.idxOf? f = none) (hfn : C.prog.funcs[f]? = some fn)
  (witness : ∃ (w : World) (tape : Tape) (i : Input), w.os = os ∧ (w.forCall tape i).Shaped C.prog ∧ i.vars = [] ∧ Input.okWide C.prog (w.forCall tape i) .any w.heap.size f i ∧
   ((s.pre enc C.prog fn conds apart (w.forCall tape i).memory i.args ∧ X (w.forCall tape i).memory i.args) ∧ sizedMet enc C.prog fn (OpenSpec.ofChange s) apart (w.forCall tape i).memory i.args) ∧ a.holds C.prog (lone (Frame.enter C.prog f i.args .normal) [] (w.forCall tape i)))
  (contract : ∀ (W : World) (base : Nat) (args : Array Value) (ds gs : List (DataW H)) (before : List MemPlace),
   (∀ (j : Nat) t v, fn.params[j]? = some t → args[j]? = some v → Value.okWide C.prog W .any base t v) →
   DataW.Whole enc C.prog fn.params.toList s.vars apart W args.toList ds gs before → X W args → W.ShapedOpen C.prog →
   Calls C.prog f args W fun e W' => ∃ v, e = .returned v ∧ s.post enc C.prog fn apart fresh handsOn again W args v W') :
  ReturnsInHanded a C os f .any (fun w args => (s.pre enc C.prog fn conds apart w args ∧ X w args) ∧ sizedMet enc C.prog fn (OpenSpec.ofChange s) apart w args) (s.post enc C.prog fn apart fresh handsOn again) := by
 refine returnsInHanded_of_calls own started noInit witness ?_
 intro w tape i _ hsh _ hok hpre _
 obtain ⟨_, _, _, fn', hfn', _, _, _, _, hval⟩ := hok
 obtain rfl : fn' = fn := Option.some.inj (hfn'.symm.trans hfn)
 obtain ⟨⟨⟨ds, gs, before, hw, _⟩, hx⟩, _⟩ := hpre
 refine (contract (w.forCall tape i) w.heap.size i.args ds gs before hval (DataW.Whole.of_heap (w' := w.forCall tape i) (by rfl) hw) (hX _ _ _ (by rfl) hx) hsh).mono ?_
 rintro e W' ⟨v, rfl, hp⟩
 exact ChangeSpec.post_blind hp
theorem lst_D {α : Type} {t : Ty} {f : α → List DV} {p : α → Prop} (hf : ∀ z, IsD t z → ∃ a, p a ∧ z = f a) : ∀ {zs : List (List DV)}, (∀ z ∈ zs, IsD t z) → ∃ l : List α, l.length = zs.length ∧ zs.flatten = l.flatMap f ∧ ∀ a ∈ l, p a
 | [], _ => ⟨[], rfl, rfl, fun a h => by cases h⟩
 | z :: zs, h => by
  obtain ⟨l, h1, h2, h3⟩ := lst_D hf (zs := zs) fun y hy => h y (List.mem_cons_of_mem _ hy)
  obtain ⟨a, g1, g2⟩ := hf z (h z List.mem_cons_self)
  refine ⟨a :: l, by simp [h1], by rw [List.flatten_cons, h2, g2]; rfl, fun x hx => ?_⟩
  rcases List.mem_cons.1 hx with rfl | hx
  ·exact g1
  ·exact h3 x hx
theorem strL_fm (l : List Bs) : l.flatMap (fun s => [DV.str s]) = strL l := by
 induction l with
 | nil => rfl
 | cons s l ih => rw [List.flatMap_cons, ih]; rfl
def okStrs (l : List Bs) : Prop := l.length ≤ 9223372036854775807 ∧ ∀ s ∈ l, s.length ≤ 9223372036854775807
theorem strs_D {zs : List (List DV)} (h : ∀ z ∈ zs, IsD .str z) (hl : zs.length ≤ 9223372036854775807) : ∃ l : List Bs, zs.flatten = strL l ∧ okStrs l := by
 obtain ⟨l, h1, h2, h3⟩ := lst_D (f := fun s : Bs => [DV.str s]) (p := fun s => s.length ≤ 9223372036854775807) (fun z hz => by obtain ⟨s, g1, g2⟩ := hz; exact ⟨s, g1, g2⟩) h
 exact ⟨l, by rw [h2, strL_fm], by rw [h1]; exact hl, h3⟩
theorem strs_D1 {z : List DV} (h : IsD (.sl .str) z) : ∃ l : List Bs, okStrs l ∧ z = [.sl 1 (strL l)] := by
 obtain ⟨zs, h1, h2, rfl⟩ := h
 obtain ⟨l, e, h3⟩ := strs_D h1 h2
 exact ⟨l, h3, by rw [e]; rfl⟩
theorem recs_D {zs : List (List DV)} (h : ∀ z ∈ zs, IsD (.sl .str) z) (hl : zs.length ≤ 9223372036854775807) : ∃ l : List (List Bs), zs.flatten = recD l ∧ l.length ≤ 9223372036854775807 ∧ ∀ r ∈ l, okStrs r := by
 obtain ⟨l, h1, h2, h3⟩ := lst_D (f := fun r : List Bs => [DV.sl 1 (strL r)]) (p := okStrs) (fun z hz => strs_D1 hz) h
 refine ⟨l, ?_, by rw [h1]; exact hl, h3⟩
 rw [h2]
 clear h1 h2 h3
 induction l with
 | nil => rfl
 | cons s l ih => rw [List.flatMap_cons, ih]; rfl
def okXN (x : XN) : Prop := lim x.2.1 ∧ lim x.2.2 ∧ x.2.1.length ≤ 9223372036854775807 ∧ x.2.2.length ≤ 9223372036854775807
theorem xn_D {z : List DV} (h : IsD ratT z) : ∃ x : XN, okXN x ∧ z = xnC x := by
 obtain ⟨neg, a, d, h1, h2, h3, h4, rfl⟩ := h.rat
 exact ⟨(neg, a, d), ⟨h1, h2, h3, h4⟩, rfl⟩
def fldT : Ty := .pair .str (.pair (.int .i64) (.pair (.sl .str) (.pair ratT .unit)))
def okFld (f : Fx) : Prop := f.nm.length ≤ 9223372036854775807 ∧ okStrs f.ms ∧ okXN f.un
theorem fld_D {z : List DV} (h : IsD fldT z) : ∃ f : Fx, okFld f ∧ z = fxC f := by
 obtain ⟨d0, r0, ⟨s, g0, rfl⟩, ⟨d1, r1, ⟨n, _, rfl⟩, ⟨d2, r2, h2, ⟨d3, r3, h3, hu, rfl⟩, rfl⟩, rfl⟩, rfl⟩ := h
 rw [show r3 = [] from hu]
 obtain ⟨l, k1, rfl⟩ := strs_D1 h2
 obtain ⟨x, k2, rfl⟩ := xn_D h3
 exact ⟨⟨s, n, l, x⟩, ⟨g0, k1, k2⟩, rfl⟩
theorem flds_D {zs : List (List DV)} (h : ∀ z ∈ zs, IsD fldT z) (hl : zs.length ≤ 9223372036854775807) : ∃ l : List Fx, zs.flatten = fxs l ∧ l.length ≤ 9223372036854775807 ∧ ∀ f ∈ l, okFld f := by
 obtain ⟨l, h1, h2, h3⟩ := lst_D (f := fxC) (p := okFld) (fun z hz => fld_D hz) h
 exact ⟨l, h2, by rw [h1]; exact hl, h3⟩
end Go.Proofs.YtjahkcgckiobkaaGreatDoor
namespace Go.Proofs.YtjahkcgckiobkaaGreatDoor
open Go Go.Dat Go.Proofs Go.RowKit Go.Shelf Nat32
theorem fldsB_spec {l : List Fx} (h : fldsB l = true) (hx : ∀ f ∈ l, okXN f.un) : l.length ≤ 40 ∧ ∀ f ∈ l, f.nm.length ≤ 60 ∧ (f.ms.length ≤ 40 ∧ ∀ s ∈ f.ms, s.length ≤ 60) ∧ okN0 f.un ∧ f.un.2.1.length ≤ 8 ∧ f.un.2.2.length ≤ 8 := by
 unfold fldsB at h
 simp only [Bool.and_eq_true, decide_eq_true_eq, List.all_eq_true] at h
 refine ⟨h.1, fun f hf => ?_⟩
 have h1 := h.2 f hf
 unfold fldB ligX at h1
 simp only [Bool.and_eq_true, decide_eq_true_eq] at h1
 obtain ⟨⟨k1, k2⟩, k3⟩ := h1
 have k4 := lightB_spec k3
 have k5 := hx f hf
 exact ⟨k1, strsB_spec k2, ⟨k5.1, k5.2.1, Nat.le_trans k4.1 (by decide), Nat.le_trans k4.2 (by decide)⟩, k4⟩
theorem readR_ok (f : Fx) (hu : okN0 f.un ∧ f.un.2.1.length ≤ 8 ∧ f.un.2.2.length ≤ 8) (lv : List Bs) (ce : List Tc) (s : Bs) (hs : s.length ≤ 450) (h : ∀ c ∈ ce, okU c.va) : ∀ c ∈ (readR parseQ f lv ce s).2.2, okU c.va := by
 have hz : okU (false, [], []) := ⟨0, by unfold RB; decide +kernel, qX_0.symm⟩
 have key : ∀ c : Tc, okU c.va → ∀ x ∈ ce ++ [c], okU x.va := fun c hc x hx => by
  rcases List.mem_append.1 hx with hx | hx
  ·exact h x hx
  ·rw [List.mem_singleton.1 hx]; exact hc
 unfold readR
 split
 ·exact key _ hz
 ·split
  ·split
   ·exact h
   ·rename_i x hx
    refine key _ ⟨x * xnV f.un, ?_, rfl⟩
    have h1 := parseQ_RB1 hs hx
    have h2 : RB (xnV f.un) 8 := RB_rv hu.1.1 hu.1.2.1 hu.2.1 hu.2.2 (by decide)
    exact (RB_mul h1 h2).mono (by decide)
  ·split
   ·split
    ·exact h
    ·exact key _ hz
   ·exact key _ hz
theorem rowR_ok {fs : List Fx} (hu : ∀ f ∈ fs, okN0 f.un ∧ f.un.2.1.length ≤ 8 ∧ f.un.2.2.length ≤ 8) {r : List Bs} (hr : ∀ s ∈ r, s.length ≤ 450) {T : List Tx} (h : ∀ t ∈ T, ∀ c ∈ t.2, okU c.va) : ∀ k, k ≤ fs.length → ∀ t ∈ (rowR parseQ fs r T k).2, ∀ c ∈ t.2, okU c.va
 | 0, _ => h
 | k + 1, hk => by
  have ih := rowR_ok hu hr h k (by omega)
  simp only [rowR]
  split
  ·exact ih
  ·intro t ht
   rcases List.mem_or_eq_of_mem_set ht with ht | rfl
   ·exact ih t ht
   ·have hT : ∀ c ∈ ((rowR parseQ fs r T k).2.getD k default).2, okU c.va := by
     rw [List.getD_eq_getElem?_getD]
     cases hg : (rowR parseQ fs r T k).2[k]? with
     | none => intro c hc; cases hc
     | some t => exact ih t (List.mem_of_getElem? hg)
    unfold colStep
    split
    ·exact hT
    ·refine readR_ok _ (hu _ (memG (by omega))) _ _ _ ?_ hT
     by_cases hkr : k < r.length
     ·exact hr _ (mem_getD hkr)
     ·rw [List.getD_eq_getElem?_getD, List.getElem?_eq_none (by omega)]; exact Nat.zero_le _
theorem recR_ok {fs : List Fx} (hu : ∀ f ∈ fs, okN0 f.un ∧ f.un.2.1.length ≤ 8 ∧ f.un.2.2.length ≤ 8) {recs : List (List Bs)} (hr : ∀ r ∈ recs, ∀ s ∈ r, s.length ≤ 450) : ∀ i, i ≤ recs.length → ∀ t ∈ (recR parseQ fs recs i).2, ∀ c ∈ t.2, okU c.va
 | 0, _ => by
  intro t ht c hc
  simp only [recR] at ht
  obtain ⟨_, _, rfl⟩ := List.mem_map.1 ht
  cases hc
 | i + 1, hi => by
  have ih := recR_ok hu hr i (by omega)
  simp only [recR]
  split
  ·exact ih
  ·split
   ·exact ih
   ·split
    ·exact ih
    ·exact rowR_ok hu (hr _ (memR_getD (by omega))) ih _ (Nat.le_refl _)
theorem okN0_qX {r : Rat} (h : RB r 300) : okN0 (qX r) := ⟨lim_limbs _, lim_dn _, h.1, RB_dn h⟩
theorem readR_okN (f : Fx) (hu : okN0 f.un ∧ f.un.2.1.length ≤ 8 ∧ f.un.2.2.length ≤ 8) (lv : List Bs) (ce : List Tc) (s : Bs) (hs : s.length ≤ 450) (h : ∀ c ∈ ce, okN0 c.va) : ∀ c ∈ (readR parseQ f lv ce s).2.2, okN0 c.va := by
 have hz : okN0 (false, [], []) := ⟨fun x hx => absurd hx List.not_mem_nil, fun x hx => absurd hx List.not_mem_nil, Nat.zero_le _, Nat.zero_le _⟩
 have key : ∀ c : Tc, okN0 c.va → ∀ x ∈ ce ++ [c], okN0 x.va := fun c hc x hx => by
  rcases List.mem_append.1 hx with hx | hx
  ·exact h x hx
  ·rw [List.mem_singleton.1 hx]; exact hc
 unfold readR
 split
 ·exact key _ hz
 ·split
  ·split
   ·exact h
   ·rename_i x hx
    refine key _ (okN0_qX ?_)
    have h1 := parseQ_RB1 hs hx
    have h2 : RB (xnV f.un) 8 := RB_rv hu.1.1 hu.1.2.1 hu.2.1 hu.2.2 (by decide)
    exact (RB_mul h1 h2).mono (by decide)
  ·split
   ·split
    ·exact h
    ·exact key _ hz
   ·exact key _ hz
theorem rowR_okN {fs : List Fx} (hu : ∀ f ∈ fs, okN0 f.un ∧ f.un.2.1.length ≤ 8 ∧ f.un.2.2.length ≤ 8) {r : List Bs} (hr : ∀ s ∈ r, s.length ≤ 450) {T : List Tx} (h : ∀ t ∈ T, ∀ c ∈ t.2, okN0 c.va) : ∀ k, k ≤ fs.length → ∀ t ∈ (rowR parseQ fs r T k).2, ∀ c ∈ t.2, okN0 c.va
 | 0, _ => h
 | k + 1, hk => by
  have ih := rowR_okN hu hr h k (by omega)
  simp only [rowR]
  split
  ·exact ih
  ·intro t ht
   rcases List.mem_or_eq_of_mem_set ht with ht | rfl
   ·exact ih t ht
   ·have hT : ∀ c ∈ ((rowR parseQ fs r T k).2.getD k default).2, okN0 c.va := by
     rw [List.getD_eq_getElem?_getD]
     cases hg : (rowR parseQ fs r T k).2[k]? with
     | none => intro c hc; cases hc
     | some t => exact ih t (List.mem_of_getElem? hg)
    unfold colStep
    split
    ·exact hT
    ·refine readR_okN _ (hu _ (memG (by omega))) _ _ _ ?_ hT
     by_cases hkr : k < r.length
     ·exact hr _ (mem_getD hkr)
     ·rw [List.getD_eq_getElem?_getD, List.getElem?_eq_none (by omega)]; exact Nat.zero_le _
theorem recR_okN {fs : List Fx} (hu : ∀ f ∈ fs, okN0 f.un ∧ f.un.2.1.length ≤ 8 ∧ f.un.2.2.length ≤ 8) {recs : List (List Bs)} (hr : ∀ r ∈ recs, ∀ s ∈ r, s.length ≤ 450) : ∀ i, i ≤ recs.length → ∀ t ∈ (recR parseQ fs recs i).2, ∀ c ∈ t.2, okN0 c.va
 | 0, _ => by
  intro t ht c hc
  simp only [recR] at ht
  obtain ⟨_, _, rfl⟩ := List.mem_map.1 ht
  cases hc
 | i + 1, hi => by
  have ih := recR_okN hu hr i (by omega)
  simp only [recR]
  split
  ·exact ih
  ·split
   ·exact ih
   ·split
    ·exact ih
    ·exact rowR_okN hu (hr _ (memR_getD (by omega))) ih _ (Nat.le_refl _)
end Go.Proofs.YtjahkcgckiobkaaGreatDoor
namespace Go.Proofs.YtjahkcgckiobkaaGreatDoor
open Go Go.Dat Go.Proofs Go.RowKit Nat32
theorem mdModG (k : Int) (n : Nat) (hn : 0 < n) (hn2 : n ≤ 1000000) : PCalls Tryz.prog 16 [.int .i64 k, .int .i64 n] (.int .i64 (k % n)) := by
 obtain ⟨h1, h2, h3, h4⟩ := tmodG k hn
 have hne : (n : Int) ≠ 0 := by omega
 refine PCalls_of ismdMod (by simp [fnmdMod]) ?_
 unfold codemdMod
 by_cases h : k.tmod n < 0
 ·have d : decide (k.tmod n < 0) = true := decide_eq_true h
  rw [← h3 h]
  refine zS d ?_
  refine wT ?_
  refine zR ?_
  exact W_ret (RetP_1 (.imm rfl))
 ·have d : decide (k.tmod n < 0) = false := decide_eq_false h
  rw [← h4 h]
  refine zS d ?_
  refine wFs ?_
  refine zR ?_
  exact W_ret (RetP_1 (.imm rfl))
end Go.Proofs.YtjahkcgckiobkaaGreatDoor
namespace Go.Proofs.YtjahkcgckiobkaaGreatDoor
open Go Go.Dat Go.Proofs Go.RowKit Go.Shelf Nat32
theorem mdNumber_calls (z : Int) (hz : -9223372036854775808 ≤ z ∧ z ≤ 9223372036854775807) : PCalls Tryz.prog 17 [.int .i64 z] (.agg (xnC (qX (numQ z)))) := by
 have m1 := mdModG z 61 (by decide) (by decide)
 have m2 := mdModG (Int.tdiv z 61) 4 (by decide) (by decide)
 have b1 := Int.emod_nonneg z (show (61 : Int) ≠ 0 by decide)
 have b2 := Int.emod_lt_of_pos z (show (0 : Int) < 61 by decide)
 have b3 := Int.emod_nonneg (Int.tdiv z 61) (show (4 : Int) ≠ 0 by decide)
 have b4 := Int.emod_lt_of_pos (Int.tdiv z 61) (show (0 : Int) < 4 by decide)
 have cf : PCalls Tryz.prog 39 [.int .i64 (z % 61 - 30), .int .i64 (1 + (Int.tdiv z 61) % 4)] (Q (numQ z)) := pFraction_calls (z % 61 - 30) (1 + (Int.tdiv z 61) % 4) (by omega) (by omega) (by omega)
 have hq : Q (numQ z) = .agg (xnC (qX (numQ z))) := rfl
 rw [hq] at cf
 have hcc : (DV.agg (xnC (qX (numQ z)))).cells? = some (xnC (qX (numQ z))) := rfl
 have h3 : (xnC (qX (numQ z))).length = 3 := rfl
 have hrf : (DV.agg (xnC (qX (numQ z)))).rf = true := rfl
 have htd : -9223372036854775808 ≤ Int.tdiv z 61 ∧ Int.tdiv z 61 ≤ 9223372036854775807 := by
  by_cases h : 0 ≤ z
  ·rw [Int.tdiv_eq_ediv_of_nonneg h]; omega
  ·obtain ⟨n, hn⟩ : ∃ n : Nat, z = -(n : Int) := ⟨z.natAbs, by omega⟩
   rw [hn, Int.neg_tdiv, Int.tdiv_eq_ediv_of_nonneg (by omega)]; omega
 refine PCalls_of ismdNumber (by simp [fnmdNumber]) ?_
 unfold codemdNumber
 generalize xnC (qX (numQ z)) = X at *
 have e61 : ((61 : Nat) : Int) = 61 := rfl
 have e4 : ((4 : Nat) : Int) = 4 := rfl
 rw [e61] at m1
 rw [e4] at m2
 refine zR ?_
 refine cP m1 ?_
 refine zR ?_
 refine cP m2 ?_
 refine zR ?_
 refine cP cf ?_
 refine zS (zA hcc (zA h3 @cS)) ?_
 exact W_ret (RetP_c rfl rfl h3 (.imm hrf))
theorem numQ_RB (z : Int) : RB (numQ z) 10 := by
 have e : numQ z = mkRat (z % 61 - 30) (1 + (Int.tdiv z 61) % 4).toNat := by
  unfold numQ
  have := Int.emod_nonneg (Int.tdiv z 61) (show (4 : Int) ≠ 0 by decide)
  rw [← Rat.divInt_ofNat]
  congr 1
  omega
 rw [e]
 have b1 := Int.emod_nonneg z (show (61 : Int) ≠ 0 by decide)
 have b2 := Int.emod_lt_of_pos z (show (0 : Int) < 61 by decide)
 have b3 := Int.emod_nonneg (Int.tdiv z 61) (show (4 : Int) ≠ 0 by decide)
 have b4 := Int.emod_lt_of_pos (Int.tdiv z 61) (show (0 : Int) < 4 by decide)
 refine RB_mk (by omega) ?_ ?_
 ·exact limbs_len.2 (Nat.lt_of_lt_of_le (show _ < 4294967296 ^ 1 by omega) (Nat.pow_le_pow_right (by decide) (by decide)))
 ·exact limbs_len.2 (Nat.lt_of_lt_of_le (show _ < 4294967296 ^ 1 by omega) (Nat.pow_le_pow_right (by decide) (by decide)))
set_option maxHeartbeats 4000000 in
theorem ltScales_calls (fs : List Fx) (recs : List (List Bs)) (wh by_ : Int) (hl : fs.length ≤ 9223372036854775807) (hf : ∀ f ∈ fs, okFld f) (hl2 : recs.length ≤ 9223372036854775807) (hr : ∀ r ∈ recs, okStrs r) (hby : -9223372036854775808 ≤ by_ ∧ by_ ≤ 9223372036854775807) :
  PCalls Tryz.prog 4 [.sl 6 (fxs fs), .sl 1 (recD recs), .int .i64 wh, .int .i64 by_] (.bool true) := by
 have aw := lt_awake_calls
 have c1 := lt_fields_calls fs hl (fun f h => (hf f h).2.1)
 have c2 := lt_records_calls recs hl2 hr
 have hln : (fxs fs).length / 6 = fs.length := by rw [fxs_len]; omega
 have hfl := fxs_len fs
 have hrl := recD_len recs
 refine PCalls_of isltScales (by simp [fnltScales]) ?_
 unfold codeltScales
 refine zR ?_
 refine cP c1 ?_
 cases h1 : fldsB fs
 ·refine zR ?_
  refine wT ?_
  refine zR ?_
  refine cP aw ?_
  refine zR ?_
  exact W_ret (RetP_1 (.imm rfl))
 refine zR ?_
 refine cP c2 ?_
 cases h2 : recsB recs
 ·refine zR ?_
  refine wT ?_
  refine zR ?_
  refine cP aw ?_
  refine zR ?_
  exact W_ret (RetP_1 (.imm rfl))
 obtain ⟨k1, k1'⟩ := fldsB_spec h1 (fun f h => (hf f h).2.2)
 obtain ⟨k2, k2'⟩ := recsB_spec h2
 by_cases hz : fs.length = 0
 ·have dz : decide ((fs.length : Int) = 0) = true := decide_eq_true (by omega)
  refine zS (zA hln dz) ?_
  refine wT ?_
  refine zR ?_
  refine cP aw ?_
  refine zR ?_
  exact W_ret (RetP_1 (.imm rfl))
 have dz : decide ((fs.length : Int) = 0) = false := decide_eq_false (by omega)
 have hrr : ∀ r ∈ recs, r.length ≤ 1000000 ∧ ∀ s ∈ r, s.length ≤ 450 := fun r h => ⟨Nat.le_trans (k2' r h).1 (by decide), fun s hs => Nat.le_trans ((k2' r h).2 s hs) (by decide)⟩
 have cu := uBld_calls fs recs (by omega) (by omega) (fun f h => (k1' f h).2.2.1) (fun f h => Nat.le_trans (k1' f h).2.1.1 (by decide)) (fun f h => (hf f h).1) hrr
 have cm := mdModG wh fs.length (by omega) (by omega)
 have cn := mdNumber_calls by_ hby
 have hp1 := Int.emod_nonneg wh (show (fs.length : Int) ≠ 0 by omega)
 have hp2 := Int.emod_lt_of_pos wh (show (0 : Int) < fs.length by omega)
 obtain ⟨k, hk⟩ : ∃ k : Nat, wh % (fs.length : Int) = k := ⟨(wh % (fs.length : Int)).toNat, by omega⟩
 rw [hk] at cm
 have hkl : k < fs.length := by omega
 have ek : (k : Int).toNat = k := Int.toNat_natCast k
 have hcRB := numQ_RB by_
 generalize numQ by_ = c at *
 have hcc : (DV.agg (xnC (qX c))).cells? = some (xnC (qX c)) := rfl
 have h3 : (xnC (qX c)).length = 3 := rfl
 have t3 : (xnC (qX c)).take 3 = xnC (qX c) := rfl
 have o3 : (xnC (qX c)).all DV.one = true := rfl
 have hxr : (DV.agg (xnC (qX c))).rf = true := rfl
 have cs : PCalls Tryz.prog 18 [.agg (xnC (qX c))] (.int .i64 c.num.sign) := by
  have h0 := okN0_qX (hcRB.mono (by decide))
  have := pSign_calls (qX c).1 (qX c).2.1 (qX c).2.2 (by have := h0.2.2.1; omega) (by have := h0.2.2.2; omega) h0.1 h0.2.1
  have e : rv (qX c).1 (qX c).2.1 (qX c).2.2 = c := rv_Q c
  rw [e] at this; exact this
 refine zS (zA hln dz) ?_
 refine wFs ?_
 refine zR ?_
 refine cP cu ?_
 have dF : decide (¬ True) = false := rfl
 rcases bldR_or fs recs with ⟨row, e, he, hb⟩ | ⟨g1', g2', g3', g4'⟩
 ·have de : decide (¬ e = 0) = true := decide_eq_true he
  rw [hb]
  unfold badT
  refine zS (zA @cS hln) ?_
  refine cP cm ?_
  refine zR ?_
  refine cP cn ?_
  refine zS (zA hcc (zA h3 (zA @cS de))) ?_
  refine wT ?_
  refine zR ?_
  refine cP aw ?_
  refine zR ?_
  exact W_ret (RetP_1 (.imm rfl))
 have hB := bldR_ok g1' g2' g3' g4'
 have hg1 : (fxs fs).getD (k * 6 + 1) .undef = .int .i64 (fs.getD k default).kd := fm_at (j := 1) fxC_len default hkl (by decide) .undef
 have hg3 : ((fxs fs).drop (k * 6 + 3)).take 3 = xnC (fs.getD k default).un := fm_win (j := 3) fxC_len default hkl (by decide)
 have hg0 : (fxs fs).getD (k * 6) .undef = .str (fs.getD k default).nm := fm_at (j := 0) fxC_len default hkl (by decide) .undef
 rw [hB]
 refine zS (zA @cS hln) ?_
 refine cP cm ?_
 refine zR ?_
 refine cP cn ?_
 by_cases kd1 : ¬ (fs.getD k default).kd = 1
 ·have d1 : decide (¬ (fs.getD k default).kd = 1) = true := decide_eq_true kd1
  refine zS (zA hcc (zA h3 (zA @cS (zA dF (zA ek (zA hfl (zA hg1 d1))))))) ?_
  refine wT ?_
  refine zR ?_
  refine cP aw ?_
  refine zR ?_
  exact W_ret (RetP_1 (.imm rfl))
 replace kd1 := Classical.not_not.1 kd1
 have d1 : decide (¬ (fs.getD k default).kd = 1) = false := by rw [kd1]; rfl
 refine zS (zA hcc (zA h3 (zA t3 (zA o3 (zA @cS (zA dF (zA ek (zA hfl (zA hg1 (zA d1 @List.drop_zero.{0})))))))))) ?_
 refine cP cs ?_
 by_cases hc0 : c = 0
 ·have d0 : decide (c.num.sign = 0) = true := by rw [hc0]; rfl
  refine zS d0 ?_
  refine wT ?_
  refine zR ?_
  refine cP aw ?_
  refine zR ?_
  exact W_ret (RetP_1 (.imm rfl))
 have d0 : decide (c.num.sign = 0) = false := decide_eq_false fun e => hc0 (Rat.num_eq_zero.1 (Int.sign_eq_zero_iff_zero.1 e))
 refine zS d0 ?_
 refine wFs ?_
 refine zS @cS ?_
 refine ⟨⟨by omega, by omega, fxs_one fs⟩, ?_⟩
 have hfm := k1' _ (memG hkl)
 have cmul : PCalls Tryz.prog 19 [.agg (xnC (fs.getD k default).un), .agg (xnC (qX c))] (.agg (xnC (qX (xnV (fs.getD k default).un * c)))) := by
  have h0 := okN0_qX (hcRB.mono (by decide))
  have hu := hfm.2.2.1
  have := pMul_calls (fs.getD k default).un.1 (fs.getD k default).un.2.1 (fs.getD k default).un.2.2 (qX c).1 (qX c).2.1 (qX c).2.2 hu.2.2.1 hu.2.2.2 h0.2.2.1 h0.2.2.2 hu.1 hu.2.1 h0.1 h0.2.1
  have e : rv (qX c).1 (qX c).2.1 (qX c).2.2 = c := rv_Q c
  rw [e] at this; exact this
 have hun := fxs_unit c hkl
 have hsc := fun i => recR_sc (pq := parseQ) (c := c) hkl kd1 (recs := recs) i
 have hGl := scG_len (k := k) (c := c) (fs := fs)
 have hTl := recR_len parseQ fs recs recs.length
 have htab := tabK_sc (c := c) hkl kd1 hTl g2'
 have huRB : RB (xnV (fs.getD k default).un * c) 300 := (RB_mul (RB_rv hfm.2.2.1.1 hfm.2.2.1.2.1 hfm.2.2.2.1 hfm.2.2.2.2 (by decide)) hcRB).mono (by decide)
 have hGok : ∀ f ∈ scG k c fs, okN0 f.un ∧ f.ms.length ≤ 1000000 ∧ f.nm.length ≤ 9223372036854775807 := fun f hm => by
  rcases List.mem_or_eq_of_mem_set hm with hm | rfl
  ·exact ⟨(k1' f hm).2.2.1, Nat.le_trans (k1' f hm).2.1.1 (by decide), (hf f hm).1⟩
  ·exact ⟨okN0_qX huRB, Nat.le_trans hfm.2.1.1 (by decide), (hf _ (memG hkl)).1⟩
 have ct := tBld_calls (scG k c fs) recs (by omega) (by omega) (fun f h => (hGok f h).1) (fun f h => (hGok f h).2.1) (fun f h => (hGok f h).2.2) hrr
 rw [bldR_ok (by rw [hGl]; exact g1') (by rw [fnm_sc hkl]; exact g2') (any_sc hkl kd1 g3' hc0) (by rw [hsc]; exact g4'), hsc] at ct
 simp only at ct
 rw [htab] at ct
 have hv := tabK_valid g1' g2' g3' g4'
 have hokN := recR_okN (fun f h => (k1' f h).2.2) (fun r h => (hrr r h).2) recs.length (Nat.le_refl _)
 have hokU := recR_ok (fun f h => (k1' f h).2.2) (fun r h => (hrr r h).2) recs.length (Nat.le_refl _)
 generalize (recR parseQ fs recs recs.length).2 = T at *
 have hKce : ∀ x ∈ tabK fs T, x.ce.length = recs.length ∧ ∀ y ∈ x.ce, okN0 y.va ∧ okU y.va := fun x hx => by
  constructor
  ·unfold tabB at hv
   simp only [Bool.and_eq_true, List.all_eq_true] at hv
   have := hv.2 x hx
   unfold colB shpB at this
   simp only [Bool.and_eq_true, decide_eq_true_eq] at this
   have := this.1.1.2
   omega
  ·unfold tabK at hx
   have hx := (List.mem_filter.1 hx).1
   unfold asm at hx
   obtain ⟨j, hj, rfl⟩ := List.mem_map.1 hx
   have hj := List.mem_range.1 hj
   exact fun y hy => ⟨hokN _ (memG (by omega)) y hy, hokU _ (memG (by omega)) y hy⟩
 have hKl : (tabK fs T).length ≤ 32 := by rw [tabK_len]; exact Nat.le_trans (keepN_le _ _) (by omega)
 clear hokN hokU hv hsc htab
 generalize tabK fs T = K at *
 generalize hnm : (fs.getD k default).nm = nm at *
 have hKx := kxs_len K
 have hKn : (kxs K).length / 4 = K.length := by omega
 have hMx := kxs_len (K.map (scK nm c))
 rw [List.length_map] at hMx
 have hMn : (kxs (K.map (scK nm c))).length / 4 = K.length := by omega
 generalize hXU : xnC (qX (xnV (fs.getD k default).un * c)) = XU at *
 have hxu3 : XU.length = 3 := by rw [← hXU]; rfl
 have hxuc : (DV.agg XU).cells? = some XU := by rw [← hXU]; rfl
 have hxuo : XU.all DV.one = true := by rw [← hXU]; rfl
 have q9 : ∀ o z, o < 65 → purge 65 (.ptr o z) = .ptr o z := fun o z h => by
  have e : o ≠ 65 := by omega
  simp [purge, DV.has, e]
 have hpc := map_purge 65 (cs := xnC (qX c)) (List.all_eq_true.1 rfl)
 have hpf := map_purge 65 (fxs_rf fs)
 have h66 : fs.length * 6 / 6 = fs.length := by omega
 refine zS (zA @cS (zA ek (zA q9 (zA hpc (zA hpf (zA h66 (zA hln (zA hfl (zA hg3 (zA h3 (zA t3 (zA o3 @List.drop_zero.{0})))))))))))) ?_
 refine callC_pure cmul (by rw [List.all_cons, List.all_cons, hxr]; rfl) ?_
 refine zE (zA @cS (zA ek (zA hfl (zA hxu3 hxuo)))) ?_
 refine ⟨⟨by omega, by omega⟩, by omega, ?_⟩
 rw [hun]
 have hGr := fxs_rf (scG k c fs)
 have hGx := fxs_len (scG k c fs)
 rw [hGl] at hGx
 refine W_freeze 65 (cells := fxs (scG k c fs)) rfl (List.all_eq_true.2 hGr) ?_
 have f65 : frz 65 (fxs (scG k c fs)) (.osl 6 65 0 fs.length) = .sl 6 (fxs (scG k c fs)) := by
  simp [frz, hGx]
  rw [List.take_of_length_le (by omega)]
 have fp : ∀ o z, o < 65 → frz 65 (fxs (scG k c fs)) (.ptr o z) = .ptr o z := fun o z h => by
  have e : o ≠ 65 := by omega
  simp [frz, purge, DV.has, e]
 have hfc := map_frz 65 (fxs (scG k c fs)) (cs := xnC (qX c)) (List.all_eq_true.1 rfl)
 refine zS (zA f65 (zA fp (zA hfc @cS))) ?_
 refine cP ct ?_
 refine zS (zA @cS (zA dF (zA hKn hMn))) ?_
 refine wFs ?_
 clear ct cu cmul cm cn c1 c2 hGok hun hGr hGx f65 fp hfc hpc hpf hGl
 refine zR ?_
 refine W_loop (σ := Nat) (fun j => [(0, .sl 6 (fxs fs)), (9, .ptr 9 0), (12, .int .i64 k), (13, .ptr 13 0), (15, .ptr 15 0), (18, .int .i64 j)]) (fun _ => [(9, [.int .i64 recs.length, .sl 4 (kxs K)]), (13, xnC (qX c)), (15, [.int .i64 recs.length, .sl 4 (kxs (K.map (scK nm c)))])]) (fun j => j ≤ K.length) (fun j => K.length - j) 0 (Nat.zero_le _) ?_ rfl ?_
 ·simp [subF, lk]
 ·intro j hj
  try simp only at hj ⊢
  by_cases hlj : j < K.length
  ·have dj : decide ((j : Int) < (K.length : Int)) = true := decide_eq_true (by omega)
   have ej : (j : Int).toNat = j := Int.toNat_natCast j
   have e1 : ((j : Int) + 1) = ((j + 1 : Nat) : Int) := by omega
   have hK0 : (kxs K).getD (j * 4) .undef = .str (K.getD j default).nm := fm_at (j := 0) kxC_len default hlj (by decide) .undef
   have hK3 : (kxs K).getD (j * 4 + 3) .undef = .sl 5 (cxs (K.getD j default).ce) := fm_at (j := 3) kxC_len default hlj (by decide) .undef
   have hM3 : (kxs (K.map (scK nm c))).getD (j * 4 + 3) .undef = .sl 5 (cxs ((K.map (scK nm c)).getD j default).ce) := fm_at (j := 3) kxC_len default (by rw [List.length_map]; exact hlj) (by decide) .undef
   rw [scK_get nm c K hlj, scK_ce] at hM3
   obtain ⟨hcl, hcy⟩ := hKce _ (memG hlj)
   generalize K.getD j default = x at *
   generalize kxs (K.map (scK nm c)) = MX at *
   generalize kxs K = KX at *
   obtain ⟨U, hU⟩ : ∃ U, U = (if x.nm = nm then x.ce.map (scT c) else x.ce) := ⟨_, rfl⟩
   rw [← hU] at hM3
   have hUl : U.length = recs.length := by rw [hU]; split <;> simp [hcl]
   have hUx : (cxs U).length / 5 = recs.length := by rw [cxs_len]; omega
   have hUx5 := cxs_len U
   have hcx5 := cxs_len x.ce
   rw [hUl] at hUx5
   rw [hcl] at hcx5
   refine zS (zA @cS (zA dj hKn)) ?_
   refine wTs ?_
   refine zS (zA @cS (zA ej (zA hMx (zA hM3 (zA hUx dF))))) ?_
   refine wFs ?_
   refine zR ?_
   refine W_loop (σ := Nat) (fun i => [(0, .sl 6 (fxs fs)), (9, .ptr 9 0), (12, .int .i64 k), (13, .ptr 13 0), (15, .ptr 15 0), (18, .int .i64 j), (19, .int .i64 i)]) (fun _ => [(9, [.int .i64 recs.length, .sl 4 KX]), (13, xnC (qX c)), (15, [.int .i64 recs.length, .sl 4 MX])]) (fun i => i ≤ recs.length) (fun i => recs.length - i) 0 (Nat.zero_le _) ?_ rfl ?_
   ·simp [subF, lk]
   ·intro i hi
    try simp only at hi ⊢
    by_cases hli : i < recs.length
    ·have di : decide ((i : Int) < (recs.length : Int)) = true := decide_eq_true (by omega)
     have ei : (i : Int).toNat = i := Int.toNat_natCast i
     have e2 : ((i : Int) + 1) = ((i + 1 : Nat) : Int) := by omega
     have hv1 : ((cxs x.ce).drop (i * 5 + 1)).take 3 = xnC (x.ce.getD i default).va := fm_win (j := 1) cxC_len default (by omega) (by decide)
     have hv0 : (cxs x.ce).getD (i * 5) .undef = .bool (x.ce.getD i default).mi := fm_at (j := 0) cxC_len default (by omega) (by decide) .undef
     have hv4 : (cxs x.ce).getD (i * 5 + 4) .undef = .int .i64 (x.ce.getD i default).lv := fm_at (j := 4) cxC_len default (by omega) (by decide) .undef
     have hu1 : ((cxs U).drop (i * 5 + 1)).take 3 = xnC (U.getD i default).va := fm_win (j := 1) cxC_len default (by omega) (by decide)
     have hu0 : (cxs U).getD (i * 5) .undef = .bool (U.getD i default).mi := fm_at (j := 0) cxC_len default (by omega) (by decide) .undef
     have hu4 : (cxs U).getD (i * 5 + 4) .undef = .int .i64 (U.getD i default).lv := fm_at (j := 4) cxC_len default (by omega) (by decide) .undef
     have hUi : U.getD i default = if x.nm = nm then scT c (x.ce.getD i default) else x.ce.getD i default := by
      rw [hU]
      split
      ·exact scT_get c x.ce (by omega)
      ·rfl
     obtain ⟨y0, yU⟩ := hcy _ (memG (l := x.ce) (i := i) (by omega))
     generalize x.ce.getD i default = y at *
     generalize cxs U = UX at *
     generalize cxs x.ce = CX at *
     have a3 : (xnC y.va).length = 3 := rfl
     have a3t : (xnC y.va).take 3 = xnC y.va := rfl
     have a3o : (xnC y.va).all DV.one = true := rfl
     have a3r : (xnC y.va).all DV.rf = true := rfl
     have hbb : (!(y.mi == y.mi)) = false := by cases y.mi <;> rfl
     have r9 : ∀ cs o z, o < 20 → frz 20 cs (.ptr o z) = .ptr o z := fun cs o z h => by
      have e : o ≠ 20 := by omega
      simp [frz, purge, DV.has, e]
     have r13 := fun cs => map_frz 20 cs (cs := xnC (qX c)) (List.all_eq_true.1 rfl)
     by_cases hx : x.nm = nm
     ·have dx : decide (x.nm = nm) = true := decide_eq_true hx
      rw [if_pos hx] at hUi
      rw [hUi] at hu1 hu0 hu4
      have hcRB0 := okN0_qX (hcRB.mono (show 10 ≤ 300 by decide))
      have cmy : PCalls Tryz.prog 19 [.agg (xnC y.va), .agg (xnC (qX c))] (.agg (xnC (qX (xnV y.va * c)))) := by
       have := pMul_calls y.va.1 y.va.2.1 y.va.2.2 (qX c).1 (qX c).2.1 (qX c).2.2 y0.2.2.1 y0.2.2.2 hcRB0.2.2.1 hcRB0.2.2.2 y0.1 y0.2.1 hcRB0.1 hcRB0.2.1
       have e : rv (qX c).1 (qX c).2.1 (qX c).2.2 = c := rv_Q c
       rw [e] at this; exact this
      have csy : PCalls Tryz.prog 20 [.agg (xnC (qX (xnV y.va * c))), .agg (xnC (qX (xnV y.va * c)))] (.bool true) := pSameT _ ((RB_mul (RB_xnV y0) hcRB).mono (by decide))
      have hu1' : (UX.drop (i * 5 + 1)).take 3 = xnC (qX (xnV y.va * c)) := hu1
      have hu0' : UX.getD (i * 5) .undef = .bool y.mi := hu0
      have hu4' : UX.getD (i * 5 + 4) .undef = .int .i64 y.lv := hu4
      have b3 : (xnC (qX (xnV y.va * c))).length = 3 := rfl
      have b3t : (xnC (qX (xnV y.va * c))).take 3 = xnC (qX (xnV y.va * c)) := rfl
      have b3c : (DV.agg (xnC (qX (xnV y.va * c)))).cells? = some (xnC (qX (xnV y.va * c))) := rfl
      have b3o : (xnC (qX (xnV y.va * c))).all DV.one = true := rfl
      have b3r : (xnC (qX (xnV y.va * c))).all DV.rf = true := rfl
      have ar : List.all [DV.agg (xnC y.va), DV.agg (xnC (qX c))] DV.rf = true := rfl
      have br : List.all [DV.agg (xnC (qX (xnV y.va * c))), DV.agg (xnC (qX (xnV y.va * c)))] DV.rf = true := rfl
      generalize xnC (qX (xnV y.va * c)) = XB at *
      generalize xnC y.va = XA at *
      generalize xnC (qX c) = XC at *
      refine zS (zA @cS di) ?_
      refine wTs ?_
      refine zS (zA @cS (zA ej (zA ei (zA ek (zA hKx (zA hK3 (zA hcx5 (zA hv1 (zA a3 (zA a3t (zA a3o (zA hK0 (zA hfl (zA hg0 (zA hnm (zA dx @List.drop_zero.{0})))))))))))))))) ?_
      refine wT ?_
      refine zS (zA @cS (zA a3 (zA a3t (zA a3o (zA h3 (zA t3 (zA o3 @List.drop_zero.{0}))))))) ?_
      refine callC_pure cmy ar ?_
      have a3d : List.drop 3 XA = [] := List.drop_of_length_le (by omega)
      refine zS (zA @cS (zA ej (zA ei (zA hMx (zA hM3 (zA hUx5 (zA hu1' (zA b3 (zA b3t (zA b3o (zA b3c (zA a3d (zA @List.append_nil.{0} @List.drop_zero.{0}))))))))))))) ?_
      refine callC_pure csy br ?_
      refine zS (zA @cS (zA ej (zA ei (zA hMx (zA hM3 (zA hUx5 (zA hu0' (zA hu4' (zA hKx (zA hK3 (zA hcx5 (zA hv0 (zA hv4 (zA hbb (zA dF b3))))))))))))))) ?_
      refine wFs ?_
      refine W_freeze 20 (cells := XB) rfl b3r ?_
      refine zS (zA r9 (zA r13 e2)) ?_
      exact ⟨i + 1, by omega, by omega, by simp [subF, lk]⟩
     ·have dx : decide (x.nm = nm) = false := decide_eq_false hx
      rw [if_neg hx] at hUi
      rw [hUi] at hu1 hu0 hu4
      obtain ⟨r, hrR, hy⟩ := yU
      have csy : PCalls Tryz.prog 20 [.agg (xnC y.va), .agg (xnC y.va)] (.bool true) := by
       rw [hy]; exact pSameT r (hrR.mono (by decide))
      have hu0' : UX.getD (i * 5) .undef = .bool y.mi := hu0
      have hu4' : UX.getD (i * 5 + 4) .undef = .int .i64 y.lv := hu4
      have br : List.all [DV.agg (xnC y.va), DV.agg (xnC y.va)] DV.rf = true := rfl
      generalize xnC y.va = XA at *
      generalize xnC (qX c) = XC at *
      refine zS (zA @cS di) ?_
      refine wTs ?_
      refine zS (zA @cS (zA ej (zA ei (zA ek (zA hKx (zA hK3 (zA hcx5 (zA hv1 (zA a3 (zA a3t (zA a3o (zA hK0 (zA hfl (zA hg0 (zA hnm (zA dx @List.drop_zero.{0})))))))))))))))) ?_
      refine wFs ?_
      refine zS (zA @cS (zA ej (zA ei (zA hMx (zA hM3 (zA hUx5 (zA hu1 (zA a3 (zA a3t (zA a3o @List.drop_zero.{0})))))))))) ?_
      refine callC_pure csy br ?_
      refine zS (zA @cS (zA ej (zA ei (zA hMx (zA hM3 (zA hUx5 (zA hu0' (zA hu4' (zA hKx (zA hK3 (zA hcx5 (zA hv0 (zA hv4 (zA hbb (zA dF a3))))))))))))))) ?_
      refine wFs ?_
      refine W_freeze 20 (cells := XA) rfl a3r ?_
      refine zS (zA r9 (zA r13 e2)) ?_
      exact ⟨i + 1, by omega, by omega, by simp [subF, lk]⟩
    ·have di : decide ((i : Int) < (recs.length : Int)) = false := decide_eq_false (by omega)
     refine zS (zA @cS di) ?_
     refine W_cond rfl (fun h => by cases h) (fun _ => W_exit ?_)
     refine zS e1 ?_
     exact ⟨j + 1, by omega, by omega, by simp [subF, lk]⟩
  ·have dj : decide ((j : Int) < (K.length : Int)) = false := decide_eq_false (by omega)
   refine zS (zA @cS (zA dj hKn)) ?_
   refine W_cond rfl (fun h => by cases h) (fun _ => W_exit ?_)
   refine zR ?_
   refine cP aw ?_
   refine zR ?_
   exact W_ret (RetP_1 (.imm rfl))
end Go.Proofs.YtjahkcgckiobkaaGreatDoor
