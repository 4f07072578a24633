/- Lemmas of the walk; no conditions beyond those that each states. -/
import Derived.OpenShut
import Derived.Below
import Derived.HandedShaped
import Derived.Handed
import Derived.Test.YtjahkcgckiobkaaGreatDoorD2
import Derived.Test.YtjahkcgckiobkaaGreatDoorT2
import Derived.Test.YtjahkcgckiobkaaGreatDoorN1
import Derived.Test.YtjahkcgckiobkaaGreatDoorD3
import Derived.Test.YtjahkcgckiobkaaGreatDoorT1
import Derived.Test.YtjahkcgckiobkaaGreatDoorC1
set_option linter.unusedSimpArgs false
set_option linter.unusedVariables false
set_option linter.unnecessarySimpa false
set_option maxHeartbeats 4000000
namespace Go.Proofs.YtjahkcgckiobkaaGreatDoor
open Go Go.Dat Go.Proofs Go.RowKit Nat32
set_option maxHeartbeats 4000000 in
theorem uBld_calls (fs : List Fx) (recs : List (List Bs)) (hl : fs.length ≤ 1000000) (hl2 : recs.length ≤ 1000000) (hu : ∀ f ∈ fs, okN0 f.un) (hm : ∀ f ∈ fs, f.ms.length ≤ 1000000) (hn : ∀ f ∈ fs, f.nm.length ≤ 9223372036854775807)
  (hr : ∀ r ∈ recs, r.length ≤ 1000000 ∧ ∀ s ∈ r, s.length ≤ 450) : PCalls Tryz.prog 14 [.sl 6 (fxs fs), .sl 1 (recD recs)] (bldR fs recs) := by
 have hln : (fxs fs).length / 6 = fs.length := by rw [fxs_len]; omega
 have hrl := recD_len recs
 have hfl := fxs_len fs
 by_cases h1 : 32 < fs.length ∨ 1024 < recs.length
 ·have : bldR fs recs = badT 0 2 := by unfold bldR; rw [if_pos h1]
  rw [this]
  refine PCalls_of isuBld (by simp [fnuBld]) ?_
  unfold codeuBld
  by_cases h2 : 32 < fs.length
  ·have d1 : decide ((32 : Int) < (fs.length : Int)) = true := decide_eq_true (by omega)
   refine zS (zA hln (zA hrl d1)) ?_
   refine wT ?_
   refine zS @cS ?_
   exact W_ret (Ret_bad rfl rfl rfl rfl)
  ·have d1 : decide ((32 : Int) < (fs.length : Int)) = false := decide_eq_false (by omega)
   have h3 : 1024 < recs.length := h1.resolve_left h2
   have d2 : decide ((1024 : Int) < (recs.length : Int)) = true := decide_eq_true (by omega)
   refine zS (zA hln (zA hrl (zA d1 d2))) ?_
   refine wT ?_
   refine zS @cS ?_
   exact W_ret (Ret_bad rfl rfl rfl rfl)
 have hf32 : fs.length ≤ 32 := by omega
 have hr1024 : recs.length ≤ 1024 := by omega
 have d1 : decide ((32 : Int) < (fs.length : Int)) = false := decide_eq_false (by omega)
 have d2 : decide ((1024 : Int) < (recs.length : Int)) = false := decide_eq_false (by omega)
 have c1 := u_fields_calls fs hl hu hn
 refine PCalls_of isuBld (by simp [fnuBld]) ?_
 unfold codeuBld
 refine zS (zA hln (zA hrl (zA d1 d2))) ?_
 refine wFs ?_
 refine zR ?_
 refine cP c1 ?_
 unfold ufR
 cases hnb : namesB (fnmL fs)
 ·have : bldR fs recs = badT 0 8 := by unfold bldR; rw [if_neg h1, if_pos hnb]
  rw [this, if_pos rfl]
  refine zR ?_
  refine wT ?_
  refine zS @cS ?_
  exact W_ret (Ret_bad rfl rfl rfl rfl)
 rw [if_neg (by decide)]
 cases hrd : fs.any fun f => !rdB f
 ·rw [if_neg (by decide)]
  have en : (fs.length : Int).toNat = fs.length := Int.toNat_natCast _
  have hP0 := asmU_zero fs
  have dF : decide (¬ True) = false := rfl
  refine zS dF ?_
  refine wFs ?_
  refine zS (zA hln en) ?_
  rw [hP0]
  have hT0 : (fs.map fun _ => (([], []) : Tx)).length = fs.length := List.length_map _
  refine W_owns 32 (by decide) (asmU (fs.map fun _ => ([], []))) (by rw [asmU_len]; omega) (fun j hj => ?_) ((4, [.int .i64 0, .nils]) :: (32, contO 0 (asmU (fs.map fun _ => ([], [])))) :: DD 0 (asmU (fs.map fun _ => ([], [])))) rfl (fun p hp => ?_) ?_ fs.length 0 (by rw [asmU_len]; omega) _ ?_ (fun p hp => ?_) (fun p hp h3 => ?_)
  ·rw [asmU_len] at hj
   rw [asmU_get hj]
   have : (fs.map fun _ => (([], []) : Tx)).getD j default = ([], []) := by
    rw [List.getD_eq_getElem?_getD, List.getElem?_map, List.getElem?_eq_getElem (by omega)]; rfl
   rw [this]; exact ⟨rfl, rfl⟩
  ·simp only [lkH]
   rw [if_neg (by omega), if_neg (by omega)]
  rotate_left
  ·simp [lkH, contO]
  ·simp only [lkH, List.take_zero, DD]
   rw [if_neg (by omega), if_neg (by omega)]
  ·simp only [lkH]
   by_cases e4 : 4 = p
   ·rw [if_pos e4, if_pos e4]
   ·rw [if_neg e4, if_neg e4, if_neg (by omega), if_neg (by omega), DD_none hp]
  refine zR ?_
  refine W_loop (σ := Nat) (fun i => [(0, .sl 6 (fxs fs)), (1, .sl 1 (recD recs)), (4, .ptr 4 0), (8, .osl 4 32 0 fs.length), (9, .int .i64 i)]) (fun i => (4, [.int .i64 0, .nils]) :: (32, contO 0 (asmU (recR parseQ fs recs i).2)) :: DD 0 (asmU (recR parseQ fs recs i).2)) (fun i => i ≤ recs.length ∧ (recR parseQ fs recs i).1.2 = 0) (fun i => recs.length - i) 0 ⟨Nat.zero_le _, rfl⟩ ?_ rfl ?_
  ·simp [subF, lk]
  ·rintro i ⟨hi, h0⟩
   try simp only at hi h0 ⊢
   have hTl := recR_len parseQ fs recs i
   by_cases hlt : i < recs.length
   ·have dl : decide ((i : Int) < (recs.length : Int)) = true := decide_eq_true (by omega)
    have ei : (i : Int).toNat = i := Int.toNat_natCast i
    have e1 : ((i : Int) + 1) = ((i + 1 : Nat) : Int) := by omega
    have hg := recD_getD hlt
    have hrm := hr _ (memR_getD hlt)
    have hxl := strL_len (recs.getD i [])
    refine zS (zA dl hrl) ?_
    refine wTs ?_
    by_cases hsh : (recs.getD i []).length = fs.length
    ·have dsh : decide (¬ ((recs.getD i []).length : Int) = (fs.length : Int)) = false := decide_eq_false (by omega)
     have hsz := recR_sz parseQ fs recs i
     have hrow := fun {e : Int} => @recR_row parseQ fs recs i h0 hsh e
     have hgood := @recR_good parseQ fs recs i h0 hsh
     generalize hT : (recR parseQ fs recs i).2 = T at *
     generalize hrr : recs.getD i [] = r at *
     refine zS (zA ei (zA hg (zA hrl (zA hxl (zA hln dsh))))) ?_
     refine wFs ?_
     refine zR ?_
     refine W_loop (σ := Nat) (fun k => [(0, .sl 6 (fxs fs)), (1, .sl 1 (recD recs)), (4, .ptr 4 0), (8, .osl 4 32 0 fs.length), (9, .int .i64 i), (10, .int .i64 k)]) (fun k => (4, [.int .i64 0, .nils]) :: (32, contO 0 (asmU (rowR parseQ fs r T k).2)) :: DD 0 (asmU (rowR parseQ fs r T k).2)) (fun k => k ≤ fs.length ∧ (rowR parseQ fs r T k).1 = 0) (fun k => fs.length - k) 0 ⟨Nat.zero_le _, rfl⟩ ?_ rfl ?_
     ·simp [subF, lk]
     ·rintro k ⟨hk, hk0⟩
      try simp only at hk hk0 ⊢
      by_cases hlt2 : k < fs.length
      ·have dl2 : decide ((k : Int) < (fs.length : Int)) = true := decide_eq_true (by omega)
       have ek : (k : Int).toNat = k := Int.toNat_natCast k
       have e2 : ((k : Int) + 1) = ((k + 1 : Nat) : Int) := by omega
       have hw : ((fxs fs).drop (k * 6)).take 6 = fxC (fs.getD k default) := fm_win (j := 0) fxC_len default hlt2 (Nat.le_refl _)
       have hg1 : (fxs fs).getD (k * 6 + 1) .undef = .int .i64 (fs.getD k default).kd := fm_at (j := 1) fxC_len default hlt2 (by decide) .undef
       have hgs := strL_getD (r := r) (j := k) (by omega)
       have hs450 := hrm.2 _ (mem_getD (l := r) (i := k) (by omega))
       have hTk := rowR_len parseQ fs r T k
       have hsk := (rowR_sz parseQ fs r (n := i) (T := T) (fun j hj => hsz j (by omega)) k k (by omega)).1
       have hnx := @rowR_next parseQ fs r T k hk0
       have hbd := fun he => @rowR_bad parseQ fs r T k hk0 he fs.length hlt2
       have hfm := memG hlt2
       generalize (rowR parseQ fs r T k).2 = T2 at *
       have hSl2 : (asmU T2).length = fs.length := by rw [asmU_len]; omega
       have hag := asmU_get (T := T2) (j := k) (by omega)
       have hkS : k < (asmU T2).length := by omega
       generalize fs.getD k default = f at *
       generalize r.getD k [] = s at *
       by_cases k3 : f.kd = 3
       ·have d3 : decide (f.kd = 3) = true := decide_eq_true k3
        rw [colStep_skip k3, set_self] at hnx
        refine zS (zA dl2 hln) ?_
        refine wTs ?_
        refine zS (zA ek (zA hfl (zA hg1 d3))) ?_
        refine wT ?_
        refine W_exit ?_
        refine zS e2 ?_
        exact ⟨k + 1, ⟨by omega, by rw [hnx]⟩, by omega, by simp [subF, lk], by rw [hnx]⟩
       ·have d3 : decide (f.kd = 3) = false := decide_eq_false k3
        rw [colStep_read k3] at hnx hbd
        have hRe : readR parseQ f ((asmU T2).getD k default).le ((asmU T2).getD k default).ce s = readR parseQ f (T2.getD k default).1 (T2.getD k default).2 s := by rw [hag]
        rw [← hRe] at hnx hbd
        have hcr := uCell_rel [] 0 ((asmU T2).getD k default).le ((asmU T2).getD k default).ce f s (hu f hfm) (hm f hfm) hs450 (by rw [hag]; exact Nat.le_trans hsk.1 (by decide)) (by rw [hag]; exact Nat.le_trans hsk.2 (by omega))
        generalize hR : readR parseQ f ((asmU T2).getD k default).le ((asmU T2).getD k default).ce s = R at *
        have hst := asmU_set T2 k R.2
        have hcl := contO_len 0 (asmU T2)
        have hwc : ((contO 0 (asmU T2)).drop (k * 4)).take 4 = colV [] 0 (ai k) (bi k) ((asmU T2).getD k default).le.length ((asmU T2).getD k default).ce.length := by
         have hl : (contO 0 ((asmU T2).take k)).length = k * 4 := by rw [contO_len, List.length_take]; omega
         rw [contO_split 0 (asmU T2) k hkS, List.append_assoc, ← hl, List.drop_left, Nat.zero_add, hag]; rfl
        have hxs : (contX (asmU T2) k).take (k * 4) ++ colV [] 0 (ai k) (bi k) R.2.1.length R.2.2.length ++ (contX (asmU T2) k).drop (k * 4 + 4) = contO 0 (asmU (T2.set k R.2)) := by
         rw [← hst]; exact contX_set hkS (⟨[], 0, R.2.1, R.2.2⟩ : Kx)
        have p4 : purge 11 (.ptr 4 0) = .ptr 4 0 := by simp [purge, DV.has]
        have p11 : purge 11 (.ptr 11 0) = .undef := by simp [purge, DV.has]
        have hxc := contX_len hkS
        have z2 : ∀ d ∈ [DV.int .i64 0, .nils], d.rf = true := by
         intro d hd
         simp only [List.mem_cons, List.not_mem_nil, or_false] at hd
         rcases hd with rfl | rfl <;> rfl
        have z4 : ∀ d ∈ [DV.str [], .int .i64 0, .nils, .nils], d.rf = true := by
         intro d hd
         simp only [List.mem_cons, List.not_mem_nil, or_false] at hd
         rcases hd with rfl | rfl | rfl | rfl <;> rfl
        have hrf := fxC_rf f
        have hrfa : ((fxC f).all DV.rf) = true := List.all_eq_true.2 hrf
        have hcv : ∀ n m, (DV.agg (colV [] 0 (ai k) (bi k) n m)).cells? = some (colV [] 0 (ai k) (bi k) n m) := fun _ _ => rfl
        have hcl4 : ∀ n m, (colV [] 0 (ai k) (bi k) n m).length = 4 := fun _ _ => rfl
        have hct : ∀ n m, (colV [] 0 (ai k) (bi k) n m).take 4 = colV [] 0 (ai k) (bi k) n m := fun _ _ => rfl
        have hD11 : ∀ S, lkH (DD 0 S) 11 = none := fun S => DD_none (by decide)
        have hpD := DD_rmP (o := 11) (by decide) (asmU (T2.set k R.2)) (by rw [asmU_len, List.length_set]; omega)
        have hpC := contO_purge (o := 11) (by decide) 0 (asmU (T2.set k R.2))
        refine zS (zA dl2 hln) ?_
        refine wTs ?_
        refine zS (zA ek (zA hfl (zA hg1 d3))) ?_
        refine wFs ?_
        refine W_seq ?_
        refine W_rego ?_
        rw [regT_pre]
        dsimp only [DT.pre]
        refine zE (zA ek (zA ei (zA hw (zA hfl (zA hrl (zA hg (zA hxl (zA hgs (zA hSl2 (zA hwc hcl)))))))))) ?_
        refine ⟨⟨by omega, by omega⟩, by omega, ⟨by omega, by omega⟩, by omega, ⟨by omega, by omega⟩, by omega, ⟨by omega, by omega⟩, by omega, ?_, ?_⟩
        ·rw [regT_pre]
         dsimp only [DT.pre]
         refine zD ?_
         refine callC_ucol rfl 32 (by decide) (asmU T2) k hkS (by omega) (.agg (fxC f)) (.str s) (by simp [DV.rf_agg, hrfa]) rfl rfl (ucol_DD _ _) (ucol_lo z2) R.1 R.2.1 R.2.2 [] 0 (by rw [hag]) (by rw [hag]) hcr (by simp only [mapF]; rfl) (by simp [lowN, DV.rf]) _ (ucol_H2 _ _ _ _) ?_
         rw [hst]
         refine zE (zA hD11 (zA hcv (zA hcl4 @cS))) ?_
         simp only [regT]
         by_cases he : R.1 = 0
         ·have de : decide (¬ R.1 = 0) = false := by rw [he]; rfl
          refine zS de ?_
          refine wFs ?_
          refine W_reg ?_
          refine zE (zA ek (zA hcl4 (zA hcv (zA hct (zA hxc (zA hSl2 (zA @cS @List.drop_zero.{0}))))))) ?_
          refine ⟨⟨by omega, by omega⟩, by omega, ?_⟩
          rw [hxs]
          refine W_drop 11 ?_
          repeat (first | refine W_seq ?_ | refine W_reg ?_ | refine W_regd ?_ | refine W_regs ?_ | refine W_regp ?_ | refine W_block ?_ | refine And.intro (by omega) ?_ | simp (maxSteps := 1000000) (disch := omega) only [cA, cB, cN, FnD.nb, lk, lkH, Dst.onT, Dst.onX, Dst.slot, setF, setH, mapF, mapH, initF, binE, unE, cnt, boundE, newsE, freshE, freshT, opE, rmH, blkQ, frz_us, Nat.reduceEqDiff, Nat.reduceLT, Nat.reduceAdd, Nat.reduceMul, Nat.reduceMod, ↓reduceIte, reduceCtorEq, Nat.reduceLeDiff, e2, rmP, hpC, hpD, p4, p11])
          exact ⟨k + 1, ⟨by omega, by rw [hnx]; exact he⟩, by omega, by simp [subF, lk, purge, DV.has], by rw [hnx]⟩
         ·have de : decide (¬ R.1 = 0) = true := decide_eq_true he
          have hx := bldR_err h1 hnb hrd hlt he (hrow he (hbd he))
          rw [hx]
          refine zS de ?_
          refine wT ?_
          refine zS (zA @cS e1) ?_
          exact W_ret (Ret_bad rfl rfl rfl rfl)
        ·rw [regT_pre]
         dsimp only [DT.pre]
         refine zE hD11 ?_
         refine callC_ucol rfl 32 (by decide) (asmU T2) k hkS (by omega) (.agg (fxC f)) (.str s) (by simp [DV.rf_agg, hrfa]) rfl rfl (ucol_DD3 _ _ _) (ucol_lo3 z2 z4) R.1 R.2.1 R.2.2 [] 0 (by rw [hag]) (by rw [hag]) hcr (by simp only [mapF]; rfl) (by simp [lowN, DV.rf]) _ (ucol_H3 _ _ _ _ _) ?_
         rw [hst]
         refine zE (zA hD11 (zA hcv (zA hcl4 @cS))) ?_
         simp only [regT]
         by_cases he : R.1 = 0
         ·have de : decide (¬ R.1 = 0) = false := by rw [he]; rfl
          refine zS de ?_
          refine wFs ?_
          refine W_reg ?_
          refine zE (zA ek (zA hcl4 (zA hcv (zA hct (zA hxc (zA hSl2 (zA @cS @List.drop_zero.{0}))))))) ?_
          refine ⟨⟨by omega, by omega⟩, by omega, ?_⟩
          rw [hxs]
          refine W_drop 11 ?_
          repeat (first | refine W_seq ?_ | refine W_reg ?_ | refine W_regd ?_ | refine W_regs ?_ | refine W_regp ?_ | refine W_block ?_ | refine And.intro (by omega) ?_ | simp (maxSteps := 1000000) (disch := omega) only [cA, cB, cN, FnD.nb, lk, lkH, Dst.onT, Dst.onX, Dst.slot, setF, setH, mapF, mapH, initF, binE, unE, cnt, boundE, newsE, freshE, freshT, opE, rmH, blkQ, frz_us, Nat.reduceEqDiff, Nat.reduceLT, Nat.reduceAdd, Nat.reduceMul, Nat.reduceMod, ↓reduceIte, reduceCtorEq, Nat.reduceLeDiff, e2, rmP, hpC, hpD, p4, p11])
          exact ⟨k + 1, ⟨by omega, by rw [hnx]; exact he⟩, by omega, by simp [subF, lk, purge, DV.has], by rw [hnx]⟩
         ·have de : decide (¬ R.1 = 0) = true := decide_eq_true he
          have hx := bldR_err h1 hnb hrd hlt he (hrow he (hbd he))
          rw [hx]
          refine zS de ?_
          refine wT ?_
          refine zS (zA @cS e1) ?_
          exact W_ret (Ret_bad rfl rfl rfl rfl)
      ·have dl2 : decide ((k : Int) < (fs.length : Int)) = false := decide_eq_false (by omega)
       obtain rfl : k = fs.length := by omega
       have hgd := hgood hk0
       refine zS (zA dl2 hln) ?_
       refine W_cond rfl (fun h => by cases h) (fun _ => W_exit ?_)
       refine zS e1 ?_
       exact ⟨i + 1, ⟨by omega, by rw [hgd]⟩, by omega, by simp [subF, lk], by rw [hgd]⟩
    ·have dsh : decide (¬ ((recs.getD i []).length : Int) = (fs.length : Int)) = true := decide_eq_true (by omega)
     have hx := bldR_err h1 hnb hrd hlt (e := 6) (by decide) (recR_shape h0 hsh)
     rw [hx]
     refine zS (zA ei (zA hg (zA hrl (zA hxl (zA hln dsh))))) ?_
     refine wT ?_
     refine zS (zA @cS e1) ?_
     exact W_ret (Ret_bad rfl rfl rfl rfl)
   ·have dl : decide ((i : Int) < (recs.length : Int)) = false := decide_eq_false (by omega)
    obtain rfl : i = recs.length := by omega
    rw [bldR_ok h1 hnb hrd h0]
    generalize (recR parseQ fs recs recs.length).2 = T at *
    have hrfK := kxs_rf (asmU T)
    have hlo : ∀ p, p < 100000 → p ≠ 32 → lkH ((4, [.int .i64 0, .nils]) :: (32, contO 0 (asmU T)) :: DD 0 (asmU T)) p = lkH [(4, [.int .i64 0, .nils]), (32, kxs (asmU T))] p := fun p hp h3 => by
     simp only [lkH]
     by_cases e4 : 4 = p
     ·rw [if_pos e4, if_pos e4]
     ·rw [if_neg e4, if_neg e4, if_neg (by omega), if_neg (by omega), DD_none hp]
    refine W_frzs 32 (by decide) (asmU T) (by rw [asmU_len]; omega) [(4, [.int .i64 0, .nils]), (32, kxs (asmU T))] rfl (fun p hp => ?_) (fun p c hpc => ?_) rfl ?_ fs.length 0 (by rw [asmU_len]; omega) _ ?_ (fun p hp => ?_) hlo
    ·simp only [lkH]
     rw [if_neg (by omega), if_neg (by omega)]
    ·simp only [lkH] at hpc
     split at hpc
     ·cases hpc
      intro d hd
      simp only [List.mem_cons, List.not_mem_nil, or_false] at hd
      rcases hd with rfl | rfl <;> rfl
     ·split at hpc
      ·cases hpc; exact hrfK
      ·cases hpc
    rotate_left
    ·simp [lkH, kxs]
    ·simp only [lkH, List.drop_zero]
     rw [if_neg (by omega), if_neg (by omega)]
    refine W_freeze 32 (cells := kxs (asmU T)) rfl (List.all_eq_true.2 hrfK) ?_
    have hKl : (kxs (asmU T)).length = fs.length * 4 := by rw [kxs_len, asmU_len, hTl]
    have hfz : frz 32 (kxs (asmU T)) (.osl 4 32 0 fs.length) = .sl 4 (kxs (asmU T)) := by
     simp [frz, hKl]
     rw [List.take_of_length_le (by omega)]
    have fp4 : frz 32 (kxs (asmU T)) (.ptr 4 0) = .ptr 4 0 := by simp [frz, purge, DV.has]
    refine zS (zA dl (zA hrl (zA hfz fp4))) ?_
    refine W_cond rfl (fun h => by cases h) (fun _ => W_exit ?_)
    refine zS (zA hrl @cS) ?_
    refine W_ownc 13 1 4 300 rfl rfl (by simp [lkH]) ?_
    refine zS @cS ?_
    have hkz : kept fs T 0 = [] := rfl
    refine W_loop (σ := Nat) (fun i => [(0, .sl 6 (fxs fs)), (4, .ptr 4 0), (8, .sl 4 (kxs (asmU T))), (13, .ptr 13 0), (14, .int .i64 i)]) (fun i => [(4, [.int .i64 0, .nils]), (13, [.int .i64 recs.length, .osl 4 300 0 (kept fs T i).length]), (300, kxs (kept fs T i))]) (fun i => i ≤ fs.length) (fun i => fs.length - i) 0 (Nat.zero_le _) ?_ rfl ?_
    ·simp [subF, lk]
    ·intro i hi
     try simp only at hi ⊢
     have hKi := kept_len fs T i
     have hKx := kxs_len (kept fs T i)
     by_cases hlt : i < fs.length
     ·have dl : decide ((i : Int) < (fs.length : Int)) = true := decide_eq_true (by omega)
      have ei : (i : Int).toNat = i := Int.toNat_natCast i
      have e1 : ((i : Int) + 1) = ((i + 1 : Nat) : Int) := by omega
      have hg0 : (fxs fs).getD (i * 6) .undef = .str (fs.getD i default).nm := fm_at (j := 0) fxC_len default hlt (by decide) .undef
      have hg1 : (fxs fs).getD (i * 6 + 1) .undef = .int .i64 (fs.getD i default).kd := fm_at (j := 1) fxC_len default hlt (by decide) .undef
      have hag := asmU_get (T := T) (j := i) (by omega)
      have hg2 : (kxs (asmU T)).getD (i * 4 + 2) .undef = .sl 1 (strL (T.getD i default).1) := by
       have := fm_at (j := 2) kxC_len default (l := asmU T) (i := i) (by rw [asmU_len]; omega) (by decide) .undef
       rw [hag] at this; exact this
      have hg3 : (kxs (asmU T)).getD (i * 4 + 3) .undef = .sl 5 (cxs (T.getD i default).2) := by
       have := fm_at (j := 3) kxC_len default (l := asmU T) (i := i) (by rw [asmU_len]; omega) (by decide) .undef
       rw [hag] at this; exact this
      have hky := @kept_yes fs T i
      have hkn := @kept_no fs T i
      have hsn : kxs (kept fs T i) ++ [.str (fs.getD i default).nm, .int .i64 (fs.getD i default).kd, .sl 1 (strL (T.getD i default).1), .sl 5 (cxs (T.getD i default).2)] = kxs (kept fs T i ++ [mkK (fs.getD i default) (T.getD i default)]) := fm_snoc (f := kxC) (kept fs T i) (mkK (fs.getD i default) (T.getD i default))
      have hpn := map_purge 300 (kxs_rf (kept fs T i ++ [mkK (fs.getD i default) (T.getD i default)]))
      generalize fs.getD i default = f at *
      generalize T.getD i default = t at *
      by_cases k3 : f.kd = 3
      ·have d3 : decide (¬ f.kd = 3) = false := by rw [k3]; rfl
       refine zS (zA dl hln) ?_
       refine wTs ?_
       refine zS (zA ei (zA hfl (zA hg1 d3))) ?_
       refine wFs ?_
       refine zS e1 ?_
       exact ⟨i + 1, by omega, by omega, by simp [subF, lk], by rw [hkn k3]⟩
      ·have d3 : decide (¬ f.kd = 3) = true := decide_eq_true k3
       have hlk : laid [DV.str [], .int .i64 0, .nils, .nils] [(0, 1, .str f.nm), (1, 1, .int .i64 f.kd), (2, 1, .sl 1 (strL t.1)), (3, 1, .sl 5 (cxs t.2))] = some [.str f.nm, .int .i64 f.kd, .sl 1 (strL t.1), .sl 5 (cxs t.2)] := rfl
       have hl4 : laid [DV.str [], .int .i64 0, .nils, .nils] [(0, 4, .agg [.str f.nm, .int .i64 f.kd, .sl 1 (strL t.1), .sl 5 (cxs t.2)])] = some [.str f.nm, .int .i64 f.kd, .sl 1 (strL t.1), .sl 5 (cxs t.2)] := rfl
       have p4 : purge 300 (.ptr 4 0) = .ptr 4 0 := by simp [purge, DV.has]
       have p13 : ∀ z, purge 300 (.ptr 13 z) = .ptr 13 z := fun z => by simp [purge, DV.has]
       refine zS (zA dl hln) ?_
       refine wTs ?_
       refine zS (zA ei (zA hfl (zA hg1 d3))) ?_
       refine wT ?_
       refine zS (zA ei (zA hfl (zA hg0 (zA hg1 (zA hKl (zA hg2 (zA hg3 (zA @cS (zA hlk hl4))))))))) ?_
       refine ⟨fun d hd => ?_, ⟨hKx, by omega, by omega, fun h => h, fun d hd => ?_⟩, ?_⟩
       ·exact kxC_rf (mkK f t) d hd
       ·exact kxC_one (mkK f t) d hd
       refine zS (zA p4 (zA p13 (zA hsn hpn))) ?_
       refine ⟨rfl, ?_⟩
       refine zS e1 ?_
       exact ⟨i + 1, by omega, by omega, by simp [subF, lk], by rw [hky k3, List.length_append]; rfl⟩
     ·have dl : decide ((i : Int) < (fs.length : Int)) = false := decide_eq_false (by omega)
      obtain rfl : i = fs.length := by omega
      have hke : kept fs T fs.length = tabK fs T := kept_end fs T
      rw [hke] at hKx ⊢
      refine W_freeze 300 (cells := kxs (tabK fs T)) rfl (List.all_eq_true.2 (kxs_rf _)) ?_
      have hf3 : frz 300 (kxs (tabK fs T)) (.osl 4 300 0 (tabK fs T).length) = .sl 4 (kxs (tabK fs T)) := by
       simp [frz, hKx]
       rw [List.take_of_length_le (by omega)]
      have fp4 : frz 300 (kxs (tabK fs T)) (.ptr 4 0) = .ptr 4 0 := by simp [frz, purge, DV.has]
      have fp13 : frz 300 (kxs (tabK fs T)) (.ptr 13 0) = .ptr 13 0 := by simp [frz, purge, DV.has]
      refine zS (zA dl (zA hln (zA hf3 (zA fp4 fp13)))) ?_
      refine W_cond rfl (fun h => by cases h) (fun _ => W_exit ?_)
      refine zS @cS ?_
      refine W_ret ?_
      refine RetP_ctt rfl rfl rfl (.imm rfl) (.imm rfl) (.imm rfl)
 ·rw [if_pos rfl]
  have : bldR fs recs = badT 0 4 := by unfold bldR; rw [if_neg h1, hnb, if_neg (by decide), if_pos hrd]
  rw [this]
  refine zR ?_
  refine wT ?_
  refine zS @cS ?_
  exact W_ret (Ret_bad rfl rfl rfl rfl)
end Go.Proofs.YtjahkcgckiobkaaGreatDoor
namespace Go.Proofs.YtjahkcgckiobkaaGreatDoor
open Go Go.Dat Go.Proofs Go.RowKit Go.Shelf Nat32
theorem pFraction_calls (a b : Int) (ha : a.natAbs ≤ 1000000) (hb : b ≠ 0) (hb2 : b.natAbs ≤ 1000000) : PCalls Tryz.prog 39 [.int .i64 a, .int .i64 b] (Q (Rat.divInt a b)) := by
 have c1 := sFromInt_calls a (by omega) (by omega)
 have c2 := sFromInt_calls b (by omega) (by omega)
 have il1 : ∀ z : Int, z.natAbs ≤ 1000000 → il z ≤ 900 := fun z hz => Nat.le_trans (limbs_len.2 (show z.natAbs < 4294967296 ^ 1 by omega)) (by decide)
 have c3 := p_over_calls a b hb (il1 a ha) (il1 b hb2)
 refine PCalls_of ispFraction (by simp [fnpFraction]) ?_
 unfold codepFraction
 generalize Rat.divInt a b = r at *
 have hx3 : (xnC (qX r)).length = 3 := rfl
 have hcc : (Q r).cells? = some (xnC (qX r)) := rfl
 repeat (first | refine zP ?_ | refine cP c1 ?_ | refine cP c2 ?_ | refine cP c3 ?_ | exact zT)
 refine zS (zA hcc (zA hx3 @cS)) ?_
 exact W_ret (RetP_c rfl rfl rfl (.imm rfl))
def strsB (l : List Bs) : Bool := decide (l.length ≤ 40) && l.all fun s => decide (s.length ≤ 60)
theorem all_yes {α : Type} [Inhabited α] {p : α → Bool} {l : List α} (h : ∀ j, j < l.length → p (l.getD j default) = true) : l.all p = true := by
 rw [List.all_eq_true]
 intro x hx
 obtain ⟨i, hi, rfl⟩ := List.getElem_of_mem hx
 have := h i hi
 rw [List.getD_eq_getElem?_getD, List.getElem?_eq_getElem hi] at this
 simpa using this
theorem all_no {α : Type} [Inhabited α] {p : α → Bool} {l : List α} {i : Nat} (hi : i < l.length) (h : p (l.getD i default) = false) : l.all p = false := by
 rw [List.all_eq_false]
 exact ⟨_, memG hi, by rw [h]; decide⟩
theorem lt_strings_calls (l : List Bs) (hl : l.length ≤ 9223372036854775807) (hs : ∀ s ∈ l, s.length ≤ 9223372036854775807) : PCalls Tryz.prog 22 [.sl 1 (strL l)] (.bool (strsB l)) := by
 have hll := strL_len l
 refine PCalls_of islt_strings (by simp [fnlt_strings]) ?_
 unfold codelt_strings strsB
 by_cases h : l.length ≤ 40
 ·have d1 : decide ((40 : Int) < (l.length : Int)) = false := decide_eq_false (by omega)
  rw [decide_eq_true h, Bool.true_and]
  refine zS (zA hll d1) ?_
  refine wFs ?_
  refine zR ?_
  refine W_loop (σ := Nat) (fun i => [(0, .sl 1 (strL l)), (3, .int .i64 i)]) (fun _ => []) (fun i => i ≤ l.length ∧ ∀ j, j < i → (l.getD j []).length ≤ 60) (fun i => l.length - i) 0 ⟨Nat.zero_le _, by simp⟩ ?_ rfl ?_
  ·simp [subF, lk]
  ·rintro i ⟨hi, hall⟩
   try simp only at hi hall ⊢
   by_cases hlt : i < l.length
   ·have dl : decide ((i : Int) < (l.length : Int)) = true := decide_eq_true (by omega)
    have ei : (i : Int).toNat = i := Int.toNat_natCast i
    have e1 : ((i : Int) + 1) = ((i + 1 : Nat) : Int) := by omega
    have hg := strL_getD hlt
    by_cases hc : (l.getD i []).length ≤ 60
    ·have dc : decide ((60 : Int) < ((l.getD i []).length : Int)) = false := decide_eq_false (by omega)
     refine zS (zA dl hll) ?_
     refine wTs ?_
     refine zS (zA ei (zA hll (zA hg dc))) ?_
     refine wFs ?_
     refine zS e1 ?_
     exact ⟨i + 1, ⟨by omega, fun j hj => by
      rcases Nat.lt_or_ge j i with h2 | h2
      ·exact hall j h2
      ·obtain rfl : j = i := by omega
       exact hc⟩, by omega, by simp [subF, lk]⟩
    ·have dc : decide ((60 : Int) < ((l.getD i []).length : Int)) = true := decide_eq_true (by omega)
     rw [all_no (p := fun s : Bs => decide (s.length ≤ 60)) hlt (decide_eq_false hc)]
     refine zS (zA dl hll) ?_
     refine wTs ?_
     refine zS (zA ei (zA hll (zA hg dc))) ?_
     refine wT ?_
     refine zR ?_
     exact W_ret (RetP_1 (.imm rfl))
   ·have dl : decide ((i : Int) < (l.length : Int)) = false := decide_eq_false (by omega)
    rw [all_yes (p := fun s : Bs => decide (s.length ≤ 60)) fun j hj => decide_eq_true (hall j (by omega))]
    refine zS (zA dl hll) ?_
    refine W_cond rfl (fun h => by cases h) (fun _ => W_exit ?_)
    refine zR ?_
    exact W_ret (RetP_1 (.imm rfl))
 ·have d1 : decide ((40 : Int) < (l.length : Int)) = true := decide_eq_true (by omega)
  rw [decide_eq_false h, Bool.false_and]
  refine zS (zA hll d1) ?_
  refine wT ?_
  refine zR ?_
  exact W_ret (RetP_1 (.imm rfl))
def recsB (l : List (List Bs)) : Bool := decide (l.length ≤ 40) && l.all strsB
theorem lt_records_calls (l : List (List Bs)) (hl : l.length ≤ 9223372036854775807) (hs : ∀ r ∈ l, r.length ≤ 9223372036854775807 ∧ ∀ s ∈ r, s.length ≤ 9223372036854775807) : PCalls Tryz.prog 11 [.sl 1 (recD l)] (.bool (recsB l)) := by
 have hll := recD_len l
 refine PCalls_of islt_records (by simp [fnlt_records]) ?_
 unfold codelt_records recsB
 by_cases h : l.length ≤ 40
 ·have d1 : decide ((40 : Int) < (l.length : Int)) = false := decide_eq_false (by omega)
  rw [decide_eq_true h, Bool.true_and]
  refine zS (zA hll d1) ?_
  refine wFs ?_
  refine zR ?_
  refine W_loop (σ := Nat) (fun i => [(0, .sl 1 (recD l)), (3, .int .i64 i)]) (fun _ => []) (fun i => i ≤ l.length ∧ ∀ j, j < i → strsB (l.getD j []) = true) (fun i => l.length - i) 0 ⟨Nat.zero_le _, by simp⟩ ?_ rfl ?_
  ·simp [subF, lk]
  ·rintro i ⟨hi, hall⟩
   try simp only at hi hall ⊢
   by_cases hlt : i < l.length
   ·have dl : decide ((i : Int) < (l.length : Int)) = true := decide_eq_true (by omega)
    have ei : (i : Int).toNat = i := Int.toNat_natCast i
    have e1 : ((i : Int) + 1) = ((i + 1 : Nat) : Int) := by omega
    have hg := recD_getD hlt
    have hm := hs _ (memR_getD hlt)
    have cs := lt_strings_calls (l.getD i []) hm.1 hm.2
    refine zS (zA dl hll) ?_
    refine wTs ?_
    refine zS (zA ei (zA hll hg)) ?_
    refine cP cs ?_
    cases hc : strsB (l.getD i [])
    ·rw [all_no (p := strsB) hlt hc]
     refine zR ?_
     refine wT ?_
     refine zR ?_
     exact W_ret (RetP_1 (.imm rfl))
    ·refine zR ?_
     refine wFs ?_
     refine zS e1 ?_
     exact ⟨i + 1, ⟨by omega, fun j hj => by
      rcases Nat.lt_or_ge j i with h2 | h2
      ·exact hall j h2
      ·obtain rfl : j = i := by omega
       exact hc⟩, by omega, by simp [subF, lk]⟩
   ·have dl : decide ((i : Int) < (l.length : Int)) = false := decide_eq_false (by omega)
    rw [all_yes (p := strsB) fun j hj => hall j (by omega)]
    refine zS (zA dl hll) ?_
    refine W_cond rfl (fun h => by cases h) (fun _ => W_exit ?_)
    refine zR ?_
    exact W_ret (RetP_1 (.imm rfl))
 ·have d1 : decide ((40 : Int) < (l.length : Int)) = true := decide_eq_true (by omega)
  rw [decide_eq_false h, Bool.false_and]
  refine zS (zA hll d1) ?_
  refine wT ?_
  refine zR ?_
  exact W_ret (RetP_1 (.imm rfl))
def ligX (x : XN) : Bool := lightB x.2.1 x.2.2
def fldB (f : Fx) : Bool := decide (f.nm.length ≤ 60) && strsB f.ms && ligX f.un
def fldsB (l : List Fx) : Bool := decide (l.length ≤ 40) && l.all fldB
theorem lt_fields_calls (l : List Fx) (hl : l.length ≤ 9223372036854775807) (hs : ∀ f ∈ l, f.ms.length ≤ 9223372036854775807 ∧ ∀ s ∈ f.ms, s.length ≤ 9223372036854775807) : PCalls Tryz.prog 10 [.sl 6 (fxs l)] (.bool (fldsB l)) := by
 have hln : (fxs l).length / 6 = l.length := by rw [fxs_len]; omega
 have hlen := fxs_len l
 refine PCalls_of islt_fields (by simp [fnlt_fields]) ?_
 unfold codelt_fields fldsB
 by_cases h : l.length ≤ 40
 ·have d1 : decide ((40 : Int) < (l.length : Int)) = false := decide_eq_false (by omega)
  rw [decide_eq_true h, Bool.true_and]
  refine zS (zA hln d1) ?_
  refine wFs ?_
  refine zR ?_
  refine W_loop (σ := Nat) (fun i => [(0, .sl 6 (fxs l)), (3, .int .i64 i)]) (fun _ => []) (fun i => i ≤ l.length ∧ ∀ j, j < i → fldB (l.getD j default) = true) (fun i => l.length - i) 0 ⟨Nat.zero_le _, by simp⟩ ?_ rfl ?_
  ·simp [subF, lk]
  ·rintro i ⟨hi, hall⟩
   try simp only at hi hall ⊢
   by_cases hlt : i < l.length
   ·have dl : decide ((i : Int) < (l.length : Int)) = true := decide_eq_true (by omega)
    have ei : (i : Int).toNat = i := Int.toNat_natCast i
    have e1 : ((i : Int) + 1) = ((i + 1 : Nat) : Int) := by omega
    have hg0 : (fxs l).getD (i * 6) .undef = .str (l.getD i default).nm := fm_at (j := 0) fxC_len default hlt (by decide) .undef
    have hg2 : (fxs l).getD (i * 6 + 2) .undef = .sl 1 (strL (l.getD i default).ms) := fm_at (j := 2) fxC_len default hlt (by decide) .undef
    have hg3 : ((fxs l).drop (i * 6 + 3)).take 3 = xnC (l.getD i default).un := fm_win (j := 3) fxC_len default hlt (by decide)
    have hm := hs _ (memG hlt)
    have cs := lt_strings_calls (l.getD i default).ms hm.1 hm.2
    have cl : PCalls Tryz.prog 38 [.agg (xnC (l.getD i default).un)] (.bool (ligX (l.getD i default).un)) := mdLight_calls (l.getD i default).un.1 (l.getD i default).un.2.1 (l.getD i default).un.2.2
    have hno := fun h => all_no (p := fldB) hlt h
    have hnx : fldB (l.getD i default) = true → ∀ j, j < i + 1 → fldB (l.getD j default) = true := fun h j hj => by
     rcases Nat.lt_or_ge j i with h2 | h2
     ·exact hall j h2
     ·obtain rfl : j = i := by omega
      exact h
    generalize l.getD i default = f at *
    have hxr : List.all (xnC f.un) DV.rf = true := rfl
    refine zS (zA dl hln) ?_
    refine wTs ?_
    by_cases hc : f.nm.length ≤ 60
    ·have dc : decide ((60 : Int) < (f.nm.length : Int)) = false := decide_eq_false (by omega)
     refine zS (zA ei (zA hlen (zA hg0 (zA hg2 dc)))) ?_
     refine cP cs ?_
     cases hb : strsB f.ms
     ·have hf : fldB f = false := by unfold fldB; rw [hb]; simp
      rw [hno hf]
      refine zR ?_
      refine wT ?_
      refine zR ?_
      exact W_ret (RetP_1 (.imm rfl))
     ·refine zS (zA ei (zA hlen hg3)) ?_
      refine cP cl ?_
      cases hb2 : ligX f.un
      ·have hf : fldB f = false := by unfold fldB; rw [hb2]; simp
       rw [hno hf]
       refine zR ?_
       refine wT ?_
       refine zR ?_
       exact W_ret (RetP_1 (.imm rfl))
      ·have hf : fldB f = true := by unfold fldB; rw [hb, hb2, decide_eq_true hc]; rfl
       refine zR ?_
       refine wFs ?_
       refine zS e1 ?_
       exact ⟨i + 1, ⟨by omega, hnx hf⟩, by omega, by simp [subF, lk]⟩
    ·have dc : decide ((60 : Int) < (f.nm.length : Int)) = true := decide_eq_true (by omega)
     have hf : fldB f = false := by unfold fldB; rw [decide_eq_false hc]; simp
     rw [hno hf]
     refine zS (zA ei (zA hlen (zA hg0 (zA hg2 dc)))) ?_
     refine wT ?_
     refine zR ?_
     exact W_ret (RetP_1 (.imm rfl))
   ·have dl : decide ((i : Int) < (l.length : Int)) = false := decide_eq_false (by omega)
    rw [all_yes (p := fldB) fun j hj => hall j (by omega)]
    refine zS (zA dl hln) ?_
    refine W_cond rfl (fun h => by cases h) (fun _ => W_exit ?_)
    refine zR ?_
    exact W_ret (RetP_1 (.imm rfl))
 ·have d1 : decide ((40 : Int) < (l.length : Int)) = true := decide_eq_true (by omega)
  rw [decide_eq_false h, Bool.false_and]
  refine zS (zA hln d1) ?_
  refine wT ?_
  refine zR ?_
  exact W_ret (RetP_1 (.imm rfl))
end Go.Proofs.YtjahkcgckiobkaaGreatDoor
namespace Go.Proofs.YtjahkcgckiobkaaGreatDoor
open Go Go.Dat Go.Proofs Go.RowKit Nat32
theorem call_b1 : Callable Tryz.prog 43 := ⟨_, Tryz.func43, by kernel_rfl, by kernel_rfl⟩
theorem call_b2 : Callable Tryz.prog 47 := ⟨_, Tryz.func47, by kernel_rfl, by kernel_rfl⟩
set_option maxHeartbeats 4000000 in
theorem tBld_calls (fs : List Fx) (recs : List (List Bs)) (hl : fs.length ≤ 1000000) (hl2 : recs.length ≤ 1000000) (hu : ∀ f ∈ fs, okN0 f.un) (hm : ∀ f ∈ fs, f.ms.length ≤ 1000000) (hn : ∀ f ∈ fs, f.nm.length ≤ 9223372036854775807)
  (hr : ∀ r ∈ recs, r.length ≤ 1000000 ∧ ∀ s ∈ r, s.length ≤ 450) : PCalls Tryz.prog 13 [.sl 6 (fxs fs), .sl 1 (recD recs)] (bldR fs recs) := by
 by_cases h1 : 32 < fs.length ∨ 1024 < recs.length
 ·have : bldR fs recs = badT 0 2 := by unfold bldR; rw [if_pos h1]
  rw [this]; exact tBuild_limit fs recs hl hl2 h1
 have hf32 : fs.length ≤ 32 := by omega
 have hr1024 : recs.length ≤ 1024 := by omega
 have hln : (fxs fs).length / 6 = fs.length := by rw [fxs_len]; omega
 have hrl := recD_len recs
 have hfl := fxs_len fs
 have d1 : decide ((32 : Int) < (fs.length : Int)) = false := decide_eq_false (by omega)
 have d2 : decide ((1024 : Int) < (recs.length : Int)) = false := decide_eq_false (by omega)
 have c1 := tFieldNames_calls fs hl
 have c2 := tNames_calls (fnmL fs) (by rw [fnmL_len]; omega) (fun s hs => by
  unfold fnmL at hs
  obtain ⟨f, hf, rfl⟩ := List.mem_map.1 hs
  exact hn f hf)
 have c3 := slCFField_calls fs hl (fun f => !rdB f) (.fn 43) 43 [] (.inr ⟨rfl, rfl⟩) rfl rfl call_b1 (fun f hf => tBuild1_calls f (hu f hf))
 refine PCalls_of istBld (by simp [fntBld]) ?_
 unfold codetBld
 refine zS (zA hln (zA hrl (zA d1 d2))) ?_
 refine wFs ?_
 refine zR ?_
 refine cP c1 ?_
 refine zR ?_
 refine cP c2 ?_
 cases hnb : namesB (fnmL fs)
 ·have : bldR fs recs = badT 0 8 := by unfold bldR; rw [if_neg h1, if_pos hnb]
  rw [this]
  refine zR ?_
  refine wT ?_
  refine zS @cS ?_
  exact W_ret (Ret_bad rfl rfl rfl rfl)
 refine zR ?_
 refine wFs ?_
 refine zR ?_
 refine cP c3 ?_
 cases hrd : fs.any fun f => !rdB f
 ·have en : (fs.length : Int).toNat = fs.length := Int.toNat_natCast _
  have hP0 := P1_zero fs
  refine zR ?_
  refine wFs ?_
  refine zS (zA hln en) ?_
  rw [hP0]
  refine zS hln ?_
  refine W_loop (σ := Nat) (fun i => [(0, .sl 6 (fxs fs)), (1, .sl 1 (recD recs)), (4, .ptr 4 0), (5, .int .i64 0), (6, .int .i64 0), (7, .osl 4 34 0 fs.length), (35, .sl 6 (fxs fs)), (36, .int .i64 fs.length), (37, .int .i64 i)]) (fun i => [(4, [.int .i64 0, .nils]), (34, nilC (P1 fs i))]) (fun i => i ≤ fs.length) (fun i => fs.length - i) 0 (Nat.zero_le _) ?_ rfl ?_
  ·simp [subF, lk]
  ·intro i hi
   try simp only at hi ⊢
   by_cases hlt : i < fs.length
   ·have dl : decide ((i : Int) < (fs.length : Int)) = true := decide_eq_true (by omega)
    have ei : (i : Int).toNat = i := Int.toNat_natCast i
    have e1 : ((i : Int) + 1) = ((i + 1 : Nat) : Int) := by omega
    have hw : ((fxs fs).drop (i * 6)).take 6 = fxC (fs.getD i default) := fm_win (j := 0) fxC_len default hlt (Nat.le_refl _)
    have hpl := P1_len (fs := fs) (i := i) hi
    have hnl := nilC_len (P1 fs i)
    have hst := nilC_set (S := P1 fs i) (i := i) (fs.getD i default).nm (fs.getD i default).kd (by omega)
    have hnx : nilC ((P1 fs i).set i ⟨(fs.getD i default).nm, (fs.getD i default).kd, [], []⟩) = nilC (P1 fs (i + 1)) := congrArg nilC (P1_next hlt)
    rw [hnx] at hst
    have hf9 := map_frz 9 (fxC (fs.getD i default)) (nilC_one (P1 fs (i + 1)))
    have hcc : (DV.agg (fxC (fs.getD i default))).cells? = some (fxC (fs.getD i default)) := rfl
    have hcl := fxC_len (fs.getD i default)
    have htf : (fxC (fs.getD i default)).take 6 = fxC (fs.getD i default) := rfl
    have hg0 : (fxC (fs.getD i default)).getD 0 .undef = .str (fs.getD i default).nm := rfl
    have hg1 : (fxC (fs.getD i default)).getD 1 .undef = .int .i64 (fs.getD i default).kd := rfl
    have hrf := fxC_rf (fs.getD i default)
    have hrfa : ((fxC (fs.getD i default)).all DV.rf) = true := List.all_eq_true.2 hrf
    generalize (fs.getD i default).nm = nm at *
    generalize (fs.getD i default).kd = kd at *
    generalize fxC (fs.getD i default) = C at *
    repeat (first | refine W_seq ?_ | refine W_reg ?_ | refine W_regd ?_ | refine W_regs ?_ | refine W_regp ?_ | refine W_block ?_ | refine And.intro (by omega) ?_ | simp (maxSteps := 1000000) (disch := omega) only [cA, cB, cN, FnD.nb, lk, lkH, Dst.onT, Dst.onX, Dst.slot, setF, setH, mapF, mapH, initF, binE, unE, cnt, boundE, newsE, freshE, freshT, opE, rmH, blkQ, frz_us, Nat.reduceEqDiff, Nat.reduceLT, Nat.reduceAdd, Nat.reduceMul, Nat.reduceMod, ↓reduceIte, reduceCtorEq, Nat.reduceLeDiff, dl])
    refine wTs ?_
    refine W_seq ?_
    refine W_block ?_
    refine W_seq ?_
    refine W_reg ?_
    simp (maxSteps := 1000000) (disch := omega) only [cA, cB, cN, FnD.nb, lk, lkH, Dst.onT, Dst.onX, Dst.slot, setF, setH, mapF, mapH, initF, binE, unE, cnt, boundE, newsE, freshE, freshT, opE, rmH, blkQ, frz_us, Nat.reduceEqDiff, Nat.reduceLT, Nat.reduceAdd, Nat.reduceMul, Nat.reduceMod, ↓reduceIte, reduceCtorEq, Nat.reduceLeDiff, ei, hw, hfl, hcc, hcl, htf, List.drop_zero, cS]
    refine ⟨⟨by omega, by omega⟩, by omega, ?_⟩
    refine W_reg ?_
    simp (maxSteps := 1000000) (disch := omega) only [cA, cB, cN, FnD.nb, lk, lkH, Dst.onT, Dst.onX, Dst.slot, setF, setH, mapF, mapH, initF, binE, unE, cnt, boundE, newsE, freshE, freshT, opE, rmH, blkQ, frz_us, Nat.reduceEqDiff, Nat.reduceLT, Nat.reduceAdd, Nat.reduceMul, Nat.reduceMod, ↓reduceIte, reduceCtorEq, Nat.reduceLeDiff, ei, hw, hfl, hcc, hcl, htf, List.drop_zero, cS, hg0, hg1, hnl, hpl]
    refine ⟨⟨by omega, by omega⟩, by omega, ?_⟩
    rw [hst]
    refine W_freeze 9 (cells := C) rfl hrfa ?_
    refine zS (zA e1 hf9) ?_
    exact ⟨i + 1, by omega, by omega, by simp [subF, lk, frz_osl_ne, frz, purge, DV.has], by simp [rmH, frz, purge, DV.has, hf9]⟩
   ·have dl : decide ((i : Int) < (fs.length : Int)) = false := decide_eq_false (by omega)
    obtain rfl : i = fs.length := by omega
    rw [P1_end]
    have hS0 : (asm fs (fs.map fun _ => ([], []))).length = fs.length := asm_len _ _
    refine W_owns 34 (by decide) (asm fs (fs.map fun _ => ([], []))) (by omega) (fun j hj => ?_) ((4, [.int .i64 0, .nils]) :: (34, contO 0 (asm fs (fs.map fun _ => ([], [])))) :: DD 0 (asm fs (fs.map fun _ => ([], [])))) rfl (fun p hp => ?_) ?_ fs.length 0 (by omega) _ ?_ (fun p hp => ?_) (fun p hp h3 => ?_)
    ·rw [asm_get (by omega)]
     have : (fs.map fun _ => (([], []) : Tx)).getD j default = ([], []) := by
      rw [List.getD_eq_getElem?_getD, List.getElem?_map, List.getElem?_eq_getElem (by omega)]; rfl
     rw [this]; exact ⟨rfl, rfl⟩
    ·simp only [lkH]
     rw [if_neg (by omega), if_neg (by omega)]
    rotate_left
    ·simp [lkH, contO]
    ·simp only [lkH, List.take_zero, DD]
     rw [if_neg (by omega), if_neg (by omega)]
    ·simp only [lkH]
     by_cases e4 : 4 = p
     ·rw [if_pos e4, if_pos e4]
     ·rw [if_neg e4, if_neg e4, if_neg (by omega), if_neg (by omega), DD_none hp]
    refine zS dl ?_
    refine W_cond rfl (fun h => by cases h) (fun _ => W_exit ?_)
    refine zS hrl ?_
    refine W_loop (σ := Nat) (fun i => [(0, .sl 6 (fxs fs)), (1, .sl 1 (recD recs)), (4, .ptr 4 0), (5, .int .i64 0), (6, .int .i64 0), (7, .osl 4 34 0 fs.length), (51, .sl 1 (recD recs)), (52, .int .i64 recs.length), (53, .int .i64 i)]) (fun i => (4, [.int .i64 0, .nils]) :: (34, contO 0 (asm fs (recR parseQ fs recs i).2)) :: DD 0 (asm fs (recR parseQ fs recs i).2)) (fun i => i ≤ recs.length ∧ (recR parseQ fs recs i).1.2 = 0) (fun i => recs.length - i) 0 ⟨Nat.zero_le _, rfl⟩ ?_ rfl ?_
    ·simp [subF, lk]
    ·rintro i ⟨hi, h0⟩
     try simp only at hi h0 ⊢
     have hSl : (asm fs (recR parseQ fs recs i).2).length = fs.length := asm_len _ _
     by_cases hlt : i < recs.length
     ·have dl : decide ((i : Int) < (recs.length : Int)) = true := decide_eq_true (by omega)
      have ei : (i : Int).toNat = i := Int.toNat_natCast i
      have e1 : ((i : Int) + 1) = ((i + 1 : Nat) : Int) := by omega
      have hg := recD_getD hlt
      have hrm := hr _ (memR_getD hlt)
      have hxl := strL_len (recs.getD i [])
      refine zS dl ?_
      refine wTs ?_
      refine zS (zA ei (zA hg hrl)) ?_
      by_cases hsh : (recs.getD i []).length = fs.length
      ·have dsh : decide (¬ ((recs.getD i []).length : Int) = (fs.length : Int)) = false := decide_eq_false (by omega)
       have hTl := recR_len parseQ fs recs i
       have hsz := recR_sz parseQ fs recs i
       have hrow := fun {e : Int} => @recR_row parseQ fs recs i h0 hsh e
       have hgood := @recR_good parseQ fs recs i h0 hsh
       generalize hT : (recR parseQ fs recs i).2 = T at *
       generalize hrr : recs.getD i [] = r at *
       refine zS (zA hxl (zA hln dsh)) ?_
       refine wFs ?_
       refine zS hln ?_
       refine W_loop (σ := Nat) (fun k => [(0, .sl 6 (fxs fs)), (1, .sl 1 (recD recs)), (4, .ptr 4 0), (5, .int .i64 0), (6, .int .i64 0), (7, .osl 4 34 0 fs.length), (10, .int .i64 i), (11, .sl 1 (strL r)), (51, .sl 1 (recD recs)), (52, .int .i64 recs.length), (53, .int .i64 i), (66, .sl 6 (fxs fs)), (67, .int .i64 fs.length), (68, .int .i64 k)]) (fun k => (4, [.int .i64 0, .nils]) :: (34, contO 0 (asm fs (rowR parseQ fs r T k).2)) :: DD 0 (asm fs (rowR parseQ fs r T k).2)) (fun k => k ≤ fs.length ∧ (rowR parseQ fs r T k).1 = 0) (fun k => fs.length - k) 0 ⟨Nat.zero_le _, rfl⟩ ?_ rfl ?_
       ·simp [subF, lk]
       ·rintro k ⟨hk, hk0⟩
        try simp only at hk hk0 ⊢
        by_cases hlt2 : k < fs.length
        ·have dl2 : decide ((k : Int) < (fs.length : Int)) = true := decide_eq_true (by omega)
         have ek : (k : Int).toNat = k := Int.toNat_natCast k
         have e2 : ((k : Int) + 1) = ((k + 1 : Nat) : Int) := by omega
         have hw : ((fxs fs).drop (k * 6)).take 6 = fxC (fs.getD k default) := fm_win (j := 0) fxC_len default hlt2 (Nat.le_refl _)
         have hgs := strL_getD (r := r) (j := k) (by omega)
         have hs450 := hrm.2 _ (mem_getD (l := r) (i := k) (by omega))
         have hTk := rowR_len parseQ fs r T k
         have hsk := (rowR_sz parseQ fs r (n := i) (T := T) (fun j hj => hsz j (by omega)) k k (by omega)).1
         have hnx := @rowR_next parseQ fs r T k hk0
         have hbd := fun he => @rowR_bad parseQ fs r T k hk0 he fs.length hlt2
         have hfm := memG hlt2
         generalize (rowR parseQ fs r T k).2 = T2 at *
         have hSl2 : (asm fs T2).length = fs.length := asm_len _ _
         have hag := asm_get (fs := fs) (T := T2) hlt2
         have hset := fun t => asm_set (fs := fs) (T := T2) (k := k) t (by omega)
         have hSS : (asm fs T2).length ≤ 1000 := by omega
         have hkS : k < (asm fs T2).length := by omega
         generalize fs.getD k default = f at *
         generalize r.getD k [] = s at *
         have hDok := DD_ok 0 (asm fs T2) (by omega)
         have hD13 : lkH (DD 0 (asm fs T2)) 13 = none := DD_none (by omega)
         have hcr := tRead_rel (contO 0 ((asm fs T2).take k)) (contO (k + 1) ((asm fs T2).drop (k + 1))) (drp (ai k) (bi k) (DD 0 (asm fs T2))) ((asm fs T2).getD k default).nm ((asm fs T2).getD k default).kd ((asm fs T2).getD k default).le ((asm fs T2).getD k default).ce f s (drp_ok hDok) (nb_ok hkS).1 (nb_ok hkS).2 (hu f hfm) (hm f hfm) hs450 (by rw [hag]; exact Nat.le_trans hsk.1 (by decide)) (by rw [hag]; exact Nat.le_trans hsk.2 (by omega))
         have hst : ∀ R : Int × List Bs × List Tc, (asm fs T2).set k ⟨((asm fs T2).getD k default).nm, ((asm fs T2).getD k default).kd, R.2.1, R.2.2⟩ = asm fs (T2.set k R.2) := fun R => by rw [hset, hag]; rfl
         have hRe : readR parseQ f ((asm fs T2).getD k default).le ((asm fs T2).getD k default).ce s = readR parseQ f (T2.getD k default).1 (T2.getD k default).2 s := by rw [hag]; rfl
         have hcc : (DV.agg (fxC f)).cells? = some (fxC f) := rfl
         have hcl := fxC_len f
         have htf : (fxC f).take 6 = fxC f := rfl
         have hg1 : (fxC f).getD 1 .undef = .int .i64 f.kd := rfl
         have hrf := fxC_rf f
         have hrfa : ((fxC f).all DV.rf) = true := List.all_eq_true.2 hrf
         have hcf := fun S => contO_frz (o := 13) (by decide) (fxC f) 0 S
         have hrD := fun (S : List Kx) (h : S.length ≤ 1000) => (DD_ok 0 S (by omega)).rm (o := 13) (by decide) (fxC f)
         have z2 : ∀ d ∈ [DV.int .i64 0, .nils], d.rf = true := by
          intro d hd
          simp only [List.mem_cons, List.not_mem_nil, or_false] at hd
          rcases hd with rfl | rfl <;> rfl
         generalize hC : fxC f = C at *
         by_cases k3 : f.kd = 3
         ·have d3 : decide (f.kd = 3) = true := decide_eq_true k3
          rw [colStep_skip k3, set_self] at hnx
          have hrD0 := hrD _ hSS
          refine zS dl2 ?_
          refine wTs ?_
          refine zS (zA ek (zA hw (zA hfl (zA hcc (zA hcl (zA htf (zA @List.drop_zero.{0} (zA @cS (zA hg1 (zA hD13 d3)))))))))) ?_
          refine wT ?_
          refine W_freeze 13 (cells := C) rfl hrfa ?_
          refine W_exit ?_
          refine zS (zA e2 (zA hcf hrD0)) ?_
          exact ⟨k + 1, ⟨by omega, by rw [hnx]⟩, by omega, by simp [subF, lk, frz, purge, DV.has], by rw [hnx]⟩
         ·have d3 : decide (f.kd = 3) = false := decide_eq_false k3
          rw [colStep_read k3, ← hRe] at hnx hbd
          refine zS dl2 ?_
          refine wTs ?_
          refine zS (zA ek (zA hw (zA hfl (zA hcc (zA hcl (zA htf (zA @List.drop_zero.{0} (zA @cS (zA hg1 (zA hD13 d3)))))))))) ?_
          refine wFs ?_
          refine zS (zA ek (zA hw (zA hcc (zA hcl (zA htf (zA @List.drop_zero.{0} (zA @cS (zA hgs (zA hxl (zA hSl2 (zA @List.take_succ_cons.{0} (zA @List.take_zero.{0} @List.drop_succ_cons.{0})))))))))))) ?_
          generalize hR : readR parseQ f ((asm fs T2).getD k default).le ((asm fs T2).getD k default).ce s = R at *
          refine callC_col rfl (asm fs T2) k hkS hSS (.agg C) (.str s) (by simp [DV.rf_agg, hrfa]) rfl rfl (col_DD _ _ _) (col_lo z2 hrf) R.1 R.2.1 R.2.2 _ (by omega) hcr (by simp [lowN, DV.rf_agg, hrfa]; exact ⟨rfl, rfl, rfl, rfl, rfl⟩) (by simp [lowN, DV.rf]) _ (col_H2 _ _ _ _) ?_
          rw [hst]
          have hRD := hrD (asm fs (T2.set k R.2)) (by rw [asm_len]; omega)
          by_cases he : R.1 = 0
          ·have de : decide (¬ R.1 = 0) = false := by rw [he]; rfl
           refine zS de ?_
           refine wFs ?_
           refine W_freeze 13 (cells := C) rfl hrfa ?_
           refine zS (zA e2 (zA hcf hRD)) ?_
           exact ⟨k + 1, ⟨by omega, by rw [hnx]; exact he⟩, by omega, by simp [subF, lk, frz, purge, DV.has], by rw [hnx]⟩
          ·have de : decide (¬ R.1 = 0) = true := decide_eq_true he
           have hx := bldR_err h1 hnb hrd hlt he (hrow he (hbd he))
           rw [hx]
           refine zS de ?_
           refine wT ?_
           refine zS (zA @cS e1) ?_
           exact W_ret (Ret_bad rfl rfl rfl rfl)
        ·have dl2 : decide ((k : Int) < (fs.length : Int)) = false := decide_eq_false (by omega)
         obtain rfl : k = fs.length := by omega
         have hgd := hgood hk0
         refine zS dl2 ?_
         refine W_cond rfl (fun h => by cases h) (fun _ => W_exit ?_)
         refine zS e1 ?_
         exact ⟨i + 1, ⟨by omega, by rw [hgd]⟩, by omega, by simp [subF, lk], by rw [hgd]⟩
      ·have dsh : decide (¬ ((recs.getD i []).length : Int) = (fs.length : Int)) = true := decide_eq_true (by omega)
       have hx := bldR_err h1 hnb hrd hlt (e := 6) (by decide) (recR_shape h0 hsh)
       rw [hx]
       refine zS (zA hxl (zA hln dsh)) ?_
       refine wT ?_
       refine zS (zA @cS e1) ?_
       exact W_ret (Ret_bad rfl rfl rfl rfl)
     ·have dl : decide ((i : Int) < (recs.length : Int)) = false := decide_eq_false (by omega)
      obtain rfl : i = recs.length := by omega
      rw [bldR_ok h1 hnb hrd h0]
      generalize (recR parseQ fs recs recs.length).2 = T at *
      have hrfK := kxs_rf (asm fs T)
      have hlo : ∀ p, p < 100000 → p ≠ 34 → lkH ((4, [.int .i64 0, .nils]) :: (34, contO 0 (asm fs T)) :: DD 0 (asm fs T)) p = lkH [(4, [.int .i64 0, .nils]), (34, kxs (asm fs T))] p := fun p hp h3 => by
       simp only [lkH]
       by_cases e4 : 4 = p
       ·rw [if_pos e4, if_pos e4]
       ·rw [if_neg e4, if_neg e4, if_neg (by omega), if_neg (by omega), DD_none hp]
      refine W_frzs 34 (by decide) (asm fs T) (by omega) [(4, [.int .i64 0, .nils]), (34, kxs (asm fs T))] rfl (fun p hp => ?_) (fun p c hpc => ?_) rfl ?_ fs.length 0 (by omega) _ ?_ (fun p hp => ?_) hlo
      ·simp only [lkH]
       rw [if_neg (by omega), if_neg (by omega)]
      ·simp only [lkH] at hpc
       split at hpc
       ·cases hpc
        intro d hd
        simp only [List.mem_cons, List.not_mem_nil, or_false] at hd
        rcases hd with rfl | rfl <;> rfl
       ·split at hpc
        ·cases hpc; exact hrfK
        ·cases hpc
      rotate_left
      ·simp [lkH, kxs]
      ·simp only [lkH, List.drop_zero]
       rw [if_neg (by omega), if_neg (by omega)]
      refine zS dl ?_
      refine W_cond rfl (fun h => by cases h) (fun _ => W_exit ?_)
      have cd := slDFCol_rel (asm fs T) (by omega) (fun x => decide (x.kd = 3)) (.fn 47) 47 (.inr ⟨rfl, rfl⟩) rfl call_b2 tBuild2_calls
      rw [hSl] at cd
      refine zS hrl ?_
      have hfe : ((asm fs T).filter fun x => !decide (x.kd = 3)) = tabK fs T := by
       unfold tabK
       congr 1
       funext x
       by_cases hx : x.kd = 3 <;> simp [hx]
      rw [hfe] at cd
      generalize kxs (tabK fs T) = X at *
      refine callC_mv1 rfl 34 4 fs.length (.fn 47) (.sl 4 X) (by decide) rfl hrfK rfl rfl cd [(4, [.int .i64 recs.length, .nils])] (fun p => ?_) ?_
      ·simp only [lkH]
       by_cases e4 : 4 = p
       ·subst e4; simp [rn]
       ·rw [if_neg e4, if_neg e4]
        by_cases e5 : p = 34
        ·rw [if_pos e5]
        ·rw [if_neg e5, if_neg (Ne.symm e5)]; rfl
      simp only [mapF, rn, gout, Nat.reduceEqDiff, if_true, if_false]
      refine zS @cS ?_
      refine W_ret ?_
      refine RetP_ctt rfl rfl rfl (.imm rfl) (.imm rfl) (.imm rfl)
 ·have : bldR fs recs = badT 0 4 := by unfold bldR; rw [if_neg h1, hnb, if_neg (by decide), if_pos hrd]
  rw [this]
  refine zR ?_
  refine wT ?_
  refine zS @cS ?_
  exact W_ret (Ret_bad rfl rfl rfl rfl)
end Go.Proofs.YtjahkcgckiobkaaGreatDoor
namespace Go.Proofs.YtjahkcgckiobkaaGreatDoor
open Go Go.Dat Go.Proofs Go.RowKit Go.Shelf Nat32
def exF1 : Fx := ⟨[120], 1, [[78, 65]], qX (Rat.divInt 1 100)⟩
def exF2 : Fx := ⟨[103], 2, [], (false, [], [])⟩
def exR : List (List Bs) := [[[50, 53, 48], [97]], [[78, 65], [98]]]
def exC1 : List Tc := [⟨false, qX (Rat.divInt 5 2), 0⟩, ⟨true, (false, [], []), 0⟩]
def exC2 : List Tc := [⟨false, (false, [], []), 0⟩, ⟨false, (false, [], []), 1⟩]
def exK : List DV := [.str [120], .int .i64 1, .sl 1 (strL []), .sl 5 (cxs exC1), .str [103], .int .i64 2, .sl 1 (strL [[97], [98]]), .sl 5 (cxs exC2)]
theorem ex_bld : bldR [exF1, exF2] exR = .tup [.agg [.int .i64 2, .sl 4 exK], .int .i64 0, .int .i64 0] := by
 rw [bldR_ok (by decide) (by kernel_rfl) (by kernel_rfl) (by kernel_rfl)]
 have e : (recR parseQ [exF1, exF2] exR exR.length).2 = [([], exC1), ([[97], [98]], exC2)] := by kernel_rfl
 rw [e]
 rfl
theorem ex_lim (x : Rat) (h : RB x 10) : okN0 (qX x) := ⟨lim_limbs _, lim_dn _, Nat.le_trans h.1 (by decide), Nat.le_trans (RB_dn h) (by decide)⟩
theorem ex_build : PCalls Tryz.prog 13 [.sl 6 (fxC exF1 ++ [.str [103], .int .i64 2, .nils, .bool false, .nils, .nils]), .sl 1 [.sl 1 [.str [50, 53, 48], .str [97]], .sl 1 [.str [78, 65], .str [98]]]] (.tup [.agg [.int .i64 2, .sl 4 exK], .int .i64 0, .int .i64 0]) := by
 rw [← ex_bld]
 refine PCalls_wk (ds' := [.sl 6 (fxs [exF1, exF2]), .sl 1 (recD exR)]) (.cons (WkD.sl 6 (WkL.app (WkL.refl _) ?_)) (.cons (WkD.refl _) .nil)) (tBld_calls [exF1, exF2] exR (by decide) (by decide) ?_ ?_ ?_ ?_)
 ·exact .cons (WkD.refl _) (.cons (WkD.refl _) (.cons (WkD.nils 1) (.cons (WkD.refl _) (.cons (WkD.nils 1) (.cons (WkD.nils 1) .nil)))))
 ·intro f hf
  simp only [List.mem_cons, List.not_mem_nil, or_false] at hf
  rcases hf with rfl | rfl
  ·exact ex_lim _ (by unfold RB; decide +kernel)
  ·show okN0 ((false, [], []) : XN)
   exact ⟨fun x hx => absurd hx List.not_mem_nil, fun x hx => absurd hx List.not_mem_nil, Nat.zero_le _, Nat.zero_le _⟩
 ·intro f hf
  simp only [List.mem_cons, List.not_mem_nil, or_false] at hf
  rcases hf with rfl | rfl <;> decide
 ·intro f hf
  simp only [List.mem_cons, List.not_mem_nil, or_false] at hf
  rcases hf with rfl | rfl <;> decide
 ·intro r hr
  simp only [exR, List.mem_cons, List.not_mem_nil, or_false] at hr
  rcases hr with rfl | rfl
  ·refine ⟨by decide, fun s hs => ?_⟩
   simp only [List.mem_cons, List.not_mem_nil, or_false] at hs
   rcases hs with rfl | rfl <;> decide
  ·refine ⟨by decide, fun s hs => ?_⟩
   simp only [List.mem_cons, List.not_mem_nil, or_false] at hs
   rcases hs with rfl | rfl <;> decide
theorem lt_awake_calls : PCalls Tryz.prog 12 [] (.bool true) := by
 have c1 := pFraction_calls 1 100 (by decide) (by decide) (by decide)
 have c2 := pFraction_calls 5 2 (by decide) (by decide) (by decide)
 have c3 := ex_build
 have c4 : PCalls Tryz.prog 20 [Q (Rat.divInt 5 2), Q (Rat.divInt 5 2)] (.bool true) := by
  have := pSameL (Rat.divInt 5 2) (Rat.divInt 5 2) (by unfold RB; decide +kernel) (by unfold RB; decide +kernel)
  rwa [decide_eq_true rfl] at this
 have h1 : laid [.str [], .int .i64 0, .nils, .bool false, .nils, .nils] [(0, 1, .str [120]), (1, 1, .int .i64 1), (2, 1, .sl 1 [.str [78, 65]]), (3, 3, Q (Rat.divInt 1 100))] = some (fxC exF1) := rfl
 have h2 : laid [.str [], .int .i64 0, .nils, .bool false, .nils, .nils] [(0, 1, .str [103]), (1, 1, .int .i64 2)] = some [.str [103], .int .i64 2, .nils, .bool false, .nils, .nils] := rfl
 have h3 : laid [.str [], .int .i64 0, .nils, .bool false, .nils, .nils, .str [], .int .i64 0, .nils, .bool false, .nils, .nils] [(0, 6, .agg (fxC exF1)), (6, 6, .agg [.str [103], .int .i64 2, .nils, .bool false, .nils, .nils])] = some (fxC exF1 ++ [.str [103], .int .i64 2, .nils, .bool false, .nils, .nils]) := rfl
 have h4 : ∀ a b : List DV, laid [.nils, .nils] [(0, 1, .sl 1 a), (1, 1, .sl 1 b)] = some [.sl 1 a, .sl 1 b] := fun _ _ => rfl
 have h5 : ∀ a b : Bs, laid [.str [], .str []] [(0, 1, .str a), (1, 1, .str b)] = some [.str a, .str b] := fun _ _ => rfl
 have h6 : ∀ a : Bs, laid [.str []] [(0, 1, .str a)] = some [.str a] := fun _ => rfl
 generalize hA : fxC exF1 ++ [.str [103], .int .i64 2, .nils, .bool false, .nils, .nils] = A at *
 have hAr : ∀ d ∈ A, d.rf = true := by rw [← hA]; exact List.all_eq_true.1 rfl
 have k3 : exK.getD 3 .undef = .sl 5 (cxs exC1) := rfl
 obtain ⟨Y, hY⟩ : ∃ Y : List DV, Y = [.str [97], .str [98]] := ⟨_, rfl⟩
 have k6 : exK.getD 6 .undef = .sl 1 Y := by rw [hY]; rfl
 have yl : Y.length = 2 := by rw [hY]; rfl
 have kl : exK.length = 8 := rfl
 have x1 : ((cxs exC1).drop 1).take 3 = xnC (qX (Rat.divInt 5 2)) := rfl
 have x5 : (cxs exC1).getD 5 .undef = .bool true := rfl
 have xl : (cxs exC1).length = 10 := rfl
 have hq : DV.agg (xnC (qX (Rat.divInt 5 2))) = Q (Rat.divInt 5 2) := rfl
 generalize exK = K at *
 generalize cxs exC1 = C at *
 generalize xnC (qX (Rat.divInt 5 2)) = X at *
 refine PCalls_of islt_awake (by simp [fnlt_awake]) ?_
 unfold codelt_awake
 refine zS h6 ?_
 refine ⟨List.all_eq_true.1 rfl, ?_⟩
 refine cP c1 ?_
 refine zS (zA h1 (zA h2 (zA h3 (zA h4 h5)))) ?_
 repeat refine ⟨List.all_eq_true.1 rfl, ?_⟩
 refine cP c3 ?_
 have dT : decide True = true := rfl
 have e84 : 8 / 4 = 2 := rfl
 have e105 : 10 / 5 = 2 := rfl
 have c22 : ((2 : Nat) : Int) = 2 := rfl
 have t0 : (0 : Int).toNat = 0 := rfl
 have t1 : (1 : Int).toNat = 1 := rfl
 refine zS (zA @cS (zA k3 (zA k6 (zA kl (zA x1 (zA x5 (zA xl (zA yl (zA hq (zA dT (zA e84 (zA e105 (zA c22 (zA t0 (zA t1 (zA @Nat.zero_mul (zA @Nat.zero_add @Nat.one_mul))))))))))))))))) ?_
 refine cP c2 ?_
 refine zS (zA @cS (zA k3 (zA k6 (zA kl (zA x1 (zA x5 (zA xl (zA yl (zA hq (zA dT (zA e84 (zA e105 (zA c22 (zA t0 (zA t1 (zA @Nat.zero_mul (zA @Nat.zero_add @Nat.one_mul))))))))))))))))) ?_
 refine cP c4 ?_
 refine zS (zA @cS (zA k3 (zA k6 (zA kl (zA x1 (zA x5 (zA xl (zA yl (zA hq (zA dT (zA e84 (zA e105 (zA c22 (zA t0 (zA t1 (zA @Nat.zero_mul (zA @Nat.zero_add @Nat.one_mul))))))))))))))))) ?_
 exact W_ret (RetP_1 (.imm rfl))
theorem strsB_spec {l : List Bs} (h : strsB l = true) : l.length ≤ 40 ∧ ∀ s ∈ l, s.length ≤ 60 := by
 unfold strsB at h
 simp only [Bool.and_eq_true, decide_eq_true_eq, List.all_eq_true] at h
 exact h
theorem recsB_spec {l : List (List Bs)} (h : recsB l = true) : l.length ≤ 40 ∧ ∀ r ∈ l, r.length ≤ 40 ∧ ∀ s ∈ r, s.length ≤ 60 := by
 unfold recsB at h
 simp only [Bool.and_eq_true, decide_eq_true_eq, List.all_eq_true] at h
 exact ⟨h.1, fun r hr => strsB_spec (h.2 r hr)⟩
end Go.Proofs.YtjahkcgckiobkaaGreatDoor
namespace Go.Proofs.YtjahkcgckiobkaaGreatDoor
open Go Go.Dat Go.Proofs Go.RowKit Nat32
theorem law_of {f : Nat} {ds : List DV} {vs : Array Value} {w : World} (hc : PCalls Tryz.prog f ds (.bool true)) (hT : Tab Tryz.prog w) (hs : vs.size = ds.length) (hv : ∀ (k : Nat) d v, ds[k]? = some d → vs[k]? = some v → VI w (fun _ => False) d v) :
  Calls Tryz.prog f vs w fun e w' => e = .returned (.bool true) ∧ Below w.heap.size w w' := by
 refine (hc (fun _ => False) w vs hT (fun b h => h.elim) hs hv).mono ?_
 rintro e w' ⟨v, rfl, hvi, hx⟩
 refine ⟨?_, hx.os, hx.tape, hx.output, hx.size, fun k hk => hx.block k hk id⟩
 cases hvi; rfl
theorem max_shaped {w : World} (h : w.ShapedOpen Tryz.prog) : ∀ g, Tryz.prog.globalNamed maxName = some g → g < w.heap.size ∧ ∃ m, w.cell? ⟨g, 0, none⟩ = some (.int .i64 m) := by
 intro g hg
 rw [show Tryz.prog.globalNamed maxName = some 1 by kernel_rfl] at hg
 cases hg
 obtain ⟨m, hm⟩ := Go.Proofs.cell_of_shapedOpen_int (zero := #[.int .i64 0]) (t := 3) (g := 1) h (of_decide_eq_true (by kernel_rfl)) (by kernel_rfl) rfl (by kernel_rfl) (by kernel_rfl) Tryz.underlying3
 exact ⟨World.block_lt_of_cell? w _ hm, m, hm⟩
theorem tab_shaped {w : World} (h : w.ShapedOpen Tryz.prog) : Tab Tryz.prog w := by
 refine ⟨fun g hg => ?_, max_shaped h⟩
 rw [show Tryz.prog.globalNamed tabName = none by kernel_rfl] at hg
 cases hg
theorem handed_and_shaped {H : Type} {enc : TypeId × Value → H} {a : Assume} {C : Checked} {os : Os} {f : FuncId} {fn : Func} {s : ChangeSpec} {conds : List PathCond} {apart fresh handsOn again : Bool} {X : World → Array Value → Prop}
  (hX : ∀ (w w' : World) (args : Array Value), w.heap = w'.heap → X w args → X w' args)
  (own : ownKnob C.prog.godebug = none) (started : os.Started) (noInit : C.prog.inits.idxOf? f = none) (hfn : C.prog.funcs[f]? = some fn)
  (witness : ∃ (w : World) (tape : Tape) (i : Input), w.os = os ∧ (w.forCall tape i).Shaped C.prog ∧ i.vars = [] ∧ Input.okWide C.prog (w.forCall tape i) .any w.heap.size f i ∧
   ((s.pre enc C.prog fn conds apart (w.forCall tape i).memory i.args ∧ X (w.forCall tape i).memory i.args) ∧ sizedMet enc C.prog fn (OpenSpec.ofChange s) apart (w.forCall tape i).memory i.args) ∧ a.holds C.prog (lone (Frame.enter C.prog f i.args .normal) [] (w.forCall tape i)))
  (contract : ∀ (W : World) (base : Nat) (args : Array Value) (ds gs : List (DataW H)) (before : List MemPlace),
   (∀ (j : Nat) t v, fn.params[j]? = some t → args[j]? = some v → Value.okWide C.prog W .any base t v) →
   DataW.Whole enc C.prog fn.params.toList s.vars apart W args.toList ds gs before → X W args → W.ShapedOpen C.prog →
   Calls C.prog f args W fun e W' => ∃ v, e = .returned v ∧ s.post enc C.prog fn apart fresh handsOn again W args v W') :
  ReturnsInHanded a C os f .any (fun w args => (s.pre enc C.prog fn conds apart w args ∧ X w args) ∧ sizedMet enc C.prog fn (OpenSpec.ofChange s) apart w args) (s.post enc C.prog fn apart fresh handsOn again) := by
 refine returnsInHanded_of_calls own started noInit witness ?_
 intro w tape i _ hsh _ hok hpre _
 obtain ⟨_, _, _, fn', hfn', _, _, _, _, hval⟩ := hok
 obtain rfl : fn' = fn := Option.some.inj (hfn'.symm.trans hfn)
 obtain ⟨⟨⟨ds, gs, before, hw, _⟩, hx⟩, _⟩ := hpre
 refine (contract (w.forCall tape i) w.heap.size i.args ds gs before hval (DataW.Whole.of_heap (w' := w.forCall tape i) (by rfl) hw) (hX _ _ _ (by rfl) hx) hsh).mono ?_
 rintro e W' ⟨v, rfl, hp⟩
 exact ChangeSpec.post_blind hp
theorem lst_D {α : Type} {t : Ty} {f : α → List DV} {p : α → Prop} (hf : ∀ z, IsD t z → ∃ a, p a ∧ z = f a) : ∀ {zs : List (List DV)}, (∀ z ∈ zs, IsD t z) → ∃ l : List α, l.length = zs.length ∧ zs.flatten = l.flatMap f ∧ ∀ a ∈ l, p a
 | [], _ => ⟨[], rfl, rfl, fun a h => by cases h⟩
 | z :: zs, h => by
  obtain ⟨l, h1, h2, h3⟩ := lst_D hf (zs := zs) fun y hy => h y (List.mem_cons_of_mem _ hy)
  obtain ⟨a, g1, g2⟩ := hf z (h z List.mem_cons_self)
  refine ⟨a :: l, by simp [h1], by rw [List.flatten_cons, h2, g2]; rfl, fun x hx => ?_⟩
  rcases List.mem_cons.1 hx with rfl | hx
  ·exact g1
  ·exact h3 x hx
theorem strL_fm (l : List Bs) : l.flatMap (fun s => [DV.str s]) = strL l := by
 induction l with
 | nil => rfl
 | cons s l ih => rw [List.flatMap_cons, ih]; rfl
def okStrs (l : List Bs) : Prop := l.length ≤ 9223372036854775807 ∧ ∀ s ∈ l, s.length ≤ 9223372036854775807
theorem strs_D {zs : List (List DV)} (h : ∀ z ∈ zs, IsD .str z) (hl : zs.length ≤ 9223372036854775807) : ∃ l : List Bs, zs.flatten = strL l ∧ okStrs l := by
 obtain ⟨l, h1, h2, h3⟩ := lst_D (f := fun s : Bs => [DV.str s]) (p := fun s => s.length ≤ 9223372036854775807) (fun z hz => by obtain ⟨s, g1, g2⟩ := hz; exact ⟨s, g1, g2⟩) h
 exact ⟨l, by rw [h2, strL_fm], by rw [h1]; exact hl, h3⟩
theorem strs_D1 {z : List DV} (h : IsD (.sl .str) z) : ∃ l : List Bs, okStrs l ∧ z = [.sl 1 (strL l)] := by
 obtain ⟨zs, h1, h2, rfl⟩ := h
 obtain ⟨l, e, h3⟩ := strs_D h1 h2
 exact ⟨l, h3, by rw [e]; rfl⟩
theorem recs_D {zs : List (List DV)} (h : ∀ z ∈ zs, IsD (.sl .str) z) (hl : zs.length ≤ 9223372036854775807) : ∃ l : List (List Bs), zs.flatten = recD l ∧ l.length ≤ 9223372036854775807 ∧ ∀ r ∈ l, okStrs r := by
 obtain ⟨l, h1, h2, h3⟩ := lst_D (f := fun r : List Bs => [DV.sl 1 (strL r)]) (p := okStrs) (fun z hz => strs_D1 hz) h
 refine ⟨l, ?_, by rw [h1]; exact hl, h3⟩
 rw [h2]
 clear h1 h2 h3
 induction l with
 | nil => rfl
 | cons s l ih => rw [List.flatMap_cons, ih]; rfl
def okXN (x : XN) : Prop := lim x.2.1 ∧ lim x.2.2 ∧ x.2.1.length ≤ 9223372036854775807 ∧ x.2.2.length ≤ 9223372036854775807
theorem xn_D {z : List DV} (h : IsD ratT z) : ∃ x : XN, okXN x ∧ z = xnC x := by
 obtain ⟨neg, a, d, h1, h2, h3, h4, rfl⟩ := h.rat
 exact ⟨(neg, a, d), ⟨h1, h2, h3, h4⟩, rfl⟩
def fldT : Ty := .pair .str (.pair (.int .i64) (.pair (.sl .str) (.pair ratT .unit)))
def okFld (f : Fx) : Prop := f.nm.length ≤ 9223372036854775807 ∧ okStrs f.ms ∧ okXN f.un
theorem fld_D {z : List DV} (h : IsD fldT z) : ∃ f : Fx, okFld f ∧ z = fxC f := by
 obtain ⟨d0, r0, ⟨s, g0, rfl⟩, ⟨d1, r1, ⟨n, _, rfl⟩, ⟨d2, r2, h2, ⟨d3, r3, h3, hu, rfl⟩, rfl⟩, rfl⟩, rfl⟩ := h
 rw [show r3 = [] from hu]
 obtain ⟨l, k1, rfl⟩ := strs_D1 h2
 obtain ⟨x, k2, rfl⟩ := xn_D h3
 exact ⟨⟨s, n, l, x⟩, ⟨g0, k1, k2⟩, rfl⟩
theorem flds_D {zs : List (List DV)} (h : ∀ z ∈ zs, IsD fldT z) (hl : zs.length ≤ 9223372036854775807) : ∃ l : List Fx, zs.flatten = fxs l ∧ l.length ≤ 9223372036854775807 ∧ ∀ f ∈ l, okFld f := by
 obtain ⟨l, h1, h2, h3⟩ := lst_D (f := fxC) (p := okFld) (fun z hz => fld_D hz) h
 exact ⟨l, h2, by rw [h1]; exact hl, h3⟩
def okK (k : Kx) : Prop := k.le.length ≤ 1000000 ∧ k.ce.length ≤ 1000000 ∧ ∀ c ∈ k.ce, okU c.va
end Go.Proofs.YtjahkcgckiobkaaGreatDoor
namespace Go.Proofs.YtjahkcgckiobkaaGreatDoor
open Go Go.Dat Go.Proofs Go.RowKit Go.Shelf Nat32
theorem fldsB_spec {l : List Fx} (h : fldsB l = true) (hx : ∀ f ∈ l, okXN f.un) : l.length ≤ 40 ∧ ∀ f ∈ l, f.nm.length ≤ 60 ∧ (f.ms.length ≤ 40 ∧ ∀ s ∈ f.ms, s.length ≤ 60) ∧ okN0 f.un ∧ f.un.2.1.length ≤ 8 ∧ f.un.2.2.length ≤ 8 := by
 unfold fldsB at h
 simp only [Bool.and_eq_true, decide_eq_true_eq, List.all_eq_true] at h
 refine ⟨h.1, fun f hf => ?_⟩
 have h1 := h.2 f hf
 unfold fldB ligX at h1
 simp only [Bool.and_eq_true, decide_eq_true_eq] at h1
 obtain ⟨⟨k1, k2⟩, k3⟩ := h1
 have k4 := lightB_spec k3
 have k5 := hx f hf
 exact ⟨k1, strsB_spec k2, ⟨k5.1, k5.2.1, Nat.le_trans k4.1 (by decide), Nat.le_trans k4.2 (by decide)⟩, k4⟩
theorem readR_ok (f : Fx) (hu : okN0 f.un ∧ f.un.2.1.length ≤ 8 ∧ f.un.2.2.length ≤ 8) (lv : List Bs) (ce : List Tc) (s : Bs) (hs : s.length ≤ 450) (h : ∀ c ∈ ce, okU c.va) : ∀ c ∈ (readR parseQ f lv ce s).2.2, okU c.va := by
 have hz : okU (false, [], []) := ⟨0, by unfold RB; decide +kernel, qX_0.symm⟩
 have key : ∀ c : Tc, okU c.va → ∀ x ∈ ce ++ [c], okU x.va := fun c hc x hx => by
  rcases List.mem_append.1 hx with hx | hx
  ·exact h x hx
  ·rw [List.mem_singleton.1 hx]; exact hc
 unfold readR
 split
 ·exact key _ hz
 ·split
  ·split
   ·exact h
   ·rename_i x hx
    refine key _ ⟨x * xnV f.un, ?_, rfl⟩
    have h1 := parseQ_RB1 hs hx
    have h2 : RB (xnV f.un) 8 := RB_rv hu.1.1 hu.1.2.1 hu.2.1 hu.2.2 (by decide)
    exact (RB_mul h1 h2).mono (by decide)
  ·split
   ·split
    ·exact h
    ·exact key _ hz
   ·exact key _ hz
theorem rowR_ok {fs : List Fx} (hu : ∀ f ∈ fs, okN0 f.un ∧ f.un.2.1.length ≤ 8 ∧ f.un.2.2.length ≤ 8) {r : List Bs} (hr : ∀ s ∈ r, s.length ≤ 450) {T : List Tx} (h : ∀ t ∈ T, ∀ c ∈ t.2, okU c.va) : ∀ k, k ≤ fs.length → ∀ t ∈ (rowR parseQ fs r T k).2, ∀ c ∈ t.2, okU c.va
 | 0, _ => h
 | k + 1, hk => by
  have ih := rowR_ok hu hr h k (by omega)
  simp only [rowR]
  split
  ·exact ih
  ·intro t ht
   rcases List.mem_or_eq_of_mem_set ht with ht | rfl
   ·exact ih t ht
   ·have hT : ∀ c ∈ ((rowR parseQ fs r T k).2.getD k default).2, okU c.va := by
     rw [List.getD_eq_getElem?_getD]
     cases hg : (rowR parseQ fs r T k).2[k]? with
     | none => intro c hc; cases hc
     | some t => exact ih t (List.mem_of_getElem? hg)
    unfold colStep
    split
    ·exact hT
    ·refine readR_ok _ (hu _ (memG (by omega))) _ _ _ ?_ hT
     by_cases hkr : k < r.length
     ·exact hr _ (mem_getD hkr)
     ·rw [List.getD_eq_getElem?_getD, List.getElem?_eq_none (by omega)]; exact Nat.zero_le _
theorem recR_ok {fs : List Fx} (hu : ∀ f ∈ fs, okN0 f.un ∧ f.un.2.1.length ≤ 8 ∧ f.un.2.2.length ≤ 8) {recs : List (List Bs)} (hr : ∀ r ∈ recs, ∀ s ∈ r, s.length ≤ 450) : ∀ i, i ≤ recs.length → ∀ t ∈ (recR parseQ fs recs i).2, ∀ c ∈ t.2, okU c.va
 | 0, _ => by
  intro t ht c hc
  simp only [recR] at ht
  obtain ⟨_, _, rfl⟩ := List.mem_map.1 ht
  cases hc
 | i + 1, hi => by
  have ih := recR_ok hu hr i (by omega)
  simp only [recR]
  split
  ·exact ih
  ·split
   ·exact ih
   ·split
    ·exact ih
    ·exact rowR_ok hu (hr _ (memR_getD (by omega))) ih _ (Nat.le_refl _)
theorem bldR_form {fs : List Fx} (hl : fs.length ≤ 40) (hu : ∀ f ∈ fs, okN0 f.un ∧ f.un.2.1.length ≤ 8 ∧ f.un.2.2.length ≤ 8) {recs : List (List Bs)} (hl2 : recs.length ≤ 40) (hr : ∀ r ∈ recs, ∀ s ∈ r, s.length ≤ 450) :
  ∃ (n : Int) (K : List Kx) (row e : Int), bldR fs recs = .tup [.agg [.int .i64 n, .sl 4 (kxs K)], .int .i64 row, .int .i64 e] ∧ K.length ≤ 1000000 ∧ ∀ k ∈ K, okK k := by
 have bad : ∀ row e : Int, ∃ (n : Int) (K : List Kx) (row' e' : Int), badT row e = .tup [.agg [.int .i64 n, .sl 4 (kxs K)], .int .i64 row', .int .i64 e'] ∧ K.length ≤ 1000000 ∧ ∀ k ∈ K, okK k := fun row e => ⟨0, [], row, e, rfl, Nat.zero_le _, fun k hk => by cases hk⟩
 unfold bldR
 split
 ·exact bad _ _
 ·split
  ·exact bad _ _
  ·split
   ·exact bad _ _
   ·split
    ·exact bad _ _
    ·have hT := recR_len parseQ fs recs recs.length
     have hsz := recR_sz parseQ fs recs recs.length
     have hok := recR_ok hu hr recs.length (Nat.le_refl _)
     generalize (recR parseQ fs recs recs.length).2 = T at *
     refine ⟨_, _, _, _, rfl, ?_, fun k hk => ?_⟩
     ·unfold tabK
      have := List.length_filter_le (fun x : Kx => decide (x.kd ≠ 3)) (asm fs T)
      rw [asm_len] at this; omega
     ·unfold tabK at hk
      have hk := (List.mem_filter.1 hk).1
      unfold asm at hk
      obtain ⟨j, hj, rfl⟩ := List.mem_map.1 hk
      have hj := List.mem_range.1 hj
      obtain ⟨h1, h2⟩ := hsz j hj
      exact ⟨Nat.le_trans h1 (by decide), Nat.le_trans h2 (by omega), hok _ (memG (by omega))⟩
end Go.Proofs.YtjahkcgckiobkaaGreatDoor
namespace Go.Proofs.YtjahkcgckiobkaaGreatDoor
open Go Go.Dat Go.Proofs Go.RowKit Nat32
theorem tFits_calls (k : Kx) (x : Tc) (hx : okN0 x.va) : PCalls Tryz.prog 78 [.agg (kxC k), .agg (cxC x)] (.bool (fitB k x)) := by
 obtain ⟨u1, u2, u3, u4⟩ := hx
 have cv : PCalls Tryz.prog 88 [.agg (xnC x.va)] (.bool (vldQ x.va.1 x.va.2.1 x.va.2.2)) := qValid_calls _ _ _ (by omega) (by omega) u1 u2
 have cs : PCalls Tryz.prog 89 [.agg (xnC x.va)] (.int .i64 (xnV x.va).num.sign) := qSign_calls _ _ _ (by omega) (by omega) u1 u2
 have hck : (DV.agg (kxC k)).cells? = some (kxC k) := rfl
 have hcx : (DV.agg (cxC x)).cells? = some (cxC x) := rfl
 have l4 := kxC_len k
 have l5 := cxC_len x
 have n0 : (cxC x).getD 0 .undef = .bool x.mi := rfl
 have n1 : ((cxC x).drop 1).take 3 = xnC x.va := rfl
 have n4 : (cxC x).getD 4 .undef = .int .i64 x.lv := rfl
 have m1 : (kxC k).getD 1 .undef = .int .i64 k.kd := rfl
 have m2 : (kxC k).getD 2 .undef = .sl 1 (strL k.le) := rfl
 have hll := strL_len k.le
 refine PCalls_of istFits (by simp [fntFits]) ?_
 unfold codetFits fitB zerB
 have hlv : decide (x.lv < (k.le.length : Int)) = decide (x.lv < k.le.length) := rfl
 generalize vldQ x.va.1 x.va.2.1 x.va.2.2 = v at *
 generalize (xnV x.va).num.sign = z at *
 obtain ⟨bz, dz⟩ : ∃ b, decide (z = 0) = b := ⟨_, rfl⟩
 obtain ⟨b1, d1⟩ : ∃ b, decide (k.kd = 1) = b := ⟨_, rfl⟩
 obtain ⟨b0, d0⟩ : ∃ b, decide (0 ≤ x.lv) = b := ⟨_, rfl⟩
 obtain ⟨bl, dl⟩ : ∃ b, decide (x.lv = 0) = b := ⟨_, rfl⟩
 have hk1 : (if k.kd = 1 then v && decide (x.lv = 0) else (v && decide (z = 0)) && decide (0 ≤ x.lv) && decide (x.lv < k.le.length)) = if b1 = true then v && bl else (v && bz) && b0 && decide (x.lv < k.le.length) := by
  rw [← d1, dz, d0, dl]
  by_cases h : k.kd = 1 <;> simp [h]
 rw [hk1, dz, dl]
 cases hm : x.mi
 all_goals rw [hm] at n0
 ·have hif : (if (false : Bool) = true then (v && bz) && bl else (if b1 = true then v && bl else (v && bz) && b0 && decide (x.lv < k.le.length))) = (if b1 = true then v && bl else (v && bz) && b0 && decide (x.lv < k.le.length)) := rfl
  rw [hif]
  cases b1
  ·have hi2 : (if (false : Bool) = true then v && bl else (v && bz) && b0 && decide (x.lv < k.le.length)) = ((v && bz) && b0 && decide (x.lv < k.le.length)) := rfl
   rw [hi2]
   cases v
   ·refine zS (zA hck (zA hcx (zA l4 (zA l5 (zA n0 (zA n1 (zA n4 (zA m1 (zA m2 (zA hll (zA dz (zA d1 (zA d0 (zA dl (zA @cS @List.drop_zero.{0}))))))))))))))) ?_
    refine cP cv ?_
    refine zS (zA hck (zA hcx (zA l4 (zA l5 (zA n0 (zA n1 (zA n4 (zA m1 (zA m2 (zA hll (zA dz (zA d1 (zA d0 (zA dl (zA @cS @List.drop_zero.{0}))))))))))))))) ?_
    refine wF ?_
    refine zS (zA hck (zA hcx (zA l4 (zA l5 (zA n0 (zA n1 (zA n4 (zA m1 (zA m2 (zA hll (zA dz (zA d1 (zA d0 (zA dl (zA @cS @List.drop_zero.{0}))))))))))))))) ?_
    refine wFs ?_
    refine zS (zA hck (zA hcx (zA l4 (zA l5 (zA n0 (zA n1 (zA n4 (zA m1 (zA m2 (zA hll (zA dz (zA d1 (zA d0 (zA dl (zA @cS @List.drop_zero.{0}))))))))))))))) ?_
    exact W_ret (RetP_1 (.imm rfl))
   ·cases bz <;> cases b0
    all_goals
     refine zS (zA hck (zA hcx (zA l4 (zA l5 (zA n0 (zA n1 (zA n4 (zA m1 (zA m2 (zA hll (zA dz (zA d1 (zA d0 (zA dl (zA @cS @List.drop_zero.{0}))))))))))))))) ?_
     refine cP cv ?_
     refine zS (zA hck (zA hcx (zA l4 (zA l5 (zA n0 (zA n1 (zA n4 (zA m1 (zA m2 (zA hll (zA dz (zA d1 (zA d0 (zA dl (zA @cS @List.drop_zero.{0}))))))))))))))) ?_
     refine cP cs ?_
     refine zS (zA hck (zA hcx (zA l4 (zA l5 (zA n0 (zA n1 (zA n4 (zA m1 (zA m2 (zA hll (zA dz (zA d1 (zA d0 (zA dl (zA @cS @List.drop_zero.{0}))))))))))))))) ?_
     refine wF ?_
     refine zS (zA hck (zA hcx (zA l4 (zA l5 (zA n0 (zA n1 (zA n4 (zA m1 (zA m2 (zA hll (zA dz (zA d1 (zA d0 (zA dl (zA @cS @List.drop_zero.{0}))))))))))))))) ?_
     refine wFs ?_
     refine zS (zA hck (zA hcx (zA l4 (zA l5 (zA n0 (zA n1 (zA n4 (zA m1 (zA m2 (zA hll (zA dz (zA d1 (zA d0 (zA dl (zA @cS @List.drop_zero.{0}))))))))))))))) ?_
     exact W_ret (RetP_1 (.imm rfl))
  ·have hi2 : (if (true : Bool) = true then v && bl else (v && bz) && b0 && decide (x.lv < k.le.length)) = (v && bl) := rfl
   rw [hi2]
   cases v
   ·refine zS (zA hck (zA hcx (zA l4 (zA l5 (zA n0 (zA n1 (zA n4 (zA m1 (zA m2 (zA hll (zA dz (zA d1 (zA d0 (zA dl (zA @cS @List.drop_zero.{0}))))))))))))))) ?_
    refine cP cv ?_
    refine zS (zA hck (zA hcx (zA l4 (zA l5 (zA n0 (zA n1 (zA n4 (zA m1 (zA m2 (zA hll (zA dz (zA d1 (zA d0 (zA dl (zA @cS @List.drop_zero.{0}))))))))))))))) ?_
    refine wF ?_
    refine zS (zA hck (zA hcx (zA l4 (zA l5 (zA n0 (zA n1 (zA n4 (zA m1 (zA m2 (zA hll (zA dz (zA d1 (zA d0 (zA dl (zA @cS @List.drop_zero.{0}))))))))))))))) ?_
    refine wT ?_
    refine zS (zA hck (zA hcx (zA l4 (zA l5 (zA n0 (zA n1 (zA n4 (zA m1 (zA m2 (zA hll (zA dz (zA d1 (zA d0 (zA dl (zA @cS @List.drop_zero.{0}))))))))))))))) ?_
    refine cP cv ?_
    refine zS (zA hck (zA hcx (zA l4 (zA l5 (zA n0 (zA n1 (zA n4 (zA m1 (zA m2 (zA hll (zA dz (zA d1 (zA d0 (zA dl (zA @cS @List.drop_zero.{0}))))))))))))))) ?_
    exact W_ret (RetP_1 (.imm rfl))
   ·refine zS (zA hck (zA hcx (zA l4 (zA l5 (zA n0 (zA n1 (zA n4 (zA m1 (zA m2 (zA hll (zA dz (zA d1 (zA d0 (zA dl (zA @cS @List.drop_zero.{0}))))))))))))))) ?_
    refine cP cv ?_
    refine zS (zA hck (zA hcx (zA l4 (zA l5 (zA n0 (zA n1 (zA n4 (zA m1 (zA m2 (zA hll (zA dz (zA d1 (zA d0 (zA dl (zA @cS @List.drop_zero.{0}))))))))))))))) ?_
    refine cP cs ?_
    refine zS (zA hck (zA hcx (zA l4 (zA l5 (zA n0 (zA n1 (zA n4 (zA m1 (zA m2 (zA hll (zA dz (zA d1 (zA d0 (zA dl (zA @cS @List.drop_zero.{0}))))))))))))))) ?_
    refine wF ?_
    refine zS (zA hck (zA hcx (zA l4 (zA l5 (zA n0 (zA n1 (zA n4 (zA m1 (zA m2 (zA hll (zA dz (zA d1 (zA d0 (zA dl (zA @cS @List.drop_zero.{0}))))))))))))))) ?_
    refine wT ?_
    refine zS (zA hck (zA hcx (zA l4 (zA l5 (zA n0 (zA n1 (zA n4 (zA m1 (zA m2 (zA hll (zA dz (zA d1 (zA d0 (zA dl (zA @cS @List.drop_zero.{0}))))))))))))))) ?_
    refine cP cv ?_
    refine zS (zA hck (zA hcx (zA l4 (zA l5 (zA n0 (zA n1 (zA n4 (zA m1 (zA m2 (zA hll (zA dz (zA d1 (zA d0 (zA dl (zA @cS @List.drop_zero.{0}))))))))))))))) ?_
    exact W_ret (RetP_1 (.imm rfl))
 ·have hif : (if (true : Bool) = true then (v && bz) && bl else (if b1 = true then v && bl else (v && bz) && b0 && decide (x.lv < k.le.length))) = ((v && bz) && bl) := rfl
  rw [hif]
  cases v
  ·refine zS (zA hck (zA hcx (zA l4 (zA l5 (zA n0 (zA n1 (zA n4 (zA m1 (zA m2 (zA hll (zA dz (zA d1 (zA d0 (zA dl (zA @cS @List.drop_zero.{0}))))))))))))))) ?_
   refine cP cv ?_
   refine zS (zA hck (zA hcx (zA l4 (zA l5 (zA n0 (zA n1 (zA n4 (zA m1 (zA m2 (zA hll (zA dz (zA d1 (zA d0 (zA dl (zA @cS @List.drop_zero.{0}))))))))))))))) ?_
   refine wT ?_
   refine zS (zA hck (zA hcx (zA l4 (zA l5 (zA n0 (zA n1 (zA n4 (zA m1 (zA m2 (zA hll (zA dz (zA d1 (zA d0 (zA dl (zA @cS @List.drop_zero.{0}))))))))))))))) ?_
   exact W_ret (RetP_1 (.imm rfl))
  ·cases bz
   all_goals
    refine zS (zA hck (zA hcx (zA l4 (zA l5 (zA n0 (zA n1 (zA n4 (zA m1 (zA m2 (zA hll (zA dz (zA d1 (zA d0 (zA dl (zA @cS @List.drop_zero.{0}))))))))))))))) ?_
    refine cP cv ?_
    refine zS (zA hck (zA hcx (zA l4 (zA l5 (zA n0 (zA n1 (zA n4 (zA m1 (zA m2 (zA hll (zA dz (zA d1 (zA d0 (zA dl (zA @cS @List.drop_zero.{0}))))))))))))))) ?_
    refine cP cs ?_
    refine zS (zA hck (zA hcx (zA l4 (zA l5 (zA n0 (zA n1 (zA n4 (zA m1 (zA m2 (zA hll (zA dz (zA d1 (zA d0 (zA dl (zA @cS @List.drop_zero.{0}))))))))))))))) ?_
    refine wT ?_
    refine zS (zA hck (zA hcx (zA l4 (zA l5 (zA n0 (zA n1 (zA n4 (zA m1 (zA m2 (zA hll (zA dz (zA d1 (zA d0 (zA dl (zA @cS @List.drop_zero.{0}))))))))))))))) ?_
    exact W_ret (RetP_1 (.imm rfl))
theorem slIFCell_calls (l : List Tc) (hl : l.length ≤ 1000000) (p : Tc → Bool) (v : DV) (g : Nat) (cs : List DV) (hv : isClo v g cs) (hcs : cs.all DV.rf = true) (hg : Callable Tryz.prog g) (hc : ∀ f ∈ l, PCalls Tryz.prog g ([.agg (cxC f)] ++ cs) (.bool (p f))) : PCalls Tryz.prog 139 [.sl 5 (cxs l), v] (.int .i64 (ixP p l)) := by
 have hln : (cxs l).length / 5 = l.length := by rw [cxs_len]; omega
 have hlen := cxs_len l
 refine PCalls_of isslIFCell (by simp [fnslIFCell]) ?_
 unfold codeslIFCell
 refine zS hln ?_
 refine W_loop (σ := Nat) (fun i => [(0, .sl 5 (cxs l)), (1, v), (7, .int .i64 l.length), (8, .int .i64 i)]) (fun _ => []) (fun i => i ≤ l.length ∧ ∀ j, j < i → p (l.getD j default) = false) (fun i => l.length - i) 0 ⟨Nat.zero_le _, by simp⟩ ?_ rfl ?_
 ·simp [subF, lk]
 ·rintro i ⟨hi, hall⟩
  try simp only at hi hall ⊢
  by_cases hlt : i < l.length
  ·have dl : decide ((i : Int) < (l.length : Int)) = true := decide_eq_true (by omega)
   have ei : (i : Int).toNat = i := Int.toNat_natCast i
   have e1 : ((i : Int) + 1) = ((i + 1 : Nat) : Int) := by omega
   have hw : ((cxs l).drop (i * 5)).take 5 = cxC (l.getD i default) := fm_win (j := 0) cxC_len default hlt (Nat.le_refl _)
   have cf := hc _ (memG hlt)
   have hb6 : i * 5 + 5 ≤ (cxs l).length := by omega
   refine zS dl ?_
   refine wTs ?_
   refine W_seq ?_
   refine W_block ?_
   refine W_seq ?_
   refine W_reg ?_
   refine zD ?_
   refine W_seq ?_
   refine W_callV [om 11 1, om 12 0, om 13 5, ot 14 (.iad 5 (.t 12) (.t 13)), ot 15 (.ldn 5 (.t 14))] [] (.x 16) (.t 11) [.t 15] rfl ?_
   refine zE (zA ei (zA hlen hw)) ?_
   refine ⟨⟨by omega, by omega⟩, by omega, g, cs, hv, hg, callR_pure cf (by rw [List.all_append, hcs]; rfl) ?_⟩
   cases hp : p (l.getD i default)
   ·have hnx : ∀ j, j < i + 1 → p (l.getD j default) = false := fun j hj => by
     rcases Nat.lt_or_ge j i with h | h
     ·exact hall j h
     ·obtain rfl : j = i := by omega
      exact hp
    refine zR ?_
    refine wFs ?_
    refine zS e1 ?_
    exact ⟨i + 1, ⟨by omega, hnx⟩, by omega, by simp [subF, lk]⟩
   ·have hx := ixP_at default hlt hp hall
    rw [hx]
    refine zR ?_
    refine wT ?_
    refine zR ?_
    exact W_ret (RetP_1 (.imm rfl))
  ·have dl : decide ((i : Int) < (l.length : Int)) = false := decide_eq_false (by omega)
   rw [ixP_no default fun j hj => hall j (by omega)]
   refine zS dl ?_
   refine W_cond rfl (fun h => by cases h) (fun _ => W_exit ?_)
   refine zR ?_
   exact W_ret (RetP_1 (.imm rfl))
theorem slCFCell_calls (l : List Tc) (hl : l.length ≤ 1000000) (p : Tc → Bool) (v : DV) (g : Nat) (cs : List DV) (hv : isClo v g cs) (hvr : v.rf = true) (hcs : cs.all DV.rf = true) (hg : Callable Tryz.prog g) (hc : ∀ f ∈ l, PCalls Tryz.prog g ([.agg (cxC f)] ++ cs) (.bool (p f))) : PCalls Tryz.prog 104 [.sl 5 (cxs l), v] (.bool (l.any p)) := by
 have ci := slIFCell_calls l hl p v g cs hv hcs hg hc
 have ha := ixP_any p l
 have hrf : List.all [DV.sl 5 (cxs l), v] DV.rf = true := by rw [List.all_cons, List.all_cons, hvr]; rfl
 refine PCalls_of isslCFCell (by simp [fnslCFCell]) ?_
 unfold codeslCFCell
 generalize ixP p l = k at *
 generalize l.any p = b at *
 refine zR ?_
 refine callC_pure ci hrf ?_
 refine zS ha ?_
 exact W_ret (RetP_1 (.imm rfl))
theorem slCFCol_calls (l : List Kx) (hl : l.length ≤ 1000000) (p : Kx → Bool) (v : DV) (g : Nat) (cs : List DV) (hv : isClo v g cs) (hvr : v.rf = true) (hcs : cs.all DV.rf = true) (hg : Callable Tryz.prog g) (hc : ∀ f ∈ l, PCalls Tryz.prog g ([.agg (kxC f)] ++ cs) (.bool (p f))) : PCalls Tryz.prog 59 [.sl 4 (kxs l), v] (.bool (l.any p)) := by
 have ci := slIFCol_calls l hl p v g cs hv hcs hg hc
 have ha := ixP_any p l
 have hrf : List.all [DV.sl 4 (kxs l), v] DV.rf = true := by rw [List.all_cons, List.all_cons, hvr]; rfl
 refine PCalls_of isslCFCol (by simp [fnslCFCol]) ?_
 unfold codeslCFCol
 generalize ixP p l = k at *
 generalize l.any p = b at *
 refine zR ?_
 refine callC_pure ci hrf ?_
 refine zS ha ?_
 exact W_ret (RetP_1 (.imm rfl))
theorem tColNames_calls (n : Int) (l : List Kx) (hl : l.length ≤ 1000000) : PCalls Tryz.prog 58 [.agg [.int .i64 n, .sl 4 (kxs l)]] (.sl 1 (strL (knmL l))) := by
 have hln : (kxs l).length / 4 = l.length := by rw [kxs_len]; omega
 have hlen := kxs_len l
 have hca : (DV.agg [.int .i64 n, .sl 4 (kxs l)]).cells? = some [.int .i64 n, .sl 4 (kxs l)] := rfl
 refine PCalls_of istColNames (by simp [fntColNames]) ?_
 unfold codetColNames
 refine zS hca ?_
 refine W_own 3 1 200 rfl (by simp [lkH]) ?_
 refine zS (zA hln @cS) ?_
 refine W_loop (σ := Nat) (fun i => [(3, .osl 1 200 0 i), (7, .sl 4 (kxs l)), (8, .int .i64 l.length), (9, .int .i64 i)]) (fun i => [(1, [.int .i64 n, .sl 4 (kxs l)]), (200, strL ((knmL l).take i))]) (fun i => i ≤ l.length) (fun i => l.length - i) 0 (Nat.zero_le _) ?_ rfl ?_
 ·simp [subF, lk]
 ·intro i hi
  try simp only at hi ⊢
  by_cases hlt : i < l.length
  ·have dl : decide ((i : Int) < (l.length : Int)) = true := decide_eq_true (by omega)
   have ei : (i : Int).toNat = i := Int.toNat_natCast i
   have e1 : ((i : Int) + 1) = ((i + 1 : Nat) : Int) := by omega
   have hw : ((kxs l).drop (i * 4)).take 4 = kxC (l.getD i default) := fm_win (j := 0) kxC_len default hlt (Nat.le_refl _)
   have htk : strL ((knmL l).take i) ++ [.str (l.getD i default).nm] = strL ((knmL l).take (i + 1)) := by
    unfold strL
    rw [List.take_add_one, List.map_append]
    unfold knmL
    rw [List.getElem?_map, List.getElem?_eq_getElem hlt, List.getD_eq_getElem?_getD, List.getElem?_eq_getElem hlt]
    rfl
   have hl1 : (strL ((knmL l).take i)).length = i := by rw [strL_len, List.length_take, knmL_len]; omega
   have hpg := map_purge 200 (List.all_eq_true.1 (strL_rf ((knmL l).take (i + 1))))
   have hfz := map_frz 5 (kxC (l.getD i default)) (List.all_eq_true.1 (strL_rf ((knmL l).take (i + 1))))
   have hpF := map_purge 200 (kxC_rf (l.getD i default))
   have hcl := kxC_len (l.getD i default)
   have htf : (kxC (l.getD i default)).take 4 = kxC (l.getD i default) := rfl
   have hg0 : (kxC (l.getD i default)).getD 0 .undef = .str (l.getD i default).nm := rfl
   have hone : ((kxC (l.getD i default)).all DV.one) = true := List.all_eq_true.2 (kxC_one _)
   have hrf := kxC_rf (l.getD i default)
   have hrfa : ((kxC (l.getD i default)).all DV.rf) = true := List.all_eq_true.2 hrf
   generalize strL ((knmL l).take i) = Y at *
   generalize hZ : strL ((knmL l).take (i + 1)) = Z at *
   generalize (l.getD i default).nm = nm at *
   generalize kxC (l.getD i default) = C at *
   refine zS dl ?_
   refine wTs ?_
   refine zS (zA ei (zA hw (zA hlen (zA hone (zA hcl (zA htf (zA @List.drop_zero.{0} (zA @cS hg0)))))))) ?_
   refine ⟨by simp [DV.rf], ⟨hl1, by omega, by omega, fun h => h, by simp [DV.one]⟩, ?_⟩
   rw [htk, hpg, hpF]
   refine W_freeze 5 (cells := C) rfl hrfa ?_
   refine zS (zA e1 hfz) ?_
   exact ⟨i + 1, by omega, by omega, by simp [subF, lk, frz_osl_ne], by rw [hZ]⟩
  ·have dl : decide ((i : Int) < (l.length : Int)) = false := decide_eq_false (by omega)
   obtain rfl : i = l.length := by omega
   have htl : (knmL l).take l.length = knmL l := List.take_of_length_le (by rw [knmL_len]; exact Nat.le_refl _)
   rw [htl]
   have hrf := strL_rf (knmL l)
   have hsl : (strL (knmL l)).length = l.length := by rw [strL_len, knmL_len]
   generalize strL (knmL l) = Z at *
   refine W_freeze 200 (cells := Z) rfl hrf ?_
   have hfz : frz 200 Z (.osl 1 200 0 l.length) = .sl 1 Z := by
    simp [frz, hsl]
    rw [List.take_of_length_le (by omega)]
   refine zS (zA dl hfz) ?_
   refine W_cond rfl (fun h => by cases h) (fun _ => W_exit ?_)
   refine zR ?_
   exact W_ret (RetP_1 (.imm rfl))
theorem tColumn1_calls (k : Kx) (x : Tc) (hx : okN0 x.va) : PCalls Tryz.prog 105 [.agg (cxC x), .el (kxC k) 0] (.bool (!fitB k x)) := by
 have cf := tFits_calls k x hx
 have hcx : (DV.agg (cxC x)).cells? = some (cxC x) := rfl
 have l4 := kxC_len k
 have l5 := cxC_len x
 have t4 : (kxC k).take 4 = kxC k := rfl
 have t5 : (cxC x).take 5 = cxC x := rfl
 refine PCalls_of istColumn1 (by simp [fntColumn1]) ?_
 unfold codetColumn1
 refine zS (zA hcx (zA l4 (zA l5 (zA t4 (zA t5 (zA @cS @List.drop_zero.{0})))))) ?_
 refine callC_pure cf (by simp [DV.rf_agg, List.all_eq_true.2 (kxC_rf k), List.all_eq_true.2 (cxC_rf x)]) ?_
 refine zR ?_
 exact W_ret (RetP_1 (.imm rfl))
theorem call_c1 : Callable Tryz.prog 105 := ⟨_, Tryz.func105, by kernel_rfl, by kernel_rfl⟩
theorem call_v1 : Callable Tryz.prog 60 := ⟨_, Tryz.func60, by kernel_rfl, by kernel_rfl⟩
theorem tClm_calls (k : Kx) (n : Int) (hk1 : k.le.length ≤ 1000000) (hk2 : k.ce.length ≤ 1000000) (hk : ∀ c ∈ k.ce, okN0 c.va) : PCalls Tryz.prog 61 [.agg (kxC k), .int .i64 n] (.bool (colB k n)) := by
 have hck : (DV.agg (kxC k)).cells? = some (kxC k) := rfl
 have l4 := kxC_len k
 have m1 : (kxC k).getD 1 .undef = .int .i64 k.kd := rfl
 have m2 : (kxC k).getD 2 .undef = .sl 1 (strL k.le) := rfl
 have m3 : (kxC k).getD 3 .undef = .sl 5 (cxs k.ce) := rfl
 have hll := strL_len k.le
 have hcl : (cxs k.ce).length / 5 = k.ce.length := by rw [cxs_len]; omega
 have hCrf := kxC_rf k
 have hCa : (kxC k).all DV.rf = true := List.all_eq_true.2 hCrf
 have hone : (kxC k).all DV.one = true := List.all_eq_true.2 (kxC_one k)
 have cc := slCFCell_calls k.ce hk2 (fun x => !fitB k x) (.clo 105 [.el (kxC k) 0]) 105 [.el (kxC k) 0] (.inl rfl) (by simp [DV.rf]) rfl call_c1 (fun x hx => tColumn1_calls k x (hk x hx))
 rw [any_not] at cc
 have hne : kxC k ≠ [] := by unfold kxC; simp
 generalize hC : kxC k = C at *
 obtain ⟨b1, d1⟩ : ∃ b, decide (k.kd = 1) = b := ⟨_, rfl⟩
 obtain ⟨b2, d2⟩ : ∃ b, decide (k.kd = 2) = b := ⟨_, rfl⟩
 obtain ⟨bl, dl⟩ : ∃ b, decide (0 < k.le.length) = b := ⟨_, rfl⟩
 obtain ⟨bm, dm⟩ : ∃ b, decide (k.le.length ≤ 32) = b := ⟨_, rfl⟩
 obtain ⟨bn, dn⟩ : ∃ b, decide ((k.ce.length : Int) = n) = b := ⟨_, rfl⟩
 have e1 : decide (¬ k.kd = 1) = !b1 := by rw [← d1]; simp
 have e2 : decide (¬ k.kd = 2) = !b2 := by rw [← d2]; simp
 have el : decide ((0 : Int) < (k.le.length : Int)) = bl := by rw [← dl]; exact decide_eq_decide.2 (by omega)
 have em : decide ((32 : Int) < (k.le.length : Int)) = !bm := by rw [← dm]; by_cases h : k.le.length ≤ 32 <;> simp [h] <;> omega
 have en : decide (¬ (k.ce.length : Int) = n) = !bn := by rw [← dn]; simp
 refine PCalls_of istClm (by simp [fntClm]) ?_
 unfold codetClm colB
 have hsh : shpB k n = ((b1 || b2) && !(b1 && bl) && bm && bn) := by unfold shpB; rw [d1, d2, dl, dm, dn]
 rw [hsh]
 refine zS (zA hck (zA hone @cS)) ?_
 refine ⟨⟨hne, hCrf⟩, ?_⟩
 by_cases hb : ((b1 || b2) && !(b1 && bl) && bm && bn) = true
 ·rw [hb, Bool.true_and]
  cases b1 <;> cases b2 <;> cases bl <;> cases bm <;> cases bn
  all_goals first
   | (exact absurd hb (by decide))
   | skip
  all_goals
   clear hb hsh
   refine zS (zA hck (zA hone (zA l4 (zA m1 (zA m2 (zA m3 (zA hll (zA hcl (zA d1 (zA e1 (zA e2 (zA el (zA em (zA en (zA @cS (zA @Bool.not_true @Bool.not_false)))))))))))))))) ?_
   refine wFs ?_
   clear d1 d2 dl dm dn e1 e2 el em en
   refine zS (zA l4 (zA m2 hll)) ?_
   refine W_loop (σ := Nat) (fun i => [(2, .el C 0), (40, .sl 1 (strL k.le)), (41, .int .i64 k.le.length), (42, .int .i64 i)]) (fun _ => []) (fun i => i ≤ k.le.length ∧ ∀ j, j < i → ixS (k.le.take j) (k.le.getD j []) < 0) (fun i => k.le.length - i) 0 ⟨Nat.zero_le _, by simp⟩ ?_ rfl ?_
   ·simp [subF, lk]
   ·rintro i ⟨hi, hall⟩
    try simp only at hi hall ⊢
    by_cases hlt : i < k.le.length
    ·have dl : decide ((i : Int) < (k.le.length : Int)) = true := decide_eq_true (by omega)
     have ei : (i : Int).toNat = i := Int.toNat_natCast i
     have e1 : ((i : Int) + 1) = ((i + 1 : Nat) : Int) := by omega
     have hg := strL_getD hlt
     have hts : (strL k.le).take i = strL (k.le.take i) := by unfold strL; rw [List.map_take]
     have cx := slContainsS_calls (k.le.take i) (k.le.getD i []) (by rw [List.length_take]; omega)
     have hno := @dstB_no k.le i hlt
     generalize hT : strL (k.le.take i) = T at *
     refine zS dl ?_
     refine wTs ?_
     refine zS (zA ei (zA hg (zA hll (zA l4 (zA m2 (zA hts (zA @Nat.mul_one (zA @Nat.zero_mul (zA @List.drop_zero.{0} @Nat.div_one))))))))) ?_
     refine cP cx ?_
     by_cases hx : ixS (k.le.take i) (k.le.getD i []) < 0
     ·have dx : decide (0 ≤ ixS (k.le.take i) (k.le.getD i [])) = false := decide_eq_false (by omega)
      refine zS dx ?_
      refine wFs ?_
      refine zS e1 ?_
      exact ⟨i + 1, ⟨by omega, fun j hj => by
       rcases Nat.lt_or_ge j i with h2 | h2
       ·exact hall j h2
       ·obtain rfl : j = i := by omega
        exact hx⟩, by omega, by simp [subF, lk]⟩
     ·have dx : decide (0 ≤ ixS (k.le.take i) (k.le.getD i [])) = true := decide_eq_true (by omega)
      rw [hno hx, Bool.false_and]
      refine zS dx ?_
      refine wT ?_
      refine zR ?_
      exact W_ret (RetP_1 (.imm rfl))
    ·have dl : decide ((i : Int) < (k.le.length : Int)) = false := decide_eq_false (by omega)
     rw [dstB_yes fun j hj => hall j (by omega)]
     refine zS dl ?_
     refine W_cond rfl (fun h => by cases h) (fun _ => W_exit ?_)
     refine zS (zA l4 (zA m3 @goW_mkf)) ?_
     refine ⟨List.all_eq_true.1 rfl, ?_⟩
     refine callC_pure cc (by simp [DV.rf]) ?_
     refine zS (zA @Bool.not_not @Bool.true_and) ?_
     exact W_ret (RetP_1 (.imm rfl))
 ·have hb' := Bool.eq_false_iff.2 hb
  rw [hb', Bool.false_and, Bool.false_and]
  cases b1 <;> cases b2 <;> cases bl <;> cases bm <;> cases bn
  all_goals first
   | (exact absurd rfl hb)
   | skip
  all_goals
   refine zS (zA hck (zA hone (zA l4 (zA m1 (zA m2 (zA m3 (zA hll (zA hcl (zA d1 (zA e1 (zA e2 (zA el (zA em (zA en (zA @cS (zA @Bool.not_true @Bool.not_false)))))))))))))))) ?_
   refine wT ?_
   refine zR ?_
   exact W_ret (RetP_1 (.imm rfl))
def okT (S : List Kx) : Prop := S.length ≤ 1000000 ∧ ∀ k ∈ S, k.nm.length ≤ 9223372036854775807 ∧ k.le.length ≤ 1000000 ∧ k.ce.length ≤ 1000000 ∧ ∀ c ∈ k.ce, okN0 c.va
theorem tValid1_calls (n : Int) (S : List Kx) (k : Kx) (hk1 : k.le.length ≤ 1000000) (hk2 : k.ce.length ≤ 1000000) (hk : ∀ c ∈ k.ce, okN0 c.va) : PCalls Tryz.prog 60 [.agg (kxC k), .el [.int .i64 n, .sl 4 (kxs S)] 0] (.bool (!colB k n)) := by
 have cc := tClm_calls k n hk1 hk2 hk
 have hck : (DV.agg (kxC k)).cells? = some (kxC k) := rfl
 have l4 := kxC_len k
 have t4 : (kxC k).take 4 = kxC k := rfl
 refine PCalls_of istValid1 (by simp [fntValid1]) ?_
 unfold codetValid1
 refine zS (zA hck (zA l4 (zA t4 (zA @cS @List.drop_zero.{0})))) ?_
 refine callC_pure cc (by simp [DV.rf_agg, List.all_eq_true.2 (kxC_rf k)]; rfl) ?_
 refine zR ?_
 exact W_ret (RetP_1 (.imm rfl))
theorem tVld_calls (n : Int) (S : List Kx) (h : okT S) : PCalls Tryz.prog 21 [.agg [.int .i64 n, .sl 4 (kxs S)]] (.bool (tabB n S)) := by
 obtain ⟨hl, hk⟩ := h
 have hln : (kxs S).length / 4 = S.length := by rw [kxs_len]; omega
 have hca : (DV.agg [.int .i64 n, .sl 4 (kxs S)]).cells? = some [.int .i64 n, .sl 4 (kxs S)] := rfl
 have hB : ([DV.int .i64 n, .sl 4 (kxs S)] ≠ [] ∧ ∀ d ∈ [DV.int .i64 n, .sl 4 (kxs S)], d.rf = true) := ⟨by simp, List.all_eq_true.1 rfl⟩
 have c1 := tColNames_calls n S hl
 have c2 := tNames_calls (knmL S) (by rw [knmL_len]; omega) (fun s hs => by
  unfold knmL at hs
  obtain ⟨f, hf, rfl⟩ := List.mem_map.1 hs
  exact (hk f hf).1)
 have c3 := slCFCol_calls S hl (fun k => !colB k n) (.clo 60 [.el [.int .i64 n, .sl 4 (kxs S)] 0]) 60 [.el [.int .i64 n, .sl 4 (kxs S)] 0] (.inl rfl) (by simp [DV.rf]) rfl call_v1 (fun k h => tValid1_calls n S k (hk k h).2.1 (hk k h).2.2.1 (hk k h).2.2.2)
 rw [any_not] at c3
 refine PCalls_of istVld (by simp [fntVld]) ?_
 unfold codetVld tabB
 obtain ⟨b0, d0⟩ : ∃ b, decide (0 ≤ n) = b := ⟨_, rfl⟩
 obtain ⟨b1, d1⟩ : ∃ b, decide (n ≤ 1024) = b := ⟨_, rfl⟩
 obtain ⟨b2, d2⟩ : ∃ b, decide (S.length ≤ 32) = b := ⟨_, rfl⟩
 have e2 : decide ((S.length : Int) ≤ 32) = b2 := by rw [← d2]; exact decide_eq_decide.2 (by omega)
 rw [d0, d1, d2]
 generalize namesB (knmL S) = b3 at *
 refine zS hca ?_
 refine ⟨hB.2, ?_⟩
 cases b0
 ·refine zS (zA hca (zA @cS (zA hln d0))) ?_
  exact W_ret (RetP_1 (.imm rfl))
 cases b1
 ·refine zS (zA hca (zA @cS (zA hln (zA d0 d1)))) ?_
  exact W_ret (RetP_1 (.imm rfl))
 cases b2
 ·refine zS (zA hca (zA @cS (zA hln (zA d0 (zA d1 e2))))) ?_
  exact W_ret (RetP_1 (.imm rfl))
 refine zS (zA hca (zA @cS (zA hln (zA d0 (zA d1 e2))))) ?_
 refine cP c1 ?_
 refine zR ?_
 refine cP c2 ?_
 cases b3
 ·refine zR ?_
  exact W_ret (RetP_1 (.imm rfl))
 refine zS @goW_mkf ?_
 refine ⟨List.all_eq_true.1 rfl, ?_⟩
 refine callC_pure c3 (by simp [DV.rf]) ?_
 refine zS @Bool.not_not ?_
 exact W_ret (RetP_1 (.imm rfl))
end Go.Proofs.YtjahkcgckiobkaaGreatDoor
namespace Go.Proofs.YtjahkcgckiobkaaGreatDoor
open Go Go.Dat Go.Proofs Go.RowKit Go.Shelf Nat32
theorem okN0_qX {r : Rat} (h : RB r 300) : okN0 (qX r) := ⟨lim_limbs _, lim_dn _, h.1, RB_dn h⟩
theorem readR_okN (f : Fx) (hu : okN0 f.un ∧ f.un.2.1.length ≤ 8 ∧ f.un.2.2.length ≤ 8) (lv : List Bs) (ce : List Tc) (s : Bs) (hs : s.length ≤ 450) (h : ∀ c ∈ ce, okN0 c.va) : ∀ c ∈ (readR parseQ f lv ce s).2.2, okN0 c.va := by
 have hz : okN0 (false, [], []) := ⟨fun x hx => absurd hx List.not_mem_nil, fun x hx => absurd hx List.not_mem_nil, Nat.zero_le _, Nat.zero_le _⟩
 have key : ∀ c : Tc, okN0 c.va → ∀ x ∈ ce ++ [c], okN0 x.va := fun c hc x hx => by
  rcases List.mem_append.1 hx with hx | hx
  ·exact h x hx
  ·rw [List.mem_singleton.1 hx]; exact hc
 unfold readR
 split
 ·exact key _ hz
 ·split
  ·split
   ·exact h
   ·rename_i x hx
    refine key _ (okN0_qX ?_)
    have h1 := parseQ_RB1 hs hx
    have h2 : RB (xnV f.un) 8 := RB_rv hu.1.1 hu.1.2.1 hu.2.1 hu.2.2 (by decide)
    exact (RB_mul h1 h2).mono (by decide)
  ·split
   ·split
    ·exact h
    ·exact key _ hz
   ·exact key _ hz
theorem rowR_okN {fs : List Fx} (hu : ∀ f ∈ fs, okN0 f.un ∧ f.un.2.1.length ≤ 8 ∧ f.un.2.2.length ≤ 8) {r : List Bs} (hr : ∀ s ∈ r, s.length ≤ 450) {T : List Tx} (h : ∀ t ∈ T, ∀ c ∈ t.2, okN0 c.va) : ∀ k, k ≤ fs.length → ∀ t ∈ (rowR parseQ fs r T k).2, ∀ c ∈ t.2, okN0 c.va
 | 0, _ => h
 | k + 1, hk => by
  have ih := rowR_okN hu hr h k (by omega)
  simp only [rowR]
  split
  ·exact ih
  ·intro t ht
   rcases List.mem_or_eq_of_mem_set ht with ht | rfl
   ·exact ih t ht
   ·have hT : ∀ c ∈ ((rowR parseQ fs r T k).2.getD k default).2, okN0 c.va := by
     rw [List.getD_eq_getElem?_getD]
     cases hg : (rowR parseQ fs r T k).2[k]? with
     | none => intro c hc; cases hc
     | some t => exact ih t (List.mem_of_getElem? hg)
    unfold colStep
    split
    ·exact hT
    ·refine readR_okN _ (hu _ (memG (by omega))) _ _ _ ?_ hT
     by_cases hkr : k < r.length
     ·exact hr _ (mem_getD hkr)
     ·rw [List.getD_eq_getElem?_getD, List.getElem?_eq_none (by omega)]; exact Nat.zero_le _
theorem recR_okN {fs : List Fx} (hu : ∀ f ∈ fs, okN0 f.un ∧ f.un.2.1.length ≤ 8 ∧ f.un.2.2.length ≤ 8) {recs : List (List Bs)} (hr : ∀ r ∈ recs, ∀ s ∈ r, s.length ≤ 450) : ∀ i, i ≤ recs.length → ∀ t ∈ (recR parseQ fs recs i).2, ∀ c ∈ t.2, okN0 c.va
 | 0, _ => by
  intro t ht c hc
  simp only [recR] at ht
  obtain ⟨_, _, rfl⟩ := List.mem_map.1 ht
  cases hc
 | i + 1, hi => by
  have ih := recR_okN hu hr i (by omega)
  simp only [recR]
  split
  ·exact ih
  ·split
   ·exact ih
   ·split
    ·exact ih
    ·exact rowR_okN hu (hr _ (memR_getD (by omega))) ih _ (Nat.le_refl _)
set_option maxHeartbeats 1000000 in
theorem ltRecValid_calls (fs : List Fx) (recs : List (List Bs)) (hl : fs.length ≤ 9223372036854775807) (hf : ∀ f ∈ fs, okFld f) (hl2 : recs.length ≤ 9223372036854775807) (hr : ∀ r ∈ recs, okStrs r) : PCalls Tryz.prog 5 [.sl 6 (fxs fs), .sl 1 (recD recs)] (.bool true) := by
 have aw := lt_awake_calls
 have c1 := lt_fields_calls fs hl (fun f h => (hf f h).2.1)
 have c2 := lt_records_calls recs hl2 hr
 have hln : (fxs fs).length / 6 = fs.length := by rw [fxs_len]; omega
 have hfl := fxs_len fs
 have hrl := recD_len recs
 refine PCalls_of isltRecValid (by simp [fnltRecValid]) ?_
 unfold codeltRecValid
 refine zR ?_
 refine cP c1 ?_
 cases h1 : fldsB fs
 ·refine zR ?_
  refine wT ?_
  refine zR ?_
  refine cP aw ?_
  refine zR ?_
  exact W_ret (RetP_1 (.imm rfl))
 refine zR ?_
 refine cP c2 ?_
 cases h2 : recsB recs
 ·refine zR ?_
  refine wT ?_
  refine zR ?_
  refine cP aw ?_
  refine zR ?_
  exact W_ret (RetP_1 (.imm rfl))
 obtain ⟨k1, k1'⟩ := fldsB_spec h1 (fun f h => (hf f h).2.2)
 obtain ⟨k2, k2'⟩ := recsB_spec h2
 have hrr : ∀ r ∈ recs, r.length ≤ 1000000 ∧ ∀ s ∈ r, s.length ≤ 450 := fun r h => ⟨Nat.le_trans (k2' r h).1 (by decide), fun s hs => Nat.le_trans ((k2' r h).2 s hs) (by decide)⟩
 have ct := tBld_calls fs recs (by omega) (by omega) (fun f h => (k1' f h).2.2.1) (fun f h => Nat.le_trans (k1' f h).2.1.1 (by decide)) (fun f h => (hf f h).1) hrr
 have cu := uBld_calls fs recs (by omega) (by omega) (fun f h => (k1' f h).2.2.1) (fun f h => Nat.le_trans (k1' f h).2.1.1 (by decide)) (fun f h => (hf f h).1) hrr
 have dT : decide True = true := rfl
 refine zR ?_
 refine wFs ?_
 refine zR ?_
 refine cP ct ?_
 rcases bldR_or fs recs with ⟨row, e, he, hb⟩ | ⟨g1', g2', g3', g4'⟩
 ·have de : decide (¬ e = 0) = true := decide_eq_true he
  rw [hb] at cu ⊢
  unfold badT at cu ⊢
  refine zS (zA @cS de) ?_
  refine wT ?_
  refine zR ?_
  refine cP cu ?_
  refine zS @cS ?_
  refine cP aw ?_
  refine zS (zA @cS dT) ?_
  exact W_ret (RetP_1 (.imm rfl))
 ·have hv := tabK_valid g1' g2' g3' g4'
  have hTl := tabK_len fs (recR parseQ fs recs recs.length).2
  have hbf := bldR_form k1 (fun f h => (k1' f h).2.2) k2 (fun r h => (hrr r h).2)
  have hB := bldR_ok g1' g2' g3' g4'
  have hnm : ∀ k ∈ tabK fs (recR parseQ fs recs recs.length).2, k.nm.length ≤ 60 := fun k hk => by
   unfold tabK at hk
   have hk := (List.mem_filter.1 hk).1
   unfold asm at hk
   obtain ⟨j, hj, rfl⟩ := List.mem_map.1 hk
   exact (k1' _ (memG (List.mem_range.1 hj))).1
  have hoK : okT (tabK fs (recR parseQ fs recs recs.length).2) := by
   have hsz := recR_sz parseQ fs recs recs.length
   have hok := recR_okN (fun f h => (k1' f h).2.2) (fun r h => (hrr r h).2) recs.length (Nat.le_refl _)
   have hRl := recR_len parseQ fs recs recs.length
   generalize (recR parseQ fs recs recs.length).2 = T at *
   refine ⟨by rw [hTl]; exact Nat.le_trans (keepN_le _ _) (by omega), fun k hk => ⟨Nat.le_trans (hnm k hk) (by decide), ?_⟩⟩
   unfold tabK at hk
   have hk := (List.mem_filter.1 hk).1
   unfold asm at hk
   obtain ⟨j, hj, rfl⟩ := List.mem_map.1 hk
   have hj := List.mem_range.1 hj
   obtain ⟨z1, z2⟩ := hsz j hj
   exact ⟨Nat.le_trans z1 (by decide), Nat.le_trans z2 (by omega), hok _ (memG (by omega))⟩
  have cv := tVld_calls recs.length _ hoK
  rw [hv] at cv
  have hKl := kxs_len (tabK fs (recR parseQ fs recs recs.length).2)
  rw [hTl] at hKl
  rw [hB]
  clear hB hbf hv hoK hnm ct cu hTl
  generalize kxs (tabK fs (recR parseQ fs recs recs.length).2) = X at *
  have dF : decide (¬ True) = false := rfl
  refine zS (zA @cS dF) ?_
  refine wFs ?_
  refine zR ?_
  refine W_loop (σ := Nat) (fun i => [(0, .sl 6 (fxs fs)), (1, .sl 1 (recD recs)), (5, .ptr 5 0), (11, .int .i64 (keepN fs i)), (12, .int .i64 i)]) (fun i => [(5, [.int .i64 recs.length, .sl 4 X])]) (fun i => i ≤ fs.length) (fun i => fs.length - i) 0 (Nat.zero_le _) ?_ rfl ?_
  ·simp [subF, lk, keepN]
  ·intro i hi
   try simp only at hi ⊢
   by_cases hlt : i < fs.length
   ·have dl : decide ((i : Int) < (fs.length : Int)) = true := decide_eq_true (by omega)
    have ei : (i : Int).toNat = i := Int.toNat_natCast i
    have e1 : ((i : Int) + 1) = ((i + 1 : Nat) : Int) := by omega
    have hg1 : (fxs fs).getD (i * 6 + 1) .undef = .int .i64 (fs.getD i default).kd := fm_at (j := 1) fxC_len default hlt (by decide) .undef
    have hky := @keepN_yes fs i
    have hkn := @keepN_no fs i
    have hle := keepN_le fs i
    generalize fs.getD i default = f at *
    refine zS (zA dl hln) ?_
    refine wTs ?_
    by_cases k3 : f.kd = 3
    ·have d3 : decide (¬ f.kd = 3) = false := by rw [k3]; rfl
     refine zS (zA ei (zA hfl (zA hg1 d3))) ?_
     refine wFs ?_
     refine zS e1 ?_
     exact ⟨i + 1, by omega, by omega, by simp [subF, lk, hkn k3]⟩
    ·have d3 : decide (¬ f.kd = 3) = true := decide_eq_true k3
     have e2 : ((keepN fs i : Int) + 1) = ((keepN fs (i + 1) : Nat) : Int) := by rw [hky k3]; omega
     refine zS (zA ei (zA hfl (zA hg1 d3))) ?_
     refine wT ?_
     refine zS (zA e1 e2) ?_
     exact ⟨i + 1, by omega, by omega, by simp [subF, lk]⟩
   ·have dl : decide ((i : Int) < (fs.length : Int)) = false := decide_eq_false (by omega)
    obtain rfl : i = fs.length := by omega
    have hX4 : X.length / 4 = keepN fs fs.length := by omega
    refine zS (zA dl hln) ?_
    refine W_cond rfl (fun h => by cases h) (fun _ => W_exit ?_)
    refine zS @cS ?_
    refine cP aw ?_
    refine zS @cS ?_
    refine cP cv ?_
    refine zS (zA @cS (zA hX4 (zA dT hrl))) ?_
    exact W_ret (RetP_1 (.imm rfl))
end Go.Proofs.YtjahkcgckiobkaaGreatDoor
