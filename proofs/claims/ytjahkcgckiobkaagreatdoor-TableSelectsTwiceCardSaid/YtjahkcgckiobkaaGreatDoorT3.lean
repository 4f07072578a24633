/- Lemmas of the walk; no conditions beyond those that each states. -/
import Derived.OpenShut
import Derived.Below
import Derived.HandedShaped
import Derived.Handed
import Derived.Test.YtjahkcgckiobkaaGreatDoorD2
import Derived.Test.YtjahkcgckiobkaaGreatDoorT2
import Derived.Test.YtjahkcgckiobkaaGreatDoorN1
import Derived.Test.YtjahkcgckiobkaaGreatDoorT1
import Derived.Test.YtjahkcgckiobkaaGreatDoorC1
set_option linter.unusedSimpArgs false
set_option linter.unusedVariables false
set_option linter.unnecessarySimpa false
set_option maxHeartbeats 4000000
namespace Go.Proofs.YtjahkcgckiobkaaGreatDoor
open Go Go.Dat Go.Proofs Go.RowKit Nat32
theorem call_b1 : Callable Tryz.prog 43 := ⟨_, Tryz.func43, by kernel_rfl, by kernel_rfl⟩
theorem call_b2 : Callable Tryz.prog 47 := ⟨_, Tryz.func47, by kernel_rfl, by kernel_rfl⟩
set_option maxHeartbeats 4000000 in
theorem tBld_calls (fs : List Fx) (recs : List (List Bs)) (hl : fs.length ≤ 1000000) (hl2 : recs.length ≤ 1000000) (hu : ∀ f ∈ fs, okN0 f.un) (hm : ∀ f ∈ fs, f.ms.length ≤ 1000000) (hn : ∀ f ∈ fs, f.nm.length ≤ 9223372036854775807)
  (hr : ∀ r ∈ recs, r.length ≤ 1000000 ∧ ∀ s ∈ r, s.length ≤ 450) : PCalls Tryz.prog 13 [.sl 6 (fxs fs), .sl 1 (recD recs)] (bldR fs recs) := by
 by_cases h1 : 32 < fs.length ∨ 1024 < recs.length
 ·have : bldR fs recs = badT 0 2 := by unfold bldR; rw [if_pos h1]
  rw [this]; exact tBuild_limit fs recs hl hl2 h1
 have hf32 : fs.length ≤ 32 := by omega
 have hr1024 : recs.length ≤ 1024 := by omega
 have hln : (fxs fs).length / 6 = fs.length := by rw [fxs_len]; omega
 have hrl := recD_len recs
 have hfl := fxs_len fs
 have d1 : decide ((32 : Int) < (fs.length : Int)) = false := decide_eq_false (by omega)
 have d2 : decide ((1024 : Int) < (recs.length : Int)) = false := decide_eq_false (by omega)
 have c1 := tFieldNames_calls fs hl
 have c2 := tNames_calls (fnmL fs) (by rw [fnmL_len]; omega) (fun s hs => by
  unfold fnmL at hs
  obtain ⟨f, hf, rfl⟩ := List.mem_map.1 hs
  exact hn f hf)
 have c3 := slCFField_calls fs hl (fun f => !rdB f) (.fn 43) 43 [] (.inr ⟨rfl, rfl⟩) rfl rfl call_b1 (fun f hf => tBuild1_calls f (hu f hf))
 refine PCalls_of istBld (by simp [fntBld]) ?_
 unfold codetBld
 refine zS (zA hln (zA hrl (zA d1 d2))) ?_
 refine wFs ?_
 refine zR ?_
 refine cP c1 ?_
 refine zR ?_
 refine cP c2 ?_
 cases hnb : namesB (fnmL fs)
 ·have : bldR fs recs = badT 0 8 := by unfold bldR; rw [if_neg h1, if_pos hnb]
  rw [this]
  refine zR ?_
  refine wT ?_
  refine zS @cS ?_
  exact W_ret (Ret_bad rfl rfl rfl rfl)
 refine zR ?_
 refine wFs ?_
 refine zR ?_
 refine cP c3 ?_
 cases hrd : fs.any fun f => !rdB f
 ·have en : (fs.length : Int).toNat = fs.length := Int.toNat_natCast _
  have hP0 := P1_zero fs
  refine zR ?_
  refine wFs ?_
  refine zS (zA hln en) ?_
  rw [hP0]
  refine zS hln ?_
  refine W_loop (σ := Nat) (fun i => [(0, .sl 6 (fxs fs)), (1, .sl 1 (recD recs)), (4, .ptr 4 0), (5, .int .i64 0), (6, .int .i64 0), (7, .osl 4 34 0 fs.length), (35, .sl 6 (fxs fs)), (36, .int .i64 fs.length), (37, .int .i64 i)]) (fun i => [(4, [.int .i64 0, .nils]), (34, nilC (P1 fs i))]) (fun i => i ≤ fs.length) (fun i => fs.length - i) 0 (Nat.zero_le _) ?_ rfl ?_
  ·simp [subF, lk]
  ·intro i hi
   try simp only at hi ⊢
   by_cases hlt : i < fs.length
   ·have dl : decide ((i : Int) < (fs.length : Int)) = true := decide_eq_true (by omega)
    have ei : (i : Int).toNat = i := Int.toNat_natCast i
    have e1 : ((i : Int) + 1) = ((i + 1 : Nat) : Int) := by omega
    have hw : ((fxs fs).drop (i * 6)).take 6 = fxC (fs.getD i default) := fm_win (j := 0) fxC_len default hlt (Nat.le_refl _)
    have hpl := P1_len (fs := fs) (i := i) hi
    have hnl := nilC_len (P1 fs i)
    have hst := nilC_set (S := P1 fs i) (i := i) (fs.getD i default).nm (fs.getD i default).kd (by omega)
    have hnx : nilC ((P1 fs i).set i ⟨(fs.getD i default).nm, (fs.getD i default).kd, [], []⟩) = nilC (P1 fs (i + 1)) := congrArg nilC (P1_next hlt)
    rw [hnx] at hst
    have hf9 := map_frz 9 (fxC (fs.getD i default)) (nilC_one (P1 fs (i + 1)))
    have hcc : (DV.agg (fxC (fs.getD i default))).cells? = some (fxC (fs.getD i default)) := rfl
    have hcl := fxC_len (fs.getD i default)
    have htf : (fxC (fs.getD i default)).take 6 = fxC (fs.getD i default) := rfl
    have hg0 : (fxC (fs.getD i default)).getD 0 .undef = .str (fs.getD i default).nm := rfl
    have hg1 : (fxC (fs.getD i default)).getD 1 .undef = .int .i64 (fs.getD i default).kd := rfl
    have hrf := fxC_rf (fs.getD i default)
    have hrfa : ((fxC (fs.getD i default)).all DV.rf) = true := List.all_eq_true.2 hrf
    generalize (fs.getD i default).nm = nm at *
    generalize (fs.getD i default).kd = kd at *
    generalize fxC (fs.getD i default) = C at *
    repeat (first | refine W_seq ?_ | refine W_reg ?_ | refine W_regd ?_ | refine W_regs ?_ | refine W_regp ?_ | refine W_block ?_ | refine And.intro (by omega) ?_ | simp (maxSteps := 1000000) (disch := omega) only [cA, cB, cN, FnD.nb, lk, lkH, Dst.onT, Dst.onX, Dst.slot, setF, setH, mapF, mapH, initF, binE, unE, cnt, boundE, newsE, freshE, freshT, opE, rmH, blkQ, frz_us, Nat.reduceEqDiff, Nat.reduceLT, Nat.reduceAdd, Nat.reduceMul, Nat.reduceMod, ↓reduceIte, reduceCtorEq, Nat.reduceLeDiff, dl])
    refine wTs ?_
    refine W_seq ?_
    refine W_block ?_
    refine W_seq ?_
    refine W_reg ?_
    simp (maxSteps := 1000000) (disch := omega) only [cA, cB, cN, FnD.nb, lk, lkH, Dst.onT, Dst.onX, Dst.slot, setF, setH, mapF, mapH, initF, binE, unE, cnt, boundE, newsE, freshE, freshT, opE, rmH, blkQ, frz_us, Nat.reduceEqDiff, Nat.reduceLT, Nat.reduceAdd, Nat.reduceMul, Nat.reduceMod, ↓reduceIte, reduceCtorEq, Nat.reduceLeDiff, ei, hw, hfl, hcc, hcl, htf, List.drop_zero, cS]
    refine ⟨⟨by omega, by omega⟩, by omega, ?_⟩
    refine W_reg ?_
    simp (maxSteps := 1000000) (disch := omega) only [cA, cB, cN, FnD.nb, lk, lkH, Dst.onT, Dst.onX, Dst.slot, setF, setH, mapF, mapH, initF, binE, unE, cnt, boundE, newsE, freshE, freshT, opE, rmH, blkQ, frz_us, Nat.reduceEqDiff, Nat.reduceLT, Nat.reduceAdd, Nat.reduceMul, Nat.reduceMod, ↓reduceIte, reduceCtorEq, Nat.reduceLeDiff, ei, hw, hfl, hcc, hcl, htf, List.drop_zero, cS, hg0, hg1, hnl, hpl]
    refine ⟨⟨by omega, by omega⟩, by omega, ?_⟩
    rw [hst]
    refine W_freeze 9 (cells := C) rfl hrfa ?_
    refine zS (zA e1 hf9) ?_
    exact ⟨i + 1, by omega, by omega, by simp [subF, lk, frz_osl_ne, frz, purge, DV.has], by simp [rmH, frz, purge, DV.has, hf9]⟩
   ·have dl : decide ((i : Int) < (fs.length : Int)) = false := decide_eq_false (by omega)
    obtain rfl : i = fs.length := by omega
    rw [P1_end]
    have hS0 : (asm fs (fs.map fun _ => ([], []))).length = fs.length := asm_len _ _
    refine W_owns 34 (by decide) (asm fs (fs.map fun _ => ([], []))) (by omega) (fun j hj => ?_) ((4, [.int .i64 0, .nils]) :: (34, contO 0 (asm fs (fs.map fun _ => ([], [])))) :: DD 0 (asm fs (fs.map fun _ => ([], [])))) rfl (fun p hp => ?_) ?_ fs.length 0 (by omega) _ ?_ (fun p hp => ?_) (fun p hp h3 => ?_)
    ·rw [asm_get (by omega)]
     have : (fs.map fun _ => (([], []) : Tx)).getD j default = ([], []) := by
      rw [List.getD_eq_getElem?_getD, List.getElem?_map, List.getElem?_eq_getElem (by omega)]; rfl
     rw [this]; exact ⟨rfl, rfl⟩
    ·simp only [lkH]
     rw [if_neg (by omega), if_neg (by omega)]
    rotate_left
    ·simp [lkH, contO]
    ·simp only [lkH, List.take_zero, DD]
     rw [if_neg (by omega), if_neg (by omega)]
    ·simp only [lkH]
     by_cases e4 : 4 = p
     ·rw [if_pos e4, if_pos e4]
     ·rw [if_neg e4, if_neg e4, if_neg (by omega), if_neg (by omega), DD_none hp]
    refine zS dl ?_
    refine W_cond rfl (fun h => by cases h) (fun _ => W_exit ?_)
    refine zS hrl ?_
    refine W_loop (σ := Nat) (fun i => [(0, .sl 6 (fxs fs)), (1, .sl 1 (recD recs)), (4, .ptr 4 0), (5, .int .i64 0), (6, .int .i64 0), (7, .osl 4 34 0 fs.length), (51, .sl 1 (recD recs)), (52, .int .i64 recs.length), (53, .int .i64 i)]) (fun i => (4, [.int .i64 0, .nils]) :: (34, contO 0 (asm fs (recR parseQ fs recs i).2)) :: DD 0 (asm fs (recR parseQ fs recs i).2)) (fun i => i ≤ recs.length ∧ (recR parseQ fs recs i).1.2 = 0) (fun i => recs.length - i) 0 ⟨Nat.zero_le _, rfl⟩ ?_ rfl ?_
    ·simp [subF, lk]
    ·rintro i ⟨hi, h0⟩
     try simp only at hi h0 ⊢
     have hSl : (asm fs (recR parseQ fs recs i).2).length = fs.length := asm_len _ _
     by_cases hlt : i < recs.length
     ·have dl : decide ((i : Int) < (recs.length : Int)) = true := decide_eq_true (by omega)
      have ei : (i : Int).toNat = i := Int.toNat_natCast i
      have e1 : ((i : Int) + 1) = ((i + 1 : Nat) : Int) := by omega
      have hg := recD_getD hlt
      have hrm := hr _ (memR_getD hlt)
      have hxl := strL_len (recs.getD i [])
      refine zS dl ?_
      refine wTs ?_
      refine zS (zA ei (zA hg hrl)) ?_
      by_cases hsh : (recs.getD i []).length = fs.length
      ·have dsh : decide (¬ ((recs.getD i []).length : Int) = (fs.length : Int)) = false := decide_eq_false (by omega)
       have hTl := recR_len parseQ fs recs i
       have hsz := recR_sz parseQ fs recs i
       have hrow := fun {e : Int} => @recR_row parseQ fs recs i h0 hsh e
       have hgood := @recR_good parseQ fs recs i h0 hsh
       generalize hT : (recR parseQ fs recs i).2 = T at *
       generalize hrr : recs.getD i [] = r at *
       refine zS (zA hxl (zA hln dsh)) ?_
       refine wFs ?_
       refine zS hln ?_
       refine W_loop (σ := Nat) (fun k => [(0, .sl 6 (fxs fs)), (1, .sl 1 (recD recs)), (4, .ptr 4 0), (5, .int .i64 0), (6, .int .i64 0), (7, .osl 4 34 0 fs.length), (10, .int .i64 i), (11, .sl 1 (strL r)), (51, .sl 1 (recD recs)), (52, .int .i64 recs.length), (53, .int .i64 i), (66, .sl 6 (fxs fs)), (67, .int .i64 fs.length), (68, .int .i64 k)]) (fun k => (4, [.int .i64 0, .nils]) :: (34, contO 0 (asm fs (rowR parseQ fs r T k).2)) :: DD 0 (asm fs (rowR parseQ fs r T k).2)) (fun k => k ≤ fs.length ∧ (rowR parseQ fs r T k).1 = 0) (fun k => fs.length - k) 0 ⟨Nat.zero_le _, rfl⟩ ?_ rfl ?_
       ·simp [subF, lk]
       ·rintro k ⟨hk, hk0⟩
        try simp only at hk hk0 ⊢
        by_cases hlt2 : k < fs.length
        ·have dl2 : decide ((k : Int) < (fs.length : Int)) = true := decide_eq_true (by omega)
         have ek : (k : Int).toNat = k := Int.toNat_natCast k
         have e2 : ((k : Int) + 1) = ((k + 1 : Nat) : Int) := by omega
         have hw : ((fxs fs).drop (k * 6)).take 6 = fxC (fs.getD k default) := fm_win (j := 0) fxC_len default hlt2 (Nat.le_refl _)
         have hgs := strL_getD (r := r) (j := k) (by omega)
         have hs450 := hrm.2 _ (mem_getD (l := r) (i := k) (by omega))
         have hTk := rowR_len parseQ fs r T k
         have hsk := (rowR_sz parseQ fs r (n := i) (T := T) (fun j hj => hsz j (by omega)) k k (by omega)).1
         have hnx := @rowR_next parseQ fs r T k hk0
         have hbd := fun he => @rowR_bad parseQ fs r T k hk0 he fs.length hlt2
         have hfm := memG hlt2
         generalize (rowR parseQ fs r T k).2 = T2 at *
         have hSl2 : (asm fs T2).length = fs.length := asm_len _ _
         have hag := asm_get (fs := fs) (T := T2) hlt2
         have hset := fun t => asm_set (fs := fs) (T := T2) (k := k) t (by omega)
         have hSS : (asm fs T2).length ≤ 1000 := by omega
         have hkS : k < (asm fs T2).length := by omega
         generalize fs.getD k default = f at *
         generalize r.getD k [] = s at *
         have hDok := DD_ok 0 (asm fs T2) (by omega)
         have hD13 : lkH (DD 0 (asm fs T2)) 13 = none := DD_none (by omega)
         have hcr := tRead_rel (contO 0 ((asm fs T2).take k)) (contO (k + 1) ((asm fs T2).drop (k + 1))) (drp (ai k) (bi k) (DD 0 (asm fs T2))) ((asm fs T2).getD k default).nm ((asm fs T2).getD k default).kd ((asm fs T2).getD k default).le ((asm fs T2).getD k default).ce f s (drp_ok hDok) (nb_ok hkS).1 (nb_ok hkS).2 (hu f hfm) (hm f hfm) hs450 (by rw [hag]; exact Nat.le_trans hsk.1 (by decide)) (by rw [hag]; exact Nat.le_trans hsk.2 (by omega))
         have hst : ∀ R : Int × List Bs × List Tc, (asm fs T2).set k ⟨((asm fs T2).getD k default).nm, ((asm fs T2).getD k default).kd, R.2.1, R.2.2⟩ = asm fs (T2.set k R.2) := fun R => by rw [hset, hag]; rfl
         have hRe : readR parseQ f ((asm fs T2).getD k default).le ((asm fs T2).getD k default).ce s = readR parseQ f (T2.getD k default).1 (T2.getD k default).2 s := by rw [hag]; rfl
         have hcc : (DV.agg (fxC f)).cells? = some (fxC f) := rfl
         have hcl := fxC_len f
         have htf : (fxC f).take 6 = fxC f := rfl
         have hg1 : (fxC f).getD 1 .undef = .int .i64 f.kd := rfl
         have hrf := fxC_rf f
         have hrfa : ((fxC f).all DV.rf) = true := List.all_eq_true.2 hrf
         have hcf := fun S => contO_frz (o := 13) (by decide) (fxC f) 0 S
         have hrD := fun (S : List Kx) (h : S.length ≤ 1000) => (DD_ok 0 S (by omega)).rm (o := 13) (by decide) (fxC f)
         have z2 : ∀ d ∈ [DV.int .i64 0, .nils], d.rf = true := by
          intro d hd
          simp only [List.mem_cons, List.not_mem_nil, or_false] at hd
          rcases hd with rfl | rfl <;> rfl
         generalize hC : fxC f = C at *
         by_cases k3 : f.kd = 3
         ·have d3 : decide (f.kd = 3) = true := decide_eq_true k3
          rw [colStep_skip k3, set_self] at hnx
          have hrD0 := hrD _ hSS
          refine zS dl2 ?_
          refine wTs ?_
          refine zS (zA ek (zA hw (zA hfl (zA hcc (zA hcl (zA htf (zA @List.drop_zero.{0} (zA @cS (zA hg1 (zA hD13 d3)))))))))) ?_
          refine wT ?_
          refine W_freeze 13 (cells := C) rfl hrfa ?_
          refine W_exit ?_
          refine zS (zA e2 (zA hcf hrD0)) ?_
          exact ⟨k + 1, ⟨by omega, by rw [hnx]⟩, by omega, by simp [subF, lk, frz, purge, DV.has], by rw [hnx]⟩
         ·have d3 : decide (f.kd = 3) = false := decide_eq_false k3
          rw [colStep_read k3, ← hRe] at hnx hbd
          refine zS dl2 ?_
          refine wTs ?_
          refine zS (zA ek (zA hw (zA hfl (zA hcc (zA hcl (zA htf (zA @List.drop_zero.{0} (zA @cS (zA hg1 (zA hD13 d3)))))))))) ?_
          refine wFs ?_
          refine zS (zA ek (zA hw (zA hcc (zA hcl (zA htf (zA @List.drop_zero.{0} (zA @cS (zA hgs (zA hxl (zA hSl2 (zA @List.take_succ_cons.{0} (zA @List.take_zero.{0} @List.drop_succ_cons.{0})))))))))))) ?_
          generalize hR : readR parseQ f ((asm fs T2).getD k default).le ((asm fs T2).getD k default).ce s = R at *
          refine callC_col rfl (asm fs T2) k hkS hSS (.agg C) (.str s) (by simp [DV.rf_agg, hrfa]) rfl rfl (col_DD _ _ _) (col_lo z2 hrf) R.1 R.2.1 R.2.2 _ (by omega) hcr (by simp [lowN, DV.rf_agg, hrfa]; exact ⟨rfl, rfl, rfl, rfl, rfl⟩) (by simp [lowN, DV.rf]) _ (col_H2 _ _ _ _) ?_
          rw [hst]
          have hRD := hrD (asm fs (T2.set k R.2)) (by rw [asm_len]; omega)
          by_cases he : R.1 = 0
          ·have de : decide (¬ R.1 = 0) = false := by rw [he]; rfl
           refine zS de ?_
           refine wFs ?_
           refine W_freeze 13 (cells := C) rfl hrfa ?_
           refine zS (zA e2 (zA hcf hRD)) ?_
           exact ⟨k + 1, ⟨by omega, by rw [hnx]; exact he⟩, by omega, by simp [subF, lk, frz, purge, DV.has], by rw [hnx]⟩
          ·have de : decide (¬ R.1 = 0) = true := decide_eq_true he
           have hx := bldR_err h1 hnb hrd hlt he (hrow he (hbd he))
           rw [hx]
           refine zS de ?_
           refine wT ?_
           refine zS (zA @cS e1) ?_
           exact W_ret (Ret_bad rfl rfl rfl rfl)
        ·have dl2 : decide ((k : Int) < (fs.length : Int)) = false := decide_eq_false (by omega)
         obtain rfl : k = fs.length := by omega
         have hgd := hgood hk0
         refine zS dl2 ?_
         refine W_cond rfl (fun h => by cases h) (fun _ => W_exit ?_)
         refine zS e1 ?_
         exact ⟨i + 1, ⟨by omega, by rw [hgd]⟩, by omega, by simp [subF, lk], by rw [hgd]⟩
      ·have dsh : decide (¬ ((recs.getD i []).length : Int) = (fs.length : Int)) = true := decide_eq_true (by omega)
       have hx := bldR_err h1 hnb hrd hlt (e := 6) (by decide) (recR_shape h0 hsh)
       rw [hx]
       refine zS (zA hxl (zA hln dsh)) ?_
       refine wT ?_
       refine zS (zA @cS e1) ?_
       exact W_ret (Ret_bad rfl rfl rfl rfl)
     ·have dl : decide ((i : Int) < (recs.length : Int)) = false := decide_eq_false (by omega)
      obtain rfl : i = recs.length := by omega
      rw [bldR_ok h1 hnb hrd h0]
      generalize (recR parseQ fs recs recs.length).2 = T at *
      have hrfK := kxs_rf (asm fs T)
      have hlo : ∀ p, p < 100000 → p ≠ 34 → lkH ((4, [.int .i64 0, .nils]) :: (34, contO 0 (asm fs T)) :: DD 0 (asm fs T)) p = lkH [(4, [.int .i64 0, .nils]), (34, kxs (asm fs T))] p := fun p hp h3 => by
       simp only [lkH]
       by_cases e4 : 4 = p
       ·rw [if_pos e4, if_pos e4]
       ·rw [if_neg e4, if_neg e4, if_neg (by omega), if_neg (by omega), DD_none hp]
      refine W_frzs 34 (by decide) (asm fs T) (by omega) [(4, [.int .i64 0, .nils]), (34, kxs (asm fs T))] rfl (fun p hp => ?_) (fun p c hpc => ?_) rfl ?_ fs.length 0 (by omega) _ ?_ (fun p hp => ?_) hlo
      ·simp only [lkH]
       rw [if_neg (by omega), if_neg (by omega)]
      ·simp only [lkH] at hpc
       split at hpc
       ·cases hpc
        intro d hd
        simp only [List.mem_cons, List.not_mem_nil, or_false] at hd
        rcases hd with rfl | rfl <;> rfl
       ·split at hpc
        ·cases hpc; exact hrfK
        ·cases hpc
      rotate_left
      ·simp [lkH, kxs]
      ·simp only [lkH, List.drop_zero]
       rw [if_neg (by omega), if_neg (by omega)]
      refine zS dl ?_
      refine W_cond rfl (fun h => by cases h) (fun _ => W_exit ?_)
      have cd := slDFCol_rel (asm fs T) (by omega) (fun x => decide (x.kd = 3)) (.fn 47) 47 (.inr ⟨rfl, rfl⟩) rfl call_b2 tBuild2_calls
      rw [hSl] at cd
      refine zS hrl ?_
      have hfe : ((asm fs T).filter fun x => !decide (x.kd = 3)) = tabK fs T := by
       unfold tabK
       congr 1
       funext x
       by_cases hx : x.kd = 3 <;> simp [hx]
      rw [hfe] at cd
      generalize kxs (tabK fs T) = X at *
      refine callC_mv1 rfl 34 4 fs.length (.fn 47) (.sl 4 X) (by decide) rfl hrfK rfl rfl cd [(4, [.int .i64 recs.length, .nils])] (fun p => ?_) ?_
      ·simp only [lkH]
       by_cases e4 : 4 = p
       ·subst e4; simp [rn]
       ·rw [if_neg e4, if_neg e4]
        by_cases e5 : p = 34
        ·rw [if_pos e5]
        ·rw [if_neg e5, if_neg (Ne.symm e5)]; rfl
      simp only [mapF, rn, gout, Nat.reduceEqDiff, if_true, if_false]
      refine zS @cS ?_
      refine W_ret ?_
      refine RetP_ctt rfl rfl rfl (.imm rfl) (.imm rfl) (.imm rfl)
 ·have : bldR fs recs = badT 0 4 := by unfold bldR; rw [if_neg h1, hnb, if_neg (by decide), if_pos hrd]
  rw [this]
  refine zR ?_
  refine wT ?_
  refine zS @cS ?_
  exact W_ret (Ret_bad rfl rfl rfl rfl)
end Go.Proofs.YtjahkcgckiobkaaGreatDoor
namespace Go.Proofs.YtjahkcgckiobkaaGreatDoor
open Go Go.Dat Go.Proofs Go.RowKit Go.Shelf Nat32
def exF1 : Fx := ⟨[120], 1, [[78, 65]], qX (Rat.divInt 1 100)⟩
def exF2 : Fx := ⟨[103], 2, [], (false, [], [])⟩
def exR : List (List Bs) := [[[50, 53, 48], [97]], [[78, 65], [98]]]
def exC1 : List Tc := [⟨false, qX (Rat.divInt 5 2), 0⟩, ⟨true, (false, [], []), 0⟩]
def exC2 : List Tc := [⟨false, (false, [], []), 0⟩, ⟨false, (false, [], []), 1⟩]
def exK : List DV := [.str [120], .int .i64 1, .sl 1 (strL []), .sl 5 (cxs exC1), .str [103], .int .i64 2, .sl 1 (strL [[97], [98]]), .sl 5 (cxs exC2)]
theorem ex_bld : bldR [exF1, exF2] exR = .tup [.agg [.int .i64 2, .sl 4 exK], .int .i64 0, .int .i64 0] := by
 rw [bldR_ok (by decide) (by kernel_rfl) (by kernel_rfl) (by kernel_rfl)]
 have e : (recR parseQ [exF1, exF2] exR exR.length).2 = [([], exC1), ([[97], [98]], exC2)] := by kernel_rfl
 rw [e]
 rfl
theorem ex_lim (x : Rat) (h : RB x 10) : okN0 (qX x) := ⟨lim_limbs _, lim_dn _, Nat.le_trans h.1 (by decide), Nat.le_trans (RB_dn h) (by decide)⟩
theorem ex_build : PCalls Tryz.prog 13 [.sl 6 (fxC exF1 ++ [.str [103], .int .i64 2, .nils, .bool false, .nils, .nils]), .sl 1 [.sl 1 [.str [50, 53, 48], .str [97]], .sl 1 [.str [78, 65], .str [98]]]] (.tup [.agg [.int .i64 2, .sl 4 exK], .int .i64 0, .int .i64 0]) := by
 rw [← ex_bld]
 refine PCalls_wk (ds' := [.sl 6 (fxs [exF1, exF2]), .sl 1 (recD exR)]) (.cons (WkD.sl 6 (WkL.app (WkL.refl _) ?_)) (.cons (WkD.refl _) .nil)) (tBld_calls [exF1, exF2] exR (by decide) (by decide) ?_ ?_ ?_ ?_)
 ·exact .cons (WkD.refl _) (.cons (WkD.refl _) (.cons (WkD.nils 1) (.cons (WkD.refl _) (.cons (WkD.nils 1) (.cons (WkD.nils 1) .nil)))))
 ·intro f hf
  simp only [List.mem_cons, List.not_mem_nil, or_false] at hf
  rcases hf with rfl | rfl
  ·exact ex_lim _ (by unfold RB; decide +kernel)
  ·show okN0 ((false, [], []) : XN)
   exact ⟨fun x hx => absurd hx List.not_mem_nil, fun x hx => absurd hx List.not_mem_nil, Nat.zero_le _, Nat.zero_le _⟩
 ·intro f hf
  simp only [List.mem_cons, List.not_mem_nil, or_false] at hf
  rcases hf with rfl | rfl <;> decide
 ·intro f hf
  simp only [List.mem_cons, List.not_mem_nil, or_false] at hf
  rcases hf with rfl | rfl <;> decide
 ·intro r hr
  simp only [exR, List.mem_cons, List.not_mem_nil, or_false] at hr
  rcases hr with rfl | rfl
  ·refine ⟨by decide, fun s hs => ?_⟩
   simp only [List.mem_cons, List.not_mem_nil, or_false] at hs
   rcases hs with rfl | rfl <;> decide
  ·refine ⟨by decide, fun s hs => ?_⟩
   simp only [List.mem_cons, List.not_mem_nil, or_false] at hs
   rcases hs with rfl | rfl <;> decide
theorem lt_awake_calls : PCalls Tryz.prog 12 [] (.bool true) := by
 have c1 := pFraction_calls 1 100 (by decide) (by decide) (by decide)
 have c2 := pFraction_calls 5 2 (by decide) (by decide) (by decide)
 have c3 := ex_build
 have c4 : PCalls Tryz.prog 20 [Q (Rat.divInt 5 2), Q (Rat.divInt 5 2)] (.bool true) := by
  have := pSameL (Rat.divInt 5 2) (Rat.divInt 5 2) (by unfold RB; decide +kernel) (by unfold RB; decide +kernel)
  rwa [decide_eq_true rfl] at this
 have h1 : laid [.str [], .int .i64 0, .nils, .bool false, .nils, .nils] [(0, 1, .str [120]), (1, 1, .int .i64 1), (2, 1, .sl 1 [.str [78, 65]]), (3, 3, Q (Rat.divInt 1 100))] = some (fxC exF1) := rfl
 have h2 : laid [.str [], .int .i64 0, .nils, .bool false, .nils, .nils] [(0, 1, .str [103]), (1, 1, .int .i64 2)] = some [.str [103], .int .i64 2, .nils, .bool false, .nils, .nils] := rfl
 have h3 : laid [.str [], .int .i64 0, .nils, .bool false, .nils, .nils, .str [], .int .i64 0, .nils, .bool false, .nils, .nils] [(0, 6, .agg (fxC exF1)), (6, 6, .agg [.str [103], .int .i64 2, .nils, .bool false, .nils, .nils])] = some (fxC exF1 ++ [.str [103], .int .i64 2, .nils, .bool false, .nils, .nils]) := rfl
 have h4 : ∀ a b : List DV, laid [.nils, .nils] [(0, 1, .sl 1 a), (1, 1, .sl 1 b)] = some [.sl 1 a, .sl 1 b] := fun _ _ => rfl
 have h5 : ∀ a b : Bs, laid [.str [], .str []] [(0, 1, .str a), (1, 1, .str b)] = some [.str a, .str b] := fun _ _ => rfl
 have h6 : ∀ a : Bs, laid [.str []] [(0, 1, .str a)] = some [.str a] := fun _ => rfl
 generalize hA : fxC exF1 ++ [.str [103], .int .i64 2, .nils, .bool false, .nils, .nils] = A at *
 have hAr : ∀ d ∈ A, d.rf = true := by rw [← hA]; exact List.all_eq_true.1 rfl
 have k3 : exK.getD 3 .undef = .sl 5 (cxs exC1) := rfl
 obtain ⟨Y, hY⟩ : ∃ Y : List DV, Y = [.str [97], .str [98]] := ⟨_, rfl⟩
 have k6 : exK.getD 6 .undef = .sl 1 Y := by rw [hY]; rfl
 have yl : Y.length = 2 := by rw [hY]; rfl
 have kl : exK.length = 8 := rfl
 have x1 : ((cxs exC1).drop 1).take 3 = xnC (qX (Rat.divInt 5 2)) := rfl
 have x5 : (cxs exC1).getD 5 .undef = .bool true := rfl
 have xl : (cxs exC1).length = 10 := rfl
 have hq : DV.agg (xnC (qX (Rat.divInt 5 2))) = Q (Rat.divInt 5 2) := rfl
 generalize exK = K at *
 generalize cxs exC1 = C at *
 generalize xnC (qX (Rat.divInt 5 2)) = X at *
 refine PCalls_of islt_awake (by simp [fnlt_awake]) ?_
 unfold codelt_awake
 refine zS h6 ?_
 refine ⟨List.all_eq_true.1 rfl, ?_⟩
 refine cP c1 ?_
 refine zS (zA h1 (zA h2 (zA h3 (zA h4 h5)))) ?_
 repeat refine ⟨List.all_eq_true.1 rfl, ?_⟩
 refine cP c3 ?_
 have dT : decide True = true := rfl
 have e84 : 8 / 4 = 2 := rfl
 have e105 : 10 / 5 = 2 := rfl
 have c22 : ((2 : Nat) : Int) = 2 := rfl
 have t0 : (0 : Int).toNat = 0 := rfl
 have t1 : (1 : Int).toNat = 1 := rfl
 refine zS (zA @cS (zA k3 (zA k6 (zA kl (zA x1 (zA x5 (zA xl (zA yl (zA hq (zA dT (zA e84 (zA e105 (zA c22 (zA t0 (zA t1 (zA @Nat.zero_mul (zA @Nat.zero_add @Nat.one_mul))))))))))))))))) ?_
 refine cP c2 ?_
 refine zS (zA @cS (zA k3 (zA k6 (zA kl (zA x1 (zA x5 (zA xl (zA yl (zA hq (zA dT (zA e84 (zA e105 (zA c22 (zA t0 (zA t1 (zA @Nat.zero_mul (zA @Nat.zero_add @Nat.one_mul))))))))))))))))) ?_
 refine cP c4 ?_
 refine zS (zA @cS (zA k3 (zA k6 (zA kl (zA x1 (zA x5 (zA xl (zA yl (zA hq (zA dT (zA e84 (zA e105 (zA c22 (zA t0 (zA t1 (zA @Nat.zero_mul (zA @Nat.zero_add @Nat.one_mul))))))))))))))))) ?_
 exact W_ret (RetP_1 (.imm rfl))
theorem zer_of {x : XN} (h : zeuB x = true) : zerB x = true := by
 unfold zeuB at h
 simp only [Bool.and_eq_true, Bool.not_eq_true', decide_eq_true_eq] at h
 obtain ⟨⟨h1, h2⟩, h3⟩ := h
 have : x = (false, [], []) := Prod.ext h1 (Prod.ext h2 h3)
 rw [this]; exact zerB_0
theorem fit_of {k : Kx} {x : Tc} (h : fitU k x = true) : fitB k x = true := by
 unfold fitU at h
 unfold fitB
 split
 ·rename_i h1
  rw [if_pos h1, Bool.and_eq_true] at h
  rw [zer_of h.1, h.2]; rfl
 ·rename_i h1
  rw [if_neg h1] at h
  split
  ·rename_i h2; rwa [if_pos h2] at h
  ·rename_i h2
   rw [if_neg h2, Bool.and_eq_true, Bool.and_eq_true] at h
   rw [zer_of h.1.1, h.1.2, h.2]; rfl
theorem tab_of_U {n : Int} {S : List Kx} (h : tabU n S = true) : tabB n S = true ∧ 0 ≤ n ∧ n ≤ 1024 ∧ S.length ≤ 32 ∧ ∀ k ∈ S, (k.ce.length : Int) = n := by
 unfold tabU at h
 simp only [Bool.and_eq_true, decide_eq_true_eq, List.all_eq_true] at h
 obtain ⟨⟨⟨⟨h1, h2⟩, h3⟩, h4⟩, h5⟩ := h
 refine ⟨?_, h1, h2, h3, fun k hk => ?_⟩
 ·unfold tabB
  simp only [Bool.and_eq_true, decide_eq_true_eq, List.all_eq_true]
  refine ⟨⟨⟨⟨h1, h2⟩, h3⟩, h5⟩, fun k hk => ?_⟩
  have := h4 k hk
  unfold colU at this
  unfold colB
  simp only [Bool.and_eq_true, List.all_eq_true] at this ⊢
  exact ⟨this.1, fun c hc => fit_of (this.2 c hc)⟩
 ·have := h4 k hk
  unfold colU shpB at this
  simp only [Bool.and_eq_true, decide_eq_true_eq] at this
  exact this.1.1.2
end Go.Proofs.YtjahkcgckiobkaaGreatDoor
namespace Go.Proofs.YtjahkcgckiobkaaGreatDoor
open Go Go.Dat Go.Proofs Go.RowKit Nat32
theorem law_of {f : Nat} {ds : List DV} {vs : Array Value} {w : World} (hc : PCalls Tryz.prog f ds (.bool true)) (hT : Tab Tryz.prog w) (hs : vs.size = ds.length) (hv : ∀ (k : Nat) d v, ds[k]? = some d → vs[k]? = some v → VI w (fun _ => False) d v) :
  Calls Tryz.prog f vs w fun e w' => e = .returned (.bool true) ∧ Below w.heap.size w w' := by
 refine (hc (fun _ => False) w vs hT (fun b h => h.elim) hs hv).mono ?_
 rintro e w' ⟨v, rfl, hvi, hx⟩
 refine ⟨?_, hx.os, hx.tape, hx.output, hx.size, fun k hk => hx.block k hk id⟩
 cases hvi; rfl
theorem max_shaped {w : World} (h : w.ShapedOpen Tryz.prog) : ∀ g, Tryz.prog.globalNamed maxName = some g → g < w.heap.size ∧ ∃ m, w.cell? ⟨g, 0, none⟩ = some (.int .i64 m) := by
 intro g hg
 rw [show Tryz.prog.globalNamed maxName = some 1 by kernel_rfl] at hg
 cases hg
 obtain ⟨m, hm⟩ := Go.Proofs.cell_of_shapedOpen_int (zero := #[.int .i64 0]) (t := 3) (g := 1) h (of_decide_eq_true (by kernel_rfl)) (by kernel_rfl) rfl (by kernel_rfl) (by kernel_rfl) Tryz.underlying3
 exact ⟨World.block_lt_of_cell? w _ hm, m, hm⟩
theorem tab_shaped {w : World} (h : w.ShapedOpen Tryz.prog) : Tab Tryz.prog w := by
 refine ⟨fun g hg => ?_, max_shaped h⟩
 rw [show Tryz.prog.globalNamed tabName = none by kernel_rfl] at hg
 cases hg
theorem handed_and_shaped {H : Type} {enc : TypeId × Value → H} {a : Assume} {C : Checked} {os : Os} {f : FuncId} {fn : Func} {s : ChangeSpec} {conds : List PathCond} {apart fresh handsOn again : Bool} {X : World → Array Value → Prop}
  (hX : ∀ (w w' : World) (args : Array Value), w.heap = w'.heap → X w args → X w' args)
  (own : ownKnob C.prog.godebug = none) (started : os.Started) (noInit : C.prog.inits.idxOf? f = none) (hfn : C.prog.funcs[f]? = some fn)
  (witness : ∃ (w : World) (tape : Tape) (i : Input), w.os = os ∧ (w.forCall tape i).Shaped C.prog ∧ i.vars = [] ∧ Input.okWide C.prog (w.forCall tape i) .any w.heap.size f i ∧
   ((s.pre enc C.prog fn conds apart (w.forCall tape i).memory i.args ∧ X (w.forCall tape i).memory i.args) ∧ sizedMet enc C.prog fn (OpenSpec.ofChange s) apart (w.forCall tape i).memory i.args) ∧ a.holds C.prog (lone (Frame.enter C.prog f i.args .normal) [] (w.forCall tape i)))
  (contract : ∀ (W : World) (base : Nat) (args : Array Value) (ds gs : List (DataW H)) (before : List MemPlace),
   (∀ (j : Nat) t v, fn.params[j]? = some t → args[j]? = some v → Value.okWide C.prog W .any base t v) →
   DataW.Whole enc C.prog fn.params.toList s.vars apart W args.toList ds gs before → X W args → W.ShapedOpen C.prog →
   Calls C.prog f args W fun e W' => ∃ v, e = .returned v ∧ s.post enc C.prog fn apart fresh handsOn again W args v W') :
  ReturnsInHanded a C os f .any (fun w args => (s.pre enc C.prog fn conds apart w args ∧ X w args) ∧ sizedMet enc C.prog fn (OpenSpec.ofChange s) apart w args) (s.post enc C.prog fn apart fresh handsOn again) := by
 refine returnsInHanded_of_calls own started noInit witness ?_
 intro w tape i _ hsh _ hok hpre _
 obtain ⟨_, _, _, fn', hfn', _, _, _, _, hval⟩ := hok
 obtain rfl : fn' = fn := Option.some.inj (hfn'.symm.trans hfn)
 obtain ⟨⟨⟨ds, gs, before, hw, _⟩, hx⟩, _⟩ := hpre
 refine (contract (w.forCall tape i) w.heap.size i.args ds gs before hval (DataW.Whole.of_heap (w' := w.forCall tape i) (by rfl) hw) (hX _ _ _ (by rfl) hx) hsh).mono ?_
 rintro e W' ⟨v, rfl, hp⟩
 exact ChangeSpec.post_blind hp
theorem lst_D {α : Type} {t : Ty} {f : α → List DV} {p : α → Prop} (hf : ∀ z, IsD t z → ∃ a, p a ∧ z = f a) : ∀ {zs : List (List DV)}, (∀ z ∈ zs, IsD t z) → ∃ l : List α, l.length = zs.length ∧ zs.flatten = l.flatMap f ∧ ∀ a ∈ l, p a
 | [], _ => ⟨[], rfl, rfl, fun a h => by cases h⟩
 | z :: zs, h => by
  obtain ⟨l, h1, h2, h3⟩ := lst_D hf (zs := zs) fun y hy => h y (List.mem_cons_of_mem _ hy)
  obtain ⟨a, g1, g2⟩ := hf z (h z List.mem_cons_self)
  refine ⟨a :: l, by simp [h1], by rw [List.flatten_cons, h2, g2]; rfl, fun x hx => ?_⟩
  rcases List.mem_cons.1 hx with rfl | hx
  ·exact g1
  ·exact h3 x hx
theorem strL_fm (l : List Bs) : l.flatMap (fun s => [DV.str s]) = strL l := by
 induction l with
 | nil => rfl
 | cons s l ih => rw [List.flatMap_cons, ih]; rfl
def okStrs (l : List Bs) : Prop := l.length ≤ 9223372036854775807 ∧ ∀ s ∈ l, s.length ≤ 9223372036854775807
theorem strs_D {zs : List (List DV)} (h : ∀ z ∈ zs, IsD .str z) (hl : zs.length ≤ 9223372036854775807) : ∃ l : List Bs, zs.flatten = strL l ∧ okStrs l := by
 obtain ⟨l, h1, h2, h3⟩ := lst_D (f := fun s : Bs => [DV.str s]) (p := fun s => s.length ≤ 9223372036854775807) (fun z hz => by obtain ⟨s, g1, g2⟩ := hz; exact ⟨s, g1, g2⟩) h
 exact ⟨l, by rw [h2, strL_fm], by rw [h1]; exact hl, h3⟩
theorem strs_D1 {z : List DV} (h : IsD (.sl .str) z) : ∃ l : List Bs, okStrs l ∧ z = [.sl 1 (strL l)] := by
 obtain ⟨zs, h1, h2, rfl⟩ := h
 obtain ⟨l, e, h3⟩ := strs_D h1 h2
 exact ⟨l, h3, by rw [e]; rfl⟩
def okXN (x : XN) : Prop := lim x.2.1 ∧ lim x.2.2 ∧ x.2.1.length ≤ 9223372036854775807 ∧ x.2.2.length ≤ 9223372036854775807
theorem xn_D {z : List DV} (h : IsD ratT z) : ∃ x : XN, okXN x ∧ z = xnC x := by
 obtain ⟨neg, a, d, h1, h2, h3, h4, rfl⟩ := h.rat
 exact ⟨(neg, a, d), ⟨h1, h2, h3, h4⟩, rfl⟩
def celT : Ty := .pair .bool (.pair ratT (.pair (.int .i64) .unit))
theorem cel_D {z : List DV} (h : IsD celT z) : ∃ c : Tc, okXN c.va ∧ z = cxC c := by
 obtain ⟨d0, r0, ⟨b, rfl⟩, ⟨d1, r1, h1, ⟨d2, r2, ⟨n, _, rfl⟩, hu, rfl⟩, rfl⟩, rfl⟩ := h
 rw [show r2 = [] from hu]
 obtain ⟨x, k2, rfl⟩ := xn_D h1
 exact ⟨⟨b, x, n⟩, k2, rfl⟩
def okCels (l : List Tc) : Prop := l.length ≤ 9223372036854775807 ∧ ∀ c ∈ l, okXN c.va
theorem cels_D {zs : List (List DV)} (h : ∀ z ∈ zs, IsD celT z) (hl : zs.length ≤ 9223372036854775807) : ∃ l : List Tc, zs.flatten = cxs l ∧ okCels l := by
 obtain ⟨l, h1, h2, h3⟩ := lst_D (f := cxC) (p := fun c => okXN c.va) (fun z hz => cel_D hz) h
 exact ⟨l, h2, by rw [h1]; exact hl, h3⟩
def colT : Ty := .pair .str (.pair (.int .i64) (.pair (.sl .str) (.pair (.sl celT) .unit)))
def okCol (k : Kx) : Prop := k.nm.length ≤ 9223372036854775807 ∧ okStrs k.le ∧ okCels k.ce
theorem col_D {z : List DV} (h : IsD colT z) : ∃ k : Kx, okCol k ∧ z = kxC k := by
 obtain ⟨d0, r0, ⟨s, g0, rfl⟩, ⟨d1, r1, ⟨n, _, rfl⟩, ⟨d2, r2, h2, ⟨d3, r3, ⟨zs, h3, h4, rfl⟩, hu, rfl⟩, rfl⟩, rfl⟩, rfl⟩ := h
 rw [show r3 = [] from hu]
 obtain ⟨l, k1, rfl⟩ := strs_D1 h2
 obtain ⟨c, e, k2⟩ := cels_D h3 h4
 refine ⟨⟨s, n, l, c⟩, ⟨g0, k1, k2⟩, ?_⟩
 rw [e]; rfl
def tabT : Ty := .pair (.int .i64) (.pair (.sl colT) .unit)
theorem tab_D {z : List DV} (h : IsD tabT z) : ∃ (n : Int) (l : List Kx), (l.length ≤ 9223372036854775807 ∧ ∀ k ∈ l, okCol k) ∧ z = [.int .i64 n, .sl 4 (kxs l)] := by
 obtain ⟨d0, r0, ⟨n, _, rfl⟩, ⟨d1, r1, ⟨zs, h3, h4, rfl⟩, hu, rfl⟩, rfl⟩ := h
 rw [show r1 = [] from hu]
 obtain ⟨l, h1, h2, h5⟩ := lst_D (f := kxC) (p := okCol) (fun z hz => col_D hz) h3
 refine ⟨n, l, ⟨by rw [h1]; exact h4, h5⟩, ?_⟩
 rw [h2]; rfl
end Go.Proofs.YtjahkcgckiobkaaGreatDoor
namespace Go.Proofs.YtjahkcgckiobkaaGreatDoor
open Go Go.Dat Go.Proofs Go.RowKit Go.Shelf Nat32
theorem okT_of {S : List Kx} (hS : S.length ≤ 9223372036854775807 ∧ ∀ k ∈ S, okCol k) (h : tabL S = true) : okT S ∧ S.length ≤ 40 ∧ ∀ k ∈ S, k.ce.length ≤ 40 ∧ k.le.length ≤ 40 ∧ ∀ c ∈ k.ce, okXN c.va ∧ c.va.2.1.length ≤ 8 ∧ c.va.2.2.length ≤ 8 := by
 unfold tabL at h
 simp only [Bool.and_eq_true, decide_eq_true_eq, List.all_eq_true] at h
 have key : ∀ k ∈ S, k.ce.length ≤ 40 ∧ k.le.length ≤ 40 ∧ ∀ c ∈ k.ce, okXN c.va ∧ c.va.2.1.length ≤ 8 ∧ c.va.2.2.length ≤ 8 := fun k hk => by
  have h1 := h.2 k hk
  unfold kxB celsB strsB at h1
  simp only [Bool.and_eq_true, decide_eq_true_eq, List.all_eq_true] at h1
  refine ⟨h1.2.1, h1.1.2.1, fun c hc => ⟨(hS.2 k hk).2.2.2 c hc, ?_⟩⟩
  have h2 := h1.2.2 c hc
  unfold ligX at h2
  exact lightB_spec h2
 refine ⟨⟨by omega, fun k hk => ?_⟩, h.1, key⟩
 obtain ⟨k1, k2, k3⟩ := key k hk
 refine ⟨(hS.2 k hk).1, by omega, by omega, fun c hc => ?_⟩
 obtain ⟨g1', g2', g3'⟩ := k3 c hc
 exact ⟨g1'.1, g1'.2.1, by omega, by omega⟩
end Go.Proofs.YtjahkcgckiobkaaGreatDoor
namespace Go.Proofs.YtjahkcgckiobkaaGreatDoor
open Go Go.Dat Go.Proofs Go.RowKit Nat32
theorem uSameCells_eq (l : List Tc) (hl : l.length ≤ 1000000) (hm : ∀ c ∈ l, okU c.va) : PCalls Tryz.prog 37 [.sl 5 (cxs l), .sl 5 (cxs l)] (.bool true) := by
 have hc : (cxs l).length / 5 = l.length := by rw [cxs_len]; omega
 have hlen := cxs_len l
 refine PCalls_of isuSameCells (by simp [fnuSameCells]) ?_
 unfold codeuSameCells
 have dt : decide (¬ True) = false := decide_eq_false (fun h => h trivial)
 refine zS (zA hc dt) ?_
 refine wFs ?_
 refine zS hc ?_
 refine W_loop (σ := Nat) (fun i => [(0, .sl 5 (cxs l)), (1, .sl 5 (cxs l)), (5, .int .i64 i)]) (fun _ => []) (fun i => i ≤ l.length) (fun i => l.length - i) 0 (Nat.zero_le _) ?_ rfl ?_
 ·simp [subF, lk]
 ·intro i hi
  try simp only at hi ⊢
  by_cases hlt : i < l.length
  ·have d1 : decide ((i : Int) < (l.length : Int)) = true := decide_eq_true (by omega)
   have ei : (i : Int).toNat = i := Int.toNat_natCast i
   have e1 : ((i : Int) + 1) = ((i + 1 : Nat) : Int) := by omega
   have h0 : (cxs l).getD (i * 5) .undef = .bool (l.getD i default).mi := fm_at (j := 0) cxC_len default hlt (by decide) _
   have h4 : (cxs l).getD (i * 5 + 4) .undef = .int .i64 (l.getD i default).lv := fm_at (j := 4) cxC_len default hlt (by decide) _
   have h1 : ((cxs l).drop (i * 5 + 1)).take 3 = xnC (l.getD i default).va := fm_win (j := 1) cxC_len default hlt (by decide)
   have hmem : l.getD i default ∈ l := by rw [List.getD_eq_getElem?_getD, List.getElem?_eq_getElem hlt]; exact List.getElem_mem hlt
   obtain ⟨r, hr, hun⟩ := hm _ hmem
   rw [hun] at h1
   have cp : PCalls Tryz.prog 20 [.agg (xnC (qX r)), .agg (xnC (qX r))] (.bool true) := pSameT r hr
   generalize (l.getD i default).mi = b at *
   generalize (l.getD i default).lv = n at *
   have hbb : (!(b == b)) = false := by cases b <;> rfl
   refine zS (zA hc d1) ?_
   refine wTs ?_
   refine zS (zA hlen (zA ei (zA h0 (zA h1 (zA h4 (zA dt hbb)))))) ?_
   refine cP cp ?_
   refine zR ?_
   refine wFs ?_
   refine zS e1 ?_
   exact ⟨i + 1, by omega, by omega, by simp [subF, lk]⟩
  ·have d1 : decide ((i : Int) < (l.length : Int)) = false := decide_eq_false (by omega)
   refine zS (zA hc d1) ?_
   refine wF ?_
   refine W_exit ?_
   refine zR ?_
   exact W_ret (RetP_1 (.imm rfl))
def okK (k : Kx) : Prop := k.le.length ≤ 1000000 ∧ k.ce.length ≤ 1000000 ∧ ∀ c ∈ k.ce, okU c.va
theorem uSame_eq (n : Int) (S : List Kx) (hl : S.length ≤ 1000000) (hm : ∀ k ∈ S, okK k) : PCalls Tryz.prog 15 [.agg [.int .i64 n, .sl 4 (kxs S)], .agg [.int .i64 n, .sl 4 (kxs S)]] (.bool true) := by
 have hc : (kxs S).length / 4 = S.length := by rw [kxs_len]; omega
 have hlen := kxs_len S
 have hKr := kxs_rf S
 refine PCalls_of isuSame (by simp [fnuSame]) ?_
 unfold codeuSame
 have dt : decide (¬ True) = false := decide_eq_false (fun h => h trivial)
 have hca : (DV.agg [.int .i64 n, .sl 4 (kxs S)]).cells? = some [.int .i64 n, .sl 4 (kxs S)] := rfl
 have hB : ∀ d ∈ [DV.int .i64 n, .sl 4 (kxs S)], d.rf = true := List.all_eq_true.1 rfl
 have hld : (DV.sl 4 (kxs S)).rf = true := rfl
 refine zS (zA hca (zA @cS (zA hc dt))) ?_
 refine wFs ?_
 refine zR ?_
 refine W_loop (σ := Nat) (fun i => [(2, .el [.int .i64 n, .sl 4 (kxs S)] 0), (3, .el [.int .i64 n, .sl 4 (kxs S)] 0), (5, .int .i64 i)]) (fun _ => []) (fun i => i ≤ S.length) (fun i => S.length - i) 0 (Nat.zero_le _) ?_ rfl ?_
 ·simp [subF, lk]
 ·intro i hi
  try simp only at hi ⊢
  by_cases hlt : i < S.length
  ·have d1 : decide ((i : Int) < (S.length : Int)) = true := decide_eq_true (by omega)
   have ei : (i : Int).toNat = i := Int.toNat_natCast i
   have e1 : ((i : Int) + 1) = ((i + 1 : Nat) : Int) := by omega
   have hw : ((kxs S).drop (i * 4)).take 4 = kxC (S.getD i default) := fm_win (j := 0) kxC_len default hlt (Nat.le_refl _)
   have hmem : S.getD i default ∈ S := by rw [List.getD_eq_getElem?_getD, List.getElem?_eq_getElem hlt]; exact List.getElem_mem hlt
   obtain ⟨k1, k2, k3⟩ := hm _ hmem
   generalize S.getD i default = k at *
   have c1 := fSameList_eq k.le (by omega)
   have c2 := uSameCells_eq k.ce k2 k3
   have hcc : (DV.agg (kxC k)).cells? = some (kxC k) := rfl
   have hcl := kxC_len k
   have h0 : (kxC k).getD 0 .undef = .str k.nm := rfl
   have h1 : (kxC k).getD 1 .undef = .int .i64 k.kd := rfl
   have h2 : (kxC k).getD 2 .undef = .sl 1 (strL k.le) := rfl
   have h3 : (kxC k).getD 3 .undef = .sl 5 (cxs k.ce) := rfl
   have hrf := kxC_rf k
   have hrfa : ((kxC k).all DV.rf) = true := List.all_eq_true.2 hrf
   have hone : (kxC k).all DV.one = true := List.all_eq_true.2 (kxC_one k)
   generalize kxC k = C at *
   refine zS (zA @cS (zA hc d1)) ?_
   refine wTs ?_
   refine zS (zA @cS (zA ei (zA hlen (zA hw (zA hld (zA hcc (zA hcl (zA h0 (zA h1 (zA h2 (zA h3 dt))))))))))) ?_
   refine ⟨⟨by omega, hrf⟩, ⟨by omega, by omega⟩, ⟨by omega, hrf⟩, ?_⟩
   have ff : ∀ l, purge 6 (.el l 0) = .el l 0 := fun l => by simp [purge, DV.has]
   refine zS (zA @cS (zA hone (zA hcl (zA h0 (zA h1 (zA h2 (zA h3 dt))))))) ?_
   refine cP c1 ?_
   refine zS (zA @cS (zA hone (zA hcl (zA h0 (zA h1 (zA h2 (zA h3 dt))))))) ?_
   refine cP c2 ?_
   refine zR ?_
   refine wFs ?_
   refine W_freeze 6 (cells := C) rfl hrfa ?_
   refine W_freeze 7 (cells := C) (by simp [rmH, lkH, map_frz 6 C hrf]) hrfa ?_
   have f1 : ∀ (o : Nat) (l : List DV), frz o C (.el l 0) = .el l 0 := fun o l => by simp [frz, purge, DV.has]
   refine zS f1 ?_
   exact ⟨i + 1, by omega, by omega, by simp [subF, lk]⟩
  ·have d1 : decide ((i : Int) < (S.length : Int)) = false := decide_eq_false (by omega)
   refine zS (zA @cS (zA hc d1)) ?_
   refine wF ?_
   refine W_exit ?_
   refine zR ?_
   exact W_ret (RetP_1 (.imm rfl))
end Go.Proofs.YtjahkcgckiobkaaGreatDoor
namespace Go.Proofs.YtjahkcgckiobkaaGreatDoor
open Go Go.Dat Go.Proofs Go.RowKit Go.Shelf Nat32
theorem okT_sel {n : Nat} {S : List Kx} {rows : List Nat} (h : okT S) (hr : ∀ r ∈ rows, r < n) (hl : rows.length ≤ 1024) (hce : ∀ k ∈ S, k.ce.length = n) : okT (selK rows S) ∧ ∀ k ∈ selK rows S, okK k := by
 have key : ∀ k' ∈ selK rows S, k'.nm.length ≤ 9223372036854775807 ∧ k'.le.length ≤ 1000000 ∧ k'.ce.length ≤ 1000000 ∧ ∀ c ∈ k'.ce, okN0 c.va ∧ okU c.va := fun k' hk' => by
  have hlc := selK_ce rows S k' hk'
  rw [selK_eq] at hk'
  obtain ⟨k, hk, rfl⟩ := List.mem_map.1 hk'
  obtain ⟨g1', g2', g3', g4'⟩ := h.2 k hk
  refine ⟨g1', g2', by omega, fun c hc => ?_⟩
  obtain ⟨c0, hc0, rfl⟩ := List.mem_map.1 (show c ∈ (selC rows k).map canC from hc)
  unfold selC at hc0
  obtain ⟨r, hrm, rfl⟩ := List.mem_map.1 hc0
  have h0 := g4' _ (memG (l := k.ce) (i := r) (by rw [hce k hk]; exact hr r hrm))
  exact ⟨okN0_can h0, ⟨_, (RB_xnV h0).mono (by decide), rfl⟩⟩
 exact ⟨⟨by rw [selK_len]; exact h.1, fun k hk => ⟨(key k hk).1, (key k hk).2.1, (key k hk).2.2.1, fun c hc => ((key k hk).2.2.2 c hc).1⟩⟩,
  fun k hk => ⟨(key k hk).2.1, (key k hk).2.2.1, fun c hc => ((key k hk).2.2.2 c hc).2⟩⟩
theorem can_of {n : Int} {S : List Kx} (h : okT S) (hv : tabU n S = true) : ∀ k ∈ S, ∀ c ∈ k.ce, xnC (canC c).va = xnC c.va := fun k hk c hc => by
 obtain ⟨_, _, _, g4'⟩ := h.2 k hk
 have hx := g4' c hc
 unfold tabU at hv
 simp only [Bool.and_eq_true, decide_eq_true_eq, List.all_eq_true] at hv
 have h4 := hv.1.2 k hk
 unfold colU at h4
 simp only [Bool.and_eq_true, List.all_eq_true] at h4
 have h5 := h4.2 c hc
 have z : zeuB c.va = true → xnC (canC c).va = xnC c.va := fun hz => by
  refine xnC_can hx.1 hx.2.1 ?_
  have := zer_of hz
  unfold zerB at this
  exact (Bool.and_eq_true _ _ ▸ this).1
 unfold fitU at h5
 split at h5
 ·rw [Bool.and_eq_true] at h5; exact z h5.1
 ·split at h5
  ·rw [Bool.and_eq_true] at h5; exact xnC_can hx.1 hx.2.1 h5.1
  ·rw [Bool.and_eq_true, Bool.and_eq_true] at h5; exact z h5.1.1
set_option maxHeartbeats 4000000 in
theorem ltSelects_calls (n : Int) (S : List Kx) (a b : List Int) (hS : S.length ≤ 9223372036854775807 ∧ ∀ k ∈ S, okCol k) (hal : a.length ≤ 9223372036854775807) (hbl : b.length ≤ 9223372036854775807) :
  PCalls Tryz.prog 8 [.agg [.int .i64 n, .sl 4 (kxs S)], .sl 1 (a.map (.int .i64)), .sl 1 (b.map (.int .i64))] (.bool true) := by
 have aw := lt_awake_calls
 have c1 := lt_light_calls n S hS.1 (fun k hk => ⟨(hS.2 k hk).2.1, (hS.2 k hk).2.2.1⟩)
 have hal' : (a.map (DV.int .i64)).length = a.length := List.length_map _
 have hbl' : (b.map (DV.int .i64)).length = b.length := List.length_map _
 have hln : (kxs S).length / 4 = S.length := by rw [kxs_len]; omega
 have hlen := kxs_len S
 have hca : (DV.agg [.int .i64 n, .sl 4 (kxs S)]).cells? = some [.int .i64 n, .sl 4 (kxs S)] := rfl
 refine PCalls_of isltSelects (by simp [fnltSelects]) ?_
 unfold codeltSelects
 refine zS (zA hca @cS) ?_
 refine cP c1 ?_
 cases h1 : tabL S
 ·refine zR ?_
  refine wT ?_
  refine zR ?_
  refine cP aw ?_
  refine zR ?_
  exact W_ret (RetP_1 (.imm rfl))
 obtain ⟨hT, hS40, hK⟩ := okT_of hS h1
 by_cases ha : 40 < a.length
 ·have da : decide ((40 : Int) < (a.length : Int)) = true := decide_eq_true (by omega)
  refine zS (zA hal' da) ?_
  refine wT ?_
  refine zR ?_
  refine cP aw ?_
  refine zR ?_
  exact W_ret (RetP_1 (.imm rfl))
 have da : decide ((40 : Int) < (a.length : Int)) = false := decide_eq_false (by omega)
 by_cases hb : 40 < b.length
 ·have db : decide ((40 : Int) < (b.length : Int)) = true := decide_eq_true (by omega)
  refine zS (zA hal' (zA da (zA hbl' db))) ?_
  refine wT ?_
  refine zR ?_
  refine cP aw ?_
  refine zR ?_
  exact W_ret (RetP_1 (.imm rfl))
 have db : decide ((40 : Int) < (b.length : Int)) = false := decide_eq_false (by omega)
 have cu := uValid_calls n S hT
 refine zS (zA hal' (zA da (zA hbl' (zA db @cS)))) ?_
 refine cP cu ?_
 cases hv : tabU n S
 ·refine zR ?_
  refine wT ?_
  refine zR ?_
  refine cP aw ?_
  refine zR ?_
  exact W_ret (RetP_1 (.imm rfl))
 have hcan := can_of hT hv
 obtain ⟨hvB, hn0, hn1, hSl, hce⟩ := tab_of_U hv
 obtain ⟨N, rfl⟩ : ∃ N : Nat, n = N := ⟨n.toNat, by omega⟩
 by_cases hN : 40 < N
 ·have dN : decide ((40 : Int) < (N : Int)) = true := decide_eq_true (by omega)
  refine zS (zA @cS (zA hln dN)) ?_
  refine wT ?_
  refine zR ?_
  refine cP aw ?_
  refine zR ?_
  exact W_ret (RetP_1 (.imm rfl))
 have dN : decide ((40 : Int) < (N : Int)) = false := decide_eq_false (by omega)
 refine zS (zA @cS (zA hln dN)) ?_
 refine wFs ?_
 have hceN : ∀ k ∈ S, k.ce.length = N := fun k hk => by have := hce k hk; omega
 clear c1 cu h1 da db dN hce hn0 hn1
 have gA : ∀ {l : List Int} {i : Nat}, i < l.length → (l.map (DV.int .i64)).getD i .undef = .int .i64 (l.getD i 0) := fun {l i} h => by
  rw [List.getD_eq_getElem?_getD, List.getElem?_map, List.getElem?_eq_getElem h, List.getD_eq_getElem?_getD, List.getElem?_eq_getElem h]; rfl
 have qp : ∀ m o z, o < 200 → 200 ≤ m → purge m (.ptr o z) = .ptr o z := fun m o z h h2 => by
  have e : o ≠ m := by omega
  simp [purge, DV.has, e]
 have hpI : ∀ m l, (ints l).map (purge m) = ints l := fun m l => map_purge m (ints_rf l)
 refine zR ?_
 refine W_own 7 1 200 rfl (by simp [lkH]) ?_
 refine W_own 8 1 201 rfl rfl ?_
 refine W_own 9 1 202 rfl rfl ?_
 refine W_own 10 1 203 rfl rfl ?_
 refine zR ?_
 refine W_loop (σ := Nat) (fun i => [(1, .sl 1 (a.map (.int .i64))), (2, .sl 1 (b.map (.int .i64))), (3, .ptr 3 0), (7, .osl 1 200 0 i), (8, .osl 1 201 0 0), (9, .osl 1 202 0 0), (10, .osl 1 203 0 0), (11, .int .i64 i)]) (fun i => [(3, [.int .i64 N, .sl 4 (kxs S)]), (200, ints (chs (a.take i) N)), (201, []), (202, []), (203, [])]) (fun i => i ≤ a.length ∧ (N = 0 → i = 0)) (fun i => a.length - i) 0 ⟨Nat.zero_le _, fun _ => rfl⟩ ?_ rfl ?_
 ·simp [subF, lk]
 ·rintro i ⟨hi, hi0⟩
  try simp only at hi hi0 ⊢
  by_cases hlt : i < a.length ∧ 0 < N
  ·obtain ⟨hlt, hN0⟩ := hlt
   have dl : decide ((i : Int) < (a.length : Int)) = true := decide_eq_true (by omega)
   have dn0 : decide ((0 : Int) < (N : Int)) = true := decide_eq_true (by omega)
   have ei : (i : Int).toNat = i := Int.toNat_natCast i
   have e1 : ((i : Int) + 1) = ((i + 1 : Nat) : Int) := by omega
   have hga := gA hlt
   have cm := mdModG (a.getD i 0) N hN0 (by omega)
   have htk := chs_succ (n := N) hlt
   have hbe := chs_lt hN0 (a.getD i 0 % (N : Int)).toNat (l := [a.getD i 0]) (by unfold chs; simp)
   have h0 := Int.emod_nonneg (a.getD i 0) (show (N : Int) ≠ 0 by omega)
   obtain ⟨j, hj⟩ : ∃ j : Nat, a.getD i 0 % (N : Int) = j := ⟨(a.getD i 0 % (N : Int)).toNat, by omega⟩
   rw [hj] at cm htk
   rw [Int.toNat_natCast] at htk
   have hap := ints_app (chs (a.take i) N) j
   rw [← htk] at hap
   have hl1 : (ints (chs (a.take i) N)).length = i := by rw [ints_len, chs_len, List.length_take]; omega
   have hpg := hpI 200 (chs (a.take (i + 1)) N)
   refine zS (zA hal' (zA dl (zA dn0 @cS))) ?_
   refine wTs ?_
   refine zS (zA ei (zA hal' (zA hga @cS))) ?_
   refine cP cm ?_
   refine zS @cS ?_
   refine ⟨by simp [DV.rf], ⟨hl1, by omega, by omega, fun h => h, by simp [DV.one]⟩, ?_⟩
   rw [hap, hpg]
   refine zS (zA qp e1) ?_
   exact ⟨i + 1, ⟨by omega, fun h => by omega⟩, by omega, by simp [subF, lk], rfl⟩
  ·have hfin : chs (a.take i) N = if N = 0 then [] else chs a N := by
    by_cases h0 : N = 0
    ·rw [if_pos h0, hi0 h0]; rfl
    ·rw [if_neg h0, List.take_of_length_le (by omega)]
   have hFlt : ∀ r ∈ chs (a.take i) N, r < N := by
    rw [hfin]
    split
    ·intro r hr; cases hr
    ·exact chs_lt (by omega)
   have hFl : (chs (a.take i) N).length = i := by rw [chs_len, List.length_take]; omega
   have hil : i ≤ 40 := by omega
   generalize chs (a.take i) N = F at *
   have hFi := ints_len F
   rw [hFl] at hFi
   refine W_freeze 200 (cells := ints F) rfl (List.all_eq_true.2 (ints_rf F)) ?_
   have hfz : frz 200 (ints F) (.osl 1 200 0 i) = .sl 1 (ints F) := by
    simp [frz, hFi]
    rw [List.take_of_length_le (by omega)]
   have f3 : frz 200 (ints F) (.ptr 3 0) = .ptr 3 0 := by simp [frz, purge, DV.has]
   have stop : (decide ((i : Int) < (a.length : Int)) = false ∧ decide ((1 : Int) < 0) = false) ∨ (decide ((i : Int) < (a.length : Int)) = true ∧ decide ((0 : Int) < (N : Int)) = false) := by
    by_cases h0 : i < a.length
    ·exact .inr ⟨decide_eq_true (by omega), decide_eq_false (by omega)⟩
    ·exact .inl ⟨decide_eq_false (by omega), rfl⟩
   rcases stop with ⟨dl, dn0'⟩ | ⟨dl, dn0'⟩
   all_goals
    refine zS (zA hal' (zA dl (zA dn0' (zA hfz (zA f3 @cS))))) ?_
    refine W_cond rfl (fun h => by cases h) (fun _ => W_exit ?_)
    refine zR ?_
    refine W_loop (σ := Nat) (fun j => [(2, .sl 1 (b.map (.int .i64))), (3, .ptr 3 0), (7, .sl 1 (ints F)), (8, .osl 1 201 0 j), (9, .osl 1 202 0 j), (10, .osl 1 203 0 0), (12, .int .i64 j)]) (fun j => [(3, [.int .i64 N, .sl 4 (kxs S)]), (201, ints (chs (b.take j) i)), (202, ints ((chs (b.take j) i).map fun s => F.getD s 0)), (203, [])]) (fun j => j ≤ b.length ∧ (i = 0 → j = 0)) (fun j => b.length - j) 0 ⟨Nat.zero_le _, fun _ => rfl⟩ ?_ rfl ?_
    ·simp [subF, lk, frz_osl_ne]
    ·rintro j ⟨hj, hj0⟩
     try simp only at hj hj0 ⊢
     by_cases hlj : j < b.length ∧ 0 < i
     ·obtain ⟨hlj, hi0⟩ := hlj
      have dj : decide ((j : Int) < (b.length : Int)) = true := decide_eq_true (by omega)
      have dn1 : decide ((0 : Int) < (i : Int)) = true := decide_eq_true (by omega)
      have ej : (j : Int).toNat = j := Int.toNat_natCast j
      have e2 : ((j : Int) + 1) = ((j + 1 : Nat) : Int) := by omega
      have hgb := gA hlj
      have cm := mdModG (b.getD j 0) i hi0 (by omega)
      have htk := chs_succ (n := i) hlj
      have hbe := chs_lt hi0 (b.getD j 0 % (i : Int)).toNat (l := [b.getD j 0]) (by unfold chs; simp)
      have h0 := Int.emod_nonneg (b.getD j 0) (show (i : Int) ≠ 0 by omega)
      obtain ⟨q, hq⟩ : ∃ q : Nat, b.getD j 0 % (i : Int) = q := ⟨(b.getD j 0 % (i : Int)).toNat, by omega⟩
      rw [hq] at cm htk hbe
      rw [Int.toNat_natCast] at htk hbe
      have eq' : (q : Int).toNat = q := Int.toNat_natCast q
      have hl1 : (ints (chs (b.take j) i)).length = j := by rw [ints_len, chs_len, List.length_take]; omega
      have hl2 : (ints ((chs (b.take j) i).map fun s => F.getD s 0)).length = j := by rw [ints_len, List.length_map, chs_len, List.length_take]; omega
      have hap := ints_app (chs (b.take j) i) q
      rw [← htk] at hap
      have hap2 : ints ((chs (b.take j) i).map fun s => F.getD s 0) ++ [.int .i64 (F.getD q 0 : Nat)] = ints ((chs (b.take (j + 1)) i).map fun s => F.getD s 0) := by rw [htk, List.map_append]; exact ints_app _ _
      have hl3 : (ints (chs (b.take (j + 1)) i)).length = j + 1 := by rw [ints_len, chs_len, List.length_take]; omega
      have hgl : (ints (chs (b.take (j + 1)) i)).getD j .undef = .int .i64 (q : Nat) := by
       rw [← hap, List.getD_eq_getElem?_getD, List.getElem?_append_right (by omega), hl1, Nat.sub_self]; rfl
      have hgF := ints_getD (l := F) (i := q) (by omega)
      have hpg := hpI 201 (chs (b.take (j + 1)) i)
      have hpg2 := hpI 202 ((chs (b.take (j + 1)) i).map fun s => F.getD s 0)
      have hpa := hpI 201 ((chs (b.take j) i).map fun s => F.getD s 0)
      have hpb := hpI 202 (chs (b.take (j + 1)) i)
      refine zS (zA hbl' (zA dj (zA dn1 hFi))) ?_
      refine wTs ?_
      refine zS (zA ej (zA hbl' (zA hgb hFi))) ?_
      refine cP cm ?_
      refine zS @cS ?_
      refine ⟨by simp [DV.rf], ⟨hl1, by omega, by omega, fun h => h, by simp [DV.one]⟩, ?_⟩
      rw [hap, hpg]
      refine zS (zA qp (zA hpa (zA ej (zA eq' (zA hl3 (zA hgl (zA hFi (zA hgF @cS)))))))) ?_
      refine ⟨by simp [DV.rf], ⟨hl2, by omega, by omega, fun h => h, by simp [DV.one]⟩, ?_⟩
      rw [hap2, hpg2]
      refine zS (zA qp (zA hpb e2)) ?_
      exact ⟨j + 1, ⟨by omega, fun h => by omega⟩, by omega, by simp [subF, lk], rfl⟩
     ·have hG2 : ∀ s ∈ chs (b.take j) i, s < F.length := by
       by_cases h0 : i = 0
       ·rw [hj0 h0]; intro s hs; cases hs
       ·rw [hFl]; exact chs_lt (by omega)
      have hGl : (chs (b.take j) i).length = j := by rw [chs_len, List.length_take]; omega
      have hjl : j ≤ 40 := by omega
      generalize chs (b.take j) i = G at *
      have hGi := ints_len G
      rw [hGl] at hGi
      have hBi := ints_len (G.map fun s => F.getD s 0)
      rw [List.length_map, hGl] at hBi
      have hBlt : ∀ r ∈ G.map (fun s => F.getD s 0), r < N := fun r hr => by
       obtain ⟨s, hs, rfl⟩ := List.mem_map.1 hr
       have h1 := hG2 s hs
       refine hFlt _ ?_
       rw [List.getD_eq_getElem?_getD, List.getElem?_eq_getElem h1]
       exact List.getElem_mem h1
      have hBl : (G.map fun s => F.getD s 0).length = j := by rw [List.length_map, hGl]
      have htw := selK_twice (first := F) hG2 S
      generalize hB : (G.map fun s => F.getD s 0) = B at *
      refine W_freeze 201 (cells := ints G) rfl (List.all_eq_true.2 (ints_rf G)) ?_
      refine W_freeze 202 (cells := ints B) (by simp [rmH, lkH, map_frz 201 (ints G) (ints_rf B)]) (List.all_eq_true.2 (ints_rf B)) ?_
      have w1 : frz 201 (ints G) (.osl 1 201 0 j) = .sl 1 (ints G) := by
       simp [frz, hGi]
       rw [List.take_of_length_le (by omega)]
      have w2 : frz 202 (ints B) (.osl 1 202 0 j) = .sl 1 (ints B) := by
       simp [frz, hBi]
       rw [List.take_of_length_le (by omega)]
      have w3 : ∀ m cs o z, o < 200 → 200 ≤ m → frz m cs (.ptr o z) = .ptr o z := fun m cs o z h h2 => by
       have e : o ≠ m := by omega
       simp [frz, purge, DV.has, e]
      have stop2 : (decide ((j : Int) < (b.length : Int)) = false ∧ decide ((1 : Int) < 0) = false) ∨ (decide ((j : Int) < (b.length : Int)) = true ∧ decide ((0 : Int) < (i : Int)) = false) := by
       by_cases h0 : j < b.length
       ·exact .inr ⟨decide_eq_true (by omega), decide_eq_false (by omega)⟩
       ·exact .inl ⟨decide_eq_false (by omega), rfl⟩
      rcases stop2 with ⟨dj, dn1'⟩ | ⟨dj, dn1'⟩
      all_goals
       refine zS (zA hbl' (zA dj (zA dn1' (zA w1 (zA w2 (zA w3 (zA hFi @cS))))))) ?_
       refine W_cond rfl (fun h => by cases h) (fun _ => W_exit ?_)
       refine zR ?_
       refine W_loop (σ := Nat) (fun r => [(3, .ptr 3 0), (7, .sl 1 (ints F)), (8, .sl 1 (ints G)), (9, .sl 1 (ints B)), (10, .osl 1 203 0 r), (13, .int .i64 r)]) (fun r => [(3, [.int .i64 N, .sl 4 (kxs S)]), (203, ints (List.range r))]) (fun r => r ≤ N) (fun r => N - r) 0 (Nat.zero_le _) ?_ rfl ?_
       ·simp [subF, lk]
       ·intro r hr
        try simp only at hr ⊢
        have hRl : (ints (List.range r)).length = r := by rw [ints_len, List.length_range]
        by_cases hlr : r < N
        ·have dr : decide ((r : Int) < (N : Int)) = true := decide_eq_true (by omega)
         have e3 : ((r : Int) + 1) = ((r + 1 : Nat) : Int) := by omega
         have hap3 := ints_app (List.range r) r
         rw [← List.range_succ] at hap3
         have hpg3 := hpI 203 (List.range (r + 1))
         refine zS (zA dr @cS) ?_
         refine wTs ?_
         refine zS @cS ?_
         refine ⟨by simp [DV.rf], ⟨hRl, by omega, by omega, fun h => h, by simp [DV.one]⟩, ?_⟩
         rw [hap3, hpg3]
         refine zS (zA qp e3) ?_
         exact ⟨r + 1, by omega, by omega, by simp [subF, lk], rfl⟩
        ·have dr : decide ((r : Int) < (N : Int)) = false := decide_eq_false (by omega)
         obtain rfl : r = N := by omega
         have okF := okT_sel hT hFlt (by omega) hceN
         have okB := okT_sel hT hBlt (by omega) hceN
         have okA := okT_sel (rows := List.range r) hT (fun q hq => List.mem_range.1 hq) (by rw [List.length_range]; omega) hceN
         have cF := tSelect_calls r S F hT (by omega) hvB hFlt (by omega) hceN
         have cG := tSelect_calls F.length (selK F S) G okF.1 (by rw [selK_len]; omega) (selK_valid hvB hceN hFlt (by omega)) hG2 (by omega) (selK_ce F S)
         have slB := tSelect_calls r S B hT (by omega) hvB hBlt (by omega) hceN
         have slA := tSelect_calls r S (List.range r) hT (by omega) hvB (fun q hq => List.mem_range.1 hq) (by rw [List.length_range]; omega) hceN
         have hall := selK_all hceN hcan
         change PCalls _ _ _ (.tup [.agg [_, .sl 4 (kxs (selK F S))], _]) at cF
         change PCalls _ _ _ (.tup [.agg [_, .sl 4 (kxs (selK G (selK F S)))], _]) at cG
         change PCalls _ _ _ (.tup [.agg [_, .sl 4 (kxs (selK B S))], _]) at slB
         change PCalls _ _ _ (.tup [.agg [_, .sl 4 (kxs (selK (List.range r) S))], _]) at slA
         have s1 := uSame_eq j (selK B S) (by rw [selK_len]; omega) okB.2
         have s2 := uSame_eq r (selK (List.range r) S) (by rw [selK_len]; omega) okA.2
         rw [htw, hGl] at cG
         rw [hBl] at slB
         rw [hall, List.length_range] at slA
         rw [hall] at s2
         refine W_freeze 203 (cells := ints (List.range r)) rfl (List.all_eq_true.2 (ints_rf _)) ?_
         have w4 : frz 203 (ints (List.range r)) (.osl 1 203 0 r) = .sl 1 (ints (List.range r)) := by
          simp [frz, hRl]
          rw [List.take_of_length_le (by omega)]
         have dT : decide True = true := rfl
         generalize kxs (selK F S) = KF at *
         generalize kxs (selK B S) = KB at *
         have w5 := w3 203 (ints (List.range r)) 3 0 (by omega) (by omega)
         clear w3 okF okB okA hcan hvB hv hall htw hT hK hS hceN hFlt hBlt hG2 qp hpI gA hfin
         generalize ints (List.range r) = R at *
         generalize ints F = FF at *
         generalize ints G = GG at *
         generalize ints B = BB at *
         generalize kxs S = KS at *
         refine zS (zA w4 (zA w5 (zA dr @cS))) ?_
         refine W_cond rfl (fun h => by cases h) (fun _ => W_exit ?_)
         refine zS @cS ?_
         refine cP cF ?_
         refine zS @cS ?_
         refine cP cG ?_
         refine zS @cS ?_
         refine cP slB ?_
         refine zS @cS ?_
         refine cP slA ?_
         refine zS @cS ?_
         refine cP aw ?_
         refine zS (zA @cS dT) ?_
         refine cP s1 ?_
         refine zS (zA @cS dT) ?_
         refine cP s2 ?_
         refine zS (zA @cS dT) ?_
         exact W_ret (RetP_1 (.imm rfl))
end Go.Proofs.YtjahkcgckiobkaaGreatDoor
