/- Lemmas of the walk; no conditions beyond those that each states. -/
import Derived.OpenShut
import Derived.Below
import Derived.HandedShaped
import Derived.Handed
import Derived.Test.YtjahkcgckiobkaaGreatDoorD2
import Derived.Test.YtjahkcgckiobkaaGreatDoorT2
import Derived.Test.YtjahkcgckiobkaaGreatDoorN1
import Derived.Test.YtjahkcgckiobkaaGreatDoorC1
import Derived.Test.YtjahkcgckiobkaaGreatDoorD3
import Derived.Test.YtjahkcgckiobkaaGreatDoorT1
set_option linter.unusedSimpArgs false
set_option linter.unusedVariables false
set_option linter.unnecessarySimpa false
set_option maxHeartbeats 4000000
namespace Go.Proofs.YtjahkcgckiobkaaGreatDoor
open Go Go.Dat Go.Proofs Go.RowKit Nat32
def colU (k : Kx) (n : Int) : Bool := shpB k n && dstB k.le && k.ce.all (fitU k)
set_option maxHeartbeats 1000000 in
theorem u_column_calls (k : Kx) (n : Int) (hk1 : k.le.length ≤ 1000000) (hk2 : k.ce.length ≤ 1000000) (hk : ∀ c ∈ k.ce, okN0 c.va) : PCalls Tryz.prog 71 [.agg (kxC k), .int .i64 n] (.bool (colU k n)) := by
 have hck : (DV.agg (kxC k)).cells? = some (kxC k) := rfl
 have l4 := kxC_len k
 have t4 : (kxC k).take 4 = kxC k := rfl
 have m1 : (kxC k).getD 1 .undef = .int .i64 k.kd := rfl
 have m2 : (kxC k).getD 2 .undef = .sl 1 (strL k.le) := rfl
 have m3 : (kxC k).getD 3 .undef = .sl 5 (cxs k.ce) := rfl
 have hll := strL_len k.le
 have hcl : (cxs k.ce).length / 5 = k.ce.length := by rw [cxs_len]; omega
 have hcx := cxs_len k.ce
 have hCa : (kxC k).all DV.rf = true := List.all_eq_true.2 (kxC_rf k)
 have hone : (kxC k).all DV.one = true := List.all_eq_true.2 (kxC_one k)
 have cf := fun c hc => uFits_calls k c (hk c hc)
 have hrfl : ∀ c : Tc, List.all [DV.agg (kxC k), DV.agg (cxC c)] DV.rf = true := fun c => by simp [DV.rf_agg, hCa, List.all_eq_true.2 (cxC_rf c)]
 generalize hC : kxC k = C at *
 obtain ⟨b1, d1⟩ : ∃ b, decide (k.kd = 1) = b := ⟨_, rfl⟩
 obtain ⟨b2, d2⟩ : ∃ b, decide (k.kd = 2) = b := ⟨_, rfl⟩
 obtain ⟨bl, dl⟩ : ∃ b, decide (0 < k.le.length) = b := ⟨_, rfl⟩
 obtain ⟨bm, dm⟩ : ∃ b, decide (k.le.length ≤ 32) = b := ⟨_, rfl⟩
 obtain ⟨bn, dn⟩ : ∃ b, decide ((k.ce.length : Int) = n) = b := ⟨_, rfl⟩
 have e1 : decide (¬ k.kd = 1) = !b1 := by rw [← d1]; simp
 have e2 : decide (¬ k.kd = 2) = !b2 := by rw [← d2]; simp
 have el : decide ((0 : Int) < (k.le.length : Int)) = bl := by rw [← dl]; exact decide_eq_decide.2 (by omega)
 have em : decide ((32 : Int) < (k.le.length : Int)) = !bm := by rw [← dm]; by_cases h : k.le.length ≤ 32 <;> simp [h] <;> omega
 have en : decide (¬ (k.ce.length : Int) = n) = !bn := by rw [← dn]; simp
 refine PCalls_of isu_column (by simp [fnu_column]) ?_
 unfold codeu_column colU
 have hsh : shpB k n = ((b1 || b2) && !(b1 && bl) && bm && bn) := by unfold shpB; rw [d1, d2, dl, dm, dn]
 rw [hsh]
 by_cases hb : ((b1 || b2) && !(b1 && bl) && bm && bn) = true
 ·rw [hb, Bool.true_and]
  have hbn : bn = true := by cases bn <;> simp_all
  have hn : (k.ce.length : Int) = n := by rw [hbn] at dn; exact of_decide_eq_true dn
  cases b1 <;> cases b2 <;> cases bl <;> cases bm <;> cases bn
  all_goals first
   | (exact absurd hb (by decide))
   | skip
  all_goals
   clear hb hsh hbn
   refine zS (zA hck (zA hone (zA l4 (zA m1 (zA m2 (zA m3 (zA hll (zA hcl (zA d1 (zA e1 (zA e2 (zA el (zA em (zA en (zA @cS (zA @Bool.not_true @Bool.not_false)))))))))))))))) ?_
   refine wFs ?_
   clear d1 d2 dl dm dn e1 e2 el em en
   refine zR ?_
   refine W_loop (σ := Nat) (fun i => [(1, .int .i64 n), (2, .ptr 2 0), (5, .int .i64 i)]) (fun _ => [(2, C)]) (fun i => i ≤ k.le.length ∧ ∀ j, j < i → ixS (k.le.take j) (k.le.getD j []) < 0) (fun i => k.le.length - i) 0 ⟨Nat.zero_le _, by simp⟩ ?_ rfl ?_
   ·simp [subF, lk]
   ·rintro i ⟨hi, hall⟩
    try simp only at hi hall ⊢
    by_cases hlt : i < k.le.length
    ·have dl : decide ((i : Int) < (k.le.length : Int)) = true := decide_eq_true (by omega)
     have ei : (i : Int).toNat = i := Int.toNat_natCast i
     have e1 : ((i : Int) + 1) = ((i + 1 : Nat) : Int) := by omega
     have hg := strL_getD hlt
     have hts : (strL k.le).take i = strL (k.le.take i) := by unfold strL; rw [List.map_take]
     have cx := uIndex_calls (k.le.take i) (k.le.getD i []) (by rw [List.length_take]; omega)
     have hno := @dstB_no k.le i hlt
     generalize hT : strL (k.le.take i) = T at *
     refine zS (zA l4 (zA m2 (zA hll dl))) ?_
     refine wTs ?_
     refine zS (zA ei (zA hg (zA hll (zA l4 (zA m2 (zA hts (zA @Nat.mul_one (zA @Nat.zero_mul (zA @List.drop_zero.{0} @Nat.div_one))))))))) ?_
     refine cP cx ?_
     by_cases hx : ixS (k.le.take i) (k.le.getD i []) < 0
     ·have dx : decide (0 ≤ ixS (k.le.take i) (k.le.getD i [])) = false := decide_eq_false (by omega)
      refine zS dx ?_
      refine wFs ?_
      refine zS e1 ?_
      exact ⟨i + 1, ⟨by omega, fun j hj => by
       rcases Nat.lt_or_ge j i with h2 | h2
       ·exact hall j h2
       ·obtain rfl : j = i := by omega
        exact hx⟩, by omega, by simp [subF, lk]⟩
     ·have dx : decide (0 ≤ ixS (k.le.take i) (k.le.getD i [])) = true := decide_eq_true (by omega)
      rw [hno hx, Bool.false_and]
      refine zS dx ?_
      refine wT ?_
      refine zR ?_
      exact W_ret (RetP_1 (.imm rfl))
    ·have dl : decide ((i : Int) < (k.le.length : Int)) = false := decide_eq_false (by omega)
     rw [dstB_yes fun j hj => hall j (by omega), Bool.true_and]
     refine zS (zA l4 (zA m2 (zA hll dl))) ?_
     refine W_cond rfl (fun h => by cases h) (fun _ => W_exit ?_)
     refine zR ?_
     refine W_loop (σ := Nat) (fun i => [(1, .int .i64 n), (2, .ptr 2 0), (6, .int .i64 i)]) (fun _ => [(2, C)]) (fun i => i ≤ k.ce.length ∧ ∀ j, j < i → fitU k (k.ce.getD j default) = true) (fun i => k.ce.length - i) 0 ⟨Nat.zero_le _, by simp⟩ ?_ rfl ?_
     ·simp [subF, lk]
     ·rintro i ⟨hi, hall⟩
      try simp only at hi hall ⊢
      by_cases hlt : i < k.ce.length
      ·have dl : decide ((i : Int) < n) = true := decide_eq_true (by omega)
       have ei : (i : Int).toNat = i := Int.toNat_natCast i
       have e1 : ((i : Int) + 1) = ((i + 1 : Nat) : Int) := by omega
       have hw : ((cxs k.ce).drop (i * 5)).take 5 = cxC (k.ce.getD i default) := fm_win (j := 0) cxC_len default hlt (Nat.le_refl _)
       have cc := cf _ (memG hlt)
       have hno := fun h => all_no (p := fitU k) hlt h
       refine zS dl ?_
       refine wTs ?_
       refine zS (zA ei (zA l4 (zA t4 (zA m3 (zA hcx (zA hw (zA @cS @List.drop_zero.{0}))))))) ?_
       refine callC_pure cc (hrfl _) ?_
       cases hx : fitU k (k.ce.getD i default)
       ·rw [hno hx]
        refine zR ?_
        refine wT ?_
        refine zR ?_
        exact W_ret (RetP_1 (.imm rfl))
       ·refine zR ?_
        refine wFs ?_
        refine zS e1 ?_
        exact ⟨i + 1, ⟨by omega, fun j hj => by
         rcases Nat.lt_or_ge j i with h2 | h2
         ·exact hall j h2
         ·obtain rfl : j = i := by omega
          exact hx⟩, by omega, by simp [subF, lk]⟩
      ·have dl : decide ((i : Int) < n) = false := decide_eq_false (by omega)
       rw [all_yes (p := fitU k) fun j hj => hall j (by omega)]
       refine zS dl ?_
       refine W_cond rfl (fun h => by cases h) (fun _ => W_exit ?_)
       refine zR ?_
       exact W_ret (RetP_1 (.imm rfl))
 ·have hb' := Bool.eq_false_iff.2 hb
  rw [hb', Bool.false_and, Bool.false_and]
  cases b1 <;> cases b2 <;> cases bl <;> cases bm <;> cases bn
  all_goals first
   | (exact absurd rfl hb)
   | skip
  all_goals
   refine zS (zA hck (zA hone (zA l4 (zA m1 (zA m2 (zA m3 (zA hll (zA hcl (zA d1 (zA e1 (zA e2 (zA el (zA em (zA en (zA @cS (zA @Bool.not_true @Bool.not_false)))))))))))))))) ?_
   refine wT ?_
   refine zR ?_
   exact W_ret (RetP_1 (.imm rfl))
def tabU (n : Int) (S : List Kx) : Bool := decide (0 ≤ n) && decide (n ≤ 1024) && decide (S.length ≤ 32) && (S.all fun k => colU k n) && namesB (knmL S)
theorem uValid_calls (n : Int) (S : List Kx) (h : okT S) : PCalls Tryz.prog 29 [.agg [.int .i64 n, .sl 4 (kxs S)]] (.bool (tabU n S)) := by
 obtain ⟨hl, hk⟩ := h
 have hln : (kxs S).length / 4 = S.length := by rw [kxs_len]; omega
 have hlen := kxs_len S
 have hca : (DV.agg [.int .i64 n, .sl 4 (kxs S)]).cells? = some [.int .i64 n, .sl 4 (kxs S)] := rfl
 have c2 := u_names_calls (knmL S) (by rw [knmL_len]; omega) (fun s hs => by
  unfold knmL at hs
  obtain ⟨f, hf, rfl⟩ := List.mem_map.1 hs
  exact (hk f hf).1)
 refine PCalls_of isuValid (by simp [fnuValid]) ?_
 unfold codeuValid tabU
 by_cases g0 : ¬ 0 ≤ n
 ·have d0 : decide (n < 0) = true := decide_eq_true (by omega)
  rw [decide_eq_false g0]
  refine zS (zA hca (zA @cS (zA hln d0))) ?_
  refine wT ?_
  refine zR ?_
  exact W_ret (RetP_1 (.imm rfl))
 replace g0 := Classical.not_not.1 g0
 have d0 : decide (n < 0) = false := decide_eq_false (by omega)
 by_cases g1 : ¬ n ≤ 1024
 ·have d1 : decide (1024 < n) = true := decide_eq_true (by omega)
  rw [decide_eq_false g1, Bool.and_false]
  refine zS (zA hca (zA @cS (zA hln (zA d0 d1)))) ?_
  refine wT ?_
  refine zR ?_
  exact W_ret (RetP_1 (.imm rfl))
 replace g1 := Classical.not_not.1 g1
 have d1 : decide (1024 < n) = false := decide_eq_false (by omega)
 by_cases g2 : ¬ S.length ≤ 32
 ·have d2 : decide ((32 : Int) < (S.length : Int)) = true := decide_eq_true (by omega)
  rw [decide_eq_false g2, Bool.and_false]
  refine zS (zA hca (zA @cS (zA hln (zA d0 (zA d1 d2))))) ?_
  refine wT ?_
  refine zR ?_
  exact W_ret (RetP_1 (.imm rfl))
 replace g2 := Classical.not_not.1 g2
 have d2 : decide ((32 : Int) < (S.length : Int)) = false := decide_eq_false (by omega)
 rw [decide_eq_true g0, decide_eq_true g1, decide_eq_true g2, Bool.true_and, Bool.true_and, Bool.true_and]
 refine zS (zA hca (zA @cS (zA hln (zA d0 (zA d1 d2))))) ?_
 refine wFs ?_
 refine zR ?_
 refine W_own 3 1 200 rfl (by simp [lkH]) ?_
 refine zR ?_
 refine W_loop (σ := Nat) (fun i => [(1, .ptr 1 0), (3, .osl 1 200 0 i), (4, .int .i64 i)]) (fun i => [(1, [.int .i64 n, .sl 4 (kxs S)]), (200, strL ((knmL S).take i))]) (fun i => i ≤ S.length ∧ ∀ j, j < i → colU (S.getD j default) n = true) (fun i => S.length - i) 0 ⟨Nat.zero_le _, by simp⟩ ?_ rfl ?_
 ·simp [subF, lk]
 ·rintro i ⟨hi, hall⟩
  try simp only at hi hall ⊢
  by_cases hlt : i < S.length
  ·have dl : decide ((i : Int) < (S.length : Int)) = true := decide_eq_true (by omega)
   have ei : (i : Int).toNat = i := Int.toNat_natCast i
   have e1 : ((i : Int) + 1) = ((i + 1 : Nat) : Int) := by omega
   have hg0 : (kxs S).getD (i * 4) .undef = .str (S.getD i default).nm := fm_at (j := 0) kxC_len default hlt (by decide) .undef
   have hw : ((kxs S).drop (i * 4)).take 4 = kxC (S.getD i default) := fm_win (j := 0) kxC_len default hlt (Nat.le_refl _)
   have htk : strL ((knmL S).take i) ++ [.str (S.getD i default).nm] = strL ((knmL S).take (i + 1)) := by
    unfold strL
    rw [List.take_add_one, List.map_append]
    unfold knmL
    rw [List.getElem?_map, List.getElem?_eq_getElem hlt, List.getD_eq_getElem?_getD, List.getElem?_eq_getElem hlt]
    rfl
   have hl1 : (strL ((knmL S).take i)).length = i := by rw [strL_len, List.length_take, knmL_len]; omega
   have hpg := map_purge 200 (List.all_eq_true.1 (strL_rf ((knmL S).take (i + 1))))
   have hm := hk _ (memG hlt)
   have cc := u_column_calls (S.getD i default) n hm.2.1 hm.2.2.1 hm.2.2.2
   have hno := fun h => all_no (p := fun k => colU k n) hlt h
   have hnx : colU (S.getD i default) n = true → ∀ j, j < i + 1 → colU (S.getD j default) n = true := fun h j hj => by
    rcases Nat.lt_or_ge j i with h2 | h2
    ·exact hall j h2
    ·obtain rfl : j = i := by omega
     exact h
   have hca : List.all [DV.agg (kxC (S.getD i default)), .int .i64 n] DV.rf = true := by rw [List.all_cons, List.all_cons, DV.rf_agg, List.all_eq_true.2 (kxC_rf _)]; rfl
   generalize strL ((knmL S).take i) = Y at *
   generalize hZ : strL ((knmL S).take (i + 1)) = Z at *
   generalize S.getD i default = k at *
   have q1 : purge 200 (.ptr 1 0) = .ptr 1 0 := by simp [purge, DV.has]
   refine zS (zA @cS (zA dl hln)) ?_
   refine wTs ?_
   refine zS (zA @cS (zA ei (zA hlen hg0))) ?_
   refine ⟨by simp [DV.rf], ⟨hl1, by omega, by omega, fun h => h, by simp [DV.one]⟩, ?_⟩
   rw [htk, hpg]
   refine zS (zA q1 (zA @cS (zA ei (zA hlen hw)))) ?_
   refine callC_pure cc hca ?_
   cases hb : colU k n
   ·rw [hno hb, Bool.false_and]
    refine zR ?_
    refine wT ?_
    refine zR ?_
    exact W_ret (RetP_1 (.imm rfl))
   ·refine zR ?_
    refine wFs ?_
    refine zS e1 ?_
    exact ⟨i + 1, ⟨by omega, hnx hb⟩, by omega, by simp [subF, lk], by rw [hZ]⟩
  ·have dl : decide ((i : Int) < (S.length : Int)) = false := decide_eq_false (by omega)
   obtain rfl : i = S.length := by omega
   have htl : (knmL S).take S.length = knmL S := List.take_of_length_le (by rw [knmL_len]; exact Nat.le_refl _)
   rw [htl, all_yes (p := fun k => colU k n) fun j hj => hall j hj, Bool.true_and]
   have hrf := strL_rf (knmL S)
   have hsl : (strL (knmL S)).length = S.length := by rw [strL_len, knmL_len]
   refine W_freeze 200 (cells := strL (knmL S)) rfl hrf ?_
   have hfz : frz 200 (strL (knmL S)) (.osl 1 200 0 S.length) = .sl 1 (strL (knmL S)) := by
    simp [frz, hsl]
    rw [List.take_of_length_le (by omega)]
   have q2 : frz 200 (strL (knmL S)) (.ptr 1 0) = .ptr 1 0 := by simp [frz, purge, DV.has]
   refine zS (zA @cS (zA dl (zA hln (zA hfz q2)))) ?_
   refine W_cond rfl (fun h => by cases h) (fun _ => W_exit ?_)
   refine zR ?_
   refine cP c2 ?_
   refine zR ?_
   exact W_ret (RetP_1 (.imm rfl))
theorem mdModG (k : Int) (n : Nat) (hn : 0 < n) (hn2 : n ≤ 1000000) : PCalls Tryz.prog 16 [.int .i64 k, .int .i64 n] (.int .i64 (k % n)) := by
 obtain ⟨h1, h2, h3, h4⟩ := tmodG k hn
 have hne : (n : Int) ≠ 0 := by omega
 refine PCalls_of ismdMod (by simp [fnmdMod]) ?_
 unfold codemdMod
 by_cases h : k.tmod n < 0
 ·have d : decide (k.tmod n < 0) = true := decide_eq_true h
  rw [← h3 h]
  refine zS d ?_
  refine wT ?_
  refine zR ?_
  exact W_ret (RetP_1 (.imm rfl))
 ·have d : decide (k.tmod n < 0) = false := decide_eq_false h
  rw [← h4 h]
  refine zS d ?_
  refine wFs ?_
  refine zR ?_
  exact W_ret (RetP_1 (.imm rfl))
theorem tCell_calls (c : Tc) (h : okN0 c.va) : PCalls Tryz.prog 84 [.agg (cxC c)] (.agg (cxC (canC c))) := by
 have hcx : (DV.agg (cxC c)).cells? = some (cxC c) := rfl
 have n1 : ((cxC c).drop 1).take 3 = xnC c.va := rfl
 have l5 := cxC_len c
 have ca : PCalls Tryz.prog 111 [.agg (xnC c.va), .agg [.bool false, .nils, .nils]] (.agg (xnC (qX (xnV c.va)))) := by
  refine PCalls_wk (ds' := [.agg (xnC c.va), .agg (xnC (false, [], []))]) (.cons (WkD.refl _) (.cons (WkD.agg (.cons (WkD.refl _) (.cons (WkD.nils 1) (.cons (WkD.nils 1) .nil)))) .nil)) ?_
  have := qAdd_calls c.va.1 c.va.2.1 c.va.2.2 false [] [] (by have := h.2.2.1; omega) (by have := h.2.2.2; omega) (by decide) (by decide) h.1 h.2.1 lim_nil lim_nil
  rw [rv_00, Rat.add_zero] at this
  exact this
 have hst : (cxC c).take 1 ++ xnC (qX (xnV c.va)) ++ (cxC c).drop 4 = cxC (canC c) := rfl
 have hq3 : (xnC (qX (xnV c.va))).length = 3 := rfl
 have hqc : (DV.agg (xnC (qX (xnV c.va)))).cells? = some (xnC (qX (xnV c.va))) := rfl
 have hcc : (DV.agg (cxC (canC c))).cells? = some (cxC (canC c)) := rfl
 have lc5 := cxC_len (canC c)
 have tc5 : (cxC (canC c)).take 5 = cxC (canC c) := rfl
 have hrf := cxC_rf (canC c)
 have hone : (cxC (canC c)).all DV.one = true := List.all_eq_true.2 (cxC_one _)
 refine PCalls_of istCell (by simp [fntCell]) ?_
 unfold codetCell
 generalize xnC (qX (xnV c.va)) = X at *
 generalize cxC (canC c) = C2 at *
 refine zS (zA hcx (zA l5 (zA n1 @cS))) ?_
 refine cP ca ?_
 refine zS (zA hqc (zA hq3 (zA l5 (zA hst (zA tc5 (zA hone (zA lc5 @cS))))))) ?_
 exact W_ret (RetP_c rfl rfl lc5 (.imm (by rw [DV.rf_agg]; exact List.all_eq_true.2 hrf)))
set_option maxHeartbeats 4000000 in
theorem tWith_calls (n0 rows : Int) (S : List Kx) (v : DV) (g : Nat) (cs : List DV) (cells : Nat → Kx → List Tc) (hS : S.length ≤ 1000) (hle : ∀ k ∈ S, k.le.length ≤ 1000000) (hv : isClo v g cs) (hvr : v.rf = true) (hcs : cs.all DV.rf = true) (hg : Callable Tryz.prog g)
  (hc : ∀ i, i < S.length → PCalls Tryz.prog g ([.int .i64 (i : Nat), .agg (kxC (S.getD i default))] ++ cs) (.sl 5 (cxs (cells i (S.getD i default)))))
  (hcl : ∀ i, i < S.length → (cells i (S.getD i default)).length ≤ 1000000 ∧ ∀ c ∈ cells i (S.getD i default), okN0 c.va) :
  PCalls Tryz.prog 76 [.agg [.int .i64 n0, .sl 4 (kxs S)], .int .i64 rows, v] (.agg [.int .i64 rows, .sl 4 (kxs (withK cells S S.length))]) := by
 have hln : (kxs S).length / 4 = S.length := by rw [kxs_len]; omega
 have hlen := kxs_len S
 have hca : (DV.agg [.int .i64 n0, .sl 4 (kxs S)]).cells? = some [.int .i64 n0, .sl 4 (kxs S)] := rfl
 have pv : ∀ o, purge o v = v := fun o => purge_of_rf o hvr
 have fv : ∀ o cs, frz o cs v = v := fun o cs => by
  have := map_frz o cs (cs := [v]) (by simpa using hvr)
  simpa using this
 have hl2 : laid [DV.int .i64 0, .nils] [(0, 1, .int .i64 rows)] = some [.int .i64 rows, .nils] := rfl
 refine PCalls_of istWith (by simp [fntWith]) ?_
 unfold codetWith
 refine zS (zA hca (zA @cS hl2)) ?_
 refine W_ownc 7 1 4 300 rfl rfl rfl ?_
 refine zS (zA @cS hln) ?_
 refine W_loop (σ := Nat) (fun i => [(2, v), (6, .ptr 6 0), (7, .ptr 7 0), (16, .sl 4 (kxs S)), (17, .int .i64 S.length), (18, .int .i64 i)]) (fun i => [(3, [.int .i64 n0, .sl 4 (kxs S)]), (6, [.int .i64 0, .nils]), (7, [.int .i64 rows, .osl 4 300 0 i]), (300, kxs (withK cells S i))]) (fun i => i ≤ S.length) (fun i => S.length - i) 0 (Nat.zero_le _) ?_ rfl ?_
 ·simp [subF, lk]
 ·intro i hi
  try simp only at hi ⊢
  have hWl := withK_len cells S i
  have hWx := kxs_len (withK cells S i)
  rw [hWl] at hWx
  by_cases hlt : i < S.length
  ·have dl : decide ((i : Int) < (S.length : Int)) = true := decide_eq_true (by omega)
   have ei : (i : Int).toNat = i := Int.toNat_natCast i
   have e1 : ((i : Int) + 1) = ((i + 1 : Nat) : Int) := by omega
   have hw : ((kxs S).drop (i * 4)).take 4 = kxC (S.getD i default) := fm_win (j := 0) kxC_len default hlt (Nat.le_refl _)
   have cl := slCloneS_calls (S.getD i default).le (by have := hle _ (memG hlt); omega)
   have cf := hc i hlt
   obtain ⟨hc1, hc2⟩ := hcl i hlt
   have hsuc := withK_succ cells S i
   generalize S.getD i default = k at *
   generalize cells i k = L at *
   have hcc : (DV.agg (kxC k)).cells? = some (kxC k) := rfl
   have hkl := kxC_len k
   have htk : (kxC k).take 4 = kxC k := rfl
   have h0 : (kxC k).getD 0 .undef = .str k.nm := rfl
   have h1 : (kxC k).getD 1 .undef = .int .i64 k.kd := rfl
   have h2 : (kxC k).getD 2 .undef = .sl 1 (strL k.le) := rfl
   have hkr := kxC_rf k
   have hka : (kxC k).all DV.rf = true := List.all_eq_true.2 hkr
   have hone : (kxC k).all DV.one = true := List.all_eq_true.2 (kxC_one k)
   have hld : laid [DV.str [], .int .i64 0, .nils, .nils] [(0, 1, .str k.nm), (1, 1, .int .i64 k.kd), (2, 1, .sl 1 (strL k.le))] = some [.str k.nm, .int .i64 k.kd, .sl 1 (strL k.le), .nils] := rfl
   have hll := cxs_len L
   have hlc : (cxs L).length / 5 = L.length := by omega
   generalize hC : kxC k = C at *
   refine zS dl ?_
   refine wTs ?_
   refine zS (zA ei (zA hlen (zA hw (zA hone (zA hkl (zA htk (zA h0 (zA h1 (zA h2 (zA @cS @List.drop_zero.{0})))))))))) ?_
   refine cP cl ?_
   refine zE (zA hld @cS) ?_
   refine W_ownc 10 3 5 301 rfl rfl rfl ?_
   refine W_seq ?_
   refine W_seq ?_
   refine W_callV [om 31 2, om 32 8, ot 33 (.ldn 4 (.x 9))] [ox 35 (.len 5 (.x 34)), ox 36 (.mv (oi 0))] (.x 34) (.t 31) [.t 32, .t 33] rfl ?_
   refine zE (zA hkl (zA htk (zA @cS @List.drop_zero.{0}))) ?_
   refine ⟨g, cs, hv, hg, callR_pure cf (by rw [List.all_cons, List.all_cons, DV.rf_agg, hka, hcs]; rfl) ?_⟩
   refine zS hlc ?_
   refine W_loop (σ := Nat) (fun j => [(2, v), (6, .ptr 6 0), (7, .ptr 7 0), (9, .ptr 9 0), (10, .ptr 10 0), (16, .sl 4 (kxs S)), (17, .int .i64 S.length), (18, .int .i64 i), (34, .sl 5 (cxs L)), (35, .int .i64 L.length), (36, .int .i64 j)]) (fun j => [(3, [.int .i64 n0, .sl 4 (kxs S)]), (6, [.int .i64 0, .nils]), (7, [.int .i64 rows, .osl 4 300 0 i]), (9, C), (10, [.str k.nm, .int .i64 k.kd, .sl 1 (strL k.le), .osl 5 301 0 j]), (300, kxs (withK cells S i)), (301, cxs ((L.take j).map canC))]) (fun j => j ≤ L.length) (fun j => L.length - j) 0 (Nat.zero_le _) ?_ rfl ?_
   ·simp [subF, lk]
   ·intro j hj
    try simp only at hj ⊢
    have hWr := kxs_rf (withK cells S i)
    by_cases hlj : j < L.length
    ·have dj : decide ((j : Int) < (L.length : Int)) = true := decide_eq_true (by omega)
     have ej : (j : Int).toNat = j := Int.toNat_natCast j
     have e2 : ((j : Int) + 1) = ((j + 1 : Nat) : Int) := by omega
     have hwj : ((cxs L).drop (j * 5)).take 5 = cxC (L.getD j default) := fm_win (j := 0) cxC_len default hlj (Nat.le_refl _)
     have ccl := tCell_calls _ (hc2 _ (memG hlj))
     have hsn : cxs ((L.take j).map canC) ++ cxC (canC (L.getD j default)) = cxs ((L.take (j + 1)).map canC) := by
      rw [take_snocD default hlj, List.map_append]; exact fm_snoc _ _
     have hl1 : (cxs ((L.take j).map canC)).length = j * 5 := by rw [cxs_len, List.length_map, List.length_take]; omega
     generalize L.getD j default = c at *
     have h5 := cxC_len c
     have h5a := cxC_rf c
     have h5b : (cxC c).all DV.rf = true := List.all_eq_true.2 h5a
     have h5o : (cxC c).all DV.one = true := List.all_eq_true.2 (cxC_one c)
     have h5t : (cxC c).take 5 = cxC c := rfl
     have h5c : List.all [DV.agg (cxC c)] DV.rf = true := by rw [List.all_cons, DV.rf_agg, h5b]; rfl
     have hpg := map_purge 301 (cxs_rf ((L.take (j + 1)).map canC))
     have hpW := map_purge 301 hWr
     have hpC := map_purge 301 hkr
     have hpc := map_purge 301 h5a
     have q5 := cxC_len (canC c)
     have q5r := cxC_rf (canC c)
     have q5o := cxC_one (canC c)
     have hlk : laid [DV.bool false, .bool false, .nils, .nils, .int .i64 0] [(0, 5, .agg (cxC (canC c)))] = some (cxC (canC c)) := rfl
     have qp : ∀ o z, o < 300 → purge 301 (.ptr o z) = .ptr o z := fun o z h => by
      have e : o ≠ 301 := by omega
      simp [purge, DV.has, e]
     have hfm := map_frz 12 (cxC c) (cxs_rf ((L.take (j + 1)).map canC))
     have hfW := map_frz 12 (cxC c) hWr
     have hfC := map_frz 12 (cxC c) hkr
     have fp : ∀ o z, o < 12 → frz 12 (cxC c) (.ptr o z) = .ptr o z := fun o z h => by
      have e : o ≠ 12 := by omega
      simp [frz, purge, DV.has, e]
     have ff := fv 12 (cxC c)
     generalize cxC (canC c) = CC at *
     generalize cxC c = C5 at *
     refine zS dj ?_
     refine wTs ?_
     refine W_seq ?_
     refine W_block ?_
     refine W_seq ?_
     refine W_reg ?_
     refine zE (zA ej (zA hll (zA hwj (zA h5o (zA h5 (zA h5t (zA @cS @List.drop_zero.{0}))))))) ?_
     refine ⟨⟨by omega, by omega⟩, by omega, ?_⟩
     refine W_regd ?_
     refine zE (zA h5o (zA h5 (zA h5t (zA @cS @List.drop_zero.{0})))) ?_
     refine callC_pure ccl h5c ?_
     refine zE (zA hlk (zA h5o (zA h5 (zA h5t (zA @cS @List.drop_zero.{0}))))) ?_
     refine ⟨q5r, ⟨hl1, by omega, by omega, fun h => h, q5o⟩, ?_⟩
     rw [hsn, hpg, hpC, hpc, hpW, q5]
     refine zE (zA qp pv) ?_
     refine ⟨rfl, ?_⟩
     refine W_freeze 12 (cells := C5) rfl h5b ?_
     refine zS (zA hfm (zA hfW (zA hfC (zA fp (zA ff e2))))) ?_
     exact ⟨j + 1, by omega, by omega, by simp [subF, lk], rfl⟩
    ·have dj : decide ((j : Int) < (L.length : Int)) = false := decide_eq_false (by omega)
     obtain rfl : j = L.length := by omega
     rw [List.take_length]
     have hXr := cxs_rf (L.map canC)
     have hXl : (cxs (L.map canC)).length = L.length * 5 := by rw [cxs_len, List.length_map]
     have hkc : kxC (canK k L) = [.str k.nm, .int .i64 k.kd, .sl 1 (strL k.le), .sl 5 (cxs (L.map canC))] := rfl
     have hsn : kxs (withK cells S i) ++ kxC (canK k L) = kxs (withK cells S (i + 1)) := by rw [hsuc]; exact fm_snoc _ _
     rw [hkc] at hsn
     have hld4 : laid [DV.str [], .int .i64 0, .nils, .nils] [(0, 4, .agg [.str k.nm, .int .i64 k.kd, .sl 1 (strL k.le), .sl 5 (cxs (L.map canC))])] = some [.str k.nm, .int .i64 k.kd, .sl 1 (strL k.le), .sl 5 (cxs (L.map canC))] := rfl
     generalize cxs (L.map canC) = X at *
     refine W_freeze 301 (cells := X) rfl (List.all_eq_true.2 hXr) ?_
     have hfx : frz 301 X (.osl 5 301 0 L.length) = .sl 5 X := by
      simp [frz, hXl]
      rw [List.take_of_length_le (by omega)]
     have fp : ∀ o z, o < 300 → frz 301 X (.ptr o z) = .ptr o z := fun o z h => by
      have e : o ≠ 301 := by omega
      simp [frz, purge, DV.has, e]
     have hfW := map_frz 301 X hWr
     have hfC := map_frz 301 X hkr
     have ff := fv 301 X
     have qp : ∀ o z, o < 300 → purge 300 (.ptr o z) = .ptr o z := fun o z h => by
      have e : o ≠ 300 := by omega
      simp [purge, DV.has, e]
     have hpC := map_purge 300 hkr
     have hpN := map_purge 300 (kxs_rf (withK cells S (i + 1)))
     refine zS (zA dj (zA hfx (zA fp (zA hfW (zA hfC ff))))) ?_
     refine W_cond rfl (fun h => by cases h) (fun _ => W_exit ?_)
     refine zD ?_
     refine W_reg ?_
     refine zE (zA @cS hld4) ?_
     refine ⟨List.all_eq_true.1 rfl, ⟨hWx, by omega, by omega, fun h => h, List.all_eq_true.1 rfl⟩, ?_⟩
     rw [hsn, hpN, hpC]
     refine zE (zA qp pv) ?_
     refine ⟨rfl, ?_⟩
     have hf9 := map_frz 9 C (kxs_rf (withK cells S (i + 1)))
     have hf0 := map_frz 10 [DV.str k.nm, .int .i64 k.kd, .sl 1 (strL k.le), .sl 5 X] (kxs_rf (withK cells S (i + 1)))
     have fp9 : ∀ o z, o < 9 → frz 9 C (.ptr o z) = .ptr o z := fun o z h => by
      have e : o ≠ 9 := by omega
      simp [frz, purge, DV.has, e]
     have fp0 : ∀ o z, o < 9 → frz 10 [DV.str k.nm, .int .i64 k.kd, .sl 1 (strL k.le), .sl 5 X] (.ptr o z) = .ptr o z := fun o z h => by
      have e : o ≠ 10 := by omega
      simp [frz, purge, DV.has, e]
     refine W_freeze 9 (cells := C) rfl hka ?_
     refine W_freeze 10 (cells := [DV.str k.nm, .int .i64 k.kd, .sl 1 (strL k.le), .sl 5 X]) rfl rfl ?_
     refine zS (zA hf9 (zA hf0 (zA fp9 (zA fp0 (zA fv e1))))) ?_
     exact ⟨i + 1, by omega, by omega, by simp [subF, lk], rfl⟩
  ·have dl : decide ((i : Int) < (S.length : Int)) = false := decide_eq_false (by omega)
   obtain rfl : i = S.length := by omega
   refine W_freeze 300 (cells := kxs (withK cells S S.length)) rfl (List.all_eq_true.2 (kxs_rf _)) ?_
   have hfz : frz 300 (kxs (withK cells S S.length)) (.osl 4 300 0 S.length) = .sl 4 (kxs (withK cells S S.length)) := by
    simp [frz, hWx]
    rw [List.take_of_length_le (by omega)]
   have f6 : frz 300 (kxs (withK cells S S.length)) (.ptr 6 0) = .ptr 6 0 := by simp [frz, purge, DV.has]
   have f7 : frz 300 (kxs (withK cells S S.length)) (.ptr 7 0) = .ptr 7 0 := by simp [frz, purge, DV.has]
   refine zS (zA dl (zA hfz (zA f6 (zA f7 fv)))) ?_
   refine W_cond rfl (fun h => by cases h) (fun _ => W_exit ?_)
   refine zS @cS ?_
   exact W_ret (RetP_c rfl rfl rfl (.imm rfl))
theorem slIns_M0 (cells x5 : List DV) (n : Nat) (hl : cells.length = n * 5) (hx : x5.length = 5) (hn : n ≤ 100000) (hrf : ∀ d ∈ cells, d.rf = true) (hone : ∀ d ∈ cells, d.one = true) (hrx : ∀ d ∈ x5, d.rf = true) (hox : ∀ d ∈ x5, d.one = true) :
  MRel Tryz.prog 80 [.osl 5 1000 0 n, .int .i64 n, .osl 5 1001 0 1] [(1000, cells), (1001, x5)] fun r H' => r = .sl 5 (cells ++ x5) ∧ H' = [] := by
 intro S L w us hT hTb hH hS hs hv
 obtain ⟨v0, v1, v2, rfl⟩ : ∃ v0 v1 v2, us = #[v0, v1, v2] := by
  obtain ⟨l⟩ := us
  match l, hs with
  | [a, b, c], _ => exact ⟨a, b, c, rfl⟩
 obtain rfl := (hv 1 _ v1 rfl rfl).inv_int
 rcases (hv 2 _ v2 rfl rfl).inv_osl with ⟨vb, vc, T2, m2, hL2, rfl, hnc2, hsh2, hm2⟩ | ⟨h0, _⟩
 rotate_left
 ·omega
 obtain ⟨xs, cs2, T2', hb2, hcs2, hxl, hxc, hx1, hxcell⟩ := osl_row hH hL2 (o := 1001) rfl (n := 1) (by omega) hnc2 hsh2 hm2 hrx hox
 have hlow : ∀ o c, lkH [(1000, cells), (1001, x5)] o = some c → o < 1048576 := fun o c h => by
  simp only [lkH] at h
  split at h
  ·omega
  ·split at h
   ·omega
   ·cases h
 have hRl : (cells ++ x5).length = (n + 1) * 5 := by rw [List.length_append]; omega
 have key : (∃ b c T m, L 1000 = some b ∧ v0 = .slice (some ⟨b, 0, none⟩) n c ∧ n ≤ c ∧ w.shape? b = some (T, m) ∧ 0 + c * 5 ≤ m ∧ n + 1 ≤ c) ∨
   Calls Tryz.prog 80 #[v0, .int .i64 n, .slice (some ⟨vb, 0, none⟩) 1 vc] w fun e w' => ∃ (vs : List Value) (G : Nat) (ROW : Array Value), vs.length = n * 5 ∧ (∀ j, j < n * 5 → ∀ d, cells[j]? = some d → ∃ v, vs[j]? = some v ∧ VI w (Av S L) d v) ∧ n + 1 ≤ G ∧ ROW.size = G * 5 ∧
    (∀ (j : Nat) (v : Value), (vs ++ xs)[j]? = some v → ROW[j]? = some v) ∧ e = Ending.returned (.slice (some ⟨w.heap.size, 0, none⟩) (n + 1) G) ∧ w' = w.drew.alloc (.cells ROW 51) := by
  rcases (hv 0 _ v0 rfl rfl).inv_osl with ⟨b, c, T, m, hL, rfl, hnc, hsh, hm⟩ | ⟨h0, rfl⟩
  ·by_cases hroom : n + 1 ≤ c
   ·exact .inl ⟨b, c, T, m, hL, rfl, hnc, hsh, hm, hroom⟩
   ·obtain ⟨vs, cs, T', hb, hcs, hvl, hvc, hv1, hcell⟩ := osl_row hH hL rfl hl hnc hsh hm hrf hone
    refine .inr ((slIns_end_grow (some ⟨b, 0, none⟩) n c vb vc vs xs w hvl (by omega) hnc (by omega) (by omega) (fun h => by cases h) (fun a h => by cases h; exact ⟨rfl, rfl⟩) (fun a h j v hj => by cases h; rw [Addr.add_lit, Nat.zero_add]; exact hvc j v hj) hxc hx1).mono ?_)
    rintro e w' ⟨G, ROW, g1, g2, g3, g4, g5⟩
    refine ⟨vs, G, ROW, hvl, fun j hj d hd => ?_, g1, g2, g3, g4, g5⟩
    obtain ⟨v, h1, _, h2⟩ := hcell j hj d hd
    exact ⟨v, h1, h2⟩
  ·subst h0
   refine .inr ((slIns_end_grow none 0 0 vb vc [] xs w rfl (by omega) (Nat.le_refl _) (by omega) (by omega) (fun _ => rfl) (fun a h => by cases h) (fun a h => by cases h) hxc hx1).mono ?_)
   rintro e w' ⟨G, ROW, g1, g2, g3, g4, g5⟩
   exact ⟨[], G, ROW, rfl, fun j hj d hd => by omega, g1, g2, g3, g4, g5⟩
 rcases key with ⟨b, c, T, m, hL, rfl, hnc, hsh, hm, hroom⟩ | key
 ·obtain ⟨vs, cs, T', hb, hcs, hvl, hvc, hv1, hcell⟩ := osl_row hH hL rfl hl hnc hsh hm hrf hone
  have hsome : ∀ j, j < (n + 1) * 5 → (w.cell? ⟨b, j, none⟩).isSome = true := fun j hj => by
   rw [Lib.cell_of_heap hb, Array.getElem?_eq_getElem (by omega)]; rfl
  refine (slIns_end_room b n c vb vc xs w (by omega) hroom (fun j hj => hsome _ (by omega)) (fun j _ => Lib.frozen_of_heap hb _) hxc hx1).mono ?_
  rintro e w' ⟨rfl, rfl⟩
  obtain ⟨b1, b2, b3, b4, b5, b6⟩ := setCells_meta b xs (n * 5) w
  refine MRel_fin hH hlow hS hRl (by decide) hroom (.inl ⟨_, hL⟩) ((Ext.refl _ w).setCells b _ _ (.inl ⟨_, hL⟩)) (fun k _ => b6 k) fun k d hk => ?_
  rcases get_append_sets hk with ⟨h1, h2⟩ | ⟨h1, h2⟩
  ·obtain ⟨v, _, h5, h6⟩ := hcell k (by omega) d h2
   exact ⟨v, by rw [cell_out (.inl (by omega))]; exact h5, h6⟩
  ·have hlt := (List.getElem?_eq_some_iff.1 h2).1
   obtain ⟨v, h5, _, h6⟩ := hxcell _ (by omega) d h2
   exact ⟨v, cell_in (fun j hj => hsome _ (by omega)) (by omega) (by rw [← hl]; exact h5), h6⟩
 ·refine key.mono ?_
  rintro e w' ⟨vs, G, ROW, hvl, hcell, hG, hRs, hRt, rfl, rfl⟩
  refine MRel_fin hH hlow hS hRl (by decide) hG (.inr (Nat.le_refl _)) ((Ext.drew _ w).trans (Ext.alloc _ w.drew _)) (fun k hk => shape_of_block (Go.RowKit.Below.heap_alloc w.drew _ k hk)) fun k d hk => ?_
  have hn1 : ∀ j, (w.drew.alloc (.cells ROW 51)).cell? ⟨w.heap.size, j, none⟩ = ROW[j]? := fun j => World.cell?_alloc_at (w := w.drew) ROW 51 _ _ rfl
  rcases get_append_sets hk with ⟨h1, h2⟩ | ⟨h1, h2⟩
  ·obtain ⟨v, h5, h6⟩ := hcell k (by omega) d h2
   exact ⟨v, by rw [hn1]; exact hRt k v (by rw [List.getElem?_append_left (by omega)]; exact h5), h6⟩
  ·have hlt := (List.getElem?_eq_some_iff.1 h2).1
   obtain ⟨v, h5, _, h6⟩ := hxcell _ (by omega) d h2
   exact ⟨v, by rw [hn1]; exact hRt k v (by rw [List.getElem?_append_right (by omega), hvl, ← hl]; exact h5), h6⟩
theorem slIns_M (cells x5 : List DV) (n i : Nat) (hl : cells.length = n * 5) (hx : x5.length = 5) (hi : i ≤ n) (hn : n ≤ 100000) (hrf : ∀ d ∈ cells, d.rf = true) (hone : ∀ d ∈ cells, d.one = true) (hrx : ∀ d ∈ x5, d.rf = true) (hox : ∀ d ∈ x5, d.one = true) :
  MRel Tryz.prog 80 [.osl 5 1000 0 n, .int .i64 i, .osl 5 1001 0 1] [(1000, cells), (1001, x5)] fun r H' => r = .sl 5 (cells.take (i * 5) ++ x5 ++ cells.drop (i * 5)) ∧ H' = [] := by
 rcases Nat.lt_or_ge i n with h | h
 ·exact slIns_M1 cells x5 n i hl hx h hn hrf hone hrx hox
 ·obtain rfl : i = n := by omega
  rw [List.take_of_length_le (by omega), List.drop_of_length_le (by omega), List.append_nil]
  exact slIns_M0 cells x5 i hl hx hn hrf hone hrx hox
theorem slClC_M (l : List Tc) (hl : l.length ≤ 1000000) : MRel Tryz.prog 81 [.sl 5 (cxs l)] [] fun r H' => r = .osl 5 5 0 l.length ∧ H' = [(5, cxs l)] := by
 have hll := cxs_len l
 have hrf := cxs_rf l
 refine MRel_of isslClC (by simp [fnslClC]) ?_
 unfold codeslClC
 by_cases h : l = []
 ·subst h
  refine W_seq ?_
  refine W_reg ?_
  refine zD ?_
  refine W_seq ?_
  refine W_seq ?_
  refine W_isnil [om 3 0] (.x 4) false (.t 3) rfl ?_
  simp (maxSteps := 1000000) (disch := omega) only [cA, cB, cN, FnD.nb, lk, lkH, Dst.onT, Dst.onX, Dst.slot, setF, setH, mapF, mapH, initF, binE, unE, cnt, boundE, newsE, freshE, freshT, opE, rmH, blkQ, frz_us, Nat.reduceEqDiff, Nat.reduceLT, Nat.reduceAdd, Nat.reduceMul, Nat.reduceMod, ↓reduceIte, reduceCtorEq, Nat.reduceLeDiff]
  refine ⟨⟨5, rfl⟩, fun b => ?_⟩
  cases b
  ·refine wFs ?_
   repeat (first | refine W_seq ?_ | refine W_reg ?_ | refine W_regd ?_ | refine W_regs ?_ | refine W_regp ?_ | refine W_block ?_ | refine And.intro (by omega) ?_ | simp (maxSteps := 1000000) (disch := omega) only [cA, cB, cN, FnD.nb, lk, lkH, Dst.onT, Dst.onX, Dst.slot, setF, setH, mapF, mapH, initF, binE, unE, cnt, boundE, newsE, freshE, freshT, opE, rmH, blkQ, frz_us, Nat.reduceEqDiff, Nat.reduceLT, Nat.reduceAdd, Nat.reduceMul, Nat.reduceMod, ↓reduceIte, reduceCtorEq, Nat.reduceLeDiff])
   refine ⟨⟨by decide, by decide, fun h => h, by intro d hd; cases hd⟩, ?_⟩
   exact W_ret (Ret_new rfl rfl (by intro d hd; cases hd))
  ·refine wT ?_
   refine zR ?_
   refine W_own 2 5 5 rfl rfl ?_
   exact W_ret (Ret_new rfl rfl (by intro d hd; cases hd))
 ·have hne : ¬ cxs l = [] := fun e => h (List.eq_nil_of_length_eq_zero (by rw [e] at hll; simp at hll; omega))
  have hpg := map_purge 5 hrf
  have hl5 : (cxs l).length / 5 = l.length := by omega
  refine zR ?_
  refine wFs ?_
  refine zS (zA hll (zA hl5 (zA hpg @List.nil_append.{0}))) ?_
  refine ⟨⟨by omega, by omega, fun h => h, cxs_one l⟩, ?_⟩
  rw [show 0 / 5 + l.length * 5 / 5 = l.length by omega]
  exact W_ret (Ret_new rfl rfl hrf)
theorem mv_H2 {C cs : List DV} (hC : ∀ d ∈ C, d.rf = true) : ∀ p, lkH [(4, C)] p = if p = 200 then none else (lkH [(4, C), (200, cs)] p).map (List.map (rn (gone1 200))) := fun p => by
 have h := map_rf (gone1 200) hC
 simp only [lkH]
 by_cases e : 4 = p
 ·subst e; simp [h]
 ·by_cases e2 : 200 = p
  ·subst e2; simp
  ·simp [e, e2]
theorem call_d1 : Callable Tryz.prog 82 := ⟨_, Tryz.func82, by kernel_rfl, by kernel_rfl⟩
theorem call_i1 : Callable Tryz.prog 79 := ⟨_, Tryz.func79, by kernel_rfl, by kernel_rfl⟩
set_option maxHeartbeats 4000000 in
theorem tDel1_calls (i : Int) (k : Kx) (a : Nat) (ha : a < k.ce.length) (hl : k.ce.length ≤ 1000000) : PCalls Tryz.prog 82 [.int .i64 i, .agg (kxC k), .el [.int .i64 a] 0] (.sl 5 (cxs (delC a k))) := by
 have hck : (DV.agg (kxC k)).cells? = some (kxC k) := rfl
 have l4 := kxC_len k
 have m3 : (kxC k).getD 3 .undef = .sl 5 (cxs k.ce) := rfl
 have cN := slClC_M k.ce hl
 have cD := slDel_M (cxs k.ce) k.ce.length a (cxs_len _) ha hl (cxs_rf _) (cxs_one _)
 rw [← cxs_del] at cD
 have hC := kxC_rf k
 refine PCalls_of istDel1 (by simp [fntDel1]) ?_
 unfold codetDel1
 generalize kxC k = C at *
 repeat (first | refine W_seq ?_ | refine W_reg ?_ | refine W_regd ?_ | refine W_regs ?_ | refine W_regp ?_ | refine W_block ?_ | refine And.intro (by omega) ?_ | simp (maxSteps := 1000000) (disch := omega) only [cA, cB, cN, FnD.nb, lk, lkH, Dst.onT, Dst.onX, Dst.slot, setF, setH, mapF, mapH, initF, binE, unE, cnt, boundE, newsE, freshE, freshT, opE, rmH, blkQ, frz_us, Nat.reduceEqDiff, Nat.reduceLT, Nat.reduceAdd, Nat.reduceMul, Nat.reduceMod, ↓reduceIte, reduceCtorEq, Nat.reduceLeDiff, hck, cS])
 refine W_rego ?_
 simp only [regT]
 refine zE (zA l4 (zA m3 @cS)) ?_
 have rC : ∀ g, rn g (.agg C) = .agg C := fun g => rn_rf _ _ (by rw [DV.rf_agg]; exact List.all_eq_true.2 hC)
 have rE : ∀ g, rn g (.el [.int .i64 a] 0) = .el [.int .i64 a] 0 := fun g => rn_rf _ _ rfl
 have rS : ∀ g, rn g (.sl 5 (cxs k.ce)) = .sl 5 (cxs k.ce) := fun g => rn_rf _ _ rfl
 refine ⟨⟨?_, ?_, rfl, ?_⟩, rfl, ?_, ?_⟩
 all_goals
  refine callC_newS 200 cN rfl (cxs_rf _) (by decide) (by decide) (by decide) rfl (by simp [DV.rf]) ?_
  refine zE (zA l4 (zA m3 @cS)) ?_
  refine callC_mv rfl 200 _ _ (by decide) rfl (cxs_rf _) rfl (by simp [rn, fwG1]) cD [(4, C)] (mv_H2 hC) ?_
  simp (maxSteps := 1000000) (disch := omega) only [cA, cB, cN, FnD.nb, lk, lkH, Dst.onT, Dst.onX, Dst.slot, setF, setH, mapF, mapH, initF, binE, unE, cnt, boundE, newsE, freshE, freshT, opE, rmH, blkQ, frz_us, Nat.reduceEqDiff, Nat.reduceLT, Nat.reduceAdd, Nat.reduceMul, Nat.reduceMod, ↓reduceIte, reduceCtorEq, Nat.reduceLeDiff, rC, rE, rS, rn, gone1]
  exact W_ret (RetP_1 (.imm rfl))
theorem mv_H3 {C cs x5 : List DV} (hC : ∀ d ∈ C, d.rf = true) : ∀ p, lkH [(5, C)] p = if p = 200 then none else if p = 15 then none else (lkH [(5, C), (15, x5), (200, cs)] p).map (List.map (rn (gone2 200 15))) := fun p => by
 have h := map_rf (gone2 200 15) hC
 simp only [lkH]
 by_cases e : 5 = p
 ·subst e; simp [h]
 ·by_cases e2 : 200 = p
  ·subst e2; simp
  ·by_cases e3 : 15 = p
   ·subst e3; simp
   ·simp [e, e2, e3]
set_option maxHeartbeats 4000000 in
theorem tIns1_calls (i : Nat) (k : Kx) (a : Nat) (x : List Tc) (ha : a ≤ k.ce.length) (hl : k.ce.length ≤ 100000) (hi : i < x.length) (hxl : x.length ≤ 1000000) : PCalls Tryz.prog 79 [.int .i64 i, .agg (kxC k), .el [.int .i64 a] 0, .el [.sl 5 (cxs x)] 0] (.sl 5 (cxs (insC a x i k))) := by
 have hck : (DV.agg (kxC k)).cells? = some (kxC k) := rfl
 have l4 := kxC_len k
 have m3 : (kxC k).getD 3 .undef = .sl 5 (cxs k.ce) := rfl
 have cN := slClC_M k.ce (by omega)
 have cI := slIns_M (cxs k.ce) (cxC (x.getD i default)) k.ce.length a (cxs_len _) (cxC_len _) ha hl (cxs_rf _) (cxs_one _) (cxC_rf _) (cxC_one _)
 rw [← cxs_ins] at cI
 have hC := kxC_rf k
 have hw : ((cxs x).drop (i * 5)).take 5 = cxC (x.getD i default) := fm_win (j := 0) cxC_len default hi (Nat.le_refl _)
 have hlen := cxs_len x
 have ei : (i : Int).toNat = i := Int.toNat_natCast i
 have h5 := cxC_len (x.getD i default)
 have h5r := cxC_rf (x.getD i default)
 have h5c : (DV.agg (cxC (x.getD i default))).cells? = some (cxC (x.getD i default)) := rfl
 have hC5 : (cxC (x.getD i default)).all DV.rf = true := List.all_eq_true.2 h5r
 have hone : (cxC (x.getD i default)).all DV.one = true := List.all_eq_true.2 (cxC_one _)
 have hld : laid [DV.bool false, .bool false, .nils, .nils, .int .i64 0] [(0, 5, .agg (cxC (x.getD i default)))] = some (cxC (x.getD i default)) := rfl
 refine PCalls_of istIns1 (by simp [fntIns1]) ?_
 unfold codetIns1
 have rC : ∀ g, rn g (.agg (kxC k)) = .agg (kxC k) := fun g => rn_rf _ _ (by rw [DV.rf_agg]; exact List.all_eq_true.2 hC)
 have rE : ∀ g, rn g (.el [.int .i64 a] 0) = .el [.int .i64 a] 0 := fun g => rn_rf _ _ rfl
 have rS : ∀ g, rn g (.sl 5 (cxs k.ce)) = .sl 5 (cxs k.ce) := fun g => rn_rf _ _ rfl
 generalize kxC k = C at *
 generalize cxC (x.getD i default) = X at *
 repeat (first | refine W_seq ?_ | refine W_reg ?_ | refine W_regd ?_ | refine W_regs ?_ | refine W_regp ?_ | refine W_block ?_ | refine And.intro (by omega) ?_ | simp (maxSteps := 1000000) (disch := omega) only [cA, cB, cN, FnD.nb, lk, lkH, Dst.onT, Dst.onX, Dst.slot, setF, setH, mapF, mapH, initF, binE, unE, cnt, boundE, newsE, freshE, freshT, opE, rmH, blkQ, frz_us, Nat.reduceEqDiff, Nat.reduceLT, Nat.reduceAdd, Nat.reduceMul, Nat.reduceMod, ↓reduceIte, reduceCtorEq, Nat.reduceLeDiff, hck, cS])
 refine W_rego ?_
 simp only [regT]
 simp (maxSteps := 1000000) (disch := omega) only [cA, cB, cN, FnD.nb, lk, lkH, Dst.onT, Dst.onX, Dst.slot, setF, setH, mapF, mapH, initF, binE, unE, cnt, boundE, newsE, freshE, freshT, opE, rmH, blkQ, frz_us, Nat.reduceEqDiff, Nat.reduceLT, Nat.reduceAdd, Nat.reduceMul, Nat.reduceMod, ↓reduceIte, reduceCtorEq, Nat.reduceLeDiff, l4, m3, hlen, ei, hw, hld, h5, hC5, hone, cS]
 have bi : i * 5 + 5 ≤ x.length * 5 := by omega
 refine ⟨rfl, ?_⟩
 repeat' (first | with_reducible rfl | with_reducible refine And.intro ?_ ?_)
 all_goals try omega
 all_goals
  refine callC_newS 200 cN rfl (cxs_rf _) (by decide) (by decide) (by decide) rfl (by simp [DV.rf]) ?_
  refine zE (zA l4 (zA m3 (zA hlen (zA ei (zA hw (zA hld (zA h5 (zA hC5 (zA hone @cS))))))))) ?_
  repeat' (first | with_reducible rfl | with_reducible refine And.intro ?_ ?_)
  all_goals try omega
  refine callC_mv2 rfl 200 15 _ _ (by decide) (by decide) (by decide) rfl rfl (cxs_rf _) h5r rfl (by simp [rn, fwG2]) cI [(5, C)] (mv_H3 hC) ?_
  simp (maxSteps := 1000000) (disch := omega) only [cA, cB, cN, FnD.nb, lk, lkH, Dst.onT, Dst.onX, Dst.slot, setF, setH, mapF, mapH, initF, binE, unE, cnt, boundE, newsE, freshE, freshT, opE, rmH, blkQ, frz_us, Nat.reduceEqDiff, Nat.reduceLT, Nat.reduceAdd, Nat.reduceMul, Nat.reduceMod, ↓reduceIte, reduceCtorEq, Nat.reduceLeDiff, rC, rE, rS, rn, gone2]
  exact W_ret (RetP_1 (.imm rfl))
theorem rowC_take {a : Nat} {S : List Kx} {i : Nat} (hi : i < S.length) : cxs (((rowC a S).take i).map canC) ++ cxC (canC ((S.getD i default).ce.getD a default)) = cxs (((rowC a S).take (i + 1)).map canC) := by
 rw [take_snocD default (by rw [rowC_len]; exact hi), List.map_append, rowC_get hi]; exact fm_snoc _ _
set_option maxHeartbeats 1000000 in
theorem tRow_calls (n : Nat) (S : List Kx) (a : Nat) (h : okT S) (hv : tabB n S = true) (ha : a < n) (hce : ∀ k ∈ S, k.ce.length = n) (hn2 : n ≤ 1000000) :
  PCalls Tryz.prog 36 [.agg [.int .i64 n, .sl 4 (kxs S)], .int .i64 a] (.tup [.sl 5 (cxs ((rowC a S).map canC)), .int .i64 0]) := by
 have hln : (kxs S).length / 4 = S.length := by rw [kxs_len]; omega
 have hlen := kxs_len S
 have hSl := h.1
 have hca : (DV.agg [.int .i64 n, .sl 4 (kxs S)]).cells? = some [.int .i64 n, .sl 4 (kxs S)] := rfl
 have c1 := tVld_calls n S h
 rw [hv] at c1
 have d0 : decide ((a : Int) < 0) = false := decide_eq_false (by omega)
 have d1 : decide ((n : Int) ≤ (a : Int)) = false := decide_eq_false (by omega)
 have ea : (a : Int).toNat = a := Int.toNat_natCast a
 refine PCalls_of istRow (by simp [fntRow]) ?_
 unfold codetRow
 refine zS (zA hca @cS) ?_
 refine cP c1 ?_
 refine zR ?_
 refine wFs ?_
 refine zS (zA d0 (zA d1 @cS)) ?_
 refine wFs ?_
 refine zR ?_
 refine W_own 6 5 200 rfl rfl ?_
 refine zS (zA @cS hln) ?_
 refine W_loop (σ := Nat) (fun i => [(1, .int .i64 a), (6, .osl 5 200 0 i), (21, .sl 4 (kxs S)), (22, .int .i64 S.length), (23, .int .i64 i)]) (fun i => [(2, [.int .i64 n, .sl 4 (kxs S)]), (200, cxs (((rowC a S).take i).map canC))]) (fun i => i ≤ S.length) (fun i => S.length - i) 0 (Nat.zero_le _) ?_ rfl ?_
 ·simp [subF, lk]
 ·intro i hi
  try simp only at hi ⊢
  by_cases hlt : i < S.length
  ·have dl : decide ((i : Int) < (S.length : Int)) = true := decide_eq_true (by omega)
   have ei : (i : Int).toNat = i := Int.toNat_natCast i
   have e1 : ((i : Int) + 1) = ((i + 1 : Nat) : Int) := by omega
   have hw : ((kxs S).drop (i * 4)).take 4 = kxC (S.getD i default) := fm_win (j := 0) kxC_len default hlt (Nat.le_refl _)
   have hsn := rowC_take (a := a) hlt
   have hl1 : (cxs (((rowC a S).take i).map canC)).length = i * 5 := by rw [cxs_len, List.length_map, List.length_take, rowC_len]; omega
   have hkce := hce _ (memG hlt)
   have hkx := (h.2 _ (memG hlt)).2.2.2
   generalize S.getD i default = k at *
   have hcx := cxs_len k.ce
   have hwc : ((cxs k.ce).drop (a * 5)).take 5 = cxC (k.ce.getD a default) := fm_win (j := 0) cxC_len default (by omega) (Nat.le_refl _)
   have cc := tCell_calls _ (hkx _ (memG (i := a) (by omega)))
   generalize k.ce.getD a default = c at *
   have hck : (DV.agg (kxC k)).cells? = some (kxC k) := rfl
   have l4 := kxC_len k
   have t4 : (kxC k).take 4 = kxC k := rfl
   have m3 : (kxC k).getD 3 .undef = .sl 5 (cxs k.ce) := rfl
   have hkr := kxC_rf k
   have hka : (kxC k).all DV.rf = true := List.all_eq_true.2 hkr
   have h5a : List.all [DV.agg (cxC c)] DV.rf = true := by rw [List.all_cons, DV.rf_agg, List.all_eq_true.2 (cxC_rf c)]; rfl
   have q5 := cxC_len (canC c)
   have q5r := cxC_rf (canC c)
   have q5o := cxC_one (canC c)
   have hlk : laid [DV.bool false, .bool false, .nils, .nils, .int .i64 0] [(0, 5, .agg (cxC (canC c)))] = some (cxC (canC c)) := rfl
   have hpg := map_purge 200 (cxs_rf (((rowC a S).take (i + 1)).map canC))
   have hpC := map_purge 200 hkr
   have hfR := map_frz 8 (kxC k) (cxs_rf (((rowC a S).take (i + 1)).map canC))
   have qp : ∀ o z, o < 200 → purge 200 (.ptr o z) = .ptr o z := fun o z h => by
    have e : o ≠ 200 := by omega
    simp [purge, DV.has, e]
   generalize cxC (canC c) = CC at *
   generalize kxC k = C at *
   refine zS dl ?_
   refine wTs ?_
   repeat (first | refine W_seq ?_ | refine W_reg ?_ | refine W_regd ?_ | refine W_regs ?_ | refine W_regp ?_ | refine W_block ?_ | refine And.intro (by omega) ?_ | simp (maxSteps := 1000000) (disch := omega) only [cA, cB, cN, FnD.nb, lk, lkH, Dst.onT, Dst.onX, Dst.slot, setF, setH, mapF, mapH, initF, binE, unE, cnt, boundE, newsE, freshE, freshT, opE, rmH, blkQ, frz_us, Nat.reduceEqDiff, Nat.reduceLT, Nat.reduceAdd, Nat.reduceMul, Nat.reduceMod, ↓reduceIte, reduceCtorEq, Nat.reduceLeDiff, ei, hlen, hw, hck, l4, t4, m3, ea, hcx, hwc, cS])
   refine callC_pure cc h5a ?_
   simp (maxSteps := 1000000) (disch := omega) only [cA, cB, cN, FnD.nb, lk, lkH, Dst.onT, Dst.onX, Dst.slot, setF, setH, mapF, mapH, initF, binE, unE, cnt, boundE, newsE, freshE, freshT, opE, rmH, blkQ, frz_us, Nat.reduceEqDiff, Nat.reduceLT, Nat.reduceAdd, Nat.reduceMul, Nat.reduceMod, ↓reduceIte, reduceCtorEq, Nat.reduceLeDiff, hlk, cS]
   refine ⟨q5r, ⟨hl1, by omega, by omega, fun h => h, q5o⟩, ?_⟩
   rw [hsn, hpg, hpC, q5]
   simp (maxSteps := 1000000) (disch := omega) only [cA, cB, cN, FnD.nb, lk, lkH, Dst.onT, Dst.onX, Dst.slot, setF, setH, mapF, mapH, initF, binE, unE, cnt, boundE, newsE, freshE, freshT, opE, rmH, blkQ, frz_us, Nat.reduceEqDiff, Nat.reduceLT, Nat.reduceAdd, Nat.reduceMul, Nat.reduceMod, ↓reduceIte, reduceCtorEq, Nat.reduceLeDiff, qp]
   refine W_freeze 8 (cells := C) rfl hka ?_
   repeat (first | refine W_seq ?_ | refine W_reg ?_ | refine W_regd ?_ | refine W_regs ?_ | refine W_regp ?_ | refine W_block ?_ | refine And.intro (by omega) ?_ | simp (maxSteps := 1000000) (disch := omega) only [cA, cB, cN, FnD.nb, lk, lkH, Dst.onT, Dst.onX, Dst.slot, setF, setH, mapF, mapH, initF, binE, unE, cnt, boundE, newsE, freshE, freshT, opE, rmH, blkQ, frz_us, Nat.reduceEqDiff, Nat.reduceLT, Nat.reduceAdd, Nat.reduceMul, Nat.reduceMod, ↓reduceIte, reduceCtorEq, Nat.reduceLeDiff, hfR, e1])
   exact ⟨i + 1, by omega, by omega, by simp [subF, lk], rfl⟩
  ·have dl : decide ((i : Int) < (S.length : Int)) = false := decide_eq_false (by omega)
   obtain rfl : i = S.length := by omega
   rw [List.take_of_length_le (by rw [rowC_len]; exact Nat.le_refl _)]
   have hl1 : (cxs ((rowC a S).map canC)).length = S.length * 5 := by rw [cxs_len, List.length_map, rowC_len]
   refine W_freeze 200 (cells := cxs ((rowC a S).map canC)) rfl (List.all_eq_true.2 (cxs_rf _)) ?_
   have hfz : frz 200 (cxs ((rowC a S).map canC)) (.osl 5 200 0 S.length) = .sl 5 (cxs ((rowC a S).map canC)) := by
    simp [frz, hl1]
    rw [List.take_of_length_le (by omega)]
   refine zS (zA dl hfz) ?_
   refine W_cond rfl (fun h => by cases h) (fun _ => W_exit ?_)
   refine zR ?_
   exact W_ret (RetP_2 (.imm rfl) (.imm rfl))
set_option maxHeartbeats 1000000 in
theorem tDelete_calls (n : Nat) (S : List Kx) (a : Nat) (h : okT S) (hS : S.length ≤ 1000) (hv : tabB n S = true) (ha : a < n) (hce : ∀ k ∈ S, k.ce.length = n) (hn2 : n ≤ 1000000) :
  PCalls Tryz.prog 35 [.agg [.int .i64 n, .sl 4 (kxs S)], .int .i64 a] (.tup [.agg [.int .i64 ((n : Int) - 1), .sl 4 (kxs (delK a S))], .int .i64 0]) := by
 have hca : (DV.agg [.int .i64 n, .sl 4 (kxs S)]).cells? = some [.int .i64 n, .sl 4 (kxs S)] := rfl
 have c1 := tVld_calls n S h
 rw [hv] at c1
 have c3 := tWith_calls n ((n : Int) - 1) S (.clo 82 [.el [.int .i64 a] 0]) 82 [.el [.int .i64 a] 0] (fun _ k => delC a k) hS (fun k hk => (h.2 k hk).2.1) (.inl rfl) (by simp [DV.rf]) rfl call_d1
  (fun i hi => tDel1_calls i _ a (by rw [hce _ (memG hi)]; exact ha) (by rw [hce _ (memG hi)]; exact hn2))
  (fun i hi => ⟨by rw [del_len (by rw [hce _ (memG hi)]; exact ha), hce _ (memG hi)]; omega, fun c hc => (h.2 _ (memG hi)).2.2.2 c (del_mem hc)⟩)
 change PCalls _ _ _ (.agg [_, .sl 4 (kxs (delK a S))]) at c3
 have d0 : decide ((a : Int) < 0) = false := decide_eq_false (by omega)
 have d1 : decide ((n : Int) ≤ (a : Int)) = false := decide_eq_false (by omega)
 have bn : -1 ≤ ((n : Int) - 1) ∧ ((n : Int) - 1) ≤ 1000000 := by omega
 refine PCalls_of istDelete (by simp [fntDelete]) ?_
 unfold codetDelete
 generalize kxs (delK a S) = X at *
 generalize kxs S = KS at *
 refine W_seq ?_
 refine W_reg ?_
 have hci : ∀ k z, (DV.int k z).cells? = some [.int k z] := fun _ _ => rfl
 refine zE (zA hca (zA hci @cS)) ?_
 have f1 : frzp 3 [.int .i64 a] (.ptr 3 0) = .el [.int .i64 a] 0 := by simp [frzp]
 have f2 : ∀ cs, frzp 3 cs (.ptr 2 0) = .ptr 2 0 := fun cs => by simp [frzp]
 have f3 : ∀ cs, frzp 3 cs (.ptr 4 0) = .ptr 4 0 := fun cs => by simp [frzp]
 have f7 : ∀ o cs k m, frzp o cs (.int k m) = .int k m := fun o cs k m => by simp [frzp, frz, purge, DV.has]
 refine W_freezeP 3 (cells := [.int .i64 a]) rfl rfl ?_
 refine zS (zA f1 (zA f2 (zA f3 (zA f7 @cS)))) ?_
 refine cP c1 ?_
 refine zR ?_
 refine wF ?_
 refine zS (zA d0 (zA d1 @cS)) ?_
 refine wFs ?_
 refine zS (zA @goW_mkf @cS) ?_
 refine ⟨List.all_eq_true.1 rfl, ?_⟩
 refine callC_pure c3 (by simp [DV.rf]; rfl) ?_
 refine zS @cS ?_
 refine W_ret ?_
 exact RetP_ct rfl rfl rfl (.imm rfl) (.imm rfl)
def insE (x : List Tc) (S : List Kx) : Int := if x.length = S.length then (if (List.range S.length).all (fun j => fitB (S.getD j default) (x.getD j default)) then 0 else 9) else 6
def insD (n : Nat) (a : Nat) (x : List Tc) (S : List Kx) : List DV := if insE x S = 0 then [.int .i64 ((n : Int) + 1), .sl 4 (kxs (insK a x S))] else [.int .i64 0, .nils]
set_option maxHeartbeats 2000000 in
theorem tInsert_calls (n : Nat) (S : List Kx) (a : Nat) (x : List Tc) (h : okT S) (hS : S.length ≤ 1000) (hv : tabB n S = true) (ha : a ≤ n) (hn : n < 1024) (hce : ∀ k ∈ S, k.ce.length = n) (hx : ∀ c ∈ x, okN0 c.va) (hxl : x.length ≤ 1000000) :
  PCalls Tryz.prog 34 [.agg [.int .i64 n, .sl 4 (kxs S)], .int .i64 a, .sl 5 (cxs x)] (.tup [.agg (insD n a x S), .int .i64 (insE x S)]) := by
 have hln : (kxs S).length / 4 = S.length := by rw [kxs_len]; omega
 have hlen := kxs_len S
 have hxn : (cxs x).length / 5 = x.length := by rw [cxs_len]; omega
 have hxc := cxs_len x
 have hca : (DV.agg [.int .i64 n, .sl 4 (kxs S)]).cells? = some [.int .i64 n, .sl 4 (kxs S)] := rfl
 have hcx : (DV.sl 5 (cxs x)).cells? = some [.sl 5 (cxs x)] := rfl
 have c1 := tVld_calls n S h
 rw [hv] at c1
 have d0 : decide ((a : Int) < 0) = false := decide_eq_false (by omega)
 have d1 : decide ((n : Int) < (a : Int)) = false := decide_eq_false (by omega)
 have d2 : decide ((n : Int) = 1024) = false := decide_eq_false (by omega)
 refine PCalls_of istInsert (by simp [fntInsert]) ?_
 unfold codetInsert
 refine W_seq ?_
 refine W_reg ?_
 have hci : ∀ k z, (DV.int k z).cells? = some [.int k z] := fun _ _ => rfl
 refine zE (zA hca (zA hcx (zA hci @cS))) ?_
 have f1 : frzp 4 [.int .i64 a] (.ptr 4 0) = .el [.int .i64 a] 0 := by simp [frzp]
 have f2 : ∀ cs, frzp 4 cs (.ptr 3 0) = .ptr 3 0 := fun cs => by simp [frzp]
 have f3 : ∀ cs, frzp 4 cs (.ptr 5 0) = .ptr 5 0 := fun cs => by simp [frzp]
 have f4 : ∀ cs, frzp 4 cs (.ptr 6 0) = .ptr 6 0 := fun cs => by simp [frzp]
 have f5 : frzp 5 [.sl 5 (cxs x)] (.ptr 5 0) = .el [.sl 5 (cxs x)] 0 := by simp [frzp]
 have f6 : ∀ cs, frzp 5 cs (.ptr 3 0) = .ptr 3 0 := fun cs => by simp [frzp]
 have f8 : ∀ cs, frzp 5 cs (.ptr 6 0) = .ptr 6 0 := fun cs => by simp [frzp]
 have f9 : ∀ cs l z, frzp 5 cs (.el l z) = .el l z := fun cs l z => by simp [frzp, frz, purge, DV.has]
 have f7 : ∀ o cs k m, frzp o cs (.int k m) = .int k m := fun o cs k m => by simp [frzp, frz, purge, DV.has]
 refine W_freezeP 4 (cells := [.int .i64 a]) rfl rfl ?_
 refine W_freezeP 5 (cells := [.sl 5 (cxs x)]) rfl rfl ?_
 refine zS (zA f1 (zA f2 (zA f3 (zA f4 (zA f5 (zA f6 (zA f7 (zA f8 (zA f9 @cS))))))))) ?_
 refine cP c1 ?_
 refine zR ?_
 refine wF ?_
 refine zS (zA d0 (zA d1 @cS)) ?_
 refine wF ?_
 refine zS (zA d2 @cS) ?_
 refine wF ?_
 have hSl := h.1
 by_cases hs : x.length = S.length
 ·have d3 : decide (¬ (x.length : Int) = (S.length : Int)) = false := decide_eq_false (fun h => h (by omega))
  have hE : ∀ b, (List.range S.length).all (fun j => fitB (S.getD j default) (x.getD j default)) = b → insE x S = if b = true then 0 else 9 := fun b hb => by unfold insE; rw [if_pos hs, hb]
  have c3 := tWith_calls n ((n : Int) + 1) S (.clo 79 [.el [.int .i64 a] 0, .el [.sl 5 (cxs x)] 0]) 79 [.el [.int .i64 a] 0, .el [.sl 5 (cxs x)] 0] (insC a x) hS (fun k hk => (h.2 k hk).2.1) (.inl rfl) (by simp [DV.rf]) rfl call_i1
   (fun i hi => tIns1_calls i _ a x (by rw [hce _ (memG hi)]; exact ha) (by rw [hce _ (memG hi)]; omega) (by omega) hxl)
   (fun i hi => ⟨by rw [ins_len, hce _ (memG hi)]; omega, fun c hc => by
    rcases ins_mem hc with hc | hc
    ·exact (h.2 _ (memG hi)).2.2.2 c hc
    ·rw [hc]; exact hx _ (memG (by omega))⟩)
  change PCalls _ _ _ (.agg [_, .sl 4 (kxs (insK a x S))]) at c3
  refine zS (zA hxn (zA hln (zA d3 @cS))) ?_
  refine wFs ?_
  refine zS (zA hxn @cS) ?_
  refine W_loop (σ := Nat) (fun i => [(3, .ptr 3 0), (4, .el [.int .i64 a] 0), (5, .el [.sl 5 (cxs x)] 0), (6, .ptr 6 0), (38, .sl 5 (cxs x)), (39, .int .i64 x.length), (40, .int .i64 i)]) (fun _ => [(3, [.int .i64 n, .sl 4 (kxs S)]), (6, [.int .i64 0, .nils])]) (fun i => i ≤ x.length ∧ ∀ j, j < i → fitB (S.getD j default) (x.getD j default) = true) (fun i => x.length - i) 0 ⟨Nat.zero_le _, by simp⟩ ?_ rfl ?_
  ·simp [subF, lk]
  ·rintro i ⟨hi, hall⟩
   try simp only at hi hall ⊢
   by_cases hlt : i < x.length
   ·have dl : decide ((i : Int) < (x.length : Int)) = true := decide_eq_true (by omega)
    have ei : (i : Int).toNat = i := Int.toNat_natCast i
    have e1 : ((i : Int) + 1) = ((i + 1 : Nat) : Int) := by omega
    have hw : ((kxs S).drop (i * 4)).take 4 = kxC (S.getD i default) := fm_win (j := 0) kxC_len default (by omega) (Nat.le_refl _)
    have hwx : ((cxs x).drop (i * 5)).take 5 = cxC (x.getD i default) := fm_win (j := 0) cxC_len default hlt (Nat.le_refl _)
    have cf := tFits_calls (S.getD i default) (x.getD i default) (hx _ (memG hlt))
    have hck : (DV.agg (cxC (x.getD i default))).cells? = some (cxC (x.getD i default)) := rfl
    have l5 := cxC_len (x.getD i default)
    have t5 : (cxC (x.getD i default)).take 5 = cxC (x.getD i default) := rfl
    have h5r := cxC_rf (x.getD i default)
    have h5a : (cxC (x.getD i default)).all DV.rf = true := List.all_eq_true.2 h5r
    have hka : (kxC (S.getD i default)).all DV.rf = true := List.all_eq_true.2 (kxC_rf _)
    have hone : (cxC (x.getD i default)).all DV.one = true := List.all_eq_true.2 (cxC_one _)
    have harf : List.all [DV.agg (kxC (S.getD i default)), .agg (cxC (x.getD i default))] DV.rf = true := by rw [List.all_cons, List.all_cons, DV.rf_agg, DV.rf_agg, h5a, hka]; rfl
    have hno : fitB (S.getD i default) (x.getD i default) = false → insE x S = 9 := fun hf => hE false (by
     rw [List.all_eq_false]
     exact ⟨i, List.mem_range.2 (by omega), by rw [hf]; decide⟩)
    have hnx : fitB (S.getD i default) (x.getD i default) = true → ∀ j, j < i + 1 → fitB (S.getD j default) (x.getD j default) = true := fun hf j hj => by
     rcases Nat.lt_or_ge j i with h2 | h2
     ·exact hall j h2
     ·obtain rfl : j = i := by omega
      exact hf
    generalize fitB (S.getD i default) (x.getD i default) = b at *
    generalize cxC (x.getD i default) = C at *
    generalize kxC (S.getD i default) = K at *
    refine zS dl ?_
    refine wTs ?_
    refine zS (zA ei (zA hxc (zA hlen (zA hwx (zA hw (zA hck (zA l5 (zA t5 (zA hone (zA @cS @List.drop_zero.{0})))))))))) ?_
    refine callC_pure cf harf ?_
    cases hb : b
    ·have hE9 := hno hb
     unfold insD
     rw [hE9, if_neg (by decide)]
     refine zR ?_
     refine wT ?_
     refine zS @cS ?_
     refine W_ret ?_
     exact RetP_ct rfl rfl rfl (.imm rfl) (.imm rfl)
    ·refine zR ?_
     refine wFs ?_
     refine W_freeze 9 (cells := C) rfl h5a ?_
     have ff : ∀ o z, o < 9 → frz 9 C (.ptr o z) = .ptr o z := fun o z h => by
      have e : o ≠ 9 := by omega
      simp [frz, purge, DV.has, e]
     have fe : ∀ l z, frz 9 C (.el l z) = .el l z := fun l z => by simp [frz, purge, DV.has]
     refine zS (zA ff (zA fe e1)) ?_
     exact ⟨i + 1, ⟨by omega, hnx hb⟩, by omega, by simp [subF, lk]⟩
   ·have dl : decide ((i : Int) < (x.length : Int)) = false := decide_eq_false (by omega)
    have hE0 : insE x S = 0 := hE true (List.all_eq_true.2 fun j hj => hall j (by have := List.mem_range.1 hj; omega))
    unfold insD
    rw [hE0, if_pos rfl]
    refine zS dl ?_
    refine W_cond rfl (fun h => by cases h) (fun _ => W_exit ?_)
    refine zS (zA @goW_mkf @cS) ?_
    refine ⟨List.all_eq_true.1 rfl, ?_⟩
    refine callC_pure c3 (by simp [DV.rf]; rfl) ?_
    refine zS @cS ?_
    refine W_ret ?_
    exact RetP_ct rfl rfl rfl (.imm rfl) (.imm rfl)
 ·have d3 : decide (¬ (x.length : Int) = (S.length : Int)) = true := decide_eq_true (fun h => hs (by omega))
  have hE : insE x S = 6 := by unfold insE; rw [if_neg hs]
  unfold insD
  rw [hE, if_neg (by decide)]
  refine zS (zA hxn (zA hln (zA d3 @cS))) ?_
  refine wT ?_
  refine zS @cS ?_
  refine W_ret ?_
  exact RetP_ct rfl rfl rfl (.imm rfl) (.imm rfl)
theorem call_b1 : Callable Tryz.prog 43 := ⟨_, Tryz.func43, by kernel_rfl, by kernel_rfl⟩
theorem call_b2 : Callable Tryz.prog 47 := ⟨_, Tryz.func47, by kernel_rfl, by kernel_rfl⟩
set_option maxHeartbeats 4000000 in
theorem tBld_calls (fs : List Fx) (recs : List (List Bs)) (hl : fs.length ≤ 1000000) (hl2 : recs.length ≤ 1000000) (hu : ∀ f ∈ fs, okN0 f.un) (hm : ∀ f ∈ fs, f.ms.length ≤ 1000000) (hn : ∀ f ∈ fs, f.nm.length ≤ 9223372036854775807)
  (hr : ∀ r ∈ recs, r.length ≤ 1000000 ∧ ∀ s ∈ r, s.length ≤ 450) : PCalls Tryz.prog 13 [.sl 6 (fxs fs), .sl 1 (recD recs)] (bldR fs recs) := by
 by_cases h1 : 32 < fs.length ∨ 1024 < recs.length
 ·have : bldR fs recs = badT 0 2 := by unfold bldR; rw [if_pos h1]
  rw [this]; exact tBuild_limit fs recs hl hl2 h1
 have hf32 : fs.length ≤ 32 := by omega
 have hr1024 : recs.length ≤ 1024 := by omega
 have hln : (fxs fs).length / 6 = fs.length := by rw [fxs_len]; omega
 have hrl := recD_len recs
 have hfl := fxs_len fs
 have d1 : decide ((32 : Int) < (fs.length : Int)) = false := decide_eq_false (by omega)
 have d2 : decide ((1024 : Int) < (recs.length : Int)) = false := decide_eq_false (by omega)
 have c1 := tFieldNames_calls fs hl
 have c2 := tNames_calls (fnmL fs) (by rw [fnmL_len]; omega) (fun s hs => by
  unfold fnmL at hs
  obtain ⟨f, hf, rfl⟩ := List.mem_map.1 hs
  exact hn f hf)
 have c3 := slCFField_calls fs hl (fun f => !rdB f) (.fn 43) 43 [] (.inr ⟨rfl, rfl⟩) rfl rfl call_b1 (fun f hf => tBuild1_calls f (hu f hf))
 refine PCalls_of istBld (by simp [fntBld]) ?_
 unfold codetBld
 refine zS (zA hln (zA hrl (zA d1 d2))) ?_
 refine wFs ?_
 refine zR ?_
 refine cP c1 ?_
 refine zR ?_
 refine cP c2 ?_
 cases hnb : namesB (fnmL fs)
 ·have : bldR fs recs = badT 0 8 := by unfold bldR; rw [if_neg h1, if_pos hnb]
  rw [this]
  refine zR ?_
  refine wT ?_
  refine zS @cS ?_
  exact W_ret (Ret_bad rfl rfl rfl rfl)
 refine zR ?_
 refine wFs ?_
 refine zR ?_
 refine cP c3 ?_
 cases hrd : fs.any fun f => !rdB f
 ·have en : (fs.length : Int).toNat = fs.length := Int.toNat_natCast _
  have hP0 := P1_zero fs
  refine zR ?_
  refine wFs ?_
  refine zS (zA hln en) ?_
  rw [hP0]
  refine zS hln ?_
  refine W_loop (σ := Nat) (fun i => [(0, .sl 6 (fxs fs)), (1, .sl 1 (recD recs)), (4, .ptr 4 0), (5, .int .i64 0), (6, .int .i64 0), (7, .osl 4 34 0 fs.length), (35, .sl 6 (fxs fs)), (36, .int .i64 fs.length), (37, .int .i64 i)]) (fun i => [(4, [.int .i64 0, .nils]), (34, nilC (P1 fs i))]) (fun i => i ≤ fs.length) (fun i => fs.length - i) 0 (Nat.zero_le _) ?_ rfl ?_
  ·simp [subF, lk]
  ·intro i hi
   try simp only at hi ⊢
   by_cases hlt : i < fs.length
   ·have dl : decide ((i : Int) < (fs.length : Int)) = true := decide_eq_true (by omega)
    have ei : (i : Int).toNat = i := Int.toNat_natCast i
    have e1 : ((i : Int) + 1) = ((i + 1 : Nat) : Int) := by omega
    have hw : ((fxs fs).drop (i * 6)).take 6 = fxC (fs.getD i default) := fm_win (j := 0) fxC_len default hlt (Nat.le_refl _)
    have hpl := P1_len (fs := fs) (i := i) hi
    have hnl := nilC_len (P1 fs i)
    have hst := nilC_set (S := P1 fs i) (i := i) (fs.getD i default).nm (fs.getD i default).kd (by omega)
    have hnx : nilC ((P1 fs i).set i ⟨(fs.getD i default).nm, (fs.getD i default).kd, [], []⟩) = nilC (P1 fs (i + 1)) := congrArg nilC (P1_next hlt)
    rw [hnx] at hst
    have hf9 := map_frz 9 (fxC (fs.getD i default)) (nilC_one (P1 fs (i + 1)))
    have hcc : (DV.agg (fxC (fs.getD i default))).cells? = some (fxC (fs.getD i default)) := rfl
    have hcl := fxC_len (fs.getD i default)
    have htf : (fxC (fs.getD i default)).take 6 = fxC (fs.getD i default) := rfl
    have hg0 : (fxC (fs.getD i default)).getD 0 .undef = .str (fs.getD i default).nm := rfl
    have hg1 : (fxC (fs.getD i default)).getD 1 .undef = .int .i64 (fs.getD i default).kd := rfl
    have hrf := fxC_rf (fs.getD i default)
    have hrfa : ((fxC (fs.getD i default)).all DV.rf) = true := List.all_eq_true.2 hrf
    generalize (fs.getD i default).nm = nm at *
    generalize (fs.getD i default).kd = kd at *
    generalize fxC (fs.getD i default) = C at *
    repeat (first | refine W_seq ?_ | refine W_reg ?_ | refine W_regd ?_ | refine W_regs ?_ | refine W_regp ?_ | refine W_block ?_ | refine And.intro (by omega) ?_ | simp (maxSteps := 1000000) (disch := omega) only [cA, cB, cN, FnD.nb, lk, lkH, Dst.onT, Dst.onX, Dst.slot, setF, setH, mapF, mapH, initF, binE, unE, cnt, boundE, newsE, freshE, freshT, opE, rmH, blkQ, frz_us, Nat.reduceEqDiff, Nat.reduceLT, Nat.reduceAdd, Nat.reduceMul, Nat.reduceMod, ↓reduceIte, reduceCtorEq, Nat.reduceLeDiff, dl])
    refine wTs ?_
    refine W_seq ?_
    refine W_block ?_
    refine W_seq ?_
    refine W_reg ?_
    simp (maxSteps := 1000000) (disch := omega) only [cA, cB, cN, FnD.nb, lk, lkH, Dst.onT, Dst.onX, Dst.slot, setF, setH, mapF, mapH, initF, binE, unE, cnt, boundE, newsE, freshE, freshT, opE, rmH, blkQ, frz_us, Nat.reduceEqDiff, Nat.reduceLT, Nat.reduceAdd, Nat.reduceMul, Nat.reduceMod, ↓reduceIte, reduceCtorEq, Nat.reduceLeDiff, ei, hw, hfl, hcc, hcl, htf, List.drop_zero, cS]
    refine ⟨⟨by omega, by omega⟩, by omega, ?_⟩
    refine W_reg ?_
    simp (maxSteps := 1000000) (disch := omega) only [cA, cB, cN, FnD.nb, lk, lkH, Dst.onT, Dst.onX, Dst.slot, setF, setH, mapF, mapH, initF, binE, unE, cnt, boundE, newsE, freshE, freshT, opE, rmH, blkQ, frz_us, Nat.reduceEqDiff, Nat.reduceLT, Nat.reduceAdd, Nat.reduceMul, Nat.reduceMod, ↓reduceIte, reduceCtorEq, Nat.reduceLeDiff, ei, hw, hfl, hcc, hcl, htf, List.drop_zero, cS, hg0, hg1, hnl, hpl]
    refine ⟨⟨by omega, by omega⟩, by omega, ?_⟩
    rw [hst]
    refine W_freeze 9 (cells := C) rfl hrfa ?_
    refine zS (zA e1 hf9) ?_
    exact ⟨i + 1, by omega, by omega, by simp [subF, lk, frz_osl_ne, frz, purge, DV.has], by simp [rmH, frz, purge, DV.has, hf9]⟩
   ·have dl : decide ((i : Int) < (fs.length : Int)) = false := decide_eq_false (by omega)
    obtain rfl : i = fs.length := by omega
    rw [P1_end]
    have hS0 : (asm fs (fs.map fun _ => ([], []))).length = fs.length := asm_len _ _
    refine W_owns 34 (by decide) (asm fs (fs.map fun _ => ([], []))) (by omega) (fun j hj => ?_) ((4, [.int .i64 0, .nils]) :: (34, contO 0 (asm fs (fs.map fun _ => ([], [])))) :: DD 0 (asm fs (fs.map fun _ => ([], [])))) rfl (fun p hp => ?_) ?_ fs.length 0 (by omega) _ ?_ (fun p hp => ?_) (fun p hp h3 => ?_)
    ·rw [asm_get (by omega)]
     have : (fs.map fun _ => (([], []) : Tx)).getD j default = ([], []) := by
      rw [List.getD_eq_getElem?_getD, List.getElem?_map, List.getElem?_eq_getElem (by omega)]; rfl
     rw [this]; exact ⟨rfl, rfl⟩
    ·simp only [lkH]
     rw [if_neg (by omega), if_neg (by omega)]
    rotate_left
    ·simp [lkH, contO]
    ·simp only [lkH, List.take_zero, DD]
     rw [if_neg (by omega), if_neg (by omega)]
    ·simp only [lkH]
     by_cases e4 : 4 = p
     ·rw [if_pos e4, if_pos e4]
     ·rw [if_neg e4, if_neg e4, if_neg (by omega), if_neg (by omega), DD_none hp]
    refine zS dl ?_
    refine W_cond rfl (fun h => by cases h) (fun _ => W_exit ?_)
    refine zS hrl ?_
    refine W_loop (σ := Nat) (fun i => [(0, .sl 6 (fxs fs)), (1, .sl 1 (recD recs)), (4, .ptr 4 0), (5, .int .i64 0), (6, .int .i64 0), (7, .osl 4 34 0 fs.length), (51, .sl 1 (recD recs)), (52, .int .i64 recs.length), (53, .int .i64 i)]) (fun i => (4, [.int .i64 0, .nils]) :: (34, contO 0 (asm fs (recR parseQ fs recs i).2)) :: DD 0 (asm fs (recR parseQ fs recs i).2)) (fun i => i ≤ recs.length ∧ (recR parseQ fs recs i).1.2 = 0) (fun i => recs.length - i) 0 ⟨Nat.zero_le _, rfl⟩ ?_ rfl ?_
    ·simp [subF, lk]
    ·rintro i ⟨hi, h0⟩
     try simp only at hi h0 ⊢
     have hSl : (asm fs (recR parseQ fs recs i).2).length = fs.length := asm_len _ _
     by_cases hlt : i < recs.length
     ·have dl : decide ((i : Int) < (recs.length : Int)) = true := decide_eq_true (by omega)
      have ei : (i : Int).toNat = i := Int.toNat_natCast i
      have e1 : ((i : Int) + 1) = ((i + 1 : Nat) : Int) := by omega
      have hg := recD_getD hlt
      have hrm := hr _ (memR_getD hlt)
      have hxl := strL_len (recs.getD i [])
      refine zS dl ?_
      refine wTs ?_
      refine zS (zA ei (zA hg hrl)) ?_
      by_cases hsh : (recs.getD i []).length = fs.length
      ·have dsh : decide (¬ ((recs.getD i []).length : Int) = (fs.length : Int)) = false := decide_eq_false (by omega)
       have hTl := recR_len parseQ fs recs i
       have hsz := recR_sz parseQ fs recs i
       have hrow := fun {e : Int} => @recR_row parseQ fs recs i h0 hsh e
       have hgood := @recR_good parseQ fs recs i h0 hsh
       generalize hT : (recR parseQ fs recs i).2 = T at *
       generalize hrr : recs.getD i [] = r at *
       refine zS (zA hxl (zA hln dsh)) ?_
       refine wFs ?_
       refine zS hln ?_
       refine W_loop (σ := Nat) (fun k => [(0, .sl 6 (fxs fs)), (1, .sl 1 (recD recs)), (4, .ptr 4 0), (5, .int .i64 0), (6, .int .i64 0), (7, .osl 4 34 0 fs.length), (10, .int .i64 i), (11, .sl 1 (strL r)), (51, .sl 1 (recD recs)), (52, .int .i64 recs.length), (53, .int .i64 i), (66, .sl 6 (fxs fs)), (67, .int .i64 fs.length), (68, .int .i64 k)]) (fun k => (4, [.int .i64 0, .nils]) :: (34, contO 0 (asm fs (rowR parseQ fs r T k).2)) :: DD 0 (asm fs (rowR parseQ fs r T k).2)) (fun k => k ≤ fs.length ∧ (rowR parseQ fs r T k).1 = 0) (fun k => fs.length - k) 0 ⟨Nat.zero_le _, rfl⟩ ?_ rfl ?_
       ·simp [subF, lk]
       ·rintro k ⟨hk, hk0⟩
        try simp only at hk hk0 ⊢
        by_cases hlt2 : k < fs.length
        ·have dl2 : decide ((k : Int) < (fs.length : Int)) = true := decide_eq_true (by omega)
         have ek : (k : Int).toNat = k := Int.toNat_natCast k
         have e2 : ((k : Int) + 1) = ((k + 1 : Nat) : Int) := by omega
         have hw : ((fxs fs).drop (k * 6)).take 6 = fxC (fs.getD k default) := fm_win (j := 0) fxC_len default hlt2 (Nat.le_refl _)
         have hgs := strL_getD (r := r) (j := k) (by omega)
         have hs450 := hrm.2 _ (mem_getD (l := r) (i := k) (by omega))
         have hTk := rowR_len parseQ fs r T k
         have hsk := (rowR_sz parseQ fs r (n := i) (T := T) (fun j hj => hsz j (by omega)) k k (by omega)).1
         have hnx := @rowR_next parseQ fs r T k hk0
         have hbd := fun he => @rowR_bad parseQ fs r T k hk0 he fs.length hlt2
         have hfm := memG hlt2
         generalize (rowR parseQ fs r T k).2 = T2 at *
         have hSl2 : (asm fs T2).length = fs.length := asm_len _ _
         have hag := asm_get (fs := fs) (T := T2) hlt2
         have hset := fun t => asm_set (fs := fs) (T := T2) (k := k) t (by omega)
         have hSS : (asm fs T2).length ≤ 1000 := by omega
         have hkS : k < (asm fs T2).length := by omega
         generalize fs.getD k default = f at *
         generalize r.getD k [] = s at *
         have hDok := DD_ok 0 (asm fs T2) (by omega)
         have hD13 : lkH (DD 0 (asm fs T2)) 13 = none := DD_none (by omega)
         have hcr := tRead_rel (contO 0 ((asm fs T2).take k)) (contO (k + 1) ((asm fs T2).drop (k + 1))) (drp (ai k) (bi k) (DD 0 (asm fs T2))) ((asm fs T2).getD k default).nm ((asm fs T2).getD k default).kd ((asm fs T2).getD k default).le ((asm fs T2).getD k default).ce f s (drp_ok hDok) (nb_ok hkS).1 (nb_ok hkS).2 (hu f hfm) (hm f hfm) hs450 (by rw [hag]; exact Nat.le_trans hsk.1 (by decide)) (by rw [hag]; exact Nat.le_trans hsk.2 (by omega))
         have hst : ∀ R : Int × List Bs × List Tc, (asm fs T2).set k ⟨((asm fs T2).getD k default).nm, ((asm fs T2).getD k default).kd, R.2.1, R.2.2⟩ = asm fs (T2.set k R.2) := fun R => by rw [hset, hag]; rfl
         have hRe : readR parseQ f ((asm fs T2).getD k default).le ((asm fs T2).getD k default).ce s = readR parseQ f (T2.getD k default).1 (T2.getD k default).2 s := by rw [hag]; rfl
         have hcc : (DV.agg (fxC f)).cells? = some (fxC f) := rfl
         have hcl := fxC_len f
         have htf : (fxC f).take 6 = fxC f := rfl
         have hg1 : (fxC f).getD 1 .undef = .int .i64 f.kd := rfl
         have hrf := fxC_rf f
         have hrfa : ((fxC f).all DV.rf) = true := List.all_eq_true.2 hrf
         have hcf := fun S => contO_frz (o := 13) (by decide) (fxC f) 0 S
         have hrD := fun (S : List Kx) (h : S.length ≤ 1000) => (DD_ok 0 S (by omega)).rm (o := 13) (by decide) (fxC f)
         have z2 : ∀ d ∈ [DV.int .i64 0, .nils], d.rf = true := by
          intro d hd
          simp only [List.mem_cons, List.not_mem_nil, or_false] at hd
          rcases hd with rfl | rfl <;> rfl
         generalize hC : fxC f = C at *
         by_cases k3 : f.kd = 3
         ·have d3 : decide (f.kd = 3) = true := decide_eq_true k3
          rw [colStep_skip k3, set_self] at hnx
          have hrD0 := hrD _ hSS
          refine zS dl2 ?_
          refine wTs ?_
          refine zS (zA ek (zA hw (zA hfl (zA hcc (zA hcl (zA htf (zA @List.drop_zero.{0} (zA @cS (zA hg1 (zA hD13 d3)))))))))) ?_
          refine wT ?_
          refine W_freeze 13 (cells := C) rfl hrfa ?_
          refine W_exit ?_
          refine zS (zA e2 (zA hcf hrD0)) ?_
          exact ⟨k + 1, ⟨by omega, by rw [hnx]⟩, by omega, by simp [subF, lk, frz, purge, DV.has], by rw [hnx]⟩
         ·have d3 : decide (f.kd = 3) = false := decide_eq_false k3
          rw [colStep_read k3, ← hRe] at hnx hbd
          refine zS dl2 ?_
          refine wTs ?_
          refine zS (zA ek (zA hw (zA hfl (zA hcc (zA hcl (zA htf (zA @List.drop_zero.{0} (zA @cS (zA hg1 (zA hD13 d3)))))))))) ?_
          refine wFs ?_
          refine zS (zA ek (zA hw (zA hcc (zA hcl (zA htf (zA @List.drop_zero.{0} (zA @cS (zA hgs (zA hxl (zA hSl2 (zA @List.take_succ_cons.{0} (zA @List.take_zero.{0} @List.drop_succ_cons.{0})))))))))))) ?_
          generalize hR : readR parseQ f ((asm fs T2).getD k default).le ((asm fs T2).getD k default).ce s = R at *
          refine callC_col rfl (asm fs T2) k hkS hSS (.agg C) (.str s) (by simp [DV.rf_agg, hrfa]) rfl rfl (col_DD _ _ _) (col_lo z2 hrf) R.1 R.2.1 R.2.2 _ (by omega) hcr (by simp [lowN, DV.rf_agg, hrfa]; exact ⟨rfl, rfl, rfl, rfl, rfl⟩) (by simp [lowN, DV.rf]) _ (col_H2 _ _ _ _) ?_
          rw [hst]
          have hRD := hrD (asm fs (T2.set k R.2)) (by rw [asm_len]; omega)
          by_cases he : R.1 = 0
          ·have de : decide (¬ R.1 = 0) = false := by rw [he]; rfl
           refine zS de ?_
           refine wFs ?_
           refine W_freeze 13 (cells := C) rfl hrfa ?_
           refine zS (zA e2 (zA hcf hRD)) ?_
           exact ⟨k + 1, ⟨by omega, by rw [hnx]; exact he⟩, by omega, by simp [subF, lk, frz, purge, DV.has], by rw [hnx]⟩
          ·have de : decide (¬ R.1 = 0) = true := decide_eq_true he
           have hx := bldR_err h1 hnb hrd hlt he (hrow he (hbd he))
           rw [hx]
           refine zS de ?_
           refine wT ?_
           refine zS (zA @cS e1) ?_
           exact W_ret (Ret_bad rfl rfl rfl rfl)
        ·have dl2 : decide ((k : Int) < (fs.length : Int)) = false := decide_eq_false (by omega)
         obtain rfl : k = fs.length := by omega
         have hgd := hgood hk0
         refine zS dl2 ?_
         refine W_cond rfl (fun h => by cases h) (fun _ => W_exit ?_)
         refine zS e1 ?_
         exact ⟨i + 1, ⟨by omega, by rw [hgd]⟩, by omega, by simp [subF, lk], by rw [hgd]⟩
      ·have dsh : decide (¬ ((recs.getD i []).length : Int) = (fs.length : Int)) = true := decide_eq_true (by omega)
       have hx := bldR_err h1 hnb hrd hlt (e := 6) (by decide) (recR_shape h0 hsh)
       rw [hx]
       refine zS (zA hxl (zA hln dsh)) ?_
       refine wT ?_
       refine zS (zA @cS e1) ?_
       exact W_ret (Ret_bad rfl rfl rfl rfl)
     ·have dl : decide ((i : Int) < (recs.length : Int)) = false := decide_eq_false (by omega)
      obtain rfl : i = recs.length := by omega
      rw [bldR_ok h1 hnb hrd h0]
      generalize (recR parseQ fs recs recs.length).2 = T at *
      have hrfK := kxs_rf (asm fs T)
      have hlo : ∀ p, p < 100000 → p ≠ 34 → lkH ((4, [.int .i64 0, .nils]) :: (34, contO 0 (asm fs T)) :: DD 0 (asm fs T)) p = lkH [(4, [.int .i64 0, .nils]), (34, kxs (asm fs T))] p := fun p hp h3 => by
       simp only [lkH]
       by_cases e4 : 4 = p
       ·rw [if_pos e4, if_pos e4]
       ·rw [if_neg e4, if_neg e4, if_neg (by omega), if_neg (by omega), DD_none hp]
      refine W_frzs 34 (by decide) (asm fs T) (by omega) [(4, [.int .i64 0, .nils]), (34, kxs (asm fs T))] rfl (fun p hp => ?_) (fun p c hpc => ?_) rfl ?_ fs.length 0 (by omega) _ ?_ (fun p hp => ?_) hlo
      ·simp only [lkH]
       rw [if_neg (by omega), if_neg (by omega)]
      ·simp only [lkH] at hpc
       split at hpc
       ·cases hpc
        intro d hd
        simp only [List.mem_cons, List.not_mem_nil, or_false] at hd
        rcases hd with rfl | rfl <;> rfl
       ·split at hpc
        ·cases hpc; exact hrfK
        ·cases hpc
      rotate_left
      ·simp [lkH, kxs]
      ·simp only [lkH, List.drop_zero]
       rw [if_neg (by omega), if_neg (by omega)]
      refine zS dl ?_
      refine W_cond rfl (fun h => by cases h) (fun _ => W_exit ?_)
      have cd := slDFCol_rel (asm fs T) (by omega) (fun x => decide (x.kd = 3)) (.fn 47) 47 (.inr ⟨rfl, rfl⟩) rfl call_b2 tBuild2_calls
      rw [hSl] at cd
      refine zS hrl ?_
      have hfe : ((asm fs T).filter fun x => !decide (x.kd = 3)) = tabK fs T := by
       unfold tabK
       congr 1
       funext x
       by_cases hx : x.kd = 3 <;> simp [hx]
      rw [hfe] at cd
      generalize kxs (tabK fs T) = X at *
      refine callC_mv1 rfl 34 4 fs.length (.fn 47) (.sl 4 X) (by decide) rfl hrfK rfl rfl cd [(4, [.int .i64 recs.length, .nils])] (fun p => ?_) ?_
      ·simp only [lkH]
       by_cases e4 : 4 = p
       ·subst e4; simp [rn]
       ·rw [if_neg e4, if_neg e4]
        by_cases e5 : p = 34
        ·rw [if_pos e5]
        ·rw [if_neg e5, if_neg (Ne.symm e5)]; rfl
      simp only [mapF, rn, gout, Nat.reduceEqDiff, if_true, if_false]
      refine zS @cS ?_
      refine W_ret ?_
      refine RetP_ctt rfl rfl rfl (.imm rfl) (.imm rfl) (.imm rfl)
 ·have : bldR fs recs = badT 0 4 := by unfold bldR; rw [if_neg h1, hnb, if_neg (by decide), if_pos hrd]
  rw [this]
  refine zR ?_
  refine wT ?_
  refine zS @cS ?_
  exact W_ret (Ret_bad rfl rfl rfl rfl)
end Go.Proofs.YtjahkcgckiobkaaGreatDoor
namespace Go.Proofs.YtjahkcgckiobkaaGreatDoor
open Go Go.Dat Go.Proofs Go.RowKit Go.Shelf Nat32
def exF1 : Fx := ⟨[120], 1, [[78, 65]], qX (Rat.divInt 1 100)⟩
def exF2 : Fx := ⟨[103], 2, [], (false, [], [])⟩
def exR : List (List Bs) := [[[50, 53, 48], [97]], [[78, 65], [98]]]
def exC1 : List Tc := [⟨false, qX (Rat.divInt 5 2), 0⟩, ⟨true, (false, [], []), 0⟩]
def exC2 : List Tc := [⟨false, (false, [], []), 0⟩, ⟨false, (false, [], []), 1⟩]
def exK : List DV := [.str [120], .int .i64 1, .sl 1 (strL []), .sl 5 (cxs exC1), .str [103], .int .i64 2, .sl 1 (strL [[97], [98]]), .sl 5 (cxs exC2)]
theorem ex_bld : bldR [exF1, exF2] exR = .tup [.agg [.int .i64 2, .sl 4 exK], .int .i64 0, .int .i64 0] := by
 rw [bldR_ok (by decide) (by kernel_rfl) (by kernel_rfl) (by kernel_rfl)]
 have e : (recR parseQ [exF1, exF2] exR exR.length).2 = [([], exC1), ([[97], [98]], exC2)] := by kernel_rfl
 rw [e]
 rfl
theorem ex_lim (x : Rat) (h : RB x 10) : okN0 (qX x) := ⟨lim_limbs _, lim_dn _, Nat.le_trans h.1 (by decide), Nat.le_trans (RB_dn h) (by decide)⟩
theorem ex_build : PCalls Tryz.prog 13 [.sl 6 (fxC exF1 ++ [.str [103], .int .i64 2, .nils, .bool false, .nils, .nils]), .sl 1 [.sl 1 [.str [50, 53, 48], .str [97]], .sl 1 [.str [78, 65], .str [98]]]] (.tup [.agg [.int .i64 2, .sl 4 exK], .int .i64 0, .int .i64 0]) := by
 rw [← ex_bld]
 refine PCalls_wk (ds' := [.sl 6 (fxs [exF1, exF2]), .sl 1 (recD exR)]) (.cons (WkD.sl 6 (WkL.app (WkL.refl _) ?_)) (.cons (WkD.refl _) .nil)) (tBld_calls [exF1, exF2] exR (by decide) (by decide) ?_ ?_ ?_ ?_)
 ·exact .cons (WkD.refl _) (.cons (WkD.refl _) (.cons (WkD.nils 1) (.cons (WkD.refl _) (.cons (WkD.nils 1) (.cons (WkD.nils 1) .nil)))))
 ·intro f hf
  simp only [List.mem_cons, List.not_mem_nil, or_false] at hf
  rcases hf with rfl | rfl
  ·exact ex_lim _ (by unfold RB; decide +kernel)
  ·show okN0 ((false, [], []) : XN)
   exact ⟨fun x hx => absurd hx List.not_mem_nil, fun x hx => absurd hx List.not_mem_nil, Nat.zero_le _, Nat.zero_le _⟩
 ·intro f hf
  simp only [List.mem_cons, List.not_mem_nil, or_false] at hf
  rcases hf with rfl | rfl <;> decide
 ·intro f hf
  simp only [List.mem_cons, List.not_mem_nil, or_false] at hf
  rcases hf with rfl | rfl <;> decide
 ·intro r hr
  simp only [exR, List.mem_cons, List.not_mem_nil, or_false] at hr
  rcases hr with rfl | rfl
  ·refine ⟨by decide, fun s hs => ?_⟩
   simp only [List.mem_cons, List.not_mem_nil, or_false] at hs
   rcases hs with rfl | rfl <;> decide
  ·refine ⟨by decide, fun s hs => ?_⟩
   simp only [List.mem_cons, List.not_mem_nil, or_false] at hs
   rcases hs with rfl | rfl <;> decide
theorem lt_awake_calls : PCalls Tryz.prog 12 [] (.bool true) := by
 have c1 := pFraction_calls 1 100 (by decide) (by decide) (by decide)
 have c2 := pFraction_calls 5 2 (by decide) (by decide) (by decide)
 have c3 := ex_build
 have c4 : PCalls Tryz.prog 20 [Q (Rat.divInt 5 2), Q (Rat.divInt 5 2)] (.bool true) := by
  have := pSameL (Rat.divInt 5 2) (Rat.divInt 5 2) (by unfold RB; decide +kernel) (by unfold RB; decide +kernel)
  rwa [decide_eq_true rfl] at this
 have h1 : laid [.str [], .int .i64 0, .nils, .bool false, .nils, .nils] [(0, 1, .str [120]), (1, 1, .int .i64 1), (2, 1, .sl 1 [.str [78, 65]]), (3, 3, Q (Rat.divInt 1 100))] = some (fxC exF1) := rfl
 have h2 : laid [.str [], .int .i64 0, .nils, .bool false, .nils, .nils] [(0, 1, .str [103]), (1, 1, .int .i64 2)] = some [.str [103], .int .i64 2, .nils, .bool false, .nils, .nils] := rfl
 have h3 : laid [.str [], .int .i64 0, .nils, .bool false, .nils, .nils, .str [], .int .i64 0, .nils, .bool false, .nils, .nils] [(0, 6, .agg (fxC exF1)), (6, 6, .agg [.str [103], .int .i64 2, .nils, .bool false, .nils, .nils])] = some (fxC exF1 ++ [.str [103], .int .i64 2, .nils, .bool false, .nils, .nils]) := rfl
 have h4 : ∀ a b : List DV, laid [.nils, .nils] [(0, 1, .sl 1 a), (1, 1, .sl 1 b)] = some [.sl 1 a, .sl 1 b] := fun _ _ => rfl
 have h5 : ∀ a b : Bs, laid [.str [], .str []] [(0, 1, .str a), (1, 1, .str b)] = some [.str a, .str b] := fun _ _ => rfl
 have h6 : ∀ a : Bs, laid [.str []] [(0, 1, .str a)] = some [.str a] := fun _ => rfl
 generalize hA : fxC exF1 ++ [.str [103], .int .i64 2, .nils, .bool false, .nils, .nils] = A at *
 have hAr : ∀ d ∈ A, d.rf = true := by rw [← hA]; exact List.all_eq_true.1 rfl
 have k3 : exK.getD 3 .undef = .sl 5 (cxs exC1) := rfl
 obtain ⟨Y, hY⟩ : ∃ Y : List DV, Y = [.str [97], .str [98]] := ⟨_, rfl⟩
 have k6 : exK.getD 6 .undef = .sl 1 Y := by rw [hY]; rfl
 have yl : Y.length = 2 := by rw [hY]; rfl
 have kl : exK.length = 8 := rfl
 have x1 : ((cxs exC1).drop 1).take 3 = xnC (qX (Rat.divInt 5 2)) := rfl
 have x5 : (cxs exC1).getD 5 .undef = .bool true := rfl
 have xl : (cxs exC1).length = 10 := rfl
 have hq : DV.agg (xnC (qX (Rat.divInt 5 2))) = Q (Rat.divInt 5 2) := rfl
 generalize exK = K at *
 generalize cxs exC1 = C at *
 generalize xnC (qX (Rat.divInt 5 2)) = X at *
 refine PCalls_of islt_awake (by simp [fnlt_awake]) ?_
 unfold codelt_awake
 refine zS h6 ?_
 refine ⟨List.all_eq_true.1 rfl, ?_⟩
 refine cP c1 ?_
 refine zS (zA h1 (zA h2 (zA h3 (zA h4 h5)))) ?_
 repeat refine ⟨List.all_eq_true.1 rfl, ?_⟩
 refine cP c3 ?_
 have dT : decide True = true := rfl
 have e84 : 8 / 4 = 2 := rfl
 have e105 : 10 / 5 = 2 := rfl
 have c22 : ((2 : Nat) : Int) = 2 := rfl
 have t0 : (0 : Int).toNat = 0 := rfl
 have t1 : (1 : Int).toNat = 1 := rfl
 refine zS (zA @cS (zA k3 (zA k6 (zA kl (zA x1 (zA x5 (zA xl (zA yl (zA hq (zA dT (zA e84 (zA e105 (zA c22 (zA t0 (zA t1 (zA @Nat.zero_mul (zA @Nat.zero_add @Nat.one_mul))))))))))))))))) ?_
 refine cP c2 ?_
 refine zS (zA @cS (zA k3 (zA k6 (zA kl (zA x1 (zA x5 (zA xl (zA yl (zA hq (zA dT (zA e84 (zA e105 (zA c22 (zA t0 (zA t1 (zA @Nat.zero_mul (zA @Nat.zero_add @Nat.one_mul))))))))))))))))) ?_
 refine cP c4 ?_
 refine zS (zA @cS (zA k3 (zA k6 (zA kl (zA x1 (zA x5 (zA xl (zA yl (zA hq (zA dT (zA e84 (zA e105 (zA c22 (zA t0 (zA t1 (zA @Nat.zero_mul (zA @Nat.zero_add @Nat.one_mul))))))))))))))))) ?_
 exact W_ret (RetP_1 (.imm rfl))
theorem zer_of {x : XN} (h : zeuB x = true) : zerB x = true := by
 unfold zeuB at h
 simp only [Bool.and_eq_true, Bool.not_eq_true', decide_eq_true_eq] at h
 obtain ⟨⟨h1, h2⟩, h3⟩ := h
 have : x = (false, [], []) := Prod.ext h1 (Prod.ext h2 h3)
 rw [this]; exact zerB_0
theorem fit_of {k : Kx} {x : Tc} (h : fitU k x = true) : fitB k x = true := by
 unfold fitU at h
 unfold fitB
 split
 ·rename_i h1
  rw [if_pos h1, Bool.and_eq_true] at h
  rw [zer_of h.1, h.2]; rfl
 ·rename_i h1
  rw [if_neg h1] at h
  split
  ·rename_i h2; rwa [if_pos h2] at h
  ·rename_i h2
   rw [if_neg h2, Bool.and_eq_true, Bool.and_eq_true] at h
   rw [zer_of h.1.1, h.1.2, h.2]; rfl
theorem tab_of_U {n : Int} {S : List Kx} (h : tabU n S = true) : tabB n S = true ∧ 0 ≤ n ∧ n ≤ 1024 ∧ S.length ≤ 32 ∧ ∀ k ∈ S, (k.ce.length : Int) = n := by
 unfold tabU at h
 simp only [Bool.and_eq_true, decide_eq_true_eq, List.all_eq_true] at h
 obtain ⟨⟨⟨⟨h1, h2⟩, h3⟩, h4⟩, h5⟩ := h
 refine ⟨?_, h1, h2, h3, fun k hk => ?_⟩
 ·unfold tabB
  simp only [Bool.and_eq_true, decide_eq_true_eq, List.all_eq_true]
  refine ⟨⟨⟨⟨h1, h2⟩, h3⟩, h5⟩, fun k hk => ?_⟩
  have := h4 k hk
  unfold colU at this
  unfold colB
  simp only [Bool.and_eq_true, List.all_eq_true] at this ⊢
  exact ⟨this.1, fun c hc => fit_of (this.2 c hc)⟩
 ·have := h4 k hk
  unfold colU shpB at this
  simp only [Bool.and_eq_true, decide_eq_true_eq] at this
  exact this.1.1.2
end Go.Proofs.YtjahkcgckiobkaaGreatDoor
namespace Go.Proofs.YtjahkcgckiobkaaGreatDoor
open Go Go.Dat Go.Proofs Go.RowKit Nat32
theorem law_of {f : Nat} {ds : List DV} {vs : Array Value} {w : World} (hc : PCalls Tryz.prog f ds (.bool true)) (hT : Tab Tryz.prog w) (hs : vs.size = ds.length) (hv : ∀ (k : Nat) d v, ds[k]? = some d → vs[k]? = some v → VI w (fun _ => False) d v) :
  Calls Tryz.prog f vs w fun e w' => e = .returned (.bool true) ∧ Below w.heap.size w w' := by
 refine (hc (fun _ => False) w vs hT (fun b h => h.elim) hs hv).mono ?_
 rintro e w' ⟨v, rfl, hvi, hx⟩
 refine ⟨?_, hx.os, hx.tape, hx.output, hx.size, fun k hk => hx.block k hk id⟩
 cases hvi; rfl
theorem max_shaped {w : World} (h : w.ShapedOpen Tryz.prog) : ∀ g, Tryz.prog.globalNamed maxName = some g → g < w.heap.size ∧ ∃ m, w.cell? ⟨g, 0, none⟩ = some (.int .i64 m) := by
 intro g hg
 rw [show Tryz.prog.globalNamed maxName = some 1 by kernel_rfl] at hg
 cases hg
 obtain ⟨m, hm⟩ := Go.Proofs.cell_of_shapedOpen_int (zero := #[.int .i64 0]) (t := 3) (g := 1) h (of_decide_eq_true (by kernel_rfl)) (by kernel_rfl) rfl (by kernel_rfl) (by kernel_rfl) Tryz.underlying3
 exact ⟨World.block_lt_of_cell? w _ hm, m, hm⟩
theorem tab_shaped {w : World} (h : w.ShapedOpen Tryz.prog) : Tab Tryz.prog w := by
 refine ⟨fun g hg => ?_, max_shaped h⟩
 rw [show Tryz.prog.globalNamed tabName = none by kernel_rfl] at hg
 cases hg
theorem handed_and_shaped {H : Type} {enc : TypeId × Value → H} {a : Assume} {C : Checked} {os : Os} {f : FuncId} {fn : Func} {s : ChangeSpec} {conds : List PathCond} {apart fresh handsOn again : Bool} {X : World → Array Value → Prop}
  (hX : ∀ (w w' : World) (args : Array Value), w.heap = w'.heap → X w args → X w' args)
  (own : ownKnob C.prog.godebug = none) (started : os.Started) (noInit : C.prog.inits.idxOf? f = none) (hfn : C.prog.funcs[f]? = some fn)
  (witness : ∃ (w : World) (tape : Tape) (i : Input), w.os = os ∧ (w.forCall tape i).Shaped C.prog ∧ i.vars = [] ∧ Input.okWide C.prog (w.forCall tape i) .any w.heap.size f i ∧
   ((s.pre enc C.prog fn conds apart (w.forCall tape i).memory i.args ∧ X (w.forCall tape i).memory i.args) ∧ sizedMet enc C.prog fn (OpenSpec.ofChange s) apart (w.forCall tape i).memory i.args) ∧ a.holds C.prog (lone (Frame.enter C.prog f i.args .normal) [] (w.forCall tape i)))
  (contract : ∀ (W : World) (base : Nat) (args : Array Value) (ds gs : List (DataW H)) (before : List MemPlace),
   (∀ (j : Nat) t v, fn.params[j]? = some t → args[j]? = some v → Value.okWide C.prog W .any base t v) →
   DataW.Whole enc C.prog fn.params.toList s.vars apart W args.toList ds gs before → X W args → W.ShapedOpen C.prog →
   Calls C.prog f args W fun e W' => ∃ v, e = .returned v ∧ s.post enc C.prog fn apart fresh handsOn again W args v W') :
  ReturnsInHanded a C os f .any (fun w args => (s.pre enc C.prog fn conds apart w args ∧ X w args) ∧ sizedMet enc C.prog fn (OpenSpec.ofChange s) apart w args) (s.post enc C.prog fn apart fresh handsOn again) := by
 refine returnsInHanded_of_calls own started noInit witness ?_
 intro w tape i _ hsh _ hok hpre _
 obtain ⟨_, _, _, fn', hfn', _, _, _, _, hval⟩ := hok
 obtain rfl : fn' = fn := Option.some.inj (hfn'.symm.trans hfn)
 obtain ⟨⟨⟨ds, gs, before, hw, _⟩, hx⟩, _⟩ := hpre
 refine (contract (w.forCall tape i) w.heap.size i.args ds gs before hval (DataW.Whole.of_heap (w' := w.forCall tape i) (by rfl) hw) (hX _ _ _ (by rfl) hx) hsh).mono ?_
 rintro e W' ⟨v, rfl, hp⟩
 exact ChangeSpec.post_blind hp
theorem lst_D {α : Type} {t : Ty} {f : α → List DV} {p : α → Prop} (hf : ∀ z, IsD t z → ∃ a, p a ∧ z = f a) : ∀ {zs : List (List DV)}, (∀ z ∈ zs, IsD t z) → ∃ l : List α, l.length = zs.length ∧ zs.flatten = l.flatMap f ∧ ∀ a ∈ l, p a
 | [], _ => ⟨[], rfl, rfl, fun a h => by cases h⟩
 | z :: zs, h => by
  obtain ⟨l, h1, h2, h3⟩ := lst_D hf (zs := zs) fun y hy => h y (List.mem_cons_of_mem _ hy)
  obtain ⟨a, g1, g2⟩ := hf z (h z List.mem_cons_self)
  refine ⟨a :: l, by simp [h1], by rw [List.flatten_cons, h2, g2]; rfl, fun x hx => ?_⟩
  rcases List.mem_cons.1 hx with rfl | hx
  ·exact g1
  ·exact h3 x hx
theorem strL_fm (l : List Bs) : l.flatMap (fun s => [DV.str s]) = strL l := by
 induction l with
 | nil => rfl
 | cons s l ih => rw [List.flatMap_cons, ih]; rfl
def okStrs (l : List Bs) : Prop := l.length ≤ 9223372036854775807 ∧ ∀ s ∈ l, s.length ≤ 9223372036854775807
theorem strs_D {zs : List (List DV)} (h : ∀ z ∈ zs, IsD .str z) (hl : zs.length ≤ 9223372036854775807) : ∃ l : List Bs, zs.flatten = strL l ∧ okStrs l := by
 obtain ⟨l, h1, h2, h3⟩ := lst_D (f := fun s : Bs => [DV.str s]) (p := fun s => s.length ≤ 9223372036854775807) (fun z hz => by obtain ⟨s, g1, g2⟩ := hz; exact ⟨s, g1, g2⟩) h
 exact ⟨l, by rw [h2, strL_fm], by rw [h1]; exact hl, h3⟩
theorem strs_D1 {z : List DV} (h : IsD (.sl .str) z) : ∃ l : List Bs, okStrs l ∧ z = [.sl 1 (strL l)] := by
 obtain ⟨zs, h1, h2, rfl⟩ := h
 obtain ⟨l, e, h3⟩ := strs_D h1 h2
 exact ⟨l, h3, by rw [e]; rfl⟩
def okXN (x : XN) : Prop := lim x.2.1 ∧ lim x.2.2 ∧ x.2.1.length ≤ 9223372036854775807 ∧ x.2.2.length ≤ 9223372036854775807
theorem xn_D {z : List DV} (h : IsD ratT z) : ∃ x : XN, okXN x ∧ z = xnC x := by
 obtain ⟨neg, a, d, h1, h2, h3, h4, rfl⟩ := h.rat
 exact ⟨(neg, a, d), ⟨h1, h2, h3, h4⟩, rfl⟩
def celT : Ty := .pair .bool (.pair ratT (.pair (.int .i64) .unit))
theorem cel_D {z : List DV} (h : IsD celT z) : ∃ c : Tc, okXN c.va ∧ z = cxC c := by
 obtain ⟨d0, r0, ⟨b, rfl⟩, ⟨d1, r1, h1, ⟨d2, r2, ⟨n, _, rfl⟩, hu, rfl⟩, rfl⟩, rfl⟩ := h
 rw [show r2 = [] from hu]
 obtain ⟨x, k2, rfl⟩ := xn_D h1
 exact ⟨⟨b, x, n⟩, k2, rfl⟩
def okCels (l : List Tc) : Prop := l.length ≤ 9223372036854775807 ∧ ∀ c ∈ l, okXN c.va
theorem cels_D {zs : List (List DV)} (h : ∀ z ∈ zs, IsD celT z) (hl : zs.length ≤ 9223372036854775807) : ∃ l : List Tc, zs.flatten = cxs l ∧ okCels l := by
 obtain ⟨l, h1, h2, h3⟩ := lst_D (f := cxC) (p := fun c => okXN c.va) (fun z hz => cel_D hz) h
 exact ⟨l, h2, by rw [h1]; exact hl, h3⟩
def colT : Ty := .pair .str (.pair (.int .i64) (.pair (.sl .str) (.pair (.sl celT) .unit)))
def okCol (k : Kx) : Prop := k.nm.length ≤ 9223372036854775807 ∧ okStrs k.le ∧ okCels k.ce
theorem col_D {z : List DV} (h : IsD colT z) : ∃ k : Kx, okCol k ∧ z = kxC k := by
 obtain ⟨d0, r0, ⟨s, g0, rfl⟩, ⟨d1, r1, ⟨n, _, rfl⟩, ⟨d2, r2, h2, ⟨d3, r3, ⟨zs, h3, h4, rfl⟩, hu, rfl⟩, rfl⟩, rfl⟩, rfl⟩ := h
 rw [show r3 = [] from hu]
 obtain ⟨l, k1, rfl⟩ := strs_D1 h2
 obtain ⟨c, e, k2⟩ := cels_D h3 h4
 refine ⟨⟨s, n, l, c⟩, ⟨g0, k1, k2⟩, ?_⟩
 rw [e]; rfl
def tabT : Ty := .pair (.int .i64) (.pair (.sl colT) .unit)
theorem tab_D {z : List DV} (h : IsD tabT z) : ∃ (n : Int) (l : List Kx), (l.length ≤ 9223372036854775807 ∧ ∀ k ∈ l, okCol k) ∧ z = [.int .i64 n, .sl 4 (kxs l)] := by
 obtain ⟨d0, r0, ⟨n, _, rfl⟩, ⟨d1, r1, ⟨zs, h3, h4, rfl⟩, hu, rfl⟩, rfl⟩ := h
 rw [show r1 = [] from hu]
 obtain ⟨l, h1, h2, h5⟩ := lst_D (f := kxC) (p := okCol) (fun z hz => col_D hz) h3
 refine ⟨n, l, ⟨by rw [h1]; exact h4, h5⟩, ?_⟩
 rw [h2]; rfl
end Go.Proofs.YtjahkcgckiobkaaGreatDoor
namespace Go.Proofs.YtjahkcgckiobkaaGreatDoor
open Go Go.Dat Go.Proofs Go.RowKit Go.Shelf Nat32
theorem okT_of {S : List Kx} (hS : S.length ≤ 9223372036854775807 ∧ ∀ k ∈ S, okCol k) (h : tabL S = true) : okT S ∧ S.length ≤ 40 ∧ ∀ k ∈ S, k.ce.length ≤ 40 ∧ k.le.length ≤ 40 ∧ ∀ c ∈ k.ce, okXN c.va ∧ c.va.2.1.length ≤ 8 ∧ c.va.2.2.length ≤ 8 := by
 unfold tabL at h
 simp only [Bool.and_eq_true, decide_eq_true_eq, List.all_eq_true] at h
 have key : ∀ k ∈ S, k.ce.length ≤ 40 ∧ k.le.length ≤ 40 ∧ ∀ c ∈ k.ce, okXN c.va ∧ c.va.2.1.length ≤ 8 ∧ c.va.2.2.length ≤ 8 := fun k hk => by
  have h1 := h.2 k hk
  unfold kxB celsB strsB at h1
  simp only [Bool.and_eq_true, decide_eq_true_eq, List.all_eq_true] at h1
  refine ⟨h1.2.1, h1.1.2.1, fun c hc => ⟨(hS.2 k hk).2.2.2 c hc, ?_⟩⟩
  have h2 := h1.2.2 c hc
  unfold ligX at h2
  exact lightB_spec h2
 refine ⟨⟨by omega, fun k hk => ?_⟩, h.1, key⟩
 obtain ⟨k1, k2, k3⟩ := key k hk
 refine ⟨(hS.2 k hk).1, by omega, by omega, fun c hc => ?_⟩
 obtain ⟨g1', g2', g3'⟩ := k3 c hc
 exact ⟨g1'.1, g1'.2.1, by omega, by omega⟩
end Go.Proofs.YtjahkcgckiobkaaGreatDoor
namespace Go.Proofs.YtjahkcgckiobkaaGreatDoor
open Go Go.Dat Go.Proofs Go.RowKit Nat32
theorem uSameCells_eq (l : List Tc) (hl : l.length ≤ 1000000) (hm : ∀ c ∈ l, okU c.va) : PCalls Tryz.prog 37 [.sl 5 (cxs l), .sl 5 (cxs l)] (.bool true) := by
 have hc : (cxs l).length / 5 = l.length := by rw [cxs_len]; omega
 have hlen := cxs_len l
 refine PCalls_of isuSameCells (by simp [fnuSameCells]) ?_
 unfold codeuSameCells
 have dt : decide (¬ True) = false := decide_eq_false (fun h => h trivial)
 refine zS (zA hc dt) ?_
 refine wFs ?_
 refine zS hc ?_
 refine W_loop (σ := Nat) (fun i => [(0, .sl 5 (cxs l)), (1, .sl 5 (cxs l)), (5, .int .i64 i)]) (fun _ => []) (fun i => i ≤ l.length) (fun i => l.length - i) 0 (Nat.zero_le _) ?_ rfl ?_
 ·simp [subF, lk]
 ·intro i hi
  try simp only at hi ⊢
  by_cases hlt : i < l.length
  ·have d1 : decide ((i : Int) < (l.length : Int)) = true := decide_eq_true (by omega)
   have ei : (i : Int).toNat = i := Int.toNat_natCast i
   have e1 : ((i : Int) + 1) = ((i + 1 : Nat) : Int) := by omega
   have h0 : (cxs l).getD (i * 5) .undef = .bool (l.getD i default).mi := fm_at (j := 0) cxC_len default hlt (by decide) _
   have h4 : (cxs l).getD (i * 5 + 4) .undef = .int .i64 (l.getD i default).lv := fm_at (j := 4) cxC_len default hlt (by decide) _
   have h1 : ((cxs l).drop (i * 5 + 1)).take 3 = xnC (l.getD i default).va := fm_win (j := 1) cxC_len default hlt (by decide)
   have hmem : l.getD i default ∈ l := by rw [List.getD_eq_getElem?_getD, List.getElem?_eq_getElem hlt]; exact List.getElem_mem hlt
   obtain ⟨r, hr, hun⟩ := hm _ hmem
   rw [hun] at h1
   have cp : PCalls Tryz.prog 20 [.agg (xnC (qX r)), .agg (xnC (qX r))] (.bool true) := pSameT r hr
   generalize (l.getD i default).mi = b at *
   generalize (l.getD i default).lv = n at *
   have hbb : (!(b == b)) = false := by cases b <;> rfl
   refine zS (zA hc d1) ?_
   refine wTs ?_
   refine zS (zA hlen (zA ei (zA h0 (zA h1 (zA h4 (zA dt hbb)))))) ?_
   refine cP cp ?_
   refine zR ?_
   refine wFs ?_
   refine zS e1 ?_
   exact ⟨i + 1, by omega, by omega, by simp [subF, lk]⟩
  ·have d1 : decide ((i : Int) < (l.length : Int)) = false := decide_eq_false (by omega)
   refine zS (zA hc d1) ?_
   refine wF ?_
   refine W_exit ?_
   refine zR ?_
   exact W_ret (RetP_1 (.imm rfl))
def okK (k : Kx) : Prop := k.le.length ≤ 1000000 ∧ k.ce.length ≤ 1000000 ∧ ∀ c ∈ k.ce, okU c.va
theorem uSame_eq (n : Int) (S : List Kx) (hl : S.length ≤ 1000000) (hm : ∀ k ∈ S, okK k) : PCalls Tryz.prog 15 [.agg [.int .i64 n, .sl 4 (kxs S)], .agg [.int .i64 n, .sl 4 (kxs S)]] (.bool true) := by
 have hc : (kxs S).length / 4 = S.length := by rw [kxs_len]; omega
 have hlen := kxs_len S
 have hKr := kxs_rf S
 refine PCalls_of isuSame (by simp [fnuSame]) ?_
 unfold codeuSame
 have dt : decide (¬ True) = false := decide_eq_false (fun h => h trivial)
 have hca : (DV.agg [.int .i64 n, .sl 4 (kxs S)]).cells? = some [.int .i64 n, .sl 4 (kxs S)] := rfl
 have hB : ∀ d ∈ [DV.int .i64 n, .sl 4 (kxs S)], d.rf = true := List.all_eq_true.1 rfl
 have hld : (DV.sl 4 (kxs S)).rf = true := rfl
 refine zS (zA hca (zA @cS (zA hc dt))) ?_
 refine wFs ?_
 refine zR ?_
 refine W_loop (σ := Nat) (fun i => [(2, .el [.int .i64 n, .sl 4 (kxs S)] 0), (3, .el [.int .i64 n, .sl 4 (kxs S)] 0), (5, .int .i64 i)]) (fun _ => []) (fun i => i ≤ S.length) (fun i => S.length - i) 0 (Nat.zero_le _) ?_ rfl ?_
 ·simp [subF, lk]
 ·intro i hi
  try simp only at hi ⊢
  by_cases hlt : i < S.length
  ·have d1 : decide ((i : Int) < (S.length : Int)) = true := decide_eq_true (by omega)
   have ei : (i : Int).toNat = i := Int.toNat_natCast i
   have e1 : ((i : Int) + 1) = ((i + 1 : Nat) : Int) := by omega
   have hw : ((kxs S).drop (i * 4)).take 4 = kxC (S.getD i default) := fm_win (j := 0) kxC_len default hlt (Nat.le_refl _)
   have hmem : S.getD i default ∈ S := by rw [List.getD_eq_getElem?_getD, List.getElem?_eq_getElem hlt]; exact List.getElem_mem hlt
   obtain ⟨k1, k2, k3⟩ := hm _ hmem
   generalize S.getD i default = k at *
   have c1 := fSameList_eq k.le (by omega)
   have c2 := uSameCells_eq k.ce k2 k3
   have hcc : (DV.agg (kxC k)).cells? = some (kxC k) := rfl
   have hcl := kxC_len k
   have h0 : (kxC k).getD 0 .undef = .str k.nm := rfl
   have h1 : (kxC k).getD 1 .undef = .int .i64 k.kd := rfl
   have h2 : (kxC k).getD 2 .undef = .sl 1 (strL k.le) := rfl
   have h3 : (kxC k).getD 3 .undef = .sl 5 (cxs k.ce) := rfl
   have hrf := kxC_rf k
   have hrfa : ((kxC k).all DV.rf) = true := List.all_eq_true.2 hrf
   have hone : (kxC k).all DV.one = true := List.all_eq_true.2 (kxC_one k)
   generalize kxC k = C at *
   refine zS (zA @cS (zA hc d1)) ?_
   refine wTs ?_
   refine zS (zA @cS (zA ei (zA hlen (zA hw (zA hld (zA hcc (zA hcl (zA h0 (zA h1 (zA h2 (zA h3 dt))))))))))) ?_
   refine ⟨⟨by omega, hrf⟩, ⟨by omega, by omega⟩, ⟨by omega, hrf⟩, ?_⟩
   have ff : ∀ l, purge 6 (.el l 0) = .el l 0 := fun l => by simp [purge, DV.has]
   refine zS (zA @cS (zA hone (zA hcl (zA h0 (zA h1 (zA h2 (zA h3 dt))))))) ?_
   refine cP c1 ?_
   refine zS (zA @cS (zA hone (zA hcl (zA h0 (zA h1 (zA h2 (zA h3 dt))))))) ?_
   refine cP c2 ?_
   refine zR ?_
   refine wFs ?_
   refine W_freeze 6 (cells := C) rfl hrfa ?_
   refine W_freeze 7 (cells := C) (by simp [rmH, lkH, map_frz 6 C hrf]) hrfa ?_
   have f1 : ∀ (o : Nat) (l : List DV), frz o C (.el l 0) = .el l 0 := fun o l => by simp [frz, purge, DV.has]
   refine zS f1 ?_
   exact ⟨i + 1, by omega, by omega, by simp [subF, lk]⟩
  ·have d1 : decide ((i : Int) < (S.length : Int)) = false := decide_eq_false (by omega)
   refine zS (zA @cS (zA hc d1)) ?_
   refine wF ?_
   refine W_exit ?_
   refine zR ?_
   exact W_ret (RetP_1 (.imm rfl))
end Go.Proofs.YtjahkcgckiobkaaGreatDoor
namespace Go.Proofs.YtjahkcgckiobkaaGreatDoor
open Go Go.Dat Go.Proofs Go.RowKit Go.Shelf Nat32
theorem okT_sel {n : Nat} {S : List Kx} {rows : List Nat} (h : okT S) (hr : ∀ r ∈ rows, r < n) (hl : rows.length ≤ 1024) (hce : ∀ k ∈ S, k.ce.length = n) : okT (selK rows S) ∧ ∀ k ∈ selK rows S, okK k := by
 have key : ∀ k' ∈ selK rows S, k'.nm.length ≤ 9223372036854775807 ∧ k'.le.length ≤ 1000000 ∧ k'.ce.length ≤ 1000000 ∧ ∀ c ∈ k'.ce, okN0 c.va ∧ okU c.va := fun k' hk' => by
  have hlc := selK_ce rows S k' hk'
  rw [selK_eq] at hk'
  obtain ⟨k, hk, rfl⟩ := List.mem_map.1 hk'
  obtain ⟨g1', g2', g3', g4'⟩ := h.2 k hk
  refine ⟨g1', g2', by omega, fun c hc => ?_⟩
  obtain ⟨c0, hc0, rfl⟩ := List.mem_map.1 (show c ∈ (selC rows k).map canC from hc)
  unfold selC at hc0
  obtain ⟨r, hrm, rfl⟩ := List.mem_map.1 hc0
  have h0 := g4' _ (memG (l := k.ce) (i := r) (by rw [hce k hk]; exact hr r hrm))
  exact ⟨okN0_can h0, ⟨_, (RB_xnV h0).mono (by decide), rfl⟩⟩
 exact ⟨⟨by rw [selK_len]; exact h.1, fun k hk => ⟨(key k hk).1, (key k hk).2.1, (key k hk).2.2.1, fun c hc => ((key k hk).2.2.2 c hc).1⟩⟩,
  fun k hk => ⟨(key k hk).2.1, (key k hk).2.2.1, fun c hc => ((key k hk).2.2.2 c hc).2⟩⟩
theorem can_of {n : Int} {S : List Kx} (h : okT S) (hv : tabU n S = true) : ∀ k ∈ S, ∀ c ∈ k.ce, xnC (canC c).va = xnC c.va := fun k hk c hc => by
 obtain ⟨_, _, _, g4'⟩ := h.2 k hk
 have hx := g4' c hc
 unfold tabU at hv
 simp only [Bool.and_eq_true, decide_eq_true_eq, List.all_eq_true] at hv
 have h4 := hv.1.2 k hk
 unfold colU at h4
 simp only [Bool.and_eq_true, List.all_eq_true] at h4
 have h5 := h4.2 c hc
 have z : zeuB c.va = true → xnC (canC c).va = xnC c.va := fun hz => by
  refine xnC_can hx.1 hx.2.1 ?_
  have := zer_of hz
  unfold zerB at this
  exact (Bool.and_eq_true _ _ ▸ this).1
 unfold fitU at h5
 split at h5
 ·rw [Bool.and_eq_true] at h5; exact z h5.1
 ·split at h5
  ·rw [Bool.and_eq_true] at h5; exact xnC_can hx.1 hx.2.1 h5.1
  ·rw [Bool.and_eq_true, Bool.and_eq_true] at h5; exact z h5.1.1
theorem okN0_okU {x : XN} (h : okN0 x) : okU (qX (xnV x)) := ⟨_, (RB_xnV h).mono (by decide), rfl⟩
theorem okT_with {S : List Kx} {cells : Nat → Kx → List Tc} (h : okT S) (hc : ∀ i, i < S.length → (cells i (S.getD i default)).length ≤ 1000000 ∧ ∀ c ∈ cells i (S.getD i default), okN0 c.va) : okT (withK cells S S.length) :=
 ⟨by rw [withK_len]; exact h.1, fun k' hk' => by
  obtain ⟨i, hi, rfl⟩ := withK_mem hk'
  obtain ⟨g1', g2', g3', g4'⟩ := h.2 _ (memG hi)
  refine ⟨g1', g2', ?_, fun c hcm => ?_⟩
  ·show ((cells i (S.getD i default)).map canC).length ≤ _
   rw [List.length_map]; exact (hc i hi).1
  ·obtain ⟨c0, hc0, rfl⟩ := List.mem_map.1 (show c ∈ (cells i (S.getD i default)).map canC from hcm)
   exact okN0_can ((hc i hi).2 _ hc0)⟩
theorem withK_ce {S : List Kx} {cells : Nat → Kx → List Tc} {n : Nat} (hl : ∀ i, i < S.length → (cells i (S.getD i default)).length = n) : ∀ k ∈ withK cells S S.length, k.ce.length = n := fun k' hk' => by
 obtain ⟨i, hi, rfl⟩ := withK_mem hk'
 show ((cells i (S.getD i default)).map canC).length = _
 rw [List.length_map]; exact hl i hi
theorem insE_ok {x : List Tc} {S : List Kx} (h : insE x S = 0) : x.length = S.length ∧ ∀ j, j < S.length → fitB (S.getD j default) (x.getD j default) = true := by
 unfold insE at h
 split at h
 ·rename_i h1
  split at h
  ·rename_i h2
   exact ⟨h1, fun j hj => List.all_eq_true.1 h2 j (List.mem_range.2 hj)⟩
  ·cases h
 ·cases h
theorem insE_zero {x : List Tc} {S : List Kx} (h1 : x.length = S.length) (h2 : ∀ j, j < S.length → fitB (S.getD j default) (x.getD j default) = true) : insE x S = 0 := by
 unfold insE
 rw [if_pos h1, if_pos (List.all_eq_true.2 fun j hj => h2 j (List.mem_range.1 hj))]
theorem ins_law {n : Nat} {S : List Kx} {a : Nat} {x : List Tc} (h : okT S) (hS : S.length ≤ 40) (hv : tabB n S = true) (hn : n ≤ 40) (ha : a ≤ n) (hce : ∀ k ∈ S, k.ce.length = n) (hx : ∀ c ∈ x, okN0 c.va) (hE : insE x S = 0) :
  PCalls Tryz.prog 35 [.agg [.int .i64 ((n + 1 : Nat) : Int), .sl 4 (kxs (insK a x S))], .int .i64 a] (.tup [.agg [.int .i64 (((n + 1 : Nat) : Int) - 1), .sl 4 (kxs (canS S))], .int .i64 0]) ∧
  PCalls Tryz.prog 36 [.agg [.int .i64 ((n + 1 : Nat) : Int), .sl 4 (kxs (insK a x S))], .int .i64 a] (.tup [.sl 5 (cxs (x.map canC)), .int .i64 0]) ∧ cxs (x.map canC) = cxs x := by
 obtain ⟨hxl, hfit⟩ := insE_ok hE
 have hle : ∀ k ∈ S, a ≤ k.ce.length := fun k hk => by rw [hce k hk]; exact ha
 have h1 : okT (insK a x S) := okT_with h fun i hi => ⟨by rw [ins_len, hce _ (memG hi)]; omega, fun c hc => by
  rcases ins_mem hc with hc | hc
  ·exact (h.2 _ (memG hi)).2.2.2 c hc
  ·rw [hc]; exact hx _ (memG (by omega))⟩
 have h2 : tabB ((n + 1 : Nat) : Int) (insK a x S) = true := withK_valid hv (by omega) (fun i hi => by rw [ins_len, hce _ (memG hi)]) fun i hi c hc => by
  rcases ins_mem hc with hc | hc
  ·exact tab_fit hv _ (memG hi) c hc
  ·rw [hc]; exact hfit i hi
 have h3 : ∀ k ∈ insK a x S, k.ce.length = n + 1 := withK_ce fun i hi => by rw [ins_len, hce _ (memG hi)]
 have hl : (insK a x S).length = S.length := withK_len _ _ _
 have c1 := tDelete_calls (n + 1) (insK a x S) a h1 (by omega) h2 (by omega) h3 (by omega)
 have c2 := tRow_calls (n + 1) (insK a x S) a h1 h2 (by omega) h3 (by omega)
 rw [del_ins x hle] at c1
 rw [row_ins hxl hle, map_can] at c2
 refine ⟨c1, c2, cxs_can fun c hc => ?_⟩
 obtain ⟨j, hj, e⟩ := List.getElem_of_mem hc
 have e2 : x.getD j default = c := by rw [List.getD_eq_getElem?_getD, List.getElem?_eq_getElem hj]; exact e
 have := hfit j (by omega)
 rw [e2] at this
 exact fit_can (hx c hc).1 (hx c hc).2.1 this
theorem del_law {n : Nat} {S : List Kx} {a : Nat} (h : okT S) (hS : S.length ≤ 40) (hv : tabB n S = true) (hn : n ≤ 40) (ha : a < n) (hce : ∀ k ∈ S, k.ce.length = n) :
  PCalls Tryz.prog 34 [.agg [.int .i64 ((n - 1 : Nat) : Int), .sl 4 (kxs (delK a S))], .int .i64 a, .sl 5 (cxs ((rowC a S).map canC))] (.tup [.agg [.int .i64 (((n - 1 : Nat) : Int) + 1), .sl 4 (kxs (canS S))], .int .i64 0]) := by
 have hlt : ∀ k ∈ S, a < k.ce.length := fun k hk => by rw [hce k hk]; exact ha
 have hl : (delK a S).length = S.length := withK_len _ _ _
 have h1 : okT (delK a S) := okT_with h fun i hi => ⟨by rw [del_len (hlt _ (memG hi)), hce _ (memG hi)]; omega, fun c hc => (h.2 _ (memG hi)).2.2.2 c (del_mem hc)⟩
 have h2 : tabB ((n - 1 : Nat) : Int) (delK a S) = true := withK_valid hv (by omega) (fun i hi => by rw [del_len (hlt _ (memG hi)), hce _ (memG hi)]) fun i hi c hc => tab_fit hv _ (memG hi) c (del_mem hc)
 have h3 : ∀ k ∈ delK a S, k.ce.length = n - 1 := withK_ce fun i hi => by rw [del_len (hlt _ (memG hi)), hce _ (memG hi)]
 have hxo : ∀ c ∈ (rowC a S).map canC, okN0 c.va := fun c hc => by
  obtain ⟨c0, hc0, rfl⟩ := List.mem_map.1 hc
  unfold rowC at hc0
  obtain ⟨k, hk, rfl⟩ := List.mem_map.1 hc0
  exact okN0_can ((h.2 k hk).2.2.2 _ (memG (hlt k hk)))
 have c1 := tInsert_calls (n - 1) (delK a S) a ((rowC a S).map canC) h1 (by omega) h2 (by omega) (by omega) h3 hxo (by rw [List.length_map, rowC_len]; omega)
 have hE : insE ((rowC a S).map canC) (delK a S) = 0 := insE_zero (by rw [List.length_map, rowC_len, hl]) fun j hj => by
  rw [hl] at hj
  have e : (delK a S).getD j default = canK (S.getD j default) (delC a (S.getD j default)) := withK_get _ _ hj
  rw [e, map_getD (by rw [rowC_len]; exact hj), rowC_get hj]
  exact fitB_can (k := S.getD j default) rfl rfl (tab_fit hv _ (memG hj) _ (memG (hlt _ (memG hj))))
 unfold insD at c1
 rw [hE, if_pos rfl, ins_del hlt] at c1
 exact c1
theorem canS_same {n : Nat} {S : List Kx} (h : okT S) (hn : n ≤ 40) (hce : ∀ k ∈ S, k.ce.length = n) (hcan : ∀ k ∈ S, ∀ c ∈ k.ce, xnC (canC c).va = xnC c.va) (hS : S.length ≤ 40) : kxs (canS S) = kxs S ∧ ∀ m : Int, PCalls Tryz.prog 15 [.agg [.int .i64 m, .sl 4 (kxs S)], .agg [.int .i64 m, .sl 4 (kxs S)]] (.bool true) := by
 have e := canS_sel hce
 have hall := selK_all hce hcan
 have ok := (okT_sel (rows := List.range n) h (fun q hq => List.mem_range.1 hq) (by rw [List.length_range]; omega) hce).2
 refine ⟨by rw [e, hall], fun m => ?_⟩
 have := uSame_eq m (selK (List.range n) S) (by rw [selK_len]; omega) ok
 rw [hall] at this
 exact this
set_option maxHeartbeats 4000000 in
theorem ltInserts_calls (n : Int) (S : List Kx) (z : Int) (x : List Tc) (hS : S.length ≤ 9223372036854775807 ∧ ∀ k ∈ S, okCol k) (hxc : okCels x) :
  PCalls Tryz.prog 9 [.agg [.int .i64 n, .sl 4 (kxs S)], .int .i64 z, .sl 5 (cxs x)] (.bool true) := by
 have aw := lt_awake_calls
 have c1 := lt_light_calls n S hS.1 (fun k hk => ⟨(hS.2 k hk).2.1, (hS.2 k hk).2.2.1⟩)
 have c2 := lt_cells_calls x hxc.1
 have hln : (kxs S).length / 4 = S.length := by rw [kxs_len]; omega
 have hlen := kxs_len S
 have hca : (DV.agg [.int .i64 n, .sl 4 (kxs S)]).cells? = some [.int .i64 n, .sl 4 (kxs S)] := rfl
 refine PCalls_of isltInserts (by simp [fnltInserts]) ?_
 unfold codeltInserts
 refine zS (zA hca @cS) ?_
 refine cP c1 ?_
 cases h1 : tabL S
 ·refine zR ?_
  refine wT ?_
  refine zR ?_
  refine cP aw ?_
  refine zR ?_
  exact W_ret (RetP_1 (.imm rfl))
 obtain ⟨hT, hS40, hK⟩ := okT_of hS h1
 refine zR ?_
 refine cP c2 ?_
 cases h2 : celsB x
 ·refine zR ?_
  refine wT ?_
  refine zR ?_
  refine cP aw ?_
  refine zR ?_
  exact W_ret (RetP_1 (.imm rfl))
 have hx40 : x.length ≤ 40 ∧ ∀ c ∈ x, okN0 c.va := by
  unfold celsB at h2
  simp only [Bool.and_eq_true, decide_eq_true_eq, List.all_eq_true] at h2
  refine ⟨h2.1, fun c hc => ?_⟩
  have h3 := h2.2 c hc
  unfold ligX at h3
  have h4 := lightB_spec h3
  have h5 := hxc.2 c hc
  exact ⟨h5.1, h5.2.1, by omega, by omega⟩
 have cu := uValid_calls n S hT
 refine zS @cS ?_
 refine cP cu ?_
 cases hv : tabU n S
 ·refine zR ?_
  refine wT ?_
  refine zR ?_
  refine cP aw ?_
  refine zR ?_
  exact W_ret (RetP_1 (.imm rfl))
 have hcan := can_of hT hv
 obtain ⟨hvB, hn0, hn1, hSl, hce⟩ := tab_of_U hv
 obtain ⟨N, rfl⟩ : ∃ N : Nat, n = N := ⟨n.toNat, by omega⟩
 by_cases hN : 40 < N
 ·have dN : decide ((40 : Int) < (N : Int)) = true := decide_eq_true (by omega)
  refine zS (zA @cS (zA hln dN)) ?_
  refine wT ?_
  refine zR ?_
  refine cP aw ?_
  refine zR ?_
  exact W_ret (RetP_1 (.imm rfl))
 have dN : decide ((40 : Int) < (N : Int)) = false := decide_eq_false (by omega)
 have cm := mdModG z (N + 1) (by omega) (by omega)
 have hm0 := Int.emod_nonneg z (show ((N + 1 : Nat) : Int) ≠ 0 by omega)
 have hm1 := Int.emod_lt_of_pos z (show (0 : Int) < ((N + 1 : Nat) : Int) by omega)
 obtain ⟨a, ha⟩ : ∃ a : Nat, z % ((N + 1 : Nat) : Int) = a := ⟨(z % ((N + 1 : Nat) : Int)).toNat, by omega⟩
 rw [ha] at cm hm1
 have haN : a ≤ N := by omega
 have hceN : ∀ k ∈ S, k.ce.length = N := fun k hk => by have := hce k hk; omega
 have eN : ((N : Int) + 1) = ((N + 1 : Nat) : Int) := by omega
 obtain ⟨hks, hsm⟩ := canS_same (n := N) hT (by omega) hceN hcan (by omega)
 refine zS (zA @cS (zA hln dN)) ?_
 refine wFs ?_
 refine zS (zA @cS eN) ?_
 refine cP cm ?_
 refine zE @cS ?_
 have cI := tInsert_calls N S a x hT (by omega) hvB haN (by omega) hceN hx40.2 (by omega)
 have dF : decide (¬ (0 : Int) = 0) = false := rfl
 have dF' : decide (¬ True) = false := rfl
 have dT : decide ((0 : Int) = 0) = true := rfl
 have dT' : decide True = true := rfl
 refine W_seq ?_
 refine W_join (ι := Unit) (fun _ => True) (fun _ => [(1, .int .i64 a), (2, .sl 5 (cxs x)), (3, .ptr 3 0)]) (fun _ => [(3, [.int .i64 N, .sl 4 (kxs S)])]) ?_ ?_
 ·by_cases hE : insE x S = 0
  ·obtain ⟨l1, l2, l3⟩ := ins_law hT (by omega) hvB (by omega) haN hceN hx40.2 hE
   have okx : ∀ c ∈ x.map canC, okU c.va := fun c hc => by
    obtain ⟨c0, hc0, rfl⟩ := List.mem_map.1 hc
    exact okN0_okU (hx40.2 c0 hc0)
   have l4 := uSameCells_eq (x.map canC) (by rw [List.length_map]; omega) okx
   unfold insD at cI
   rw [hE, if_pos rfl, eN] at cI
   rw [show ((N + 1 : Nat) : Int) - 1 = (N : Int) by omega, hks] at l1
   rw [l3] at l2 l4
   have s1 := hsm N
   generalize kxs (insK a x S) = KI at *
   generalize kxs S = KS at *
   generalize cxs x = X at *
   clear hcan hK h1 h2 hv hT hS hxc hx40 okx hvB cm c1 c2 cu
   refine zS (zA @cS (zA dF (zA dF' (zA dT dT')))) ?_
   refine cP cI ?_
   refine zS (zA @cS (zA dF (zA dF' (zA dT dT')))) ?_
   refine wT ?_
   refine zS (zA @cS (zA dF (zA dF' (zA dT dT')))) ?_
   refine cP l1 ?_
   repeat (first | refine W_seq ?_ | refine W_reg ?_ | refine W_regd ?_ | refine W_regs ?_ | refine W_regp ?_ | refine W_block ?_ | refine And.intro (by omega) ?_ | simp (maxSteps := 1000000) (disch := omega) only [cA, cB, cN, FnD.nb, lk, lkH, Dst.onT, Dst.onX, Dst.slot, setF, setH, mapF, mapH, initF, binE, unE, cnt, boundE, newsE, freshE, freshT, opE, rmH, blkQ, frz_us, Nat.reduceEqDiff, Nat.reduceLT, Nat.reduceAdd, Nat.reduceMul, Nat.reduceMod, ↓reduceIte, reduceCtorEq, Nat.reduceLeDiff, cS, dF, dF', dT, dT'])
   refine cP l2 ?_
   repeat (first | refine W_seq ?_ | refine W_reg ?_ | refine W_regd ?_ | refine W_regs ?_ | refine W_regp ?_ | refine W_block ?_ | refine And.intro (by omega) ?_ | simp (maxSteps := 1000000) (disch := omega) only [cA, cB, cN, FnD.nb, lk, lkH, Dst.onT, Dst.onX, Dst.slot, setF, setH, mapF, mapH, initF, binE, unE, cnt, boundE, newsE, freshE, freshT, opE, rmH, blkQ, frz_us, Nat.reduceEqDiff, Nat.reduceLT, Nat.reduceAdd, Nat.reduceMul, Nat.reduceMod, ↓reduceIte, reduceCtorEq, Nat.reduceLeDiff, cS, dF, dF', dT, dT'])
   refine cP s1 ?_
   refine zS (zA @cS (zA dF (zA dF' (zA dT dT')))) ?_
   refine cP l4 ?_
   refine zS (zA @cS (zA dF (zA dF' (zA dT dT')))) ?_
   refine W_drop 7 ?_
   refine W_drop 9 ?_
   have p1 : ∀ o k z, purge o (.int k z) = .int k z := fun _ _ _ => rfl
   have p2 : ∀ o l, purge o (.sl 5 l) = .sl 5 l := fun _ _ => rfl
   have p3 : ∀ o, o ≠ 3 → purge o (.ptr 3 0) = .ptr 3 0 := fun o h => by simp [purge, DV.has, Ne.symm h]
   have p4 : ∀ o b, purge o (.bool b) = .bool b := fun _ _ => rfl
   refine zE (zA p1 (zA p2 (zA p3 p4))) ?_
   refine wFs ?_
   exact ⟨(), by simp [subF, lk], by simp [rmP, purge, DV.has]⟩
  ·have dE : decide (insE x S = 0) = false := decide_eq_false hE
   unfold insD at cI
   rw [if_neg hE] at cI
   generalize insE x S = E at *
   refine zS (zA @cS (zA dF (zA dF' (zA dT dT')))) ?_
   refine cP cI ?_
   refine zS (zA @cS dE) ?_
   refine W_drop 7 ?_
   have p1 : ∀ o k z, purge o (.int k z) = .int k z := fun _ _ _ => rfl
   have p2 : ∀ o l, purge o (.sl 5 l) = .sl 5 l := fun _ _ => rfl
   have p3 : ∀ o, o ≠ 3 → purge o (.ptr 3 0) = .ptr 3 0 := fun o h => by simp [purge, DV.has, Ne.symm h]
   have p4 : ∀ o b, purge o (.bool b) = .bool b := fun _ _ => rfl
   refine zE (zA p1 (zA p2 (zA p3 p4))) ?_
   refine wFs ?_
   exact ⟨(), by simp [subF, lk], by simp [rmP, purge, DV.has]⟩
 ·rintro _ _
  by_cases haE : a = N
  ·have dE : decide ((a : Int) = (N : Int)) = true := decide_eq_true (by omega)
   refine zS (zA @cS dE) ?_
   refine wT ?_
   refine zR ?_
   refine cP aw ?_
   refine zR ?_
   exact W_ret (RetP_1 (.imm rfl))
  ·have dE : decide ((a : Int) = (N : Int)) = false := decide_eq_false (by omega)
   have haL : a < N := by omega
   have l1 := tRow_calls N S a hT hvB haL hceN (by omega)
   have l2 := tDelete_calls N S a hT (by omega) hvB haL hceN (by omega)
   have l3 := del_law hT (by omega) hvB (by omega) haL hceN
   rw [show ((N : Int) - 1) = ((N - 1 : Nat) : Int) by omega] at l2
   rw [show (((N - 1 : Nat) : Int) + 1) = (N : Int) by omega, hks] at l3
   have s1 := hsm N
   generalize cxs ((rowC a S).map canC) = R at *
   generalize kxs (delK a S) = KD at *
   generalize kxs S = KS at *
   refine zS (zA @cS dE) ?_
   refine wFs ?_
   refine zS (zA @cS (zA dF (zA dF' (zA dT dT')))) ?_
   refine cP l1 ?_
   refine zS (zA @cS (zA dF (zA dF' (zA dT dT')))) ?_
   refine cP l2 ?_
   refine zS (zA @cS (zA dF (zA dF' (zA dT dT')))) ?_
   refine cP l3 ?_
   refine zS (zA @cS (zA dF (zA dF' (zA dT dT')))) ?_
   refine cP aw ?_
   refine zS (zA @cS (zA dF (zA dF' (zA dT dT')))) ?_
   refine cP s1 ?_
   refine zS (zA @cS (zA dF (zA dF' (zA dT dT')))) ?_
   exact W_ret (RetP_1 (.imm rfl))
end Go.Proofs.YtjahkcgckiobkaaGreatDoor
