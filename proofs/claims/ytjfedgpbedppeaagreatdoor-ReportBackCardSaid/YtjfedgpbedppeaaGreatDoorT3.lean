/- Lemmas of the walk; no conditions beyond those that each states. -/
import Derived.OpenShut
import Derived.Below
import Derived.HandedShaped
import Derived.Handed
import Derived.Test.YtjfedgpbedppeaaGreatDoorD2
import Derived.Test.YtjfedgpbedppeaaGreatDoorT2
import Derived.Test.YtjfedgpbedppeaaGreatDoorN1
import Derived.Test.YtjfedgpbedppeaaGreatDoorD3
import Derived.Test.YtjfedgpbedppeaaGreatDoorC1
set_option linter.unusedSimpArgs false
set_option linter.unusedVariables false
set_option linter.unnecessarySimpa false
set_option maxHeartbeats 4000000
namespace Go.Proofs.YtjfedgpbedppeaaGreatDoor
open Go Go.Dat Go.Proofs Go.RowKit Go.Shelf Nat32
def smX (x : XR) : Prop := smQ x.2.1 x.2.2
theorem smX.ok {x : XR} (h : smX x) : okx 4 x := ⟨h.1, h.2.1, h.2.2.1, h.2.2.2.1⟩
theorem smX.fmt {x : XR} (h : smX x) : (fmtQ (xv x)).length ≤ 10 := fmt_sm (smR_rv h)
theorem smX_xq {r : Rat} (h : smR r) : smX (xq r) := smQ_Q h
theorem wPick_calls (c : List DV) (l : List Int) (hl0 : 0 < l.length) (hl : l.length ≤ 1000) (hc : isTp c) : TCalls Tryz.prog 21 [.ptr 1048576 0, .sl 1 (l.map (.int .i64))] c fun r c' => isTp c' ∧ ∃ v ∈ l, r = .int .i64 v := by
 have cn := wNext_calls c l.length hc (by omega)
 have hil := ints_len l
 refine MRel_of iswPick (by simp [fnwPick]) ?_
 unfold codewPick
 refine zS hil ?_
 refine callC_lend1 1048576 cn rfl (by simp [lkH]) hc.rf (by simp [rn, fwd1]) fun r c' hr hc' hQ => ?_
 obtain ⟨ht, k, hk, rfl⟩ := hQ
 have e3 : ((k : Int)).toNat = k := Int.toNat_natCast k
 have hkl : k < l.length := by omega
 have hlt : (k : Int) < (l.length : Int) := by omega
 have hg := ints_getD hkl
 have hm : l.getD k 0 ∈ l := by rw [List.getD_eq_getElem?_getD, List.getElem?_eq_getElem hkl]; exact List.getElem_mem hkl
 refine zS (zA e3 (zA hg hil)) ?_
 exact W_ret (RetT (c' := c') rfl (by simp [lkH, setH]) hc' ⟨ht, _, hm, rfl⟩)
theorem RetTC {n k o : Nat} {fr : Fr} {H : Hp} {cells c' cs : List DV} {Q : DV → List DV → Prop} (h1 : lk fr k = .ptr o 0) (h2 : lkH H o = some cs) (h3 : cs.length = n) (hd : (DV.agg cs).rf = true) (hh : lkH H 1048576 = some c') (hc : ∀ d ∈ c', d.rf = true) (hQ : Q (.agg cs) c') :
  RetPR [.cn n k] [(1048576, cells)] (fun r H' => ∃ c', H' = [(1048576, c')] ∧ (∀ d ∈ c', d.rf = true) ∧ r.rf = true ∧ Q r c') .ret fr H := by
 refine ⟨.inr rfl, [.agg cs], .agg cs, [(1048576, c')], ⟨c', rfl, hc, hd, hQ⟩, fun o _ h => ?_, ?_, rn_rf _ _ hd, fun o c h => ?_⟩
 ·rw [lkH_one] at h ⊢
  split at h
  ·rename_i e; rw [if_pos e]; rfl
  ·cases h
 ·simp [resDs, resD1, h1, h2, h3, List.take_of_length_le (Nat.le_of_eq h3)]
 ·rw [lkH_one] at h
  split at h
  ·rename_i e
   subst e
   cases h
   exact ⟨_, hh, map_rf _ hc⟩
  ·cases h
theorem xc_agg (x : XR) : (DV.agg (xc x)).rf = true := by rw [DV.rf_agg]; exact List.all_eq_true.2 (xc_rf x)
theorem pInt_calls (v : Int) (h : v.natAbs ≤ 1000) : PCalls Tryz.prog 35 [.int .i64 v] (.agg (xc (xq (v : Rat)))) := pFromInt_calls v (by omega) (by omega)
theorem pFrac_calls (a b : Int) (ha : a.natAbs ≤ 1000) (hb : b ≠ 0) (hb2 : b.natAbs ≤ 1000) : PCalls Tryz.prog 34 [.int .i64 a, .int .i64 b] (.agg (xc (xq (Rat.divInt a b)))) := pFraction_calls a b (by omega) hb (by omega)
def ratQ (r : DV) (c' : List DV) : Prop := isTp c' ∧ ∃ q : Rat, smR q ∧ r = .agg (xc (xq q))
theorem wRat_calls (c : List DV) (hc : isTp c) : TCalls Tryz.prog 10 [.ptr 1048576 0] c ratQ := by
 have cn := wNext_calls c 8 hc (by decide)
 refine MRel_of iswRat (by simp [fnwRat]) ?_
 unfold codewRat
 refine zR ?_
 refine callC_lend1 1048576 cn rfl (by simp [lkH]) hc.rf (by simp [rn, fwd1]) fun r c1 hr hc1 hQ => ?_
 obtain ⟨ht, k, hk, rfl⟩ := hQ
 by_cases h6 : k = 6
 ·have d6 : decide ((k : Int) = 6) = true := decide_eq_true (by omega)
  refine zS d6 ?_
  refine wT ?_
  refine zR ?_
  have cn1 := wNext_calls c1 13 ht (by decide)
  refine callC_lend1 1048576 cn1 rfl (by simp [lkH, setH]) ht.rf (by simp [rn, fwd1]) fun r c2 hr hc2 hQ => ?_
  obtain ⟨ht2, k2, hk2, rfl⟩ := hQ
  refine zR ?_
  have cn2 := wNext_calls c2 6 ht2 (by decide)
  refine callC_lend1 1048576 cn2 rfl (by simp [lkH, setH]) ht2.rf (by simp [rn, fwd1]) fun r c3 hr hc3 hQ => ?_
  obtain ⟨ht3, k3, hk3, rfl⟩ := hQ
  refine zR ?_
  have cf := pFrac_calls ((k2 : Int) - 6) (1 + (k3 : Int)) (by omega) (by omega) (by omega)
  refine cP cf ?_
  have hsm := (smR_divInt (z := (k2 : Int) - 6) (e := 1 + (k3 : Int)) (by omega) (by omega) (by omega))
  generalize (Rat.divInt ((k2 : Int) - 6) (1 + (k3 : Int))) = q at *
  have hxc := xc_cells (xq q)
  have hx3 : (xc (xq q)).length = 3 := rfl
  refine zS (zA hxc (zA hx3 @cS)) ?_
  exact W_ret (RetTC (c' := c3) rfl rfl rfl (xc_agg _) (by simp [lkH, setH]) hc3 ⟨ht3, q, hsm, rfl⟩)
 ·have d6 : decide ((k : Int) = 6) = false := decide_eq_false (by omega)
  refine zS d6 ?_
  refine wF ?_
  by_cases h7 : k = 7
  ·have d7 : decide ((k : Int) = 7) = true := decide_eq_true (by omega)
   refine zS d7 ?_
   refine wT ?_
   refine zR ?_
   have cn1 := wNext_calls c1 2001 ht (by decide)
   refine callC_lend1 1048576 cn1 rfl (by simp [lkH, setH]) ht.rf (by simp [rn, fwd1]) fun r c2 hr hc2 hQ => ?_
   obtain ⟨ht2, k2, hk2, rfl⟩ := hQ
   refine zS (zA @cS (zA @rfm_nil0 @rfm_int)) ?_
   have cp := wPick_calls c2 [1, 1, 7] (by decide) (by decide) ht2
   refine callC_lend1 1048576 cp rfl (by simp [lkH, setH]) ht2.rf (by simp [rn, fwd1, rnL]) fun r c3 hr hc3 hQ => ?_
   obtain ⟨ht3, v, hv, rfl⟩ := hQ
   have hv1 : v = 1 ∨ v = 7 := by simpa using hv
   refine zR ?_
   have cf := pFrac_calls ((k2 : Int) - 1000) v (by omega) (by omega) (by omega)
   refine cP cf ?_
   have hsm := (smR_divInt (z := (k2 : Int) - 1000) (e := v) (by omega) (by omega) (by omega))
   generalize (Rat.divInt ((k2 : Int) - 1000) v) = q at *
   have hxc := xc_cells (xq q)
   have hx3 : (xc (xq q)).length = 3 := rfl
   refine zS (zA hxc (zA hx3 @cS)) ?_
   exact W_ret (RetTC (c' := c3) rfl rfl rfl (xc_agg _) (by simp [lkH, setH]) hc3 ⟨ht3, q, hsm, rfl⟩)
  ·have d7 : decide ((k : Int) = 7) = false := decide_eq_false (by omega)
   refine zS d7 ?_
   refine wFs ?_
   refine zR ?_
   have cn1 := wNext_calls c1 9 ht (by decide)
   refine callC_lend1 1048576 cn1 rfl (by simp [lkH, setH]) ht.rf (by simp [rn, fwd1]) fun r c2 hr hc2 hQ => ?_
   obtain ⟨ht2, k2, hk2, rfl⟩ := hQ
   refine zR ?_
   have cf := pInt_calls ((k2 : Int) - 4) (by omega)
   refine cP cf ?_
   have hsm := (smR_int (v := (k2 : Int) - 4) (by omega))
   generalize (((k2 : Int) - 4 : Int) : Rat) = q at *
   have hxc := xc_cells (xq q)
   have hx3 : (xc (xq q)).length = 3 := rfl
   refine zS (zA hxc (zA hx3 @cS)) ?_
   exact W_ret (RetTC (c' := c2) rfl rfl rfl (xc_agg _) (by simp [lkH, setH]) hc2 ⟨ht2, q, hsm, rfl⟩)
end Go.Proofs.YtjfedgpbedppeaaGreatDoor
namespace Go.Proofs.YtjfedgpbedppeaaGreatDoor
open Go Go.Dat Go.Proofs Go.RowKit Go.Shelf Nat32
theorem xcs_map_get (rs : List Rat) {i : Nat} (h : i < rs.length) : (rs.map xq).getD i (false, [], []) = xq (rs.getD i 0) := by
 rw [List.getD_eq_getElem?_getD, List.getD_eq_getElem?_getD, List.getElem?_map, List.getElem?_eq_getElem h]; rfl
theorem pSameList_calls (rs : List Rat) (hl : rs.length ≤ 1000) (hRB : ∀ r ∈ rs, RB r 900) : PCalls Tryz.prog 27 [.sl 3 (xcs (rs.map xq)), .sl 3 (xcs (rs.map xq))] (.bool true) := by
 have hxl : (xcs (rs.map xq)).length = rs.length * 3 := by rw [xcs_len, List.length_map]; omega
 have hd3 : rs.length * 3 / 3 = rs.length := by omega
 have d0 : decide (¬ ((rs.length : Nat) : Int) = (rs.length : Int)) = false := decide_eq_false (fun h => h rfl)
 refine PCalls_of ispSameList (by simp [fnpSameList]) ?_
 unfold codepSameList
 refine zS (zA hxl (zA hd3 d0)) ?_
 refine wFs ?_
 refine zR ?_
 refine W_loop (σ := Nat) (fun i => [(0, .sl 3 (xcs (rs.map xq))), (1, .sl 3 (xcs (rs.map xq))), (5, .int .i64 i)]) (fun _ => []) (fun i => i ≤ rs.length) (fun i => rs.length - i) 0 (Nat.zero_le _) ?_ rfl ?_
 ·simp [subF, lk]
 ·intro i hi
  try simp only at hi ⊢
  by_cases hlt : i < rs.length
  ·have d2 : decide ((i : Int) < (rs.length : Int)) = true := decide_eq_true (by omega)
   have ei : (i : Int) + 1 = ((i + 1 : Nat) : Int) := by omega
   have hgx := xcs_get (rs.map xq) i (by rw [List.length_map]; exact hlt)
   rw [Nat.mul_comm, xcs_map_get rs hlt] at hgx
   have hk3 : ((i : Int)).toNat = i := Int.toNat_natCast i
   have hmem : rs.getD i 0 ∈ rs := by rw [List.getD_eq_getElem?_getD, List.getElem?_eq_getElem hlt]; exact List.getElem_mem hlt
   have cm := pSameT (rs.getD i 0) (hRB _ hmem)
   rw [← xc_xq] at cm
   have hfit : i * 3 + 3 ≤ (xcs (rs.map xq)).length := by omega
   generalize rs.getD i 0 = q at *
   refine zS (zA hxl (zA hd3 d2)) ?_
   refine wTs ?_
   refine zS (zA hxl (zA hk3 hgx)) ?_
   refine callC_pure cm (by rw [List.all_cons, List.all_cons, xc_agg]; rfl) ?_
   refine zR ?_
   refine wFs ?_
   refine zS ei ?_
   refine ⟨i + 1, by omega, by omega, by simp [subF, lk]⟩
  ·have d2 : decide ((i : Int) < (rs.length : Int)) = false := decide_eq_false (by omega)
   refine zS (zA hxl (zA hd3 d2)) ?_
   refine wF ?_
   refine W_exit ?_
   refine zR ?_
   exact W_ret (RetP_1 (.imm rfl))
theorem rtSame_calls (rs : List Rat) (hl : rs.length = 6) (hRB : ∀ r ∈ rs, RB r 900) : PCalls Tryz.prog 49 [.agg (xcs (rs.map xq)), .agg (xcs (rs.map xq))] (.bool true) := by
 have cm := pSameList_calls rs (by omega) hRB
 have hl6 : (rs.map xq).length = 6 := by rw [List.length_map, hl]
 generalize rs.map xq = xs at *
 have hc := xcs_cells xs
 have hne : xcs xs ≠ [] := fun e => by have := xcs_len xs; rw [e, hl6] at this; cases this
 have hrf : ∀ d ∈ xcs xs, d.rf = true := xcs_rf xs
 have hx18 : (xcs xs).length = 18 := by rw [xcs_len]; omega
 have hla : laid [.bool false, .nils, .nils, .bool false, .nils, .nils, .bool false, .nils, .nils, .bool false, .nils, .nils, .bool false, .nils, .nils, .bool false, .nils, .nils] [(0, 3, .agg (xc (xs.getD 0 (false, [], [])))), (3, 3, .agg (xc (xs.getD 1 (false, [], [])))), (6, 3, .agg (xc (xs.getD 2 (false, [], [])))), (9, 3, .agg (xc (xs.getD 3 (false, [], [])))), (12, 3, .agg (xc (xs.getD 4 (false, [], [])))), (15, 3, .agg (xc (xs.getD 5 (false, [], []))))] = some (xcs xs) := by
  obtain ⟨a, b, c, d, e, f, rfl⟩ := six_xs hl6
  exact laid18 a b c d e f
 have g0 := xcs_get xs 0 (by omega)
 have g1 := xcs_get xs 1 (by omega)
 have g2 := xcs_get xs 2 (by omega)
 have g3 := xcs_get xs 3 (by omega)
 have g4 := xcs_get xs 4 (by omega)
 have g5 := xcs_get xs 5 (by omega)
 simp only [Nat.reduceMul] at g0 g1 g2 g3 g4 g5
 refine PCalls_of isrtSame (by simp [fnrtSame]) ?_
 unfold codertSame
 refine W_seq ?_
 refine W_reg ?_
 refine zE hc ?_
 refine zS (zA g0 (zA g1 (zA g2 (zA g3 (zA g4 (zA g5 (zA hx18 hla))))))) ?_
 refine callC_pure cm (by simp [List.all_cons, DV.rf]) ?_
 refine zR ?_
 exact W_ret (RetP_1 (.imm rfl))
theorem reSame_calls (rs : List Rat) (hl : rs.length = 6) (hRB : ∀ r ∈ rs, RB r 900) : PCalls Tryz.prog 17 [.agg (xcs (rs.map xq)), .agg (xcs (rs.map xq))] (.bool true) := by
 have cm := rtSame_calls rs hl hRB
 have hl6 : (rs.map xq).length = 6 := by rw [List.length_map, hl]
 generalize rs.map xq = xs at *
 have hc := xcs_cells xs
 have hx18 : (xcs xs).length = 18 := by rw [xcs_len]; omega
 have ht18 : (xcs xs).take 18 = xcs xs := List.take_of_length_le (by omega)
 refine PCalls_of isreSameTest (by simp [fnreSameTest]) ?_
 unfold codereSameTest
 refine W_seq ?_
 refine W_reg ?_
 refine zE hc ?_
 refine zS (zA hx18 (zA ht18 @List.drop_zero.{0})) ?_
 refine callC_pure cm (by rw [List.all_cons, List.all_cons, xcs_agg]; rfl) ?_
 refine zR ?_
 exact W_ret (RetP_1 (.imm rfl))
end Go.Proofs.YtjfedgpbedppeaaGreatDoor
namespace Go.Proofs.YtjfedgpbedppeaaGreatDoor
open Go Go.Dat Go.Proofs Nat32 Go.RowKit
theorem rfk_nil : (∀ d ∈ ([] : List DV), d.rf = true) ↔ True := by simp
theorem rfk_str (l : List UInt8) (xs : List DV) : (∀ d ∈ DV.str l :: xs, d.rf = true) ↔ ∀ d ∈ xs, d.rf = true := by simp [DV.rf]
theorem rfk_sl (s : Nat) (ys xs : List DV) : (∀ d ∈ DV.sl s ys :: xs, d.rf = true) ↔ ∀ d ∈ xs, d.rf = true := by simp [DV.rf]
theorem getD_bd {α : Type} {p : α → Prop} {l : List α} {d : α} (hd : p d) (h : ∀ x ∈ l, p x) (i : Nat) : p (l.getD i d) := by
 rw [List.getD_eq_getElem?_getD]
 cases hi : l[i]? with
 | none => exact hd
 | some x => exact h x (List.mem_of_getElem? hi)
theorem lr_awake_calls : PCalls Tryz.prog 7 [] (.bool true) := by
 have hc : colR [[[97], [49, 48]], [[98, 99, 100], [50]]] = .tup [.str [32, 32, 97, 32, 32, 49, 48, 10, 98, 99, 100, 32, 32, 32, 50, 10], .int .i64 0] := by
  have h1 : shapeOk [[[97], [49, 48]], [[98, 99, 100], [50]]] = true := by decide +kernel
  have h2 : formB [[[97], [49, 48]], [[98, 99, 100], [50]]] = true := by decide +kernel
  have h3 : colT (wdT [[[97], [49, 48]], [[98, 99, 100], [50]]] 2) [[[97], [49, 48]], [[98, 99, 100], [50]]] 2 2 = [32, 32, 97, 32, 32, 49, 48, 10, 98, 99, 100, 32, 32, 32, 50, 10] := by decide +kernel
  unfold colR
  rw [h1, h2]
  show DV.tup [.str (colT (wdT [[[97], [49, 48]], [[98, 99, 100], [50]]] 2) [[[97], [49, 48]], [[98, 99, 100], [50]]] 2 2), .int .i64 0] = _
  rw [h3]
 have c := rpColumns_calls [[[97], [49, 48]], [[98, 99, 100], [50]]] (by decide)
  (fun i => getD_bd (p := fun r : List (List UInt8) => r.length ≤ 9223372036854775807) (by decide) (by decide) i)
  (fun i j => getD_bd (p := fun r : List (List UInt8) => (r.getD j []).length ≤ 9223372036854775807) (by simp) (fun r hr => getD_bd (p := fun s : List UInt8 => s.length ≤ 9223372036854775807) (by decide) (by
   intro x hx
   simp only [List.mem_cons, List.not_mem_nil, or_false] at hr
   rcases hr with rfl | rfl <;> (simp only [List.mem_cons, List.not_mem_nil, or_false] at hx; rcases hx with rfl | rfl <;> decide)) j) i)
 rw [hc] at c
 have c' : PCalls Tryz.prog 29 [.sl 1 [.sl 1 [.str [97], .str [49, 48]], .sl 1 [.str [98, 99, 100], .str [50]]]] (.tup [.str [32, 32, 97, 32, 32, 49, 48, 10, 98, 99, 100, 32, 32, 32, 50, 10], .int .i64 0]) := c
 clear c hc
 refine PCalls_of islr_awake (by simp [fnlr_awake]) ?_
 unfold codelr_awake
 repeat (first | refine zQ (zA @cS (zA @rfk_nil (zA @rfk_str (zA @rfk_sl (zA @decide_true cI))))) ?_ | refine cP c' ?_ | exact zT)
end Go.Proofs.YtjfedgpbedppeaaGreatDoor
namespace Go.Proofs.YtjfedgpbedppeaaGreatDoor
open Go Go.Dat Go.Proofs Go.RowKit Go.Shelf Nat32
theorem tpre_sm {xs : List XR} (hx : ∀ x ∈ xs, smX x) (hl : xs.length = 6) : ∀ n, n ≤ 6 → (tpre (xs.map xv) n).length ≤ n * 40
 | 0, _ => Nat.zero_le _
 | n + 1, h => by
  have h1 := tpre_sm hx hl n (by omega)
  have hm : xs.getD n (false, [], []) ∈ xs := by rw [List.getD_eq_getElem?_getD, List.getElem?_eq_getElem (show n < xs.length by omega)]; exact List.getElem_mem _
  have h2 := (hx _ hm).fmt
  simp only [tpre, List.length_append, tl, List.length_cons, List.length_nil]
  rw [xv_get xs n (by omega)]
  have h3 := tw_le (n := n) (by omega)
  omega
theorem z18_st (C : List DV) : List.take 0 z18 ++ C ++ List.drop 18 z18 = C := by simp [z18]
end Go.Proofs.YtjfedgpbedppeaaGreatDoor
namespace Go.Proofs.YtjfedgpbedppeaaGreatDoor
open Go Go.Dat Go.Proofs Go.RowKit Go.Shelf Nat32
def coefRec (n : Bs) (r : Rat) (k : Int) : List Bs := [n, fmtQ r, decR r k]
def coefRecs (ns : List Bs) (rs : List Rat) (k : Int) (i : Nat) : List (List Bs) := (List.range i).map fun i => coefRec (ns.getD i []) (rs.getD i 0) k
def coefV (ns : List Bs) (rs : List Rat) (k : Int) : DV :=
 if ns.length < 1 ∨ rs.length ≠ ns.length then .tup [.str [], .int .i64 6] else if k < 0 ∨ 20 < k then .tup [.str [], .int .i64 1] else colR (coefRecs ns rs k ns.length)
theorem coefRecs_succ (ns : List Bs) (rs : List Rat) (k : Int) (i : Nat) : coefRecs ns rs k (i + 1) = coefRecs ns rs k i ++ [coefRec (ns.getD i []) (rs.getD i 0) k] := by
 unfold coefRecs; rw [List.range_succ, List.map_append]; rfl
theorem coefRecs_len (ns : List Bs) (rs : List Rat) (k : Int) (i : Nat) : (coefRecs ns rs k i).length = i := by unfold coefRecs; simp
theorem colR_tup (r : List (List Bs)) : ∃ s e, colR r = .tup [.str s, .int .i64 e] := by
 unfold colR; split
 ·split <;> exact ⟨_, _, rfl⟩
 ·exact ⟨_, _, rfl⟩
theorem decR_len {r : Rat} (h : RB r 100) (k : Int) : (decR r k).length ≤ 9223372036854775807 := by
 unfold decR
 split
 ·simp
 ·have := decS_len (k := k.toNat) h
  omega
theorem coefRecs_B {ns : List Bs} {rs : List Rat} {k : Int} {i : Nat} (hi : i ≤ 1000000) (hn : ∀ s ∈ ns, s.length ≤ 9223372036854775807) (hr : ∀ r ∈ rs, RB r 100) : recB 9223372036854775807 (coefRecs ns rs k i) := by
 refine recB_of (by rw [coefRecs_len]; omega) fun r hr' => ?_
 unfold coefRecs at hr'
 obtain ⟨j, hj, rfl⟩ := List.mem_map.1 hr'
 have hg : RB (rs.getD j 0) 100 := by
  rw [List.getD_eq_getElem?_getD]
  cases h : rs[j]? with
  | none => exact RB_int (z := 0) (by simp [limbs_zero]) (by decide)
  | some x => exact hr x (List.mem_of_getElem? h)
 have hs : (ns.getD j []).length ≤ 9223372036854775807 := by
  rw [List.getD_eq_getElem?_getD]
  cases h : ns[j]? with
  | none => simp
  | some x => exact hn x (List.mem_of_getElem? h)
 refine ⟨by simp [coefRec], fun s h => ?_⟩
 simp only [coefRec, List.mem_cons, List.not_mem_nil, or_false] at h
 rcases h with rfl | rfl | rfl
 ·exact hs
 ·exact Nat.le_trans (fmtQ_len hg) (by decide)
 ·exact decR_len hg k
set_option maxHeartbeats 4000000 in
theorem rpCoefs_calls (ns : List Bs) (xs : List XR) (k : Int) (hn : ns.length ≤ 1000000) (hxl : xs.length ≤ 1000000) (hns : ∀ s ∈ ns, s.length ≤ 9223372036854775807) (hx : ∀ x ∈ xs, okx 100 x) : PCalls Tryz.prog 22 [.sl 1 (strL ns), .sl 3 (xcs xs), .int .i64 k] (coefV ns (xs.map xv) k) := by
 have hsl := strL_len ns
 have hxc : (xcs xs).length = xs.length * 3 := by rw [xcs_len]; omega
 have hd3 : xs.length * 3 / 3 = xs.length := by omega
 have hml : (xs.map xv).length = xs.length := List.length_map ..
 refine PCalls_of isrpCoefs (by simp [fnrpCoefs]) ?_
 unfold coderpCoefs
 unfold coefV
 by_cases h1 : ns.length < 1
 ·have d1 : decide (((ns.length : Nat) : Int) < 1) = true := decide_eq_true (by omega)
  rw [if_pos (.inl h1)]
  refine zS (zA hsl (zA d1 @cT)) ?_
  refine wT ?_
  refine zR ?_
  exact W_ret (RetP_2 (.imm rfl) (.imm rfl))
 ·have d1 : decide (((ns.length : Nat) : Int) < 1) = false := decide_eq_false (by omega)
  by_cases h2 : xs.length = ns.length
  ·have d2 : decide (¬ ((xs.length : Nat) : Int) = (ns.length : Int)) = false := decide_eq_false (by omega)
   rw [if_neg (by rw [hml]; omega)]
   by_cases h3 : k < 0
   ·have d3 : decide (k < 0) = true := decide_eq_true h3
    rw [if_pos (.inl h3)]
    refine zS (zA hsl (zA hxc (zA hd3 (zA d1 d2)))) ?_
    refine wFs ?_
    refine zS (zA d3 @cT) ?_
    refine wT ?_
    refine zR ?_
    exact W_ret (RetP_2 (.imm rfl) (.imm rfl))
   ·have d3 : decide (k < 0) = false := decide_eq_false h3
    by_cases h4 : 20 < k
    ·have d4 : decide (k > 20) = true := decide_eq_true h4
     have d4' : decide (20 < k) = true := decide_eq_true h4
     rw [if_pos (.inr h4)]
     refine zS (zA hsl (zA hxc (zA hd3 (zA d1 d2)))) ?_
     refine wFs ?_
     refine zS (zA d3 (zA d4 d4')) ?_
     refine wT ?_
     refine zR ?_
     exact W_ret (RetP_2 (.imm rfl) (.imm rfl))
    ·have d4 : decide (k > 20) = false := decide_eq_false h4
     have d4' : decide (20 < k) = false := decide_eq_false h4
     rw [if_neg (by omega)]
     refine zS (zA hsl (zA hxc (zA hd3 (zA d1 d2)))) ?_
     refine wFs ?_
     refine zS (zA d3 (zA d4 d4')) ?_
     refine wFs ?_
     refine W_seq ?_
     refine W_reg ?_
     refine zD ?_
     refine W_own 8 1 49 rfl (by simp [lkH]) ?_
     refine zS hsl ?_
     refine W_loop (σ := Nat) (fun i => [(1, .sl 3 (xcs xs)), (2, .int .i64 k), (8, .osl 1 49 0 i), (27, .sl 1 (strL ns)), (28, .int .i64 ns.length), (29, .int .i64 i)])
      (fun i => [(49, recD (coefRecs ns (xs.map xv) k i))]) (fun i => i ≤ ns.length) (fun i => ns.length - i) 0 (Nat.zero_le _) ?_ rfl ?_
     ·simp [subF, lk]
     ·rintro i hi
      try simp only at hi ⊢
      have hcl := coefRecs_len ns (xs.map xv) k i
      have hrl := recD_len (coefRecs ns (xs.map xv) k i)
      by_cases hlt : i < ns.length
      ·have dl : decide ((i : Int) < (ns.length : Int)) = true := decide_eq_true (by omega)
       have ei : (i : Int).toNat = i := Int.toNat_natCast i
       have e1 : ((i : Int) + 1) = ((i + 1 : Nat) : Int) := by omega
       have hgi := strL_getD (r := ns) hlt
       have g3 := xcs_get xs i (by omega)
       rw [Nat.mul_comm 3 i] at g3
       have hok := xv_ok hx (k := i) (by omega)
       have hvg := xv_get xs i (by omega)
       have hrs := coefRecs_succ ns (xs.map xv) k i
       rw [hvg] at hrs
       generalize xs.getD i (false, [], []) = y at *
       have cf : PCalls Tryz.prog 39 [.agg (xc y)] (.str (fmtQ (xv y))) := qFormat_calls y.1 y.2.1 y.2.2 (by have := hok.2.2.1; omega) (by have := hok.2.2.2; omega) hok.1 hok.2.1
       have cd : PCalls Tryz.prog 50 [.agg (xc y), .int .i64 k] (.str (decR (xv y) k)) := qDecimal_calls y.1 y.2.1 y.2.2 k (by have := hok.2.2.1; omega) (by have := hok.2.2.2; omega) hok.1 hok.2.1
       have rfy : (DV.agg (xc y)).rf = true := xc_agg y
       have hR := coefRec (ns.getD i []) (xv y) k
       have hRe : ([.str (ns.getD i []), .str (fmtQ (xv y)), .str (decR (xv y) k)] : List DV) = strL (coefRec (ns.getD i []) (xv y) k) := rfl
       generalize coefRecs ns (xs.map xv) k i = R at *
       refine zS dl ?_
       refine wTs ?_
       repeat (first | refine W_seq ?_ | refine W_reg ?_ | refine W_regd ?_ | refine W_regs ?_ | refine W_regp ?_ | refine W_block ?_ | refine And.intro (by omega) ?_ | simp (maxSteps := 1000000) (disch := omega) only [cA, cB, cN, FnD.nb, lk, lkH, Dst.onT, Dst.onX, Dst.slot, setF, setH, mapF, mapH, initF, binE, unE, cnt, boundE, newsE, freshE, freshT, opE, rmH, blkQ, frz_us, Nat.reduceEqDiff, Nat.reduceLT, Nat.reduceAdd, Nat.reduceMul, Nat.reduceMod, ↓reduceIte, reduceCtorEq, Nat.reduceLeDiff, ei, hgi, hsl, hxc, g3])
       refine callC_pure cf (by rw [List.all_cons, rfy]; rfl) ?_
       repeat (first | refine W_seq ?_ | refine W_reg ?_ | refine W_regd ?_ | refine W_regs ?_ | refine W_regp ?_ | refine W_block ?_ | refine And.intro (by omega) ?_ | simp (maxSteps := 1000000) (disch := omega) only [cA, cB, cN, FnD.nb, lk, lkH, Dst.onT, Dst.onX, Dst.slot, setF, setH, mapF, mapH, initF, binE, unE, cnt, boundE, newsE, freshE, freshT, opE, rmH, blkQ, frz_us, Nat.reduceEqDiff, Nat.reduceLT, Nat.reduceAdd, Nat.reduceMul, Nat.reduceMod, ↓reduceIte, reduceCtorEq, Nat.reduceLeDiff, ei, hxc, g3])
       refine callC_pure cd (by rw [List.all_cons, rfy]; rfl) ?_
       refine zS (zA @cS (zA @rfm_nil (zA @rfm_str (zA @rfm_sl (zA hrl hcl))))) ?_
       refine And.intro (And.intro (by omega) (And.intro (by omega) (And.intro (fun h => h) (fun d hd => by rw [List.mem_singleton.1 hd]; rfl)))) ?_
       refine zS e1 ?_
       refine ⟨i + 1, hlt, by omega, by simp [subF, lk, purge, DV.has], ?_⟩
       rw [hrs, hRe, List.map_append, purge_recD, ← recD_app]
       rfl
      ·have dl : decide ((i : Int) < (ns.length : Int)) = false := decide_eq_false (by omega)
       obtain rfl : i = ns.length := by omega
       have hB := coefRecs_B (ns := ns) (rs := xs.map xv) (k := k) (i := ns.length) hn hns (fun r hr => by
        obtain ⟨x, hxm, rfl⟩ := List.mem_map.1 hr
        have := hx x hxm
        exact RB_rv this.1 this.2.1 this.2.2.1 this.2.2.2 (by decide))
       generalize coefRecs ns (xs.map xv) k ns.length = R at *
       have cc := rpColumns_calls R hB.1 hB.2.1 hB.2.2
       obtain ⟨s, e, hse⟩ := colR_tup R
       rw [hse] at cc ⊢
       refine zS dl ?_
       refine W_cond rfl (fun h => by cases h) (fun _ => W_exit ?_)
       refine zD ?_
       refine W_freeze 49 (cells := recD R) rfl (List.all_eq_true.2 (recD_rf R)) ?_
       have hfz := frz_recD' R 49
       rw [hcl] at hfz
       refine zS hfz ?_
       refine cP cc ?_
       refine zR ?_
       exact W_ret (RetP_2 (.imm rfl) (.imm rfl))
  ·have d2 : decide (¬ ((xs.length : Nat) : Int) = (ns.length : Int)) = true := decide_eq_true (by omega)
   rw [if_pos (.inr (by rw [hml]; exact h2))]
   refine zS (zA hsl (zA hxc (zA hd3 (zA d1 d2)))) ?_
   refine wT ?_
   refine zR ?_
   exact W_ret (RetP_2 (.imm rfl) (.imm rfl))
end Go.Proofs.YtjfedgpbedppeaaGreatDoor
namespace Go.Proofs.YtjfedgpbedppeaaGreatDoor
open Go Go.Dat Go.Proofs Go.RowKit Go.Shelf Nat32
theorem parseQ_RB1 {l : List UInt8} (hl : l.length ≤ 450) {x : Rat} (h : parseQ l = some x) : RB x 100 := by
 have key : ∀ {s : List UInt8}, s.length ≤ 450 → ∀ {x : Rat}, unsQ s = some x → RB x 100 := by
  intro s hs x h
  rw [unsQ_P, Option.map_eq_some_iff] at h
  obtain ⟨⟨n, d⟩, hp, rfl⟩ := h
  obtain ⟨b1, b2⟩ := unsP_9 hp hs
  exact RB_mk (show d ≠ 0 by have := unsP_pos hp; omega) (by rw [Int.natAbs_natCast]; exact len9 b1 (by decide)) (len9 b2 (by decide))
 unfold parseQ at h
 by_cases h45 : l.head? = some 45
 ·rw [decide_eq_true h45, if_pos h45] at h
  unfold negQ at h
  rw [if_pos rfl, Option.map_eq_some_iff] at h
  obtain ⟨y, hy, rfl⟩ := h
  exact RB_neg (key (by rw [List.length_tail]; omega) hy)
 ·rw [decide_eq_false h45, if_neg h45] at h
  exact key hl h
def coefP (ns : List Bs) (rs : List Rat) (k : Int) : Option Bs := if ns.length < 1 ∨ rs.length ≠ ns.length then none else if k < 0 ∨ 20 < k then none else colP (coefRecs ns rs k ns.length)
theorem coefV_some {ns : List Bs} {rs : List Rat} {k : Int} {u : Bs} (h : coefP ns rs k = some u) : coefV ns rs k = .tup [.str u, .int .i64 0] := by
 unfold coefP at h
 unfold coefV
 split at h
 ·cases h
 ·rename_i h1
  rw [if_neg h1]
  split at h
  ·cases h
  ·rename_i h2
   rw [if_neg h2]
   exact colR_some h
theorem coefV_none {ns : List Bs} {rs : List Rat} {k : Int} (h : coefP ns rs k = none) : ∃ e : Int, e ≠ 0 ∧ coefV ns rs k = .tup [.str [], .int .i64 e] := by
 unfold coefP at h
 unfold coefV
 split at h
 ·rename_i h1
  rw [if_pos h1]; exact ⟨6, by decide, rfl⟩
 ·rename_i h1
  rw [if_neg h1]
  split at h
  ·rename_i h2
   rw [if_pos h2]; exact ⟨1, by decide, rfl⟩
  ·rename_i h2
   rw [if_neg h2]; exact colR_none h
theorem coefP_col {ns : List Bs} {rs : List Rat} {k : Int} {u : Bs} (h : coefP ns rs k = some u) : colP (coefRecs ns rs k ns.length) = some u := by
 unfold coefP at h
 split at h
 ·cases h
 ·split at h
  ·cases h
  ·exact h
def cfNames (W : List (List Bs)) : List Bs := W.map fun r => r.getD 0 []
def cfNums (W : List (List Bs)) : List Rat := W.map fun r => (parseQ (r.getD 1 [])).getD 0
def cfOk (W : List (List Bs)) : Prop := ∀ r ∈ W, r.length = 3 ∧ parseQ (r.getD 1 []) ≠ none
def cfHit (W : List (List Bs)) (T : Bs) (k : Nat) : Prop := coefP (cfNames W) (cfNums W) k = some T
open Classical in
noncomputable def rdcR (T : Bs) : DV := if cfOk (wordsL T) ∧ ∃ k, k ≤ 20 ∧ cfHit (wordsL T) T k then .tup [.sl 1 (strL (cfNames (wordsL T))), .sl 3 (xcs ((cfNums (wordsL T)).map xq)), .int .i64 0] else .tup [.nils, .nils, .int .i64 3]
theorem rdcR_ok {T : Bs} (h1 : cfOk (wordsL T)) {k : Nat} (hk : k ≤ 20) (h2 : cfHit (wordsL T) T k) : rdcR T = .tup [.sl 1 (strL (cfNames (wordsL T))), .sl 3 (xcs ((cfNums (wordsL T)).map xq)), .int .i64 0] := by
 unfold rdcR; rw [if_pos ⟨h1, k, hk, h2⟩]
theorem rdcR_bad {T : Bs} (h : ¬ (cfOk (wordsL T) ∧ ∃ k, k ≤ 20 ∧ cfHit (wordsL T) T k)) : rdcR T = .tup [.nils, .nils, .int .i64 3] := by
 unfold rdcR; rw [if_neg h]
theorem rdcR_row {T : Bs} {i : Nat} (hi : i < (wordsL T).length) (h : ¬ (((wordsL T).getD i []).length = 3 ∧ parseQ (((wordsL T).getD i []).getD 1 []) ≠ none)) : rdcR T = .tup [.nils, .nils, .int .i64 3] :=
 rdcR_bad fun hh => h (hh.1 _ (by rw [List.getD_eq_getElem?_getD, List.getElem?_eq_getElem hi]; exact List.getElem_mem hi))
theorem rdcR_col {T : Bs} (h : colP (wordsL T) ≠ some T) : rdcR T = .tup [.nils, .nils, .int .i64 3] :=
 rdcR_bad fun hh => by
  obtain ⟨_, k, _, hk⟩ := hh
  have h1 := coefP_col hk
  have h2 := words_colP h1
  rw [h2] at h
  exact h h1
theorem take_names {W : List (List Bs)} {i : Nat} (hi : i < W.length) : (cfNames W).take (i + 1) = (cfNames W).take i ++ [(W.getD i []).getD 0 []] := by
 have : i < (cfNames W).length := by unfold cfNames; rw [List.length_map]; exact hi
 rw [List.take_add_one, List.getElem?_eq_getElem this]
 simp [cfNames, List.getElem?_eq_getElem hi]
theorem take_nums {W : List (List Bs)} {i : Nat} (hi : i < W.length) {x : Rat} (hx : parseQ ((W.getD i []).getD 1 []) = some x) : (cfNums W).take (i + 1) = (cfNums W).take i ++ [x] := by
 have : i < (cfNums W).length := by unfold cfNums; rw [List.length_map]; exact hi
 rw [List.take_add_one, List.getElem?_eq_getElem this]
 have e : W.getD i [] = W[i] := by rw [List.getD_eq_getElem?_getD, List.getElem?_eq_getElem hi]; rfl
 rw [e] at hx
 have h2 : (cfNums W)[i]? = some x := by
  unfold cfNums
  rw [List.getElem?_map, List.getElem?_eq_getElem hi, Option.map_some, hx]; rfl
 rw [List.getElem?_eq_getElem this] at h2
 cases h2
 rfl
theorem strL_app1 (l : List Bs) (s : Bs) : strL l ++ [.str s] = strL (l ++ [s]) := by unfold strL; simp
theorem strL_rfs (l : List Bs) : ∀ d ∈ strL l, d.rf = true := List.all_eq_true.1 (strL_rf l)
theorem colP_shape {recs : List (List Bs)} {t : Bs} (h : colP recs = some t) : 1 ≤ recs.length ∧ ∀ r ∈ recs, r.length = (recs.getD 0 []).length := by
 unfold colP at h
 split at h
 ·rename_i h1
  unfold shapeOk shapeB at h1
  simp only [Bool.and_eq_true, decide_eq_true_eq, List.all_eq_true] at h1
  refine ⟨h1.1.1, fun r hr => ?_⟩
  have := (h1.2 r hr).1
  cases recs with
  | nil => cases hr
  | cons a l => exact this
 ·cases h
theorem frz_strL' (l : List Bs) (o : Nat) : frz o (strL l) (.osl 1 o 0 l.length) = .sl 1 (strL l) := by
 have := strL_len l
 rw [frz_osl_eq o _ 0 l.length (by decide) (by omega), List.drop_zero, List.take_of_length_le (by omega)]
theorem frz_xcs' (xs : List XR) (o : Nat) : frz o (xcs xs) (.osl 3 o 0 xs.length) = .sl 3 (xcs xs) := by
 have := xcs_len xs
 rw [frz_osl_eq o _ 0 xs.length (by decide) (by omega), List.drop_zero, List.take_of_length_le (by omega)]
set_option maxRecDepth 10000 in
set_option maxHeartbeats 4000000 in
theorem rpReadCoefs_calls (T : Bs) (hT : T.length ≤ 1000000) (hw : ∀ r ∈ wordsL T, ∀ s ∈ r, s.length ≤ 450) : PCalls Tryz.prog 24 [.str T] (rdcR T) := by
 have cw := rpParse_calls T hT
 unfold parD at cw
 have hcol := @rdcR_col T
 have hbd := words_bd T
 have hrow := fun i => @rdcR_row T i
 have hend : (∀ i, i < (wordsL T).length → ((wordsL T).getD i []).length = 3 ∧ parseQ (((wordsL T).getD i []).getD 1 []) ≠ none) → cfOk (wordsL T) := fun h r hr => by
  obtain ⟨i, hi⟩ := List.mem_iff_getElem?.1 hr
  have h1 := h i (List.getElem?_eq_some_iff.1 hi).1
  rw [List.getD_eq_getElem?_getD, hi] at h1
  exact h1
 have hbad := @rdcR_bad T
 have hokk := fun h1 k hk h2 => @rdcR_ok T h1 k hk h2
 generalize wordsL T = W at *
 have hWl := recD_len W
 have hnl : (cfNames W).length = W.length := List.length_map ..
 have hql : (cfNums W).length = W.length := List.length_map ..
 have hq0 : ∀ i, i < W.length → ∀ x, parseQ ((W.getD i []).getD 1 []) = some x → RB x 100 := fun i hi x hx => by
  have hm : W.getD i [] ∈ W := by rw [List.getD_eq_getElem?_getD, List.getElem?_eq_getElem hi]; exact List.getElem_mem hi
  refine parseQ_RB1 (l := (W.getD i []).getD 1 []) ?_ hx
  rw [List.getD_eq_getElem?_getD]
  cases h : (W.getD i [])[1]? with
  | none => simp
  | some s => exact hw _ hm s (List.mem_of_getElem? h)
 refine PCalls_of isrpReadCoefs (by simp [fnrpReadCoefs]) ?_
 unfold coderpReadCoefs
 by_cases hcp : colP W = some T
 rotate_left
 ·rw [hcol hcp]
  rw [if_neg hcp] at cw
  have de : decide (¬ (3 : Int) = 0) = true := rfl
  refine zR ?_
  refine cP cw ?_
  refine zS (zA de @cT) ?_
  refine wT ?_
  refine zR ?_
  exact W_ret (RetP_3 (.imm rfl) (.imm rfl) (.imm rfl))
 rw [if_pos hcp] at cw
 obtain ⟨hW1, hall⟩ := colP_shape hcp
 have hg0 := recD_getD (recs := W) (i := 0) hW1
 have hs0 := strL_len (W.getD 0 [])
 have e00 : Int.toNat 0 = 0 := rfl
 have dF : decide (¬ True) = false := rfl
 by_cases h30 : (W.getD 0 []).length = 3
 rotate_left
 ·rw [hrow 0 hW1 (fun h => h30 h.1)]
  have d3 : decide (¬ (((W.getD 0 []).length : Nat) : Int) = 3) = true := decide_eq_true (by omega)
  refine zR ?_
  refine cP cw ?_
  refine zS (zA dF (zA e00 (zA hWl (zA hg0 (zA hs0 d3))))) ?_
  refine wT ?_
  refine zR ?_
  exact W_ret (RetP_3 (.imm rfl) (.imm rfl) (.imm rfl))
 have d3 : decide (¬ (((W.getD 0 []).length : Nat) : Int) = 3) = false := decide_eq_false (by omega)
 refine zR ?_
 refine cP cw ?_
 refine zS (zA dF (zA e00 (zA hWl (zA hg0 (zA hs0 d3))))) ?_
 refine wFs ?_
 refine zD ?_
 have hall3 : ∀ i, i < W.length → (W.getD i []).length = 3 := fun i hi => by
  rw [hall _ (show W.getD i [] ∈ W by rw [List.getD_eq_getElem?_getD, List.getElem?_eq_getElem hi]; exact List.getElem_mem hi), h30]
 clear hg0 hs0 d3 hall hcol hcp
 refine W_own 2 1 47 rfl (by simp [lkH, setH]) ?_
 refine W_own 3 3 51 rfl (by simp [lkH, setH]) ?_
 refine zS hWl ?_
 refine W_loop (σ := Nat) (fun i => [(0, .str T), (2, .osl 1 47 0 i), (3, .osl 3 51 0 i), (27, .sl 1 (recD W)), (28, .int .i64 W.length), (29, .int .i64 i)])
  (fun i => [(47, strL ((cfNames W).take i)), (51, xcs (((cfNums W).take i).map xq))]) (fun i => i ≤ W.length ∧ ∀ j, j < i → (W.getD j []).length = 3 ∧ parseQ ((W.getD j []).getD 1 []) ≠ none) (fun i => W.length - i) 0 ⟨Nat.zero_le _, fun j hj => absurd hj (Nat.not_lt_zero _)⟩ ?_ rfl ?_
 ·simp [subF, lk]
 ·rintro i ⟨hi, hrows⟩
  try simp only at hi hrows ⊢
  have hnt : ((cfNames W).take i).length = i := by rw [List.length_take]; omega
  have hqt : (((cfNums W).take i).map xq).length = i := by rw [List.length_map, List.length_take]; omega
  have hsl := strL_len ((cfNames W).take i)
  have hxl := xcs_len (((cfNums W).take i).map xq)
  by_cases hlt : i < W.length
  ·have d1 : decide ((i : Int) < (W.length : Int)) = true := decide_eq_true (by omega)
   have ei : (i : Int) + 1 = ((i + 1 : Nat) : Int) := by omega
   have hgl := recD_getD (recs := W) (i := i) hlt
   have hmem : W.getD i [] ∈ W := by rw [List.getD_eq_getElem?_getD, List.getElem?_eq_getElem hlt]; exact List.getElem_mem hlt
   have hb := hbd.2 _ hmem
   have hsl2 := strL_len (W.getD i [])
   have hk3 : ((i : Int)).toNat = i := Int.toNat_natCast _
   have e1 : Int.toNat 1 = 1 := rfl
   have e0 : Int.toNat 0 = 0 := rfl
   have hnn := take_names hlt
   have hqq := fun x => @take_nums W i hlt x
   have hRx := hq0 i hlt
   have hbadi := hrow i hlt
   by_cases h2 : (W.getD i []).length = 3
   ·have hgf := strL_getD (r := W.getD i []) (j := 1) (by omega)
    have hg0 := strL_getD (r := W.getD i []) (j := 0) (by omega)
    have hfm := getD_mem' (W.getD i []) (k := 1) (by omega)
    have hfl := hw _ hmem _ hfm
    have cq := qParse_all ((W.getD i []).getD 1 []) (by omega)
    generalize hX : (W.getD i []).getD 1 [] = X at *
    generalize hN : (W.getD i []).getD 0 [] = N at *
    generalize hl : W.getD i [] = l at *
    have d2 : decide (¬ ((l.length : Nat) : Int) = 3) = false := decide_eq_false (by omega)
    refine zS d1 ?_
    refine wTs ?_
    refine zS (zA hgl (zA hk3 (zA hWl (zA hsl2 d2)))) ?_
    refine zS (zA hsl2 (zA h2 (zA hgf e1))) ?_
    refine cP cq ?_
    cases hq : parseQ X with
    | none =>
     rw [hbadi (fun h => h.2 hq)]
     rw [show resQ none = .tup [.agg (xc (xq 0)), .bool false] from rfl]
     have hxc := xc_cells (xq 0)
     have hx3 : (xc (xq 0)).length = 3 := rfl
     have h33 : (xc (xq 0)).take 3 = xc (xq 0) := rfl
     refine zS (zA hxc (zA hx3 (zA h33 @cS))) ?_
     refine wT ?_
     refine zS @cS ?_
     exact W_ret (RetP_3 (.imm rfl) (.imm rfl) (.imm rfl))
    | some x =>
     rw [show resQ (some x) = .tup [.agg (xc (xq x)), .bool true] from rfl]
     have hxc := xc_cells (xq x)
     have hx3 : (xc (xq x)).length = 3 := rfl
     have h33 : (xc (xq x)).take 3 = xc (xq x) := rfl
     refine zS (zA hxc (zA hx3 (zA h33 @cS))) ?_
     refine wFs ?_
     have hla := laid3 (xq x)
     have hrf := xc_rf (xq x)
     have hone := xc_one (xq x)
     refine W_regd ?_
     refine zE (zA hxc (zA hx3 (zA h33 (zA hsl2 (zA h2 (zA hg0 (zA e0 (zA hsl (zA hnt (zA hxl (zA hqt (zA hla (zA @List.drop_zero.{0} (zA @cS (zA @rfm_nil @rfm_str))))))))))))))) ?_
     have hp9 : purge 47 (.ptr 8 0) = .ptr 8 0 := rfl
     have hp9b : purge 51 (.ptr 8 0) = .ptr 8 0 := rfl
     have hpq : purge 47 (.osl 3 51 0 i) = .osl 3 51 0 i := rfl
     have m1 := map_purge 47 hrf
     have m2 := map_purge 47 (xcs_rf (((cfNums W).take i).map xq))
     have m3 : List.map (purge 47) (strL ((cfNames W).take i) ++ [.str N]) = strL ((cfNames W).take (i + 1)) := by
      rw [List.map_append, purge_strL, hnn, ← strL_app1]; rfl
     have m4 := map_purge 51 hrf
     have m5 : List.map (purge 51) (xcs (((cfNums W).take i).map xq) ++ xc (xq x)) = xcs (((cfNums W).take (i + 1)).map xq) := by
      rw [List.map_append, map_purge 51 (xcs_rf _), map_purge 51 hrf, hqq x hq, List.map_append]; exact xcs_app _ _
     have m6 := purge_strL 51 ((cfNames W).take (i + 1))
     refine And.intro (by omega) (And.intro (And.intro (by omega) (And.intro (by omega) (And.intro (fun h => h) (fun d hd => by rw [List.mem_singleton.1 hd]; rfl)))) ?_)
     refine zE (zA hp9 (zA hp9b (zA hpq (zA m1 (zA m2 (zA m3 (zA m4 (zA m6 (zA hxc (zA hx3 (zA h33 (zA hsl (zA hnt (zA hxl (zA hqt (zA hla (zA @List.drop_zero.{0} @cS))))))))))))))))) ?_
     refine And.intro (fun d hd => And.intro (hone d hd) (hrf d hd)) (And.intro hrf (And.intro (And.intro (by omega) (And.intro (by omega) (And.intro (by omega) (And.intro (fun h => h) hone)))) ?_))
     refine W_freeze 8 (cells := xc (xq x)) rfl rfl ?_
     refine zS ei ?_
     refine ⟨i + 1, ⟨by omega, fun j hj => ?_⟩, by omega, ?_, ?_⟩
     ·rcases Nat.lt_or_ge j i with h | h
      ·exact hrows j h
      ·obtain rfl : j = i := by omega
       rw [hl, hX, hq]; exact ⟨h2, by simp⟩
     ·simp [subF, lk, frz_ptr_ne, frz_osl_ne, purge, DV.has, DV.hasL]
     ·simp only [m5, map_frz 8 _ (strL_rfs _), map_frz 8 _ (xcs_rf _)]
   ·exact absurd (hall3 i hlt) h2
  ·have d1 : decide ((i : Int) < (W.length : Int)) = false := decide_eq_false (by omega)
   obtain rfl : i = W.length := by omega
   have hcf := hend hrows
   have tn : (cfNames W).take W.length = cfNames W := List.take_of_length_le (by omega)
   have tq : (cfNums W).take W.length = cfNums W := List.take_of_length_le (by omega)
   rw [tn, tq] at *
   have hWb := hbd.1
   have hnb : ∀ s ∈ cfNames W, s.length ≤ 9223372036854775807 := fun s hs => by
    obtain ⟨r, hr, rfl⟩ := List.mem_map.1 hs
    rw [List.getD_eq_getElem?_getD]
    cases h : r[0]? with
    | none => simp
    | some s => have := hw r hr s (List.mem_of_getElem? h); simp only [Option.getD_some]; omega
   have hxo : ∀ x ∈ (cfNums W).map xq, okx 100 x := fun x hx => by
    obtain ⟨q, hq, rfl⟩ := List.mem_map.1 hx
    obtain ⟨r, hr, rfl⟩ := List.mem_map.1 hq
    obtain ⟨j, hj⟩ := List.mem_iff_getElem?.1 hr
    have hjl := (List.getElem?_eq_some_iff.1 hj).1
    have e : W.getD j [] = r := by rw [List.getD_eq_getElem?_getD, hj]; rfl
    have h3 := (hcf r hr).2
    cases hp : parseQ (r.getD 1 []) with
    | none => exact absurd hp h3
    | some y => exact okx_xq (hq0 j hjl y (by rw [e]; exact hp)) (by decide)
   have hcoef : ∀ k : Nat, PCalls Tryz.prog 22 [.sl 1 (strL (cfNames W)), .sl 3 (xcs ((cfNums W).map xq)), .int .i64 (k : Int)] (coefV (cfNames W) (cfNums W) (k : Int)) := fun k => by
    have := rpCoefs_calls (cfNames W) ((cfNums W).map xq) k (by omega) (by rw [List.length_map]; omega) hnb hxo
    rw [xvs_xq] at this
    exact this
   have hbad2 : (∀ k, k ≤ 20 → ¬ cfHit W T k) → rdcR T = .tup [.nils, .nils, .int .i64 3] := fun h => hbad fun hh => by
    obtain ⟨_, k, hk, h2⟩ := hh
    exact h k hk h2
   have hgood : ∀ k, k ≤ 20 → cfHit W T k → rdcR T = .tup [.sl 1 (strL (cfNames W)), .sl 3 (xcs ((cfNums W).map xq)), .int .i64 0] := fun k hk h => hokk hcf k hk h
   have f1 := frz_strL' (cfNames W) 47
   have f2 := frz_xcs' ((cfNums W).map xq) 51
   rw [hnl] at f1
   rw [show ((cfNums W).map xq).length = W.length by rw [List.length_map, hql]] at f2
   have f3 := map_frz 47 (strL (cfNames W)) (xcs_rf ((cfNums W).map xq))
   have hit0 : ∀ k, cfHit W T k ↔ coefP (cfNames W) (cfNums W) k = some T := fun k => Iff.rfl
   clear hrow hend hbad hokk hq0 hrows hcf hxo hnb tn tq
   generalize cfNames W = NS at *
   generalize cfNums W = QS at *
   refine zS d1 ?_
   refine wF ?_
   refine W_exit ?_
   refine zD ?_
   refine W_freeze 47 (cells := strL NS) rfl (strL_rf NS) ?_
   refine zE (zA f1 f3) ?_
   refine W_freeze 51 (cells := xcs (QS.map xq)) rfl (List.all_eq_true.2 (xcs_rf _)) ?_
   refine zE f2 ?_
   refine zR ?_
   refine W_loop (σ := Nat) (fun k => [(0, .str T), (2, .sl 1 (strL NS)), (3, .sl 3 (xcs (QS.map xq))), (10, .int .i64 k)]) (fun _ => []) (fun k => k ≤ 21 ∧ ∀ j, j < k → ¬ cfHit W T j) (fun k => 21 - k) 0 ⟨Nat.zero_le _, fun j hj => absurd hj (Nat.not_lt_zero _)⟩ ?_ rfl ?_
   ·simp [subF, lk]
   ·rintro k ⟨hk, hno⟩
    try simp only at hk hno ⊢
    by_cases hk2 : k ≤ 20
    ·have dk : decide ((k : Int) ≤ 20) = true := decide_eq_true (by omega)
     have ek : (k : Int) + 1 = ((k + 1 : Nat) : Int) := by omega
     have cc := hcoef k
     refine zS dk ?_
     refine wTs ?_
     refine zR ?_
     cases hp : coefP NS QS k with
     | none =>
      obtain ⟨e, he, hv⟩ := coefV_none hp
      rw [hv] at cc
      have de : decide (e = 0) = false := decide_eq_false he
      refine cP cc ?_
      refine zS de ?_
      refine wFs ?_
      refine zS ek ?_
      refine ⟨k + 1, ⟨by omega, fun j hj => ?_⟩, by omega, by simp [subF, lk]⟩
      rcases Nat.lt_or_ge j k with h | h
      ·exact hno j h
      ·obtain rfl : j = k := by omega
       rw [hit0, hp]; simp
     | some u =>
      rw [coefV_some hp] at cc
      refine cP cc ?_
      have de : decide True = true := rfl
      by_cases hu : u = T
      ·have du : decide (u = T) = true := decide_eq_true hu
       rw [hgood k hk2 (by rw [hit0, hp, hu])]
       refine zS (zA de du) ?_
       refine wT ?_
       refine zR ?_
       exact W_ret (RetP_3 (.imm rfl) (.imm rfl) (.imm rfl))
      ·have du : decide (u = T) = false := decide_eq_false hu
       refine zS (zA de du) ?_
       refine wFs ?_
       refine zS ek ?_
       refine ⟨k + 1, ⟨by omega, fun j hj => ?_⟩, by omega, by simp [subF, lk]⟩
       rcases Nat.lt_or_ge j k with h | h
       ·exact hno j h
       ·obtain rfl : j = k := by omega
        rw [hit0, hp]; simpa using hu
    ·have dk : decide ((k : Int) ≤ 20) = false := decide_eq_false (by omega)
     rw [hbad2 (fun j hj => hno j (by omega))]
     refine zS dk ?_
     refine W_cond rfl (fun h => by cases h) (fun _ => W_exit ?_)
     refine zR ?_
     exact W_ret (RetP_3 (.imm rfl) (.imm rfl) (.imm rfl))
end Go.Proofs.YtjfedgpbedppeaaGreatDoor
namespace Go.Proofs.YtjfedgpbedppeaaGreatDoor
open Go Go.Dat Go.Proofs Go.RowKit Go.Shelf Nat32
def rowQ (n : Nat) (c' : List DV) (m : Nat) (cs : List DV) : Prop := isTp c' ∧ m = n ∧ ∃ rs : List Rat, rs.length = n ∧ cs = xcs (rs.map xq) ∧ ∀ r ∈ rs, smR r
theorem xcs_app1 (rs : List Rat) (q : Rat) : xcs (rs.map xq) ++ xc (xq q) = xcs ((rs ++ [q]).map xq) := by rw [xcs_app, List.map_append]; rfl
theorem purge_xcs (o : Nat) (xs : List XR) : (xcs xs).map (purge o) = xcs xs := map_purge o (xcs_rf xs)
set_option maxHeartbeats 2000000 in
theorem wRow_calls (c : List DV) (n : Nat) (hc : isTp c) (hn : n ≤ 1000) : TNCalls Tryz.prog 32 [.ptr 1048576 0, .int .i64 n] c 36 3 (rowQ n) := by
 refine MRel_of iswRow (by simp [fnwRow]) ?_
 unfold codewRow
 refine W_seq ?_
 refine W_reg ?_
 refine zD ?_
 refine W_seq ?_
 refine W_reg ?_
 refine zD ?_
 refine W_own 5 3 36 rfl (by simp [lkH]) ?_
 refine zR ?_
 refine W_loop (σ := List Rat × List DV) (fun s => [(0, .ptr 1048576 0), (1, .int .i64 n), (5, .osl 3 36 0 s.1.length), (6, .int .i64 s.1.length)]) (fun s => [(36, xcs (s.1.map xq)), (1048576, s.2)]) (fun s => s.1.length ≤ n ∧ isTp s.2 ∧ ∀ r ∈ s.1, smR r) (fun s => n - s.1.length) ([], c) ⟨Nat.zero_le _, hc, fun r hr => by cases hr⟩ ?_ rfl ?_
 ·simp [subF, lk]
 ·rintro ⟨rs, c1⟩ ⟨hl, ht, hrs⟩
  try simp only at hl ht hrs ⊢
  have hxl := xcs_len (rs.map xq)
  have hml : (rs.map xq).length = rs.length := List.length_map ..
  by_cases hlt : rs.length < n
  ·have dl : decide ((rs.length : Int) < (n : Int)) = true := decide_eq_true (by omega)
   have e1 : ((rs.length : Int) + 1) = ((rs.length + 1 : Nat) : Int) := by omega
   have cr := wRat_calls c1 ht
   (replace hrs := Hid.mk hrs)
   refine zS dl ?_
   refine wTs ?_
   repeat (first | refine W_seq ?_ | refine W_reg ?_ | refine W_regd ?_ | refine W_regs ?_ | refine W_regp ?_ | refine W_block ?_ | refine And.intro (by omega) ?_ | simp (maxSteps := 1000000) (disch := omega) only [cA, cB, cN, FnD.nb, lk, lkH, Dst.onT, Dst.onX, Dst.slot, setF, setH, mapF, mapH, initF, binE, unE, cnt, boundE, newsE, freshE, freshT, opE, rmH, blkQ, frz_us, Nat.reduceEqDiff, Nat.reduceLT, Nat.reduceAdd, Nat.reduceMul, Nat.reduceMod, ↓reduceIte, reduceCtorEq, Nat.reduceLeDiff])
   refine callC_lend1 1048576 cr rfl (by simp [lkH]) ht.rf (by simp [rn, fwd1]) fun r c2 hr2 hc2 hQ => ?_
   obtain ⟨ht2, q, hq, rfl⟩ := hQ
   have hla := laid3 (xq q)
   have hrf := xc_rf (xq q)
   have hone := xc_one (xq q)
   have hx3 : (xc (xq q)).length = 3 := rfl
   have hp5 := fun o => map_purge o hc2
   repeat (first | refine W_seq ?_ | refine W_reg ?_ | refine W_regd ?_ | refine W_regs ?_ | refine W_regp ?_ | refine W_block ?_ | refine And.intro (by omega) ?_ | simp (maxSteps := 1000000) (disch := omega) only [cA, cB, cN, FnD.nb, lk, lkH, Dst.onT, Dst.onX, Dst.slot, setF, setH, mapF, mapH, initF, binE, unE, cnt, boundE, newsE, freshE, freshT, opE, rmH, blkQ, frz_us, Nat.reduceEqDiff, Nat.reduceLT, Nat.reduceAdd, Nat.reduceMul, Nat.reduceMod, ↓reduceIte, reduceCtorEq, Nat.reduceLeDiff, hla, hx3, hxl, hml, xcs_app1, purge_xcs])
   refine And.intro (And.intro (by omega) (And.intro (by omega) (And.intro (by omega) (And.intro (fun h => h) hone)))) ?_
   repeat (first | refine W_seq ?_ | refine W_reg ?_ | refine W_regd ?_ | refine W_regs ?_ | refine W_regp ?_ | refine W_block ?_ | refine And.intro (by omega) ?_ | simp (maxSteps := 1000000) (disch := omega) only [cA, cB, cN, FnD.nb, lk, lkH, Dst.onT, Dst.onX, Dst.slot, setF, setH, mapF, mapH, initF, binE, unE, cnt, boundE, newsE, freshE, freshT, opE, rmH, blkQ, frz_us, Nat.reduceEqDiff, Nat.reduceLT, Nat.reduceAdd, Nat.reduceMul, Nat.reduceMod, ↓reduceIte, reduceCtorEq, Nat.reduceLeDiff, hp5, xcs_app1, purge_xcs, e1])
   refine ⟨(rs ++ [q], c2), ⟨by simp; omega, ht2, fun y hy => ?_⟩, by simp; omega, by simp [subF, lk, purge, DV.has], rfl⟩
   rcases List.mem_append.1 hy with h | h
   ·exact hrs.out y h
   ·rw [List.mem_singleton.1 h]; exact hq
  ·have dl : decide ((rs.length : Int) < (n : Int)) = false := decide_eq_false (by omega)
   refine zS dl ?_
   refine W_cond rfl (fun h => by cases h) (fun _ => W_exit ?_)
   refine zR ?_
   exact W_ret (RetTN (c' := c1) (cs := xcs (rs.map xq)) (n := rs.length) (by decide) rfl rfl rfl ht.rf (xcs_rf _) ⟨ht, by omega, rs, by omega, rfl, hrs⟩)
theorem plains_cell : ∀ s ∈ plains, cellB s = true := by decide +kernel
theorem colP_plain {rs : List (List Bs)} {m : Nat} (h1 : 1 ≤ rs.length) (h4 : rs.length ≤ 4) (hm1 : 1 ≤ m) (hm4 : m ≤ 4) (hr : ∀ r ∈ rs, r.length = m ∧ ∀ x ∈ r, cellB x = true) : ∃ u, colP rs = some u := by
 have h0 : (rs.headD []).length = m := by
  cases rs with
  | nil => exact absurd h1 (by decide)
  | cons r l => exact (hr r (by simp)).1
 have hs : shapeOk rs = true := by
  unfold shapeOk shapeB
  simp only [Bool.and_eq_true, decide_eq_true_eq, List.all_eq_true]
  exact ⟨⟨h1, by omega⟩, fun r hr' => ⟨by rw [h0]; exact (hr r hr').1, by omega, by omega⟩⟩
 have hf : formB rs = true := by
  unfold formB
  simp only [List.all_eq_true]
  exact fun r hr' x hx => (hr r hr').2 x hx
 unfold colP
 rw [if_pos hs, if_pos hf]
 exact ⟨_, rfl⟩
theorem parD_back {rs : List (List Bs)} {u : Bs} (h : colP rs = some u) : parD u = .tup [.sl 1 (recD rs), .int .i64 0] := by
 unfold parD
 rw [words_colP h, if_pos h]
theorem coefP_sm {ns : List Bs} {rs : List Rat} {k : Nat} (h1 : 1 ≤ ns.length) (h4 : ns.length ≤ 1000) (hl : rs.length = ns.length) (hk : k ≤ 20) (hn : ∀ s ∈ ns, cellB s = true) (hr : ∀ r ∈ rs, smR r) : ∃ u, coefP ns rs k = some u := by
 have hc : ∀ r ∈ coefRecs ns rs k ns.length, r.length = 3 ∧ ∀ x ∈ r, cellB x = true := fun r hr' => by
  unfold coefRecs at hr'
  obtain ⟨j, hj, rfl⟩ := List.mem_map.1 hr'
  have hj := List.mem_range.1 hj
  have hq : smR (rs.getD j 0) := hr _ (by rw [List.getD_eq_getElem?_getD, List.getElem?_eq_getElem (show j < rs.length by omega)]; exact List.getElem_mem _)
  refine ⟨rfl, fun x hx => ?_⟩
  simp only [coefRec, List.mem_cons, List.not_mem_nil, or_false] at hx
  rcases hx with rfl | rfl | rfl
  ·exact hn _ (getD_mem' ns hj)
  ·exact cellB_fmt hq
  ·unfold decR
   rw [if_neg (by omega)]
   exact cellB_dec hq (by omega)
 have hlen := coefRecs_len ns rs k ns.length
 have h0 : ((coefRecs ns rs k ns.length).headD []).length = 3 := by
  cases hcr : coefRecs ns rs k ns.length with
  | nil => rw [hcr] at hlen; simp at hlen; omega
  | cons r l => rw [hcr] at hc; exact (hc r (by simp)).1
 unfold coefP
 rw [if_neg (by omega), if_neg (by omega)]
 unfold colP
 have hs : shapeOk (coefRecs ns rs k ns.length) = true := by
  unfold shapeOk shapeB
  simp only [Bool.and_eq_true, decide_eq_true_eq, List.all_eq_true]
  exact ⟨⟨by omega, by omega⟩, fun r hr' => ⟨by rw [h0]; exact (hc r hr').1, by omega, by omega⟩⟩
 have hf : formB (coefRecs ns rs k ns.length) = true := by
  unfold formB
  simp only [List.all_eq_true]
  exact fun r hr' x hx => (hc r hr').2 x hx
 rw [if_pos hs, if_pos hf]
 exact ⟨_, rfl⟩
theorem rdcR_back {ns : List Bs} {rs : List Rat} {k : Nat} {u : Bs} (hl : rs.length = ns.length) (hk : k ≤ 20) (hr : ∀ r ∈ rs, smR r) (h : coefP ns rs k = some u) : rdcR u = .tup [.sl 1 (strL ns), .sl 3 (xcs (rs.map xq)), .int .i64 0] := by
 have hw := words_colP (coefP_col h)
 have hp : ∀ j, j < ns.length → parseQ (fmtQ (rs.getD j 0)) = some (rs.getD j 0) := fun j hj => by
  have hq : smR (rs.getD j 0) := hr _ (by rw [List.getD_eq_getElem?_getD, List.getElem?_eq_getElem (show j < rs.length by omega)]; exact List.getElem_mem _)
  exact parse_fmtL _ (by have := fmt_sm hq; omega)
 have hn : cfNames (wordsL u) = ns := by
  rw [hw]
  unfold cfNames coefRecs
  rw [List.map_map]
  refine List.ext_getElem (by simp) fun i h1 h2 => ?_
  simp only [List.getElem_map, List.getElem_range, Function.comp_apply]
  show ns.getD i [] = _
  rw [List.getD_eq_getElem?_getD, List.getElem?_eq_getElem h2]; rfl
 have hq : cfNums (wordsL u) = rs := by
  rw [hw]
  unfold cfNums coefRecs
  rw [List.map_map]
  refine List.ext_getElem (by simp [hl]) fun i h1 h2 => ?_
  simp only [List.getElem_map, List.getElem_range, Function.comp_apply]
  show (parseQ (fmtQ (rs.getD i 0))).getD 0 = _
  rw [hp i (by omega), List.getD_eq_getElem?_getD, List.getElem?_eq_getElem h2]; rfl
 have hok : cfOk (wordsL u) := by
  rw [hw]
  intro r hr'
  unfold coefRecs at hr'
  obtain ⟨j, hj, rfl⟩ := List.mem_map.1 hr'
  refine ⟨rfl, ?_⟩
  show parseQ (fmtQ (rs.getD j 0)) ≠ none
  rw [hp j (List.mem_range.1 hj)]; simp
 have := rdcR_ok hok hk (show cfHit (wordsL u) u k by unfold cfHit; rw [hn, hq]; exact h)
 rw [hn, hq] at this
 exact this
theorem coefP_words {ns : List Bs} {rs : List Rat} {k : Int} {u : Bs} (h : coefP ns rs k = some u) : ∀ r ∈ wordsL u, ∀ s ∈ r, s.length ≤ 32 := by
 have h1 := coefP_col h
 rw [words_colP h1]
 exact fun r hr => ((colP_len h1).2 r hr).2
theorem tst_len {rs : List Rat} (hl : rs.length = 6) (hr : ∀ r ∈ rs, smR r) : (tst rs).length ≤ 240 := by
 have h := tpre_sm (xs := rs.map xq) (fun x hx => by obtain ⟨r, hr', rfl⟩ := List.mem_map.1 hx; exact smX_xq (hr r hr')) (by rw [List.length_map, hl]) 6 (Nat.le_refl _)
 rw [xvs_xq] at h
 exact h
theorem rdR_back {rs : List Rat} (hl : rs.length = 6) (hr : ∀ r ∈ rs, smR r) : rdR (tst rs) = .tup [.agg (xcs (rs.map xq)), .int .i64 0] :=
 rdR_some (rdT_eq (by have := tst_len hl hr; omega) hl rfl)
end Go.Proofs.YtjfedgpbedppeaaGreatDoor
namespace Go.Proofs.YtjfedgpbedppeaaGreatDoor
open Go Go.Dat Go.Proofs Go.RowKit Go.Shelf Nat32
theorem colP_bd {rs : List (List Bs)} {u : Bs} (hl : rs.length ≤ 20) (h : colP rs = some u) : u.length ≤ 30000 := by
 unfold colP at h
 split at h
 ·rename_i h1
  split at h
  ·rename_i h2
   cases h
   have h3 : (rs.headD []).length ≤ 32 := by
    unfold shapeOk shapeB at h1
    simp only [Bool.and_eq_true, decide_eq_true_eq, List.all_eq_true] at h1
    cases rs with
    | nil => exact Nat.zero_le _
    | cons x t => exact (h1.2 x (by simp)).2.2
   have := colT_len h3 (fun i j => wdT_ge (recs := rs) i j) (fun j => wdT_le h2 j) rs.length
   omega
  ·cases h
 ·cases h
theorem smR_RB {r : Rat} (h : smR r) : RB r 1 := ⟨limbs_sm h.1, limbs_sm h.2⟩
set_option maxHeartbeats 4000000 in
set_option maxRecDepth 10000 in
theorem lrBack_calls (l : List Int) (hl : l.length ≤ 9223372036854775807) : PCalls Tryz.prog 5 [.sl 1 (l.map (.int .i64))] (.bool true) := by
 have aw := lr_awake_calls
 refine PCalls_of islrBack (by simp [fnlrBack]) ?_
 unfold codelrBack
 refine zR ?_
 refine callC_new1 40 (wNew_calls l hl) rfl (by decide) (by decide) (by decide) (by simp [lkH]) (by simp [DV.rf]) fun c0 hc0 ht0 => ?_
 refine zR ?_
 refine callC_lendn 40 42 (lrRecords_calls c0 false ht0) rfl (by decide) (by decide) (by decide) (by decide) (by decide) (by decide) (by simp [lkH]) (by simp [lkH]) hc0 (by simp [rn, fwdm]) fun c1 n cs hc1 hcs hQ => ?_
 obtain ⟨ht1, rs, hr4, rfl, hn1, rfl, m, hm1, hm4, hrs⟩ := hQ
 obtain ⟨u, hu⟩ := colP_plain hn1 hr4 hm1 hm4 fun r hr => ⟨(hrs r hr).1, fun x hx => plains_cell x ((hrs r hr).2 x hx)⟩
 have hul := colP_bd (by omega) hu
 have hB := recB_of (n := 1000) (rs := rs) (by omega) fun r hr => ⟨by have := (hrs r hr).1; omega, fun x hx => by
  have := (cellB_spec (plains_cell x ((hrs r hr).2 x hx))).2.2; omega⟩
 have cc1 := rpColumns_calls rs (by omega) (fun i => by have := hB.2.1 i; omega) (fun i j => by have := hB.2.2 i j; omega)
 rw [colR_some hu] at cc1
 have cp := rpParse_calls u (by omega)
 rw [parD_back hu] at cp
 have csr := reSameRecs_calls rs ⟨by omega, fun i => by have := hB.2.1 i; omega, fun i j => by have := hB.2.2 i j; omega⟩
 have hrl := recD_len rs
 clear hB hrs hu
 refine zD ?_
 refine W_freeze 42 (cells := recD rs) rfl (List.all_eq_true.2 (recD_rf rs)) ?_
 have hz := frz_recD' rs 42
 have hpz : frz 42 (recD rs) (.ptr 40 0) = .ptr 40 0 := frz_ptr_ne _ _ 0 (by decide)
 have hf1 := map_frz 42 (recD rs) hc1
 refine zS (zA hz (zA hpz hf1)) ?_
 refine cP cc1 ?_
 refine zR ?_
 refine cP cp ?_
 have dF : decide (¬ True) = false := rfl
 refine zS dF ?_
 refine cP csr ?_
 refine zR ?_
 refine wFs ?_
 refine W_seq ?_
 refine W_reg ?_
 refine zD ?_
 refine W_own 9 1 53 rfl (by simp [lkH]) ?_
 clear cc1 cp csr
 refine zS hrl ?_
 refine W_loop (σ := List Bs × List DV) (fun s => [(3, .ptr 40 0), (9, .osl 1 53 0 s.1.length), (46, .int .i64 rs.length), (47, .int .i64 s.1.length)]) (fun s => [(40, s.2), (53, strL s.1)]) (fun s => s.1.length ≤ rs.length ∧ isTp s.2 ∧ ∀ x ∈ s.1, x ∈ plains) (fun s => rs.length - s.1.length) ([], c1) ⟨Nat.zero_le _, ht1, fun x hx => by cases hx⟩ ?_ rfl ?_
 ·simp [subF, lk]
 ·rintro ⟨ns, c2⟩ ⟨hnl, ht2, hns⟩
  try simp only at hnl ht2 hns ⊢
  have hsl := strL_len ns
  by_cases hlt : ns.length < rs.length
  ·have dl : decide ((ns.length : Int) < (rs.length : Int)) = true := decide_eq_true (by omega)
   have e1 : ((ns.length : Int) + 1) = ((ns.length + 1 : Nat) : Int) := by omega
   have cw := lrPlain_calls c2 ht2
   (replace hns := Hid.mk hns)
   refine zS dl ?_
   refine wTs ?_
   repeat (first | refine W_seq ?_ | refine W_reg ?_ | refine W_regd ?_ | refine W_regs ?_ | refine W_regp ?_ | refine W_block ?_ | refine And.intro (by omega) ?_ | simp (maxSteps := 1000000) (disch := omega) only [cA, cB, cN, FnD.nb, lk, lkH, Dst.onT, Dst.onX, Dst.slot, setF, setH, mapF, mapH, initF, binE, unE, cnt, boundE, newsE, freshE, freshT, opE, rmH, blkQ, frz_us, Nat.reduceEqDiff, Nat.reduceLT, Nat.reduceAdd, Nat.reduceMul, Nat.reduceMod, ↓reduceIte, reduceCtorEq, Nat.reduceLeDiff])
   refine callC_lend1 40 cw rfl (by simp [lkH]) ht2.rf (by simp [rn, fwd1]) fun q c3 hq hc3 hQ => ?_
   obtain ⟨ht3, x, hx, rfl⟩ := hQ
   repeat (first | refine W_seq ?_ | refine W_reg ?_ | refine W_regd ?_ | refine W_regs ?_ | refine W_regp ?_ | refine W_block ?_ | refine And.intro (by omega) ?_ | simp (maxSteps := 1000000) (disch := omega) only [cA, cB, cN, FnD.nb, lk, lkH, Dst.onT, Dst.onX, Dst.slot, setF, setH, mapF, mapH, initF, binE, unE, cnt, boundE, newsE, freshE, freshT, opE, rmH, blkQ, frz_us, Nat.reduceEqDiff, Nat.reduceLT, Nat.reduceAdd, Nat.reduceMul, Nat.reduceMod, ↓reduceIte, reduceCtorEq, Nat.reduceLeDiff, cS, rfm_nil, rfm_str, hsl, e1])
   refine And.intro (And.intro (by omega) (And.intro (by omega) (And.intro (fun h => h) (fun d hd => by rw [List.mem_singleton.1 hd]; rfl)))) ?_
   have hp5 := fun o => map_purge o hc3
   refine zS (zA e1 (zA @strL_app (zA @purge_strL hp5))) ?_
   exact ⟨(ns ++ [x], c3), And.intro (by simp; omega) (And.intro ht3 (fun y hy => by
    rcases List.mem_append.1 hy with h | h
    ·exact hns.out y h
    ·rw [List.mem_singleton.1 h]; exact hx)), by simp; omega, by simp [subF, lk, purge, DV.has], rfl⟩
  ·have dl : decide ((ns.length : Int) < (rs.length : Int)) = false := decide_eq_false (by omega)
   have hne : ns.length = rs.length := by omega
   refine zS dl ?_
   refine W_cond rfl (fun h => by cases h) (fun _ => W_exit ?_)
   refine zD ?_
   refine W_freeze 53 (cells := strL ns) rfl (strL_rf ns) ?_
   have hz1 := frz_strL' ns 53
   have hf2 := map_frz 53 (strL ns) ht2.rf
   have hp1 : frz 53 (strL ns) (.ptr 40 0) = .ptr 40 0 := frz_ptr_ne _ _ 0 (by decide)
   clear hf1 hpz hz
   refine zS (zA hz1 (zA hp1 (zA hf2 hsl))) ?_
   refine callC_lendn 40 44 (wRow_calls c2 ns.length ht2 (by omega)) rfl (by decide) (by decide) (by decide) (by decide) (by decide) (by decide) (by simp [lkH]) (by simp [lkH]) ht2.rf (by simp [rn, fwdm]) fun c3 n3 cs3 hc3 hcs3 hQ => ?_
   obtain ⟨ht3, hn3, qs, hql, rfl, hqs⟩ := hQ
   have hqm : (qs.map xq).length = qs.length := List.length_map ..
   refine zD ?_
   refine W_freeze 44 (cells := xcs (qs.map xq)) rfl (List.all_eq_true.2 (xcs_rf _)) ?_
   have hz2 := frz_xcs' (qs.map xq) 44
   rw [hqm, hql, ← hn3] at hz2
   have hf3 := map_frz 44 (xcs (qs.map xq)) hc3
   have hp2 : frz 44 (xcs (qs.map xq)) (.ptr 40 0) = .ptr 40 0 := frz_ptr_ne _ _ 0 (by decide)
   refine zS (zA hz2 (zA hp2 hf3)) ?_
   refine callC_lend1 40 (wNext_calls c3 5 ht3 (by decide)) rfl (by simp [lkH]) ht3.rf (by simp [rn, fwd1]) fun q c4 hq4 hc4 hQ => ?_
   obtain ⟨ht4, k, hk, rfl⟩ := hQ
   have hnc : ∀ s ∈ ns, cellB s = true := fun s hs => plains_cell s (hns s hs)
   obtain ⟨u2, hu2⟩ := coefP_sm (ns := ns) (rs := qs) (k := k) (by omega) (by omega) hql (by omega) hnc hqs
   have hcf := rpCoefs_calls ns (qs.map xq) k (by omega) (by omega) (fun s hs => by have := (cellB_spec (hnc s hs)).2.2; omega) (fun x hx => by
    obtain ⟨r, hr, rfl⟩ := List.mem_map.1 hx
    exact okx_xq ((smR_RB (hqs r hr)).mono (by decide)) (by decide))
   rw [xvs_xq, coefV_some hu2] at hcf
   have hu2l := colP_bd (by rw [coefRecs_len]; omega) (coefP_col hu2)
   have crc := rpReadCoefs_calls u2 (by omega) (fun r hr s hs => by have := coefP_words hu2 r hr s hs; omega)
   rw [rdcR_back hql (by omega) hqs hu2] at crc
   have csw := reSameWords_calls ns (by omega)
   have csl := pSameList_calls qs (by omega) (fun r hr => (smR_RB (hqs r hr)).mono (by decide))
   clear hu2 hnc hns hqs
   refine zR ?_
   refine cP hcf ?_
   refine zR ?_
   refine cP crc ?_
   refine zR ?_
   refine callC_lend1 40 (wRat_calls c4 ht4) rfl (by simp [lkH]) ht4.rf (by simp [rn, fwd1]) fun r c5 hr5 hc5 hQ => ?_
   obtain ⟨ht5, q0, hq0, rfl⟩ := hQ
   refine zR ?_
   refine callC_lend1 40 (wRat_calls c5 ht5) rfl (by simp [lkH]) ht5.rf (by simp [rn, fwd1]) fun r c6 hr6 hc6 hQ => ?_
   obtain ⟨ht6, q1, hq1, rfl⟩ := hQ
   refine zR ?_
   refine callC_lend1 40 (wRat_calls c6 ht6) rfl (by simp [lkH]) ht6.rf (by simp [rn, fwd1]) fun r c7 hr7 hc7 hQ => ?_
   obtain ⟨ht7, q2, hq2, rfl⟩ := hQ
   refine zR ?_
   refine callC_lend1 40 (wRat_calls c7 ht7) rfl (by simp [lkH]) ht7.rf (by simp [rn, fwd1]) fun r c8 hr8 hc8 hQ => ?_
   obtain ⟨ht8, q3, hq3, rfl⟩ := hQ
   refine zR ?_
   refine callC_lend1 40 (wRat_calls c8 ht8) rfl (by simp [lkH]) ht8.rf (by simp [rn, fwd1]) fun r c9 hr9 hc9 hQ => ?_
   obtain ⟨ht9, q4, hq4', rfl⟩ := hQ
   refine zR ?_
   refine callC_lend1 40 (wRat_calls c9 ht9) rfl (by simp [lkH]) ht9.rf (by simp [rn, fwd1]) fun r c10 hr10 hc10 hQ => ?_
   obtain ⟨ht10, q5, hq5, rfl⟩ := hQ
   have hla := laid18 (xq q0) (xq q1) (xq q2) (xq q3) (xq q4) (xq q5)
   unfold z18 at hla
   have hsm : ∀ r ∈ [q0, q1, q2, q3, q4, q5], smR r := by
    intro x hx
    simp only [List.mem_cons, List.not_mem_nil, or_false] at hx
    rcases hx with rfl | rfl | rfl | rfl | rfl | rfl <;> assumption
   have hl6 : [q0, q1, q2, q3, q4, q5].length = 6 := rfl
   have hxs : [xq q0, xq q1, xq q2, xq q3, xq q4, xq q5] = [q0, q1, q2, q3, q4, q5].map xq := rfl
   rw [hxs] at hla
   clear hxs
   generalize [q0, q1, q2, q3, q4, q5] = ys at *
   have hyl : (ys.map xq).length = 6 := by rw [List.length_map, hl6]
   have hxc := xcs_cells (ys.map xq)
   have hx18 : (xcs (ys.map xq)).length = 18 := by rw [xcs_len]; omega
   have ht18 : (xcs (ys.map xq)).take 18 = xcs (ys.map xq) := List.take_of_length_le (by omega)
   have hst := z18_st (xcs (ys.map xq))
   unfold z18 at hst
   have cr := rpTest_calls (ys.map xq) hyl (fun x hx => by
    obtain ⟨r, hr, rfl⟩ := List.mem_map.1 hx
    exact okx_xq ((smR_RB (hsm r hr)).mono (by decide)) (by decide))
   rw [xvs_xq] at cr
   have htl := tst_len hl6 hsm
   have crt := rpReadTest_calls (tst ys) (by omega)
   rw [rdR_back hl6 hsm] at crt
   have cst := reSame_calls ys hl6 (fun r hr => (smR_RB (hsm r hr)).mono (by decide))
   have rfx : (DV.agg (xcs (ys.map xq))).rf = true := xcs_agg _
   generalize xcs (ys.map xq) = X at *
   generalize tst ys = TT at *
   refine zS (zA hla (zA hxc (zA hx18 (zA ht18 (zA hst @List.drop_zero.{0}))))) ?_
   refine callC_pure cr (by rw [List.all_cons, rfx]; rfl) ?_
   refine zR ?_
   refine cP crt ?_
   have dT : decide True = true := rfl
   refine zS (zA hxc (zA hx18 (zA ht18 (zA hst dT)))) ?_
   refine cP csw ?_
   refine zR ?_
   refine cP csl ?_
   refine zS (zA hx18 (zA ht18 (zA @List.drop_zero.{0} dT))) ?_
   refine callC_pure cst (by rw [List.all_cons, List.all_cons, rfx]; rfl) ?_
   refine zR ?_
   refine cP aw ?_
   refine zR ?_
   exact W_ret (RetP_1 (.imm rfl))
end Go.Proofs.YtjfedgpbedppeaaGreatDoor
namespace Go.Proofs.YtjfedgpbedppeaaGreatDoor
open Go Go.Dat Go.Proofs Go.RowKit Nat32
theorem law_of {f : Nat} {ds : List DV} {vs : Array Value} {w : World} (hc : PCalls Tryz.prog f ds (.bool true)) (hT : Tab Tryz.prog w) (hs : vs.size = ds.length) (hv : ∀ (k : Nat) d v, ds[k]? = some d → vs[k]? = some v → VI w (fun _ => False) d v) :
  Calls Tryz.prog f vs w fun e w' => e = .returned (.bool true) ∧ Below w.heap.size w w' := by
 refine (hc (fun _ => False) w vs hT (fun b h => h.elim) hs hv).mono ?_
 rintro e w' ⟨v, rfl, hvi, hx⟩
 refine ⟨?_, hx.os, hx.tape, hx.output, hx.size, fun k hk => hx.block k hk id⟩
 cases hvi; rfl
theorem max_shaped {w : World} (h : w.ShapedOpen Tryz.prog) : ∀ g, Tryz.prog.globalNamed maxName = some g → g < w.heap.size ∧ ∃ m, w.cell? ⟨g, 0, none⟩ = some (.int .i64 m) := by
 intro g hg
 rw [show Tryz.prog.globalNamed maxName = some 1 by kernel_rfl] at hg
 cases hg
 obtain ⟨m, hm⟩ := Go.Proofs.cell_of_shapedOpen_int (zero := #[.int .i64 0]) (t := 3) (g := 1) h (of_decide_eq_true (by kernel_rfl)) (by kernel_rfl) rfl (by kernel_rfl) (by kernel_rfl) Tryz.underlying3
 exact ⟨World.block_lt_of_cell? w _ hm, m, hm⟩
theorem handed_and_shaped {H : Type} {enc : TypeId × Value → H} {a : Assume} {C : Checked} {os : Os} {f : FuncId} {fn : Func} {s : ChangeSpec} {conds : List PathCond} {apart fresh handsOn again : Bool} {X : World → Array Value → Prop}
  (hX : ∀ (w w' : World) (args : Array Value), w.heap = w'.heap → X w args → X w' args)
  (own : ownKnob C.prog.godebug = none) (started : os.Started) (noInit : C.prog.inits.idxOf? f = none) (hfn : C.prog.funcs[f]? = some fn)
  (witness : ∃ (w : World) (tape : Tape) (i : Input), w.os = os ∧ (w.forCall tape i).Shaped C.prog ∧ i.vars = [] ∧ Input.okWide C.prog (w.forCall tape i) .any w.heap.size f i ∧
   ((s.pre enc C.prog fn conds apart (w.forCall tape i).memory i.args ∧ X (w.forCall tape i).memory i.args) ∧ sizedMet enc C.prog fn (OpenSpec.ofChange s) apart (w.forCall tape i).memory i.args) ∧ a.holds C.prog (lone (Frame.enter C.prog f i.args .normal) [] (w.forCall tape i)))
  (contract : ∀ (W : World) (base : Nat) (args : Array Value) (ds gs : List (DataW H)) (before : List MemPlace),
   (∀ (j : Nat) t v, fn.params[j]? = some t → args[j]? = some v → Value.okWide C.prog W .any base t v) →
   DataW.Whole enc C.prog fn.params.toList s.vars apart W args.toList ds gs before → X W args → W.ShapedOpen C.prog →
   Calls C.prog f args W fun e W' => ∃ v, e = .returned v ∧ s.post enc C.prog fn apart fresh handsOn again W args v W') :
  ReturnsInHanded a C os f .any (fun w args => (s.pre enc C.prog fn conds apart w args ∧ X w args) ∧ sizedMet enc C.prog fn (OpenSpec.ofChange s) apart w args) (s.post enc C.prog fn apart fresh handsOn again) := by
 refine returnsInHanded_of_calls own started noInit witness ?_
 intro w tape i _ hsh _ hok hpre _
 obtain ⟨_, _, _, fn', hfn', _, _, _, _, hval⟩ := hok
 obtain rfl : fn' = fn := Option.some.inj (hfn'.symm.trans hfn)
 obtain ⟨⟨⟨ds, gs, before, hw, _⟩, hx⟩, _⟩ := hpre
 refine (contract (w.forCall tape i) w.heap.size i.args ds gs before hval (DataW.Whole.of_heap (w' := w.forCall tape i) (by rfl) hw) (hX _ _ _ (by rfl) hx) hsh).mono ?_
 rintro e W' ⟨v, rfl, hp⟩
 exact ChangeSpec.post_blind hp
end Go.Proofs.YtjfedgpbedppeaaGreatDoor
