/- Lemmas of the walk; no conditions beyond those that each states. -/
import Derived.OpenShut
import Derived.Below
import Derived.HandedShaped
import Derived.Handed
import Derived.Test.YtgonkeglcehkeaaDoorT1
import Derived.Test.YtgonkeglcehkeaaDoorN1
import Derived.Test.YtgonkeglcehkeaaDoorD3
set_option linter.unusedSimpArgs false
set_option linter.unusedVariables false
set_option linter.unnecessarySimpa false
namespace Go.Proofs.YtgonkeglcehkeaaDoor
open Go Go.Dat Go.Proofs Go.RowKit Go.Shelf Nat32
theorem recS_bound (d : UInt8) : ∀ (m : Nat) (s : Bs) (fs : List Bs) (k : Nat), recS d m s = .ok fs k → fs.length ≤ m
  | 0, s, fs, k, h => by simp [recS] at h
  | m + 1, s, fs, k, h => by
    rw [recS] at h
    cases hf : fieldS d s with
    | none => rw [hf] at h; cases h
    | some p =>
      obtain ⟨f, l⟩ := p
      rw [hf] at h
      simp only at h
      split at h
      · cases h; simp
      · split at h
        · cases h
        · split at h
          · cases h
          · cases hr : recS d m (s.drop (l + 1)) with
            | err e q => rw [hr] at h; cases h
            | ok gs q =>
              rw [hr] at h
              have := recS_bound d m _ _ _ hr
              simp only [RS.mv] at h
              cases h
              simpa using this
theorem parS_bound (d : UInt8) : ∀ (m : Nat) (s : Bs) (R : List (List Bs)) (k : Nat), parS d m s = .ok R k → R.length ≤ m ∧ ∀ x ∈ R, x.length ≤ 32
  | 0, s, R, k, h => by
    rw [parS] at h
    split at h
    · cases h; simp
    · cases h
  | m + 1, s, R, k, h => by
    rw [parS] at h
    split at h
    · cases h; simp
    · cases hr : recS d 32 s with
      | err e q => rw [hr] at h; cases h
      | ok fs q =>
        rw [hr] at h
        simp only at h
        cases hp : parS d m (s.drop q) with
        | err e q => rw [hp] at h; cases h
        | ok gs q2 =>
          rw [hp] at h
          obtain ⟨h1, h2⟩ := parS_bound d m _ _ _ hp
          have h3 := recS_bound d 32 _ _ _ hr
          simp only [RS.mv] at h
          cases h
          refine ⟨by simpa using h1, fun x hx => ?_⟩
          rcases List.mem_cons.1 hx with rfl | hx
          · exact h3
          · exact h2 x hx
theorem dpD_cases (T : Bs) (d : UInt8) : (∃ n e : Nat, dpD T d = .tup [.nils, .int .i64 n, .int .i64 e] ∧ e ≠ 0 ∧ e ≤ 3 ∧ n ≤ 65537) ∨ ∃ R k, parS d 1024 T = .ok R k ∧ delB d = true ∧ T.length ≤ 65536 ∧ dpD T d = .tup [.sl 1 (recD R), .int .i64 (0 : Nat), .int .i64 (0 : Nat)] ∧ R.length ≤ 1024 ∧ ∀ x ∈ R, x.length ≤ 32 := by
  unfold dpD
  by_cases h1 : delB d = false
  · rw [if_pos h1]; exact .inl ⟨0, 1, rfl, by decide, by decide, by omega⟩
  · rw [if_neg h1]
    by_cases h2 : 65536 < T.length
    · rw [if_pos h2]; exact .inl ⟨0, 2, rfl, by decide, by decide, by omega⟩
    · rw [if_neg h2]
      cases hp : parS d 1024 T with
      | err e k =>
        obtain ⟨he, _⟩ := parS_err _ _ hp
        have := nl_le T k
        exact .inl ⟨_, _, rfl, by omega, by omega, by omega⟩
      | ok R k =>
        obtain ⟨h3, h4⟩ := parS_bound _ _ _ _ _ hp
        exact .inr ⟨R, k, rfl, by simpa using h1, by omega, rfl, h3, h4⟩
set_option maxHeartbeats 4000000 in
set_option maxRecDepth 10000 in
theorem awake_calls : PCalls Tryd.prog 8 [] (.bool true) := by
  have c1 : PCalls Tryd.prog 11 [.str [97, 44, 34, 98, 32, 34, 34, 99, 34, 34, 10, 34, 44, 10], .int .u8 44] (.tup [.sl 1 [.sl 1 [.str [97], .str [98, 32, 34, 99, 34, 10], .str []]], .int .i64 0, .int .i64 0]) := awk1 ▸ parse_calls [97, 44, 34, 98, 32, 34, 34, 99, 34, 34, 10, 34, 44, 10] 44
  have c2 : PCalls Tryd.prog 11 [.str [97, 34, 98], .int .u8 44] (.tup [.nils, .int .i64 1, .int .i64 3]) := awk2 ▸ parse_calls [97, 34, 98] 44
  have c3 : PCalls Tryd.prog 14 [.sl 1 [.str [97], .str [98, 32, 34, 99, 34, 10], .str []], .sl 1 [.str [97], .str [98, 32, 34, 99, 34, 10], .str []]] (.bool true) := samel_calls [[97], [98, 32, 34, 99, 34, 10], []] (by decide)
  refine PCalls_of isldAwake (by simp [fnldAwake]) ?_
  unfold codeldAwake
  have d11 : decide (((1 : Nat) : Int) = 1) = true := rfl
  repeat (first | (refine W_seq ?_) | (refine W_reg ?_) | (refine W_regd ?_) | (refine W_regs ?_) | (refine W_block ?_) | (refine And.intro (by omega) ?_) | simp (maxSteps := 1000000) (disch := omega) only [cA, cB, lk, lkH, Dst.onT, Dst.onX, Dst.slot, setF, setH, mapF, mapH, initF, binE, unE, cnt, boundE, newsE, freshE, freshT, opE, rmH, blkQ, frz_us, Nat.reduceEqDiff, Nat.reduceLT, Nat.reduceAdd, Nat.reduceMul, Nat.reduceMod, ↓reduceIte, reduceCtorEq, Nat.reduceLeDiff, cS, true_and, DV.rf, decide_true, List.length_cons, List.length_nil, d11, List.getD_cons_zero, List.mem_cons, List.not_mem_nil, or_false, forall_eq_or_imp, forall_eq, and_self] | (refine callC_pure (c1) rfl ?_) | (refine callC_pure (c2) rfl ?_) | (refine callC_pure (c3) rfl ?_) | exact W_ret (RetP_1 (.imm rfl)) | exact W_ret (RetP_c rfl rfl rfl (.imm rfl)))
end Go.Proofs.YtgonkeglcehkeaaDoor
namespace Go.Proofs.YtgonkeglcehkeaaDoor
open Go Go.Dat Go.Proofs Go.RowKit Go.Shelf Nat32
theorem dec_self (n : Int) : decide (n = n) = true := decide_eq_true rfl
end Go.Proofs.YtgonkeglcehkeaaDoor
namespace Go.Proofs.YtgonkeglcehkeaaDoor
open Go Go.Dat Go.Proofs Go.RowKit Go.Shelf Nat32
theorem any_take {α : Type} (p : α → Bool) (R : List α) (z : α) {i : Nat} (hi : i < R.length) (h : p (R.getD i z) = true) : R.any p = true := by
  rw [List.any_eq_true]
  refine ⟨R.getD i z, ?_, h⟩
  rw [List.getD_eq_getElem?_getD, List.getElem?_eq_getElem hi]
  exact List.getElem_mem hi
end Go.Proofs.YtgonkeglcehkeaaDoor
namespace Go.Proofs.YtgonkeglcehkeaaDoor
open Go Go.Dat Go.Proofs Go.RowKit Go.Shelf Nat32
theorem needQ_set (d : UInt8) (s : Bs) : s.any (fun b => ([34, 13, 10, d] : Bs).contains b) = needQ d s := by
  unfold needQ
  congr 1
  funext b
  simp only [List.contains_cons, List.contains_nil, Bool.or_false, stp, qrn]
  cases b == 34 <;> cases b == 13 <;> cases b == 10 <;> cases b == d <;> rfl
theorem cany_calls (s : Bs) (d : UInt8) (hd : d.toNat < 128) (hs : s.length < 4294967281) : PCalls Tryd.prog 27 [.str s, .str [34, 13, 10, d]] (.bool (needQ d s)) := by
  intro A w us hT hA hsz hv
  obtain ⟨v0, hv0⟩ := exists_aget (l := us) (k := 0) (by rw [hsz]; exact Nat.zero_lt_succ _)
  obtain ⟨v1, hv1⟩ := exists_aget (l := us) (k := 1) (by rw [hsz]; exact Nat.lt_succ_self _)
  have e0 := (V.imm (L := fun _ => none) (hv 0 _ v0 rfl hv0)).inv_str
  have e1 := (V.imm (L := fun _ => none) (hv 1 _ v1 rfl hv1)).inv_str
  subst e0
  subst e1
  obtain rfl : us = #[.string ⟨s.toArray⟩, .string ⟨#[34, 13, 10, d]⟩] := by
    have h1 : us.size = 2 := by simpa using hsz
    apply Array.ext_getElem?
    intro i
    match i with
    | 0 => rw [hv0]; rfl
    | 1 => rw [hv1]; rfl
    | i + 2 => rw [Array.getElem?_eq_none (by omega), Array.getElem?_eq_none (by simp)]
  refine (CAc Tryd.lays150 (by kernel_rfl) ⟨s.toArray⟩ ⟨#[34, 13, 10, d]⟩ w (by show s.toArray.size < _; simpa using hs) (show 2 ≤ 4 by decide) (show 4 < 4294967281 by decide) (fun j hj => ?_)).mono ?_
  · have hj2 : j < 4 := hj
    match j, hj2 with
    | 0, _ => show (34 : UInt8).toNat < 128; decide
    | 1, _ => show (13 : UInt8).toNat < 128; decide
    | 2, _ => show (10 : UInt8).toNat < 128; decide
    | 3, _ => exact hd
  · rintro e w' ⟨rfl, hb⟩
    refine ⟨_, rfl, ?_, Ext_of_below hb⟩
    have : Lib.containsAny (⟨s.toArray⟩ : ByteArray).data.toList (⟨#[34, 13, 10, d]⟩ : ByteArray).data.toList = needQ d s := by
      rw [containsAny_any]; exact needQ_set d s
    rw [this]
    exact .bool _
theorem rall_calls (s : Bs) (hs : s.length < 4294967281) : PCalls Tryd.prog 28 [.str s, .str [34], .str [34, 34]] (.str (dbl s)) := by
  intro A w us hT hA hsz hv
  obtain ⟨v0, hv0⟩ := exists_aget (l := us) (k := 0) (by rw [hsz]; exact Nat.zero_lt_succ _)
  obtain ⟨v1, hv1⟩ := exists_aget (l := us) (k := 1) (by rw [hsz]; exact Nat.succ_lt_succ (Nat.zero_lt_succ _))
  obtain ⟨v2, hv2⟩ := exists_aget (l := us) (k := 2) (by rw [hsz]; exact Nat.lt_succ_self _)
  have e0 := (V.imm (L := fun _ => none) (hv 0 _ v0 rfl hv0)).inv_str
  have e1 := (V.imm (L := fun _ => none) (hv 1 _ v1 rfl hv1)).inv_str
  have e2 := (V.imm (L := fun _ => none) (hv 2 _ v2 rfl hv2)).inv_str
  subst e0
  subst e1
  subst e2
  obtain rfl : us = #[.string ⟨s.toArray⟩, .string ⟨#[34]⟩, .string ⟨#[34, 34]⟩] := by
    have h1 : us.size = 3 := by simpa using hsz
    apply Array.ext_getElem?
    intro i
    match i with
    | 0 => rw [hv0]; rfl
    | 1 => rw [hv1]; rfl
    | 2 => rw [hv2]; rfl
    | i + 3 => rw [Array.getElem?_eq_none (by omega), Array.getElem?_eq_none (by simp)]
  obtain ⟨_, m, hm⟩ := hT.2 0 (by kernel_rfl)
  have hsz : (⟨s.toArray⟩ : ByteArray).size = s.length := by show s.toArray.size = s.length; simp
  have hc := Lib.countB_le ⟨#[34]⟩ (by decide) _ (⟨s.toArray⟩ : ByteArray) (Nat.le_refl _)
  refine (Tryd.strings_ReplaceAll ⟨s.toArray⟩ ⟨#[34]⟩ ⟨#[34, 34]⟩ m w (by rw [hsz]; exact hs) hm (by decide) ?_).mono ?_
  · have h2 : (⟨#[34, 34]⟩ : ByteArray).size = 2 := rfl
    rw [h2]
    omega
  · rintro e w' ⟨rfl, hb⟩
    refine ⟨_, rfl, ?_, Ext_of_below hb⟩
    have : Lib.replaceAll (⟨s.toArray⟩ : ByteArray).data.toList (⟨#[34]⟩ : ByteArray).data.toList (⟨#[34, 34]⟩ : ByteArray).data.toList = dbl s := replAll_dbl s
    rw [this]
    exact .str _
theorem delB_lt {d : UInt8} (h : delB d = true) : d.toNat < 128 := by
  unfold delB at h
  simp only [Bool.or_eq_true, beq_iff_eq] at h
  rcases h with ((h | h) | h) | h <;> subst h <;> decide
set_option maxHeartbeats 2000000 in
set_option maxRecDepth 10000 in
theorem dquote_calls (s : Bs) (d : UInt8) (hd : d.toNat < 128) (hs : s.length < 4294967281) : PCalls Tryd.prog 18 [.str s, .int .u8 d.toNat] (.str (quoteS d s)) := by
  have c1 := cany_calls s d hd hs
  have c2 := rall_calls s hs
  have hdl := dbl_le s
  refine PCalls_of isdQuoted (by simp [fndQuoted]) ?_
  unfold codedQuoted
  have w1 : IntKind.i32.wrap (d.toNat : Int) = (d.toNat : Int) := by
    rw [IntKind.wrap_i32]; omega
  have e1 : UInt8.ofNat d.toNat = d := by simp
  have hcat : ([34, 13, 10] : Bs) ++ [d] = [34, 13, 10, d] := rfl
  have hb : (0 : Int) ≤ (d.toNat : Int) ∧ (d.toNat : Int) < 128 := ⟨by omega, by omega⟩
  unfold quoteS
  cases hn : needQ d s
  · rw [hn] at c1
    repeat (first | (refine W_seq ?_) | (refine W_reg ?_) | (refine W_regd ?_) | (refine W_regs ?_) | (refine W_block ?_) | (refine And.intro (by omega) ?_) | simp (maxSteps := 1000000) (disch := omega) only [cA, cB, lk, lkH, Dst.onT, Dst.onX, Dst.slot, setF, setH, mapF, mapH, initF, binE, unE, cnt, boundE, newsE, freshE, freshT, opE, rmH, blkQ, frz_us, Nat.reduceEqDiff, Nat.reduceLT, Nat.reduceAdd, Nat.reduceMul, Nat.reduceMod, ↓reduceIte, reduceCtorEq, Nat.reduceLeDiff, w1, e1, hcat] | (refine callC_pure (c1) rfl ?_) | (refine callC_pure (c2) rfl ?_) | exact W_ret (RetP_1 (.imm rfl)) | exact W_ret (RetP_c rfl rfl rfl (.imm rfl)))
    refine W_cond rfl (fun _ => ?_) (fun h => by cases h)
    repeat (first | (refine W_seq ?_) | (refine W_reg ?_) | (refine W_regd ?_) | (refine W_regs ?_) | (refine W_block ?_) | (refine And.intro (by omega) ?_) | simp (maxSteps := 1000000) (disch := omega) only [cA, cB, lk, lkH, Dst.onT, Dst.onX, Dst.slot, setF, setH, mapF, mapH, initF, binE, unE, cnt, boundE, newsE, freshE, freshT, opE, rmH, blkQ, frz_us, Nat.reduceEqDiff, Nat.reduceLT, Nat.reduceAdd, Nat.reduceMul, Nat.reduceMod, ↓reduceIte, reduceCtorEq, Nat.reduceLeDiff])
    exact W_ret (RetP_1 (.imm rfl))
  · rw [hn] at c1
    repeat (first | (refine W_seq ?_) | (refine W_reg ?_) | (refine W_regd ?_) | (refine W_regs ?_) | (refine W_block ?_) | (refine And.intro (by omega) ?_) | simp (maxSteps := 1000000) (disch := omega) only [cA, cB, lk, lkH, Dst.onT, Dst.onX, Dst.slot, setF, setH, mapF, mapH, initF, binE, unE, cnt, boundE, newsE, freshE, freshT, opE, rmH, blkQ, frz_us, Nat.reduceEqDiff, Nat.reduceLT, Nat.reduceAdd, Nat.reduceMul, Nat.reduceMod, ↓reduceIte, reduceCtorEq, Nat.reduceLeDiff, w1, e1, hcat] | (refine callC_pure (c1) rfl ?_) | (refine callC_pure (c2) rfl ?_) | exact W_ret (RetP_1 (.imm rfl)) | exact W_ret (RetP_c rfl rfl rfl (.imm rfl)))
    refine W_cond rfl (fun h => by cases h) (fun _ => W_skip ?_)
    have hq : [34] ++ dbl s ++ [34] = 34 :: (dbl s ++ [34]) := rfl
    repeat (first | (refine W_seq ?_) | (refine W_reg ?_) | (refine W_regd ?_) | (refine W_regs ?_) | (refine W_block ?_) | (refine And.intro (by omega) ?_) | simp (maxSteps := 1000000) (disch := omega) only [cA, cB, lk, lkH, Dst.onT, Dst.onX, Dst.slot, setF, setH, mapF, mapH, initF, binE, unE, cnt, boundE, newsE, freshE, freshT, opE, rmH, blkQ, frz_us, Nat.reduceEqDiff, Nat.reduceLT, Nat.reduceAdd, Nat.reduceMul, Nat.reduceMod, ↓reduceIte, reduceCtorEq, Nat.reduceLeDiff, hq, List.length_append, List.length_singleton] | (refine callC_pure (c1) rfl ?_) | (refine callC_pure (c2) rfl ?_) | exact W_ret (RetP_1 (.imm rfl)) | exact W_ret (RetP_c rfl rfl rfl (.imm rfl)))
end Go.Proofs.YtgonkeglcehkeaaDoor
namespace Go.Proofs.YtgonkeglcehkeaaDoor
open Go Go.Dat Go.Proofs Go.RowKit Go.Shelf Nat32
set_option maxHeartbeats 1000000 in
theorem blen_calls (k : Nat) (l : List UInt8) (c0 : DV) (h2 : c0 = .nilp ∨ c0 = .ptr (NB k) 0) : MRel Tryd.prog 19 [.ptr (NB k) 0] (BH (NB k) 786512 c0 l) fun r H' => r = .int .i64 l.length ∧ H' = BH (NB k) 786512 c0 l := by
  have hN : 2097152 ≤ NB k := by unfold NB; omega
  generalize NB k = N at *
  have q1 : (786512 = N) = False := eq_false (by omega)
  have q2 : (N = 786512) = False := eq_false (by omega)
  have q3 : (N < 786512) = False := eq_false (by omega)
  have q4 : (786512 < N) = True := eq_true (by omega)
  refine MRel_of isbLen (by simp [fnbLen]) ?_
  unfold codebLen BH
  repeat (first | (refine W_seq ?_) | (refine W_reg ?_) | (refine W_regd ?_) | (refine W_regs ?_) | (refine W_block ?_) | (refine And.intro (by omega) ?_) | simp (maxSteps := 1000000) (disch := omega) only [cA, cB, lk, lkH, Dst.onT, Dst.onX, Dst.slot, setF, setH, mapF, mapH, initF, binE, unE, cnt, boundE, newsE, freshE, freshT, opE, rmH, blkQ, frz_us, Nat.reduceEqDiff, Nat.reduceLT, Nat.reduceAdd, Nat.reduceMul, Nat.reduceMod, ↓reduceIte, reduceCtorEq, Nat.reduceLeDiff, q1, q2, q3, q4])
  refine W_ret (RetBl (Ne.symm (by omega)) h2 rfl rfl rfl (by simp [lkH, q1]) (by simp [lkH]))
theorem any_take_snoc {α : Type} (p : α → Bool) (R : List α) (z : α) {i : Nat} (hi : i < R.length) : (R.take (i + 1)).any p = ((R.take i).any p || p (R.getD i z)) := by
  rw [take_snoc' R z hi, List.any_append]; simp
def fmtB : DC := sndC (sndC (sndC (sndC (sndC codedFormat))))
def FH (c0 : DV) (l : Bs) : Hp := [(786512, bys l), (2265609, [c0, .osl 1 786512 0 l.length])]
def FRr (R : List (List Bs)) (d : UInt8) : Fr := [(0, .sl 1 (recD R)), (1, .int .u8 d.toNat), (4, .str []), (5, .int .i64 0)]
set_option maxHeartbeats 8000000 in
set_option maxRecDepth 10000 in
theorem fmt_build (R : List (List Bs)) (d : UInt8) (hd : delB d = true) (hR : R.length ≤ 65536) (hr : ∀ r ∈ R, r.length ≤ 65536 ∧ ∀ f ∈ r, f.length ≤ 65536) (hS : (fmtS d R).length ≤ 1099511627776) :
    W fndFormat fmtB (RetP resdFormat (if 65536 < (fmtS d R).length then .tup [.str [], .int .i64 (2 : Nat)] else .tup [.str (fmtS d R), .int .i64 (0 : Nat)])) (FRr R d) [] := by
  have hRl := recD_len R
  have hd8 := delB_lt hd
  have hmem : ∀ i, i < R.length → R.getD i [] ∈ R := fun i hi => by
    rw [List.getD_eq_getElem?_getD, List.getElem?_eq_getElem hi]; exact List.getElem_mem hi
  obtain ⟨F, hF⟩ : ∃ F, (if 65536 < (fmtS d R).length then DV.tup [.str [], .int .i64 (2 : Nat)] else .tup [.str (fmtS d R), .int .i64 (0 : Nat)]) = F := ⟨_, rfl⟩
  rw [hF]
  unfold fmtB codedFormat FRr
  simp only [sndC]
  refine W_seq ?_
  refine W_reg ?_
  simp (maxSteps := 1000000) (disch := omega) only [cA, cB, lk, lkH, Dst.onT, Dst.onX, Dst.slot, setF, setH, mapF, mapH, initF, binE, unE, cnt, boundE, newsE, freshE, freshT, opE, rmH, blkQ, frz_us, Nat.reduceEqDiff, Nat.reduceLT, Nat.reduceAdd, Nat.reduceMul, Nat.reduceMod, ↓reduceIte, reduceCtorEq, Nat.reduceLeDiff]
  refine W_ownc 2265609 1 1 786512 (cells := [.nilp, .nils]) rfl rfl rfl ?_
  simp (maxSteps := 1000000) (disch := omega) only [cA, cB, lk, lkH, Dst.onT, Dst.onX, Dst.slot, setF, setH, mapF, mapH, initF, binE, unE, cnt, boundE, newsE, freshE, freshT, opE, rmH, blkQ, frz_us, Nat.reduceEqDiff, Nat.reduceLT, Nat.reduceAdd, Nat.reduceMul, Nat.reduceMod, ↓reduceIte, reduceCtorEq, Nat.reduceLeDiff]
  refine W_seq ?_
  refine W_seq ?_
  refine W_reg ?_
  simp (maxSteps := 1000000) (disch := omega) only [cA, cB, lk, lkH, Dst.onT, Dst.onX, Dst.slot, setF, setH, mapF, mapH, initF, binE, unE, cnt, boundE, newsE, freshE, freshT, opE, rmH, blkQ, frz_us, Nat.reduceEqDiff, Nat.reduceLT, Nat.reduceAdd, Nat.reduceMul, Nat.reduceMod, ↓reduceIte, reduceCtorEq, Nat.reduceLeDiff]
  have hb1 : ∀ c0 : DV, (c0 = .nilp ∨ c0 = .ptr 2265609 0) → ∀ l : Bs, MRel Tryd.prog 19 [.ptr 2265609 0] (BH 2265609 786512 c0 l) fun r H' => r = .int .i64 l.length ∧ H' = BH 2265609 786512 c0 l := fun c0 h l => blen_calls 9 l c0 h
  refine W_block ?_
  refine W_loop (σ := Nat × DV) (fun s => [(0, .sl 1 (recD R)), (1, .int .u8 d.toNat), (4, .str []), (5, .int .i64 0), (9, .ptr 2265609 0), (37, .sl 1 (recD R)), (38, .int .i64 R.length), (39, .int .i64 s.1)])
    (fun s => FH s.2 (fmtS d (R.take s.1))) (fun s => s.1 ≤ R.length ∧ (s.2 = .nilp ∨ s.2 = .ptr 2265609 0)) (fun s => R.length - s.1) (0, .nilp) ⟨Nat.zero_le _, .inl rfl⟩ ?_ rfl ?_
  · simp [subF, lk, hRl]
  · rintro ⟨i, c0⟩ ⟨hi, hc0⟩
    try simp only at hi hc0 ⊢
    unfold FH
    have hle := fmtS_take_le d R i
    by_cases hlt : i < R.length
    · have d1 : decide ((i : Int) < (R.length : Int)) = true := decide_eq_true (by omega)
      have hg := recD_getD R i hlt
      have hsl := strL_len (R.getD i [])
      obtain ⟨hrl, hfl⟩ := hr _ (hmem i hlt)
      obtain ⟨r, hrr⟩ : ∃ r, R.getD i [] = r := ⟨_, rfl⟩
      have hts := take_snoc' R [] hlt
      rw [hrr] at hg hsl hrl hfl hts
      repeat (first | (refine W_seq ?_) | (refine W_reg ?_) | (refine W_regd ?_) | (refine W_regs ?_) | (refine W_block ?_) | (refine And.intro (by omega) ?_) | simp (maxSteps := 1000000) (disch := omega) only [cA, cB, lk, lkH, Dst.onT, Dst.onX, Dst.slot, setF, setH, mapF, mapH, initF, binE, unE, cnt, boundE, newsE, freshE, freshT, opE, rmH, blkQ, frz_us, Nat.reduceEqDiff, Nat.reduceLT, Nat.reduceAdd, Nat.reduceMul, Nat.reduceMod, ↓reduceIte, reduceCtorEq, Nat.reduceLeDiff, hRl, d1])
      refine W_cond rfl (fun _ => W_skip ?_) (fun h => by cases h)
      repeat (first | (refine W_seq ?_) | (refine W_reg ?_) | (refine W_regd ?_) | (refine W_regs ?_) | (refine W_block ?_) | (refine And.intro (by omega) ?_) | simp (maxSteps := 1000000) (disch := omega) only [cA, cB, lk, lkH, Dst.onT, Dst.onX, Dst.slot, setF, setH, mapF, mapH, initF, binE, unE, cnt, boundE, newsE, freshE, freshT, opE, rmH, blkQ, frz_us, Nat.reduceEqDiff, Nat.reduceLT, Nat.reduceAdd, Nat.reduceMul, Nat.reduceMod, ↓reduceIte, reduceCtorEq, Nat.reduceLeDiff, hRl, hg, hsl])
      refine W_loop (σ := Nat × DV) (fun s => [(0, .sl 1 (recD R)), (1, .int .u8 d.toNat), (4, .str []), (5, .int .i64 0), (9, .ptr 2265609 0), (37, .sl 1 (recD R)), (38, .int .i64 R.length), (39, .int .i64 i), (43, .sl 1 (strL r)), (44, .int .i64 r.length), (45, .int .i64 s.1)])
        (fun s => FH s.2 (fmtS d (R.take i) ++ fmtF d (r.take s.1))) (fun s => s.1 ≤ r.length ∧ (s.2 = .nilp ∨ s.2 = .ptr 2265609 0)) (fun s => r.length - s.1) (0, c0) ⟨Nat.zero_le _, hc0⟩ ?_ ?_ ?_
      · simp [subF, lk, hsl]
      · simp [FH, fmtF]
      · rintro ⟨j, c1⟩ ⟨hj, hc1⟩
        try simp only at hj hc1 ⊢
        unfold FH
        have hwl : (fmtF d (r.take j)).length ≤ 3 * (65537 * 65536) := by
          have h1 := fmtF_le d (r.take j)
          have h2 := wgt_le (B := 65536) (r.take j) fun f hf => hfl f (List.mem_of_mem_take hf)
          have h3 : (r.take j).length ≤ 65536 := by rw [List.length_take]; omega
          have h4 : (65536 + 1) * (r.take j).length ≤ 65537 * 65536 := Nat.mul_le_mul_left _ h3
          omega
        by_cases hjl : j < r.length
        · have dj : decide ((j : Int) < (r.length : Int)) = true := decide_eq_true (by omega)
          have ej : (j : Int) + 1 = ((j + 1 : Nat) : Int) := by omega
          have hgj := strL_getD r j hjl
          have hfm : r.getD j [] ∈ r := by rw [List.getD_eq_getElem?_getD, List.getElem?_eq_getElem hjl]; exact List.getElem_mem hjl
          have hfb := hfl _ hfm
          have cq := dquote_calls (r.getD j []) d hd8 (by omega)
          have hql := quoteS_le d (r.getD j [])
          have htj := take_snoc' r [] hjl
          have hsn := fmtF_snoc d (r.getD j []) (r.take j)
          rw [← htj] at hsn
          obtain ⟨q, hq⟩ : ∃ q, quoteS d (r.getD j []) = q := ⟨_, rfl⟩
          rw [hq] at cq hql hsn
          obtain ⟨X, hX⟩ : ∃ X, fmtS d (R.take i) ++ fmtF d (r.take j) = X := ⟨_, rfl⟩
          have hXl : X.length ≤ 1099511627776 + 3 * (65537 * 65536) := by rw [← hX, List.length_append]; omega
          rw [hX]
          repeat (first | (refine W_seq ?_) | (refine W_reg ?_) | (refine W_regd ?_) | (refine W_regs ?_) | (refine W_block ?_) | (refine And.intro (by omega) ?_) | simp (maxSteps := 1000000) (disch := omega) only [cA, cB, lk, lkH, Dst.onT, Dst.onX, Dst.slot, setF, setH, mapF, mapH, initF, binE, unE, cnt, boundE, newsE, freshE, freshT, opE, rmH, blkQ, frz_us, Nat.reduceEqDiff, Nat.reduceLT, Nat.reduceAdd, Nat.reduceMul, Nat.reduceMod, ↓reduceIte, reduceCtorEq, Nat.reduceLeDiff, hRl, hg, hgj, hsl, dj])
          refine W_cond rfl (fun _ => W_skip ?_) (fun h => by cases h)
          by_cases hj0 : 0 < j
          · have dz : decide ((0 : Int) < (j : Int)) = true := decide_eq_true (by omega)
            rw [if_neg (fun h => by have := congrArg List.length h; rw [List.length_take, Nat.min_eq_left (by omega), List.length_nil] at this; omega)] at hsn
            have hXe : fmtS d (R.take i) ++ fmtF d (r.take (j + 1)) = X ++ [d] ++ q := by rw [hsn, ← hX]; simp
            repeat (first | (refine W_seq ?_) | (refine W_reg ?_) | (refine W_regd ?_) | (refine W_regs ?_) | (refine W_block ?_) | (refine And.intro (by omega) ?_) | simp (maxSteps := 1000000) (disch := omega) only [cA, cB, lk, lkH, Dst.onT, Dst.onX, Dst.slot, setF, setH, mapF, mapH, initF, binE, unE, cnt, boundE, newsE, freshE, freshT, opE, rmH, blkQ, frz_us, Nat.reduceEqDiff, Nat.reduceLT, Nat.reduceAdd, Nat.reduceMul, Nat.reduceMod, ↓reduceIte, reduceCtorEq, Nat.reduceLeDiff, hRl, hg, hgj, hsl, dz])
            refine W_cond rfl (fun _ => ?_) (fun h => by cases h)
            repeat (first | (refine W_seq ?_) | (refine W_reg ?_) | (refine W_regd ?_) | (refine W_regs ?_) | (refine W_block ?_) | (refine And.intro (by omega) ?_) | simp (maxSteps := 1000000) (disch := omega) only [cA, cB, lk, lkH, Dst.onT, Dst.onX, Dst.slot, setF, setH, mapF, mapH, initF, binE, unE, cnt, boundE, newsE, freshE, freshT, opE, rmH, blkQ, frz_us, Nat.reduceEqDiff, Nat.reduceLT, Nat.reduceAdd, Nat.reduceMul, Nat.reduceMod, ↓reduceIte, reduceCtorEq, Nat.reduceLeDiff])
            have bw : BCalls Tryd.prog 2265609 786512 16 [.int .u8 d.toNat] X .nili (X ++ [d]) := bwb_calls 9 X d (by omega)
            refine callC_bld 2265609 786512 bw rfl rfl rfl hc1 (by decide) (by decide) (fun d h => by simp at h; subst h; rfl) rfl (by simp [DV.has]) (by simp [DV.has]) (fun p c h1 h2 h => by simp [lkH, Ne.symm h1, Ne.symm h2] at h) ?_
            simp (maxSteps := 1000000) (disch := omega) only [cA, cB, lk, lkH, Dst.onT, Dst.onX, Dst.slot, setF, setH, mapF, mapH, initF, binE, unE, cnt, boundE, newsE, freshE, freshT, opE, rmH, blkQ, frz_us, Nat.reduceEqDiff, Nat.reduceLT, Nat.reduceAdd, Nat.reduceMul, Nat.reduceMod, ↓reduceIte, reduceCtorEq, Nat.reduceLeDiff]
            repeat (first | (refine W_seq ?_) | (refine W_reg ?_) | (refine W_regd ?_) | (refine W_regs ?_) | (refine W_block ?_) | (refine And.intro (by omega) ?_) | simp (maxSteps := 1000000) (disch := omega) only [cA, cB, lk, lkH, Dst.onT, Dst.onX, Dst.slot, setF, setH, mapF, mapH, initF, binE, unE, cnt, boundE, newsE, freshE, freshT, opE, rmH, blkQ, frz_us, Nat.reduceEqDiff, Nat.reduceLT, Nat.reduceAdd, Nat.reduceMul, Nat.reduceMod, ↓reduceIte, reduceCtorEq, Nat.reduceLeDiff])
            refine callC_pure cq rfl ?_
            repeat (first | (refine W_seq ?_) | (refine W_reg ?_) | (refine W_regd ?_) | (refine W_regs ?_) | (refine W_block ?_) | (refine And.intro (by omega) ?_) | simp (maxSteps := 1000000) (disch := omega) only [cA, cB, lk, lkH, Dst.onT, Dst.onX, Dst.slot, setF, setH, mapF, mapH, initF, binE, unE, cnt, boundE, newsE, freshE, freshT, opE, rmH, blkQ, frz_us, Nat.reduceEqDiff, Nat.reduceLT, Nat.reduceAdd, Nat.reduceMul, Nat.reduceMod, ↓reduceIte, reduceCtorEq, Nat.reduceLeDiff])
            have bs : BCalls Tryd.prog 2265609 786512 17 [.str q] (X ++ [d]) (.tup [.int .i64 q.length, .nili]) (X ++ [d] ++ q) := bws_calls 9 (X ++ [d]) q (by simp; omega)
            refine callC_bld 2265609 786512 bs rfl rfl rfl (.inr rfl) (by decide) (by decide) (fun d h => by simp at h; subst h; rfl) rfl (by simp [DV.has]) (by simp [DV.has]) (fun p c h1 h2 h => by simp [lkH, Ne.symm h1, Ne.symm h2] at h) ?_
            simp (maxSteps := 1000000) (disch := omega) only [cA, cB, lk, lkH, Dst.onT, Dst.onX, Dst.slot, setF, setH, mapF, mapH, initF, binE, unE, cnt, boundE, newsE, freshE, freshT, opE, rmH, blkQ, frz_us, Nat.reduceEqDiff, Nat.reduceLT, Nat.reduceAdd, Nat.reduceMul, Nat.reduceMod, ↓reduceIte, reduceCtorEq, Nat.reduceLeDiff]
            repeat (first | (refine W_seq ?_) | (refine W_reg ?_) | (refine W_regd ?_) | (refine W_regs ?_) | (refine W_block ?_) | (refine And.intro (by omega) ?_) | simp (maxSteps := 1000000) (disch := omega) only [cA, cB, lk, lkH, Dst.onT, Dst.onX, Dst.slot, setF, setH, mapF, mapH, initF, binE, unE, cnt, boundE, newsE, freshE, freshT, opE, rmH, blkQ, frz_us, Nat.reduceEqDiff, Nat.reduceLT, Nat.reduceAdd, Nat.reduceMul, Nat.reduceMod, ↓reduceIte, reduceCtorEq, Nat.reduceLeDiff, ej])
            refine ⟨(j + 1, .ptr 2265609 0), ⟨by omega, .inr rfl⟩, by simp; omega, by simp [subF, lk], ?_⟩
            simp only [hXe]
          · have dz : decide ((0 : Int) < (j : Int)) = false := decide_eq_false (by omega)
            have hj0 : j = 0 := by omega
            subst hj0
            rw [if_pos (by simp)] at hsn
            have hXe : fmtS d (R.take i) ++ fmtF d (r.take (0 + 1)) = X ++ q := by rw [hsn, ← hX]; simp [fmtF]
            repeat (first | (refine W_seq ?_) | (refine W_reg ?_) | (refine W_regd ?_) | (refine W_regs ?_) | (refine W_block ?_) | (refine And.intro (by omega) ?_) | simp (maxSteps := 1000000) (disch := omega) only [cA, cB, lk, lkH, Dst.onT, Dst.onX, Dst.slot, setF, setH, mapF, mapH, initF, binE, unE, cnt, boundE, newsE, freshE, freshT, opE, rmH, blkQ, frz_us, Nat.reduceEqDiff, Nat.reduceLT, Nat.reduceAdd, Nat.reduceMul, Nat.reduceMod, ↓reduceIte, reduceCtorEq, Nat.reduceLeDiff, hRl, hg, hgj, hsl, dz])
            refine W_cond rfl (fun h => by cases h) (fun _ => W_skip ?_)
            repeat (first | (refine W_seq ?_) | (refine W_reg ?_) | (refine W_regd ?_) | (refine W_regs ?_) | (refine W_block ?_) | (refine And.intro (by omega) ?_) | simp (maxSteps := 1000000) (disch := omega) only [cA, cB, lk, lkH, Dst.onT, Dst.onX, Dst.slot, setF, setH, mapF, mapH, initF, binE, unE, cnt, boundE, newsE, freshE, freshT, opE, rmH, blkQ, frz_us, Nat.reduceEqDiff, Nat.reduceLT, Nat.reduceAdd, Nat.reduceMul, Nat.reduceMod, ↓reduceIte, reduceCtorEq, Nat.reduceLeDiff])
            refine callC_pure cq rfl ?_
            repeat (first | (refine W_seq ?_) | (refine W_reg ?_) | (refine W_regd ?_) | (refine W_regs ?_) | (refine W_block ?_) | (refine And.intro (by omega) ?_) | simp (maxSteps := 1000000) (disch := omega) only [cA, cB, lk, lkH, Dst.onT, Dst.onX, Dst.slot, setF, setH, mapF, mapH, initF, binE, unE, cnt, boundE, newsE, freshE, freshT, opE, rmH, blkQ, frz_us, Nat.reduceEqDiff, Nat.reduceLT, Nat.reduceAdd, Nat.reduceMul, Nat.reduceMod, ↓reduceIte, reduceCtorEq, Nat.reduceLeDiff])
            have bs : BCalls Tryd.prog 2265609 786512 17 [.str q] X (.tup [.int .i64 q.length, .nili]) (X ++ q) := bws_calls 9 X q (by omega)
            refine callC_bld 2265609 786512 bs rfl rfl rfl hc1 (by decide) (by decide) (fun d h => by simp at h; subst h; rfl) rfl (by simp [DV.has]) (by simp [DV.has]) (fun p c h1 h2 h => by simp [lkH, Ne.symm h1, Ne.symm h2] at h) ?_
            simp (maxSteps := 1000000) (disch := omega) only [cA, cB, lk, lkH, Dst.onT, Dst.onX, Dst.slot, setF, setH, mapF, mapH, initF, binE, unE, cnt, boundE, newsE, freshE, freshT, opE, rmH, blkQ, frz_us, Nat.reduceEqDiff, Nat.reduceLT, Nat.reduceAdd, Nat.reduceMul, Nat.reduceMod, ↓reduceIte, reduceCtorEq, Nat.reduceLeDiff]
            repeat (first | (refine W_seq ?_) | (refine W_reg ?_) | (refine W_regd ?_) | (refine W_regs ?_) | (refine W_block ?_) | (refine And.intro (by omega) ?_) | simp (maxSteps := 1000000) (disch := omega) only [cA, cB, lk, lkH, Dst.onT, Dst.onX, Dst.slot, setF, setH, mapF, mapH, initF, binE, unE, cnt, boundE, newsE, freshE, freshT, opE, rmH, blkQ, frz_us, Nat.reduceEqDiff, Nat.reduceLT, Nat.reduceAdd, Nat.reduceMul, Nat.reduceMod, ↓reduceIte, reduceCtorEq, Nat.reduceLeDiff, ej])
            refine ⟨(1, .ptr 2265609 0), ⟨by omega, .inr rfl⟩, by simp; omega, by simp [subF, lk], ?_⟩
            simp only [← hXe]
        · have dj : decide ((j : Int) < (r.length : Int)) = false := decide_eq_false (by omega)
          have hTr : r.take j = r := List.take_of_length_le (by omega)
          rw [hTr] at hwl ⊢
          obtain ⟨X, hX⟩ : ∃ X, fmtS d (R.take i) ++ fmtF d r = X := ⟨_, rfl⟩
          have hXl : X.length ≤ 1099511627776 + 3 * (65537 * 65536) := by rw [← hX, List.length_append]; omega
          have hXe : fmtS d (R.take (i + 1)) = X ++ [10] := by rw [hts, fmtS_snoc, fmtR, ← hX]; simp
          rw [hX]
          repeat (first | (refine W_seq ?_) | (refine W_reg ?_) | (refine W_regd ?_) | (refine W_regs ?_) | (refine W_block ?_) | (refine And.intro (by omega) ?_) | simp (maxSteps := 1000000) (disch := omega) only [cA, cB, lk, lkH, Dst.onT, Dst.onX, Dst.slot, setF, setH, mapF, mapH, initF, binE, unE, cnt, boundE, newsE, freshE, freshT, opE, rmH, blkQ, frz_us, Nat.reduceEqDiff, Nat.reduceLT, Nat.reduceAdd, Nat.reduceMul, Nat.reduceMod, ↓reduceIte, reduceCtorEq, Nat.reduceLeDiff, hRl, hg, hsl, dj])
          refine W_cond rfl (fun h => by cases h) (fun _ => ?_)
          refine W_exit ?_
          repeat (first | (refine W_seq ?_) | (refine W_reg ?_) | (refine W_regd ?_) | (refine W_regs ?_) | (refine W_block ?_) | (refine And.intro (by omega) ?_) | simp (maxSteps := 1000000) (disch := omega) only [cA, cB, lk, lkH, Dst.onT, Dst.onX, Dst.slot, setF, setH, mapF, mapH, initF, binE, unE, cnt, boundE, newsE, freshE, freshT, opE, rmH, blkQ, frz_us, Nat.reduceEqDiff, Nat.reduceLT, Nat.reduceAdd, Nat.reduceMul, Nat.reduceMod, ↓reduceIte, reduceCtorEq, Nat.reduceLeDiff])
          have bw : BCalls Tryd.prog 2265609 786512 16 [.int .u8 ((10 : UInt8).toNat : Int)] X .nili (X ++ [10]) := bwb_calls 9 X 10 (by omega)
          refine callC_bld 2265609 786512 bw rfl rfl rfl hc1 (by decide) (by decide) (fun d h => by simp at h; subst h; rfl) rfl (by simp [DV.has]) (by simp [DV.has]) (fun p c h1 h2 h => by simp [lkH, Ne.symm h1, Ne.symm h2] at h) ?_
          simp (maxSteps := 1000000) (disch := omega) only [cA, cB, lk, lkH, Dst.onT, Dst.onX, Dst.slot, setF, setH, mapF, mapH, initF, binE, unE, cnt, boundE, newsE, freshE, freshT, opE, rmH, blkQ, frz_us, Nat.reduceEqDiff, Nat.reduceLT, Nat.reduceAdd, Nat.reduceMul, Nat.reduceMod, ↓reduceIte, reduceCtorEq, Nat.reduceLeDiff]
          repeat (first | (refine W_seq ?_) | (refine W_reg ?_) | (refine W_regd ?_) | (refine W_regs ?_) | (refine W_block ?_) | (refine And.intro (by omega) ?_) | simp (maxSteps := 1000000) (disch := omega) only [cA, cB, lk, lkH, Dst.onT, Dst.onX, Dst.slot, setF, setH, mapF, mapH, initF, binE, unE, cnt, boundE, newsE, freshE, freshT, opE, rmH, blkQ, frz_us, Nat.reduceEqDiff, Nat.reduceLT, Nat.reduceAdd, Nat.reduceMul, Nat.reduceMod, ↓reduceIte, reduceCtorEq, Nat.reduceLeDiff])
          refine ⟨(i + 1, .ptr 2265609 0), ⟨by omega, .inr rfl⟩, by simp; omega, by simp [subF, lk], ?_⟩
          simp only [hXe]
    · have d1 : decide ((i : Int) < (R.length : Int)) = false := decide_eq_false (by omega)
      rw [List.take_of_length_le (by omega)]
      repeat (first | (refine W_seq ?_) | (refine W_reg ?_) | (refine W_regd ?_) | (refine W_regs ?_) | (refine W_block ?_) | (refine And.intro (by omega) ?_) | simp (maxSteps := 1000000) (disch := omega) only [cA, cB, lk, lkH, Dst.onT, Dst.onX, Dst.slot, setF, setH, mapF, mapH, initF, binE, unE, cnt, boundE, newsE, freshE, freshT, opE, rmH, blkQ, frz_us, Nat.reduceEqDiff, Nat.reduceLT, Nat.reduceAdd, Nat.reduceMul, Nat.reduceMod, ↓reduceIte, reduceCtorEq, Nat.reduceLeDiff, hRl, d1])
      refine W_cond rfl (fun h => by cases h) (fun _ => ?_)
      refine W_exit ?_
      repeat (first | (refine W_seq ?_) | (refine W_reg ?_) | (refine W_regd ?_) | (refine W_regs ?_) | (refine W_block ?_) | (refine And.intro (by omega) ?_) | simp (maxSteps := 1000000) (disch := omega) only [cA, cB, lk, lkH, Dst.onT, Dst.onX, Dst.slot, setF, setH, mapF, mapH, initF, binE, unE, cnt, boundE, newsE, freshE, freshT, opE, rmH, blkQ, frz_us, Nat.reduceEqDiff, Nat.reduceLT, Nat.reduceAdd, Nat.reduceMul, Nat.reduceMod, ↓reduceIte, reduceCtorEq, Nat.reduceLeDiff])
      refine callC_blen 2265609 786512 (hb1 c0 hc0 _) rfl rfl rfl hc0 (by decide) (by decide) rfl rfl (by simp [DV.has]) (fun p c h1 h2 h => by simp [lkH, Ne.symm h1, Ne.symm h2] at h) ?_
      by_cases hs : 65536 < (fmtS d R).length
      · have d4 : decide ((65536 : Int) < ((fmtS d R).length : Int)) = true := decide_eq_true (by omega)
        rw [if_pos hs] at hF
        subst hF
        repeat (first | (refine W_seq ?_) | (refine W_reg ?_) | (refine W_regd ?_) | (refine W_regs ?_) | (refine W_block ?_) | (refine And.intro (by omega) ?_) | simp (maxSteps := 1000000) (disch := omega) only [cA, cB, lk, lkH, Dst.onT, Dst.onX, Dst.slot, setF, setH, mapF, mapH, initF, binE, unE, cnt, boundE, newsE, freshE, freshT, opE, rmH, blkQ, frz_us, Nat.reduceEqDiff, Nat.reduceLT, Nat.reduceAdd, Nat.reduceMul, Nat.reduceMod, ↓reduceIte, reduceCtorEq, Nat.reduceLeDiff, d4])
        refine W_cond rfl (fun _ => ?_) (fun h => by cases h)
        repeat (first | (refine W_seq ?_) | (refine W_reg ?_) | (refine W_regd ?_) | (refine W_regs ?_) | (refine W_block ?_) | (refine And.intro (by omega) ?_) | simp (maxSteps := 1000000) (disch := omega) only [cA, cB, lk, lkH, Dst.onT, Dst.onX, Dst.slot, setF, setH, mapF, mapH, initF, binE, unE, cnt, boundE, newsE, freshE, freshT, opE, rmH, blkQ, frz_us, Nat.reduceEqDiff, Nat.reduceLT, Nat.reduceAdd, Nat.reduceMul, Nat.reduceMod, ↓reduceIte, reduceCtorEq, Nat.reduceLeDiff])
        exact W_ret (RetP_2 (.imm rfl) (.imm rfl))
      · have d4 : decide ((65536 : Int) < ((fmtS d R).length : Int)) = false := decide_eq_false (by omega)
        rw [if_neg hs] at hF
        subst hF
        repeat (first | (refine W_seq ?_) | (refine W_reg ?_) | (refine W_regd ?_) | (refine W_regs ?_) | (refine W_block ?_) | (refine And.intro (by omega) ?_) | simp (maxSteps := 1000000) (disch := omega) only [cA, cB, lk, lkH, Dst.onT, Dst.onX, Dst.slot, setF, setH, mapF, mapH, initF, binE, unE, cnt, boundE, newsE, freshE, freshT, opE, rmH, blkQ, frz_us, Nat.reduceEqDiff, Nat.reduceLT, Nat.reduceAdd, Nat.reduceMul, Nat.reduceMod, ↓reduceIte, reduceCtorEq, Nat.reduceLeDiff, d4])
        refine W_cond rfl (fun h => by cases h) (fun _ => W_skip ?_)
        repeat (first | (refine W_seq ?_) | (refine W_reg ?_) | (refine W_regd ?_) | (refine W_regs ?_) | (refine W_block ?_) | (refine And.intro (by omega) ?_) | simp (maxSteps := 1000000) (disch := omega) only [cA, cB, lk, lkH, Dst.onT, Dst.onX, Dst.slot, setF, setH, mapF, mapH, initF, binE, unE, cnt, boundE, newsE, freshE, freshT, opE, rmH, blkQ, frz_us, Nat.reduceEqDiff, Nat.reduceLT, Nat.reduceAdd, Nat.reduceMul, Nat.reduceMod, ↓reduceIte, reduceCtorEq, Nat.reduceLeDiff])
        have cs : MRel Tryd.prog 20 [.ptr 2265609 0] (BH 2265609 786512 c0 (fmtS d R)) fun r H' => r = .str (fmtS d R) ∧ H' = [(2265609, [.undef, .undef])] :=
          Str_calls Tryd.lays169 Tryd.Builder_Extra_169 2265609 786512 (by decide) (by decide) rfl (fmtS d R) (by omega) c0
        refine callC_bstr 2265609 786512 cs rfl rfl rfl hc0 (by decide) (by decide) rfl (by simp [DV.has]) (fun p c h1 h2 h => by simp [lkH, Ne.symm h1, Ne.symm h2] at h) ?_
        simp (maxSteps := 1000000) (disch := omega) only [cA, cB, lk, lkH, Dst.onT, Dst.onX, Dst.slot, setF, setH, mapF, mapH, initF, binE, unE, cnt, boundE, newsE, freshE, freshT, opE, rmH, blkQ, frz_us, Nat.reduceEqDiff, Nat.reduceLT, Nat.reduceAdd, Nat.reduceMul, Nat.reduceMod, ↓reduceIte, reduceCtorEq, Nat.reduceLeDiff, delH]
        repeat (first | (refine W_seq ?_) | (refine W_reg ?_) | (refine W_regd ?_) | (refine W_regs ?_) | (refine W_block ?_) | (refine And.intro (by omega) ?_) | simp (maxSteps := 1000000) (disch := omega) only [cA, cB, lk, lkH, Dst.onT, Dst.onX, Dst.slot, setF, setH, mapF, mapH, initF, binE, unE, cnt, boundE, newsE, freshE, freshT, opE, rmH, blkQ, frz_us, Nat.reduceEqDiff, Nat.reduceLT, Nat.reduceAdd, Nat.reduceMul, Nat.reduceMod, ↓reduceIte, reduceCtorEq, Nat.reduceLeDiff])
        exact W_ret (RetP_2 (.imm rfl) (.imm rfl))
end Go.Proofs.YtgonkeglcehkeaaDoor
namespace Go.Proofs.YtgonkeglcehkeaaDoor
open Go Go.Dat Go.Proofs Go.RowKit Go.Shelf Nat32
set_option maxHeartbeats 8000000 in
set_option maxRecDepth 10000 in
theorem dformat_calls (R : List (List Bs)) (d : UInt8) (hR : R.length ≤ 65536) (hr : ∀ r ∈ R, r.length ≤ 65536 ∧ ∀ f ∈ r, f.length ≤ 65536) (hS : (fmtS d R).length ≤ 1099511627776) :
    PCalls Tryd.prog 9 [.sl 1 (recD R), .int .u8 d.toNat] (fmtD R d) := by
  have cd := del_calls d
  have hRl := recD_len R
  have hmem : ∀ i, i < R.length → R.getD i [] ∈ R := fun i hi => by
    rw [List.getD_eq_getElem?_getD, List.getElem?_eq_getElem hi]; exact List.getElem_mem hi
  refine PCalls_of isdFormat (by simp [fndFormat]) ?_
  obtain ⟨F, hF⟩ : ∃ F, fmtD R d = F := ⟨_, rfl⟩
  rw [hF]
  unfold codedFormat
  unfold fmtD at hF
  by_cases hd : delB d = false
  · rw [if_pos hd] at hF
    rw [hd] at cd
    subst hF
    repeat (first | (refine W_seq ?_) | (refine W_reg ?_) | (refine W_regd ?_) | (refine W_regs ?_) | (refine W_block ?_) | (refine And.intro (by omega) ?_) | simp (maxSteps := 1000000) (disch := omega) only [cA, cB, lk, lkH, Dst.onT, Dst.onX, Dst.slot, setF, setH, mapF, mapH, initF, binE, unE, cnt, boundE, newsE, freshE, freshT, opE, rmH, blkQ, frz_us, Nat.reduceEqDiff, Nat.reduceLT, Nat.reduceAdd, Nat.reduceMul, Nat.reduceMod, ↓reduceIte, reduceCtorEq, Nat.reduceLeDiff] | (refine callC_pure (cd) rfl ?_) | exact W_ret (RetP_1 (.imm rfl)) | exact W_ret (RetP_c rfl rfl rfl (.imm rfl)))
    refine W_cond rfl (fun _ => ?_) (fun h => by cases h)
    repeat (first | (refine W_seq ?_) | (refine W_reg ?_) | (refine W_regd ?_) | (refine W_regs ?_) | (refine W_block ?_) | (refine And.intro (by omega) ?_) | simp (maxSteps := 1000000) (disch := omega) only [cA, cB, lk, lkH, Dst.onT, Dst.onX, Dst.slot, setF, setH, mapF, mapH, initF, binE, unE, cnt, boundE, newsE, freshE, freshT, opE, rmH, blkQ, frz_us, Nat.reduceEqDiff, Nat.reduceLT, Nat.reduceAdd, Nat.reduceMul, Nat.reduceMod, ↓reduceIte, reduceCtorEq, Nat.reduceLeDiff])
    exact W_ret (RetP_2 (.imm rfl) (.imm rfl))
  · rw [if_neg hd] at hF
    have hd : delB d = true := by simpa using hd
    rw [hd] at cd
    repeat (first | (refine W_seq ?_) | (refine W_reg ?_) | (refine W_regd ?_) | (refine W_regs ?_) | (refine W_block ?_) | (refine And.intro (by omega) ?_) | simp (maxSteps := 1000000) (disch := omega) only [cA, cB, lk, lkH, Dst.onT, Dst.onX, Dst.slot, setF, setH, mapF, mapH, initF, binE, unE, cnt, boundE, newsE, freshE, freshT, opE, rmH, blkQ, frz_us, Nat.reduceEqDiff, Nat.reduceLT, Nat.reduceAdd, Nat.reduceMul, Nat.reduceMod, ↓reduceIte, reduceCtorEq, Nat.reduceLeDiff] | (refine callC_pure (cd) rfl ?_) | exact W_ret (RetP_1 (.imm rfl)) | exact W_ret (RetP_c rfl rfl rfl (.imm rfl)))
    refine W_cond rfl (fun h => by cases h) (fun _ => W_skip ?_)
    have hL : decide ((1024 : Int) < (R.length : Int)) = decide (1024 < R.length) := by rw [decide_eq_decide]; omega
    repeat (first | (refine W_seq ?_) | (refine W_reg ?_) | (refine W_regd ?_) | (refine W_regs ?_) | (refine W_block ?_) | (refine And.intro (by omega) ?_) | simp (maxSteps := 1000000) (disch := omega) only [cA, cB, lk, lkH, Dst.onT, Dst.onX, Dst.slot, setF, setH, mapF, mapH, initF, binE, unE, cnt, boundE, newsE, freshE, freshT, opE, rmH, blkQ, frz_us, Nat.reduceEqDiff, Nat.reduceLT, Nat.reduceAdd, Nat.reduceMul, Nat.reduceMod, ↓reduceIte, reduceCtorEq, Nat.reduceLeDiff, hRl, hL])
    refine W_loop (σ := Nat) (fun i => [(0, .sl 1 (recD R)), (1, .int .u8 d.toNat), (4, .str []), (5, .int .i64 0), (6, .bool (decide (1024 < R.length) || (R.take i).any (fun r => decide (32 < r.length)))), (20, .sl 1 (recD R)), (21, .int .i64 R.length), (22, .int .i64 i)]) (fun _ => []) (fun i => i ≤ R.length ∧ (R.take i).any (fun r => r.isEmpty) = false) (fun i => R.length - i) 0 ⟨Nat.zero_le _, by simp⟩ ?_ rfl ?_
    · simp [subF, lk]
    · rintro i ⟨hi, hany⟩
      try simp only at hi hany ⊢
      by_cases hlt : i < R.length
      · have d1 : decide ((i : Int) < (R.length : Int)) = true := decide_eq_true (by omega)
        have hg := recD_getD R i hlt
        have hsl := strL_len (R.getD i [])
        obtain ⟨hrl, _⟩ := hr _ (hmem i hlt)
        have hts := any_take_snoc (fun r : List Bs => r.isEmpty) R [] hlt
        have ht2 := any_take_snoc (fun r : List Bs => decide (32 < r.length)) R [] hlt
        have hat := any_take (fun r : List Bs => r.isEmpty) R [] hlt
        obtain ⟨r, hrr⟩ : ∃ r, R.getD i [] = r := ⟨_, rfl⟩
        rw [hrr] at hg hsl hrl hts ht2 hat
        repeat (first | (refine W_seq ?_) | (refine W_reg ?_) | (refine W_regd ?_) | (refine W_regs ?_) | (refine W_block ?_) | (refine And.intro (by omega) ?_) | simp (maxSteps := 1000000) (disch := omega) only [cA, cB, lk, lkH, Dst.onT, Dst.onX, Dst.slot, setF, setH, mapF, mapH, initF, binE, unE, cnt, boundE, newsE, freshE, freshT, opE, rmH, blkQ, frz_us, Nat.reduceEqDiff, Nat.reduceLT, Nat.reduceAdd, Nat.reduceMul, Nat.reduceMod, ↓reduceIte, reduceCtorEq, Nat.reduceLeDiff, hRl, d1])
        refine W_cond rfl (fun _ => W_skip ?_) (fun h => by cases h)
        by_cases h0 : r.length = 0
        · have d2 : decide ((r.length : Int) = 0) = true := decide_eq_true (by omega)
          have ha : R.any (fun r => r.isEmpty) = true := hat (by rw [List.isEmpty_iff_length_eq_zero]; exact h0)
          rw [if_pos ha] at hF
          subst hF
          repeat (first | (refine W_seq ?_) | (refine W_reg ?_) | (refine W_regd ?_) | (refine W_regs ?_) | (refine W_block ?_) | (refine And.intro (by omega) ?_) | simp (maxSteps := 1000000) (disch := omega) only [cA, cB, lk, lkH, Dst.onT, Dst.onX, Dst.slot, setF, setH, mapF, mapH, initF, binE, unE, cnt, boundE, newsE, freshE, freshT, opE, rmH, blkQ, frz_us, Nat.reduceEqDiff, Nat.reduceLT, Nat.reduceAdd, Nat.reduceMul, Nat.reduceMod, ↓reduceIte, reduceCtorEq, Nat.reduceLeDiff, hRl, hg, hsl, d2])
          refine W_cond rfl (fun _ => ?_) (fun h => by cases h)
          repeat (first | (refine W_seq ?_) | (refine W_reg ?_) | (refine W_regd ?_) | (refine W_regs ?_) | (refine W_block ?_) | (refine And.intro (by omega) ?_) | simp (maxSteps := 1000000) (disch := omega) only [cA, cB, lk, lkH, Dst.onT, Dst.onX, Dst.slot, setF, setH, mapF, mapH, initF, binE, unE, cnt, boundE, newsE, freshE, freshT, opE, rmH, blkQ, frz_us, Nat.reduceEqDiff, Nat.reduceLT, Nat.reduceAdd, Nat.reduceMul, Nat.reduceMod, ↓reduceIte, reduceCtorEq, Nat.reduceLeDiff])
          exact W_ret (RetP_2 (.imm rfl) (.imm rfl))
        · have d2 : decide ((r.length : Int) = 0) = false := decide_eq_false (by omega)
          have d3 : decide ((32 : Int) < (r.length : Int)) = decide (32 < r.length) := by rw [decide_eq_decide]; omega
          have he : r.isEmpty = false := by cases r with
            | nil => exact absurd rfl h0
            | cons a b => rfl
          rw [hany, he] at hts
          have ej : (i : Int) + 1 = ((i + 1 : Nat) : Int) := by omega
          obtain ⟨B, hB⟩ : ∃ B, (decide (1024 < R.length) || (R.take i).any (fun r => decide (32 < r.length))) = B := ⟨_, rfl⟩
          rw [hB]
          cases B
          · repeat (first | (refine W_seq ?_) | (refine W_reg ?_) | (refine W_regd ?_) | (refine W_regs ?_) | (refine W_block ?_) | (refine And.intro (by omega) ?_) | simp (maxSteps := 1000000) (disch := omega) only [cA, cB, lk, lkH, Dst.onT, Dst.onX, Dst.slot, setF, setH, mapF, mapH, initF, binE, unE, cnt, boundE, newsE, freshE, freshT, opE, rmH, blkQ, frz_us, Nat.reduceEqDiff, Nat.reduceLT, Nat.reduceAdd, Nat.reduceMul, Nat.reduceMod, ↓reduceIte, reduceCtorEq, Nat.reduceLeDiff, hRl, hg, hsl, d2])
            refine W_cond rfl (fun h => by cases h) (fun _ => W_skip ?_)
            repeat (first | (refine W_seq ?_) | (refine W_reg ?_) | (refine W_regd ?_) | (refine W_regs ?_) | (refine W_block ?_) | (refine And.intro (by omega) ?_) | simp (maxSteps := 1000000) (disch := omega) only [cA, cB, lk, lkH, Dst.onT, Dst.onX, Dst.slot, setF, setH, mapF, mapH, initF, binE, unE, cnt, boundE, newsE, freshE, freshT, opE, rmH, blkQ, frz_us, Nat.reduceEqDiff, Nat.reduceLT, Nat.reduceAdd, Nat.reduceMul, Nat.reduceMod, ↓reduceIte, reduceCtorEq, Nat.reduceLeDiff, hRl, hg, hsl, d3, ej])
            refine ⟨i + 1, ⟨by omega, hts⟩, by omega, ?_⟩
            rw [ht2, ← Bool.or_assoc, hB]
            simp [subF, lk]
          · repeat (first | (refine W_seq ?_) | (refine W_reg ?_) | (refine W_regd ?_) | (refine W_regs ?_) | (refine W_block ?_) | (refine And.intro (by omega) ?_) | simp (maxSteps := 1000000) (disch := omega) only [cA, cB, lk, lkH, Dst.onT, Dst.onX, Dst.slot, setF, setH, mapF, mapH, initF, binE, unE, cnt, boundE, newsE, freshE, freshT, opE, rmH, blkQ, frz_us, Nat.reduceEqDiff, Nat.reduceLT, Nat.reduceAdd, Nat.reduceMul, Nat.reduceMod, ↓reduceIte, reduceCtorEq, Nat.reduceLeDiff, hRl, hg, hsl, d2])
            refine W_cond rfl (fun h => by cases h) (fun _ => W_skip ?_)
            repeat (first | (refine W_seq ?_) | (refine W_reg ?_) | (refine W_regd ?_) | (refine W_regs ?_) | (refine W_block ?_) | (refine And.intro (by omega) ?_) | simp (maxSteps := 1000000) (disch := omega) only [cA, cB, lk, lkH, Dst.onT, Dst.onX, Dst.slot, setF, setH, mapF, mapH, initF, binE, unE, cnt, boundE, newsE, freshE, freshT, opE, rmH, blkQ, frz_us, Nat.reduceEqDiff, Nat.reduceLT, Nat.reduceAdd, Nat.reduceMul, Nat.reduceMod, ↓reduceIte, reduceCtorEq, Nat.reduceLeDiff, hRl, hg, hsl, d3, ej])
            refine ⟨i + 1, ⟨by omega, hts⟩, by omega, ?_⟩
            rw [ht2, ← Bool.or_assoc, hB]
            simp [subF, lk]
      · have d1 : decide ((i : Int) < (R.length : Int)) = false := decide_eq_false (by omega)
        rw [List.take_of_length_le (by omega)] at hany ⊢
        rw [if_neg (by rw [hany]; decide)] at hF
        repeat (first | (refine W_seq ?_) | (refine W_reg ?_) | (refine W_regd ?_) | (refine W_regs ?_) | (refine W_block ?_) | (refine And.intro (by omega) ?_) | simp (maxSteps := 1000000) (disch := omega) only [cA, cB, lk, lkH, Dst.onT, Dst.onX, Dst.slot, setF, setH, mapF, mapH, initF, binE, unE, cnt, boundE, newsE, freshE, freshT, opE, rmH, blkQ, frz_us, Nat.reduceEqDiff, Nat.reduceLT, Nat.reduceAdd, Nat.reduceMul, Nat.reduceMod, ↓reduceIte, reduceCtorEq, Nat.reduceLeDiff, hRl, d1])
        refine W_cond rfl (fun h => by cases h) (fun _ => ?_)
        refine W_exit ?_
        by_cases hlim : 1024 < R.length ∨ (R.any fun r => decide (32 < r.length)) = true
        · have hb : (decide (1024 < R.length) || R.any (fun r => decide (32 < r.length))) = true := by
            rcases hlim with h | h
            · rw [decide_eq_true h]; rfl
            · rw [h, Bool.or_true]
          rw [if_pos (by rcases hlim with h | h; exact .inl h; exact .inr (.inl h))] at hF
          subst hF
          repeat (first | (refine W_seq ?_) | (refine W_reg ?_) | (refine W_regd ?_) | (refine W_regs ?_) | (refine W_block ?_) | (refine And.intro (by omega) ?_) | simp (maxSteps := 1000000) (disch := omega) only [cA, cB, lk, lkH, Dst.onT, Dst.onX, Dst.slot, setF, setH, mapF, mapH, initF, binE, unE, cnt, boundE, newsE, freshE, freshT, opE, rmH, blkQ, frz_us, Nat.reduceEqDiff, Nat.reduceLT, Nat.reduceAdd, Nat.reduceMul, Nat.reduceMod, ↓reduceIte, reduceCtorEq, Nat.reduceLeDiff, hb])
          refine W_cond rfl (fun _ => ?_) (fun h => by cases h)
          repeat (first | (refine W_seq ?_) | (refine W_reg ?_) | (refine W_regd ?_) | (refine W_regs ?_) | (refine W_block ?_) | (refine And.intro (by omega) ?_) | simp (maxSteps := 1000000) (disch := omega) only [cA, cB, lk, lkH, Dst.onT, Dst.onX, Dst.slot, setF, setH, mapF, mapH, initF, binE, unE, cnt, boundE, newsE, freshE, freshT, opE, rmH, blkQ, frz_us, Nat.reduceEqDiff, Nat.reduceLT, Nat.reduceAdd, Nat.reduceMul, Nat.reduceMod, ↓reduceIte, reduceCtorEq, Nat.reduceLeDiff])
          exact W_ret (RetP_2 (.imm rfl) (.imm rfl))
        · rw [not_or] at hlim
          obtain ⟨hl1, hl2⟩ := hlim
          have hl2 : (R.any fun r => decide (32 < r.length)) = false := Bool.eq_false_iff.2 hl2
          have hb : (decide (1024 < R.length) || R.any (fun r => decide (32 < r.length))) = false := by
            rw [decide_eq_false hl1, hl2]; rfl
          have hFe : F = (if 65536 < (fmtS d R).length then DV.tup [.str [], .int .i64 (2 : Nat)] else .tup [.str (fmtS d R), .int .i64 (0 : Nat)]) := by
            rw [← hF, hl2]
            by_cases hs : 65536 < (fmtS d R).length
            · rw [if_pos (.inr (.inr hs)), if_pos hs]
            · rw [if_neg (by rintro (h | h | h) <;> first | omega | cases h), if_neg hs]
          rw [hFe]
          repeat (first | (refine W_seq ?_) | (refine W_reg ?_) | (refine W_regd ?_) | (refine W_regs ?_) | (refine W_block ?_) | (refine And.intro (by omega) ?_) | simp (maxSteps := 1000000) (disch := omega) only [cA, cB, lk, lkH, Dst.onT, Dst.onX, Dst.slot, setF, setH, mapF, mapH, initF, binE, unE, cnt, boundE, newsE, freshE, freshT, opE, rmH, blkQ, frz_us, Nat.reduceEqDiff, Nat.reduceLT, Nat.reduceAdd, Nat.reduceMul, Nat.reduceMod, ↓reduceIte, reduceCtorEq, Nat.reduceLeDiff, hb])
          refine W_cond rfl (fun h => by cases h) (fun _ => W_skip ?_)
          exact W_sub (by simp [FRr, subF, lk]) (fmt_build R d hd hR hr hS)
end Go.Proofs.YtgonkeglcehkeaaDoor
namespace Go.Proofs.YtgonkeglcehkeaaDoor
open Go Go.Dat Go.Proofs Go.RowKit Go.Shelf Nat32
def dl (w : UInt8) : UInt8 := [44, 59, 9, 124].getD (w.toNat % 4) 0
theorem lt4 (w : UInt8) : w.toNat % 4 = 0 ∨ w.toNat % 4 = 1 ∨ w.toNat % 4 = 2 ∨ w.toNat % 4 = 3 := by omega
theorem dl_del (w : UInt8) : delB (dl w) = true := by
  unfold dl
  rcases lt4 w with h | h | h | h <;> rw [h] <;> decide
theorem dl_get (w : UInt8) : ∃ k : Nat, ((w.toNat : Nat) : Int).tmod 4 = (k : Int) ∧ k < 4 ∧ ([.int .u8 44, .int .u8 59, .int .u8 9, .int .u8 124] : List DV).getD k .undef = .int .u8 (dl w).toNat := by
  refine ⟨w.toNat % 4, ?_, by omega, ?_⟩
  · rw [Int.tmod_eq_emod_of_nonneg (by omega)]; omega
  · unfold dl
    rcases lt4 w with h | h | h | h <;> rw [h] <;> rfl
theorem all_rf : ∀ d ∈ ([.int .u8 44, .int .u8 59, .int .u8 9, .int .u8 124] : List DV), d.rf = true := by simp [DV.rf]
end Go.Proofs.YtgonkeglcehkeaaDoor
namespace Go.Proofs.YtgonkeglcehkeaaDoor
open Go Go.Dat Go.Proofs Go.RowKit Go.Shelf Nat32
theorem stable_fmt {T : Bs} {d d2 : UInt8} {R : List (List Bs)} {k : Nat} (hT : T.length ≤ 1000) (h : parS d 1024 T = .ok R k) (hd2 : delB d2 = true) :
    (∀ r ∈ R, r ≠ [] ∧ r.length ≤ 32) ∧ R.length ≤ 1024 ∧ (∀ r ∈ R, r.length ≤ 65536 ∧ ∀ f ∈ r, f.length ≤ 65536) ∧ (fmtS d2 R).length ≤ 65536 ∧ fmtD R d2 = .tup [.str (fmtS d2 R), .int .i64 (0 : Nat)] := by
  obtain ⟨h1, h2⟩ := parS_bound _ _ _ _ _ h
  obtain ⟨h3, h4⟩ := parS_wgts _ _ _ _ _ h
  have h5 := fmtS_le d2 R
  have h6 : ∀ r ∈ R, r ≠ [] ∧ r.length ≤ 32 := fun r hr => ⟨h4 r hr, h2 r hr⟩
  have h7 : ∀ r ∈ R, r.length ≤ 65536 ∧ ∀ f ∈ r, f.length ≤ 65536 := fun r hr => ⟨by have := h2 r hr; omega, fun f hf => by
    have a := wgt_mem hf
    have b := wgts_mem hr
    omega⟩
  refine ⟨h6, h1, h7, by omega, ?_⟩
  unfold fmtD
  have e1 : R.any (fun r => r.isEmpty) = false := List.any_eq_false.2 fun r hr => by
    have := h4 r hr
    simpa using this
  have e2 : R.any (fun r => decide (32 < r.length)) = false := List.any_eq_false.2 fun r hr => by
    have := h2 r hr
    simp; omega
  rw [if_neg (by rw [hd2]; decide), if_neg (by rw [e1]; decide), if_neg (by rw [e2]; rintro (h | h | h) <;> first | omega | cases h)]
set_option maxHeartbeats 8000000 in
set_option maxRecDepth 10000 in
theorem ldIsStable_calls (T : Bs) (a b : UInt8) : PCalls Tryd.prog 6 [.str T, .int .u8 a.toNat, .int .u8 b.toNat] (.bool true) := by
  have aw := awake_calls
  refine PCalls_of isldIsStable (by simp [fnldIsStable]) ?_
  unfold codeldIsStable
  by_cases h1 : 1000 < T.length
  · have d1 : decide ((1000 : Int) < (T.length : Int)) = true := decide_eq_true (by omega)
    repeat (first | (refine W_seq ?_) | (refine W_reg ?_) | (refine W_regd ?_) | (refine W_regs ?_) | (refine W_block ?_) | (refine And.intro (by omega) ?_) | simp (maxSteps := 1000000) (disch := omega) only [cA, cB, lk, lkH, Dst.onT, Dst.onX, Dst.slot, setF, setH, mapF, mapH, initF, binE, unE, cnt, boundE, newsE, freshE, freshT, opE, rmH, blkQ, frz_us, Nat.reduceEqDiff, Nat.reduceLT, Nat.reduceAdd, Nat.reduceMul, Nat.reduceMod, ↓reduceIte, reduceCtorEq, Nat.reduceLeDiff, d1])
    refine W_cond rfl (fun _ => ?_) (fun h => by cases h)
    repeat (first | (refine W_seq ?_) | (refine W_reg ?_) | (refine W_regd ?_) | (refine W_regs ?_) | (refine W_block ?_) | (refine And.intro (by omega) ?_) | simp (maxSteps := 1000000) (disch := omega) only [cA, cB, lk, lkH, Dst.onT, Dst.onX, Dst.slot, setF, setH, mapF, mapH, initF, binE, unE, cnt, boundE, newsE, freshE, freshT, opE, rmH, blkQ, frz_us, Nat.reduceEqDiff, Nat.reduceLT, Nat.reduceAdd, Nat.reduceMul, Nat.reduceMod, ↓reduceIte, reduceCtorEq, Nat.reduceLeDiff] | (refine callC_pure (aw) rfl ?_) | exact W_ret (RetP_1 (.imm rfl)) | exact W_ret (RetP_c rfl rfl rfl (.imm rfl)))
  · have d1 : decide ((1000 : Int) < (T.length : Int)) = false := decide_eq_false (by omega)
    repeat (first | (refine W_seq ?_) | (refine W_reg ?_) | (refine W_regd ?_) | (refine W_regs ?_) | (refine W_block ?_) | (refine And.intro (by omega) ?_) | simp (maxSteps := 1000000) (disch := omega) only [cA, cB, lk, lkH, Dst.onT, Dst.onX, Dst.slot, setF, setH, mapF, mapH, initF, binE, unE, cnt, boundE, newsE, freshE, freshT, opE, rmH, blkQ, frz_us, Nat.reduceEqDiff, Nat.reduceLT, Nat.reduceAdd, Nat.reduceMul, Nat.reduceMod, ↓reduceIte, reduceCtorEq, Nat.reduceLeDiff, d1])
    refine W_cond rfl (fun h => by cases h) (fun _ => W_skip ?_)
    obtain ⟨k, hk, hk4, hget⟩ := dl_get a
    obtain ⟨k2, hk2, hk24, hget2⟩ := dl_get b
    repeat (first | (refine W_seq ?_) | (refine W_reg ?_) | (refine W_regd ?_) | (refine W_regs ?_) | (refine W_block ?_) | (refine And.intro (by omega) ?_) | simp (maxSteps := 1000000) (disch := omega) only [cA, cB, lk, lkH, Dst.onT, Dst.onX, Dst.slot, setF, setH, mapF, mapH, initF, binE, unE, cnt, boundE, newsE, freshE, freshT, opE, rmH, blkQ, frz_us, Nat.reduceEqDiff, Nat.reduceLT, Nat.reduceAdd, Nat.reduceMul, Nat.reduceMod, ↓reduceIte, reduceCtorEq, Nat.reduceLeDiff, cS])
    refine And.intro all_rf ?_
    repeat (first | (refine W_seq ?_) | (refine W_reg ?_) | (refine W_regd ?_) | (refine W_regs ?_) | (refine W_block ?_) | (refine And.intro (by omega) ?_) | simp (maxSteps := 1000000) (disch := omega) only [cA, cB, lk, lkH, Dst.onT, Dst.onX, Dst.slot, setF, setH, mapF, mapH, initF, binE, unE, cnt, boundE, newsE, freshE, freshT, opE, rmH, blkQ, frz_us, Nat.reduceEqDiff, Nat.reduceLT, Nat.reduceAdd, Nat.reduceMul, Nat.reduceMod, ↓reduceIte, reduceCtorEq, Nat.reduceLeDiff, cS])
    simp only [hk, Int.toNat_natCast, Nat.zero_add, Nat.mul_one, hget]
    have c1 := parse_calls T (dl a)
    have c2 := fparse_calls T (dl a)
    have n0 : ((0 : Nat) : Int) = 0 := rfl
    rcases dpD_cases T (dl a) with ⟨n, e, hd, he0, _⟩ | ⟨R, q, hp, hdel, hT6, hd, hR1, hR2⟩
    · rw [hd] at c1 c2
      have e2 := dec_self e
      have de : decide (¬ (e : Int) = 0) = true := decide_eq_true (by omega)
      repeat (first | (refine W_seq ?_) | (refine W_reg ?_) | (refine W_regd ?_) | (refine W_regs ?_) | (refine W_block ?_) | (refine And.intro (by omega) ?_) | simp (maxSteps := 1000000) (disch := omega) only [cA, cB, lk, lkH, Dst.onT, Dst.onX, Dst.slot, setF, setH, mapF, mapH, initF, binE, unE, cnt, boundE, newsE, freshE, freshT, opE, rmH, blkQ, frz_us, Nat.reduceEqDiff, Nat.reduceLT, Nat.reduceAdd, Nat.reduceMul, Nat.reduceMod, ↓reduceIte, reduceCtorEq, Nat.reduceLeDiff, de, decide_true, hk, Int.toNat_natCast, hget] | (refine callC_pure (c1) rfl ?_) | (refine callC_pure (c2) rfl ?_) | (refine callC_pure (aw) rfl ?_) | exact W_ret (RetP_1 (.imm rfl)) | exact W_ret (RetP_c rfl rfl rfl (.imm rfl)))
      refine W_cond rfl (fun _ => ?_) (fun h => by cases h)
      repeat (first | (refine W_seq ?_) | (refine W_reg ?_) | (refine W_regd ?_) | (refine W_regs ?_) | (refine W_block ?_) | (refine And.intro (by omega) ?_) | simp (maxSteps := 1000000) (disch := omega) only [cA, cB, lk, lkH, Dst.onT, Dst.onX, Dst.slot, setF, setH, mapF, mapH, initF, binE, unE, cnt, boundE, newsE, freshE, freshT, opE, rmH, blkQ, frz_us, Nat.reduceEqDiff, Nat.reduceLT, Nat.reduceAdd, Nat.reduceMul, Nat.reduceMod, ↓reduceIte, reduceCtorEq, Nat.reduceLeDiff, de, decide_true, hk, Int.toNat_natCast, hget] | (refine callC_pure (c1) rfl ?_) | (refine callC_pure (c2) rfl ?_) | (refine callC_pure (aw) rfl ?_) | exact W_ret (RetP_1 (.imm rfl)) | exact W_ret (RetP_c rfl rfl rfl (.imm rfl)))
    · rw [hd, n0] at c1
      have hdb := dl_del b
      obtain ⟨s1, s2, s3, s4, s5⟩ := stable_fmt (by omega) hp hdb
      have c3 := dformat_calls R (dl b) (by omega) s3 (by omega)
      have hpb := parS_back hdb s1 s2
      have cp := parse_calls (fmtS (dl b) R) (dl b)
      unfold dpD at cp
      rw [if_neg (by rw [hdb]; decide), if_neg (by omega), hpb] at cp
      simp only at cp
      have cs := same_calls R (by omega) (fun x hx => by have := (s1 x hx).2; omega)
      obtain ⟨S, hS⟩ : ∃ S, fmtS (dl b) R = S := ⟨_, rfl⟩
      rw [s5] at c3
      rw [hS, n0] at c3 cp
      repeat (first | (refine W_seq ?_) | (refine W_reg ?_) | (refine W_regd ?_) | (refine W_regs ?_) | (refine W_block ?_) | (refine And.intro (by omega) ?_) | simp (maxSteps := 1000000) (disch := omega) only [cA, cB, lk, lkH, Dst.onT, Dst.onX, Dst.slot, setF, setH, mapF, mapH, initF, binE, unE, cnt, boundE, newsE, freshE, freshT, opE, rmH, blkQ, frz_us, Nat.reduceEqDiff, Nat.reduceLT, Nat.reduceAdd, Nat.reduceMul, Nat.reduceMod, ↓reduceIte, reduceCtorEq, Nat.reduceLeDiff, decide_true, not_true_eq_false, decide_false, hk2, Int.toNat_natCast, hget2] | (refine callC_pure (c1) rfl ?_) | (refine callC_pure (c3) rfl ?_) | (refine callC_pure (cp) rfl ?_) | (refine callC_pure (aw) rfl ?_) | (refine callC_pure (cs) rfl ?_) | exact W_ret (RetP_1 (.imm rfl)) | exact W_ret (RetP_c rfl rfl rfl (.imm rfl)))
      refine W_cond rfl (fun h => by cases h) (fun _ => W_skip ?_)
      repeat (first | (refine W_seq ?_) | (refine W_reg ?_) | (refine W_regd ?_) | (refine W_regs ?_) | (refine W_block ?_) | (refine And.intro (by omega) ?_) | simp (maxSteps := 1000000) (disch := omega) only [cA, cB, lk, lkH, Dst.onT, Dst.onX, Dst.slot, setF, setH, mapF, mapH, initF, binE, unE, cnt, boundE, newsE, freshE, freshT, opE, rmH, blkQ, frz_us, Nat.reduceEqDiff, Nat.reduceLT, Nat.reduceAdd, Nat.reduceMul, Nat.reduceMod, ↓reduceIte, reduceCtorEq, Nat.reduceLeDiff, decide_true, not_true_eq_false, decide_false, hk2, Int.toNat_natCast, hget2] | (refine callC_pure (c1) rfl ?_) | (refine callC_pure (c3) rfl ?_) | (refine callC_pure (cp) rfl ?_) | (refine callC_pure (aw) rfl ?_) | (refine callC_pure (cs) rfl ?_) | exact W_ret (RetP_1 (.imm rfl)) | exact W_ret (RetP_c rfl rfl rfl (.imm rfl)))
end Go.Proofs.YtgonkeglcehkeaaDoor
namespace Go.Proofs.YtgonkeglcehkeaaDoor
open Go Go.Dat Go.Proofs Go.RowKit Go.Shelf Nat32
def rep (n k : Nat) (f : Bs) : List (List Bs) := List.replicate n (List.replicate k f)
end Go.Proofs.YtgonkeglcehkeaaDoor
namespace Go.Proofs.YtgonkeglcehkeaaDoor
open Go Go.Dat Go.Proofs Go.RowKit
theorem law_of {f : Nat} {ds : List DV} {vs : Array Value} {w : World} (hc : PCalls Tryd.prog f ds (.bool true)) (hT : Tab Tryd.prog w) (hs : vs.size = ds.length) (hv : ∀ (k : Nat) d v, ds[k]? = some d → vs[k]? = some v → VI w (fun _ => False) d v) :
    Calls Tryd.prog f vs w fun e w' => e = .returned (.bool true) ∧ Below w.heap.size w w' := by
  refine (hc (fun _ => False) w vs hT (fun b h => h.elim) hs hv).mono ?_
  rintro e w' ⟨v, rfl, hvi, hx⟩
  refine ⟨?_, hx.os, hx.tape, hx.output, hx.size, fun k hk => hx.block k hk id⟩
  cases hvi; rfl
theorem tab_shaped {w : World} (h : w.ShapedOpen Tryd.prog) : Tab Tryd.prog w := by
  refine ⟨fun g hg => ?_, fun g hg => ?_⟩
  · rw [show Tryd.prog.globalNamed tabName = none by kernel_rfl] at hg
    cases hg
  · rw [show Tryd.prog.globalNamed maxName = some 0 by kernel_rfl] at hg
    cases hg
    obtain ⟨m, hm⟩ := Tryd.laysM138.s1_3 w h
    exact ⟨World.block_lt_of_cell? w _ hm, m, hm⟩
theorem vi_u8 (w : World) (A : Nat → Prop) {a : Int} (h : (Lit.int .u8 a).wf = true) : VI w A (.int .u8 (UInt8.ofNat a.toNat).toNat) (.int .u8 a) := by
  have h2 := bounds_u8 h
  have : ((UInt8.ofNat a.toNat).toNat : Int) = a := by
    rw [UInt8.toNat_ofNat']
    omega
  exact .int' this
end Go.Proofs.YtgonkeglcehkeaaDoor
namespace Go.Proofs.YtgonkeglcehkeaaDoor
open Go Go.Dat Go.Proofs Go.RowKit
theorem handed_and_shaped {H : Type} {enc : TypeId × Value → H} {a : Assume} {C : Checked} {os : Os} {f : FuncId} {fn : Func} {s : ChangeSpec} {conds : List PathCond} {apart fresh handsOn again : Bool} {X : World → Array Value → Prop}
    (hX : ∀ (w w' : World) (args : Array Value), w.heap = w'.heap → X w args → X w' args)
    (own : ownKnob C.prog.godebug = none) (started : os.Started) (noInit : C.prog.inits.idxOf? f = none) (hfn : C.prog.funcs[f]? = some fn)
    (witness : ∃ (w : World) (tape : Tape) (i : Input), w.os = os ∧ (w.forCall tape i).Shaped C.prog ∧ i.vars = [] ∧ Input.okWide C.prog (w.forCall tape i) .any w.heap.size f i ∧
      ((s.pre enc C.prog fn conds apart (w.forCall tape i).memory i.args ∧ X (w.forCall tape i).memory i.args) ∧ sizedMet enc C.prog fn (OpenSpec.ofChange s) apart (w.forCall tape i).memory i.args) ∧ a.holds C.prog (lone (Frame.enter C.prog f i.args .normal) [] (w.forCall tape i)))
    (contract : ∀ (W : World) (base : Nat) (args : Array Value) (ds gs : List (DataW H)) (before : List MemPlace),
      (∀ (j : Nat) t v, fn.params[j]? = some t → args[j]? = some v → Value.okWide C.prog W .any base t v) →
      DataW.Whole enc C.prog fn.params.toList s.vars apart W args.toList ds gs before → X W args → W.ShapedOpen C.prog →
      Calls C.prog f args W fun e W' => ∃ v, e = .returned v ∧ s.post enc C.prog fn apart fresh handsOn again W args v W') :
    ReturnsInHanded a C os f .any (fun w args => (s.pre enc C.prog fn conds apart w args ∧ X w args) ∧ sizedMet enc C.prog fn (OpenSpec.ofChange s) apart w args) (s.post enc C.prog fn apart fresh handsOn again) := by
  refine returnsInHanded_of_calls own started noInit witness ?_
  intro w tape i _ hsh _ hok hpre _
  obtain ⟨_, _, _, fn', hfn', _, _, _, _, hval⟩ := hok
  obtain rfl : fn' = fn := Option.some.inj (hfn'.symm.trans hfn)
  obtain ⟨⟨⟨ds, gs, before, hw, _⟩, hx⟩, _⟩ := hpre
  refine (contract (w.forCall tape i) w.heap.size i.args ds gs before hval (DataW.Whole.of_heap (w' := w.forCall tape i) (by rfl) hw) (hX _ _ _ (by rfl) hx) hsh).mono ?_
  rintro e W' ⟨v, rfl, hp⟩
  exact ChangeSpec.post_blind hp
end Go.Proofs.YtgonkeglcehkeaaDoor
