/- Lemmas of the walk; no conditions beyond those that each states. -/
import Derived.WalkKit
import Derived.Below
import Derived.Lib.SliceRun
import Derived.Lib.Walk
import Derived.OpenShut
import Derived.Lib.SmallJoins
import Derived.Test.YtlcagndeidjobaaGreatDoorD2
import Derived.Test.YtlcagndeidjobaaGreatDoorC1
import Derived.Test.YtlcagndeidjobaaGreatDoorN1
set_option linter.unusedSimpArgs false
set_option linter.unusedVariables false
set_option linter.unnecessarySimpa false
set_option maxHeartbeats 4000000
namespace Go.Proofs.YtlcagndeidjobaaGreatDoor
open Go Go.Dat Go.Proofs Nat32
theorem nValid_calls (a : List Nat) (ha : a.length ≤ 1000000) : PCalls Tryz.prog 219 [.sl 1 (us a)] (.bool (vld a)) := by
 refine PCalls_of isnValid (by simp [fnnValid]) ?_
 unfold codenValid
 refine W_seq (W_reg ?_)
 refine zE cI ?_
 refine W_seq (W_reg ?_)
 refine zE (zA @us_length cI) ?_
 refine regG_split (fun hb => ?_) (fun hb => ?_)
 ·have hb' := of_decide_eq_true hb
  refine zE (zA hb cI) ?_
  refine W_ret (RetP_1 ?_)
  refine zE cI ?_
  have : vld a = true := decide_eq_true (.inl (by omega))
  rw [this]; exact .imm rfl
 ·have hl := of_decide_eq_false hb
  have e : ((a.length : Int) - 1).toNat = a.length - 1 := by omega
  refine zE (zA hb (zA @us_length (zA e (zA @us_getD cI)))) ?_
  refine ⟨by omega, by omega, W_ret (RetP_1 ?_)⟩
  refine zE cI ?_
  have : vld a = decide (¬ ((a.getD (a.length - 1) 0 : Nat) : Int) = 0) := by
   unfold vld; rw [decide_eq_decide]; omega
  rw [this]; exact .imm rfl
theorem rValid_calls (a : List Nat) (ha : a.length ≤ 1000000) : PCalls Tryz.prog 174 [.sl 1 (us a)] (.bool (vld a)) := by
 refine PCalls_of isrValid (by simp [fnrValid]) ?_
 unfold coderValid
 refine W_seq (W_reg ?_)
 refine zE cI ?_
 refine W_seq (W_reg ?_)
 refine zE (zA @us_length cI) ?_
 refine regG_split (fun hb => ?_) (fun hb => ?_)
 ·have hb' := of_decide_eq_true hb
  refine zE (zA hb cI) ?_
  refine W_ret (RetP_1 ?_)
  refine zE cI ?_
  have : vld a = true := decide_eq_true (.inl (by omega))
  rw [this]; exact .imm rfl
 ·have hl := of_decide_eq_false hb
  have e : ((a.length : Int) - 1).toNat = a.length - 1 := by omega
  refine zE (zA hb (zA @us_length (zA e (zA @us_getD cI)))) ?_
  refine ⟨by omega, by omega, W_ret (RetP_1 ?_)⟩
  refine zE cI ?_
  have : vld a = decide (¬ ((a.getD (a.length - 1) 0 : Nat) : Int) = 0) := by
   unfold vld; rw [decide_eq_decide]; omega
  rw [this]; exact .imm rfl
theorem nValue_calls (a : List Nat) (ha : a.length ≤ 1000000) (hl : lim a) : PCalls Tryz.prog 168 [.sl 1 (us a)] (.sl 1 (us (limbs (vn a)))) := by
 rw [← val_limbs hl]
 refine PCalls_of isnValue (by simp [fnnValue]) ?_
 unfold codenValue
 refine W_seq (W_reg ?_)
 refine zE cI ?_
 refine W_seq (W_seq (W_reg ?_))
 refine zE cI ?_
 refine cP (nValid_calls a ha) ?_
 refine zE cI ?_
 refine W_cond rfl (fun hv => ?_) (fun hv => ?_)
 ·refine W_seq (W_reg ?_)
  refine zE cI ?_
  refine W_ret (RetP_1 ?_)
  refine zE cI ?_
  rw [val, hv]; exact .imm rfl
 ·refine W_skip ?_
  refine zE cI ?_
  refine W_seq (W_reg ?_)
  refine zE cI ?_
  refine W_ret (RetP_1 ?_)
  refine zE cI ?_
  rw [val, hv]; exact .nils 1
theorem nTrim_calls (a : List Nat) (ha : a.length ≤ 1000000) (hl : lim a) : PCalls Tryz.prog 169 [.sl 1 (us a)] (.sl 1 (us (limbs (nv a)))) := by
 rw [← trimL_limbs hl]
 refine PCalls_of isnTrim (by simp [fnnTrim]) ?_
 unfold codenTrim
 refine W_seq (W_reg ?_)
 refine zE cI ?_
 refine W_seq (W_reg ?_)
 refine zE (zA @us_length cI) ?_
 have tail : ∀ n, n = trimN a a.length → W fnnTrim ((DC.reg
     [{ dst := Dst.t 18, op := DOp.mv (Opd.x 0), guard := none },
      { dst := Dst.t 19, op := DOp.mv (Opd.x 3), guard := none },
      { dst := Dst.t 20, op := DOp.slc 1 (Opd.t 18) none (some (Opd.t 19)), guard := none },
      { dst := Dst.x 2, op := DOp.mv (Opd.t 20), guard := none }]).seq DC.ret) (RetP resnTrim (.sl 1 (us (trimL a)))) [(0, .sl 1 (us a)), (2, .nils), (3, .int .i64 n)] [] := by
  intro n hn
  have hle := trimN_le a a.length
  refine W_seq (W_reg ?_)
  refine zE (zA @us_length (zA @us_take (zA @List.drop_zero.{0} cI))) ?_
  refine ⟨by omega, W_ret (RetP_1 ?_)⟩
  refine zE cI ?_
  rw [trimL, ← hn]
  exact .imm rfl
 refine W_seq (W_block (W_loop (σ := Nat) (fun n => [(0, .sl 1 (us a)), (2, .nils), (3, .int .i64 n)]) (fun _ => []) (fun n => n ≤ a.length ∧ trimN a n = trimN a a.length) (fun n => n) a.length ⟨Nat.le_refl _, rfl⟩ ?_ rfl ?_))
 ·simp [subF, lk]
 ·rintro n ⟨hn, ht⟩
  refine W_seq (W_seq (W_reg ?_))
  cases n with
  | zero =>
   have hp : (0 < ((0 : Nat) : Int)) = False := by simp
   refine zE (zA @us_length (zA hp (zA @decide_false cI))) ?_
   refine W_cond rfl (fun h => by cases h) (fun _ => W_exit ?_)
   refine zE cI ?_
   refine W_sub ?_ (tail 0 ht)
   simp [subF, lk]
  | succ m =>
   have e : (((m + 1 : Nat) : Int) - 1) = (m : Nat) := by omega
   have hp : (0 < ((m + 1 : Nat) : Int)) = True := by simp only [eq_iff_iff, iff_true]; omega
   refine zE (zA @us_length (zA hp (zA e (zA @decide_true (zA @us_getD cI))))) ?_
   refine ⟨by omega, by omega, ?_⟩
   refine W_cond rfl (fun hz => W_skip ?_) (fun hz => W_exit ?_)
   ·refine zE cI ?_
    refine W_block (W_reg ?_)
    refine zE (zA e cI) ?_
    refine ⟨m, ⟨by omega, ?_⟩, by omega, by simp [subF, lk]⟩
    have := of_decide_eq_true hz
    rw [← ht, trimN, if_pos (by omega)]
   ·refine zE cI ?_
    refine W_sub ?_ (tail (m + 1) ?_)
    ·simp [subF, lk]
    ·have := of_decide_eq_false hz
     rw [← ht, trimN, if_neg (by omega)]
theorem rTake_calls (a : List Nat) (ha : a.length ≤ 1000000) (hl : lim a) : PCalls Tryz.prog 96 [.sl 1 (us a)] (.sl 1 (us (limbs (vn a)))) := by
 rw [← val_limbs hl]
 refine PCalls_of isrTake (by simp [fnrTake]) ?_
 unfold coderTake
 refine W_seq (W_reg ?_)
 refine zE cI ?_
 refine W_seq (W_seq (W_reg ?_))
 refine zE cI ?_
 refine cP (rValid_calls a ha) ?_
 refine zE cI ?_
 refine W_cond rfl (fun hv => ?_) (fun hv => ?_)
 ·refine W_seq (W_reg ?_)
  refine zE cI ?_
  refine W_ret (RetP_1 ?_)
  refine zE cI ?_
  simp at hv
  rw [val, hv]; exact .nils 1
 ·refine W_skip ?_
  refine zE cI ?_
  refine W_seq (W_reg ?_)
  simp (maxSteps := 1000000) (disch := omega) only [cA, cB, cN, FnD.nb, lk, lkH, Dst.onT, Dst.onX, Dst.slot, setF, setH, mapF, mapH, initF, binE, unE, cnt, boundE, newsE, freshE, freshT, opE, rmH, blkQ, frz_us, Nat.reduceEqDiff, Nat.reduceLT, Nat.reduceAdd, Nat.reduceMul, Nat.reduceMod, ↓reduceIte, reduceCtorEq, Nat.reduceLeDiff, newsE, us_length, us_one, us_purge, nbrTake, cI]
  refine ⟨by omega, W_ret (RetP_1 ?_)⟩
  refine zE cI ?_
  simp at hv
  rw [val, hv, if_pos rfl]
  exact .osl1 rfl (by simp [us_length]) (by simp [← us_length]) (us_rf a)
theorem rTrim_calls (a : List Nat) (ha : a.length ≤ 1000000) (hl : lim a) : PCalls Tryz.prog 191 [.sl 1 (us a)] (.sl 1 (us (limbs (nv a)))) := by
 rw [← trimL_limbs hl]
 refine PCalls_of isrTrim (by simp [fnrTrim]) ?_
 unfold coderTrim
 refine W_seq (W_reg ?_)
 refine zE cI ?_
 have tail : ∀ n, n = trimN a a.length → W fnrTrim ((DC.reg
     [{ dst := Dst.t 20, op := DOp.mv (Opd.x 0), guard := none },
      { dst := Dst.x 2, op := DOp.mv (Opd.t 20), guard := none }]).seq DC.ret) (RetP resrTrim (.sl 1 (us (trimL a)))) [(0, .sl 1 (us (a.take n))), (2, .nils)] [] := by
  intro n hn
  refine W_seq (W_reg ?_)
  refine zE cI ?_
  refine W_ret (RetP_1 ?_)
  refine zE cI ?_
  rw [trimL, ← hn]
  exact .imm rfl
 refine W_seq (W_block (W_loop (σ := Nat) (fun n => [(0, .sl 1 (us (a.take n))), (2, .nils)]) (fun _ => []) (fun n => n ≤ a.length ∧ trimN a n = trimN a a.length) (fun n => n) a.length ⟨Nat.le_refl _, rfl⟩ ?_ rfl ?_))
 ·simp [subF, lk]
 ·rintro n ⟨hn, ht⟩
  have hlen : (a.take n).length = n := by simp; omega
  refine W_seq (W_seq (W_reg ?_))
  cases n with
  | zero =>
   have hp : (0 < ((0 : Nat) : Int)) = False := by simp
   refine zE (zA @us_length (zA hlen (zA hp (zA @decide_false cI)))) ?_
   refine W_cond rfl (fun h => by cases h) (fun _ => W_exit ?_)
   refine zE cI ?_
   refine W_sub ?_ (tail 0 ht)
   simp [subF, lk]
  | succ m =>
   have e : (((m + 1 : Nat) : Int) - 1) = (m : Nat) := by omega
   have hp : (0 < ((m + 1 : Nat) : Int)) = True := by simp only [eq_iff_iff, iff_true]; omega
   have hg : (a.take (m + 1)).getD m 0 = a.getD m 0 := by simp [List.getD_eq_getElem?_getD, List.getElem?_take]
   have ht' : (us (a.take (m + 1))).take m = us (a.take m) := by rw [us_take, List.take_take, Nat.min_eq_left (by omega)]
   refine zE (zA @us_length (zA hlen (zA hp (zA e (zA @decide_true (zA @us_getD (zA hg cI))))))) ?_
   refine ⟨by omega, by omega, ?_⟩
   refine W_cond rfl (fun hz => W_skip ?_) (fun hz => W_exit ?_)
   ·refine zE cI ?_
    refine W_block (W_reg ?_)
    refine zE (zA @us_length (zA hlen (zA e (zA ht' (zA @List.drop_zero.{0} (zA @Nat.zero_mul cI)))))) ?_
    refine ⟨by omega, m, ⟨by omega, ?_⟩, by omega, by simp [subF, lk]⟩
    have := of_decide_eq_true hz
    rw [← ht, trimN, if_pos (by omega)]
   ·refine zE cI ?_
    refine W_sub ?_ (tail (m + 1) ?_)
    ·simp [subF, lk]
    ·have := of_decide_eq_false hz
     rw [← ht, trimN, if_neg (by omega)]
theorem nv2 (v : Nat) : nv [v % 4294967296, v / 4294967296] = v := by simp only [nv]; omega
theorem lim2 {v : Nat} (hv : v < 18446744073709551616) : lim [v % 4294967296, v / 4294967296] := by
 rw [lim_cons, lim_cons]; exact ⟨by omega, by omega, lim_nil⟩
theorem nFromUint_calls (v : Nat) (hv : v < 18446744073709551616) : PCalls Tryz.prog 208 [.int .u64 v] (.sl 1 (us (limbs v))) := by
 have hc := nTrim_calls [v % 4294967296, v / 4294967296] (by simp) (lim2 hv)
 rw [nv2] at hc
 refine PCalls_of isnFromUint (by simp [fnnFromUint]) ?_
 unfold codenFromUint
 refine W_seq (W_reg ?_)
 refine zE cI ?_
 have hd : v / 4294967296 % 4294967296 = v / 4294967296 := Nat.mod_eq_of_lt (by omega)
 refine W_seq (W_reg ?_)
 refine zE (zA @wu32' (zA @shr32u64 (zA @mod32 (zA hd cI)))) ?_
 rw [us2]
 refine ⟨by omega, List.all_eq_true.1 (us_rf _), ?_⟩
 refine cP hc ?_
 refine zE cI ?_
 refine W_ret (RetP_1 ?_)
 refine zE cI ?_
 exact .imm rfl
theorem rFromUint_calls (v : Nat) (hv : v < 18446744073709551616) : PCalls Tryz.prog 176 [.int .u64 v] (.sl 1 (us (limbs v))) := by
 have hc := rTrim_calls [v % 4294967296, v / 4294967296] (by simp) (lim2 hv)
 rw [nv2] at hc
 refine PCalls_of isrFromUint (by simp [fnrFromUint]) ?_
 unfold coderFromUint
 refine W_seq (W_reg ?_)
 refine zE cI ?_
 have hd : v / 4294967296 % 4294967296 = v / 4294967296 := Nat.mod_eq_of_lt (by omega)
 refine W_seq (W_reg ?_)
 refine zE (zA @wu32' (zA @shr32u64 (zA @mod32 (zA hd cI)))) ?_
 rw [us2]
 refine ⟨by omega, List.all_eq_true.1 (us_rf _), ?_⟩
 refine cP hc ?_
 refine zE cI ?_
 refine W_ret (RetP_1 ?_)
 refine zE cI ?_
 exact .imm rfl
theorem rSame_calls (a b : List Nat) (ha : a.length ≤ 1000000) (_hb : b.length ≤ 1000000) : PCalls Tryz.prog 61 [.sl 1 (us a), .sl 1 (us b)] (.bool (decide (a = b))) := by
 refine PCalls_of isrSame (by simp [fnrSame]) ?_
 unfold coderSame
 refine W_seq (W_reg ?_)
 refine zE cI ?_
 refine W_seq (W_seq (W_reg ?_))
 refine zE (zA @us_length cI) ?_
 refine W_cond rfl (fun hv => ?_) (fun hv => W_skip ?_)
 ·have hne := of_decide_eq_true hv
  refine W_seq (W_reg ?_)
  refine zE cI ?_
  refine W_ret (RetP_1 ?_)
  refine zE cI ?_
  have : decide (a = b) = false := decide_eq_false (fun e => hne (by rw [e]))
  rw [this]; exact .imm rfl
 ·have hlen := of_decide_eq_false hv
  have hlen : a.length = b.length := by omega
  refine zE cI ?_
  refine W_seq (W_seq (W_reg ?_))
  refine zE cI ?_
  refine W_block (W_loop (σ := Nat) (fun n => [(0, .sl 1 (us a)), (1, .sl 1 (us b)), (4, .bool false), (5, .int .i64 n)]) (fun _ => []) (fun n => n ≤ a.length ∧ a.take n = b.take n) (fun n => a.length - n) 0 ⟨Nat.zero_le _, rfl⟩ ?_ rfl ?_)
  ·simp [subF, lk]
  ·rintro n ⟨hn, ht⟩
   refine W_seq (W_seq (W_reg ?_))
   refine zE (zA @us_length cI) ?_
   refine W_cond rfl (fun hc => W_skip ?_) (fun hc => W_exit ?_)
   ·have hlt := of_decide_eq_true hc
    have hlt : n < a.length := by omega
    refine zE cI ?_
    refine W_seq (W_block (W_seq (W_regd ?_)))
    refine zE (zA @us_length (zA @us_getD cI)) ?_
    repeat refine ⟨by omega, ?_⟩
    refine W_cond rfl (fun hz => ?_) (fun hz => W_skip ?_)
    ·have hne := of_decide_eq_true hz
     refine W_seq (W_reg ?_)
     refine zE cI ?_
     refine W_ret (RetP_1 ?_)
     refine zE cI ?_
     have : decide (a = b) = false := decide_eq_false (fun e => hne (by rw [e]))
     rw [this]; exact .imm rfl
    ·have he := of_decide_eq_false hz
     refine zE cI ?_
     refine W_reg ?_
     refine zE cI ?_
     exact ⟨n + 1, ⟨by omega, take_step hlt (by omega) ht (by omega)⟩, by omega, by simp [subF, lk]⟩
   ·have hge := of_decide_eq_false hc
    refine zE cI ?_
    refine W_seq (W_reg ?_)
    refine zE cI ?_
    refine W_ret (RetP_1 ?_)
    refine zE cI ?_
    have : decide (a = b) = true := decide_eq_true (by
     rw [List.take_of_length_le (by omega), List.take_of_length_le (by omega)] at ht; exact ht)
    rw [this]; exact .imm rfl
theorem rcmp_calls (x y : Nat) (ha : (limbs x).length ≤ 1000000) (hb : (limbs y).length ≤ 1000000) : PCalls Tryz.prog 192 [.sl 1 (us (limbs x)), .sl 1 (us (limbs y))] (.int .i64 (cmpN x y)) := by
 refine PCalls_of isrcmp (by simp [fnrcmp]) ?_
 unfold codercmp
 refine W_seq (W_reg ?_)
 refine zE cI ?_
 repeat refine ⟨by omega, ?_⟩
 refine W_seq (W_seq (W_reg ?_))
 refine zE (zA @us_length cI) ?_
 repeat refine ⟨by omega, ?_⟩
 refine W_cond rfl (fun hv => ?_) (fun hv => W_skip ?_)
 ·have hne := of_decide_eq_true hv
  refine W_seq (W_seq (W_reg ?_))
  refine zE (zA @us_length cI) ?_
  repeat refine ⟨by omega, ?_⟩
  rw [cmp_of_ne (by omega)]
  refine W_cond rfl (fun hc => ?_) (fun hc => W_skip ?_)
  ·have hlt := of_decide_eq_true hc
   rw [if_pos (by omega)]
   refine W_seq (W_reg ?_)
   refine zE cI ?_
   repeat refine ⟨by omega, ?_⟩
   refine W_ret (RetP_1 ?_)
   refine zE cI ?_
   repeat refine ⟨by omega, ?_⟩
   exact .imm rfl
  ·have hlt := of_decide_eq_false hc
   rw [if_neg (by omega)]
   refine zE cI ?_
   repeat refine ⟨by omega, ?_⟩
   refine W_seq (W_reg ?_)
   refine zE cI ?_
   repeat refine ⟨by omega, ?_⟩
   refine W_ret (RetP_1 ?_)
   refine zE cI ?_
   repeat refine ⟨by omega, ?_⟩
   exact .imm rfl
 ·have hlen := of_decide_eq_false hv
  have hlen : (limbs x).length = (limbs y).length := by omega
  refine zE cI ?_
  repeat refine ⟨by omega, ?_⟩
  refine W_seq (W_seq (W_reg ?_))
  refine zE (zA @us_length cI) ?_
  repeat refine ⟨by omega, ?_⟩
  have hla := lim_limbs x
  have hlb := lim_limbs y
  refine W_block (W_loop (σ := Nat) (fun n => [(0, .sl 1 (us (limbs x))), (1, .sl 1 (us (limbs y))), (4, .int .i64 0), (5, .int .i64 ((n : Int) - 1))]) (fun _ => []) (fun n => n ≤ (limbs x).length ∧ (limbs x).drop n = (limbs y).drop n) (fun n => n) (limbs x).length ⟨Nat.le_refl _, by rw [List.drop_of_length_le (Nat.le_refl _), List.drop_of_length_le (by omega)]⟩ ?_ rfl ?_)
  ·simp [subF, lk]
  ·rintro n ⟨hn, ht⟩
   refine W_seq (W_seq (W_reg ?_))
   refine zE (zA @us_length cI) ?_
   repeat refine ⟨by omega, ?_⟩
   refine W_cond rfl (fun hc => W_skip ?_) (fun hc => W_exit ?_)
   ·have hge := of_decide_eq_true hc
    obtain ⟨m, rfl⟩ : ∃ m, n = m + 1 := ⟨n - 1, by omega⟩
    have e : (((m + 1 : Nat) : Int) - 1) = (m : Nat) := by omega
    refine zE (zA e cI) ?_
    repeat refine ⟨by omega, ?_⟩
    refine W_seq (W_block (W_seq (W_seq (W_regd ?_))))
    refine zE (zA @us_length (zA @us_getD cI)) ?_
    repeat refine ⟨by omega, ?_⟩
    refine W_cond rfl (fun hz => ?_) (fun hz => W_skip ?_)
    ·have hlt := of_decide_eq_true hz
     have := nv_lt_of hla (by omega) (by omega) ht (by omega)
     rw [nv_limbs, nv_limbs] at this
     refine W_seq (W_reg ?_)
     refine zE cI ?_
     repeat refine ⟨by omega, ?_⟩
     refine W_ret (RetP_1 ?_)
     refine zE cI ?_
     repeat refine ⟨by omega, ?_⟩
     rw [cmpN, if_pos this]; exact .imm rfl
    ·have hge' := of_decide_eq_false hz
     refine zE cI ?_
     repeat refine ⟨by omega, ?_⟩
     refine W_seq (W_regd ?_)
     refine zE (zA @us_length (zA @us_getD cI)) ?_
     repeat refine ⟨by omega, ?_⟩
     refine W_cond rfl (fun hz => ?_) (fun hz => W_skip ?_)
     ·have hlt := of_decide_eq_true hz
      have := nv_lt_of hlb (by omega) (by omega) ht.symm (by omega)
      rw [nv_limbs, nv_limbs] at this
      refine W_seq (W_reg ?_)
      refine zE cI ?_
      repeat refine ⟨by omega, ?_⟩
      refine W_ret (RetP_1 ?_)
      refine zE cI ?_
      repeat refine ⟨by omega, ?_⟩
      rw [cmpN, if_neg (by omega), if_pos this]; exact .imm rfl
     ·have hge2 := of_decide_eq_false hz
      refine zE cI ?_
      repeat refine ⟨by omega, ?_⟩
      refine W_reg ?_
      refine zE cI ?_
      exact ⟨m, ⟨by omega, drop_step (by omega) (by omega) ht (by omega)⟩, by omega, by simp [subF, lk]⟩
   ·have hlt := of_decide_eq_false hc
    have h0 : n = 0 := by omega
    subst h0
    rw [List.drop_zero, List.drop_zero] at ht
    have := limbs_inj ht
    refine zE cI ?_
    repeat refine ⟨by omega, ?_⟩
    refine W_seq (W_reg ?_)
    refine zE cI ?_
    repeat refine ⟨by omega, ?_⟩
    refine W_ret (RetP_1 ?_)
    refine zE cI ?_
    repeat refine ⟨by omega, ?_⟩
    rw [cmpN, if_neg (by omega), if_neg (by omega)]; exact .imm rfl
theorem vn_len {a : List Nat} (hl : lim a) : (limbs (vn a)).length ≤ a.length := by
 rw [← val_limbs hl]; exact val_len a
theorem nCmp_calls (a b : List Nat) (ha : a.length ≤ 1000000) (hb : b.length ≤ 1000000) (la : lim a) (lb : lim b) : PCalls Tryz.prog 165 [.sl 1 (us a), .sl 1 (us b)] (.int .i64 (cmpN (vn a) (vn b))) := by
 have h1 := vn_len la
 have h2 := vn_len lb
 have c1 := nValue_calls a ha la
 have c2 := nValue_calls b hb lb
 refine PCalls_of isnCmp (by simp [fnnCmp]) ?_
 unfold codenCmp
 generalize vn a = x at h1 c1 ⊢
 generalize vn b = y at h2 c2 ⊢
 refine W_seq (W_reg ?_)
 refine zE cI ?_
 repeat refine ⟨by omega, ?_⟩
 refine W_seq (W_reg ?_)
 refine zE cI ?_
 repeat refine ⟨by omega, ?_⟩
 refine cP c1 ?_
 refine zE cI ?_
 repeat refine ⟨by omega, ?_⟩
 refine cP c2 ?_
 refine zE cI ?_
 repeat refine ⟨by omega, ?_⟩
 refine W_seq (W_seq (W_reg ?_))
 refine zE (zA @us_length cI) ?_
 repeat refine ⟨by omega, ?_⟩
 refine W_cond rfl (fun hv => ?_) (fun hv => W_skip ?_)
 ·have hne := of_decide_eq_true hv
  refine W_seq (W_seq (W_reg ?_))
  refine zE (zA @us_length cI) ?_
  repeat refine ⟨by omega, ?_⟩
  rw [cmp_of_ne (by omega)]
  refine W_cond rfl (fun hc => ?_) (fun hc => W_skip ?_)
  ·have hlt := of_decide_eq_true hc
   rw [if_pos (by omega)]
   refine W_seq (W_reg ?_)
   refine zE cI ?_
   repeat refine ⟨by omega, ?_⟩
   refine W_ret (RetP_1 ?_)
   refine zE cI ?_
   repeat refine ⟨by omega, ?_⟩
   exact .imm rfl
  ·have hlt := of_decide_eq_false hc
   rw [if_neg (by omega)]
   refine zE cI ?_
   repeat refine ⟨by omega, ?_⟩
   refine W_seq (W_reg ?_)
   refine zE cI ?_
   repeat refine ⟨by omega, ?_⟩
   refine W_ret (RetP_1 ?_)
   refine zE cI ?_
   repeat refine ⟨by omega, ?_⟩
   exact .imm rfl
 ·have hlen := of_decide_eq_false hv
  have hlen : (limbs x).length = (limbs y).length := by omega
  refine zE cI ?_
  repeat refine ⟨by omega, ?_⟩
  refine W_seq (W_seq (W_reg ?_))
  refine zE (zA @us_length cI) ?_
  repeat refine ⟨by omega, ?_⟩
  have hla := lim_limbs x
  have hlb := lim_limbs y
  refine W_block (W_loop (σ := Nat) (fun n => [(0, .sl 1 (us (limbs x))), (1, .sl 1 (us (limbs y))), (4, .int .i64 0), (5, .int .i64 ((n : Int) - 1))]) (fun _ => []) (fun n => n ≤ (limbs x).length ∧ (limbs x).drop n = (limbs y).drop n) (fun n => n) (limbs x).length ⟨Nat.le_refl _, by rw [List.drop_of_length_le (Nat.le_refl _), List.drop_of_length_le (by omega)]⟩ ?_ rfl ?_)
  ·simp [subF, lk]
  ·rintro n ⟨hn, ht⟩
   refine W_seq (W_seq (W_reg ?_))
   refine zE (zA @us_length cI) ?_
   repeat refine ⟨by omega, ?_⟩
   refine W_cond rfl (fun hc => W_skip ?_) (fun hc => W_exit ?_)
   ·have hge := of_decide_eq_true hc
    obtain ⟨m, rfl⟩ : ∃ m, n = m + 1 := ⟨n - 1, by omega⟩
    have e : (((m + 1 : Nat) : Int) - 1) = (m : Nat) := by omega
    refine zE (zA e cI) ?_
    repeat refine ⟨by omega, ?_⟩
    refine W_seq (W_block (W_block (W_seq (W_regd ?_))))
    refine zE (zA @us_length (zA @us_getD cI)) ?_
    repeat refine ⟨by omega, ?_⟩
    refine W_cond rfl (fun hz => ?_) (fun hz => ?_)
    ·have hlt := of_decide_eq_true hz
     have := nv_lt_of hla (by omega) (by omega) ht (by omega)
     rw [nv_limbs, nv_limbs] at this
     refine W_seq (W_reg ?_)
     refine zE cI ?_
     repeat refine ⟨by omega, ?_⟩
     refine W_ret (RetP_1 ?_)
     refine zE cI ?_
     repeat refine ⟨by omega, ?_⟩
     rw [cmpN, if_pos this]; exact .imm rfl
    ·have hge' := of_decide_eq_false hz
     refine W_seq (W_regd ?_)
     refine zE (zA @us_length (zA @us_getD cI)) ?_
     repeat refine ⟨by omega, ?_⟩
     refine W_cond rfl (fun hz => ?_) (fun hz => W_skip ?_)
     ·have hlt := of_decide_eq_true hz
      have := nv_lt_of hlb (by omega) (by omega) ht.symm (by omega)
      rw [nv_limbs, nv_limbs] at this
      refine W_seq (W_reg ?_)
      refine zE cI ?_
      repeat refine ⟨by omega, ?_⟩
      refine W_ret (RetP_1 ?_)
      refine zE cI ?_
      repeat refine ⟨by omega, ?_⟩
      rw [cmpN, if_neg (by omega), if_pos this]; exact .imm rfl
     ·have hge2 := of_decide_eq_false hz
      refine zE cI ?_
      refine W_reg ?_
      refine zE cI ?_
      exact ⟨m, ⟨by omega, drop_step (by omega) (by omega) ht (by omega)⟩, by omega, by simp [subF, lk]⟩
   ·have hlt := of_decide_eq_false hc
    have h0 : n = 0 := by omega
    subst h0
    rw [List.drop_zero, List.drop_zero] at ht
    have := limbs_inj ht
    refine zE cI ?_
    repeat refine ⟨by omega, ?_⟩
    refine W_seq (W_reg ?_)
    refine zE cI ?_
    repeat refine ⟨by omega, ?_⟩
    refine W_ret (RetP_1 ?_)
    refine zE cI ?_
    repeat refine ⟨by omega, ?_⟩
    rw [cmpN, if_neg (by omega), if_neg (by omega)]; exact .imm rfl
theorem limbs_le2 {x : Nat} (h : (limbs x).length ≤ 2) : x < 18446744073709551616 := by
 have := limbs_len.1 h; simpa using this
def uintR (x : Nat) : DV := if (limbs x).length > 2 then .tup [.int .u64 0, .bool false] else .tup [.int .u64 x, .bool true]
theorem nUint_calls (a : List Nat) (ha : a.length ≤ 1000000) (la : lim a) : PCalls Tryz.prog 222 [.sl 1 (us a)] (uintR (vn a)) := by
 have h1 := vn_len la
 have c1 := nValue_calls a ha la
 refine PCalls_of isnUint (by simp [fnnUint]) ?_
 unfold codenUint
 generalize vn a = x at h1 c1 ⊢
 refine W_seq (W_reg ?_)
 refine zE cI ?_
 repeat refine ⟨by omega, ?_⟩
 refine W_seq (W_reg ?_)
 refine zE cI ?_
 repeat refine ⟨by omega, ?_⟩
 refine cP c1 ?_
 refine zE cI ?_
 repeat refine ⟨by omega, ?_⟩
 refine W_seq (W_seq (W_reg ?_))
 refine zE (zA @us_length cI) ?_
 repeat refine ⟨by omega, ?_⟩
 refine W_cond rfl (fun hv => ?_) (fun hv => W_skip ?_)
 ·have hgt := of_decide_eq_true hv
  refine W_seq (W_reg ?_)
  refine zE cI ?_
  repeat refine ⟨by omega, ?_⟩
  rw [uintR, if_pos (by omega)]
  exact W_ret (RetP_2 (.imm rfl) (.imm rfl))
 ·have hle := of_decide_eq_false hv
  have hx := limbs_le2 (x := x) (by omega)
  rw [uintR, if_neg (by omega)]
  refine zE cI ?_
  repeat refine ⟨by omega, ?_⟩
  refine W_seq (W_seq (W_reg ?_))
  refine zE (zA @us_length cI) ?_
  repeat refine ⟨by omega, ?_⟩
  refine W_block (W_loop (σ := Nat) (fun n => [(0, .sl 1 (us (limbs x))), (2, .int .u64 (nv ((limbs x).take n))), (11, .sl 1 (us (limbs x))), (12, .int .i64 (limbs x).length), (13, .int .i64 n)]) (fun _ => []) (fun n => n ≤ (limbs x).length) (fun n => (limbs x).length - n) 0 (Nat.zero_le _) ?_ rfl ?_)
  ·simp [subF, lk, nv]
  ·rintro n hn
   refine W_seq (W_reg ?_)
   refine zE cI ?_
   repeat refine ⟨by omega, ?_⟩
   refine W_seq (W_cond rfl (fun hc => W_skip ?_) (fun hc => W_exit ?_))
   ·have hlt := of_decide_eq_true hc
    refine zE cI ?_
    repeat refine ⟨by omega, ?_⟩
    refine W_seq (W_block (W_seq (W_reg ?_)))
    refine zE (zA @us_length (zA @us_getD cI)) ?_
    repeat refine ⟨by omega, ?_⟩
    refine W_reg ?_
    refine zE (zA @us_length (zA @us_getD (zA @wu64' cI))) ?_
    repeat refine ⟨by omega, ?_⟩
    have hx0 := lim_getD (lim_limbs x) n
    have hts := nv_take_succ (a := limbs x) (n := n) (by omega)
    have key : bitE BinOp.or IntKind.u64 (nv (List.take n (limbs x)) : Int) (((limbs x).getD n 0 : Int) % 18446744073709551616 * 2 ^ min (32 * (n : Int)).toNat IntKind.u64.bits % 18446744073709551616) = ((nv ((limbs x).take (n + 1)) : Nat) : Int) := by
     generalize (limbs x).getD n 0 = y at hx0 hts
     rw [hts]
     have hn2 : n = 0 ∨ n = 1 := by omega
     rcases hn2 with rfl | rfl
     ·have e1 : (2 ^ min (32 * ((0 : Nat) : Int)).toNat IntKind.u64.bits : Int) = 1 := by decide
      rw [e1, show (y : Int) % 18446744073709551616 * 1 % 18446744073709551616 = (y : Int) by omega, or_nat64 _ _ (by simp [nv]) (by omega)]
      simp [nv]
     ·have e1 : (2 ^ min (32 * ((1 : Nat) : Int)).toNat IntKind.u64.bits : Int) = 4294967296 := by decide
      have ht1 : nv ((limbs x).take 1) < 4294967296 := by
       have := nv_lt (lim_take (lim_limbs x) 1)
       have h2 : (4294967296 : Nat) ^ ((limbs x).take 1).length ≤ 4294967296 ^ 1 := Nat.pow_le_pow_right (by decide) (by simp; omega)
       omega
      rw [e1, show (y : Int) % 18446744073709551616 * 4294967296 % 18446744073709551616 = ((4294967296 * y : Nat) : Int) by omega, or_nat64 _ _ (by omega) (by omega), Nat.or_comm, or_add ht1]
      omega
    rw [key]
    refine W_reg ?_
    refine zE cI ?_
    exact ⟨n + 1, by omega, by omega, by simp [subF, lk]⟩
   ·have hge := of_decide_eq_false hc
    rw [List.take_of_length_le (by omega), nv_limbs]
    refine zE cI ?_
    repeat refine ⟨by omega, ?_⟩
    refine W_seq (W_reg ?_)
    refine zE cI ?_
    repeat refine ⟨by omega, ?_⟩
    exact W_ret (RetP_2 (.imm rfl) (.imm rfl))
theorem Div32_calls (hi lo y : Nat) (h1 : hi < y) (h2 : lo < 4294967296) (h3 : y < 4294967296) :
  PCalls Tryz.prog 249 [.int .u32 hi, .int .u32 lo, .int .u32 y] (.tup [.int .u32 ((4294967296 * hi + lo) / y : Nat), .int .u32 ((4294967296 * hi + lo) % y : Nat)]) := by
 refine PCalls_of isDiv32 (by simp [fnDiv32]) ?_
 unfold codeDiv32
 have hq := div_lt h1 h2
 have hr : (4294967296 * hi + lo) % y < y := Nat.mod_lt _ (by omega)
 refine W_seq (W_reg ?_)
 refine zE cI ?_
 repeat refine ⟨by omega, ?_⟩
 refine W_seq (W_seq (W_reg ?_))
 have e1 : (¬ ((y : Int)) = 0) = True := by simp only [eq_iff_iff, iff_true]; omega
 refine zE (zA e1 (zA @decide_true cI)) ?_
 repeat refine ⟨by omega, ?_⟩
 refine W_cond rfl (fun h => by have := of_decide_eq_true h; omega) (fun _ => W_skip ?_)
 refine zE cI ?_
 repeat refine ⟨by omega, ?_⟩
 refine W_seq (W_reg ?_)
 simp (maxSteps := 1000000) (disch := omega) only [cA, cB, cN, FnD.nb, lk, lkH, Dst.onT, Dst.onX, Dst.slot, setF, setH, mapF, mapH, initF, binE, unE, cnt, boundE, newsE, freshE, freshT, opE, rmH, blkQ, frz_us, Nat.reduceEqDiff, Nat.reduceLT, Nat.reduceAdd, Nat.reduceMul, Nat.reduceMod, ↓reduceIte, reduceCtorEq, Nat.reduceLeDiff, wu64', cI]
 repeat refine ⟨by omega, ?_⟩
 refine W_seq (W_regd ?_)
 have o1 : bitE BinOp.or IntKind.u64 ((hi : Int) * 2 ^ min (Int.toNat 32) IntKind.u64.bits % 18446744073709551616) (lo : Int) = ((4294967296 * hi + lo : Nat) : Int) := by
  have := or32 (h := hi) h2 (by omega)
  rwa [show (lo : Int) % 18446744073709551616 = (lo : Int) by omega] at this
 rw [o1]
 generalize 4294967296 * hi + lo = N at hq hr ⊢
 refine zE (zA @tdiv_nat (zA @tmod_nat cI)) ?_
 repeat refine ⟨by omega, ?_⟩
 have w1 : IntKind.u32.wrap (IntKind.u64.wrap ((N / y : Nat) : Int)) = ((N / y : Nat) : Int) := by
  generalize N / y = q at hq ⊢
  rw [wu64 (by omega) (by omega), wu32 (by omega) (by omega)]
 rw [w1]
 exact W_ret (RetP_2 (.imm rfl) (.imm rfl))
theorem nShort_calls (x d : Nat) (ha : (limbs x).length ≤ 1000000) (hd : 0 < d) (hd2 : d < 4294967296) :
  PCalls Tryz.prog 225 [.sl 1 (us (limbs x)), .int .u32 d] (.tup [.sl 1 (us (limbs (x / d))), .int .u32 (x % d : Nat)]) := by
 refine PCalls_of isnShort (by simp [fnnShort]) ?_
 unfold codenShort
 have la := lim_limbs x
 refine W_seq (W_reg ?_)
 refine zE cI ?_
 repeat refine ⟨by omega, ?_⟩
 refine W_seq (W_reg ?_)
 refine zE (zA @us_length (zA @us_rep (zA @nbnShort cI))) ?_
 repeat refine ⟨by omega, ?_⟩
 refine W_seq (W_seq (W_reg ?_))
 refine zE (zA @us_length cI) ?_
 repeat refine ⟨by omega, ?_⟩
 refine W_block (W_loop (σ := Nat × List Nat) (fun s => [(0, .sl 1 (us (limbs x))), (1, .int .u32 d), (4, .osl 1 9 0 (limbs x).length), (5, .int .u32 (nv ((limbs x).drop s.1) % d : Nat)), (6, .int .i64 ((s.1 : Int) - 1))])
  (fun s => [(9, us (List.replicate s.1 0 ++ s.2))]) (fun s => s.1 + s.2.length = (limbs x).length ∧ lim s.2 ∧ nv s.2 = nv ((limbs x).drop s.1) / d) (fun s => s.1) ((limbs x).length, [])
  ⟨by simp, lim_nil, by rw [List.drop_of_length_le (Nat.le_refl _)]; simp [nv]⟩ ?_ ?_ ?_)
 ·rw [List.drop_of_length_le (Nat.le_refl _)]
  simp [subF, lk, nv]
 ·simp
 ·rintro ⟨n, q⟩ ⟨hn, hq, hnq⟩
  simp only at hn hq hnq ⊢
  refine W_seq (W_seq (W_reg ?_))
  refine zE cI ?_
  repeat refine ⟨by omega, ?_⟩
  refine W_cond rfl (fun hc => W_skip ?_) (fun hc => W_exit ?_)
  ·have hge := of_decide_eq_true hc
   obtain ⟨m, rfl⟩ : ∃ m, n = m + 1 := ⟨n - 1, by omega⟩
   have e : (((m + 1 : Nat) : Int) - 1) = (m : Nat) := by omega
   have hr := Nat.mod_lt (nv ((limbs x).drop (m + 1))) hd
   have hlm := lim_getD la m
   have hdv := nv_drop (a := limbs x) (m := m) (by omega)
   obtain ⟨s1, s2⟩ := div_step (N := nv ((limbs x).drop (m + 1))) (x := (limbs x).getD m 0) hd
   have hqlt := div_lt hr hlm
   have hc32 := Div32_calls _ _ d hr hlm hd2
   have hlen : (List.replicate (m + 1) 0 ++ q).length = (limbs x).length := by simp; omega
   refine zE (zA e cI) ?_
   repeat refine ⟨by omega, ?_⟩
   refine W_seq (W_block (W_reg ?_))
   refine zE (zA @us_length (zA @us_getD cI)) ?_
   repeat refine ⟨by omega, ?_⟩
   refine cP hc32 ?_
   rw [← hdv] at s1 s2
   rw [← s2]
   generalize (4294967296 * (nv ((limbs x).drop (m + 1)) % d) + (limbs x).getD m 0) / d = qd at s1 hqlt ⊢
   refine zE (zA @us_length (zA hlen (zA @us_set (zA @set_rep cI)))) ?_
   repeat refine ⟨by omega, ?_⟩
   refine W_reg ?_
   refine zE cI ?_
   refine ⟨(m, qd :: q), ⟨by simp only [List.length_cons]; omega, lim_cons.2 ⟨hqlt, hq⟩, ?_⟩, by omega, by simp [subF, lk], rfl⟩
   simp only [nv]
   rw [s1, hnq]
  ·have hlt := of_decide_eq_false hc
   have h0 : n = 0 := by omega
   subst h0
   rw [List.drop_zero, nv_limbs] at hnq
   rw [List.drop_zero, nv_limbs]
   simp only [List.replicate_zero, List.nil_append]
   refine zE cI ?_
   repeat refine ⟨by omega, ?_⟩
   refine W_seq (W_reg ?_)
   refine zE cI ?_
   repeat refine ⟨by omega, ?_⟩
   refine callC_freeze rfl 9 (cells := us q) (by simp [lkH]) (us_rf q) ?_
   refine zE (zA @us_length cI) ?_
   have ct := nTrim_calls q (by omega) hq
   rw [hnq] at ct
   refine cP ct ?_
   refine zE cI ?_
   exact W_ret (RetP_2 (.imm rfl) (.imm rfl))
theorem Add32_calls (x y c : Nat) (h1 : x < 4294967296) (h2 : y < 4294967296) (h3 : c < 4294967296) :
  PCalls Tryz.prog 220 [.int .u32 x, .int .u32 y, .int .u32 c] (.tup [.int .u32 ((x + y + c) % 4294967296 : Nat), .int .u32 ((x + y + c) / 4294967296 : Nat)]) := by
 refine PCalls_of isAdd32 (by simp [fnAdd32]) ?_
 unfold codeAdd32
 refine W_seq (W_reg ?_)
 refine zE cI ?_
 repeat refine ⟨by omega, ?_⟩
 refine W_seq (W_reg ?_)
 refine zE (zA @add_nat cI) ?_
 repeat refine ⟨by omega, ?_⟩
 refine W_seq (W_reg ?_)
 refine zE (zA @wu32' (zA @mod32 cI)) ?_
 repeat refine ⟨by omega, ?_⟩
 refine W_seq (W_reg ?_)
 refine zE (zA @shr32u64 cI) ?_
 repeat refine ⟨by omega, ?_⟩
 exact W_ret (RetP_2 (.imm rfl) (.imm rfl))
theorem nAdd_calls (a b : List Nat) (ha : a.length ≤ 100000) (hb : b.length ≤ 100000) (la : lim a) (lb : lim b) : PCalls Tryz.prog 161 [.sl 1 (us a), .sl 1 (us b)] (.sl 1 (us (limbs (vn a + vn b)))) := by
 have h1 := vn_len la
 have h2 := vn_len lb
 have c1 := nValue_calls a (by omega) la
 have c2 := nValue_calls b (by omega) lb
 refine PCalls_of isnAdd (by simp [fnnAdd]) ?_
 unfold codenAdd
 generalize vn a = x at h1 c1 ⊢
 generalize vn b = y at h2 c2 ⊢
 refine W_seq (W_reg ?_)
 refine zE cI ?_
 repeat refine ⟨by omega, ?_⟩
 refine W_seq (W_reg ?_)
 refine zE cI ?_
 repeat refine ⟨by omega, ?_⟩
 refine cP c1 ?_
 refine zE cI ?_
 repeat refine ⟨by omega, ?_⟩
 refine cP c2 ?_
 refine zE cI ?_
 repeat refine ⟨by omega, ?_⟩
 refine W_seq (W_join (ι := Nat × Nat) (fun i => (limbs i.2).length ≤ (limbs i.1).length ∧ (limbs i.1).length ≤ 100000 ∧ i.1 + i.2 = x + y) (fun i => [(0, .sl 1 (us (limbs i.1))), (1, .sl 1 (us (limbs i.2))), (4, .nils)]) (fun _ => []) (W_seq (W_reg ?_)) ?_)
 ·refine zE (zA @us_length cI) ?_
  repeat refine ⟨by omega, ?_⟩
  refine W_cond rfl (fun hv => W_reg ?_) (fun hv => W_skip ?_)
  ·have hlt := of_decide_eq_true hv
   refine zE cI ?_
   exact ⟨(y, x), ⟨by simp only; omega, by simp only; omega, by simp only; omega⟩, by simp [subF, lk]⟩
  ·have hge := of_decide_eq_false hv
   refine zE cI ?_
   exact ⟨(x, y), ⟨by simp only; omega, by simp only; omega, rfl⟩, by simp [subF, lk]⟩
 ·rintro ⟨X, Y⟩ ⟨hle, hbig, hxy⟩
  simp only at hle hbig hxy ⊢
  rw [← hxy]
  have laX := lim_limbs X
  have laY := lim_limbs Y
  refine W_seq (W_reg ?_)
  have e1 : (((limbs X).length : Int) + 1) = (((limbs X).length + 1 : Nat) : Int) := by omega
  refine zE (zA @us_length (zA @us_rep (zA @nbnAdd (zA e1 cI)))) ?_
  repeat refine ⟨by omega, ?_⟩
  refine W_seq (W_reg ?_)
  refine zE cI ?_
  repeat refine ⟨by omega, ?_⟩
  refine W_seq (W_seq (W_reg ?_))
  refine zE (zA @us_length cI) ?_
  repeat refine ⟨by omega, ?_⟩
  refine W_block (W_loop (σ := Nat × List Nat × Nat) (fun s => [(0, .sl 1 (us (limbs X))), (1, .sl 1 (us (limbs Y))), (5, .osl 1 24 0 ((limbs X).length + 1)), (6, .int .u32 s.2.2), (25, .sl 1 (us (limbs X))), (26, .int .i64 (limbs X).length), (27, .int .i64 s.1)])
   (fun s => [(24, us (s.2.1 ++ List.replicate ((limbs X).length + 1 - s.1) 0))])
   (fun s => s.1 ≤ (limbs X).length ∧ s.2.1.length = s.1 ∧ lim s.2.1 ∧ s.2.2 ≤ 1 ∧ nv s.2.1 + 4294967296 ^ s.1 * s.2.2 = nv ((limbs X).take s.1) + nv ((limbs Y).take s.1))
   (fun s => (limbs X).length - s.1) (0, [], 0) ⟨Nat.zero_le _, rfl, lim_nil, by decide, by simp [nv]⟩ ?_ ?_ ?_)
  ·simp [subF, lk]
  ·simp
  ·rintro ⟨n, q, c⟩ ⟨hn, hq, hlq, hc, hnv⟩
   simp only at hn hq hlq hc hnv ⊢
   refine W_seq (W_reg ?_)
   refine zE cI ?_
   repeat refine ⟨by omega, ?_⟩
   refine W_seq (W_cond rfl (fun hcd => W_skip ?_) (fun hcd => W_exit ?_))
   ·have hlt := of_decide_eq_true hcd
    have hlt : n < (limbs X).length := by omega
    refine zE cI ?_
    repeat refine ⟨by omega, ?_⟩
    have hxn := lim_getD laX n
    have hyn := lim_getD laY n
    refine W_seq (W_block (W_seq (W_reg ?_)))
    refine zE (zA @us_length (zA @us_getD cI)) ?_
    repeat refine ⟨by omega, ?_⟩
    refine W_seq (W_reg ?_)
    refine zE cI ?_
    repeat refine ⟨by omega, ?_⟩
    refine W_seq (W_join (ι := Unit) (fun _ => True) (fun _ => [(0, .sl 1 (us (limbs X))), (1, .sl 1 (us (limbs Y))), (5, .osl 1 24 0 ((limbs X).length + 1)), (6, .int .u32 c), (7, .int .i64 n), (8, .int .u32 ((limbs X).getD n 0)), (9, .int .u32 ((limbs Y).getD n 0)), (25, .sl 1 (us (limbs X))), (26, .int .i64 (limbs X).length), (27, .int .i64 n)]) (fun _ => [(24, us (q ++ List.replicate ((limbs X).length + 1 - n) 0))]) (W_seq (W_reg ?_)) ?_)
    ·refine zE (zA @us_length cI) ?_
     repeat refine ⟨by omega, ?_⟩
     refine W_cond rfl (fun hv => W_reg ?_) (fun hv => W_skip ?_)
     ·have hl2 := of_decide_eq_true hv
      refine zE (zA @us_length (zA @us_getD cI)) ?_
      refine ⟨by omega, by omega, ⟨(), by simp [subF, lk]⟩⟩
     ·have hl2 := of_decide_eq_false hv
      refine zE cI ?_
      have : (limbs Y).getD n 0 = 0 := by rw [List.getD_eq_getElem?_getD, List.getElem?_eq_none (by omega)]; rfl
      rw [this]
      refine ⟨(), by simp [subF, lk]⟩
    ·rintro ⟨⟩ -
     have hlen : (q ++ List.replicate ((limbs X).length + 1 - n) 0).length = (limbs X).length + 1 := by simp; omega
     obtain ⟨k, hk⟩ : ∃ k, (limbs X).length + 1 - n = k + 1 := ⟨(limbs X).length - n, by omega⟩
     rw [hk] at hlen ⊢
     have ca := Add32_calls _ _ c hxn hyn (by omega)
     refine W_reg ?_
     refine zE cI ?_
     repeat refine ⟨by omega, ?_⟩
     refine cP ca ?_
     have hdg : ((limbs X).getD n 0 + (limbs Y).getD n 0 + c) / 4294967296 ≤ 1 := by omega
     have hsum := add_step (x := (limbs X).getD n 0) (y := (limbs Y).getD n 0) hnv
     rw [← nv_take_succ', ← nv_take_succ', ← Nat.pow_succ] at hsum
     generalize ((limbs X).getD n 0 + (limbs Y).getD n 0 + c) / 4294967296 = c' at hdg hsum ⊢
     have hdl : ((limbs X).getD n 0 + (limbs Y).getD n 0 + c) % 4294967296 < 4294967296 := by omega
     generalize ((limbs X).getD n 0 + (limbs Y).getD n 0 + c) % 4294967296 = dg at hdl hsum ⊢
     have hset : (q ++ List.replicate (k + 1) 0).set n dg = (q ++ [dg]) ++ List.replicate k 0 := by rw [← hq]; exact set_app k dg q
     refine zE (zA @us_length (zA hlen (zA @us_set (zA hset cI)))) ?_
     repeat refine ⟨by omega, ?_⟩
     refine W_reg ?_
     refine zE cI ?_
     refine ⟨(n + 1, q ++ [dg], c'), ⟨by omega, by simp [hq], ?_, hdg, ?_⟩, by omega, by simp [subF, lk], ?_⟩
     ·intro z hz
      rcases List.mem_append.1 hz with h | h
      ·exact hlq z h
      ·rw [List.mem_singleton.1 h]; exact hdl
     ·rw [nv_app, hq]
      simp only [nv, Nat.mul_zero, Nat.add_zero]
      exact hsum
     ·have : (limbs X).length + 1 - (n + 1) = k := by omega
      rw [this]
   ·have hge := of_decide_eq_false hcd
    have hnl : n = (limbs X).length := by omega
    subst hnl
    rw [List.take_of_length_le (Nat.le_refl _), List.take_of_length_le hle, nv_limbs, nv_limbs] at hnv
    have e2 : (limbs X).length + 1 - (limbs X).length = 1 := by omega
    have hset : (q ++ [0]).set (limbs X).length c = q ++ [c] := by rw [← hq]; have := set_app 0 c q; simpa using this
    have hlen : (q ++ [0]).length = (limbs X).length + 1 := by simp [hq]
    have hlen2 : (limbs X).length + 1 = (q ++ [c]).length := by simp [hq]
    rw [e2]
    simp only [List.replicate_one]
    refine zE cI ?_
    repeat refine ⟨by omega, ?_⟩
    refine W_seq (W_reg ?_)
    refine zE (zA @us_length (zA hlen (zA @us_set (zA hset cI)))) ?_
    repeat refine ⟨by omega, ?_⟩
    refine W_seq (W_reg ?_)
    refine zE cI ?_
    repeat refine ⟨by omega, ?_⟩
    have hlim : lim (q ++ [c]) := by
     intro z hz
     rcases List.mem_append.1 hz with h | h
     ·exact hlq z h
     ·rw [List.mem_singleton.1 h]; omega
    have ct := nTrim_calls (q ++ [c]) (by omega) hlim
    rw [nv_app, hq] at ct
    simp only [nv, Nat.mul_zero, Nat.add_zero] at ct
    rw [hnv] at ct
    refine callC_freeze rfl 24 (cells := us (q ++ [c])) (by simp [lkH]) (us_rf _) ?_
    refine zE (zA @us_length cI) ?_
    refine cP ct ?_
    refine zE cI ?_
    exact W_ret (RetP_1 (.imm rfl))
theorem lim1 {x : Nat} (h : x < 4294967296) : lim [x] := lim_cons.2 ⟨h, lim_nil⟩
theorem usrf1 (k : IntKind) (n : Int) : (∀ d ∈ [DV.int k n], d.rf = true) = True := by simp [DV.rf]
theorem shr16u32 (a : Nat) : ((a : Int)).fdiv (2 ^ min (Int.toNat 16) IntKind.u32.bits) = ((a / 65536 : Nat) : Int) := by
 have : (2 ^ min (Int.toNat 16) IntKind.u32.bits : Int) = ((65536 : Nat) : Int) := by decide
 rw [this, fdiv_nat]
theorem shr8u32 (a : Nat) : ((a : Int)).fdiv (2 ^ min (Int.toNat 8) IntKind.u32.bits) = ((a / 256 : Nat) : Int) := by
 have : (2 ^ min (Int.toNat 8) IntKind.u32.bits : Int) = ((256 : Nat) : Int) := by decide
 rw [this, fdiv_nat]
theorem Len32_calls (x : Nat) (hx : x < 4294967296) : PCalls Tryz.prog 265 [.int .u32 x] (.int .i64 (blen x : Nat)) := by
 refine PCalls_of isLen32 (by simp [fnLen32]) ?_
 unfold codeLen32
 generalize hL : ([0, 1, 2, 2, 3, 3, 3, 3, 4, 4, 4, 4, 4, 4, 4, 4, 5, 5, 5, 5, 5, 5, 5, 5, 5, 5, 5, 5, 5, 5, 5, 5, 6, 6, 6, 6, 6, 6, 6, 6, 6, 6, 6, 6, 6, 6, 6, 6, 6, 6, 6, 6, 6, 6, 6, 6, 6, 6, 6, 6, 6, 6, 6, 6, 7, 7, 7, 7, 7, 7, 7, 7, 7, 7, 7, 7, 7, 7, 7, 7, 7, 7, 7, 7, 7, 7, 7, 7, 7, 7, 7, 7, 7, 7, 7, 7, 7, 7, 7, 7, 7, 7, 7, 7, 7, 7, 7, 7, 7, 7, 7, 7, 7, 7, 7, 7, 7, 7, 7, 7, 7, 7, 7, 7, 7, 7, 7, 7, 8, 8, 8, 8, 8, 8, 8, 8, 8, 8, 8, 8, 8, 8, 8, 8, 8, 8, 8, 8, 8, 8, 8, 8, 8, 8, 8, 8, 8, 8, 8, 8, 8, 8, 8, 8, 8, 8, 8, 8, 8, 8, 8, 8, 8, 8, 8, 8, 8, 8, 8, 8, 8, 8, 8, 8, 8, 8, 8, 8, 8, 8, 8, 8, 8, 8, 8, 8, 8, 8, 8, 8, 8, 8, 8, 8, 8, 8, 8, 8, 8, 8, 8, 8, 8, 8, 8, 8, 8, 8, 8, 8, 8, 8, 8, 8, 8, 8, 8, 8, 8, 8, 8, 8, 8, 8, 8, 8, 8, 8, 8, 8, 8, 8, 8, 8, 8, 8, 8, 8, 8, 8, 8, 8, 8, 8, 8, 8] : List UInt8) = L
 have hl : L.length = 256 := by rw [← hL]; decide +kernel
 have hg : ∀ n, n < 256 → ((L.getD n 0).toNat) = blen n := by
  have : ∀ n : Fin 256, ((L.getD n.val 0).toNat) = blen n.val := by rw [← hL]; decide +kernel
  exact fun n hn => this ⟨n, hn⟩
 refine zS cI ?_
 refine W_cond rfl (fun h1 => ?_) (fun h1 => W_skip ?_)
 ·have h1 := of_decide_eq_true h1
  have e1 := blen_shr (x := x) (k := 16) (by omega)
  have l1 : x / 65536 < 65536 := by omega
  rw [show 2 ^ 16 = 65536 from rfl] at e1
  rw [e1]
  refine zS (zA @shr16u32 cI) ?_
  generalize x / 65536 = y at l1 e1 ⊢
  refine W_cond rfl (fun h2 => ?_) (fun h2 => W_skip ?_)
  ·have h2 := of_decide_eq_true h2
   have e2 := blen_shr (x := y) (k := 8) (by omega)
   have l2 : y / 256 < 256 := by omega
   rw [show 2 ^ 8 = 256 from rfl] at e2
   rw [e2]
   refine zS (zA @shr8u32 cI) ?_
   generalize y / 256 = z at l2 ⊢
   have hb := blen_le_of (x := z) (k := 8) (by omega)
   refine zS (zA hl (zA hg (zA @byteD.eq_1 cI))) ?_
   refine W_ret (RetP_1 ?_)
   refine zE cI ?_
   rw [show (16 : Int) + 8 + ((blen z : Nat) : Int) = ((blen z + 8 + 16 : Nat) : Int) by omega]
   exact .imm rfl
  ·have h2 := of_decide_eq_false h2
   have l2 : y < 256 := by omega
   have hb := blen_le_of (x := y) (k := 8) (by omega)
   refine zS (zA hl (zA hg (zA @byteD.eq_1 cI))) ?_
   refine W_ret (RetP_1 ?_)
   refine zE cI ?_
   rw [show (16 : Int) + ((blen y : Nat) : Int) = ((blen y + 16 : Nat) : Int) by omega]
   exact .imm rfl
 ·have h1 := of_decide_eq_false h1
  have l1 : x < 65536 := by omega
  refine zS cI ?_
  refine W_cond rfl (fun h2 => ?_) (fun h2 => W_skip ?_)
  ·have h2 := of_decide_eq_true h2
   have e2 := blen_shr (x := x) (k := 8) (by omega)
   have l2 : x / 256 < 256 := by omega
   rw [show 2 ^ 8 = 256 from rfl] at e2
   rw [e2]
   refine zS (zA @shr8u32 cI) ?_
   generalize x / 256 = z at l2 ⊢
   have hb := blen_le_of (x := z) (k := 8) (by omega)
   refine zS (zA hl (zA hg (zA @byteD.eq_1 cI))) ?_
   refine W_ret (RetP_1 ?_)
   refine zE cI ?_
   rw [show (0 : Int) + 8 + ((blen z : Nat) : Int) = ((blen z + 8 : Nat) : Int) by omega]
   exact .imm rfl
  ·have h2 := of_decide_eq_false h2
   have l2 : x < 256 := by omega
   have hb := blen_le_of (x := x) (k := 8) (by omega)
   refine zS (zA hl (zA hg (zA @byteD.eq_1 cI))) ?_
   refine W_ret (RetP_1 ?_)
   refine zE cI ?_
   rw [show (0 : Int) + ((blen x : Nat) : Int) = ((blen x : Nat) : Int) by omega]
   exact .imm rfl
theorem Lz32_calls (x : Nat) (hx : x < 4294967296) : PCalls Tryz.prog 250 [.int .u32 x] (.int .i64 (32 - blen x : Nat)) := by
 have hb := blen_le_of (x := x) (k := 32) (by omega)
 refine PCalls_of isLz32 (by simp [fnLz32]) ?_
 unfold codeLz32
 refine zS cI ?_
 refine cP (Len32_calls x hx) ?_
 refine zS cI ?_
 rw [show (32 : Int) - ((blen x : Nat) : Int) = ((32 - blen x : Nat) : Int) by omega]
 exact W_ret (RetP_1 (.imm rfl))
theorem nShifted_fcalls (a : List Nat) (k : Nat) (ha : a.length ≤ 1000000) (la : lim a) (hk : k ≤ 31) : FCalls Tryz.prog 251 [.sl 1 (us a), .int .i64 k] 1 (a.length + 1) (us (dig (a.length + 1) (nv a * 2 ^ k))) := by
 have hp := pow_le31 hk
 refine FCalls_of isnShifted (by simp [fnnShifted]) ?_
 unfold codenShifted
 refine zS (zA @us_length (zA @us_rep (zA @nbnShifted cI))) ?_
 have e0 : ((a.length : Int) + 1).toNat = a.length + 1 := by omega
 rw [e0]
 obtain ⟨N, hN⟩ : ∃ N, N = a.length := ⟨_, rfl⟩
 rw [← hN]
 refine W_loop (σ := List Nat × Nat) (fun s => [(0, .sl 1 (us a)), (1, .int .i64 k), (5, .osl 1 12 0 (N + 1)), (13, .sl 1 (us a)), (14, .int .i64 N), (15, .int .i64 s.1.length)])
  (fun s => [(12, us (s.1 ++ s.2 :: List.replicate (N - s.1.length) 0))]) (fun s => s.1.length ≤ N ∧ lim s.1 ∧ s.2 < 2 ^ k ∧ nv s.1 + 4294967296 ^ s.1.length * s.2 = nv (a.take s.1.length) * 2 ^ k)
  (fun s => N - s.1.length) ([], 0) ⟨Nat.zero_le _, lim_nil, Nat.two_pow_pos k, by simp [nv]⟩ ?_ (by simp [List.replicate_succ]) ?_
 ·simp [subF, lk]
 ·rintro ⟨d, c⟩ ⟨hd, ld, hc, hnv⟩
  simp only at hd ld hc hnv ⊢
  refine zS cI ?_
  refine W_cond rfl (fun h1 => W_skip ?_) (fun h1 => W_exit ?_)
  ·have h1 := of_decide_eq_true h1
   have hlt : d.length < N := by omega
   have hx := lim_getD la d.length
   have ht := nv_take_succ' (a := a) d.length
   obtain ⟨m, hm⟩ : ∃ m, N - d.length = m + 1 := ⟨N - d.length - 1, by omega⟩
   have hm' : N - (d.length + 1) = m := by omega
   have hl : (d ++ c :: List.replicate (m + 1) 0).length = N + 1 := by simp; omega
   have e1 : ((d.length : Int) + 1).toNat = d.length + 1 := by omega
   obtain ⟨s1, s2⟩ := shl_lt hx hk
   have hlow := low_lt (x := a.getD d.length 0) hc hk
   rw [hm]
   refine zS (zA @us_length (zA @us_getD cI)) ?_
   generalize a.getD d.length 0 = x at hx ht s1 s2 hlow ⊢
   repeat (first | refine W_seq ?_ | refine W_reg ?_ | refine W_regd ?_ | refine W_regs ?_ | refine W_regp ?_ | refine W_block ?_ | refine And.intro (by omega) ?_ | simp (maxSteps := 1000000) (disch := omega) only [cA, cB, cN, FnD.nb, lk, lkH, Dst.onT, Dst.onX, Dst.slot, setF, setH, mapF, mapH, initF, binE, unE, cnt, boundE, newsE, freshE, freshT, opE, rmH, blkQ, frz_us, Nat.reduceEqDiff, Nat.reduceLT, Nat.reduceAdd, Nat.reduceMul, Nat.reduceMod, ↓reduceIte, reduceCtorEq, Nat.reduceLeDiff, us_length, shl_w hx hk, hl, us_getD, getD_mid, wu32', mod32, or_low32 hc hk hx, us_set, set_mid, cI])
   have hl2 : (d ++ (x * 2 ^ k % 4294967296 + c) :: List.replicate (m + 1) 0).length = N + 1 := by simp; omega
   have hstep := sh_step (c := c) hnv (x := x)
   rw [← ht] at hstep
   have s2' : x * 2 ^ k / 4294967296 % 4294967296 = x * 2 ^ k / 4294967296 := Nat.mod_eq_of_lt (by omega)
   refine zS (zA @us_length (zA hl2 (zA @shr32u64 (zA @wu32' (zA @mod32 (zA e1 (zA @us_set (zA s2' (zA @List.replicate_succ.{0} (zA @set_mid1 cI)))))))))) ?_
   refine ⟨(d ++ [x * 2 ^ k % 4294967296 + c], x * 2 ^ k / 4294967296), ⟨by simp; omega, lim_append.2 ⟨ld, lim1 hlow⟩, s2, ?_⟩, by simp; omega, by simp [subF, lk], ?_⟩
   ·simp only [nv_snoc, List.length_append, List.length_cons, List.length_nil, Nat.pow_succ]
    exact hstep
   ·simp [hm']
  ·have h1 := of_decide_eq_false h1
   have hdl : d.length = N := by omega
   rw [hdl, hN, List.take_of_length_le (Nat.le_refl _)] at hnv
   have hz : N - d.length = 0 := by omega
   have hnv' : nv (d ++ [c]) = nv a * 2 ^ k := by rw [nv_snoc, hdl, hN]; exact hnv
   have hlt : nv a * 2 ^ k < 4294967296 ^ (a.length + 1) := by
    rw [Nat.pow_succ]
    exact Nat.mul_lt_mul_of_lt_of_le (nv_lt la) (by omega) (by omega)
   have hfin : d ++ [c] = dig (a.length + 1) (nv a * 2 ^ k) := dig_of (lim_append.2 ⟨ld, lim1 (by omega)⟩) (by simp; omega) (by rw [hnv', Nat.mod_eq_of_lt hlt])
   refine zS cI ?_
   rw [hz, List.replicate_zero, hfin, ← hN]
   exact W_ret (RetPF_1 (o := 12) (by simp [lk]) (by simp [lkH]) (us_rf _) (by omega))
theorem nShifted_calls (a : List Nat) (k : Nat) (ha : a.length ≤ 1000000) (la : lim a) (hk : k ≤ 31) : PCalls Tryz.prog 251 [.sl 1 (us a), .int .i64 k] (.sl 1 (us (dig (a.length + 1) (nv a * 2 ^ k)))) :=
 FCalls.pure (nShifted_fcalls a k ha la hk) (by simp [us_length, dig_length]) (by simp [dig, us])
theorem orsh {h x t : Nat} (hh : h < 4294967296) (hx : x < 4294967296) (ht : h * 4294967296 + x = t) : bitE .or .u64 (IntKind.u64.wrap ((h : Int) * 2 ^ min (Int.toNat 32) IntKind.u64.bits)) (x : Int) = (t : Int) := by
 subst ht
 have := or32 (h := h) hx (by omega)
 rw [wu64', Nat.mul_comm h]
 rwa [show (x : Int) % 18446744073709551616 = (x : Int) by omega] at this
theorem nGuess_calls (T W u2 u1 u0 v1 v0 : Nat) (h2 : u2 < 4294967296) (h1 : u1 < 4294967296) (h0 : u0 < 4294967296) (k1 : v1 < 4294967296) (k0 : v0 < 4294967296) (hu : u2 ≤ v1) (hv : 0 < v1)
  (hT : (u2 * 4294967296 + u1) * 4294967296 + u0 = T) (hW : v1 * 4294967296 + v0 = W) :
  PCalls Tryz.prog 252 [.int .u32 u2, .int .u32 u1, .int .u32 u0, .int .u32 v1, .int .u32 v0] (.int .u64 (gq T W : Nat)) := by
 refine PCalls_of isnGuess (by simp [fnnGuess]) ?_
 unfold codenGuess
 obtain ⟨top, htop⟩ : ∃ top, u2 * 4294967296 + u1 = top := ⟨_, rfl⟩
 have ht : top < 18446744073709551616 := by omega
 have hdm := Nat.div_add_mod' top v1
 have hd0 := Nat.div_le_self top v1
 have hm0 := Nat.mod_lt top hv
 have hg0 : gq T W ≤ top / v1 := gq_first htop h0 hv hT hW
 repeat (first | refine W_seq ?_ | refine W_reg ?_ | refine W_regd ?_ | refine W_regs ?_ | refine W_regp ?_ | refine W_block ?_ | refine And.intro (by omega) ?_ | simp (maxSteps := 1000000) (disch := omega) only [cA, cB, cN, FnD.nb, lk, lkH, Dst.onT, Dst.onX, Dst.slot, setF, setH, mapF, mapH, initF, binE, unE, cnt, boundE, newsE, freshE, freshT, opE, rmH, blkQ, frz_us, Nat.reduceEqDiff, Nat.reduceLT, Nat.reduceAdd, Nat.reduceMul, Nat.reduceMod, ↓reduceIte, reduceCtorEq, Nat.reduceLeDiff, orsh h2 h1 htop, cI])
 refine zS (zA @tdiv_nat (zA @tmod_nat cI)) ?_
 generalize top / v1 = q0 at *
 generalize top % v1 = r0 at *
 refine zS cI ?_
 refine W_loop (σ := Nat × Nat) (fun s => [(0, .int .u32 u2), (1, .int .u32 u1), (2, .int .u32 u0), (3, .int .u32 v1), (4, .int .u32 v0), (12, .int .u64 s.1), (13, .int .u64 s.2)]) (fun _ => [])
  (fun s => s.1 * v1 + s.2 = top ∧ gq T W ≤ s.1 ∧ s.1 ≤ top) (fun s => s.1) (q0, r0) ⟨hdm, hg0, hd0⟩ ?_ rfl ?_
 ·simp [subF, lk]
 ·rintro ⟨q, r⟩ ⟨hq, hg, hqt⟩
  simp only at hq hg hqt ⊢
  have hrt : r ≤ top := by omega
  have step : (4294967296 ≤ q ∨ r * 4294967296 + u0 < q * v0) → 0 < q ∧ gq T W ≤ q - 1 ∧ (q - 1) * v1 + (r + v1) = top := fun hc => by
   subst hT; subst hW; subst htop
   exact gq_step hq hv hg hc
  have exit : (4294967296 ≤ r ∨ (q < 4294967296 ∧ q * v0 ≤ r * 4294967296 + u0)) → q = gq T W := fun hc => by
   subst hT; subst hW; subst htop
   exact gq_exit hq h1 hu k0 hv hg hc
  by_cases hr : r < 4294967296
  ·have d1 : decide ((r : Int) < 4294967296) = true := decide_eq_true (by omega)
   by_cases hqB : 4294967296 ≤ q
   ·have d2 : decide ((4294967296 : Int) ≤ q) = true := decide_eq_true (by omega)
    obtain ⟨s1, s2, s3⟩ := step (.inl hqB)
    refine zS (zA d1 (zA d2 cI)) ?_
    refine wTs ?_
    have e1 : ((q : Int) - 1) = ((q - 1 : Nat) : Int) := by omega
    refine zS (zA e1 (zA @add_nat cI)) ?_
    refine ⟨(q - 1, r + v1), ⟨s3, s2, by simp only; omega⟩, by simp only; omega, by simp [subF, lk]⟩
   ·have d2 : decide ((4294967296 : Int) ≤ q) = false := decide_eq_false (by omega)
    have hqB' : q < 4294967296 := by omega
    repeat (first | refine W_seq ?_ | refine W_reg ?_ | refine W_regd ?_ | refine W_regs ?_ | refine W_regp ?_ | refine W_block ?_ | refine And.intro (by omega) ?_ | simp (maxSteps := 1000000) (disch := omega) only [cA, cB, cN, FnD.nb, lk, lkH, Dst.onT, Dst.onX, Dst.slot, setF, setH, mapF, mapH, initF, binE, unE, cnt, boundE, newsE, freshE, freshT, opE, rmH, blkQ, frz_us, Nat.reduceEqDiff, Nat.reduceLT, Nat.reduceAdd, Nat.reduceMul, Nat.reduceMod, ↓reduceIte, reduceCtorEq, Nat.reduceLeDiff, d1, d2, mul_w hqB' k0, orsh hr h0 rfl, cI])
    refine W_cond rfl (fun hc => W_skip ?_) (fun hc => W_exit ?_)
    ·have hc := of_decide_eq_true hc
     obtain ⟨s1, s2, s3⟩ := step (.inr (by omega))
     have e1 : ((q : Int) - 1) = ((q - 1 : Nat) : Int) := by omega
     refine zS (zA e1 (zA @add_nat cI)) ?_
     refine ⟨(q - 1, r + v1), ⟨s3, s2, by simp only; omega⟩, by simp only; omega, by simp [subF, lk]⟩
    ·have hc := of_decide_eq_false hc
     rw [← exit (.inr ⟨hqB', by omega⟩)]
     refine zS cI ?_
     exact W_ret (RetP_1 (.imm rfl))
  ·have d1 : decide ((r : Int) < 4294967296) = false := decide_eq_false (by omega)
   refine zS (zA d1 cI) ?_
   refine W_cond rfl (fun h => by cases h) (fun _ => W_exit ?_)
   rw [← exit (.inl (by omega))]
   refine zS cI ?_
   exact W_ret (RetP_1 (.imm rfl))
theorem rLimb_calls (a : List Nat) (i : Nat) (_ha : a.length ≤ 1000000) (la : lim a) : PCalls Tryz.prog 190 [.sl 1 (us a), .int .i64 i] (.int .u64 (a.getD i 0 : Nat)) := by
 have hlt := lim_getD la i
 refine PCalls_of isrLimb (by simp [fnrLimb]) ?_
 unfold coderLimb
 refine W_seq (W_reg ?_)
 refine zE cI ?_
 repeat refine ⟨by omega, ?_⟩
 refine W_seq (W_seq (W_reg ?_))
 refine zE (zA @us_length cI) ?_
 repeat refine ⟨by omega, ?_⟩
 refine W_cond rfl (fun h => ?_) (fun h => W_skip ?_)
 ·have h := of_decide_eq_true h
  have : a.getD i 0 = 0 := by rw [List.getD_eq_getElem?_getD, List.getElem?_eq_none (by omega)]; rfl
  rw [this]
  refine W_seq (W_reg ?_)
  refine zE cI ?_
  repeat refine ⟨by omega, ?_⟩
  exact W_ret (RetP_1 (.imm rfl))
 ·have h := of_decide_eq_false h
  refine zE cI ?_
  repeat refine ⟨by omega, ?_⟩
  refine W_seq (W_reg ?_)
  refine zE (zA @us_length (zA @us_getD cI)) ?_
  repeat refine ⟨by omega, ?_⟩
  exact W_ret (RetP_1 (.imm rfl))
theorem rAdd_calls (a b : List Nat) (ha : a.length ≤ 100000) (hb : b.length ≤ 100000) (la : lim a) (lb : lim b) : PCalls Tryz.prog 117 [.sl 1 (us a), .sl 1 (us b)] (.sl 1 (us (limbs (vn a + vn b)))) := by
 have h1 := vn_len la
 have h2 := vn_len lb
 have c1 := rTake_calls a (by omega) la
 have c2 := rTake_calls b (by omega) lb
 refine PCalls_of isrAdd (by simp [fnrAdd]) ?_
 unfold coderAdd
 generalize vn a = x at h1 c1 ⊢
 generalize vn b = y at h2 c2 ⊢
 have laX := lim_limbs x
 have laY := lim_limbs y
 refine W_seq (W_reg ?_)
 refine zE cI ?_
 repeat refine ⟨by omega, ?_⟩
 refine W_seq (W_reg ?_)
 refine zE cI ?_
 repeat refine ⟨by omega, ?_⟩
 refine cP c1 ?_
 refine zE cI ?_
 repeat refine ⟨by omega, ?_⟩
 refine cP c2 ?_
 refine zE cI ?_
 repeat refine ⟨by omega, ?_⟩
 refine W_seq (W_reg ?_)
 refine zE cI ?_
 repeat refine ⟨by omega, ?_⟩
 refine W_seq (W_reg ?_)
 refine zE cI ?_
 repeat refine ⟨by omega, ?_⟩
 obtain ⟨M, hM⟩ : ∃ M, M = max (limbs x).length (limbs y).length := ⟨_, rfl⟩
 refine W_seq (W_seq (W_reg ?_))
 refine zE cI ?_
 repeat refine ⟨by omega, ?_⟩
 refine W_block (W_loop (σ := List Nat × Nat) (fun s => [(0, .sl 1 (us (limbs x))), (1, .sl 1 (us (limbs y))), (5, oap 35 s.1), (6, .int .u64 s.2), (7, .int .i64 s.1.length)])
  (fun s => hap 35 s.1)
  (fun s => s.1.length ≤ M + 1 ∧ lim s.1 ∧ s.2 ≤ 1 ∧ nv s.1 + 4294967296 ^ s.1.length * s.2 = nv ((limbs x).take s.1.length) + nv ((limbs y).take s.1.length))
  (fun s => M + 1 - s.1.length) ([], 0) ⟨Nat.zero_le _, lim_nil, by decide, by simp [nv]⟩ ?_ rfl ?_)
 ·simp [subF, lk, oap]
 ·rintro ⟨q, c⟩ ⟨hn, hlq, hc, hnv⟩
  simp only at hn hlq hc hnv ⊢
  refine W_seq (W_seq (W_reg ?_))
  refine zE (zA @us_length cI) ?_
  repeat refine ⟨by omega, ?_⟩
  have hmx : (if ((limbs y).length : Int) > (limbs x).length then ((limbs y).length : Int) else (limbs x).length) = (M : Int) := by rw [hM]; split <;> omega
  rw [hmx]
  refine W_cond rfl (fun hcd => W_skip ?_) (fun hcd => W_exit ?_)
  ·have hlt := of_decide_eq_true hcd
   have hxn := lim_getD laX q.length
   have hyn := lim_getD laY q.length
   have cx := rLimb_calls (limbs x) q.length (by omega) laX
   have cy := rLimb_calls (limbs y) q.length (by omega) laY
   have hdg : ((limbs x).getD q.length 0 + (limbs y).getD q.length 0 + c) / 4294967296 ≤ 1 := by omega
   have hdl : ((limbs x).getD q.length 0 + (limbs y).getD q.length 0 + c) % 4294967296 < 4294967296 := by omega
   have hsum := add_step (x := (limbs x).getD q.length 0) (y := (limbs y).getD q.length 0) hnv
   rw [← nv_take_succ', ← nv_take_succ', ← Nat.pow_succ] at hsum
   refine zE cI ?_
   repeat refine ⟨by omega, ?_⟩
   refine W_seq (W_block (W_seq (W_reg ?_)))
   refine zE cI ?_
   repeat refine ⟨by omega, ?_⟩
   refine cP cx ?_
   refine zE cI ?_
   repeat refine ⟨by omega, ?_⟩
   refine cP cy ?_
   generalize (limbs x).getD q.length 0 = xn at *
   generalize (limbs y).getD q.length 0 = yn at *
   refine zE (zA @add_nat cI) ?_
   repeat refine ⟨by omega, ?_⟩
   refine W_reg ?_
   have hres : lim (q ++ [(xn + yn + c) % 4294967296]) := by
    intro z hz
    rcases List.mem_append.1 hz with h | h
    ·exact hlq z h
    ·rw [List.mem_singleton.1 h]; exact hdl
   have hnq : nv (q ++ [(xn + yn + c) % 4294967296]) + 4294967296 ^ (q.length + 1) * ((xn + yn + c) / 4294967296) = nv ((limbs x).take (q.length + 1)) + nv ((limbs y).take (q.length + 1)) := by
    rw [nv_app]
    simp only [nv, Nat.mul_zero, Nat.add_zero]
    exact hsum
   generalize xn + yn + c = s at *
   have e7 : ((q.length : Int) + 1) = ((q.length + 1 : Nat) : Int) := by omega
   cases q with
   | nil =>
    simp only [oap, hap]
    simp (maxSteps := 1000000) (disch := omega) only [cA, cB, cN, FnD.nb, lk, lkH, Dst.onT, Dst.onX, Dst.slot, setF, setH, mapF, mapH, initF, binE, unE, cnt, boundE, newsE, freshE, freshT, opE, rmH, blkQ, frz_us, Nat.reduceEqDiff, Nat.reduceLT, Nat.reduceAdd, Nat.reduceMul, Nat.reduceMod, ↓reduceIte, reduceCtorEq, Nat.reduceLeDiff, wu32', mod32, rf1, one1, newsE, shr32u64, List.length_singleton, nbrAdd, cI]
    repeat refine ⟨by omega, ?_⟩
    refine W_reg ?_
    refine zE cI ?_
    refine ⟨([s % 4294967296], s / 4294967296), ⟨by simp, hres, hdg, hnq⟩, by simp, by simp [subF, lk, oap], rfl⟩
   | cons z q =>
    have hql : (z :: q).length = q.length + 1 := rfl
    simp only [oap, hap]
    simp (maxSteps := 1000000) (disch := omega) only [cA, cB, cN, FnD.nb, lk, lkH, Dst.onT, Dst.onX, Dst.slot, setF, setH, mapF, mapH, initF, binE, unE, cnt, boundE, newsE, freshE, freshT, opE, rmH, blkQ, frz_us, Nat.reduceEqDiff, Nat.reduceLT, Nat.reduceAdd, Nat.reduceMul, Nat.reduceMod, ↓reduceIte, reduceCtorEq, Nat.reduceLeDiff, wu32', mod32, rf1, one1, newsE, shr32u64, us_length, us_snoc, us_purge, cI]
    repeat refine ⟨by omega, ?_⟩
    refine W_reg ?_
    refine zE cI ?_
    refine ⟨(z :: q ++ [s % 4294967296], s / 4294967296), ⟨by simp only [List.length_append, List.length_cons, List.length_nil] at *; omega, hres, hdg, by simpa using hnq⟩, by simp only [List.length_append, List.length_cons, List.length_nil] at *; omega, by simp [subF, lk, oap], by simp [hap, us]⟩
  ·have hge := of_decide_eq_false hcd
   have hl : q.length = M + 1 := by omega
   have e1 : (limbs x).take q.length = limbs x := List.take_of_length_le (by omega)
   have e2 : (limbs y).take q.length = limbs y := List.take_of_length_le (by omega)
   rw [e1, e2, nv_limbs, nv_limbs, hl] at hnv
   have hx : x < 4294967296 ^ M := limbs_len.1 (by omega)
   have hy : y < 4294967296 ^ M := limbs_len.1 (by omega)
   have hc0 : c = 0 := by
    rcases Nat.eq_zero_or_pos c with e | e
    ·exact e
    ·have h3 := Nat.mul_le_mul_left (4294967296 ^ (M + 1)) e
     rw [Nat.mul_one, Nat.pow_succ] at h3
     rw [Nat.pow_succ] at hnv
     omega
   subst hc0
   rw [Nat.mul_zero, Nat.add_zero] at hnv
   have ct := rTrim_calls q (by omega) hlq
   rw [hnv] at ct
   obtain ⟨z, r, rfl⟩ : ∃ z r, q = z :: r := by
    cases q with
    | nil => simp at hl
    | cons z r => exact ⟨z, r, rfl⟩
   simp only [oap, hap]
   refine zE cI ?_
   repeat refine ⟨by omega, ?_⟩
   refine W_seq (W_reg ?_)
   refine zE cI ?_
   repeat refine ⟨by omega, ?_⟩
   refine callC_freeze rfl 35 (cells := us (z :: r)) (by simp [lkH]) (us_rf _) ?_
   simp (maxSteps := 1000000) (disch := omega) only [cA, cB, cN, FnD.nb, lk, lkH, Dst.onT, Dst.onX, Dst.slot, setF, setH, mapF, mapH, initF, binE, unE, cnt, boundE, newsE, freshE, freshT, opE, rmH, blkQ, frz_us, Nat.reduceEqDiff, Nat.reduceLT, Nat.reduceAdd, Nat.reduceMul, Nat.reduceMod, ↓reduceIte, reduceCtorEq, Nat.reduceLeDiff, frz_us (show r.length + 1 = (z :: r).length from rfl), cI]
   refine cP ct ?_
   refine zE cI ?_
   exact W_ret (RetP_1 (.imm rfl))
theorem rSub_calls (a b : List Nat) (ha : a.length ≤ 100000) (hb : b.length ≤ 100000) (la : lim a) (lb : lim b) : PCalls Tryz.prog 118 [.sl 1 (us a), .sl 1 (us b)] (.tup [.sl 1 (us (limbs (vn a - vn b))), .bool (decide (vn b ≤ vn a))]) := by
 have h1 := vn_len la
 have h2 := vn_len lb
 have c1 := rTake_calls a (by omega) la
 have c2 := rTake_calls b (by omega) lb
 refine PCalls_of isrSub (by simp [fnrSub]) ?_
 unfold coderSub
 generalize vn a = x at h1 c1 ⊢
 generalize vn b = y at h2 c2 ⊢
 have laX := lim_limbs x
 have laY := lim_limbs y
 have cc := rcmp_calls x y (by omega) (by omega)
 refine W_seq (W_reg ?_)
 refine zE cI ?_
 repeat refine ⟨by omega, ?_⟩
 refine W_seq (W_reg ?_)
 refine zE cI ?_
 repeat refine ⟨by omega, ?_⟩
 refine cP c1 ?_
 refine zE cI ?_
 repeat refine ⟨by omega, ?_⟩
 refine cP c2 ?_
 refine zE cI ?_
 repeat refine ⟨by omega, ?_⟩
 refine W_seq (W_seq (W_reg ?_))
 refine zE cI ?_
 repeat refine ⟨by omega, ?_⟩
 refine cP cc ?_
 refine zE cI ?_
 repeat refine ⟨by omega, ?_⟩
 refine W_cond rfl (fun h => ?_) (fun h => W_skip ?_)
 ·have hlt : x < y := by
   have h := of_decide_eq_true h
   unfold cmpN at h
   split at h
   ·assumption
   ·split at h <;> omega
  rw [show x - y = 0 by omega, limbs_zero, decide_eq_false (by omega : ¬ y ≤ x)]
  refine W_seq (W_reg ?_)
  refine zE cI ?_
  repeat refine ⟨by omega, ?_⟩
  exact W_ret (RetP_2 (.nils 1) (.imm rfl))
 ·have hle : y ≤ x := by
   have h := of_decide_eq_false h
   unfold cmpN at h
   split at h
   ·omega
   ·omega
  rw [decide_eq_true hle]
  refine zE cI ?_
  repeat refine ⟨by omega, ?_⟩
  refine W_seq (W_reg ?_)
  refine zE cI ?_
  repeat refine ⟨by omega, ?_⟩
  refine W_seq (W_reg ?_)
  refine zE cI ?_
  repeat refine ⟨by omega, ?_⟩
  refine W_seq (W_seq (W_reg ?_))
  refine zE cI ?_
  repeat refine ⟨by omega, ?_⟩
  refine W_block (W_loop (σ := List Nat × Nat) (fun s => [(0, .sl 1 (us (limbs x))), (1, .sl 1 (us (limbs y))), (6, oap 38 s.1), (7, .int .u64 s.2), (8, .int .i64 s.1.length)])
   (fun s => hap 38 s.1)
   (fun s => s.1.length ≤ (limbs x).length ∧ lim s.1 ∧ s.2 ≤ 1 ∧ nv s.1 + nv ((limbs y).take s.1.length) = nv ((limbs x).take s.1.length) + 4294967296 ^ s.1.length * s.2)
   (fun s => (limbs x).length - s.1.length) ([], 0) ⟨Nat.zero_le _, lim_nil, by decide, by simp [nv]⟩ ?_ rfl ?_)
  ·simp [subF, lk, oap]
  ·rintro ⟨q, c⟩ ⟨hn, hlq, hc, hnv⟩
   simp only at hn hlq hc hnv ⊢
   refine W_seq (W_seq (W_reg ?_))
   refine zE (zA @us_length cI) ?_
   repeat refine ⟨by omega, ?_⟩
   refine W_cond rfl (fun hcd => W_skip ?_) (fun hcd => W_exit ?_)
   ·have hlt := of_decide_eq_true hcd
    have hxn := lim_getD laX q.length
    have hyn := lim_getD laY q.length
    have cx := rLimb_calls (limbs x) q.length (by omega) laX
    have cy := rLimb_calls (limbs y) q.length (by omega) laY
    obtain ⟨hsum0, hdg0⟩ := sub_step (x := (limbs x).getD q.length 0) (y := (limbs y).getD q.length 0) hxn hyn hc hnv
    rw [← nv_take_succ', ← nv_take_succ', ← Nat.pow_succ] at hsum0
    refine zE cI ?_
    repeat refine ⟨by omega, ?_⟩
    refine W_seq (W_block (W_seq (W_reg ?_)))
    refine zE cI ?_
    repeat refine ⟨by omega, ?_⟩
    refine cP cx ?_
    refine zE cI ?_
    repeat refine ⟨by omega, ?_⟩
    refine cP cy ?_
    obtain ⟨s, es, hsum, hdg⟩ : ∃ s : Nat, (((limbs x).getD q.length 0 : Nat) : Int) + 4294967296 - ((limbs y).getD q.length 0 : Nat) - c = (s : Int) ∧
      (nv q + 4294967296 ^ q.length * (s % 4294967296)) + nv ((limbs y).take (q.length + 1)) = nv ((limbs x).take (q.length + 1)) + 4294967296 ^ (q.length + 1) * (1 - s / 4294967296) ∧ s / 4294967296 ≤ 1 :=
     ⟨_, by omega, hsum0, hdg0⟩
    clear hsum0 hdg0
    generalize (limbs x).getD q.length 0 = xn at hxn es cx ⊢
    generalize (limbs y).getD q.length 0 = yn at hyn es cy ⊢
    refine zE (zA es cI) ?_
    repeat refine ⟨by omega, ?_⟩
    refine W_reg ?_
    have hres : lim (q ++ [s % 4294967296]) := by
     intro z hz
     rcases List.mem_append.1 hz with h | h
     ·exact hlq z h
     ·rw [List.mem_singleton.1 h]; omega
    have hnq : nv (q ++ [s % 4294967296]) + nv ((limbs y).take (q.length + 1)) = nv ((limbs x).take (q.length + 1)) + 4294967296 ^ (q.length + 1) * (1 - s / 4294967296) := by
     rw [nv_app]
     simp only [nv, Nat.mul_zero, Nat.add_zero]
     exact hsum
    have e1 : ((1 : Int) - ((s / 4294967296 : Nat) : Int)) = ((1 - s / 4294967296 : Nat) : Int) := by omega
    have e7 : ((q.length : Int) + 1) = ((q.length + 1 : Nat) : Int) := by omega
    cases q with
    | nil =>
     simp only [oap, hap]
     simp (maxSteps := 1000000) (disch := omega) only [cA, cB, cN, FnD.nb, lk, lkH, Dst.onT, Dst.onX, Dst.slot, setF, setH, mapF, mapH, initF, binE, unE, cnt, boundE, newsE, freshE, freshT, opE, rmH, blkQ, frz_us, Nat.reduceEqDiff, Nat.reduceLT, Nat.reduceAdd, Nat.reduceMul, Nat.reduceMod, ↓reduceIte, reduceCtorEq, Nat.reduceLeDiff, wu32', mod32, rf1, one1, newsE, shr32u64, List.length_singleton, nbrSub, e1, cI]
     repeat refine ⟨by omega, ?_⟩
     refine W_reg ?_
     refine zE cI ?_
     refine ⟨([s % 4294967296], 1 - s / 4294967296), ⟨by simp only [List.length_append, List.length_cons, List.length_nil] at *; omega, hres, by simp only; omega, hnq⟩, by simp only [List.length_append, List.length_cons, List.length_nil] at *; omega, by simp [subF, lk, oap], rfl⟩
    | cons z q =>
     have hql : (z :: q).length = q.length + 1 := rfl
     simp only [oap, hap]
     simp (maxSteps := 1000000) (disch := omega) only [cA, cB, cN, FnD.nb, lk, lkH, Dst.onT, Dst.onX, Dst.slot, setF, setH, mapF, mapH, initF, binE, unE, cnt, boundE, newsE, freshE, freshT, opE, rmH, blkQ, frz_us, Nat.reduceEqDiff, Nat.reduceLT, Nat.reduceAdd, Nat.reduceMul, Nat.reduceMod, ↓reduceIte, reduceCtorEq, Nat.reduceLeDiff, wu32', mod32, rf1, one1, newsE, shr32u64, us_length, us_snoc, us_purge, e1, cI]
     repeat refine ⟨by omega, ?_⟩
     refine W_reg ?_
     refine zE cI ?_
     refine ⟨(z :: q ++ [s % 4294967296], 1 - s / 4294967296), ⟨by simp only [List.length_append, List.length_cons, List.length_nil] at *; omega, hres, by simp only; omega, by simpa using hnq⟩, by simp only [List.length_append, List.length_cons, List.length_nil] at *; omega, by simp [subF, lk, oap], by simp [hap, us]⟩
   ·have hge := of_decide_eq_false hcd
    have hl : q.length = (limbs x).length := by omega
    have hly : (limbs y).length ≤ (limbs x).length := limbs_len.2 (Nat.lt_of_le_of_lt hle (limbs_len.1 (Nat.le_refl _)))
    have e1 : (limbs x).take q.length = limbs x := List.take_of_length_le (by omega)
    have e2 : (limbs y).take q.length = limbs y := List.take_of_length_le (by omega)
    have hql := nv_lt hlq
    rw [e1, e2, nv_limbs, nv_limbs] at hnv
    have hc0 : c = 0 := by
     have hc2 : c = 0 ∨ c = 1 := by omega
     rcases hc2 with e | e
     ·exact e
     ·subst e; rw [Nat.mul_one] at hnv; omega
    subst hc0
    rw [Nat.mul_zero, Nat.add_zero] at hnv
    have hnq : nv q = x - y := by omega
    have ct := rTrim_calls q (by omega) hlq
    rw [hnq] at ct
    cases q with
    | nil =>
     simp only [oap, hap]
     refine zE cI ?_
     repeat refine ⟨by omega, ?_⟩
     refine W_seq (W_reg ?_)
     refine zE cI ?_
     repeat refine ⟨by omega, ?_⟩
     refine callC_nil1 1 rfl ct ?_
     refine zE cI ?_
     exact W_ret (RetP_2 (.imm rfl) (.imm rfl))
    | cons z r =>
     simp only [oap, hap]
     refine zE cI ?_
     repeat refine ⟨by omega, ?_⟩
     refine W_seq (W_reg ?_)
     refine zE cI ?_
     repeat refine ⟨by omega, ?_⟩
     refine callC_freeze rfl 38 (cells := us (z :: r)) (by simp [lkH]) (us_rf _) ?_
     simp (maxSteps := 1000000) (disch := omega) only [cA, cB, cN, FnD.nb, lk, lkH, Dst.onT, Dst.onX, Dst.slot, setF, setH, mapF, mapH, initF, binE, unE, cnt, boundE, newsE, freshE, freshT, opE, rmH, blkQ, frz_us, Nat.reduceEqDiff, Nat.reduceLT, Nat.reduceAdd, Nat.reduceMul, Nat.reduceMod, ↓reduceIte, reduceCtorEq, Nat.reduceLeDiff, frz_us (show r.length + 1 = (z :: r).length from rfl), cI]
     refine cP ct ?_
     refine zE cI ?_
     exact W_ret (RetP_2 (.imm rfl) (.imm rfl))
theorem Sub32_calls (x y c d b : Nat) (h1 : x < 4294967296) (h2 : y < 4294967296) (h3 : c ≤ 1) (hd : d + y + c = x + 4294967296 * b) (h : d < 4294967296) (hb : b ≤ 1) :
  PCalls Tryz.prog 221 [.int .u32 x, .int .u32 y, .int .u32 c] (.tup [.int .u32 d, .int .u32 b]) := by
 have e0 : (if IntKind.u32.signed = true then (-1 : Int) else IntKind.u32.max) = 4294967295 := by decide
 have ed := sub_wrap' hd h
 have eb := bor_expr' h1 h2 h3 hd h hb
 refine PCalls_of isSub32 (by simp [fnSub32]) ?_
 unfold codeSub32
 refine W_seq (W_reg ?_)
 refine zE cI ?_
 repeat refine ⟨by omega, ?_⟩
 refine W_seq (W_reg ?_)
 refine zE (zA ed cI) ?_
 repeat refine ⟨by omega, ?_⟩
 refine W_seq (W_reg ?_)
 refine zE (zA e0 (zA eb cI)) ?_
 repeat refine ⟨by omega, ?_⟩
 exact W_ret (RetP_2 (.imm rfl) (.imm rfl))
theorem nSub_calls (a b : List Nat) (ha : a.length ≤ 100000) (hb : b.length ≤ 100000) (la : lim a) (lb : lim b) : PCalls Tryz.prog 162 [.sl 1 (us a), .sl 1 (us b)] (.tup [.sl 1 (us (limbs (vn a - vn b))), .bool (decide (vn b ≤ vn a))]) := by
 have h1 := vn_len la
 have h2 := vn_len lb
 have c1 := nValue_calls a (by omega) la
 have c2 := nValue_calls b (by omega) lb
 refine PCalls_of isnSub (by simp [fnnSub]) ?_
 unfold codenSub
 generalize vn a = x at h1 c1 ⊢
 generalize vn b = y at h2 c2 ⊢
 have laX := lim_limbs x
 have laY := lim_limbs y
 have cc := nCmp_calls (limbs x) (limbs y) (by omega) (by omega) laX laY
 rw [vn_limbs, vn_limbs] at cc
 refine W_seq (W_reg ?_)
 refine zE cI ?_
 repeat refine ⟨by omega, ?_⟩
 refine W_seq (W_reg ?_)
 refine zE cI ?_
 repeat refine ⟨by omega, ?_⟩
 refine cP c1 ?_
 refine zE cI ?_
 repeat refine ⟨by omega, ?_⟩
 refine cP c2 ?_
 refine zE cI ?_
 repeat refine ⟨by omega, ?_⟩
 refine W_seq (W_seq (W_reg ?_))
 refine zE cI ?_
 repeat refine ⟨by omega, ?_⟩
 refine cP cc ?_
 refine zE cI ?_
 repeat refine ⟨by omega, ?_⟩
 refine W_cond rfl (fun h => ?_) (fun h => W_skip ?_)
 ·have hlt : x < y := by
   have h := of_decide_eq_true h
   unfold cmpN at h
   split at h
   ·assumption
   ·split at h <;> omega
  rw [show x - y = 0 by omega, limbs_zero, decide_eq_false (by omega : ¬ y ≤ x)]
  refine W_seq (W_reg ?_)
  refine zE cI ?_
  repeat refine ⟨by omega, ?_⟩
  exact W_ret (RetP_2 (.nils 1) (.imm rfl))
 ·have hle : y ≤ x := by
   have h := of_decide_eq_false h
   unfold cmpN at h
   split at h
   ·omega
   ·omega
  rw [decide_eq_true hle]
  refine zE cI ?_
  repeat refine ⟨by omega, ?_⟩
  refine W_seq (W_reg ?_)
  refine zE (zA @us_length (zA @us_rep (zA @nbnSub cI))) ?_
  repeat refine ⟨by omega, ?_⟩
  refine W_seq (W_reg ?_)
  refine zE cI ?_
  repeat refine ⟨by omega, ?_⟩
  refine W_seq (W_seq (W_reg ?_))
  refine zE (zA @us_length cI) ?_
  repeat refine ⟨by omega, ?_⟩
  refine W_block (W_loop (σ := Nat × List Nat × Nat) (fun s => [(0, .sl 1 (us (limbs x))), (1, .sl 1 (us (limbs y))), (6, .osl 1 21 0 (limbs x).length), (7, .int .u32 s.2.2), (22, .sl 1 (us (limbs x))), (23, .int .i64 (limbs x).length), (24, .int .i64 s.1)])
   (fun s => [(21, us (s.2.1 ++ List.replicate ((limbs x).length - s.1) 0))])
   (fun s => s.1 ≤ (limbs x).length ∧ s.2.1.length = s.1 ∧ lim s.2.1 ∧ s.2.2 ≤ 1 ∧ nv s.2.1 + nv ((limbs y).take s.1) = nv ((limbs x).take s.1) + 4294967296 ^ s.1 * s.2.2)
   (fun s => (limbs x).length - s.1) (0, [], 0) ⟨Nat.zero_le _, rfl, lim_nil, by decide, by simp [nv]⟩ ?_ ?_ ?_)
  ·simp [subF, lk]
  ·simp
  ·rintro ⟨n, q, c⟩ ⟨hn, hq, hlq, hc, hnv⟩
   simp only at hn hq hlq hc hnv ⊢
   refine W_seq (W_reg ?_)
   refine zE cI ?_
   repeat refine ⟨by omega, ?_⟩
   refine W_seq (W_cond rfl (fun hcd => W_skip ?_) (fun hcd => W_exit ?_))
   ·have hlt := of_decide_eq_true hcd
    have hlt : n < (limbs x).length := by omega
    refine zE cI ?_
    repeat refine ⟨by omega, ?_⟩
    have hxn := lim_getD laX n
    have hyn := lim_getD laY n
    refine W_seq (W_block (W_seq (W_reg ?_)))
    refine zE (zA @us_length (zA @us_getD cI)) ?_
    repeat refine ⟨by omega, ?_⟩
    refine W_seq (W_reg ?_)
    refine zE cI ?_
    repeat refine ⟨by omega, ?_⟩
    refine W_seq (W_join (ι := Unit) (fun _ => True) (fun _ => [(0, .sl 1 (us (limbs x))), (1, .sl 1 (us (limbs y))), (6, .osl 1 21 0 (limbs x).length), (7, .int .u32 c), (8, .int .i64 n), (9, .int .u32 ((limbs x).getD n 0)), (10, .int .u32 ((limbs y).getD n 0)), (22, .sl 1 (us (limbs x))), (23, .int .i64 (limbs x).length), (24, .int .i64 n)]) (fun _ => [(21, us (q ++ List.replicate ((limbs x).length - n) 0))]) (W_seq (W_reg ?_)) ?_)
    ·refine zE (zA @us_length cI) ?_
     repeat refine ⟨by omega, ?_⟩
     refine W_cond rfl (fun hv => W_reg ?_) (fun hv => W_skip ?_)
     ·have hl2 := of_decide_eq_true hv
      refine zE (zA @us_length (zA @us_getD cI)) ?_
      refine ⟨by omega, by omega, ⟨(), by simp [subF, lk]⟩⟩
     ·have hl2 := of_decide_eq_false hv
      refine zE cI ?_
      have : (limbs y).getD n 0 = 0 := by rw [List.getD_eq_getElem?_getD, List.getElem?_eq_none (by omega)]; rfl
      rw [this]
      refine ⟨(), by simp [subF, lk]⟩
    ·rintro ⟨⟩ -
     have hlen : (q ++ List.replicate ((limbs x).length - n) 0).length = (limbs x).length := by simp; omega
     obtain ⟨k, hk⟩ : ∃ k, (limbs x).length - n = k + 1 := ⟨(limbs x).length - n - 1, by omega⟩
     rw [hk] at hlen ⊢
     obtain ⟨dg, c', hdc, hdl, hb1⟩ := sub_ex hxn hyn hc
     have ca := Sub32_calls _ _ c dg c' hxn hyn hc hdc hdl hb1
     have hsum := sub_step' hnv hdc
     rw [← nv_take_succ', ← nv_take_succ', ← Nat.pow_succ] at hsum
     refine W_reg ?_
     refine zE cI ?_
     repeat refine ⟨by omega, ?_⟩
     refine cP ca ?_
     have hset : (q ++ List.replicate (k + 1) 0).set n dg = (q ++ [dg]) ++ List.replicate k 0 := by rw [← hq]; exact set_app k dg q
     refine zE (zA @us_length (zA hlen (zA @us_set (zA hset cI)))) ?_
     repeat refine ⟨by omega, ?_⟩
     refine W_reg ?_
     refine zE cI ?_
     refine ⟨(n + 1, q ++ [dg], c'), ⟨by omega, by simp [hq], ?_, hb1, ?_⟩, by omega, by simp [subF, lk], ?_⟩
     ·intro z hz
      rcases List.mem_append.1 hz with h | h
      ·exact hlq z h
      ·rw [List.mem_singleton.1 h]; exact hdl
     ·rw [nv_app, hq]
      simp only [nv, Nat.mul_zero, Nat.add_zero]
      exact hsum
     ·have : (limbs x).length - (n + 1) = k := by omega
      rw [this]
   ·have hge := of_decide_eq_false hcd
    have hnl : n = (limbs x).length := by omega
    subst hnl
    have hly : (limbs y).length ≤ (limbs x).length := limbs_len.2 (Nat.lt_of_le_of_lt hle (limbs_len.1 (Nat.le_refl _)))
    have hql := nv_lt hlq
    rw [hq] at hql
    rw [List.take_of_length_le (Nat.le_refl _), List.take_of_length_le hly, nv_limbs, nv_limbs] at hnv
    have hc0 : c = 0 := by
     have hc2 : c = 0 ∨ c = 1 := by omega
     rcases hc2 with e | e
     ·exact e
     ·subst e; rw [Nat.mul_one] at hnv; omega
    subst hc0
    rw [Nat.mul_zero, Nat.add_zero] at hnv
    have hnq : nv q = x - y := by omega
    have ct := nTrim_calls q (by omega) hlq
    rw [hnq] at ct
    simp only [Nat.sub_self, List.replicate_zero, List.append_nil]
    refine zE cI ?_
    repeat refine ⟨by omega, ?_⟩
    refine W_seq (W_reg ?_)
    refine zE cI ?_
    repeat refine ⟨by omega, ?_⟩
    refine callC_freeze rfl 21 (cells := us q) (by simp [lkH]) (us_rf _) ?_
    refine zE cI ?_
    refine cP ct ?_
    refine zE cI ?_
    exact W_ret (RetP_2 (.imm rfl) (.imm rfl))
theorem cells_at (p d s t : List Nat) (h : d.length < s.length) : p ++ d ++ s.drop d.length ++ t = (p ++ d) ++ s.getD d.length 0 :: (s.drop (d.length + 1) ++ t) := by
 rw [List.drop_eq_getElem_cons h, List.getD_eq_getElem?_getD, List.getElem?_eq_getElem h]; simp only [List.append_assoc, List.cons_append, Option.getD_some]
theorem mul_w3 {a v c : Nat} (h1 : a < 4294967296) (h2 : v < 4294967296) (h3 : c < 4294967296) : IntKind.u64.wrap ((c : Int) + ((a * v : Nat) : Int)) = ((c + a * v : Nat) : Int) := by
 have := mul_le h1 h2
 generalize a * v = p at this ⊢
 rw [wu64 (by omega) (by omega)]; omega
theorem nReduce_calls (p s t v : List Nat) (q : Nat) (hlen : (p ++ s ++ t).length ≤ 1000000) (ls : lim s) (lv : lim v) (hvl : v.length ≤ s.length) (hq : q < 4294967296) (hqv : q * nv v < 4294967296 ^ s.length) :
  WCalls Tryz.prog 253 [.osl 1 1048576 p.length s.length, .sl 1 (us v), .int .u64 q] (us (p ++ s ++ t)) (.bool (decide (nv s < q * nv v)))
   (us (p ++ dig s.length ((nv s + 4294967296 ^ s.length - q * nv v) % 4294967296 ^ s.length) ++ t)) := by
 simp only [List.length_append] at hlen
 refine WCalls_of isnReduce (by simp [fnnReduce]) rfl ?_
 unfold codenReduce
 refine zS cI ?_
 refine W_loop (σ := List Nat × Nat × Nat) (fun z => [(0, .osl 1 1048576 p.length s.length), (1, .sl 1 (us v)), (2, .int .u64 q), (7, .int .u64 z.2.1), (8, .int .u32 z.2.2), (12, .int .i64 s.length), (13, .int .i64 z.1.length)])
  (fun z => [(1048576, us (p ++ z.1 ++ s.drop z.1.length ++ t))])
  (fun z => z.1.length ≤ s.length ∧ lim z.1 ∧ z.2.1 < 4294967296 ∧ z.2.2 ≤ 1 ∧ nv z.1 + q * nv (v.take z.1.length) = nv (s.take z.1.length) + 4294967296 ^ z.1.length * (z.2.1 + z.2.2) ∧ 4294967296 ^ z.1.length * z.2.1 ≤ q * nv (v.take z.1.length))
  (fun z => s.length - z.1.length) ([], 0, 0) ⟨Nat.zero_le _, lim_nil, by simp, by simp, by simp [nv], by simp⟩ ?_ (by simp) ?_
 ·simp [subF, lk]
 ·rintro ⟨d, c, b⟩ ⟨hd, ld, hc, hb, hnv, hcar⟩
  simp only at hd ld hc hb hnv hcar ⊢
  refine zS cI ?_
  refine W_cond rfl (fun h1 => W_skip ?_) (fun h1 => W_exit ?_)
  ·have h1 := of_decide_eq_true h1
   have hlt : d.length < s.length := by omega
   have hy := lim_getD lv d.length
   have hx := lim_getD ls d.length
   have tv := nv_take_succ' (a := v) d.length
   have ts := nv_take_succ' (a := s) d.length
   have hcells := cells_at p d s t hlt
   have hl : (p ++ d ++ s.getD d.length 0 :: (s.drop (d.length + 1) ++ t)).length = p.length + s.length + t.length := by simp; omega
   have hg : (p ++ d ++ s.getD d.length 0 :: (s.drop (d.length + 1) ++ t)).getD (p.length + d.length) 0 = s.getD d.length 0 := by
    have := getD_mid (p ++ d) (s.getD d.length 0) (s.drop (d.length + 1) ++ t)
    rwa [List.length_append] at this
   have hset : ∀ z, (p ++ d ++ s.getD d.length 0 :: (s.drop (d.length + 1) ++ t)).set (p.length + d.length) z = p ++ (d ++ [z]) ++ s.drop (d ++ [z]).length ++ t := fun z => by
    have := set_mid (p ++ d) (s.getD d.length 0) z (s.drop (d.length + 1) ++ t)
    rw [List.length_append] at this
    rw [this]; simp
   refine zS (zA @us_length cI) ?_
   refine W_join (ι := Unit) (fun _ => True) (fun _ => [(0, .osl 1 1048576 p.length s.length), (1, .sl 1 (us v)), (2, .int .u64 q), (7, .int .u64 c), (8, .int .u32 b), (9, .int .i64 d.length), (10, .int .u64 (v.getD d.length 0 : Nat)), (12, .int .i64 s.length), (13, .int .i64 d.length)])
    (fun _ => [(1048576, us (p ++ d ++ s.drop d.length ++ t))]) ?_ ?_
   ·refine W_cond rfl (fun h2 => ?_) (fun h2 => W_skip ?_)
    ·have h2 := of_decide_eq_true h2
     refine zS (zA @us_length (zA @us_getD cI)) ?_
     first | exact ⟨(), trivial, by simp [subF, lk], rfl⟩ | exact ⟨(), by simp [subF, lk], rfl⟩ | exact ⟨(), by simp [subF, lk]⟩ | exact ⟨(), trivial, by simp [subF, lk]⟩
    ·have h2 := of_decide_eq_false h2
     have e0 : v.getD d.length 0 = 0 := by rw [List.getD_eq_getElem?_getD, List.getElem?_eq_none (by omega)]; rfl
     rw [e0]
     first | exact ⟨(), trivial, by simp [subF, lk], rfl⟩ | exact ⟨(), by simp [subF, lk], rfl⟩ | exact ⟨(), by simp [subF, lk]⟩ | exact ⟨(), trivial, by simp [subF, lk]⟩
   ·rintro ⟨⟩ _
    rw [hcells]
    generalize v.getD d.length 0 = y at hy tv ⊢
    generalize s.getD d.length 0 = x at hx ts hl hg hset ⊢
    obtain ⟨d', b', e1, e2, e3⟩ := sub_ex (c := b) hx (Nat.mod_lt (c + q * y) (by decide) : (c + q * y) % 4294967296 < 4294967296) hb
    have cs := Sub32_calls x ((c + q * y) % 4294967296) b d' b' hx (Nat.mod_lt _ (by decide)) hb e1 e2 e3
    have hstep := red_step hnv e1
    have hcarry := red_carry (y := y) hcar
    rw [← tv, ← ts, ← Nat.pow_succ] at hstep
    rw [← tv, ← Nat.pow_succ] at hcarry
    have hc2 : (c + q * y) / 4294967296 < 4294967296 := by
     have := mul_le hq hy
     generalize q * y = w at this ⊢
     omega
    repeat (first | refine W_seq ?_ | refine W_reg ?_ | refine W_regd ?_ | refine W_regs ?_ | refine W_regp ?_ | refine W_block ?_ | refine And.intro (by omega) ?_ | simp (maxSteps := 1000000) (disch := omega) only [cA, cB, cN, FnD.nb, lk, lkH, Dst.onT, Dst.onX, Dst.slot, setF, setH, mapF, mapH, initF, binE, unE, cnt, boundE, newsE, freshE, freshT, opE, rmH, blkQ, frz_us, Nat.reduceEqDiff, Nat.reduceLT, Nat.reduceAdd, Nat.reduceMul, Nat.reduceMod, ↓reduceIte, reduceCtorEq, Nat.reduceLeDiff, mul_w hq hy, mul_w3 hq hy hc, us_length, hl, us_getD, hg, wu32', mod32, cI])
    refine cP cs ?_
    refine zS (zA @us_length (zA hl (zA @us_set (zA hset (zA @shr32u64 cI))))) ?_
    refine ⟨(d ++ [d'], (c + q * y) / 4294967296, b'), ⟨by simp; omega, lim_append.2 ⟨ld, lim1 e2⟩, hc2, e3, ?_, ?_⟩, by simp; omega, by simp [subF, lk], by simp⟩
    ·simp only [nv_snoc, List.length_append, List.length_cons, List.length_nil]
     exact hstep
    ·simp only [List.length_append, List.length_cons, List.length_nil]
     exact hcarry
  ·have h1 := of_decide_eq_false h1
   have hdl : d.length = s.length := by omega
   rw [hdl, List.take_of_length_le (Nat.le_refl _), List.take_of_length_le hvl] at hnv
   rw [hdl, List.take_of_length_le hvl] at hcar
   have hD := nv_lt ld
   rw [hdl] at hD
   obtain ⟨f1, f2⟩ := red_fin hnv hcar hqv hD (nv_lt ls) hb
   have hdig : d = dig s.length ((nv s + 4294967296 ^ s.length - q * nv v) % 4294967296 ^ s.length) := dig_of ld hdl (by rw [f2, Nat.mod_mod])
   have hbd : decide (¬ (b : Int) = 0) = decide (nv s < q * nv v) := by
    rw [decide_eq_decide, ← f1]; omega
   refine zS (zA hbd cI) ?_
   refine W_ret ⟨RetP_1 (.imm rfl), ?_, us_rf _⟩
   rw [hdl, List.drop_of_length_le (Nat.le_refl _), ← hdig]
   simp [lkH]
theorem nRestore_calls (p s t v : List Nat) (hlen : (p ++ s ++ t).length ≤ 1000000) (ls : lim s) (lv : lim v) (hvl : v.length ≤ s.length) :
  WCalls Tryz.prog 254 [.osl 1 1048576 p.length s.length, .sl 1 (us v)] (us (p ++ s ++ t)) (.tup []) (us (p ++ dig s.length ((nv s + nv v) % 4294967296 ^ s.length) ++ t)) := by
 simp only [List.length_append] at hlen
 refine WCalls_of isnRestore (by simp [fnnRestore]) rfl ?_
 unfold codenRestore
 refine zS cI ?_
 refine W_loop (σ := List Nat × Nat) (fun z => [(0, .osl 1 1048576 p.length s.length), (1, .sl 1 (us v)), (4, .int .u32 z.2), (8, .int .i64 s.length), (9, .int .i64 z.1.length)])
  (fun z => [(1048576, us (p ++ z.1 ++ s.drop z.1.length ++ t))])
  (fun z => z.1.length ≤ s.length ∧ lim z.1 ∧ z.2 ≤ 1 ∧ nv z.1 + 4294967296 ^ z.1.length * z.2 = nv (s.take z.1.length) + nv (v.take z.1.length))
  (fun z => s.length - z.1.length) ([], 0) ⟨Nat.zero_le _, lim_nil, by simp, by simp [nv]⟩ ?_ (by simp) ?_
 ·simp [subF, lk]
 ·rintro ⟨d, c⟩ ⟨hd, ld, hc, hnv⟩
  simp only at hd ld hc hnv ⊢
  refine zS cI ?_
  refine W_cond rfl (fun h1 => W_skip ?_) (fun h1 => W_exit ?_)
  ·have h1 := of_decide_eq_true h1
   have hlt : d.length < s.length := by omega
   have hy := lim_getD lv d.length
   have hx := lim_getD ls d.length
   have tv := nv_take_succ' (a := v) d.length
   have ts := nv_take_succ' (a := s) d.length
   have hcells := cells_at p d s t hlt
   have hl : (p ++ d ++ s.getD d.length 0 :: (s.drop (d.length + 1) ++ t)).length = p.length + s.length + t.length := by simp; omega
   have hg : (p ++ d ++ s.getD d.length 0 :: (s.drop (d.length + 1) ++ t)).getD (p.length + d.length) 0 = s.getD d.length 0 := by
    have := getD_mid (p ++ d) (s.getD d.length 0) (s.drop (d.length + 1) ++ t)
    rwa [List.length_append] at this
   have hset : ∀ z, (p ++ d ++ s.getD d.length 0 :: (s.drop (d.length + 1) ++ t)).set (p.length + d.length) z = p ++ (d ++ [z]) ++ s.drop (d ++ [z]).length ++ t := fun z => by
    have := set_mid (p ++ d) (s.getD d.length 0) z (s.drop (d.length + 1) ++ t)
    rw [List.length_append] at this
    rw [this]; simp
   refine zS (zA @us_length cI) ?_
   refine W_join (ι := Unit) (fun _ => True) (fun _ => [(0, .osl 1 1048576 p.length s.length), (1, .sl 1 (us v)), (4, .int .u32 c), (5, .int .i64 d.length), (6, .int .u32 (v.getD d.length 0 : Nat)), (8, .int .i64 s.length), (9, .int .i64 d.length)])
    (fun _ => [(1048576, us (p ++ d ++ s.drop d.length ++ t))]) ?_ ?_
   ·refine W_cond rfl (fun h2 => ?_) (fun h2 => W_skip ?_)
    ·have h2 := of_decide_eq_true h2
     refine zS (zA @us_length (zA @us_getD cI)) ?_
     first | exact ⟨(), trivial, by simp [subF, lk], rfl⟩ | exact ⟨(), by simp [subF, lk], rfl⟩ | exact ⟨(), by simp [subF, lk]⟩ | exact ⟨(), trivial, by simp [subF, lk]⟩
    ·have h2 := of_decide_eq_false h2
     have e0 : v.getD d.length 0 = 0 := by rw [List.getD_eq_getElem?_getD, List.getElem?_eq_none (by omega)]; rfl
     rw [e0]
     first | exact ⟨(), trivial, by simp [subF, lk], rfl⟩ | exact ⟨(), by simp [subF, lk], rfl⟩ | exact ⟨(), by simp [subF, lk]⟩ | exact ⟨(), trivial, by simp [subF, lk]⟩
   ·rintro ⟨⟩ _
    rw [hcells]
    generalize v.getD d.length 0 = y at hy tv ⊢
    generalize s.getD d.length 0 = x at hx ts hl hg hset ⊢
    have cs := Add32_calls x y c hx hy (by omega)
    have hstep := add_step (x := x) (y := y) hnv
    rw [← tv, ← ts, ← Nat.pow_succ] at hstep
    refine zS (zA @us_length (zA hl (zA @us_getD (zA hg cI)))) ?_
    refine cP cs ?_
    refine zS (zA @us_length (zA hl (zA @us_set (zA hset cI)))) ?_
    refine ⟨(d ++ [(x + y + c) % 4294967296], (x + y + c) / 4294967296), ⟨by simp; omega, lim_append.2 ⟨ld, lim1 (Nat.mod_lt _ (by decide))⟩, by simp only; omega, ?_⟩, by simp; omega, by simp [subF, lk], by simp⟩
    simp only [nv_snoc, List.length_append, List.length_cons, List.length_nil]
    exact hstep
  ·have h1 := of_decide_eq_false h1
   have hdl : d.length = s.length := by omega
   rw [hdl, List.take_of_length_le (Nat.le_refl _), List.take_of_length_le hvl] at hnv
   have hD := nv_lt ld
   rw [hdl] at hD
   have hdig : d = dig s.length ((nv s + nv v) % 4294967296 ^ s.length) := dig_of ld hdl (by rw [Nat.mod_mod, ← hnv, Nat.add_mul_mod_self_left, Nat.mod_eq_of_lt hD])
   refine zE cI ?_
   refine ⟨RetP_0 (.inl rfl), ?_, us_rf _⟩
   rw [hdl, List.drop_of_length_le (Nat.le_refl _), ← hdig]
   simp [lkH]
set_option maxHeartbeats 4000000 in
theorem nDivide_calls (x y n : Nat) (hn : (limbs y).length = n + 2) (hx : (limbs x).length ≤ 100000) (hyx : y ≤ x) :
  PCalls Tryz.prog 226 [.sl 1 (us (limbs x)), .sl 1 (us (limbs y))] (.tup [.sl 1 (us (limbs (x / y))), .sl 1 (us (limbs (x % y)))]) := by
 obtain ⟨m, hm, hm0⟩ : ∃ m, (limbs x).length + 1 = m + (n + 2) ∧ 0 < m := by
  have : n + 2 ≤ (limbs x).length := by
   rcases Nat.lt_or_ge (limbs x).length (n + 2) with e | e
   ·have h1 := limbs_len.1 (show (limbs x).length ≤ n + 1 by omega)
    have h2 := limbs_len.2 (Nat.lt_of_le_of_lt hyx h1)
    omega
   ·exact e
  exact ⟨(limbs x).length + 1 - (n + 2), by omega, by omega⟩
 have ht0 := limbs_top_ne hn
 have htl := lim_getD (lim_limbs y) (n + 1)
 obtain ⟨hk, hV1, hV2⟩ := norm_V hn
 have hxl := limbs_len.1 (Nat.le_refl (limbs x).length)
 have c1 := Lz32_calls ((limbs y).getD (n + 1) 0) htl
 generalize 32 - blen ((limbs y).getD (n + 1) 0) = k at hk hV1 hV2 c1
 have fA := nShifted_fcalls (limbs x) k (by omega) (lim_limbs x) hk
 have cV := nShifted_calls (limbs y) k (by omega) (lim_limbs y) hk
 rw [nv_limbs] at fA cV
 rw [hn] at cV
 have cT := nTrim_calls (dig (n + 2 + 1) (y * 2 ^ k)) (by rw [dig_length]; omega) (dig_lim _ _)
 have hVn : y * 2 ^ k < 4294967296 ^ (n + 2 + 1) := Nat.lt_of_lt_of_le hV1 (Nat.pow_le_pow_right (by decide) (by omega))
 rw [nv_dig, Nat.mod_eq_of_lt hVn] at cT
 have hA1 : x * 2 ^ k < 4294967296 ^ ((limbs x).length + 1) := by
  rw [Nat.pow_succ]
  exact Nat.mul_lt_mul_of_lt_of_le hxl (by have := pow_le31 hk; omega) (by decide)
 have hu0l := dig_length ((limbs x).length + 1) (x * 2 ^ k)
 have hu0 := dig_lim ((limbs x).length + 1) (x * 2 ^ k)
 have hu0v := nv_dig ((limbs x).length + 1) (x * 2 ^ k)
 rw [Nat.mod_eq_of_lt hA1] at hu0v
 generalize dig ((limbs x).length + 1) (x * 2 ^ k) = u0 at *
 have hVl : (limbs (y * 2 ^ k)).length = n + 2 := limbs_len_eq hV1 (Nat.le_trans (Nat.le_mul_of_pos_right _ (by decide)) hV2)
 have hdivx : x / y = x * 2 ^ k / (y * 2 ^ k) := (Nat.mul_div_mul_right _ _ (Nat.two_pow_pos k)).symm
 have hmodx : x % y = x * 2 ^ k % (y * 2 ^ k) / 2 ^ k := by rw [Nat.mul_mod_mul_right, Nat.mul_div_cancel _ (Nat.two_pow_pos k)]
 rw [hdivx, hmodx]
 generalize y * 2 ^ k = V at *
 have hinit : nv (u0.drop m) < V := init_lt (m := m) (n := n + 1) (by rw [show m + (n + 1) = (limbs x).length by omega]; exact hxl) hk hV2 (by omega) hu0v
 have hV0 : 0 < V := by
  have := Nat.pos_of_ne_zero (n := 4294967296 ^ (n + 1)) (by intro h; have := Nat.pow_eq_zero.1 h; omega)
  exact Nat.lt_of_lt_of_le (Nat.mul_pos this (by decide)) hV2
 clear ht0 htl hxl hyx hVn hA1
 (replace hV1 := Hid.mk hV1; replace hV2 := Hid.mk hV2; replace hu0v := Hid.mk hu0v; replace hinit := Hid.mk hinit; replace hdivx := Hid.mk hdivx; replace hmodx := Hid.mk hmodx)
 refine PCalls_of isnDivide (by simp [fnnDivide]) ?_
 unfold codenDivide
 have e1 : (((n + 2 : Nat) : Int) - 1).toNat = n + 1 := by omega
 refine zS (zA @us_length (zA hn (zA @us_getD (zA e1 cI)))) ?_
 refine cP c1 ?_
 refine zS (zA @us_length (zA hn cI)) ?_
 refine callC_fresh rfl 24 (by simp [lkH]) rfl fA ?_
 refine zS cI ?_
 refine cP cV ?_
 refine zS cI ?_
 refine cP cT ?_
 have e2 : (((limbs x).length : Int) - ((n + 2 : Nat) : Int) + 1) = (m : Int) := by omega
 refine zS (zA @us_length (zA e2 (zA @us_rep (zA @nbnDivide cI)))) ?_
 refine W_loop (σ := Nat × List Nat × List Nat) (fun z => [(4, .osl 1 34 0 m), (6, .int .i64 k), (7, .int .i64 ((n + 2 : Nat) : Int)), (8, .osl 1 24 0 ((limbs x).length + 1)), (9, .sl 1 (us (limbs V))), (10, .int .i64 ((z.1 : Int) - 1))])
  (fun z => [(24, us z.2.1), (34, us (List.replicate z.1 0 ++ z.2.2))])
  (fun z => z.1 + z.2.2.length = m ∧ z.2.1.length = (limbs x).length + 1 ∧ lim z.2.1 ∧ lim z.2.2 ∧ x * 2 ^ k = 4294967296 ^ z.1 * nv z.2.2 * V + nv z.2.1 ∧ nv (z.2.1.drop z.1) < V)
  (fun z => z.1) (m, u0, []) ⟨by simp, hu0l, hu0, lim_nil, by simp [nv, hu0v.out], hinit.out⟩ ?_ (by simp) ?_
 ·simp [subF, lk]
 ·rintro ⟨j, u, qs⟩ ⟨hj, hul, hu, hqs, hA, hR⟩
  simp only at hj hul hu hqs hA hR ⊢
  (replace hA := Hid.mk hA; replace hR := Hid.mk hR)
  refine zS cI ?_
  refine W_cond rfl (fun hc => W_skip ?_) (fun hc => W_exit ?_)
  ·have hc := of_decide_eq_true hc
   obtain ⟨i, rfl⟩ : ∃ i, j = i + 1 := ⟨j - 1, by omega⟩
   have hS := step_of (n := n) hu (by omega) hR.out hV1.out
   obtain ⟨g1, g2, g3, g4⟩ := step_guess hu hS hV1.out hV2.out
   have l2 := lim_getD hu (i + n + 2)
   have l1 := lim_getD hu (i + n + 1)
   have l0 := lim_getD hu (i + n)
   have k1 := lim_getD (lim_limbs V) (n + 1)
   have k0 := lim_getD (lim_limbs V) n
   have cG := nGuess_calls _ _ _ _ _ _ _ l2 l1 l0 k1 k0 g1 g2 rfl rfl
   have hqB : gq ((u.getD (i + n + 2) 0 * 4294967296 + u.getD (i + n + 1) 0) * 4294967296 + u.getD (i + n) 0) ((limbs V).getD (n + 1) 0 * 4294967296 + (limbs V).getD n 0) < 4294967296 := Nat.lt_of_le_of_lt (Nat.min_le_right _ _) (by decide)
   obtain ⟨q, hq⟩ : ∃ q, gq ((u.getD (i + n + 2) 0 * 4294967296 + u.getD (i + n + 1) 0) * 4294967296 + u.getD (i + n) 0) ((limbs V).getD (n + 1) 0 * 4294967296 + (limbs V).getD n 0) = q := ⟨_, rfl⟩
   rw [hq] at g3 g4 cG hqB
   have hqe : q = q := rfl
   have hsV := hS.eq
   have hUlt := hS.lt
   rw [hsV] at g3 g4 hUlt
   have hqV := qv_lt hqB hV1.out
   have hVM := le_pow3 hV1.out
   have hpl : (u.take i).length = i := by simp; omega
   have hsl := hS.slen
   have hlp := lim_take hu i
   have hls := lim_take (lim_drop hu i) (n + 3)
   have hlt := lim_drop hu (i + (n + 3))
   have hcells := hS.cells
   have ht0 := hS.rest
   have htl : (u.drop (i + (n + 3))).length = m - (i + 1) := by simp; omega
   have e3 : (((i + 1 : Nat) : Int) - 1) = (i : Int) := by omega
   have e4 : ((i : Int) + ((n + 2 : Nat) : Int)).toNat = i + n + 2 := by omega
   have e5 : ((i : Int) + ((n + 2 : Nat) : Int) - 1).toNat = i + n + 1 := by omega
   have e6 : ((i : Int) + ((n + 2 : Nat) : Int) - 2).toNat = i + n := by omega
   have e7 : (((n + 2 : Nat) : Int) - 2).toNat = n := by omega
   have e8 : ((i : Int) + ((n + 2 : Nat) : Int) + 1).toNat = i + (n + 3) := by omega
   (replace e1 := Hid.mk e1; replace e2 := Hid.mk e2; replace e3 := Hid.mk e3; replace e4 := Hid.mk e4; replace e5 := Hid.mk e5; replace e6 := Hid.mk e6; replace e7 := Hid.mk e7; replace e8 := Hid.mk e8; replace g3 := Hid.mk g3; replace g4 := Hid.mk g4; replace hUlt := Hid.mk hUlt; replace hqV := Hid.mk hqV; replace hVM := Hid.mk hVM; replace hcells := Hid.mk hcells; replace ht0 := Hid.mk ht0; replace hsV := Hid.mk hsV; replace hq := Hid.mk hq)
   clear g1 g2
   (replace hqB := Hid.mk hqB; replace hqe := Hid.mk hqe)
   refine zS (zA @us_length (zA @us_getD (zA hul (zA hVl (zA e1.out (zA e3.out (zA e4.out (zA e5.out (zA e6.out (zA e7.out cI)))))))))) ?_
   refine cP cG ?_
   clear cG hq l2 l1 l0 k1 k0 hS
   generalize u.take i = p at *
   generalize (u.drop i).take (n + 3) = s at *
   generalize u.drop (i + (n + 3)) = t at *
   obtain ⟨U, hU⟩ : ∃ U, nv s = U := ⟨_, rfl⟩
   obtain ⟨hnvu, hnvr⟩ := nv_put (r := U % V) hpl hsl ht0.out hU
   rw [hU] at g3 g4 hsV hUlt
   have hmod : U % V < V := Nat.mod_lt _ hV0
   have hn12 := Hid.mk (hnvr (Nat.lt_of_lt_of_le hmod hVM.out))
   clear hnvr
   (replace hnvu := Hid.mk hnvu; replace hU := Hid.mk hU; replace hmod := Hid.mk hmod)
   have hlen : (p ++ s ++ t).length ≤ 1000000 := by rw [← hcells.out]; omega
   have hplen : p.length + s.length + t.length = (limbs x).length + 1 := by
    rw [hcells.out] at hul
    simpa only [List.length_append] using hul
   have hlen2 : ∀ r, (p ++ dig (n + 3) r ++ t).length = (limbs x).length + 1 := fun r => by
    simp only [List.length_append, dig_length]; omega
   have cR := nReduce_calls p s t (limbs V) q hlen hls (lim_limbs V) (by omega) (Nat.lt_of_le_of_lt (Nat.le_of_eq hqe.out.symm) hqB.out) (by rw [nv_limbs, hsl]; exact hqV.out)
   have cS := nRestore_calls p (dig (n + 3) ((U + 4294967296 ^ (n + 3) - q * V) % 4294967296 ^ (n + 3))) t (limbs V) (by rw [hlen2]; omega) (dig_lim _ _) (lim_limbs V) (by rw [dig_length]; omega)
   rw [← hcells.out, hpl, hsl, nv_limbs, hU.out] at cR
   rw [hpl, dig_length, nv_limbs, nv_dig, Nat.mod_mod] at cS
   have e9 := Hid.mk (Nat.add_sub_cancel_left i (n + 3))
   refine zS (zA @us_length (zA hul (zA e3.out (zA e8.out (zA e9.out cI))))) ?_
   refine callC_lend rfl 24 rfl (us_rf _) (by intro h; have := congrArg List.length h; rw [us_length, hul] at this; simp at this) cR ?_
   refine zS cI ?_
   refine W_join (ι := Unit) (fun _ => True) (fun _ => [(4, .osl 1 34 0 m), (6, .int .i64 k), (7, .int .i64 ((n + 2 : Nat) : Int)), (8, .osl 1 24 0 ((limbs x).length + 1)), (9, .sl 1 (us (limbs V))), (10, .int .i64 i), (11, .int .u64 (U / V : Nat))])
    (fun _ => [(24, us (p ++ dig (n + 3) (U % V) ++ t)), (34, us (List.replicate (i + 1) 0 ++ qs))]) ?_ ?_
   ·refine W_cond rfl (fun h2 => ?_) (fun h2 => W_skip ?_)
    ·have h2 := of_decide_eq_true h2
     obtain ⟨f1, f2⟩ := kn_over g3.out g4.out h2 hVM.out hV0 hqV.out
     rw [f2] at cS
     have hq0 : 0 < q := by
      rcases Nat.eq_zero_or_pos q with e | e
      ·subst e; rw [Nat.zero_mul] at h2; omega
      ·exact e
     have e10 : ((q : Int) - 1) = ((U / V : Nat) : Int) := by rw [← f1]; omega
     have hqB' := hqB.out
     have hlr := hlen2 ((U + 4294967296 ^ (n + 3) - q * V) % 4294967296 ^ (n + 3))
     have hqd : U / V < 4294967296 := by rw [← f1]; omega
     clear h2 f2 f1
     generalize U / V = qd at *
     (replace e10 := Hid.mk e10)
     refine zS (zA @us_length (zA hlr (zA e8.out (zA e9.out cI)))) ?_
     refine callC_lend rfl 24 rfl (us_rf _) (by intro h; have := congrArg List.length h; rw [us_length, hlr] at this; simp at this) cS ?_
     refine zS (zA e10.out cI) ?_
     first | exact ⟨(), trivial, by simp [subF, lk], rfl⟩ | exact ⟨(), by simp [subF, lk], rfl⟩ | exact ⟨(), by simp [subF, lk]⟩ | exact ⟨(), trivial, by simp [subF, lk]⟩
    ·have h2 := of_decide_eq_false h2
     obtain ⟨f1, f2⟩ := kn_fit g3.out g4.out h2 hVM.out hV0
     rw [f2, ← f1]
     first | exact ⟨(), trivial, by simp [subF, lk], rfl⟩ | exact ⟨(), by simp [subF, lk], rfl⟩ | exact ⟨(), by simp [subF, lk]⟩ | exact ⟨(), trivial, by simp [subF, lk]⟩
   ·rintro ⟨⟩ _
    have hqB' : U / V < 4294967296 := Nat.lt_of_le_of_lt g3.out hqB.out
    have hsum := step_sum (q := U / V) hA.out ((congrArg nv hcells.out).trans hnvu.out) rfl
    have hrl : (List.replicate (i + 1) 0 ++ qs).length = m := by simp; omega
    have hqm : U / V % 4294967296 = U / V := Nat.mod_eq_of_lt hqB'
    obtain ⟨z1, z2⟩ := hn12.out
    rw [← z1] at hsum
    have hfl := hlen2 (U % V)
    have hlf : lim (p ++ dig (n + 3) (U % V) ++ t) := lim_append.2 ⟨lim_append.2 ⟨hlp, dig_lim _ _⟩, hlt⟩
    have hmod' := hmod.out
    rw [← z2] at hmod'
    (replace hsum := Hid.mk hsum; replace hmod' := Hid.mk hmod'; replace hqm := Hid.mk hqm; replace z1 := Hid.mk z1; replace z2 := Hid.mk z2)
    generalize U / V = qd at *
    generalize p ++ dig (n + 3) (U % V) ++ t = u' at *
    refine zS (zA @us_length (zA hrl (zA @wu32' (zA @mod32 (zA hqm.out (zA @us_set (zA @set_rep cI))))))) ?_
    refine ⟨(i, u', qd :: qs), ⟨by simp only [List.length_cons]; omega, hfl, hlf, lim_cons.2 ⟨hqB', hqs⟩, hsum.out, hmod'.out⟩, by simp only; omega, by simp [subF, lk], rfl⟩
  ·have hc := of_decide_eq_false hc
   have hj0 : j = 0 := by omega
   subst hj0
   have hA' := hA.out
   have hR' := hR.out
   rw [Nat.pow_zero, Nat.one_mul] at hA'
   rw [List.drop_zero] at hR'
   obtain ⟨d1, d2⟩ := div_fin hA' hR'
   rw [← d1, ← d2]
   have hrn : nv u / 2 ^ k < 4294967296 ^ (n + 2) := Nat.lt_of_le_of_lt (Nat.div_le_self _ _) (Nat.lt_trans hR' hV1.out)
   clear hA' hR' d1 d2 hA hR hdivx hmodx hu0v hinit fA cV cT
   (replace hrn := Hid.mk hrn)
   have e11 := Hid.mk (show ((n + 2 : Nat) : Int).toNat = n + 2 by omega)
   refine zS (zA @us_length (zA @us_rep (zA @nbnDivide (zA e11.out cI)))) ?_
   generalize hRR : nv u / 2 ^ k = R at *
   (replace hRR := Hid.mk hRR)
   simp only [List.replicate_zero, List.nil_append]
   refine W_loop (σ := Nat) (fun i => [(4, .osl 1 34 0 m), (5, .osl 1 100 0 (n + 2)), (6, .int .i64 k), (8, .osl 1 24 0 ((limbs x).length + 1)), (102, .int .i64 ((n + 2 : Nat) : Int)), (103, .int .i64 i)])
    (fun i => [(24, us u), (34, us qs), (100, us (dig i R ++ List.replicate (n + 2 - i) 0))]) (fun i => i ≤ n + 2) (fun i => n + 2 - i) 0 (Nat.zero_le _) ?_ (by simp [dig]) ?_
   ·simp [subF, lk]
   ·rintro i hi
    refine zS cI ?_
    refine W_cond rfl (fun hc2 => W_skip ?_) (fun hc2 => W_exit ?_)
    ·have hc2 := of_decide_eq_true hc2
     obtain ⟨r, hr⟩ : ∃ r, n + 2 - i = r + 1 := ⟨n + 2 - i - 1, by omega⟩
     have hr' : n + 2 - (i + 1) = r := by omega
     have hb := back hu (i := i) (k := k) (by omega) hk
     rw [hRR.out] at hb
     have hs := dig_snoc i R
     rw [← hb] at hs
     have hDl := dig_length i R
     have hll : (dig i R ++ List.replicate (r + 1) 0).length = n + 2 := by simp [dig_length]; omega
     have a0 := lim_getD hu i
     have a1 := lim_getD hu (i + 1)
     have hset : ∀ v, (dig i R ++ List.replicate (r + 1) 0).set i v = (dig i R ++ [v]) ++ List.replicate r 0 := fun v => by
      have := set_mid (dig i R) 0 v (List.replicate r 0)
      rw [hDl] at this
      rw [List.replicate_succ, this]; simp
     have e12 := Hid.mk (show ((i : Int) + 1).toNat = i + 1 by omega)
     rw [hr]
     (replace hb := Hid.mk hb; replace hs := Hid.mk hs; replace hDl := Hid.mk hDl; replace hset := Hid.mk hset)
     refine zS (zA @us_length (zA @us_getD (zA hul (zA e12.out cI)))) ?_
     generalize u.getD i 0 = c0 at *
     generalize u.getD (i + 1) 0 = c1 at *
     repeat (first | refine W_seq ?_ | refine W_reg ?_ | refine W_regd ?_ | refine W_regs ?_ | refine W_regp ?_ | refine W_block ?_ | refine And.intro (by omega) ?_ | simp (maxSteps := 1000000) (disch := omega) only [cA, cB, cN, FnD.nb, lk, lkH, Dst.onT, Dst.onX, Dst.slot, setF, setH, mapF, mapH, initF, binE, unE, cnt, boundE, newsE, freshE, freshT, opE, rmH, blkQ, frz_us, Nat.reduceEqDiff, Nat.reduceLT, Nat.reduceAdd, Nat.reduceMul, Nat.reduceMod, ↓reduceIte, reduceCtorEq, Nat.reduceLeDiff, us_length, hll, orsh a1 a0 rfl, shr_w _ _ hk, wu32', mod32, us_set, hset.out, cI])
     refine ⟨i + 1, by omega, by omega, by simp [subF, lk], ?_⟩
     rw [hr', hs.out]
    ·have hc2 := of_decide_eq_false hc2
     have hi2 : i = n + 2 := by omega
     subst hi2
     have cQ := nTrim_calls qs (by omega) hqs
     have cR := nTrim_calls (dig (n + 2) R) (by rw [dig_length]; omega) (dig_lim _ _)
     rw [nv_dig, Nat.mod_eq_of_lt hrn.out] at cR
     have hqsl : m = qs.length := by omega
     have hrl := dig_length (n + 2) R
     have hz : dig (n + 2) R ++ List.replicate (n + 2 - (n + 2)) 0 = dig (n + 2) R := by simp
     rw [hz]
     refine zS cI ?_
     refine callC_freeze rfl 34 (cells := us qs) (by simp [lkH]) (us_rf _) ?_
     simp (maxSteps := 1000000) (disch := omega) only [cA, cB, cN, FnD.nb, lk, lkH, Dst.onT, Dst.onX, Dst.slot, setF, setH, mapF, mapH, initF, binE, unE, cnt, boundE, newsE, freshE, freshT, opE, rmH, blkQ, frz_us, Nat.reduceEqDiff, Nat.reduceLT, Nat.reduceAdd, Nat.reduceMul, Nat.reduceMod, ↓reduceIte, reduceCtorEq, Nat.reduceLeDiff, frz_us hqsl, cI]
     refine cP cQ ?_
     refine zS cI ?_
     refine callC_freeze rfl 100 (cells := us (dig (n + 2) R)) (by simp [lkH, us_frz]) (us_rf _) ?_
     simp (maxSteps := 1000000) (disch := omega) only [cA, cB, cN, FnD.nb, lk, lkH, Dst.onT, Dst.onX, Dst.slot, setF, setH, mapF, mapH, initF, binE, unE, cnt, boundE, newsE, freshE, freshT, opE, rmH, blkQ, frz_us, Nat.reduceEqDiff, Nat.reduceLT, Nat.reduceAdd, Nat.reduceMul, Nat.reduceMod, ↓reduceIte, reduceCtorEq, Nat.reduceLeDiff, frz_us hrl.symm, cI]
     refine cP cR ?_
     refine zS cI ?_
     exact W_ret (RetP_2 (.imm rfl) (.imm rfl))
end Go.Proofs.YtlcagndeidjobaaGreatDoor
namespace Go.Proofs.YtlcagndeidjobaaGreatDoor
open Go Go.Dat Go.Proofs Go.RowKit Go.Lib Nat32
set_option maxHeartbeats 2000000 in
set_option maxRecDepth 100000 in
theorem Clone_some (ad : Addr) (n c : Nat) (vs : List Value) (w : World) (hl : vs.length = n) (hn : n ≤ 1000000) (hc : ∀ j u, vs[j]? = some u → w.cell? (ad.add j) = some u) (h1 : ∀ u ∈ vs, u.oneCell' = true) :
  Calls Tryz.prog 224 #[.slice (some ad) n c] w fun e w' => ∃ v', e = .returned v' ∧ w'.ownsRow w.heap.size 173 1 v' n vs ∧ Below w.heap.size w w' := by
 have q22 : ∀ (w : World) (a : Option Addr) (n c n' c' : Nat), (binOp .eql 54 (.slice a n c) (.slice none n' c')).run Tryz.prog w = .ok (.bool a.isNone) w := fun w a n c n' c' => Lib.run_eql_slice_nil w _ _ a n c n' c' Tryz.underlying54
 replace hc := Hid.mk hc
 replace h1 := Hid.mk h1
 go_enter Tryz.func224, Tryz.ntmps224
 go_wp2_with (at_builtin; refine wpList_append_own _ rfl _ _ 54 rfl w.heap.size 173 Tryz.t173 (.int .u32 0) 1 4 Tryz.underlying54 (by kernel_rfl) (by kernel_rfl) (by kernel_rfl) (by kernel_rfl) rfl (by decide) _ _ _ rfl (World.ownsRow_made w #[] 0 (Nat.le_refl _) (Nat.zero_le _) rfl) ad n c vs rfl ?qc1 ?qc2 ?qc3 ?qc4 ?qc5 ?qc6 ?_)
 case qc1 => simp; omega
 case qc2 =>
  intro j u hj
  exact Lib.cell?_alloc_some _ (hc.out j u hj)
 case qc3 => exact h1.out
 case qc4 => unfold maxLen; omega
 case qc5 => omega
 case qc6 => simp
 intro v' w1 hown hgrow hnil
 go_wp2
 go_ret
 refine ⟨v', rfl, by simpa using hown, ?_⟩
 exact ((Below.refl _ w).alloc (Nat.le_refl _) _).grown hgrow (by simp) (by intro k hk; simp [Value.ownBlock] at hk; omega)
set_option maxHeartbeats 2000000 in
theorem Clone_none (c : Nat) (w : World) : Calls Tryz.prog 224 #[.slice none 0 c] w fun e w' => e = .returned (.slice none 0 0) ∧ w' = w := by
 have q22 : ∀ (w : World) (a : Option Addr) (n c n' c' : Nat), (binOp .eql 54 (.slice a n c) (.slice none n' c')).run Tryz.prog w = .ok (.bool a.isNone) w := fun w a n c n' c' => Lib.run_eql_slice_nil w _ _ a n c n' c' Tryz.underlying54
 go_enter Tryz.func224, Tryz.ntmps224
 go_wp2
 go_ret
 exact ⟨rfl, rfl⟩
theorem Clone_calls (a : List Nat) (ha : a.length ≤ 1000000) : PCalls Tryz.prog 224 [.sl 1 (us a)] (.sl 1 (us a)) := by
 intro A w us0 hT hA hs hv
 obtain ⟨v, rfl⟩ : ∃ v, us0 = #[v] := by
  obtain ⟨l⟩ := us0
  match l, hs with
  | [v], _ => exact ⟨v, rfl⟩
 have hvi := hv 0 _ v rfl rfl
 generalize hxs : us a = xs at hvi ⊢
 have hxl : xs.length = a.length := by rw [← hxs, us_length]
 cases hvi with
 | sl0 _ ad c =>
  cases ad with
  | none =>
   refine (Clone_none c w).mono ?_
   rintro e w' ⟨rfl, rfl⟩
   exact ⟨_, rfl, .sl0 _ _ _, Ext.refl _ _⟩
  | some ad =>
   refine (Clone_some ad 0 c [] w rfl (by omega) (by simp) (by simp)).mono ?_
   rintro e w' ⟨v', rfl, hown, hb⟩
   exact ⟨_, rfl, VI_of_ownsRow (by decide) hA hown rfl (by simp), Ext_of_below hb⟩
 | @sl _ _ n c ad vs hx hn hc hAb hcell hvv =>
  have hget : ∀ j u, ((List.range xs.length).map vs)[j]? = some u → j < xs.length ∧ u = vs j := by
   intro j u hj
   simp only [List.getElem?_map, Option.map_eq_some_iff] at hj
   obtain ⟨i, hi, rfl⟩ := hj
   obtain ⟨h1, h2⟩ := List.getElem?_eq_some_iff.1 hi
   simp at h1 h2
   subst h2; exact ⟨h1, rfl⟩
  have hex : ∀ j, j < xs.length → ∃ d, xs[j]? = some d := fun j hj => exists_get hj
  refine (Clone_some ad n c ((List.range xs.length).map vs) w (by simp; omega) (by omega) (fun j u hj => ?_) (fun u hu => ?_)).mono ?_
  ·obtain ⟨h1, rfl⟩ := hget j u hj
   obtain ⟨d, hd⟩ := hex j h1
   exact hcell j d hd
  ·obtain ⟨j, hj⟩ := List.mem_iff_getElem?.1 hu
   obtain ⟨h1, rfl⟩ := hget j u hj
   obtain ⟨d, hd⟩ := hex j h1
   have h3 := hvv j d hd
   have hone : d.one = true := by
    have h4 := us_one a
    rw [hxs] at h4
    exact h4.mpr trivial d (List.mem_of_getElem? hd)
   exact V.oneCell hone (V.imm (L := fun _ => none) h3)
  ·rintro e w' ⟨v', rfl, hown, hb⟩
   refine ⟨_, rfl, VI_of_ownsRow (by decide) hA hown hn (fun k d u hk hu => ?_), Ext_of_below hb⟩
   obtain ⟨h1, rfl⟩ := hget k u hu
   exact (hvv k d hk).mono fun b hb' hA' => ⟨hb.block b hb', hA'⟩
end Go.Proofs.YtlcagndeidjobaaGreatDoor
namespace Go.Proofs.YtlcagndeidjobaaGreatDoor
open Go Go.Dat Go.Proofs Nat32
def dmod (x y : Nat) : Nat := if y = 0 then 0 else x % y
theorem dmod_pos {x y : Nat} (h : 0 < y) : dmod x y = x % y := by unfold dmod; rw [if_neg (by omega)]
theorem nDiv_calls (a b : List Nat) (ha : a.length ≤ 100000) (hb : b.length ≤ 100000) (la : lim a) (lb : lim b) :
  PCalls Tryz.prog 164 [.sl 1 (us a), .sl 1 (us b)] (.tup [.sl 1 (us (limbs (vn a / vn b))), .sl 1 (us (limbs (dmod (vn a) (vn b)))), .bool (decide (0 < vn b))]) := by
 have l1 := vn_len la
 have l2 := vn_len lb
 have c1 := nValue_calls a (by omega) la
 have c2 := nValue_calls b (by omega) lb
 have cC := Clone_calls (limbs (vn a)) (by omega)
 have cc := nCmp_calls (limbs (vn a)) (limbs (vn b)) (by omega) (by omega) (lim_limbs _) (lim_limbs _)
 rw [vn_limbs, vn_limbs] at cc
 refine PCalls_of isnDiv (by simp [fnnDiv]) ?_
 unfold codenDiv
 generalize vn a = x at *
 generalize vn b = y at *
 refine zS cI ?_
 refine cP c1 ?_
 refine zS cI ?_
 refine cP c2 ?_
 refine zS (zA @us_length cI) ?_
 refine W_cond rfl (fun h => ?_) (fun h => ?_)
 ·have h := of_decide_eq_true h
  have hy : y = 0 := limbs_eq_nil.1 (List.eq_nil_of_length_eq_zero (by omega))
  subst hy
  refine zS cI ?_
  refine W_ret (RetP_3 ?_ ?_ ?_)
  ·rw [Nat.div_zero, limbs_zero]; exact .nils 1
  ·rw [show dmod x 0 = 0 from rfl, limbs_zero]; exact .nils 1
  ·exact .imm rfl
 ·have h := of_decide_eq_false h
  have hy : 0 < y := by
   rcases Nat.eq_zero_or_pos y with e | e
   ·subst e; rw [limbs_zero] at h; simp at h
   ·exact e
  rw [dmod_pos hy, decide_eq_true hy]
  refine zS cI ?_
  refine cP cc ?_
  refine zS cI ?_
  by_cases hxy : x < y
  ·have e1 : decide (cmpN x y < 0) = true := decide_eq_true (by unfold cmpN; rw [if_pos hxy]; decide)
   rw [e1]
   refine wT ?_
   refine zS cI ?_
   refine cP cC ?_
   refine zS cI ?_
   rw [Nat.div_eq_of_lt hxy, Nat.mod_eq_of_lt hxy, limbs_zero]
   exact W_ret (RetP_3 (.nils 1) (.imm rfl) (.imm rfl))
  ·have e1 : decide (cmpN x y < 0) = false := decide_eq_false (by unfold cmpN; rw [if_neg hxy]; split <;> decide)
   rw [e1]
   refine wF ?_
   refine zS (zA @us_length cI) ?_
   refine W_cond rfl (fun h1 => ?_) (fun h1 => W_skip ?_)
   ·have h1 := of_decide_eq_true h1
    have hyB : y < 4294967296 := by simpa using limbs_len.1 (show (limbs y).length ≤ 1 by omega)
    have hby : limbs y = [y] := limbs_one (by omega) hyB
    have cs := nShort_calls x y (by omega) hy hyB
    have hr := Nat.mod_lt x hy
    have cf := nFromUint_calls (x % y) (by omega)
    have g0 : (us [y]).getD (Int.toNat 0) DV.undef = .int .u32 y := rfl
    rw [hby]
    generalize x % y = r at *
    refine zS (zA @us_length (zA g0 cI)) ?_
    refine cP cs ?_
    refine zS cI ?_
    refine cP cf ?_
    refine zS cI ?_
    exact W_ret (RetP_3 (.imm rfl) (.imm rfl) (.imm rfl))
   ·have h1 := of_decide_eq_false h1
    obtain ⟨n, hn⟩ : ∃ n, (limbs y).length = n + 2 := ⟨(limbs y).length - 2, by omega⟩
    have cd := nDivide_calls x y n hn (by omega) (by omega)
    refine zS cI ?_
    refine cP cd ?_
    refine zS cI ?_
    exact W_ret (RetP_3 (.imm rfl) (.imm rfl) (.imm rfl))
theorem rTimes_calls (x v b : Nat) (ha : (limbs x).length ≤ 100000) (hv : v < 4294967296) (hb : b ≤ 100000) : PCalls Tryz.prog 193 [.sl 1 (us (limbs x)), .int .u32 v, .int .i64 b] (.sl 1 (us (limbs (4294967296 ^ b * (x * v))))) := by
 refine PCalls_of isrTimes (by simp [fnrTimes]) ?_
 unfold coderTimes
 have laX := lim_limbs x
 refine W_seq (W_reg ?_)
 refine zE cI ?_
 repeat refine ⟨by omega, ?_⟩
 refine W_seq (W_reg ?_)
 refine zE (zA @us_rep (zA @nbrTimes cI)) ?_
 repeat refine ⟨by omega, ?_⟩
 refine W_seq (W_reg ?_)
 refine zE cI ?_
 repeat refine ⟨by omega, ?_⟩
 refine W_seq (W_seq (W_reg ?_))
 refine zE cI ?_
 repeat refine ⟨by omega, ?_⟩
 refine W_block (W_loop (σ := List Nat × Nat) (fun s => [(0, .sl 1 (us (limbs x))), (1, .int .u32 v), (7, .osl 1 12 0 (b + s.1.length)), (8, .int .u64 s.2), (9, .int .i64 s.1.length)])
  (fun s => [(12, us (List.replicate b 0 ++ s.1))])
  (fun s => s.1.length ≤ (limbs x).length + 1 ∧ lim s.1 ∧ s.2 < 4294967296 ∧ nv s.1 + 4294967296 ^ s.1.length * s.2 = nv ((limbs x).take s.1.length) * v)
  (fun s => (limbs x).length + 1 - s.1.length) ([], 0) ⟨Nat.zero_le _, lim_nil, by decide, by simp [nv]⟩ ?_ ?_ ?_)
 ·simp [subF, lk]
 ·simp
 ·rintro ⟨q, c⟩ ⟨hn, hlq, hc, hnv⟩
  simp only at hn hlq hc hnv ⊢
  refine W_seq (W_seq (W_reg ?_))
  refine zE (zA @us_length cI) ?_
  repeat refine ⟨by omega, ?_⟩
  refine W_cond rfl (fun hcd => W_skip ?_) (fun hcd => W_exit ?_)
  ·have hlt := of_decide_eq_true hcd
   have hxn := lim_getD laX q.length
   have cx := rLimb_calls (limbs x) q.length (by omega) laX
   have hsum := mul_step (a := (limbs x).getD q.length 0) hnv
   rw [← nv_take_succ', ← Nat.pow_succ] at hsum
   have hcl := mul_div_lt hxn hv hc
   refine zE cI ?_
   repeat refine ⟨by omega, ?_⟩
   refine W_seq (W_block (W_seq (W_reg ?_)))
   refine zE cI ?_
   repeat refine ⟨by omega, ?_⟩
   refine cP cx ?_
   generalize (limbs x).getD q.length 0 = xn at *
   simp (maxSteps := 1000000) (disch := omega) only [cA, cB, cN, FnD.nb, lk, lkH, Dst.onT, Dst.onX, Dst.slot, setF, setH, mapF, mapH, initF, binE, unE, cnt, boundE, newsE, freshE, freshT, opE, rmH, blkQ, frz_us, Nat.reduceEqDiff, Nat.reduceLT, Nat.reduceAdd, Nat.reduceMul, Nat.reduceMod, ↓reduceIte, reduceCtorEq, Nat.reduceLeDiff, mul_w, mul_w2, cI]
   repeat refine ⟨by omega, ?_⟩
   rw [show ((xn : Int) * (v : Int) + (c : Int)) = ((xn * v + c : Nat) : Int) by simp]
   refine W_reg ?_
   have hsm : xn * v + c < 18446744073709551616 := by
    have := mul_le hxn hv
    omega
   generalize xn * v + c = s at *
   have hlen : (List.replicate b 0 ++ q).length = b + q.length := by simp
   have hap : List.replicate b 0 ++ q ++ [s % 4294967296] = List.replicate b 0 ++ (q ++ [s % 4294967296]) := by simp
   simp (maxSteps := 1000000) (disch := omega) only [cA, cB, cN, FnD.nb, lk, lkH, Dst.onT, Dst.onX, Dst.slot, setF, setH, mapF, mapH, initF, binE, unE, cnt, boundE, newsE, freshE, freshT, opE, rmH, blkQ, frz_us, Nat.reduceEqDiff, Nat.reduceLT, Nat.reduceAdd, Nat.reduceMul, Nat.reduceMod, ↓reduceIte, reduceCtorEq, Nat.reduceLeDiff, wu32', mod32, rf1, one1, newsE, shr32u64, us_length, us_snoc, us_purge, hlen, hap, cI]
   repeat refine ⟨by omega, ?_⟩
   refine W_reg ?_
   refine zE cI ?_
   have hql : (q ++ [s % 4294967296]).length = q.length + 1 := by simp
   refine ⟨(q ++ [s % 4294967296], s / 4294967296), ⟨by simp only; omega, ?_, hcl, ?_⟩, by simp only; omega, by simp [subF, lk, Nat.add_assoc], by simp⟩
   ·intro z hz
    rcases List.mem_append.1 hz with h | h
    ·exact hlq z h
    ·rw [List.mem_singleton.1 h]; omega
   ·simp only [hql]
    rw [nv_app]
    simp only [nv, Nat.mul_zero, Nat.add_zero]
    exact hsum
  ·have hge := of_decide_eq_false hcd
   have hl : q.length = (limbs x).length + 1 := by omega
   rw [List.take_of_length_le (by omega), nv_limbs, hl] at hnv
   have hxl : x < 4294967296 ^ (limbs x).length := limbs_len.1 (Nat.le_refl _)
   have hc0 : c = 0 := c_zero (by rw [hnv]; exact mul_lt_pow hxl hv)
   subst hc0
   rw [Nat.mul_zero, Nat.add_zero] at hnv
   have hlim : lim (List.replicate b 0 ++ q) := by
    intro z hz
    rcases List.mem_append.1 hz with h | h
    ·rw [List.eq_of_mem_replicate h]; decide
    ·exact hlq z h
   have hlen : b + q.length = (List.replicate b 0 ++ q).length := by simp
   have ct := rTrim_calls (List.replicate b 0 ++ q) (by omega) hlim
   rw [nv_rep_app, hnv] at ct
   refine zE cI ?_
   repeat refine ⟨by omega, ?_⟩
   refine W_seq (W_reg ?_)
   refine zE cI ?_
   repeat refine ⟨by omega, ?_⟩
   refine callC_freeze rfl 12 (cells := us (List.replicate b 0 ++ q)) (by simp [lkH]) (us_rf _) ?_
   simp (maxSteps := 1000000) (disch := omega) only [cA, cB, cN, FnD.nb, lk, lkH, Dst.onT, Dst.onX, Dst.slot, setF, setH, mapF, mapH, initF, binE, unE, cnt, boundE, newsE, freshE, freshT, opE, rmH, blkQ, frz_us, Nat.reduceEqDiff, Nat.reduceLT, Nat.reduceAdd, Nat.reduceMul, Nat.reduceMod, ↓reduceIte, reduceCtorEq, Nat.reduceLeDiff, frz_us hlen, cI]
   refine cP ct ?_
   refine zE cI ?_
   exact W_ret (RetP_1 (.imm rfl))
theorem rMul_calls (a b : List Nat) (ha : a.length ≤ 10000) (hb : b.length ≤ 10000) (la : lim a) (lb : lim b) : PCalls Tryz.prog 119 [.sl 1 (us a), .sl 1 (us b)] (.sl 1 (us (limbs (vn a * vn b)))) := by
 have h1 := vn_len la
 have h2 := vn_len lb
 have c1 := rTake_calls a (by omega) la
 have c2 := rTake_calls b (by omega) lb
 refine PCalls_of isrMul (by simp [fnrMul]) ?_
 unfold coderMul
 generalize vn a = x at h1 c1 ⊢
 generalize vn b = y at h2 c2 ⊢
 have laY := lim_limbs y
 refine W_seq (W_reg ?_)
 refine zE cI ?_
 repeat refine ⟨by omega, ?_⟩
 refine W_seq (W_reg ?_)
 refine zE cI ?_
 repeat refine ⟨by omega, ?_⟩
 refine cP c1 ?_
 refine zE cI ?_
 repeat refine ⟨by omega, ?_⟩
 refine cP c2 ?_
 refine zE cI ?_
 repeat refine ⟨by omega, ?_⟩
 refine W_seq (W_reg ?_)
 refine zE cI ?_
 repeat refine ⟨by omega, ?_⟩
 refine W_seq (W_seq (W_reg ?_))
 refine zE cI ?_
 repeat refine ⟨by omega, ?_⟩
 refine W_block (W_loop (σ := Nat) (fun n => [(0, .sl 1 (us (limbs x))), (1, .sl 1 (us (limbs y))), (5, if n = 0 then .nils else .sl 1 (us (limbs (x * nv ((limbs y).take n))))), (6, .int .i64 n)]) (fun _ => []) (fun n => n ≤ (limbs y).length) (fun n => (limbs y).length - n) 0 (Nat.zero_le _) ?_ rfl ?_)
 ·simp [subF, lk]
 ·rintro n hn
  refine W_seq (W_seq (W_reg ?_))
  refine zE (zA @us_length cI) ?_
  repeat refine ⟨by omega, ?_⟩
  refine W_cond rfl (fun hcd => W_skip ?_) (fun hcd => W_exit ?_)
  ·have hlt := of_decide_eq_true hcd
   have hlt : n < (limbs y).length := by omega
   have hyn := lim_getD laY n
   have hts := nv_take_succ' (a := limbs y) n
   have ct := rTimes_calls x ((limbs y).getD n 0) n (by omega) hyn (by omega)
   have hz : (limbs (nv ((limbs y).take n))).length ≤ (limbs y).length := limbs_len.2 (Nat.lt_of_lt_of_le (nv_lt (lim_take laY n)) (Nat.pow_le_pow_right (by decide) (by simp; omega)))
   have hw : (limbs ((limbs y).getD n 0)).length ≤ 1 := limbs_len.2 (by omega)
   have l1 := len_mul (x := x) (show (limbs x).length ≤ 10000 by omega) hz
   have hp : (limbs (4294967296 ^ n)).length ≤ n + 1 := limbs_len.2 (Nat.pow_lt_pow_right (by decide) (by omega))
   have l2 := len_mul (y := x * (limbs y).getD n 0) hp (len_mul (x := x) (show (limbs x).length ≤ 10000 by omega) hw)
   have ca := rAdd_calls (limbs (x * nv ((limbs y).take n))) (limbs (4294967296 ^ n * (x * (limbs y).getD n 0))) (by omega) (by omega) (lim_limbs _) (lim_limbs _)
   have he : x * nv ((limbs y).take n) + 4294967296 ^ n * (x * (limbs y).getD n 0) = x * nv ((limbs y).take (n + 1)) := by
    rw [hts, Nat.mul_add]
    congr 1
    rw [← Nat.mul_assoc, Nat.mul_comm (4294967296 ^ n) x, Nat.mul_assoc]
   rw [vn_limbs, vn_limbs, he] at ca
   refine zE cI ?_
   repeat refine ⟨by omega, ?_⟩
   refine W_seq (W_block (W_reg ?_))
   refine zE (zA @us_length (zA @us_getD cI)) ?_
   repeat refine ⟨by omega, ?_⟩
   refine cP ct ?_
   refine zE cI ?_
   repeat refine ⟨by omega, ?_⟩
   refine callC_nil (rs := [.sl 1 (us (limbs (x * nv ((limbs y).take n)))), .sl 1 (us (limbs (4294967296 ^ n * (x * (limbs y).getD n 0))))]) rfl rfl (fun k d r h1 h2 => ?_) ca rfl ?_
   ·match k with
    | 0 =>
     simp at h1 h2; subst h1; subst h2
     by_cases hn0 : n = 0
     ·subst hn0
      simp only [if_true, List.take_zero, nv, Nat.mul_zero, limbs_zero, us_nil]
      exact .nil 1
     ·rw [if_neg hn0]; exact .same _
    | 1 => simp at h1 h2; subst h1; subst h2; exact .same _
    | k + 2 => simp at h1
   ·refine zE cI ?_
    repeat refine ⟨by omega, ?_⟩
    refine W_reg ?_
    refine zE cI ?_
    exact ⟨n + 1, by omega, by omega, by simp [subF, lk]⟩
  ·have hge := of_decide_eq_false hcd
   have hnl : n = (limbs y).length := by omega
   subst hnl
   refine zE cI ?_
   repeat refine ⟨by omega, ?_⟩
   refine W_seq (W_reg ?_)
   refine zE cI ?_
   repeat refine ⟨by omega, ?_⟩
   refine W_ret (RetP_1 ?_)
   refine zE cI ?_
   repeat refine ⟨by omega, ?_⟩
   rw [List.take_of_length_le (Nat.le_refl _), nv_limbs]
   by_cases hn0 : (limbs y).length = 0
   ·rw [if_pos hn0]
    have : y = 0 := limbs_eq_nil.1 (List.eq_nil_of_length_eq_zero hn0)
    subst this
    rw [Nat.mul_zero, limbs_zero]
    exact .nils 1
   ·rw [if_neg hn0]; exact .imm rfl
theorem rBit_calls (a : List Nat) (i : Nat) (ha : a.length ≤ 1000000) (la : lim a) (hi : i / 32 < a.length) : PCalls Tryz.prog 239 [.sl 1 (us a), .int .i64 i] (.int .u32 (nv a / 2 ^ i % 2 : Nat)) := by
 have hx := lim_getD la (i / 32)
 have hm : i % 32 < 32 := Nat.mod_lt _ (by decide)
 have hdl := Nat.lt_of_le_of_lt (Nat.div_le_self (a.getD (i / 32) 0) (2 ^ (i % 32))) hx
 rw [← bit_of la i hi]
 refine PCalls_of isrBit (by simp [fnrBit]) ?_
 unfold coderBit
 have hm2 : i % 32 ≤ 31 := by omega
 refine zS (zA @tdiv32 (zA @tmod32 (zA @us_length (zA @us_getD cI)))) ?_
 generalize a.getD (i / 32) 0 = x at *
 generalize i % 32 = m at *
 repeat (first | refine W_seq ?_ | refine W_reg ?_ | refine W_regd ?_ | refine W_regs ?_ | refine W_regp ?_ | refine W_block ?_ | refine And.intro (by omega) ?_ | simp (maxSteps := 1000000) (disch := omega) only [cA, cB, cN, FnD.nb, lk, lkH, Dst.onT, Dst.onX, Dst.slot, setF, setH, mapF, mapH, initF, binE, unE, cnt, boundE, newsE, freshE, freshT, opE, rmH, blkQ, frz_us, Nat.reduceEqDiff, Nat.reduceLT, Nat.reduceAdd, Nat.reduceMul, Nat.reduceMod, ↓reduceIte, reduceCtorEq, Nat.reduceLeDiff, shr_w32 _ _ hm2, and_oneU hdl, cI])
 exact W_ret (RetP_1 (.imm rfl))
theorem vn1 : vn [1] = 1 := by decide
theorem rDouble_calls (x one : Nat) (hx : (limbs x).length ≤ 50000) (h1 : one ≤ 1) : PCalls Tryz.prog 238 [.sl 1 (us (limbs x)), .int .u32 one] (.sl 1 (us (limbs (2 * x + one)))) := by
 have ct := rTimes_calls x 2 0 (by omega) (by decide) (by decide)
 rw [Nat.pow_zero, Nat.one_mul, Nat.mul_comm x] at ct
 have hl := len_double hx
 have hl2 := len_mono (show 2 * x ≤ 2 * x + 1 by omega)
 have ca := rAdd_calls (limbs (2 * x)) [1] (by omega) (by simp) (lim_limbs _) (lim1 (by decide))
 rw [vn_limbs, vn1] at ca
 refine PCalls_of isrDouble (by simp [fnrDouble]) ?_
 unfold coderDouble
 refine zS cI ?_
 refine cP ct ?_
 refine zS cI ?_
 refine W_cond rfl (fun h => ?_) (fun h => W_skip ?_)
 ·have h := of_decide_eq_true h
  have : one = 1 := by omega
  subst this
  refine zS (zA @usrf1 cI) ?_
  refine cP ca ?_
  refine zS cI ?_
  exact W_ret (RetP_1 (.imm rfl))
 ·have h := of_decide_eq_false h
  have : one = 0 := by omega
  subst this
  refine zS cI ?_
  exact W_ret (RetP_1 (.imm rfl))
theorem rDiv_calls (a b : List Nat) (ha : a.length ≤ 10000) (hb : b.length ≤ 10000) (la : lim a) (lb : lim b) :
  PCalls Tryz.prog 189 [.sl 1 (us a), .sl 1 (us b)] (.tup [.sl 1 (us (limbs (vn a / vn b))), .sl 1 (us (limbs (dmod (vn a) (vn b)))), .bool (decide (0 < vn b))]) := by
 have l1 := vn_len la
 have l2 := vn_len lb
 have c1 := rTake_calls a (by omega) la
 have c2 := rTake_calls b (by omega) lb
 refine PCalls_of isrDiv (by simp [fnrDiv]) ?_
 unfold coderDiv
 generalize vn a = x at *
 generalize vn b = y at *
 refine zS cI ?_
 refine cP c1 ?_
 refine zS cI ?_
 refine cP c2 ?_
 refine zS (zA @us_length cI) ?_
 refine W_cond rfl (fun h => ?_) (fun h => W_skip ?_)
 ·have h := of_decide_eq_true h
  have hy : y = 0 := limbs_eq_nil.1 (List.eq_nil_of_length_eq_zero (by omega))
  subst hy
  refine zS cI ?_
  refine W_ret (RetP_3 ?_ ?_ ?_)
  ·rw [Nat.div_zero, limbs_zero]; exact .nils 1
  ·rw [show dmod x 0 = 0 from rfl, limbs_zero]; exact .nils 1
  ·exact .imm rfl
 ·have h := of_decide_eq_false h
  have hy : 0 < y := by
   rcases Nat.eq_zero_or_pos y with e | e
   ·subst e; rw [limbs_zero] at h; simp at h
   ·exact e
  rw [dmod_pos hy, decide_eq_true hy]
  refine zS (zA @us_length cI) ?_
  refine W_nil 7 1 (by simp [lk]) (W_nil 8 1 (by simp [lk, setF]) ?_)
  refine zE cI ?_
  have hx0 : x / 2 ^ (32 * (limbs x).length) = 0 := Nat.div_eq_of_lt (by rw [← pow32]; exact limbs_len.1 (Nat.le_refl _))
  refine W_loop (σ := Nat × Nat × Nat) (fun z => [(0, .sl 1 (us (limbs x))), (1, .sl 1 (us (limbs y))), (7, .sl 1 (us (limbs z.2.1))), (8, .sl 1 (us (limbs z.2.2))), (9, .int .i64 ((z.1 : Int) - 1))]) (fun _ => [])
   (fun z => z.1 ≤ 32 * (limbs x).length ∧ x / 2 ^ z.1 = z.2.1 * y + z.2.2 ∧ z.2.2 < y) (fun z => z.1) (32 * (limbs x).length, 0, 0) ⟨Nat.le_refl _, by simp [hx0], hy⟩ ?_ rfl ?_
  ·simp [subF, lk, limbs_zero, us]
  ·rintro ⟨j, q, r⟩ ⟨hj, hinv, hr⟩
   simp only at hj hinv hr ⊢
   have hqx : q ≤ x := by
    have h1 : q ≤ q * y := Nat.le_mul_of_pos_right _ hy
    have h2 := Nat.div_le_self x (2 ^ j)
    omega
   have lq := len_mono hqx
   have lr := len_mono (Nat.le_of_lt hr)
   refine zS cI ?_
   refine W_cond rfl (fun hc => W_skip ?_) (fun hc => W_exit ?_)
   ·have hc := of_decide_eq_true hc
    obtain ⟨i, rfl⟩ : ∃ i, j = i + 1 := ⟨j - 1, by omega⟩
    have hs := bit_step x i
    rw [hinv] at hs
    have hb1 : x / 2 ^ i % 2 < 2 := Nat.mod_lt _ (by decide)
    have cb := rBit_calls (limbs x) i (by omega) (lim_limbs x) (by omega)
    rw [nv_limbs] at cb
    generalize hbit : x / 2 ^ i % 2 = bt at *
    have cd := rDouble_calls r bt (by omega) (by omega)
    have lrd : (limbs (2 * r + bt)).length ≤ (limbs y).length + 1 := Nat.le_trans (len_mono (by omega)) (len_double (Nat.le_refl _))
    have cs := rSub_calls (limbs (2 * r + bt)) (limbs y) (by omega) (by omega) (lim_limbs _) (lim_limbs _)
    rw [vn_limbs, vn_limbs] at cs
    have e1 : (((i + 1 : Nat) : Int) - 1) = (i : Int) := by omega
    (replace hs := Hid.mk hs; replace hbit := Hid.mk hbit; replace hinv := Hid.mk hinv)
    refine zS (zA e1 cI) ?_
    refine cP cb ?_
    refine zS cI ?_
    refine cP cd ?_
    refine zS cI ?_
    refine cP cs ?_
    refine zS cI ?_
    refine W_cond rfl (fun h2 => ?_) (fun h2 => ?_)
    ·have h2 := of_decide_eq_true h2
     have c1' := rDouble_calls q 1 (by omega) (by omega)
     refine zS cI ?_
     refine cP c1' ?_
     refine zS (zA e1 cI) ?_
     refine ⟨(i, 2 * q + 1, 2 * r + bt - y), ⟨by simp only; omega, ?_, by simp only; omega⟩, by simp only; omega, by simp [subF, lk]⟩
     simp only
     rw [hs.out, Nat.add_mul, Nat.mul_assoc]; omega
    ·have h2 := of_decide_eq_false h2
     have c0' := rDouble_calls q 0 (by omega) (by omega)
     refine zS cI ?_
     refine cP c0' ?_
     refine zS (zA e1 cI) ?_
     refine ⟨(i, 2 * q, 2 * r + bt), ⟨by simp only; omega, ?_, by simp only; omega⟩, by simp only; omega, by simp [subF, lk]⟩
     simp only
     rw [hs.out, Nat.mul_assoc]; omega
   ·have hc := of_decide_eq_false hc
    have : j = 0 := by omega
    subst this
    rw [Nat.pow_zero, Nat.div_one] at hinv
    obtain ⟨d1, d2⟩ := div_fin hinv hr
    refine zS cI ?_
    rw [← d1, ← d2]
    exact W_ret (RetP_3 (.imm rfl) (.imm rfl) (.imm rfl))
theorem gcd_step (x y : Nat) : Nat.gcd y (x % y) = Nat.gcd x y := by
 rw [Nat.gcd_comm y, ← Nat.gcd_rec, Nat.gcd_comm]
theorem ngcd_calls (a b : Nat) (ha : a < 18446744073709551616) (hb : b < 18446744073709551616) : PCalls Tryz.prog 223 [.int .u64 a, .int .u64 b] (.int .u64 (Nat.gcd a b : Nat)) := by
 refine PCalls_of isngcd (by simp [fnngcd]) ?_
 unfold codengcd
 refine zS cI ?_
 refine W_loop (σ := Nat × Nat) (fun z => [(0, .int .u64 z.1), (1, .int .u64 z.2)]) (fun _ => []) (fun z => Nat.gcd z.1 z.2 = Nat.gcd a b ∧ z.1 < 18446744073709551616 ∧ z.2 < 18446744073709551616) (fun z => z.2) (a, b) ⟨rfl, ha, hb⟩ ?_ rfl ?_
 ·simp [subF, lk]
 ·rintro ⟨x, y⟩ ⟨hg, hx, hy⟩
  simp only at hg hx hy ⊢
  refine zS cI ?_
  refine W_cond rfl (fun h => W_skip ?_) (fun h => W_exit ?_)
  ·have h := of_decide_eq_true h
   have hm := Nat.mod_lt x (show 0 < y by omega)
   refine zS (zA @tmod_nat cI) ?_
   refine ⟨(y, x % y), ⟨by rw [← hg]; exact gcd_step x y, hy, by simp only; omega⟩, hm, by simp [subF, lk]⟩
  ·have h := of_decide_eq_false h
   have : y = 0 := by omega
   subst this
   rw [Nat.gcd_zero_right] at hg
   subst hg
   refine zS cI ?_
   exact W_ret (RetP_1 (.imm rfl))
theorem nGcd_calls (a b : List Nat) (ha : a.length ≤ 100000) (hb : b.length ≤ 100000) (la : lim a) (lb : lim b) : PCalls Tryz.prog 163 [.sl 1 (us a), .sl 1 (us b)] (.sl 1 (us (limbs (Nat.gcd (vn a) (vn b))))) := by
 have l1 := vn_len la
 have l2 := vn_len lb
 have c1 := nValue_calls a (by omega) la
 have c2 := nValue_calls b (by omega) lb
 refine PCalls_of isnGcd (by simp [fnnGcd]) ?_
 unfold codenGcd
 generalize vn a = x0 at *
 generalize vn b = y0 at *
 refine zS cI ?_
 refine cP c1 ?_
 refine zS cI ?_
 refine cP c2 ?_
 refine zS cI ?_
 refine W_loop (σ := Nat × Nat) (fun z => [(0, .sl 1 (us (limbs z.1))), (1, .sl 1 (us (limbs z.2)))]) (fun _ => []) (fun z => Nat.gcd z.1 z.2 = Nat.gcd x0 y0 ∧ (limbs z.1).length ≤ 100000 ∧ (limbs z.2).length ≤ 100000) (fun z => z.2) (x0, y0) ⟨rfl, by simp only; omega, by simp only; omega⟩ ?_ rfl ?_
 ·simp [subF, lk]
 ·rintro ⟨x, y⟩ ⟨hg, hx, hy⟩
  simp only at hg hx hy ⊢
  refine zS (zA @us_length cI) ?_
  refine W_cond rfl (fun h => W_skip ?_) (fun h => W_exit ?_)
  ·have h := of_decide_eq_true h
   have hy0 : 0 < y := by
    rcases Nat.eq_zero_or_pos y with e | e
    ·subst e; rw [limbs_zero] at h; simp at h
    ·exact e
   have hm := Nat.mod_lt x hy0
   have u1 := nUint_calls (limbs x) (by omega) (lim_limbs x)
   have u2 := nUint_calls (limbs y) (by omega) (lim_limbs y)
   have cd := nDiv_calls (limbs x) (limbs y) hx hy (lim_limbs x) (lim_limbs y)
   rw [vn_limbs, vn_limbs, dmod_pos hy0, decide_eq_true hy0] at cd
   rw [vn_limbs] at u1 u2
   have lm := len_mono (Nat.le_of_lt hm)
   have fin : ∃ s', (Nat.gcd s'.1 s'.2 = Nat.gcd x0 y0 ∧ (limbs s'.1).length ≤ 100000 ∧ (limbs s'.2).length ≤ 100000) ∧ s'.2 < y ∧ s' = (y, x % y) := ⟨(y, x % y), ⟨by rw [← hg]; exact gcd_step x y, hy, by simp only; omega⟩, hm, rfl⟩
   by_cases hs1 : (limbs x).length > 2
   ·rw [uintR, if_pos hs1] at u1
    obtain ⟨p, s, e⟩ : ∃ p s, uintR y = .tup [.int .u64 p, .bool s] := by unfold uintR; split <;> exact ⟨_, _, rfl⟩
    rw [e] at u2
    refine zS cI ?_
    refine cP u1 ?_
    refine zS cI ?_
    refine cP u2 ?_
    refine zS cI ?_
    refine wFs ?_
    refine zS cI ?_
    refine cP cd ?_
    refine zS cI ?_
    obtain ⟨s', i1, i2, rfl⟩ := fin
    exact ⟨_, i1, i2, by simp [subF, lk]⟩
   ·rw [uintR, if_neg hs1] at u1
    have hx64 := limbs_le2 (show (limbs x).length ≤ 2 by omega)
    by_cases hs2 : (limbs y).length > 2
    ·rw [uintR, if_pos hs2] at u2
     refine zS cI ?_
     refine cP u1 ?_
     refine zS cI ?_
     refine cP u2 ?_
     refine zS cI ?_
     refine wFs ?_
     refine zS cI ?_
     refine cP cd ?_
     refine zS cI ?_
     obtain ⟨s', i1, i2, rfl⟩ := fin
     exact ⟨_, i1, i2, by simp [subF, lk]⟩
    ·rw [uintR, if_neg hs2] at u2
     have hy64 := limbs_le2 (show (limbs y).length ≤ 2 by omega)
     have cg := ngcd_calls x y hx64 hy64
     have hgl : Nat.gcd x y ≤ y := Nat.gcd_le_right x hy0
     have cf := nFromUint_calls (Nat.gcd x y) (by omega)
     refine zS cI ?_
     refine cP u1 ?_
     refine zS cI ?_
     refine cP u2 ?_
     refine zS cI ?_
     refine wT ?_
     refine zS cI ?_
     refine cP cg ?_
     refine zS cI ?_
     refine cP cf ?_
     refine zS cI ?_
     rw [← hg]
     exact W_ret (RetP_1 (.imm rfl))
  ·have h := of_decide_eq_false h
   have hy0 : y = 0 := limbs_eq_nil.1 (List.eq_nil_of_length_eq_zero (by omega))
   subst hy0
   rw [Nat.gcd_zero_right] at hg
   rw [← hg]
   have cc := Clone_calls (limbs x) (by omega)
   refine zS cI ?_
   refine cP cc ?_
   refine zS cI ?_
   exact W_ret (RetP_1 (.imm rfl))
theorem rGcd_calls (a b : List Nat) (ha : a.length ≤ 10000) (hb : b.length ≤ 10000) (la : lim a) (lb : lim b) : PCalls Tryz.prog 175 [.sl 1 (us a), .sl 1 (us b)] (.sl 1 (us (limbs (Nat.gcd (vn a) (vn b))))) := by
 have l1 := vn_len la
 have l2 := vn_len lb
 have c1 := rTake_calls a (by omega) la
 have c2 := rTake_calls b (by omega) lb
 refine PCalls_of isrGcd (by simp [fnrGcd]) ?_
 unfold coderGcd
 generalize vn a = x0 at *
 generalize vn b = y0 at *
 refine zS cI ?_
 refine cP c1 ?_
 refine zS cI ?_
 refine cP c2 ?_
 refine zS cI ?_
 refine W_loop (σ := Nat × Nat) (fun z => [(0, .sl 1 (us (limbs z.1))), (1, .sl 1 (us (limbs z.2)))]) (fun _ => []) (fun z => Nat.gcd z.1 z.2 = Nat.gcd x0 y0 ∧ (limbs z.1).length ≤ 10000 ∧ (limbs z.2).length ≤ 10000) (fun z => z.2) (x0, y0) ⟨rfl, by simp only; omega, by simp only; omega⟩ ?_ rfl ?_
 ·simp [subF, lk]
 ·rintro ⟨x, y⟩ ⟨hg, hx, hy⟩
  simp only at hg hx hy ⊢
  refine zS (zA @us_length cI) ?_
  refine W_cond rfl (fun h => W_skip ?_) (fun h => W_exit ?_)
  ·have h := of_decide_eq_true h
   have hy0 : 0 < y := by
    rcases Nat.eq_zero_or_pos y with e | e
    ·subst e; rw [limbs_zero] at h; simp at h
    ·exact e
   have hm := Nat.mod_lt x hy0
   have cd := rDiv_calls (limbs x) (limbs y) hx hy (lim_limbs x) (lim_limbs y)
   rw [vn_limbs, vn_limbs, dmod_pos hy0, decide_eq_true hy0] at cd
   have lm := len_mono (Nat.le_of_lt hm)
   refine zS cI ?_
   refine cP cd ?_
   refine zS cI ?_
   refine ⟨(y, x % y), ⟨by rw [← hg]; exact gcd_step x y, hy, by simp only; omega⟩, hm, by simp [subF, lk]⟩
  ·have h := of_decide_eq_false h
   have hy0 : y = 0 := limbs_eq_nil.1 (List.eq_nil_of_length_eq_zero (by omega))
   subst hy0
   rw [Nat.gcd_zero_right] at hg
   rw [← hg]
   refine zS cI ?_
   exact W_ret (RetP_1 (.imm rfl))
theorem nMul_calls (a b : List Nat) (ha : a.length ≤ 10000) (hb : b.length ≤ 10000) (la : lim a) (lb : lim b) : PCalls Tryz.prog 91 [.sl 1 (us a), .sl 1 (us b)] (.sl 1 (us (limbs (vn a * vn b)))) := by
 have h1 := vn_len la
 have h2 := vn_len lb
 have c1 := nValue_calls a (by omega) la
 have c2 := nValue_calls b (by omega) lb
 refine PCalls_of isnMul (by simp [fnnMul]) ?_
 unfold codenMul
 generalize vn a = x at h1 c1 ⊢
 generalize vn b = y at h2 c2 ⊢
 have laX := lim_limbs x
 have laY := lim_limbs y
 refine W_seq (W_reg ?_)
 refine zE cI ?_
 repeat refine ⟨by omega, ?_⟩
 refine W_seq (W_reg ?_)
 refine zE cI ?_
 repeat refine ⟨by omega, ?_⟩
 refine cP c1 ?_
 refine zE cI ?_
 repeat refine ⟨by omega, ?_⟩
 refine cP c2 ?_
 refine zE cI ?_
 repeat refine ⟨by omega, ?_⟩
 refine W_seq (W_reg ?_)
 refine zE (zA @us_length (zA @us_rep (zA @nbnMul (zA @add_nat cI)))) ?_
 repeat refine ⟨by omega, ?_⟩
 refine W_seq (W_seq (W_reg ?_))
 refine zE (zA @us_length cI) ?_
 repeat refine ⟨by omega, ?_⟩
 obtain ⟨N, hN⟩ : ∃ N, N = (limbs x).length + (limbs y).length := ⟨_, rfl⟩
 rw [← hN]
 refine W_block (W_loop (σ := Nat × List Nat) (fun s => [(0, .sl 1 (us (limbs x))), (1, .sl 1 (us (limbs y))), (5, .osl 1 20 0 N), (21, .sl 1 (us (limbs x))), (22, .int .i64 (limbs x).length), (23, .int .i64 s.1)])
  (fun s => [(20, us s.2)])
  (fun s => s.1 ≤ (limbs x).length ∧ s.2.length = N ∧ lim s.2 ∧ nv s.2 = nv ((limbs x).take s.1) * y ∧ ∀ k, s.1 + (limbs y).length ≤ k → s.2.getD k 0 = 0)
  (fun s => (limbs x).length - s.1) (0, List.replicate N 0) ⟨Nat.zero_le _, by simp, ?_, by simp [nv, nv_rep], ?_⟩ ?_ ?_ ?_)
 ·intro z hz; rw [List.eq_of_mem_replicate hz]; decide
 ·intro k _; simp [List.getD_eq_getElem?_getD, List.getElem?_replicate]; split <;> rfl
 ·simp [subF, lk]
 ·rfl
 ·rintro ⟨i, out⟩ ⟨hi, ho, hlo, hno, hzo⟩
  simp only at hi ho hlo hno hzo ⊢
  refine W_seq (W_reg ?_)
  refine zE cI ?_
  repeat refine ⟨by omega, ?_⟩
  refine W_seq (W_cond rfl (fun hcd => W_skip ?_) (fun hcd => W_exit ?_))
  ·have hlt := of_decide_eq_true hcd
   have hlt : i < (limbs x).length := by omega
   have hxi := lim_getD laX i
   refine zE cI ?_
   repeat refine ⟨by omega, ?_⟩
   refine W_seq (W_block (W_seq (W_reg ?_)))
   refine zE (zA @us_length (zA @us_getD cI)) ?_
   repeat refine ⟨by omega, ?_⟩
   refine W_seq (W_reg ?_)
   refine zE cI ?_
   repeat refine ⟨by omega, ?_⟩
   have hts := nv_take_succ' (a := limbs x) i
   generalize hxe : (limbs x).getD i 0 = xi at hxi hts ⊢
   refine W_seq (W_join (ι := Nat × List Nat) (fun s => s.1 < 4294967296 ∧ s.2.length = N ∧ lim s.2 ∧ nv s.2 + 4294967296 ^ (i + (limbs y).length) * s.1 = nv out + 4294967296 ^ i * (xi * y) ∧ ∀ k, i + (limbs y).length ≤ k → s.2.getD k 0 = 0)
    (fun s => [(0, .sl 1 (us (limbs x))), (1, .sl 1 (us (limbs y))), (5, .osl 1 20 0 N), (6, .int .i64 i), (8, .int .u64 s.1), (21, .sl 1 (us (limbs x))), (22, .int .i64 (limbs x).length), (23, .int .i64 i)]) (fun s => [(20, us s.2)]) (W_seq (W_reg ?_)) ?_)
   ·refine zE (zA @us_length cI) ?_
    repeat refine ⟨by omega, ?_⟩
    refine W_block (W_loop (σ := Nat × List Nat × Nat) (fun s => [(0, .sl 1 (us (limbs x))), (1, .sl 1 (us (limbs y))), (5, .osl 1 20 0 N), (6, .int .i64 i), (7, .int .u32 xi), (8, .int .u64 s.2.2), (21, .sl 1 (us (limbs x))), (22, .int .i64 (limbs x).length), (23, .int .i64 i), (28, .sl 1 (us (limbs y))), (29, .int .i64 (limbs y).length), (30, .int .i64 s.1)])
     (fun s => [(20, us s.2.1)])
     (fun s => s.1 ≤ (limbs y).length ∧ s.2.1.length = N ∧ lim s.2.1 ∧ s.2.2 < 4294967296 ∧ nv s.2.1 + 4294967296 ^ (i + s.1) * s.2.2 = nv out + 4294967296 ^ i * (xi * nv ((limbs y).take s.1)) ∧ ∀ k, i + (limbs y).length ≤ k → s.2.1.getD k 0 = 0)
     (fun s => (limbs y).length - s.1) (0, out, 0) ⟨Nat.zero_le _, ho, hlo, by simp only; omega, by simp [nv], hzo⟩ ?_ rfl ?_)
    ·simp [subF, lk]
    ·rintro ⟨j, q, c⟩ ⟨hj, hq, hlq, hc, hnv, hzq⟩
     simp only at hj hq hlq hc hnv hzq ⊢
     refine W_seq (W_reg ?_)
     refine zE cI ?_
     repeat refine ⟨by omega, ?_⟩
     refine W_seq (W_cond rfl (fun hcd2 => W_skip ?_) (fun hcd2 => W_exit ?_))
     ·have hlt2 := of_decide_eq_true hcd2
      have hlt2 : j < (limbs y).length := by omega
      have hyj := lim_getD laY j
      have htj := nv_take_succ' (a := limbs y) j
      have hoj := lim_getD hlq (i + j)
      have hidx : (((i : Int) + (j : Int))).toNat = i + j := by omega
      refine zE cI ?_
      repeat refine ⟨by omega, ?_⟩
      refine W_seq (W_block (W_seq (W_reg ?_)))
      refine zE (zA @us_length (zA @us_getD cI)) ?_
      repeat refine ⟨by omega, ?_⟩
      generalize (limbs y).getD j 0 = yj at hyj htj ⊢
      refine W_seq (W_reg ?_)
      refine zE (zA @us_length (zA @us_getD (zA hidx (zA hq cI)))) ?_
      repeat refine ⟨by omega, ?_⟩
      obtain ⟨m1, m2⟩ := mac_w hxi hyj hc hoj
      have hw : IntKind.u64.wrap ((c : Int) + IntKind.u64.wrap (IntKind.u64.wrap ((xi : Int) * (yj : Int)) + ((q.getD (i + j) 0 : Nat) : Int))) = ((xi * yj + q.getD (i + j) 0 + c : Nat) : Int) := by
       rw [mul_w hxi hyj]
       generalize xi * yj = p at m1 ⊢
       generalize q.getD (i + j) 0 = o at m1 ⊢
       rw [wu64 (x := (p : Int) + (o : Int)) (by omega) (by omega), wu64 (by omega) (by omega)]
       omega
      rw [hw]
      have hset := nv_set (l := q) (k := i + j) (v := (xi * yj + q.getD (i + j) 0 + c) % 4294967296) (by omega)
      have hstep := mac_step hnv hset rfl
      generalize xi * yj + q.getD (i + j) 0 + c = t at m1 m2 hset hstep ⊢
      have halg : 4294967296 ^ (i + j) * (xi * yj) = 4294967296 ^ i * (xi * (4294967296 ^ j * yj)) := by
       rw [Nat.pow_add, Nat.mul_assoc, ← Nat.mul_assoc (4294967296 ^ j) xi yj, Nat.mul_comm (4294967296 ^ j) xi, Nat.mul_assoc xi]
      have hfin : nv (q.set (i + j) (t % 4294967296)) + 4294967296 ^ (i + (j + 1)) * (t / 4294967296) = nv out + 4294967296 ^ i * (xi * nv ((limbs y).take (j + 1))) := by
       rw [htj, Nat.mul_add, Nat.mul_add, ← halg, ← Nat.add_assoc (nv out), ← hstep, show i + (j + 1) = i + j + 1 from rfl, Nat.pow_succ]
      refine W_seq (W_reg ?_)
      refine zE (zA @us_length (zA hidx (zA hq (zA @us_set (zA @wu32' (zA @mod32 cI)))))) ?_
      repeat refine ⟨by omega, ?_⟩
      refine W_reg ?_
      refine zE (zA @shr32u64 cI) ?_
      repeat refine ⟨by omega, ?_⟩
      refine W_reg ?_
      refine zE cI ?_
      refine ⟨(j + 1, q.set (i + j) (t % 4294967296), t / 4294967296), ⟨by simp only; omega, by simp [hq], lim_set hlq (by omega), m2, hfin, ?_⟩, by simp only; omega, by simp [subF, lk], rfl⟩
      intro k hk
      simp only
      rw [getD_set_ne' (by omega)]
      exact hzq k hk
     ·have hge2 := of_decide_eq_false hcd2
      have hjl : j = (limbs y).length := by omega
      subst hjl
      rw [List.take_of_length_le (Nat.le_refl _), nv_limbs] at hnv
      refine zE cI ?_
      exact ⟨(c, q), ⟨hc, hq, hlq, hnv, hzq⟩, by simp [subF, lk], rfl⟩
   ·rintro ⟨c, q⟩ ⟨hc, hq, hlq, hnv, hzq⟩
    simp only at hc hq hlq hnv hzq ⊢
    have hidx : ((((i : Int) + ((limbs y).length : Int)))).toNat = i + (limbs y).length := by omega
    have hset := nv_set (l := q) (k := i + (limbs y).length) (v := c) (by omega)
    rw [hzq _ (Nat.le_refl _), Nat.mul_zero, Nat.add_zero] at hset
    have hcm : c % 4294967296 = c := Nat.mod_eq_of_lt hc
    refine W_reg ?_
    refine zE (zA @us_length (zA hidx (zA hq (zA @us_set (zA @wu32' (zA @mod32 (zA hcm cI))))))) ?_
    repeat refine ⟨by omega, ?_⟩
    refine W_reg ?_
    refine zE cI ?_
    refine ⟨(i + 1, q.set (i + (limbs y).length) c), ⟨by simp only; omega, by simp [hq], lim_set hlq hc, ?_, ?_⟩, by simp only; omega, by simp [subF, lk], rfl⟩
    ·simp only
     rw [hset, hnv, hno, hts, Nat.add_mul, Nat.mul_assoc]
    ·intro k hk
     simp only at hk ⊢
     rw [getD_set_ne' (by omega)]
     exact hzq k (by omega)
  ·have hge := of_decide_eq_false hcd
   have hil : i = (limbs x).length := by omega
   subst hil
   rw [List.take_of_length_le (Nat.le_refl _), nv_limbs] at hno
   have ct := nTrim_calls out (by omega) hlo
   rw [hno] at ct
   refine zE cI ?_
   repeat refine ⟨by omega, ?_⟩
   refine W_seq (W_reg ?_)
   refine zE cI ?_
   repeat refine ⟨by omega, ?_⟩
   refine callC_freeze rfl 20 (cells := us out) (by simp [lkH]) (us_rf _) ?_
   simp (maxSteps := 1000000) (disch := omega) only [cA, cB, cN, FnD.nb, lk, lkH, Dst.onT, Dst.onX, Dst.slot, setF, setH, mapF, mapH, initF, binE, unE, cnt, boundE, newsE, freshE, freshT, opE, rmH, blkQ, frz_us, Nat.reduceEqDiff, Nat.reduceLT, Nat.reduceAdd, Nat.reduceMul, Nat.reduceMod, ↓reduceIte, reduceCtorEq, Nat.reduceLeDiff, frz_us ho.symm, cI]
   refine cP ct ?_
   refine zE cI ?_
   exact W_ret (RetP_1 (.imm rfl))
theorem vld_eq {a : List Nat} (la : lim a) (h : vld a = true) : limbs (vn a) = a := by
 rw [vn, val, h, if_pos rfl, limbs_nv la h]
theorem len_add {p q m : Nat} (h1 : (limbs p).length ≤ m) (h2 : (limbs q).length ≤ m) : (limbs (p + q)).length ≤ m + 1 := by
 rw [limbs_len] at h1 h2 ⊢
 rw [Nat.pow_succ]; omega
theorem nAddL (p q : Nat) (h1 : (limbs p).length ≤ 100000) (h2 : (limbs q).length ≤ 100000) : PCalls Tryz.prog 161 [.sl 1 (us (limbs p)), .sl 1 (us (limbs q))] (.sl 1 (us (limbs (p + q)))) := by
 have := nAdd_calls (limbs p) (limbs q) h1 h2 (lim_limbs _) (lim_limbs _)
 rwa [vn_limbs, vn_limbs] at this
theorem nMulL (p q : Nat) (h1 : (limbs p).length ≤ 10000) (h2 : (limbs q).length ≤ 10000) : PCalls Tryz.prog 91 [.sl 1 (us (limbs p)), .sl 1 (us (limbs q))] (.sl 1 (us (limbs (p * q)))) := by
 have := nMul_calls (limbs p) (limbs q) h1 h2 (lim_limbs _) (lim_limbs _)
 rwa [vn_limbs, vn_limbs] at this
theorem nDivL (p q : Nat) (h1 : (limbs p).length ≤ 100000) (h2 : (limbs q).length ≤ 100000) : PCalls Tryz.prog 164 [.sl 1 (us (limbs p)), .sl 1 (us (limbs q))] (.tup [.sl 1 (us (limbs (p / q))), .sl 1 (us (limbs (dmod p q))), .bool (decide (0 < q))]) := by
 have := nDiv_calls (limbs p) (limbs q) h1 h2 (lim_limbs _) (lim_limbs _)
 rwa [vn_limbs, vn_limbs] at this
theorem limbs1 : limbs 1 = [1] := limbs_one (by decide) (by decide)
theorem us1L : [DV.int .u32 1] = us (limbs 1) := by rw [limbs1]; rfl
theorem us_rfd (xs : List Nat) : (∀ d ∈ us xs, d.rf = true) = True := by simp [us, u32, DV.rf]
theorem rAddL (p q : Nat) (h1 : (limbs p).length ≤ 100000) (h2 : (limbs q).length ≤ 100000) : PCalls Tryz.prog 117 [.sl 1 (us (limbs p)), .sl 1 (us (limbs q))] (.sl 1 (us (limbs (p + q)))) := by
 have := rAdd_calls (limbs p) (limbs q) h1 h2 (lim_limbs _) (lim_limbs _)
 rwa [vn_limbs, vn_limbs] at this
theorem rMulL (p q : Nat) (h1 : (limbs p).length ≤ 10000) (h2 : (limbs q).length ≤ 10000) : PCalls Tryz.prog 119 [.sl 1 (us (limbs p)), .sl 1 (us (limbs q))] (.sl 1 (us (limbs (p * q)))) := by
 have := rMul_calls (limbs p) (limbs q) h1 h2 (lim_limbs _) (lim_limbs _)
 rwa [vn_limbs, vn_limbs] at this
theorem rDivL (p q : Nat) (h1 : (limbs p).length ≤ 10000) (h2 : (limbs q).length ≤ 10000) : PCalls Tryz.prog 189 [.sl 1 (us (limbs p)), .sl 1 (us (limbs q))] (.tup [.sl 1 (us (limbs (p / q))), .sl 1 (us (limbs (dmod p q))), .bool (decide (0 < q))]) := by
 have := rDiv_calls (limbs p) (limbs q) h1 h2 (lim_limbs _) (lim_limbs _)
 rwa [vn_limbs, vn_limbs] at this
theorem len_gt (n : Nat) : decide ((0 : Int) < ((limbs n).length : Int)) = decide (0 < n) := by
 rw [decide_eq_decide, ← limbs_len0]; omega
theorem iValid_calls (neg : Bool) (a : List Nat) (ha : a.length ≤ 1000000) : PCalls Tryz.prog 218 [X neg a] (.bool (vldI neg a)) := by
 refine PCalls_of isiValid (by simp [fniValid]) ?_
 unfold codeiValid
 have cv := nValid_calls a ha
 unfold vldI
 have hd : decide ((0 : Int) < a.length) = decide (0 < a.length) := by rw [decide_eq_decide]; omega
 generalize decide (0 < a.length) = p at *
 generalize vld a = v at *
 repeat (first | refine zQ (zA @X.eq_1 (zA @cS (zA @nbiValid (zA @us_length (zA hd cI))))) ?_ | refine cP cv ?_ | exact zT)
 cases v
 ·repeat (first | refine zQ (zA @X.eq_1 (zA @cS (zA @nbiValid (zA @us_length (zA hd cI))))) ?_ | refine cP cv ?_ | exact zT)
 ·cases p
  ·repeat (first | refine zQ (zA @X.eq_1 (zA @cS (zA @nbiValid (zA @us_length (zA hd cI))))) ?_ | refine cP cv ?_ | exact zT)
  ·repeat (first | refine zQ (zA @X.eq_1 (zA @cS (zA @nbiValid (zA @us_length (zA hd cI))))) ?_ | refine cP cv ?_ | exact zT)
theorem i_value_calls (neg : Bool) (a : List Nat) (ha : a.length ≤ 1000000) (la : lim a) : PCalls Tryz.prog 159 [X neg a] (I (iv neg a)) := by
 have cv := iValid_calls neg a ha
 refine PCalls_of isi_value (by simp [fni_value]) ?_
 unfold codei_value
 by_cases hv : vldI neg a = true
 ·rw [hv] at cv
  rw [← X_I la hv]
  repeat (first | refine zQ (zA @X.eq_1 (zA @cS (zA @nbi_value cI))) ?_ | refine cP cv ?_ | exact zT)
  refine wT ?_
  repeat (first | refine zQ (zA @X.eq_1 (zA @cS (zA @nbi_value cI))) ?_ | refine cP cv ?_ | exact zT)
 ·have hv : vldI neg a = false := by simpa using hv
  rw [hv] at cv
  rw [iv_inv hv]
  repeat (first | refine zQ (zA @X.eq_1 (zA @cS (zA @nbi_value cI))) ?_ | refine cP cv ?_ | exact zT)
  refine wFs ?_
  refine zS (zA @X.eq_1 (zA @cS (zA @nbi_value cI))) ?_
  refine W_ret (RetP_c rfl rfl rfl ?_)
  rw [show I 0 = .agg [.bool false, .sl 1 []] by unfold I; rw [show (0 : Int).natAbs = 0 from rfl, limbs_zero]; rfl]
  exact Exp_bn _ _
theorem i_signed_calls (neg : Bool) (n : Nat) : PCalls Tryz.prog 160 [.bool neg, .sl 1 (us (limbs n))] (I (sgn neg n)) := by
 refine PCalls_of isi_signed (by simp [fni_signed]) ?_
 unfold codei_signed I
 rw [sgn_lt, sgn_abs]
 cases neg
 ·refine zS (zA @cS (zA @nbi_signed (zA @us_length (zA @len_gt cI)))) ?_
  exact W_ret (RetP_c rfl rfl rfl (.imm rfl))
 ·simp only [Bool.true_and]
  refine zS (zA @cS (zA @nbi_signed (zA @us_length (zA @len_gt cI)))) ?_
  exact W_ret (RetP_c rfl rfl rfl (.imm rfl))
theorem i_copied_calls (neg : Bool) (a : List Nat) (ha : a.length ≤ 10000) (la : lim a) : PCalls Tryz.prog 266 [X neg a] (I (iv neg a)) := by
 have ca := nAdd_calls a [] (by omega) (by simp) la lim_nil
 rw [show vn [] = 0 from rfl, Nat.add_zero, us_nil] at ca
 have cs := i_signed_calls neg (vn a)
 rw [← iv_sgn] at cs
 refine PCalls_of isi_copied (by simp [fni_copied]) ?_
 unfold codei_copied
 repeat (first | refine zQ (zA @X.eq_1 (zA @I.eq_1 (zA @cS (zA @nbi_copied cI)))) ?_ | refine cP (PCalls_nz 1 (ca)) ?_ | refine cP cs ?_ | exact zT)
theorem iFromInt_calls (v : Int) (h1 : -9223372036854775808 ≤ v) (h2 : v ≤ 9223372036854775807) : PCalls Tryz.prog 151 [.int .i64 v] (I v) := by
 refine PCalls_of isiFromInt (by simp [fniFromInt]) ?_
 unfold codeiFromInt
 by_cases hv : v < 0
 ·have d1 : decide (v < 0) = true := decide_eq_true hv
  obtain ⟨n, hn⟩ : ∃ n : Nat, v = -(n : Int) := ⟨v.natAbs, by omega⟩
  have cf := nFromUint_calls n (by omega)
  have cs := i_signed_calls true n
  rw [show sgn true n = v by unfold sgn; rw [if_pos rfl, hn]] at cs
  have e1 : IntKind.u64.wrap (0 - IntKind.u64.wrap v) = (n : Int) := by rw [IntKind.wrap_u64, IntKind.wrap_u64]; omega
  repeat (first | refine zQ (zA @I.eq_1 (zA @cS (zA @nbiFromInt (zA d1 cI)))) ?_ | refine cP cf ?_ | refine cP cs ?_ | exact zT)
  refine wT ?_
  repeat (first | refine zQ (zA @I.eq_1 (zA @cS (zA @nbiFromInt (zA d1 (zA e1 cI))))) ?_ | refine cP cf ?_ | refine cP cs ?_ | exact zT)
 ·have d1 : decide (v < 0) = false := decide_eq_false hv
  obtain ⟨n, hn⟩ : ∃ n : Nat, v = (n : Int) := ⟨v.natAbs, by omega⟩
  have cf := nFromUint_calls n (by omega)
  have cs := i_signed_calls false n
  rw [show sgn false n = v by unfold sgn; rw [if_neg (by simp), hn]] at cs
  have e1 : IntKind.u64.wrap v = (n : Int) := by rw [IntKind.wrap_u64]; omega
  repeat (first | refine zQ (zA @I.eq_1 (zA @cS (zA @nbiFromInt (zA d1 cI)))) ?_ | refine cP cf ?_ | refine cP cs ?_ | exact zT)
  refine wFs ?_
  repeat (first | refine zQ (zA @I.eq_1 (zA @cS (zA @nbiFromInt (zA d1 (zA e1 cI))))) ?_ | refine cP cf ?_ | refine cP cs ?_ | exact zT)
theorem iSign_calls (neg : Bool) (a : List Nat) (ha : a.length ≤ 1000000) (la : lim a) : PCalls Tryz.prog 256 [X neg a] (.int .i64 (iv neg a).sign) := by
 have cv := i_value_calls neg a ha la
 refine PCalls_of isiSign (by simp [fniSign]) ?_
 unfold codeiSign
 generalize iv neg a = z at *
 have dz : decide (((limbs z.natAbs).length : Int) = 0) = decide (z = 0) := by rw [decide_eq_decide, ← sign_len (z := z)]; omega
 repeat (first | refine zQ (zA @X.eq_1 (zA @I.eq_1 (zA @cS (zA @nbiSign (zA @us_length (zA dz cI)))))) ?_ | refine cP cv ?_ | exact zT)
 refine W_cond rfl (fun h => ?_) (fun h => ?_)
 ·have h := of_decide_eq_true h
  subst h
  repeat (first | refine zQ (zA @cS cI) ?_ | refine cP cv ?_ | exact zT)
 ·have h := of_decide_eq_false h
  repeat (first | refine zQ (zA @cS cI) ?_ | refine cP cv ?_ | exact zT)
  refine W_cond rfl (fun h3 => ?_) (fun h3 => W_skip ?_)
  ·rw [Int.sign_eq_neg_one_of_neg (of_decide_eq_true h3)]
   repeat (first | refine zQ (zA @cS cI) ?_ | refine cP cv ?_ | exact zT)
  ·have h3 := of_decide_eq_false h3
   rw [Int.sign_eq_one_of_pos (by omega)]
   repeat (first | refine zQ (zA @cS cI) ?_ | refine cP cv ?_ | exact zT)
theorem iNeg_calls (neg : Bool) (a : List Nat) (ha : a.length ≤ 10000) (la : lim a) : PCalls Tryz.prog 257 [X neg a] (I (-(iv neg a))) := by
 have cv := i_value_calls neg a (by omega) la
 have hl := iv_len la neg
 have cc := i_copied_calls (decide (iv neg a < 0)) (limbs (iv neg a).natAbs) (by omega) (lim_limbs _)
 have cs := i_signed_calls (!decide (iv neg a < 0)) (iv neg a).natAbs
 rw [sgn_not] at cs
 rw [iv_I] at cc
 refine PCalls_of isiNeg (by simp [fniNeg]) ?_
 unfold codeiNeg
 repeat (first | refine zQ (zA @X.eq_1 (zA @I.eq_1 (zA @cS (zA @nbiNeg cI)))) ?_ | refine cP cv ?_ | refine cP cc ?_ | refine cP cs ?_ | exact zT)
theorem iMul_calls (n1 : Bool) (a : List Nat) (n2 : Bool) (b : List Nat) (ha : a.length ≤ 10000) (hb : b.length ≤ 10000) (la : lim a) (lb : lim b) : PCalls Tryz.prog 167 [X n1 a, X n2 b] (I (iv n1 a * iv n2 b)) := by
 have cv := i_value_calls n1 a (by omega) la
 have cw := i_value_calls n2 b (by omega) lb
 have l1 := iv_len la n1
 have l2 := iv_len lb n2
 generalize iv n1 a = x at *
 generalize iv n2 b = y at *
 have cm := nMulL x.natAbs y.natAbs (by omega) (by omega)
 have cs := i_signed_calls (!(decide (x < 0) == decide (y < 0))) (x.natAbs * y.natAbs)
 rw [mul_sgn] at cs
 refine PCalls_of isiMul (by simp [fniMul]) ?_
 unfold codeiMul
 repeat (first | refine zQ (zA @X.eq_1 (zA @I.eq_1 (zA @cS (zA @nbiMul cI)))) ?_ | refine cP cv ?_ | refine cP cw ?_ | refine cP cm ?_ | refine cP cs ?_ | exact zT)
theorem iAdd_calls (n1 : Bool) (a : List Nat) (n2 : Bool) (b : List Nat) (ha : a.length ≤ 10000) (hb : b.length ≤ 10000) (la : lim a) (lb : lim b) : PCalls Tryz.prog 87 [X n1 a, X n2 b] (I (iv n1 a + iv n2 b)) := by
 have cv := i_value_calls n1 a (by omega) la
 have cw := i_value_calls n2 b (by omega) lb
 have l1 := iv_len la n1
 have l2 := iv_len lb n2
 generalize iv n1 a = x at *
 generalize iv n2 b = y at *
 have ca := nAddL x.natAbs y.natAbs (by omega) (by omega)
 have cd := nSub_calls (limbs x.natAbs) (limbs y.natAbs) (by omega) (by omega) (lim_limbs _) (lim_limbs _)
 have ce := nSub_calls (limbs y.natAbs) (limbs x.natAbs) (by omega) (by omega) (lim_limbs _) (lim_limbs _)
 rw [vn_limbs, vn_limbs] at cd ce
 have s1 := i_signed_calls (decide (x < 0)) (x.natAbs + y.natAbs)
 have s2 := i_signed_calls (decide (x < 0)) (x.natAbs - y.natAbs)
 have s3 := i_signed_calls (decide (y < 0)) (y.natAbs - x.natAbs)
 refine PCalls_of isiAdd (by simp [fniAdd]) ?_
 unfold codeiAdd
 by_cases h : decide (x < 0) = decide (y < 0)
 ·rw [add_same h] at s1
  have hb : (decide (x < 0) == decide (y < 0)) = true := by rw [h]; simp
  repeat (first | refine zQ (zA @X.eq_1 (zA @I.eq_1 (zA @cS (zA @nbiAdd (zA hb cI))))) ?_ | refine cP cv ?_ | refine cP cw ?_ | exact zT)
  refine wT ?_
  repeat (first | refine zQ (zA @X.eq_1 (zA @I.eq_1 (zA @cS (zA @nbiAdd (zA hb cI))))) ?_ | refine cP ca ?_ | refine cP s1 ?_ | exact zT)
 ·have hb : (decide (x < 0) == decide (y < 0)) = false := by simpa using h
  by_cases hle : y.natAbs ≤ x.natAbs
  ·rw [add_left h hle] at s2
   rw [decide_eq_true hle] at cd
   repeat (first | refine zQ (zA @X.eq_1 (zA @I.eq_1 (zA @cS (zA @nbiAdd (zA hb cI))))) ?_ | refine cP cv ?_ | refine cP cw ?_ | exact zT)
   refine wFs ?_
   repeat (first | refine zQ (zA @X.eq_1 (zA @I.eq_1 (zA @cS (zA @nbiAdd cI)))) ?_ | refine cP cd ?_ | exact zT)
   refine wT ?_
   repeat (first | refine zQ (zA @X.eq_1 (zA @I.eq_1 (zA @cS (zA @nbiAdd cI)))) ?_ | refine cP s2 ?_ | exact zT)
  ·rw [add_right h hle] at s3
   rw [decide_eq_false hle] at cd
   repeat (first | refine zQ (zA @X.eq_1 (zA @I.eq_1 (zA @cS (zA @nbiAdd (zA hb cI))))) ?_ | refine cP cv ?_ | refine cP cw ?_ | exact zT)
   refine wFs ?_
   repeat (first | refine zQ (zA @X.eq_1 (zA @I.eq_1 (zA @cS (zA @nbiAdd cI)))) ?_ | refine cP cd ?_ | exact zT)
   refine wFs ?_
   repeat (first | refine zQ (zA @X.eq_1 (zA @I.eq_1 (zA @cS (zA @nbiAdd cI)))) ?_ | refine cP ce ?_ | refine cP s3 ?_ | exact zT)
theorem I0 : I 0 = .agg [.bool false, .sl 1 []] := by unfold I; rw [show (0 : Int).natAbs = 0 from rfl, limbs_zero]; rfl
theorem rGcdL (p q : Nat) (h1 : (limbs p).length ≤ 10000) (h2 : (limbs q).length ≤ 10000) : PCalls Tryz.prog 175 [.sl 1 (us (limbs p)), .sl 1 (us (limbs q))] (.sl 1 (us (limbs (Nat.gcd p q)))) := by
 have := rGcd_calls (limbs p) (limbs q) h1 h2 (lim_limbs _) (lim_limbs _)
 rwa [vn_limbs, vn_limbs] at this
theorem sValid_calls (neg : Bool) (a : List Nat) (ha : a.length ≤ 1000000) : PCalls Tryz.prog 173 [X neg a] (.bool (vldI neg a)) := by
 refine PCalls_of issValid (by simp [fnsValid]) ?_
 unfold codesValid
 have cv := rValid_calls a ha
 unfold vldI
 have hd : decide ((a.length : Int) = 0) = !decide (0 < a.length) := by
  by_cases h : 0 < a.length
  ·rw [decide_eq_true h, decide_eq_false (by omega)]; rfl
  ·rw [decide_eq_false h, decide_eq_true (by omega)]; rfl
 generalize decide (0 < a.length) = p at *
 generalize vld a = v at *
 repeat (first | refine zQ (zA @X.eq_1 (zA @cS (zA @nbsValid (zA @us_length (zA hd cI))))) ?_ | refine cP cv ?_ | exact zT)
 cases v
 ·repeat (first | refine zQ (zA @X.eq_1 (zA @cS (zA @nbsValid (zA @us_length (zA hd cI))))) ?_ | refine cP cv ?_ | exact zT)
 ·cases neg
  ·simp only [Bool.not_false, Bool.or_true, Bool.and_true]
   repeat (first | refine zQ (zA @X.eq_1 (zA @cS (zA @nbsValid (zA @us_length (zA hd cI))))) ?_ | refine cP cv ?_ | exact zT)
  ·simp only [Bool.not_true, Bool.or_false, Bool.true_and]
   repeat (first | refine zQ (zA @X.eq_1 (zA @cS (zA @nbsValid (zA @us_length (zA hd (zA @Bool.not_not cI)))))) ?_ | refine cP cv ?_ | exact zT)
theorem sTake_calls (neg : Bool) (a : List Nat) (ha : a.length ≤ 1000000) (la : lim a) : PCalls Tryz.prog 95 [X neg a] (I (iv neg a)) := by
 have cv := sValid_calls neg a ha
 have ct := rTake_calls a ha la
 refine PCalls_of issTake (by simp [fnsTake]) ?_
 unfold codesTake
 by_cases hv : vldI neg a = true
 ·rw [hv] at cv
  rw [← X_I la hv]
  have hva : limbs (vn a) = a := by
   have : vld a = true := by unfold vldI at hv; rw [Bool.and_eq_true] at hv; exact hv.1
   exact vld_eq la this
  rw [hva] at ct
  repeat (first | refine zQ (zA @X.eq_1 (zA @cS (zA @nbsTake cI))) ?_ | refine cP cv ?_ | exact zT)
  refine wFs ?_
  repeat (first | refine zQ (zA @X.eq_1 (zA @cS (zA @nbsTake cI))) ?_ | refine cP ct ?_ | exact zT)
 ·have hv : vldI neg a = false := by simpa using hv
  rw [hv] at cv
  rw [iv_inv hv]
  repeat (first | refine zQ (zA @X.eq_1 (zA @cS (zA @nbsTake cI))) ?_ | refine cP cv ?_ | exact zT)
  refine wT ?_
  refine zS (zA @X.eq_1 (zA @cS (zA @nbsTake cI))) ?_
  refine W_ret (RetP_c rfl rfl rfl ?_)
  rw [I0]
  exact Exp_bn _ _
theorem s_signed_calls (neg : Bool) (n : Nat) : PCalls Tryz.prog 116 [.bool neg, .sl 1 (us (limbs n))] (I (sgn neg n)) := by
 refine PCalls_of iss_signed (by simp [fns_signed]) ?_
 unfold codes_signed I
 rw [sgn_lt, sgn_abs]
 cases neg
 ·refine zS (zA @cS (zA @nbs_signed (zA @us_length (zA @len_gt cI)))) ?_
  exact W_ret (RetP_c rfl rfl rfl (.imm rfl))
 ·simp only [Bool.true_and]
  refine zS (zA @cS (zA @nbs_signed (zA @us_length (zA @len_gt cI)))) ?_
  exact W_ret (RetP_c rfl rfl rfl (.imm rfl))
theorem sSign_calls (neg : Bool) (a : List Nat) (ha : a.length ≤ 1000000) (la : lim a) : PCalls Tryz.prog 59 [X neg a] (.int .i64 (iv neg a).sign) := by
 have cv := sTake_calls neg a ha la
 refine PCalls_of issSign (by simp [fnsSign]) ?_
 unfold codesSign
 generalize iv neg a = z at *
 repeat (first | refine zQ (zA @X.eq_1 (zA @I.eq_1 (zA @cS (zA @nbsSign (zA @us_length (zA @len_gt cI)))))) ?_ | refine cP cv ?_ | exact zT)
 refine W_cond rfl (fun h => ?_) (fun h => ?_)
 ·rw [Int.sign_eq_neg_one_of_neg (of_decide_eq_true h)]
  repeat (first | refine zQ (zA @cS cI) ?_ | refine cP cv ?_ | exact zT)
 ·have h := of_decide_eq_false h
  repeat (first | refine zQ (zA @I.eq_1 (zA @cS (zA @us_length (zA @len_gt cI)))) ?_ | refine cP cv ?_ | exact zT)
  refine W_cond rfl (fun h3 => ?_) (fun h3 => W_skip ?_)
  ·have h3 := of_decide_eq_true h3
   rw [Int.sign_eq_one_of_pos (by omega)]
   repeat (first | refine zQ (zA @cS cI) ?_ | refine cP cv ?_ | exact zT)
  ·have h3 := of_decide_eq_false h3
   rw [show z = 0 by omega]
   repeat (first | refine zQ (zA @cS cI) ?_ | refine cP cv ?_ | exact zT)
theorem sNeg_calls (neg : Bool) (a : List Nat) (ha : a.length ≤ 9000) (la : lim a) : PCalls Tryz.prog 112 [X neg a] (I (-(iv neg a))) := by
 have cv := sTake_calls neg a (by omega) la
 have cs := s_signed_calls (!decide (iv neg a < 0)) (iv neg a).natAbs
 rw [sgn_not] at cs
 refine PCalls_of issNeg (by simp [fnsNeg]) ?_
 unfold codesNeg
 repeat (first | refine zQ (zA @X.eq_1 (zA @I.eq_1 (zA @cS (zA @nbsNeg cI)))) ?_ | refine cP cv ?_ | refine cP cs ?_ | exact zT)
theorem sMul_calls (n1 : Bool) (a : List Nat) (n2 : Bool) (b : List Nat) (ha : a.length ≤ 9000) (hb : b.length ≤ 9000) (la : lim a) (lb : lim b) : PCalls Tryz.prog 57 [X n1 a, X n2 b] (I (iv n1 a * iv n2 b)) := by
 have cv := sTake_calls n1 a (by omega) la
 have cw := sTake_calls n2 b (by omega) lb
 have l1 := iv_len la n1
 have l2 := iv_len lb n2
 generalize iv n1 a = x at *
 generalize iv n2 b = y at *
 have cm := rMulL x.natAbs y.natAbs (by omega) (by omega)
 have cs := s_signed_calls (!(decide (x < 0) == decide (y < 0))) (x.natAbs * y.natAbs)
 rw [mul_sgn] at cs
 refine PCalls_of issMul (by simp [fnsMul]) ?_
 unfold codesMul
 repeat (first | refine zQ (zA @X.eq_1 (zA @I.eq_1 (zA @cS (zA @nbsMul cI)))) ?_ | refine cP cv ?_ | refine cP cw ?_ | refine cP cm ?_ | refine cP cs ?_ | exact zT)
theorem sAdd_calls (n1 : Bool) (a : List Nat) (n2 : Bool) (b : List Nat) (ha : a.length ≤ 9000) (hb : b.length ≤ 9000) (la : lim a) (lb : lim b) : PCalls Tryz.prog 56 [X n1 a, X n2 b] (I (iv n1 a + iv n2 b)) := by
 have cv := sTake_calls n1 a (by omega) la
 have cw := sTake_calls n2 b (by omega) lb
 have l1 := iv_len la n1
 have l2 := iv_len lb n2
 generalize iv n1 a = x at *
 generalize iv n2 b = y at *
 have ca := rAddL x.natAbs y.natAbs (by omega) (by omega)
 have cd := rSub_calls (limbs x.natAbs) (limbs y.natAbs) (by omega) (by omega) (lim_limbs _) (lim_limbs _)
 have ce := rSub_calls (limbs y.natAbs) (limbs x.natAbs) (by omega) (by omega) (lim_limbs _) (lim_limbs _)
 rw [vn_limbs, vn_limbs] at cd ce
 have s1 := s_signed_calls (decide (x < 0)) (x.natAbs + y.natAbs)
 have s2 := s_signed_calls (decide (x < 0)) (x.natAbs - y.natAbs)
 have s3 := s_signed_calls (decide (y < 0)) (y.natAbs - x.natAbs)
 refine PCalls_of issAdd (by simp [fnsAdd]) ?_
 unfold codesAdd
 by_cases h : decide (x < 0) = decide (y < 0)
 ·rw [add_same h] at s1
  have hb : (decide (x < 0) == decide (y < 0)) = true := by rw [h]; simp
  repeat (first | refine zQ (zA @X.eq_1 (zA @I.eq_1 (zA @cS (zA @nbsAdd (zA hb cI))))) ?_ | refine cP cv ?_ | refine cP cw ?_ | exact zT)
  refine wT ?_
  repeat (first | refine zQ (zA @X.eq_1 (zA @I.eq_1 (zA @cS (zA @nbsAdd (zA hb cI))))) ?_ | refine cP ca ?_ | refine cP s1 ?_ | exact zT)
 ·have hb : (decide (x < 0) == decide (y < 0)) = false := by simpa using h
  by_cases hle : y.natAbs ≤ x.natAbs
  ·rw [add_left h hle] at s2
   rw [decide_eq_true hle] at cd
   repeat (first | refine zQ (zA @X.eq_1 (zA @I.eq_1 (zA @cS (zA @nbsAdd (zA hb cI))))) ?_ | refine cP cv ?_ | refine cP cw ?_ | exact zT)
   refine wFs ?_
   repeat (first | refine zQ (zA @X.eq_1 (zA @I.eq_1 (zA @cS (zA @nbsAdd cI)))) ?_ | refine cP cd ?_ | exact zT)
   refine wT ?_
   repeat (first | refine zQ (zA @X.eq_1 (zA @I.eq_1 (zA @cS (zA @nbsAdd cI)))) ?_ | refine cP s2 ?_ | exact zT)
  ·rw [add_right h hle] at s3
   rw [decide_eq_false hle] at cd
   repeat (first | refine zQ (zA @X.eq_1 (zA @I.eq_1 (zA @cS (zA @nbsAdd (zA hb cI))))) ?_ | refine cP cv ?_ | refine cP cw ?_ | exact zT)
   refine wFs ?_
   repeat (first | refine zQ (zA @X.eq_1 (zA @I.eq_1 (zA @cS (zA @nbsAdd cI)))) ?_ | refine cP cd ?_ | exact zT)
   refine wFs ?_
   repeat (first | refine zQ (zA @X.eq_1 (zA @I.eq_1 (zA @cS (zA @nbsAdd cI)))) ?_ | refine cP ce ?_ | refine cP s3 ?_ | exact zT)
theorem sDiv_calls (n1 : Bool) (a : List Nat) (n2 : Bool) (b : List Nat) (ha : a.length ≤ 9000) (hb : b.length ≤ 9000) (la : lim a) (lb : lim b) :
  PCalls Tryz.prog 114 [X n1 a, X n2 b] (.tup [I (iv n1 a / iv n2 b), I (imod (iv n1 a) (iv n2 b)), .bool (decide (¬ iv n2 b = 0))]) := by
 have cv := sTake_calls n1 a (by omega) la
 have cw := sTake_calls n2 b (by omega) lb
 have l1 := iv_len la n1
 have l2 := iv_len lb n2
 generalize iv n1 a = x at *
 generalize iv n2 b = y at *
 have cd := rDivL x.natAbs y.natAbs (by omega) (by omega)
 have lq := len_mono (Nat.div_le_self x.natAbs y.natAbs)
 refine PCalls_of issDiv (by simp [fnsDiv]) ?_
 unfold codesDiv imod
 by_cases hy : y = 0
 ·subst hy
  rw [decide_eq_false (show ¬ 0 < (0 : Int).natAbs by decide)] at cd
  repeat (first | refine zQ (zA @X.eq_1 (zA @I.eq_1 (zA @cS (zA @nbsDiv cI)))) ?_ | refine cP cv ?_ | refine cP cw ?_ | refine cP cd ?_ | exact zT)
  refine wT ?_
  refine zS (zA @cS cI) ?_
  refine W_ret (RetP_cct rfl rfl rfl rfl rfl rfl ?_ ?_ (.imm rfl))
  ·rw [Int.ediv_zero]
   have := Exp_bn (h := lkH [(2, [DV.bool (decide (x < 0)), DV.sl 1 (us (limbs x.natAbs))]), (3, [DV.bool (decide ((0 : Int) < 0)), DV.sl 1 (us (limbs (0 : Int).natAbs))]), (4, [DV.bool false, DV.nils]), (5, [DV.bool false, DV.nils])]) false 1
   rw [← I0] at this
   exact this
  ·have := Exp_bn (h := lkH [(2, [DV.bool (decide (x < 0)), DV.sl 1 (us (limbs x.natAbs))]), (3, [DV.bool (decide ((0 : Int) < 0)), DV.sl 1 (us (limbs (0 : Int).natAbs))]), (4, [DV.bool false, DV.nils]), (5, [DV.bool false, DV.nils])]) false 1
   rw [← I0] at this
   exact this
 ·have hy0 : 0 < y.natAbs := by omega
  rw [decide_eq_true hy0, dmod_pos hy0] at cd
  rw [decide_eq_true hy, if_neg hy]
  have lr := len_mono (Nat.mod_le x.natAbs y.natAbs)
  have hm := Nat.mod_lt x.natAbs hy0
  repeat (first | refine zQ (zA @X.eq_1 (zA @I.eq_1 (zA @cS (zA @nbsDiv cI)))) ?_ | refine cP cv ?_ | refine cP cw ?_ | refine cP cd ?_ | exact zT)
  refine wFs ?_
  by_cases hf : x < 0 ∧ 0 < x.natAbs % y.natAbs
  ·obtain ⟨f1, f2⟩ := div_fix x y hy hf.1 hf.2
   have dx : decide (x < 0) = true := decide_eq_true hf.1
   have dr : decide (0 < x.natAbs % y.natAbs) = true := decide_eq_true hf.2
   have o1 : (limbs 1).length ≤ 10000 := by rw [limbs1]; simp
   have ca := rAddL (x.natAbs / y.natAbs) 1 (by omega) (by omega)
   have cb := rSub_calls (limbs y.natAbs) (limbs (x.natAbs % y.natAbs)) (by omega) (by omega) (lim_limbs _) (lim_limbs _)
   rw [vn_limbs, vn_limbs] at cb
   have s1 := s_signed_calls (!(decide (x < 0) == decide (y < 0))) (x.natAbs / y.natAbs + 1)
   have s2 := s_signed_calls false (y.natAbs - x.natAbs % y.natAbs)
   rw [f1, dx] at s1
   rw [f2] at s2
   clear hf f1 f2 hm o1
   repeat (first | refine zQ (zA @X.eq_1 (zA @I.eq_1 (zA @cS (zA @nbsDiv (zA @us_length (zA @len_gt (zA dx (zA dr cI)))))))) ?_ | refine cP cv ?_ | exact zT)
   refine wT ?_
   repeat (first | refine zQ (zA @I.eq_1 (zA @cS (zA @nbsDiv (zA @us_rfd (zA @us1L cI))))) ?_ | refine cP ca ?_ | refine cP cb ?_ | refine cP s1 ?_ | refine cP s2 ?_ | exact zT)
   exact W_ret (RetP_cct rfl rfl rfl rfl rfl rfl (.imm rfl) (.imm rfl) (.imm rfl))
  ·obtain ⟨f1, f2⟩ := div_plain x y hy hf
   have s1 := s_signed_calls (!(decide (x < 0) == decide (y < 0))) (x.natAbs / y.natAbs)
   have s2 := s_signed_calls false (x.natAbs % y.natAbs)
   rw [f1] at s1
   rw [f2] at s2
   by_cases hx : x < 0
   ·have dx : decide (x < 0) = true := decide_eq_true hx
    have dr : decide (0 < x.natAbs % y.natAbs) = false := decide_eq_false (fun h => hf ⟨hx, h⟩)
    rw [dx] at s1
    clear hf f1 f2 hm
    repeat (first | refine zQ (zA @X.eq_1 (zA @I.eq_1 (zA @cS (zA @nbsDiv (zA @us_length (zA @len_gt (zA dx (zA dr cI)))))))) ?_ | refine cP cv ?_ | exact zT)
    refine wFs ?_
    repeat (first | refine zQ (zA @I.eq_1 (zA @cS (zA @nbsDiv cI))) ?_ | refine cP s1 ?_ | refine cP s2 ?_ | exact zT)
    exact W_ret (RetP_cct rfl rfl rfl rfl rfl rfl (.imm rfl) (.imm rfl) (.imm rfl))
   ·have dx : decide (x < 0) = false := decide_eq_false hx
    rw [dx] at s1
    clear hf f1 f2 hm
    repeat (first | refine zQ (zA @X.eq_1 (zA @I.eq_1 (zA @cS (zA @nbsDiv (zA @us_length (zA @len_gt (zA dx cI))))))) ?_ | refine cP cv ?_ | exact zT)
    refine wFs ?_
    repeat (first | refine zQ (zA @I.eq_1 (zA @cS (zA @nbsDiv cI))) ?_ | refine cP s1 ?_ | refine cP s2 ?_ | exact zT)
    exact W_ret (RetP_cct rfl rfl rfl rfl rfl rfl (.imm rfl) (.imm rfl) (.imm rfl))
theorem sGcd_calls (n1 : Bool) (a : List Nat) (n2 : Bool) (b : List Nat) (ha : a.length ≤ 9000) (hb : b.length ≤ 9000) (la : lim a) (lb : lim b) :
  PCalls Tryz.prog 113 [X n1 a, X n2 b] (.sl 1 (us (limbs (Nat.gcd (iv n1 a).natAbs (iv n2 b).natAbs)))) := by
 have cv := sTake_calls n1 a (by omega) la
 have cw := sTake_calls n2 b (by omega) lb
 have l1 := iv_len la n1
 have l2 := iv_len lb n2
 generalize iv n1 a = x at *
 generalize iv n2 b = y at *
 have cg := rGcdL x.natAbs y.natAbs (by omega) (by omega)
 refine PCalls_of issGcd (by simp [fnsGcd]) ?_
 unfold codesGcd
 repeat (first | refine zQ (zA @X.eq_1 (zA @I.eq_1 (zA @cS (zA @nbsGcd cI)))) ?_ | refine cP cv ?_ | refine cP cw ?_ | refine cP cg ?_ | exact zT)
theorem sFromInt_calls (v : Int) (h1 : -9223372036854775808 ≤ v) (h2 : v ≤ 9223372036854775807) : PCalls Tryz.prog 97 [.int .i64 v] (I v) := by
 refine PCalls_of issFromInt (by simp [fnsFromInt]) ?_
 unfold codesFromInt
 by_cases hv : v < 0
 ·have d1 : decide (v < 0) = true := decide_eq_true hv
  obtain ⟨n, hn⟩ : ∃ n : Nat, v = -((n + 1 : Nat) : Int) := ⟨v.natAbs - 1, by omega⟩
  have cf := rFromUint_calls n (by omega)
  have hll : (limbs n).length ≤ 2 := limbs_len.2 (by omega)
  have ca := rAddL n 1 (by omega) (by rw [limbs1]; simp)
  have cs := s_signed_calls true (n + 1)
  rw [show sgn true (n + 1) = v by unfold sgn; rw [if_pos rfl, hn]] at cs
  have e1 : IntKind.u64.wrap (IntKind.i64.wrap (0 - IntKind.i64.wrap (v + 1))) = (n : Int) := by rw [IntKind.wrap_u64, IntKind.wrap_i64, IntKind.wrap_i64]; omega
  repeat (first | refine zQ (zA @I.eq_1 (zA @cS (zA @nbsFromInt (zA d1 cI)))) ?_ | refine cP cf ?_ | refine cP cs ?_ | exact zT)
  refine wT ?_
  have e2 : IntKind.i64.wrap (v + 1) = v + 1 := by rw [IntKind.wrap_i64]; omega
  have e3 : IntKind.i64.wrap (0 - (v + 1)) = 0 - (v + 1) := by rw [IntKind.wrap_i64]; omega
  have e4 : IntKind.u64.wrap (0 - (v + 1)) = (n : Int) := by rw [IntKind.wrap_u64]; omega
  have e5 : (0 - (v + 1)) = (n : Int) := by omega
  clear hll
  repeat (first | refine zQ (zA @I.eq_1 (zA @cS (zA @nbsFromInt (zA d1 (zA e5 (zA @us_rfd (zA @us1L cI))))))) ?_ | refine cP cf ?_ | refine cP ca ?_ | refine cP cs ?_ | exact zT)
 ·have d1 : decide (v < 0) = false := decide_eq_false hv
  obtain ⟨n, hn⟩ : ∃ n : Nat, v = (n : Int) := ⟨v.natAbs, by omega⟩
  have cf := rFromUint_calls n (by omega)
  have cs := s_signed_calls false n
  rw [show sgn false n = v by unfold sgn; rw [if_neg (by simp), hn]] at cs
  have e1 : IntKind.u64.wrap v = (n : Int) := by rw [IntKind.wrap_u64]; omega
  repeat (first | refine zQ (zA @I.eq_1 (zA @cS (zA @nbsFromInt (zA d1 cI)))) ?_ | refine cP cf ?_ | refine cP cs ?_ | exact zT)
  refine wFs ?_
  repeat (first | refine zQ (zA @I.eq_1 (zA @cS (zA @nbsFromInt (zA d1 (zA e1 cI))))) ?_ | refine cP cf ?_ | refine cP cs ?_ | exact zT)
def pw (x : Nat) (k : Int) : Nat := if k < 0 ∨ 64 < k then 0 else x ^ k.toNat
def il (z : Int) : Nat := (limbs z.natAbs).length
theorem il_add {x y : Int} {m : Nat} (h1 : il x ≤ m) (h2 : il y ≤ m) : il (x + y) ≤ m + 1 := Nat.le_trans (len_mono (show _ ≤ x.natAbs + y.natAbs by omega)) (len_add h1 h2)
theorem il_neg (x : Int) : il (-x) = il x := by unfold il; rw [Int.natAbs_neg]
theorem il_mul {x y : Int} {m n : Nat} (h1 : il x ≤ m) (h2 : il y ≤ n) : il (x * y) ≤ m + n := by unfold il; rw [Int.natAbs_mul]; exact len_mul h1 h2
theorem iAddL (x y : Int) (h1 : il x ≤ 9000) (h2 : il y ≤ 9000) : PCalls Tryz.prog 87 [I x, I y] (I (x + y)) := by
 have := iAdd_calls (decide (x < 0)) (limbs x.natAbs) (decide (y < 0)) (limbs y.natAbs) (Nat.le_trans h1 (by decide)) (Nat.le_trans h2 (by decide)) (lim_limbs _) (lim_limbs _)
 rwa [iv_I, iv_I] at this
theorem iMulL (x y : Int) (h1 : il x ≤ 9000) (h2 : il y ≤ 9000) : PCalls Tryz.prog 167 [I x, I y] (I (x * y)) := by
 have := iMul_calls (decide (x < 0)) (limbs x.natAbs) (decide (y < 0)) (limbs y.natAbs) (Nat.le_trans h1 (by decide)) (Nat.le_trans h2 (by decide)) (lim_limbs _) (lim_limbs _)
 rwa [iv_I, iv_I] at this
theorem iNegL (x : Int) (h1 : il x ≤ 9000) : PCalls Tryz.prog 257 [I x] (I (-x)) := by
 have := iNeg_calls (decide (x < 0)) (limbs x.natAbs) (Nat.le_trans h1 (by decide)) (lim_limbs _)
 rwa [iv_I] at this
theorem iSignL (x : Int) (h1 : il x ≤ 9000) : PCalls Tryz.prog 256 [I x] (.int .i64 x.sign) := by
 have := iSign_calls (decide (x < 0)) (limbs x.natAbs) (Nat.le_trans h1 (by decide)) (lim_limbs _)
 rwa [iv_I] at this
end Go.Proofs.YtlcagndeidjobaaGreatDoor
namespace Go.Proofs.YtlcagndeidjobaaGreatDoor
open Go Go.Dat Go.Proofs Nat32
open Go.Lib (decDigits)
theorem limbs1_le {m : Nat} (h : 1 ≤ m) : (limbs 1).length ≤ m := by rw [limbs1]; exact h
theorem q_one_calls : PCalls Tryz.prog 166 [] (.sl 1 (us (limbs 1))) := by
 refine PCalls_of isq_one (by simp [fnq_one]) ?_
 unfold codeq_one
 refine zS (zA @us_rfd (zA @us1L cI)) ?_
 exact W_ret (RetP_1 (.imm rfl))
theorem cmp_one (n : Nat) : decide (cmpN n 1 = 0) = decide (n = 1) := by
 rw [decide_eq_decide]; unfold cmpN; (repeat' split) <;> omega
theorem cmp_one' (n : Nat) : decide (cmpN n 1 = 0) = decide (1 = n) := by
 rw [decide_eq_decide]; unfold cmpN; (repeat' split) <;> omega
theorem nCmp1 (d : List Nat) (hd : d.length ≤ 9000) (ld : lim d) : PCalls Tryz.prog 165 [.sl 1 (us d), .sl 1 (us (limbs 1))] (.int .i64 (cmpN (vn d) 1)) := by
 have := nCmp_calls d (limbs 1) (by omega) (limbs1_le (by decide)) ld (lim_limbs _)
 rwa [vn_limbs] at this
theorem qValid_calls (neg : Bool) (a d : List Nat) (ha : a.length ≤ 9000) (hd : d.length ≤ 9000) (la : lim a) (ld : lim d) : PCalls Tryz.prog 158 [XQ neg a d] (.bool (vldQ neg a d)) := by
 have c1 := iValid_calls neg a (by omega)
 have c2 := nValid_calls d (by omega)
 have c3 := nCmp1 d hd ld
 have c4 := nGcd_calls a d (by omega) (by omega) la ld
 have hg : (limbs (Nat.gcd (vn a) (vn d))).length ≤ 9000 := by
  by_cases h : vn a = 0
  ·rw [h, Nat.gcd_zero_left]; exact Nat.le_trans (vn_len ld) hd
  ·exact Nat.le_trans (len_mono (Nat.gcd_le_left _ (Nat.pos_of_ne_zero h))) (Nat.le_trans (vn_len la) ha)
 have c5 := nCmp1 (limbs (Nat.gcd (vn a) (vn d))) hg (lim_limbs _)
 rw [vn_limbs] at c5
 have e3 := cmp_one (vn d)
 have e5 := cmp_one' (Nat.gcd (vn a) (vn d))
 refine PCalls_of isqValid (by simp [fnqValid]) ?_
 unfold codeqValid vldQ
 generalize vldI neg a = p1 at *
 generalize vld d = p2 at *
 generalize Nat.gcd (vn a) (vn d) = G at *
 generalize vn d = D at *
 clear hg
 have k1 : decide ((a.length : Int) = 0) = !decide (0 < a.length) := by
  by_cases h : 0 < a.length
  ·rw [decide_eq_true h, decide_eq_false (by omega)]; rfl
  ·rw [decide_eq_false h, decide_eq_true (by omega)]; rfl
 have k2 : decide ((d.length : Int) = 0) = decide (d.length = 0) := by rw [decide_eq_decide]; omega
 cases p1
 ·simp only [Bool.false_and]
  repeat (first | refine zQ (zA @XQ.eq_1 (zA @X.eq_1 (zA @cS (zA @cT (zA @nbqValid (zA @us_length cI)))))) ?_ | refine cP c1 ?_ | refine cP c2 ?_ | exact zT)
  refine wT ?_
  refine zS (zA @cS (zA @cT (zA @nbqValid cI))) ?_
  exact W_ret (RetP_1 (.imm rfl))
 ·cases p2
  ·simp only [Bool.true_and, Bool.false_and]
   repeat (first | refine zQ (zA @XQ.eq_1 (zA @X.eq_1 (zA @cS (zA @cT (zA @nbqValid (zA @us_length cI)))))) ?_ | refine cP c1 ?_ | refine cP c2 ?_ | exact zT)
   refine wT ?_
   refine zS (zA @cS (zA @cT (zA @nbqValid cI))) ?_
   exact W_ret (RetP_1 (.imm rfl))
  ·simp only [Bool.true_and]
   by_cases h0 : d.length = 0
   ·rw [decide_eq_true h0] at k2 ⊢
    simp only [Bool.true_or]
    repeat (first | refine W_seq ?_ | refine W_reg ?_ | refine W_regd ?_ | refine W_regs ?_ | refine W_regp ?_ | refine W_block ?_ | refine And.intro (by omega) ?_ | simp (maxSteps := 1000000) (disch := omega) only [cA, cB, cN, FnD.nb, lk, lkH, Dst.onT, Dst.onX, Dst.slot, setF, setH, mapF, mapH, initF, binE, unE, cnt, boundE, newsE, freshE, freshT, opE, rmH, blkQ, frz_us, Nat.reduceEqDiff, Nat.reduceLT, Nat.reduceAdd, Nat.reduceMul, Nat.reduceMod, ↓reduceIte, reduceCtorEq, Nat.reduceLeDiff, XQ, X, cS, cT, nbqValid, us_length, k2, cI] | refine cP c1 ?_ | refine cP c2 ?_ | exact zT)
    refine wF ?_
    repeat (first | refine W_seq ?_ | refine W_reg ?_ | refine W_regd ?_ | refine W_regs ?_ | refine W_regp ?_ | refine W_block ?_ | refine And.intro (by omega) ?_ | simp (maxSteps := 1000000) (disch := omega) only [cA, cB, cN, FnD.nb, lk, lkH, Dst.onT, Dst.onX, Dst.slot, setF, setH, mapF, mapH, initF, binE, unE, cnt, boundE, newsE, freshE, freshT, opE, rmH, blkQ, frz_us, Nat.reduceEqDiff, Nat.reduceLT, Nat.reduceAdd, Nat.reduceMul, Nat.reduceMod, ↓reduceIte, reduceCtorEq, Nat.reduceLeDiff, XQ, X, cS, cT, nbqValid, us_length, k2, cI] | refine cP c1 ?_ | refine cP c2 ?_ | exact zT)
    refine wT ?_
    refine zS (zA @cS (zA @cT (zA @nbqValid cI))) ?_
    exact W_ret (RetP_1 (.imm rfl))
   ·rw [decide_eq_false h0] at k2 ⊢
    simp only [Bool.false_or]
    by_cases ha0 : 0 < a.length
    ·rw [decide_eq_true ha0] at k1 ⊢
     simp only [Bool.true_and]
     by_cases hD : D = 1
     ·rw [decide_eq_true hD] at e3
      rw [decide_eq_false (show ¬ ¬ D = 1 from fun h => h hD)]
      simp only [Bool.false_and]
      repeat (first | refine W_seq ?_ | refine W_reg ?_ | refine W_regd ?_ | refine W_regs ?_ | refine W_regp ?_ | refine W_block ?_ | refine And.intro (by omega) ?_ | simp (maxSteps := 1000000) (disch := omega) only [cA, cB, cN, FnD.nb, lk, lkH, Dst.onT, Dst.onX, Dst.slot, setF, setH, mapF, mapH, initF, binE, unE, cnt, boundE, newsE, freshE, freshT, opE, rmH, blkQ, frz_us, Nat.reduceEqDiff, Nat.reduceLT, Nat.reduceAdd, Nat.reduceMul, Nat.reduceMod, ↓reduceIte, reduceCtorEq, Nat.reduceLeDiff, XQ, X, cS, cT, nbqValid, us_length, k1, k2, e3, cI] | refine cP c1 ?_ | refine cP c2 ?_ | exact zT)
      refine wF ?_
      repeat (first | refine W_seq ?_ | refine W_reg ?_ | refine W_regd ?_ | refine W_regs ?_ | refine W_regp ?_ | refine W_block ?_ | refine And.intro (by omega) ?_ | simp (maxSteps := 1000000) (disch := omega) only [cA, cB, cN, FnD.nb, lk, lkH, Dst.onT, Dst.onX, Dst.slot, setF, setH, mapF, mapH, initF, binE, unE, cnt, boundE, newsE, freshE, freshT, opE, rmH, blkQ, frz_us, Nat.reduceEqDiff, Nat.reduceLT, Nat.reduceAdd, Nat.reduceMul, Nat.reduceMod, ↓reduceIte, reduceCtorEq, Nat.reduceLeDiff, XQ, X, cS, cT, nbqValid, us_length, k1, k2, e3, cI] | refine cP c1 ?_ | refine cP c2 ?_ | exact zT)
      refine wF ?_
      repeat (first | refine W_seq ?_ | refine W_reg ?_ | refine W_regd ?_ | refine W_regs ?_ | refine W_regp ?_ | refine W_block ?_ | refine And.intro (by omega) ?_ | simp (maxSteps := 1000000) (disch := omega) only [cA, cB, cN, FnD.nb, lk, lkH, Dst.onT, Dst.onX, Dst.slot, setF, setH, mapF, mapH, initF, binE, unE, cnt, boundE, newsE, freshE, freshT, opE, rmH, blkQ, frz_us, Nat.reduceEqDiff, Nat.reduceLT, Nat.reduceAdd, Nat.reduceMul, Nat.reduceMod, ↓reduceIte, reduceCtorEq, Nat.reduceLeDiff, XQ, X, cS, cT, nbqValid, us_length, k1, k2, e3, cI] | refine cP q_one_calls ?_ | refine cP c3 ?_ | exact zT)
      refine wT ?_
      refine zS (zA @cS (zA @cT (zA @nbqValid cI))) ?_
      exact W_ret (RetP_1 (.imm rfl))
     ·rw [decide_eq_false hD] at e3
      rw [decide_eq_true hD]
      simp only [Bool.true_and]
      repeat (first | refine W_seq ?_ | refine W_reg ?_ | refine W_regd ?_ | refine W_regs ?_ | refine W_regp ?_ | refine W_block ?_ | refine And.intro (by omega) ?_ | simp (maxSteps := 1000000) (disch := omega) only [cA, cB, cN, FnD.nb, lk, lkH, Dst.onT, Dst.onX, Dst.slot, setF, setH, mapF, mapH, initF, binE, unE, cnt, boundE, newsE, freshE, freshT, opE, rmH, blkQ, frz_us, Nat.reduceEqDiff, Nat.reduceLT, Nat.reduceAdd, Nat.reduceMul, Nat.reduceMod, ↓reduceIte, reduceCtorEq, Nat.reduceLeDiff, XQ, X, cS, cT, nbqValid, us_length, k1, k2, e3, cI] | refine cP c1 ?_ | refine cP c2 ?_ | exact zT)
      refine wF ?_
      repeat (first | refine W_seq ?_ | refine W_reg ?_ | refine W_regd ?_ | refine W_regs ?_ | refine W_regp ?_ | refine W_block ?_ | refine And.intro (by omega) ?_ | simp (maxSteps := 1000000) (disch := omega) only [cA, cB, cN, FnD.nb, lk, lkH, Dst.onT, Dst.onX, Dst.slot, setF, setH, mapF, mapH, initF, binE, unE, cnt, boundE, newsE, freshE, freshT, opE, rmH, blkQ, frz_us, Nat.reduceEqDiff, Nat.reduceLT, Nat.reduceAdd, Nat.reduceMul, Nat.reduceMod, ↓reduceIte, reduceCtorEq, Nat.reduceLeDiff, XQ, X, cS, cT, nbqValid, us_length, k1, k2, e3, cI] | refine cP c1 ?_ | refine cP c2 ?_ | exact zT)
      refine wF ?_
      repeat (first | refine W_seq ?_ | refine W_reg ?_ | refine W_regd ?_ | refine W_regs ?_ | refine W_regp ?_ | refine W_block ?_ | refine And.intro (by omega) ?_ | simp (maxSteps := 1000000) (disch := omega) only [cA, cB, cN, FnD.nb, lk, lkH, Dst.onT, Dst.onX, Dst.slot, setF, setH, mapF, mapH, initF, binE, unE, cnt, boundE, newsE, freshE, freshT, opE, rmH, blkQ, frz_us, Nat.reduceEqDiff, Nat.reduceLT, Nat.reduceAdd, Nat.reduceMul, Nat.reduceMod, ↓reduceIte, reduceCtorEq, Nat.reduceLeDiff, XQ, X, cS, cT, nbqValid, us_length, k1, k2, e3, cI] | refine cP q_one_calls ?_ | refine cP c3 ?_ | exact zT)
      refine wFs ?_
      repeat (first | refine W_seq ?_ | refine W_reg ?_ | refine W_regd ?_ | refine W_regs ?_ | refine W_regp ?_ | refine W_block ?_ | refine And.intro (by omega) ?_ | simp (maxSteps := 1000000) (disch := omega) only [cA, cB, cN, FnD.nb, lk, lkH, Dst.onT, Dst.onX, Dst.slot, setF, setH, mapF, mapH, initF, binE, unE, cnt, boundE, newsE, freshE, freshT, opE, rmH, blkQ, frz_us, Nat.reduceEqDiff, Nat.reduceLT, Nat.reduceAdd, Nat.reduceMul, Nat.reduceMod, ↓reduceIte, reduceCtorEq, Nat.reduceLeDiff, XQ, X, cS, cT, nbqValid, us_length, k1, k2, e3, e5, cI] | refine cP c4 ?_ | refine cP q_one_calls ?_ | refine cP c5 ?_ | exact zT)
    ·rw [decide_eq_false ha0] at k1 ⊢
     simp only [Bool.false_and]
     repeat (first | refine W_seq ?_ | refine W_reg ?_ | refine W_regd ?_ | refine W_regs ?_ | refine W_regp ?_ | refine W_block ?_ | refine And.intro (by omega) ?_ | simp (maxSteps := 1000000) (disch := omega) only [cA, cB, cN, FnD.nb, lk, lkH, Dst.onT, Dst.onX, Dst.slot, setF, setH, mapF, mapH, initF, binE, unE, cnt, boundE, newsE, freshE, freshT, opE, rmH, blkQ, frz_us, Nat.reduceEqDiff, Nat.reduceLT, Nat.reduceAdd, Nat.reduceMul, Nat.reduceMod, ↓reduceIte, reduceCtorEq, Nat.reduceLeDiff, XQ, X, cS, cT, nbqValid, us_length, k1, k2, e3, cI] | refine cP c1 ?_ | refine cP c2 ?_ | exact zT)
     refine wF ?_
     repeat (first | refine W_seq ?_ | refine W_reg ?_ | refine W_regd ?_ | refine W_regs ?_ | refine W_regp ?_ | refine W_block ?_ | refine And.intro (by omega) ?_ | simp (maxSteps := 1000000) (disch := omega) only [cA, cB, cN, FnD.nb, lk, lkH, Dst.onT, Dst.onX, Dst.slot, setF, setH, mapF, mapH, initF, binE, unE, cnt, boundE, newsE, freshE, freshT, opE, rmH, blkQ, frz_us, Nat.reduceEqDiff, Nat.reduceLT, Nat.reduceAdd, Nat.reduceMul, Nat.reduceMod, ↓reduceIte, reduceCtorEq, Nat.reduceLeDiff, XQ, X, cS, cT, nbqValid, us_length, k1, k2, e3, cI] | refine cP c1 ?_ | refine cP c2 ?_ | exact zT)
     refine wF ?_
     repeat (first | refine W_seq ?_ | refine W_reg ?_ | refine W_regd ?_ | refine W_regs ?_ | refine W_regp ?_ | refine W_block ?_ | refine And.intro (by omega) ?_ | simp (maxSteps := 1000000) (disch := omega) only [cA, cB, cN, FnD.nb, lk, lkH, Dst.onT, Dst.onX, Dst.slot, setF, setH, mapF, mapH, initF, binE, unE, cnt, boundE, newsE, freshE, freshT, opE, rmH, blkQ, frz_us, Nat.reduceEqDiff, Nat.reduceLT, Nat.reduceAdd, Nat.reduceMul, Nat.reduceMod, ↓reduceIte, reduceCtorEq, Nat.reduceLeDiff, XQ, X, cS, cT, nbqValid, us_length, k1, k2, e3, cI] | refine cP q_one_calls ?_ | refine cP c3 ?_ | exact zT)
     refine wT ?_
     refine zS (zA @cS (zA @cT (zA @nbqValid cI))) ?_
     exact W_ret (RetP_1 (.imm rfl))
theorem q_value_calls (neg : Bool) (a d : List Nat) (ha : a.length ≤ 9000) (hd : d.length ≤ 9000) (la : lim a) (ld : lim d) : PCalls Tryz.prog 86 [XQ neg a d] (Q (rv neg a d)) := by
 have cv := qValid_calls neg a d ha hd la ld
 refine PCalls_of isq_value (by simp [fnq_value]) ?_
 unfold codeq_value
 by_cases hv : vldQ neg a d = true
 ·rw [hv] at cv
  rw [← XQ_Q la ld hv]
  repeat (first | refine zQ (zA @XQ.eq_1 (zA @cS (zA @cT (zA @nbq_value cI)))) ?_ | refine cP cv ?_ | exact zT)
  refine wT ?_
  repeat (first | refine zQ (zA @XQ.eq_1 (zA @cS (zA @cT (zA @nbq_value cI)))) ?_ | refine cP cv ?_ | exact zT)
 ·have hv : vldQ neg a d = false := by simpa using hv
  rw [hv] at cv
  rw [rv_inv hv, Q0]
  repeat (first | refine zQ (zA @XQ.eq_1 (zA @cS (zA @cT (zA @nbq_value cI)))) ?_ | refine cP cv ?_ | exact zT)
  refine wFs ?_
  refine zS (zA @cS (zA @cT (zA @nbq_value cI))) ?_
  exact W_ret (RetP_c rfl rfl rfl (Exp_bnn _ _ _))
theorem q_den_calls (r : Rat) : PCalls Tryz.prog 90 [Q r] (.sl 1 (us (limbs r.den))) := by
 refine PCalls_of isq_den (by simp [fnq_den]) ?_
 unfold codeq_den
 by_cases h : r.den = 1
 ·have k : decide (((dn r.den).length : Int) = 0) = true := decide_eq_true (by have := (dn_len0 r.den_nz).2 h; omega)
  rw [h]
  rw [h] at k
  repeat (first | refine zQ (zA @Q.eq_1 (zA h (zA @cS (zA @cT (zA @nbq_den (zA @us_length (zA @k cI))))))) ?_ | refine cP q_one_calls ?_ | exact zT)
  refine wT ?_
  repeat (first | refine zQ (zA @cS (zA @cT (zA @nbq_den cI))) ?_ | refine cP q_one_calls ?_ | exact zT)
 ·have k : decide (((dn r.den).length : Int) = 0) = false := decide_eq_false (fun e => h ((dn_len0 r.den_nz).1 (by omega)))
  have e : limbs r.den = dn r.den := by unfold dn; rw [if_neg h]
  rw [e]
  repeat (first | refine zQ (zA @Q.eq_1 (zA @cS (zA @cT (zA @nbq_den (zA @us_length (zA @k cI)))))) ?_ | refine cP q_one_calls ?_ | exact zT)
  refine wFs ?_
  repeat (first | refine zQ (zA @cS (zA @cT (zA @nbq_den cI))) ?_ | refine cP q_one_calls ?_ | exact zT)
theorem q_lowest_calls (z : Int) (d : Nat) (h : d ≠ 0) (h1 : il z ≤ 9000) (h2 : (limbs d).length ≤ 9000) : PCalls Tryz.prog 88 [I z, .sl 1 (us (limbs d))] (Q (mkRat z d)) := by
 have hg : 0 < Nat.gcd z.natAbs d := Nat.gcd_pos_of_pos_right _ (Nat.pos_of_ne_zero h)
 have hgl : (limbs (Nat.gcd z.natAbs d)).length ≤ 9000 := Nat.le_trans (len_mono (Nat.gcd_le_right _ (Nat.pos_of_ne_zero h))) h2
 rw [Q_low z d h]
 unfold il at h1
 have c1 := nGcd_calls (limbs z.natAbs) (limbs d) (by omega) (by omega) (lim_limbs _) (lim_limbs _)
 rw [vn_limbs, vn_limbs] at c1
 have c2 := nDivL z.natAbs (Nat.gcd z.natAbs d) (by omega) (by omega)
 have c3 := nDivL d (Nat.gcd z.natAbs d) (by omega) (by omega)
 have c4 := nCmp1 (limbs (d / Nat.gcd z.natAbs d)) (Nat.le_trans (len_mono (Nat.div_le_self _ _)) h2) (lim_limbs _)
 rw [vn_limbs] at c4
 have e4 := cmp_one (d / Nat.gcd z.natAbs d)
 have hne : d / Nat.gcd z.natAbs d ≠ 0 := fun e => by
  have := Nat.div_pos (Nat.gcd_le_right z.natAbs (Nat.pos_of_ne_zero h)) hg
  omega
 generalize Nat.gcd z.natAbs d = G at *
 generalize d / G = E at *
 generalize z.natAbs / G = Z at *
 refine PCalls_of isq_lowest (by simp [fnq_lowest]) ?_
 unfold codeq_lowest
 by_cases hE : E = 1
 ·rw [decide_eq_true hE] at e4
  rw [hE, dn_one]
  repeat (first | refine zQ (zA @I.eq_1 (zA @cS (zA @cT (zA @nbq_lowest (zA e4 cI))))) ?_ | refine cP c1 ?_ | refine cP c2 ?_ | refine cP c3 ?_ | refine cP q_one_calls ?_ | refine cP c4 ?_ | exact zT)
  refine wT ?_
  refine zS (zA @cS (zA @cT (zA @nbq_lowest cI))) ?_
  exact W_ret (RetP_c rfl rfl rfl (Exp_bsn _ _ _ _ rfl))
 ·rw [decide_eq_false hE] at e4
  have e : dn E = limbs E := by unfold dn; rw [if_neg hE]
  rw [e]
  repeat (first | refine zQ (zA @I.eq_1 (zA @cS (zA @cT (zA @nbq_lowest (zA e4 cI))))) ?_ | refine cP c1 ?_ | refine cP c2 ?_ | refine cP c3 ?_ | refine cP q_one_calls ?_ | refine cP c4 ?_ | exact zT)
  refine wFs ?_
  refine zS (zA @cS (zA @cT (zA @nbq_lowest cI))) ?_
  exact W_ret (RetP_c rfl rfl rfl (.imm rfl))
theorem RB_dn {r : Rat} {m : Nat} (h : RB r m) : (dn r.den).length ≤ m := Nat.le_trans (dn_len _) h.2
theorem iv_nat (n : Nat) : iv false (limbs n) = (n : Int) := by unfold iv; simp [vn_limbs]
theorem q_times_calls (z : Int) (n : Nat) (h1 : il z ≤ 9000) (h2 : (limbs n).length ≤ 9000) : PCalls Tryz.prog 89 [I z, .sl 1 (us (limbs n))] (I (z * n)) := by
 have cm := iMul_calls (decide (z < 0)) (limbs z.natAbs) false (limbs n) (Nat.le_trans h1 (by decide)) (by omega) (lim_limbs _) (lim_limbs _)
 rw [iv_I, iv_nat] at cm
 refine PCalls_of isq_times (by simp [fnq_times]) ?_
 unfold codeq_times
 repeat (first | refine zQ (zA @I.eq_1 (zA @X.eq_1 (zA @cS (zA @cT (zA @nbq_times cI))))) ?_ | refine cP cm ?_ | exact zT)
theorem dk1 (r : Rat) : decide (((dn r.den).length : Int) = 0) = decide (r.den = 1) := by
 rw [decide_eq_decide, ← dn_len0 r.den_nz]; omega
theorem il_nat {n m : Nat} (h : (limbs n).length ≤ m) : il (n : Int) ≤ m := by unfold il; rw [Int.natAbs_natCast]; exact h
set_option maxHeartbeats 1000000 in
theorem qAdd_calls (n1 : Bool) (a d : List Nat) (n2 : Bool) (b e : List Nat) (ha : a.length ≤ 4400) (hd : d.length ≤ 4400) (hb : b.length ≤ 4400) (he : e.length ≤ 4400) (la : lim a) (ld : lim d) (lb : lim b) (le : lim e) :
  PCalls Tryz.prog 38 [XQ n1 a d, XQ n2 b e] (Q (rv n1 a d + rv n2 b e)) := by
 have v1 := q_value_calls n1 a d (by omega) (by omega) la ld
 have v2 := q_value_calls n2 b e (by omega) (by omega) lb le
 have k1 : RB (rv n1 a d) 4400 := RB_rv la ld ha hd (by decide)
 have k2 : RB (rv n2 b e) 4400 := RB_rv lb le hb he (by decide)
 generalize rv n1 a d = x at *
 generalize rv n2 b e = y at *
 have kx := dk1 x
 have ky := dk1 y
 refine PCalls_of isqAdd (by simp [fnqAdd]) ?_
 unfold codeqAdd
 by_cases hx : x.den = 1 ∧ y.den = 1
 ·rw [rat_addI hx.1 hx.2, Q_int]
  rw [decide_eq_true hx.1] at kx
  rw [decide_eq_true hx.2] at ky
  have ca := iAddL x.num y.num (Nat.le_trans k1.1 (by decide)) (Nat.le_trans k2.1 (by decide))
  clear k1 k2
  repeat (first | refine zQ (zA @XQ.eq_1 (zA @Q.eq_1 (zA @cS (zA @cT (zA @nbqAdd (zA @us_length (zA kx (zA ky cI)))))))) ?_ | refine cP v1 ?_ | refine cP v2 ?_ | exact zT)
  refine wT ?_
  repeat (first | refine zQ (zA @I.eq_1 (zA @cS (zA @cT (zA @nbqAdd cI)))) ?_ | refine cP ca ?_ | exact zT)
  exact W_ret (RetP_c rfl rfl rfl (Exp_bsn _ _ _ _ rfl))
 ·rw [Rat.add_def']
  have t1 := q_times_calls x.num y.den (Nat.le_trans k1.1 (by decide)) (Nat.le_trans k2.2 (by decide))
  have t2 := q_times_calls y.num x.den (Nat.le_trans k2.1 (by decide)) (Nat.le_trans k1.2 (by decide))
  have b1 := il_mul k1.1 (il_nat k2.2)
  have b2 := il_mul k2.1 (il_nat k1.2)
  have b3 := il_add b1 b2
  have ca := iAddL (x.num * y.den) (y.num * x.den) (Nat.le_trans b1 (by decide)) (Nat.le_trans b2 (by decide))
  have cm := nMulL x.den y.den (Nat.le_trans k1.2 (by decide)) (Nat.le_trans k2.2 (by decide))
  have cl := q_lowest_calls (x.num * y.den + y.num * x.den) (x.den * y.den) (Nat.mul_ne_zero x.den_nz y.den_nz) (Nat.le_trans b3 (by decide)) (Nat.le_trans (len_mul k1.2 k2.2) (by decide))
  have c1 := q_den_calls x
  have c2 := q_den_calls y
  clear k1 k2 b1 b2 b3
  by_cases h1 : x.den = 1
  ·rw [decide_eq_true h1] at kx
   rw [decide_eq_false (fun h2 => hx ⟨h1, h2⟩)] at ky
   clear hx h1
   repeat (first | refine zQ (zA @XQ.eq_1 (zA @Q.eq_1 (zA @cS (zA @cT (zA @nbqAdd (zA @us_length (zA kx (zA ky cI)))))))) ?_ | refine cP v1 ?_ | refine cP v2 ?_ | exact zT)
   refine wFs ?_
   repeat (first | refine zQ (zA @I.eq_1 (zA @Q.eq_1 (zA @cS (zA @cT (zA @nbqAdd cI))))) ?_ | refine cP c1 ?_ | refine cP c2 ?_ | refine cP t1 ?_ | refine cP t2 ?_ | refine cP ca ?_ | refine cP cm ?_ | refine cP cl ?_ | exact zT)
  ·rw [decide_eq_false h1] at kx
   clear hx h1
   repeat (first | refine zQ (zA @XQ.eq_1 (zA @Q.eq_1 (zA @cS (zA @cT (zA @nbqAdd (zA @us_length (zA kx (zA ky cI)))))))) ?_ | refine cP v1 ?_ | refine cP v2 ?_ | exact zT)
   refine wFs ?_
   repeat (first | refine zQ (zA @I.eq_1 (zA @Q.eq_1 (zA @cS (zA @cT (zA @nbqAdd cI))))) ?_ | refine cP c1 ?_ | refine cP c2 ?_ | refine cP t1 ?_ | refine cP t2 ?_ | refine cP ca ?_ | refine cP cm ?_ | refine cP cl ?_ | exact zT)
set_option maxHeartbeats 1000000 in
theorem qMul_calls (n1 : Bool) (a d : List Nat) (n2 : Bool) (b e : List Nat) (ha : a.length ≤ 4400) (hd : d.length ≤ 4400) (hb : b.length ≤ 4400) (he : e.length ≤ 4400) (la : lim a) (ld : lim d) (lb : lim b) (le : lim e) :
  PCalls Tryz.prog 157 [XQ n1 a d, XQ n2 b e] (Q (rv n1 a d * rv n2 b e)) := by
 have v1 := q_value_calls n1 a d (by omega) (by omega) la ld
 have v2 := q_value_calls n2 b e (by omega) (by omega) lb le
 have k1 : RB (rv n1 a d) 4400 := RB_rv la ld ha hd (by decide)
 have k2 : RB (rv n2 b e) 4400 := RB_rv lb le hb he (by decide)
 generalize rv n1 a d = x at *
 generalize rv n2 b e = y at *
 have kx := dk1 x
 have ky := dk1 y
 have ca := iMulL x.num y.num (Nat.le_trans k1.1 (by decide)) (Nat.le_trans k2.1 (by decide))
 refine PCalls_of isqMul (by simp [fnqMul]) ?_
 unfold codeqMul
 by_cases hx : x.den = 1 ∧ y.den = 1
 ·rw [rat_mulI hx.1 hx.2, Q_int]
  rw [decide_eq_true hx.1] at kx
  rw [decide_eq_true hx.2] at ky
  clear k1 k2
  repeat (first | refine zQ (zA @XQ.eq_1 (zA @Q.eq_1 (zA @cS (zA @cT (zA @nbqMul (zA @us_length (zA kx (zA ky cI)))))))) ?_ | refine cP v1 ?_ | refine cP v2 ?_ | exact zT)
  refine wT ?_
  repeat (first | refine zQ (zA @I.eq_1 (zA @cS (zA @cT (zA @nbqMul cI)))) ?_ | refine cP ca ?_ | exact zT)
  exact W_ret (RetP_c rfl rfl rfl (Exp_bsn _ _ _ _ rfl))
 ·rw [Rat.mul_def']
  have b1 := il_mul k1.1 k2.1
  have cm := nMulL x.den y.den (Nat.le_trans k1.2 (by decide)) (Nat.le_trans k2.2 (by decide))
  have cl := q_lowest_calls (x.num * y.num) (x.den * y.den) (Nat.mul_ne_zero x.den_nz y.den_nz) (Nat.le_trans b1 (by decide)) (Nat.le_trans (len_mul k1.2 k2.2) (by decide))
  have c1 := q_den_calls x
  have c2 := q_den_calls y
  clear k1 k2 b1
  by_cases h1 : x.den = 1
  ·rw [decide_eq_true h1] at kx
   rw [decide_eq_false (fun h2 => hx ⟨h1, h2⟩)] at ky
   clear hx h1
   repeat (first | refine zQ (zA @XQ.eq_1 (zA @Q.eq_1 (zA @cS (zA @cT (zA @nbqMul (zA @us_length (zA kx (zA ky cI)))))))) ?_ | refine cP v1 ?_ | refine cP v2 ?_ | exact zT)
   refine wFs ?_
   repeat (first | refine zQ (zA @I.eq_1 (zA @Q.eq_1 (zA @cS (zA @cT (zA @nbqMul cI))))) ?_ | refine cP c1 ?_ | refine cP c2 ?_ | refine cP ca ?_ | refine cP cm ?_ | refine cP cl ?_ | exact zT)
  ·rw [decide_eq_false h1] at kx
   clear hx h1
   repeat (first | refine zQ (zA @XQ.eq_1 (zA @Q.eq_1 (zA @cS (zA @cT (zA @nbqMul (zA @us_length (zA kx (zA ky cI)))))))) ?_ | refine cP v1 ?_ | refine cP v2 ?_ | exact zT)
   refine wFs ?_
   repeat (first | refine zQ (zA @I.eq_1 (zA @Q.eq_1 (zA @cS (zA @cT (zA @nbqMul cI))))) ?_ | refine cP c1 ?_ | refine cP c2 ?_ | refine cP ca ?_ | refine cP cm ?_ | refine cP cl ?_ | exact zT)
theorem qMulL (x y : Rat) (h1 : RB x 4400) (h2 : RB y 4400) : PCalls Tryz.prog 157 [Q x, Q y] (Q (x * y)) := by
 have := qMul_calls (decide (x.num < 0)) (limbs x.num.natAbs) (dn x.den) (decide (y.num < 0)) (limbs y.num.natAbs) (dn y.den) h1.1 (RB_dn h1) h2.1 (RB_dn h2) (lim_limbs _) (lim_dn _) (lim_limbs _) (lim_dn _)
 rwa [rv_Q, rv_Q] at this
theorem qSign_calls (neg : Bool) (a d : List Nat) (ha : a.length ≤ 9000) (hd : d.length ≤ 9000) (la : lim a) (ld : lim d) : PCalls Tryz.prog 234 [XQ neg a d] (.int .i64 (rv neg a d).num.sign) := by
 have v1 := q_value_calls neg a d ha hd la ld
 have k1 : RB (rv neg a d) 9000 := RB_rv la ld ha hd (by decide)
 generalize rv neg a d = x at *
 have cs := iSignL x.num (Nat.le_trans k1.1 (by decide))
 refine PCalls_of isqSign (by simp [fnqSign]) ?_
 unfold codeqSign
 repeat (first | refine zQ (zA @XQ.eq_1 (zA @Q.eq_1 (zA @cS (zA @cT (zA @nbqSign cI))))) ?_ | refine cP v1 ?_ | refine cP cs ?_ | exact zT)
theorem qSignL (x : Rat) (h1 : RB x 9000) : PCalls Tryz.prog 234 [Q x] (.int .i64 x.num.sign) := by
 have := qSign_calls (decide (x.num < 0)) (limbs x.num.natAbs) (dn x.den) h1.1 (RB_dn h1) (lim_limbs _) (lim_dn _)
 rwa [rv_Q] at this
theorem dn_eq (d : Nat) : limbs (vn (dn d)) = dn d := vn_limbs_of_vld (lim_dn d) (vld_dn d)
theorem qNeg_calls (neg : Bool) (a d : List Nat) (ha : a.length ≤ 9000) (hd : d.length ≤ 9000) (la : lim a) (ld : lim d) : PCalls Tryz.prog 258 [XQ neg a d] (Q (-(rv neg a d))) := by
 have v1 := q_value_calls neg a d ha hd la ld
 have k1 : RB (rv neg a d) 9000 := RB_rv la ld ha hd (by decide)
 generalize rv neg a d = x at *
 have cs := iNegL x.num (Nat.le_trans k1.1 (by decide))
 have ca := nAdd_calls (dn x.den) [] (Nat.le_trans (RB_dn k1) (by decide)) (by decide) (lim_dn _) lim_nil
 rw [show vn [] = 0 from rfl, Nat.add_zero, dn_eq, us_nil] at ca
 refine PCalls_of isqNeg (by simp [fnqNeg]) ?_
 unfold codeqNeg
 repeat (first | refine zQ (zA @XQ.eq_1 (zA @Q.eq_1 (zA @I.eq_1 (zA @cS (zA @cT (zA @nbqNeg cI)))))) ?_ | refine cP v1 ?_ | refine cP cs ?_ | refine cP (PCalls_nz1 1 (ca)) ?_ | exact zT)
theorem sign_neg (z : Int) : decide (z.sign < 0) = decide (z < 0) := by rw [decide_eq_decide]; exact ⟨fun h => Int.sign_neg_iff.1 h, fun h => Int.sign_neg_iff.2 h⟩
theorem qFromInt_calls (v : Int) (h1 : -9223372036854775808 ≤ v) (h2 : v ≤ 9223372036854775807) : PCalls Tryz.prog 80 [.int .i64 v] (Q (v : Rat)) := by
 have ci := iFromInt_calls v h1 h2
 rw [Q_int]
 refine PCalls_of isqFromInt (by simp [fnqFromInt]) ?_
 unfold codeqFromInt
 repeat (first | refine zQ (zA @I.eq_1 (zA @cS (zA @cT (zA @nbqFromInt cI)))) ?_ | refine cP ci ?_ | exact zT)
 exact W_ret (RetP_c rfl rfl rfl (Exp_bsn _ _ _ _ rfl))
theorem qSub_calls (n1 : Bool) (a d : List Nat) (n2 : Bool) (b e : List Nat) (ha : a.length ≤ 4400) (hd : d.length ≤ 4400) (hb : b.length ≤ 4400) (he : e.length ≤ 4400) (la : lim a) (ld : lim d) (lb : lim b) (le : lim e) :
  PCalls Tryz.prog 236 [XQ n1 a d, XQ n2 b e] (Q (rv n1 a d - rv n2 b e)) := by
 have cn := qNeg_calls n2 b e (by omega) (by omega) lb le
 have k2 : RB (rv n2 b e) 4400 := RB_rv lb le hb he (by decide)
 generalize rv n2 b e = y at *
 have k3 := RB_neg k2
 have ca := qAdd_calls n1 a d (decide ((-y).num < 0)) (limbs (-y).num.natAbs) (dn (-y).den) ha hd k3.1 (RB_dn k3) la ld (lim_limbs _) (lim_dn _)
 rw [rv_Q, ← Rat.sub_eq_add_neg] at ca
 refine PCalls_of isqSub (by simp [fnqSub]) ?_
 unfold codeqSub
 repeat (first | refine zQ (zA @XQ.eq_1 (zA @Q.eq_1 (zA @cS (zA @cT (zA @nbqSub cI))))) ?_ | refine cP cn ?_ | refine cP ca ?_ | exact zT)
theorem qSubL (x y : Rat) (h1 : RB x 4400) (h2 : RB y 4400) : PCalls Tryz.prog 236 [Q x, Q y] (Q (x - y)) := by
 have := qSub_calls (decide (x.num < 0)) (limbs x.num.natAbs) (dn x.den) (decide (y.num < 0)) (limbs y.num.natAbs) (dn y.den) h1.1 (RB_dn h1) h2.1 (RB_dn h2) (lim_limbs _) (lim_dn _) (lim_limbs _) (lim_dn _)
 rwa [rv_Q, rv_Q] at this
def mkR (x y : Int) : DV := if y = 0 then .tup [Q 0, .int .i64 5] else .tup [Q (Rat.divInt x y), .int .i64 0]
theorem vldI_of_ne {neg : Bool} {a : List Nat} (h : iv neg a ≠ 0) : vldI neg a = true := by
 by_cases hv : vldI neg a = true
 ·exact hv
 ·exact absurd (iv_inv (by simpa using hv)) h
theorem X_mag {neg : Bool} {a : List Nat} (la : lim a) (h : iv neg a ≠ 0) : a = limbs (iv neg a).natAbs := by
 have hx := X_I la (vldI_of_ne h)
 unfold X I at hx
 injection hx with hx
 injection hx with e1 hx
 injection hx with e2 _
 injection e2 with _ e2
 have hva := vn_limbs_of_vld la (show vld a = true by have := vldI_of_ne h; unfold vldI at this; rw [Bool.and_eq_true] at this; exact this.1)
 rw [iv_abs, hva]
theorem qMake_calls (n1 : Bool) (a : List Nat) (n2 : Bool) (b : List Nat) (ha : a.length ≤ 9000) (hb : b.length ≤ 9000) (la : lim a) (lb : lim b) : PCalls Tryz.prog 235 [X n1 a, X n2 b] (mkR (iv n1 a) (iv n2 b)) := by
 have cs := iSign_calls n2 b (by omega) lb
 have cn := iNeg_calls n1 a (by omega) la
 have c1 := iAdd_calls n1 a false [] (by omega) (by decide) la lim_nil
 rw [show iv false [] = 0 from rfl, Int.add_zero] at c1
 have l1 := iv_len la n1
 have l2 := iv_len lb n2
 have hm := @X_mag n2 b lb
 have c2 := iAddL (-(iv n1 a)) 0 (by unfold il; rw [Int.natAbs_neg]; omega) (by unfold il; rw [show (0 : Int).natAbs = 0 from rfl, limbs_zero]; exact Nat.zero_le _)
 rw [Int.add_zero, I0] at c2
 generalize iv n1 a = x at *
 generalize iv n2 b = y at *
 refine PCalls_of isqMake (by simp [fnqMake]) ?_
 unfold codeqMake mkR
 have e1 := sign_neg y
 by_cases hy : y = 0
 ·rw [if_pos hy, Q0]
  have e2 : decide (y.sign = 0) = true := by rw [hy]; rfl
  repeat (first | refine zQ (zA @X.eq_1 (zA @cS (zA @cT (zA @nbqMake (zA e2 cI))))) ?_ | refine cP cs ?_ | exact zT)
  refine wT ?_
  refine zS (zA @cS (zA @cT (zA @nbqMake cI))) ?_
  exact W_ret (RetP_ct rfl rfl rfl (Exp_bnn _ _ _) (.imm rfl))
 ·rw [if_neg hy]
  have e2 : decide (y.sign = 0) = false := decide_eq_false (fun h => hy (Int.sign_eq_zero_iff_zero.1 h))
  have hb' := hm hy
  by_cases hn : y < 0
  ·rw [decide_eq_true hn] at e1
   rw [divInt_neg x hn]
   have cl := q_lowest_calls (-x) y.natAbs (by omega) (by unfold il; rw [Int.natAbs_neg]; omega) (by omega)
   rw [← hb'] at cl
   repeat (first | refine zQ (zA @X.eq_1 (zA @cS (zA @cT (zA @nbqMake (zA e2 cI))))) ?_ | refine cP cs ?_ | exact zT)
   refine wFs ?_
   repeat (first | refine zQ (zA @X.eq_1 (zA @cS (zA @cT (zA @nbqMake (zA e1 cI))))) ?_ | refine cP cs ?_ | exact zT)
   refine wT ?_
   repeat (first | refine zQ (zA @X.eq_1 (zA @I.eq_1 (zA @Q.eq_1 (zA @cS (zA @cT (zA @nbqMake cI)))))) ?_ | refine cP cn ?_ | refine cP (PCalls_nz1 1 (c2)) ?_ | refine cP cl ?_ | exact zT)
   exact W_ret (RetP_ct rfl rfl rfl (.imm rfl) (.imm rfl))
  ·rw [decide_eq_false hn] at e1
   rw [divInt_pos x (by omega)]
   have cl := q_lowest_calls x y.natAbs (by omega) (by unfold il; omega) (by omega)
   rw [← hb'] at cl
   repeat (first | refine zQ (zA @X.eq_1 (zA @cS (zA @cT (zA @nbqMake (zA e2 cI))))) ?_ | refine cP cs ?_ | exact zT)
   refine wFs ?_
   repeat (first | refine zQ (zA @X.eq_1 (zA @cS (zA @cT (zA @nbqMake (zA e1 cI))))) ?_ | refine cP cs ?_ | exact zT)
   refine wFs ?_
   repeat (first | refine zQ (zA @X.eq_1 (zA @I.eq_1 (zA @Q.eq_1 (zA @cS (zA @cT (zA @nbqMake cI)))))) ?_ | refine cP (PCalls_nz1 1 (c1)) ?_ | refine cP cl ?_ | exact zT)
   exact W_ret (RetP_ct rfl rfl rfl (.imm rfl) (.imm rfl))
theorem sSignL (x : Int) (h1 : il x ≤ 9000) : PCalls Tryz.prog 59 [I x] (.int .i64 x.sign) := by
 have := sSign_calls (decide (x < 0)) (limbs x.natAbs) (Nat.le_trans h1 (by decide)) (lim_limbs _)
 rwa [iv_I] at this
theorem sNegL (x : Int) (h1 : il x ≤ 9000) : PCalls Tryz.prog 112 [I x] (I (-x)) := by
 have := sNeg_calls (decide (x < 0)) (limbs x.natAbs) h1 (lim_limbs _)
 rwa [iv_I] at this
theorem sAddL (x y : Int) (h1 : il x ≤ 9000) (h2 : il y ≤ 9000) : PCalls Tryz.prog 56 [I x, I y] (I (x + y)) := by
 have := sAdd_calls (decide (x < 0)) (limbs x.natAbs) (decide (y < 0)) (limbs y.natAbs) h1 h2 (lim_limbs _) (lim_limbs _)
 rwa [iv_I, iv_I] at this
theorem sMulL (x y : Int) (h1 : il x ≤ 9000) (h2 : il y ≤ 9000) : PCalls Tryz.prog 57 [I x, I y] (I (x * y)) := by
 have := sMul_calls (decide (x < 0)) (limbs x.natAbs) (decide (y < 0)) (limbs y.natAbs) h1 h2 (lim_limbs _) (lim_limbs _)
 rwa [iv_I, iv_I] at this
theorem sDivL (x y : Int) (h1 : il x ≤ 9000) (h2 : il y ≤ 9000) : PCalls Tryz.prog 114 [I x, I y] (.tup [I (x / y), I (imod x y), .bool (decide (¬ y = 0))]) := by
 have := sDiv_calls (decide (x < 0)) (limbs x.natAbs) (decide (y < 0)) (limbs y.natAbs) h1 h2 (lim_limbs _) (lim_limbs _)
 rwa [iv_I, iv_I] at this
theorem sGcdL (x y : Int) (h1 : il x ≤ 9000) (h2 : il y ≤ 9000) : PCalls Tryz.prog 113 [I x, I y] (.sl 1 (us (limbs (Nat.gcd x.natAbs y.natAbs)))) := by
 have := sGcd_calls (decide (x < 0)) (limbs x.natAbs) (decide (y < 0)) (limbs y.natAbs) h1 h2 (lim_limbs _) (lim_limbs _)
 rwa [iv_I, iv_I] at this
theorem I_nat (n : Nat) : I (n : Int) = .agg [.bool false, .sl 1 (us (limbs n))] := by
 unfold I; rw [decide_eq_false (by omega), Int.natAbs_natCast]
theorem p_one_calls (n : Nat) : PCalls Tryz.prog 115 [.sl 1 (us (limbs n))] (.bool (decide (n = 1))) := by
 refine PCalls_of isp_one (by simp [fnp_one]) ?_
 unfold codep_one
 have e0 : (Int.toNat 0) = 0 := rfl
 by_cases h0 : n = 0
 ·subst h0
  have k : decide (((limbs 0).length : Int) = 1) = false := by rw [limbs_zero]; rfl
  rw [decide_eq_false (show ¬ (0 : Nat) = 1 by decide)]
  refine zS (zA @us_length (zA @k cI)) ?_
  exact W_ret (RetP_1 (.imm rfl))
 ·by_cases h1 : n < 4294967296
  ·have e : us (limbs n) = [.int .u32 (n : Int)] := by rw [limbs_one h0 h1]; rfl
   have k : decide (((n : Nat) : Int) = 1) = decide (n = 1) := by rw [decide_eq_decide]; omega
   have k1 : decide (((1 : Nat) : Int) = 1) = true := rfl
   rw [e]
   repeat (first | refine W_seq ?_ | refine W_reg ?_ | refine W_regd ?_ | refine W_regs ?_ | refine W_regp ?_ | refine W_block ?_ | refine And.intro (by omega) ?_ | simp (maxSteps := 1000000) (disch := omega) only [cA, cB, cN, FnD.nb, lk, lkH, Dst.onT, Dst.onX, Dst.slot, setF, setH, mapF, mapH, initF, binE, unE, cnt, boundE, newsE, freshE, freshT, opE, rmH, blkQ, frz_us, Nat.reduceEqDiff, Nat.reduceLT, Nat.reduceAdd, Nat.reduceMul, Nat.reduceMod, ↓reduceIte, reduceCtorEq, Nat.reduceLeDiff, e0, k, k1, List.length_singleton, cI])
   exact W_ret (RetP_1 (.imm rfl))
  ·have hl : 1 < (limbs n).length := by
    rcases Nat.lt_or_ge 1 (limbs n).length with h | h
    ·exact h
    ·have := limbs_len.1 h
     rw [Nat.pow_one] at this
     omega
   have k : decide (((limbs n).length : Int) = 1) = false := decide_eq_false (by omega)
   rw [decide_eq_false (show ¬ n = 1 by omega)]
   refine zS (zA @us_length (zA @k cI)) ?_
   exact W_ret (RetP_1 (.imm rfl))
theorem pValid_calls (neg : Bool) (a d : List Nat) (ha : a.length ≤ 9000) (hd : d.length ≤ 9000) (la : lim a) (ld : lim d) : PCalls Tryz.prog 94 [XQ neg a d] (.bool (vldQ neg a d)) := by
 have c1 := sValid_calls neg a (by omega)
 have c2 := rValid_calls d (by omega)
 have c4 := rGcd_calls a d (by omega) (by omega) la ld
 have c5 := p_one_calls (Nat.gcd (vn a) (vn d))
 have e5 : ∀ n : Nat, decide (n = 1) = decide (1 = n) := fun n => by rw [decide_eq_decide]; exact eq_comm
 rw [e5] at c5
 have c3 := p_one_calls (vn d)
 have ed := vn_limbs_of_vld ld
 refine PCalls_of ispValid (by simp [fnpValid]) ?_
 unfold codepValid vldQ
 generalize hV : vldI neg a = p1 at *
 generalize vld d = p2 at *
 generalize Nat.gcd (vn a) (vn d) = G at *
 clear e5
 have k1 : decide ((0 : Int) < a.length) = decide (0 < a.length) := by rw [decide_eq_decide]; omega
 have k2 : decide ((d.length : Int) = 0) = decide (d.length = 0) := by rw [decide_eq_decide]; omega
 cases p1
 ·simp only [Bool.false_and]
  repeat (first | refine zQ (zA @XQ.eq_1 (zA @X.eq_1 (zA @cS (zA @cT (zA @nbpValid (zA @us_length cI)))))) ?_ | refine cP c1 ?_ | refine cP c2 ?_ | exact zT)
  refine wT ?_
  refine zS (zA @cS (zA @nbpValid cI)) ?_
  exact W_ret (RetP_1 (.imm rfl))
 ·cases p2
  ·simp only [Bool.true_and, Bool.false_and]
   repeat (first | refine zQ (zA @XQ.eq_1 (zA @X.eq_1 (zA @cS (zA @cT (zA @nbpValid (zA @us_length cI)))))) ?_ | refine cP c1 ?_ | refine cP c2 ?_ | exact zT)
   refine wT ?_
   refine zS (zA @cS (zA @nbpValid cI)) ?_
   exact W_ret (RetP_1 (.imm rfl))
  ·simp only [Bool.true_and]
   rw [ed rfl] at c3
   by_cases h0 : d.length = 0
   ·have hD : ¬ vn d = 1 := by rw [List.eq_nil_of_length_eq_zero h0]; decide
    rw [decide_eq_false hD] at c3
    rw [decide_eq_true h0] at k2 ⊢
    simp only [Bool.true_or]
    repeat (first | refine W_seq ?_ | refine W_reg ?_ | refine W_regd ?_ | refine W_regs ?_ | refine W_regp ?_ | refine W_block ?_ | refine And.intro (by omega) ?_ | simp (maxSteps := 1000000) (disch := omega) only [cA, cB, cN, FnD.nb, lk, lkH, Dst.onT, Dst.onX, Dst.slot, setF, setH, mapF, mapH, initF, binE, unE, cnt, boundE, newsE, freshE, freshT, opE, rmH, blkQ, frz_us, Nat.reduceEqDiff, Nat.reduceLT, Nat.reduceAdd, Nat.reduceMul, Nat.reduceMod, ↓reduceIte, reduceCtorEq, Nat.reduceLeDiff, XQ, X, cS, cT, nbpValid, us_length, k2, cI] | refine cP c1 ?_ | refine cP c2 ?_ | refine cP c3 ?_ | exact zT)
    refine wFs ?_
    repeat (first | refine W_seq ?_ | refine W_reg ?_ | refine W_regd ?_ | refine W_regs ?_ | refine W_regp ?_ | refine W_block ?_ | refine And.intro (by omega) ?_ | simp (maxSteps := 1000000) (disch := omega) only [cA, cB, cN, FnD.nb, lk, lkH, Dst.onT, Dst.onX, Dst.slot, setF, setH, mapF, mapH, initF, binE, unE, cnt, boundE, newsE, freshE, freshT, opE, rmH, blkQ, frz_us, Nat.reduceEqDiff, Nat.reduceLT, Nat.reduceAdd, Nat.reduceMul, Nat.reduceMod, ↓reduceIte, reduceCtorEq, Nat.reduceLeDiff, XQ, X, cS, cT, nbpValid, us_length, k2, cI] | refine cP c1 ?_ | refine cP c2 ?_ | exact zT)
   ·rw [decide_eq_false h0] at k2 ⊢
    simp only [Bool.false_or]
    by_cases hD : vn d = 1
    ·rw [decide_eq_true hD] at c3
     rw [decide_eq_false (show ¬ ¬ vn d = 1 from fun h => h hD)]
     simp only [Bool.false_and, Bool.and_false]
     repeat (first | refine W_seq ?_ | refine W_reg ?_ | refine W_regd ?_ | refine W_regs ?_ | refine W_regp ?_ | refine W_block ?_ | refine And.intro (by omega) ?_ | simp (maxSteps := 1000000) (disch := omega) only [cA, cB, cN, FnD.nb, lk, lkH, Dst.onT, Dst.onX, Dst.slot, setF, setH, mapF, mapH, initF, binE, unE, cnt, boundE, newsE, freshE, freshT, opE, rmH, blkQ, frz_us, Nat.reduceEqDiff, Nat.reduceLT, Nat.reduceAdd, Nat.reduceMul, Nat.reduceMod, ↓reduceIte, reduceCtorEq, Nat.reduceLeDiff, XQ, X, cS, cT, nbpValid, us_length, k2, cI] | refine cP c1 ?_ | refine cP c2 ?_ | refine cP c3 ?_ | exact zT)
     refine wT ?_
     refine zS (zA @cS (zA @nbpValid cI)) ?_
     exact W_ret (RetP_1 (.imm rfl))
    ·rw [decide_eq_false hD] at c3
     rw [decide_eq_true (show ¬ vn d = 1 from hD)]
     simp only [Bool.and_true]
     by_cases ha0 : 0 < a.length
     ·rw [decide_eq_true ha0] at k1 ⊢
      simp only [Bool.true_and]
      repeat (first | refine W_seq ?_ | refine W_reg ?_ | refine W_regd ?_ | refine W_regs ?_ | refine W_regp ?_ | refine W_block ?_ | refine And.intro (by omega) ?_ | simp (maxSteps := 1000000) (disch := omega) only [cA, cB, cN, FnD.nb, lk, lkH, Dst.onT, Dst.onX, Dst.slot, setF, setH, mapF, mapH, initF, binE, unE, cnt, boundE, newsE, freshE, freshT, opE, rmH, blkQ, frz_us, Nat.reduceEqDiff, Nat.reduceLT, Nat.reduceAdd, Nat.reduceMul, Nat.reduceMod, ↓reduceIte, reduceCtorEq, Nat.reduceLeDiff, XQ, X, cS, cT, nbpValid, us_length, k1, k2, cI] | refine cP c1 ?_ | refine cP c2 ?_ | refine cP c3 ?_ | exact zT)
      refine wFs ?_
      repeat (first | refine W_seq ?_ | refine W_reg ?_ | refine W_regd ?_ | refine W_regs ?_ | refine W_regp ?_ | refine W_block ?_ | refine And.intro (by omega) ?_ | simp (maxSteps := 1000000) (disch := omega) only [cA, cB, cN, FnD.nb, lk, lkH, Dst.onT, Dst.onX, Dst.slot, setF, setH, mapF, mapH, initF, binE, unE, cnt, boundE, newsE, freshE, freshT, opE, rmH, blkQ, frz_us, Nat.reduceEqDiff, Nat.reduceLT, Nat.reduceAdd, Nat.reduceMul, Nat.reduceMod, ↓reduceIte, reduceCtorEq, Nat.reduceLeDiff, XQ, X, cS, cT, nbpValid, us_length, k1, k2, cI] | refine cP c4 ?_ | refine cP c5 ?_ | exact zT)
     ·rw [decide_eq_false ha0] at k1 ⊢
      simp only [Bool.false_and]
      repeat (first | refine W_seq ?_ | refine W_reg ?_ | refine W_regd ?_ | refine W_regs ?_ | refine W_regp ?_ | refine W_block ?_ | refine And.intro (by omega) ?_ | simp (maxSteps := 1000000) (disch := omega) only [cA, cB, cN, FnD.nb, lk, lkH, Dst.onT, Dst.onX, Dst.slot, setF, setH, mapF, mapH, initF, binE, unE, cnt, boundE, newsE, freshE, freshT, opE, rmH, blkQ, frz_us, Nat.reduceEqDiff, Nat.reduceLT, Nat.reduceAdd, Nat.reduceMul, Nat.reduceMod, ↓reduceIte, reduceCtorEq, Nat.reduceLeDiff, XQ, X, cS, cT, nbpValid, us_length, k1, k2, cI] | refine cP c1 ?_ | refine cP c2 ?_ | refine cP c3 ?_ | exact zT)
      refine wFs ?_
      repeat (first | refine W_seq ?_ | refine W_reg ?_ | refine W_regd ?_ | refine W_regs ?_ | refine W_regp ?_ | refine W_block ?_ | refine And.intro (by omega) ?_ | simp (maxSteps := 1000000) (disch := omega) only [cA, cB, cN, FnD.nb, lk, lkH, Dst.onT, Dst.onX, Dst.slot, setF, setH, mapF, mapH, initF, binE, unE, cnt, boundE, newsE, freshE, freshT, opE, rmH, blkQ, frz_us, Nat.reduceEqDiff, Nat.reduceLT, Nat.reduceAdd, Nat.reduceMul, Nat.reduceMod, ↓reduceIte, reduceCtorEq, Nat.reduceLeDiff, XQ, X, cS, cT, nbpValid, us_length, k1, k2, cI] | refine cP c4 ?_ | refine cP c5 ?_ | exact zT)
theorem vldQ_parts {neg : Bool} {a d : List Nat} (h : vldQ neg a d = true) : vldI neg a = true ∧ vld d = true := by
 unfold vldQ at h
 simp only [Bool.and_eq_true] at h
 exact h.1
theorem pTake_calls (neg : Bool) (a d : List Nat) (ha : a.length ≤ 9000) (hd : d.length ≤ 9000) (la : lim a) (ld : lim d) : PCalls Tryz.prog 43 [XQ neg a d] (Q (rv neg a d)) := by
 have cv := pValid_calls neg a d ha hd la ld
 have c1 := sTake_calls neg a (by omega) la
 have c2 := rTake_calls d (by omega) ld
 refine PCalls_of ispTake (by simp [fnpTake]) ?_
 unfold codepTake
 by_cases hv : vldQ neg a d = true
 ·rw [hv] at cv
  obtain ⟨v1, v2⟩ := vldQ_parts hv
  rw [← X_I la v1] at c1
  rw [vn_limbs_of_vld ld v2] at c2
  rw [← XQ_Q la ld hv]
  repeat (first | refine zQ (zA @XQ.eq_1 (zA @X.eq_1 (zA @cS (zA @cT (zA @nbpTake cI))))) ?_ | refine cP cv ?_ | exact zT)
  refine wFs ?_
  repeat (first | refine zQ (zA @XQ.eq_1 (zA @X.eq_1 (zA @cS (zA @cT (zA @nbpTake cI))))) ?_ | refine cP c1 ?_ | refine cP c2 ?_ | exact zT)
 ·have hv : vldQ neg a d = false := by simpa using hv
  rw [hv] at cv
  rw [rv_inv hv, Q0]
  repeat (first | refine zQ (zA @XQ.eq_1 (zA @cS (zA @nbpTake cI))) ?_ | refine cP cv ?_ | exact zT)
  refine wT ?_
  refine zS (zA @cS (zA @nbpTake cI)) ?_
  exact W_ret (RetP_c rfl rfl rfl (Exp_bnn _ _ _))
theorem pDen_calls (r : Rat) (h : RB r 10000) : PCalls Tryz.prog 58 [Q r] (I (r.den : Int)) := by
 have c2 := rTake_calls (dn r.den) (Nat.le_trans (RB_dn h) (by decide)) (lim_dn _)
 rw [dn_eq] at c2
 refine PCalls_of ispDen (by simp [fnpDen]) ?_
 unfold codepDen
 rw [I_nat]
 have k := dk1 r
 by_cases h : r.den = 1
 ·rw [decide_eq_true h] at k
  have e : limbs r.den = limbs 1 := by rw [h]
  rw [e]
  repeat (first | refine zQ (zA @Q.eq_1 (zA @cS (zA @cT (zA @nbpDen (zA @us_length (zA @k cI)))))) ?_ | refine cP c2 ?_ | exact zT)
  refine wT ?_
  refine zS (zA @cS (zA @cT (zA @nbpDen (zA @us1L (zA @us_rfd cI))))) ?_
  exact W_ret (RetP_c rfl rfl rfl (.imm rfl))
 ·rw [decide_eq_false h] at k
  have e : limbs r.den = dn r.den := by unfold dn; rw [if_neg h]
  rw [e]
  repeat (first | refine zQ (zA @Q.eq_1 (zA @cS (zA @cT (zA @nbpDen (zA @us_length (zA @k cI)))))) ?_ | refine cP c2 ?_ | exact zT)
  refine wFs ?_
  repeat (first | refine zQ (zA @cS (zA @cT (zA @nbpDen cI))) ?_ | refine cP c2 ?_ | exact zT)
theorem Q_mk (z : Int) (d : Nat) (h : d ≠ 0) : Q (mkRat z d) = .agg [.bool (decide (z / ((Nat.gcd z.natAbs d : Nat) : Int) < 0)), .sl 1 (us (limbs (z / ((Nat.gcd z.natAbs d : Nat) : Int)).natAbs)), .sl 1 (us (dn (d / Nat.gcd z.natAbs d)))] := by
 unfold Q
 rw [Rat.num_mkRat, Rat.den_mkRat, if_neg h, if_neg h, Nat.gcd_comm d]
theorem p_over_calls (x y : Int) (hy : y ≠ 0) (h1 : il x ≤ 9000) (h2 : il y ≤ 9000) : PCalls Tryz.prog 55 [I x, I y] (Q (Rat.divInt x y)) := by
 have cs := sSignL y h2
 have e1 := sign_neg y
 refine PCalls_of isp_over (by simp [fnp_over]) ?_
 unfold codep_over
 have key : ∃ (z : Int) (d : Nat), d ≠ 0 ∧ Rat.divInt x y = mkRat z d ∧ il z ≤ 9000 ∧ (limbs d).length ≤ 9000 ∧ (y < 0 → -x = z ∧ -y = (d : Int)) ∧ (¬ y < 0 → x = z ∧ y = (d : Int)) := by
  by_cases hn : y < 0
  ·exact ⟨-x, y.natAbs, by omega, divInt_neg x hn, by rw [il_neg]; exact h1, h2, fun _ => ⟨rfl, by omega⟩, fun h => absurd hn h⟩
  ·exact ⟨x, y.natAbs, by omega, divInt_pos x (by omega), h1, h2, fun h => absurd h hn, fun _ => ⟨rfl, by omega⟩⟩
 obtain ⟨z, d, hd, hq, lz, ld, kn, kp⟩ := key
 rw [hq, Q_mk z d hd]
 have hgl : (limbs (Nat.gcd z.natAbs d)).length ≤ 9000 := Nat.le_trans (len_mono (Nat.gcd_le_right _ (Nat.pos_of_ne_zero hd))) ld
 have cg := sGcdL z (d : Int) lz (il_nat ld)
 rw [Int.natAbs_natCast] at cg
 have c1 := sDivL z ((Nat.gcd z.natAbs d : Nat) : Int) lz (il_nat hgl)
 have c2 := sDivL (d : Int) ((Nat.gcd z.natAbs d : Nat) : Int) (il_nat ld) (il_nat hgl)
 rw [show ((d : Int) / ((Nat.gcd z.natAbs d : Nat) : Int)) = ((d / Nat.gcd z.natAbs d : Nat) : Int) from rfl, I_nat (Nat.gcd z.natAbs d), I_nat (d / Nat.gcd z.natAbs d)] at c2
 rw [I_nat (Nat.gcd z.natAbs d)] at c1
 have c3 := p_one_calls (d / Nat.gcd z.natAbs d)
 rw [I_nat d] at c2 cg
 have hdn : ¬ d / Nat.gcd z.natAbs d = 1 → dn (d / Nat.gcd z.natAbs d) = limbs (d / Nat.gcd z.natAbs d) := fun h => by unfold dn; rw [if_neg h]
 have hdn1 : d / Nat.gcd z.natAbs d = 1 → dn (d / Nat.gcd z.natAbs d) = [] := fun h => by rw [h, dn_one]
 generalize hG : ((Nat.gcd z.natAbs d : Nat) : Int) = GI at *
 generalize Nat.gcd z.natAbs d = G at *
 generalize d / G = E at *
 generalize z / GI = Z at *
 by_cases hn : y < 0
 ·rw [decide_eq_true hn] at e1
  obtain ⟨k1, k2⟩ := kn hn
  have cn1 := sNegL x h1
  have cn2 := sNegL y h2
  rw [k1] at cn1
  rw [k2, I_nat] at cn2
  by_cases hE : E = 1
  ·rw [hdn1 hE]
   rw [decide_eq_true hE] at c3
   clear hdn hdn1 kn kp
   repeat (first | refine zQ (zA @I.eq_1 (zA @cS (zA @cT (zA @nbp_over (zA e1 cI))))) ?_ | refine cP cs ?_ | exact zT)
   refine wT ?_
   repeat (first | refine zQ (zA @I.eq_1 (zA @cS (zA @cT (zA @nbp_over cI)))) ?_ | refine cP cn1 ?_ | refine cP cn2 ?_ | refine cP cg ?_ | refine cP c1 ?_ | refine cP c2 ?_ | refine cP c3 ?_ | exact zT)
   refine wT ?_
   refine zS (zA @I.eq_1 (zA @cS (zA @cT (zA @nbp_over cI)))) ?_
   exact W_ret (RetP_c rfl rfl rfl (Exp_bsn _ _ _ _ rfl))
  ·rw [hdn hE]
   rw [decide_eq_false hE] at c3
   clear hdn hdn1 kn kp
   repeat (first | refine zQ (zA @I.eq_1 (zA @cS (zA @cT (zA @nbp_over (zA e1 cI))))) ?_ | refine cP cs ?_ | exact zT)
   refine wT ?_
   repeat (first | refine zQ (zA @I.eq_1 (zA @cS (zA @cT (zA @nbp_over cI)))) ?_ | refine cP cn1 ?_ | refine cP cn2 ?_ | refine cP cg ?_ | refine cP c1 ?_ | refine cP c2 ?_ | refine cP c3 ?_ | exact zT)
   refine wFs ?_
   refine zS (zA @I.eq_1 (zA @cS (zA @cT (zA @nbp_over cI)))) ?_
   exact W_ret (RetP_c rfl rfl rfl (.imm rfl))
 ·rw [decide_eq_false hn] at e1
  obtain ⟨k1, k2⟩ := kp hn
  subst k1
  rw [k2, I_nat]
  rw [k2, I_nat] at cs
  rw [k2] at e1
  by_cases hE : E = 1
  ·rw [hdn1 hE]
   rw [decide_eq_true hE] at c3
   clear hdn hdn1 kn kp
   repeat (first | refine zQ (zA @I.eq_1 (zA @cS (zA @cT (zA @nbp_over (zA e1 cI))))) ?_ | refine cP cs ?_ | exact zT)
   refine wFs ?_
   repeat (first | refine zQ (zA @I.eq_1 (zA @cS (zA @cT (zA @nbp_over cI)))) ?_ | refine cP cg ?_ | refine cP c1 ?_ | refine cP c2 ?_ | refine cP c3 ?_ | exact zT)
   refine wT ?_
   refine zS (zA @I.eq_1 (zA @cS (zA @cT (zA @nbp_over cI)))) ?_
   exact W_ret (RetP_c rfl rfl rfl (Exp_bsn _ _ _ _ rfl))
  ·rw [hdn hE]
   rw [decide_eq_false hE] at c3
   clear hdn hdn1 kn kp
   repeat (first | refine zQ (zA @I.eq_1 (zA @cS (zA @cT (zA @nbp_over (zA e1 cI))))) ?_ | refine cP cs ?_ | exact zT)
   refine wFs ?_
   repeat (first | refine zQ (zA @I.eq_1 (zA @cS (zA @cT (zA @nbp_over cI)))) ?_ | refine cP cg ?_ | refine cP c1 ?_ | refine cP c2 ?_ | refine cP c3 ?_ | exact zT)
   refine wFs ?_
   refine zS (zA @I.eq_1 (zA @cS (zA @cT (zA @nbp_over cI)))) ?_
   exact W_ret (RetP_c rfl rfl rfl (.imm rfl))
end Go.Proofs.YtlcagndeidjobaaGreatDoor
