/- Lemmas of the walk; no conditions beyond those that each states. -/
import Derived.Laws.RangeAny
import Derived.Lib.DecodeN
import Derived.WalkMore
import Derived.Shelf.RegionOpenPlain
import Derived.Laws.Runes
import Derived.Lib.OthersKept
import Derived.Shelf.Strings.BuilderK
import Derived.Test.YtjfedgpbedppeaaGreatDoorD2
import Derived.Test.YtjfedgpbedppeaaGreatDoorT1
import Derived.Test.YtjfedgpbedppeaaGreatDoorC1
import Derived.Test.YtjfedgpbedppeaaGreatDoorN1
set_option linter.unusedSimpArgs false
set_option linter.unusedVariables false
set_option linter.unnecessarySimpa false
set_option maxHeartbeats 4000000
namespace Go.Proofs.YtjfedgpbedppeaaGreatDoor
open Go Go.Dat Go.Proofs Nat32
def parseR (l : List UInt8) : DV := if okD l then .tup [.sl 1 (us (limbs (dval 0 l))), .bool true] else .tup [.sl 1 [], .bool false]
theorem parseR_bad {l : List UInt8} (h : okD l = false) : parseR l = .tup [.sl 1 [], .bool false] := by unfold parseR; rw [h]; rfl
def accD (l : List UInt8) (i : Nat) : DV := if i = 0 then .nils else .sl 1 (us (limbs (dval 0 (l.take i))))
theorem okD_iff (l : List UInt8) : okD l = true ↔ l ≠ [] ∧ l.length ≤ 4000 ∧ ¬ (l.head? = some 48 ∧ 1 < l.length) ∧ l.all isD = true := by
 unfold okD
 cases l with
 | nil => simp
 | cons c l =>
  simp only [List.isEmpty_cons, Bool.false_or, Bool.and_eq_true, Bool.not_eq_true', Bool.or_eq_false_iff, decide_eq_false_iff_not, Bool.and_eq_false_iff]
  constructor
  ·rintro ⟨⟨h1, h2⟩, h3⟩
   exact ⟨by simp, by omega, fun h => h2.elim (fun e => e h.1) (fun e => e h.2), h3⟩
  ·rintro ⟨_, h1, h2, h3⟩
   refine ⟨⟨by omega, ?_⟩, h3⟩
   by_cases e : (c :: l).head? = some 48
   ·exact .inr fun h => h2 ⟨e, h⟩
   ·exact .inl e
theorem dval_len {l : List UInt8} (h : l.all isD = true) {m : Nat} (hm : l.length ≤ m) : (limbs (dval 0 l)).length ≤ m :=
 limbs_len.2 (Nat.lt_of_lt_of_le (dval_lt l h) (Nat.le_trans (Nat.pow_le_pow_left (by decide) _) (Nat.pow_le_pow_right (by decide) hm)))
theorem take_all {l : List UInt8} {i : Nat} (hi : i < l.length) (h : (l.take i).all isD = true) (hd : isD l[i] = true) : (l.take (i + 1)).all isD = true := by
 rw [List.take_succ_eq_append_getElem hi, List.all_append, h]; simp [hd]
theorem take_dval {l : List UInt8} {i : Nat} (hi : i < l.length) : dval 0 (l.take (i + 1)) = dval 0 (l.take i) * 10 + (l[i].toNat - 48) := by
 rw [List.take_succ_eq_append_getElem hi, dval_append, dval_cons, dval_nil, Nat.mul_comm]
set_option maxHeartbeats 2000000 in
theorem rParse_calls (l : List UInt8) : PCalls Tryz.prog 73 [.str l] (parseR l) := by
 refine PCalls_of isrParse (by simp [fnrParse]) ?_
 unfold coderParse
 by_cases hn : l = []
 ·subst hn
  have hb : okD [] = false := rfl
  rw [parseR_bad hb]
  refine zS (zA @decide_true cI) ?_
  refine wT ?_
  refine zS cI ?_
  exact W_ret (RetP_2 (.nils _) (.imm rfl))
 ·have hpos : 0 < l.length := List.length_pos_iff.2 hn
  have dn : decide (l = []) = false := decide_eq_false hn
  by_cases h4 : 4000 < l.length
  ·have d4 : decide ((4000 : Int) < l.length) = true := decide_eq_true (by omega)
   have hb : okD l = false := by
    rw [← Bool.not_eq_true, okD_iff]
    exact fun h => by omega
   rw [parseR_bad hb]
   refine zS (zA dn (zA d4 cI)) ?_
   refine wT ?_
   refine zS cI ?_
   exact W_ret (RetP_2 (.nils _) (.imm rfl))
  ·have d4 : decide ((4000 : Int) < l.length) = false := decide_eq_false (by omega)
   by_cases hz : l.head? = some 48 ∧ 1 < l.length
   ·have hb : okD l = false := by
     rw [← Bool.not_eq_true, okD_iff]
     exact fun h => h.2.2.1 hz
    have d1 : decide ((1 : Int) < l.length) = true := decide_eq_true (by omega)
    have hg : l.getD 0 0 = 48 := by
     cases l with
     | nil => exact absurd rfl hn
     | cons c r => simpa using hz.1
    have e0 : (Int.toNat 0) = 0 := rfl
    have e48 : byteD 48 = .int .u8 48 := rfl
    rw [parseR_bad hb]
    refine zS (zA dn (zA d4 (zA d1 (zA e0 (zA hg (zA e48 cI)))))) ?_
    refine W_cond rfl (fun _ => ?_) (fun h => by simp at h)
    refine zS cI ?_
    exact W_ret (RetP_2 (.nils _) (.imm rfl))
   ·have e0 : (Int.toNat 0) = 0 := rfl
    by_cases h1 : 1 < l.length
    ·have d1 : decide ((1 : Int) < l.length) = true := decide_eq_true (by omega)
     have hne : ¬ (l.getD 0 0).toNat = 48 := fun e => hz ⟨by
      cases l with
      | nil => exact absurd rfl hn
      | cons c r => simp only [List.getD_cons_zero] at e; rw [List.head?_cons, ← UInt8.toNat_inj.1 (show c.toNat = (48 : UInt8).toNat from e)], h1⟩
     have ebd : byteD (l.getD 0 0) = .int .u8 ((l.getD 0 0).toNat : Nat) := rfl
     have d2 : decide ((((l.getD 0 0).toNat : Nat) : Int) = 48) = false := decide_eq_false (by omega)
     refine zS (zA dn (zA d4 (zA d1 (zA e0 (zA ebd (zA d2 cI)))))) ?_
     refine wFs ?_
     clear hne ebd d2 d1
     refine zS cI ?_
     refine W_loop (σ := Nat) (fun i => [(0, .str l), (2, .nils), (3, .bool false), (4, accD l i), (5, .int .i64 i)]) (fun _ => []) (fun i => i ≤ l.length ∧ (l.take i).all isD = true) (fun i => l.length - i) 0 (And.intro (Nat.zero_le _) rfl) ?_ rfl ?_
     ·simp [subF, lk, accD]
     ·rintro i ⟨hi, hall⟩
      try simp only at hi hall ⊢
      by_cases hlt : i < l.length
      ·have dl : decide ((i : Int) < l.length) = true := decide_eq_true (by omega)
       have ei : (i : Int).toNat = i := Int.toNat_natCast i
       have hgd : l.getD i 0 = l[i] := by rw [List.getD_eq_getElem?_getD, List.getElem?_eq_getElem hlt]; rfl
       have hta := take_all hlt hall
       have htd := take_dval hlt
       have hmem : l[i] ∈ l := List.getElem_mem hlt
       have hdl := dval_len hall (m := 4000) (by simp; omega)
       generalize l[i] = c at *
       have hk : c.toNat < 256 := UInt8.toNat_lt c
       have ebd : byteD c = .int .u8 (c.toNat : Nat) := rfl
       refine zS (zA dl cI) ?_
       refine wTs ?_
       by_cases hd : isD c = true
       ·have hd' := hd
        simp only [isD, Bool.and_eq_true, decide_eq_true_eq] at hd'
        have d5 : decide ((c.toNat : Int) < 48) = false := decide_eq_false (by omega)
        have d6 : decide ((57 : Int) < c.toNat) = false := decide_eq_false (by omega)
        have e7 : IntKind.u8.wrap ((c.toNat : Int) - 48) = ((c.toNat - 48 : Nat) : Int) := by rw [IntKind.wrap_u8]; omega
        have e8 : (c.toNat : Int) - 48 = ((c.toNat - 48 : Nat) : Int) := by omega
        have hta' := hta hd
        have ct : PCalls Tryz.prog 131 [accD l i, .int .u32 10, .int .i64 0] (.sl 1 (us (limbs (dval 0 (l.take i) * 10)))) := by
         have h := rTimes_calls (dval 0 (l.take i)) 10 0 (by omega) (by decide) (by decide)
         rw [Nat.pow_zero, Nat.one_mul] at h
         unfold accD
         split
         ·rename_i h0
          subst h0
          refine PCalls_nz 1 ?_
          rw [List.take_zero, dval_nil, Nat.zero_mul, limbs_zero] at h
          rw [List.take_zero, dval_nil, Nat.zero_mul, limbs_zero]
          exact h
         ·exact h
        have cf := rFromUint_calls (c.toNat - 48) (by omega)
        have hm10 := len_mul hdl (show (limbs 10).length ≤ 1 by rw [limbs_one (by decide) (by decide)]; simp)
        have ca := rAddL (dval 0 (l.take i) * 10) (c.toNat - 48) (by omega) (Nat.le_trans (limbs_len.2 (show c.toNat - 48 < 4294967296 ^ 1 by omega)) (by decide))
        rw [← htd] at ca
        have hac : accD l (i + 1) = .sl 1 (us (limbs (dval 0 (l.take (i + 1))))) := by unfold accD; rw [if_neg (by omega)]
        rw [← hac] at ca
        have i1 : ((i : Int) + 1) = ((i + 1 : Nat) : Int) := by omega
        have hacc : accD l i = .nils ∨ ∃ xs, accD l i = .sl 1 xs := by
         unfold accD
         split
         ·exact .inl rfl
         ·exact .inr ⟨_, rfl⟩
        clear hta htd hdl hm10 hall hd hac
        (replace hta' := Hid.mk hta')
        refine zS (zA ei (zA hgd (zA ebd (zA d5 (zA d6 cI))))) ?_
        refine wFs ?_
        rcases hacc with e | ⟨xs, e⟩
        ·rw [e] at ct ⊢
         repeat (first | refine zQ (zA ei (zA hgd (zA ebd (zA e7 (zA e8 (zA i1 cI)))))) ?_ | refine cP ct ?_ | refine cP cf ?_ | refine cP ca ?_ | exact zT)
         exact ⟨i + 1, And.intro hlt hta'.out, by omega, by simp [subF, lk]⟩
        ·rw [e] at ct ⊢
         repeat (first | refine zQ (zA ei (zA hgd (zA ebd (zA e7 (zA e8 (zA i1 cI)))))) ?_ | refine cP ct ?_ | refine cP cf ?_ | refine cP ca ?_ | exact zT)
         exact ⟨i + 1, And.intro hlt hta'.out, by omega, by simp [subF, lk]⟩
       ·have hb : okD l = false := by
         rw [← Bool.not_eq_true, okD_iff]
         exact fun h => hd (List.all_eq_true.1 h.2.2.2 c hmem)
        rw [parseR_bad hb]
        clear hta htd hall hdl
        by_cases h5 : c.toNat < 48
        ·have d5 : decide ((c.toNat : Int) < 48) = true := decide_eq_true (by omega)
         refine zS (zA ei (zA hgd (zA ebd (zA d5 cI)))) ?_
         refine wT ?_
         refine zS cI ?_
         exact W_ret (RetP_2 (.nils _) (.imm rfl))
        ·have d5 : decide ((c.toNat : Int) < 48) = false := decide_eq_false (by omega)
         have d6 : decide ((57 : Int) < c.toNat) = true := decide_eq_true (by
          simp only [isD, Bool.and_eq_true, decide_eq_true_eq] at hd
          omega)
         refine zS (zA ei (zA hgd (zA ebd (zA d5 (zA d6 cI))))) ?_
         refine wT ?_
         refine zS cI ?_
         exact W_ret (RetP_2 (.nils _) (.imm rfl))
      ·have hil : i = l.length := by omega
       subst hil
       have dl : decide ((l.length : Int) < l.length) = false := decide_eq_false (by omega)
       rw [List.take_length] at hall
       have hb : okD l = true := (okD_iff l).2 ⟨hn, by omega, hz, hall⟩
       have hr : parseR l = .tup [.sl 1 (us (limbs (dval 0 l))), .bool true] := by unfold parseR; rw [hb]; rfl
       have hac : accD l l.length = .sl 1 (us (limbs (dval 0 l))) := by unfold accD; rw [if_neg (by omega), List.take_length]
       rw [hr, hac]
       refine zS (zA dl cI) ?_
       refine W_cond rfl (fun h => by cases h) (fun _ => W_exit ?_)
       refine zS cI ?_
       exact W_ret (RetP_2 (.imm rfl) (.imm rfl))
    ·have d1 : decide ((1 : Int) < l.length) = false := decide_eq_false (by omega)
     refine zS (zA dn (zA d4 (zA d1 cI))) ?_
     refine wFs ?_
     refine zS cI ?_
     refine W_loop (σ := Nat) (fun i => [(0, .str l), (2, .nils), (3, .bool false), (4, accD l i), (5, .int .i64 i)]) (fun _ => []) (fun i => i ≤ l.length ∧ (l.take i).all isD = true) (fun i => l.length - i) 0 (And.intro (Nat.zero_le _) rfl) ?_ rfl ?_
     ·simp [subF, lk, accD]
     ·rintro i ⟨hi, hall⟩
      try simp only at hi hall ⊢
      by_cases hlt : i < l.length
      ·have dl : decide ((i : Int) < l.length) = true := decide_eq_true (by omega)
       have ei : (i : Int).toNat = i := Int.toNat_natCast i
       have hgd : l.getD i 0 = l[i] := by rw [List.getD_eq_getElem?_getD, List.getElem?_eq_getElem hlt]; rfl
       have hta := take_all hlt hall
       have htd := take_dval hlt
       have hmem : l[i] ∈ l := List.getElem_mem hlt
       have hdl := dval_len hall (m := 4000) (by simp; omega)
       generalize l[i] = c at *
       have hk : c.toNat < 256 := UInt8.toNat_lt c
       have ebd : byteD c = .int .u8 (c.toNat : Nat) := rfl
       refine zS (zA dl cI) ?_
       refine wTs ?_
       by_cases hd : isD c = true
       ·have hd' := hd
        simp only [isD, Bool.and_eq_true, decide_eq_true_eq] at hd'
        have d5 : decide ((c.toNat : Int) < 48) = false := decide_eq_false (by omega)
        have d6 : decide ((57 : Int) < c.toNat) = false := decide_eq_false (by omega)
        have e7 : IntKind.u8.wrap ((c.toNat : Int) - 48) = ((c.toNat - 48 : Nat) : Int) := by rw [IntKind.wrap_u8]; omega
        have e8 : (c.toNat : Int) - 48 = ((c.toNat - 48 : Nat) : Int) := by omega
        have hta' := hta hd
        have ct : PCalls Tryz.prog 131 [accD l i, .int .u32 10, .int .i64 0] (.sl 1 (us (limbs (dval 0 (l.take i) * 10)))) := by
         have h := rTimes_calls (dval 0 (l.take i)) 10 0 (by omega) (by decide) (by decide)
         rw [Nat.pow_zero, Nat.one_mul] at h
         unfold accD
         split
         ·rename_i h0
          subst h0
          refine PCalls_nz 1 ?_
          rw [List.take_zero, dval_nil, Nat.zero_mul, limbs_zero] at h
          rw [List.take_zero, dval_nil, Nat.zero_mul, limbs_zero]
          exact h
         ·exact h
        have cf := rFromUint_calls (c.toNat - 48) (by omega)
        have hm10 := len_mul hdl (show (limbs 10).length ≤ 1 by rw [limbs_one (by decide) (by decide)]; simp)
        have ca := rAddL (dval 0 (l.take i) * 10) (c.toNat - 48) (by omega) (Nat.le_trans (limbs_len.2 (show c.toNat - 48 < 4294967296 ^ 1 by omega)) (by decide))
        rw [← htd] at ca
        have hac : accD l (i + 1) = .sl 1 (us (limbs (dval 0 (l.take (i + 1))))) := by unfold accD; rw [if_neg (by omega)]
        rw [← hac] at ca
        have i1 : ((i : Int) + 1) = ((i + 1 : Nat) : Int) := by omega
        have hacc : accD l i = .nils ∨ ∃ xs, accD l i = .sl 1 xs := by
         unfold accD
         split
         ·exact .inl rfl
         ·exact .inr ⟨_, rfl⟩
        clear hta htd hdl hm10 hall hd hac
        (replace hta' := Hid.mk hta')
        refine zS (zA ei (zA hgd (zA ebd (zA d5 (zA d6 cI))))) ?_
        refine wFs ?_
        rcases hacc with e | ⟨xs, e⟩
        ·rw [e] at ct ⊢
         repeat (first | refine zQ (zA ei (zA hgd (zA ebd (zA e7 (zA e8 (zA i1 cI)))))) ?_ | refine cP ct ?_ | refine cP cf ?_ | refine cP ca ?_ | exact zT)
         exact ⟨i + 1, And.intro hlt hta'.out, by omega, by simp [subF, lk]⟩
        ·rw [e] at ct ⊢
         repeat (first | refine zQ (zA ei (zA hgd (zA ebd (zA e7 (zA e8 (zA i1 cI)))))) ?_ | refine cP ct ?_ | refine cP cf ?_ | refine cP ca ?_ | exact zT)
         exact ⟨i + 1, And.intro hlt hta'.out, by omega, by simp [subF, lk]⟩
       ·have hb : okD l = false := by
         rw [← Bool.not_eq_true, okD_iff]
         exact fun h => hd (List.all_eq_true.1 h.2.2.2 c hmem)
        rw [parseR_bad hb]
        clear hta htd hall hdl
        by_cases h5 : c.toNat < 48
        ·have d5 : decide ((c.toNat : Int) < 48) = true := decide_eq_true (by omega)
         refine zS (zA ei (zA hgd (zA ebd (zA d5 cI)))) ?_
         refine wT ?_
         refine zS cI ?_
         exact W_ret (RetP_2 (.nils _) (.imm rfl))
        ·have d5 : decide ((c.toNat : Int) < 48) = false := decide_eq_false (by omega)
         have d6 : decide ((57 : Int) < c.toNat) = true := decide_eq_true (by
          simp only [isD, Bool.and_eq_true, decide_eq_true_eq] at hd
          omega)
         refine zS (zA ei (zA hgd (zA ebd (zA d5 (zA d6 cI))))) ?_
         refine wT ?_
         refine zS cI ?_
         exact W_ret (RetP_2 (.nils _) (.imm rfl))
      ·have hil : i = l.length := by omega
       subst hil
       have dl : decide ((l.length : Int) < l.length) = false := decide_eq_false (by omega)
       rw [List.take_length] at hall
       have hb : okD l = true := (okD_iff l).2 ⟨hn, by omega, hz, hall⟩
       have hr : parseR l = .tup [.sl 1 (us (limbs (dval 0 l))), .bool true] := by unfold parseR; rw [hb]; rfl
       have hac : accD l l.length = .sl 1 (us (limbs (dval 0 l))) := by unfold accD; rw [if_neg (by omega), List.take_length]
       rw [hr, hac]
       refine zS (zA dl cI) ?_
       refine W_cond rfl (fun h => by cases h) (fun _ => W_exit ?_)
       refine zS cI ?_
       exact W_ret (RetP_2 (.imm rfl) (.imm rfl))
theorem byteD_get {g : List UInt8} {j : Nat} (h : j < g.length) : (g.map byteD).getD j .undef = .int .u8 (g[j].toNat : Nat) := by
 rw [List.getD_eq_getElem?_getD, List.getElem?_map, List.getElem?_eq_getElem h]; rfl
theorem byteD_get? {g : List UInt8} {j : Nat} (h : j < g.length) : (g.map byteD)[j]? = some (.int .u8 (g[j].toNat : Nat)) := by
 rw [List.getElem?_map, List.getElem?_eq_getElem h]; rfl
theorem seg_len {l : List UInt8} {at' e : Nat} (h : e ≤ l.length) : ((l.take e).drop at').length = e - at' := by
 rw [List.length_drop, List.length_take]; omega
theorem take_seg {l : List UInt8} {at' e : Nat} (h : at' ≤ e) : l.take e = l.take at' ++ (l.take e).drop at' := by
 have := List.take_append_drop at' (l.take e)
 rw [List.take_take, Nat.min_eq_left h] at this
 exact this.symm
theorem dval_seg {l : List UInt8} {at' e : Nat} (h : at' ≤ e) (he : e ≤ l.length) (h9 : at' = 0 ∨ e - at' = 9) : dval 0 (l.take at') * 1000000000 + dval 0 ((l.take e).drop at') = dval 0 (l.take e) := by
 rcases h9 with rfl | h9
 ·rw [List.take_zero, dval_nil, List.drop_zero]; omega
 ·have e1 := take_seg (l := l) h
  have e2 := congrArg (dval 0) e1
  rw [dval_append, dval_acc _ (dval 0 (l.take at'))] at e2
  rw [e2, seg_len he, h9]
theorem accD_cases (l : List UInt8) (i : Nat) : accD l i = .nils ∨ ∃ xs, accD l i = .sl 1 xs := by
 unfold accD
 by_cases h : i = 0
 ·rw [if_pos h]; exact .inl rfl
 ·rw [if_neg h]; exact .inr ⟨_, rfl⟩
theorem accD_nMul (l : List UInt8) (i : Nat) (hd : (limbs (dval 0 (l.take i))).length ≤ 10000) : PCalls Tryz.prog 78 [accD l i, .sl 1 (us (limbs 1000000000))] (.sl 1 (us (limbs (dval 0 (l.take i) * 1000000000)))) := by
 have h := nMulL (dval 0 (l.take i)) 1000000000 hd (by rw [limbs_one (by decide) (by decide)]; simp)
 unfold accD
 by_cases h0 : i = 0
 ·subst h0
  rw [if_pos rfl]
  refine PCalls_nz 1 ?_
  rw [List.take_zero, dval_nil, Nat.zero_mul, limbs_zero] at h
  rw [List.take_zero, dval_nil, Nat.zero_mul, limbs_zero]
  exact h
 ·rw [if_neg h0]; exact h
set_option maxHeartbeats 4000000 in
theorem nParse_calls (l : List UInt8) : PCalls Tryz.prog 125 [.str l] (parseR l) := by
 refine PCalls_of isnParse (by simp [fnnParse]) ?_
 unfold codenParse
 by_cases hn : l = []
 ·subst hn
  have hb : okD [] = false := rfl
  rw [parseR_bad hb]
  refine zS (zA @decide_true cI) ?_
  refine wT ?_
  refine zS cI ?_
  exact W_ret (RetP_2 (.nils _) (.imm rfl))
 ·have hpos : 0 < l.length := List.length_pos_iff.2 hn
  have dn : decide (l = []) = false := decide_eq_false hn
  by_cases h4 : 4000 < l.length
  ·have d4 : decide ((4000 : Int) < l.length) = true := decide_eq_true (by omega)
   have hb : okD l = false := by
    rw [← Bool.not_eq_true, okD_iff]
    exact fun h => by omega
   rw [parseR_bad hb]
   refine zS (zA dn (zA d4 cI)) ?_
   refine wT ?_
   refine zS cI ?_
   exact W_ret (RetP_2 (.nils _) (.imm rfl))
  ·have d4 : decide ((4000 : Int) < l.length) = false := decide_eq_false (by omega)
   have e0 : (Int.toNat 0) = 0 := rfl
   have ebd : byteD (l.getD 0 0) = .int .u8 ((l.getD 0 0).toNat : Nat) := rfl
   by_cases h48 : (l.getD 0 0).toNat = 48
   ·have d2 : decide ((((l.getD 0 0).toNat : Nat) : Int) = 48) = true := decide_eq_true (by omega)
    by_cases h1 : 1 < l.length
    ·have d1 : decide ((1 : Int) < l.length) = true := decide_eq_true (by omega)
     have hz : l.head? = some 48 ∧ 1 < l.length := ⟨by
      cases l with
      | nil => exact absurd rfl hn
      | cons c r => simp only [List.getD_cons_zero] at h48; rw [List.head?_cons, ← UInt8.toNat_inj.1 (show c.toNat = (48 : UInt8).toNat from h48)], h1⟩
     have hb : okD l = false := by
      rw [← Bool.not_eq_true, okD_iff]
      exact fun h => h.2.2.1 hz
     rw [parseR_bad hb]
     refine zS (zA dn (zA d4 (zA d1 (zA e0 (zA ebd (zA d2 cI)))))) ?_
     refine wT ?_
     refine zS cI ?_
     exact W_ret (RetP_2 (.nils _) (.imm rfl))
    ·have d1 : decide ((1 : Int) < l.length) = false := decide_eq_false (by omega)
     have hz : ¬ (l.head? = some 48 ∧ 1 < l.length) := fun h => h1 h.2
     refine zS (zA dn (zA d4 (zA d1 (zA e0 (zA ebd (zA d2 cI)))))) ?_
     refine wFs ?_
     clear d1 d2 ebd h48 h1
     have r9 : ((l.length : Int).tmod 9) = ((l.length % 9 : Nat) : Int) := by
      rw [Int.tmod_eq_emod_of_nonneg (by omega)]; omega
     refine zS (zA r9 cI) ?_
     refine W_loop (σ := Nat) (fun i => [(0, .str l), (2, accD l i), (3, .bool false), (4, .int .i64 (l.length % 9 : Nat)), (5, .int .i64 i)]) (fun _ => []) (fun i => i ≤ l.length ∧ (l.take i).all isD = true ∧ (i = 0 ∨ (l.length - i) % 9 = 0)) (fun i => l.length - i) 0 (And.intro (Nat.zero_le _) (And.intro rfl (.inl rfl))) ?_ rfl ?_
     ·simp [subF, lk, accD]
     ·rintro i ⟨hi, hall, h9⟩
      by_cases hlt : i < l.length
      ·have dl : decide ((i : Int) < l.length) = true := decide_eq_true (by omega)
       refine zS (zA dl cI) ?_
       refine wTs ?_
       have ti : (i : Int).toNat = i := Int.toNat_natCast i
       by_cases hi0 : i = 0
       ·have di : decide ((i : Int) = 0) = true := decide_eq_true (by omega)
        by_cases hf : 0 < l.length % 9
        ·have df : decide ((0 : Int) < (l.length % 9 : Nat)) = true := decide_eq_true (by omega)
         have he1 : i < l.length % 9 := by omega
         have he2 : l.length % 9 ≤ l.length := Nat.mod_le _ _
         have he4 : i = 0 ∨ l.length % 9 - i = 9 := .inl hi0
         have he3 : l.length % 9 - i ≤ 9 := by omega
         have he5 : (l.length - l.length % 9) % 9 = 0 := by omega
         have te : ((l.length % 9 : Nat) : Int).toNat = l.length % 9 := Int.toNat_natCast _
         refine zS (zA di (zA df cI)) ?_
         refine wT ?_
         have hg := seg_len (l := l) (at' := i) (e := (l.length % 9)) he2
         have hseg := take_seg (l := l) (at' := i) (e := (l.length % 9)) (Nat.le_of_lt he1)
         have hval := dval_seg (l := l) (at' := i) (e := (l.length % 9)) (Nat.le_of_lt he1) he2 he4
         have hmem : ∀ c ∈ (l.take (l.length % 9)).drop i, c ∈ l := fun c h => List.mem_of_mem_take (List.mem_of_mem_drop h)
         refine zS (zA ti (zA te cI)) ?_
         generalize (l.take (l.length % 9)).drop i = g at *
         have hglen : ((g.map byteD).length) = g.length := List.length_map ..
         refine zS (zA hglen cI) ?_
         refine W_loop (σ := Nat) (fun j => [(0, .str l), (2, accD l i), (3, .bool false), (4, .int .i64 (l.length % 9 : Nat)), (5, .int .i64 i), (6, .int .i64 ((l.length % 9) : Nat)), (47, .sl 1 (g.map byteD)), (48, .int .i64 g.length), (49, .int .i64 j), (7, .int .u64 (dval 0 (g.take j) : Nat))]) (fun _ => []) (fun j => j ≤ g.length ∧ (g.take j).all isD = true) (fun j => g.length - j) 0 (And.intro (Nat.zero_le _) rfl) ?_ rfl ?_
         ·simp [subF, lk, dval_nil]
         ·rintro j ⟨hj, hgall⟩
          by_cases hjl : j < g.length
          ·have dj : decide ((j : Int) < g.length) = true := decide_eq_true (by omega)
           refine zS (zA dj cI) ?_
           refine wTs ?_
           have tj : (j : Int).toNat = j := Int.toNat_natCast j
           have hg1 := byteD_get hjl
           have hg2 := byteD_get? hjl
           have hta := take_all hjl hgall
           have htd := take_dval hjl
           have hmc := hmem g[j] (List.getElem_mem hjl)
           have hv : dval 0 (g.take j) < 1000000000 := Nat.lt_of_lt_of_le (dval_lt _ hgall) (Nat.le_trans (Nat.pow_le_pow_right (by decide) (show (g.take j).length ≤ 9 by rw [List.length_take]; omega)) (by decide))
           generalize g[j] = c at *
           generalize dval 0 (g.take j) = v at *
           have hk : c.toNat < 256 := UInt8.toNat_lt c
           have j1 : ((j : Int) + 1) = ((j + 1 : Nat) : Int) := by omega
           clear hval hseg
           by_cases hd : isD c = true
           ·have hd' := hd
            simp only [isD, Bool.and_eq_true, decide_eq_true_eq] at hd'
            have d5 : decide ((c.toNat : Int) < 48) = false := decide_eq_false (by omega)
            have d6 : decide ((57 : Int) < c.toNat) = false := decide_eq_false (by omega)
            have e8 : (c.toNat : Int) - 48 = ((c.toNat - 48 : Nat) : Int) := by omega
            have e10 : 10 * (v : Int) + ((c.toNat - 48 : Nat) : Int) = ((dval 0 (g.take (j + 1)) : Nat) : Int) := by rw [htd]; omega
            have hta' := hta hd
            clear hta htd hgall hall hmem
            (replace hta' := Hid.mk hta')
            refine zS (zA tj (zA hg1 (zA hg2 (zA d5 (zA d6 cI))))) ?_
            refine wFs ?_
            refine zS (zA e8 (zA e10 (zA j1 cI))) ?_
            exact ⟨j + 1, And.intro hjl hta'.out, by omega, by simp [subF, lk]⟩
           ·have hb : okD l = false := by
             rw [← Bool.not_eq_true, okD_iff]
             exact fun h => hd (List.all_eq_true.1 h.2.2.2 c hmc)
            rw [parseR_bad hb]
            clear hta htd hall hgall hmem
            by_cases h5 : c.toNat < 48
            ·have d5 : decide ((c.toNat : Int) < 48) = true := decide_eq_true (by omega)
             refine zS (zA tj (zA hg1 (zA hg2 (zA d5 cI)))) ?_
             refine wT ?_
             refine zS cI ?_
             exact W_ret (RetP_2 (.nils _) (.imm rfl))
            ·have d5 : decide ((c.toNat : Int) < 48) = false := decide_eq_false (by omega)
             have d6 : decide ((57 : Int) < c.toNat) = true := decide_eq_true (by
              simp only [isD, Bool.and_eq_true, decide_eq_true_eq] at hd
              omega)
             refine zS (zA tj (zA hg1 (zA hg2 (zA d5 (zA d6 cI))))) ?_
             refine wT ?_
             refine zS cI ?_
             exact W_ret (RetP_2 (.nils _) (.imm rfl))
          ·have dj : decide ((j : Int) < g.length) = false := decide_eq_false (by omega)
           obtain rfl : j = g.length := by omega
           rw [List.take_length] at hgall ⊢
           have u9 : [DV.int .u32 1000000000] = us (limbs 1000000000) := by rw [limbs_one (by decide) (by decide)]; rfl
           have hl9 : (limbs 1000000000).length ≤ 1 := by rw [limbs_one (by decide) (by decide)]; simp
           have hv : dval 0 g < 1000000000 := Nat.lt_of_lt_of_le (dval_lt _ hgall) (Nat.le_trans (Nat.pow_le_pow_right (by decide) (show g.length ≤ 9 by omega)) (by decide))
           have hdl := dval_len hall (m := 4000) (by simp; omega)
           have ct := accD_nMul l i (by omega)
           have cf := nFromUint_calls (dval 0 g) (by omega)
           have hm := len_mul hdl hl9
           have ca := nAddL (dval 0 (l.take i) * 1000000000) (dval 0 g) (by omega) (Nat.le_trans (limbs_len.2 (show dval 0 g < 4294967296 ^ 1 by omega)) (by decide))
           rw [hval] at ca
           have hac : accD l (l.length % 9) = .sl 1 (us (limbs (dval 0 (l.take (l.length % 9))))) := by unfold accD; rw [if_neg (by omega)]
           rw [← hac] at ca
           have halle : (l.take (l.length % 9)).all isD = true := by rw [hseg, List.all_append, hall, hgall]; rfl
           have hacc := accD_cases l i
           clear hval hseg hall hgall hm hdl hl9 hac hmem
           (replace halle := Hid.mk halle)
           rcases hacc with e | ⟨xs, e⟩
           ·rw [e] at ct ⊢
            refine zS (zA dj cI) ?_
            refine W_cond rfl (fun h => by cases h) (fun _ => W_exit ?_)
            repeat (first | refine zQ (zA u9 (zA @us_rfd cI)) ?_ | refine cP ct ?_ | refine cP cf ?_ | refine cP ca ?_ | exact zT)
            exact ⟨(l.length % 9), And.intro he2 (And.intro halle.out (.inr he5)), by omega, by simp [subF, lk]⟩
           ·rw [e] at ct ⊢
            refine zS (zA dj cI) ?_
            refine W_cond rfl (fun h => by cases h) (fun _ => W_exit ?_)
            repeat (first | refine zQ (zA u9 (zA @us_rfd cI)) ?_ | refine cP ct ?_ | refine cP cf ?_ | refine cP ca ?_ | exact zT)
            exact ⟨(l.length % 9), And.intro he2 (And.intro halle.out (.inr he5)), by omega, by simp [subF, lk]⟩
        ·have df : decide ((0 : Int) < (l.length % 9 : Nat)) = false := decide_eq_false (by omega)
         have he1 : i < i + 9 := by omega
         have he2 : i + 9 ≤ l.length := by omega
         have he4 : i = 0 ∨ i + 9 - i = 9 := .inl hi0
         have he3 : i + 9 - i ≤ 9 := by omega
         have he5 : (l.length - (i + 9)) % 9 = 0 := by omega
         have ei9 : (i : Int) + 9 = ((i + 9 : Nat) : Int) := by omega
         have te : ((i + 9 : Nat) : Int).toNat = i + 9 := Int.toNat_natCast _
         refine zS (zA di (zA df (zA ei9 cI))) ?_
         refine wFs ?_
         have hg := seg_len (l := l) (at' := i) (e := (i + 9)) he2
         have hseg := take_seg (l := l) (at' := i) (e := (i + 9)) (Nat.le_of_lt he1)
         have hval := dval_seg (l := l) (at' := i) (e := (i + 9)) (Nat.le_of_lt he1) he2 he4
         have hmem : ∀ c ∈ (l.take (i + 9)).drop i, c ∈ l := fun c h => List.mem_of_mem_take (List.mem_of_mem_drop h)
         refine zS (zA ti (zA te cI)) ?_
         generalize (l.take (i + 9)).drop i = g at *
         have hglen : ((g.map byteD).length) = g.length := List.length_map ..
         refine zS (zA hglen cI) ?_
         refine W_loop (σ := Nat) (fun j => [(0, .str l), (2, accD l i), (3, .bool false), (4, .int .i64 (l.length % 9 : Nat)), (5, .int .i64 i), (6, .int .i64 ((i + 9) : Nat)), (47, .sl 1 (g.map byteD)), (48, .int .i64 g.length), (49, .int .i64 j), (7, .int .u64 (dval 0 (g.take j) : Nat))]) (fun _ => []) (fun j => j ≤ g.length ∧ (g.take j).all isD = true) (fun j => g.length - j) 0 (And.intro (Nat.zero_le _) rfl) ?_ rfl ?_
         ·simp [subF, lk, dval_nil]
         ·rintro j ⟨hj, hgall⟩
          by_cases hjl : j < g.length
          ·have dj : decide ((j : Int) < g.length) = true := decide_eq_true (by omega)
           refine zS (zA dj cI) ?_
           refine wTs ?_
           have tj : (j : Int).toNat = j := Int.toNat_natCast j
           have hg1 := byteD_get hjl
           have hg2 := byteD_get? hjl
           have hta := take_all hjl hgall
           have htd := take_dval hjl
           have hmc := hmem g[j] (List.getElem_mem hjl)
           have hv : dval 0 (g.take j) < 1000000000 := Nat.lt_of_lt_of_le (dval_lt _ hgall) (Nat.le_trans (Nat.pow_le_pow_right (by decide) (show (g.take j).length ≤ 9 by rw [List.length_take]; omega)) (by decide))
           generalize g[j] = c at *
           generalize dval 0 (g.take j) = v at *
           have hk : c.toNat < 256 := UInt8.toNat_lt c
           have j1 : ((j : Int) + 1) = ((j + 1 : Nat) : Int) := by omega
           clear hval hseg
           by_cases hd : isD c = true
           ·have hd' := hd
            simp only [isD, Bool.and_eq_true, decide_eq_true_eq] at hd'
            have d5 : decide ((c.toNat : Int) < 48) = false := decide_eq_false (by omega)
            have d6 : decide ((57 : Int) < c.toNat) = false := decide_eq_false (by omega)
            have e8 : (c.toNat : Int) - 48 = ((c.toNat - 48 : Nat) : Int) := by omega
            have e10 : 10 * (v : Int) + ((c.toNat - 48 : Nat) : Int) = ((dval 0 (g.take (j + 1)) : Nat) : Int) := by rw [htd]; omega
            have hta' := hta hd
            clear hta htd hgall hall hmem
            (replace hta' := Hid.mk hta')
            refine zS (zA tj (zA hg1 (zA hg2 (zA d5 (zA d6 cI))))) ?_
            refine wFs ?_
            refine zS (zA e8 (zA e10 (zA j1 cI))) ?_
            exact ⟨j + 1, And.intro hjl hta'.out, by omega, by simp [subF, lk]⟩
           ·have hb : okD l = false := by
             rw [← Bool.not_eq_true, okD_iff]
             exact fun h => hd (List.all_eq_true.1 h.2.2.2 c hmc)
            rw [parseR_bad hb]
            clear hta htd hall hgall hmem
            by_cases h5 : c.toNat < 48
            ·have d5 : decide ((c.toNat : Int) < 48) = true := decide_eq_true (by omega)
             refine zS (zA tj (zA hg1 (zA hg2 (zA d5 cI)))) ?_
             refine wT ?_
             refine zS cI ?_
             exact W_ret (RetP_2 (.nils _) (.imm rfl))
            ·have d5 : decide ((c.toNat : Int) < 48) = false := decide_eq_false (by omega)
             have d6 : decide ((57 : Int) < c.toNat) = true := decide_eq_true (by
              simp only [isD, Bool.and_eq_true, decide_eq_true_eq] at hd
              omega)
             refine zS (zA tj (zA hg1 (zA hg2 (zA d5 (zA d6 cI))))) ?_
             refine wT ?_
             refine zS cI ?_
             exact W_ret (RetP_2 (.nils _) (.imm rfl))
          ·have dj : decide ((j : Int) < g.length) = false := decide_eq_false (by omega)
           obtain rfl : j = g.length := by omega
           rw [List.take_length] at hgall ⊢
           have u9 : [DV.int .u32 1000000000] = us (limbs 1000000000) := by rw [limbs_one (by decide) (by decide)]; rfl
           have hl9 : (limbs 1000000000).length ≤ 1 := by rw [limbs_one (by decide) (by decide)]; simp
           have hv : dval 0 g < 1000000000 := Nat.lt_of_lt_of_le (dval_lt _ hgall) (Nat.le_trans (Nat.pow_le_pow_right (by decide) (show g.length ≤ 9 by omega)) (by decide))
           have hdl := dval_len hall (m := 4000) (by simp; omega)
           have ct := accD_nMul l i (by omega)
           have cf := nFromUint_calls (dval 0 g) (by omega)
           have hm := len_mul hdl hl9
           have ca := nAddL (dval 0 (l.take i) * 1000000000) (dval 0 g) (by omega) (Nat.le_trans (limbs_len.2 (show dval 0 g < 4294967296 ^ 1 by omega)) (by decide))
           rw [hval] at ca
           have hac : accD l (i + 9) = .sl 1 (us (limbs (dval 0 (l.take (i + 9))))) := by unfold accD; rw [if_neg (by omega)]
           rw [← hac] at ca
           have halle : (l.take (i + 9)).all isD = true := by rw [hseg, List.all_append, hall, hgall]; rfl
           have hacc := accD_cases l i
           clear hval hseg hall hgall hm hdl hl9 hac hmem
           (replace halle := Hid.mk halle)
           rcases hacc with e | ⟨xs, e⟩
           ·rw [e] at ct ⊢
            refine zS (zA dj cI) ?_
            refine W_cond rfl (fun h => by cases h) (fun _ => W_exit ?_)
            repeat (first | refine zQ (zA u9 (zA @us_rfd cI)) ?_ | refine cP ct ?_ | refine cP cf ?_ | refine cP ca ?_ | exact zT)
            exact ⟨(i + 9), And.intro he2 (And.intro halle.out (.inr he5)), by omega, by simp [subF, lk]⟩
           ·rw [e] at ct ⊢
            refine zS (zA dj cI) ?_
            refine W_cond rfl (fun h => by cases h) (fun _ => W_exit ?_)
            repeat (first | refine zQ (zA u9 (zA @us_rfd cI)) ?_ | refine cP ct ?_ | refine cP cf ?_ | refine cP ca ?_ | exact zT)
            exact ⟨(i + 9), And.intro he2 (And.intro halle.out (.inr he5)), by omega, by simp [subF, lk]⟩
       ·have di : decide ((i : Int) = 0) = false := decide_eq_false (by omega)
        have he1 : i < i + 9 := by omega
        have he2 : i + 9 ≤ l.length := by omega
        have he4 : i = 0 ∨ i + 9 - i = 9 := .inr (by omega)
        have he3 : i + 9 - i ≤ 9 := by omega
        have he5 : (l.length - (i + 9)) % 9 = 0 := by omega
        have ei9 : (i : Int) + 9 = ((i + 9 : Nat) : Int) := by omega
        have te : ((i + 9 : Nat) : Int).toNat = i + 9 := Int.toNat_natCast _
        refine zS (zA di (zA ei9 cI)) ?_
        refine wFs ?_
        have hg := seg_len (l := l) (at' := i) (e := (i + 9)) he2
        have hseg := take_seg (l := l) (at' := i) (e := (i + 9)) (Nat.le_of_lt he1)
        have hval := dval_seg (l := l) (at' := i) (e := (i + 9)) (Nat.le_of_lt he1) he2 he4
        have hmem : ∀ c ∈ (l.take (i + 9)).drop i, c ∈ l := fun c h => List.mem_of_mem_take (List.mem_of_mem_drop h)
        refine zS (zA ti (zA te cI)) ?_
        generalize (l.take (i + 9)).drop i = g at *
        have hglen : ((g.map byteD).length) = g.length := List.length_map ..
        refine zS (zA hglen cI) ?_
        refine W_loop (σ := Nat) (fun j => [(0, .str l), (2, accD l i), (3, .bool false), (4, .int .i64 (l.length % 9 : Nat)), (5, .int .i64 i), (6, .int .i64 ((i + 9) : Nat)), (47, .sl 1 (g.map byteD)), (48, .int .i64 g.length), (49, .int .i64 j), (7, .int .u64 (dval 0 (g.take j) : Nat))]) (fun _ => []) (fun j => j ≤ g.length ∧ (g.take j).all isD = true) (fun j => g.length - j) 0 (And.intro (Nat.zero_le _) rfl) ?_ rfl ?_
        ·simp [subF, lk, dval_nil]
        ·rintro j ⟨hj, hgall⟩
         by_cases hjl : j < g.length
         ·have dj : decide ((j : Int) < g.length) = true := decide_eq_true (by omega)
          refine zS (zA dj cI) ?_
          refine wTs ?_
          have tj : (j : Int).toNat = j := Int.toNat_natCast j
          have hg1 := byteD_get hjl
          have hg2 := byteD_get? hjl
          have hta := take_all hjl hgall
          have htd := take_dval hjl
          have hmc := hmem g[j] (List.getElem_mem hjl)
          have hv : dval 0 (g.take j) < 1000000000 := Nat.lt_of_lt_of_le (dval_lt _ hgall) (Nat.le_trans (Nat.pow_le_pow_right (by decide) (show (g.take j).length ≤ 9 by rw [List.length_take]; omega)) (by decide))
          generalize g[j] = c at *
          generalize dval 0 (g.take j) = v at *
          have hk : c.toNat < 256 := UInt8.toNat_lt c
          have j1 : ((j : Int) + 1) = ((j + 1 : Nat) : Int) := by omega
          clear hval hseg
          by_cases hd : isD c = true
          ·have hd' := hd
           simp only [isD, Bool.and_eq_true, decide_eq_true_eq] at hd'
           have d5 : decide ((c.toNat : Int) < 48) = false := decide_eq_false (by omega)
           have d6 : decide ((57 : Int) < c.toNat) = false := decide_eq_false (by omega)
           have e8 : (c.toNat : Int) - 48 = ((c.toNat - 48 : Nat) : Int) := by omega
           have e10 : 10 * (v : Int) + ((c.toNat - 48 : Nat) : Int) = ((dval 0 (g.take (j + 1)) : Nat) : Int) := by rw [htd]; omega
           have hta' := hta hd
           clear hta htd hgall hall hmem
           (replace hta' := Hid.mk hta')
           refine zS (zA tj (zA hg1 (zA hg2 (zA d5 (zA d6 cI))))) ?_
           refine wFs ?_
           refine zS (zA e8 (zA e10 (zA j1 cI))) ?_
           exact ⟨j + 1, And.intro hjl hta'.out, by omega, by simp [subF, lk]⟩
          ·have hb : okD l = false := by
            rw [← Bool.not_eq_true, okD_iff]
            exact fun h => hd (List.all_eq_true.1 h.2.2.2 c hmc)
           rw [parseR_bad hb]
           clear hta htd hall hgall hmem
           by_cases h5 : c.toNat < 48
           ·have d5 : decide ((c.toNat : Int) < 48) = true := decide_eq_true (by omega)
            refine zS (zA tj (zA hg1 (zA hg2 (zA d5 cI)))) ?_
            refine wT ?_
            refine zS cI ?_
            exact W_ret (RetP_2 (.nils _) (.imm rfl))
           ·have d5 : decide ((c.toNat : Int) < 48) = false := decide_eq_false (by omega)
            have d6 : decide ((57 : Int) < c.toNat) = true := decide_eq_true (by
             simp only [isD, Bool.and_eq_true, decide_eq_true_eq] at hd
             omega)
            refine zS (zA tj (zA hg1 (zA hg2 (zA d5 (zA d6 cI))))) ?_
            refine wT ?_
            refine zS cI ?_
            exact W_ret (RetP_2 (.nils _) (.imm rfl))
         ·have dj : decide ((j : Int) < g.length) = false := decide_eq_false (by omega)
          obtain rfl : j = g.length := by omega
          rw [List.take_length] at hgall ⊢
          have u9 : [DV.int .u32 1000000000] = us (limbs 1000000000) := by rw [limbs_one (by decide) (by decide)]; rfl
          have hl9 : (limbs 1000000000).length ≤ 1 := by rw [limbs_one (by decide) (by decide)]; simp
          have hv : dval 0 g < 1000000000 := Nat.lt_of_lt_of_le (dval_lt _ hgall) (Nat.le_trans (Nat.pow_le_pow_right (by decide) (show g.length ≤ 9 by omega)) (by decide))
          have hdl := dval_len hall (m := 4000) (by simp; omega)
          have ct := accD_nMul l i (by omega)
          have cf := nFromUint_calls (dval 0 g) (by omega)
          have hm := len_mul hdl hl9
          have ca := nAddL (dval 0 (l.take i) * 1000000000) (dval 0 g) (by omega) (Nat.le_trans (limbs_len.2 (show dval 0 g < 4294967296 ^ 1 by omega)) (by decide))
          rw [hval] at ca
          have hac : accD l (i + 9) = .sl 1 (us (limbs (dval 0 (l.take (i + 9))))) := by unfold accD; rw [if_neg (by omega)]
          rw [← hac] at ca
          have halle : (l.take (i + 9)).all isD = true := by rw [hseg, List.all_append, hall, hgall]; rfl
          have hacc := accD_cases l i
          clear hval hseg hall hgall hm hdl hl9 hac hmem
          (replace halle := Hid.mk halle)
          rcases hacc with e | ⟨xs, e⟩
          ·rw [e] at ct ⊢
           refine zS (zA dj cI) ?_
           refine W_cond rfl (fun h => by cases h) (fun _ => W_exit ?_)
           repeat (first | refine zQ (zA u9 (zA @us_rfd cI)) ?_ | refine cP ct ?_ | refine cP cf ?_ | refine cP ca ?_ | exact zT)
           exact ⟨(i + 9), And.intro he2 (And.intro halle.out (.inr he5)), by omega, by simp [subF, lk]⟩
          ·rw [e] at ct ⊢
           refine zS (zA dj cI) ?_
           refine W_cond rfl (fun h => by cases h) (fun _ => W_exit ?_)
           repeat (first | refine zQ (zA u9 (zA @us_rfd cI)) ?_ | refine cP ct ?_ | refine cP cf ?_ | refine cP ca ?_ | exact zT)
           exact ⟨(i + 9), And.intro he2 (And.intro halle.out (.inr he5)), by omega, by simp [subF, lk]⟩
      ·have hil : i = l.length := by omega
       subst hil
       have dl : decide ((l.length : Int) < l.length) = false := decide_eq_false (by omega)
       rw [List.take_length] at hall
       have hb : okD l = true := (okD_iff l).2 ⟨hn, by omega, hz, hall⟩
       have hr : parseR l = .tup [.sl 1 (us (limbs (dval 0 l))), .bool true] := by unfold parseR; rw [hb]; rfl
       have hac : accD l l.length = .sl 1 (us (limbs (dval 0 l))) := by unfold accD; rw [if_neg (by omega), List.take_length]
       rw [hr, hac]
       refine zS (zA dl cI) ?_
       refine W_cond rfl (fun h => by cases h) (fun _ => W_exit ?_)
       refine zS cI ?_
       exact W_ret (RetP_2 (.imm rfl) (.imm rfl))
   ·have d2 : decide ((((l.getD 0 0).toNat : Nat) : Int) = 48) = false := decide_eq_false (by omega)
    have hz : ¬ (l.head? = some 48 ∧ 1 < l.length) := fun h => h48 (by
     cases l with
     | nil => exact absurd rfl hn
     | cons c r =>
      have h1 := h.1
      rw [List.head?_cons, Option.some.injEq] at h1
      rw [List.getD_cons_zero, h1]; rfl)
    refine zS (zA dn (zA d4 (zA e0 (zA ebd (zA d2 cI))))) ?_
    refine wFs ?_
    clear d2 ebd h48
    have r9 : ((l.length : Int).tmod 9) = ((l.length % 9 : Nat) : Int) := by
     rw [Int.tmod_eq_emod_of_nonneg (by omega)]; omega
    refine zS (zA r9 cI) ?_
    refine W_loop (σ := Nat) (fun i => [(0, .str l), (2, accD l i), (3, .bool false), (4, .int .i64 (l.length % 9 : Nat)), (5, .int .i64 i)]) (fun _ => []) (fun i => i ≤ l.length ∧ (l.take i).all isD = true ∧ (i = 0 ∨ (l.length - i) % 9 = 0)) (fun i => l.length - i) 0 (And.intro (Nat.zero_le _) (And.intro rfl (.inl rfl))) ?_ rfl ?_
    ·simp [subF, lk, accD]
    ·rintro i ⟨hi, hall, h9⟩
     by_cases hlt : i < l.length
     ·have dl : decide ((i : Int) < l.length) = true := decide_eq_true (by omega)
      refine zS (zA dl cI) ?_
      refine wTs ?_
      have ti : (i : Int).toNat = i := Int.toNat_natCast i
      by_cases hi0 : i = 0
      ·have di : decide ((i : Int) = 0) = true := decide_eq_true (by omega)
       by_cases hf : 0 < l.length % 9
       ·have df : decide ((0 : Int) < (l.length % 9 : Nat)) = true := decide_eq_true (by omega)
        have he1 : i < l.length % 9 := by omega
        have he2 : l.length % 9 ≤ l.length := Nat.mod_le _ _
        have he4 : i = 0 ∨ l.length % 9 - i = 9 := .inl hi0
        have he3 : l.length % 9 - i ≤ 9 := by omega
        have he5 : (l.length - l.length % 9) % 9 = 0 := by omega
        have te : ((l.length % 9 : Nat) : Int).toNat = l.length % 9 := Int.toNat_natCast _
        refine zS (zA di (zA df cI)) ?_
        refine wT ?_
        have hg := seg_len (l := l) (at' := i) (e := (l.length % 9)) he2
        have hseg := take_seg (l := l) (at' := i) (e := (l.length % 9)) (Nat.le_of_lt he1)
        have hval := dval_seg (l := l) (at' := i) (e := (l.length % 9)) (Nat.le_of_lt he1) he2 he4
        have hmem : ∀ c ∈ (l.take (l.length % 9)).drop i, c ∈ l := fun c h => List.mem_of_mem_take (List.mem_of_mem_drop h)
        refine zS (zA ti (zA te cI)) ?_
        generalize (l.take (l.length % 9)).drop i = g at *
        have hglen : ((g.map byteD).length) = g.length := List.length_map ..
        refine zS (zA hglen cI) ?_
        refine W_loop (σ := Nat) (fun j => [(0, .str l), (2, accD l i), (3, .bool false), (4, .int .i64 (l.length % 9 : Nat)), (5, .int .i64 i), (6, .int .i64 ((l.length % 9) : Nat)), (47, .sl 1 (g.map byteD)), (48, .int .i64 g.length), (49, .int .i64 j), (7, .int .u64 (dval 0 (g.take j) : Nat))]) (fun _ => []) (fun j => j ≤ g.length ∧ (g.take j).all isD = true) (fun j => g.length - j) 0 (And.intro (Nat.zero_le _) rfl) ?_ rfl ?_
        ·simp [subF, lk, dval_nil]
        ·rintro j ⟨hj, hgall⟩
         by_cases hjl : j < g.length
         ·have dj : decide ((j : Int) < g.length) = true := decide_eq_true (by omega)
          refine zS (zA dj cI) ?_
          refine wTs ?_
          have tj : (j : Int).toNat = j := Int.toNat_natCast j
          have hg1 := byteD_get hjl
          have hg2 := byteD_get? hjl
          have hta := take_all hjl hgall
          have htd := take_dval hjl
          have hmc := hmem g[j] (List.getElem_mem hjl)
          have hv : dval 0 (g.take j) < 1000000000 := Nat.lt_of_lt_of_le (dval_lt _ hgall) (Nat.le_trans (Nat.pow_le_pow_right (by decide) (show (g.take j).length ≤ 9 by rw [List.length_take]; omega)) (by decide))
          generalize g[j] = c at *
          generalize dval 0 (g.take j) = v at *
          have hk : c.toNat < 256 := UInt8.toNat_lt c
          have j1 : ((j : Int) + 1) = ((j + 1 : Nat) : Int) := by omega
          clear hval hseg
          by_cases hd : isD c = true
          ·have hd' := hd
           simp only [isD, Bool.and_eq_true, decide_eq_true_eq] at hd'
           have d5 : decide ((c.toNat : Int) < 48) = false := decide_eq_false (by omega)
           have d6 : decide ((57 : Int) < c.toNat) = false := decide_eq_false (by omega)
           have e8 : (c.toNat : Int) - 48 = ((c.toNat - 48 : Nat) : Int) := by omega
           have e10 : 10 * (v : Int) + ((c.toNat - 48 : Nat) : Int) = ((dval 0 (g.take (j + 1)) : Nat) : Int) := by rw [htd]; omega
           have hta' := hta hd
           clear hta htd hgall hall hmem
           (replace hta' := Hid.mk hta')
           refine zS (zA tj (zA hg1 (zA hg2 (zA d5 (zA d6 cI))))) ?_
           refine wFs ?_
           refine zS (zA e8 (zA e10 (zA j1 cI))) ?_
           exact ⟨j + 1, And.intro hjl hta'.out, by omega, by simp [subF, lk]⟩
          ·have hb : okD l = false := by
            rw [← Bool.not_eq_true, okD_iff]
            exact fun h => hd (List.all_eq_true.1 h.2.2.2 c hmc)
           rw [parseR_bad hb]
           clear hta htd hall hgall hmem
           by_cases h5 : c.toNat < 48
           ·have d5 : decide ((c.toNat : Int) < 48) = true := decide_eq_true (by omega)
            refine zS (zA tj (zA hg1 (zA hg2 (zA d5 cI)))) ?_
            refine wT ?_
            refine zS cI ?_
            exact W_ret (RetP_2 (.nils _) (.imm rfl))
           ·have d5 : decide ((c.toNat : Int) < 48) = false := decide_eq_false (by omega)
            have d6 : decide ((57 : Int) < c.toNat) = true := decide_eq_true (by
             simp only [isD, Bool.and_eq_true, decide_eq_true_eq] at hd
             omega)
            refine zS (zA tj (zA hg1 (zA hg2 (zA d5 (zA d6 cI))))) ?_
            refine wT ?_
            refine zS cI ?_
            exact W_ret (RetP_2 (.nils _) (.imm rfl))
         ·have dj : decide ((j : Int) < g.length) = false := decide_eq_false (by omega)
          obtain rfl : j = g.length := by omega
          rw [List.take_length] at hgall ⊢
          have u9 : [DV.int .u32 1000000000] = us (limbs 1000000000) := by rw [limbs_one (by decide) (by decide)]; rfl
          have hl9 : (limbs 1000000000).length ≤ 1 := by rw [limbs_one (by decide) (by decide)]; simp
          have hv : dval 0 g < 1000000000 := Nat.lt_of_lt_of_le (dval_lt _ hgall) (Nat.le_trans (Nat.pow_le_pow_right (by decide) (show g.length ≤ 9 by omega)) (by decide))
          have hdl := dval_len hall (m := 4000) (by simp; omega)
          have ct := accD_nMul l i (by omega)
          have cf := nFromUint_calls (dval 0 g) (by omega)
          have hm := len_mul hdl hl9
          have ca := nAddL (dval 0 (l.take i) * 1000000000) (dval 0 g) (by omega) (Nat.le_trans (limbs_len.2 (show dval 0 g < 4294967296 ^ 1 by omega)) (by decide))
          rw [hval] at ca
          have hac : accD l (l.length % 9) = .sl 1 (us (limbs (dval 0 (l.take (l.length % 9))))) := by unfold accD; rw [if_neg (by omega)]
          rw [← hac] at ca
          have halle : (l.take (l.length % 9)).all isD = true := by rw [hseg, List.all_append, hall, hgall]; rfl
          have hacc := accD_cases l i
          clear hval hseg hall hgall hm hdl hl9 hac hmem
          (replace halle := Hid.mk halle)
          rcases hacc with e | ⟨xs, e⟩
          ·rw [e] at ct ⊢
           refine zS (zA dj cI) ?_
           refine W_cond rfl (fun h => by cases h) (fun _ => W_exit ?_)
           repeat (first | refine zQ (zA u9 (zA @us_rfd cI)) ?_ | refine cP ct ?_ | refine cP cf ?_ | refine cP ca ?_ | exact zT)
           exact ⟨(l.length % 9), And.intro he2 (And.intro halle.out (.inr he5)), by omega, by simp [subF, lk]⟩
          ·rw [e] at ct ⊢
           refine zS (zA dj cI) ?_
           refine W_cond rfl (fun h => by cases h) (fun _ => W_exit ?_)
           repeat (first | refine zQ (zA u9 (zA @us_rfd cI)) ?_ | refine cP ct ?_ | refine cP cf ?_ | refine cP ca ?_ | exact zT)
           exact ⟨(l.length % 9), And.intro he2 (And.intro halle.out (.inr he5)), by omega, by simp [subF, lk]⟩
       ·have df : decide ((0 : Int) < (l.length % 9 : Nat)) = false := decide_eq_false (by omega)
        have he1 : i < i + 9 := by omega
        have he2 : i + 9 ≤ l.length := by omega
        have he4 : i = 0 ∨ i + 9 - i = 9 := .inl hi0
        have he3 : i + 9 - i ≤ 9 := by omega
        have he5 : (l.length - (i + 9)) % 9 = 0 := by omega
        have ei9 : (i : Int) + 9 = ((i + 9 : Nat) : Int) := by omega
        have te : ((i + 9 : Nat) : Int).toNat = i + 9 := Int.toNat_natCast _
        refine zS (zA di (zA df (zA ei9 cI))) ?_
        refine wFs ?_
        have hg := seg_len (l := l) (at' := i) (e := (i + 9)) he2
        have hseg := take_seg (l := l) (at' := i) (e := (i + 9)) (Nat.le_of_lt he1)
        have hval := dval_seg (l := l) (at' := i) (e := (i + 9)) (Nat.le_of_lt he1) he2 he4
        have hmem : ∀ c ∈ (l.take (i + 9)).drop i, c ∈ l := fun c h => List.mem_of_mem_take (List.mem_of_mem_drop h)
        refine zS (zA ti (zA te cI)) ?_
        generalize (l.take (i + 9)).drop i = g at *
        have hglen : ((g.map byteD).length) = g.length := List.length_map ..
        refine zS (zA hglen cI) ?_
        refine W_loop (σ := Nat) (fun j => [(0, .str l), (2, accD l i), (3, .bool false), (4, .int .i64 (l.length % 9 : Nat)), (5, .int .i64 i), (6, .int .i64 ((i + 9) : Nat)), (47, .sl 1 (g.map byteD)), (48, .int .i64 g.length), (49, .int .i64 j), (7, .int .u64 (dval 0 (g.take j) : Nat))]) (fun _ => []) (fun j => j ≤ g.length ∧ (g.take j).all isD = true) (fun j => g.length - j) 0 (And.intro (Nat.zero_le _) rfl) ?_ rfl ?_
        ·simp [subF, lk, dval_nil]
        ·rintro j ⟨hj, hgall⟩
         by_cases hjl : j < g.length
         ·have dj : decide ((j : Int) < g.length) = true := decide_eq_true (by omega)
          refine zS (zA dj cI) ?_
          refine wTs ?_
          have tj : (j : Int).toNat = j := Int.toNat_natCast j
          have hg1 := byteD_get hjl
          have hg2 := byteD_get? hjl
          have hta := take_all hjl hgall
          have htd := take_dval hjl
          have hmc := hmem g[j] (List.getElem_mem hjl)
          have hv : dval 0 (g.take j) < 1000000000 := Nat.lt_of_lt_of_le (dval_lt _ hgall) (Nat.le_trans (Nat.pow_le_pow_right (by decide) (show (g.take j).length ≤ 9 by rw [List.length_take]; omega)) (by decide))
          generalize g[j] = c at *
          generalize dval 0 (g.take j) = v at *
          have hk : c.toNat < 256 := UInt8.toNat_lt c
          have j1 : ((j : Int) + 1) = ((j + 1 : Nat) : Int) := by omega
          clear hval hseg
          by_cases hd : isD c = true
          ·have hd' := hd
           simp only [isD, Bool.and_eq_true, decide_eq_true_eq] at hd'
           have d5 : decide ((c.toNat : Int) < 48) = false := decide_eq_false (by omega)
           have d6 : decide ((57 : Int) < c.toNat) = false := decide_eq_false (by omega)
           have e8 : (c.toNat : Int) - 48 = ((c.toNat - 48 : Nat) : Int) := by omega
           have e10 : 10 * (v : Int) + ((c.toNat - 48 : Nat) : Int) = ((dval 0 (g.take (j + 1)) : Nat) : Int) := by rw [htd]; omega
           have hta' := hta hd
           clear hta htd hgall hall hmem
           (replace hta' := Hid.mk hta')
           refine zS (zA tj (zA hg1 (zA hg2 (zA d5 (zA d6 cI))))) ?_
           refine wFs ?_
           refine zS (zA e8 (zA e10 (zA j1 cI))) ?_
           exact ⟨j + 1, And.intro hjl hta'.out, by omega, by simp [subF, lk]⟩
          ·have hb : okD l = false := by
            rw [← Bool.not_eq_true, okD_iff]
            exact fun h => hd (List.all_eq_true.1 h.2.2.2 c hmc)
           rw [parseR_bad hb]
           clear hta htd hall hgall hmem
           by_cases h5 : c.toNat < 48
           ·have d5 : decide ((c.toNat : Int) < 48) = true := decide_eq_true (by omega)
            refine zS (zA tj (zA hg1 (zA hg2 (zA d5 cI)))) ?_
            refine wT ?_
            refine zS cI ?_
            exact W_ret (RetP_2 (.nils _) (.imm rfl))
           ·have d5 : decide ((c.toNat : Int) < 48) = false := decide_eq_false (by omega)
            have d6 : decide ((57 : Int) < c.toNat) = true := decide_eq_true (by
             simp only [isD, Bool.and_eq_true, decide_eq_true_eq] at hd
             omega)
            refine zS (zA tj (zA hg1 (zA hg2 (zA d5 (zA d6 cI))))) ?_
            refine wT ?_
            refine zS cI ?_
            exact W_ret (RetP_2 (.nils _) (.imm rfl))
         ·have dj : decide ((j : Int) < g.length) = false := decide_eq_false (by omega)
          obtain rfl : j = g.length := by omega
          rw [List.take_length] at hgall ⊢
          have u9 : [DV.int .u32 1000000000] = us (limbs 1000000000) := by rw [limbs_one (by decide) (by decide)]; rfl
          have hl9 : (limbs 1000000000).length ≤ 1 := by rw [limbs_one (by decide) (by decide)]; simp
          have hv : dval 0 g < 1000000000 := Nat.lt_of_lt_of_le (dval_lt _ hgall) (Nat.le_trans (Nat.pow_le_pow_right (by decide) (show g.length ≤ 9 by omega)) (by decide))
          have hdl := dval_len hall (m := 4000) (by simp; omega)
          have ct := accD_nMul l i (by omega)
          have cf := nFromUint_calls (dval 0 g) (by omega)
          have hm := len_mul hdl hl9
          have ca := nAddL (dval 0 (l.take i) * 1000000000) (dval 0 g) (by omega) (Nat.le_trans (limbs_len.2 (show dval 0 g < 4294967296 ^ 1 by omega)) (by decide))
          rw [hval] at ca
          have hac : accD l (i + 9) = .sl 1 (us (limbs (dval 0 (l.take (i + 9))))) := by unfold accD; rw [if_neg (by omega)]
          rw [← hac] at ca
          have halle : (l.take (i + 9)).all isD = true := by rw [hseg, List.all_append, hall, hgall]; rfl
          have hacc := accD_cases l i
          clear hval hseg hall hgall hm hdl hl9 hac hmem
          (replace halle := Hid.mk halle)
          rcases hacc with e | ⟨xs, e⟩
          ·rw [e] at ct ⊢
           refine zS (zA dj cI) ?_
           refine W_cond rfl (fun h => by cases h) (fun _ => W_exit ?_)
           repeat (first | refine zQ (zA u9 (zA @us_rfd cI)) ?_ | refine cP ct ?_ | refine cP cf ?_ | refine cP ca ?_ | exact zT)
           exact ⟨(i + 9), And.intro he2 (And.intro halle.out (.inr he5)), by omega, by simp [subF, lk]⟩
          ·rw [e] at ct ⊢
           refine zS (zA dj cI) ?_
           refine W_cond rfl (fun h => by cases h) (fun _ => W_exit ?_)
           repeat (first | refine zQ (zA u9 (zA @us_rfd cI)) ?_ | refine cP ct ?_ | refine cP cf ?_ | refine cP ca ?_ | exact zT)
           exact ⟨(i + 9), And.intro he2 (And.intro halle.out (.inr he5)), by omega, by simp [subF, lk]⟩
      ·have di : decide ((i : Int) = 0) = false := decide_eq_false (by omega)
       have he1 : i < i + 9 := by omega
       have he2 : i + 9 ≤ l.length := by omega
       have he4 : i = 0 ∨ i + 9 - i = 9 := .inr (by omega)
       have he3 : i + 9 - i ≤ 9 := by omega
       have he5 : (l.length - (i + 9)) % 9 = 0 := by omega
       have ei9 : (i : Int) + 9 = ((i + 9 : Nat) : Int) := by omega
       have te : ((i + 9 : Nat) : Int).toNat = i + 9 := Int.toNat_natCast _
       refine zS (zA di (zA ei9 cI)) ?_
       refine wFs ?_
       have hg := seg_len (l := l) (at' := i) (e := (i + 9)) he2
       have hseg := take_seg (l := l) (at' := i) (e := (i + 9)) (Nat.le_of_lt he1)
       have hval := dval_seg (l := l) (at' := i) (e := (i + 9)) (Nat.le_of_lt he1) he2 he4
       have hmem : ∀ c ∈ (l.take (i + 9)).drop i, c ∈ l := fun c h => List.mem_of_mem_take (List.mem_of_mem_drop h)
       refine zS (zA ti (zA te cI)) ?_
       generalize (l.take (i + 9)).drop i = g at *
       have hglen : ((g.map byteD).length) = g.length := List.length_map ..
       refine zS (zA hglen cI) ?_
       refine W_loop (σ := Nat) (fun j => [(0, .str l), (2, accD l i), (3, .bool false), (4, .int .i64 (l.length % 9 : Nat)), (5, .int .i64 i), (6, .int .i64 ((i + 9) : Nat)), (47, .sl 1 (g.map byteD)), (48, .int .i64 g.length), (49, .int .i64 j), (7, .int .u64 (dval 0 (g.take j) : Nat))]) (fun _ => []) (fun j => j ≤ g.length ∧ (g.take j).all isD = true) (fun j => g.length - j) 0 (And.intro (Nat.zero_le _) rfl) ?_ rfl ?_
       ·simp [subF, lk, dval_nil]
       ·rintro j ⟨hj, hgall⟩
        by_cases hjl : j < g.length
        ·have dj : decide ((j : Int) < g.length) = true := decide_eq_true (by omega)
         refine zS (zA dj cI) ?_
         refine wTs ?_
         have tj : (j : Int).toNat = j := Int.toNat_natCast j
         have hg1 := byteD_get hjl
         have hg2 := byteD_get? hjl
         have hta := take_all hjl hgall
         have htd := take_dval hjl
         have hmc := hmem g[j] (List.getElem_mem hjl)
         have hv : dval 0 (g.take j) < 1000000000 := Nat.lt_of_lt_of_le (dval_lt _ hgall) (Nat.le_trans (Nat.pow_le_pow_right (by decide) (show (g.take j).length ≤ 9 by rw [List.length_take]; omega)) (by decide))
         generalize g[j] = c at *
         generalize dval 0 (g.take j) = v at *
         have hk : c.toNat < 256 := UInt8.toNat_lt c
         have j1 : ((j : Int) + 1) = ((j + 1 : Nat) : Int) := by omega
         clear hval hseg
         by_cases hd : isD c = true
         ·have hd' := hd
          simp only [isD, Bool.and_eq_true, decide_eq_true_eq] at hd'
          have d5 : decide ((c.toNat : Int) < 48) = false := decide_eq_false (by omega)
          have d6 : decide ((57 : Int) < c.toNat) = false := decide_eq_false (by omega)
          have e8 : (c.toNat : Int) - 48 = ((c.toNat - 48 : Nat) : Int) := by omega
          have e10 : 10 * (v : Int) + ((c.toNat - 48 : Nat) : Int) = ((dval 0 (g.take (j + 1)) : Nat) : Int) := by rw [htd]; omega
          have hta' := hta hd
          clear hta htd hgall hall hmem
          (replace hta' := Hid.mk hta')
          refine zS (zA tj (zA hg1 (zA hg2 (zA d5 (zA d6 cI))))) ?_
          refine wFs ?_
          refine zS (zA e8 (zA e10 (zA j1 cI))) ?_
          exact ⟨j + 1, And.intro hjl hta'.out, by omega, by simp [subF, lk]⟩
         ·have hb : okD l = false := by
           rw [← Bool.not_eq_true, okD_iff]
           exact fun h => hd (List.all_eq_true.1 h.2.2.2 c hmc)
          rw [parseR_bad hb]
          clear hta htd hall hgall hmem
          by_cases h5 : c.toNat < 48
          ·have d5 : decide ((c.toNat : Int) < 48) = true := decide_eq_true (by omega)
           refine zS (zA tj (zA hg1 (zA hg2 (zA d5 cI)))) ?_
           refine wT ?_
           refine zS cI ?_
           exact W_ret (RetP_2 (.nils _) (.imm rfl))
          ·have d5 : decide ((c.toNat : Int) < 48) = false := decide_eq_false (by omega)
           have d6 : decide ((57 : Int) < c.toNat) = true := decide_eq_true (by
            simp only [isD, Bool.and_eq_true, decide_eq_true_eq] at hd
            omega)
           refine zS (zA tj (zA hg1 (zA hg2 (zA d5 (zA d6 cI))))) ?_
           refine wT ?_
           refine zS cI ?_
           exact W_ret (RetP_2 (.nils _) (.imm rfl))
        ·have dj : decide ((j : Int) < g.length) = false := decide_eq_false (by omega)
         obtain rfl : j = g.length := by omega
         rw [List.take_length] at hgall ⊢
         have u9 : [DV.int .u32 1000000000] = us (limbs 1000000000) := by rw [limbs_one (by decide) (by decide)]; rfl
         have hl9 : (limbs 1000000000).length ≤ 1 := by rw [limbs_one (by decide) (by decide)]; simp
         have hv : dval 0 g < 1000000000 := Nat.lt_of_lt_of_le (dval_lt _ hgall) (Nat.le_trans (Nat.pow_le_pow_right (by decide) (show g.length ≤ 9 by omega)) (by decide))
         have hdl := dval_len hall (m := 4000) (by simp; omega)
         have ct := accD_nMul l i (by omega)
         have cf := nFromUint_calls (dval 0 g) (by omega)
         have hm := len_mul hdl hl9
         have ca := nAddL (dval 0 (l.take i) * 1000000000) (dval 0 g) (by omega) (Nat.le_trans (limbs_len.2 (show dval 0 g < 4294967296 ^ 1 by omega)) (by decide))
         rw [hval] at ca
         have hac : accD l (i + 9) = .sl 1 (us (limbs (dval 0 (l.take (i + 9))))) := by unfold accD; rw [if_neg (by omega)]
         rw [← hac] at ca
         have halle : (l.take (i + 9)).all isD = true := by rw [hseg, List.all_append, hall, hgall]; rfl
         have hacc := accD_cases l i
         clear hval hseg hall hgall hm hdl hl9 hac hmem
         (replace halle := Hid.mk halle)
         rcases hacc with e | ⟨xs, e⟩
         ·rw [e] at ct ⊢
          refine zS (zA dj cI) ?_
          refine W_cond rfl (fun h => by cases h) (fun _ => W_exit ?_)
          repeat (first | refine zQ (zA u9 (zA @us_rfd cI)) ?_ | refine cP ct ?_ | refine cP cf ?_ | refine cP ca ?_ | exact zT)
          exact ⟨(i + 9), And.intro he2 (And.intro halle.out (.inr he5)), by omega, by simp [subF, lk]⟩
         ·rw [e] at ct ⊢
          refine zS (zA dj cI) ?_
          refine W_cond rfl (fun h => by cases h) (fun _ => W_exit ?_)
          repeat (first | refine zQ (zA u9 (zA @us_rfd cI)) ?_ | refine cP ct ?_ | refine cP cf ?_ | refine cP ca ?_ | exact zT)
          exact ⟨(i + 9), And.intro he2 (And.intro halle.out (.inr he5)), by omega, by simp [subF, lk]⟩
     ·have hil : i = l.length := by omega
      subst hil
      have dl : decide ((l.length : Int) < l.length) = false := decide_eq_false (by omega)
      rw [List.take_length] at hall
      have hb : okD l = true := (okD_iff l).2 ⟨hn, by omega, hz, hall⟩
      have hr : parseR l = .tup [.sl 1 (us (limbs (dval 0 l))), .bool true] := by unfold parseR; rw [hb]; rfl
      have hac : accD l l.length = .sl 1 (us (limbs (dval 0 l))) := by unfold accD; rw [if_neg (by omega), List.take_length]
      rw [hr, hac]
      refine zS (zA dl cI) ?_
      refine W_cond rfl (fun h => by cases h) (fun _ => W_exit ?_)
      refine zS cI ?_
      exact W_ret (RetP_2 (.imm rfl) (.imm rfl))
end Go.Proofs.YtjfedgpbedppeaaGreatDoor
namespace Go.Proofs.YtjfedgpbedppeaaGreatDoor
open Go Go.Dat Go.Proofs Nat32
open Go.Lib (decDigits)
def fmtI (z : Int) : List UInt8 := if z < 0 then 45 :: decDigits z.natAbs else decDigits z.natAbs
theorem iFormat_calls (neg : Bool) (a : List Nat) (ha : a.length ≤ 900) (la : lim a) : PCalls Tryz.prog 62 [X neg a] (.str (fmtI (iv neg a))) := by
 have cv := i_value_calls neg a (by omega) la
 have cg := iSign_calls neg a (by omega) la
 have l1 := iv_len la neg
 generalize iv neg a = z at *
 have cf := nFormat_calls (limbs z.natAbs) (by omega) (lim_limbs _)
 rw [vn_limbs] at cf
 have hd := dd_limbs (Nat.le_trans l1 ha)
 unfold fmtI
 generalize decDigits z.natAbs = D at *
 refine PCalls_of isiFormat (by simp [fniFormat]) ?_
 unfold codeiFormat
 repeat (first | refine zQ (zA @X.eq_1 (zA @I.eq_1 (zA @cS (zA @nbiFormat cI)))) ?_ | refine cP cv ?_ | refine cP cf ?_ | refine cP cg ?_ | exact zT)
 by_cases hz : z < 0
 ·have ds : decide (z.sign < 0) = true := by rw [Int.sign_eq_neg_one_of_neg hz]; decide
  rw [ds, if_pos hz]
  refine wT ?_
  have e : [(45 : UInt8)] ++ D = 45 :: D := rfl
  refine zS (zA e (zA @List.length_singleton.{0} cI)) ?_
  exact W_ret (RetP_1 (.imm rfl))
 ·have ds : decide (z.sign < 0) = false := decide_eq_false (by have := Int.sign_nonneg_iff.2 (show 0 ≤ z by omega); omega)
  rw [ds, if_neg hz]
  refine wFs ?_
  refine zS cI ?_
  exact W_ret (RetP_1 (.imm rfl))
theorem sFormat_calls (neg : Bool) (a : List Nat) (ha : a.length ≤ 900) (la : lim a) : PCalls Tryz.prog 65 [X neg a] (.str (fmtI (iv neg a))) := by
 have cv := sTake_calls neg a (by omega) la
 have l1 := iv_len la neg
 generalize iv neg a = z at *
 have cf := rFormat_calls (limbs z.natAbs) (by omega) (lim_limbs _)
 rw [vn_limbs] at cf
 have hd := dd_limbs (Nat.le_trans l1 ha)
 unfold fmtI
 generalize decDigits z.natAbs = D at *
 refine PCalls_of issFormat (by simp [fnsFormat]) ?_
 unfold codesFormat
 repeat (first | refine zQ (zA @X.eq_1 (zA @I.eq_1 (zA @cS (zA @nbsFormat cI)))) ?_ | refine cP cv ?_ | exact zT)
 by_cases hz : z < 0
 ·have ds : decide (z < 0) = true := decide_eq_true hz
  rw [ds, if_pos hz]
  refine wT ?_
  have e : [(45 : UInt8)] ++ D = 45 :: D := rfl
  repeat (first | refine zQ (zA @cS (zA e (zA @List.length_singleton.{0} cI))) ?_ | refine cP cf ?_ | exact zT)
 ·have ds : decide (z < 0) = false := decide_eq_false hz
  rw [ds, if_neg hz]
  refine wFs ?_
  repeat (first | refine zQ (zA @cS cI) ?_ | refine cP cf ?_ | exact zT)
end Go.Proofs.YtjfedgpbedppeaaGreatDoor
namespace Go.Proofs.YtjfedgpbedppeaaGreatDoor
open Go Go.Dat Go.Proofs Nat32 Go.RowKit
open Go.Lib (decDigits)
theorem islIndex1 (l : List UInt8) (c : UInt8) : PCalls Tryz.prog 180 [.str l, .str [c]] (.int .i64 (idx (isC c) l)) :=
 PCalls_str2 (fun _ _ => .int _ _) fun w => (Tryz.stringslite_Index_one ⟨l.toArray⟩ c w).mono fun e w' h => ⟨by rw [h.1, indexByte_idx], by rw [h.2]; exact Below.refl _ _⟩
theorem cutPrefixD (l : List UInt8) : PCalls Tryz.prog 45 [.str l, .str [45]] (.tup [.str (expD l), .bool (decide (l.head? = some 45))]) :=
 PCalls_str2 (fun _ _ => VI_strbool _ _) fun w => (Tryz.strings_CutPrefix ⟨l.toArray⟩ ⟨[45].toArray⟩ w).mono fun e w' h => ⟨by rw [h.1, ← trimPrefix45, ← hasPrefix45], by rw [h.2]; exact Below.refl _ _⟩
theorem trimLeftD (l : List UInt8) : PCalls Tryz.prog 168 [.str l, .str [48]] (.str (Lib.trimLeftB l 48)) :=
 PCalls_str2 (fun _ _ => .str _) fun w => (Tryz.strings_TrimLeft_one ⟨l.toArray⟩ 48 (by decide) w).mono fun e w' h => ⟨h.1, by rw [h.2]; exact Below.refl _ _⟩
def A7 (l : List UInt8) : Prop := (∀ b ∈ l, b.toNat < 128) ∨ 8 < l.length
theorem indexAnyD (l : List UInt8) (h7 : A7 l) (hl : l.length ≤ 100000) : PCalls Tryz.prog 126 [.str l, .str [101, 69]] (.int .i64 (idx isE l)) := by
 have hc : ∀ (j : Nat) b, ([101, 69] : List UInt8)[j]? = some b → b.toNat < 128 := fun j b hb => by
  have := List.mem_of_getElem? hb
  simp at this
  rcases this with rfl | rfl <;> decide
 have hz : (⟨l.toArray⟩ : ByteArray).size = l.length := by simp [ByteArray.size]
 rcases h7 with ha | h8
 ·exact PCalls_str2 (fun _ _ => .int _ _) fun w => (Tryz.strings_IndexAny_laid ⟨l.toArray⟩ ⟨[101, 69].toArray⟩ w (by omega) (by decide) (fun j b hb => ha b (List.mem_of_getElem? hb)) hc).mono fun e w' h => ⟨by rw [h.1, ← indexAny_idx], h.2⟩
 ·refine PCalls_str2 (fun _ _ => .int _ _) fun w => (Tryz.strings_IndexAny_long (zero_of_info (n := 256) (by kernel_rfl)).1 ⟨l.toArray⟩ ⟨[101, 69].toArray⟩ w (by decide) (by omega) (by omega) (by decide) hc).mono fun e w' h => ⟨by rw [h.1, ← indexAny_idx], ?_⟩
  rw [h.2]
  exact ((Below.refl _ _).alloc (Nat.le_refl _) _).alloc (by simp) _
def cutR (p : UInt8 → Bool) (l : List UInt8) : DV := if fi p l < l.length then .tup [.str (l.take (fi p l)), .str (l.drop (fi p l + 1)), .bool true] else .tup [.str l, .str [], .bool false]
theorem islCut_calls (l : List UInt8) (c : UInt8) (hl : l.length ≤ 100000) : PCalls Tryz.prog 162 [.str l, .str [c]] (cutR (isC c) l) := by
 have ci := islIndex1 l c
 have hge := idx_ge (isC c) l
 refine PCalls_of isislCut (by simp [fnislCut]) ?_
 unfold codeislCut cutR
 by_cases h : fi (isC c) l < l.length
 ·rw [if_pos h]
  rw [decide_eq_true h] at hge
  rw [idx_of h] at ci hge
  generalize fi (isC c) l = i at *
  have e1 : ((i : Int) + ((1 : Nat) : Int)).toNat = i + 1 := by omega
  have e2 : (l.take l.length).drop (i + 1) = l.drop (i + 1) := by rw [List.take_length]
  have e3 : (l.take i).drop 0 = l.take i := rfl
  repeat (first | refine zQ (zA hge cI) ?_ | refine cP ci ?_ | exact zT)
  refine wT ?_
  refine zS (zA e1 (zA e2 (zA e3 (zA @List.length_singleton.{0} (zA @List.take_length.{0} cI))))) ?_
  exact W_ret (RetP_3 (.imm rfl) (.imm rfl) (.imm rfl))
 ·rw [if_neg h]
  rw [decide_eq_false h] at hge
  repeat (first | refine zQ (zA hge cI) ?_ | refine cP ci ?_ | exact zT)
  refine wFs ?_
  refine zS cI ?_
  exact W_ret (RetP_3 (.imm rfl) (.imm rfl) (.imm rfl))
theorem strCut_calls (l : List UInt8) (c : UInt8) (hl : l.length ≤ 100000) : PCalls Tryz.prog 124 [.str l, .str [c]] (cutR (isC c) l) := by
 have ci := islCut_calls l c hl
 refine PCalls_of isstrCut (by simp [fnstrCut]) ?_
 unfold codestrCut
 unfold cutR at ci ⊢
 by_cases h : fi (isC c) l < l.length
 ·rw [if_pos h] at ci ⊢
  repeat (first | refine zQ cI ?_ | refine cP ci ?_ | exact zT)
  exact W_ret (RetP_3 (.imm rfl) (.imm rfl) (.imm rfl))
 ·rw [if_neg h] at ci ⊢
  repeat (first | refine zQ cI ?_ | refine cP ci ?_ | exact zT)
  exact W_ret (RetP_3 (.imm rfl) (.imm rfl) (.imm rfl))
theorem ten_len (k : Nat) : (limbs (10 ^ k)).length ≤ k + 1 := by
 rw [limbs_len]
 refine Nat.lt_of_le_of_lt (Nat.pow_le_pow_left (show 10 ≤ 4294967296 by decide) k) ?_
 exact Nat.pow_lt_pow_right (by decide) (by omega)
theorem l10 : [DV.int .u32 10] = us (limbs 10) := by rw [limbs_one (by decide) (by decide)]; rfl
theorem limbs10 : (limbs 10).length ≤ 1 := by rw [limbs_one (by decide) (by decide)]; simp
theorem nPow10 (k : Nat) (h : k ≤ 64) : PCalls Tryz.prog 140 [.sl 1 (us (limbs 10)), .int .i64 k] (.sl 1 (us (limbs (10 ^ k)))) := by
 have := nPower_calls (limbs 10) k (Nat.le_trans limbs10 (by decide)) (lim_limbs _)
 unfold pw at this
 rwa [if_neg (by omega), Int.toNat_natCast, vn_limbs] at this
theorem q_ten_calls (k : Nat) (hk : k ≤ 5000) : PCalls Tryz.prog 79 [.int .i64 k] (.sl 1 (us (limbs (10 ^ k)))) := by
 refine PCalls_of isq_ten (by simp [fnq_ten]) ?_
 unfold codeq_ten
 have hone := q_one_calls
 repeat (first | refine zQ cI ?_ | refine cP hone ?_ | exact zT)
 refine W_loop (σ := Nat) (fun i => [(0, .int .i64 i), (2, .nils), (3, .sl 1 (us (limbs (10 ^ (k - i)))))]) (fun _ => []) (fun i => i ≤ k) (fun i => i) k (Nat.le_refl _) ?_ rfl ?_
 ·simp [subF, lk]
 ·rintro i hi
  try simp only at hi ⊢
  have hl := ten_len (k - i)
  by_cases h : 64 < i
  ·have d : decide ((64 : Int) < i) = true := decide_eq_true (by omega)
   have c1 := nPow10 64 (Nat.le_refl _)
   have c2 := nMulL (10 ^ (k - i)) (10 ^ 64) (by omega) (Nat.le_trans (ten_len 64) (by decide))
   rw [← Nat.pow_add, show k - i + 64 = k - (i - 64) by omega] at c2
   have e1 : (i : Int) - 64 = ((i - 64 : Nat) : Int) := by omega
   generalize 10 ^ 64 = T at *
   refine zS (zA d cI) ?_
   refine wTs ?_
   repeat (first | refine zQ (zA @l10 (zA @us_rfd (zA e1 cI))) ?_ | refine cP c1 ?_ | refine cP c2 ?_ | exact zT)
   exact ⟨i - 64, by omega, by omega, by simp [subF, lk]⟩
  ·have d : decide ((64 : Int) < i) = false := decide_eq_false (by omega)
   have c1 := nPow10 i (by omega)
   have c2 := nMulL (10 ^ (k - i)) (10 ^ i) (by omega) (Nat.le_trans (ten_len i) (by omega))
   rw [← Nat.pow_add, show k - i + i = k by omega] at c2
   refine zS (zA d cI) ?_
   refine W_cond rfl (fun h => by cases h) (fun _ => W_exit ?_)
   repeat (first | refine zQ (zA @l10 (zA @us_rfd cI)) ?_ | refine cP c1 ?_ | refine cP c2 ?_ | exact zT)
theorem q_significant_calls (l : List UInt8) : PCalls Tryz.prog 129 [.str l] (.str (sig l)) := by
 have ct := trimLeftD l
 refine PCalls_of isq_significant (by simp [fnq_significant]) ?_
 unfold codeq_significant sig
 generalize Lib.trimLeftB l 48 = T at *
 by_cases h : T = []
 ·have d : decide (T = []) = true := decide_eq_true h
  rw [if_pos h]
  repeat (first | refine zQ (zA d cI) ?_ | refine cP ct ?_ | exact zT)
  refine wT ?_
  refine zS cI ?_
  exact W_ret (RetP_1 (.imm rfl))
 ·have d : decide (T = []) = false := decide_eq_false h
  rw [if_neg h]
  repeat (first | refine zQ (zA d cI) ?_ | refine cP ct ?_ | exact zT)
  refine wFs ?_
  refine zS cI ?_
  exact W_ret (RetP_1 (.imm rfl))
theorem bs_getD {l : List UInt8} {k : Nat} (h : k < l.length) : (l.map byteD).getD k .undef = .int .u8 ((l.getD k 0).toNat : Nat) := by
 simp [List.getD_eq_getElem?_getD, h, byteD]
theorem q_digits_calls (l : List UInt8) (hl : l.length ≤ 100000) : PCalls Tryz.prog 128 [.str l] (.bool (digs l)) := by
 refine PCalls_of isq_digits (by simp [fnq_digits]) ?_
 unfold codeq_digits
 refine zS (zA @List.length_map.{0,0} cI) ?_
 refine W_loop (σ := Nat) (fun i => [(0, .str l), (2, .bool false), (6, .sl 1 (l.map byteD)), (7, .int .i64 l.length), (8, .int .i64 i)]) (fun _ => []) (fun i => i ≤ l.length ∧ (l.take i).all isD = true) (fun i => l.length - i) 0 (And.intro (Nat.zero_le _) rfl) ?_ rfl ?_
 ·simp [subF, lk]
 ·rintro i ⟨hi, hall⟩
  try simp only at hi hall ⊢
  by_cases hlt : i < l.length
  ·have dl : decide ((i : Int) < l.length) = true := decide_eq_true (by omega)
   have ei : (i : Int).toNat = i := Int.toNat_natCast i
   have hgd := bs_getD hlt
   have hg2 : l.getD i 0 = l[i] := by rw [List.getD_eq_getElem?_getD, List.getElem?_eq_getElem hlt]; rfl
   rw [hg2] at hgd
   have hta := take_all hlt hall
   have hmem : l[i] ∈ l := List.getElem_mem hlt
   clear hg2
   generalize l[i] = c at *
   have hk : c.toNat < 256 := UInt8.toNat_lt c
   have e1 : ((i : Int) + 1) = ((i + 1 : Nat) : Int) := by omega
   have hbad : ¬ isD c = true → digs l = false := fun h => by
    unfold digs
    rw [Bool.and_eq_false_iff]
    right
    rw [← Bool.not_eq_true]
    exact fun k => h (List.all_eq_true.1 k c hmem)
   refine zS (zA dl cI) ?_
   refine wTs ?_
   by_cases hd : isD c = true
   ·have hd' := hd
    simp only [isD, Bool.and_eq_true, decide_eq_true_eq] at hd'
    have d5 : decide (((c.toNat : Nat) : Int) < 48) = false := decide_eq_false (by omega)
    have d6 : decide ((57 : Int) < ((c.toNat : Nat) : Int)) = false := decide_eq_false (by omega)
    have hta' := hta hd
    clear hta hall hd hbad hmem
    (replace hta' := Hid.mk hta')
    refine zS (zA ei (zA hgd (zA d5 (zA d6 (zA @List.length_map.{0,0} cI))))) ?_
    refine wFs ?_
    refine zS (zA e1 cI) ?_
    exact ⟨i + 1, And.intro hlt hta'.out, by omega, by simp [subF, lk]⟩
   ·rw [hbad hd]
    clear hta hall hbad hmem
    by_cases h5 : c.toNat < 48
    ·have d5 : decide (((c.toNat : Nat) : Int) < 48) = true := decide_eq_true (by omega)
     refine zS (zA ei (zA hgd (zA d5 (zA @List.length_map.{0,0} cI)))) ?_
     refine wT ?_
     refine zS cI ?_
     exact W_ret (RetP_1 (.imm rfl))
    ·have h57 : 57 < c.toNat := by
      simp only [isD, Bool.and_eq_true, decide_eq_true_eq] at hd
      omega
     have d5 : decide (((c.toNat : Nat) : Int) < 48) = false := decide_eq_false (by omega)
     have d6 : decide ((57 : Int) < ((c.toNat : Nat) : Int)) = true := decide_eq_true (by omega)
     clear hd
     refine zS (zA ei (zA hgd (zA d5 (zA d6 (zA @List.length_map.{0,0} cI))))) ?_
     refine wT ?_
     refine zS cI ?_
     exact W_ret (RetP_1 (.imm rfl))
  ·have dl : decide ((i : Int) < l.length) = false := decide_eq_false (by omega)
   have hil : i = l.length := by omega
   have hdg : digs l = decide (¬ l = []) := by
    unfold digs
    rw [hil, List.take_length] at hall
    rw [hall, Bool.and_true]
    cases l <;> simp
   rw [hdg]
   refine zS (zA dl cI) ?_
   refine W_cond rfl (fun h => by cases h) (fun _ => W_exit ?_)
   refine zS cI ?_
   exact W_ret (RetP_1 (.imm rfl))
theorem nUint_pn (a : List UInt8) (hl : a.length ≤ 1000) : PCalls Tryz.prog 167 [.sl 1 (us (limbs (pn a)))] (uintR (pn a)) := by
 have hx : (limbs (pn a)).length ≤ 1000 := by
  unfold pn
  by_cases h : okD a = true
  ·rw [if_pos h]; exact dval_le (okD_all h) hl
  ·rw [if_neg h, limbs_zero]; simp
 have := nUint_calls (limbs (pn a)) (by omega) (lim_limbs _)
 rwa [vn_limbs] at this
theorem parseR_pn (a : List UInt8) : parseR a = .tup [.sl 1 (us (limbs (pn a))), .bool (okD a)] := by
 unfold parseR pn
 by_cases h : okD a = true
 ·rw [h]; rfl
 ·rw [show okD a = false by simpa using h]
  simp [limbs_zero, us_nil]
theorem nParse_pn (a : List UInt8) : PCalls Tryz.prog 125 [.str a] (.tup [.sl 1 (us (limbs (pn a))), .bool (okD a)]) := by
 have := nParse_calls a
 rwa [parseR_pn] at this
theorem uintR_small {x : Nat} (h : x < 18446744073709551616) : uintR x = .tup [.int .u64 x, .bool true] := by
 unfold uintR
 rw [if_neg (by have := limbs_len.2 (show x < 4294967296 ^ 2 by omega); omega)]
theorem uintR_big {x : Nat} (h : ¬ x < 18446744073709551616) : uintR x = .tup [.int .u64 0, .bool false] := by
 unfold uintR
 rw [if_pos ?_]
 rcases Nat.lt_or_ge 2 (limbs x).length with k | k
 ·exact k
 ·have := limbs_len.1 k
  omega
theorem q_exponent_calls (e : List UInt8) (hl : e.length ≤ 1000) : PCalls Tryz.prog 127 [.str e] (expR e) := by
 have c1 := cutPrefixD e
 have hel : (expD e).length ≤ 1000 := by
  unfold expD; split
  ·rw [List.length_tail]; omega
  ·exact hl
 have c2 := nParse_pn (expD e)
 have c3 := nUint_pn (expD e) hel
 refine PCalls_of isq_exponent (by simp [fnq_exponent]) ?_
 unfold codeq_exponent expR expOk expV
 unfold pn at c2 c3
 generalize expD e = D at *
 by_cases ho : okD D = true
 ·rw [ho, if_pos rfl] at c2
  rw [ho, if_pos rfl] at c3
  rw [ho, Bool.true_and]
  generalize dval 0 D = v at *
  by_cases hs : v < 18446744073709551616
  ·rw [uintR_small hs] at c3
   by_cases h40 : v ≤ 40
   ·have d40 : decide ((40 : Int) < (v : Int)) = false := decide_eq_false (by omega)
    rw [if_pos (decide_eq_true h40)]
    clear hs
    by_cases hn : e.head? = some 45
    ·rw [decide_eq_true hn] at c1
     rw [if_pos hn]
     repeat (first | refine zQ (zA d40 cI) ?_ | refine cP c1 ?_ | refine cP c2 ?_ | refine cP c3 ?_ | exact zT)
     refine wFs ?_
     refine zS cI ?_
     refine wT ?_
     refine zS (zA @Int.zero_sub cI) ?_
     exact W_ret (RetP_2 (.imm rfl) (.imm rfl))
    ·rw [decide_eq_false hn] at c1
     rw [if_neg hn]
     repeat (first | refine zQ (zA d40 cI) ?_ | refine cP c1 ?_ | refine cP c2 ?_ | refine cP c3 ?_ | exact zT)
     refine wFs ?_
     refine zS cI ?_
     refine wFs ?_
     refine zS cI ?_
     exact W_ret (RetP_2 (.imm rfl) (.imm rfl))
   ·have d40 : decide ((40 : Int) < (v : Int)) = true := decide_eq_true (by omega)
    rw [if_neg (by simpa using h40)]
    repeat (first | refine zQ (zA d40 cI) ?_ | refine cP c1 ?_ | refine cP c2 ?_ | refine cP c3 ?_ | exact zT)
    refine wT ?_
    refine zS cI ?_
    exact W_ret (RetP_2 (.imm rfl) (.imm rfl))
  ·rw [uintR_big hs] at c3
   rw [if_neg (by simp; omega)]
   clear hs
   repeat (first | refine zQ cI ?_ | refine cP c1 ?_ | refine cP c2 ?_ | refine cP c3 ?_ | exact zT)
   refine wT ?_
   refine zS cI ?_
   exact W_ret (RetP_2 (.imm rfl) (.imm rfl))
 ·have ho : okD D = false := by simpa using ho
  rw [ho] at c2 c3 ⊢
  simp only [Bool.false_eq_true, if_false] at c2 c3
  rw [Bool.false_and, if_neg (by decide)]
  rw [uintR_small (by decide)] at c3
  repeat (first | refine zQ cI ?_ | refine cP c1 ?_ | refine cP c2 ?_ | refine cP c3 ?_ | exact zT)
  refine wT ?_
  refine zS cI ?_
  exact W_ret (RetP_2 (.imm rfl) (.imm rfl))
def pairR (r : Option (Nat × Nat)) : DV := match r with
 | some p => .tup [.sl 1 (us (limbs p.1)), .sl 1 (us (limbs p.2)), .bool true]
 | none => .tup [.sl 1 [], .sl 1 [], .bool false]
def tailU : DC := match codeq_unsigned with | .seq _ (.seq _ (.seq _ (.seq _ t))) => t | _ => .skip
theorem cut46 (m : List UInt8) (hl : m.length ≤ 100000) : PCalls Tryz.prog 124 [.str m, .str [46]] (.tup [.str (decN m), .str (decF m), .bool (decide (fi is46 m < m.length))]) := by
 have cc := strCut_calls m 46 hl
 rw [isC46] at cc
 unfold cutR at cc
 unfold decN decF
 by_cases h : fi is46 m < m.length
 ·rw [if_pos h] at cc
  rw [decide_eq_true h]; exact cc
 ·rw [if_neg h] at cc
  rw [decide_eq_false h, List.take_of_length_le (by omega), List.drop_eq_nil_of_le (by omega)]
  exact cc
set_option maxHeartbeats 2000000 in
theorem tail_W (m : List UInt8) (k : Int) (b : Bool) (hm : m.length ≤ 900) (hk : k.natAbs ≤ 40) :
  W fnq_unsigned tailU (RetP resq_unsigned (pairR (mantP m k))) [(0, .str m), (2, .nils), (3, .nils), (4, .bool b), (8, .int .i64 k)] [] := by
 have cc := cut46 m (by omega)
 have c2 := nParse_pn (decN m)
 have c3 := q_digits_calls (decF m) (by have := decN_len m; omega)
 have hNF := decN_len m
 have hfe : decide (fi is46 m = m.length) = !decide (fi is46 m < m.length) := by
  have := fi_le is46 m
  by_cases h : fi is46 m < m.length
  ·rw [decide_eq_true h, decide_eq_false (by omega)]; rfl
  ·rw [decide_eq_false h, decide_eq_true (by omega)]; rfl
 have hgood : decOk m = true → okD (sig (decN m ++ decF m)) = true ∧ dval 0 (sig (decN m ++ decF m)) = dval 0 (decN m ++ decF m) ∧ (limbs (dval 0 (decN m ++ decF m))).length ≤ 900 := fun h => by
  obtain ⟨h1, h2⟩ := decOk_all h
  obtain ⟨h3, h4⟩ := sig_ok h1 h2
  exact ⟨h3, h4, dval_le h1 (by rw [List.length_append]; omega)⟩
 have c5 := q_significant_calls (decN m ++ decF m)
 have c6 := nParse_pn (sig (decN m ++ decF m))
 have c7 := q_ten_calls (decF m).length (by omega)
 have c8 := q_ten_calls k.natAbs (by omega)
 have d4 : decide ((4000 : Int) < ((decN m).length : Int) + ((decF m).length : Int)) = false := decide_eq_false (by omega)
 have d4' : decide ((decN m).length + (decF m).length ≤ 4000) = true := decide_eq_true (by omega)
 have hdef : decOk m = (okD (decN m) && (decide (fi is46 m = m.length) || digs (decF m)) && decide ((decN m).length + (decF m).length ≤ 4000)) := rfl
 have hmant : mantP m k = if decOk m then (if k < 0 then some (dval 0 (decN m ++ decF m), 10 ^ (decF m).length * 10 ^ k.natAbs) else some (dval 0 (decN m ++ decF m) * 10 ^ k.natAbs, 10 ^ (decF m).length)) else none := rfl
 rw [hmant]
 rw [hfe, d4', Bool.and_true] at hdef
 clear hmant hfe d4'
 unfold tailU codeq_unsigned
 dsimp only
 generalize decOk m = ok at *
 generalize decide (fi is46 m < m.length) = pt at *
 generalize decN m = N at *
 generalize decF m = F at *
 by_cases ho : ok = true
 ·obtain ⟨g1, g2, g3⟩ := hgood ho
  have t1 := ten_len F.length
  have t2 := ten_len k.natAbs
  unfold pn at c6
  rw [g1, if_pos rfl, g2] at c6
  subst ho
  rw [if_pos rfl]
  have hN : okD N = true := by
   cases h : okD N
   ·rw [h] at hdef; simp at hdef
   ·rfl
  have hP : pt = true → digs F = true := fun hpt => by
   cases h : digs F
   ·rw [h, hpt] at hdef; simp at hdef
   ·rfl
  rw [hN] at c2
  have m1 := nMulL (10 ^ F.length) (10 ^ k.natAbs) (by omega) (by omega)
  have m2 := nMulL (dval 0 (N ++ F)) (10 ^ k.natAbs) (by omega) (by omega)
  generalize dval 0 (N ++ F) = v at *
  generalize 10 ^ F.length = TF at *
  generalize 10 ^ k.natAbs = TK at *
  clear hgood hdef g1 g2 g3 t1 t2
  by_cases hk0 : k < 0
  ·have dk : decide (k < 0) = true := decide_eq_true hk0
   have ek : (0 : Int) - k = (k.natAbs : Int) := by omega
   rw [if_pos hk0]
   cases pt
   ·repeat (first | refine zQ (zA d4 cI) ?_ | refine cP cc ?_ | refine cP c2 ?_ | refine cP c3 ?_ | exact zT)
    refine wFs ?_
    repeat (first | refine zQ (zA dk cI) ?_ | refine cP c5 ?_ | refine cP c6 ?_ | refine cP c7 ?_ | exact zT)
    refine wT ?_
    repeat (first | refine zQ (zA ek cI) ?_ | refine cP c8 ?_ | refine cP m1 ?_ | exact zT)
    exact W_ret (RetP_3 (.imm rfl) (.imm rfl) (.imm rfl))
   ·rw [hP rfl] at c3
    repeat (first | refine zQ (zA d4 cI) ?_ | refine cP cc ?_ | refine cP c2 ?_ | refine cP c3 ?_ | exact zT)
    refine wFs ?_
    repeat (first | refine zQ (zA dk cI) ?_ | refine cP c5 ?_ | refine cP c6 ?_ | refine cP c7 ?_ | exact zT)
    refine wT ?_
    repeat (first | refine zQ (zA ek cI) ?_ | refine cP c8 ?_ | refine cP m1 ?_ | exact zT)
    exact W_ret (RetP_3 (.imm rfl) (.imm rfl) (.imm rfl))
  ·have dk : decide (k < 0) = false := decide_eq_false hk0
   rw [if_neg hk0]
   have ek : k = (k.natAbs : Int) := by omega
   generalize k.natAbs = kn at *
   subst ek
   cases pt
   ·repeat (first | refine zQ (zA d4 cI) ?_ | refine cP cc ?_ | refine cP c2 ?_ | refine cP c3 ?_ | exact zT)
    refine wFs ?_
    repeat (first | refine zQ (zA dk cI) ?_ | refine cP c5 ?_ | refine cP c6 ?_ | refine cP c7 ?_ | exact zT)
    refine wFs ?_
    repeat (first | refine zQ cI ?_ | refine cP c8 ?_ | refine cP m2 ?_ | exact zT)
    exact W_ret (RetP_3 (.imm rfl) (.imm rfl) (.imm rfl))
   ·rw [hP rfl] at c3
    repeat (first | refine zQ (zA d4 cI) ?_ | refine cP cc ?_ | refine cP c2 ?_ | refine cP c3 ?_ | exact zT)
    refine wFs ?_
    repeat (first | refine zQ (zA dk cI) ?_ | refine cP c5 ?_ | refine cP c6 ?_ | refine cP c7 ?_ | exact zT)
    refine wFs ?_
    repeat (first | refine zQ cI ?_ | refine cP c8 ?_ | refine cP m2 ?_ | exact zT)
    exact W_ret (RetP_3 (.imm rfl) (.imm rfl) (.imm rfl))
 ·have ho' : ok = false := by simpa using ho
  rw [ho'] at hdef
  subst ho'
  rw [if_neg ho]
  clear hgood c5 c6 c7 c8
  cases hN : okD N
  ·rw [hN] at c2
   repeat (first | refine zQ (zA d4 cI) ?_ | refine cP cc ?_ | refine cP c2 ?_ | refine cP c3 ?_ | exact zT)
   refine wT ?_
   refine zS cI ?_
   exact W_ret (RetP_3 (.nils _) (.nils _) (.imm rfl))
  ·rw [hN] at c2 hdef
   have hpt : pt = true := by
    cases pt
    ·simp at hdef
    ·rfl
   subst hpt
   have hF : digs F = false := by simpa using hdef.symm
   rw [hF] at c3
   repeat (first | refine zQ (zA d4 cI) ?_ | refine cP cc ?_ | refine cP c2 ?_ | refine cP c3 ?_ | exact zT)
   refine wT ?_
   refine zS cI ?_
   exact W_ret (RetP_3 (.nils _) (.nils _) (.imm rfl))
def unsR (s : List UInt8) : DV :=
 if fi is47 s < s.length then .tup [.sl 1 (us (limbs (pn (s.take (fi is47 s))))), .sl 1 (us (limbs (pn (s.drop (fi is47 s + 1))))), .bool (okD (s.take (fi is47 s)) && (okD (s.drop (fi is47 s + 1)) && decide (0 < pn (s.drop (fi is47 s + 1)))))]
 else pairR (unsP s)
theorem unsR_some {s : List UInt8} {n d : Nat} (h : unsP s = some (n, d)) : unsR s = pairR (some (n, d)) := by
 unfold unsR
 by_cases h1 : fi is47 s < s.length
 ·rw [if_pos h1]
  unfold unsP at h
  rw [if_pos h1] at h
  split at h
  ·rename_i h2
   simp only [Bool.and_eq_true, decide_eq_true_eq] at h2
   simp only [Option.some.injEq, Prod.mk.injEq] at h
   unfold pn pairR
   simp only [h2.1.1, h2.1.2, if_true, Bool.true_and, h.1, h.2]
   rw [decide_eq_true (by rw [← h.2]; exact h2.2)]
  ·cases h
 ·rw [if_neg h1, h]
theorem unsR_none {s : List UInt8} (h : unsP s = none) : ∃ x y, unsR s = .tup [.sl 1 (us (limbs x)), .sl 1 (us (limbs y)), .bool false] := by
 unfold unsR
 by_cases h1 : fi is47 s < s.length
 ·rw [if_pos h1]
  unfold unsP at h
  rw [if_pos h1] at h
  split at h
  ·cases h
  ·rename_i h2
   refine ⟨pn (s.take (fi is47 s)), pn (s.drop (fi is47 s + 1)), ?_⟩
   suffices hb : (okD (s.take (fi is47 s)) && (okD (s.drop (fi is47 s + 1)) && decide (0 < pn (s.drop (fi is47 s + 1))))) = false by rw [hb]
   rw [← Bool.not_eq_true]
   intro h3
   refine h2 ?_
   simp only [Bool.and_eq_true, decide_eq_true_eq] at h3 ⊢
   refine ⟨⟨h3.1, h3.2.1⟩, ?_⟩
   have := h3.2.2
   unfold pn at this
   rwa [h3.2.1, if_pos rfl] at this
 ·rw [if_neg h1, h]
  exact ⟨0, 0, by rw [limbs_zero]; rfl⟩
theorem I_sgn (b : Bool) (n : Nat) : I (sgn b n) = .agg [.bool (b && decide (0 < n)), .sl 1 (us (limbs n))] := by
 unfold I; rw [sgn_lt, sgn_abs]
end Go.Proofs.YtjfedgpbedppeaaGreatDoor
namespace Go.Proofs.YtjfedgpbedppeaaGreatDoor
open Go Go.Dat Go.Proofs Nat32 Go.RowKit
open Go.Lib (decDigits repeatL)
theorem dd_le {n m : Nat} (h : (limbs n).length ≤ m) : (decDigits n).length ≤ 10 * m + 1 := Nat.le_trans (dd_limbs h) (by omega)
theorem qFormat_calls (neg : Bool) (a d : List Nat) (ha : a.length ≤ 800) (hd : d.length ≤ 800) (la : lim a) (ld : lim d) : PCalls Tryz.prog 39 [XQ neg a d] (.str (fmtQ (rv neg a d))) := by
 have v1 := q_value_calls neg a d (by omega) (by omega) la ld
 have k1 : RB (rv neg a d) 800 := RB_rv la ld ha hd (by decide)
 generalize rv neg a d = r at *
 have c1 := iFormat_calls (decide (r.num < 0)) (limbs r.num.natAbs) (Nat.le_trans k1.1 (by decide)) (lim_limbs _)
 rw [iv_I, show fmtI r.num = fmtZ r.num from rfl] at c1
 have c2 := nFormat_calls (dn r.den) (Nat.le_trans (RB_dn k1) (by decide)) (lim_dn _)
 have kd := dk1 r
 have kg : decide ((0 : Int) < ((dn r.den).length : Int)) = !decide (r.den = 1) := by
  rw [← kd]
  by_cases h : ((dn r.den).length : Int) = 0
  ·rw [decide_eq_true h, decide_eq_false (by omega)]; rfl
  ·rw [decide_eq_false h, decide_eq_true (by omega)]; rfl
 have l1 : (fmtZ r.num).length ≤ 8002 := by
  have := dd_le k1.1
  unfold fmtZ; split
  ·simp; omega
  ·omega
 have l2 := dd_le k1.2
 refine PCalls_of isqFormat (by simp [fnqFormat]) ?_
 unfold codeqFormat fmtQ
 by_cases h : r.den = 1
 ·rw [decide_eq_true h] at kg
  rw [if_pos h, List.append_nil]
  generalize fmtZ r.num = S at *
  clear l2 kd k1
  repeat (first | refine zQ (zA @XQ.eq_1 (zA @Q.eq_1 (zA @cS (zA @cT (zA @nbqFormat (zA @us_length (zA kg (zA @Bool.not_true cI)))))))) ?_ | refine cP v1 ?_ | refine cP c1 ?_ | exact zT)
  refine wFs ?_
  refine zS (zA @cS cI) ?_
  exact W_ret (RetP_1 (.imm rfl))
 ·rw [decide_eq_false h] at kg
  rw [if_neg h]
  rw [vn_dn h] at c2
  generalize fmtZ r.num = S at *
  generalize decDigits r.den = D at *
  clear kd k1
  have e : [(47 : UInt8)] ++ D = 47 :: D := rfl
  repeat (first | refine zQ (zA @XQ.eq_1 (zA @Q.eq_1 (zA @cS (zA @cT (zA @nbqFormat (zA @us_length (zA kg (zA @Bool.not_false cI)))))))) ?_ | refine cP v1 ?_ | refine cP c1 ?_ | exact zT)
  refine wT ?_
  repeat (first | refine zQ (zA @cS (zA e (zA @List.length_cons.{0} (zA @List.length_singleton.{0} cI)))) ?_ | refine cP c2 ?_ | exact zT)
theorem pFormat_calls (neg : Bool) (a d : List Nat) (ha : a.length ≤ 800) (hd : d.length ≤ 800) (la : lim a) (ld : lim d) : PCalls Tryz.prog 42 [XQ neg a d] (.str (fmtQ (rv neg a d))) := by
 have v1 := pTake_calls neg a d (by omega) (by omega) la ld
 have k1 : RB (rv neg a d) 800 := RB_rv la ld ha hd (by decide)
 generalize rv neg a d = r at *
 have c1 := sFormat_calls (decide (r.num < 0)) (limbs r.num.natAbs) (Nat.le_trans k1.1 (by decide)) (lim_limbs _)
 rw [iv_I, show fmtI r.num = fmtZ r.num from rfl] at c1
 have c2 := rFormat_calls (dn r.den) (Nat.le_trans (RB_dn k1) (by decide)) (lim_dn _)
 have kd := dk1 r
 have l1 : (fmtZ r.num).length ≤ 8002 := by
  have := dd_le k1.1
  unfold fmtZ; split
  ·simp; omega
  ·omega
 have l2 := dd_le k1.2
 refine PCalls_of ispFormat (by simp [fnpFormat]) ?_
 unfold codepFormat fmtQ
 by_cases h : r.den = 1
 ·rw [decide_eq_true h] at kd
  rw [if_pos h, List.append_nil]
  generalize fmtZ r.num = S at *
  clear l2 k1
  repeat (first | refine zQ (zA @XQ.eq_1 (zA @Q.eq_1 (zA @cS (zA @cT (zA @nbpFormat (zA @us_length (zA kd cI))))))) ?_ | refine cP v1 ?_ | exact zT)
  refine wT ?_
  repeat (first | refine zQ (zA @cS cI) ?_ | refine cP c1 ?_ | exact zT)
 ·rw [decide_eq_false h] at kd
  rw [if_neg h]
  rw [vn_dn h] at c2
  generalize fmtZ r.num = S at *
  generalize decDigits r.den = D at *
  clear k1
  have e : (S ++ [47]) ++ D = S ++ 47 :: D := by simp
  repeat (first | refine zQ (zA @XQ.eq_1 (zA @Q.eq_1 (zA @cS (zA @cT (zA @nbpFormat (zA @us_length (zA kd cI))))))) ?_ | refine cP v1 ?_ | exact zT)
  refine wFs ?_
  repeat (first | refine zQ (zA @cS (zA e (zA @List.length_append.{0} (zA @List.length_singleton.{0} cI)))) ?_ | refine cP c1 ?_ | refine cP c2 ?_ | exact zT)
  try exact W_ret (RetP_1 (.imm rfl))
def decR (r : Rat) (k : Int) : List UInt8 := if k < 0 ∨ 100 < k then [] else decS r k.toNat
theorem rep_rep (n : Nat) : repeatL [48] n = List.replicate n (48 : UInt8) := by
 induction n with
 | zero => rfl
 | succ n ih => rw [List.replicate_succ, ← ih]; rfl
def tailDec : DC := match codeqDecimal with | .seq _ (.seq _ (.seq _ (.seq _ (.seq _ (.seq _ t))))) => t | _ => .skip
theorem tailDec_W (b : Bool) (a dd : List Nat) (q k : Nat) (hq : (limbs q).length ≤ 900) (hk : k ≤ 100) :
  W fnqDecimal tailDec (RetP resqDecimal (.str (if b && decide (0 < q) then 45 :: pointed k (padz (k + 1) (decDigits q)) else pointed k (padz (k + 1) (decDigits q)))))
   [(1, .int .i64 k), (2, .ptr 2 0), (4, .str []), (5, .sl 1 (us (limbs q)))] [(2, [.bool b, .sl 1 (us a), .sl 1 (us dd)])] := by
 have c1 := nFormat_calls (limbs q) hq (lim_limbs _)
 rw [vn_limbs] at c1
 have hD := dd_le hq
 have hl := len_gt q
 unfold tailDec codeqDecimal
 dsimp only
 generalize decDigits q = D at *
 have c2 := repeatD [48] (k + 1 - D.length) (by simp) (by omega)
 rw [rep_rep] at c2
 repeat (first | refine zQ (zA @cS (zA @cT (zA @nbqDecimal cI))) ?_ | refine cP c1 ?_ | exact zT)
 refine W_join (ι := Unit) (fun _ => True) (fun _ => [(1, .int .i64 k), (2, .ptr 2 0), (4, .str []), (5, .sl 1 (us (limbs q))), (9, .str (padz (k + 1) D))]) (fun _ => [(2, [.bool b, .sl 1 (us a), .sl 1 (us dd)])]) ?_ ?_
 ·refine zS cI ?_
  by_cases h : D.length < k + 1
  ·have d : decide ((0 : Int) < (k : Int) + 1 - (D.length : Int)) = true := decide_eq_true (by omega)
   have e : (k : Int) + 1 - (D.length : Int) = ((k + 1 - D.length : Nat) : Int) := by omega
   have ep : List.replicate (k + 1 - D.length) 48 ++ D = padz (k + 1) D := rfl
   refine zS (zA d cI) ?_
   refine wT ?_
   repeat (first | refine zQ (zA e (zA @List.length_replicate.{0} (zA ep cI))) ?_ | refine cP c2 ?_ | exact zT)
   first | exact ⟨(), trivial, by simp [subF, lk], rfl⟩ | exact ⟨(), by simp [subF, lk], rfl⟩ | exact ⟨(), by simp [subF, lk]⟩ | exact ⟨(), trivial, by simp [subF, lk]⟩
  ·have d : decide ((0 : Int) < (k : Int) + 1 - (D.length : Int)) = false := decide_eq_false (by omega)
   have ep : padz (k + 1) D = D := by unfold padz; rw [show k + 1 - D.length = 0 by omega]; rfl
   refine zS (zA d cI) ?_
   refine wFs ?_
   rw [ep]
   first | exact ⟨(), trivial, by simp [subF, lk], rfl⟩ | exact ⟨(), by simp [subF, lk], rfl⟩ | exact ⟨(), by simp [subF, lk]⟩ | exact ⟨(), trivial, by simp [subF, lk]⟩
 ·rintro ⟨⟩ -
  have hp := padz_len (k + 1) D
  generalize padz (k + 1) D = L at *
  clear c1 c2
  have hPl : (pointed k L).length ≤ L.length + 1 := by
   unfold pointed; split
   ·simp; omega
   ·omega
  refine W_seq (W_join (ι := Unit) (fun _ => True) (fun _ => [(1, .int .i64 k), (2, .ptr 2 0), (4, .str []), (5, .sl 1 (us (limbs q))), (9, .str (pointed k L))]) (fun _ => [(2, [.bool b, .sl 1 (us a), .sl 1 (us dd)])]) ?_ ?_)
  ·by_cases h : 0 < k
   ·have d : decide ((0 : Int) < (k : Int)) = true := decide_eq_true (by omega)
    have e : (((L.length : Int) - (k : Int))).toNat = L.length - k := by omega
    have e0 : (L.take (L.length - k)).drop 0 = L.take (L.length - k) := rfl
    have ep : (L.take (L.length - k) ++ [46]) ++ L.drop (L.length - k) = pointed k L := by unfold pointed; rw [if_pos h]; simp
    refine zS (zA d cI) ?_
    refine wT ?_
    refine zS (zA e (zA e0 (zA @List.take_length.{0} (zA ep (zA @List.length_append.{0} (zA @List.length_take.{0} (zA @List.length_drop.{0} (zA @List.length_singleton.{0} cI)))))))) ?_
    first | exact ⟨(), trivial, by simp [subF, lk], rfl⟩ | exact ⟨(), by simp [subF, lk], rfl⟩ | exact ⟨(), by simp [subF, lk]⟩ | exact ⟨(), trivial, by simp [subF, lk]⟩
   ·have d : decide ((0 : Int) < (k : Int)) = false := decide_eq_false (by omega)
    have ep : pointed k L = L := by unfold pointed; rw [if_neg h]
    refine zS (zA d cI) ?_
    refine wFs ?_
    rw [ep]
    first | exact ⟨(), trivial, by simp [subF, lk], rfl⟩ | exact ⟨(), by simp [subF, lk], rfl⟩ | exact ⟨(), by simp [subF, lk]⟩ | exact ⟨(), trivial, by simp [subF, lk]⟩
  ·rintro ⟨⟩ -
   generalize pointed k L = P at *
   have e : [(45 : UInt8)] ++ P = 45 :: P := rfl
   cases b
   ·refine zS (zA @cS (zA @nbqDecimal (zA @us_length (zA hl cI)))) ?_
    refine wFs ?_
    refine zS (zA @cS cI) ?_
    exact W_ret (RetP_1 (.imm rfl))
   ·by_cases h : 0 < q
    ·rw [decide_eq_true h] at hl ⊢
     refine zS (zA @cS (zA @nbqDecimal (zA @us_length (zA hl cI)))) ?_
     refine wT ?_
     refine zS (zA @cS (zA e (zA @List.length_singleton.{0} cI))) ?_
     exact W_ret (RetP_1 (.imm rfl))
    ·rw [decide_eq_false h] at hl ⊢
     refine zS (zA @cS (zA @nbqDecimal (zA @us_length (zA hl cI)))) ?_
     refine wFs ?_
     refine zS (zA @cS cI) ?_
     exact W_ret (RetP_1 (.imm rfl))
theorem cmp_gt (x y : Nat) : decide ((0 : Int) < cmpN x y) = decide (y < x) := by
 rw [decide_eq_decide]; unfold cmpN; (repeat' split) <;> omega
theorem cmp_e0 (x y : Nat) : decide (cmpN x y = 0) = decide (x = y) := by
 rw [decide_eq_decide]; unfold cmpN; (repeat' split) <;> omega
theorem rnd_up {a d : Nat} (h : d < 2 * (a % d) ∨ (2 * (a % d) = d ∧ a / d % 2 = 1)) : rnd a d = a / d + 1 := by unfold rnd; rw [if_pos h]
theorem rnd_dn {a d : Nat} (h : ¬ (d < 2 * (a % d) ∨ (2 * (a % d) = d ∧ a / d % 2 = 1))) : rnd a d = a / d := by unfold rnd; rw [if_neg h]
set_option maxHeartbeats 1000000 in
theorem qDecimal_calls (neg : Bool) (a d : List Nat) (k : Int) (ha : a.length ≤ 700) (hd : d.length ≤ 700) (la : lim a) (ld : lim d) : PCalls Tryz.prog 50 [XQ neg a d, .int .i64 k] (.str (decR (rv neg a d) k)) := by
 have v1 := q_value_calls neg a d (by omega) (by omega) la ld
 have k1 : RB (rv neg a d) 700 := RB_rv la ld ha hd (by decide)
 generalize rv neg a d = r at *
 refine PCalls_of isqDecimal (by simp [fnqDecimal]) ?_
 unfold codeqDecimal decR
 by_cases h0 : k < 0
 ·rw [if_pos (.inl h0)]
  have d0 : decide (k < 0) = true := decide_eq_true h0
  refine zS (zA @XQ.eq_1 (zA @cS (zA @nbqDecimal (zA d0 cI)))) ?_
  refine wT ?_
  refine zS cI ?_
  exact W_ret (RetP_1 (.imm rfl))
 ·have d0 : decide (k < 0) = false := decide_eq_false h0
  by_cases h1 : 100 < k
  ·rw [if_pos (.inr h1)]
   have d1 : decide (100 < k) = true := decide_eq_true h1
   refine zS (zA @XQ.eq_1 (zA @cS (zA @nbqDecimal (zA d0 (zA d1 cI))))) ?_
   refine wT ?_
   refine zS cI ?_
   exact W_ret (RetP_1 (.imm rfl))
  ·rw [if_neg (by omega)]
   have d1 : decide (100 < k) = false := decide_eq_false h1
   obtain ⟨n, rfl⟩ : ∃ n : Nat, k = n := ⟨k.toNat, by omega⟩
   rw [Int.toNat_natCast]
   have hn : n ≤ 100 := by omega
   have ct := q_ten_calls n (by omega)
   have tl := ten_len n
   have cm := nMulL r.num.natAbs (10 ^ n) (Nat.le_trans k1.1 (by decide)) (by omega)
   have ml := len_mul k1.1 tl
   have cd := q_den_calls r
   have hdl := k1.2
   have hd0 := r.den_pos
   have ht := tailDec_W (decide (r.num < 0)) (limbs r.num.natAbs) (dn r.den) (rnd (r.num.natAbs * 10 ^ n) r.den) n (Nat.le_trans (rnd_len (m := 801) (by omega)) (by decide)) hn
   have hres : decS r n = (if decide (r.num < 0) && decide (0 < rnd (r.num.natAbs * 10 ^ n) r.den) then 45 :: pointed n (padz (n + 1) (decDigits (rnd (r.num.natAbs * 10 ^ n) r.den))) else pointed n (padz (n + 1) (decDigits (rnd (r.num.natAbs * 10 ^ n) r.den)))) := by
    unfold decS
    rw [← Bool.decide_and]
    simp only [decide_eq_true_eq]
   rw [← hres] at ht
   clear hres
   generalize decS r n = RES at *
   unfold tailDec codeqDecimal at ht
   dsimp only at ht
   generalize r.num.natAbs * 10 ^ n = A at *
   generalize hDen : r.den = D at *
   have lq := Nat.le_trans (len_mono (Nat.div_le_self A D)) ml
   have lr := Nat.le_trans (len_mono (Nat.mod_le A D)) ml
   have ci := nDivL A D (by omega) (by omega)
   rw [dmod_pos hd0] at ci
   have la2 := ladd lr lr
   have ca := nAddL (A % D) (A % D) (by omega) (by omega)
   have cc := nCmpL (A % D + A % D) D (by omega) (by omega)
   have e1 := cmp_gt (A % D + A % D) D
   have e2 := cmp_e0 (A % D + A % D) D
   have cu := nAddL (A / D) 1 (by omega) (limbs1_le (by decide))
   generalize hR : A % D = R at *
   generalize hQ : A / D = q at *
   have hup := @rnd_up A D
   have hdn := @rnd_dn A D
   rw [hR, hQ] at hup hdn
   generalize rnd A D = RN at *
   generalize cmpN (R + R) D = C at *
   have hone := q_one_calls
   have hlg := len_gt q
   have e0 : (Int.toNat 0) = 0 := rfl
   have hDq : 10 ^ n = 10 ^ n := rfl
   generalize 10 ^ n = TN at *
   clear hR hQ ml la2 hdl hd0 k1 tl
   by_cases hA : D < R + R
   ·rw [decide_eq_true hA] at e1
    rw [hup (.inl (by omega))] at ht
    clear hup hdn
    repeat (first | refine zQ (zA @XQ.eq_1 (zA @cS (zA @cT (zA @nbqDecimal (zA d0 (zA d1 cI)))))) ?_ | refine cP v1 ?_ | exact zT)
    refine wFs ?_
    repeat (first | refine zQ (zA @XQ.eq_1 (zA @Q.eq_1 (zA @cS (zA @cT (zA @nbqDecimal (zA e1 cI)))))) ?_ | refine cP v1 ?_ | refine cP ct ?_ | refine cP cm ?_ | refine cP cd ?_ | refine cP ci ?_ | refine cP ca ?_ | refine cP cc ?_ | exact zT)
    refine wT ?_
    refine W_reg ?_
    refine zE cI ?_
    refine cP hone ?_
    refine zE cI ?_
    refine cP cu ?_
    refine zE cI ?_
    rw [hDen]; refine W_sub ?_ ht
    simp [subF, lk]
   ·rw [decide_eq_false hA] at e1
    by_cases hE : R + R = D
    ·rw [decide_eq_true hE] at e2
     by_cases hq : 0 < q
     ·rw [decide_eq_true hq] at hlg
      have hlq : 0 < (limbs q).length := limbs_len0.2 hq
      have hg0 := getD_limbs0 q
      have tm2 : (((q % 4294967296 : Nat) : Int)).tmod 2 = ((q % 2 : Nat) : Int) := by
       have := tmod_nat (q % 4294967296) 2
       rw [Nat.mod_mod_of_dvd q (show 2 ∣ 4294967296 by decide)] at this
       exact this
      have hug := us_getD hlq
      rw [hg0] at hug
      by_cases ho : q % 2 = 1
      ·rw [hup (.inr ⟨by omega, ho⟩)] at ht
       have d2 : decide (((q % 2 : Nat) : Int) = 1) = true := decide_eq_true (by omega)
       clear hup hdn hg0
       repeat (first | refine zQ (zA @XQ.eq_1 (zA @cS (zA @cT (zA @nbqDecimal (zA d0 (zA d1 cI)))))) ?_ | refine cP v1 ?_ | exact zT)
       refine wFs ?_
       repeat (first | refine zQ (zA @XQ.eq_1 (zA @Q.eq_1 (zA @cS (zA @cT (zA @nbqDecimal (zA e1 (zA e2 (zA hlg (zA @us_length (zA e0 (zA hug (zA tm2 (zA d2 cI))))))))))))) ?_ | refine cP v1 ?_ | refine cP ct ?_ | refine cP cm ?_ | refine cP cd ?_ | refine cP ci ?_ | refine cP ca ?_ | refine cP cc ?_ | exact zT)
       refine wT ?_
       refine W_reg ?_
       refine zE cI ?_
       refine cP hone ?_
       refine zE cI ?_
       refine cP cu ?_
       refine zE cI ?_
       rw [hDen]; refine W_sub ?_ ht
       simp [subF, lk]
      ·rw [hdn (fun h => by omega)] at ht
       have d2 : decide (((q % 2 : Nat) : Int) = 1) = false := decide_eq_false (by omega)
       clear hup hdn hg0
       repeat (first | refine zQ (zA @XQ.eq_1 (zA @cS (zA @cT (zA @nbqDecimal (zA d0 (zA d1 cI)))))) ?_ | refine cP v1 ?_ | exact zT)
       refine wFs ?_
       repeat (first | refine zQ (zA @XQ.eq_1 (zA @Q.eq_1 (zA @cS (zA @cT (zA @nbqDecimal (zA e1 (zA e2 (zA hlg (zA @us_length (zA e0 (zA hug (zA tm2 (zA d2 cI))))))))))))) ?_ | refine cP v1 ?_ | refine cP ct ?_ | refine cP cm ?_ | refine cP cd ?_ | refine cP ci ?_ | refine cP ca ?_ | refine cP cc ?_ | exact zT)
       refine wFs ?_
       rw [hDen]; refine W_sub ?_ ht
       simp [subF, lk]
     ·rw [decide_eq_false hq] at hlg
      rw [hdn (fun h => by have h0 : q = 0 := by omega
                           rw [h0] at h; omega)] at ht
      clear hup hdn
      repeat (first | refine zQ (zA @XQ.eq_1 (zA @cS (zA @cT (zA @nbqDecimal (zA d0 (zA d1 cI)))))) ?_ | refine cP v1 ?_ | exact zT)
      refine wFs ?_
      repeat (first | refine zQ (zA @XQ.eq_1 (zA @Q.eq_1 (zA @cS (zA @cT (zA @nbqDecimal (zA e1 (zA e2 (zA hlg (zA @us_length cI))))))))) ?_ | refine cP v1 ?_ | refine cP ct ?_ | refine cP cm ?_ | refine cP cd ?_ | refine cP ci ?_ | refine cP ca ?_ | refine cP cc ?_ | exact zT)
      refine wFs ?_
      rw [hDen]; refine W_sub ?_ ht
      simp [subF, lk]
    ·rw [decide_eq_false hE] at e2
     rw [hdn (fun h => by omega)] at ht
     clear hup hdn
     repeat (first | refine zQ (zA @XQ.eq_1 (zA @cS (zA @cT (zA @nbqDecimal (zA d0 (zA d1 cI)))))) ?_ | refine cP v1 ?_ | exact zT)
     refine wFs ?_
     repeat (first | refine zQ (zA @XQ.eq_1 (zA @Q.eq_1 (zA @cS (zA @cT (zA @nbqDecimal (zA e1 (zA e2 cI))))))) ?_ | refine cP v1 ?_ | refine cP ct ?_ | refine cP cm ?_ | refine cP cd ?_ | refine cP ci ?_ | refine cP ca ?_ | refine cP cc ?_ | exact zT)
     refine wFs ?_
     rw [hDen]; refine W_sub ?_ ht
     simp [subF, lk]
def lightB (a d : List Nat) : Bool := decide (a.length ≤ 8) && decide (d.length ≤ 8)
theorem mdLight_calls (neg : Bool) (a d : List Nat) : PCalls Tryz.prog 33 [XQ neg a d] (.bool (lightB a d)) := by
 have k1 : decide ((a.length : Int) ≤ 8) = decide (a.length ≤ 8) := by rw [decide_eq_decide]; omega
 have k2 : decide ((d.length : Int) ≤ 8) = decide (d.length ≤ 8) := by rw [decide_eq_decide]; omega
 refine PCalls_of ismdLight (by simp [fnmdLight]) ?_
 unfold codemdLight lightB
 by_cases h : a.length ≤ 8
 ·rw [decide_eq_true h] at k1 ⊢
  refine zS (zA @XQ.eq_1 (zA @cS (zA @nbmdLight (zA @us_length (zA k1 (zA k2 (zA @Bool.true_and cI))))))) ?_
  exact W_ret (RetP_1 (.imm rfl))
 ·rw [decide_eq_false h] at k1 ⊢
  refine zS (zA @XQ.eq_1 (zA @cS (zA @nbmdLight (zA @us_length (zA k1 (zA k2 (zA @Bool.false_and cI))))))) ?_
  exact W_ret (RetP_1 (.imm rfl))
theorem lightB_spec {a d : List Nat} (h : lightB a d = true) : a.length ≤ 8 ∧ d.length ≤ 8 := by
 unfold lightB at h; simpa using h
def pB (bs : List UInt8) (c : UInt8) : Bool := bs.contains c
def pcutR (p : UInt8 → Bool) (l : List UInt8) : DV := if fi p l < l.length then .tup [.str (l.take (fi p l)), .str (l.drop (fi p l + 1)), .int .i64 (fi p l)] else .tup [.str l, .str [], .int .i64 (-1)]
theorem pB47 : pB [47] = is47 := by
 funext c; unfold pB is47
 simp only [List.contains_cons, List.contains_nil, Bool.or_false, beq_dec]
theorem pB46 : pB [46] = is46 := by
 funext c; unfold pB is46
 simp only [List.contains_cons, List.contains_nil, Bool.or_false, beq_dec]
theorem pBE : pB [101, 69] = isE := by
 funext c; unfold pB isE
 simp only [List.contains_cons, List.contains_nil, Bool.or_false, beq_dec]
theorem pB_true {bs : List UInt8} {c : UInt8} (k : Nat) (hk : k < bs.length) (h : c = bs.getD k 0) : pB bs c = true := by
 unfold pB
 rw [List.contains_iff_mem, h, List.getD_eq_getElem?_getD, List.getElem?_eq_getElem hk]
 exact List.getElem_mem hk
theorem pB_false {bs : List UInt8} {c : UInt8} (h : ∀ j, j < bs.length → ¬ c = bs.getD j 0) : pB bs c = false := by
 rw [← Bool.not_eq_true]
 unfold pB
 rw [List.contains_iff_mem]
 intro hc
 obtain ⟨j, hj, e⟩ := List.mem_iff_getElem.1 hc
 exact h j hj (by rw [List.getD_eq_getElem?_getD, List.getElem?_eq_getElem hj, ← e]; rfl)
set_option maxHeartbeats 1000000 in
theorem p_cut_calls (l bs : List UInt8) (hl : l.length ≤ 100000) (hb : bs.length ≤ 100) : PCalls Tryz.prog 72 [.str l, .str bs] (pcutR (pB bs) l) := by
 refine PCalls_of isp_cut (by simp [fnp_cut]) ?_
 unfold codep_cut pcutR
 have hfl := fi_le (pB bs) l
 have hat := fi_at (pB bs) l
 have hbf := fi_before (pB bs) l
 refine zS cI ?_
 refine W_loop (σ := Nat) (fun i => [(0, .str l), (1, .str bs), (4, .str []), (5, .str []), (6, .int .i64 0), (7, .int .i64 i)]) (fun _ => []) (fun i => i ≤ l.length ∧ i ≤ fi (pB bs) l) (fun i => l.length - i) 0 (And.intro (Nat.zero_le _) (Nat.zero_le _)) ?_ rfl ?_
 ·simp [subF, lk]
 ·rintro i ⟨hi, hf⟩
  try simp only at hi hf ⊢
  by_cases hlt : i < l.length
  ·have dl : decide ((i : Int) < l.length) = true := decide_eq_true (by omega)
   have ei : (i : Int).toNat = i := Int.toNat_natCast i
   obtain ⟨c, hc⟩ : ∃ c, l.getD i 0 = c := ⟨_, rfl⟩
   have hnext : pB bs c = false → i + 1 ≤ fi (pB bs) l := fun h => by
    rcases Nat.lt_or_ge i (fi (pB bs) l) with k | k
    ·exact k
    ·have e : fi (pB bs) l = i := by omega
     have := hat (by omega)
     rw [e, hc, h] at this; cases this
   have hstop : pB bs c = true → fi (pB bs) l = i := fun h => by
    rcases Nat.lt_or_ge i (fi (pB bs) l) with k | k
    ·have := hbf i k
     rw [hc, h] at this; cases this
    ·omega
   clear hat hbf
   refine zS (zA dl cI) ?_
   refine wTs ?_
   refine zS cI ?_
   refine W_loop (σ := Nat) (fun k => [(0, .str l), (1, .str bs), (4, .str []), (5, .str []), (6, .int .i64 0), (7, .int .i64 i), (8, .int .i64 k)]) (fun _ => []) (fun k => k ≤ bs.length ∧ ∀ j, j < k → ¬ c = bs.getD j 0) (fun k => bs.length - k) 0 (And.intro (Nat.zero_le _) (fun j hj => absurd hj (by omega))) ?_ rfl ?_
   ·simp [subF, lk]
   ·rintro k ⟨hk, hno⟩
    try simp only at hk hno ⊢
    by_cases hkt : k < bs.length
    ·have dk : decide ((k : Int) < bs.length) = true := decide_eq_true (by omega)
     have ek : (k : Int).toNat = k := Int.toNat_natCast k
     obtain ⟨x, hx⟩ : ∃ x, bs.getD k 0 = x := ⟨_, rfl⟩
     have eb : ∀ z : UInt8, byteD z = .int .u8 (z.toNat : Nat) := fun _ => rfl
     by_cases he : c = x
     ·have de : decide (((c.toNat : Nat) : Int) = ((x.toNat : Nat) : Int)) = true := decide_eq_true (by rw [he])
      have hs := hstop (pB_true k hkt (he.trans hx.symm))
      rw [hs, if_pos hlt]
      have e1 : ((i : Int) + 1).toNat = i + 1 := by omega
      have e2 : (l.take l.length).drop (i + 1) = l.drop (i + 1) := by rw [List.take_length]
      have e3 : (l.take i).drop 0 = l.take i := rfl
      clear hno hnext hstop
      refine zS (zA dk cI) ?_
      refine wTs ?_
      refine zS (zA ei (zA ek (zA hc (zA hx (zA eb (zA de cI)))))) ?_
      refine wT ?_
      refine zS (zA ei (zA e1 (zA e2 (zA e3 (zA @List.take_length.{0} cI))))) ?_
      exact W_ret (RetP_3 (.imm rfl) (.imm rfl) (.imm rfl))
     ·have de : decide (((c.toNat : Nat) : Int) = ((x.toNat : Nat) : Int)) = false := decide_eq_false (fun h => he (UInt8.toNat_inj.1 (by omega)))
      have e1 : ((k : Int) + 1) = ((k + 1 : Nat) : Int) := by omega
      have hno' : ∀ j, j < k + 1 → ¬ c = bs.getD j 0 := fun j hj => by
       rcases Nat.lt_or_ge j k with h | h
       ·exact hno j h
       ·rw [show j = k by omega, hx]; exact he
      clear hno hnext hstop
      refine zS (zA dk cI) ?_
      refine wTs ?_
      refine zS (zA ei (zA ek (zA hc (zA hx (zA eb (zA de cI)))))) ?_
      refine wFs ?_
      refine zS (zA e1 cI) ?_
      exact ⟨k + 1, And.intro hkt hno', by omega, by simp [subF, lk]⟩
    ·have dk : decide ((k : Int) < bs.length) = false := decide_eq_false (by omega)
     have hkl : k = bs.length := by omega
     subst hkl
     have hn := hnext (pB_false hno)
     have e1 : ((i : Int) + 1) = ((i + 1 : Nat) : Int) := by omega
     clear hno hnext hstop
     refine zS (zA dk cI) ?_
     refine W_cond rfl (fun h => by cases h) (fun _ => W_exit ?_)
     refine zS (zA e1 cI) ?_
     exact ⟨i + 1, And.intro hlt hn, by omega, by simp [subF, lk]⟩
  ·have dl : decide ((i : Int) < l.length) = false := decide_eq_false (by omega)
   rw [if_neg (by omega)]
   clear hat hbf
   refine zS (zA dl cI) ?_
   refine W_cond rfl (fun h => by cases h) (fun _ => W_exit ?_)
   refine zS cI ?_
   exact W_ret (RetP_3 (.imm rfl) (.imm rfl) (.imm rfl))
theorem p_digits_calls (l : List UInt8) (hl : l.length ≤ 100000) : PCalls Tryz.prog 132 [.str l] (.bool (digs l)) := by
 refine PCalls_of isp_digits (by simp [fnp_digits]) ?_
 unfold codep_digits
 refine zS cI ?_
 refine W_loop (σ := Nat) (fun i => [(0, .str l), (2, .bool false), (3, .int .i64 i)]) (fun _ => []) (fun i => i ≤ l.length ∧ (l.take i).all isD = true) (fun i => l.length - i) 0 (And.intro (Nat.zero_le _) rfl) ?_ rfl ?_
 ·simp [subF, lk]
 ·rintro i ⟨hi, hall⟩
  try simp only at hi hall ⊢
  by_cases hlt : i < l.length
  ·have dl : decide ((i : Int) < l.length) = true := decide_eq_true (by omega)
   have ei : (i : Int).toNat = i := Int.toNat_natCast i
   have hg2 : l.getD i 0 = l[i] := by rw [List.getD_eq_getElem?_getD, List.getElem?_eq_getElem hlt]; rfl
   have hta := take_all hlt hall
   have hmem : l[i] ∈ l := List.getElem_mem hlt
   generalize l[i] = c at *
   have hk : c.toNat < 256 := UInt8.toNat_lt c
   have eb : byteD c = .int .u8 (c.toNat : Nat) := rfl
   have e1 : ((i : Int) + 1) = ((i + 1 : Nat) : Int) := by omega
   have hbad : ¬ isD c = true → digs l = false := fun h => by
    unfold digs
    rw [Bool.and_eq_false_iff]
    right
    rw [← Bool.not_eq_true]
    exact fun k => h (List.all_eq_true.1 k c hmem)
   refine zS (zA dl cI) ?_
   refine wTs ?_
   by_cases hd : isD c = true
   ·have hd' := hd
    simp only [isD, Bool.and_eq_true, decide_eq_true_eq] at hd'
    have d5 : decide (((c.toNat : Nat) : Int) < 48) = false := decide_eq_false (by omega)
    have d6 : decide ((57 : Int) < ((c.toNat : Nat) : Int)) = false := decide_eq_false (by omega)
    have hta' := hta hd
    clear hta hall hd hbad hmem
    (replace hta' := Hid.mk hta')
    refine zS (zA ei (zA hg2 (zA eb (zA d5 (zA d6 cI))))) ?_
    refine wFs ?_
    refine zS (zA e1 cI) ?_
    exact ⟨i + 1, And.intro hlt hta'.out, by omega, by simp [subF, lk]⟩
   ·rw [hbad hd]
    clear hta hall hbad hmem
    by_cases h5 : c.toNat < 48
    ·have d5 : decide (((c.toNat : Nat) : Int) < 48) = true := decide_eq_true (by omega)
     refine zS (zA ei (zA hg2 (zA eb (zA d5 cI)))) ?_
     refine wT ?_
     refine zS cI ?_
     exact W_ret (RetP_1 (.imm rfl))
    ·have h57 : 57 < c.toNat := by
      simp only [isD, Bool.and_eq_true, decide_eq_true_eq] at hd
      omega
     have d5 : decide (((c.toNat : Nat) : Int) < 48) = false := decide_eq_false (by omega)
     have d6 : decide ((57 : Int) < ((c.toNat : Nat) : Int)) = true := decide_eq_true (by omega)
     clear hd
     refine zS (zA ei (zA hg2 (zA eb (zA d5 (zA d6 cI))))) ?_
     refine wT ?_
     refine zS cI ?_
     exact W_ret (RetP_1 (.imm rfl))
  ·have dl : decide ((i : Int) < l.length) = false := decide_eq_false (by omega)
   have hil : i = l.length := by omega
   have hdg : digs l = decide ((0 : Int) < (l.length : Int)) := by
    unfold digs
    rw [hil, List.take_length] at hall
    rw [hall, Bool.and_true, decide_eq_decide]
    omega
   rw [hdg]
   refine zS (zA dl cI) ?_
   refine W_cond rfl (fun h => by cases h) (fun _ => W_exit ?_)
   refine zS cI ?_
   exact W_ret (RetP_1 (.imm rfl))
def zrs : List UInt8 → List UInt8
 | [] => []
 | c :: l => if l = [] then [c] else if c = 48 then zrs l else c :: l
theorem zrs_sig : ∀ l : List UInt8, l.all isD = true → l ≠ [] → zrs l = sig l
 | [], _, h => absurd rfl h
 | c :: l, h, _ => by
  rw [List.all_cons, Bool.and_eq_true] at h
  unfold zrs sig
  rw [trimL_cons]
  by_cases hl : l = []
  ·subst hl
   by_cases hc : c = 48
   ·subst hc; rfl
   ·rw [if_pos rfl, if_neg hc, if_neg (by simp)]
  ·rw [if_neg hl]
   by_cases hc : c = 48
   ·rw [if_pos hc, if_pos hc, zrs_sig l h.2 hl]; rfl
   ·rw [if_neg hc, if_neg hc, if_neg (by simp)]
theorem p_zeros_calls (l : List UInt8) (hl : l.length ≤ 100000) : PCalls Tryz.prog 133 [.str l] (.str (zrs l)) := by
 refine PCalls_of isp_zeros (by simp [fnp_zeros]) ?_
 unfold codep_zeros
 refine zS cI ?_
 refine W_loop (σ := List UInt8) (fun s => [(0, .str s), (2, .str [])]) (fun _ => []) (fun s => zrs s = zrs l ∧ s.length ≤ 100000) (fun s => s.length) l (And.intro rfl hl) ?_ rfl ?_
 ·simp [subF, lk]
 ·rintro s ⟨hs, hsl⟩
  try simp only at hs hsl ⊢
  have e0 : (Int.toNat 0) = 0 := rfl
  have e1 : (Int.toNat 1) = 1 := rfl
  by_cases hlong : 1 < s.length
  case neg =>
   have d : decide ((1 : Int) < (s.length : Int)) = false := decide_eq_false (by omega)
   have hz : s = zrs l := by
    rw [← hs]
    match s, hlong with
    | [], _ => rfl
    | [c], _ => rfl
    | c :: c2 :: t, h => simp at h
   rw [← hz]
   refine zS (zA d cI) ?_
   refine W_cond rfl (fun h => by cases h) (fun _ => W_exit ?_)
   refine zS cI ?_
   exact W_ret (RetP_1 (.imm rfl))
  match s, hs, hsl, hlong with
  | c :: c2 :: t, hs, hsl, _ =>
   have d : decide ((1 : Int) < ((c :: c2 :: t).length : Int)) = true := decide_eq_true (by simp; omega)
   have hg : (c :: c2 :: t).getD 0 0 = c := rfl
   have eb : byteD c = .int .u8 (c.toNat : Nat) := rfl
   have hL : 1 < (c :: c2 :: t).length := by simp
   have htl : ((c :: c2 :: t).take (c :: c2 :: t).length).drop 1 = c2 :: t := by rw [List.take_length]; rfl
   have hlen : (c2 :: t).length < (c :: c2 :: t).length := by simp
   by_cases hc : c = 48
   ·have dc : decide (((c.toNat : Nat) : Int) = 48) = true := decide_eq_true (by rw [hc]; rfl)
    have hs' : zrs (c2 :: t) = zrs l := by
     rw [← hs]
     conv => rhs; unfold zrs
     rw [if_neg (by simp), if_pos hc]
    generalize c :: c2 :: t = S at *
    refine zS (zA d (zA e0 (zA hg (zA eb (zA dc cI))))) ?_
    refine wTs ?_
    refine zS (zA e1 (zA htl cI)) ?_
    exact ⟨c2 :: t, And.intro hs' (by omega), hlen, by simp [subF, lk]⟩
   ·have dc : decide (((c.toNat : Nat) : Int) = 48) = false := decide_eq_false (fun h => hc (UInt8.toNat_inj.1 (show c.toNat = 48 by omega)))
    have hs' : c :: c2 :: t = zrs l := by
     rw [← hs]
     conv => rhs; unfold zrs
     rw [if_neg (by simp), if_neg hc]
    rw [← hs']
    generalize c :: c2 :: t = S at *
    refine zS (zA d (zA e0 (zA hg (zA eb (zA dc cI))))) ?_
    refine W_cond rfl (fun h => by cases h) (fun _ => W_exit ?_)
    refine zS cI ?_
    exact W_ret (RetP_1 (.imm rfl))
theorem rParse_pn (a : List UInt8) : PCalls Tryz.prog 73 [.str a] (.tup [.sl 1 (us (limbs (pn a))), .bool (okD a)]) := by
 have := rParse_calls a
 rwa [parseR_pn] at this
theorem rUint_pn (a : List UInt8) (hl : a.length ≤ 1000) : PCalls Tryz.prog 75 [.sl 1 (us (limbs (pn a)))] (uintR (pn a)) := by
 have hx : (limbs (pn a)).length ≤ 1000 := by
  unfold pn
  by_cases h : okD a = true
  ·rw [if_pos h]; exact dval_le (okD_all h) hl
  ·rw [if_neg h, limbs_zero]; simp
 have := rUint_calls (limbs (pn a)) (by omega) (lim_limbs _)
 rwa [vn_limbs] at this
theorem pcut46 (m : List UInt8) (hl : m.length ≤ 100000) : PCalls Tryz.prog 72 [.str m, .str [46]] (.tup [.str (decN m), .str (decF m), .int .i64 (idx is46 m)]) := by
 have cc := p_cut_calls m [46] hl (by decide)
 rw [pB46] at cc
 unfold pcutR at cc
 unfold decN decF idx
 by_cases h : fi is46 m < m.length
 ·rw [if_pos h] at cc ⊢; exact cc
 ·rw [if_neg h] at cc ⊢
  rw [List.take_of_length_le (by omega), List.drop_eq_nil_of_le (by omega)]
  exact cc
def decimalR (m : List UInt8) : DV := if decOk m then .tup [Q (mkRat (dval 0 (decN m ++ decF m) : Nat) (10 ^ (decF m).length)), .bool true] else .tup [Q 0, .bool false]
theorem rMul10 (i : Nat) (h : i ≤ 900) : PCalls Tryz.prog 84 [.sl 1 (us (limbs (10 ^ i))), .sl 1 (us (limbs 10))] (.sl 1 (us (limbs (10 ^ (i + 1))))) := by
 have h1 := ten_len i
 have := rMul_calls (limbs (10 ^ i)) (limbs 10) (by omega) (Nat.le_trans limbs10 (by decide)) (lim_limbs _) (lim_limbs _)
 rwa [vn_limbs, vn_limbs, ← Nat.pow_succ] at this
set_option maxHeartbeats 2000000 in
theorem p_decimal_calls (m : List UInt8) (hm : m.length ≤ 800) : PCalls Tryz.prog 74 [.str m] (decimalR m) := by
 have cc := pcut46 m (by omega)
 have hge := idx_ge is46 m
 have c2 := rParse_pn (decN m)
 have c3 := p_digits_calls (decF m) (by have := decN_len m; omega)
 have hNF := decN_len m
 have hfe : decide (fi is46 m = m.length) = !decide (fi is46 m < m.length) := by
  have := fi_le is46 m
  by_cases h : fi is46 m < m.length
  ·rw [decide_eq_true h, decide_eq_false (by omega)]; rfl
  ·rw [decide_eq_false h, decide_eq_true (by omega)]; rfl
 have c5 := p_zeros_calls (decN m ++ decF m) (by rw [List.length_append]; omega)
 have c6 := rParse_pn (sig (decN m ++ decF m))
 have hgood : decOk m = true → zrs (decN m ++ decF m) = sig (decN m ++ decF m) ∧ okD (sig (decN m ++ decF m)) = true ∧ dval 0 (sig (decN m ++ decF m)) = dval 0 (decN m ++ decF m) ∧ (limbs (dval 0 (decN m ++ decF m))).length ≤ 800 := fun h => by
  obtain ⟨h1, h2⟩ := decOk_all h
  obtain ⟨h3, h4⟩ := sig_ok h1 h2
  refine ⟨zrs_sig _ h1 ?_, h3, h4, dval_le h1 (by rw [List.length_append]; omega)⟩
  unfold decOk at h
  simp only [Bool.and_eq_true] at h
  have := digs_ne h.1.1
  exact fun e => this (List.append_eq_nil_iff.1 e).1
 have d4 : decide ((4000 : Int) < ((decN m).length : Int) + ((decF m).length : Int)) = false := decide_eq_false (by omega)
 have d4' : decide ((decN m).length + (decF m).length ≤ 4000) = true := decide_eq_true (by omega)
 have hdef : decOk m = (okD (decN m) && (decide (fi is46 m = m.length) || digs (decF m)) && decide ((decN m).length + (decF m).length ≤ 4000)) := rfl
 rw [hfe, d4', Bool.and_true] at hdef
 clear hfe d4'
 refine PCalls_of isp_decimal (by simp [fnp_decimal]) ?_
 unfold codep_decimal decimalR
 generalize decOk m = ok at *
 generalize decide (fi is46 m < m.length) = pt at *
 generalize idx is46 m = AT at *
 generalize decN m = N at *
 generalize decF m = F at *
 by_cases ho : ok = true
 ·obtain ⟨g0, g1, g2, g3⟩ := hgood ho
  rw [g0] at c5
  unfold pn at c6
  rw [g1, if_pos rfl, g2] at c6
  subst ho
  rw [if_pos rfl]
  have hN : okD N = true := by
   cases h : okD N
   ·rw [h] at hdef; simp at hdef
   ·rfl
  have hP : pt = true → digs F = true := fun hpt => by
   cases h : digs F
   ·rw [h, hpt] at hdef; simp at hdef
   ·rfl
  rw [hN] at c2
  have t1 := ten_len F.length
  have cov := p_over_calls ((dval 0 (N ++ F) : Nat) : Int) ((10 ^ F.length : Nat) : Int) (by have := ten_ne F.length; omega) (il_nat (Nat.le_trans g3 (by decide))) (il_nat (by omega))
  rw [Rat.divInt_ofNat, I_nat, I_nat] at cov
  generalize dval 0 (N ++ F) = v at *
  clear hgood hdef g0 g1 g2 g3 t1
  have hloop : ∀ (K : Fr → Hp → Prop), True := fun _ => trivial
  clear hloop
  have l1 : limbs (10 ^ 0) = limbs 1 := rfl
  cases pt
  ·repeat (first | refine zQ (zA d4 (zA hge (zA @cS (zA @cT (zA @nbp_decimal cI))))) ?_ | refine cP cc ?_ | refine cP c2 ?_ | refine cP c3 ?_ | exact zT)
   refine wFs ?_
   repeat (first | refine zQ (zA @us_rfd (zA @us1L (zA @cS (zA @cT cI)))) ?_ | refine cP c5 ?_ | refine cP c6 ?_ | exact zT)
   refine W_loop (σ := Nat) (fun i => [(2, .ptr 2 0), (3, .bool false), (5, .str F), (9, .sl 1 (us (limbs v))), (10, .bool true), (11, .sl 1 (us (limbs (10 ^ i)))), (12, .int .i64 i)]) (fun _ => [(2, [.bool false, .nils, .nils])]) (fun i => i ≤ F.length) (fun i => F.length - i) 0 (Nat.zero_le _) ?_ rfl ?_
   ·simp [subF, lk, l1]
   ·rintro i hi
    try simp only at hi ⊢
    by_cases hlt : i < F.length
    ·have dl : decide ((i : Int) < F.length) = true := decide_eq_true (by omega)
     have e1 : ((i : Int) + 1) = ((i + 1 : Nat) : Int) := by omega
     have cm := rMul10 i (by omega)
     refine zS (zA dl cI) ?_
     refine wTs ?_
     repeat (first | refine zQ (zA @l10 (zA @us_rfd (zA e1 cI))) ?_ | refine cP cm ?_ | exact zT)
     exact ⟨i + 1, hlt, by omega, by simp [subF, lk]⟩
    ·have dl : decide ((i : Int) < F.length) = false := decide_eq_false (by omega)
     rw [show i = F.length by omega] at dl ⊢
     generalize 10 ^ F.length = TF at *
     refine zS (zA dl cI) ?_
     refine W_cond rfl (fun h => by cases h) (fun _ => W_exit ?_)
     repeat (first | refine zQ (zA @Q.eq_1 (zA @cS (zA @cT (zA @nbp_decimal cI)))) ?_ | refine cP cov ?_ | exact zT)
     exact W_ret (RetP_ct rfl rfl rfl (.imm rfl) (.imm rfl))
  ·rw [hP rfl] at c3
   repeat (first | refine zQ (zA d4 (zA hge (zA @cS (zA @cT (zA @nbp_decimal cI))))) ?_ | refine cP cc ?_ | refine cP c2 ?_ | refine cP c3 ?_ | exact zT)
   refine wFs ?_
   repeat (first | refine zQ (zA @us_rfd (zA @us1L (zA @cS (zA @cT cI)))) ?_ | refine cP c5 ?_ | refine cP c6 ?_ | exact zT)
   refine W_loop (σ := Nat) (fun i => [(2, .ptr 2 0), (3, .bool false), (5, .str F), (9, .sl 1 (us (limbs v))), (10, .bool true), (11, .sl 1 (us (limbs (10 ^ i)))), (12, .int .i64 i)]) (fun _ => [(2, [.bool false, .nils, .nils])]) (fun i => i ≤ F.length) (fun i => F.length - i) 0 (Nat.zero_le _) ?_ rfl ?_
   ·simp [subF, lk, l1]
   ·rintro i hi
    try simp only at hi ⊢
    by_cases hlt : i < F.length
    ·have dl : decide ((i : Int) < F.length) = true := decide_eq_true (by omega)
     have e1 : ((i : Int) + 1) = ((i + 1 : Nat) : Int) := by omega
     have cm := rMul10 i (by omega)
     refine zS (zA dl cI) ?_
     refine wTs ?_
     repeat (first | refine zQ (zA @l10 (zA @us_rfd (zA e1 cI))) ?_ | refine cP cm ?_ | exact zT)
     exact ⟨i + 1, hlt, by omega, by simp [subF, lk]⟩
    ·have dl : decide ((i : Int) < F.length) = false := decide_eq_false (by omega)
     rw [show i = F.length by omega] at dl ⊢
     generalize 10 ^ F.length = TF at *
     refine zS (zA dl cI) ?_
     refine W_cond rfl (fun h => by cases h) (fun _ => W_exit ?_)
     repeat (first | refine zQ (zA @Q.eq_1 (zA @cS (zA @cT (zA @nbp_decimal cI)))) ?_ | refine cP cov ?_ | exact zT)
     exact W_ret (RetP_ct rfl rfl rfl (.imm rfl) (.imm rfl))
 ·have ho' : ok = false := by simpa using ho
  rw [ho'] at hdef
  subst ho'
  rw [if_neg ho, Q0]
  clear hgood c5 c6
  cases hN : okD N
  ·rw [hN] at c2
   repeat (first | refine zQ (zA d4 (zA hge (zA @cS (zA @cT (zA @nbp_decimal cI))))) ?_ | refine cP cc ?_ | refine cP c2 ?_ | refine cP c3 ?_ | exact zT)
   refine wT ?_
   refine zS (zA @cS (zA @cT (zA @nbp_decimal cI))) ?_
   exact W_ret (RetP_ct rfl rfl rfl (Exp_bnn _ _ _) (.imm rfl))
  ·rw [hN] at c2 hdef
   have hpt : pt = true := by
    cases pt
    ·simp at hdef
    ·rfl
   subst hpt
   have hF : digs F = false := by simpa using hdef.symm
   rw [hF] at c3
   repeat (first | refine zQ (zA d4 (zA hge (zA @cS (zA @cT (zA @nbp_decimal cI))))) ?_ | refine cP cc ?_ | refine cP c2 ?_ | refine cP c3 ?_ | exact zT)
   refine wT ?_
   refine zS (zA @cS (zA @cT (zA @nbp_decimal cI))) ?_
   exact W_ret (RetP_ct rfl rfl rfl (Exp_bnn _ _ _) (.imm rfl))
theorem rPow10' (k : Nat) (h : k ≤ 64) : PCalls Tryz.prog 134 [.sl 1 (us (limbs 10)), .int .i64 k] (.sl 1 (us (limbs (10 ^ k)))) := by
 have := rPower_calls (limbs 10) k (Nat.le_trans limbs10 (by decide)) (lim_limbs _)
 unfold pw at this
 rwa [if_neg (by omega), Int.toNat_natCast, vn_limbs] at this
theorem Q_nat' (n : Nat) : Q (((n : Nat) : Int) : Rat) = .agg [.bool false, .sl 1 (us (limbs n)), .sl 1 []] := by
 rw [Q_int, decide_eq_false (by omega), Int.natAbs_natCast]
theorem p_scaled_calls (x : Rat) (neg : Bool) (k : Nat) (hk : k ≤ 40) (hx : RB x 300) :
  PCalls Tryz.prog 76 [Q x, .bool neg, .int .i64 k] (Q (if neg then x / (((10 ^ k : Nat) : Int) : Rat) else x * (((10 ^ k : Nat) : Int) : Rat))) := by
 have t := ten_len k
 have rT : RB (((10 ^ k : Nat) : Int) : Rat) 300 := RB_int (by rw [Int.natAbs_natCast]; omega) (by decide)
 have c1 := rPow10' k (by omega)
 have c2 := pQuoL x _ (ten_cast_ne k) hx rT
 have c3 := pMulL x _ hx rT
 refine PCalls_of isp_scaled (by simp [fnp_scaled]) ?_
 unfold codep_scaled
 cases neg
 ·rw [if_neg (by decide)]
  generalize x * (((10 ^ k : Nat) : Int) : Rat) = z at *
  rw [Q_nat'] at c3
  generalize 10 ^ k = T at *
  repeat (first | refine zQ (zA @Q.eq_1 (zA @cS (zA @cT (zA @nbp_scaled (zA @l10 (zA @us_rfd cI)))))) ?_ | refine cP c1 ?_ | exact zT)
  refine wFs ?_
  repeat (first | refine zQ (zA @Q.eq_1 (zA @cS (zA @cT (zA @nbp_scaled cI)))) ?_ | refine cP (PCalls_nz1 1 (c3)) ?_ | exact zT)
 ·rw [if_pos rfl]
  generalize x / (((10 ^ k : Nat) : Int) : Rat) = z at *
  rw [Q_nat'] at c2
  generalize 10 ^ k = T at *
  repeat (first | refine zQ (zA @Q.eq_1 (zA @cS (zA @cT (zA @nbp_scaled (zA @l10 (zA @us_rfd cI)))))) ?_ | refine cP c1 ?_ | exact zT)
  refine wT ?_
  repeat (first | refine zQ (zA @Q.eq_1 (zA @cS (zA @cT (zA @nbp_scaled cI)))) ?_ | refine cP (PCalls_nz1 1 (c2)) ?_ | exact zT)
def tailP : DC := match codepParse with | .seq _ (.seq _ t) => t | _ => .skip
theorem pcut47 (m : List UInt8) (hl : m.length ≤ 100000) : PCalls Tryz.prog 72 [.str m, .str [47]] (pcutR is47 m) := by
 have cc := p_cut_calls m [47] hl (by decide)
 rwa [pB47] at cc
theorem pcutE (m : List UInt8) (hl : m.length ≤ 100000) : PCalls Tryz.prog 72 [.str m, .str [101, 69]] (pcutR isE m) := by
 have cc := p_cut_calls m [101, 69] hl (by decide)
 rwa [pBE] at cc
theorem ten_lt9 (k : Nat) : 10 ^ k < 4294967296 ^ (k / 9 + 1) := by
 have h : k = 9 * (k / 9) + k % 9 := (Nat.div_add_mod k 9).symm
 have h1 : 10 ^ k = (10 ^ 9) ^ (k / 9) * 10 ^ (k % 9) := by
  rw [← Nat.pow_mul, ← Nat.pow_add, ← h]
 have h2 : (10 ^ 9) ^ (k / 9) ≤ 4294967296 ^ (k / 9) := Nat.pow_le_pow_left (by decide) _
 have h3 : 10 ^ (k % 9) < 4294967296 := Nat.lt_of_le_of_lt (Nat.pow_le_pow_right (by decide) (show k % 9 ≤ 8 by omega)) (by decide)
 have h4 : 0 < 4294967296 ^ (k / 9) := Nat.pow_pos (by decide)
 rw [h1, Nat.pow_succ]
 exact Nat.lt_of_le_of_lt (Nat.mul_le_mul_right _ h2) (Nat.mul_lt_mul_of_pos_left h3 h4)
theorem ten_len9 (k : Nat) : (limbs (10 ^ k)).length ≤ k / 9 + 1 := limbs_len.2 (ten_lt9 k)
theorem dval_len9 {l : List UInt8} (h : l.all isD = true) : (limbs (dval 0 l)).length ≤ l.length / 9 + 1 :=
 limbs_len.2 (Nat.lt_trans (dval_lt l h) (ten_lt9 _))
theorem decOk_RB {m : List UInt8} (h : decOk m = true) (hm : m.length ≤ 450) : RB (mkRat (dval 0 (decN m ++ decF m) : Nat) (10 ^ (decF m).length)) 300 := by
 obtain ⟨h1, _⟩ := decOk_all h
 have hNF := decN_len m
 have t := ten_len9 (decF m).length
 have := dval_len9 h1
 rw [List.length_append] at this
 exact RB_mk (ten_ne _) (by rw [Int.natAbs_natCast]; omega) (by omega)
theorem dash_no {e : List UInt8} (h : ¬ e.head? = some 45) : e = [] ∨ ∃ c t, e = c :: t ∧ ¬ ((c.toNat : Nat) : Int) = 45 := by
 cases e with
 | nil => exact .inl rfl
 | cons c t => exact .inr ⟨c, t, rfl, fun k => h (by rw [List.head?_cons, UInt8.toNat_inj.1 (show c.toNat = (45 : UInt8).toNat from (by show c.toNat = 45; omega))])⟩
theorem limbs_nil_d (n : Nat) : decide (((limbs n).length : Int) = 0) = decide (n = 0) := by
 rw [decide_eq_decide]
 constructor
 ·intro h
  have h1 : (limbs n).length = 0 := by omega
  have h2 := vn_limbs n
  rw [List.length_eq_zero_iff.1 h1] at h2
  exact h2.symm
 ·intro h; rw [h, limbs_zero]; rfl
def XL (r : Rat) : List DV := [.bool (decide (r.num < 0)), .sl 1 (us (limbs r.num.natAbs)), .sl 1 (us (dn r.den))]
def sclR (x : Rat) (e : List UInt8) : DV := if expOk e then .tup [Q (if decide (e.head? = some 45) then x / (((10 ^ (dval 0 (expD e)) : Nat) : Int) : Rat) else x * (((10 ^ (dval 0 (expD e)) : Nat) : Int) : Rat)), .bool true] else .tup [Q 0, .bool false]
def tail2 : DC := match tailP with | .seq _ (.seq _ (.seq _ (.seq _ t))) => t | _ => .skip
def tail3 : DC := match tail2 with | .seq _ (.seq _ t) => t | _ => .skip
set_option maxHeartbeats 1000000 in
theorem tail3_W (s m e : List UInt8) (x : Rat) (neg : Bool) (at_ : Int) (hx : RB x 300) (he : e.length ≤ 450) :
  W fnpParse tail3 (RetP respParse (if okD e && decide (dval 0 e ≤ 40) then .tup [Q (if neg then x / (((10 ^ (dval 0 e) : Nat) : Int) : Rat) else x * (((10 ^ (dval 0 e) : Nat) : Int) : Rat)), .bool true] else .tup [Q 0, .bool false]))
   [(0, .str s), (2, .ptr 2 0), (3, .bool false), (13, .str m), (14, .str e), (15, .int .i64 at_), (16, .ptr 16 0), (17, .bool true), (18, .bool neg)] [(2, [.bool false, .nils, .nils]), (16, XL x)] := by
 have c3 := rParse_pn e
 have c4 := rUint_pn e (by omega)
 unfold tail3 tail2 tailP codepParse
 dsimp only
 unfold pn at c3 c4
 cases ho : okD e
 ·rw [ho] at c3 c4
  simp only [Bool.false_eq_true, if_false] at c3 c4
  rw [uintR_small (by decide)] at c4
  rw [Bool.false_and, if_neg (by decide), Q0]
  repeat (first | refine zQ (zA @XL.eq_1 (zA @cS (zA @cT (zA @nbpParse cI)))) ?_ | refine cP c3 ?_ | refine cP c4 ?_ | exact zT)
  refine wT ?_
  refine zS (zA @XL.eq_1 (zA @cS (zA @cT (zA @nbpParse cI)))) ?_
  exact W_ret (RetP_ct rfl rfl rfl (Exp_bnn _ _ _) (.imm rfl))
 ·rw [ho, if_pos rfl] at c3 c4
  rw [Bool.true_and]
  generalize dval 0 e = v at *
  by_cases hs : v < 18446744073709551616
  ·rw [uintR_small hs] at c4
   by_cases h40 : v ≤ 40
   ·have d40 : decide ((40 : Int) < (v : Int)) = false := decide_eq_false (by omega)
    have c5 := p_scaled_calls x neg v h40 hx
    rw [if_pos (decide_eq_true h40)]
    clear hs
    generalize (if neg = true then x / (((10 ^ v : Nat) : Int) : Rat) else x * (((10 ^ v : Nat) : Int) : Rat)) = z at *
    repeat (first | refine zQ (zA @XL.eq_1 (zA @Q.eq_1 (zA d40 (zA @cS (zA @cT (zA @nbpParse cI)))))) ?_ | refine cP c3 ?_ | refine cP c4 ?_ | exact zT)
    refine wFs ?_
    repeat (first | refine zQ (zA @XL.eq_1 (zA @Q.eq_1 (zA @cS (zA @cT (zA @nbpParse cI))))) ?_ | refine cP c5 ?_ | exact zT)
    exact W_ret (RetP_ct rfl rfl rfl (.imm rfl) (.imm rfl))
   ·have d40 : decide ((40 : Int) < (v : Int)) = true := decide_eq_true (by omega)
    rw [if_neg (by simpa using h40), Q0]
    repeat (first | refine zQ (zA @XL.eq_1 (zA d40 (zA @cS (zA @cT (zA @nbpParse cI))))) ?_ | refine cP c3 ?_ | refine cP c4 ?_ | exact zT)
    refine wT ?_
    refine zS (zA @XL.eq_1 (zA @cS (zA @cT (zA @nbpParse cI)))) ?_
    exact W_ret (RetP_ct rfl rfl rfl (Exp_bnn _ _ _) (.imm rfl))
  ·rw [uintR_big hs] at c4
   rw [if_neg (by simp; omega), Q0]
   clear hs
   repeat (first | refine zQ (zA @XL.eq_1 (zA @cS (zA @cT (zA @nbpParse cI)))) ?_ | refine cP c3 ?_ | refine cP c4 ?_ | exact zT)
   refine wT ?_
   refine zS (zA @XL.eq_1 (zA @cS (zA @cT (zA @nbpParse cI)))) ?_
   exact W_ret (RetP_ct rfl rfl rfl (Exp_bnn _ _ _) (.imm rfl))
theorem expD_45 (t : List UInt8) : expD (45 :: t) = t := by unfold expD; rw [List.head?_cons, if_pos rfl]; rfl
theorem expD_ne {e : List UInt8} (h : ¬ e.head? = some 45) : expD e = e := by unfold expD; rw [if_neg h]
set_option maxHeartbeats 1000000 in
theorem tail2_W (s m e : List UInt8) (x : Rat) (at_ : Int) (hx : RB x 300) (he : e.length ≤ 450) :
  W fnpParse tail2 (RetP respParse (sclR x e)) [(0, .str s), (2, .ptr 2 0), (3, .bool false), (13, .str m), (14, .str e), (15, .int .i64 at_), (16, .ptr 16 0), (17, .bool true)] [(2, [.bool false, .nils, .nils]), (16, XL x)] := by
 have t3 := tail3_W s m (expD e) x (decide (e.head? = some 45)) at_ hx (by unfold expD; split; (rw [List.length_tail]; omega); exact he)
 have hR : sclR x e = (if okD (expD e) && decide (dval 0 (expD e) ≤ 40) then .tup [Q (if decide (e.head? = some 45) then x / (((10 ^ (dval 0 (expD e)) : Nat) : Int) : Rat) else x * (((10 ^ (dval 0 (expD e)) : Nat) : Int) : Rat)), .bool true] else .tup [Q 0, .bool false]) := rfl
 rw [hR]
 clear hR
 generalize hT : tail3 = T at *
 unfold tail2 tailP codepParse
 dsimp only
 have hT2 := hT
 unfold tail3 tail2 tailP codepParse at hT2
 dsimp only at hT2
 rw [hT2]
 clear hT hT2
 generalize (if okD (expD e) && decide (dval 0 (expD e) ≤ 40) then DV.tup [Q (if decide (e.head? = some 45) then x / (((10 ^ (dval 0 (expD e)) : Nat) : Int) : Rat) else x * (((10 ^ (dval 0 (expD e)) : Nat) : Int) : Rat)), .bool true] else .tup [Q 0, .bool false]) = R at *
 have e0 : (Int.toNat 0) = 0 := rfl
 have e1 : (Int.toNat 1) = 1 := rfl
 by_cases hd : e.head? = some 45
 ·rw [decide_eq_true hd] at t3
  match e, hd, he, t3 with
  | c :: t, hd, he, t3 =>
   rw [List.head?_cons, Option.some.injEq] at hd
   subst hd
   rw [expD_45] at t3
   have dl : decide ((0 : Int) < (((45 : UInt8) :: t).length : Int)) = true := decide_eq_true (by rw [List.length_cons]; omega)
   have hg : ((45 : UInt8) :: t).getD 0 0 = 45 := rfl
   have eb : byteD 45 = .int .u8 45 := rfl
   have htl : (((45 : UInt8) :: t).take ((45 : UInt8) :: t).length).drop 1 = t := by rw [List.take_length]; rfl
   have hL : 1 ≤ ((45 : UInt8) :: t).length := by simp
   generalize ((45 : UInt8) :: t) = E at *
   refine zS (zA dl (zA e0 (zA hg (zA eb (zA @XL.eq_1 cI))))) ?_
   refine zS cI ?_
   refine wT ?_
   refine zS (zA e1 (zA htl cI)) ?_
   refine W_sub ?_ t3
   simp [subF, lk]
 ·rw [decide_eq_false hd, expD_ne hd] at t3
  rcases dash_no hd with h0 | ⟨c, t, rfl, hc⟩
  ·have dl : decide ((0 : Int) < (e.length : Int)) = false := decide_eq_false (by rw [h0]; decide)
   clear h0
   refine zS (zA @XL.eq_1 (zA dl cI)) ?_
   refine zS cI ?_
   refine wFs ?_
   refine W_sub ?_ t3
   simp [subF, lk]
  ·have dl : decide ((0 : Int) < ((c :: t).length : Int)) = true := decide_eq_true (by rw [List.length_cons]; omega)
   have hg : (c :: t).getD 0 0 = c := rfl
   have eb : byteD c = .int .u8 (c.toNat : Nat) := rfl
   have dc : decide (((c.toNat : Nat) : Int) = 45) = false := decide_eq_false hc
   have hL : 0 < (c :: t).length := by simp
   generalize (c :: t) = E at *
   refine zS (zA dl (zA e0 (zA hg (zA eb (zA dc (zA @XL.eq_1 cI)))))) ?_
   refine zS cI ?_
   refine wFs ?_
   refine W_sub ?_ t3
   simp [subF, lk]
set_option maxHeartbeats 4000000 in
theorem tailP_W (s : List UInt8) (hs : s.length ≤ 450) : W fnpParse tailP (RetP respParse (resQ (unsQ s))) [(0, .str s), (2, .ptr 2 0), (3, .bool false)] [(2, [.bool false, .nils, .nils])] := by
 have cs := pcut47 s (by omega)
 have ce := pcutE s (by omega)
 have h47 := fi_le is47 s
 have hE := fi_le isE s
 unfold pcutR at cs ce
 by_cases h1 : fi is47 s < s.length
 ·rw [if_pos h1] at cs
  unfold unsQ
  rw [if_pos h1]
  clear ce hE
  have g0 : decide ((0 : Int) ≤ ((fi is47 s : Nat) : Int)) = true := decide_eq_true (by omega)
  have lA : (s.take (fi is47 s)).length ≤ 450 := by rw [List.length_take]; omega
  have lB : (s.drop (fi is47 s + 1)).length ≤ 450 := by rw [List.length_drop]; omega
  clear h1
  generalize s.take (fi is47 s) = A at *
  generalize s.drop (fi is47 s + 1) = B at *
  have c1 := rParse_pn A
  have c2 := rParse_pn B
  unfold pn at c1 c2
  unfold tailP codepParse
  dsimp only
  cases hA : okD A
  ·rw [hA] at c1
   simp only [Bool.false_and, Bool.false_eq_true, if_false] at c1 ⊢
   unfold resQ
   dsimp only
   rw [Q0]
   repeat (first | refine zQ (zA g0 (zA @cS (zA @cT (zA @nbpParse cI)))) ?_ | refine cP cs ?_ | exact zT)
   refine wT ?_
   repeat (first | refine zQ (zA @us_length (zA @cS (zA @cT (zA @nbpParse cI)))) ?_ | refine cP c1 ?_ | refine cP c2 ?_ | exact zT)
   refine wT ?_
   refine zS (zA @cS (zA @cT (zA @nbpParse cI))) ?_
   exact W_ret (RetP_ct rfl rfl rfl (Exp_bnn _ _ _) (.imm rfl))
  ·rw [hA, if_pos rfl] at c1
   cases hB : okD B
   ·rw [hB] at c2
    simp only [Bool.false_and, Bool.true_and, Bool.false_eq_true, if_false] at c2 ⊢
    unfold resQ
    dsimp only
    rw [Q0]
    repeat (first | refine zQ (zA g0 (zA @cS (zA @cT (zA @nbpParse cI)))) ?_ | refine cP cs ?_ | exact zT)
    refine wT ?_
    repeat (first | refine zQ (zA @us_length (zA @cS (zA @cT (zA @nbpParse cI)))) ?_ | refine cP c1 ?_ | refine cP c2 ?_ | exact zT)
    refine wT ?_
    refine zS (zA @cS (zA @cT (zA @nbpParse cI))) ?_
    exact W_ret (RetP_ct rfl rfl rfl (Exp_bnn _ _ _) (.imm rfl))
   ·rw [hB, if_pos rfl] at c2
    simp only [Bool.true_and]
    have dA := dval_le (okD_all hA) lA
    have dB := dval_le (okD_all hB) lB
    generalize dval 0 A = a at *
    generalize dval 0 B = b at *
    by_cases hb : b = 0
    ·have db : decide (b = 0) = true := decide_eq_true hb
     rw [if_neg (by simp; omega)]
     unfold resQ
     dsimp only
     rw [Q0]
     repeat (first | refine zQ (zA g0 (zA @cS (zA @cT (zA @nbpParse cI)))) ?_ | refine cP cs ?_ | exact zT)
     refine wT ?_
     repeat (first | refine zQ (zA @us_length (zA @limbs_nil_d (zA db (zA @cS (zA @cT (zA @nbpParse cI)))))) ?_ | refine cP c1 ?_ | refine cP c2 ?_ | exact zT)
     refine wT ?_
     refine zS (zA @cS (zA @cT (zA @nbpParse cI))) ?_
     exact W_ret (RetP_ct rfl rfl rfl (Exp_bnn _ _ _) (.imm rfl))
    ·have db : decide (b = 0) = false := decide_eq_false hb
     rw [if_pos (by simp; omega)]
     unfold resQ
     dsimp only
     have cov := p_over_calls ((a : Nat) : Int) ((b : Nat) : Int) (by omega) (il_nat (by omega)) (il_nat (by omega))
     rw [Rat.divInt_ofNat, I_nat, I_nat] at cov
     generalize mkRat ((a : Nat) : Int) b = z at *
     repeat (first | refine zQ (zA g0 (zA @cS (zA @cT (zA @nbpParse cI)))) ?_ | refine cP cs ?_ | exact zT)
     refine wT ?_
     repeat (first | refine zQ (zA @us_length (zA @limbs_nil_d (zA db (zA @cS (zA @cT (zA @nbpParse cI)))))) ?_ | refine cP c1 ?_ | refine cP c2 ?_ | exact zT)
     refine wFs ?_
     repeat (first | refine zQ (zA @Q.eq_1 (zA @cS (zA @cT (zA @nbpParse cI)))) ?_ | refine cP cov ?_ | exact zT)
     exact W_ret (RetP_ct rfl rfl rfl (.imm rfl) (.imm rfl))
 ·rw [if_neg h1] at cs
  unfold unsQ
  rw [if_neg h1]
  have ht := tail2_W s
  generalize hT : tail2 = T at *
  have hT2 := hT
  unfold tail2 tailP codepParse at hT2
  dsimp only at hT2
  unfold tailP codepParse
  dsimp only
  rw [hT2]
  clear hT hT2 h1 h47
  by_cases h2 : fi isE s < s.length
  ·rw [if_pos h2] at ce ⊢
   have g0 : decide (((fi isE s : Nat) : Int) < 0) = false := decide_eq_false (by omega)
   have lM : (s.take (fi isE s)).length ≤ 450 := by rw [List.length_take]; omega
   have lE : (s.drop (fi isE s + 1)).length ≤ 450 := by rw [List.length_drop]; omega
   have cd := p_decimal_calls (s.take (fi isE s)) (by omega)
   have hRB := @decOk_RB (s.take (fi isE s))
   have hsq : ∀ (c : Bool) (r : Rat), (if c then some r else none : Option Rat) = (if c then some r else none) := fun _ _ => rfl
   clear hsq
   generalize s.take (fi isE s) = M at *
   generalize s.drop (fi isE s + 1) = E at *
   generalize ((fi isE s : Nat) : Int) = AT at *
   unfold decimalR at cd
   cases ho : decOk M
   ·rw [ho, if_neg (by decide), Q0] at cd
    rw [Bool.and_false, if_neg (by decide)]
    unfold resQ
    dsimp only
    rw [Q0]
    clear ht hRB
    repeat (first | refine zQ (zA @cS (zA @cT (zA @nbpParse cI))) ?_ | refine cP cs ?_ | exact zT)
    refine wFs ?_
    repeat (first | refine zQ (zA g0 (zA @cS (zA @cT (zA @nbpParse cI)))) ?_ | refine cP ce ?_ | refine cP cd ?_ | exact zT)
    refine wT ?_
    refine zS (zA @cS (zA @cT (zA @nbpParse cI))) ?_
    exact W_ret (RetP_ct rfl rfl rfl (.imm rfl) (.imm rfl))
   ·rw [ho, if_pos rfl] at cd
    have ht := ht M E _ AT (hRB ho lM) lE
    rw [Bool.and_true]
    have hres : resQ (if expOk E then some (scl (decide (E.head? = some 45)) ((dval 0 (decN M ++ decF M) : Nat) : Int) (10 ^ (decF M).length) (dval 0 (expD E))) else none) = sclR (mkRat (dval 0 (decN M ++ decF M) : Nat) (10 ^ (decF M).length)) E := by
     unfold sclR
     cases expOk E
     ·rfl
     ·rw [if_pos rfl, if_pos rfl, scl_mul]; rfl
    rw [hres]
    clear hres hRB
    generalize sclR (mkRat (dval 0 (decN M ++ decF M) : Nat) (10 ^ (decF M).length)) E = R at *
    generalize mkRat (dval 0 (decN M ++ decF M) : Nat) (10 ^ (decF M).length) = z at *
    repeat (first | refine zQ (zA @cS (zA @cT (zA @nbpParse cI))) ?_ | refine cP cs ?_ | exact zT)
    refine wFs ?_
    repeat (first | refine zQ (zA @Q.eq_1 (zA g0 (zA @cS (zA @cT (zA @nbpParse cI))))) ?_ | refine cP ce ?_ | refine cP cd ?_ | exact zT)
    refine wFs ?_
    refine W_sub ?_ ht
    simp [subF, lk]
  ·rw [if_neg h2] at ce ⊢
   have cd := p_decimal_calls s (by omega)
   unfold decimalR at cd
   clear ht
   have hres : resQ (if decOk s then some (mkRat (dval 0 (decN s ++ decF s) : Nat) (10 ^ (decF s).length)) else none) = (if decOk s then .tup [Q (mkRat (dval 0 (decN s ++ decF s) : Nat) (10 ^ (decF s).length)), .bool true] else .tup [Q 0, .bool false]) := by
    cases decOk s <;> rfl
   rw [hres]
   clear hres
   generalize mkRat (dval 0 (decN s ++ decF s) : Nat) (10 ^ (decF s).length) = z at *
   cases ho : decOk s
   ·rw [ho, if_neg (by decide)] at cd
    rw [if_neg (by decide)]
    repeat (first | refine zQ (zA @cS (zA @cT (zA @nbpParse cI))) ?_ | refine cP cs ?_ | exact zT)
    refine wFs ?_
    repeat (first | refine zQ (zA @Q.eq_1 (zA (show decide ((-1 : Int) < 0) = true from rfl) (zA @cS (zA @cT (zA @nbpParse cI))))) ?_ | refine cP ce ?_ | refine cP cd ?_ | exact zT)
    refine wT ?_
    refine zS (zA @cS (zA @cT (zA @nbpParse cI))) ?_
    exact W_ret (RetP_ct rfl rfl rfl (.imm rfl) (.imm rfl))
   ·rw [ho, if_pos rfl] at cd
    rw [if_pos rfl]
    repeat (first | refine zQ (zA @cS (zA @cT (zA @nbpParse cI))) ?_ | refine cP cs ?_ | exact zT)
    refine wFs ?_
    repeat (first | refine zQ (zA @Q.eq_1 (zA (show decide ((-1 : Int) < 0) = true from rfl) (zA @cS (zA @cT (zA @nbpParse cI))))) ?_ | refine cP ce ?_ | refine cP cd ?_ | exact zT)
    refine wT ?_
    refine zS (zA @cS (zA @cT (zA @nbpParse cI))) ?_
    exact W_ret (RetP_ct rfl rfl rfl (.imm rfl) (.imm rfl))
theorem pParse_uns (s : List UInt8) (hs : s.length ≤ 450) (h45 : ¬ s.head? = some 45) : PCalls Tryz.prog 48 [.str s] (resQ (unsQ s)) := by
 have ht := tailP_W s hs
 generalize hT : tailP = T at *
 unfold tailP codepParse at hT
 dsimp only at hT
 refine PCalls_of ispParse (by simp [fnpParse]) ?_
 unfold codepParse
 rw [hT]
 clear hT
 generalize resQ (unsQ s) = R at *
 have e0 : (Int.toNat 0) = 0 := rfl
 rcases dash_no h45 with h0 | ⟨c, t, rfl, hc⟩
 ·have dl : decide ((0 : Int) < (s.length : Int)) = false := decide_eq_false (by rw [h0]; decide)
  clear h0
  refine zS (zA dl (zA @nbpParse cI)) ?_
  refine wFs ?_
  refine W_sub ?_ ht
  simp [subF, lk]
 ·have dl : decide ((0 : Int) < ((c :: t).length : Int)) = true := decide_eq_true (by rw [List.length_cons]; omega)
  have hg : (c :: t).getD 0 0 = c := rfl
  have eb : byteD c = .int .u8 (c.toNat : Nat) := rfl
  have dc : decide (((c.toNat : Nat) : Int) = 45) = false := decide_eq_false hc
  have hL : 0 < (c :: t).length := by simp
  generalize (c :: t) = E at *
  refine zS (zA dl (zA e0 (zA hg (zA eb (zA dc (zA @nbpParse cI)))))) ?_
  refine wFs ?_
  refine W_sub ?_ ht
  simp [subF, lk]
theorem unsQ_RB5 {s : List UInt8} (hs : s.length ≤ 450) {x : Rat} (h : unsQ s = some x) : RB x 500 := by
 rw [unsQ_P, Option.map_eq_some_iff] at h
 obtain ⟨⟨n, d⟩, hp, rfl⟩ := h
 obtain ⟨b1, b2⟩ := unsP_lenB hp hs
 exact RB_mk (show d ≠ 0 by have := unsP_pos hp; omega) (by rw [Int.natAbs_natCast]; show (limbs n).length ≤ 500; omega) (show (limbs d).length ≤ 500 by omega)
theorem unsQ_RB {s : List UInt8} (hs : s.length ≤ 450) {x : Rat} (h : unsQ s = some x) : RB x 900 := (unsQ_RB5 hs h).mono (by decide)
theorem pParse_calls (l : List UInt8) (hl : l.length ≤ 450) : PCalls Tryz.prog 48 [.str l] (resQ (parseQ l)) := by
 unfold parseQ
 by_cases h45 : l.head? = some 45
 ·rw [decide_eq_true h45, if_pos h45]
  match l, h45, hl with
  | c :: t, h45, hl =>
   rw [List.head?_cons, Option.some.injEq] at h45
   subst h45
   show PCalls _ _ _ (resQ (negQ true (unsQ t)))
   have e0 : (Int.toNat 0) = 0 := rfl
   have e1 : (Int.toNat 1) = 1 := rfl
   have dl : decide ((0 : Int) < (((45 : UInt8) :: t).length : Int)) = true := decide_eq_true (by rw [List.length_cons]; omega)
   have hg : ((45 : UInt8) :: t).getD 0 0 = 45 := rfl
   have hg1 : ((45 : UInt8) :: t).getD 1 0 = t.getD 0 0 := rfl
   have hL : 1 ≤ ((45 : UInt8) :: t).length := by simp
   have htl : (((45 : UInt8) :: t).take ((45 : UInt8) :: t).length).drop 1 = t := by rw [List.take_length]; rfl
   have eb : byteD 45 = .int .u8 45 := rfl
   have hlt : t.length ≤ 450 := by simp at hl; omega
   by_cases h2 : t.head? = some 45
   ·match t, h2 with
    | c2 :: t2, h2 =>
     rw [List.head?_cons, Option.some.injEq] at h2
     subst h2
     rw [unsQ_45]
     have d1 : decide ((1 : Int) < (((45 : UInt8) :: (45 : UInt8) :: t2).length : Int)) = true := decide_eq_true (by simp; omega)
     have hL1 : 1 < ((45 : UInt8) :: (45 : UInt8) :: t2).length := by simp
     have hg1 : ((45 : UInt8) :: (45 : UInt8) :: t2).getD 1 0 = 45 := rfl
     clear htl hlt
     show PCalls _ _ _ (.tup [Q 0, .bool false])
     rw [Q0]
     refine PCalls_of ispParse (by simp [fnpParse]) ?_
     unfold codepParse
     generalize ((45 : UInt8) :: (45 : UInt8) :: t2) = E at *
     refine zS (zA dl (zA e0 (zA hg (zA eb (zA @nbpParse cI))))) ?_
     refine wT ?_
     refine zS (zA d1 (zA e1 (zA hg1 (zA eb (zA @nbpParse cI))))) ?_
     refine wT ?_
     refine zS (zA @cS (zA @cT (zA @nbpParse cI))) ?_
     exact W_ret (RetP_ct rfl rfl rfl (Exp_bnn _ _ _) (.imm rfl))
   ·have cp := pParse_uns t hlt h2
    have hRB := @unsQ_RB t hlt
    refine PCalls_of ispParse (by simp [fnpParse]) ?_
    unfold codepParse
    have d2 : ∃ d, decide ((1 : Int) < (((45 : UInt8) :: t).length : Int)) = d ∧ (d = true → 1 < ((45 : UInt8) :: t).length) ∧ (d = true → decide (((((45 : UInt8) :: t).getD 1 0).toNat : Int) = 45) = false) := by
     refine ⟨_, rfl, fun h => by have := of_decide_eq_true h; omega, fun h => decide_eq_false ?_⟩
     rcases dash_no h2 with rfl | ⟨c, t2, rfl, hc⟩
     ·simp at h
     ·exact hc
    obtain ⟨d, d1, d3, d4⟩ := d2
    clear hg1
    generalize ((45 : UInt8) :: t) = E at *
    obtain ⟨g1, hgg⟩ : ∃ g, E.getD 1 0 = g := ⟨_, rfl⟩
    rw [hgg] at d4
    have eb1 : byteD g1 = .int .u8 (g1.toNat : Nat) := rfl
    cases hu : unsQ t with
    | none =>
     rw [hu] at cp
     have cn := pNegL 0 (RB_int (z := 0) (by simp [limbs_zero]) (by decide))
     rw [Rat.neg_zero, Q0] at cn
     show W _ _ (RetP _ (.tup [Q 0, .bool false])) _ _
     change PCalls _ _ _ (.tup [Q 0, .bool false]) at cp
     rw [Q0] at cp ⊢
     refine zS (zA dl (zA e0 (zA hg (zA eb (zA @nbpParse cI))))) ?_
     refine wT ?_
     cases d
     ·refine zS (zA d1 (zA @nbpParse cI)) ?_
      refine wFs ?_
      repeat (first | refine zQ (zA e1 (zA htl (zA @Q.eq_1 (zA @cS (zA @cT (zA @nbpParse cI)))))) ?_ | refine cP cp ?_ | refine cP cn ?_ | exact zT)
      exact W_ret (RetP_ct rfl rfl rfl (.imm rfl) (.imm rfl))
     ·have d3 := d3 rfl
      have d4 := d4 rfl
      refine zS (zA d1 (zA e1 (zA hgg (zA eb1 (zA d4 (zA @nbpParse cI)))))) ?_
      refine wFs ?_
      repeat (first | refine zQ (zA e1 (zA htl (zA @Q.eq_1 (zA @cS (zA @cT (zA @nbpParse cI)))))) ?_ | refine cP cp ?_ | refine cP cn ?_ | exact zT)
      exact W_ret (RetP_ct rfl rfl rfl (.imm rfl) (.imm rfl))
    | some x =>
     rw [hu] at cp
     have cn := pNegL x (hRB hu)
     show W _ _ (RetP _ (.tup [Q (-x), .bool true])) _ _
     change PCalls _ _ _ (.tup [Q x, .bool true]) at cp
     clear hRB
     generalize -x = nx at *
     refine zS (zA dl (zA e0 (zA hg (zA eb (zA @nbpParse cI))))) ?_
     refine wT ?_
     cases d
     ·refine zS (zA d1 (zA @nbpParse cI)) ?_
      refine wFs ?_
      repeat (first | refine zQ (zA e1 (zA htl (zA @Q.eq_1 (zA @cS (zA @cT (zA @nbpParse cI)))))) ?_ | refine cP cp ?_ | refine cP cn ?_ | exact zT)
      exact W_ret (RetP_ct rfl rfl rfl (.imm rfl) (.imm rfl))
     ·have d3 := d3 rfl
      have d4 := d4 rfl
      refine zS (zA d1 (zA e1 (zA hgg (zA eb1 (zA d4 (zA @nbpParse cI)))))) ?_
      refine wFs ?_
      repeat (first | refine zQ (zA e1 (zA htl (zA @Q.eq_1 (zA @cS (zA @cT (zA @nbpParse cI)))))) ?_ | refine cP cp ?_ | refine cP cn ?_ | exact zT)
      exact W_ret (RetP_ct rfl rfl rfl (.imm rfl) (.imm rfl))
 ·rw [decide_eq_false h45, if_neg h45]
  exact pParse_uns l hl h45
end Go.Proofs.YtjfedgpbedppeaaGreatDoor
namespace Go.Proofs
open Go.Shelf Go.RowKit Go.Lib
variable {P : Program} {ρ : Ren}
def eE : ByteArray := ⟨[101, 69].toArray⟩
set_option maxHeartbeats 8000000 in
set_option maxRecDepth 1000000 in
theorem IR_err (L : Lays.n152 P ρ) (w : World) :
  Calls P (ρ.f 152) #[.string eE, .int .i32 65533] w fun e w' => e = .returned (.int .i64 (-1)) ∧ Below w.heap.size w w' := by
 have mixed := L.mixed
 have t3 := L.t3; have a3 := L.a3; have z3 := L.z3; have v3 := L.v3
 have t4 := L.t4; have a4 := L.a4; have z4 := L.z4; have v4 := L.v4
 have t5 := L.t5; have a5 := L.a5; have z5 := L.z5; have v5 := L.v5
 have t9 := L.t9; have a9 := L.a9; have z9 := L.z9; have v9 := L.v9
 have t21 := L.t21; have a21 := L.a21; have z21 := L.z21; have v21 := L.v21
 have hsz : eE.size = 2 := rfl
 go_enter L.f152, Body.n152_ntmps ρ
 go_wp2
 go_loopg [5, 6] 2 (fun g _ _ wx => ∃ i : Nat, i + g = 2 ∧ wx = w.iter eE i)
 case atStart => exact ⟨0, by omega, rfl⟩
 case round =>
  obtain ⟨i, hig, rfl⟩ := hrel
  cases gk with
  | zero =>
   obtain rfl : i = 2 := by omega
   have hnx := run_next_end (P := P) w eE 2
   go_wp2
   go_ret
   exact ⟨rfl, (Below.refl _ _).alloc (Nat.le_refl _) _⟩
  | succ g =>
   have hi : i < eE.size := by rw [hsz]; omega
   obtain ⟨x, hx⟩ : ∃ x : UInt8, eE[i]'hi = x := ⟨_, rfl⟩
   have hx128 : x.toNat < 128 := by
    rw [← hx]
    have : i = 0 ∨ i = 1 := by omega
    rcases this with rfl | rfl
    ·show (101 : UInt8).toNat < 128; decide
    ·show (69 : UInt8).toNat < 128; decide
   have hnx := fun ty => run_next_ascii (P := P) w eE i ty hi (by rw [hx]; exact hx128)
   rw [hx] at hnx
   have hne : ((x.toNat : Int) == 65533) = false := beq_eq_false_iff_ne.2 (by omega)
   clear hx
   go_wp2
   go_roundg g
   case measure => omega
   case rel => exact ⟨i + 1, by omega, rfl⟩
set_option maxHeartbeats 8000000 in
set_option maxRecDepth 1000000 in
theorem IR_hi (L : Lays.n152 P ρ) (r : Int) (w : World) (h0 : 128 ≤ r) (h1 : r ≠ 65533) :
  Calls P (ρ.f 152) #[.string eE, .int .i32 r] w fun e w' => e = .returned (.int .i64 (-1)) ∧ Below w.heap.size w w' := by
 have mixed := L.mixed
 have t3 := L.t3; have a3 := L.a3; have z3 := L.z3; have v3 := L.v3
 have t4 := L.t4; have a4 := L.a4; have z4 := L.z4; have v4 := L.v4
 have t5 := L.t5; have a5 := L.a5; have z5 := L.z5; have v5 := L.v5
 have t9 := L.t9; have a9 := L.a9; have z9 := L.z9; have v9 := L.v9
 have t21 := L.t21; have a21 := L.a21; have z21 := L.z21; have v21 := L.v21
 have e119 : ∀ args w, (callFunc (ρ.f 119) args).run P w = .ok (.enter (ρ.f 119) args) w := enters_of L.f119 (by kernel_rfl) rfl
 have e137 : ∀ args w, (callFunc (ρ.f 137) args).run P w = .ok (.enter (ρ.f 137) args) w := enters_of L.f137 (by kernel_rfl) rfl
 have hsz : eE.size = 2 := rfl
 have d0 : decide ((0 : Int) ≤ r) = true := decide_eq_true (by omega)
 have d1 : decide (r < 128) = false := decide_eq_false (by omega)
 have hne : (r == 65533) = false := beq_eq_false_iff_ne.2 h1
 have hcv : ∀ w, (convert (ρ.t 21) (ρ.t 9) (.int .i32 r)).run P w = .ok (.string (Utf8.encode r)) w := fun w => run_convert_int_string w _ _ .i32 r (by rw [L.t21]; rfl) L.t9
 have hfacts : Lib.validRune r = true → 2 ≤ (Utf8.encode r).size ∧ (Utf8.encode r).size ≤ 4 ∧ ∀ h : (Utf8.encode r).size - 1 < (Utf8.encode r).size, 128 ≤ ((Utf8.encode r)[(Utf8.encode r).size - 1]'h).toNat := fun h => by
  have h2 : Utf8.valid r = true := by
   simp only [Lib.validRune, decide_eq_true_eq] at h
   simp only [Utf8.valid, Bool.or_eq_true, Bool.and_eq_true, decide_eq_true_eq]
   omega
  exact encode_facts r h2 h0
 go_enter L.f152, Body.n152_ntmps ρ
 cases hv : Lib.validRune r
 ·go_wp2_with (go_at_fn (ρ.f 119); refine (Any.utf8_ValidRune { L with } _ _).mono ?_; rintro e w' ⟨rfl, hw⟩; rw [hw, hv])
  go_ret
  exact ⟨rfl, Below.refl _ _⟩
 ·go_wp2_with (go_at_fn (ρ.f 119); refine (Any.utf8_ValidRune { L with } _ _).mono ?_; rintro e w' ⟨rfl, hw⟩; rw [hw, hv])
  apply wp_scope_straight
  obtain ⟨y2, y4, yb⟩ := hfacts hv
  clear hfacts
  by_cases h3 : (Utf8.encode r).size = 2
  ·have hw : wrap64 (((Utf8.encode r).size : Int) - 1) = 1 := by rw [h3]; unfold wrap64; omega
   obtain ⟨y, hy⟩ : ∃ y : UInt8, (Utf8.encode r)[1]'(by omega) = y := ⟨_, rfl⟩
   have hyb : 128 ≤ y.toNat := by
    have := yb (by omega)
    simp only [h3] at this
    rw [← hy]; exact this
   have he1 : eE[1]'(by decide) = 69 := rfl
   have hne2 : ((69 : UInt8) == y) = false := beq_eq_false_iff_ne.2 (fun e => by rw [← e] at hyb; revert hyb; decide)
   clear yb hcv
   go_wp2
   go_loopg [9] 1 (fun g s9 wx => g = 1 ∧ s9 = .int .i64 1 ∧ wx = w)
   case atStart => exact ⟨rfl, rfl, rfl⟩
   case round =>
    obtain ⟨rfl, rfl, rfl⟩ := hrel
    have hlt : decide ((1 : Int) < (eE.size : Int)) = true := decide_eq_true (by rw [hsz]; omega)
    have hi1 : 1 < eE.size := by rw [hsz]; omega
    have hi2 : 1 < (Utf8.encode r).size := by omega
    have hw2 : IntKind.i64.wrap 2 = 2 := by decide
    have hb2 : (2 : Int) ≤ (eE.size : Int) := by rw [hsz]; omega
    have hsl : ∀ w, (Instr.slice (ρ.t 9) (.string eE) (some (.int .i64 2)) none none).run P w = .ok (.string ⟨#[]⟩) w := fun w => by
     rw [run_slice_string_from_if w _ _ _ _ L.t9, if_pos ⟨by decide, hb2⟩]; rfl
    go_wp2
    apply wp_scope_straight
    go_wp2_with fail
    go_quiet_o (fail)
    go_wp2_with fail
    go_quiet_o (first | (refine (Any.strings_IndexByte { L with } _ _ _).mono ?_; rintro e w'' ⟨rfl, rfl⟩; exact ⟨rfl, _, rfl⟩))
    have hib : Lib.indexByte ([] : List UInt8) y = -1 := rfl
    go_wp2_with fail
    simp (config := {zetaDelta := true}) only [Exit.noGoto_ret, Exit.inBlock, Exit.then]
    go_ret
    exact ⟨rfl, ⟨rfl, rfl, rfl, Nat.le_refl _, fun _ _ => rfl⟩⟩
  ·have hw : wrap64 (((Utf8.encode r).size : Int) - 1) = ((Utf8.encode r).size : Int) - 1 := by unfold wrap64; omega
   go_wp2
   go_loopg [9] 1 (fun g s9 wx => g = 1 ∧ s9 = .int .i64 (((Utf8.encode r).size : Int) - 1) ∧ wx = w)
   case atStart => exact ⟨rfl, rfl, rfl⟩
   case round =>
    obtain ⟨rfl, rfl, rfl⟩ := hrel
    have hlt : decide (((Utf8.encode r).size : Int) - 1 < (eE.size : Int)) = false := decide_eq_false (by rw [hsz]; omega)
    go_wp2
    simp (config := {zetaDelta := true}) only [Exit.noGoto_ret, Exit.inBlock, Exit.then]
    go_ret
    exact ⟨rfl, Below.refl _ _⟩
end Go.Proofs
namespace Go.Proofs
open Go.Shelf Go.RowKit Go.Lib
variable {P : Program} {ρ : Ren}
theorem get!_at (s : ByteArray) (i : Nat) (h : i < s.size) : s.get! i = s[i]'h := by
 cases s with
 | mk d =>
  show d[i]! = d[i]
  exact getElem!_pos d i h
set_option maxRecDepth 100000 in
set_option maxHeartbeats 2000000 in
theorem decodeN_hi (n b0 b1 b2 b3 : Nat) (hn : 1 ≤ n) (h0 : 128 ≤ b0) : 128 ≤ (decodeN n b0 b1 b2 b3).1 ∧ 1 ≤ (decodeN n b0 b1 b2 b3).2 ∧ (decodeN n b0 b1 b2 b3).2 ≤ n ∧ (decodeN n b0 b1 b2 b3).2 ≤ 4 ∧
  (1 < (decodeN n b0 b1 b2 b3).2 → 128 ≤ b1) ∧ (2 < (decodeN n b0 b1 b2 b3).2 → 128 ≤ b2) ∧ (3 < (decodeN n b0 b1 b2 b3).2 → 128 ≤ b3) := by
 unfold decodeN
 repeat' split
 all_goals (try simp only)
 all_goals omega
theorem dec_hi (s : ByteArray) (i : Nat) (h : i < s.size) (h0 : 128 ≤ (s[i]'h).toNat) : 128 ≤ (Utf8.decode s i).1 ∧ 1 ≤ (Utf8.decode s i).2 ∧ i + (Utf8.decode s i).2 ≤ s.size ∧
  ∀ j (hj : j < s.size), i ≤ j → j < i + (Utf8.decode s i).2 → 128 ≤ (s[j]'hj).toNat := by
 have e := decode_at s i
 rw [← get!_at s i h] at h0
 obtain ⟨a1, a2, a3, a4, a5, a6, a7⟩ := decodeN_hi (s.size - i) (s.get! i).toNat (s.get! (i + 1)).toNat (s.get! (i + 2)).toNat (s.get! (i + 3)).toNat (by omega) h0
 rw [← e] at a1 a2 a3 a4 a5 a6 a7
 refine ⟨a1, a2, by omega, fun j hj h1 h2 => ?_⟩
 rw [← get!_at s j hj]
 have : j = i ∨ j = i + 1 ∨ j = i + 2 ∨ j = i + 3 := by omega
 rcases this with rfl | rfl | rfl | rfl
 ·exact h0
 ·exact a5 (by omega)
 ·exact a6 (by omega)
 ·exact a7 (by omega)
theorem eE_list : eE.data.toList = [101, 69] := rfl
theorem noany_hi {s : ByteArray} {i k : Nat} (h : NoAny s.data.toList eE.data.toList i) (hi : ∀ j (hj : j < s.size), i ≤ j → j < i + k → 128 ≤ (s[j]'hj).toNat) : NoAny s.data.toList eE.data.toList (i + k) := fun j b hj hb => by
 rcases Nat.lt_or_ge j i with h1 | h1
 ·exact h j b h1 hb
 ·have hlt : j < s.size := by have := (List.getElem?_eq_some_iff.1 hb).1; rwa [← Lib.size_eq] at this
  have h2 := hi j hlt h1 hj
  rw [Lib.data_getElem? s j hlt, Option.some.injEq] at hb
  rw [hb] at h2
  rw [eE_list]
  cases h3 : ([101, 69] : List UInt8).contains b with
  | false => rfl
  | true =>
   rw [List.contains_iff_mem] at h3
   simp at h3
   rcases h3 with rfl | rfl
   ·revert h2; decide
   ·revert h2; decide
theorem Below_iterAt {w W : World} {s : ByteArray} {p q : Nat} (hb : Below w.heap.size w W) (hk : W.heap[w.heap.size]? = some (.stringIter s p)) : Below w.heap.size w (W.iterAt w.heap.size s q) := by
 refine ⟨hb.os, hb.tape, hb.output, ?_, fun k hk => ?_⟩
 ·show w.heap.size ≤ (W.heap.setIfInBounds _ _).size
  rw [Array.size_setIfInBounds]; exact hb.size
 ·show (W.heap.setIfInBounds _ _)[k]? = _
  rw [Array.getElem?_setIfInBounds, if_neg (by omega)]
  exact hb.block k hk
set_option maxHeartbeats 8000000 in
set_option maxRecDepth 1000000 in
theorem IA_short (L : Lays.n153 P ρ) (s : ByteArray) (w : World) (h8 : s.size ≤ 8) :
  Calls P (ρ.f 153) #[.string s, .string eE] w fun e w' => e = .returned (.int .i64 (Lib.indexAny s.data.toList eE.data.toList)) ∧ Below w.heap.size w w' := by
 have hemp : eE.toList.isEmpty = false := by
  rw [Lib.toList_data]; rfl
 have hsz : eE.size = 2 := rfl
 have hn1 : ((eE.size : Int) == 1) = false := beq_eq_false_iff_ne.2 (by rw [hsz]; omega)
 have h8z : decide ((8 : Int) < (s.size : Int)) = false := decide_eq_false (by omega)
 have t3 := L.t3; have a3 := L.a3; have z3 := L.z3; have v3 := L.v3
 have t4 := L.t4; have a4 := L.a4; have z4 := L.z4; have v4 := L.v4
 have t5 := L.t5; have a5 := L.a5; have z5 := L.z5; have v5 := L.v5
 have t9 := L.t9; have a9 := L.a9; have z9 := L.z9; have v9 := L.v9
 have t21 := L.t21; have a21 := L.a21; have z21 := L.z21; have v21 := L.v21
 have e152 : ∀ args w, (callFunc (ρ.f 152) args).run P w = .ok (.enter (ρ.f 152) args) w := enters_of L.f152 (by kernel_rfl) rfl
 have e226 : ∀ args w, (callFunc (ρ.f 226) args).run P w = .ok (.enter (ρ.f 226) args) w := enters_of L.f226 (by kernel_rfl) rfl
 go_enter L.f153, Body.n153_ntmps ρ
 go_wp2_with (go_at_fn (ρ.f 226); refine (Any.strings_shouldUseASCIISet { L with } _ _).mono ?_; rintro e w' ⟨rfl, hw⟩; rw [hw, h8z])
 go_loopg [9, 10] s.size (fun g _ _ wx => ∃ i : Nat, i + g = s.size ∧ wx.heap[w.heap.size]? = some (.stringIter s i) ∧ Below w.heap.size w wx ∧ Lib.NoAny s.data.toList eE.data.toList i)
 case atStart => exact ⟨0, by omega, World.iter_heap _ _ _, (Below.refl _ _).alloc (Nat.le_refl _) _, Lib.NoAny.zero _ _⟩
 case round =>
  obtain ⟨i, hig, hit, hbel, hno⟩ := hrel
  have HN : Aside (NoAny s.data.toList eE.data.toList i) := hno
  have HB : Aside (Below w.heap.size w wr) := hbel
  have hsw : w.heap.size < wr.heap.size := (Array.getElem?_eq_some_iff.1 hit).1
  clear hno hbel
  cases gk with
  | zero =>
   obtain rfl : i = s.size := by omega
   have hnx := fun ty => run_next_end_at (P := P) wr w.heap.size s s.size ty hit (Nat.lt_irrefl _)
   go_wp2
   go_ret
   exact ⟨by rw [Lib.indexAny_none (by rw [← Lib.size_eq]; exact HN.out)]; rfl, HB.out⟩
  | succ g =>
   have hi : i < s.size := by omega
   by_cases hx128 : (s[i]'hi).toNat < 128
   ·have HB2 : Aside (Below w.heap.size w (wr.iterAt w.heap.size s (i + 1))) := Below_iterAt HB.out hit
    have HI2 := iterAt_heap wr w.heap.size s i (i + 1) hit
    have hnx := fun ty => run_next_ascii_at (P := P) wr w.heap.size s i ty hit hi hx128
    obtain ⟨x, hx⟩ : ∃ x : UInt8, s[i]'hi = x := ⟨_, rfl⟩
    have hxl : s.data.toList[i]? = some x := by rw [← hx]; exact Lib.data_getElem? s i hi
    rw [hx] at hnx hx128
    have Hx : Aside (s.data.toList[i]? = some x) := hxl
    clear hxl hx
    have hcon := Lib.contains_iff_indexByte eE.data.toList x
    have hback : ((x.toNat : Int)).toNat.toUInt8 = x := by simp
    cases hin : eE.data.toList.contains x
    ·rw [hin] at hcon
     have hlt : ¬ ((0 : Int) ≤ Lib.indexByte eE.data.toList x) := of_decide_eq_false hcon.symm
     clear hcon
     go_wp2_with (go_at_fn (ρ.f 152); refine (Any.strings_IndexRune_ascii { L with } _ _ _ (by omega) (by omega)).mono ?_; rintro e w' ⟨rfl, hw⟩; rw [hw, hback])
     go_roundg g
     case measure => omega
     case rel => exact ⟨i + 1, by omega, HI2, HB2.out, HN.out.succ Hx.out hin⟩
    ·rw [hin] at hcon
     have hge : (0 : Int) ≤ Lib.indexByte eE.data.toList x := of_decide_eq_true hcon.symm
     clear hcon
     go_wp2_with (go_at_fn (ρ.f 152); refine (Any.strings_IndexRune_ascii { L with } _ _ _ (by omega) (by omega)).mono ?_; rintro e w' ⟨rfl, hw⟩; rw [hw, hback])
     go_ret
     exact ⟨by rw [Lib.indexAny_hit HN.out Hx.out hin]; rfl, HB2.out⟩
   ·obtain ⟨c1, c2, c3, c4⟩ := dec_hi s i hi (by omega)
    have hnx := fun ty => run_next_any_at (P := P) wr w.heap.size s i ty hit hi
    have hno2 := noany_hi HN.out c4
    clear c4
    generalize (Utf8.decode s i).2 = k at *
    generalize (Utf8.decode s i).1 = c at *
    have HN2 : Aside (NoAny s.data.toList eE.data.toList (i + k)) := hno2
    clear hno2
    have HB2 : Aside (Below w.heap.size w (wr.iterAt w.heap.size s (i + k))) := Below_iterAt HB.out hit
    have HI2 := iterAt_heap wr w.heap.size s i (i + k) hit
    have hsw2 : w.heap.size < (wr.iterAt w.heap.size s (i + k)).heap.size := (Array.getElem?_eq_some_iff.1 HI2).1
    generalize wr.iterAt w.heap.size s (i + k) = W2 at *
    have hm1 : ¬ ((0 : Int) ≤ -1) := by omega
    by_cases hc : c = 65533
    ·subst hc
     go_wp2_with (go_at_fn (ρ.f 152); refine (IR_err { L with } _).mono ?_; rintro e w' ⟨rfl, hw⟩)
     go_roundg (g + 1 - k)
     case measure => omega
     case rel => exact ⟨i + k, by omega, (hw.block _ hsw2).trans HI2, HB2.out.trans ⟨hw.os, hw.tape, hw.output, hw.size, fun j hj => hw.block j (by omega)⟩, HN2.out⟩
    ·have hcz : (c : Int) ≠ 65533 := by omega
     go_wp2_with (go_at_fn (ρ.f 152); refine (IR_hi { L with } _ _ (by omega) hcz).mono ?_; rintro e w' ⟨rfl, hw⟩)
     go_roundg (g + 1 - k)
     case measure => omega
     case rel => exact ⟨i + k, by omega, (hw.block _ hsw2).trans HI2, HB2.out.trans ⟨hw.os, hw.tape, hw.output, hw.size, fun j hj => hw.block j (by omega)⟩, HN2.out⟩
end Go.Proofs
namespace Go.Proofs.YtjfedgpbedppeaaGreatDoor
open Go Go.Dat Go.Proofs Nat32 Go.RowKit
open Go.Lib (decDigits)
theorem indexAnyAll (l : List UInt8) (hl : l.length ≤ 100000) : PCalls Tryz.prog 126 [.str l, .str [101, 69]] (.int .i64 (idx isE l)) := by
 have hz : (⟨l.toArray⟩ : ByteArray).size = l.length := by simp [ByteArray.size]
 by_cases h8 : 8 < l.length
 ·exact indexAnyD l (.inr h8) hl
 ·exact PCalls_str2 (fun _ _ => .int _ _) fun w => (IA_short Tryz.lays153 ⟨l.toArray⟩ w (by omega)).mono fun e w' h => ⟨by rw [h.1, eE_list]; show _ = Ending.returned (.int .i64 (idx isE l)); rw [← indexAny_idx], h.2⟩
set_option maxHeartbeats 2000000 in
theorem q_unsigned_all (s : List UInt8) (hs : s.length ≤ 900) : PCalls Tryz.prog 69 [.str s] (unsR s) := by
 have cs := strCut_calls s 47 (by omega)
 rw [isC47] at cs
 unfold cutR at cs
 have hi := fi_le is47 s
 have hj := fi_le isE s
 refine PCalls_of isq_unsigned (by simp [fnq_unsigned]) ?_
 unfold unsR
 by_cases h1 : fi is47 s < s.length
 ·rw [if_pos h1] at cs ⊢
  generalize s.take (fi is47 s) = A at *
  generalize s.drop (fi is47 s + 1) = B at *
  have c1 := nParse_pn A
  have c2 := nParse_pn B
  unfold codeq_unsigned
  cases hA : okD A
  ·rw [hA] at c1
   simp only [Bool.false_and]
   repeat (first | refine zQ cI ?_ | refine cP cs ?_ | exact zT)
   refine wT ?_
   repeat (first | refine zQ cI ?_ | refine cP c1 ?_ | refine cP c2 ?_ | exact zT)
   exact W_ret (RetP_3 (.imm rfl) (.imm rfl) (.imm rfl))
  ·rw [hA] at c1
   cases hB : okD B
   ·rw [hB] at c2
    simp only [Bool.false_and, Bool.true_and]
    repeat (first | refine zQ cI ?_ | refine cP cs ?_ | exact zT)
    refine wT ?_
    repeat (first | refine zQ cI ?_ | refine cP c1 ?_ | refine cP c2 ?_ | exact zT)
    exact W_ret (RetP_3 (.imm rfl) (.imm rfl) (.imm rfl))
   ·rw [hB] at c2
    simp only [Bool.true_and]
    repeat (first | refine zQ cI ?_ | refine cP cs ?_ | exact zT)
    refine wT ?_
    repeat (first | refine zQ (zA @us_length (zA @len_gt cI)) ?_ | refine cP c1 ?_ | refine cP c2 ?_ | exact zT)
    exact W_ret (RetP_3 (.imm rfl) (.imm rfl) (.imm rfl))
 ·rw [if_neg h1] at cs ⊢
  have ci := indexAnyAll s (by omega)
  have hge := idx_ge isE s
  unfold unsP
  rw [if_neg h1]
  have htail := tail_W
  unfold tailU at htail
  unfold codeq_unsigned at htail ⊢
  dsimp only at htail
  by_cases h2 : fi isE s < s.length
  ·rw [decide_eq_true h2] at hge
   rw [if_pos h2]
   rw [idx_of h2] at ci hge
   have c3 := q_exponent_calls (s.drop (fi isE s + 1)) (by rw [List.length_drop]; omega)
   have e1 : ((fi isE s : Int) + 1).toNat = fi isE s + 1 := by omega
   have e2 : (s.take s.length).drop (fi isE s + 1) = s.drop (fi isE s + 1) := by rw [List.take_length]
   have e3 : (s.take (fi isE s)).drop 0 = s.take (fi isE s) := rfl
   have ht := htail (s.take (fi isE s)) (expV (s.drop (fi isE s + 1))) true (by rw [List.length_take]; omega)
   unfold expR at c3
   have hex := @expOk_le (s.drop (fi isE s + 1))
   clear htail
   generalize expV (s.drop (fi isE s + 1)) = V at *
   cases h3 : expOk (s.drop (fi isE s + 1))
   ·rw [h3, if_neg (by decide)] at c3
    rw [if_neg (by decide)]
    clear ht hex
    repeat (first | refine zQ cI ?_ | refine cP cs ?_ | exact zT)
    refine wFs ?_
    repeat (first | refine zQ (zA hge cI) ?_ | refine cP ci ?_ | exact zT)
    refine wT ?_
    repeat (first | refine zQ (zA e1 (zA e2 (zA @List.take_length.{0} cI))) ?_ | refine cP c3 ?_ | exact zT)
    refine wT ?_
    refine zS cI ?_
    exact W_ret (RetP_3 (.nils _) (.nils _) (.imm rfl))
   ·rw [h3, if_pos rfl] at c3
    rw [if_pos rfl]
    have ht := ht (hex h3)
    clear hex
    repeat (first | refine zQ cI ?_ | refine cP cs ?_ | exact zT)
    refine wFs ?_
    repeat (first | refine zQ (zA hge cI) ?_ | refine cP ci ?_ | exact zT)
    refine wT ?_
    repeat (first | refine zQ (zA e1 (zA e2 (zA @List.take_length.{0} cI))) ?_ | refine cP c3 ?_ | exact zT)
    refine wFs ?_
    refine W_reg ?_
    refine zE (zA e3 cI) ?_
    repeat refine And.intro (by omega) ?_
    refine W_sub ?_ ht
    simp [subF, lk]
  ·rw [decide_eq_false h2] at hge
   rw [if_neg h2]
   have ht := htail s 0 false hs (by decide)
   clear htail
   repeat (first | refine zQ cI ?_ | refine cP cs ?_ | exact zT)
   refine wFs ?_
   repeat (first | refine zQ (zA hge cI) ?_ | refine cP ci ?_ | exact zT)
   refine wFs ?_
   refine W_sub ?_ ht
   simp [subF, lk]
theorem qParse_all (l : List UInt8) (hl : l.length ≤ 900) : PCalls Tryz.prog 46 [.str l] (resQ (parseQ l)) := by
 have c1 := cutPrefixD l
 have hel : (expD l).length ≤ 900 := by
  unfold expD; split
  ·rw [List.length_tail]; omega
  ·exact hl
 have c2 := q_unsigned_all (expD l) hel
 rw [parseQ_P]
 refine PCalls_of isqParse (by simp [fnqParse]) ?_
 unfold codeqParse
 cases h : unsP (expD l) with
 | none =>
  obtain ⟨x, y, e⟩ := unsR_none h
  rw [e] at c2
  rw [Option.map_none]
  unfold resQ
  dsimp only
  rw [Q0]
  repeat (first | refine zQ (zA @cS (zA @cT (zA @nbqParse cI))) ?_ | refine cP c1 ?_ | refine cP c2 ?_ | exact zT)
  refine wT ?_
  refine zS (zA @cS (zA @cT (zA @nbqParse cI))) ?_
  exact W_ret (RetP_ct rfl rfl rfl (Exp_bnn _ _ _) (.imm rfl))
 | some p =>
  obtain ⟨n, d⟩ := p
  rw [unsR_some h] at c2
  unfold pairR at c2
  dsimp only at c2
  have hd := unsP_pos h
  obtain ⟨b1, b2⟩ := unsP_len h hel
  rw [Option.map_some]
  unfold resQ
  dsimp only
  have cl := q_lowest_calls (sgn (decide (l.head? = some 45)) n) d (by omega) (by unfold il; rw [sgn_abs]; omega) (by omega)
  rw [I_sgn] at cl
  clear h b1 b2 hel
  by_cases hn : l.head? = some 45
  ·rw [decide_eq_true hn] at c1 cl ⊢
   rw [Bool.true_and] at cl
   repeat (first | refine zQ (zA @cS (zA @cT (zA @nbqParse cI))) ?_ | refine cP c1 ?_ | refine cP c2 ?_ | exact zT)
   refine wFs ?_
   repeat (first | refine zQ (zA @Q.eq_1 (zA @cS (zA @cT (zA @nbqParse (zA @us_length (zA @len_gt cI)))))) ?_ | refine cP cl ?_ | exact zT)
   exact W_ret (RetP_ct rfl rfl rfl (.imm rfl) (.imm rfl))
  ·rw [decide_eq_false hn] at c1 cl ⊢
   rw [Bool.false_and] at cl
   repeat (first | refine zQ (zA @cS (zA @cT (zA @nbqParse cI))) ?_ | refine cP c1 ?_ | refine cP c2 ?_ | exact zT)
   refine wFs ?_
   repeat (first | refine zQ (zA @Q.eq_1 (zA @cS (zA @cT (zA @nbqParse (zA @us_length (zA @len_gt cI)))))) ?_ | refine cP cl ?_ | exact zT)
   exact W_ret (RetP_ct rfl rfl rfl (.imm rfl) (.imm rfl))
end Go.Proofs.YtjfedgpbedppeaaGreatDoor
namespace Go.Proofs.YtjfedgpbedppeaaGreatDoor
open Go Go.Dat Go.Proofs Nat32 Go.RowKit
open Go.Lib (decDigits repeatL)
def tailPD : DC := match codepDecimal with | .seq _ (.seq _ (.seq _ (.seq _ (.seq _ (.seq _ (.seq _ (.seq _ t))))))) => t | _ => .skip
theorem rep_succ (i : Nat) (l : List UInt8) : [(48 : UInt8)] ++ (List.replicate i 48 ++ l) = List.replicate (i + 1) 48 ++ l := by
 rw [List.replicate_succ]; rfl
set_option maxHeartbeats 1000000 in
theorem tailPD_W (neg : Bool) (a dd : List Nat) (q k : Nat) (C7 : List DV) (hq : (limbs q).length ≤ 800) (hk : k ≤ 100) (ha : a.length ≤ 900) (hd : dd.length ≤ 900) (la : lim a) (ld : lim dd) :
  W fnpDecimal tailPD (RetP respDecimal (.str (if decide ((rv neg a dd).num < 0) && decide (0 < q) then 45 :: pointed k (padz (k + 1) (decDigits q)) else pointed k (padz (k + 1) (decDigits q)))))
   [(1, .int .i64 k), (2, .ptr 2 0), (4, .str []), (8, .ptr 8 0)] [(2, [.bool neg, .sl 1 (us a), .sl 1 (us dd)]), (7, C7), (8, [.bool false, .sl 1 (us (limbs q))])] := by
 have c1 := sFormat_calls false (limbs q) (by omega) (lim_limbs _)
 rw [iv_nat] at c1
 have hf : fmtI ((q : Nat) : Int) = decDigits q := by unfold fmtI; rw [if_neg (by omega), Int.natAbs_natCast]
 rw [hf] at c1
 unfold X at c1
 have c2 := pSign_calls neg a dd ha hd la ld
 unfold XQ at c2
 have c3 := sSign_calls false (limbs q) (by omega) (lim_limbs _)
 rw [iv_nat] at c3
 unfold X at c3
 have hD := dd_le hq
 have hs1 : decide ((rv neg a dd).num.sign < 0) = decide ((rv neg a dd).num < 0) := by rw [decide_eq_decide]; exact Int.sign_neg_iff
 have hs2 : decide ((0 : Int) < ((q : Nat) : Int).sign) = decide (0 < q) := by
  rw [decide_eq_decide]
  rcases Nat.eq_zero_or_pos q with h | h
  ·rw [h]; simp
  ·rw [Int.sign_eq_one_of_pos (by omega)]; simp [h]
 generalize (rv neg a dd).num = RN at *
 unfold tailPD codepDecimal
 dsimp only
 generalize decDigits q = D at *
 repeat (first | refine zQ (zA @cS (zA @cT (zA @nbpDecimal cI))) ?_ | refine cP c1 ?_ | exact zT)
 refine W_loop (σ := Nat) (fun i => [(1, .int .i64 k), (2, .ptr 2 0), (4, .str []), (8, .ptr 8 0), (10, .str (List.replicate i 48 ++ D))]) (fun _ => [(2, [.bool neg, .sl 1 (us a), .sl 1 (us dd)]), (7, C7), (8, [.bool false, .sl 1 (us (limbs q))])]) (fun i => i ≤ k + 1 - D.length) (fun i => k + 1 - D.length - i) 0 (Nat.zero_le _) ?_ rfl ?_
 ·simp [subF, lk]
 ·rintro i hi
  try simp only at hi ⊢
  have hlen : (List.replicate i (48 : UInt8) ++ D).length = i + D.length := by simp
  by_cases hlt : i < k + 1 - D.length
  ·have d : decide (((List.replicate i (48 : UInt8) ++ D).length : Int) ≤ (k : Int)) = true := decide_eq_true (by rw [hlen]; omega)
   have e := rep_succ i D
   have hL1 : ([(48 : UInt8)] : List UInt8).length = 1 := rfl
   have hb : 1 + (List.replicate i (48 : UInt8) ++ D).length ≤ 9223372036854775807 := by rw [hlen]; omega
   generalize hG : List.replicate i (48 : UInt8) ++ D = G at *
   refine zS (zA d cI) ?_
   refine wTs ?_
   refine zS (zA e (zA hL1 cI)) ?_
   exact ⟨i + 1, hlt, by omega, by simp [subF, lk]⟩
  ·have d : decide (((List.replicate i (48 : UInt8) ++ D).length : Int) ≤ (k : Int)) = false := decide_eq_false (by rw [hlen]; omega)
   have ep : List.replicate i 48 ++ D = padz (k + 1) D := by unfold padz; rw [show k + 1 - D.length = i by omega]
   rw [ep] at d ⊢
   refine zS (zA d cI) ?_
   refine W_cond rfl (fun h => by cases h) (fun _ => W_exit ?_)
   have hp := padz_len (k + 1) D
   generalize padz (k + 1) D = L at *
   clear c1 hf ep d hlen hlt hi
   obtain ⟨dk, hdk⟩ : ∃ dk, decide ((0 : Int) < (k : Int)) = dk := ⟨_, rfl⟩
   have hPl : (pointed k L).length ≤ L.length + 1 := by
    unfold pointed; split
    ·simp; omega
    ·omega
   refine zS (zA hdk cI) ?_
   refine W_join (ι := Unit) (fun _ => True) (fun _ => [(1, .int .i64 k), (2, .ptr 2 0), (4, .str []), (8, .ptr 8 0), (10, .str (pointed k L))]) (fun _ => [(2, [.bool neg, .sl 1 (us a), .sl 1 (us dd)]), (7, C7), (8, [.bool false, .sl 1 (us (limbs q))])]) ?_ ?_
   ·by_cases h : 0 < k
    ·rw [decide_eq_true (by omega)] at hdk
     subst hdk
     have e : (((L.length : Int) - (k : Int))).toNat = L.length - k := by omega
     have e0 : (L.take (L.length - k)).drop 0 = L.take (L.length - k) := rfl
     have ep : (L.take (L.length - k) ++ [46]) ++ L.drop (L.length - k) = pointed k L := by unfold pointed; rw [if_pos h]; simp
     refine wT ?_
     refine zS (zA e (zA e0 (zA @List.take_length.{0} (zA ep (zA @List.length_append.{0} (zA @List.length_take.{0} (zA @List.length_drop.{0} (zA @List.length_singleton.{0} cI)))))))) ?_
     first | exact ⟨(), trivial, by simp [subF, lk], rfl⟩ | exact ⟨(), by simp [subF, lk], rfl⟩ | exact ⟨(), by simp [subF, lk]⟩ | exact ⟨(), trivial, by simp [subF, lk]⟩
    ·rw [decide_eq_false (by omega)] at hdk
     subst hdk
     have ep : pointed k L = L := by unfold pointed; rw [if_neg h]
     refine wFs ?_
     rw [ep]
     first | exact ⟨(), trivial, by simp [subF, lk], rfl⟩ | exact ⟨(), by simp [subF, lk], rfl⟩ | exact ⟨(), by simp [subF, lk]⟩ | exact ⟨(), trivial, by simp [subF, lk]⟩
   ·rintro ⟨⟩ -
    generalize pointed k L = P at *
    have e : [(45 : UInt8)] ++ P = 45 :: P := rfl
    have hL1 : ([(45 : UInt8)] : List UInt8).length = 1 := rfl
    cases hb : decide (RN < 0)
    ·rw [hb] at hs1
     repeat (first | refine zQ (zA @cS (zA @cT (zA @nbpDecimal (zA hs1 cI)))) ?_ | refine cP c2 ?_ | exact zT)
     refine wFs ?_
     refine zS (zA @cS cI) ?_
     exact W_ret (RetP_1 (.imm rfl))
    ·rw [hb] at hs1
     cases hq0 : decide (0 < q)
     ·rw [hq0] at hs2
      repeat (first | refine zQ (zA @cS (zA @cT (zA @nbpDecimal (zA hs1 (zA hs2 cI))))) ?_ | refine cP c2 ?_ | refine cP c3 ?_ | exact zT)
      refine wFs ?_
      refine zS (zA @cS cI) ?_
      exact W_ret (RetP_1 (.imm rfl))
     ·rw [hq0] at hs2
      repeat (first | refine zQ (zA @cS (zA @cT (zA @nbpDecimal (zA hs1 (zA hs2 cI))))) ?_ | refine cP c2 ?_ | refine cP c3 ?_ | exact zT)
      refine wT ?_
      refine zS (zA @cS (zA e (zA hL1 cI))) ?_
      exact W_ret (RetP_1 (.imm rfl))
set_option maxHeartbeats 2000000 in
theorem pDecimal_calls (neg : Bool) (a d : List Nat) (k : Int) (ha : a.length ≤ 100) (hd : d.length ≤ 100) (la : lim a) (ld : lim d) : PCalls Tryz.prog 51 [XQ neg a d, .int .i64 k] (.str (decR (rv neg a d) k)) := by
 have cab := pAbs_calls neg a d (by omega) (by omega) la ld
 have k1 : RB (rv neg a d) 100 := RB_rv la ld ha hd (by decide)
 refine PCalls_of ispDecimal (by simp [fnpDecimal]) ?_
 by_cases h0 : k < 0
 ·unfold codepDecimal decR
  rw [if_pos (.inl h0)]
  have d0 : decide (k < 0) = true := decide_eq_true h0
  refine zS (zA @XQ.eq_1 (zA @cS (zA @nbpDecimal (zA d0 cI)))) ?_
  refine wT ?_
  refine zS cI ?_
  exact W_ret (RetP_1 (.imm rfl))
 ·have d0 : decide (k < 0) = false := decide_eq_false h0
  by_cases h1 : 100 < k
  ·unfold codepDecimal decR
   rw [if_pos (.inr h1)]
   have d1 : decide (100 < k) = true := decide_eq_true h1
   refine zS (zA @XQ.eq_1 (zA @cS (zA @nbpDecimal (zA d0 (zA d1 cI))))) ?_
   refine wT ?_
   refine zS cI ?_
   exact W_ret (RetP_1 (.imm rfl))
  ·unfold decR
   rw [if_neg (by omega)]
   have d1 : decide (100 < k) = false := decide_eq_false h1
   obtain ⟨n, rfl⟩ : ∃ n : Nat, k = n := ⟨k.toNat, by omega⟩
   rw [Int.toNat_natCast]
   have hn : n ≤ 100 := by omega
   have tl := ten_len n
   have rab : RB (absQ (rv neg a d)) 100 := by
    unfold absQ; split
    ·exact RB_neg k1
    ·exact k1
   have rT : RB (((10 ^ n : Nat) : Int) : Rat) 101 := RB_int (by rw [Int.natAbs_natCast]; omega) (by decide)
   have cmu := pMulL (absQ (rv neg a d)) (((10 ^ n : Nat) : Int) : Rat) (rab.mono (by decide)) (rT.mono (by decide))
   have rv2 := RB_mul rab rT
   have hD0 := (rv neg a d).den_pos
   have ev : absQ (rv neg a d) * (((10 ^ n : Nat) : Int) : Rat) = mkRat (((rv neg a d).num.natAbs * 10 ^ n : Nat) : Int) (rv neg a d).den := abs_mul_ten _ _
   rw [ev] at cmu rv2
   have hlD := k1.2
   have hlA := len_mul k1.1 tl
   have ht := tailPD_W neg a d (rnd ((rv neg a d).num.natAbs * 10 ^ n) (rv neg a d).den) n
   have hres : decS (rv neg a d) n = (if decide ((rv neg a d).num < 0) && decide (0 < rnd ((rv neg a d).num.natAbs * 10 ^ n) (rv neg a d).den) then 45 :: pointed n (padz (n + 1) (decDigits (rnd ((rv neg a d).num.natAbs * 10 ^ n) (rv neg a d).den))) else pointed n (padz (n + 1) (decDigits (rnd ((rv neg a d).num.natAbs * 10 ^ n) (rv neg a d).den)))) := by
    unfold decS
    rw [← Bool.decide_and]
    simp only [decide_eq_true_eq]
   rw [← hres] at ht
   have ht := fun C => ht C (Nat.le_trans (rnd_len (m := 201) (by omega)) (by decide)) hn (by omega) (by omega) la ld
   clear hres
   generalize decS (rv neg a d) n = RES at *
   generalize absQ (rv neg a d) = AB at *
   generalize (rv neg a d).num.natAbs * 10 ^ n = A at *
   generalize (rv neg a d).den = D at *
   clear ev rab k1 rT
   have cfl := pFloorL (mkRat ((A : Nat) : Int) D) (rv2.mono (by decide))
   rw [mk_floor A D hD0, I_nat] at cfl
   have lq := Nat.le_trans (len_mono (Nat.div_le_self A D)) hlA
   have lr := Nat.le_trans (len_mono (Nat.le_of_lt (Nat.mod_lt A hD0))) hlD
   have rq : RB ((((A / D : Nat) : Nat) : Int) : Rat) 300 := RB_int (by rw [Int.natAbs_natCast]; omega) (by decide)
   have csu := pSubL (mkRat ((A : Nat) : Int) D) ((((A / D : Nat) : Nat) : Int) : Rat) (rv2.mono (by decide)) rq
   rw [Q_nat'] at csu
   have c2 := pFromInt_calls 2 (by decide) (by decide)
   have c1 := pFromInt_calls 1 (by decide) (by decide)
   have r2 : RB ((2 : Int) : Rat) 1 := RB_int (show (limbs 2).length ≤ 1 from limbs_len.2 (by decide)) (by decide)
   have r1 : RB ((1 : Int) : Rat) 1 := RB_int (show (limbs 1).length ≤ 1 from limbs_len.2 (by decide)) (by decide)
   have rfr : RB (mkRat ((A : Nat) : Int) D - ((((A / D : Nat) : Nat) : Int) : Rat)) 100 := by
    rw [mk_frac A D hD0]
    exact RB_mk (by omega) (by rw [Int.natAbs_natCast]; omega) hlD
   have cm2 := pMulL _ _ (rfr.mono (by decide)) (r2.mono (n := 300) (by decide))
   have ccm := pCompareL _ ((1 : Int) : Rat) ((RB_mul rfr r2).mono (n := 300) (by decide)) (r1.mono (by decide))
   rw [cmp_half A D hD0] at ccm
   have e1 := cmp_gt (A % D * 2) D
   have e2 := cmp_e0 (A % D * 2) D
   have cs1 := sFromInt_calls 1 (by decide) (by decide)
   have csa := sAddL ((A / D : Nat) : Int) 1 (il_nat (by omega)) (by unfold il; exact limbs1_le (m := 900) (by decide))
   rw [show (((A / D : Nat) : Int) + 1) = ((A / D + 1 : Nat) : Int) by omega, I_nat, I_nat] at csa
   have hup := @rnd_up A D
   have hdn := @rnd_dn A D
   have hg0 := getD_limbs0 (A / D)
   have hlg := len_gt (A / D)
   generalize rnd A D = RN at *
   generalize cmpN (A % D * 2) D = C at *
   clear rfr rq lr hlD hlA rv2 r1 r2
   generalize mkRat ((A : Nat) : Int) D - ((((A / D : Nat) : Nat) : Int) : Rat) = Z1 at *
   generalize Z1 * ((2 : Int) : Rat) = Z2 at *
   generalize mkRat ((A : Nat) : Int) D = Z0 at *
   generalize A / D = q at *
   generalize A % D = R at *
   rw [Q_nat'] at cmu
   have l1 : limbs (10 ^ 0) = limbs 1 := rfl
   have htC := ht (XL Z0)
   clear ht
   generalize hT : tailPD = T at htC
   unfold tailPD codepDecimal at hT
   dsimp only at hT
   unfold codepDecimal
   rw [hT]
   clear hT
   refine zS (zA @XQ.eq_1 (zA @cS (zA @nbpDecimal (zA d0 (zA d1 cI))))) ?_
   refine wFs ?_
   refine zS (zA @us1L (zA @us_rfd cI)) ?_
   refine W_loop (σ := Nat) (fun i => [(1, .int .i64 n), (2, .ptr 2 0), (4, .str []), (5, .sl 1 (us (limbs (10 ^ i)))), (6, .int .i64 i)]) (fun _ => [(2, [.bool neg, .sl 1 (us a), .sl 1 (us d)])]) (fun i => i ≤ n) (fun i => n - i) 0 (Nat.zero_le _) ?_ rfl ?_
   ·simp [subF, lk, l1]
   ·rintro i hi
    try simp only at hi ⊢
    by_cases hlt : i < n
    ·have dl : decide ((i : Int) < n) = true := decide_eq_true (by omega)
     have e1 : ((i : Int) + 1) = ((i + 1 : Nat) : Int) := by omega
     have cm := rMul10 i (by omega)
     refine zS (zA dl cI) ?_
     refine wTs ?_
     repeat (first | refine zQ (zA @l10 (zA @us_rfd (zA e1 cI))) ?_ | refine cP cm ?_ | exact zT)
     exact ⟨i + 1, hlt, by omega, by simp [subF, lk]⟩
    ·have dl : decide ((i : Int) < n) = false := decide_eq_false (by omega)
     have hin : i = n := by omega
     subst hin
     generalize 10 ^ i = TN at *
     have cab' := cab
     unfold XQ at cab'
     have e0 : (Int.toNat 0) = 0 := rfl
     refine zS (zA dl cI) ?_
     refine W_cond rfl (fun h => by cases h) (fun _ => W_exit ?_)
     by_cases hA : D < R * 2
     ·rw [decide_eq_true hA] at e1
      rw [hup (.inl (by omega))] at htC
      clear hup hdn
      repeat (first | refine zQ (zA @XL.eq_1 (zA @Q.eq_1 (zA @cS (zA @cT (zA @nbpDecimal (zA e1 cI)))))) ?_ | refine cP cab' ?_ | refine cP (PCalls_nz1 1 (cmu)) ?_ | refine cP cfl ?_ | refine cP (PCalls_nz1 1 (csu)) ?_ | refine cP c2 ?_ | refine cP cm2 ?_ | refine cP c1 ?_ | refine cP ccm ?_ | exact zT)
      refine wT ?_
      repeat (first | refine zQ (zA @XL.eq_1 (zA @Q.eq_1 (zA @cS (zA @cT (zA @nbpDecimal cI))))) ?_ | refine cP cs1 ?_ | refine cP csa ?_ | exact zT)
      refine W_sub ?_ htC
      simp [subF, lk]
     ·rw [decide_eq_false hA] at e1
      by_cases hE : R * 2 = D
      ·rw [decide_eq_true hE] at e2
       by_cases hq : 0 < q
       ·rw [decide_eq_true hq] at hlg
        have hlq : 0 < (limbs q).length := limbs_len0.2 hq
        have tm2 : (((q % 4294967296 : Nat) : Int)).tmod 2 = ((q % 2 : Nat) : Int) := by
         have := tmod_nat (q % 4294967296) 2
         rw [Nat.mod_mod_of_dvd q (show 2 ∣ 4294967296 by decide)] at this
         exact this
        have hug := us_getD hlq
        rw [hg0] at hug
        by_cases ho : q % 2 = 1
        ·rw [hup (.inr ⟨by omega, ho⟩)] at htC
         have d2 : decide (((q % 2 : Nat) : Int) = 1) = true := decide_eq_true (by omega)
         clear hup hdn hg0
         repeat (first | refine zQ (zA @XL.eq_1 (zA @Q.eq_1 (zA @cS (zA @cT (zA @nbpDecimal (zA e1 (zA e2 (zA hlg (zA @us_length (zA e0 (zA hug (zA tm2 (zA d2 cI))))))))))))) ?_ | refine cP cab' ?_ | refine cP (PCalls_nz1 1 (cmu)) ?_ | refine cP cfl ?_ | refine cP (PCalls_nz1 1 (csu)) ?_ | refine cP c2 ?_ | refine cP cm2 ?_ | refine cP c1 ?_ | refine cP ccm ?_ | exact zT)
         refine wT ?_
         repeat (first | refine zQ (zA @XL.eq_1 (zA @Q.eq_1 (zA @cS (zA @cT (zA @nbpDecimal cI))))) ?_ | refine cP cs1 ?_ | refine cP csa ?_ | exact zT)
         refine W_sub ?_ htC
         simp [subF, lk]
        ·rw [hdn (fun h => by omega)] at htC
         have d2 : decide (((q % 2 : Nat) : Int) = 1) = false := decide_eq_false (by omega)
         clear hup hdn hg0
         repeat (first | refine zQ (zA @XL.eq_1 (zA @Q.eq_1 (zA @cS (zA @cT (zA @nbpDecimal (zA e1 (zA e2 (zA hlg (zA @us_length (zA e0 (zA hug (zA tm2 (zA d2 cI))))))))))))) ?_ | refine cP cab' ?_ | refine cP (PCalls_nz1 1 (cmu)) ?_ | refine cP cfl ?_ | refine cP (PCalls_nz1 1 (csu)) ?_ | refine cP c2 ?_ | refine cP cm2 ?_ | refine cP c1 ?_ | refine cP ccm ?_ | exact zT)
         refine wFs ?_
         refine W_sub ?_ htC
         simp [subF, lk]
       ·rw [decide_eq_false hq] at hlg
        rw [hdn (fun h => by have h0 : q = 0 := by omega
                             rw [h0] at h; omega)] at htC
        clear hup hdn
        repeat (first | refine zQ (zA @XL.eq_1 (zA @Q.eq_1 (zA @cS (zA @cT (zA @nbpDecimal (zA e1 (zA e2 (zA hlg (zA @us_length cI))))))))) ?_ | refine cP cab' ?_ | refine cP (PCalls_nz1 1 (cmu)) ?_ | refine cP cfl ?_ | refine cP (PCalls_nz1 1 (csu)) ?_ | refine cP c2 ?_ | refine cP cm2 ?_ | refine cP c1 ?_ | refine cP ccm ?_ | exact zT)
        refine wFs ?_
        refine W_sub ?_ htC
        simp [subF, lk]
      ·rw [decide_eq_false hE] at e2
       rw [hdn (fun h => by omega)] at htC
       clear hup hdn
       repeat (first | refine zQ (zA @XL.eq_1 (zA @Q.eq_1 (zA @cS (zA @cT (zA @nbpDecimal (zA e1 (zA e2 cI))))))) ?_ | refine cP cab' ?_ | refine cP (PCalls_nz1 1 (cmu)) ?_ | refine cP cfl ?_ | refine cP (PCalls_nz1 1 (csu)) ?_ | refine cP c2 ?_ | refine cP cm2 ?_ | refine cP c1 ?_ | refine cP ccm ?_ | exact zT)
       refine wFs ?_
       refine W_sub ?_ htC
       simp [subF, lk]
end Go.Proofs.YtjfedgpbedppeaaGreatDoor
namespace Go.Proofs.YtjfedgpbedppeaaGreatDoor
open Go Go.Dat Go.Proofs Go.RowKit Go.Shelf
theorem sizeB : (Tryz.prog.info? 71).map (·.size) = some 2 := by kernel_rfl
theorem liesB : liesAt Tryz.prog Tryz.prog.depth 71 (2 / Tryz.prog.cellsOf 71) 0 71 1 = true := by kernel_rfl
set_option maxHeartbeats 1000000 in
set_option maxRecDepth 100000 in
theorem bCopy_used (b : Nat) (w : World) (h0 : w.cell? ⟨b, 0, none⟩ = some (.pointer (some ⟨b, 0, none⟩))) :
  Calls Tryz.prog 60 #[.pointer (some ⟨b, 0, none⟩)] w fun e w' => e = .returned (.tuple #[]) ∧ w' = w := by
 obtain ⟨j, hj, _⟩ := Option.map_eq_some_iff.1 sizeB
 go_enter Tryz.func60, Tryz.ntmps60
 go_wp2
 rw [Lib.run_neq_ptr_same w _ Tryz.underlying69 hj]
 go_wp2
 go_end0
 exact ⟨rfl, rfl⟩
set_option maxHeartbeats 1000000 in
set_option maxRecDepth 100000 in
theorem bCopy_fresh (b : Nat) (w : World) (h0 : w.cell? ⟨b, 0, none⟩ = some (.pointer none)) (hsh : w.shape? b = some (71, 2)) (hfz : w.frozen? ⟨b, 0, none⟩ = false) :
  Calls Tryz.prog 60 #[.pointer (some ⟨b, 0, none⟩)] w fun e w' => e = .returned (.tuple #[]) ∧ w' = w.setCell ⟨b, 0, none⟩ (.pointer (some ⟨b, 0, none⟩)) := by
 obtain ⟨j, hj, hjs⟩ := Option.map_eq_some_iff.1 sizeB
 go_enter Tryz.func60, Tryz.ntmps60
 go_wp2
 rw [Lib.run_to_unsafe w ⟨b, 0, none⟩ Tryz.underlying69 Tryz.underlying142 hj (by rw [hjs]; decide) hsh (Nat.zero_lt_succ 1)]
 simp only [Result.andThen]
 rw [Oper.upon_value]
 go_wp2
 rw [run_callFunc_extern Tryz.func108 (by kernel_rfl) (by kernel_rfl) (by kernel_rfl) (e := Extern.AbiNoEscape.same) (by kernel_rfl)]
 rw [Lib.run_noEscape]
 simp only [Result.andThen]
 rw [Oper.upon_value]
 go_wp2
 rw [Lib.run_from_unsafe w ⟨b, 0, none⟩ Tryz.underlying142 Tryz.underlying69 hj hsh liesB]
 simp only [Result.andThen]
 rw [Oper.upon_value]
 go_wp2
 go_end0
 exact ⟨rfl, rfl⟩
end Go.Proofs.YtjfedgpbedppeaaGreatDoor
namespace Go.Proofs.YtjfedgpbedppeaaGreatDoor
open Go Go.Proofs Go.RowKit Go.Shelf
theorem infoU8 : (Tryz.prog.info? 5).map (fun i => (i.zero, i.size, i.bytes)) = some (some (.int .u8 0), 1, 1) := by kernel_rfl
theorem bCopy_f (B b : Nat) (bs : List Value) (w : World) (h : Lib.IsBuilderF 71 5 B b bs w) :
  Calls Tryz.prog 60 #[.pointer (some ⟨b, 0, none⟩)] w fun e w' => e = .returned (.tuple #[]) ∧ (Lib.BuilderAtF 71 5 B b (.pointer (some ⟨b, 0, none⟩)) bs w' ∧ Below B w w') := by
 rcases h with h | h
 ·refine (bCopy_fresh b w h.cell0 h.shape h.frozen0).mono ?_
  rintro e w' ⟨rfl, rfl⟩
  exact ⟨rfl, h.used _, (Below.refl B w).setCell (p := ⟨b, 0, none⟩) h.1 _⟩
 ·refine (bCopy_used b w h.cell0).mono ?_
  rintro e w' ⟨rfl, rfl⟩
  exact ⟨rfl, h, Below.refl B _⟩
set_option maxHeartbeats 2000000 in
set_option maxRecDepth 100000 in
theorem bWriteString (B b : Nat) (bs : List Value) (s : ByteArray) (w : World) (h : Lib.IsBuilderF 71 5 B b bs w) (hlen : bs.length + s.size ≤ 140737488355328) (hBw : B ≤ w.heap.size) :
  Calls Tryz.prog 37 #[.pointer (some ⟨b, 0, none⟩), .string s] w fun e w' => e = .returned (.tuple #[.int .i64 s.size, .nilIface]) ∧ (Lib.BuilderAtF 71 5 B b (.pointer (some ⟨b, 0, none⟩)) (bs ++ Lib.strCells s) w' ∧ Below B w w') := by
 obtain ⟨i0, hi, hz0, hz1, hz2⟩ := info_parts infoU8
 go_enter Tryz.func37, Tryz.ntmps37
 go_wp2_with (go_at_call 60; refine (bCopy_f B b bs _ h).mono ?_)
 rintro e w1 ⟨rfl, h1, hb1⟩
 obtain ⟨hB, v, hbk, hown, hne⟩ := h1
 have c0 : w1.cell? ⟨b, 0, none⟩ = some (.pointer (some ⟨b, 0, none⟩)) := by rw [Lib.cell_of_heap hbk]; rfl
 have c1 : w1.cell? ⟨b, 1, none⟩ = some v := by rw [Lib.cell_of_heap hbk]; rfl
 go_wp2_with (at_builtin; refine Lib.wpList_append_own_stringF _ rfl _ _ 38 9 rfl B 5 i0 Tryz.underlying38 Tryz.underlying9 hi hz0 hz1 hz2 _ _ _ rfl hown s rfl ?c3 ?c4 ?c5 ?_)
 case c3 => unfold maxLen; omega
 case c4 => omega
 case c5 => have := hb1.size; omega
 intro v' w2 hown' hgrow _
 have hlt : b < w1.heap.size := by
  rcases Nat.lt_or_ge b w1.heap.size with h' | h'
  ·exact h'
  ·simp [Array.getElem?_eq_none h'] at hbk
 have hb2 : w2.heap[b]? = some (.cells #[.pointer (some ⟨b, 0, none⟩), v] 71 (0, 0)) := by
  rw [hgrow.block b hlt (fun e => hne e.symm)]
  exact hbk
 have d0 : w2.cell? ⟨b, 0, none⟩ = some (.pointer (some ⟨b, 0, none⟩)) := by rw [Lib.cell_of_heap hb2]; rfl
 have d1 : w2.cell? ⟨b, 1, none⟩ = some v := by rw [Lib.cell_of_heap hb2]; rfl
 have f1 : w2.frozen? ⟨b, 1, none⟩ = false := Lib.frozen_of_heap hb2 1
 obtain ⟨ao, n', cap, rfl⟩ : ∃ ao n' cap, v' = .slice ao n' cap := by
  rcases hown'.2 with ⟨hv, _⟩ | ⟨g, cap, cur, fz, hv, _⟩
  ·exact ⟨_, _, _, hv⟩
  ·exact ⟨_, _, _, hv⟩
 go_wp2
 go_ret2
 refine ⟨rfl, ?_, ?_⟩
 ·exact Lib.BuilderAtF.put (T := 71) (e := 5) hB hb2 (bs' := bs ++ Lib.strCells s) (by simpa [Lib.strCells_length] using hown') (by decide)
 ·exact (hb1.grown hgrow (by have := hb1.size; omega) (fun k hk => (hown.lt k hk).1)).setCell (p := ⟨b, 1, none⟩) hB _
set_option maxHeartbeats 2000000 in
set_option maxRecDepth 100000 in
theorem bWriteByte (B b : Nat) (bs : List Value) (c : Int) (w : World) (h : Lib.IsBuilderF 71 5 B b bs w) (hlen : bs.length + 1 ≤ 140737488355328) (hBw : B ≤ w.heap.size) :
  Calls Tryz.prog 56 #[.pointer (some ⟨b, 0, none⟩), .int .u8 c] w fun e w' => e = .returned .nilIface ∧ (Lib.BuilderAtF 71 5 B b (.pointer (some ⟨b, 0, none⟩)) (bs ++ [.int .u8 c]) w' ∧ Below B w w') := by
 obtain ⟨i0, hi, hz0, hz1, hz2⟩ := info_parts infoU8
 go_enter Tryz.func56, Tryz.ntmps56
 go_wp2_with (go_at_call 60; refine (bCopy_f B b bs _ h).mono ?_)
 rintro e w1 ⟨rfl, h1, hb1⟩
 obtain ⟨hB, v, hbk, hown, hne⟩ := h1
 have c0 : w1.cell? ⟨b, 0, none⟩ = some (.pointer (some ⟨b, 0, none⟩)) := by rw [Lib.cell_of_heap hbk]; rfl
 have c1 : w1.cell? ⟨b, 1, none⟩ = some v := by rw [Lib.cell_of_heap hbk]; rfl
 go_wp2_with (at_builtin; refine wpList_append_ownF _ rfl _ _ 38 rfl B 5 i0 (.int .u8 0) 1 1 Tryz.underlying38 hi hz0 hz1 hz2 rfl (by decide) _ _ _ rfl (hown.alloc _) ⟨w1.heap.size, 0, none⟩ 1 1 [.int .u8 c] rfl rfl ?c1 ?c2 ?c3 ?c4 ?c5 ?_)
 case c1 =>
  intro j u hj
  match j, hj with
  | 0, hj => simp at hj; subst hj; simp [Addr.add]
 case c2 => intro u hu; simp at hu; subst hu; rfl
 case c3 => unfold maxLen; omega
 case c4 => omega
 case c5 => have := hb1.size; simp; omega
 intro v' w2 hown' hgrow _
 have hlt : b < w1.heap.size := by
  rcases Nat.lt_or_ge b w1.heap.size with h' | h'
  ·exact h'
  ·simp [Array.getElem?_eq_none h'] at hbk
 have hb2 : w2.heap[b]? = some (.cells #[.pointer (some ⟨b, 0, none⟩), v] 71 (0, 0)) := by
  rw [hgrow.block b (by simp; omega) (fun e => hne e.symm), Lib.alloc_old w1 _ b hlt]
  exact hbk
 have d0 : w2.cell? ⟨b, 0, none⟩ = some (.pointer (some ⟨b, 0, none⟩)) := by rw [Lib.cell_of_heap hb2]; rfl
 have d1 : w2.cell? ⟨b, 1, none⟩ = some v := by rw [Lib.cell_of_heap hb2]; rfl
 have f1 : w2.frozen? ⟨b, 1, none⟩ = false := Lib.frozen_of_heap hb2 1
 obtain ⟨g, cap, rfl⟩ : ∃ g cap, v' = .slice (some ⟨g, 0, none⟩) (bs.length + 1) cap := by
  rcases hown'.2 with ⟨_, h0⟩ | ⟨g, cap, cur, fz, hv, _⟩
  ·omega
  ·exact ⟨g, cap, hv⟩
 go_wp2
 go_ret
 refine ⟨rfl, ?_, ?_⟩
 ·exact Lib.BuilderAtF.put (T := 71) (e := 5) hB hb2 (bs' := bs ++ [.int .u8 c]) (by simpa using hown') (by decide)
 ·exact ((hb1.alloc (by have := hb1.size; omega) _).grown hgrow (by have := hb1.size; simp; omega) (fun k hk => (hown.lt k hk).1)).setCell (p := ⟨b, 1, none⟩) hB _
end Go.Proofs.YtjfedgpbedppeaaGreatDoor
namespace Go.Proofs.YtjfedgpbedppeaaGreatDoor
open Go Go.Proofs Go.RowKit Go.Shelf Nat32
theorem add_blk (a : Addr) (n : Nat) : (a.add n).block = a.block := by unfold Addr.add; split <;> rfl
theorem add0 (a : Addr) : a.add 0 = a := by unfold Addr.add; rw [if_pos rfl]
theorem rep_len (n : Nat) : (Lib.repeatL [32] n).length = n := by
 have := Lib.repeatL_length [32] n
 simpa using this
theorem rep_list (n : Nat) : (⟨(Lib.repeatL [32] n).toArray⟩ : ByteArray).data.toList = List.replicate n 32 := by
 show Lib.repeatL [32] n = _
 have := Lib.repeatL_replicate 32 1 n
 rw [Nat.mul_one] at this
 exact this
theorem below_le {B C : Nat} {w w' : World} (h : Below C w w') (hB : B ≤ C) : Below B w w' := ⟨h.os, h.tape, h.output, h.size, fun k hk => h.block k (Nat.lt_of_lt_of_le hk hB)⟩
theorem BAt_below {T e : TypeId} {B b : Nat} {p : Value} {bs : List Value} {w w' : World} (h : Lib.BuilderAtF T e B b p bs w) (hb : Below w.heap.size w w') : Lib.BuilderAtF T e B b p bs w' := by
 have hlt := h.lt
 obtain ⟨hB, v, hbk, hown, hne⟩ := h
 refine ⟨hB, v, (hb.block b hlt).trans hbk, ⟨hown.1, ?_⟩, hne⟩
 rcases hown.2 with h1 | ⟨g, cap, cur, fz, e1, e2, e3, r⟩
 ·exact .inl h1
 ·exact .inr ⟨g, cap, cur, fz, e1, e2, (hb.block g (Array.getElem?_eq_some_iff.1 e3).1).trans e3, r⟩
theorem IsB_below {T e : TypeId} {B b : Nat} {bs : List Value} {w w' : World} (h : Lib.IsBuilderF T e B b bs w) (hb : Below w.heap.size w w') : Lib.IsBuilderF T e B b bs w' := h.imp (fun x => BAt_below x hb) (fun x => BAt_below x hb)
structure Hd (p : Prop) : Prop where
 out : p
noncomputable def part2 : Code := match Tryz.f29.body with | some (.seq _ (.seq _ (.seq _ (.seq _ (.seq _ (.seq _ t)))))) => t | _ => .skip
set_option maxHeartbeats 8000000 in
set_option maxRecDepth 1000000 in
theorem part2_walk (w : World) (ad : Addr) (N m c0 bw cw : Nat) (A : Nat → Addr) (C : Nat → Nat) (recs : List (List (List UInt8))) (wd : Nat → Nat) (hN : N ≤ 1024) (hm : m ≤ 32)
  (hrec : ∀ i, i < N → w.cell? (ad.add i) = some (.slice (some (A i)) m (C i)))
  (hcell : ∀ i, i < N → ∀ j, j < m → w.cell? ((A i).add j) = some (.string ⟨((recs.getD i []).getD j []).toArray⟩))
  (hwid : ∀ j, j < m → w.cell? ⟨bw, j, none⟩ = some (.int .i64 (wd j : Nat)))
  (hle : ∀ i j, ((recs.getD i []).getD j []).length ≤ wd j) (hwd : ∀ j, wd j ≤ 32) (u1 u2 u3 u4 u5 u6 u8 u9 u10 u11 u12 u13 u14 u15 u16 u17 u18 u19 u20 u21 u22 u23 u24 u25 u26 u27 u28 u29 u30 u31 u32 u33 u34 u35 u36 u37 u38 u39 u40 u41 u42 u43 u44 u45 u46 u47 u48 u49 u50 u51 u52 u53 u54 u55 u56 u57 u58 u59 u60 u61 u62 u63 u64 u65 u66 u67 u68 u69 u70 u71 u72 u73 u74 u75 u76 u77 u78 u79 u80 u81 u82 u83 u84 u85 u86 u87 u88 u89 u90 u91 u92 u93 u94 u95 u96 u97 u98 u99 u100 u101 u102 u103 u104 u105 u106 u107 u108 : Value)
  (D0 : List Deferred) (Q : Exit → Act → World → Prop)
  (hQ : ∀ (tmps : Array Value) (w' : World), tmps.size = 109 → tmps.getD 2 undef = .string ⟨(colT wd recs m N).toArray⟩ → tmps.getD 3 undef = .int .i64 0 → Below w.heap.size w w' → Q .ret { tmps := tmps, defers := D0 } w') :
  Code.wp Tryz.prog part2 Q { tmps := List.toArray (.slice (some ad) N c0 :: u1 :: u2 :: u3 :: u4 :: u5 :: u6 :: .slice (some ⟨bw, 0, none⟩) m cw :: u8 :: u9 :: u10 :: u11 :: u12 :: u13 :: u14 :: u15 :: u16 :: u17 :: u18 :: u19 :: u20 :: u21 :: u22 :: u23 :: u24 :: u25 :: u26 :: u27 :: u28 :: u29 :: u30 :: u31 :: u32 :: u33 :: u34 :: u35 :: u36 :: u37 :: u38 :: u39 :: u40 :: u41 :: u42 :: u43 :: u44 :: u45 :: u46 :: u47 :: u48 :: u49 :: u50 :: u51 :: u52 :: u53 :: u54 :: u55 :: u56 :: u57 :: u58 :: u59 :: u60 :: u61 :: u62 :: u63 :: u64 :: u65 :: u66 :: u67 :: u68 :: u69 :: u70 :: u71 :: u72 :: u73 :: u74 :: u75 :: u76 :: u77 :: u78 :: u79 :: u80 :: u81 :: u82 :: u83 :: u84 :: u85 :: u86 :: u87 :: u88 :: u89 :: u90 :: u91 :: u92 :: u93 :: u94 :: u95 :: u96 :: u97 :: u98 :: u99 :: u100 :: u101 :: u102 :: u103 :: u104 :: u105 :: u106 :: u107 :: u108 :: []), defers := D0 } w := by
 have HR := Hd.mk hrec
 have HC := Hd.mk hcell
 have HW := Hd.mk hwid
 have HL := Hd.mk hle
 have HD := Hd.mk hwd
 have HQ := Hd.mk hQ
 have HT := Hd.mk (fun i => colT_len (n := m) hm hle hwd i)
 have HT2 := Hd.mk (fun i k => rowT_len (hle i) hwd k)
 clear hrec hcell hwid hle hwd hQ
 unfold part2 Tryz.f29
 dsimp only
 go_wp2
 go_loopw [80] (fun i wr => ∃ k : Nat, k ≤ N ∧ i = .int .i64 k ∧ Hd (Lib.IsBuilderF 71 5 w.heap.size w.heap.size (Lib.byteCells (colT wd recs m k)) wr) ∧ Hd (Below w.heap.size w wr)) (fun i _ => N - (intOf i).toNat)
 case atStart =>
  refine ⟨0, Nat.zero_le _, rfl, ⟨.inl ⟨Nat.le_refl _, .slice none 0 0, heap_alloc_new w _, ⟨rfl, .inl ⟨rfl, rfl⟩⟩, by simp [Value.ownBlock]⟩⟩, ⟨(Below.refl _ _).alloc (Nat.le_refl _) _⟩⟩
 case round =>
  obtain ⟨k, hk, rfl, HB, HW2⟩ := hrel
  by_cases hkn : k < N
  ·have c1 : wr.cell? (ad.add k) = some (.slice (some (A k)) m (C k)) := by
    rw [HW2.out.cell (World.block_lt_of_cell? w _ (HR.out k hkn))]; exact HR.out k hkn
   have hbs := HW2.out.size
   go_wp2
   go_hide hQ2
   go_loopw [86] (fun i w2 => ∃ j : Nat, j ≤ m ∧ i = .int .i64 j ∧ Hd (Lib.IsBuilderF 71 5 w.heap.size w.heap.size (Lib.byteCells (colT wd recs m k ++ rowT wd (recs.getD k []) j)) w2) ∧ Hd (Below w.heap.size w w2)) (fun i _ => m - (intOf i).toNat)
   case atStart => exact ⟨0, Nat.zero_le _, rfl, ⟨by rw [rowT_zero, List.append_nil]; exact HB.out⟩, HW2⟩
   case round =>
    obtain ⟨j, hj, rfl, HB2, HW3⟩ := hrel
    by_cases hjm : j < m
    ·have c2 : wr.cell? ((A k).add j) = some (.string ⟨((recs.getD k []).getD j []).toArray⟩) := by
      rw [HW3.out.cell (World.block_lt_of_cell? w _ (HC.out k hkn j hjm))]; exact HC.out k hkn j hjm
     have c3 : wr.cell? ⟨bw, j, none⟩ = some (.int .i64 (wd j : Nat)) := by
      rw [HW3.out.cell (World.block_lt_of_cell? w _ (HW.out j hjm))]; exact HW.out j hjm
     have l1 := HL.out k j
     have l2 := HD.out j
     have l3 := HT.out k
     have l4 := HT2.out k j
     have hstep := rowT_succ wd (recs.getD k []) j
     generalize (recs.getD k []).getD j [] = S at *
     have hss : (⟨S.toArray⟩ : ByteArray).size = S.length := rfl
     have hw : ((wd j : Int) - (S.length : Int)) = ((wd j - S.length : Nat) : Int) := by omega
     have hbz := HW3.out.size
     have hl0 : (Lib.byteCells (colT wd recs m k ++ rowT wd (recs.getD k []) j)).length = (colT wd recs m k).length + (rowT wd (recs.getD k []) j).length := by
      rw [Lib.byteCells_length, List.length_append]
     have hlB : (Lib.byteCells (colT wd recs m k ++ rowT wd (recs.getD k []) j)).length ≤ 1089 * 1024 + 34 * 32 := by
      rw [Lib.byteCells_length, List.length_append]; omega
     have hbw : bw < w.heap.size := World.block_lt_of_cell? w _ (HW.out j hjm)
     have hA : (A k).block < w.heap.size := by have := World.block_lt_of_cell? w _ (HC.out k hkn j hjm); rwa [add_blk] at this
     have h1z : (⟨#[32]⟩ : ByteArray).size = 1 := rfl
     have h2z : (⟨#[32, 32]⟩ : ByteArray).size = 2 := rfl
     have hrp : (⟨(Lib.repeatL [32] (wd j - S.length)).toArray⟩ : ByteArray).size ≤ 32 := by
      show (Lib.repeatL [32] (wd j - S.length)).length ≤ 32
      rw [rep_len]; omega
     by_cases hj0 : j = 0
     ·subst hj0
      rw [add0] at c2
      have hl3 := hl0
      have z3 := hbz
      have H3 := HB2.out
      have B3 := HW3
      have hnext : Lib.byteCells (colT wd recs m k ++ rowT wd (recs.getD k []) 0) ++ Lib.strCells ⟨(Lib.repeatL [32] (wd 0 - S.length)).toArray⟩ ++ Lib.strCells ⟨S.toArray⟩ = Lib.byteCells (colT wd recs m k ++ rowT wd (recs.getD k []) (0 + 1)) := by
       rw [hstep, Lib.strCells_eq, Lib.strCells_eq, ← Lib.byteCells_append, ← Lib.byteCells_append]
       unfold cellT
       rw [if_neg (by omega), List.nil_append, rep_list]
       simp only [List.append_assoc]
      go_wp2_with fail
      refine (Tryz.strings_Repeat ⟨#[32]⟩ (wd 0 - S.length) wr (by omega) (by rw [h1z]; omega)).mono ?_
      rintro e w4 ⟨rfl, b4⟩
      have H4 := IsB_below H3 b4
      have z4 : w.heap.size ≤ w4.heap.size := Nat.le_trans z3 b4.size
      have B4 := Hd.mk (B3.out.trans (below_le b4 z3))
      clear b4 H3
      go_wp2_with fail
      refine (bWriteString w.heap.size w.heap.size _ _ w4 H4 (by rw [hl3]; omega) z4).mono ?_
      rintro e w5 ⟨rfl, h5, b5⟩
      have z5 : w.heap.size ≤ w5.heap.size := Nat.le_trans z4 b5.size
      have B5 := Hd.mk (B4.out.trans b5)
      clear b5 H4
      go_wp2_with fail
      refine (bWriteString w.heap.size w.heap.size _ _ w5 (Or.inr h5) (by rw [List.length_append, hl3, Lib.strCells_length]; omega) z5).mono ?_
      rintro e w6 ⟨rfl, h6, b6⟩
      have B6 := Hd.mk (B5.out.trans b6)
      clear b6 h5
      rw [hnext] at h6
      have H6 := Hd.mk (Or.inr h6 : Lib.IsBuilderF 71 5 w.heap.size w.heap.size _ w6)
      clear h6
      go_wp2
      exact ⟨⟨0 + 1, by omega, by go_num, H6, B6⟩, by simp [intOf]; omega⟩
     ·have d0 : decide ((0 : Int) < (j : Int)) = true := decide_eq_true (by omega)
      have hnext : Lib.byteCells (colT wd recs m k ++ rowT wd (recs.getD k []) j) ++ Lib.strCells ⟨#[32, 32]⟩ ++ Lib.strCells ⟨(Lib.repeatL [32] (wd j - S.length)).toArray⟩ ++ Lib.strCells ⟨S.toArray⟩ = Lib.byteCells (colT wd recs m k ++ rowT wd (recs.getD k []) (j + 1)) := by
       rw [hstep, Lib.strCells_eq, Lib.strCells_eq, Lib.strCells_eq, ← Lib.byteCells_append, ← Lib.byteCells_append, ← Lib.byteCells_append]
       unfold cellT
       rw [if_pos (by omega), rep_list]
       simp only [List.append_assoc]
      go_wp2_with fail
      refine (bWriteString w.heap.size w.heap.size _ _ wr HB2.out (by rw [h2z, hl0]; omega) hbz).mono ?_
      rintro e w3 ⟨rfl, h3, b3⟩
      have c3b : w3.cell? ⟨bw, j, none⟩ = some (.int .i64 (wd j : Nat)) := (b3.cell (p := ⟨bw, j, none⟩) hbw).trans c3
      have z3 : w.heap.size ≤ w3.heap.size := Nat.le_trans hbz b3.size
      have H3 : Lib.IsBuilderF 71 5 w.heap.size w.heap.size _ w3 := Or.inr h3
      have B3 := Hd.mk (HW3.out.trans b3)
      have hl3 : (Lib.byteCells (colT wd recs m k ++ rowT wd (recs.getD k []) j) ++ Lib.strCells ⟨#[32, 32]⟩).length = (colT wd recs m k).length + (rowT wd (recs.getD k []) j).length + 2 := by
       rw [List.length_append, hl0, Lib.strCells_length, h2z]
      clear b3 h3
      go_wp2_with fail
      refine (Tryz.strings_Repeat ⟨#[32]⟩ (wd j - S.length) w3 (by omega) (by rw [h1z]; omega)).mono ?_
      rintro e w4 ⟨rfl, b4⟩
      have H4 := IsB_below H3 b4
      have z4 : w.heap.size ≤ w4.heap.size := Nat.le_trans z3 b4.size
      have B4 := Hd.mk (B3.out.trans (below_le b4 z3))
      clear b4 H3
      go_wp2_with fail
      refine (bWriteString w.heap.size w.heap.size _ _ w4 H4 (by rw [hl3]; omega) z4).mono ?_
      rintro e w5 ⟨rfl, h5, b5⟩
      have z5 : w.heap.size ≤ w5.heap.size := Nat.le_trans z4 b5.size
      have B5 := Hd.mk (B4.out.trans b5)
      clear b5 H4
      go_wp2_with fail
      refine (bWriteString w.heap.size w.heap.size _ _ w5 (Or.inr h5) (by rw [List.length_append, hl3, Lib.strCells_length]; omega) z5).mono ?_
      rintro e w6 ⟨rfl, h6, b6⟩
      have B6 := Hd.mk (B5.out.trans b6)
      clear b6 h5
      rw [hnext] at h6
      have H6 := Hd.mk (Or.inr h6 : Lib.IsBuilderF 71 5 w.heap.size w.heap.size _ w6)
      clear h6
      go_wp2
      exact ⟨⟨j + 1, by omega, by go_num, H6, B6⟩, by simp [intOf]; omega⟩
    ·have hje : j = m := by omega
     have hbz := HW3.out.size
     have l3 := HT.out k
     have l4 := HT2.out k j
     have hl0 : (Lib.byteCells (colT wd recs m k ++ rowT wd (recs.getD k []) j)).length = (colT wd recs m k).length + (rowT wd (recs.getD k []) j).length := by
      rw [Lib.byteCells_length, List.length_append]
     have hnext : Lib.byteCells (colT wd recs m k ++ rowT wd (recs.getD k []) j) ++ [.int .u8 10] = Lib.byteCells (colT wd recs m (k + 1)) := by
      rw [colT_succ, hje, ← List.append_assoc, Lib.byteCells_append _ [10]]
      rfl
     have dj : decide ((j : Int) < (m : Int)) = false := decide_eq_false (by omega)
     go_wp2
     subst hQ2
     go_wp2_with fail
     refine (bWriteByte w.heap.size w.heap.size _ 10 wr HB2.out (by rw [hl0]; omega) hbz).mono ?_
     rintro e w3 ⟨rfl, h3, b3⟩
     rw [hnext] at h3
     have H3 := Hd.mk (Or.inr h3 : Lib.IsBuilderF 71 5 w.heap.size w.heap.size _ w3)
     have B3 := Hd.mk (HW3.out.trans b3)
     clear h3 b3
     go_wp2
     exact ⟨⟨k + 1, by omega, by go_num, H3, B3⟩, by simp [intOf]; omega⟩
  ·have hke : k = N := by omega
   subst hke
   have hbs := HW2.out.size
   go_wp2_with (go_at_call 40; refine (Tryz.Builder_String_any_f w.heap.size w.heap.size _ _ HB.out hbs).mono ?_; rintro e w5 ⟨rfl, hb5, hw5⟩)
   exact HQ.out _ _ rfl rfl rfl (HW2.out.trans hw5)
end Go.Proofs.YtjfedgpbedppeaaGreatDoor
namespace Go.Proofs.YtjfedgpbedppeaaGreatDoor
open Go Go.Dat Go.Proofs Nat32 Go.RowKit
theorem take_all1 {p : UInt8 → Bool} {l : List UInt8} {i : Nat} (hi : i < l.length) (h : (l.take i).all p = true) (hp : p (l.getD i 0) = true) : (l.take (i + 1)).all p = true := by
 rw [List.take_add_one, List.all_append, h, Bool.true_and, List.getElem?_eq_getElem hi]
 rw [List.getD_eq_getElem?_getD, List.getElem?_eq_getElem hi] at hp
 simpa using hp
theorem all_bad1 {p : UInt8 → Bool} {l : List UInt8} {i : Nat} (hi : i < l.length) (hp : p (l.getD i 0) = false) : l.all p = false := by
 rw [← Bool.not_eq_true]
 intro h
 rw [List.getD_eq_getElem?_getD, List.getElem?_eq_getElem hi] at hp
 have := List.all_eq_true.1 h l[i] (List.getElem_mem hi)
 simp only [Option.getD_some] at hp
 rw [hp] at this; cases this
theorem rpCell_calls (l : List UInt8) (hl : l.length ≤ 9223372036854775807) : PCalls Tryz.prog 54 [.str l] (.bool (cellB l)) := by
 refine PCalls_of isrpCell (by simp [fnrpCell]) ?_
 unfold coderpCell
 refine zS cI ?_
 refine W_loop (σ := Nat) (fun i => [(0, .str l), (2, .bool false), (3, .int .i64 i)]) (fun _ => []) (fun i => i ≤ l.length ∧ (l.take i).all cellC = true) (fun i => l.length - i) 0 (And.intro (Nat.zero_le _) rfl) ?_ rfl ?_
 ·simp [subF, lk]
 ·rintro i ⟨hi, hall⟩
  try simp only at hi hall ⊢
  by_cases hlt : i < l.length
  ·have dl : decide ((i : Int) < l.length) = true := decide_eq_true (by omega)
   have ei : (i : Int).toNat = i := Int.toNat_natCast i
   have hta := @take_all1 cellC l i hlt hall
   have hbad := @all_bad1 cellC l i hlt
   obtain ⟨c, hc⟩ : ∃ c, l.getD i 0 = c := ⟨_, rfl⟩
   rw [hc] at hta hbad
   have hk : c.toNat < 256 := UInt8.toNat_lt c
   have eb : byteD c = .int .u8 (c.toNat : Nat) := rfl
   have e1 : ((i : Int) + 1) = ((i + 1 : Nat) : Int) := by omega
   refine zS (zA dl cI) ?_
   refine wTs ?_
   by_cases h33 : c.toNat < 33
   ·have d5 : decide (((c.toNat : Nat) : Int) < 33) = true := decide_eq_true (by omega)
    have hcb : cellB l = false := by unfold cellB; rw [hbad (by unfold cellC; rw [decide_eq_false (by omega)]; rfl)]; rfl
    rw [hcb]
    clear hta hbad hall
    refine zS (zA ei (zA hc (zA eb (zA d5 cI)))) ?_
    refine wT ?_
    refine zS cI ?_
    exact W_ret (RetP_1 (.imm rfl))
   ·have d5 : decide (((c.toNat : Nat) : Int) < 33) = false := decide_eq_false (by omega)
    by_cases h126 : 126 < c.toNat
    ·have d6 : decide ((126 : Int) < ((c.toNat : Nat) : Int)) = true := decide_eq_true (by omega)
     have hcb : cellB l = false := by unfold cellB; rw [hbad (by unfold cellC; rw [decide_eq_false (show ¬ c.toNat ≤ 126 by omega), Bool.and_false])]; rfl
     rw [hcb]
     clear hta hbad hall
     refine zS (zA ei (zA hc (zA eb (zA d5 (zA d6 cI))))) ?_
     refine wT ?_
     refine zS cI ?_
     exact W_ret (RetP_1 (.imm rfl))
    ·have d6 : decide ((126 : Int) < ((c.toNat : Nat) : Int)) = false := decide_eq_false (by omega)
     have hta' := hta (by unfold cellC; rw [decide_eq_true (by omega), decide_eq_true (by omega)]; rfl)
     clear hta hbad hall
     (replace hta' := Hid.mk hta')
     refine zS (zA ei (zA hc (zA eb (zA d5 (zA d6 cI))))) ?_
     refine wFs ?_
     refine zS (zA e1 cI) ?_
     exact ⟨i + 1, And.intro hlt hta'.out, by omega, by simp [subF, lk]⟩
  ·have dl : decide ((i : Int) < l.length) = false := decide_eq_false (by omega)
   have hil : i = l.length := by omega
   rw [hil, List.take_length] at hall
   have hcb : cellB l = (decide (1 ≤ l.length) && decide (l.length ≤ 32)) := by unfold cellB; rw [hall]; rfl
   rw [hcb]
   by_cases h1 : 1 ≤ l.length
   ·have d1 : decide ((1 : Int) ≤ (l.length : Int)) = true := decide_eq_true (by omega)
    have d2 : decide ((l.length : Int) ≤ 32) = decide (l.length ≤ 32) := by rw [decide_eq_decide]; omega
    rw [decide_eq_true h1, Bool.true_and, ← d2]
    refine zS (zA dl cI) ?_
    refine W_cond rfl (fun h => by cases h) (fun _ => W_exit ?_)
    refine zS (zA d1 cI) ?_
    exact W_ret (RetP_1 (.imm rfl))
   ·have d1 : decide ((1 : Int) ≤ (l.length : Int)) = false := decide_eq_false (by omega)
    rw [decide_eq_false h1, Bool.false_and]
    refine zS (zA dl cI) ?_
    refine W_cond rfl (fun h => by cases h) (fun _ => W_exit ?_)
    refine zS (zA d1 cI) ?_
    exact W_ret (RetP_1 (.imm rfl))
theorem split_cons {α : Type} {l : List α} {n : Nat} (h : l.length = n + 1) : ∃ u r, l = u :: r ∧ r.length = n := by
 cases l with
 | nil => simp at h
 | cons u r => exact ⟨u, r, rfl, by simpa using h⟩
def slAd : Value → Addr
 | .slice (some a) _ _ => a
 | _ => ⟨0, 0, none⟩
def slCap : Value → Nat
 | .slice _ _ c => c
 | _ => 0
theorem recD_get {recs : List (List (List UInt8))} {i : Nat} (h : i < recs.length) : (recD recs)[i]? = some (.sl 1 (strL (recs.getD i []))) := by
 unfold recD
 rw [List.getElem?_map, List.getD_eq_getElem?_getD, List.getElem?_eq_getElem h]; rfl
theorem strL_get {r : List (List UInt8)} {j : Nat} (h : j < r.length) : (strL r)[j]? = some (.str (r.getD j [])) := by
 unfold strL
 rw [List.getElem?_map, List.getD_eq_getElem?_getD, List.getElem?_eq_getElem h]; rfl
theorem shape_len {recs : List (List (List UInt8))} {m : Nat} (h : ∀ r ∈ recs, r.length = m) {i : Nat} (hi : i < recs.length) : (recs.getD i []).length = m := by
 rw [List.getD_eq_getElem?_getD, List.getElem?_eq_getElem hi]
 exact h _ (List.getElem_mem hi)
theorem rec_facts {w : World} {Lm : Nat → Option Nat} {S : Nat → Prop} {recs : List (List (List UInt8))} {m : Nat} {v : Value} (hv : V w Lm S (.sl 1 (recD recs)) v) (h0 : 0 < recs.length) (hm : 0 < m) (hsh : ∀ r ∈ recs, r.length = m) :
  ∃ (ad : Addr) (c : Nat) (A : Nat → Addr) (C : Nat → Nat), v = .slice (some ad) recs.length c ∧ (∀ i, i < recs.length → w.cell? (ad.add i) = some (.slice (some (A i)) m (C i))) ∧
   (∀ i, i < recs.length → ∀ j, j < m → w.cell? ((A i).add j) = some (.string ⟨((recs.getD i []).getD j []).toArray⟩)) := by
 have hl : (recD recs).length = recs.length := by unfold recD; simp
 rcases hv.inv_sl with ⟨he, _⟩ | ⟨_, ad, n, c, vs, e1, hlen, _, _, hcell, hvi⟩
 ·rw [he] at hl; simp at hl; omega
 have hn : n = recs.length := by rw [hl] at hlen; omega
 subst hn
 have key : ∀ i, i < recs.length → vs i = .slice (some (slAd (vs i))) m (slCap (vs i)) ∧ ∀ j, j < m → w.cell? ((slAd (vs i)).add j) = some (.string ⟨((recs.getD i []).getD j []).toArray⟩) := by
  intro i hi
  have hg := recD_get hi
  have hlm := shape_len hsh hi
  have hv1 := hvi i _ hg
  have hv2 : V w Lm S (.sl 1 (strL (recs.getD i []))) (vs i) := .imm hv1
  have hl2 : (strL (recs.getD i [])).length = m := by unfold strL; rw [List.length_map]; exact hlm
  rcases hv2.inv_sl with ⟨he, _⟩ | ⟨_, ad2, n2, c2, vs2, e2, hlen2, _, _, hcell2, hvi2⟩
  ·rw [he] at hl2; simp at hl2; omega
  have hn2 : n2 = m := by rw [hl2] at hlen2; omega
  subst hn2
  rw [e2]
  refine ⟨rfl, fun j hj => ?_⟩
  have hg2 := strL_get (r := recs.getD i []) (j := j) (by omega)
  show w.cell? (ad2.add j) = _
  rw [hcell2 j _ hg2]
  have := (V.imm (L := Lm) (hvi2 j _ hg2)).inv_str
  rw [this]
 exact ⟨ad, c, fun i => slAd (vs i), fun i => slCap (vs i), e1, fun i hi => (hcell i _ (recD_get hi)).trans (congrArg some (key i hi).1), fun i hi j hj => (key i hi).2 j hj⟩
set_option maxHeartbeats 4000000 in
set_option maxRecDepth 100000 in
theorem part2_WC (o : Nat) (recs : List (List (List UInt8))) (m : Nat) (wd : Nat → Nat) (cells : List DV) (h0 : 0 < recs.length) (hN : recs.length ≤ 1024) (hm0 : 0 < m) (hm : m ≤ 32) (hsh : ∀ r ∈ recs, r.length = m)
  (hc : ∀ j, j < m → cells[j]? = some (.int .i64 (wd j : Nat))) (hle : ∀ i j, ((recs.getD i []).getD j []).length ≤ wd j) (hwd : ∀ j, wd j ≤ 32) (fr : Fr) (H : Hp)
  (f0 : lk fr 0 = .sl 1 (recD recs)) (f7 : lk fr 7 = .osl 1 o 0 m) (fH : lkH H o = some cells) :
  WC fnrpColumns part2 (RetP resrpColumns (.tup [.str (colT wd recs m recs.length), .int .i64 0])) fr H := by
 intro G L a w hK hn hR
 have hn1 : G.n = 109 := hn.1
 have s0 := hR.slots 0
 have s7 := hR.slots 7
 rw [show den fnrpColumns.vs [] fr 0 = lk fr 0 from rfl, f0] at s0
 rw [show den fnrpColumns.vs [] fr 7 = lk fr 7 from rfl, f7] at s7
 obtain ⟨ad, c0, A, C, e0, hrec, hcell⟩ := rec_facts s0 h0 hm0 hsh
 rcases s7.inv_osl with ⟨b, cw, T, sz, hL, e7, _, _, _⟩ | ⟨hz, _⟩
 case inr => omega
 obtain ⟨cells', cur, T', hho, hb, hlc, hp⟩ := hR.heap.at_ hL
 rw [fH] at hho
 cases hho
 have hwid : ∀ j, j < m → w.cell? ⟨b, j, none⟩ = some (.int .i64 (wd j : Nat)) := fun j hj => by
  have h1 := hc j hj
  obtain ⟨u, hu⟩ := exists_aget (l := cur) (k := j) (by have := (List.getElem?_eq_some_iff.1 h1).1; omega)
  rw [cell_of_row w b _ cur T' (0, 0) hb, hu]
  rw [(hp j _ u h1 hu).inv_int]
 obtain ⟨tmps, defers⟩ := a
 have hd : defers = G.D := hR.defers
 subst hd
 obtain ⟨lx⟩ := tmps
 have hlx : lx.length = 109 := by have := hR.size; simp only [List.size_toArray] at this; omega
 have hfin : ∀ (tmps' : Array Value) (w' : World), tmps'.size = 109 → tmps'.getD 2 undef = .string ⟨(colT wd recs m recs.length).toArray⟩ → tmps'.getD 3 undef = .int .i64 0 → Below w.heap.size w w' →
   Post fnrpColumns G (RetP resrpColumns (.tup [.str (colT wd recs m recs.length), .int .i64 0])) .ret { tmps := tmps', defers := G.D } w' := fun tmps' w' h1 h2 h3 h4 => by
  refine ⟨fun _ => none, [(2, .str (colT wd recs m recs.length)), (3, .int .i64 0)], [], .ret, hR.over (a' := { tmps := tmps', defers := G.D }) hK (Ext_of_below h4) (by rw [hn1]; exact h1) rfl (fun s => ?_), rfl, RetP_2 (.imm rfl) (.imm rfl)⟩
  simp only [den]
  split
  ·simp only [lk]
   split
   ·rename_i e; subst e; rw [h2]; exact .str _
   ·split
    ·rename_i e; subst e; rw [h3]; exact .int _ _
    ·exact .undef _
  ·exact .undef _
 clear hR s0 s7 hp
 obtain ⟨u0, l0, rfl, hl0⟩ := split_cons hlx
 obtain ⟨u1, l1, rfl, hl1⟩ := split_cons hl0
 obtain ⟨u2, l2, rfl, hl2⟩ := split_cons hl1
 obtain ⟨u3, l3, rfl, hl3⟩ := split_cons hl2
 obtain ⟨u4, l4, rfl, hl4⟩ := split_cons hl3
 obtain ⟨u5, l5, rfl, hl5⟩ := split_cons hl4
 obtain ⟨u6, l6, rfl, hl6⟩ := split_cons hl5
 obtain ⟨u7, l7, rfl, hl7⟩ := split_cons hl6
 obtain ⟨u8, l8, rfl, hl8⟩ := split_cons hl7
 obtain ⟨u9, l9, rfl, hl9⟩ := split_cons hl8
 obtain ⟨u10, l10, rfl, hl10⟩ := split_cons hl9
 obtain ⟨u11, l11, rfl, hl11⟩ := split_cons hl10
 obtain ⟨u12, l12, rfl, hl12⟩ := split_cons hl11
 obtain ⟨u13, l13, rfl, hl13⟩ := split_cons hl12
 obtain ⟨u14, l14, rfl, hl14⟩ := split_cons hl13
 obtain ⟨u15, l15, rfl, hl15⟩ := split_cons hl14
 obtain ⟨u16, l16, rfl, hl16⟩ := split_cons hl15
 obtain ⟨u17, l17, rfl, hl17⟩ := split_cons hl16
 obtain ⟨u18, l18, rfl, hl18⟩ := split_cons hl17
 obtain ⟨u19, l19, rfl, hl19⟩ := split_cons hl18
 obtain ⟨u20, l20, rfl, hl20⟩ := split_cons hl19
 obtain ⟨u21, l21, rfl, hl21⟩ := split_cons hl20
 obtain ⟨u22, l22, rfl, hl22⟩ := split_cons hl21
 obtain ⟨u23, l23, rfl, hl23⟩ := split_cons hl22
 obtain ⟨u24, l24, rfl, hl24⟩ := split_cons hl23
 obtain ⟨u25, l25, rfl, hl25⟩ := split_cons hl24
 obtain ⟨u26, l26, rfl, hl26⟩ := split_cons hl25
 obtain ⟨u27, l27, rfl, hl27⟩ := split_cons hl26
 obtain ⟨u28, l28, rfl, hl28⟩ := split_cons hl27
 obtain ⟨u29, l29, rfl, hl29⟩ := split_cons hl28
 obtain ⟨u30, l30, rfl, hl30⟩ := split_cons hl29
 obtain ⟨u31, l31, rfl, hl31⟩ := split_cons hl30
 obtain ⟨u32, l32, rfl, hl32⟩ := split_cons hl31
 obtain ⟨u33, l33, rfl, hl33⟩ := split_cons hl32
 obtain ⟨u34, l34, rfl, hl34⟩ := split_cons hl33
 obtain ⟨u35, l35, rfl, hl35⟩ := split_cons hl34
 obtain ⟨u36, l36, rfl, hl36⟩ := split_cons hl35
 obtain ⟨u37, l37, rfl, hl37⟩ := split_cons hl36
 obtain ⟨u38, l38, rfl, hl38⟩ := split_cons hl37
 obtain ⟨u39, l39, rfl, hl39⟩ := split_cons hl38
 obtain ⟨u40, l40, rfl, hl40⟩ := split_cons hl39
 obtain ⟨u41, l41, rfl, hl41⟩ := split_cons hl40
 obtain ⟨u42, l42, rfl, hl42⟩ := split_cons hl41
 obtain ⟨u43, l43, rfl, hl43⟩ := split_cons hl42
 obtain ⟨u44, l44, rfl, hl44⟩ := split_cons hl43
 obtain ⟨u45, l45, rfl, hl45⟩ := split_cons hl44
 obtain ⟨u46, l46, rfl, hl46⟩ := split_cons hl45
 obtain ⟨u47, l47, rfl, hl47⟩ := split_cons hl46
 obtain ⟨u48, l48, rfl, hl48⟩ := split_cons hl47
 obtain ⟨u49, l49, rfl, hl49⟩ := split_cons hl48
 obtain ⟨u50, l50, rfl, hl50⟩ := split_cons hl49
 obtain ⟨u51, l51, rfl, hl51⟩ := split_cons hl50
 obtain ⟨u52, l52, rfl, hl52⟩ := split_cons hl51
 obtain ⟨u53, l53, rfl, hl53⟩ := split_cons hl52
 obtain ⟨u54, l54, rfl, hl54⟩ := split_cons hl53
 obtain ⟨u55, l55, rfl, hl55⟩ := split_cons hl54
 obtain ⟨u56, l56, rfl, hl56⟩ := split_cons hl55
 obtain ⟨u57, l57, rfl, hl57⟩ := split_cons hl56
 obtain ⟨u58, l58, rfl, hl58⟩ := split_cons hl57
 obtain ⟨u59, l59, rfl, hl59⟩ := split_cons hl58
 obtain ⟨u60, l60, rfl, hl60⟩ := split_cons hl59
 obtain ⟨u61, l61, rfl, hl61⟩ := split_cons hl60
 obtain ⟨u62, l62, rfl, hl62⟩ := split_cons hl61
 obtain ⟨u63, l63, rfl, hl63⟩ := split_cons hl62
 obtain ⟨u64, l64, rfl, hl64⟩ := split_cons hl63
 obtain ⟨u65, l65, rfl, hl65⟩ := split_cons hl64
 obtain ⟨u66, l66, rfl, hl66⟩ := split_cons hl65
 obtain ⟨u67, l67, rfl, hl67⟩ := split_cons hl66
 obtain ⟨u68, l68, rfl, hl68⟩ := split_cons hl67
 obtain ⟨u69, l69, rfl, hl69⟩ := split_cons hl68
 obtain ⟨u70, l70, rfl, hl70⟩ := split_cons hl69
 obtain ⟨u71, l71, rfl, hl71⟩ := split_cons hl70
 obtain ⟨u72, l72, rfl, hl72⟩ := split_cons hl71
 obtain ⟨u73, l73, rfl, hl73⟩ := split_cons hl72
 obtain ⟨u74, l74, rfl, hl74⟩ := split_cons hl73
 obtain ⟨u75, l75, rfl, hl75⟩ := split_cons hl74
 obtain ⟨u76, l76, rfl, hl76⟩ := split_cons hl75
 obtain ⟨u77, l77, rfl, hl77⟩ := split_cons hl76
 obtain ⟨u78, l78, rfl, hl78⟩ := split_cons hl77
 obtain ⟨u79, l79, rfl, hl79⟩ := split_cons hl78
 obtain ⟨u80, l80, rfl, hl80⟩ := split_cons hl79
 obtain ⟨u81, l81, rfl, hl81⟩ := split_cons hl80
 obtain ⟨u82, l82, rfl, hl82⟩ := split_cons hl81
 obtain ⟨u83, l83, rfl, hl83⟩ := split_cons hl82
 obtain ⟨u84, l84, rfl, hl84⟩ := split_cons hl83
 obtain ⟨u85, l85, rfl, hl85⟩ := split_cons hl84
 obtain ⟨u86, l86, rfl, hl86⟩ := split_cons hl85
 obtain ⟨u87, l87, rfl, hl87⟩ := split_cons hl86
 obtain ⟨u88, l88, rfl, hl88⟩ := split_cons hl87
 obtain ⟨u89, l89, rfl, hl89⟩ := split_cons hl88
 obtain ⟨u90, l90, rfl, hl90⟩ := split_cons hl89
 obtain ⟨u91, l91, rfl, hl91⟩ := split_cons hl90
 obtain ⟨u92, l92, rfl, hl92⟩ := split_cons hl91
 obtain ⟨u93, l93, rfl, hl93⟩ := split_cons hl92
 obtain ⟨u94, l94, rfl, hl94⟩ := split_cons hl93
 obtain ⟨u95, l95, rfl, hl95⟩ := split_cons hl94
 obtain ⟨u96, l96, rfl, hl96⟩ := split_cons hl95
 obtain ⟨u97, l97, rfl, hl97⟩ := split_cons hl96
 obtain ⟨u98, l98, rfl, hl98⟩ := split_cons hl97
 obtain ⟨u99, l99, rfl, hl99⟩ := split_cons hl98
 obtain ⟨u100, l100, rfl, hl100⟩ := split_cons hl99
 obtain ⟨u101, l101, rfl, hl101⟩ := split_cons hl100
 obtain ⟨u102, l102, rfl, hl102⟩ := split_cons hl101
 obtain ⟨u103, l103, rfl, hl103⟩ := split_cons hl102
 obtain ⟨u104, l104, rfl, hl104⟩ := split_cons hl103
 obtain ⟨u105, l105, rfl, hl105⟩ := split_cons hl104
 obtain ⟨u106, l106, rfl, hl106⟩ := split_cons hl105
 obtain ⟨u107, l107, rfl, hl107⟩ := split_cons hl106
 obtain ⟨u108, l108, rfl, hl108⟩ := split_cons hl107
 have hnil : l108 = [] := List.eq_nil_of_length_eq_zero hl108
 subst hnil
 have e0' : u0 = .slice (some ad) recs.length c0 := e0
 have e7' : u7 = .slice (some ⟨b, 0, none⟩) m cw := e7
 subst e0'
 subst e7'
 exact part2_walk w ad recs.length m c0 b cw A C recs wd hN hm hrec hcell hwid hle hwd u1 u2 u3 u4 u5 u6 u8 u9 u10 u11 u12 u13 u14 u15 u16 u17 u18 u19 u20 u21 u22 u23 u24 u25 u26 u27 u28 u29 u30 u31 u32 u33 u34 u35 u36 u37 u38 u39 u40 u41 u42 u43 u44 u45 u46 u47 u48 u49 u50 u51 u52 u53 u54 u55 u56 u57 u58 u59 u60 u61 u62 u63 u64 u65 u66 u67 u68 u69 u70 u71 u72 u73 u74 u75 u76 u77 u78 u79 u80 u81 u82 u83 u84 u85 u86 u87 u88 u89 u90 u91 u92 u93 u94 u95 u96 u97 u98 u99 u100 u101 u102 u103 u104 u105 u106 u107 u108 _ _ hfin
end Go.Proofs.YtjfedgpbedppeaaGreatDoor
