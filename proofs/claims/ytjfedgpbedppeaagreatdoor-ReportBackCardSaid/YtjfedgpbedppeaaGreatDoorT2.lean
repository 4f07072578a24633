/- Lemmas of the walk; no conditions beyond those that each states. -/
import Derived.Laws.RangeAny
import Derived.Lib.DecodeN
import Derived.WalkMore
import Derived.Shelf.RegionOpenPlain
import Derived.Laws.Runes
import Derived.Lib.OthersKept
import Derived.Shelf.Strings.BuilderK
import Derived.Shelf.Strings.Runes
import Derived.Lib.Small
import Derived.Deep.LoopGhost
import Derived.Lib.IndexLaws
import Derived.Shelf.Small.Utf8
import Derived.Test.YtjfedgpbedppeaaGreatDoorD2
import Derived.Test.YtjfedgpbedppeaaGreatDoorT1
import Derived.Test.YtjfedgpbedppeaaGreatDoorC1
import Derived.Test.YtjfedgpbedppeaaGreatDoorN1
import Derived.Test.YtjfedgpbedppeaaGreatDoorD3
set_option linter.unusedSimpArgs false
set_option linter.unusedVariables false
set_option linter.unnecessarySimpa false
set_option maxHeartbeats 4000000
namespace Go.Proofs.YtjfedgpbedppeaaGreatDoor
open Go Go.Dat Go.Proofs Nat32
theorem byteD_get {g : List UInt8} {j : Nat} (h : j < g.length) : (g.map byteD).getD j .undef = .int .u8 (g[j].toNat : Nat) := by
 rw [List.getD_eq_getElem?_getD, List.getElem?_map, List.getElem?_eq_getElem h]; rfl
theorem byteD_get? {g : List UInt8} {j : Nat} (h : j < g.length) : (g.map byteD)[j]? = some (.int .u8 (g[j].toNat : Nat)) := by
 rw [List.getElem?_map, List.getElem?_eq_getElem h]; rfl
theorem seg_len {l : List UInt8} {at' e : Nat} (h : e ≤ l.length) : ((l.take e).drop at').length = e - at' := by
 rw [List.length_drop, List.length_take]; omega
theorem take_seg {l : List UInt8} {at' e : Nat} (h : at' ≤ e) : l.take e = l.take at' ++ (l.take e).drop at' := by
 have := List.take_append_drop at' (l.take e)
 rw [List.take_take, Nat.min_eq_left h] at this
 exact this.symm
theorem dval_seg {l : List UInt8} {at' e : Nat} (h : at' ≤ e) (he : e ≤ l.length) (h9 : at' = 0 ∨ e - at' = 9) : dval 0 (l.take at') * 1000000000 + dval 0 ((l.take e).drop at') = dval 0 (l.take e) := by
 rcases h9 with rfl | h9
 ·rw [List.take_zero, dval_nil, List.drop_zero]; omega
 ·have e1 := take_seg (l := l) h
  have e2 := congrArg (dval 0) e1
  rw [dval_append, dval_acc _ (dval 0 (l.take at'))] at e2
  rw [e2, seg_len he, h9]
theorem accD_cases (l : List UInt8) (i : Nat) : accD l i = .nils ∨ ∃ xs, accD l i = .sl 1 xs := by
 unfold accD
 by_cases h : i = 0
 ·rw [if_pos h]; exact .inl rfl
 ·rw [if_neg h]; exact .inr ⟨_, rfl⟩
theorem accD_nMul (l : List UInt8) (i : Nat) (hd : (limbs (dval 0 (l.take i))).length ≤ 10000) : PCalls Tryz.prog 78 [accD l i, .sl 1 (us (limbs 1000000000))] (.sl 1 (us (limbs (dval 0 (l.take i) * 1000000000)))) := by
 have h := nMulL (dval 0 (l.take i)) 1000000000 hd (by rw [limbs_one (by decide) (by decide)]; simp)
 unfold accD
 by_cases h0 : i = 0
 ·subst h0
  rw [if_pos rfl]
  refine PCalls_nz 1 ?_
  rw [List.take_zero, dval_nil, Nat.zero_mul, limbs_zero] at h
  rw [List.take_zero, dval_nil, Nat.zero_mul, limbs_zero]
  exact h
 ·rw [if_neg h0]; exact h
set_option maxHeartbeats 4000000 in
theorem nParse_calls (l : List UInt8) : PCalls Tryz.prog 125 [.str l] (parseR l) := by
 refine PCalls_of isnParse (by simp [fnnParse]) ?_
 unfold codenParse
 by_cases hn : l = []
 ·subst hn
  have hb : okD [] = false := rfl
  rw [parseR_bad hb]
  refine zS (zA @decide_true cI) ?_
  refine wT ?_
  refine zS cI ?_
  exact W_ret (RetP_2 (.nils _) (.imm rfl))
 ·have hpos : 0 < l.length := List.length_pos_iff.2 hn
  have dn : decide (l = []) = false := decide_eq_false hn
  by_cases h4 : 4000 < l.length
  ·have d4 : decide ((4000 : Int) < l.length) = true := decide_eq_true (by omega)
   have hb : okD l = false := by
    rw [← Bool.not_eq_true, okD_iff]
    exact fun h => by omega
   rw [parseR_bad hb]
   refine zS (zA dn (zA d4 cI)) ?_
   refine wT ?_
   refine zS cI ?_
   exact W_ret (RetP_2 (.nils _) (.imm rfl))
  ·have d4 : decide ((4000 : Int) < l.length) = false := decide_eq_false (by omega)
   have e0 : (Int.toNat 0) = 0 := rfl
   have ebd : byteD (l.getD 0 0) = .int .u8 ((l.getD 0 0).toNat : Nat) := rfl
   by_cases h48 : (l.getD 0 0).toNat = 48
   ·have d2 : decide ((((l.getD 0 0).toNat : Nat) : Int) = 48) = true := decide_eq_true (by omega)
    by_cases h1 : 1 < l.length
    ·have d1 : decide ((1 : Int) < l.length) = true := decide_eq_true (by omega)
     have hz : l.head? = some 48 ∧ 1 < l.length := ⟨by
      cases l with
      | nil => exact absurd rfl hn
      | cons c r => simp only [List.getD_cons_zero] at h48; rw [List.head?_cons, ← UInt8.toNat_inj.1 (show c.toNat = (48 : UInt8).toNat from h48)], h1⟩
     have hb : okD l = false := by
      rw [← Bool.not_eq_true, okD_iff]
      exact fun h => h.2.2.1 hz
     rw [parseR_bad hb]
     refine zS (zA dn (zA d4 (zA d1 (zA e0 (zA ebd (zA d2 cI)))))) ?_
     refine wT ?_
     refine zS cI ?_
     exact W_ret (RetP_2 (.nils _) (.imm rfl))
    ·have d1 : decide ((1 : Int) < l.length) = false := decide_eq_false (by omega)
     have hz : ¬ (l.head? = some 48 ∧ 1 < l.length) := fun h => h1 h.2
     refine zS (zA dn (zA d4 (zA d1 (zA e0 (zA ebd (zA d2 cI)))))) ?_
     refine wFs ?_
     clear d1 d2 ebd h48 h1
     have r9 : ((l.length : Int).tmod 9) = ((l.length % 9 : Nat) : Int) := by
      rw [Int.tmod_eq_emod_of_nonneg (by omega)]; omega
     refine zS (zA r9 cI) ?_
     refine W_loop (σ := Nat) (fun i => [(0, .str l), (2, accD l i), (3, .bool false), (4, .int .i64 (l.length % 9 : Nat)), (5, .int .i64 i)]) (fun _ => []) (fun i => i ≤ l.length ∧ (l.take i).all isD = true ∧ (i = 0 ∨ (l.length - i) % 9 = 0)) (fun i => l.length - i) 0 (And.intro (Nat.zero_le _) (And.intro rfl (.inl rfl))) ?_ rfl ?_
     ·simp [subF, lk, accD]
     ·rintro i ⟨hi, hall, h9⟩
      by_cases hlt : i < l.length
      ·have dl : decide ((i : Int) < l.length) = true := decide_eq_true (by omega)
       refine zS (zA dl cI) ?_
       refine wTs ?_
       have ti : (i : Int).toNat = i := Int.toNat_natCast i
       by_cases hi0 : i = 0
       ·have di : decide ((i : Int) = 0) = true := decide_eq_true (by omega)
        by_cases hf : 0 < l.length % 9
        ·have df : decide ((0 : Int) < (l.length % 9 : Nat)) = true := decide_eq_true (by omega)
         have he1 : i < l.length % 9 := by omega
         have he2 : l.length % 9 ≤ l.length := Nat.mod_le _ _
         have he4 : i = 0 ∨ l.length % 9 - i = 9 := .inl hi0
         have he3 : l.length % 9 - i ≤ 9 := by omega
         have he5 : (l.length - l.length % 9) % 9 = 0 := by omega
         have te : ((l.length % 9 : Nat) : Int).toNat = l.length % 9 := Int.toNat_natCast _
         refine zS (zA di (zA df cI)) ?_
         refine wT ?_
         have hg := seg_len (l := l) (at' := i) (e := (l.length % 9)) he2
         have hseg := take_seg (l := l) (at' := i) (e := (l.length % 9)) (Nat.le_of_lt he1)
         have hval := dval_seg (l := l) (at' := i) (e := (l.length % 9)) (Nat.le_of_lt he1) he2 he4
         have hmem : ∀ c ∈ (l.take (l.length % 9)).drop i, c ∈ l := fun c h => List.mem_of_mem_take (List.mem_of_mem_drop h)
         refine zS (zA ti (zA te cI)) ?_
         generalize (l.take (l.length % 9)).drop i = g at *
         have hglen : ((g.map byteD).length) = g.length := List.length_map ..
         refine zS (zA hglen cI) ?_
         refine W_loop (σ := Nat) (fun j => [(0, .str l), (2, accD l i), (3, .bool false), (4, .int .i64 (l.length % 9 : Nat)), (5, .int .i64 i), (6, .int .i64 ((l.length % 9) : Nat)), (47, .sl 1 (g.map byteD)), (48, .int .i64 g.length), (49, .int .i64 j), (7, .int .u64 (dval 0 (g.take j) : Nat))]) (fun _ => []) (fun j => j ≤ g.length ∧ (g.take j).all isD = true) (fun j => g.length - j) 0 (And.intro (Nat.zero_le _) rfl) ?_ rfl ?_
         ·simp [subF, lk, dval_nil]
         ·rintro j ⟨hj, hgall⟩
          by_cases hjl : j < g.length
          ·have dj : decide ((j : Int) < g.length) = true := decide_eq_true (by omega)
           refine zS (zA dj cI) ?_
           refine wTs ?_
           have tj : (j : Int).toNat = j := Int.toNat_natCast j
           have hg1 := byteD_get hjl
           have hg2 := byteD_get? hjl
           have hta := take_all hjl hgall
           have htd := take_dval hjl
           have hmc := hmem g[j] (List.getElem_mem hjl)
           have hv : dval 0 (g.take j) < 1000000000 := Nat.lt_of_lt_of_le (dval_lt _ hgall) (Nat.le_trans (Nat.pow_le_pow_right (by decide) (show (g.take j).length ≤ 9 by rw [List.length_take]; omega)) (by decide))
           generalize g[j] = c at *
           generalize dval 0 (g.take j) = v at *
           have hk : c.toNat < 256 := UInt8.toNat_lt c
           have j1 : ((j : Int) + 1) = ((j + 1 : Nat) : Int) := by omega
           clear hval hseg
           by_cases hd : isD c = true
           ·have hd' := hd
            simp only [isD, Bool.and_eq_true, decide_eq_true_eq] at hd'
            have d5 : decide ((c.toNat : Int) < 48) = false := decide_eq_false (by omega)
            have d6 : decide ((57 : Int) < c.toNat) = false := decide_eq_false (by omega)
            have e8 : (c.toNat : Int) - 48 = ((c.toNat - 48 : Nat) : Int) := by omega
            have e10 : 10 * (v : Int) + ((c.toNat - 48 : Nat) : Int) = ((dval 0 (g.take (j + 1)) : Nat) : Int) := by rw [htd]; omega
            have hta' := hta hd
            clear hta htd hgall hall hmem
            (replace hta' := Hid.mk hta')
            refine zS (zA tj (zA hg1 (zA hg2 (zA d5 (zA d6 cI))))) ?_
            refine wFs ?_
            refine zS (zA e8 (zA e10 (zA j1 cI))) ?_
            exact ⟨j + 1, And.intro hjl hta'.out, by omega, by simp [subF, lk]⟩
           ·have hb : okD l = false := by
             rw [← Bool.not_eq_true, okD_iff]
             exact fun h => hd (List.all_eq_true.1 h.2.2.2 c hmc)
            rw [parseR_bad hb]
            clear hta htd hall hgall hmem
            by_cases h5 : c.toNat < 48
            ·have d5 : decide ((c.toNat : Int) < 48) = true := decide_eq_true (by omega)
             refine zS (zA tj (zA hg1 (zA hg2 (zA d5 cI)))) ?_
             refine wT ?_
             refine zS cI ?_
             exact W_ret (RetP_2 (.nils _) (.imm rfl))
            ·have d5 : decide ((c.toNat : Int) < 48) = false := decide_eq_false (by omega)
             have d6 : decide ((57 : Int) < c.toNat) = true := decide_eq_true (by
              simp only [isD, Bool.and_eq_true, decide_eq_true_eq] at hd
              omega)
             refine zS (zA tj (zA hg1 (zA hg2 (zA d5 (zA d6 cI))))) ?_
             refine wT ?_
             refine zS cI ?_
             exact W_ret (RetP_2 (.nils _) (.imm rfl))
          ·have dj : decide ((j : Int) < g.length) = false := decide_eq_false (by omega)
           obtain rfl : j = g.length := by omega
           rw [List.take_length] at hgall ⊢
           have u9 : [DV.int .u32 1000000000] = us (limbs 1000000000) := by rw [limbs_one (by decide) (by decide)]; rfl
           have hl9 : (limbs 1000000000).length ≤ 1 := by rw [limbs_one (by decide) (by decide)]; simp
           have hv : dval 0 g < 1000000000 := Nat.lt_of_lt_of_le (dval_lt _ hgall) (Nat.le_trans (Nat.pow_le_pow_right (by decide) (show g.length ≤ 9 by omega)) (by decide))
           have hdl := dval_len hall (m := 4000) (by simp; omega)
           have ct := accD_nMul l i (by omega)
           have cf := nFromUint_calls (dval 0 g) (by omega)
           have hm := len_mul hdl hl9
           have ca := nAddL (dval 0 (l.take i) * 1000000000) (dval 0 g) (by omega) (Nat.le_trans (limbs_len.2 (show dval 0 g < 4294967296 ^ 1 by omega)) (by decide))
           rw [hval] at ca
           have hac : accD l (l.length % 9) = .sl 1 (us (limbs (dval 0 (l.take (l.length % 9))))) := by unfold accD; rw [if_neg (by omega)]
           rw [← hac] at ca
           have halle : (l.take (l.length % 9)).all isD = true := by rw [hseg, List.all_append, hall, hgall]; rfl
           have hacc := accD_cases l i
           clear hval hseg hall hgall hm hdl hl9 hac hmem
           (replace halle := Hid.mk halle)
           rcases hacc with e | ⟨xs, e⟩
           ·rw [e] at ct ⊢
            refine zS (zA dj cI) ?_
            refine W_cond rfl (fun h => by cases h) (fun _ => W_exit ?_)
            repeat (first | refine zQ (zA u9 (zA @us_rfd cI)) ?_ | refine cP ct ?_ | refine cP cf ?_ | refine cP ca ?_ | exact zT)
            exact ⟨(l.length % 9), And.intro he2 (And.intro halle.out (.inr he5)), by omega, by simp [subF, lk]⟩
           ·rw [e] at ct ⊢
            refine zS (zA dj cI) ?_
            refine W_cond rfl (fun h => by cases h) (fun _ => W_exit ?_)
            repeat (first | refine zQ (zA u9 (zA @us_rfd cI)) ?_ | refine cP ct ?_ | refine cP cf ?_ | refine cP ca ?_ | exact zT)
            exact ⟨(l.length % 9), And.intro he2 (And.intro halle.out (.inr he5)), by omega, by simp [subF, lk]⟩
        ·have df : decide ((0 : Int) < (l.length % 9 : Nat)) = false := decide_eq_false (by omega)
         have he1 : i < i + 9 := by omega
         have he2 : i + 9 ≤ l.length := by omega
         have he4 : i = 0 ∨ i + 9 - i = 9 := .inl hi0
         have he3 : i + 9 - i ≤ 9 := by omega
         have he5 : (l.length - (i + 9)) % 9 = 0 := by omega
         have ei9 : (i : Int) + 9 = ((i + 9 : Nat) : Int) := by omega
         have te : ((i + 9 : Nat) : Int).toNat = i + 9 := Int.toNat_natCast _
         refine zS (zA di (zA df (zA ei9 cI))) ?_
         refine wFs ?_
         have hg := seg_len (l := l) (at' := i) (e := (i + 9)) he2
         have hseg := take_seg (l := l) (at' := i) (e := (i + 9)) (Nat.le_of_lt he1)
         have hval := dval_seg (l := l) (at' := i) (e := (i + 9)) (Nat.le_of_lt he1) he2 he4
         have hmem : ∀ c ∈ (l.take (i + 9)).drop i, c ∈ l := fun c h => List.mem_of_mem_take (List.mem_of_mem_drop h)
         refine zS (zA ti (zA te cI)) ?_
         generalize (l.take (i + 9)).drop i = g at *
         have hglen : ((g.map byteD).length) = g.length := List.length_map ..
         refine zS (zA hglen cI) ?_
         refine W_loop (σ := Nat) (fun j => [(0, .str l), (2, accD l i), (3, .bool false), (4, .int .i64 (l.length % 9 : Nat)), (5, .int .i64 i), (6, .int .i64 ((i + 9) : Nat)), (47, .sl 1 (g.map byteD)), (48, .int .i64 g.length), (49, .int .i64 j), (7, .int .u64 (dval 0 (g.take j) : Nat))]) (fun _ => []) (fun j => j ≤ g.length ∧ (g.take j).all isD = true) (fun j => g.length - j) 0 (And.intro (Nat.zero_le _) rfl) ?_ rfl ?_
         ·simp [subF, lk, dval_nil]
         ·rintro j ⟨hj, hgall⟩
          by_cases hjl : j < g.length
          ·have dj : decide ((j : Int) < g.length) = true := decide_eq_true (by omega)
           refine zS (zA dj cI) ?_
           refine wTs ?_
           have tj : (j : Int).toNat = j := Int.toNat_natCast j
           have hg1 := byteD_get hjl
           have hg2 := byteD_get? hjl
           have hta := take_all hjl hgall
           have htd := take_dval hjl
           have hmc := hmem g[j] (List.getElem_mem hjl)
           have hv : dval 0 (g.take j) < 1000000000 := Nat.lt_of_lt_of_le (dval_lt _ hgall) (Nat.le_trans (Nat.pow_le_pow_right (by decide) (show (g.take j).length ≤ 9 by rw [List.length_take]; omega)) (by decide))
           generalize g[j] = c at *
           generalize dval 0 (g.take j) = v at *
           have hk : c.toNat < 256 := UInt8.toNat_lt c
           have j1 : ((j : Int) + 1) = ((j + 1 : Nat) : Int) := by omega
           clear hval hseg
           by_cases hd : isD c = true
           ·have hd' := hd
            simp only [isD, Bool.and_eq_true, decide_eq_true_eq] at hd'
            have d5 : decide ((c.toNat : Int) < 48) = false := decide_eq_false (by omega)
            have d6 : decide ((57 : Int) < c.toNat) = false := decide_eq_false (by omega)
            have e8 : (c.toNat : Int) - 48 = ((c.toNat - 48 : Nat) : Int) := by omega
            have e10 : 10 * (v : Int) + ((c.toNat - 48 : Nat) : Int) = ((dval 0 (g.take (j + 1)) : Nat) : Int) := by rw [htd]; omega
            have hta' := hta hd
            clear hta htd hgall hall hmem
            (replace hta' := Hid.mk hta')
            refine zS (zA tj (zA hg1 (zA hg2 (zA d5 (zA d6 cI))))) ?_
            refine wFs ?_
            refine zS (zA e8 (zA e10 (zA j1 cI))) ?_
            exact ⟨j + 1, And.intro hjl hta'.out, by omega, by simp [subF, lk]⟩
           ·have hb : okD l = false := by
             rw [← Bool.not_eq_true, okD_iff]
             exact fun h => hd (List.all_eq_true.1 h.2.2.2 c hmc)
            rw [parseR_bad hb]
            clear hta htd hall hgall hmem
            by_cases h5 : c.toNat < 48
            ·have d5 : decide ((c.toNat : Int) < 48) = true := decide_eq_true (by omega)
             refine zS (zA tj (zA hg1 (zA hg2 (zA d5 cI)))) ?_
             refine wT ?_
             refine zS cI ?_
             exact W_ret (RetP_2 (.nils _) (.imm rfl))
            ·have d5 : decide ((c.toNat : Int) < 48) = false := decide_eq_false (by omega)
             have d6 : decide ((57 : Int) < c.toNat) = true := decide_eq_true (by
              simp only [isD, Bool.and_eq_true, decide_eq_true_eq] at hd
              omega)
             refine zS (zA tj (zA hg1 (zA hg2 (zA d5 (zA d6 cI))))) ?_
             refine wT ?_
             refine zS cI ?_
             exact W_ret (RetP_2 (.nils _) (.imm rfl))
          ·have dj : decide ((j : Int) < g.length) = false := decide_eq_false (by omega)
           obtain rfl : j = g.length := by omega
           rw [List.take_length] at hgall ⊢
           have u9 : [DV.int .u32 1000000000] = us (limbs 1000000000) := by rw [limbs_one (by decide) (by decide)]; rfl
           have hl9 : (limbs 1000000000).length ≤ 1 := by rw [limbs_one (by decide) (by decide)]; simp
           have hv : dval 0 g < 1000000000 := Nat.lt_of_lt_of_le (dval_lt _ hgall) (Nat.le_trans (Nat.pow_le_pow_right (by decide) (show g.length ≤ 9 by omega)) (by decide))
           have hdl := dval_len hall (m := 4000) (by simp; omega)
           have ct := accD_nMul l i (by omega)
           have cf := nFromUint_calls (dval 0 g) (by omega)
           have hm := len_mul hdl hl9
           have ca := nAddL (dval 0 (l.take i) * 1000000000) (dval 0 g) (by omega) (Nat.le_trans (limbs_len.2 (show dval 0 g < 4294967296 ^ 1 by omega)) (by decide))
           rw [hval] at ca
           have hac : accD l (i + 9) = .sl 1 (us (limbs (dval 0 (l.take (i + 9))))) := by unfold accD; rw [if_neg (by omega)]
           rw [← hac] at ca
           have halle : (l.take (i + 9)).all isD = true := by rw [hseg, List.all_append, hall, hgall]; rfl
           have hacc := accD_cases l i
           clear hval hseg hall hgall hm hdl hl9 hac hmem
           (replace halle := Hid.mk halle)
           rcases hacc with e | ⟨xs, e⟩
           ·rw [e] at ct ⊢
            refine zS (zA dj cI) ?_
            refine W_cond rfl (fun h => by cases h) (fun _ => W_exit ?_)
            repeat (first | refine zQ (zA u9 (zA @us_rfd cI)) ?_ | refine cP ct ?_ | refine cP cf ?_ | refine cP ca ?_ | exact zT)
            exact ⟨(i + 9), And.intro he2 (And.intro halle.out (.inr he5)), by omega, by simp [subF, lk]⟩
           ·rw [e] at ct ⊢
            refine zS (zA dj cI) ?_
            refine W_cond rfl (fun h => by cases h) (fun _ => W_exit ?_)
            repeat (first | refine zQ (zA u9 (zA @us_rfd cI)) ?_ | refine cP ct ?_ | refine cP cf ?_ | refine cP ca ?_ | exact zT)
            exact ⟨(i + 9), And.intro he2 (And.intro halle.out (.inr he5)), by omega, by simp [subF, lk]⟩
       ·have di : decide ((i : Int) = 0) = false := decide_eq_false (by omega)
        have he1 : i < i + 9 := by omega
        have he2 : i + 9 ≤ l.length := by omega
        have he4 : i = 0 ∨ i + 9 - i = 9 := .inr (by omega)
        have he3 : i + 9 - i ≤ 9 := by omega
        have he5 : (l.length - (i + 9)) % 9 = 0 := by omega
        have ei9 : (i : Int) + 9 = ((i + 9 : Nat) : Int) := by omega
        have te : ((i + 9 : Nat) : Int).toNat = i + 9 := Int.toNat_natCast _
        refine zS (zA di (zA ei9 cI)) ?_
        refine wFs ?_
        have hg := seg_len (l := l) (at' := i) (e := (i + 9)) he2
        have hseg := take_seg (l := l) (at' := i) (e := (i + 9)) (Nat.le_of_lt he1)
        have hval := dval_seg (l := l) (at' := i) (e := (i + 9)) (Nat.le_of_lt he1) he2 he4
        have hmem : ∀ c ∈ (l.take (i + 9)).drop i, c ∈ l := fun c h => List.mem_of_mem_take (List.mem_of_mem_drop h)
        refine zS (zA ti (zA te cI)) ?_
        generalize (l.take (i + 9)).drop i = g at *
        have hglen : ((g.map byteD).length) = g.length := List.length_map ..
        refine zS (zA hglen cI) ?_
        refine W_loop (σ := Nat) (fun j => [(0, .str l), (2, accD l i), (3, .bool false), (4, .int .i64 (l.length % 9 : Nat)), (5, .int .i64 i), (6, .int .i64 ((i + 9) : Nat)), (47, .sl 1 (g.map byteD)), (48, .int .i64 g.length), (49, .int .i64 j), (7, .int .u64 (dval 0 (g.take j) : Nat))]) (fun _ => []) (fun j => j ≤ g.length ∧ (g.take j).all isD = true) (fun j => g.length - j) 0 (And.intro (Nat.zero_le _) rfl) ?_ rfl ?_
        ·simp [subF, lk, dval_nil]
        ·rintro j ⟨hj, hgall⟩
         by_cases hjl : j < g.length
         ·have dj : decide ((j : Int) < g.length) = true := decide_eq_true (by omega)
          refine zS (zA dj cI) ?_
          refine wTs ?_
          have tj : (j : Int).toNat = j := Int.toNat_natCast j
          have hg1 := byteD_get hjl
          have hg2 := byteD_get? hjl
          have hta := take_all hjl hgall
          have htd := take_dval hjl
          have hmc := hmem g[j] (List.getElem_mem hjl)
          have hv : dval 0 (g.take j) < 1000000000 := Nat.lt_of_lt_of_le (dval_lt _ hgall) (Nat.le_trans (Nat.pow_le_pow_right (by decide) (show (g.take j).length ≤ 9 by rw [List.length_take]; omega)) (by decide))
          generalize g[j] = c at *
          generalize dval 0 (g.take j) = v at *
          have hk : c.toNat < 256 := UInt8.toNat_lt c
          have j1 : ((j : Int) + 1) = ((j + 1 : Nat) : Int) := by omega
          clear hval hseg
          by_cases hd : isD c = true
          ·have hd' := hd
           simp only [isD, Bool.and_eq_true, decide_eq_true_eq] at hd'
           have d5 : decide ((c.toNat : Int) < 48) = false := decide_eq_false (by omega)
           have d6 : decide ((57 : Int) < c.toNat) = false := decide_eq_false (by omega)
           have e8 : (c.toNat : Int) - 48 = ((c.toNat - 48 : Nat) : Int) := by omega
           have e10 : 10 * (v : Int) + ((c.toNat - 48 : Nat) : Int) = ((dval 0 (g.take (j + 1)) : Nat) : Int) := by rw [htd]; omega
           have hta' := hta hd
           clear hta htd hgall hall hmem
           (replace hta' := Hid.mk hta')
           refine zS (zA tj (zA hg1 (zA hg2 (zA d5 (zA d6 cI))))) ?_
           refine wFs ?_
           refine zS (zA e8 (zA e10 (zA j1 cI))) ?_
           exact ⟨j + 1, And.intro hjl hta'.out, by omega, by simp [subF, lk]⟩
          ·have hb : okD l = false := by
            rw [← Bool.not_eq_true, okD_iff]
            exact fun h => hd (List.all_eq_true.1 h.2.2.2 c hmc)
           rw [parseR_bad hb]
           clear hta htd hall hgall hmem
           by_cases h5 : c.toNat < 48
           ·have d5 : decide ((c.toNat : Int) < 48) = true := decide_eq_true (by omega)
            refine zS (zA tj (zA hg1 (zA hg2 (zA d5 cI)))) ?_
            refine wT ?_
            refine zS cI ?_
            exact W_ret (RetP_2 (.nils _) (.imm rfl))
           ·have d5 : decide ((c.toNat : Int) < 48) = false := decide_eq_false (by omega)
            have d6 : decide ((57 : Int) < c.toNat) = true := decide_eq_true (by
             simp only [isD, Bool.and_eq_true, decide_eq_true_eq] at hd
             omega)
            refine zS (zA tj (zA hg1 (zA hg2 (zA d5 (zA d6 cI))))) ?_
            refine wT ?_
            refine zS cI ?_
            exact W_ret (RetP_2 (.nils _) (.imm rfl))
         ·have dj : decide ((j : Int) < g.length) = false := decide_eq_false (by omega)
          obtain rfl : j = g.length := by omega
          rw [List.take_length] at hgall ⊢
          have u9 : [DV.int .u32 1000000000] = us (limbs 1000000000) := by rw [limbs_one (by decide) (by decide)]; rfl
          have hl9 : (limbs 1000000000).length ≤ 1 := by rw [limbs_one (by decide) (by decide)]; simp
          have hv : dval 0 g < 1000000000 := Nat.lt_of_lt_of_le (dval_lt _ hgall) (Nat.le_trans (Nat.pow_le_pow_right (by decide) (show g.length ≤ 9 by omega)) (by decide))
          have hdl := dval_len hall (m := 4000) (by simp; omega)
          have ct := accD_nMul l i (by omega)
          have cf := nFromUint_calls (dval 0 g) (by omega)
          have hm := len_mul hdl hl9
          have ca := nAddL (dval 0 (l.take i) * 1000000000) (dval 0 g) (by omega) (Nat.le_trans (limbs_len.2 (show dval 0 g < 4294967296 ^ 1 by omega)) (by decide))
          rw [hval] at ca
          have hac : accD l (i + 9) = .sl 1 (us (limbs (dval 0 (l.take (i + 9))))) := by unfold accD; rw [if_neg (by omega)]
          rw [← hac] at ca
          have halle : (l.take (i + 9)).all isD = true := by rw [hseg, List.all_append, hall, hgall]; rfl
          have hacc := accD_cases l i
          clear hval hseg hall hgall hm hdl hl9 hac hmem
          (replace halle := Hid.mk halle)
          rcases hacc with e | ⟨xs, e⟩
          ·rw [e] at ct ⊢
           refine zS (zA dj cI) ?_
           refine W_cond rfl (fun h => by cases h) (fun _ => W_exit ?_)
           repeat (first | refine zQ (zA u9 (zA @us_rfd cI)) ?_ | refine cP ct ?_ | refine cP cf ?_ | refine cP ca ?_ | exact zT)
           exact ⟨(i + 9), And.intro he2 (And.intro halle.out (.inr he5)), by omega, by simp [subF, lk]⟩
          ·rw [e] at ct ⊢
           refine zS (zA dj cI) ?_
           refine W_cond rfl (fun h => by cases h) (fun _ => W_exit ?_)
           repeat (first | refine zQ (zA u9 (zA @us_rfd cI)) ?_ | refine cP ct ?_ | refine cP cf ?_ | refine cP ca ?_ | exact zT)
           exact ⟨(i + 9), And.intro he2 (And.intro halle.out (.inr he5)), by omega, by simp [subF, lk]⟩
      ·have hil : i = l.length := by omega
       subst hil
       have dl : decide ((l.length : Int) < l.length) = false := decide_eq_false (by omega)
       rw [List.take_length] at hall
       have hb : okD l = true := (okD_iff l).2 ⟨hn, by omega, hz, hall⟩
       have hr : parseR l = .tup [.sl 1 (us (limbs (dval 0 l))), .bool true] := by unfold parseR; rw [hb]; rfl
       have hac : accD l l.length = .sl 1 (us (limbs (dval 0 l))) := by unfold accD; rw [if_neg (by omega), List.take_length]
       rw [hr, hac]
       refine zS (zA dl cI) ?_
       refine W_cond rfl (fun h => by cases h) (fun _ => W_exit ?_)
       refine zS cI ?_
       exact W_ret (RetP_2 (.imm rfl) (.imm rfl))
   ·have d2 : decide ((((l.getD 0 0).toNat : Nat) : Int) = 48) = false := decide_eq_false (by omega)
    have hz : ¬ (l.head? = some 48 ∧ 1 < l.length) := fun h => h48 (by
     cases l with
     | nil => exact absurd rfl hn
     | cons c r =>
      have h1 := h.1
      rw [List.head?_cons, Option.some.injEq] at h1
      rw [List.getD_cons_zero, h1]; rfl)
    refine zS (zA dn (zA d4 (zA e0 (zA ebd (zA d2 cI))))) ?_
    refine wFs ?_
    clear d2 ebd h48
    have r9 : ((l.length : Int).tmod 9) = ((l.length % 9 : Nat) : Int) := by
     rw [Int.tmod_eq_emod_of_nonneg (by omega)]; omega
    refine zS (zA r9 cI) ?_
    refine W_loop (σ := Nat) (fun i => [(0, .str l), (2, accD l i), (3, .bool false), (4, .int .i64 (l.length % 9 : Nat)), (5, .int .i64 i)]) (fun _ => []) (fun i => i ≤ l.length ∧ (l.take i).all isD = true ∧ (i = 0 ∨ (l.length - i) % 9 = 0)) (fun i => l.length - i) 0 (And.intro (Nat.zero_le _) (And.intro rfl (.inl rfl))) ?_ rfl ?_
    ·simp [subF, lk, accD]
    ·rintro i ⟨hi, hall, h9⟩
     by_cases hlt : i < l.length
     ·have dl : decide ((i : Int) < l.length) = true := decide_eq_true (by omega)
      refine zS (zA dl cI) ?_
      refine wTs ?_
      have ti : (i : Int).toNat = i := Int.toNat_natCast i
      by_cases hi0 : i = 0
      ·have di : decide ((i : Int) = 0) = true := decide_eq_true (by omega)
       by_cases hf : 0 < l.length % 9
       ·have df : decide ((0 : Int) < (l.length % 9 : Nat)) = true := decide_eq_true (by omega)
        have he1 : i < l.length % 9 := by omega
        have he2 : l.length % 9 ≤ l.length := Nat.mod_le _ _
        have he4 : i = 0 ∨ l.length % 9 - i = 9 := .inl hi0
        have he3 : l.length % 9 - i ≤ 9 := by omega
        have he5 : (l.length - l.length % 9) % 9 = 0 := by omega
        have te : ((l.length % 9 : Nat) : Int).toNat = l.length % 9 := Int.toNat_natCast _
        refine zS (zA di (zA df cI)) ?_
        refine wT ?_
        have hg := seg_len (l := l) (at' := i) (e := (l.length % 9)) he2
        have hseg := take_seg (l := l) (at' := i) (e := (l.length % 9)) (Nat.le_of_lt he1)
        have hval := dval_seg (l := l) (at' := i) (e := (l.length % 9)) (Nat.le_of_lt he1) he2 he4
        have hmem : ∀ c ∈ (l.take (l.length % 9)).drop i, c ∈ l := fun c h => List.mem_of_mem_take (List.mem_of_mem_drop h)
        refine zS (zA ti (zA te cI)) ?_
        generalize (l.take (l.length % 9)).drop i = g at *
        have hglen : ((g.map byteD).length) = g.length := List.length_map ..
        refine zS (zA hglen cI) ?_
        refine W_loop (σ := Nat) (fun j => [(0, .str l), (2, accD l i), (3, .bool false), (4, .int .i64 (l.length % 9 : Nat)), (5, .int .i64 i), (6, .int .i64 ((l.length % 9) : Nat)), (47, .sl 1 (g.map byteD)), (48, .int .i64 g.length), (49, .int .i64 j), (7, .int .u64 (dval 0 (g.take j) : Nat))]) (fun _ => []) (fun j => j ≤ g.length ∧ (g.take j).all isD = true) (fun j => g.length - j) 0 (And.intro (Nat.zero_le _) rfl) ?_ rfl ?_
        ·simp [subF, lk, dval_nil]
        ·rintro j ⟨hj, hgall⟩
         by_cases hjl : j < g.length
         ·have dj : decide ((j : Int) < g.length) = true := decide_eq_true (by omega)
          refine zS (zA dj cI) ?_
          refine wTs ?_
          have tj : (j : Int).toNat = j := Int.toNat_natCast j
          have hg1 := byteD_get hjl
          have hg2 := byteD_get? hjl
          have hta := take_all hjl hgall
          have htd := take_dval hjl
          have hmc := hmem g[j] (List.getElem_mem hjl)
          have hv : dval 0 (g.take j) < 1000000000 := Nat.lt_of_lt_of_le (dval_lt _ hgall) (Nat.le_trans (Nat.pow_le_pow_right (by decide) (show (g.take j).length ≤ 9 by rw [List.length_take]; omega)) (by decide))
          generalize g[j] = c at *
          generalize dval 0 (g.take j) = v at *
          have hk : c.toNat < 256 := UInt8.toNat_lt c
          have j1 : ((j : Int) + 1) = ((j + 1 : Nat) : Int) := by omega
          clear hval hseg
          by_cases hd : isD c = true
          ·have hd' := hd
           simp only [isD, Bool.and_eq_true, decide_eq_true_eq] at hd'
           have d5 : decide ((c.toNat : Int) < 48) = false := decide_eq_false (by omega)
           have d6 : decide ((57 : Int) < c.toNat) = false := decide_eq_false (by omega)
           have e8 : (c.toNat : Int) - 48 = ((c.toNat - 48 : Nat) : Int) := by omega
           have e10 : 10 * (v : Int) + ((c.toNat - 48 : Nat) : Int) = ((dval 0 (g.take (j + 1)) : Nat) : Int) := by rw [htd]; omega
           have hta' := hta hd
           clear hta htd hgall hall hmem
           (replace hta' := Hid.mk hta')
           refine zS (zA tj (zA hg1 (zA hg2 (zA d5 (zA d6 cI))))) ?_
           refine wFs ?_
           refine zS (zA e8 (zA e10 (zA j1 cI))) ?_
           exact ⟨j + 1, And.intro hjl hta'.out, by omega, by simp [subF, lk]⟩
          ·have hb : okD l = false := by
            rw [← Bool.not_eq_true, okD_iff]
            exact fun h => hd (List.all_eq_true.1 h.2.2.2 c hmc)
           rw [parseR_bad hb]
           clear hta htd hall hgall hmem
           by_cases h5 : c.toNat < 48
           ·have d5 : decide ((c.toNat : Int) < 48) = true := decide_eq_true (by omega)
            refine zS (zA tj (zA hg1 (zA hg2 (zA d5 cI)))) ?_
            refine wT ?_
            refine zS cI ?_
            exact W_ret (RetP_2 (.nils _) (.imm rfl))
           ·have d5 : decide ((c.toNat : Int) < 48) = false := decide_eq_false (by omega)
            have d6 : decide ((57 : Int) < c.toNat) = true := decide_eq_true (by
             simp only [isD, Bool.and_eq_true, decide_eq_true_eq] at hd
             omega)
            refine zS (zA tj (zA hg1 (zA hg2 (zA d5 (zA d6 cI))))) ?_
            refine wT ?_
            refine zS cI ?_
            exact W_ret (RetP_2 (.nils _) (.imm rfl))
         ·have dj : decide ((j : Int) < g.length) = false := decide_eq_false (by omega)
          obtain rfl : j = g.length := by omega
          rw [List.take_length] at hgall ⊢
          have u9 : [DV.int .u32 1000000000] = us (limbs 1000000000) := by rw [limbs_one (by decide) (by decide)]; rfl
          have hl9 : (limbs 1000000000).length ≤ 1 := by rw [limbs_one (by decide) (by decide)]; simp
          have hv : dval 0 g < 1000000000 := Nat.lt_of_lt_of_le (dval_lt _ hgall) (Nat.le_trans (Nat.pow_le_pow_right (by decide) (show g.length ≤ 9 by omega)) (by decide))
          have hdl := dval_len hall (m := 4000) (by simp; omega)
          have ct := accD_nMul l i (by omega)
          have cf := nFromUint_calls (dval 0 g) (by omega)
          have hm := len_mul hdl hl9
          have ca := nAddL (dval 0 (l.take i) * 1000000000) (dval 0 g) (by omega) (Nat.le_trans (limbs_len.2 (show dval 0 g < 4294967296 ^ 1 by omega)) (by decide))
          rw [hval] at ca
          have hac : accD l (l.length % 9) = .sl 1 (us (limbs (dval 0 (l.take (l.length % 9))))) := by unfold accD; rw [if_neg (by omega)]
          rw [← hac] at ca
          have halle : (l.take (l.length % 9)).all isD = true := by rw [hseg, List.all_append, hall, hgall]; rfl
          have hacc := accD_cases l i
          clear hval hseg hall hgall hm hdl hl9 hac hmem
          (replace halle := Hid.mk halle)
          rcases hacc with e | ⟨xs, e⟩
          ·rw [e] at ct ⊢
           refine zS (zA dj cI) ?_
           refine W_cond rfl (fun h => by cases h) (fun _ => W_exit ?_)
           repeat (first | refine zQ (zA u9 (zA @us_rfd cI)) ?_ | refine cP ct ?_ | refine cP cf ?_ | refine cP ca ?_ | exact zT)
           exact ⟨(l.length % 9), And.intro he2 (And.intro halle.out (.inr he5)), by omega, by simp [subF, lk]⟩
          ·rw [e] at ct ⊢
           refine zS (zA dj cI) ?_
           refine W_cond rfl (fun h => by cases h) (fun _ => W_exit ?_)
           repeat (first | refine zQ (zA u9 (zA @us_rfd cI)) ?_ | refine cP ct ?_ | refine cP cf ?_ | refine cP ca ?_ | exact zT)
           exact ⟨(l.length % 9), And.intro he2 (And.intro halle.out (.inr he5)), by omega, by simp [subF, lk]⟩
       ·have df : decide ((0 : Int) < (l.length % 9 : Nat)) = false := decide_eq_false (by omega)
        have he1 : i < i + 9 := by omega
        have he2 : i + 9 ≤ l.length := by omega
        have he4 : i = 0 ∨ i + 9 - i = 9 := .inl hi0
        have he3 : i + 9 - i ≤ 9 := by omega
        have he5 : (l.length - (i + 9)) % 9 = 0 := by omega
        have ei9 : (i : Int) + 9 = ((i + 9 : Nat) : Int) := by omega
        have te : ((i + 9 : Nat) : Int).toNat = i + 9 := Int.toNat_natCast _
        refine zS (zA di (zA df (zA ei9 cI))) ?_
        refine wFs ?_
        have hg := seg_len (l := l) (at' := i) (e := (i + 9)) he2
        have hseg := take_seg (l := l) (at' := i) (e := (i + 9)) (Nat.le_of_lt he1)
        have hval := dval_seg (l := l) (at' := i) (e := (i + 9)) (Nat.le_of_lt he1) he2 he4
        have hmem : ∀ c ∈ (l.take (i + 9)).drop i, c ∈ l := fun c h => List.mem_of_mem_take (List.mem_of_mem_drop h)
        refine zS (zA ti (zA te cI)) ?_
        generalize (l.take (i + 9)).drop i = g at *
        have hglen : ((g.map byteD).length) = g.length := List.length_map ..
        refine zS (zA hglen cI) ?_
        refine W_loop (σ := Nat) (fun j => [(0, .str l), (2, accD l i), (3, .bool false), (4, .int .i64 (l.length % 9 : Nat)), (5, .int .i64 i), (6, .int .i64 ((i + 9) : Nat)), (47, .sl 1 (g.map byteD)), (48, .int .i64 g.length), (49, .int .i64 j), (7, .int .u64 (dval 0 (g.take j) : Nat))]) (fun _ => []) (fun j => j ≤ g.length ∧ (g.take j).all isD = true) (fun j => g.length - j) 0 (And.intro (Nat.zero_le _) rfl) ?_ rfl ?_
        ·simp [subF, lk, dval_nil]
        ·rintro j ⟨hj, hgall⟩
         by_cases hjl : j < g.length
         ·have dj : decide ((j : Int) < g.length) = true := decide_eq_true (by omega)
          refine zS (zA dj cI) ?_
          refine wTs ?_
          have tj : (j : Int).toNat = j := Int.toNat_natCast j
          have hg1 := byteD_get hjl
          have hg2 := byteD_get? hjl
          have hta := take_all hjl hgall
          have htd := take_dval hjl
          have hmc := hmem g[j] (List.getElem_mem hjl)
          have hv : dval 0 (g.take j) < 1000000000 := Nat.lt_of_lt_of_le (dval_lt _ hgall) (Nat.le_trans (Nat.pow_le_pow_right (by decide) (show (g.take j).length ≤ 9 by rw [List.length_take]; omega)) (by decide))
          generalize g[j] = c at *
          generalize dval 0 (g.take j) = v at *
          have hk : c.toNat < 256 := UInt8.toNat_lt c
          have j1 : ((j : Int) + 1) = ((j + 1 : Nat) : Int) := by omega
          clear hval hseg
          by_cases hd : isD c = true
          ·have hd' := hd
           simp only [isD, Bool.and_eq_true, decide_eq_true_eq] at hd'
           have d5 : decide ((c.toNat : Int) < 48) = false := decide_eq_false (by omega)
           have d6 : decide ((57 : Int) < c.toNat) = false := decide_eq_false (by omega)
           have e8 : (c.toNat : Int) - 48 = ((c.toNat - 48 : Nat) : Int) := by omega
           have e10 : 10 * (v : Int) + ((c.toNat - 48 : Nat) : Int) = ((dval 0 (g.take (j + 1)) : Nat) : Int) := by rw [htd]; omega
           have hta' := hta hd
           clear hta htd hgall hall hmem
           (replace hta' := Hid.mk hta')
           refine zS (zA tj (zA hg1 (zA hg2 (zA d5 (zA d6 cI))))) ?_
           refine wFs ?_
           refine zS (zA e8 (zA e10 (zA j1 cI))) ?_
           exact ⟨j + 1, And.intro hjl hta'.out, by omega, by simp [subF, lk]⟩
          ·have hb : okD l = false := by
            rw [← Bool.not_eq_true, okD_iff]
            exact fun h => hd (List.all_eq_true.1 h.2.2.2 c hmc)
           rw [parseR_bad hb]
           clear hta htd hall hgall hmem
           by_cases h5 : c.toNat < 48
           ·have d5 : decide ((c.toNat : Int) < 48) = true := decide_eq_true (by omega)
            refine zS (zA tj (zA hg1 (zA hg2 (zA d5 cI)))) ?_
            refine wT ?_
            refine zS cI ?_
            exact W_ret (RetP_2 (.nils _) (.imm rfl))
           ·have d5 : decide ((c.toNat : Int) < 48) = false := decide_eq_false (by omega)
            have d6 : decide ((57 : Int) < c.toNat) = true := decide_eq_true (by
             simp only [isD, Bool.and_eq_true, decide_eq_true_eq] at hd
             omega)
            refine zS (zA tj (zA hg1 (zA hg2 (zA d5 (zA d6 cI))))) ?_
            refine wT ?_
            refine zS cI ?_
            exact W_ret (RetP_2 (.nils _) (.imm rfl))
         ·have dj : decide ((j : Int) < g.length) = false := decide_eq_false (by omega)
          obtain rfl : j = g.length := by omega
          rw [List.take_length] at hgall ⊢
          have u9 : [DV.int .u32 1000000000] = us (limbs 1000000000) := by rw [limbs_one (by decide) (by decide)]; rfl
          have hl9 : (limbs 1000000000).length ≤ 1 := by rw [limbs_one (by decide) (by decide)]; simp
          have hv : dval 0 g < 1000000000 := Nat.lt_of_lt_of_le (dval_lt _ hgall) (Nat.le_trans (Nat.pow_le_pow_right (by decide) (show g.length ≤ 9 by omega)) (by decide))
          have hdl := dval_len hall (m := 4000) (by simp; omega)
          have ct := accD_nMul l i (by omega)
          have cf := nFromUint_calls (dval 0 g) (by omega)
          have hm := len_mul hdl hl9
          have ca := nAddL (dval 0 (l.take i) * 1000000000) (dval 0 g) (by omega) (Nat.le_trans (limbs_len.2 (show dval 0 g < 4294967296 ^ 1 by omega)) (by decide))
          rw [hval] at ca
          have hac : accD l (i + 9) = .sl 1 (us (limbs (dval 0 (l.take (i + 9))))) := by unfold accD; rw [if_neg (by omega)]
          rw [← hac] at ca
          have halle : (l.take (i + 9)).all isD = true := by rw [hseg, List.all_append, hall, hgall]; rfl
          have hacc := accD_cases l i
          clear hval hseg hall hgall hm hdl hl9 hac hmem
          (replace halle := Hid.mk halle)
          rcases hacc with e | ⟨xs, e⟩
          ·rw [e] at ct ⊢
           refine zS (zA dj cI) ?_
           refine W_cond rfl (fun h => by cases h) (fun _ => W_exit ?_)
           repeat (first | refine zQ (zA u9 (zA @us_rfd cI)) ?_ | refine cP ct ?_ | refine cP cf ?_ | refine cP ca ?_ | exact zT)
           exact ⟨(i + 9), And.intro he2 (And.intro halle.out (.inr he5)), by omega, by simp [subF, lk]⟩
          ·rw [e] at ct ⊢
           refine zS (zA dj cI) ?_
           refine W_cond rfl (fun h => by cases h) (fun _ => W_exit ?_)
           repeat (first | refine zQ (zA u9 (zA @us_rfd cI)) ?_ | refine cP ct ?_ | refine cP cf ?_ | refine cP ca ?_ | exact zT)
           exact ⟨(i + 9), And.intro he2 (And.intro halle.out (.inr he5)), by omega, by simp [subF, lk]⟩
      ·have di : decide ((i : Int) = 0) = false := decide_eq_false (by omega)
       have he1 : i < i + 9 := by omega
       have he2 : i + 9 ≤ l.length := by omega
       have he4 : i = 0 ∨ i + 9 - i = 9 := .inr (by omega)
       have he3 : i + 9 - i ≤ 9 := by omega
       have he5 : (l.length - (i + 9)) % 9 = 0 := by omega
       have ei9 : (i : Int) + 9 = ((i + 9 : Nat) : Int) := by omega
       have te : ((i + 9 : Nat) : Int).toNat = i + 9 := Int.toNat_natCast _
       refine zS (zA di (zA ei9 cI)) ?_
       refine wFs ?_
       have hg := seg_len (l := l) (at' := i) (e := (i + 9)) he2
       have hseg := take_seg (l := l) (at' := i) (e := (i + 9)) (Nat.le_of_lt he1)
       have hval := dval_seg (l := l) (at' := i) (e := (i + 9)) (Nat.le_of_lt he1) he2 he4
       have hmem : ∀ c ∈ (l.take (i + 9)).drop i, c ∈ l := fun c h => List.mem_of_mem_take (List.mem_of_mem_drop h)
       refine zS (zA ti (zA te cI)) ?_
       generalize (l.take (i + 9)).drop i = g at *
       have hglen : ((g.map byteD).length) = g.length := List.length_map ..
       refine zS (zA hglen cI) ?_
       refine W_loop (σ := Nat) (fun j => [(0, .str l), (2, accD l i), (3, .bool false), (4, .int .i64 (l.length % 9 : Nat)), (5, .int .i64 i), (6, .int .i64 ((i + 9) : Nat)), (47, .sl 1 (g.map byteD)), (48, .int .i64 g.length), (49, .int .i64 j), (7, .int .u64 (dval 0 (g.take j) : Nat))]) (fun _ => []) (fun j => j ≤ g.length ∧ (g.take j).all isD = true) (fun j => g.length - j) 0 (And.intro (Nat.zero_le _) rfl) ?_ rfl ?_
       ·simp [subF, lk, dval_nil]
       ·rintro j ⟨hj, hgall⟩
        by_cases hjl : j < g.length
        ·have dj : decide ((j : Int) < g.length) = true := decide_eq_true (by omega)
         refine zS (zA dj cI) ?_
         refine wTs ?_
         have tj : (j : Int).toNat = j := Int.toNat_natCast j
         have hg1 := byteD_get hjl
         have hg2 := byteD_get? hjl
         have hta := take_all hjl hgall
         have htd := take_dval hjl
         have hmc := hmem g[j] (List.getElem_mem hjl)
         have hv : dval 0 (g.take j) < 1000000000 := Nat.lt_of_lt_of_le (dval_lt _ hgall) (Nat.le_trans (Nat.pow_le_pow_right (by decide) (show (g.take j).length ≤ 9 by rw [List.length_take]; omega)) (by decide))
         generalize g[j] = c at *
         generalize dval 0 (g.take j) = v at *
         have hk : c.toNat < 256 := UInt8.toNat_lt c
         have j1 : ((j : Int) + 1) = ((j + 1 : Nat) : Int) := by omega
         clear hval hseg
         by_cases hd : isD c = true
         ·have hd' := hd
          simp only [isD, Bool.and_eq_true, decide_eq_true_eq] at hd'
          have d5 : decide ((c.toNat : Int) < 48) = false := decide_eq_false (by omega)
          have d6 : decide ((57 : Int) < c.toNat) = false := decide_eq_false (by omega)
          have e8 : (c.toNat : Int) - 48 = ((c.toNat - 48 : Nat) : Int) := by omega
          have e10 : 10 * (v : Int) + ((c.toNat - 48 : Nat) : Int) = ((dval 0 (g.take (j + 1)) : Nat) : Int) := by rw [htd]; omega
          have hta' := hta hd
          clear hta htd hgall hall hmem
          (replace hta' := Hid.mk hta')
          refine zS (zA tj (zA hg1 (zA hg2 (zA d5 (zA d6 cI))))) ?_
          refine wFs ?_
          refine zS (zA e8 (zA e10 (zA j1 cI))) ?_
          exact ⟨j + 1, And.intro hjl hta'.out, by omega, by simp [subF, lk]⟩
         ·have hb : okD l = false := by
           rw [← Bool.not_eq_true, okD_iff]
           exact fun h => hd (List.all_eq_true.1 h.2.2.2 c hmc)
          rw [parseR_bad hb]
          clear hta htd hall hgall hmem
          by_cases h5 : c.toNat < 48
          ·have d5 : decide ((c.toNat : Int) < 48) = true := decide_eq_true (by omega)
           refine zS (zA tj (zA hg1 (zA hg2 (zA d5 cI)))) ?_
           refine wT ?_
           refine zS cI ?_
           exact W_ret (RetP_2 (.nils _) (.imm rfl))
          ·have d5 : decide ((c.toNat : Int) < 48) = false := decide_eq_false (by omega)
           have d6 : decide ((57 : Int) < c.toNat) = true := decide_eq_true (by
            simp only [isD, Bool.and_eq_true, decide_eq_true_eq] at hd
            omega)
           refine zS (zA tj (zA hg1 (zA hg2 (zA d5 (zA d6 cI))))) ?_
           refine wT ?_
           refine zS cI ?_
           exact W_ret (RetP_2 (.nils _) (.imm rfl))
        ·have dj : decide ((j : Int) < g.length) = false := decide_eq_false (by omega)
         obtain rfl : j = g.length := by omega
         rw [List.take_length] at hgall ⊢
         have u9 : [DV.int .u32 1000000000] = us (limbs 1000000000) := by rw [limbs_one (by decide) (by decide)]; rfl
         have hl9 : (limbs 1000000000).length ≤ 1 := by rw [limbs_one (by decide) (by decide)]; simp
         have hv : dval 0 g < 1000000000 := Nat.lt_of_lt_of_le (dval_lt _ hgall) (Nat.le_trans (Nat.pow_le_pow_right (by decide) (show g.length ≤ 9 by omega)) (by decide))
         have hdl := dval_len hall (m := 4000) (by simp; omega)
         have ct := accD_nMul l i (by omega)
         have cf := nFromUint_calls (dval 0 g) (by omega)
         have hm := len_mul hdl hl9
         have ca := nAddL (dval 0 (l.take i) * 1000000000) (dval 0 g) (by omega) (Nat.le_trans (limbs_len.2 (show dval 0 g < 4294967296 ^ 1 by omega)) (by decide))
         rw [hval] at ca
         have hac : accD l (i + 9) = .sl 1 (us (limbs (dval 0 (l.take (i + 9))))) := by unfold accD; rw [if_neg (by omega)]
         rw [← hac] at ca
         have halle : (l.take (i + 9)).all isD = true := by rw [hseg, List.all_append, hall, hgall]; rfl
         have hacc := accD_cases l i
         clear hval hseg hall hgall hm hdl hl9 hac hmem
         (replace halle := Hid.mk halle)
         rcases hacc with e | ⟨xs, e⟩
         ·rw [e] at ct ⊢
          refine zS (zA dj cI) ?_
          refine W_cond rfl (fun h => by cases h) (fun _ => W_exit ?_)
          repeat (first | refine zQ (zA u9 (zA @us_rfd cI)) ?_ | refine cP ct ?_ | refine cP cf ?_ | refine cP ca ?_ | exact zT)
          exact ⟨(i + 9), And.intro he2 (And.intro halle.out (.inr he5)), by omega, by simp [subF, lk]⟩
         ·rw [e] at ct ⊢
          refine zS (zA dj cI) ?_
          refine W_cond rfl (fun h => by cases h) (fun _ => W_exit ?_)
          repeat (first | refine zQ (zA u9 (zA @us_rfd cI)) ?_ | refine cP ct ?_ | refine cP cf ?_ | refine cP ca ?_ | exact zT)
          exact ⟨(i + 9), And.intro he2 (And.intro halle.out (.inr he5)), by omega, by simp [subF, lk]⟩
     ·have hil : i = l.length := by omega
      subst hil
      have dl : decide ((l.length : Int) < l.length) = false := decide_eq_false (by omega)
      rw [List.take_length] at hall
      have hb : okD l = true := (okD_iff l).2 ⟨hn, by omega, hz, hall⟩
      have hr : parseR l = .tup [.sl 1 (us (limbs (dval 0 l))), .bool true] := by unfold parseR; rw [hb]; rfl
      have hac : accD l l.length = .sl 1 (us (limbs (dval 0 l))) := by unfold accD; rw [if_neg (by omega), List.take_length]
      rw [hr, hac]
      refine zS (zA dl cI) ?_
      refine W_cond rfl (fun h => by cases h) (fun _ => W_exit ?_)
      refine zS cI ?_
      exact W_ret (RetP_2 (.imm rfl) (.imm rfl))
end Go.Proofs.YtjfedgpbedppeaaGreatDoor
namespace Go.Proofs.YtjfedgpbedppeaaGreatDoor
open Go Go.Dat Go.Proofs Nat32
open Go.Lib (decDigits)
def fmtI (z : Int) : List UInt8 := if z < 0 then 45 :: decDigits z.natAbs else decDigits z.natAbs
theorem iFormat_calls (neg : Bool) (a : List Nat) (ha : a.length ≤ 900) (la : lim a) : PCalls Tryz.prog 62 [X neg a] (.str (fmtI (iv neg a))) := by
 have cv := i_value_calls neg a (by omega) la
 have cg := iSign_calls neg a (by omega) la
 have l1 := iv_len la neg
 generalize iv neg a = z at *
 have cf := nFormat_calls (limbs z.natAbs) (by omega) (lim_limbs _)
 rw [vn_limbs] at cf
 have hd := dd_limbs (Nat.le_trans l1 ha)
 unfold fmtI
 generalize decDigits z.natAbs = D at *
 refine PCalls_of isiFormat (by simp [fniFormat]) ?_
 unfold codeiFormat
 repeat (first | refine zQ (zA @X.eq_1 (zA @I.eq_1 (zA @cS (zA @nbiFormat cI)))) ?_ | refine cP cv ?_ | refine cP cf ?_ | refine cP cg ?_ | exact zT)
 by_cases hz : z < 0
 ·have ds : decide (z.sign < 0) = true := by rw [Int.sign_eq_neg_one_of_neg hz]; decide
  rw [ds, if_pos hz]
  refine wT ?_
  have e : [(45 : UInt8)] ++ D = 45 :: D := rfl
  refine zS (zA e (zA @List.length_singleton.{0} cI)) ?_
  exact W_ret (RetP_1 (.imm rfl))
 ·have ds : decide (z.sign < 0) = false := decide_eq_false (by have := Int.sign_nonneg_iff.2 (show 0 ≤ z by omega); omega)
  rw [ds, if_neg hz]
  refine wFs ?_
  refine zS cI ?_
  exact W_ret (RetP_1 (.imm rfl))
end Go.Proofs.YtjfedgpbedppeaaGreatDoor
namespace Go.Proofs.YtjfedgpbedppeaaGreatDoor
open Go Go.Dat Go.Proofs Nat32 Go.RowKit
open Go.Lib (decDigits)
theorem islIndex1 (l : List UInt8) (c : UInt8) : PCalls Tryz.prog 180 [.str l, .str [c]] (.int .i64 (idx (isC c) l)) :=
 PCalls_str2 (fun _ _ => .int _ _) fun w => (Tryz.stringslite_Index_one ⟨l.toArray⟩ c w).mono fun e w' h => ⟨by rw [h.1, indexByte_idx], by rw [h.2]; exact Below.refl _ _⟩
theorem cutPrefixD (l : List UInt8) : PCalls Tryz.prog 45 [.str l, .str [45]] (.tup [.str (expD l), .bool (decide (l.head? = some 45))]) :=
 PCalls_str2 (fun _ _ => VI_strbool _ _) fun w => (Tryz.strings_CutPrefix ⟨l.toArray⟩ ⟨[45].toArray⟩ w).mono fun e w' h => ⟨by rw [h.1, ← trimPrefix45, ← hasPrefix45], by rw [h.2]; exact Below.refl _ _⟩
theorem trimLeftD (l : List UInt8) : PCalls Tryz.prog 168 [.str l, .str [48]] (.str (Lib.trimLeftB l 48)) :=
 PCalls_str2 (fun _ _ => .str _) fun w => (Tryz.strings_TrimLeft_one ⟨l.toArray⟩ 48 (by decide) w).mono fun e w' h => ⟨h.1, by rw [h.2]; exact Below.refl _ _⟩
def A7 (l : List UInt8) : Prop := (∀ b ∈ l, b.toNat < 128) ∨ 8 < l.length
theorem indexAnyD (l : List UInt8) (h7 : A7 l) (hl : l.length ≤ 100000) : PCalls Tryz.prog 126 [.str l, .str [101, 69]] (.int .i64 (idx isE l)) := by
 have hc : ∀ (j : Nat) b, ([101, 69] : List UInt8)[j]? = some b → b.toNat < 128 := fun j b hb => by
  have := List.mem_of_getElem? hb
  simp at this
  rcases this with rfl | rfl <;> decide
 have hz : (⟨l.toArray⟩ : ByteArray).size = l.length := by simp [ByteArray.size]
 rcases h7 with ha | h8
 ·exact PCalls_str2 (fun _ _ => .int _ _) fun w => (Tryz.strings_IndexAny_laid ⟨l.toArray⟩ ⟨[101, 69].toArray⟩ w (by omega) (by decide) (fun j b hb => ha b (List.mem_of_getElem? hb)) hc).mono fun e w' h => ⟨by rw [h.1, ← indexAny_idx], h.2⟩
 ·refine PCalls_str2 (fun _ _ => .int _ _) fun w => (Tryz.strings_IndexAny_long (zero_of_info (n := 256) (by kernel_rfl)).1 ⟨l.toArray⟩ ⟨[101, 69].toArray⟩ w (by decide) (by omega) (by omega) (by decide) hc).mono fun e w' h => ⟨by rw [h.1, ← indexAny_idx], ?_⟩
  rw [h.2]
  exact ((Below.refl _ _).alloc (Nat.le_refl _) _).alloc (by simp) _
def cutR (p : UInt8 → Bool) (l : List UInt8) : DV := if fi p l < l.length then .tup [.str (l.take (fi p l)), .str (l.drop (fi p l + 1)), .bool true] else .tup [.str l, .str [], .bool false]
theorem islCut_calls (l : List UInt8) (c : UInt8) (hl : l.length ≤ 100000) : PCalls Tryz.prog 162 [.str l, .str [c]] (cutR (isC c) l) := by
 have ci := islIndex1 l c
 have hge := idx_ge (isC c) l
 refine PCalls_of isislCut (by simp [fnislCut]) ?_
 unfold codeislCut cutR
 by_cases h : fi (isC c) l < l.length
 ·rw [if_pos h]
  rw [decide_eq_true h] at hge
  rw [idx_of h] at ci hge
  generalize fi (isC c) l = i at *
  have e1 : ((i : Int) + ((1 : Nat) : Int)).toNat = i + 1 := by omega
  have e2 : (l.take l.length).drop (i + 1) = l.drop (i + 1) := by rw [List.take_length]
  have e3 : (l.take i).drop 0 = l.take i := rfl
  repeat (first | refine zQ (zA hge cI) ?_ | refine cP ci ?_ | exact zT)
  refine wT ?_
  refine zS (zA e1 (zA e2 (zA e3 (zA @List.length_singleton.{0} (zA @List.take_length.{0} cI))))) ?_
  exact W_ret (RetP_3 (.imm rfl) (.imm rfl) (.imm rfl))
 ·rw [if_neg h]
  rw [decide_eq_false h] at hge
  repeat (first | refine zQ (zA hge cI) ?_ | refine cP ci ?_ | exact zT)
  refine wFs ?_
  refine zS cI ?_
  exact W_ret (RetP_3 (.imm rfl) (.imm rfl) (.imm rfl))
theorem strCut_calls (l : List UInt8) (c : UInt8) (hl : l.length ≤ 100000) : PCalls Tryz.prog 124 [.str l, .str [c]] (cutR (isC c) l) := by
 have ci := islCut_calls l c hl
 refine PCalls_of isstrCut (by simp [fnstrCut]) ?_
 unfold codestrCut
 unfold cutR at ci ⊢
 by_cases h : fi (isC c) l < l.length
 ·rw [if_pos h] at ci ⊢
  repeat (first | refine zQ cI ?_ | refine cP ci ?_ | exact zT)
  exact W_ret (RetP_3 (.imm rfl) (.imm rfl) (.imm rfl))
 ·rw [if_neg h] at ci ⊢
  repeat (first | refine zQ cI ?_ | refine cP ci ?_ | exact zT)
  exact W_ret (RetP_3 (.imm rfl) (.imm rfl) (.imm rfl))
theorem ten_len (k : Nat) : (limbs (10 ^ k)).length ≤ k + 1 := by
 rw [limbs_len]
 refine Nat.lt_of_le_of_lt (Nat.pow_le_pow_left (show 10 ≤ 4294967296 by decide) k) ?_
 exact Nat.pow_lt_pow_right (by decide) (by omega)
theorem l10 : [DV.int .u32 10] = us (limbs 10) := by rw [limbs_one (by decide) (by decide)]; rfl
theorem limbs10 : (limbs 10).length ≤ 1 := by rw [limbs_one (by decide) (by decide)]; simp
theorem nPow10 (k : Nat) (h : k ≤ 64) : PCalls Tryz.prog 140 [.sl 1 (us (limbs 10)), .int .i64 k] (.sl 1 (us (limbs (10 ^ k)))) := by
 have := nPower_calls (limbs 10) k (Nat.le_trans limbs10 (by decide)) (lim_limbs _)
 unfold pw at this
 rwa [if_neg (by omega), Int.toNat_natCast, vn_limbs] at this
theorem q_ten_calls (k : Nat) (hk : k ≤ 5000) : PCalls Tryz.prog 79 [.int .i64 k] (.sl 1 (us (limbs (10 ^ k)))) := by
 refine PCalls_of isq_ten (by simp [fnq_ten]) ?_
 unfold codeq_ten
 have hone := q_one_calls
 repeat (first | refine zQ cI ?_ | refine cP hone ?_ | exact zT)
 refine W_loop (σ := Nat) (fun i => [(0, .int .i64 i), (2, .nils), (3, .sl 1 (us (limbs (10 ^ (k - i)))))]) (fun _ => []) (fun i => i ≤ k) (fun i => i) k (Nat.le_refl _) ?_ rfl ?_
 ·simp [subF, lk]
 ·rintro i hi
  try simp only at hi ⊢
  have hl := ten_len (k - i)
  by_cases h : 64 < i
  ·have d : decide ((64 : Int) < i) = true := decide_eq_true (by omega)
   have c1 := nPow10 64 (Nat.le_refl _)
   have c2 := nMulL (10 ^ (k - i)) (10 ^ 64) (by omega) (Nat.le_trans (ten_len 64) (by decide))
   rw [← Nat.pow_add, show k - i + 64 = k - (i - 64) by omega] at c2
   have e1 : (i : Int) - 64 = ((i - 64 : Nat) : Int) := by omega
   generalize 10 ^ 64 = T at *
   refine zS (zA d cI) ?_
   refine wTs ?_
   repeat (first | refine zQ (zA @l10 (zA @us_rfd (zA e1 cI))) ?_ | refine cP c1 ?_ | refine cP c2 ?_ | exact zT)
   exact ⟨i - 64, by omega, by omega, by simp [subF, lk]⟩
  ·have d : decide ((64 : Int) < i) = false := decide_eq_false (by omega)
   have c1 := nPow10 i (by omega)
   have c2 := nMulL (10 ^ (k - i)) (10 ^ i) (by omega) (Nat.le_trans (ten_len i) (by omega))
   rw [← Nat.pow_add, show k - i + i = k by omega] at c2
   refine zS (zA d cI) ?_
   refine W_cond rfl (fun h => by cases h) (fun _ => W_exit ?_)
   repeat (first | refine zQ (zA @l10 (zA @us_rfd cI)) ?_ | refine cP c1 ?_ | refine cP c2 ?_ | exact zT)
theorem q_significant_calls (l : List UInt8) : PCalls Tryz.prog 129 [.str l] (.str (sig l)) := by
 have ct := trimLeftD l
 refine PCalls_of isq_significant (by simp [fnq_significant]) ?_
 unfold codeq_significant sig
 generalize Lib.trimLeftB l 48 = T at *
 by_cases h : T = []
 ·have d : decide (T = []) = true := decide_eq_true h
  rw [if_pos h]
  repeat (first | refine zQ (zA d cI) ?_ | refine cP ct ?_ | exact zT)
  refine wT ?_
  refine zS cI ?_
  exact W_ret (RetP_1 (.imm rfl))
 ·have d : decide (T = []) = false := decide_eq_false h
  rw [if_neg h]
  repeat (first | refine zQ (zA d cI) ?_ | refine cP ct ?_ | exact zT)
  refine wFs ?_
  refine zS cI ?_
  exact W_ret (RetP_1 (.imm rfl))
end Go.Proofs.YtjfedgpbedppeaaGreatDoor
namespace Go.Proofs.YtjfedgpbedppeaaGreatDoor
open Go Go.Dat Go.Proofs Nat32 Go.RowKit
open Go.Lib (decDigits)
theorem bs_getD {l : List UInt8} {k : Nat} (h : k < l.length) : (l.map byteD).getD k .undef = .int .u8 ((l.getD k 0).toNat : Nat) := by
 simp [List.getD_eq_getElem?_getD, h, byteD]
theorem q_digits_calls (l : List UInt8) (hl : l.length ≤ 100000) : PCalls Tryz.prog 128 [.str l] (.bool (digs l)) := by
 refine PCalls_of isq_digits (by simp [fnq_digits]) ?_
 unfold codeq_digits
 refine zS (zA @List.length_map.{0,0} cI) ?_
 refine W_loop (σ := Nat) (fun i => [(0, .str l), (2, .bool false), (6, .sl 1 (l.map byteD)), (7, .int .i64 l.length), (8, .int .i64 i)]) (fun _ => []) (fun i => i ≤ l.length ∧ (l.take i).all isD = true) (fun i => l.length - i) 0 (And.intro (Nat.zero_le _) rfl) ?_ rfl ?_
 ·simp [subF, lk]
 ·rintro i ⟨hi, hall⟩
  try simp only at hi hall ⊢
  by_cases hlt : i < l.length
  ·have dl : decide ((i : Int) < l.length) = true := decide_eq_true (by omega)
   have ei : (i : Int).toNat = i := Int.toNat_natCast i
   have hgd := bs_getD hlt
   have hg2 : l.getD i 0 = l[i] := by rw [List.getD_eq_getElem?_getD, List.getElem?_eq_getElem hlt]; rfl
   rw [hg2] at hgd
   have hta := take_all hlt hall
   have hmem : l[i] ∈ l := List.getElem_mem hlt
   clear hg2
   generalize l[i] = c at *
   have hk : c.toNat < 256 := UInt8.toNat_lt c
   have e1 : ((i : Int) + 1) = ((i + 1 : Nat) : Int) := by omega
   have hbad : ¬ isD c = true → digs l = false := fun h => by
    unfold digs
    rw [Bool.and_eq_false_iff]
    right
    rw [← Bool.not_eq_true]
    exact fun k => h (List.all_eq_true.1 k c hmem)
   refine zS (zA dl cI) ?_
   refine wTs ?_
   by_cases hd : isD c = true
   ·have hd' := hd
    simp only [isD, Bool.and_eq_true, decide_eq_true_eq] at hd'
    have d5 : decide (((c.toNat : Nat) : Int) < 48) = false := decide_eq_false (by omega)
    have d6 : decide ((57 : Int) < ((c.toNat : Nat) : Int)) = false := decide_eq_false (by omega)
    have hta' := hta hd
    clear hta hall hd hbad hmem
    (replace hta' := Hid.mk hta')
    refine zS (zA ei (zA hgd (zA d5 (zA d6 (zA @List.length_map.{0,0} cI))))) ?_
    refine wFs ?_
    refine zS (zA e1 cI) ?_
    exact ⟨i + 1, And.intro hlt hta'.out, by omega, by simp [subF, lk]⟩
   ·rw [hbad hd]
    clear hta hall hbad hmem
    by_cases h5 : c.toNat < 48
    ·have d5 : decide (((c.toNat : Nat) : Int) < 48) = true := decide_eq_true (by omega)
     refine zS (zA ei (zA hgd (zA d5 (zA @List.length_map.{0,0} cI)))) ?_
     refine wT ?_
     refine zS cI ?_
     exact W_ret (RetP_1 (.imm rfl))
    ·have h57 : 57 < c.toNat := by
      simp only [isD, Bool.and_eq_true, decide_eq_true_eq] at hd
      omega
     have d5 : decide (((c.toNat : Nat) : Int) < 48) = false := decide_eq_false (by omega)
     have d6 : decide ((57 : Int) < ((c.toNat : Nat) : Int)) = true := decide_eq_true (by omega)
     clear hd
     refine zS (zA ei (zA hgd (zA d5 (zA d6 (zA @List.length_map.{0,0} cI))))) ?_
     refine wT ?_
     refine zS cI ?_
     exact W_ret (RetP_1 (.imm rfl))
  ·have dl : decide ((i : Int) < l.length) = false := decide_eq_false (by omega)
   have hil : i = l.length := by omega
   have hdg : digs l = decide (¬ l = []) := by
    unfold digs
    rw [hil, List.take_length] at hall
    rw [hall, Bool.and_true]
    cases l <;> simp
   rw [hdg]
   refine zS (zA dl cI) ?_
   refine W_cond rfl (fun h => by cases h) (fun _ => W_exit ?_)
   refine zS cI ?_
   exact W_ret (RetP_1 (.imm rfl))
theorem nUint_pn (a : List UInt8) (hl : a.length ≤ 1000) : PCalls Tryz.prog 167 [.sl 1 (us (limbs (pn a)))] (uintR (pn a)) := by
 have hx : (limbs (pn a)).length ≤ 1000 := by
  unfold pn
  by_cases h : okD a = true
  ·rw [if_pos h]; exact dval_le (okD_all h) hl
  ·rw [if_neg h, limbs_zero]; simp
 have := nUint_calls (limbs (pn a)) (by omega) (lim_limbs _)
 rwa [vn_limbs] at this
theorem parseR_pn (a : List UInt8) : parseR a = .tup [.sl 1 (us (limbs (pn a))), .bool (okD a)] := by
 unfold parseR pn
 by_cases h : okD a = true
 ·rw [h]; rfl
 ·rw [show okD a = false by simpa using h]
  simp [limbs_zero, us_nil]
theorem nParse_pn (a : List UInt8) : PCalls Tryz.prog 125 [.str a] (.tup [.sl 1 (us (limbs (pn a))), .bool (okD a)]) := by
 have := nParse_calls a
 rwa [parseR_pn] at this
theorem uintR_small {x : Nat} (h : x < 18446744073709551616) : uintR x = .tup [.int .u64 x, .bool true] := by
 unfold uintR
 rw [if_neg (by have := limbs_len.2 (show x < 4294967296 ^ 2 by omega); omega)]
theorem uintR_big {x : Nat} (h : ¬ x < 18446744073709551616) : uintR x = .tup [.int .u64 0, .bool false] := by
 unfold uintR
 rw [if_pos ?_]
 rcases Nat.lt_or_ge 2 (limbs x).length with k | k
 ·exact k
 ·have := limbs_len.1 k
  omega
theorem q_exponent_calls (e : List UInt8) (hl : e.length ≤ 1000) : PCalls Tryz.prog 127 [.str e] (expR e) := by
 have c1 := cutPrefixD e
 have hel : (expD e).length ≤ 1000 := by
  unfold expD; split
  ·rw [List.length_tail]; omega
  ·exact hl
 have c2 := nParse_pn (expD e)
 have c3 := nUint_pn (expD e) hel
 refine PCalls_of isq_exponent (by simp [fnq_exponent]) ?_
 unfold codeq_exponent expR expOk expV
 unfold pn at c2 c3
 generalize expD e = D at *
 by_cases ho : okD D = true
 ·rw [ho, if_pos rfl] at c2
  rw [ho, if_pos rfl] at c3
  rw [ho, Bool.true_and]
  generalize dval 0 D = v at *
  by_cases hs : v < 18446744073709551616
  ·rw [uintR_small hs] at c3
   by_cases h40 : v ≤ 40
   ·have d40 : decide ((40 : Int) < (v : Int)) = false := decide_eq_false (by omega)
    rw [if_pos (decide_eq_true h40)]
    clear hs
    by_cases hn : e.head? = some 45
    ·rw [decide_eq_true hn] at c1
     rw [if_pos hn]
     repeat (first | refine zQ (zA d40 cI) ?_ | refine cP c1 ?_ | refine cP c2 ?_ | refine cP c3 ?_ | exact zT)
     refine wFs ?_
     refine zS cI ?_
     refine wT ?_
     refine zS (zA @Int.zero_sub cI) ?_
     exact W_ret (RetP_2 (.imm rfl) (.imm rfl))
    ·rw [decide_eq_false hn] at c1
     rw [if_neg hn]
     repeat (first | refine zQ (zA d40 cI) ?_ | refine cP c1 ?_ | refine cP c2 ?_ | refine cP c3 ?_ | exact zT)
     refine wFs ?_
     refine zS cI ?_
     refine wFs ?_
     refine zS cI ?_
     exact W_ret (RetP_2 (.imm rfl) (.imm rfl))
   ·have d40 : decide ((40 : Int) < (v : Int)) = true := decide_eq_true (by omega)
    rw [if_neg (by simpa using h40)]
    repeat (first | refine zQ (zA d40 cI) ?_ | refine cP c1 ?_ | refine cP c2 ?_ | refine cP c3 ?_ | exact zT)
    refine wT ?_
    refine zS cI ?_
    exact W_ret (RetP_2 (.imm rfl) (.imm rfl))
  ·rw [uintR_big hs] at c3
   rw [if_neg (by simp; omega)]
   clear hs
   repeat (first | refine zQ cI ?_ | refine cP c1 ?_ | refine cP c2 ?_ | refine cP c3 ?_ | exact zT)
   refine wT ?_
   refine zS cI ?_
   exact W_ret (RetP_2 (.imm rfl) (.imm rfl))
 ·have ho : okD D = false := by simpa using ho
  rw [ho] at c2 c3 ⊢
  simp only [Bool.false_eq_true, if_false] at c2 c3
  rw [Bool.false_and, if_neg (by decide)]
  rw [uintR_small (by decide)] at c3
  repeat (first | refine zQ cI ?_ | refine cP c1 ?_ | refine cP c2 ?_ | refine cP c3 ?_ | exact zT)
  refine wT ?_
  refine zS cI ?_
  exact W_ret (RetP_2 (.imm rfl) (.imm rfl))
end Go.Proofs.YtjfedgpbedppeaaGreatDoor
namespace Go.Proofs.YtjfedgpbedppeaaGreatDoor
open Go Go.Dat Go.Proofs Nat32 Go.RowKit
open Go.Lib (decDigits)
def pairR (r : Option (Nat × Nat)) : DV := match r with
 | some p => .tup [.sl 1 (us (limbs p.1)), .sl 1 (us (limbs p.2)), .bool true]
 | none => .tup [.sl 1 [], .sl 1 [], .bool false]
def tailU : DC := match codeq_unsigned with | .seq _ (.seq _ (.seq _ (.seq _ t))) => t | _ => .skip
theorem cut46 (m : List UInt8) (hl : m.length ≤ 100000) : PCalls Tryz.prog 124 [.str m, .str [46]] (.tup [.str (decN m), .str (decF m), .bool (decide (fi is46 m < m.length))]) := by
 have cc := strCut_calls m 46 hl
 rw [isC46] at cc
 unfold cutR at cc
 unfold decN decF
 by_cases h : fi is46 m < m.length
 ·rw [if_pos h] at cc
  rw [decide_eq_true h]; exact cc
 ·rw [if_neg h] at cc
  rw [decide_eq_false h, List.take_of_length_le (by omega), List.drop_eq_nil_of_le (by omega)]
  exact cc
set_option maxHeartbeats 2000000 in
theorem tail_W (m : List UInt8) (k : Int) (b : Bool) (hm : m.length ≤ 900) (hk : k.natAbs ≤ 40) :
  W fnq_unsigned tailU (RetP resq_unsigned (pairR (mantP m k))) [(0, .str m), (2, .nils), (3, .nils), (4, .bool b), (8, .int .i64 k)] [] := by
 have cc := cut46 m (by omega)
 have c2 := nParse_pn (decN m)
 have c3 := q_digits_calls (decF m) (by have := decN_len m; omega)
 have hNF := decN_len m
 have hfe : decide (fi is46 m = m.length) = !decide (fi is46 m < m.length) := by
  have := fi_le is46 m
  by_cases h : fi is46 m < m.length
  ·rw [decide_eq_true h, decide_eq_false (by omega)]; rfl
  ·rw [decide_eq_false h, decide_eq_true (by omega)]; rfl
 have hgood : decOk m = true → okD (sig (decN m ++ decF m)) = true ∧ dval 0 (sig (decN m ++ decF m)) = dval 0 (decN m ++ decF m) ∧ (limbs (dval 0 (decN m ++ decF m))).length ≤ 900 := fun h => by
  obtain ⟨h1, h2⟩ := decOk_all h
  obtain ⟨h3, h4⟩ := sig_ok h1 h2
  exact ⟨h3, h4, dval_le h1 (by rw [List.length_append]; omega)⟩
 have c5 := q_significant_calls (decN m ++ decF m)
 have c6 := nParse_pn (sig (decN m ++ decF m))
 have c7 := q_ten_calls (decF m).length (by omega)
 have c8 := q_ten_calls k.natAbs (by omega)
 have d4 : decide ((4000 : Int) < ((decN m).length : Int) + ((decF m).length : Int)) = false := decide_eq_false (by omega)
 have d4' : decide ((decN m).length + (decF m).length ≤ 4000) = true := decide_eq_true (by omega)
 have hdef : decOk m = (okD (decN m) && (decide (fi is46 m = m.length) || digs (decF m)) && decide ((decN m).length + (decF m).length ≤ 4000)) := rfl
 have hmant : mantP m k = if decOk m then (if k < 0 then some (dval 0 (decN m ++ decF m), 10 ^ (decF m).length * 10 ^ k.natAbs) else some (dval 0 (decN m ++ decF m) * 10 ^ k.natAbs, 10 ^ (decF m).length)) else none := rfl
 rw [hmant]
 rw [hfe, d4', Bool.and_true] at hdef
 clear hmant hfe d4'
 unfold tailU codeq_unsigned
 dsimp only
 generalize decOk m = ok at *
 generalize decide (fi is46 m < m.length) = pt at *
 generalize decN m = N at *
 generalize decF m = F at *
 by_cases ho : ok = true
 ·obtain ⟨g1, g2, g3⟩ := hgood ho
  have t1 := ten_len F.length
  have t2 := ten_len k.natAbs
  unfold pn at c6
  rw [g1, if_pos rfl, g2] at c6
  subst ho
  rw [if_pos rfl]
  have hN : okD N = true := by
   cases h : okD N
   ·rw [h] at hdef; simp at hdef
   ·rfl
  have hP : pt = true → digs F = true := fun hpt => by
   cases h : digs F
   ·rw [h, hpt] at hdef; simp at hdef
   ·rfl
  rw [hN] at c2
  have m1 := nMulL (10 ^ F.length) (10 ^ k.natAbs) (by omega) (by omega)
  have m2 := nMulL (dval 0 (N ++ F)) (10 ^ k.natAbs) (by omega) (by omega)
  generalize dval 0 (N ++ F) = v at *
  generalize 10 ^ F.length = TF at *
  generalize 10 ^ k.natAbs = TK at *
  clear hgood hdef g1 g2 g3 t1 t2
  by_cases hk0 : k < 0
  ·have dk : decide (k < 0) = true := decide_eq_true hk0
   have ek : (0 : Int) - k = (k.natAbs : Int) := by omega
   rw [if_pos hk0]
   cases pt
   ·repeat (first | refine zQ (zA d4 cI) ?_ | refine cP cc ?_ | refine cP c2 ?_ | refine cP c3 ?_ | exact zT)
    refine wFs ?_
    repeat (first | refine zQ (zA dk cI) ?_ | refine cP c5 ?_ | refine cP c6 ?_ | refine cP c7 ?_ | exact zT)
    refine wT ?_
    repeat (first | refine zQ (zA ek cI) ?_ | refine cP c8 ?_ | refine cP m1 ?_ | exact zT)
    exact W_ret (RetP_3 (.imm rfl) (.imm rfl) (.imm rfl))
   ·rw [hP rfl] at c3
    repeat (first | refine zQ (zA d4 cI) ?_ | refine cP cc ?_ | refine cP c2 ?_ | refine cP c3 ?_ | exact zT)
    refine wFs ?_
    repeat (first | refine zQ (zA dk cI) ?_ | refine cP c5 ?_ | refine cP c6 ?_ | refine cP c7 ?_ | exact zT)
    refine wT ?_
    repeat (first | refine zQ (zA ek cI) ?_ | refine cP c8 ?_ | refine cP m1 ?_ | exact zT)
    exact W_ret (RetP_3 (.imm rfl) (.imm rfl) (.imm rfl))
  ·have dk : decide (k < 0) = false := decide_eq_false hk0
   rw [if_neg hk0]
   have ek : k = (k.natAbs : Int) := by omega
   generalize k.natAbs = kn at *
   subst ek
   cases pt
   ·repeat (first | refine zQ (zA d4 cI) ?_ | refine cP cc ?_ | refine cP c2 ?_ | refine cP c3 ?_ | exact zT)
    refine wFs ?_
    repeat (first | refine zQ (zA dk cI) ?_ | refine cP c5 ?_ | refine cP c6 ?_ | refine cP c7 ?_ | exact zT)
    refine wFs ?_
    repeat (first | refine zQ cI ?_ | refine cP c8 ?_ | refine cP m2 ?_ | exact zT)
    exact W_ret (RetP_3 (.imm rfl) (.imm rfl) (.imm rfl))
   ·rw [hP rfl] at c3
    repeat (first | refine zQ (zA d4 cI) ?_ | refine cP cc ?_ | refine cP c2 ?_ | refine cP c3 ?_ | exact zT)
    refine wFs ?_
    repeat (first | refine zQ (zA dk cI) ?_ | refine cP c5 ?_ | refine cP c6 ?_ | refine cP c7 ?_ | exact zT)
    refine wFs ?_
    repeat (first | refine zQ cI ?_ | refine cP c8 ?_ | refine cP m2 ?_ | exact zT)
    exact W_ret (RetP_3 (.imm rfl) (.imm rfl) (.imm rfl))
 ·have ho' : ok = false := by simpa using ho
  rw [ho'] at hdef
  subst ho'
  rw [if_neg ho]
  clear hgood c5 c6 c7 c8
  cases hN : okD N
  ·rw [hN] at c2
   repeat (first | refine zQ (zA d4 cI) ?_ | refine cP cc ?_ | refine cP c2 ?_ | refine cP c3 ?_ | exact zT)
   refine wT ?_
   refine zS cI ?_
   exact W_ret (RetP_3 (.nils _) (.nils _) (.imm rfl))
  ·rw [hN] at c2 hdef
   have hpt : pt = true := by
    cases pt
    ·simp at hdef
    ·rfl
   subst hpt
   have hF : digs F = false := by simpa using hdef.symm
   rw [hF] at c3
   repeat (first | refine zQ (zA d4 cI) ?_ | refine cP cc ?_ | refine cP c2 ?_ | refine cP c3 ?_ | exact zT)
   refine wT ?_
   refine zS cI ?_
   exact W_ret (RetP_3 (.nils _) (.nils _) (.imm rfl))
def unsR (s : List UInt8) : DV :=
 if fi is47 s < s.length then .tup [.sl 1 (us (limbs (pn (s.take (fi is47 s))))), .sl 1 (us (limbs (pn (s.drop (fi is47 s + 1))))), .bool (okD (s.take (fi is47 s)) && (okD (s.drop (fi is47 s + 1)) && decide (0 < pn (s.drop (fi is47 s + 1)))))]
 else pairR (unsP s)
theorem unsR_some {s : List UInt8} {n d : Nat} (h : unsP s = some (n, d)) : unsR s = pairR (some (n, d)) := by
 unfold unsR
 by_cases h1 : fi is47 s < s.length
 ·rw [if_pos h1]
  unfold unsP at h
  rw [if_pos h1] at h
  split at h
  ·rename_i h2
   simp only [Bool.and_eq_true, decide_eq_true_eq] at h2
   simp only [Option.some.injEq, Prod.mk.injEq] at h
   unfold pn pairR
   simp only [h2.1.1, h2.1.2, if_true, Bool.true_and, h.1, h.2]
   rw [decide_eq_true (by rw [← h.2]; exact h2.2)]
  ·cases h
 ·rw [if_neg h1, h]
theorem unsR_none {s : List UInt8} (h : unsP s = none) : ∃ x y, unsR s = .tup [.sl 1 (us (limbs x)), .sl 1 (us (limbs y)), .bool false] := by
 unfold unsR
 by_cases h1 : fi is47 s < s.length
 ·rw [if_pos h1]
  unfold unsP at h
  rw [if_pos h1] at h
  split at h
  ·cases h
  ·rename_i h2
   refine ⟨pn (s.take (fi is47 s)), pn (s.drop (fi is47 s + 1)), ?_⟩
   suffices hb : (okD (s.take (fi is47 s)) && (okD (s.drop (fi is47 s + 1)) && decide (0 < pn (s.drop (fi is47 s + 1))))) = false by rw [hb]
   rw [← Bool.not_eq_true]
   intro h3
   refine h2 ?_
   simp only [Bool.and_eq_true, decide_eq_true_eq] at h3 ⊢
   refine ⟨⟨h3.1, h3.2.1⟩, ?_⟩
   have := h3.2.2
   unfold pn at this
   rwa [h3.2.1, if_pos rfl] at this
 ·rw [if_neg h1, h]
  exact ⟨0, 0, by rw [limbs_zero]; rfl⟩
theorem I_sgn (b : Bool) (n : Nat) : I (sgn b n) = .agg [.bool (b && decide (0 < n)), .sl 1 (us (limbs n))] := by
 unfold I; rw [sgn_lt, sgn_abs]
end Go.Proofs.YtjfedgpbedppeaaGreatDoor
namespace Go.Proofs.YtjfedgpbedppeaaGreatDoor
open Go Go.Dat Go.Proofs Nat32 Go.RowKit
open Go.Lib (decDigits repeatL)
theorem dd_le {n m : Nat} (h : (limbs n).length ≤ m) : (decDigits n).length ≤ 10 * m + 1 := Nat.le_trans (dd_limbs h) (by omega)
theorem qFormat_calls (neg : Bool) (a d : List Nat) (ha : a.length ≤ 800) (hd : d.length ≤ 800) (la : lim a) (ld : lim d) : PCalls Tryz.prog 39 [XQ neg a d] (.str (fmtQ (rv neg a d))) := by
 have v1 := q_value_calls neg a d (by omega) (by omega) la ld
 have k1 : RB (rv neg a d) 800 := RB_rv la ld ha hd (by decide)
 generalize rv neg a d = r at *
 have c1 := iFormat_calls (decide (r.num < 0)) (limbs r.num.natAbs) (Nat.le_trans k1.1 (by decide)) (lim_limbs _)
 rw [iv_I, show fmtI r.num = fmtZ r.num from rfl] at c1
 have c2 := nFormat_calls (dn r.den) (Nat.le_trans (RB_dn k1) (by decide)) (lim_dn _)
 have kd := dk1 r
 have kg : decide ((0 : Int) < ((dn r.den).length : Int)) = !decide (r.den = 1) := by
  rw [← kd]
  by_cases h : ((dn r.den).length : Int) = 0
  ·rw [decide_eq_true h, decide_eq_false (by omega)]; rfl
  ·rw [decide_eq_false h, decide_eq_true (by omega)]; rfl
 have l1 : (fmtZ r.num).length ≤ 8002 := by
  have := dd_le k1.1
  unfold fmtZ; split
  ·simp; omega
  ·omega
 have l2 := dd_le k1.2
 refine PCalls_of isqFormat (by simp [fnqFormat]) ?_
 unfold codeqFormat fmtQ
 by_cases h : r.den = 1
 ·rw [decide_eq_true h] at kg
  rw [if_pos h, List.append_nil]
  generalize fmtZ r.num = S at *
  clear l2 kd k1
  repeat (first | refine zQ (zA @XQ.eq_1 (zA @Q.eq_1 (zA @cS (zA @cT (zA @nbqFormat (zA @us_length (zA kg (zA @Bool.not_true cI)))))))) ?_ | refine cP v1 ?_ | refine cP c1 ?_ | exact zT)
  refine wFs ?_
  refine zS (zA @cS cI) ?_
  exact W_ret (RetP_1 (.imm rfl))
 ·rw [decide_eq_false h] at kg
  rw [if_neg h]
  rw [vn_dn h] at c2
  generalize fmtZ r.num = S at *
  generalize decDigits r.den = D at *
  clear kd k1
  have e : [(47 : UInt8)] ++ D = 47 :: D := rfl
  repeat (first | refine zQ (zA @XQ.eq_1 (zA @Q.eq_1 (zA @cS (zA @cT (zA @nbqFormat (zA @us_length (zA kg (zA @Bool.not_false cI)))))))) ?_ | refine cP v1 ?_ | refine cP c1 ?_ | exact zT)
  refine wT ?_
  repeat (first | refine zQ (zA @cS (zA e (zA @List.length_cons.{0} (zA @List.length_singleton.{0} cI)))) ?_ | refine cP c2 ?_ | exact zT)
def decR (r : Rat) (k : Int) : List UInt8 := if k < 0 ∨ 100 < k then [] else decS r k.toNat
theorem rep_rep (n : Nat) : repeatL [48] n = List.replicate n (48 : UInt8) := by
 induction n with
 | zero => rfl
 | succ n ih => rw [List.replicate_succ, ← ih]; rfl
def tailDec : DC := match codeqDecimal with | .seq _ (.seq _ (.seq _ (.seq _ (.seq _ (.seq _ t))))) => t | _ => .skip
theorem tailDec_W (b : Bool) (a dd : List Nat) (q k : Nat) (hq : (limbs q).length ≤ 900) (hk : k ≤ 100) :
  W fnqDecimal tailDec (RetP resqDecimal (.str (if b && decide (0 < q) then 45 :: pointed k (padz (k + 1) (decDigits q)) else pointed k (padz (k + 1) (decDigits q)))))
   [(1, .int .i64 k), (2, .ptr 2 0), (4, .str []), (5, .sl 1 (us (limbs q)))] [(2, [.bool b, .sl 1 (us a), .sl 1 (us dd)])] := by
 have c1 := nFormat_calls (limbs q) hq (lim_limbs _)
 rw [vn_limbs] at c1
 have hD := dd_le hq
 have hl := len_gt q
 unfold tailDec codeqDecimal
 dsimp only
 generalize decDigits q = D at *
 have c2 := repeatD [48] (k + 1 - D.length) (by simp) (by omega)
 rw [rep_rep] at c2
 repeat (first | refine zQ (zA @cS (zA @cT (zA @nbqDecimal cI))) ?_ | refine cP c1 ?_ | exact zT)
 refine W_join (ι := Unit) (fun _ => True) (fun _ => [(1, .int .i64 k), (2, .ptr 2 0), (4, .str []), (5, .sl 1 (us (limbs q))), (9, .str (padz (k + 1) D))]) (fun _ => [(2, [.bool b, .sl 1 (us a), .sl 1 (us dd)])]) ?_ ?_
 ·refine zS cI ?_
  by_cases h : D.length < k + 1
  ·have d : decide ((0 : Int) < (k : Int) + 1 - (D.length : Int)) = true := decide_eq_true (by omega)
   have e : (k : Int) + 1 - (D.length : Int) = ((k + 1 - D.length : Nat) : Int) := by omega
   have ep : List.replicate (k + 1 - D.length) 48 ++ D = padz (k + 1) D := rfl
   refine zS (zA d cI) ?_
   refine wT ?_
   repeat (first | refine zQ (zA e (zA @List.length_replicate.{0} (zA ep cI))) ?_ | refine cP c2 ?_ | exact zT)
   first | exact ⟨(), trivial, by simp [subF, lk], rfl⟩ | exact ⟨(), by simp [subF, lk], rfl⟩ | exact ⟨(), by simp [subF, lk]⟩ | exact ⟨(), trivial, by simp [subF, lk]⟩
  ·have d : decide ((0 : Int) < (k : Int) + 1 - (D.length : Int)) = false := decide_eq_false (by omega)
   have ep : padz (k + 1) D = D := by unfold padz; rw [show k + 1 - D.length = 0 by omega]; rfl
   refine zS (zA d cI) ?_
   refine wFs ?_
   rw [ep]
   first | exact ⟨(), trivial, by simp [subF, lk], rfl⟩ | exact ⟨(), by simp [subF, lk], rfl⟩ | exact ⟨(), by simp [subF, lk]⟩ | exact ⟨(), trivial, by simp [subF, lk]⟩
 ·rintro ⟨⟩ -
  have hp := padz_len (k + 1) D
  generalize padz (k + 1) D = L at *
  clear c1 c2
  have hPl : (pointed k L).length ≤ L.length + 1 := by
   unfold pointed; split
   ·simp; omega
   ·omega
  refine W_seq (W_join (ι := Unit) (fun _ => True) (fun _ => [(1, .int .i64 k), (2, .ptr 2 0), (4, .str []), (5, .sl 1 (us (limbs q))), (9, .str (pointed k L))]) (fun _ => [(2, [.bool b, .sl 1 (us a), .sl 1 (us dd)])]) ?_ ?_)
  ·by_cases h : 0 < k
   ·have d : decide ((0 : Int) < (k : Int)) = true := decide_eq_true (by omega)
    have e : (((L.length : Int) - (k : Int))).toNat = L.length - k := by omega
    have e0 : (L.take (L.length - k)).drop 0 = L.take (L.length - k) := rfl
    have ep : (L.take (L.length - k) ++ [46]) ++ L.drop (L.length - k) = pointed k L := by unfold pointed; rw [if_pos h]; simp
    refine zS (zA d cI) ?_
    refine wT ?_
    refine zS (zA e (zA e0 (zA @List.take_length.{0} (zA ep (zA @List.length_append.{0} (zA @List.length_take.{0} (zA @List.length_drop.{0} (zA @List.length_singleton.{0} cI)))))))) ?_
    first | exact ⟨(), trivial, by simp [subF, lk], rfl⟩ | exact ⟨(), by simp [subF, lk], rfl⟩ | exact ⟨(), by simp [subF, lk]⟩ | exact ⟨(), trivial, by simp [subF, lk]⟩
   ·have d : decide ((0 : Int) < (k : Int)) = false := decide_eq_false (by omega)
    have ep : pointed k L = L := by unfold pointed; rw [if_neg h]
    refine zS (zA d cI) ?_
    refine wFs ?_
    rw [ep]
    first | exact ⟨(), trivial, by simp [subF, lk], rfl⟩ | exact ⟨(), by simp [subF, lk], rfl⟩ | exact ⟨(), by simp [subF, lk]⟩ | exact ⟨(), trivial, by simp [subF, lk]⟩
  ·rintro ⟨⟩ -
   generalize pointed k L = P at *
   have e : [(45 : UInt8)] ++ P = 45 :: P := rfl
   cases b
   ·refine zS (zA @cS (zA @nbqDecimal (zA @us_length (zA hl cI)))) ?_
    refine wFs ?_
    refine zS (zA @cS cI) ?_
    exact W_ret (RetP_1 (.imm rfl))
   ·by_cases h : 0 < q
    ·rw [decide_eq_true h] at hl ⊢
     refine zS (zA @cS (zA @nbqDecimal (zA @us_length (zA hl cI)))) ?_
     refine wT ?_
     refine zS (zA @cS (zA e (zA @List.length_singleton.{0} cI))) ?_
     exact W_ret (RetP_1 (.imm rfl))
    ·rw [decide_eq_false h] at hl ⊢
     refine zS (zA @cS (zA @nbqDecimal (zA @us_length (zA hl cI)))) ?_
     refine wFs ?_
     refine zS (zA @cS cI) ?_
     exact W_ret (RetP_1 (.imm rfl))
end Go.Proofs.YtjfedgpbedppeaaGreatDoor
namespace Go.Proofs.YtjfedgpbedppeaaGreatDoor
open Go Go.Dat Go.Proofs Nat32 Go.RowKit
open Go.Lib (decDigits repeatL)
theorem cmp_gt (x y : Nat) : decide ((0 : Int) < cmpN x y) = decide (y < x) := by
 rw [decide_eq_decide]; unfold cmpN; (repeat' split) <;> omega
theorem cmp_e0 (x y : Nat) : decide (cmpN x y = 0) = decide (x = y) := by
 rw [decide_eq_decide]; unfold cmpN; (repeat' split) <;> omega
theorem rnd_up {a d : Nat} (h : d < 2 * (a % d) ∨ (2 * (a % d) = d ∧ a / d % 2 = 1)) : rnd a d = a / d + 1 := by unfold rnd; rw [if_pos h]
theorem rnd_dn {a d : Nat} (h : ¬ (d < 2 * (a % d) ∨ (2 * (a % d) = d ∧ a / d % 2 = 1))) : rnd a d = a / d := by unfold rnd; rw [if_neg h]
set_option maxHeartbeats 1000000 in
theorem qDecimal_calls (neg : Bool) (a d : List Nat) (k : Int) (ha : a.length ≤ 700) (hd : d.length ≤ 700) (la : lim a) (ld : lim d) : PCalls Tryz.prog 50 [XQ neg a d, .int .i64 k] (.str (decR (rv neg a d) k)) := by
 have v1 := q_value_calls neg a d (by omega) (by omega) la ld
 have k1 : RB (rv neg a d) 700 := RB_rv la ld ha hd (by decide)
 generalize rv neg a d = r at *
 refine PCalls_of isqDecimal (by simp [fnqDecimal]) ?_
 unfold codeqDecimal decR
 by_cases h0 : k < 0
 ·rw [if_pos (.inl h0)]
  have d0 : decide (k < 0) = true := decide_eq_true h0
  refine zS (zA @XQ.eq_1 (zA @cS (zA @nbqDecimal (zA d0 cI)))) ?_
  refine wT ?_
  refine zS cI ?_
  exact W_ret (RetP_1 (.imm rfl))
 ·have d0 : decide (k < 0) = false := decide_eq_false h0
  by_cases h1 : 100 < k
  ·rw [if_pos (.inr h1)]
   have d1 : decide (100 < k) = true := decide_eq_true h1
   refine zS (zA @XQ.eq_1 (zA @cS (zA @nbqDecimal (zA d0 (zA d1 cI))))) ?_
   refine wT ?_
   refine zS cI ?_
   exact W_ret (RetP_1 (.imm rfl))
  ·rw [if_neg (by omega)]
   have d1 : decide (100 < k) = false := decide_eq_false h1
   obtain ⟨n, rfl⟩ : ∃ n : Nat, k = n := ⟨k.toNat, by omega⟩
   rw [Int.toNat_natCast]
   have hn : n ≤ 100 := by omega
   have ct := q_ten_calls n (by omega)
   have tl := ten_len n
   have cm := nMulL r.num.natAbs (10 ^ n) (Nat.le_trans k1.1 (by decide)) (by omega)
   have ml := len_mul k1.1 tl
   have cd := q_den_calls r
   have hdl := k1.2
   have hd0 := r.den_pos
   have ht := tailDec_W (decide (r.num < 0)) (limbs r.num.natAbs) (dn r.den) (rnd (r.num.natAbs * 10 ^ n) r.den) n (Nat.le_trans (rnd_len (m := 801) (by omega)) (by decide)) hn
   have hres : decS r n = (if decide (r.num < 0) && decide (0 < rnd (r.num.natAbs * 10 ^ n) r.den) then 45 :: pointed n (padz (n + 1) (decDigits (rnd (r.num.natAbs * 10 ^ n) r.den))) else pointed n (padz (n + 1) (decDigits (rnd (r.num.natAbs * 10 ^ n) r.den)))) := by
    unfold decS
    rw [← Bool.decide_and]
    simp only [decide_eq_true_eq]
   rw [← hres] at ht
   clear hres
   generalize decS r n = RES at *
   unfold tailDec codeqDecimal at ht
   dsimp only at ht
   generalize r.num.natAbs * 10 ^ n = A at *
   generalize hDen : r.den = D at *
   have lq := Nat.le_trans (len_mono (Nat.div_le_self A D)) ml
   have lr := Nat.le_trans (len_mono (Nat.mod_le A D)) ml
   have ci := nDivL A D (by omega) (by omega)
   rw [dmod_pos hd0] at ci
   have la2 := ladd lr lr
   have ca := nAddL (A % D) (A % D) (by omega) (by omega)
   have cc := nCmpL (A % D + A % D) D (by omega) (by omega)
   have e1 := cmp_gt (A % D + A % D) D
   have e2 := cmp_e0 (A % D + A % D) D
   have cu := nAddL (A / D) 1 (by omega) (limbs1_le (by decide))
   generalize hR : A % D = R at *
   generalize hQ : A / D = q at *
   have hup := @rnd_up A D
   have hdn := @rnd_dn A D
   rw [hR, hQ] at hup hdn
   generalize rnd A D = RN at *
   generalize cmpN (R + R) D = C at *
   have hone := q_one_calls
   have hlg := len_gt q
   have e0 : (Int.toNat 0) = 0 := rfl
   have hDq : 10 ^ n = 10 ^ n := rfl
   generalize 10 ^ n = TN at *
   clear hR hQ ml la2 hdl hd0 k1 tl
   by_cases hA : D < R + R
   ·rw [decide_eq_true hA] at e1
    rw [hup (.inl (by omega))] at ht
    clear hup hdn
    repeat (first | refine zQ (zA @XQ.eq_1 (zA @cS (zA @cT (zA @nbqDecimal (zA d0 (zA d1 cI)))))) ?_ | refine cP v1 ?_ | exact zT)
    refine wFs ?_
    repeat (first | refine zQ (zA @XQ.eq_1 (zA @Q.eq_1 (zA @cS (zA @cT (zA @nbqDecimal (zA e1 cI)))))) ?_ | refine cP v1 ?_ | refine cP ct ?_ | refine cP cm ?_ | refine cP cd ?_ | refine cP ci ?_ | refine cP ca ?_ | refine cP cc ?_ | exact zT)
    refine wT ?_
    refine W_reg ?_
    refine zE cI ?_
    refine cP hone ?_
    refine zE cI ?_
    refine cP cu ?_
    refine zE cI ?_
    rw [hDen]; refine W_sub ?_ ht
    simp [subF, lk]
   ·rw [decide_eq_false hA] at e1
    by_cases hE : R + R = D
    ·rw [decide_eq_true hE] at e2
     by_cases hq : 0 < q
     ·rw [decide_eq_true hq] at hlg
      have hlq : 0 < (limbs q).length := limbs_len0.2 hq
      have hg0 := getD_limbs0 q
      have tm2 : (((q % 4294967296 : Nat) : Int)).tmod 2 = ((q % 2 : Nat) : Int) := by
       have := tmod_nat (q % 4294967296) 2
       rw [Nat.mod_mod_of_dvd q (show 2 ∣ 4294967296 by decide)] at this
       exact this
      have hug := us_getD hlq
      rw [hg0] at hug
      by_cases ho : q % 2 = 1
      ·rw [hup (.inr ⟨by omega, ho⟩)] at ht
       have d2 : decide (((q % 2 : Nat) : Int) = 1) = true := decide_eq_true (by omega)
       clear hup hdn hg0
       repeat (first | refine zQ (zA @XQ.eq_1 (zA @cS (zA @cT (zA @nbqDecimal (zA d0 (zA d1 cI)))))) ?_ | refine cP v1 ?_ | exact zT)
       refine wFs ?_
       repeat (first | refine zQ (zA @XQ.eq_1 (zA @Q.eq_1 (zA @cS (zA @cT (zA @nbqDecimal (zA e1 (zA e2 (zA hlg (zA @us_length (zA e0 (zA hug (zA tm2 (zA d2 cI))))))))))))) ?_ | refine cP v1 ?_ | refine cP ct ?_ | refine cP cm ?_ | refine cP cd ?_ | refine cP ci ?_ | refine cP ca ?_ | refine cP cc ?_ | exact zT)
       refine wT ?_
       refine W_reg ?_
       refine zE cI ?_
       refine cP hone ?_
       refine zE cI ?_
       refine cP cu ?_
       refine zE cI ?_
       rw [hDen]; refine W_sub ?_ ht
       simp [subF, lk]
      ·rw [hdn (fun h => by omega)] at ht
       have d2 : decide (((q % 2 : Nat) : Int) = 1) = false := decide_eq_false (by omega)
       clear hup hdn hg0
       repeat (first | refine zQ (zA @XQ.eq_1 (zA @cS (zA @cT (zA @nbqDecimal (zA d0 (zA d1 cI)))))) ?_ | refine cP v1 ?_ | exact zT)
       refine wFs ?_
       repeat (first | refine zQ (zA @XQ.eq_1 (zA @Q.eq_1 (zA @cS (zA @cT (zA @nbqDecimal (zA e1 (zA e2 (zA hlg (zA @us_length (zA e0 (zA hug (zA tm2 (zA d2 cI))))))))))))) ?_ | refine cP v1 ?_ | refine cP ct ?_ | refine cP cm ?_ | refine cP cd ?_ | refine cP ci ?_ | refine cP ca ?_ | refine cP cc ?_ | exact zT)
       refine wFs ?_
       rw [hDen]; refine W_sub ?_ ht
       simp [subF, lk]
     ·rw [decide_eq_false hq] at hlg
      rw [hdn (fun h => by have h0 : q = 0 := by omega
                           rw [h0] at h; omega)] at ht
      clear hup hdn
      repeat (first | refine zQ (zA @XQ.eq_1 (zA @cS (zA @cT (zA @nbqDecimal (zA d0 (zA d1 cI)))))) ?_ | refine cP v1 ?_ | exact zT)
      refine wFs ?_
      repeat (first | refine zQ (zA @XQ.eq_1 (zA @Q.eq_1 (zA @cS (zA @cT (zA @nbqDecimal (zA e1 (zA e2 (zA hlg (zA @us_length cI))))))))) ?_ | refine cP v1 ?_ | refine cP ct ?_ | refine cP cm ?_ | refine cP cd ?_ | refine cP ci ?_ | refine cP ca ?_ | refine cP cc ?_ | exact zT)
      refine wFs ?_
      rw [hDen]; refine W_sub ?_ ht
      simp [subF, lk]
    ·rw [decide_eq_false hE] at e2
     rw [hdn (fun h => by omega)] at ht
     clear hup hdn
     repeat (first | refine zQ (zA @XQ.eq_1 (zA @cS (zA @cT (zA @nbqDecimal (zA d0 (zA d1 cI)))))) ?_ | refine cP v1 ?_ | exact zT)
     refine wFs ?_
     repeat (first | refine zQ (zA @XQ.eq_1 (zA @Q.eq_1 (zA @cS (zA @cT (zA @nbqDecimal (zA e1 (zA e2 cI))))))) ?_ | refine cP v1 ?_ | refine cP ct ?_ | refine cP cm ?_ | refine cP cd ?_ | refine cP ci ?_ | refine cP ca ?_ | refine cP cc ?_ | exact zT)
     refine wFs ?_
     rw [hDen]; refine W_sub ?_ ht
     simp [subF, lk]
end Go.Proofs.YtjfedgpbedppeaaGreatDoor
namespace Go.Proofs.YtjfedgpbedppeaaGreatDoor
open Go Go.Dat Go.Proofs Nat32 Go.RowKit
open Go.Lib (decDigits repeatL)
def XL (r : Rat) : List DV := [.bool (decide (r.num < 0)), .sl 1 (us (limbs r.num.natAbs)), .sl 1 (us (dn r.den))]
end Go.Proofs.YtjfedgpbedppeaaGreatDoor
namespace Go.Proofs.YtjfedgpbedppeaaGreatDoor
open Go Go.Dat Go.Proofs Nat32 Go.RowKit
open Go.Lib (decDigits repeatL)
theorem unsQ_RB5 {s : List UInt8} (hs : s.length ≤ 450) {x : Rat} (h : unsQ s = some x) : RB x 500 := by
 rw [unsQ_P, Option.map_eq_some_iff] at h
 obtain ⟨⟨n, d⟩, hp, rfl⟩ := h
 obtain ⟨b1, b2⟩ := unsP_lenB hp hs
 exact RB_mk (show d ≠ 0 by have := unsP_pos hp; omega) (by rw [Int.natAbs_natCast]; show (limbs n).length ≤ 500; omega) (show (limbs d).length ≤ 500 by omega)
theorem parseQ_RB5 {l : List UInt8} (hl : l.length ≤ 450) {x : Rat} (h : parseQ l = some x) : RB x 500 := by
 unfold parseQ at h
 by_cases h45 : l.head? = some 45
 ·rw [decide_eq_true h45, if_pos h45] at h
  unfold negQ at h
  rw [if_pos rfl, Option.map_eq_some_iff] at h
  obtain ⟨y, hy, rfl⟩ := h
  exact RB_neg (unsQ_RB5 (by rw [List.length_tail]; omega) hy)
 ·rw [decide_eq_false h45, if_neg h45] at h
  exact unsQ_RB5 hl h
end Go.Proofs.YtjfedgpbedppeaaGreatDoor
namespace Go.Proofs
open Go.Shelf Go.RowKit Go.Lib
variable {P : Program} {ρ : Ren}
def eE : ByteArray := ⟨[101, 69].toArray⟩
set_option maxHeartbeats 8000000 in
set_option maxRecDepth 1000000 in
theorem IR_err (L : Lays.n152 P ρ) (w : World) :
  Calls P (ρ.f 152) #[.string eE, .int .i32 65533] w fun e w' => e = .returned (.int .i64 (-1)) ∧ Below w.heap.size w w' := by
 have mixed := L.mixed
 have t3 := L.t3; have a3 := L.a3; have z3 := L.z3; have v3 := L.v3
 have t4 := L.t4; have a4 := L.a4; have z4 := L.z4; have v4 := L.v4
 have t5 := L.t5; have a5 := L.a5; have z5 := L.z5; have v5 := L.v5
 have t9 := L.t9; have a9 := L.a9; have z9 := L.z9; have v9 := L.v9
 have t21 := L.t21; have a21 := L.a21; have z21 := L.z21; have v21 := L.v21
 have hsz : eE.size = 2 := rfl
 go_enter L.f152, Body.n152_ntmps ρ
 go_wp2
 go_loopg [5, 6] 2 (fun g _ _ wx => ∃ i : Nat, i + g = 2 ∧ wx = w.iter eE i)
 case atStart => exact ⟨0, by omega, rfl⟩
 case round =>
  obtain ⟨i, hig, rfl⟩ := hrel
  cases gk with
  | zero =>
   obtain rfl : i = 2 := by omega
   have hnx := run_next_end (P := P) w eE 2
   go_wp2
   go_ret
   exact ⟨rfl, (Below.refl _ _).alloc (Nat.le_refl _) _⟩
  | succ g =>
   have hi : i < eE.size := by rw [hsz]; omega
   obtain ⟨x, hx⟩ : ∃ x : UInt8, eE[i]'hi = x := ⟨_, rfl⟩
   have hx128 : x.toNat < 128 := by
    rw [← hx]
    have : i = 0 ∨ i = 1 := by omega
    rcases this with rfl | rfl
    ·show (101 : UInt8).toNat < 128; decide
    ·show (69 : UInt8).toNat < 128; decide
   have hnx := fun ty => run_next_ascii (P := P) w eE i ty hi (by rw [hx]; exact hx128)
   rw [hx] at hnx
   have hne : ((x.toNat : Int) == 65533) = false := beq_eq_false_iff_ne.2 (by omega)
   clear hx
   go_wp2
   go_roundg g
   case measure => omega
   case rel => exact ⟨i + 1, by omega, rfl⟩
set_option maxHeartbeats 8000000 in
set_option maxRecDepth 1000000 in
theorem IR_hi (L : Lays.n152 P ρ) (r : Int) (w : World) (h0 : 128 ≤ r) (h1 : r ≠ 65533) :
  Calls P (ρ.f 152) #[.string eE, .int .i32 r] w fun e w' => e = .returned (.int .i64 (-1)) ∧ Below w.heap.size w w' := by
 have mixed := L.mixed
 have t3 := L.t3; have a3 := L.a3; have z3 := L.z3; have v3 := L.v3
 have t4 := L.t4; have a4 := L.a4; have z4 := L.z4; have v4 := L.v4
 have t5 := L.t5; have a5 := L.a5; have z5 := L.z5; have v5 := L.v5
 have t9 := L.t9; have a9 := L.a9; have z9 := L.z9; have v9 := L.v9
 have t21 := L.t21; have a21 := L.a21; have z21 := L.z21; have v21 := L.v21
 have e119 : ∀ args w, (callFunc (ρ.f 119) args).run P w = .ok (.enter (ρ.f 119) args) w := enters_of L.f119 (by kernel_rfl) rfl
 have e137 : ∀ args w, (callFunc (ρ.f 137) args).run P w = .ok (.enter (ρ.f 137) args) w := enters_of L.f137 (by kernel_rfl) rfl
 have hsz : eE.size = 2 := rfl
 have d0 : decide ((0 : Int) ≤ r) = true := decide_eq_true (by omega)
 have d1 : decide (r < 128) = false := decide_eq_false (by omega)
 have hne : (r == 65533) = false := beq_eq_false_iff_ne.2 h1
 have hcv : ∀ w, (convert (ρ.t 21) (ρ.t 9) (.int .i32 r)).run P w = .ok (.string (Utf8.encode r)) w := fun w => run_convert_int_string w _ _ .i32 r (by rw [L.t21]; rfl) L.t9
 have hfacts : Lib.validRune r = true → 2 ≤ (Utf8.encode r).size ∧ (Utf8.encode r).size ≤ 4 ∧ ∀ h : (Utf8.encode r).size - 1 < (Utf8.encode r).size, 128 ≤ ((Utf8.encode r)[(Utf8.encode r).size - 1]'h).toNat := fun h => by
  have h2 : Utf8.valid r = true := by
   simp only [Lib.validRune, decide_eq_true_eq] at h
   simp only [Utf8.valid, Bool.or_eq_true, Bool.and_eq_true, decide_eq_true_eq]
   omega
  exact encode_facts r h2 h0
 go_enter L.f152, Body.n152_ntmps ρ
 cases hv : Lib.validRune r
 ·go_wp2_with (go_at_fn (ρ.f 119); refine (Any.utf8_ValidRune { L with } _ _).mono ?_; rintro e w' ⟨rfl, hw⟩; rw [hw, hv])
  go_ret
  exact ⟨rfl, Below.refl _ _⟩
 ·go_wp2_with (go_at_fn (ρ.f 119); refine (Any.utf8_ValidRune { L with } _ _).mono ?_; rintro e w' ⟨rfl, hw⟩; rw [hw, hv])
  apply wp_scope_straight
  obtain ⟨y2, y4, yb⟩ := hfacts hv
  clear hfacts
  by_cases h3 : (Utf8.encode r).size = 2
  ·have hw : wrap64 (((Utf8.encode r).size : Int) - 1) = 1 := by rw [h3]; unfold wrap64; omega
   obtain ⟨y, hy⟩ : ∃ y : UInt8, (Utf8.encode r)[1]'(by omega) = y := ⟨_, rfl⟩
   have hyb : 128 ≤ y.toNat := by
    have := yb (by omega)
    simp only [h3] at this
    rw [← hy]; exact this
   have he1 : eE[1]'(by decide) = 69 := rfl
   have hne2 : ((69 : UInt8) == y) = false := beq_eq_false_iff_ne.2 (fun e => by rw [← e] at hyb; revert hyb; decide)
   clear yb hcv
   go_wp2
   go_loopg [9] 1 (fun g s9 wx => g = 1 ∧ s9 = .int .i64 1 ∧ wx = w)
   case atStart => exact ⟨rfl, rfl, rfl⟩
   case round =>
    obtain ⟨rfl, rfl, rfl⟩ := hrel
    have hlt : decide ((1 : Int) < (eE.size : Int)) = true := decide_eq_true (by rw [hsz]; omega)
    have hi1 : 1 < eE.size := by rw [hsz]; omega
    have hi2 : 1 < (Utf8.encode r).size := by omega
    have hw2 : IntKind.i64.wrap 2 = 2 := by decide
    have hb2 : (2 : Int) ≤ (eE.size : Int) := by rw [hsz]; omega
    have hsl : ∀ w, (Instr.slice (ρ.t 9) (.string eE) (some (.int .i64 2)) none none).run P w = .ok (.string ⟨#[]⟩) w := fun w => by
     rw [run_slice_string_from_if w _ _ _ _ L.t9, if_pos ⟨by decide, hb2⟩]; rfl
    go_wp2
    apply wp_scope_straight
    go_wp2_with fail
    go_quiet_o (fail)
    go_wp2_with fail
    go_quiet_o (first | (refine (Any.strings_IndexByte { L with } _ _ _).mono ?_; rintro e w'' ⟨rfl, rfl⟩; exact ⟨rfl, _, rfl⟩))
    have hib : Lib.indexByte ([] : List UInt8) y = -1 := rfl
    go_wp2_with fail
    simp (config := {zetaDelta := true}) only [Exit.noGoto_ret, Exit.inBlock, Exit.then]
    go_ret
    exact ⟨rfl, ⟨rfl, rfl, rfl, Nat.le_refl _, fun _ _ => rfl⟩⟩
  ·have hw : wrap64 (((Utf8.encode r).size : Int) - 1) = ((Utf8.encode r).size : Int) - 1 := by unfold wrap64; omega
   go_wp2
   go_loopg [9] 1 (fun g s9 wx => g = 1 ∧ s9 = .int .i64 (((Utf8.encode r).size : Int) - 1) ∧ wx = w)
   case atStart => exact ⟨rfl, rfl, rfl⟩
   case round =>
    obtain ⟨rfl, rfl, rfl⟩ := hrel
    have hlt : decide (((Utf8.encode r).size : Int) - 1 < (eE.size : Int)) = false := decide_eq_false (by rw [hsz]; omega)
    go_wp2
    simp (config := {zetaDelta := true}) only [Exit.noGoto_ret, Exit.inBlock, Exit.then]
    go_ret
    exact ⟨rfl, Below.refl _ _⟩
end Go.Proofs
namespace Go.Proofs
open Go.Shelf Go.RowKit Go.Lib
variable {P : Program} {ρ : Ren}
theorem get!_at (s : ByteArray) (i : Nat) (h : i < s.size) : s.get! i = s[i]'h := by
 cases s with
 | mk d =>
  show d[i]! = d[i]
  exact getElem!_pos d i h
set_option maxRecDepth 100000 in
set_option maxHeartbeats 2000000 in
theorem decodeN_hi (n b0 b1 b2 b3 : Nat) (hn : 1 ≤ n) (h0 : 128 ≤ b0) : 128 ≤ (decodeN n b0 b1 b2 b3).1 ∧ 1 ≤ (decodeN n b0 b1 b2 b3).2 ∧ (decodeN n b0 b1 b2 b3).2 ≤ n ∧ (decodeN n b0 b1 b2 b3).2 ≤ 4 ∧
  (1 < (decodeN n b0 b1 b2 b3).2 → 128 ≤ b1) ∧ (2 < (decodeN n b0 b1 b2 b3).2 → 128 ≤ b2) ∧ (3 < (decodeN n b0 b1 b2 b3).2 → 128 ≤ b3) := by
 unfold decodeN
 repeat' split
 all_goals (try simp only)
 all_goals omega
theorem dec_hi (s : ByteArray) (i : Nat) (h : i < s.size) (h0 : 128 ≤ (s[i]'h).toNat) : 128 ≤ (Utf8.decode s i).1 ∧ 1 ≤ (Utf8.decode s i).2 ∧ i + (Utf8.decode s i).2 ≤ s.size ∧
  ∀ j (hj : j < s.size), i ≤ j → j < i + (Utf8.decode s i).2 → 128 ≤ (s[j]'hj).toNat := by
 have e := decode_at s i
 rw [← get!_at s i h] at h0
 obtain ⟨a1, a2, a3, a4, a5, a6, a7⟩ := decodeN_hi (s.size - i) (s.get! i).toNat (s.get! (i + 1)).toNat (s.get! (i + 2)).toNat (s.get! (i + 3)).toNat (by omega) h0
 rw [← e] at a1 a2 a3 a4 a5 a6 a7
 refine ⟨a1, a2, by omega, fun j hj h1 h2 => ?_⟩
 rw [← get!_at s j hj]
 have : j = i ∨ j = i + 1 ∨ j = i + 2 ∨ j = i + 3 := by omega
 rcases this with rfl | rfl | rfl | rfl
 ·exact h0
 ·exact a5 (by omega)
 ·exact a6 (by omega)
 ·exact a7 (by omega)
theorem eE_list : eE.data.toList = [101, 69] := rfl
theorem noany_hi {s : ByteArray} {i k : Nat} (h : NoAny s.data.toList eE.data.toList i) (hi : ∀ j (hj : j < s.size), i ≤ j → j < i + k → 128 ≤ (s[j]'hj).toNat) : NoAny s.data.toList eE.data.toList (i + k) := fun j b hj hb => by
 rcases Nat.lt_or_ge j i with h1 | h1
 ·exact h j b h1 hb
 ·have hlt : j < s.size := by have := (List.getElem?_eq_some_iff.1 hb).1; rwa [← Lib.size_eq] at this
  have h2 := hi j hlt h1 hj
  rw [Lib.data_getElem? s j hlt, Option.some.injEq] at hb
  rw [hb] at h2
  rw [eE_list]
  cases h3 : ([101, 69] : List UInt8).contains b with
  | false => rfl
  | true =>
   rw [List.contains_iff_mem] at h3
   simp at h3
   rcases h3 with rfl | rfl
   ·revert h2; decide
   ·revert h2; decide
theorem Below_iterAt {w W : World} {s : ByteArray} {p q : Nat} (hb : Below w.heap.size w W) (hk : W.heap[w.heap.size]? = some (.stringIter s p)) : Below w.heap.size w (W.iterAt w.heap.size s q) := by
 refine ⟨hb.os, hb.tape, hb.output, ?_, fun k hk => ?_⟩
 ·show w.heap.size ≤ (W.heap.setIfInBounds _ _).size
  rw [Array.size_setIfInBounds]; exact hb.size
 ·show (W.heap.setIfInBounds _ _)[k]? = _
  rw [Array.getElem?_setIfInBounds, if_neg (by omega)]
  exact hb.block k hk
set_option maxHeartbeats 8000000 in
set_option maxRecDepth 1000000 in
theorem IA_short (L : Lays.n153 P ρ) (s : ByteArray) (w : World) (h8 : s.size ≤ 8) :
  Calls P (ρ.f 153) #[.string s, .string eE] w fun e w' => e = .returned (.int .i64 (Lib.indexAny s.data.toList eE.data.toList)) ∧ Below w.heap.size w w' := by
 have hemp : eE.toList.isEmpty = false := by
  rw [Lib.toList_data]; rfl
 have hsz : eE.size = 2 := rfl
 have hn1 : ((eE.size : Int) == 1) = false := beq_eq_false_iff_ne.2 (by rw [hsz]; omega)
 have h8z : decide ((8 : Int) < (s.size : Int)) = false := decide_eq_false (by omega)
 have t3 := L.t3; have a3 := L.a3; have z3 := L.z3; have v3 := L.v3
 have t4 := L.t4; have a4 := L.a4; have z4 := L.z4; have v4 := L.v4
 have t5 := L.t5; have a5 := L.a5; have z5 := L.z5; have v5 := L.v5
 have t9 := L.t9; have a9 := L.a9; have z9 := L.z9; have v9 := L.v9
 have t21 := L.t21; have a21 := L.a21; have z21 := L.z21; have v21 := L.v21
 have e152 : ∀ args w, (callFunc (ρ.f 152) args).run P w = .ok (.enter (ρ.f 152) args) w := enters_of L.f152 (by kernel_rfl) rfl
 have e226 : ∀ args w, (callFunc (ρ.f 226) args).run P w = .ok (.enter (ρ.f 226) args) w := enters_of L.f226 (by kernel_rfl) rfl
 go_enter L.f153, Body.n153_ntmps ρ
 go_wp2_with (go_at_fn (ρ.f 226); refine (Any.strings_shouldUseASCIISet { L with } _ _).mono ?_; rintro e w' ⟨rfl, hw⟩; rw [hw, h8z])
 go_loopg [9, 10] s.size (fun g _ _ wx => ∃ i : Nat, i + g = s.size ∧ wx.heap[w.heap.size]? = some (.stringIter s i) ∧ Below w.heap.size w wx ∧ Lib.NoAny s.data.toList eE.data.toList i)
 case atStart => exact ⟨0, by omega, World.iter_heap _ _ _, (Below.refl _ _).alloc (Nat.le_refl _) _, Lib.NoAny.zero _ _⟩
 case round =>
  obtain ⟨i, hig, hit, hbel, hno⟩ := hrel
  have HN : Aside (NoAny s.data.toList eE.data.toList i) := hno
  have HB : Aside (Below w.heap.size w wr) := hbel
  have hsw : w.heap.size < wr.heap.size := (Array.getElem?_eq_some_iff.1 hit).1
  clear hno hbel
  cases gk with
  | zero =>
   obtain rfl : i = s.size := by omega
   have hnx := fun ty => run_next_end_at (P := P) wr w.heap.size s s.size ty hit (Nat.lt_irrefl _)
   go_wp2
   go_ret
   exact ⟨by rw [Lib.indexAny_none (by rw [← Lib.size_eq]; exact HN.out)]; rfl, HB.out⟩
  | succ g =>
   have hi : i < s.size := by omega
   by_cases hx128 : (s[i]'hi).toNat < 128
   ·have HB2 : Aside (Below w.heap.size w (wr.iterAt w.heap.size s (i + 1))) := Below_iterAt HB.out hit
    have HI2 := iterAt_heap wr w.heap.size s i (i + 1) hit
    have hnx := fun ty => run_next_ascii_at (P := P) wr w.heap.size s i ty hit hi hx128
    obtain ⟨x, hx⟩ : ∃ x : UInt8, s[i]'hi = x := ⟨_, rfl⟩
    have hxl : s.data.toList[i]? = some x := by rw [← hx]; exact Lib.data_getElem? s i hi
    rw [hx] at hnx hx128
    have Hx : Aside (s.data.toList[i]? = some x) := hxl
    clear hxl hx
    have hcon := Lib.contains_iff_indexByte eE.data.toList x
    have hback : ((x.toNat : Int)).toNat.toUInt8 = x := by simp
    cases hin : eE.data.toList.contains x
    ·rw [hin] at hcon
     have hlt : ¬ ((0 : Int) ≤ Lib.indexByte eE.data.toList x) := of_decide_eq_false hcon.symm
     clear hcon
     go_wp2_with (go_at_fn (ρ.f 152); refine (Any.strings_IndexRune_ascii { L with } _ _ _ (by omega) (by omega)).mono ?_; rintro e w' ⟨rfl, hw⟩; rw [hw, hback])
     go_roundg g
     case measure => omega
     case rel => exact ⟨i + 1, by omega, HI2, HB2.out, HN.out.succ Hx.out hin⟩
    ·rw [hin] at hcon
     have hge : (0 : Int) ≤ Lib.indexByte eE.data.toList x := of_decide_eq_true hcon.symm
     clear hcon
     go_wp2_with (go_at_fn (ρ.f 152); refine (Any.strings_IndexRune_ascii { L with } _ _ _ (by omega) (by omega)).mono ?_; rintro e w' ⟨rfl, hw⟩; rw [hw, hback])
     go_ret
     exact ⟨by rw [Lib.indexAny_hit HN.out Hx.out hin]; rfl, HB2.out⟩
   ·obtain ⟨c1, c2, c3, c4⟩ := dec_hi s i hi (by omega)
    have hnx := fun ty => run_next_any_at (P := P) wr w.heap.size s i ty hit hi
    have hno2 := noany_hi HN.out c4
    clear c4
    generalize (Utf8.decode s i).2 = k at *
    generalize (Utf8.decode s i).1 = c at *
    have HN2 : Aside (NoAny s.data.toList eE.data.toList (i + k)) := hno2
    clear hno2
    have HB2 : Aside (Below w.heap.size w (wr.iterAt w.heap.size s (i + k))) := Below_iterAt HB.out hit
    have HI2 := iterAt_heap wr w.heap.size s i (i + k) hit
    have hsw2 : w.heap.size < (wr.iterAt w.heap.size s (i + k)).heap.size := (Array.getElem?_eq_some_iff.1 HI2).1
    generalize wr.iterAt w.heap.size s (i + k) = W2 at *
    have hm1 : ¬ ((0 : Int) ≤ -1) := by omega
    by_cases hc : c = 65533
    ·subst hc
     go_wp2_with (go_at_fn (ρ.f 152); refine (IR_err { L with } _).mono ?_; rintro e w' ⟨rfl, hw⟩)
     go_roundg (g + 1 - k)
     case measure => omega
     case rel => exact ⟨i + k, by omega, (hw.block _ hsw2).trans HI2, HB2.out.trans ⟨hw.os, hw.tape, hw.output, hw.size, fun j hj => hw.block j (by omega)⟩, HN2.out⟩
    ·have hcz : (c : Int) ≠ 65533 := by omega
     go_wp2_with (go_at_fn (ρ.f 152); refine (IR_hi { L with } _ _ (by omega) hcz).mono ?_; rintro e w' ⟨rfl, hw⟩)
     go_roundg (g + 1 - k)
     case measure => omega
     case rel => exact ⟨i + k, by omega, (hw.block _ hsw2).trans HI2, HB2.out.trans ⟨hw.os, hw.tape, hw.output, hw.size, fun j hj => hw.block j (by omega)⟩, HN2.out⟩
end Go.Proofs
namespace Go.Proofs.YtjfedgpbedppeaaGreatDoor
open Go Go.Dat Go.Proofs Nat32 Go.RowKit
open Go.Lib (decDigits)
theorem indexAnyAll (l : List UInt8) (hl : l.length ≤ 100000) : PCalls Tryz.prog 126 [.str l, .str [101, 69]] (.int .i64 (idx isE l)) := by
 have hz : (⟨l.toArray⟩ : ByteArray).size = l.length := by simp [ByteArray.size]
 by_cases h8 : 8 < l.length
 ·exact indexAnyD l (.inr h8) hl
 ·exact PCalls_str2 (fun _ _ => .int _ _) fun w => (IA_short Tryz.lays153 ⟨l.toArray⟩ w (by omega)).mono fun e w' h => ⟨by rw [h.1, eE_list]; show _ = Ending.returned (.int .i64 (idx isE l)); rw [← indexAny_idx], h.2⟩
set_option maxHeartbeats 2000000 in
theorem q_unsigned_all (s : List UInt8) (hs : s.length ≤ 900) : PCalls Tryz.prog 69 [.str s] (unsR s) := by
 have cs := strCut_calls s 47 (by omega)
 rw [isC47] at cs
 unfold cutR at cs
 have hi := fi_le is47 s
 have hj := fi_le isE s
 refine PCalls_of isq_unsigned (by simp [fnq_unsigned]) ?_
 unfold unsR
 by_cases h1 : fi is47 s < s.length
 ·rw [if_pos h1] at cs ⊢
  generalize s.take (fi is47 s) = A at *
  generalize s.drop (fi is47 s + 1) = B at *
  have c1 := nParse_pn A
  have c2 := nParse_pn B
  unfold codeq_unsigned
  cases hA : okD A
  ·rw [hA] at c1
   simp only [Bool.false_and]
   repeat (first | refine zQ cI ?_ | refine cP cs ?_ | exact zT)
   refine wT ?_
   repeat (first | refine zQ cI ?_ | refine cP c1 ?_ | refine cP c2 ?_ | exact zT)
   exact W_ret (RetP_3 (.imm rfl) (.imm rfl) (.imm rfl))
  ·rw [hA] at c1
   cases hB : okD B
   ·rw [hB] at c2
    simp only [Bool.false_and, Bool.true_and]
    repeat (first | refine zQ cI ?_ | refine cP cs ?_ | exact zT)
    refine wT ?_
    repeat (first | refine zQ cI ?_ | refine cP c1 ?_ | refine cP c2 ?_ | exact zT)
    exact W_ret (RetP_3 (.imm rfl) (.imm rfl) (.imm rfl))
   ·rw [hB] at c2
    simp only [Bool.true_and]
    repeat (first | refine zQ cI ?_ | refine cP cs ?_ | exact zT)
    refine wT ?_
    repeat (first | refine zQ (zA @us_length (zA @len_gt cI)) ?_ | refine cP c1 ?_ | refine cP c2 ?_ | exact zT)
    exact W_ret (RetP_3 (.imm rfl) (.imm rfl) (.imm rfl))
 ·rw [if_neg h1] at cs ⊢
  have ci := indexAnyAll s (by omega)
  have hge := idx_ge isE s
  unfold unsP
  rw [if_neg h1]
  have htail := tail_W
  unfold tailU at htail
  unfold codeq_unsigned at htail ⊢
  dsimp only at htail
  by_cases h2 : fi isE s < s.length
  ·rw [decide_eq_true h2] at hge
   rw [if_pos h2]
   rw [idx_of h2] at ci hge
   have c3 := q_exponent_calls (s.drop (fi isE s + 1)) (by rw [List.length_drop]; omega)
   have e1 : ((fi isE s : Int) + 1).toNat = fi isE s + 1 := by omega
   have e2 : (s.take s.length).drop (fi isE s + 1) = s.drop (fi isE s + 1) := by rw [List.take_length]
   have e3 : (s.take (fi isE s)).drop 0 = s.take (fi isE s) := rfl
   have ht := htail (s.take (fi isE s)) (expV (s.drop (fi isE s + 1))) true (by rw [List.length_take]; omega)
   unfold expR at c3
   have hex := @expOk_le (s.drop (fi isE s + 1))
   clear htail
   generalize expV (s.drop (fi isE s + 1)) = V at *
   cases h3 : expOk (s.drop (fi isE s + 1))
   ·rw [h3, if_neg (by decide)] at c3
    rw [if_neg (by decide)]
    clear ht hex
    repeat (first | refine zQ cI ?_ | refine cP cs ?_ | exact zT)
    refine wFs ?_
    repeat (first | refine zQ (zA hge cI) ?_ | refine cP ci ?_ | exact zT)
    refine wT ?_
    repeat (first | refine zQ (zA e1 (zA e2 (zA @List.take_length.{0} cI))) ?_ | refine cP c3 ?_ | exact zT)
    refine wT ?_
    refine zS cI ?_
    exact W_ret (RetP_3 (.nils _) (.nils _) (.imm rfl))
   ·rw [h3, if_pos rfl] at c3
    rw [if_pos rfl]
    have ht := ht (hex h3)
    clear hex
    repeat (first | refine zQ cI ?_ | refine cP cs ?_ | exact zT)
    refine wFs ?_
    repeat (first | refine zQ (zA hge cI) ?_ | refine cP ci ?_ | exact zT)
    refine wT ?_
    repeat (first | refine zQ (zA e1 (zA e2 (zA @List.take_length.{0} cI))) ?_ | refine cP c3 ?_ | exact zT)
    refine wFs ?_
    refine W_reg ?_
    refine zE (zA e3 cI) ?_
    repeat refine And.intro (by omega) ?_
    refine W_sub ?_ ht
    simp [subF, lk]
  ·rw [decide_eq_false h2] at hge
   rw [if_neg h2]
   have ht := htail s 0 false hs (by decide)
   clear htail
   repeat (first | refine zQ cI ?_ | refine cP cs ?_ | exact zT)
   refine wFs ?_
   repeat (first | refine zQ (zA hge cI) ?_ | refine cP ci ?_ | exact zT)
   refine wFs ?_
   refine W_sub ?_ ht
   simp [subF, lk]
theorem qParse_all (l : List UInt8) (hl : l.length ≤ 900) : PCalls Tryz.prog 46 [.str l] (resQ (parseQ l)) := by
 have c1 := cutPrefixD l
 have hel : (expD l).length ≤ 900 := by
  unfold expD; split
  ·rw [List.length_tail]; omega
  ·exact hl
 have c2 := q_unsigned_all (expD l) hel
 rw [parseQ_P]
 refine PCalls_of isqParse (by simp [fnqParse]) ?_
 unfold codeqParse
 cases h : unsP (expD l) with
 | none =>
  obtain ⟨x, y, e⟩ := unsR_none h
  rw [e] at c2
  rw [Option.map_none]
  unfold resQ
  dsimp only
  rw [Q0]
  repeat (first | refine zQ (zA @cS (zA @cT (zA @nbqParse cI))) ?_ | refine cP c1 ?_ | refine cP c2 ?_ | exact zT)
  refine wT ?_
  refine zS (zA @cS (zA @cT (zA @nbqParse cI))) ?_
  exact W_ret (RetP_ct rfl rfl rfl (Exp_bnn _ _ _) (.imm rfl))
 | some p =>
  obtain ⟨n, d⟩ := p
  rw [unsR_some h] at c2
  unfold pairR at c2
  dsimp only at c2
  have hd := unsP_pos h
  obtain ⟨b1, b2⟩ := unsP_len h hel
  rw [Option.map_some]
  unfold resQ
  dsimp only
  have cl := q_lowest_calls (sgn (decide (l.head? = some 45)) n) d (by omega) (by unfold il; rw [sgn_abs]; omega) (by omega)
  rw [I_sgn] at cl
  clear h b1 b2 hel
  by_cases hn : l.head? = some 45
  ·rw [decide_eq_true hn] at c1 cl ⊢
   rw [Bool.true_and] at cl
   repeat (first | refine zQ (zA @cS (zA @cT (zA @nbqParse cI))) ?_ | refine cP c1 ?_ | refine cP c2 ?_ | exact zT)
   refine wFs ?_
   repeat (first | refine zQ (zA @Q.eq_1 (zA @cS (zA @cT (zA @nbqParse (zA @us_length (zA @len_gt cI)))))) ?_ | refine cP cl ?_ | exact zT)
   exact W_ret (RetP_ct rfl rfl rfl (.imm rfl) (.imm rfl))
  ·rw [decide_eq_false hn] at c1 cl ⊢
   rw [Bool.false_and] at cl
   repeat (first | refine zQ (zA @cS (zA @cT (zA @nbqParse cI))) ?_ | refine cP c1 ?_ | refine cP c2 ?_ | exact zT)
   refine wFs ?_
   repeat (first | refine zQ (zA @Q.eq_1 (zA @cS (zA @cT (zA @nbqParse (zA @us_length (zA @len_gt cI)))))) ?_ | refine cP cl ?_ | exact zT)
   exact W_ret (RetP_ct rfl rfl rfl (.imm rfl) (.imm rfl))
end Go.Proofs.YtjfedgpbedppeaaGreatDoor
namespace Go.Proofs.YtjfedgpbedppeaaGreatDoor
open Go Go.Dat Go.Proofs Go.RowKit Go.Shelf
theorem sizeB : (Tryz.prog.info? 71).map (·.size) = some 2 := by kernel_rfl
theorem liesB : liesAt Tryz.prog Tryz.prog.depth 71 (2 / Tryz.prog.cellsOf 71) 0 71 1 = true := by kernel_rfl
set_option maxHeartbeats 1000000 in
set_option maxRecDepth 100000 in
theorem bCopy_used (b : Nat) (w : World) (h0 : w.cell? ⟨b, 0, none⟩ = some (.pointer (some ⟨b, 0, none⟩))) :
  Calls Tryz.prog 60 #[.pointer (some ⟨b, 0, none⟩)] w fun e w' => e = .returned (.tuple #[]) ∧ w' = w := by
 obtain ⟨j, hj, _⟩ := Option.map_eq_some_iff.1 sizeB
 go_enter Tryz.func60, Tryz.ntmps60
 go_wp2
 rw [Lib.run_neq_ptr_same w _ Tryz.underlying69 hj]
 go_wp2
 go_end0
 exact ⟨rfl, rfl⟩
set_option maxHeartbeats 1000000 in
set_option maxRecDepth 100000 in
theorem bCopy_fresh (b : Nat) (w : World) (h0 : w.cell? ⟨b, 0, none⟩ = some (.pointer none)) (hsh : w.shape? b = some (71, 2)) (hfz : w.frozen? ⟨b, 0, none⟩ = false) :
  Calls Tryz.prog 60 #[.pointer (some ⟨b, 0, none⟩)] w fun e w' => e = .returned (.tuple #[]) ∧ w' = w.setCell ⟨b, 0, none⟩ (.pointer (some ⟨b, 0, none⟩)) := by
 obtain ⟨j, hj, hjs⟩ := Option.map_eq_some_iff.1 sizeB
 go_enter Tryz.func60, Tryz.ntmps60
 go_wp2
 rw [Lib.run_to_unsafe w ⟨b, 0, none⟩ Tryz.underlying69 Tryz.underlying142 hj (by rw [hjs]; decide) hsh (Nat.zero_lt_succ 1)]
 simp only [Result.andThen]
 rw [Oper.upon_value]
 go_wp2
 rw [run_callFunc_extern Tryz.func108 (by kernel_rfl) (by kernel_rfl) (by kernel_rfl) (e := Extern.AbiNoEscape.same) (by kernel_rfl)]
 rw [Lib.run_noEscape]
 simp only [Result.andThen]
 rw [Oper.upon_value]
 go_wp2
 rw [Lib.run_from_unsafe w ⟨b, 0, none⟩ Tryz.underlying142 Tryz.underlying69 hj hsh liesB]
 simp only [Result.andThen]
 rw [Oper.upon_value]
 go_wp2
 go_end0
 exact ⟨rfl, rfl⟩
end Go.Proofs.YtjfedgpbedppeaaGreatDoor
namespace Go.Proofs.YtjfedgpbedppeaaGreatDoor
open Go Go.Proofs Go.RowKit Go.Shelf
theorem infoU8 : (Tryz.prog.info? 5).map (fun i => (i.zero, i.size, i.bytes)) = some (some (.int .u8 0), 1, 1) := by kernel_rfl
theorem bCopy_f (B b : Nat) (bs : List Value) (w : World) (h : Lib.IsBuilderF 71 5 B b bs w) :
  Calls Tryz.prog 60 #[.pointer (some ⟨b, 0, none⟩)] w fun e w' => e = .returned (.tuple #[]) ∧ (Lib.BuilderAtF 71 5 B b (.pointer (some ⟨b, 0, none⟩)) bs w' ∧ Below B w w') := by
 rcases h with h | h
 ·refine (bCopy_fresh b w h.cell0 h.shape h.frozen0).mono ?_
  rintro e w' ⟨rfl, rfl⟩
  exact ⟨rfl, h.used _, (Below.refl B w).setCell (p := ⟨b, 0, none⟩) h.1 _⟩
 ·refine (bCopy_used b w h.cell0).mono ?_
  rintro e w' ⟨rfl, rfl⟩
  exact ⟨rfl, h, Below.refl B _⟩
set_option maxHeartbeats 2000000 in
set_option maxRecDepth 100000 in
theorem bWriteString (B b : Nat) (bs : List Value) (s : ByteArray) (w : World) (h : Lib.IsBuilderF 71 5 B b bs w) (hlen : bs.length + s.size ≤ 140737488355328) (hBw : B ≤ w.heap.size) :
  Calls Tryz.prog 37 #[.pointer (some ⟨b, 0, none⟩), .string s] w fun e w' => e = .returned (.tuple #[.int .i64 s.size, .nilIface]) ∧ (Lib.BuilderAtF 71 5 B b (.pointer (some ⟨b, 0, none⟩)) (bs ++ Lib.strCells s) w' ∧ Below B w w') := by
 obtain ⟨i0, hi, hz0, hz1, hz2⟩ := info_parts infoU8
 go_enter Tryz.func37, Tryz.ntmps37
 go_wp2_with (go_at_call 60; refine (bCopy_f B b bs _ h).mono ?_)
 rintro e w1 ⟨rfl, h1, hb1⟩
 obtain ⟨hB, v, hbk, hown, hne⟩ := h1
 have c0 : w1.cell? ⟨b, 0, none⟩ = some (.pointer (some ⟨b, 0, none⟩)) := by rw [Lib.cell_of_heap hbk]; rfl
 have c1 : w1.cell? ⟨b, 1, none⟩ = some v := by rw [Lib.cell_of_heap hbk]; rfl
 go_wp2_with (at_builtin; refine Lib.wpList_append_own_stringF _ rfl _ _ 38 9 rfl B 5 i0 Tryz.underlying38 Tryz.underlying9 hi hz0 hz1 hz2 _ _ _ rfl hown s rfl ?c3 ?c4 ?c5 ?_)
 case c3 => unfold maxLen; omega
 case c4 => omega
 case c5 => have := hb1.size; omega
 intro v' w2 hown' hgrow _
 have hlt : b < w1.heap.size := by
  rcases Nat.lt_or_ge b w1.heap.size with h' | h'
  ·exact h'
  ·simp [Array.getElem?_eq_none h'] at hbk
 have hb2 : w2.heap[b]? = some (.cells #[.pointer (some ⟨b, 0, none⟩), v] 71 (0, 0)) := by
  rw [hgrow.block b hlt (fun e => hne e.symm)]
  exact hbk
 have d0 : w2.cell? ⟨b, 0, none⟩ = some (.pointer (some ⟨b, 0, none⟩)) := by rw [Lib.cell_of_heap hb2]; rfl
 have d1 : w2.cell? ⟨b, 1, none⟩ = some v := by rw [Lib.cell_of_heap hb2]; rfl
 have f1 : w2.frozen? ⟨b, 1, none⟩ = false := Lib.frozen_of_heap hb2 1
 obtain ⟨ao, n', cap, rfl⟩ : ∃ ao n' cap, v' = .slice ao n' cap := by
  rcases hown'.2 with ⟨hv, _⟩ | ⟨g, cap, cur, fz, hv, _⟩
  ·exact ⟨_, _, _, hv⟩
  ·exact ⟨_, _, _, hv⟩
 go_wp2
 go_ret2
 refine ⟨rfl, ?_, ?_⟩
 ·exact Lib.BuilderAtF.put (T := 71) (e := 5) hB hb2 (bs' := bs ++ Lib.strCells s) (by simpa [Lib.strCells_length] using hown') (by decide)
 ·exact (hb1.grown hgrow (by have := hb1.size; omega) (fun k hk => (hown.lt k hk).1)).setCell (p := ⟨b, 1, none⟩) hB _
set_option maxHeartbeats 2000000 in
set_option maxRecDepth 100000 in
theorem bWriteByte (B b : Nat) (bs : List Value) (c : Int) (w : World) (h : Lib.IsBuilderF 71 5 B b bs w) (hlen : bs.length + 1 ≤ 140737488355328) (hBw : B ≤ w.heap.size) :
  Calls Tryz.prog 56 #[.pointer (some ⟨b, 0, none⟩), .int .u8 c] w fun e w' => e = .returned .nilIface ∧ (Lib.BuilderAtF 71 5 B b (.pointer (some ⟨b, 0, none⟩)) (bs ++ [.int .u8 c]) w' ∧ Below B w w') := by
 obtain ⟨i0, hi, hz0, hz1, hz2⟩ := info_parts infoU8
 go_enter Tryz.func56, Tryz.ntmps56
 go_wp2_with (go_at_call 60; refine (bCopy_f B b bs _ h).mono ?_)
 rintro e w1 ⟨rfl, h1, hb1⟩
 obtain ⟨hB, v, hbk, hown, hne⟩ := h1
 have c0 : w1.cell? ⟨b, 0, none⟩ = some (.pointer (some ⟨b, 0, none⟩)) := by rw [Lib.cell_of_heap hbk]; rfl
 have c1 : w1.cell? ⟨b, 1, none⟩ = some v := by rw [Lib.cell_of_heap hbk]; rfl
 go_wp2_with (at_builtin; refine wpList_append_ownF _ rfl _ _ 38 rfl B 5 i0 (.int .u8 0) 1 1 Tryz.underlying38 hi hz0 hz1 hz2 rfl (by decide) _ _ _ rfl (hown.alloc _) ⟨w1.heap.size, 0, none⟩ 1 1 [.int .u8 c] rfl rfl ?c1 ?c2 ?c3 ?c4 ?c5 ?_)
 case c1 =>
  intro j u hj
  match j, hj with
  | 0, hj => simp at hj; subst hj; simp [Addr.add]
 case c2 => intro u hu; simp at hu; subst hu; rfl
 case c3 => unfold maxLen; omega
 case c4 => omega
 case c5 => have := hb1.size; simp; omega
 intro v' w2 hown' hgrow _
 have hlt : b < w1.heap.size := by
  rcases Nat.lt_or_ge b w1.heap.size with h' | h'
  ·exact h'
  ·simp [Array.getElem?_eq_none h'] at hbk
 have hb2 : w2.heap[b]? = some (.cells #[.pointer (some ⟨b, 0, none⟩), v] 71 (0, 0)) := by
  rw [hgrow.block b (by simp; omega) (fun e => hne e.symm), Lib.alloc_old w1 _ b hlt]
  exact hbk
 have d0 : w2.cell? ⟨b, 0, none⟩ = some (.pointer (some ⟨b, 0, none⟩)) := by rw [Lib.cell_of_heap hb2]; rfl
 have d1 : w2.cell? ⟨b, 1, none⟩ = some v := by rw [Lib.cell_of_heap hb2]; rfl
 have f1 : w2.frozen? ⟨b, 1, none⟩ = false := Lib.frozen_of_heap hb2 1
 obtain ⟨g, cap, rfl⟩ : ∃ g cap, v' = .slice (some ⟨g, 0, none⟩) (bs.length + 1) cap := by
  rcases hown'.2 with ⟨_, h0⟩ | ⟨g, cap, cur, fz, hv, _⟩
  ·omega
  ·exact ⟨g, cap, hv⟩
 go_wp2
 go_ret
 refine ⟨rfl, ?_, ?_⟩
 ·exact Lib.BuilderAtF.put (T := 71) (e := 5) hB hb2 (bs' := bs ++ [.int .u8 c]) (by simpa using hown') (by decide)
 ·exact ((hb1.alloc (by have := hb1.size; omega) _).grown hgrow (by have := hb1.size; simp; omega) (fun k hk => (hown.lt k hk).1)).setCell (p := ⟨b, 1, none⟩) hB _
end Go.Proofs.YtjfedgpbedppeaaGreatDoor
namespace Go.Proofs.YtjfedgpbedppeaaGreatDoor
open Go Go.Proofs Go.RowKit Go.Shelf Nat32
theorem add_blk (a : Addr) (n : Nat) : (a.add n).block = a.block := by unfold Addr.add; split <;> rfl
theorem add0 (a : Addr) : a.add 0 = a := by unfold Addr.add; rw [if_pos rfl]
theorem rep_len (n : Nat) : (Lib.repeatL [32] n).length = n := by
 have := Lib.repeatL_length [32] n
 simpa using this
theorem rep_list (n : Nat) : (⟨(Lib.repeatL [32] n).toArray⟩ : ByteArray).data.toList = List.replicate n 32 := by
 show Lib.repeatL [32] n = _
 have := Lib.repeatL_replicate 32 1 n
 rw [Nat.mul_one] at this
 exact this
theorem below_le {B C : Nat} {w w' : World} (h : Below C w w') (hB : B ≤ C) : Below B w w' := ⟨h.os, h.tape, h.output, h.size, fun k hk => h.block k (Nat.lt_of_lt_of_le hk hB)⟩
theorem BAt_below {T e : TypeId} {B b : Nat} {p : Value} {bs : List Value} {w w' : World} (h : Lib.BuilderAtF T e B b p bs w) (hb : Below w.heap.size w w') : Lib.BuilderAtF T e B b p bs w' := by
 have hlt := h.lt
 obtain ⟨hB, v, hbk, hown, hne⟩ := h
 refine ⟨hB, v, (hb.block b hlt).trans hbk, ⟨hown.1, ?_⟩, hne⟩
 rcases hown.2 with h1 | ⟨g, cap, cur, fz, e1, e2, e3, r⟩
 ·exact .inl h1
 ·exact .inr ⟨g, cap, cur, fz, e1, e2, (hb.block g (Array.getElem?_eq_some_iff.1 e3).1).trans e3, r⟩
theorem IsB_below {T e : TypeId} {B b : Nat} {bs : List Value} {w w' : World} (h : Lib.IsBuilderF T e B b bs w) (hb : Below w.heap.size w w') : Lib.IsBuilderF T e B b bs w' := h.imp (fun x => BAt_below x hb) (fun x => BAt_below x hb)
structure Hd (p : Prop) : Prop where
 out : p
noncomputable def part2 : Code := match Tryz.f29.body with | some (.seq _ (.seq _ (.seq _ (.seq _ (.seq _ (.seq _ t)))))) => t | _ => .skip
set_option maxHeartbeats 8000000 in
set_option maxRecDepth 1000000 in
theorem part2_walk (w : World) (ad : Addr) (N m c0 bw cw : Nat) (A : Nat → Addr) (C : Nat → Nat) (recs : List (List (List UInt8))) (wd : Nat → Nat) (hN : N ≤ 1024) (hm : m ≤ 32)
  (hrec : ∀ i, i < N → w.cell? (ad.add i) = some (.slice (some (A i)) m (C i)))
  (hcell : ∀ i, i < N → ∀ j, j < m → w.cell? ((A i).add j) = some (.string ⟨((recs.getD i []).getD j []).toArray⟩))
  (hwid : ∀ j, j < m → w.cell? ⟨bw, j, none⟩ = some (.int .i64 (wd j : Nat)))
  (hle : ∀ i j, ((recs.getD i []).getD j []).length ≤ wd j) (hwd : ∀ j, wd j ≤ 32) (u1 u2 u3 u4 u5 u6 u8 u9 u10 u11 u12 u13 u14 u15 u16 u17 u18 u19 u20 u21 u22 u23 u24 u25 u26 u27 u28 u29 u30 u31 u32 u33 u34 u35 u36 u37 u38 u39 u40 u41 u42 u43 u44 u45 u46 u47 u48 u49 u50 u51 u52 u53 u54 u55 u56 u57 u58 u59 u60 u61 u62 u63 u64 u65 u66 u67 u68 u69 u70 u71 u72 u73 u74 u75 u76 u77 u78 u79 u80 u81 u82 u83 u84 u85 u86 u87 u88 u89 u90 u91 u92 u93 u94 u95 u96 u97 u98 u99 u100 u101 u102 u103 u104 u105 u106 u107 u108 : Value)
  (D0 : List Deferred) (Q : Exit → Act → World → Prop)
  (hQ : ∀ (tmps : Array Value) (w' : World), tmps.size = 109 → tmps.getD 2 undef = .string ⟨(colT wd recs m N).toArray⟩ → tmps.getD 3 undef = .int .i64 0 → Below w.heap.size w w' → Q .ret { tmps := tmps, defers := D0 } w') :
  Code.wp Tryz.prog part2 Q { tmps := List.toArray (.slice (some ad) N c0 :: u1 :: u2 :: u3 :: u4 :: u5 :: u6 :: .slice (some ⟨bw, 0, none⟩) m cw :: u8 :: u9 :: u10 :: u11 :: u12 :: u13 :: u14 :: u15 :: u16 :: u17 :: u18 :: u19 :: u20 :: u21 :: u22 :: u23 :: u24 :: u25 :: u26 :: u27 :: u28 :: u29 :: u30 :: u31 :: u32 :: u33 :: u34 :: u35 :: u36 :: u37 :: u38 :: u39 :: u40 :: u41 :: u42 :: u43 :: u44 :: u45 :: u46 :: u47 :: u48 :: u49 :: u50 :: u51 :: u52 :: u53 :: u54 :: u55 :: u56 :: u57 :: u58 :: u59 :: u60 :: u61 :: u62 :: u63 :: u64 :: u65 :: u66 :: u67 :: u68 :: u69 :: u70 :: u71 :: u72 :: u73 :: u74 :: u75 :: u76 :: u77 :: u78 :: u79 :: u80 :: u81 :: u82 :: u83 :: u84 :: u85 :: u86 :: u87 :: u88 :: u89 :: u90 :: u91 :: u92 :: u93 :: u94 :: u95 :: u96 :: u97 :: u98 :: u99 :: u100 :: u101 :: u102 :: u103 :: u104 :: u105 :: u106 :: u107 :: u108 :: []), defers := D0 } w := by
 have HR := Hd.mk hrec
 have HC := Hd.mk hcell
 have HW := Hd.mk hwid
 have HL := Hd.mk hle
 have HD := Hd.mk hwd
 have HQ := Hd.mk hQ
 have HT := Hd.mk (fun i => colT_len (n := m) hm hle hwd i)
 have HT2 := Hd.mk (fun i k => rowT_len (hle i) hwd k)
 clear hrec hcell hwid hle hwd hQ
 unfold part2 Tryz.f29
 dsimp only
 go_wp2
 go_loopw [80] (fun i wr => ∃ k : Nat, k ≤ N ∧ i = .int .i64 k ∧ Hd (Lib.IsBuilderF 71 5 w.heap.size w.heap.size (Lib.byteCells (colT wd recs m k)) wr) ∧ Hd (Below w.heap.size w wr)) (fun i _ => N - (intOf i).toNat)
 case atStart =>
  refine ⟨0, Nat.zero_le _, rfl, ⟨.inl ⟨Nat.le_refl _, .slice none 0 0, heap_alloc_new w _, ⟨rfl, .inl ⟨rfl, rfl⟩⟩, by simp [Value.ownBlock]⟩⟩, ⟨(Below.refl _ _).alloc (Nat.le_refl _) _⟩⟩
 case round =>
  obtain ⟨k, hk, rfl, HB, HW2⟩ := hrel
  by_cases hkn : k < N
  ·have c1 : wr.cell? (ad.add k) = some (.slice (some (A k)) m (C k)) := by
    rw [HW2.out.cell (World.block_lt_of_cell? w _ (HR.out k hkn))]; exact HR.out k hkn
   have hbs := HW2.out.size
   go_wp2
   go_hide hQ2
   go_loopw [86] (fun i w2 => ∃ j : Nat, j ≤ m ∧ i = .int .i64 j ∧ Hd (Lib.IsBuilderF 71 5 w.heap.size w.heap.size (Lib.byteCells (colT wd recs m k ++ rowT wd (recs.getD k []) j)) w2) ∧ Hd (Below w.heap.size w w2)) (fun i _ => m - (intOf i).toNat)
   case atStart => exact ⟨0, Nat.zero_le _, rfl, ⟨by rw [rowT_zero, List.append_nil]; exact HB.out⟩, HW2⟩
   case round =>
    obtain ⟨j, hj, rfl, HB2, HW3⟩ := hrel
    by_cases hjm : j < m
    ·have c2 : wr.cell? ((A k).add j) = some (.string ⟨((recs.getD k []).getD j []).toArray⟩) := by
      rw [HW3.out.cell (World.block_lt_of_cell? w _ (HC.out k hkn j hjm))]; exact HC.out k hkn j hjm
     have c3 : wr.cell? ⟨bw, j, none⟩ = some (.int .i64 (wd j : Nat)) := by
      rw [HW3.out.cell (World.block_lt_of_cell? w _ (HW.out j hjm))]; exact HW.out j hjm
     have l1 := HL.out k j
     have l2 := HD.out j
     have l3 := HT.out k
     have l4 := HT2.out k j
     have hstep := rowT_succ wd (recs.getD k []) j
     generalize (recs.getD k []).getD j [] = S at *
     have hss : (⟨S.toArray⟩ : ByteArray).size = S.length := rfl
     have hw : ((wd j : Int) - (S.length : Int)) = ((wd j - S.length : Nat) : Int) := by omega
     have hbz := HW3.out.size
     have hl0 : (Lib.byteCells (colT wd recs m k ++ rowT wd (recs.getD k []) j)).length = (colT wd recs m k).length + (rowT wd (recs.getD k []) j).length := by
      rw [Lib.byteCells_length, List.length_append]
     have hlB : (Lib.byteCells (colT wd recs m k ++ rowT wd (recs.getD k []) j)).length ≤ 1089 * 1024 + 34 * 32 := by
      rw [Lib.byteCells_length, List.length_append]; omega
     have hbw : bw < w.heap.size := World.block_lt_of_cell? w _ (HW.out j hjm)
     have hA : (A k).block < w.heap.size := by have := World.block_lt_of_cell? w _ (HC.out k hkn j hjm); rwa [add_blk] at this
     have h1z : (⟨#[32]⟩ : ByteArray).size = 1 := rfl
     have h2z : (⟨#[32, 32]⟩ : ByteArray).size = 2 := rfl
     have hrp : (⟨(Lib.repeatL [32] (wd j - S.length)).toArray⟩ : ByteArray).size ≤ 32 := by
      show (Lib.repeatL [32] (wd j - S.length)).length ≤ 32
      rw [rep_len]; omega
     by_cases hj0 : j = 0
     ·subst hj0
      rw [add0] at c2
      have hl3 := hl0
      have z3 := hbz
      have H3 := HB2.out
      have B3 := HW3
      have hnext : Lib.byteCells (colT wd recs m k ++ rowT wd (recs.getD k []) 0) ++ Lib.strCells ⟨(Lib.repeatL [32] (wd 0 - S.length)).toArray⟩ ++ Lib.strCells ⟨S.toArray⟩ = Lib.byteCells (colT wd recs m k ++ rowT wd (recs.getD k []) (0 + 1)) := by
       rw [hstep, Lib.strCells_eq, Lib.strCells_eq, ← Lib.byteCells_append, ← Lib.byteCells_append]
       unfold cellT
       rw [if_neg (by omega), List.nil_append, rep_list]
       simp only [List.append_assoc]
      go_wp2_with fail
      refine (Tryz.strings_Repeat ⟨#[32]⟩ (wd 0 - S.length) wr (by omega) (by rw [h1z]; omega)).mono ?_
      rintro e w4 ⟨rfl, b4⟩
      have H4 := IsB_below H3 b4
      have z4 : w.heap.size ≤ w4.heap.size := Nat.le_trans z3 b4.size
      have B4 := Hd.mk (B3.out.trans (below_le b4 z3))
      clear b4 H3
      go_wp2_with fail
      refine (bWriteString w.heap.size w.heap.size _ _ w4 H4 (by rw [hl3]; omega) z4).mono ?_
      rintro e w5 ⟨rfl, h5, b5⟩
      have z5 : w.heap.size ≤ w5.heap.size := Nat.le_trans z4 b5.size
      have B5 := Hd.mk (B4.out.trans b5)
      clear b5 H4
      go_wp2_with fail
      refine (bWriteString w.heap.size w.heap.size _ _ w5 (Or.inr h5) (by rw [List.length_append, hl3, Lib.strCells_length]; omega) z5).mono ?_
      rintro e w6 ⟨rfl, h6, b6⟩
      have B6 := Hd.mk (B5.out.trans b6)
      clear b6 h5
      rw [hnext] at h6
      have H6 := Hd.mk (Or.inr h6 : Lib.IsBuilderF 71 5 w.heap.size w.heap.size _ w6)
      clear h6
      go_wp2
      exact ⟨⟨0 + 1, by omega, by go_num, H6, B6⟩, by simp [intOf]; omega⟩
     ·have d0 : decide ((0 : Int) < (j : Int)) = true := decide_eq_true (by omega)
      have hnext : Lib.byteCells (colT wd recs m k ++ rowT wd (recs.getD k []) j) ++ Lib.strCells ⟨#[32, 32]⟩ ++ Lib.strCells ⟨(Lib.repeatL [32] (wd j - S.length)).toArray⟩ ++ Lib.strCells ⟨S.toArray⟩ = Lib.byteCells (colT wd recs m k ++ rowT wd (recs.getD k []) (j + 1)) := by
       rw [hstep, Lib.strCells_eq, Lib.strCells_eq, Lib.strCells_eq, ← Lib.byteCells_append, ← Lib.byteCells_append, ← Lib.byteCells_append]
       unfold cellT
       rw [if_pos (by omega), rep_list]
       simp only [List.append_assoc]
      go_wp2_with fail
      refine (bWriteString w.heap.size w.heap.size _ _ wr HB2.out (by rw [h2z, hl0]; omega) hbz).mono ?_
      rintro e w3 ⟨rfl, h3, b3⟩
      have c3b : w3.cell? ⟨bw, j, none⟩ = some (.int .i64 (wd j : Nat)) := (b3.cell (p := ⟨bw, j, none⟩) hbw).trans c3
      have z3 : w.heap.size ≤ w3.heap.size := Nat.le_trans hbz b3.size
      have H3 : Lib.IsBuilderF 71 5 w.heap.size w.heap.size _ w3 := Or.inr h3
      have B3 := Hd.mk (HW3.out.trans b3)
      have hl3 : (Lib.byteCells (colT wd recs m k ++ rowT wd (recs.getD k []) j) ++ Lib.strCells ⟨#[32, 32]⟩).length = (colT wd recs m k).length + (rowT wd (recs.getD k []) j).length + 2 := by
       rw [List.length_append, hl0, Lib.strCells_length, h2z]
      clear b3 h3
      go_wp2_with fail
      refine (Tryz.strings_Repeat ⟨#[32]⟩ (wd j - S.length) w3 (by omega) (by rw [h1z]; omega)).mono ?_
      rintro e w4 ⟨rfl, b4⟩
      have H4 := IsB_below H3 b4
      have z4 : w.heap.size ≤ w4.heap.size := Nat.le_trans z3 b4.size
      have B4 := Hd.mk (B3.out.trans (below_le b4 z3))
      clear b4 H3
      go_wp2_with fail
      refine (bWriteString w.heap.size w.heap.size _ _ w4 H4 (by rw [hl3]; omega) z4).mono ?_
      rintro e w5 ⟨rfl, h5, b5⟩
      have z5 : w.heap.size ≤ w5.heap.size := Nat.le_trans z4 b5.size
      have B5 := Hd.mk (B4.out.trans b5)
      clear b5 H4
      go_wp2_with fail
      refine (bWriteString w.heap.size w.heap.size _ _ w5 (Or.inr h5) (by rw [List.length_append, hl3, Lib.strCells_length]; omega) z5).mono ?_
      rintro e w6 ⟨rfl, h6, b6⟩
      have B6 := Hd.mk (B5.out.trans b6)
      clear b6 h5
      rw [hnext] at h6
      have H6 := Hd.mk (Or.inr h6 : Lib.IsBuilderF 71 5 w.heap.size w.heap.size _ w6)
      clear h6
      go_wp2
      exact ⟨⟨j + 1, by omega, by go_num, H6, B6⟩, by simp [intOf]; omega⟩
    ·have hje : j = m := by omega
     have hbz := HW3.out.size
     have l3 := HT.out k
     have l4 := HT2.out k j
     have hl0 : (Lib.byteCells (colT wd recs m k ++ rowT wd (recs.getD k []) j)).length = (colT wd recs m k).length + (rowT wd (recs.getD k []) j).length := by
      rw [Lib.byteCells_length, List.length_append]
     have hnext : Lib.byteCells (colT wd recs m k ++ rowT wd (recs.getD k []) j) ++ [.int .u8 10] = Lib.byteCells (colT wd recs m (k + 1)) := by
      rw [colT_succ, hje, ← List.append_assoc, Lib.byteCells_append _ [10]]
      rfl
     have dj : decide ((j : Int) < (m : Int)) = false := decide_eq_false (by omega)
     go_wp2
     subst hQ2
     go_wp2_with fail
     refine (bWriteByte w.heap.size w.heap.size _ 10 wr HB2.out (by rw [hl0]; omega) hbz).mono ?_
     rintro e w3 ⟨rfl, h3, b3⟩
     rw [hnext] at h3
     have H3 := Hd.mk (Or.inr h3 : Lib.IsBuilderF 71 5 w.heap.size w.heap.size _ w3)
     have B3 := Hd.mk (HW3.out.trans b3)
     clear h3 b3
     go_wp2
     exact ⟨⟨k + 1, by omega, by go_num, H3, B3⟩, by simp [intOf]; omega⟩
  ·have hke : k = N := by omega
   subst hke
   have hbs := HW2.out.size
   go_wp2_with (go_at_call 40; refine (Tryz.Builder_String_any_f w.heap.size w.heap.size _ _ HB.out hbs).mono ?_; rintro e w5 ⟨rfl, hb5, hw5⟩)
   exact HQ.out _ _ rfl rfl rfl (HW2.out.trans hw5)
end Go.Proofs.YtjfedgpbedppeaaGreatDoor
namespace Go.Proofs.YtjfedgpbedppeaaGreatDoor
open Go Go.Dat Go.Proofs Nat32 Go.RowKit
theorem take_all1 {p : UInt8 → Bool} {l : List UInt8} {i : Nat} (hi : i < l.length) (h : (l.take i).all p = true) (hp : p (l.getD i 0) = true) : (l.take (i + 1)).all p = true := by
 rw [List.take_add_one, List.all_append, h, Bool.true_and, List.getElem?_eq_getElem hi]
 rw [List.getD_eq_getElem?_getD, List.getElem?_eq_getElem hi] at hp
 simpa using hp
theorem all_bad1 {p : UInt8 → Bool} {l : List UInt8} {i : Nat} (hi : i < l.length) (hp : p (l.getD i 0) = false) : l.all p = false := by
 rw [← Bool.not_eq_true]
 intro h
 rw [List.getD_eq_getElem?_getD, List.getElem?_eq_getElem hi] at hp
 have := List.all_eq_true.1 h l[i] (List.getElem_mem hi)
 simp only [Option.getD_some] at hp
 rw [hp] at this; cases this
theorem rpCell_calls (l : List UInt8) (hl : l.length ≤ 9223372036854775807) : PCalls Tryz.prog 54 [.str l] (.bool (cellB l)) := by
 refine PCalls_of isrpCell (by simp [fnrpCell]) ?_
 unfold coderpCell
 refine zS cI ?_
 refine W_loop (σ := Nat) (fun i => [(0, .str l), (2, .bool false), (3, .int .i64 i)]) (fun _ => []) (fun i => i ≤ l.length ∧ (l.take i).all cellC = true) (fun i => l.length - i) 0 (And.intro (Nat.zero_le _) rfl) ?_ rfl ?_
 ·simp [subF, lk]
 ·rintro i ⟨hi, hall⟩
  try simp only at hi hall ⊢
  by_cases hlt : i < l.length
  ·have dl : decide ((i : Int) < l.length) = true := decide_eq_true (by omega)
   have ei : (i : Int).toNat = i := Int.toNat_natCast i
   have hta := @take_all1 cellC l i hlt hall
   have hbad := @all_bad1 cellC l i hlt
   obtain ⟨c, hc⟩ : ∃ c, l.getD i 0 = c := ⟨_, rfl⟩
   rw [hc] at hta hbad
   have hk : c.toNat < 256 := UInt8.toNat_lt c
   have eb : byteD c = .int .u8 (c.toNat : Nat) := rfl
   have e1 : ((i : Int) + 1) = ((i + 1 : Nat) : Int) := by omega
   refine zS (zA dl cI) ?_
   refine wTs ?_
   by_cases h33 : c.toNat < 33
   ·have d5 : decide (((c.toNat : Nat) : Int) < 33) = true := decide_eq_true (by omega)
    have hcb : cellB l = false := by unfold cellB; rw [hbad (by unfold cellC; rw [decide_eq_false (by omega)]; rfl)]; rfl
    rw [hcb]
    clear hta hbad hall
    refine zS (zA ei (zA hc (zA eb (zA d5 cI)))) ?_
    refine wT ?_
    refine zS cI ?_
    exact W_ret (RetP_1 (.imm rfl))
   ·have d5 : decide (((c.toNat : Nat) : Int) < 33) = false := decide_eq_false (by omega)
    by_cases h126 : 126 < c.toNat
    ·have d6 : decide ((126 : Int) < ((c.toNat : Nat) : Int)) = true := decide_eq_true (by omega)
     have hcb : cellB l = false := by unfold cellB; rw [hbad (by unfold cellC; rw [decide_eq_false (show ¬ c.toNat ≤ 126 by omega), Bool.and_false])]; rfl
     rw [hcb]
     clear hta hbad hall
     refine zS (zA ei (zA hc (zA eb (zA d5 (zA d6 cI))))) ?_
     refine wT ?_
     refine zS cI ?_
     exact W_ret (RetP_1 (.imm rfl))
    ·have d6 : decide ((126 : Int) < ((c.toNat : Nat) : Int)) = false := decide_eq_false (by omega)
     have hta' := hta (by unfold cellC; rw [decide_eq_true (by omega), decide_eq_true (by omega)]; rfl)
     clear hta hbad hall
     (replace hta' := Hid.mk hta')
     refine zS (zA ei (zA hc (zA eb (zA d5 (zA d6 cI))))) ?_
     refine wFs ?_
     refine zS (zA e1 cI) ?_
     exact ⟨i + 1, And.intro hlt hta'.out, by omega, by simp [subF, lk]⟩
  ·have dl : decide ((i : Int) < l.length) = false := decide_eq_false (by omega)
   have hil : i = l.length := by omega
   rw [hil, List.take_length] at hall
   have hcb : cellB l = (decide (1 ≤ l.length) && decide (l.length ≤ 32)) := by unfold cellB; rw [hall]; rfl
   rw [hcb]
   by_cases h1 : 1 ≤ l.length
   ·have d1 : decide ((1 : Int) ≤ (l.length : Int)) = true := decide_eq_true (by omega)
    have d2 : decide ((l.length : Int) ≤ 32) = decide (l.length ≤ 32) := by rw [decide_eq_decide]; omega
    rw [decide_eq_true h1, Bool.true_and, ← d2]
    refine zS (zA dl cI) ?_
    refine W_cond rfl (fun h => by cases h) (fun _ => W_exit ?_)
    refine zS (zA d1 cI) ?_
    exact W_ret (RetP_1 (.imm rfl))
   ·have d1 : decide ((1 : Int) ≤ (l.length : Int)) = false := decide_eq_false (by omega)
    rw [decide_eq_false h1, Bool.false_and]
    refine zS (zA dl cI) ?_
    refine W_cond rfl (fun h => by cases h) (fun _ => W_exit ?_)
    refine zS (zA d1 cI) ?_
    exact W_ret (RetP_1 (.imm rfl))
end Go.Proofs.YtjfedgpbedppeaaGreatDoor
namespace Go.Proofs.YtjfedgpbedppeaaGreatDoor
open Go Go.Dat Go.Proofs Nat32 Go.RowKit
theorem split_cons {α : Type} {l : List α} {n : Nat} (h : l.length = n + 1) : ∃ u r, l = u :: r ∧ r.length = n := by
 cases l with
 | nil => simp at h
 | cons u r => exact ⟨u, r, rfl, by simpa using h⟩
def slAd : Value → Addr
 | .slice (some a) _ _ => a
 | _ => ⟨0, 0, none⟩
def slCap : Value → Nat
 | .slice _ _ c => c
 | _ => 0
theorem recD_get {recs : List (List (List UInt8))} {i : Nat} (h : i < recs.length) : (recD recs)[i]? = some (.sl 1 (strL (recs.getD i []))) := by
 unfold recD
 rw [List.getElem?_map, List.getD_eq_getElem?_getD, List.getElem?_eq_getElem h]; rfl
theorem strL_get {r : List (List UInt8)} {j : Nat} (h : j < r.length) : (strL r)[j]? = some (.str (r.getD j [])) := by
 unfold strL
 rw [List.getElem?_map, List.getD_eq_getElem?_getD, List.getElem?_eq_getElem h]; rfl
theorem shape_len {recs : List (List (List UInt8))} {m : Nat} (h : ∀ r ∈ recs, r.length = m) {i : Nat} (hi : i < recs.length) : (recs.getD i []).length = m := by
 rw [List.getD_eq_getElem?_getD, List.getElem?_eq_getElem hi]
 exact h _ (List.getElem_mem hi)
theorem rec_facts {w : World} {Lm : Nat → Option Nat} {S : Nat → Prop} {recs : List (List (List UInt8))} {m : Nat} {v : Value} (hv : V w Lm S (.sl 1 (recD recs)) v) (h0 : 0 < recs.length) (hm : 0 < m) (hsh : ∀ r ∈ recs, r.length = m) :
  ∃ (ad : Addr) (c : Nat) (A : Nat → Addr) (C : Nat → Nat), v = .slice (some ad) recs.length c ∧ (∀ i, i < recs.length → w.cell? (ad.add i) = some (.slice (some (A i)) m (C i))) ∧
   (∀ i, i < recs.length → ∀ j, j < m → w.cell? ((A i).add j) = some (.string ⟨((recs.getD i []).getD j []).toArray⟩)) := by
 have hl : (recD recs).length = recs.length := by unfold recD; simp
 rcases hv.inv_sl with ⟨he, _⟩ | ⟨_, ad, n, c, vs, e1, hlen, _, _, hcell, hvi⟩
 ·rw [he] at hl; simp at hl; omega
 have hn : n = recs.length := by rw [hl] at hlen; omega
 subst hn
 have key : ∀ i, i < recs.length → vs i = .slice (some (slAd (vs i))) m (slCap (vs i)) ∧ ∀ j, j < m → w.cell? ((slAd (vs i)).add j) = some (.string ⟨((recs.getD i []).getD j []).toArray⟩) := by
  intro i hi
  have hg := recD_get hi
  have hlm := shape_len hsh hi
  have hv1 := hvi i _ hg
  have hv2 : V w Lm S (.sl 1 (strL (recs.getD i []))) (vs i) := .imm hv1
  have hl2 : (strL (recs.getD i [])).length = m := by unfold strL; rw [List.length_map]; exact hlm
  rcases hv2.inv_sl with ⟨he, _⟩ | ⟨_, ad2, n2, c2, vs2, e2, hlen2, _, _, hcell2, hvi2⟩
  ·rw [he] at hl2; simp at hl2; omega
  have hn2 : n2 = m := by rw [hl2] at hlen2; omega
  subst hn2
  rw [e2]
  refine ⟨rfl, fun j hj => ?_⟩
  have hg2 := strL_get (r := recs.getD i []) (j := j) (by omega)
  show w.cell? (ad2.add j) = _
  rw [hcell2 j _ hg2]
  have := (V.imm (L := Lm) (hvi2 j _ hg2)).inv_str
  rw [this]
 exact ⟨ad, c, fun i => slAd (vs i), fun i => slCap (vs i), e1, fun i hi => (hcell i _ (recD_get hi)).trans (congrArg some (key i hi).1), fun i hi j hj => (key i hi).2 j hj⟩
set_option maxHeartbeats 4000000 in
set_option maxRecDepth 100000 in
theorem part2_WC (o : Nat) (recs : List (List (List UInt8))) (m : Nat) (wd : Nat → Nat) (cells : List DV) (h0 : 0 < recs.length) (hN : recs.length ≤ 1024) (hm0 : 0 < m) (hm : m ≤ 32) (hsh : ∀ r ∈ recs, r.length = m)
  (hc : ∀ j, j < m → cells[j]? = some (.int .i64 (wd j : Nat))) (hle : ∀ i j, ((recs.getD i []).getD j []).length ≤ wd j) (hwd : ∀ j, wd j ≤ 32) (fr : Fr) (H : Hp)
  (f0 : lk fr 0 = .sl 1 (recD recs)) (f7 : lk fr 7 = .osl 1 o 0 m) (fH : lkH H o = some cells) :
  WC fnrpColumns part2 (RetP resrpColumns (.tup [.str (colT wd recs m recs.length), .int .i64 0])) fr H := by
 intro G L a w hK hn hR
 have hn1 : G.n = 109 := hn.1
 have s0 := hR.slots 0
 have s7 := hR.slots 7
 rw [show den fnrpColumns.vs [] fr 0 = lk fr 0 from rfl, f0] at s0
 rw [show den fnrpColumns.vs [] fr 7 = lk fr 7 from rfl, f7] at s7
 obtain ⟨ad, c0, A, C, e0, hrec, hcell⟩ := rec_facts s0 h0 hm0 hsh
 rcases s7.inv_osl with ⟨b, cw, T, sz, hL, e7, _, _, _⟩ | ⟨hz, _⟩
 case inr => omega
 obtain ⟨cells', cur, T', hho, hb, hlc, hp⟩ := hR.heap.at_ hL
 rw [fH] at hho
 cases hho
 have hwid : ∀ j, j < m → w.cell? ⟨b, j, none⟩ = some (.int .i64 (wd j : Nat)) := fun j hj => by
  have h1 := hc j hj
  obtain ⟨u, hu⟩ := exists_aget (l := cur) (k := j) (by have := (List.getElem?_eq_some_iff.1 h1).1; omega)
  rw [cell_of_row w b _ cur T' (0, 0) hb, hu]
  rw [(hp j _ u h1 hu).inv_int]
 obtain ⟨tmps, defers⟩ := a
 have hd : defers = G.D := hR.defers
 subst hd
 obtain ⟨lx⟩ := tmps
 have hlx : lx.length = 109 := by have := hR.size; simp only [List.size_toArray] at this; omega
 have hfin : ∀ (tmps' : Array Value) (w' : World), tmps'.size = 109 → tmps'.getD 2 undef = .string ⟨(colT wd recs m recs.length).toArray⟩ → tmps'.getD 3 undef = .int .i64 0 → Below w.heap.size w w' →
   Post fnrpColumns G (RetP resrpColumns (.tup [.str (colT wd recs m recs.length), .int .i64 0])) .ret { tmps := tmps', defers := G.D } w' := fun tmps' w' h1 h2 h3 h4 => by
  refine ⟨fun _ => none, [(2, .str (colT wd recs m recs.length)), (3, .int .i64 0)], [], .ret, hR.over (a' := { tmps := tmps', defers := G.D }) hK (Ext_of_below h4) (by rw [hn1]; exact h1) rfl (fun s => ?_), rfl, RetP_2 (.imm rfl) (.imm rfl)⟩
  simp only [den]
  split
  ·simp only [lk]
   split
   ·rename_i e; subst e; rw [h2]; exact .str _
   ·split
    ·rename_i e; subst e; rw [h3]; exact .int _ _
    ·exact .undef _
  ·exact .undef _
 clear hR s0 s7 hp
 obtain ⟨u0, l0, rfl, hl0⟩ := split_cons hlx
 obtain ⟨u1, l1, rfl, hl1⟩ := split_cons hl0
 obtain ⟨u2, l2, rfl, hl2⟩ := split_cons hl1
 obtain ⟨u3, l3, rfl, hl3⟩ := split_cons hl2
 obtain ⟨u4, l4, rfl, hl4⟩ := split_cons hl3
 obtain ⟨u5, l5, rfl, hl5⟩ := split_cons hl4
 obtain ⟨u6, l6, rfl, hl6⟩ := split_cons hl5
 obtain ⟨u7, l7, rfl, hl7⟩ := split_cons hl6
 obtain ⟨u8, l8, rfl, hl8⟩ := split_cons hl7
 obtain ⟨u9, l9, rfl, hl9⟩ := split_cons hl8
 obtain ⟨u10, l10, rfl, hl10⟩ := split_cons hl9
 obtain ⟨u11, l11, rfl, hl11⟩ := split_cons hl10
 obtain ⟨u12, l12, rfl, hl12⟩ := split_cons hl11
 obtain ⟨u13, l13, rfl, hl13⟩ := split_cons hl12
 obtain ⟨u14, l14, rfl, hl14⟩ := split_cons hl13
 obtain ⟨u15, l15, rfl, hl15⟩ := split_cons hl14
 obtain ⟨u16, l16, rfl, hl16⟩ := split_cons hl15
 obtain ⟨u17, l17, rfl, hl17⟩ := split_cons hl16
 obtain ⟨u18, l18, rfl, hl18⟩ := split_cons hl17
 obtain ⟨u19, l19, rfl, hl19⟩ := split_cons hl18
 obtain ⟨u20, l20, rfl, hl20⟩ := split_cons hl19
 obtain ⟨u21, l21, rfl, hl21⟩ := split_cons hl20
 obtain ⟨u22, l22, rfl, hl22⟩ := split_cons hl21
 obtain ⟨u23, l23, rfl, hl23⟩ := split_cons hl22
 obtain ⟨u24, l24, rfl, hl24⟩ := split_cons hl23
 obtain ⟨u25, l25, rfl, hl25⟩ := split_cons hl24
 obtain ⟨u26, l26, rfl, hl26⟩ := split_cons hl25
 obtain ⟨u27, l27, rfl, hl27⟩ := split_cons hl26
 obtain ⟨u28, l28, rfl, hl28⟩ := split_cons hl27
 obtain ⟨u29, l29, rfl, hl29⟩ := split_cons hl28
 obtain ⟨u30, l30, rfl, hl30⟩ := split_cons hl29
 obtain ⟨u31, l31, rfl, hl31⟩ := split_cons hl30
 obtain ⟨u32, l32, rfl, hl32⟩ := split_cons hl31
 obtain ⟨u33, l33, rfl, hl33⟩ := split_cons hl32
 obtain ⟨u34, l34, rfl, hl34⟩ := split_cons hl33
 obtain ⟨u35, l35, rfl, hl35⟩ := split_cons hl34
 obtain ⟨u36, l36, rfl, hl36⟩ := split_cons hl35
 obtain ⟨u37, l37, rfl, hl37⟩ := split_cons hl36
 obtain ⟨u38, l38, rfl, hl38⟩ := split_cons hl37
 obtain ⟨u39, l39, rfl, hl39⟩ := split_cons hl38
 obtain ⟨u40, l40, rfl, hl40⟩ := split_cons hl39
 obtain ⟨u41, l41, rfl, hl41⟩ := split_cons hl40
 obtain ⟨u42, l42, rfl, hl42⟩ := split_cons hl41
 obtain ⟨u43, l43, rfl, hl43⟩ := split_cons hl42
 obtain ⟨u44, l44, rfl, hl44⟩ := split_cons hl43
 obtain ⟨u45, l45, rfl, hl45⟩ := split_cons hl44
 obtain ⟨u46, l46, rfl, hl46⟩ := split_cons hl45
 obtain ⟨u47, l47, rfl, hl47⟩ := split_cons hl46
 obtain ⟨u48, l48, rfl, hl48⟩ := split_cons hl47
 obtain ⟨u49, l49, rfl, hl49⟩ := split_cons hl48
 obtain ⟨u50, l50, rfl, hl50⟩ := split_cons hl49
 obtain ⟨u51, l51, rfl, hl51⟩ := split_cons hl50
 obtain ⟨u52, l52, rfl, hl52⟩ := split_cons hl51
 obtain ⟨u53, l53, rfl, hl53⟩ := split_cons hl52
 obtain ⟨u54, l54, rfl, hl54⟩ := split_cons hl53
 obtain ⟨u55, l55, rfl, hl55⟩ := split_cons hl54
 obtain ⟨u56, l56, rfl, hl56⟩ := split_cons hl55
 obtain ⟨u57, l57, rfl, hl57⟩ := split_cons hl56
 obtain ⟨u58, l58, rfl, hl58⟩ := split_cons hl57
 obtain ⟨u59, l59, rfl, hl59⟩ := split_cons hl58
 obtain ⟨u60, l60, rfl, hl60⟩ := split_cons hl59
 obtain ⟨u61, l61, rfl, hl61⟩ := split_cons hl60
 obtain ⟨u62, l62, rfl, hl62⟩ := split_cons hl61
 obtain ⟨u63, l63, rfl, hl63⟩ := split_cons hl62
 obtain ⟨u64, l64, rfl, hl64⟩ := split_cons hl63
 obtain ⟨u65, l65, rfl, hl65⟩ := split_cons hl64
 obtain ⟨u66, l66, rfl, hl66⟩ := split_cons hl65
 obtain ⟨u67, l67, rfl, hl67⟩ := split_cons hl66
 obtain ⟨u68, l68, rfl, hl68⟩ := split_cons hl67
 obtain ⟨u69, l69, rfl, hl69⟩ := split_cons hl68
 obtain ⟨u70, l70, rfl, hl70⟩ := split_cons hl69
 obtain ⟨u71, l71, rfl, hl71⟩ := split_cons hl70
 obtain ⟨u72, l72, rfl, hl72⟩ := split_cons hl71
 obtain ⟨u73, l73, rfl, hl73⟩ := split_cons hl72
 obtain ⟨u74, l74, rfl, hl74⟩ := split_cons hl73
 obtain ⟨u75, l75, rfl, hl75⟩ := split_cons hl74
 obtain ⟨u76, l76, rfl, hl76⟩ := split_cons hl75
 obtain ⟨u77, l77, rfl, hl77⟩ := split_cons hl76
 obtain ⟨u78, l78, rfl, hl78⟩ := split_cons hl77
 obtain ⟨u79, l79, rfl, hl79⟩ := split_cons hl78
 obtain ⟨u80, l80, rfl, hl80⟩ := split_cons hl79
 obtain ⟨u81, l81, rfl, hl81⟩ := split_cons hl80
 obtain ⟨u82, l82, rfl, hl82⟩ := split_cons hl81
 obtain ⟨u83, l83, rfl, hl83⟩ := split_cons hl82
 obtain ⟨u84, l84, rfl, hl84⟩ := split_cons hl83
 obtain ⟨u85, l85, rfl, hl85⟩ := split_cons hl84
 obtain ⟨u86, l86, rfl, hl86⟩ := split_cons hl85
 obtain ⟨u87, l87, rfl, hl87⟩ := split_cons hl86
 obtain ⟨u88, l88, rfl, hl88⟩ := split_cons hl87
 obtain ⟨u89, l89, rfl, hl89⟩ := split_cons hl88
 obtain ⟨u90, l90, rfl, hl90⟩ := split_cons hl89
 obtain ⟨u91, l91, rfl, hl91⟩ := split_cons hl90
 obtain ⟨u92, l92, rfl, hl92⟩ := split_cons hl91
 obtain ⟨u93, l93, rfl, hl93⟩ := split_cons hl92
 obtain ⟨u94, l94, rfl, hl94⟩ := split_cons hl93
 obtain ⟨u95, l95, rfl, hl95⟩ := split_cons hl94
 obtain ⟨u96, l96, rfl, hl96⟩ := split_cons hl95
 obtain ⟨u97, l97, rfl, hl97⟩ := split_cons hl96
 obtain ⟨u98, l98, rfl, hl98⟩ := split_cons hl97
 obtain ⟨u99, l99, rfl, hl99⟩ := split_cons hl98
 obtain ⟨u100, l100, rfl, hl100⟩ := split_cons hl99
 obtain ⟨u101, l101, rfl, hl101⟩ := split_cons hl100
 obtain ⟨u102, l102, rfl, hl102⟩ := split_cons hl101
 obtain ⟨u103, l103, rfl, hl103⟩ := split_cons hl102
 obtain ⟨u104, l104, rfl, hl104⟩ := split_cons hl103
 obtain ⟨u105, l105, rfl, hl105⟩ := split_cons hl104
 obtain ⟨u106, l106, rfl, hl106⟩ := split_cons hl105
 obtain ⟨u107, l107, rfl, hl107⟩ := split_cons hl106
 obtain ⟨u108, l108, rfl, hl108⟩ := split_cons hl107
 have hnil : l108 = [] := List.eq_nil_of_length_eq_zero hl108
 subst hnil
 have e0' : u0 = .slice (some ad) recs.length c0 := e0
 have e7' : u7 = .slice (some ⟨b, 0, none⟩) m cw := e7
 subst e0'
 subst e7'
 exact part2_walk w ad recs.length m c0 b cw A C recs wd hN hm hrec hcell hwid hle hwd u1 u2 u3 u4 u5 u6 u8 u9 u10 u11 u12 u13 u14 u15 u16 u17 u18 u19 u20 u21 u22 u23 u24 u25 u26 u27 u28 u29 u30 u31 u32 u33 u34 u35 u36 u37 u38 u39 u40 u41 u42 u43 u44 u45 u46 u47 u48 u49 u50 u51 u52 u53 u54 u55 u56 u57 u58 u59 u60 u61 u62 u63 u64 u65 u66 u67 u68 u69 u70 u71 u72 u73 u74 u75 u76 u77 u78 u79 u80 u81 u82 u83 u84 u85 u86 u87 u88 u89 u90 u91 u92 u93 u94 u95 u96 u97 u98 u99 u100 u101 u102 u103 u104 u105 u106 u107 u108 _ _ hfin
end Go.Proofs.YtjfedgpbedppeaaGreatDoor
namespace Go.Proofs.YtjfedgpbedppeaaGreatDoor
open Go Go.Dat Go.Proofs Nat32 Go.RowKit
theorem seqC_norm (F : FnD) (b : Code) (Q : Ex → Fr → Hp → Prop) (fr : Fr) (H : Hp) : seqC F b Q .norm fr H = WC F b Q fr H := rfl
theorem seqC_ret (F : FnD) (b : Code) (Q : Ex → Fr → Hp → Prop) (fr : Fr) (H : Hp) : seqC F b Q .ret fr H = Q .ret fr H := rfl
noncomputable def cSeq1 : Code → Code
 | .seq a _ => a
 | _ => .skip
noncomputable def cSeq2 : Code → Code
 | .seq _ b => b
 | _ => .skip
noncomputable def colB : Code := match Tryz.f29.body with | some c => c | none => .skip
def dSeq1 : DC → DC
 | .seq a _ => a
 | _ => .skip
def dSeq2 : DC → DC
 | .seq _ b => b
 | _ => .skip
theorem colB_eq : Tryz.f29.body = some (.seq (cSeq1 colB) (.seq (cSeq1 (cSeq2 colB)) (.seq (cSeq1 (cSeq2 (cSeq2 colB))) (.seq (cSeq1 (cSeq2 (cSeq2 (cSeq2 colB)))) (.seq (cSeq1 (cSeq2 (cSeq2 (cSeq2 (cSeq2 colB))))) (.seq (cSeq1 (cSeq2 (cSeq2 (cSeq2 (cSeq2 (cSeq2 colB)))))) part2)))))) := by kernel_rfl
theorem cs0 : strip fnrpColumns.P fnrpColumns.vs fnrpColumns.own fnrpColumns.n (cSeq1 colB) = dSeq1 coderpColumns := by kernel_rfl
theorem cs1 : strip fnrpColumns.P fnrpColumns.vs fnrpColumns.own fnrpColumns.n (cSeq1 (cSeq2 colB)) = dSeq1 (dSeq2 coderpColumns) := by kernel_rfl
theorem cs2 : strip fnrpColumns.P fnrpColumns.vs fnrpColumns.own fnrpColumns.n (cSeq1 (cSeq2 (cSeq2 colB))) = dSeq1 (dSeq2 (dSeq2 coderpColumns)) := by kernel_rfl
theorem cs3 : strip fnrpColumns.P fnrpColumns.vs fnrpColumns.own fnrpColumns.n (cSeq1 (cSeq2 (cSeq2 (cSeq2 colB)))) = dSeq1 (dSeq2 (dSeq2 (dSeq2 coderpColumns))) := by kernel_rfl
theorem cs4 : strip fnrpColumns.P fnrpColumns.vs fnrpColumns.own fnrpColumns.n (cSeq1 (cSeq2 (cSeq2 (cSeq2 (cSeq2 colB))))) = dSeq1 (dSeq2 (dSeq2 (dSeq2 (dSeq2 coderpColumns)))) := by kernel_rfl
theorem cs5 : strip fnrpColumns.P fnrpColumns.vs fnrpColumns.own fnrpColumns.n (cSeq1 (cSeq2 (cSeq2 (cSeq2 (cSeq2 (cSeq2 colB)))))) = dSeq1 (dSeq2 (dSeq2 (dSeq2 (dSeq2 (dSeq2 coderpColumns))))) := by kernel_rfl
theorem recD_getD {recs : List (List (List UInt8))} {i : Nat} (h : i < recs.length) : (recD recs).getD i .undef = .sl 1 (strL (recs.getD i [])) := by
 rw [List.getD_eq_getElem?_getD, recD_get h]; rfl
theorem recD_len (recs : List (List (List UInt8))) : (recD recs).length = recs.length := by unfold recD; simp
theorem strL_len (r : List (List UInt8)) : (strL r).length = r.length := by unfold strL; simp
theorem strL_getD {r : List (List UInt8)} {j : Nat} (h : j < r.length) : (strL r).getD j .undef = .str (r.getD j []) := by
 rw [List.getD_eq_getElem?_getD, strL_get h]; rfl
theorem shape_bad {recs : List (List (List UInt8))} {i : Nat} (h : i < recs.length) (hb : (decide ((recs.getD i []).length = (recs.headD []).length) && (decide (1 ≤ (recs.headD []).length) && decide ((recs.headD []).length ≤ 32))) = false) : shapeB recs = false := by
 rw [← Bool.not_eq_true]
 intro hs
 have := List.all_eq_true.1 hs _ (List.getElem_mem h)
 rw [List.getD_eq_getElem?_getD, List.getElem?_eq_getElem h] at hb
 simp only [Option.getD_some] at hb
 rw [hb] at this; cases this
theorem form_bad {recs : List (List (List UInt8))} {i j : Nat} (h : i < recs.length) (hj : j < (recs.getD i []).length) (hb : cellB ((recs.getD i []).getD j []) = false) : formB recs = false := by
 rw [← Bool.not_eq_true]
 intro hs
 have h1 := List.all_eq_true.1 hs _ (List.getElem_mem h)
 rw [List.getD_eq_getElem?_getD (l := recs), List.getElem?_eq_getElem h] at hb hj
 simp only [Option.getD_some] at hb hj
 have h2 := List.all_eq_true.1 h1 _ (List.getElem_mem hj)
 rw [List.getD_eq_getElem?_getD, List.getElem?_eq_getElem hj] at hb
 simp only [Option.getD_some] at hb
 rw [hb] at h2; cases h2
theorem form_ok {recs : List (List (List UInt8))} (h : ∀ i, i < recs.length → ∀ j, j < (recs.getD i []).length → cellB ((recs.getD i []).getD j []) = true) : formB recs = true := by
 refine List.all_eq_true.2 fun r hr => List.all_eq_true.2 fun s hs => ?_
 obtain ⟨i, hi, rfl⟩ := List.mem_iff_getElem.1 hr
 obtain ⟨j, hj, rfl⟩ := List.mem_iff_getElem.1 hs
 have := h i hi j (by rw [List.getD_eq_getElem?_getD (l := recs), List.getElem?_eq_getElem hi]; exact hj)
 rw [List.getD_eq_getElem?_getD (l := recs), List.getElem?_eq_getElem hi] at this
 simp only [Option.getD_some] at this
 rw [List.getD_eq_getElem?_getD, List.getElem?_eq_getElem hj] at this
 exact this
set_option maxHeartbeats 4000000 in
theorem rpColumns_calls (recs : List (List (List UInt8))) (hb1 : recs.length ≤ 9223372036854775807) (hb2 : ∀ i, (recs.getD i []).length ≤ 9223372036854775807) (hb3 : ∀ i j, ((recs.getD i []).getD j []).length ≤ 9223372036854775807) :
  PCalls Tryz.prog 29 [.sl 1 (recD recs)] (colR recs) := by
 refine PCalls_ofC (F := fnrpColumns) Tryz.func29 colB_eq rfl rfl (by kernel_rfl) (by simp [fnrpColumns]) ?_
 have hln := recD_len recs
 refine WC_seq (WC_of cs0 ?_)
 unfold coderpColumns
 dsimp only [dSeq1, dSeq2]
 refine zS (zA @seqC_norm cI) ?_
 refine WC_seq (WC_of cs1 ?_)
 unfold coderpColumns
 dsimp only [dSeq1, dSeq2]
 by_cases h1 : recs.length < 1
 ·have d1 : decide ((recs.length : Int) < 1) = true := decide_eq_true (by omega)
  have hR : colR recs = .tup [.str [], .int .i64 6] := by
   unfold colR shapeOk
   rw [decide_eq_false (show ¬ 1 ≤ recs.length by omega)]; rfl
  rw [hR]
  refine zS (zA hln (zA d1 cI)) ?_
  refine wT ?_
  refine zS (zA @seqC_ret cI) ?_
  refine W_ret ?_
  exact RetP_2 (.imm rfl) (.imm rfl)
 ·have d1 : decide ((recs.length : Int) < 1) = false := decide_eq_false (by omega)
  by_cases h2 : 1024 < recs.length
  ·have d2 : decide ((1024 : Int) < (recs.length : Int)) = true := decide_eq_true (by omega)
   have hR : colR recs = .tup [.str [], .int .i64 6] := by
    unfold colR shapeOk
    rw [decide_eq_false (show ¬ recs.length ≤ 1024 by omega), Bool.and_false]; rfl
   rw [hR]
   refine zS (zA hln (zA d1 (zA d2 cI))) ?_
   refine wT ?_
   refine zS (zA @seqC_ret cI) ?_
   refine W_ret ?_
   exact RetP_2 (.imm rfl) (.imm rfl)
  ·have d2 : decide ((1024 : Int) < (recs.length : Int)) = false := decide_eq_false (by omega)
   refine zS (zA hln (zA d1 (zA d2 cI))) ?_
   refine wFs ?_
   refine zS (zA @seqC_norm cI) ?_
   have hpos : 0 < recs.length := by omega
   have hg0 := recD_getD hpos
   have hh : recs.getD 0 [] = recs.headD [] := by cases recs <;> rfl
   rw [hh] at hg0
   have hm := hb2 0
   rw [hh] at hm
   obtain ⟨m, hmd⟩ : ∃ m, (recs.headD []).length = m := ⟨_, rfl⟩
   have hsl := strL_len (recs.headD [])
   rw [hmd] at hsl hm
   have e0 : (Int.toNat 0) = 0 := rfl
   refine WC_seq (WC_of cs2 ?_)
   unfold coderpColumns
   dsimp only [dSeq1, dSeq2]
   refine zS (zA hln (zA e0 (zA hg0 (zA hsl cI)))) ?_
   refine zS (zA @seqC_norm cI) ?_
   clear hg0 hsl
   refine WC_seq (WC_of cs3 ?_)
   unfold coderpColumns
   dsimp only [dSeq1, dSeq2]
   refine zS (zA hln cI) ?_
   refine W_loop (σ := Nat) (fun i => [(0, .sl 1 (recD recs)), (2, .str []), (3, .int .i64 0), (4, .int .i64 m), (29, .sl 1 (recD recs)), (30, .int .i64 recs.length), (31, .int .i64 i)]) (fun _ => []) (fun i => i ≤ recs.length ∧ ∀ c, c < i → (recs.getD c []).length = m ∧ 1 ≤ m ∧ m ≤ 32) (fun i => recs.length - i) 0 (And.intro (Nat.zero_le _) (fun c hc => absurd hc (by omega))) ?_ rfl ?_
   ·simp [subF, lk]
   ·rintro i ⟨hi, hall⟩
    try simp only at hi hall ⊢
    by_cases hlt : i < recs.length
    ·have dl : decide ((i : Int) < recs.length) = true := decide_eq_true (by omega)
     have ei : (i : Int).toNat = i := Int.toNat_natCast i
     have hgi := recD_getD hlt
     have hsi := strL_len (recs.getD i [])
     have hbd := hb2 i
     have e1 : ((i : Int) + 1) = ((i + 1 : Nat) : Int) := by omega
     obtain ⟨q, hq⟩ : ∃ q, (recs.getD i []).length = q := ⟨_, rfl⟩
     rw [hq] at hsi hbd
     have hbad : ¬ (q = m ∧ 1 ≤ m ∧ m ≤ 32) → colR recs = .tup [.str [], .int .i64 6] := fun hn => by
      have hs : shapeB recs = false := shape_bad hlt (by
       rw [hq, hmd]
       by_cases a1 : q = m
       ·by_cases a2 : 1 ≤ m
        ·rw [decide_eq_false (show ¬ m ≤ 32 from fun a3 => hn ⟨a1, a2, a3⟩)]; simp
        ·rw [decide_eq_false a2]; simp
       ·rw [decide_eq_false a1]; rfl)
      unfold colR shapeOk
      rw [hs, Bool.and_false]; rfl
     refine zS (zA dl cI) ?_
     refine wTs ?_
     by_cases a1 : q = m
     ·have g1 : decide (¬ (q : Int) = (m : Int)) = false := decide_eq_false (by omega)
      by_cases a2 : 1 ≤ m
      ·have g2 : decide ((m : Int) < 1) = false := decide_eq_false (by omega)
       by_cases a3 : m ≤ 32
       ·have g3 : decide ((32 : Int) < (m : Int)) = false := decide_eq_false (by omega)
        have hall' : Dat.Hid (∀ c, c < i + 1 → (recs.getD c []).length = m ∧ 1 ≤ m ∧ m ≤ 32) := ⟨fun c hc => by
         rcases Nat.lt_or_ge c i with hci | hci
         ·exact hall c hci
         ·rw [show c = i by omega, hq]; exact ⟨a1, a2, a3⟩⟩
        clear hall hbad
        refine zS (zA ei (zA hln (zA hgi (zA hsi (zA g1 (zA g2 (zA g3 cI))))))) ?_
        refine wFs ?_
        refine zS (zA e1 cI) ?_
        exact ⟨i + 1, And.intro hlt hall'.out, by omega, by simp [subF, lk]⟩
       ·have g3 : decide ((32 : Int) < (m : Int)) = true := decide_eq_true (by omega)
        rw [hbad (fun h => a3 h.2.2)]
        clear hall hbad
        refine zS (zA ei (zA hln (zA hgi (zA hsi (zA g1 (zA g2 (zA g3 cI))))))) ?_
        refine wT ?_
        refine zS (zA @seqC_ret cI) ?_
        refine W_ret ?_
        exact RetP_2 (.imm rfl) (.imm rfl)
      ·have g2 : decide ((m : Int) < 1) = true := decide_eq_true (by omega)
       rw [hbad (fun h => a2 h.2.1)]
       clear hall hbad
       refine zS (zA ei (zA hln (zA hgi (zA hsi (zA g1 (zA g2 cI)))))) ?_
       refine wT ?_
       refine zS (zA @seqC_ret cI) ?_
       refine W_ret ?_
       exact RetP_2 (.imm rfl) (.imm rfl)
     ·have g1 : decide (¬ (q : Int) = (m : Int)) = true := decide_eq_true (by omega)
      rw [hbad (fun h => a1 h.1)]
      clear hall hbad
      refine zS (zA ei (zA hln (zA hgi (zA hsi (zA g1 cI))))) ?_
      refine wT ?_
      refine zS (zA @seqC_ret cI) ?_
      refine W_ret ?_
      exact RetP_2 (.imm rfl) (.imm rfl)
    ·have dl : decide ((i : Int) < recs.length) = false := decide_eq_false (by omega)
     have hil : i = recs.length := by omega
     subst hil
     have hm1 := (hall 0 hpos).2.1
     have hm32 := (hall 0 hpos).2.2
     have hlen : ∀ c, c < recs.length → (recs.getD c []).length = m := fun c hc => (hall c hc).1
     have hsh : shapeOk recs = true := by
      unfold shapeOk shapeB
      rw [decide_eq_true (show 1 ≤ recs.length by omega), decide_eq_true (show recs.length ≤ 1024 by omega), Bool.true_and, Bool.true_and]
      refine List.all_eq_true.2 fun r hr => ?_
      obtain ⟨c, hc, rfl⟩ := List.mem_iff_getElem.1 hr
      have := hlen c hc
      rw [List.getD_eq_getElem?_getD, List.getElem?_eq_getElem hc] at this
      simp only [Option.getD_some] at this
      rw [this, hmd, decide_eq_true rfl, decide_eq_true hm1, decide_eq_true hm32]; rfl
     clear hall
     (replace hlen := Hid.mk hlen)
     refine zS (zA dl cI) ?_
     refine W_cond rfl (fun h => by cases h) (fun _ => W_exit ?_)
     refine zS (zA @seqC_norm cI) ?_
     refine WC_seq (WC_of cs4 ?_)
     unfold coderpColumns
     dsimp only [dSeq1, dSeq2]
     have hrp : rep m [DV.int .i64 0] = wcells (wdT recs 0) m := wcells_rep recs m
     have hcap : (m : Int) * 8 ≤ 281474976710656 := by omega
     refine zS (zA hrp (zA @nbrpColumns cI)) ?_
     refine zS (zA @seqC_norm cI) ?_
     refine WC_seq (WC_of cs5 ?_)
     unfold coderpColumns
     dsimp only [dSeq1, dSeq2]
     refine zS (zA hln cI) ?_
     refine W_loop (σ := Nat) (fun i => [(0, .sl 1 (recD recs)), (2, .str []), (3, .int .i64 0), (7, .osl 1 49 0 m), (50, .sl 1 (recD recs)), (51, .int .i64 recs.length), (52, .int .i64 i)]) (fun i => [(49, wcells (wdT recs i) m)]) (fun i => i ≤ recs.length ∧ ∀ c, c < i → ∀ j, j < m → cellB ((recs.getD c []).getD j []) = true) (fun i => recs.length - i) 0 (And.intro (Nat.zero_le _) (fun c hc => absurd hc (by omega))) ?_ rfl ?_
     ·simp [subF, lk]
     ·rintro i ⟨hi2, hok⟩
      try simp only at hi2 hok ⊢
      by_cases hlt2 : i < recs.length
      ·have dl2 : decide ((i : Int) < recs.length) = true := decide_eq_true (by omega)
       have ei : (i : Int).toNat = i := Int.toNat_natCast i
       have hgi := recD_getD hlt2
       have hsi := strL_len (recs.getD i [])
       have hri := hlen.out i hlt2
       rw [hri] at hsi
       have e1 : ((i : Int) + 1) = ((i + 1 : Nat) : Int) := by omega
       replace hok := Dat.Hid.mk hok
       refine zS (zA dl2 cI) ?_
       refine wTs ?_
       refine zS (zA ei (zA hln (zA hgi (zA hsi cI)))) ?_
       refine W_loop (σ := Nat) (fun j => [(0, .sl 1 (recD recs)), (2, .str []), (3, .int .i64 0), (7, .osl 1 49 0 m), (50, .sl 1 (recD recs)), (51, .int .i64 recs.length), (52, .int .i64 i), (56, .sl 1 (strL (recs.getD i []))), (57, .int .i64 m), (58, .int .i64 j)]) (fun j => [(49, wcells (wmix recs i j) m)]) (fun j => j ≤ m ∧ ∀ c, c < j → cellB ((recs.getD i []).getD c []) = true) (fun j => m - j) 0 (And.intro (Nat.zero_le _) (fun c hc => absurd hc (by omega))) ?_ (by rw [wmix_zero]) ?_
       ·simp [subF, lk]
       ·rintro j ⟨hj, hcj⟩
        try simp only at hj hcj ⊢
        by_cases hjm : j < m
        ·have dj : decide ((j : Int) < m) = true := decide_eq_true (by omega)
         have ej : (j : Int).toNat = j := Int.toNat_natCast j
         have hgj := strL_getD (r := recs.getD i []) (j := j) (by omega)
         have hbd := hb3 i j
         have cc := rpCell_calls ((recs.getD i []).getD j []) (by omega)
         have e1j : ((j : Int) + 1) = ((j + 1 : Nat) : Int) := by omega
         have hwl := wcells_len (wmix recs i j) m
         have hwg := wcells_getD (f := wmix recs i j) hjm
         have hws := wcells_set (recs := recs) hlt2 hjm
         have hmx : wmix recs i j j = wdT recs i j := by unfold wmix; rw [if_neg (Nat.lt_irrefl _)]
         rw [hmx] at hwg
         have hform := @form_bad recs i j hlt2 (by omega)
         have hnext : cellB ((recs.getD i []).getD j []) = true → ∀ c, c < j + 1 → cellB ((recs.getD i []).getD c []) = true := fun h c hc => by
          rcases Nat.lt_or_ge c j with hcj2 | hcj2
          ·exact hcj c hcj2
          ·rw [show c = j by omega]; exact h
         generalize (recs.getD i []).getD j [] = S at *
         refine zS (zA dj cI) ?_
         refine wTs ?_
         cases hcb : cellB S
         ·rw [hcb] at cc
          have hR : colR recs = .tup [.str [], .int .i64 4] := by
           unfold colR
           rw [hsh, hform hcb]; rfl
          rw [hR]
          clear hnext hform hcj
          repeat (first | refine zQ (zA ej (zA hsi (zA hgj cI))) ?_ | refine cP cc ?_ | exact zT)
          refine wT ?_
          refine zS (zA @seqC_ret cI) ?_
          refine W_ret ?_
          exact RetP_2 (.imm rfl) (.imm rfl)
         ·rw [hcb] at cc
          have hnx := Dat.Hid.mk (hnext hcb)
          have emax : (if ((wdT recs i j : Nat) : Int) < (S.length : Int) then (S.length : Int) else ((wdT recs i j : Nat) : Int)) = ((max (wdT recs i j) S.length : Nat) : Int) := by
           split <;> omega
          clear hnext hform hcj
          repeat (first | refine zQ (zA ej (zA hsi (zA hgj cI))) ?_ | refine cP cc ?_ | exact zT)
          refine wFs ?_
          refine zS (zA ej (zA hwl (zA hwg (zA emax (zA hws (zA e1j cI)))))) ?_
          exact ⟨j + 1, And.intro hjm hnx.out, by omega, by simp [subF, lk]⟩
        ·have dj : decide ((j : Int) < m) = false := decide_eq_false (by omega)
         have hjm2 : j = m := by omega
         subst hjm2
         have hnx : Dat.Hid (∀ c, c < i + 1 → ∀ q, q < j → cellB ((recs.getD c []).getD q []) = true) := ⟨fun c hc q hq => by
          rcases Nat.lt_or_ge c i with hci | hci
          ·exact hok.out c hci q hq
          ·rw [show c = i by omega]; exact hcj q hq⟩
         clear hcj hok
         rw [wmix_full]
         refine zS (zA dj cI) ?_
         refine W_cond rfl (fun h => by cases h) (fun _ => W_exit ?_)
         refine zS (zA e1 cI) ?_
         exact ⟨i + 1, And.intro hlt2 hnx.out, by omega, by simp [subF, lk]⟩
      ·have dl2 : decide ((i : Int) < recs.length) = false := decide_eq_false (by omega)
       have hil2 : i = recs.length := by omega
       subst hil2
       have hform : formB recs = true := form_ok fun c hc q hq => hok c hc q (by rw [hlen.out c hc] at hq; exact hq)
       have hR : colR recs = .tup [.str (colT (wdT recs recs.length) recs m recs.length), .int .i64 0] := by
        unfold colR
        rw [hsh, hform, hmd]; rfl
       rw [hR]
       clear hok
       refine zS (zA dl2 cI) ?_
       refine W_cond rfl (fun h => by cases h) (fun _ => W_exit ?_)
       refine zS (zA @seqC_norm cI) ?_
       exact part2_WC 49 recs m (wdT recs recs.length) (wcells (wdT recs recs.length) m) hpos (by omega) (by omega) hm32 (fun r hr => by
        obtain ⟨c, hc, rfl⟩ := List.mem_iff_getElem.1 hr
        have := hlen.out c hc
        rw [List.getD_eq_getElem?_getD, List.getElem?_eq_getElem hc] at this
        simpa using this) (fun j hj => wcells_get hj) (fun c j => wdT_ge c j) (fun j => wdT_le hform j) _ _ rfl rfl rfl
end Go.Proofs.YtjfedgpbedppeaaGreatDoor
namespace Go.Proofs.YtjfedgpbedppeaaGreatDoor
open Go Go.Dat Go.Proofs Nat32 Go.RowKit
theorem rfm_nil : (∀ d ∈ ([] : List DV), d.rf = true) ↔ True := by simp
theorem rfm_str (l : List UInt8) (xs : List DV) : (∀ d ∈ DV.str l :: xs, d.rf = true) ↔ ∀ d ∈ xs, d.rf = true := by simp [DV.rf]
theorem rfm_sl (s : Nat) (ys xs : List DV) : (∀ d ∈ DV.sl s ys :: xs, d.rf = true) ↔ ∀ d ∈ xs, d.rf = true := by simp [DV.rf]
def tpc (l : List Int) (at_ : Nat) : List DV := [.sl 1 (l.map (.int .i64)), .int .i64 at_]
def isTp (c : List DV) : Prop := ∃ (l : List Int) (k : Nat), l.length ≤ 400 ∧ k ≤ l.length ∧ c = tpc l k
theorem isTp.rf {c : List DV} (h : isTp c) : ∀ d ∈ c, d.rf = true := by
 obtain ⟨l, k, _, _, rfl⟩ := h
 intro d hd
 simp only [tpc, List.mem_cons, List.not_mem_nil, or_false] at hd
 rcases hd with rfl | rfl <;> rfl
theorem ints_len (l : List Int) : (l.map (DV.int .i64)).length = l.length := List.length_map ..
theorem ints_getD {l : List Int} {k : Nat} (h : k < l.length) : (l.map (DV.int .i64)).getD k .undef = .int .i64 (l.getD k 0) := by
 rw [List.getD_eq_getElem?_getD, List.getElem?_map, List.getElem?_eq_getElem h, List.getD_eq_getElem?_getD, List.getElem?_eq_getElem h]; rfl
theorem wMod_calls (v : Int) (n : Nat) (h1 : 1 ≤ n) (h2 : n ≤ 1000000) : ∃ k : Nat, k < n ∧ PCalls Tryz.prog 43 [.int .i64 v, .int .i64 n] (.int .i64 k) := by
 have hn0 : (n : Int) ≠ 0 := by omega
 have b1 : v.tmod n < n := Int.tmod_lt_of_pos v (by omega)
 have b2 : -(n : Int) < v.tmod n := by
  have := Int.lt_tmod_of_pos v (show (0 : Int) < n by omega)
  omega
 obtain ⟨m, hm⟩ : ∃ m, v.tmod n = m := ⟨_, rfl⟩
 rw [hm] at b1 b2
 by_cases hneg : m < 0
 ·have d1 : decide (m < 0) = true := decide_eq_true hneg
  refine ⟨(m + n).toNat, by omega, PCalls_of iswMod (by simp [fnwMod]) ?_⟩
  have e1 : (((m + n).toNat : Nat) : Int) = m + n := by omega
  rw [e1]
  unfold codewMod
  refine zS (zA hm (zA hn0 (zA d1 cI))) ?_
  refine wT ?_
  refine zS cI ?_
  exact W_ret (RetP_1 (.imm rfl))
 ·have d1 : decide (m < 0) = false := decide_eq_false hneg
  refine ⟨m.toNat, by omega, PCalls_of iswMod (by simp [fnwMod]) ?_⟩
  have e1 : ((m.toNat : Nat) : Int) = m := by omega
  rw [e1]
  unfold codewMod
  refine zS (zA hm (zA hn0 (zA d1 cI))) ?_
  refine wFs ?_
  refine zS cI ?_
  exact W_ret (RetP_1 (.imm rfl))
def drawQ (n : Nat) (r : DV) (c' : List DV) : Prop := isTp c' ∧ ∃ k : Nat, (k < n ∨ k = 0) ∧ r = .int .i64 k
set_option maxHeartbeats 1000000 in
theorem wNext_calls (c : List DV) (n : Nat) (hc : isTp c) (hn : n ≤ 1000000) : TCalls Tryz.prog 14 [.ptr 1048576 0, .int .i64 n] c (drawQ n) := by
 have hrf := hc.rf
 obtain ⟨l, k, hl, hk, rfl⟩ := hc
 refine MRel_of iswNext (by simp [fnwNext]) ?_
 unfold codewNext tpc
 have hil := ints_len l
 by_cases h1 : n < 1
 ·have d1 : decide ((n : Int) < 1) = true := decide_eq_true (by omega)
  refine zS (zA d1 cI) ?_
  refine wT ?_
  refine zS cI ?_
  exact W_ret (RetT (c' := tpc l k) rfl rfl hrf ⟨⟨l, k, hl, hk, rfl⟩, 0, .inr rfl, rfl⟩)
 ·have d1 : decide ((n : Int) < 1) = false := decide_eq_false (by omega)
  by_cases h2 : k < l.length
  ·have d2 : decide ((k : Int) ≥ (l.length : Int)) = false := decide_eq_false (by omega)
   obtain ⟨q, hq, cm⟩ := wMod_calls (l.getD k 0) n (by omega) hn
   have hg := ints_getD h2
   have e1 : ((k : Int) + 1) = ((k + 1 : Nat) : Int) := by omega
   have e2 : (((k + 1 : Nat) : Int) - 1) = (k : Int) := by omega
   have e3 : ((k : Int)).toNat = k := Int.toNat_natCast k
   refine zS (zA d1 (zA d2 (zA hil cI))) ?_
   refine wFs ?_
   have hidx : (0 : Int) ≤ (k : Int) ∧ (k : Int) < (l.length : Int) := by omega
   repeat (first | refine zQ (zA e1 (zA e2 (zA e3 (zA hil (zA hg cI))))) ?_ | refine cP cm ?_ | exact zT)
   have ht : isTp (tpc l (k + 1)) := ⟨l, k + 1, hl, h2, rfl⟩
   exact W_ret (RetT (c' := tpc l (k + 1)) rfl rfl ht.rf ⟨ht, q, .inl hq, rfl⟩)
  ·have d2 : decide ((k : Int) ≥ (l.length : Int)) = true := decide_eq_true (by omega)
   refine zS (zA d1 (zA d2 (zA hil cI))) ?_
   refine wT ?_
   refine zS cI ?_
   exact W_ret (RetT (c' := tpc l k) rfl rfl hrf ⟨⟨l, k, hl, hk, rfl⟩, 0, .inr rfl, rfl⟩)
theorem wNew_calls (l : List Int) (hl : l.length ≤ 9223372036854775807) : NCalls Tryz.prog 8 [.sl 1 (l.map (.int .i64))] 10 isTp := by
 have hil := ints_len l
 refine MRel_of iswNew (by simp [fnwNew]) ?_
 unfold codewNew
 by_cases h : 400 < l.length
 ·have d : decide ((400 : Int) < (l.length : Int)) = true := decide_eq_true (by omega)
  have hle : (400 : Int) ≤ l.length := by omega
  refine zS (zA hil (zA d cI)) ?_
  refine wT ?_
  have ht : (l.map (DV.int .i64)).take (Int.toNat 400) = (l.take 400).map (.int .i64) := (List.map_take ..).symm
  have ht2 : isTp (tpc (l.take 400) 0) := ⟨l.take 400, 0, by simp; omega, Nat.zero_le _, rfl⟩
  refine zS (zA hil (zA ht (zA @cS (zA @List.drop_zero.{0} cI)))) ?_
  exact W_ret (RetN (cs := tpc (l.take 400) 0) rfl rfl ht2.rf ht2)
 ·have d : decide ((400 : Int) < (l.length : Int)) = false := decide_eq_false (by omega)
  refine zS (zA hil (zA d cI)) ?_
  refine wFs ?_
  have ht2 : isTp (tpc l 0) := ⟨l, 0, by omega, Nat.zero_le _, rfl⟩
  refine zS (zA @cS cI) ?_
  exact W_ret (RetN (cs := tpc l 0) rfl rfl ht2.rf ht2)
def strOf (S : List (List UInt8)) (r : DV) (c' : List DV) : Prop := isTp c' ∧ ∃ s ∈ S, r = .str s
def plains : List (List UInt8) := [[97], [49, 48], [45, 51, 47, 52], [98, 99, 100], [126], [33], [120, 50], [97, 98, 99, 100, 101, 102, 103, 104, 105, 106, 107, 108, 109, 110, 111, 112, 113, 114, 115, 116, 117, 118, 119, 120, 121, 122, 48, 49, 50, 51, 52, 53]]
def words16 : List (List UInt8) := [[97], [49, 48], [45, 51, 47, 52], [98, 99, 100], [126], [33], [120, 50], [], [97, 32, 98], [10], [127], [97, 98, 99, 100, 101, 102, 103, 104, 105, 106, 107, 108, 109, 110, 111, 112, 113, 114, 115, 116, 117, 118, 119, 120, 121, 122, 48, 49, 50, 51, 52, 53], [97, 98, 99, 100, 101, 102, 103, 104, 105, 106, 107, 108, 109, 110, 111, 112, 113, 114, 115, 116, 117, 118, 119, 120, 121, 122, 48, 49, 50, 51, 52, 53, 54], [121], [122], [119]]
theorem strs_getD {S : List (List UInt8)} {k : Nat} (h : k < S.length) : S.getD k [] ∈ S ∧ (S.map DV.str).getD k .undef = .str (S.getD k []) := by
 rw [List.getD_eq_getElem?_getD, List.getD_eq_getElem?_getD, List.getElem?_map, List.getElem?_eq_getElem h]
 exact ⟨List.getElem_mem h, rfl⟩
theorem lrPlain_calls (c : List DV) (hc : isTp c) : TCalls Tryz.prog 20 [.ptr 1048576 0] c (strOf plains) := by
 have cn := wNext_calls c 8 hc (by decide)
 refine MRel_of islrPlain (by simp [fnlrPlain]) ?_
 unfold codelrPlain
 refine zS (zA @cS (zA @rfm_nil (zA @rfm_str cI))) ?_
 refine callC_lend1 1048576 cn rfl (by simp [lkH]) hc.rf (by simp [rn, fwd1]) fun r c' hr hc' hQ => ?_
 obtain ⟨ht, k, hk, rfl⟩ := hQ
 have e3 : ((k : Int)).toNat = k := Int.toNat_natCast k
 have hlt : (k : Int) < 8 := by omega
 have hkl : k < plains.length := by have : plains.length = 8 := rfl; omega
 obtain ⟨hm, hg⟩ := strs_getD hkl
 refine zS (zA e3 cI) ?_
 exact W_ret (RetT (c' := c') (Q := strOf plains) (by
  show ((plains.map DV.str).getD k .undef).rf = true
  rw [hg]; rfl) rfl hc' (by
  show strOf plains ((plains.map DV.str).getD k .undef) c'
  rw [hg]; exact ⟨ht, _, hm, rfl⟩))
theorem lrWord_calls (c : List DV) (hc : isTp c) : TCalls Tryz.prog 18 [.ptr 1048576 0] c (strOf words16) := by
 have cn := wNext_calls c 16 hc (by decide)
 refine MRel_of islrWord (by simp [fnlrWord]) ?_
 unfold codelrWord
 refine zS (zA @cS (zA @rfm_nil (zA @rfm_str cI))) ?_
 refine callC_lend1 1048576 cn rfl (by simp [lkH]) hc.rf (by simp [rn, fwd1]) fun r c' hr hc' hQ => ?_
 obtain ⟨ht, k, hk, rfl⟩ := hQ
 have e3 : ((k : Int)).toNat = k := Int.toNat_natCast k
 have hlt : (k : Int) < 16 := by omega
 have hkl : k < words16.length := by have : words16.length = 16 := rfl; omega
 obtain ⟨hm, hg⟩ := strs_getD hkl
 refine zS (zA e3 cI) ?_
 exact W_ret (RetT (c' := c') (Q := strOf words16) (by
  show ((words16.map DV.str).getD k .undef).rf = true
  rw [hg]; rfl) rfl hc' (by
  show strOf words16 ((words16.map DV.str).getD k .undef) c'
  rw [hg]; exact ⟨ht, _, hm, rfl⟩))
def recsQ (S : List (List UInt8)) (c' : List DV) (n : Nat) (cs : List DV) : Prop := isTp c' ∧ ∃ rs : List (List (List UInt8)), rs.length ≤ 4 ∧ n = rs.length ∧ 1 ≤ n ∧ cs = recD rs ∧ ∃ m, 1 ≤ m ∧ m ≤ 4 ∧ ∀ r ∈ rs, r.length = m ∧ ∀ s ∈ r, s ∈ S
theorem recD_rf (rs : List (List (List UInt8))) : ∀ d ∈ recD rs, d.rf = true := by
 intro d hd
 unfold recD at hd
 obtain ⟨r, _, rfl⟩ := List.mem_map.1 hd
 rfl
theorem strL_rf (rs : List (List UInt8)) : (strL rs).all DV.rf = true := by
 refine List.all_eq_true.2 fun d hd => ?_
 unfold strL at hd
 obtain ⟨r, _, rfl⟩ := List.mem_map.1 hd
 rfl
theorem strL_app (rs : List (List UInt8)) (s : List UInt8) : strL rs ++ [.str s] = strL (rs ++ [s]) := by unfold strL; simp
theorem recD_app (rs : List (List (List UInt8))) (r : List (List UInt8)) : recD rs ++ [.sl 1 (strL r)] = recD (rs ++ [r]) := by unfold recD; simp
theorem purge_recD (o : Nat) (rs : List (List (List UInt8))) : (recD rs).map (purge o) = recD rs := map_purge o (recD_rf rs)
theorem purge_strL (o : Nat) (rs : List (List UInt8)) : (strL rs).map (purge o) = strL rs := map_purge o (List.all_eq_true.1 (strL_rf rs))
theorem frz_recD (o : Nat) (xs : List DV) (rs : List (List (List UInt8))) : (recD rs).map (frz o xs) = recD rs := map_frz o xs (recD_rf rs)
theorem frz_strL (r : List (List UInt8)) (o : Nat) : frz o (strL r) (.osl 1 o 0 r.length) = .sl 1 (strL r) := by
 have := strL_len r
 simp [frz, this]
 rw [List.take_of_length_le (Nat.le_of_eq this)]
def drawn (odd : Bool) : List (List UInt8) := if odd then words16 else plains
set_option maxHeartbeats 2000000 in
theorem lrRecords_calls (c : List DV) (odd : Bool) (hc : isTp c) : TNCalls Tryz.prog 28 [.ptr 1048576 0, .bool odd] c 39 1 (recsQ (drawn odd)) := by
 have cn := wNext_calls c 4 hc (by decide)
 refine MRel_of islrRecords (by simp [fnlrRecords]) ?_
 unfold codelrRecords
 refine zS cI ?_
 refine callC_lend1 1048576 cn rfl (by simp [lkH]) hc.rf (by simp [rn, fwd1]) fun r c1 hr hc1 hQ => ?_
 obtain ⟨ht1, m, hm, rfl⟩ := hQ
 have cn1 := wNext_calls c1 4 ht1 (by decide)
 refine zS cI ?_
 refine callC_lend1 1048576 cn1 rfl (by simp [lkH]) ht1.rf (by simp [rn, fwd1]) fun r c2 hr hc2 hQ => ?_
 obtain ⟨ht2, n, hn, rfl⟩ := hQ
 refine zS cI ?_
 have eM : ((1 : Int) + (m : Int)) = ((m + 1 : Nat) : Int) := by omega
 have eN : ((1 : Int) + (n : Int)) = ((n + 1 : Nat) : Int) := by omega
 have hM : m + 1 ≤ 4 := by omega
 have hN : n + 1 ≤ 4 := by omega
 have hM1 : 1 ≤ m + 1 := by omega
 have hN1 : 1 ≤ n + 1 := by omega
 rw [eM, eN]
 generalize m + 1 = M at hM hM1 ⊢
 generalize n + 1 = N at hN hN1 ⊢
 clear eM eN cn cn1 hm hn
 refine W_own 6 1 39 rfl (by simp [lkH]) ?_
 refine zE cI ?_
 cases odd
 ·simp only [drawn]
  refine W_loop (σ := List (List (List UInt8)) × List DV) (fun s => [(0, .ptr 1048576 0), (1, .bool false), (5, .int .i64 M), (6, .osl 1 39 0 s.1.length), (7, .int .i64 ((N - s.1.length : Nat) : Int))]) (fun s => [(39, recD s.1), (1048576, s.2)]) (fun s => s.1.length ≤ N ∧ isTp s.2 ∧ ∀ r ∈ s.1, r.length = M ∧ ∀ x ∈ r, x ∈ plains) (fun s => N - s.1.length) ([], c2) (And.intro (Nat.zero_le _) (And.intro ht2 (fun r h => by cases h))) ?_ rfl ?_
  ·simp [subF, lk]
  ·rintro ⟨rs, c3⟩ ⟨hl, ht3, hrs⟩
   try simp only at hl ht3 hrs ⊢
   have hrl := recD_len rs
   by_cases hlt : rs.length < N
   ·have dl : decide ((0 : Int) < ((N - rs.length : Nat) : Int)) = true := decide_eq_true (by omega)
    (replace hrs := Hid.mk hrs)
    refine zS (zA dl cI) ?_
    refine wTs ?_
    refine zS cI ?_
    refine W_own 8 1 35 rfl (by simp [lkH]) ?_
    refine zS cI ?_
    refine W_loop (σ := List (List UInt8) × List DV) (fun s => [(0, .ptr 1048576 0), (1, .bool false), (5, .int .i64 M), (6, .osl 1 39 0 rs.length), (7, .int .i64 ((N - rs.length : Nat) : Int)), (8, .osl 1 35 0 s.1.length), (9, .int .i64 s.1.length)]) (fun s => [(35, strL s.1), (39, recD rs), (1048576, s.2)]) (fun s => s.1.length ≤ M ∧ isTp s.2 ∧ ∀ x ∈ s.1, x ∈ plains) (fun s => M - s.1.length) ([], c3) (And.intro (Nat.zero_le _) (And.intro ht3 (fun r h => by cases h))) ?_ rfl ?_
    ·simp [subF, lk]
    ·rintro ⟨r, c4⟩ ⟨hl4, ht4, hr4⟩
     try simp only at hl4 ht4 hr4 ⊢
     have hsl := strL_len r
     by_cases hlt4 : r.length < M
     ·have d4 : decide ((r.length : Int) < (M : Int)) = true := decide_eq_true (by omega)
      have e1 : ((r.length : Int) + 1) = ((r.length + 1 : Nat) : Int) := by omega
      have cw := lrPlain_calls c4 ht4
      (replace hr4 := Hid.mk hr4)
      refine zS (zA d4 cI) ?_
      refine wTs ?_
      refine zS cI ?_
      refine wF ?_
      refine zS cI ?_
      refine callC_lend1 1048576 cw rfl (by simp [lkH]) ht4.rf (by simp [rn, fwd1]) fun q c5 hq hc5 hQ => ?_
      obtain ⟨ht5, x, hx, rfl⟩ := hQ
      refine zS (zA @cS (zA @rfm_nil (zA @rfm_str (zA hsl (zA e1 cI))))) ?_
      refine And.intro (And.intro (by omega) (And.intro (by omega) (fun d hd => by rw [List.mem_singleton.1 hd]; rfl))) ?_
      have hp5 := fun o => map_purge o hc5
      refine zS (zA e1 (zA @strL_app (zA @purge_strL (zA @purge_recD (zA hp5 cI))))) ?_
      exact ⟨(r ++ [x], c5), And.intro (by simp; omega) (And.intro ht5 (fun y hy => by
       rcases List.mem_append.1 hy with h | h
       ·exact hr4.out y h
       ·rw [List.mem_singleton.1 h]; exact hx)), by simp; omega, by simp [subF, lk, purge, DV.has], rfl⟩
     ·have d4 : decide ((r.length : Int) < (M : Int)) = false := decide_eq_false (by omega)
      have hrm : r.length = M := by omega
      refine zS (zA d4 cI) ?_
      refine W_cond rfl (fun h => by cases h) (fun _ => W_exit ?_)
      refine zE cI ?_
      refine W_freeze 35 (cells := strL r) rfl (strL_rf r) ?_
      have hf0 : ∀ o xs, o ≠ 1048576 → frz o xs (.ptr 1048576 0) = .ptr 1048576 0 := fun o xs h => frz_ptr_ne _ _ 0 (Ne.symm h)
      have hfz := frz_strL r 35
      have e3 : ((N - rs.length : Nat) : Int) - 1 = ((N - (rs ++ [r]).length : Nat) : Int) := by simp; omega
      have e4 : rs.length + 1 = (rs ++ [r]).length := by simp
      have hf3 := fun o xs => map_frz o xs ht3.rf
      have hf4 := fun o xs => map_frz o xs ht4.rf
      have hp4 := fun o => map_purge o ht4.rf
      refine zS (zA hfz (zA @cS (zA @rfm_nil (zA @rfm_sl (zA hrl (zA @frz_recD (zA hf4 cI))))))) ?_
      refine And.intro (And.intro (by omega) (And.intro (by omega) (fun d hd => by rw [List.mem_singleton.1 hd]; rfl))) ?_
      refine zS (zA hp4 (zA @purge_recD (zA @recD_app (zA e3 (zA e4 cI))))) ?_
      exact ⟨(rs ++ [r], c4), And.intro (by simp; omega) (And.intro ht4 (fun y hy => by
       rcases List.mem_append.1 hy with h | h
       ·exact hrs.out y h
       ·rw [List.mem_singleton.1 h]; exact ⟨hrm, hr4⟩)), by simp; omega, by simp [subF, lk, purge, DV.has, hf0], rfl⟩
   ·have dl : decide ((0 : Int) < ((N - rs.length : Nat) : Int)) = false := decide_eq_false (by omega)
    have hln : rs.length = N := by omega
    refine zS (zA dl cI) ?_
    refine W_cond rfl (fun h => by cases h) (fun _ => W_exit ?_)
    refine zS cI ?_
    exact W_ret (RetTN (c' := c3) (cs := recD rs) (n := rs.length) (by decide) rfl rfl rfl ht3.rf (recD_rf rs) ⟨ht3, rs, by omega, rfl, by omega, rfl, M, by omega, by omega, hrs⟩)
 ·simp only [drawn]
  refine W_loop (σ := List (List (List UInt8)) × List DV) (fun s => [(0, .ptr 1048576 0), (1, .bool true), (5, .int .i64 M), (6, .osl 1 39 0 s.1.length), (7, .int .i64 ((N - s.1.length : Nat) : Int))]) (fun s => [(39, recD s.1), (1048576, s.2)]) (fun s => s.1.length ≤ N ∧ isTp s.2 ∧ ∀ r ∈ s.1, r.length = M ∧ ∀ x ∈ r, x ∈ words16) (fun s => N - s.1.length) ([], c2) (And.intro (Nat.zero_le _) (And.intro ht2 (fun r h => by cases h))) ?_ rfl ?_
  ·simp [subF, lk]
  ·rintro ⟨rs, c3⟩ ⟨hl, ht3, hrs⟩
   try simp only at hl ht3 hrs ⊢
   have hrl := recD_len rs
   by_cases hlt : rs.length < N
   ·have dl : decide ((0 : Int) < ((N - rs.length : Nat) : Int)) = true := decide_eq_true (by omega)
    (replace hrs := Hid.mk hrs)
    refine zS (zA dl cI) ?_
    refine wTs ?_
    refine zS cI ?_
    refine W_own 8 1 30 rfl (by simp [lkH]) ?_
    refine zS cI ?_
    refine W_loop (σ := List (List UInt8) × List DV) (fun s => [(0, .ptr 1048576 0), (1, .bool true), (5, .int .i64 M), (6, .osl 1 39 0 rs.length), (7, .int .i64 ((N - rs.length : Nat) : Int)), (8, .osl 1 30 0 s.1.length), (9, .int .i64 s.1.length)]) (fun s => [(30, strL s.1), (39, recD rs), (1048576, s.2)]) (fun s => s.1.length ≤ M ∧ isTp s.2 ∧ ∀ x ∈ s.1, x ∈ words16) (fun s => M - s.1.length) ([], c3) (And.intro (Nat.zero_le _) (And.intro ht3 (fun r h => by cases h))) ?_ rfl ?_
    ·simp [subF, lk]
    ·rintro ⟨r, c4⟩ ⟨hl4, ht4, hr4⟩
     try simp only at hl4 ht4 hr4 ⊢
     have hsl := strL_len r
     by_cases hlt4 : r.length < M
     ·have d4 : decide ((r.length : Int) < (M : Int)) = true := decide_eq_true (by omega)
      have e1 : ((r.length : Int) + 1) = ((r.length + 1 : Nat) : Int) := by omega
      have cw := lrWord_calls c4 ht4
      (replace hr4 := Hid.mk hr4)
      refine zS (zA d4 cI) ?_
      refine wTs ?_
      refine zS cI ?_
      refine wT ?_
      refine zS cI ?_
      refine callC_lend1 1048576 cw rfl (by simp [lkH]) ht4.rf (by simp [rn, fwd1]) fun q c5 hq hc5 hQ => ?_
      obtain ⟨ht5, x, hx, rfl⟩ := hQ
      refine zS (zA @cS (zA @rfm_nil (zA @rfm_str (zA hsl (zA e1 cI))))) ?_
      refine And.intro (And.intro (by omega) (And.intro (by omega) (fun d hd => by rw [List.mem_singleton.1 hd]; rfl))) ?_
      have hp5 := fun o => map_purge o hc5
      refine zS (zA e1 (zA @strL_app (zA @purge_strL (zA @purge_recD (zA hp5 cI))))) ?_
      exact ⟨(r ++ [x], c5), And.intro (by simp; omega) (And.intro ht5 (fun y hy => by
       rcases List.mem_append.1 hy with h | h
       ·exact hr4.out y h
       ·rw [List.mem_singleton.1 h]; exact hx)), by simp; omega, by simp [subF, lk, purge, DV.has], rfl⟩
     ·have d4 : decide ((r.length : Int) < (M : Int)) = false := decide_eq_false (by omega)
      have hrm : r.length = M := by omega
      refine zS (zA d4 cI) ?_
      refine W_cond rfl (fun h => by cases h) (fun _ => W_exit ?_)
      refine zE cI ?_
      refine W_freeze 30 (cells := strL r) rfl (strL_rf r) ?_
      have hf0 : ∀ o xs, o ≠ 1048576 → frz o xs (.ptr 1048576 0) = .ptr 1048576 0 := fun o xs h => frz_ptr_ne _ _ 0 (Ne.symm h)
      have hfz := frz_strL r 30
      have e3 : ((N - rs.length : Nat) : Int) - 1 = ((N - (rs ++ [r]).length : Nat) : Int) := by simp; omega
      have e4 : rs.length + 1 = (rs ++ [r]).length := by simp
      have hf3 := fun o xs => map_frz o xs ht3.rf
      have hf4 := fun o xs => map_frz o xs ht4.rf
      have hp4 := fun o => map_purge o ht4.rf
      refine zS (zA hfz (zA @cS (zA @rfm_nil (zA @rfm_sl (zA hrl (zA @frz_recD (zA hf4 cI))))))) ?_
      refine And.intro (And.intro (by omega) (And.intro (by omega) (fun d hd => by rw [List.mem_singleton.1 hd]; rfl))) ?_
      refine zS (zA hp4 (zA @purge_recD (zA @recD_app (zA e3 (zA e4 cI))))) ?_
      exact ⟨(rs ++ [r], c4), And.intro (by simp; omega) (And.intro ht4 (fun y hy => by
       rcases List.mem_append.1 hy with h | h
       ·exact hrs.out y h
       ·rw [List.mem_singleton.1 h]; exact ⟨hrm, hr4⟩)), by simp; omega, by simp [subF, lk, purge, DV.has, hf0], rfl⟩
   ·have dl : decide ((0 : Int) < ((N - rs.length : Nat) : Int)) = false := decide_eq_false (by omega)
    have hln : rs.length = N := by omega
    refine zS (zA dl cI) ?_
    refine W_cond rfl (fun h => by cases h) (fun _ => W_exit ?_)
    refine zS cI ?_
    exact W_ret (RetTN (c' := c3) (cs := recD rs) (n := rs.length) (by decide) rfl rfl rfl ht3.rf (recD_rf rs) ⟨ht3, rs, by omega, rfl, by omega, rfl, M, by omega, by omega, hrs⟩)
end Go.Proofs.YtjfedgpbedppeaaGreatDoor
namespace Go.Proofs.YtjfedgpbedppeaaGreatDoor
open Go Go.Dat Go.Proofs Nat32 Go.RowKit
theorem rfm_int (k : IntKind) (n : Int) (xs : List DV) : (∀ d ∈ DV.int k n :: xs, d.rf = true) ↔ ∀ d ∈ xs, d.rf = true := by simp [DV.rf]
theorem rfm_nil0 : (∀ d ∈ ([] : List DV), d.rf = true) ↔ True := by simp
end Go.Proofs.YtjfedgpbedppeaaGreatDoor
namespace Go.Proofs.YtjfedgpbedppeaaGreatDoor
open Go Go.Dat Go.Proofs Nat32 Go.RowKit
theorem split_calls (s : List UInt8) (c : UInt8) (h : s.length < 4294967281) : PCalls Tryz.prog 57 [.str s, .str [c]] (.sl 1 (strL (spl1 c s))) :=
 PCalls_split (g := 1) (by kernel_rfl) fun m w hm => Tryz.strings_Split ⟨s.toArray⟩ ⟨#[c]⟩ m w (by show s.toArray.size < _; simpa using h) hm (Nat.le_refl 1)
theorem suffix_calls (s p : List UInt8) (h : s.length ≤ 9223372036854775807) : PCalls Tryz.prog 67 [.str s, .str p] (.bool (Lib.hasSuffix s p)) :=
 PCalls_suffix fun w => Tryz.strings_HasSuffix ⟨s.toArray⟩ ⟨p.toArray⟩ w (by show s.toArray.size ≤ _; simpa using h)
def linesD (s : List UInt8) : DV := if Lib.hasSuffix s [10] = true then .tup [.sl 1 (strL (spl1 10 (s.take (s.length - 1)))), .bool true] else .tup [.nils, .bool false]
theorem rpLines_calls (s : List UInt8) (h : s.length < 4294967281) : PCalls Tryz.prog 44 [.str s] (linesD s) := by
 have c1 := suffix_calls s [10] (by omega)
 refine PCalls_of isrpLines (by simp [fnrpLines]) ?_
 unfold coderpLines
 unfold linesD
 cases hs : Lib.hasSuffix s [10]
 ·rw [hs] at c1
  rw [if_neg (by decide)]
  repeat (first | refine zQ cI ?_ | refine cP c1 ?_ | exact zT)
  refine wT ?_
  refine zS cI ?_
  exact W_ret (RetP_2 (.imm rfl) (.imm rfl))
 ·rw [hs] at c1
  rw [if_pos rfl]
  obtain ⟨t, rfl⟩ := (suffix_10 s).1 hs
  have hl : (t ++ [10]).length = t.length + 1 := by simp
  have ht : (t ++ [10]).take t.length = t := by simp
  have e1 : ((t.length + 1 : Nat) : Int) - 1 = (t.length : Int) := by omega
  have e2 : (t.length : Int).toNat = t.length := Int.toNat_natCast _
  rw [hl] at h ⊢
  rw [show t.length + 1 - 1 = t.length by omega, ht]
  have c2 := split_calls t 10 (by omega)
  have hle : (t.length : Int) ≤ ((t.length + 1 : Nat) : Int) := by omega
  repeat (first | refine zQ (zA hl cI) ?_ | refine cP c1 ?_ | exact zT)
  refine wFs ?_
  repeat (first | refine zQ (zA hl (zA e1 (zA e2 (zA ht (zA @List.drop_zero.{0} cI))))) ?_ | refine cP c2 ?_ | exact zT)
  exact W_ret (RetP_2 (.imm rfl) (.imm rfl))
end Go.Proofs.YtjfedgpbedppeaaGreatDoor
namespace Go.Proofs.YtjfedgpbedppeaaGreatDoor
open Go Go.Dat Go.Proofs Nat32 Go.RowKit
theorem frz_recD' (R : List (List Bs)) (o : Nat) : frz o (recD R) (.osl 1 o 0 R.length) = .sl 1 (recD R) := by
 have := recD_len R
 simp [frz, this]
 rw [List.take_of_length_le (Nat.le_of_eq this)]
set_option maxHeartbeats 2000000 in
theorem rpParse_calls (s : Bs) (hs : s.length ≤ 1000000) : PCalls Tryz.prog 30 [.str s] (parD s) := by
 have c0 := rpLines_calls s (by omega)
 refine PCalls_of isrpParse (by simp [fnrpParse]) ?_
 unfold coderpParse
 unfold linesD at c0
 cases hsf : Lib.hasSuffix s [10]
 ·rw [hsf, if_neg (by decide)] at c0
  have hp : parD s = .tup [.nils, .int .i64 3] := parD_bad fun h => by rw [(suffix_10 s).2 h] at hsf; cases hsf
  rw [hp]
  repeat (first | refine zQ cI ?_ | refine cP c0 ?_ | exact zT)
  refine wT ?_
  refine zS cI ?_
  exact W_ret (RetP_2 (.imm rfl) (.imm rfl))
 ·obtain ⟨t, rfl⟩ := (suffix_10 s).1 hsf
  have htk : (t ++ [10]).take ((t ++ [10]).length - 1) = t := by simp
  rw [hsf, if_pos rfl, htk] at c0
  clear htk
  have hwl := words_lines t
  have hsl := strL_len (spl1 10 t)
  have hll := spl1_len 10 t
  have htl : t.length + 1 ≤ 1000000 := by simpa using hs
  have hmem := spl1_mem 10 t
  have hrb := recB_words (t ++ [10])
  rw [hwl] at hrb
  have hpD : parD (t ++ [10]) = if colP ((spl1 10 t).map lineW) = some (t ++ [10]) then .tup [.sl 1 (recD ((spl1 10 t).map lineW)), .int .i64 0] else .tup [.nils, .int .i64 3] := by unfold parD; rw [hwl]
  generalize spl1 10 t = lns at *
  by_cases hm : 1024 < lns.length
  ·have d1 : decide ((1024 : Int) < (lns.length : Int)) = true := decide_eq_true (by omega)
   rw [colP_many (by simpa using hm), if_neg (by simp)] at hpD
   rw [hpD]
   repeat (first | refine zQ (zA hsl (zA d1 cI)) ?_ | refine cP c0 ?_ | exact zT)
   refine wT ?_
   refine zS cI ?_
   exact W_ret (RetP_2 (.imm rfl) (.imm rfl))
  ·have d1 : decide ((1024 : Int) < (lns.length : Int)) = false := decide_eq_false (by omega)
   rw [hpD]
   clear hpD hwl
   repeat (first | refine zQ (zA hsl (zA d1 cI)) ?_ | refine cP c0 ?_ | exact zT)
   refine wFs ?_
   refine zS (zA hsl cI) ?_
   refine W_own 6 1 49 rfl (by simp [lkH]) ?_
   refine zE cI ?_
   (replace hmem := Hid.mk hmem; replace hrb := Hid.mk hrb)
   refine W_loop (σ := Nat × List (List Bs)) (fun s => [(0, .str (t ++ [10])), (6, .osl 1 49 0 s.2.length), (26, .sl 1 (strL lns)), (27, .int .i64 lns.length), (28, .int .i64 s.1)]) (fun s => [(49, recD s.2)]) (fun s => s.1 ≤ lns.length ∧ s.2 = (lns.take s.1).map lineW) (fun s => lns.length - s.1) (0, []) (And.intro (Nat.zero_le _) rfl) ?_ rfl ?_
   ·simp [subF, lk]
   ·rintro ⟨i, R⟩ ⟨hi, hR⟩
    try simp only at hi hR ⊢
    have hRl : R.length = i := by rw [hR]; simp; omega
    have hrl := recD_len R
    by_cases hlt : i < lns.length
    ·have dl : decide ((i : Int) < lns.length) = true := decide_eq_true (by omega)
     have ei : (i : Int).toNat = i := Int.toNat_natCast i
     have hgi := strL_getD (r := lns) hlt
     have e1 : ((i : Int) + 1) = ((i + 1 : Nat) : Int) := by omega
     have hln : (lns.getD i []).length ≤ t.length := hmem.out _ (by rw [List.getD_eq_getElem?_getD, List.getElem?_eq_getElem hlt]; exact List.getElem_mem hlt)
     have hRn : (lns.take (i + 1)).map lineW = R ++ [lineW (lns.getD i [])] := by
      rw [hR, List.take_add_one, List.getElem?_eq_getElem hlt, List.map_append, List.getD_eq_getElem?_getD, List.getElem?_eq_getElem hlt]; rfl
     have hps := spl1_len 32 (lns.getD i [])
     have c1 := split_calls (lns.getD i []) 32 (by omega)
     have hpl := strL_len (spl1 32 (lns.getD i []))
     have hlw : lineW (lns.getD i []) = fl (spl1 32 (lns.getD i [])) := rfl
     rw [hlw] at hRn
     clear hlw
     generalize spl1 32 (lns.getD i []) = ps at *
     generalize lns.getD i [] = ln at *
     refine zS (zA dl cI) ?_
     refine wTs ?_
     repeat (first | refine zQ (zA ei (zA hsl (zA hgi (zA hpl cI)))) ?_ | refine cP c1 ?_ | exact zT)
     refine W_own 9 1 44 rfl (by simp [lkH]) ?_
     refine zE cI ?_
     refine W_loop (σ := Nat × List Bs) (fun s => [(0, .str (t ++ [10])), (6, .osl 1 49 0 R.length), (9, .osl 1 44 0 s.2.length), (26, .sl 1 (strL lns)), (27, .int .i64 lns.length), (28, .int .i64 i), (33, .sl 1 (strL ps)), (34, .int .i64 ps.length), (35, .int .i64 s.1)]) (fun s => [(44, strL s.2), (49, recD R)]) (fun s => s.1 ≤ ps.length ∧ s.2 = fl (ps.take s.1)) (fun s => ps.length - s.1) (0, []) (And.intro (Nat.zero_le _) rfl) ?_ rfl ?_
     ·simp [subF, lk]
     ·rintro ⟨j, r⟩ ⟨hj, hr⟩
      try simp only at hj hr ⊢
      have hfl := fl_len (ps.take j)
      rw [← hr, List.length_take] at hfl
      have hsr := strL_len r
      by_cases hjt : j < ps.length
      ·have dj : decide ((j : Int) < ps.length) = true := decide_eq_true (by omega)
       have ej : (j : Int).toNat = j := Int.toNat_natCast j
       have hgj := strL_getD (r := ps) hjt
       have e1j : ((j : Int) + 1) = ((j + 1 : Nat) : Int) := by omega
       have hrn : fl (ps.take (j + 1)) = if ps.getD j [] = [] then r else r ++ [ps.getD j []] := by
        rw [List.take_add_one, List.getElem?_eq_getElem hjt, Option.toList_some, fl_app, ← hr, List.getD_eq_getElem?_getD, List.getElem?_eq_getElem hjt]; rfl
       generalize ps.getD j [] = p at *
       refine zS (zA dj cI) ?_
       refine wTs ?_
       by_cases hp : p = []
       ·rw [if_pos hp] at hrn
        have dp : decide (¬ p = []) = false := decide_eq_false (fun h => h hp)
        refine zS (zA ej (zA hpl (zA hgj (zA dp cI)))) ?_
        refine wFs ?_
        refine zS (zA e1j cI) ?_
        exact ⟨(j + 1, r), And.intro hjt hrn.symm, by simp only; omega, by simp [subF, lk], rfl⟩
       ·rw [if_neg hp] at hrn
        have dp : decide (¬ p = []) = true := decide_eq_true hp
        have el : r.length + 1 = (r ++ [p]).length := by simp
        refine zS (zA ej (zA hpl (zA hgj (zA dp cI)))) ?_
        refine wT ?_
        refine zS (zA @cS (zA @rfm_nil (zA @rfm_str (zA hsr cI)))) ?_
        refine And.intro (And.intro (by omega) (And.intro (by omega) (fun d hd => by rw [List.mem_singleton.1 hd]; rfl))) ?_
        refine zS (zA e1j (zA @strL_app (zA @purge_strL (zA @purge_recD (zA el cI))))) ?_
        exact ⟨(j + 1, r ++ [p]), And.intro hjt hrn.symm, by simp only; omega, by simp [subF, lk, purge, DV.has], rfl⟩
      ·have dj : decide ((j : Int) < ps.length) = false := decide_eq_false (by omega)
       have hjl : j = ps.length := by omega
       rw [hjl, List.take_length] at hr
       refine zS (zA dj cI) ?_
       refine W_cond rfl (fun h => by cases h) (fun _ => W_exit ?_)
       refine zE cI ?_
       refine W_freeze 44 (cells := strL r) rfl (strL_rf r) ?_
       have hfz := frz_strL r 44
       have e4 : R.length + 1 = (R ++ [r]).length := by simp
       refine zS (zA hfz (zA @cS (zA @rfm_nil (zA @rfm_sl (zA hrl (zA @frz_recD cI)))))) ?_
       refine And.intro (And.intro (by omega) (And.intro (by omega) (fun d hd => by rw [List.mem_singleton.1 hd]; rfl))) ?_
       refine zS (zA @purge_recD (zA @recD_app (zA e1 (zA e4 cI)))) ?_
       exact ⟨(i + 1, R ++ [r]), And.intro hlt (by simp only; rw [hRn, hr]), by simp only; omega, by simp [subF, lk, purge, DV.has], rfl⟩
    ·have dl : decide ((i : Int) < lns.length) = false := decide_eq_false (by omega)
     have hil : i = lns.length := by omega
     rw [hil, List.take_length] at hR
     rw [← hR] at hrb ⊢
     obtain ⟨b1, b2, b3⟩ := hrb.out
     have hte : (t ++ [10]).length ≤ 9223372036854775807 := by simp; omega
     have cc := rpColumns_calls R (by omega) (fun i => by have := b2 i; omega) (fun i j => by have := b3 i j; omega)
     clear b1 b2 b3 hte
     refine zS (zA dl cI) ?_
     refine W_cond rfl (fun h => by cases h) (fun _ => W_exit ?_)
     refine zE cI ?_
     refine W_freeze 49 (cells := recD R) rfl (List.all_eq_true.2 (recD_rf R)) ?_
     have hfz := frz_recD' R 49
     refine zE (zA hfz cI) ?_
     cases hcp : colP R with
     | none =>
      obtain ⟨e, he, hce⟩ := colR_none hcp
      rw [hce] at cc
      have de : decide (¬ e = 0) = true := decide_eq_true he
      rw [if_neg (by simp)]
      repeat (first | refine zQ (zA de cI) ?_ | refine cP cc ?_ | exact zT)
      refine wT ?_
      refine zS cI ?_
      exact W_ret (RetP_2 (.imm rfl) (.imm rfl))
     | some u =>
      rw [colR_some hcp] at cc
      obtain ⟨e, he⟩ : ∃ e : Int, e = 0 := ⟨0, rfl⟩
      have de : decide (¬ e = 0) = false := decide_eq_false (fun h => h he)
      rw [← he] at cc
      by_cases hu : u = t ++ [10]
      ·have du : decide (¬ u = t ++ [10]) = false := decide_eq_false (fun h => h hu)
       rw [if_pos (by rw [hu])]
       repeat (first | refine zQ (zA de (zA du cI)) ?_ | refine cP cc ?_ | exact zT)
       refine wFs ?_
       refine zS cI ?_
       exact W_ret (RetP_2 (.imm rfl) (.imm rfl))
      ·have du : decide (¬ u = t ++ [10]) = true := decide_eq_true hu
       rw [if_neg (by simpa using hu)]
       repeat (first | refine zQ (zA de (zA du cI)) ?_ | refine cP cc ?_ | exact zT)
       refine wT ?_
       refine zS cI ?_
       exact W_ret (RetP_2 (.imm rfl) (.imm rfl))
end Go.Proofs.YtjfedgpbedppeaaGreatDoor
namespace Go.Proofs.YtjfedgpbedppeaaGreatDoor
open Go Go.Dat Go.Proofs Nat32 Go.RowKit
theorem reSameWords_calls (r : List Bs) (hr : r.length ≤ 9223372036854775807) : PCalls Tryz.prog 26 [.sl 1 (strL r), .sl 1 (strL r)] (.bool true) := by
 refine PCalls_of isreSameWords (by simp [fnreSameWords]) ?_
 unfold codereSameWords
 have hsl := strL_len r
 have d0 : decide (¬ (r.length : Int) = (r.length : Int)) = false := decide_eq_false (fun h => h rfl)
 refine zS (zA hsl (zA d0 cI)) ?_
 refine wFs ?_
 refine zS (zA hsl cI) ?_
 refine W_loop (σ := Nat) (fun i => [(0, .sl 1 (strL r)), (1, .sl 1 (strL r)), (12, .int .i64 r.length), (13, .int .i64 i)]) (fun _ => []) (fun i => i ≤ r.length) (fun i => r.length - i) 0 (Nat.zero_le _) ?_ rfl ?_
 ·simp [subF, lk]
 ·rintro i hi
  try simp only at hi ⊢
  by_cases hlt : i < r.length
  ·have dl : decide ((i : Int) < r.length) = true := decide_eq_true (by omega)
   have ei : (i : Int).toNat = i := Int.toNat_natCast i
   have e1 : ((i : Int) + 1) = ((i + 1 : Nat) : Int) := by omega
   have hg := strL_getD hlt
   generalize r.getD i [] = x at *
   have dx : decide (¬ x = x) = false := decide_eq_false (fun h => h rfl)
   refine zS (zA dl cI) ?_
   refine wTs ?_
   refine zS (zA ei (zA hsl (zA hg (zA dx cI)))) ?_
   refine wFs ?_
   refine zS (zA e1 cI) ?_
   exact ⟨i + 1, hlt, by omega, by simp [subF, lk]⟩
  ·have dl : decide ((i : Int) < r.length) = false := decide_eq_false (by omega)
   refine zS (zA dl cI) ?_
   refine W_cond rfl (fun h => by cases h) (fun _ => W_exit ?_)
   refine zS cI ?_
   exact W_ret (RetP_1 (.imm rfl))
theorem reSameRecs_calls (r : List (List Bs)) (hr : recB 9223372036854775807 r) : PCalls Tryz.prog 31 [.sl 1 (recD r), .sl 1 (recD r)] (.bool true) := by
 refine PCalls_of isreSameRecs (by simp [fnreSameRecs]) ?_
 unfold codereSameRecs
 have hsl := recD_len r
 have d0 : decide (¬ (r.length : Int) = (r.length : Int)) = false := decide_eq_false (fun h => h rfl)
 have hrl := hr.1
 refine zS (zA hsl (zA d0 cI)) ?_
 refine wFs ?_
 refine zS (zA hsl cI) ?_
 refine W_loop (σ := Nat) (fun i => [(0, .sl 1 (recD r)), (1, .sl 1 (recD r)), (12, .int .i64 r.length), (13, .int .i64 i)]) (fun _ => []) (fun i => i ≤ r.length) (fun i => r.length - i) 0 (Nat.zero_le _) ?_ rfl ?_
 ·simp [subF, lk]
 ·rintro i hi
  try simp only at hi ⊢
  by_cases hlt : i < r.length
  ·have dl : decide ((i : Int) < r.length) = true := decide_eq_true (by omega)
   have ei : (i : Int).toNat = i := Int.toNat_natCast i
   have e1 : ((i : Int) + 1) = ((i + 1 : Nat) : Int) := by omega
   have hg := recD_getD hlt
   have cw := reSameWords_calls (r.getD i []) (hr.2.1 i)
   generalize r.getD i [] = x at *
   refine zS (zA dl cI) ?_
   refine wTs ?_
   repeat (first | refine zQ (zA ei (zA hsl (zA hg cI))) ?_ | refine cP cw ?_ | exact zT)
   refine wFs ?_
   refine zS (zA e1 cI) ?_
   exact ⟨i + 1, hlt, by omega, by simp [subF, lk]⟩
  ·have dl : decide ((i : Int) < r.length) = false := decide_eq_false (by omega)
   refine zS (zA dl cI) ?_
   refine W_cond rfl (fun h => by cases h) (fun _ => W_exit ?_)
   refine zS cI ?_
   exact W_ret (RetP_1 (.imm rfl))
end Go.Proofs.YtjfedgpbedppeaaGreatDoor
namespace Go.Proofs.YtjfedgpbedppeaaGreatDoor
open Go Go.Dat Go.Proofs Go.RowKit Go.Shelf
def NB (k : Nat) : Nat := 2388480 + k % 256
def MB : Nat := 786512
theorem setCell_row {w : World} {b off : Nat} {cs : Array Value} {T : TypeId} {v : Value} (hb : w.heap[b]? = some (.cells cs T (0, 0))) :
  w.setCell ⟨b, off, none⟩ v = { w with heap := w.heap.setIfInBounds b (.cells (cs.setIfInBounds off v) T (0, 0)) } := by
 unfold World.setCell
 congr 1
 apply Array.ext_getElem?
 intro k
 rw [Array.getElem?_modify, Array.getElem?_setIfInBounds]
 by_cases e : b = k
 ·subst e
  have hlt := (Array.getElem?_eq_some_iff.1 hb).1
  rw [if_pos rfl, if_pos rfl, hb, if_pos hlt]
  rfl
 ·rw [if_neg e, if_neg e]
theorem bcp_calls (k : Nat) (l : List UInt8) : BCalls Tryz.prog (NB k) MB 60 [] l (.tup []) l := by
 intro c0 h2 S L w us hT hTb hH hS hs hv
 have hNM : NB k ≠ MB := by unfold NB MB; omega
 obtain ⟨v0, hv0⟩ := exists_aget (l := us) (k := 0) (by rw [hs]; exact Nat.zero_lt_succ 0)
 obtain ⟨b, hL, rfl⟩ := (hv 0 _ v0 rfl hv0).inv_ptr
 obtain rfl : us = #[.pointer (some ⟨b, 0, none⟩)] := by
  have h1 : us.size = 1 := by simpa using hs
  apply Array.ext_getElem?
  intro i
  match i with
  | 0 => rw [hv0]; rfl
  | i + 1 => rw [Array.getElem?_eq_none (by omega), Array.getElem?_eq_none (by simp)]
 obtain ⟨cells, cs, T, hc, hb, hl, hp⟩ := hH.at_ hL
 rw [lkH_BH hNM, if_pos rfl] at hc
 cases hc
 obtain ⟨T', m, hsh, hty⟩ := hH.ty _ b hL (.inl (by unfold NB; omega))
 have hs2 : w.shape? b = some (T, cs.size) := by simp [World.shape?, hb]
 rw [hs2] at hsh
 cases hsh
 obtain ⟨hT1, hsz⟩ := hty.1 (by unfold NB; omega)
 have hT2 : @Eq Nat T 71 := Eq.trans hT1 (by unfold NB; omega)
 have hsz2 : cs.size = 2 := by rw [hsz]; unfold NB; omega
 clear hT1 hsz hty
 subst hT2
 rw [hsz2] at hs2
 obtain ⟨u0, hu0⟩ := exists_aget (l := cs) (k := 0) (by rw [hsz2]; decide)
 have hV0 := hp 0 c0 u0 rfl hu0
 have hc0 : w.cell? ⟨b, 0, none⟩ = some u0 := by rw [cell_of_row w b 0 cs 71 (0, 0) hb]; exact hu0
 have hvt : ∀ w' : World, V w' L (Av S L) (.tup []) (.tuple #[]) := fun w' => .imm (.tup rfl fun k d v h => by simp at h)
 rcases h2 with rfl | rfl
 ·have e0 : u0 = .pointer none := by
   cases hV0 with
   | imm h => cases h; rfl
  subst e0
  refine (bCopy_fresh b w hc0 hs2 (by simp [World.frozen?, hb])).mono ?_
  rintro e w' ⟨rfl, rfl⟩
  have hR : R ⟨S, w, fun x => ∃ o, L o = some x, 0, fun _ => none, []⟩ L (fun _ => .undef) (lkH (BH (NB k) MB .nilp l)) { tmps := #[], defers := [] } w :=
   ⟨rfl, rfl, fun s => .imm (.undef _), hH, Ext.refl _ _, hS, fun o x ho => .inl ⟨o, ho⟩, (fun o x ho => by cases ho), fun _ _ => rfl⟩
  have hW := hR.write (cells := [.ptr (NB k) 0, .osl 1 MB 0 l.length]) hL hb (cs' := cs.setIfInBounds 0 (.pointer (some ⟨b, 0, none⟩))) (by simp) (by rw [Array.size_setIfInBounds, hsz2]; exact Nat.le_refl 2) (fun i d v h1 h3 => by
   match i with
   | 0 =>
    simp at h1
    rw [Array.getElem?_setIfInBounds, if_pos rfl, if_pos (by rw [hsz2]; decide)] at h3
    cases h3
    subst h1
    exact .ptr hL
   | i + 1 =>
    rw [Array.getElem?_setIfInBounds, if_neg (by omega)] at h3
    exact hp (i + 1) d v (by simpa using h1) h3) (setCell_row hb)
  refine ⟨_, L, .tup [], _, ⟨rfl, rfl⟩, rfl, ?_, hvt _, hW.ext, fun o b ho _ => ho, fun o b ho => .inl ⟨o, ho⟩, fun x hx => hW.shp x hx⟩
  have e1 : lkH (BH (NB k) MB (.ptr (NB k) 0) l) = Heap.upd (lkH (BH (NB k) MB .nilp l)) (NB k) (some [.ptr (NB k) 0, .osl 1 MB 0 l.length]) := by
   funext q
   unfold Heap.upd
   rw [lkH_BH hNM, lkH_BH hNM]
   by_cases e : q = NB k
   ·rw [if_pos e, if_pos e]
   ·rw [if_neg e, if_neg e, if_neg e]
  rw [e1]
  exact hW.heap
 ·obtain ⟨b', hL', e0⟩ := hV0.inv_ptr
  rw [hL] at hL'
  cases hL'
  subst e0
  refine (bCopy_used b w hc0).mono ?_
  rintro e w' ⟨rfl, rfl⟩
  exact ⟨_, L, .tup [], _, ⟨rfl, rfl⟩, rfl, hH, hvt _, Ext.refl _ _, fun o b ho _ => ho, fun o b ho => .inl ⟨o, ho⟩, fun _ _ => rfl⟩
theorem map_purge_bys (o : Nat) (l : List UInt8) : (bys l).map (purge o) = bys l := map_purge o (bys_rf l)
theorem bys_app (l m : List UInt8) : bys l ++ bys m = bys (l ++ m) := by simp [bys]
end Go.Proofs.YtjfedgpbedppeaaGreatDoor
namespace Go.Proofs.YtjfedgpbedppeaaGreatDoor
open Go Go.Dat Go.Proofs Go.RowKit Go.Shelf Nat32
theorem purge_ptrN {N : Nat} (h : 2097152 ≤ N) (off : Nat) : purge 786512 (.ptr N off) = .ptr N off := by
 have : ¬ N = 786512 := by omega
 simp [purge, DV.has, this]
theorem lenb (l : List UInt8) : (bys l).length = l.length := by simp [bys]
set_option maxHeartbeats 1000000 in
theorem bws_calls (k : Nat) (l s : List UInt8) (hl : l.length + s.length ≤ 140737488355328) : BCalls Tryz.prog (NB k) 786512 37 [.str s] l (.tup [.int .i64 s.length, .nili]) (l ++ s) := by
 intro c0 h2
 have hN : 2097152 ≤ NB k := by unfold NB; omega
 have bc : BCalls Tryz.prog (NB k) 786512 60 [] l (.tup []) l := bcp_calls k l
 generalize NB k = N at *
 have q1 : (786512 = N) = False := eq_false (by omega)
 have q2 : (N = 786512) = False := eq_false (by omega)
 have q3 : (N < 786512) = False := eq_false (by omega)
 have q4 : (786512 < N) = True := eq_true (by omega)
 have pp := fun off => purge_ptrN hN off
 refine MRel_of isbWS (by simp [fnbWS]) ?_
 unfold codebWS BH
 refine zS (zA q1 (zA q2 (zA q3 q4))) ?_
 refine callC_bld N 786512 (c0 := c0) bc rfl (by simp [lkH, q1]) (by simp [lkH]) h2 hN (by decide) (fun d h => by cases h) rfl (by simp [DV.has, q2]) (by simp [DV.has, q2]) (fun p c h1 h2 h => by simp [lkH, Ne.symm h1, Ne.symm h2] at h) ?_
 repeat (first | refine W_seq ?_ | refine W_reg ?_ | refine W_regd ?_ | refine W_regs ?_ | refine W_regp ?_ | refine W_block ?_ | refine And.intro (by omega) ?_ | simp (maxSteps := 1000000) (disch := omega) only [cA, cB, cN, FnD.nb, lk, lkH, Dst.onT, Dst.onX, Dst.slot, setF, setH, mapF, mapH, initF, binE, unE, cnt, boundE, newsE, freshE, freshT, opE, rmH, blkQ, frz_us, Nat.reduceEqDiff, Nat.reduceLT, Nat.reduceAdd, Nat.reduceMul, Nat.reduceMod, ↓reduceIte, reduceCtorEq, Nat.reduceLeDiff, q1, q2, q3, q4, pp, lenb, map_purge_bys, cS, bys_app])
 refine And.intro ⟨by omega, fun h => h⟩ ?_
 refine zS (zA q1 (zA q2 (zA q3 q4))) ?_
 refine W_ret (RetB (Ne.symm (by omega)) rfl rfl rfl (by simp [lkH, q1]) (by simp [lkH]))
end Go.Proofs.YtjfedgpbedppeaaGreatDoor
namespace Go.Proofs.YtjfedgpbedppeaaGreatDoor
open Go Go.Dat Go.Proofs Go.RowKit Go.Shelf Nat32
abbrev XR := Bool × List Nat × List Nat
def xc (x : XR) : List DV := [.bool x.1, .sl 1 (us x.2.1), .sl 1 (us x.2.2)]
def xcs (xs : List XR) : List DV := xs.flatMap xc
def xv (x : XR) : Rat := rv x.1 x.2.1 x.2.2
def okx (m : Nat) (x : XR) : Prop := lim x.2.1 ∧ lim x.2.2 ∧ x.2.1.length ≤ m ∧ x.2.2.length ≤ m
theorem xcs_len : ∀ xs : List XR, (xcs xs).length = 3 * xs.length
 | [] => rfl
 | x :: xs => by
  have := xcs_len xs
  unfold xcs at this ⊢
  rw [List.flatMap_cons, List.length_append, this]
  simp [xc]; omega
theorem xcs_get : ∀ (xs : List XR) (k : Nat), k < xs.length → ((xcs xs).drop (3 * k)).take 3 = xc (xs.getD k (false, [], []))
 | x :: xs, 0, _ => by
  unfold xcs
  rw [List.flatMap_cons]
  rfl
 | x :: xs, k + 1, h => by
  have := xcs_get xs k (by simpa using h)
  unfold xcs at this ⊢
  rw [List.flatMap_cons, show 3 * (k + 1) = (xc x).length + 3 * k by simp [xc]; omega, List.drop_append, List.drop_eq_nil_of_le (by omega)]
  simp only [List.nil_append, Nat.add_sub_cancel_left, List.getD_cons_succ]
  exact this
theorem xcs_one (xs : List XR) : ∀ d ∈ xcs xs, d.one = true := by
 intro d hd
 unfold xcs at hd
 obtain ⟨x, _, h⟩ := List.mem_flatMap.1 hd
 simp only [xc, List.mem_cons, List.not_mem_nil, or_false] at h
 rcases h with rfl | rfl | rfl <;> rfl
theorem xcs_rf (xs : List XR) : ∀ d ∈ xcs xs, d.rf = true := by
 intro d hd
 unfold xcs at hd
 obtain ⟨x, _, h⟩ := List.mem_flatMap.1 hd
 simp only [xc, List.mem_cons, List.not_mem_nil, or_false] at h
 rcases h with rfl | rfl | rfl <;> rfl
theorem xcs_cells (xs : List XR) : (DV.agg (xcs xs)).cells? = some (xcs xs) := by
 simp only [DV.cells?]
 rw [if_pos (List.all_eq_true.2 (xcs_one xs))]
theorem xcs_has (o : Nat) (xs : List XR) : DV.hasL o (xcs xs) = false := by
 rw [DV.hasL_any, List.any_eq_false]
 exact fun d hd => by rw [has_of_rf o d (xcs_rf xs d hd)]; exact Bool.false_ne_true
theorem xc_has (o : Nat) (x : XR) : DV.hasL o (xc x) = false := by
 have := xcs_has o [x]
 unfold xcs at this
 rwa [List.flatMap_cons, List.flatMap_nil, List.append_nil] at this
def pts (c : List DV) : List DV := [.el c 0, .el c 3, .el c 6, .el c 9, .el c 12, .el c 15]
theorem pts_get (c : List DV) {k : Nat} (h : k < 6) : (pts c).getD k .undef = .el c (3 * k) := by
 match k, h with
 | 0, _ => rfl
 | 1, _ => rfl
 | 2, _ => rfl
 | 3, _ => rfl
 | 4, _ => rfl
 | 5, _ => rfl
theorem pts_len (c : List DV) : (pts c).length = 6 := rfl
theorem tw_get {k : Nat} (h : k < 6) : (strL tw).getD k .undef = .str (tw.getD k []) := strL_getD h
theorem twl : (strL tw).length = 6 := rfl
theorem rpWords_calls : PCalls Tryz.prog 38 [] (.sl 1 (strL tw)) := by
 refine PCalls_of isrpWords (by simp [fnrpWords]) ?_
 unfold coderpWords
 refine zS (zA @cS (zA @rfm_nil @rfm_str)) ?_
 exact W_ret (RetP_1 (.imm rfl))
theorem rpNumbers_calls (c : List DV) : PCalls Tryz.prog 36 [.el c 0] (.sl 1 (pts c)) := by
 refine PCalls_of isrpNumbers (by simp [fnrpNumbers]) ?_
 unfold coderpNumbers
 refine zS (zA @cS (zA @one_el (zA @cells_el @laid_el))) ?_
 refine W_freeze 21 (cells := pts c) rfl rfl ?_
 refine zR ?_
 exact W_ret (RetP_1 (.imm rfl))
theorem xv_ok {xs : List XR} {m : Nat} (hx : ∀ x ∈ xs, okx m x) {k : Nat} (hk : k < xs.length) : okx m (xs.getD k (false, [], [])) := by
 rw [List.getD_eq_getElem?_getD, List.getElem?_eq_getElem hk]; exact hx _ (List.getElem_mem hk)
theorem xv_get (xs : List XR) (k : Nat) (hk : k < xs.length) : (xs.map xv).getD k 0 = xv (xs.getD k (false, [], [])) := by
 rw [List.getD_eq_getElem?_getD, List.getD_eq_getElem?_getD, List.getElem?_map, List.getElem?_eq_getElem hk]; rfl
theorem xv_fmt {x : XR} (h : okx 800 x) : (fmtQ (xv x)).length ≤ 16004 := fmtQ_len (m := 800) (RB_rv h.1 h.2.1 h.2.2.1 h.2.2.2 (by decide))
theorem tw_le {n : Nat} (h : n < 6) : (tw.getD n []).length ≤ 20 := by
 match n, h with
 | 0, _ => decide
 | 1, _ => decide
 | 2, _ => decide
 | 3, _ => decide
 | 4, _ => decide
 | 5, _ => decide
theorem tpre_bd {xs : List XR} (hx : ∀ x ∈ xs, okx 800 x) (hl : xs.length = 6) : ∀ n, n ≤ 6 → (tpre (xs.map xv) n).length ≤ n * 16100
 | 0, _ => Nat.zero_le _
 | n + 1, h => by
  have h1 := tpre_bd hx hl n (by omega)
  have h2 := xv_fmt (xv_ok hx (k := n) (by omega))
  simp only [tpre, List.length_append, tl, List.length_cons, List.length_nil]
  rw [xv_get xs n (by omega)]
  have h3 := tw_le (n := n) (by omega)
  omega
def TH (c0 : DV) (l : Bs) : Hp := [(786512, bys l), (2388483, [c0, .osl 1 786512 0 l.length])]
set_option maxRecDepth 10000 in
theorem rpTest_calls (xs : List XR) (hl : xs.length = 6) (hx : ∀ x ∈ xs, okx 800 x) : PCalls Tryz.prog 12 [.agg (xcs xs)] (.str (tst (xs.map xv))) := by
 have hc := xcs_cells xs
 have hne : xcs xs ≠ [] := fun e => by have := xcs_len xs; rw [e, hl] at this; cases this
 have hxl := xcs_len xs
 have hrf : ∀ d ∈ xcs xs, d.rf = true := xcs_rf xs
 have cw := rpWords_calls
 have cnum := rpNumbers_calls (xcs xs)
 have pl := pts_len (xcs xs)
 refine PCalls_of isrpTest (by simp [fnrpTest]) ?_
 unfold coderpTest
 refine W_seq ?_
 refine W_reg ?_
 refine zE hc ?_
 refine And.intro ⟨hne, hrf⟩ ?_
 refine W_seq ?_
 refine W_reg ?_
 refine zD ?_
 refine W_ownc 2388483 1 1 786512 (cells := [.nilp, .nils]) rfl rfl rfl ?_
 refine zD ?_
 repeat (first | refine zQ pl ?_ | refine cP cnum ?_ | exact zT)
 refine W_loop (σ := Nat × DV) (fun s => [(0, .agg (xcs xs)), (1, .el (xcs xs) 0), (2, .str []), (3, .ptr 2388483 0), (6, .sl 1 (pts (xcs xs))), (7, .int .i64 6), (8, .int .i64 s.1)])
  (fun s => TH s.2 (tpre (xs.map xv) s.1)) (fun s => s.1 ≤ 6 ∧ (s.2 = .nilp ∨ s.2 = .ptr 2388483 0)) (fun s => 6 - s.1) (0, .nilp) ⟨Nat.zero_le _, .inl rfl⟩ ?_ rfl ?_
 ·simp [subF, lk]
 ·rintro ⟨i, c0⟩ ⟨hi, hc0⟩
  try simp only at hi hc0 ⊢
  unfold TH
  have hbd := tpre_bd hx hl i hi
  by_cases hlt : i < 6
  ·have d1 : decide ((i : Int) < 6) = true := decide_eq_true (by omega)
   have ei : (i : Int) + 1 = ((i + 1 : Nat) : Int) := by omega
   have hgp := pts_get (xcs xs) hlt
   have hgw := tw_get hlt
   have hgx := xcs_get xs i (by omega)
   have hok := xv_ok hx (k := i) (by omega)
   have hb2 := tpre_bd hx hl (i + 1) (by omega)
   have hts : tpre (xs.map xv) (i + 1) = tpre (xs.map xv) i ++ ((tw.getD i [] ++ 32 :: fmtQ (xv (xs.getD i (false, [], [])))) ++ [10]) := by
    rw [← xv_get xs i (by omega)]; rfl
   have hwl := tw_le hlt
   have hql := xv_fmt hok
   have cf := qFormat_calls (xs.getD i (false, [], [])).1 (xs.getD i (false, [], [])).2.1 (xs.getD i (false, [], [])).2.2 hok.2.2.1 hok.2.2.2 hok.1 hok.2.1
   generalize xs.getD i (false, [], []) = x at *
   generalize tw.getD i [] = w at *
   obtain ⟨S', hS'⟩ : ∃ S', tpre (xs.map xv) (i + 1) = S' := ⟨_, rfl⟩
   rw [hS'] at hts hb2
   generalize tpre (xs.map xv) i = S at *
   have hts' := hS'.trans hts
   have hfit : 3 * i + 3 ≤ (xcs xs).length := by omega
   have hk3 : ((i : Int)).toNat = i := Int.toNat_natCast i
   refine zS d1 ?_
   refine wTs ?_
   refine zS (zA hgp (zA pl hk3)) ?_
   refine cP cw ?_
   refine zS (zA hgw (zA hk3 (zA @twl (zA hgx hgp)))) ?_
   refine cP cf ?_
   rw [show rv x.1 x.2.1 x.2.2 = xv x from rfl]
   generalize fmtQ (xv x) = q at *
   have l0 : (w ++ [32]).length ≤ 21 := by simp; omega
   have l1 : (w ++ [32] ++ q).length ≤ 16025 := by simp; omega
   refine zR ?_
   have ht1 : w ++ [32] ++ q ++ [10] = w ++ 32 :: q ++ [10] := by simp
   have bs : BCalls Tryz.prog 2388483 786512 37 [.str (w ++ [32] ++ q ++ [10])] S (.tup [.int .i64 (w ++ [32] ++ q ++ [10]).length, .nili]) (S ++ (w ++ [32] ++ q ++ [10])) := bws_calls 3 S _ (by simp; omega)
   refine callC_bld 2388483 786512 bs rfl rfl rfl hc0 (by decide) (by decide) (fun d h => by simp at h; subst h; rfl) rfl (by simp [DV.has, xcs_has, xc_has]) (by simp [DV.has, xcs_has, xc_has]) (fun p c h1 h2 h => by simp [lkH, Ne.symm h1, Ne.symm h2] at h) ?_
   refine zD ?_
   refine zS ei ?_
   refine ⟨(i + 1, .ptr 2388483 0), ⟨by omega, .inr rfl⟩, by simp; omega, by simp [subF, lk], ?_⟩
   simp only [hts', ht1]
  ·have d1 : decide ((i : Int) < 6) = false := decide_eq_false (by omega)
   obtain rfl : i = 6 := by omega
   refine zS d1 ?_
   refine wF ?_
   refine W_exit ?_
   refine zR ?_
   have cs : MRel Tryz.prog 40 [.ptr 2388483 0] (BH 2388483 786512 c0 (tst (xs.map xv))) fun r H' => r = .str (tst (xs.map xv)) ∧ H' = [(2388483, [.undef, .undef])] :=
    Str_calls Tryz.lays169 Tryz.Builder_Extra_169 2388483 786512 (by decide) (by decide) rfl (tst (xs.map xv)) (by unfold tst; omega) c0
   unfold tst at cs ⊢
   refine callC_bstr 2388483 786512 cs rfl rfl rfl hc0 (by decide) (by decide) rfl (by simp [DV.has, xcs_has, xc_has]) (fun p c h1 h2 h => by simp [lkH, Ne.symm h1, Ne.symm h2] at h) ?_
   refine zD ?_
   refine zR ?_
   exact W_ret (RetP_1 (.imm rfl))
end Go.Proofs.YtjfedgpbedppeaaGreatDoor
namespace Go.Proofs.YtjfedgpbedppeaaGreatDoor
open Go Go.Dat Go.Proofs Go.RowKit Go.Shelf Nat32
theorem six_xs {α : Type} {xs : List α} (h : xs.length = 6) : ∃ a b c d e f, xs = [a, b, c, d, e, f] := by
 match xs, h with
 | [a, b, c, d, e, f], _ => exact ⟨a, b, c, d, e, f, rfl⟩
theorem xc_cells (x : XR) : (DV.agg (xc x)).cells? = some (xc x) := by
 have := xcs_cells [x]
 unfold xcs at this
 rwa [List.flatMap_cons, List.flatMap_nil, List.append_nil] at this
def z18 : List DV := [.bool false, .nils, .nils, .bool false, .nils, .nils, .bool false, .nils, .nils, .bool false, .nils, .nils, .bool false, .nils, .nils, .bool false, .nils, .nils]
theorem laid18 (a b c d e f : XR) : laid z18 [(0, 3, .agg (xc a)), (3, 3, .agg (xc b)), (6, 3, .agg (xc c)), (9, 3, .agg (xc d)), (12, 3, .agg (xc e)), (15, 3, .agg (xc f))] = some (xcs [a, b, c, d, e, f]) := by
 simp [laid, z18, xc, xcs, DV.cells?, DV.one, spl]
end Go.Proofs.YtjfedgpbedppeaaGreatDoor
namespace Go.Proofs.YtjfedgpbedppeaaGreatDoor
open Go Go.Dat Go.Proofs Go.RowKit Go.Shelf Nat32
def offs6 : List Nat := [0, 3, 6, 9, 12, 15]
theorem rpNumbers_own {cells : List DV} (hl : cells.length = 18) (hrf : ∀ d ∈ cells, d.rf = true) : MRel Tryz.prog 36 [.ptr 1048576 0] [(1048576, cells)] fun r H' => r = .osl 1 21 0 offs6.length ∧ H' = [(1048576, cells), (21, pp 1048576 offs6)] := by
 refine MRel_of isrpNumbers (by simp [fnrpNumbers]) ?_
 unfold coderpNumbers
 refine zS (zA @cS (zA @one_ptr (zA @cells_ptr @laid_ptr))) ?_
 exact W_ret (RetPP (by decide) rfl rfl rfl hrf)
theorem cutPrefix_calls (s p : Bs) : PCalls Tryz.prog 45 [.str s, .str p] (.tup [.str (Lib.trimPrefix s p), .bool (Lib.hasPrefix s p)]) :=
 PCalls_str2 (fun _ _ => .tup rfl fun k d v hd hv => (match k, hd, hv with
  | 0, hd, hv => by cases hd; cases hv; exact .str _
  | 1, hd, hv => by cases hd; cases hv; exact .bool _
  | k + 2, hd, hv => by cases hd)) fun w => (Tryz.strings_CutPrefix ⟨s.toArray⟩ ⟨p.toArray⟩ w).mono fun e w' h => ⟨h.1, by rw [h.2]; exact Below.refl _ _⟩
theorem pp6 {k : Nat} (h : k < 6) : (pp 6 offs6).getD k .undef = .ptr 6 (3 * k) := by
 match k, h with
 | 0, _ => rfl
 | 1, _ => rfl
 | 2, _ => rfl
 | 3, _ => rfl
 | 4, _ => rfl
 | 5, _ => rfl
def xq (r : Rat) : XR := (decide (r.num < 0), limbs r.num.natAbs, dn r.den)
theorem xv_xq (r : Rat) : xv (xq r) = r := rv_Q r
theorem xc_xq (r : Rat) : .agg (xc (xq r)) = Q r := rfl
theorem cells18 {rs : List Rat} (h : rs.length ≤ 6) : (xcs (rs.map xq) ++ z18.drop (3 * rs.length)).length = 18 := by
 rw [List.length_append, xcs_len, List.length_map, List.length_drop]
 show 3 * rs.length + (18 - 3 * rs.length) = 18
 omega
theorem cells_st {rs : List Rat} (h : rs.length < 6) (x : Rat) : (xcs (rs.map xq) ++ z18.drop (3 * rs.length)).take (3 * rs.length) ++ xc (xq x) ++ (xcs (rs.map xq) ++ z18.drop (3 * rs.length)).drop (3 * rs.length + 3) = xcs ((rs ++ [x]).map xq) ++ z18.drop (3 * (rs.length + 1)) := by
 have hl : (xcs (rs.map xq)).length = 3 * rs.length := by rw [xcs_len, List.length_map]
 rw [← hl, List.take_left, List.drop_append, List.drop_eq_nil_of_le (by omega)]
 have : xcs ((rs ++ [x]).map xq) = xcs (rs.map xq) ++ xc (xq x) := by unfold xcs; simp
 rw [this, List.nil_append, List.drop_drop, hl]
 congr 2
 omega
theorem xcs_agg (xs : List XR) : (DV.agg (xcs xs)).rf = true := by rw [DV.rf_agg]; exact List.all_eq_true.2 (xcs_rf xs)
theorem z18_rf : ∀ d ∈ z18, d.rf = true := by decide
theorem cells_rf (rs : List Rat) (n : Nat) : ∀ d ∈ xcs (rs.map xq) ++ z18.drop n, d.rf = true := by
 intro d hd
 rcases List.mem_append.1 hd with h | h
 ·exact xcs_rf _ d h
 ·exact z18_rf d (List.mem_of_mem_drop h)
theorem frz_pp (cs : List DV) : (pp 6 offs6).map (frz 11 cs) = pp 6 offs6 := by
 simp [pp, offs6, frz_ptr_ne]
theorem xvs_xq (rs : List Rat) : (rs.map xq).map xv = rs := by
 rw [List.map_map]
 conv => rhs; rw [← List.map_id rs]
 exact List.map_congr_left fun r _ => xv_xq r
theorem okx_xq {r : Rat} {m : Nat} (h : RB r m) (hm : 1 ≤ m) : okx m (xq r) := ⟨lim_limbs _, lim_dn _, h.1, RB_dn h⟩
noncomputable def rdR (T : Bs) : DV := match rdT T with
 | some rs => .tup [.agg (xcs (rs.map xq)), .int .i64 0]
 | none => .tup [.agg z18, .int .i64 3]
theorem rdR_none {T : Bs} (h : rdT T = none) : rdR T = .tup [.agg z18, .int .i64 3] := by unfold rdR; rw [h]
theorem rdR_some {T : Bs} {rs : List Rat} (h : rdT T = some rs) : rdR T = .tup [.agg (xcs (rs.map xq)), .int .i64 0] := by unfold rdR; rw [h]
set_option maxRecDepth 10000 in
theorem rpReadTest_calls (T : Bs) (hT : T.length ≤ 450) : PCalls Tryz.prog 15 [.str T] (rdR T) := by
 have cl := rpLines_calls T (by omega)
 have cw := rpWords_calls
 have hwl := twl
 have hz : z18.length = 18 := rfl
 have hz2 : z18.drop 18 = [] := rfl
 refine PCalls_of isrpReadTest (by simp [fnrpReadTest]) ?_
 unfold linesD at cl
 unfold coderpReadTest
 cases hs : Lib.hasSuffix T [10]
 ·rw [hs] at cl
  rw [rdR_none (rd_bad0 (.inl hs))]
  rw [if_neg (by decide)] at cl
  repeat (first | refine zP ?_ | refine cP cl ?_ | exact zT)
  refine wT ?_
  refine zS (zA @cS (zA hz hz2)) ?_
  exact W_ret (RetP_ct rfl rfl rfl (.imm rfl) (.imm rfl))
 ·rw [hs, if_pos rfl] at cl
  change PCalls _ _ _ (.tup [.sl 1 (strL (lnT T)), .bool true]) at cl
  have hll := strL_len (lnT T)
  by_cases h6 : (lnT T).length = 6
  ·have d6 : decide (¬ (((lnT T).length : Nat) : Int) = ((6 : Nat) : Int)) = false := by rw [h6]; decide
   repeat (first | refine zQ (zA hll (zA hwl d6)) ?_ | refine cP cl ?_ | refine cP cw ?_ | exact zT)
   refine wFs ?_
   refine zR ?_
   refine callC_ptrs (cells := z18) 6 28 (rpNumbers_own rfl (by decide)) rfl (by decide) (by decide) (by decide) (by decide) (by decide) (by decide) rfl rfl (by decide) ?_
   refine zR ?_
   refine W_loop (σ := List Rat) (fun rs => [(0, .str T), (2, .ptr 2 0), (3, .int .i64 0), (4, .sl 1 (strL (lnT T))), (6, .ptr 6 0), (28, .osl 1 28 0 6), (29, .int .i64 6), (30, .int .i64 rs.length)])
    (fun rs => [(2, z18), (6, xcs (rs.map xq) ++ z18.drop (3 * rs.length)), (28, pp 6 offs6)]) (fun rs => rs.length ≤ 6 ∧ (∀ r ∈ rs, RB r 500) ∧ ∀ k, k < rs.length → parseQ (fld T k) = some (rs.getD k 0)) (fun rs => 6 - rs.length) [] ⟨Nat.zero_le _, by simp, by simp⟩ ?_ rfl ?_
   ·simp [subF, lk, offs6]
   ·rintro rs ⟨hi, hRB, hps⟩
    try simp only at hi hRB hps ⊢
    by_cases hlt : rs.length < 6
    ·have d1 : decide ((rs.length : Int) < 6) = true := decide_eq_true (by omega)
     have ei : (rs.length : Int) + 1 = ((rs.length + 1 : Nat) : Int) := by omega
     have hgl := strL_getD (r := lnT T) (j := rs.length) (by omega)
     have hgw := tw_get hlt
     have hgp := pp6 hlt
     have ppl : (pp 6 offs6).length = 6 := rfl
     have hlen := lnT_le T rs.length
     have hfl := fld_le T rs.length
     have cc := cutPrefix_calls ((lnT T).getD rs.length []) (tw.getD rs.length [] ++ [32])
     change PCalls _ _ _ (.tup [.str (fld T rs.length), .bool (pfx T rs.length)]) at cc
     have cq := qParse_all (fld T rs.length) (by omega)
     have hwb := tw_le hlt
     have hk3 : ((rs.length : Int)).toNat = rs.length := Int.toNat_natCast _
     have hcl := cells18 (rs := rs) (by omega)
     have hbad := rd_bad (T := T) (by omega) hlt
     generalize hX : fld T rs.length = X at *
     generalize hP : pfx T rs.length = P at *
     generalize (lnT T).getD rs.length [] = l at *
     generalize tw.getD rs.length [] = w at *
     refine zS d1 ?_
     refine wTs ?_
     refine zS (zA hgl (zA hgw (zA hgp (zA hk3 (zA hll (zA h6 (zA hwl ppl))))))) ?_
     refine cP cw ?_
     refine zS (zA hgl (zA hgw (zA hgp (zA hk3 (zA hll (zA h6 hwl)))))) ?_
     refine cP cc ?_
     refine zR ?_
     refine cP cq ?_
     cases hq : parseQ X with
     | none =>
      rw [rdR_none (hbad (.inr hq))]
      rw [show resQ none = .tup [.agg (xc (xq 0)), .bool false] from rfl]
      have hxc := xc_cells (xq 0)
      have hx3 : (xc (xq 0)).length = 3 := rfl
      have h33 : (xc (xq 0)).take 3 = xc (xq 0) := rfl
      cases P
      ·refine zS (zA hxc (zA hx3 (zA h33 @cS))) ?_
       refine wT ?_
       refine zS (zA @cS (zA hz hz2)) ?_
       exact W_ret (RetP_ct rfl rfl rfl (.imm rfl) (.imm rfl))
      ·refine zS (zA hxc (zA hx3 (zA h33 @cS))) ?_
       refine wT ?_
       refine zS (zA @cS (zA hz hz2)) ?_
       exact W_ret (RetP_ct rfl rfl rfl (.imm rfl) (.imm rfl))
     | some x =>
      rw [show resQ (some x) = .tup [.agg (xc (xq x)), .bool true] from rfl]
      have hxc := xc_cells (xq x)
      have hx3 : (xc (xq x)).length = 3 := rfl
      have h33 : (xc (xq x)).take 3 = xc (xq x) := rfl
      cases hPP : P
      ·rw [rdR_none (hbad (.inl hPP))]
       refine zS (zA hxc (zA hx3 (zA h33 @cS))) ?_
       refine wT ?_
       refine zS (zA @cS (zA hz hz2)) ?_
       exact W_ret (RetP_ct rfl rfl rfl (.imm rfl) (.imm rfl))
      ·have hst := cells_st hlt x
       have hRx := parseQ_RB5 (l := X) (by omega) hq
       refine zS (zA hxc (zA hx3 (zA h33 (zA @cS hgp)))) ?_
       refine wFs ?_
       refine W_reg ?_
       refine zE (zA hxc (zA hx3 (zA h33 (zA @cS (zA hgp hcl))))) ?_
       refine And.intro (by omega) ?_
       refine W_freeze 11 (cells := xc (xq x)) rfl rfl ?_
       rw [hst]
       refine zS ei ?_
       have hlr : (rs ++ [x]).length = rs.length + 1 := by simp
       refine ⟨rs ++ [x], ⟨by omega, fun r hr => ?_, fun k hk => ?_⟩, by omega, ?_, ?_⟩
       ·rcases List.mem_append.1 hr with h | h
        ·exact hRB r h
        ·rw [List.mem_singleton.1 h]; exact hRx
       ·by_cases e : k < rs.length
        ·rw [hps k e, List.getD_eq_getElem?_getD, List.getD_eq_getElem?_getD, List.getElem?_append_left e]
        ·obtain rfl : k = rs.length := by omega
         rw [hX, hq, List.getD_eq_getElem?_getD, List.getElem?_append_right (Nat.le_refl _), Nat.sub_self]; rfl
       ·simp [subF, lk, hlr, frz_ptr_ne, frz_osl_ne]
       ·rw [hlr, map_frz 11 _ z18_rf, map_frz 11 _ (cells_rf _ _), frz_pp]
    ·have d1 : decide ((rs.length : Int) < 6) = false := decide_eq_false (by omega)
     have h66 : rs.length = 6 := by omega
     have hce : xcs (rs.map xq) ++ z18.drop (3 * rs.length) = xcs (rs.map xq) := by rw [h66]; exact List.append_nil _
     have hcl : (xcs (rs.map xq)).length = 18 := by rw [xcs_len, List.length_map, h66]
     have hok : ∀ x ∈ rs.map xq, okx 800 x := fun x hx => by
      obtain ⟨r, hr, rfl⟩ := List.mem_map.1 hx
      exact okx_xq ((hRB r hr).mono (by decide)) (by decide)
     have ct := rpTest_calls (rs.map xq) (by rw [List.length_map, h66]) hok
     rw [xvs_xq] at ct
     have hend := rd_end (T := T) (by omega) h66 fun k hk => hps k (by omega)
     have ht18 : (xcs (rs.map xq)).take 18 = xcs (rs.map xq) := List.take_of_length_le (by omega)
     have hd18 : (xcs (rs.map xq)).drop 18 = [] := List.drop_eq_nil_of_le (by omega)
     have hcc := xcs_cells (rs.map xq)
     rw [hce]
     refine zS d1 ?_
     refine wF ?_
     refine W_exit ?_
     refine zS (zA hcl (zA ht18 @List.drop_zero.{0})) ?_
     refine callC_pure ct (by rw [List.all_cons, xcs_agg]; rfl) ?_
     by_cases he : tst rs = T
     ·rw [if_pos he] at hend
      rw [rdR_some hend]
      have dn : decide (¬ tst rs = T) = false := decide_eq_false (fun h => h he)
      refine zS dn ?_
      refine wFs ?_
      refine zS (zA hcl (zA ht18 (zA hd18 (zA hcc (zA @cS (zA hz hz2)))))) ?_
      exact W_ret (RetP_ct rfl rfl hcl (.imm (xcs_agg _)) (.imm rfl))
     ·rw [if_neg he] at hend
      rw [rdR_none hend]
      have dn : decide (¬ tst rs = T) = true := decide_eq_true he
      refine zS dn ?_
      refine wT ?_
      refine zS (zA @cS (zA hz hz2)) ?_
      exact W_ret (RetP_ct rfl rfl rfl (.imm rfl) (.imm rfl))
  ·have d6 : decide (¬ (((lnT T).length : Nat) : Int) = ((6 : Nat) : Int)) = true := decide_eq_true (by omega)
   rw [rdR_none (rd_bad0 (.inr h6))]
   repeat (first | refine zQ (zA hll (zA hwl d6)) ?_ | refine cP cl ?_ | refine cP cw ?_ | exact zT)
   refine wT ?_
   refine zS (zA @cS (zA hz hz2)) ?_
   exact W_ret (RetP_ct rfl rfl rfl (.imm rfl) (.imm rfl))
end Go.Proofs.YtjfedgpbedppeaaGreatDoor
namespace Go.Proofs.YtjfedgpbedppeaaGreatDoor
open Go Go.Dat Go.Proofs Go.RowKit Go.Shelf Nat32
theorem getD_mem' (l : List Bs) {k : Nat} (h : k < l.length) : l.getD k [] ∈ l := by rw [List.getD_eq_getElem?_getD, List.getElem?_eq_getElem h]; exact List.getElem_mem h
theorem xcs_app (xs : List XR) (x : XR) : xcs xs ++ xc x = xcs (xs ++ [x]) := by unfold xcs; simp
theorem xc_one (x : XR) : ∀ d ∈ xc x, d.one = true := by
 intro d hd
 simp only [xc, List.mem_cons, List.not_mem_nil, or_false] at hd
 rcases hd with rfl | rfl | rfl <;> rfl
theorem laid3 (x : XR) : laid [.bool false, .nils, .nils] [(0, 3, .agg (xc x))] = some (xc x) := by
 simp [laid, xc, DV.cells?, DV.one, spl]
theorem xc_rf (x : XR) : ∀ d ∈ xc x, d.rf = true := by
 intro d hd
 simp only [xc, List.mem_cons, List.not_mem_nil, or_false] at hd
 rcases hd with rfl | rfl | rfl <;> rfl
end Go.Proofs.YtjfedgpbedppeaaGreatDoor
namespace Go.Proofs.YtjfedgpbedppeaaGreatDoor
open Go Go.Dat Go.Proofs Go.RowKit Go.Shelf Nat32
theorem pFraction_calls (a b : Int) (ha : a.natAbs ≤ 1000000) (hb : b ≠ 0) (hb2 : b.natAbs ≤ 1000000) : PCalls Tryz.prog 34 [.int .i64 a, .int .i64 b] (Q (Rat.divInt a b)) := by
 have c1 := sFromInt_calls a (by omega) (by omega)
 have c2 := sFromInt_calls b (by omega) (by omega)
 have il1 : ∀ z : Int, z.natAbs ≤ 1000000 → il z ≤ 900 := fun z hz => Nat.le_trans (limbs_len.2 (show z.natAbs < 4294967296 ^ 1 by omega)) (by decide)
 have c3 := p_over_calls a b hb (il1 a ha) (il1 b hb2)
 refine PCalls_of ispFraction (by simp [fnpFraction]) ?_
 unfold codepFraction
 generalize Rat.divInt a b = r at *
 have hx3 : (XL r).length = 3 := rfl
 have hcc : (Q r).cells? = some (XL r) := xc_cells (xq r)
 repeat (first | refine zP ?_ | refine cP c1 ?_ | refine cP c2 ?_ | refine cP c3 ?_ | exact zT)
 refine zS (zA hcc (zA hx3 @cS)) ?_
 exact W_ret (RetP_c rfl rfl rfl (.imm rfl))
end Go.Proofs.YtjfedgpbedppeaaGreatDoor
