/- Lemmas of the walk; no conditions beyond those that each states. -/
import Derived.Shelf.Strings.BuilderK
import Derived.Shelf.Strings.BuilderF
import Derived.Laws.RangeAny
import Derived.Lib.DecodeN
import Derived.WalkMore
import Derived.Shelf.RegionOpenPlain
import Derived.Laws.Runes
import Derived.Shelf.Strings.Runes
import Derived.Lib.Small
import Derived.Deep.LoopGhost
import Derived.Lib.IndexLaws
import Derived.Shelf.Small.Utf8
import Derived.OpenShut
import Derived.Below
import Derived.HandedShaped
import Derived.Handed
import Derived.Test.YtjfedgpbedppeaaGreatDoorD2
import Derived.Test.YtjfedgpbedppeaaGreatDoorT2
import Derived.Test.YtjfedgpbedppeaaGreatDoorN1
import Derived.Test.YtjfedgpbedppeaaGreatDoorC1
import Derived.Test.YtjfedgpbedppeaaGreatDoorD3
set_option linter.unusedSimpArgs false
set_option linter.unusedVariables false
set_option linter.unnecessarySimpa false
set_option maxHeartbeats 4000000
namespace Go.Proofs.YtjfedgpbedppeaaGreatDoor
open Go Go.Dat Go.Proofs Nat32 Go.RowKit
theorem seqC_norm (F : FnD) (b : Code) (Q : Ex → Fr → Hp → Prop) (fr : Fr) (H : Hp) : seqC F b Q .norm fr H = WC F b Q fr H := rfl
theorem seqC_ret (F : FnD) (b : Code) (Q : Ex → Fr → Hp → Prop) (fr : Fr) (H : Hp) : seqC F b Q .ret fr H = Q .ret fr H := rfl
noncomputable def cSeq1 : Code → Code
 | .seq a _ => a
 | _ => .skip
noncomputable def cSeq2 : Code → Code
 | .seq _ b => b
 | _ => .skip
noncomputable def colB : Code := match Tryz.f29.body with | some c => c | none => .skip
def dSeq1 : DC → DC
 | .seq a _ => a
 | _ => .skip
def dSeq2 : DC → DC
 | .seq _ b => b
 | _ => .skip
theorem colB_eq : Tryz.f29.body = some (.seq (cSeq1 colB) (.seq (cSeq1 (cSeq2 colB)) (.seq (cSeq1 (cSeq2 (cSeq2 colB))) (.seq (cSeq1 (cSeq2 (cSeq2 (cSeq2 colB)))) (.seq (cSeq1 (cSeq2 (cSeq2 (cSeq2 (cSeq2 colB))))) (.seq (cSeq1 (cSeq2 (cSeq2 (cSeq2 (cSeq2 (cSeq2 colB)))))) part2)))))) := by kernel_rfl
theorem cs0 : strip fnrpColumns.P fnrpColumns.vs fnrpColumns.own fnrpColumns.n (cSeq1 colB) = dSeq1 coderpColumns := by kernel_rfl
theorem cs1 : strip fnrpColumns.P fnrpColumns.vs fnrpColumns.own fnrpColumns.n (cSeq1 (cSeq2 colB)) = dSeq1 (dSeq2 coderpColumns) := by kernel_rfl
theorem cs2 : strip fnrpColumns.P fnrpColumns.vs fnrpColumns.own fnrpColumns.n (cSeq1 (cSeq2 (cSeq2 colB))) = dSeq1 (dSeq2 (dSeq2 coderpColumns)) := by kernel_rfl
theorem cs3 : strip fnrpColumns.P fnrpColumns.vs fnrpColumns.own fnrpColumns.n (cSeq1 (cSeq2 (cSeq2 (cSeq2 colB)))) = dSeq1 (dSeq2 (dSeq2 (dSeq2 coderpColumns))) := by kernel_rfl
theorem cs4 : strip fnrpColumns.P fnrpColumns.vs fnrpColumns.own fnrpColumns.n (cSeq1 (cSeq2 (cSeq2 (cSeq2 (cSeq2 colB))))) = dSeq1 (dSeq2 (dSeq2 (dSeq2 (dSeq2 coderpColumns)))) := by kernel_rfl
theorem cs5 : strip fnrpColumns.P fnrpColumns.vs fnrpColumns.own fnrpColumns.n (cSeq1 (cSeq2 (cSeq2 (cSeq2 (cSeq2 (cSeq2 colB)))))) = dSeq1 (dSeq2 (dSeq2 (dSeq2 (dSeq2 (dSeq2 coderpColumns))))) := by kernel_rfl
theorem recD_getD {recs : List (List (List UInt8))} {i : Nat} (h : i < recs.length) : (recD recs).getD i .undef = .sl 1 (strL (recs.getD i [])) := by
 rw [List.getD_eq_getElem?_getD, recD_get h]; rfl
theorem recD_len (recs : List (List (List UInt8))) : (recD recs).length = recs.length := by unfold recD; simp
theorem strL_len (r : List (List UInt8)) : (strL r).length = r.length := by unfold strL; simp
theorem strL_getD {r : List (List UInt8)} {j : Nat} (h : j < r.length) : (strL r).getD j .undef = .str (r.getD j []) := by
 rw [List.getD_eq_getElem?_getD, strL_get h]; rfl
theorem shape_bad {recs : List (List (List UInt8))} {i : Nat} (h : i < recs.length) (hb : (decide ((recs.getD i []).length = (recs.headD []).length) && (decide (1 ≤ (recs.headD []).length) && decide ((recs.headD []).length ≤ 32))) = false) : shapeB recs = false := by
 rw [← Bool.not_eq_true]
 intro hs
 have := List.all_eq_true.1 hs _ (List.getElem_mem h)
 rw [List.getD_eq_getElem?_getD, List.getElem?_eq_getElem h] at hb
 simp only [Option.getD_some] at hb
 rw [hb] at this; cases this
theorem form_bad {recs : List (List (List UInt8))} {i j : Nat} (h : i < recs.length) (hj : j < (recs.getD i []).length) (hb : cellB ((recs.getD i []).getD j []) = false) : formB recs = false := by
 rw [← Bool.not_eq_true]
 intro hs
 have h1 := List.all_eq_true.1 hs _ (List.getElem_mem h)
 rw [List.getD_eq_getElem?_getD (l := recs), List.getElem?_eq_getElem h] at hb hj
 simp only [Option.getD_some] at hb hj
 have h2 := List.all_eq_true.1 h1 _ (List.getElem_mem hj)
 rw [List.getD_eq_getElem?_getD, List.getElem?_eq_getElem hj] at hb
 simp only [Option.getD_some] at hb
 rw [hb] at h2; cases h2
theorem form_ok {recs : List (List (List UInt8))} (h : ∀ i, i < recs.length → ∀ j, j < (recs.getD i []).length → cellB ((recs.getD i []).getD j []) = true) : formB recs = true := by
 refine List.all_eq_true.2 fun r hr => List.all_eq_true.2 fun s hs => ?_
 obtain ⟨i, hi, rfl⟩ := List.mem_iff_getElem.1 hr
 obtain ⟨j, hj, rfl⟩ := List.mem_iff_getElem.1 hs
 have := h i hi j (by rw [List.getD_eq_getElem?_getD (l := recs), List.getElem?_eq_getElem hi]; exact hj)
 rw [List.getD_eq_getElem?_getD (l := recs), List.getElem?_eq_getElem hi] at this
 simp only [Option.getD_some] at this
 rw [List.getD_eq_getElem?_getD, List.getElem?_eq_getElem hj] at this
 exact this
set_option maxHeartbeats 4000000 in
theorem rpColumns_calls (recs : List (List (List UInt8))) (hb1 : recs.length ≤ 9223372036854775807) (hb2 : ∀ i, (recs.getD i []).length ≤ 9223372036854775807) (hb3 : ∀ i j, ((recs.getD i []).getD j []).length ≤ 9223372036854775807) :
  PCalls Tryz.prog 29 [.sl 1 (recD recs)] (colR recs) := by
 refine PCalls_ofC (F := fnrpColumns) Tryz.func29 colB_eq rfl rfl (by kernel_rfl) (by simp [fnrpColumns]) ?_
 have hln := recD_len recs
 refine WC_seq (WC_of cs0 ?_)
 unfold coderpColumns
 dsimp only [dSeq1, dSeq2]
 refine zS (zA @seqC_norm cI) ?_
 refine WC_seq (WC_of cs1 ?_)
 unfold coderpColumns
 dsimp only [dSeq1, dSeq2]
 by_cases h1 : recs.length < 1
 ·have d1 : decide ((recs.length : Int) < 1) = true := decide_eq_true (by omega)
  have hR : colR recs = .tup [.str [], .int .i64 6] := by
   unfold colR shapeOk
   rw [decide_eq_false (show ¬ 1 ≤ recs.length by omega)]; rfl
  rw [hR]
  refine zS (zA hln (zA d1 cI)) ?_
  refine wT ?_
  refine zS (zA @seqC_ret cI) ?_
  refine W_ret ?_
  exact RetP_2 (.imm rfl) (.imm rfl)
 ·have d1 : decide ((recs.length : Int) < 1) = false := decide_eq_false (by omega)
  by_cases h2 : 1024 < recs.length
  ·have d2 : decide ((1024 : Int) < (recs.length : Int)) = true := decide_eq_true (by omega)
   have hR : colR recs = .tup [.str [], .int .i64 6] := by
    unfold colR shapeOk
    rw [decide_eq_false (show ¬ recs.length ≤ 1024 by omega), Bool.and_false]; rfl
   rw [hR]
   refine zS (zA hln (zA d1 (zA d2 cI))) ?_
   refine wT ?_
   refine zS (zA @seqC_ret cI) ?_
   refine W_ret ?_
   exact RetP_2 (.imm rfl) (.imm rfl)
  ·have d2 : decide ((1024 : Int) < (recs.length : Int)) = false := decide_eq_false (by omega)
   refine zS (zA hln (zA d1 (zA d2 cI))) ?_
   refine wFs ?_
   refine zS (zA @seqC_norm cI) ?_
   have hpos : 0 < recs.length := by omega
   have hg0 := recD_getD hpos
   have hh : recs.getD 0 [] = recs.headD [] := by cases recs <;> rfl
   rw [hh] at hg0
   have hm := hb2 0
   rw [hh] at hm
   obtain ⟨m, hmd⟩ : ∃ m, (recs.headD []).length = m := ⟨_, rfl⟩
   have hsl := strL_len (recs.headD [])
   rw [hmd] at hsl hm
   have e0 : (Int.toNat 0) = 0 := rfl
   refine WC_seq (WC_of cs2 ?_)
   unfold coderpColumns
   dsimp only [dSeq1, dSeq2]
   refine zS (zA hln (zA e0 (zA hg0 (zA hsl cI)))) ?_
   refine zS (zA @seqC_norm cI) ?_
   clear hg0 hsl
   refine WC_seq (WC_of cs3 ?_)
   unfold coderpColumns
   dsimp only [dSeq1, dSeq2]
   refine zS (zA hln cI) ?_
   refine W_loop (σ := Nat) (fun i => [(0, .sl 1 (recD recs)), (2, .str []), (3, .int .i64 0), (4, .int .i64 m), (29, .sl 1 (recD recs)), (30, .int .i64 recs.length), (31, .int .i64 i)]) (fun _ => []) (fun i => i ≤ recs.length ∧ ∀ c, c < i → (recs.getD c []).length = m ∧ 1 ≤ m ∧ m ≤ 32) (fun i => recs.length - i) 0 (And.intro (Nat.zero_le _) (fun c hc => absurd hc (by omega))) ?_ rfl ?_
   ·simp [subF, lk]
   ·rintro i ⟨hi, hall⟩
    try simp only at hi hall ⊢
    by_cases hlt : i < recs.length
    ·have dl : decide ((i : Int) < recs.length) = true := decide_eq_true (by omega)
     have ei : (i : Int).toNat = i := Int.toNat_natCast i
     have hgi := recD_getD hlt
     have hsi := strL_len (recs.getD i [])
     have hbd := hb2 i
     have e1 : ((i : Int) + 1) = ((i + 1 : Nat) : Int) := by omega
     obtain ⟨q, hq⟩ : ∃ q, (recs.getD i []).length = q := ⟨_, rfl⟩
     rw [hq] at hsi hbd
     have hbad : ¬ (q = m ∧ 1 ≤ m ∧ m ≤ 32) → colR recs = .tup [.str [], .int .i64 6] := fun hn => by
      have hs : shapeB recs = false := shape_bad hlt (by
       rw [hq, hmd]
       by_cases a1 : q = m
       ·by_cases a2 : 1 ≤ m
        ·rw [decide_eq_false (show ¬ m ≤ 32 from fun a3 => hn ⟨a1, a2, a3⟩)]; simp
        ·rw [decide_eq_false a2]; simp
       ·rw [decide_eq_false a1]; rfl)
      unfold colR shapeOk
      rw [hs, Bool.and_false]; rfl
     refine zS (zA dl cI) ?_
     refine wTs ?_
     by_cases a1 : q = m
     ·have g1 : decide (¬ (q : Int) = (m : Int)) = false := decide_eq_false (by omega)
      by_cases a2 : 1 ≤ m
      ·have g2 : decide ((m : Int) < 1) = false := decide_eq_false (by omega)
       by_cases a3 : m ≤ 32
       ·have g3 : decide ((32 : Int) < (m : Int)) = false := decide_eq_false (by omega)
        have hall' : Dat.Hid (∀ c, c < i + 1 → (recs.getD c []).length = m ∧ 1 ≤ m ∧ m ≤ 32) := ⟨fun c hc => by
         rcases Nat.lt_or_ge c i with hci | hci
         ·exact hall c hci
         ·rw [show c = i by omega, hq]; exact ⟨a1, a2, a3⟩⟩
        clear hall hbad
        refine zS (zA ei (zA hln (zA hgi (zA hsi (zA g1 (zA g2 (zA g3 cI))))))) ?_
        refine wFs ?_
        refine zS (zA e1 cI) ?_
        exact ⟨i + 1, And.intro hlt hall'.out, by omega, by simp [subF, lk]⟩
       ·have g3 : decide ((32 : Int) < (m : Int)) = true := decide_eq_true (by omega)
        rw [hbad (fun h => a3 h.2.2)]
        clear hall hbad
        refine zS (zA ei (zA hln (zA hgi (zA hsi (zA g1 (zA g2 (zA g3 cI))))))) ?_
        refine wT ?_
        refine zS (zA @seqC_ret cI) ?_
        refine W_ret ?_
        exact RetP_2 (.imm rfl) (.imm rfl)
      ·have g2 : decide ((m : Int) < 1) = true := decide_eq_true (by omega)
       rw [hbad (fun h => a2 h.2.1)]
       clear hall hbad
       refine zS (zA ei (zA hln (zA hgi (zA hsi (zA g1 (zA g2 cI)))))) ?_
       refine wT ?_
       refine zS (zA @seqC_ret cI) ?_
       refine W_ret ?_
       exact RetP_2 (.imm rfl) (.imm rfl)
     ·have g1 : decide (¬ (q : Int) = (m : Int)) = true := decide_eq_true (by omega)
      rw [hbad (fun h => a1 h.1)]
      clear hall hbad
      refine zS (zA ei (zA hln (zA hgi (zA hsi (zA g1 cI))))) ?_
      refine wT ?_
      refine zS (zA @seqC_ret cI) ?_
      refine W_ret ?_
      exact RetP_2 (.imm rfl) (.imm rfl)
    ·have dl : decide ((i : Int) < recs.length) = false := decide_eq_false (by omega)
     have hil : i = recs.length := by omega
     subst hil
     have hm1 := (hall 0 hpos).2.1
     have hm32 := (hall 0 hpos).2.2
     have hlen : ∀ c, c < recs.length → (recs.getD c []).length = m := fun c hc => (hall c hc).1
     have hsh : shapeOk recs = true := by
      unfold shapeOk shapeB
      rw [decide_eq_true (show 1 ≤ recs.length by omega), decide_eq_true (show recs.length ≤ 1024 by omega), Bool.true_and, Bool.true_and]
      refine List.all_eq_true.2 fun r hr => ?_
      obtain ⟨c, hc, rfl⟩ := List.mem_iff_getElem.1 hr
      have := hlen c hc
      rw [List.getD_eq_getElem?_getD, List.getElem?_eq_getElem hc] at this
      simp only [Option.getD_some] at this
      rw [this, hmd, decide_eq_true rfl, decide_eq_true hm1, decide_eq_true hm32]; rfl
     clear hall
     (replace hlen := Hid.mk hlen)
     refine zS (zA dl cI) ?_
     refine W_cond rfl (fun h => by cases h) (fun _ => W_exit ?_)
     refine zS (zA @seqC_norm cI) ?_
     refine WC_seq (WC_of cs4 ?_)
     unfold coderpColumns
     dsimp only [dSeq1, dSeq2]
     have hrp : rep m [DV.int .i64 0] = wcells (wdT recs 0) m := wcells_rep recs m
     have hcap : (m : Int) * 8 ≤ 281474976710656 := by omega
     refine zS (zA hrp (zA @nbrpColumns cI)) ?_
     refine zS (zA @seqC_norm cI) ?_
     refine WC_seq (WC_of cs5 ?_)
     unfold coderpColumns
     dsimp only [dSeq1, dSeq2]
     refine zS (zA hln cI) ?_
     refine W_loop (σ := Nat) (fun i => [(0, .sl 1 (recD recs)), (2, .str []), (3, .int .i64 0), (7, .osl 1 49 0 m), (50, .sl 1 (recD recs)), (51, .int .i64 recs.length), (52, .int .i64 i)]) (fun i => [(49, wcells (wdT recs i) m)]) (fun i => i ≤ recs.length ∧ ∀ c, c < i → ∀ j, j < m → cellB ((recs.getD c []).getD j []) = true) (fun i => recs.length - i) 0 (And.intro (Nat.zero_le _) (fun c hc => absurd hc (by omega))) ?_ rfl ?_
     ·simp [subF, lk]
     ·rintro i ⟨hi2, hok⟩
      try simp only at hi2 hok ⊢
      by_cases hlt2 : i < recs.length
      ·have dl2 : decide ((i : Int) < recs.length) = true := decide_eq_true (by omega)
       have ei : (i : Int).toNat = i := Int.toNat_natCast i
       have hgi := recD_getD hlt2
       have hsi := strL_len (recs.getD i [])
       have hri := hlen.out i hlt2
       rw [hri] at hsi
       have e1 : ((i : Int) + 1) = ((i + 1 : Nat) : Int) := by omega
       replace hok := Dat.Hid.mk hok
       refine zS (zA dl2 cI) ?_
       refine wTs ?_
       refine zS (zA ei (zA hln (zA hgi (zA hsi cI)))) ?_
       refine W_loop (σ := Nat) (fun j => [(0, .sl 1 (recD recs)), (2, .str []), (3, .int .i64 0), (7, .osl 1 49 0 m), (50, .sl 1 (recD recs)), (51, .int .i64 recs.length), (52, .int .i64 i), (56, .sl 1 (strL (recs.getD i []))), (57, .int .i64 m), (58, .int .i64 j)]) (fun j => [(49, wcells (wmix recs i j) m)]) (fun j => j ≤ m ∧ ∀ c, c < j → cellB ((recs.getD i []).getD c []) = true) (fun j => m - j) 0 (And.intro (Nat.zero_le _) (fun c hc => absurd hc (by omega))) ?_ (by rw [wmix_zero]) ?_
       ·simp [subF, lk]
       ·rintro j ⟨hj, hcj⟩
        try simp only at hj hcj ⊢
        by_cases hjm : j < m
        ·have dj : decide ((j : Int) < m) = true := decide_eq_true (by omega)
         have ej : (j : Int).toNat = j := Int.toNat_natCast j
         have hgj := strL_getD (r := recs.getD i []) (j := j) (by omega)
         have hbd := hb3 i j
         have cc := rpCell_calls ((recs.getD i []).getD j []) (by omega)
         have e1j : ((j : Int) + 1) = ((j + 1 : Nat) : Int) := by omega
         have hwl := wcells_len (wmix recs i j) m
         have hwg := wcells_getD (f := wmix recs i j) hjm
         have hws := wcells_set (recs := recs) hlt2 hjm
         have hmx : wmix recs i j j = wdT recs i j := by unfold wmix; rw [if_neg (Nat.lt_irrefl _)]
         rw [hmx] at hwg
         have hform := @form_bad recs i j hlt2 (by omega)
         have hnext : cellB ((recs.getD i []).getD j []) = true → ∀ c, c < j + 1 → cellB ((recs.getD i []).getD c []) = true := fun h c hc => by
          rcases Nat.lt_or_ge c j with hcj2 | hcj2
          ·exact hcj c hcj2
          ·rw [show c = j by omega]; exact h
         generalize (recs.getD i []).getD j [] = S at *
         refine zS (zA dj cI) ?_
         refine wTs ?_
         cases hcb : cellB S
         ·rw [hcb] at cc
          have hR : colR recs = .tup [.str [], .int .i64 4] := by
           unfold colR
           rw [hsh, hform hcb]; rfl
          rw [hR]
          clear hnext hform hcj
          repeat (first | refine zQ (zA ej (zA hsi (zA hgj cI))) ?_ | refine cP cc ?_ | exact zT)
          refine wT ?_
          refine zS (zA @seqC_ret cI) ?_
          refine W_ret ?_
          exact RetP_2 (.imm rfl) (.imm rfl)
         ·rw [hcb] at cc
          have hnx := Dat.Hid.mk (hnext hcb)
          have emax : (if ((wdT recs i j : Nat) : Int) < (S.length : Int) then (S.length : Int) else ((wdT recs i j : Nat) : Int)) = ((max (wdT recs i j) S.length : Nat) : Int) := by
           split <;> omega
          clear hnext hform hcj
          repeat (first | refine zQ (zA ej (zA hsi (zA hgj cI))) ?_ | refine cP cc ?_ | exact zT)
          refine wFs ?_
          refine zS (zA ej (zA hwl (zA hwg (zA emax (zA hws (zA e1j cI)))))) ?_
          exact ⟨j + 1, And.intro hjm hnx.out, by omega, by simp [subF, lk]⟩
        ·have dj : decide ((j : Int) < m) = false := decide_eq_false (by omega)
         have hjm2 : j = m := by omega
         subst hjm2
         have hnx : Dat.Hid (∀ c, c < i + 1 → ∀ q, q < j → cellB ((recs.getD c []).getD q []) = true) := ⟨fun c hc q hq => by
          rcases Nat.lt_or_ge c i with hci | hci
          ·exact hok.out c hci q hq
          ·rw [show c = i by omega]; exact hcj q hq⟩
         clear hcj hok
         rw [wmix_full]
         refine zS (zA dj cI) ?_
         refine W_cond rfl (fun h => by cases h) (fun _ => W_exit ?_)
         refine zS (zA e1 cI) ?_
         exact ⟨i + 1, And.intro hlt2 hnx.out, by omega, by simp [subF, lk]⟩
      ·have dl2 : decide ((i : Int) < recs.length) = false := decide_eq_false (by omega)
       have hil2 : i = recs.length := by omega
       subst hil2
       have hform : formB recs = true := form_ok fun c hc q hq => hok c hc q (by rw [hlen.out c hc] at hq; exact hq)
       have hR : colR recs = .tup [.str (colT (wdT recs recs.length) recs m recs.length), .int .i64 0] := by
        unfold colR
        rw [hsh, hform, hmd]; rfl
       rw [hR]
       clear hok
       refine zS (zA dl2 cI) ?_
       refine W_cond rfl (fun h => by cases h) (fun _ => W_exit ?_)
       refine zS (zA @seqC_norm cI) ?_
       exact part2_WC 49 recs m (wdT recs recs.length) (wcells (wdT recs recs.length) m) hpos (by omega) (by omega) hm32 (fun r hr => by
        obtain ⟨c, hc, rfl⟩ := List.mem_iff_getElem.1 hr
        have := hlen.out c hc
        rw [List.getD_eq_getElem?_getD, List.getElem?_eq_getElem hc] at this
        simpa using this) (fun j hj => wcells_get hj) (fun c j => wdT_ge c j) (fun j => wdT_le hform j) _ _ rfl rfl rfl
theorem rfm_nil : (∀ d ∈ ([] : List DV), d.rf = true) ↔ True := by simp
theorem rfm_str (l : List UInt8) (xs : List DV) : (∀ d ∈ DV.str l :: xs, d.rf = true) ↔ ∀ d ∈ xs, d.rf = true := by simp [DV.rf]
theorem rfm_sl (s : Nat) (ys xs : List DV) : (∀ d ∈ DV.sl s ys :: xs, d.rf = true) ↔ ∀ d ∈ xs, d.rf = true := by simp [DV.rf]
def tpc (l : List Int) (at_ : Nat) : List DV := [.sl 1 (l.map (.int .i64)), .int .i64 at_]
def isTp (c : List DV) : Prop := ∃ (l : List Int) (k : Nat), l.length ≤ 400 ∧ k ≤ l.length ∧ c = tpc l k
theorem isTp.rf {c : List DV} (h : isTp c) : ∀ d ∈ c, d.rf = true := by
 obtain ⟨l, k, _, _, rfl⟩ := h
 intro d hd
 simp only [tpc, List.mem_cons, List.not_mem_nil, or_false] at hd
 rcases hd with rfl | rfl <;> rfl
theorem ints_len (l : List Int) : (l.map (DV.int .i64)).length = l.length := List.length_map ..
theorem ints_getD {l : List Int} {k : Nat} (h : k < l.length) : (l.map (DV.int .i64)).getD k .undef = .int .i64 (l.getD k 0) := by
 rw [List.getD_eq_getElem?_getD, List.getElem?_map, List.getElem?_eq_getElem h, List.getD_eq_getElem?_getD, List.getElem?_eq_getElem h]; rfl
theorem wMod_calls (v : Int) (n : Nat) (h1 : 1 ≤ n) (h2 : n ≤ 1000000) : ∃ k : Nat, k < n ∧ PCalls Tryz.prog 43 [.int .i64 v, .int .i64 n] (.int .i64 k) := by
 have hn0 : (n : Int) ≠ 0 := by omega
 have b1 : v.tmod n < n := Int.tmod_lt_of_pos v (by omega)
 have b2 : -(n : Int) < v.tmod n := by
  have := Int.lt_tmod_of_pos v (show (0 : Int) < n by omega)
  omega
 obtain ⟨m, hm⟩ : ∃ m, v.tmod n = m := ⟨_, rfl⟩
 rw [hm] at b1 b2
 by_cases hneg : m < 0
 ·have d1 : decide (m < 0) = true := decide_eq_true hneg
  refine ⟨(m + n).toNat, by omega, PCalls_of iswMod (by simp [fnwMod]) ?_⟩
  have e1 : (((m + n).toNat : Nat) : Int) = m + n := by omega
  rw [e1]
  unfold codewMod
  refine zS (zA hm (zA hn0 (zA d1 cI))) ?_
  refine wT ?_
  refine zS cI ?_
  exact W_ret (RetP_1 (.imm rfl))
 ·have d1 : decide (m < 0) = false := decide_eq_false hneg
  refine ⟨m.toNat, by omega, PCalls_of iswMod (by simp [fnwMod]) ?_⟩
  have e1 : ((m.toNat : Nat) : Int) = m := by omega
  rw [e1]
  unfold codewMod
  refine zS (zA hm (zA hn0 (zA d1 cI))) ?_
  refine wFs ?_
  refine zS cI ?_
  exact W_ret (RetP_1 (.imm rfl))
def drawQ (n : Nat) (r : DV) (c' : List DV) : Prop := isTp c' ∧ ∃ k : Nat, (k < n ∨ k = 0) ∧ r = .int .i64 k
set_option maxHeartbeats 1000000 in
theorem wNext_calls (c : List DV) (n : Nat) (hc : isTp c) (hn : n ≤ 1000000) : TCalls Tryz.prog 14 [.ptr 1048576 0, .int .i64 n] c (drawQ n) := by
 have hrf := hc.rf
 obtain ⟨l, k, hl, hk, rfl⟩ := hc
 refine MRel_of iswNext (by simp [fnwNext]) ?_
 unfold codewNext tpc
 have hil := ints_len l
 by_cases h1 : n < 1
 ·have d1 : decide ((n : Int) < 1) = true := decide_eq_true (by omega)
  refine zS (zA d1 cI) ?_
  refine wT ?_
  refine zS cI ?_
  exact W_ret (RetT (c' := tpc l k) rfl rfl hrf ⟨⟨l, k, hl, hk, rfl⟩, 0, .inr rfl, rfl⟩)
 ·have d1 : decide ((n : Int) < 1) = false := decide_eq_false (by omega)
  by_cases h2 : k < l.length
  ·have d2 : decide ((k : Int) ≥ (l.length : Int)) = false := decide_eq_false (by omega)
   obtain ⟨q, hq, cm⟩ := wMod_calls (l.getD k 0) n (by omega) hn
   have hg := ints_getD h2
   have e1 : ((k : Int) + 1) = ((k + 1 : Nat) : Int) := by omega
   have e2 : (((k + 1 : Nat) : Int) - 1) = (k : Int) := by omega
   have e3 : ((k : Int)).toNat = k := Int.toNat_natCast k
   refine zS (zA d1 (zA d2 (zA hil cI))) ?_
   refine wFs ?_
   have hidx : (0 : Int) ≤ (k : Int) ∧ (k : Int) < (l.length : Int) := by omega
   repeat (first | refine zQ (zA e1 (zA e2 (zA e3 (zA hil (zA hg cI))))) ?_ | refine cP cm ?_ | exact zT)
   have ht : isTp (tpc l (k + 1)) := ⟨l, k + 1, hl, h2, rfl⟩
   exact W_ret (RetT (c' := tpc l (k + 1)) rfl rfl ht.rf ⟨ht, q, .inl hq, rfl⟩)
  ·have d2 : decide ((k : Int) ≥ (l.length : Int)) = true := decide_eq_true (by omega)
   refine zS (zA d1 (zA d2 (zA hil cI))) ?_
   refine wT ?_
   refine zS cI ?_
   exact W_ret (RetT (c' := tpc l k) rfl rfl hrf ⟨⟨l, k, hl, hk, rfl⟩, 0, .inr rfl, rfl⟩)
def boolQ (r : DV) (c' : List DV) : Prop := isTp c' ∧ ∃ b : Bool, r = .bool b
theorem wBool_calls (c : List DV) (n : Nat) (hc : isTp c) (hn : n ≤ 1000000) : TCalls Tryz.prog 19 [.ptr 1048576 0, .int .i64 n] c boolQ := by
 have cn := wNext_calls c n hc hn
 refine MRel_of iswBool (by simp [fnwBool]) ?_
 unfold codewBool
 refine zS cI ?_
 refine callC_lend1 1048576 cn rfl (by simp [lkH]) hc.rf (by simp [rn, fwd1]) fun r c' hr hc' hQ => ?_
 obtain ⟨ht, k, _, rfl⟩ := hQ
 refine zS cI ?_
 exact W_ret (RetT (c' := c') rfl (by simp [lkH, setH]) hc' ⟨ht, _, rfl⟩)
theorem wNew_calls (l : List Int) (hl : l.length ≤ 9223372036854775807) : NCalls Tryz.prog 8 [.sl 1 (l.map (.int .i64))] 10 isTp := by
 have hil := ints_len l
 refine MRel_of iswNew (by simp [fnwNew]) ?_
 unfold codewNew
 by_cases h : 400 < l.length
 ·have d : decide ((400 : Int) < (l.length : Int)) = true := decide_eq_true (by omega)
  have hle : (400 : Int) ≤ l.length := by omega
  refine zS (zA hil (zA d cI)) ?_
  refine wT ?_
  have ht : (l.map (DV.int .i64)).take (Int.toNat 400) = (l.take 400).map (.int .i64) := (List.map_take ..).symm
  have ht2 : isTp (tpc (l.take 400) 0) := ⟨l.take 400, 0, by simp; omega, Nat.zero_le _, rfl⟩
  refine zS (zA hil (zA ht (zA @cS (zA @List.drop_zero.{0} cI)))) ?_
  exact W_ret (RetN (cs := tpc (l.take 400) 0) rfl rfl ht2.rf ht2)
 ·have d : decide ((400 : Int) < (l.length : Int)) = false := decide_eq_false (by omega)
  refine zS (zA hil (zA d cI)) ?_
  refine wFs ?_
  have ht2 : isTp (tpc l 0) := ⟨l, 0, by omega, Nat.zero_le _, rfl⟩
  refine zS (zA @cS cI) ?_
  exact W_ret (RetN (cs := tpc l 0) rfl rfl ht2.rf ht2)
def strOf (S : List (List UInt8)) (r : DV) (c' : List DV) : Prop := isTp c' ∧ ∃ s ∈ S, r = .str s
def plains : List (List UInt8) := [[97], [49, 48], [45, 51, 47, 52], [98, 99, 100], [126], [33], [120, 50], [97, 98, 99, 100, 101, 102, 103, 104, 105, 106, 107, 108, 109, 110, 111, 112, 113, 114, 115, 116, 117, 118, 119, 120, 121, 122, 48, 49, 50, 51, 52, 53]]
def words16 : List (List UInt8) := [[97], [49, 48], [45, 51, 47, 52], [98, 99, 100], [126], [33], [120, 50], [], [97, 32, 98], [10], [127], [97, 98, 99, 100, 101, 102, 103, 104, 105, 106, 107, 108, 109, 110, 111, 112, 113, 114, 115, 116, 117, 118, 119, 120, 121, 122, 48, 49, 50, 51, 52, 53], [97, 98, 99, 100, 101, 102, 103, 104, 105, 106, 107, 108, 109, 110, 111, 112, 113, 114, 115, 116, 117, 118, 119, 120, 121, 122, 48, 49, 50, 51, 52, 53, 54], [121], [122], [119]]
theorem strs_getD {S : List (List UInt8)} {k : Nat} (h : k < S.length) : S.getD k [] ∈ S ∧ (S.map DV.str).getD k .undef = .str (S.getD k []) := by
 rw [List.getD_eq_getElem?_getD, List.getD_eq_getElem?_getD, List.getElem?_map, List.getElem?_eq_getElem h]
 exact ⟨List.getElem_mem h, rfl⟩
theorem lrPlain_calls (c : List DV) (hc : isTp c) : TCalls Tryz.prog 20 [.ptr 1048576 0] c (strOf plains) := by
 have cn := wNext_calls c 8 hc (by decide)
 refine MRel_of islrPlain (by simp [fnlrPlain]) ?_
 unfold codelrPlain
 refine zS (zA @cS (zA @rfm_nil (zA @rfm_str cI))) ?_
 refine callC_lend1 1048576 cn rfl (by simp [lkH]) hc.rf (by simp [rn, fwd1]) fun r c' hr hc' hQ => ?_
 obtain ⟨ht, k, hk, rfl⟩ := hQ
 have e3 : ((k : Int)).toNat = k := Int.toNat_natCast k
 have hlt : (k : Int) < 8 := by omega
 have hkl : k < plains.length := by have : plains.length = 8 := rfl; omega
 obtain ⟨hm, hg⟩ := strs_getD hkl
 refine zS (zA e3 cI) ?_
 exact W_ret (RetT (c' := c') (Q := strOf plains) (by
  show ((plains.map DV.str).getD k .undef).rf = true
  rw [hg]; rfl) rfl hc' (by
  show strOf plains ((plains.map DV.str).getD k .undef) c'
  rw [hg]; exact ⟨ht, _, hm, rfl⟩))
theorem lrWord_calls (c : List DV) (hc : isTp c) : TCalls Tryz.prog 18 [.ptr 1048576 0] c (strOf words16) := by
 have cn := wNext_calls c 16 hc (by decide)
 refine MRel_of islrWord (by simp [fnlrWord]) ?_
 unfold codelrWord
 refine zS (zA @cS (zA @rfm_nil (zA @rfm_str cI))) ?_
 refine callC_lend1 1048576 cn rfl (by simp [lkH]) hc.rf (by simp [rn, fwd1]) fun r c' hr hc' hQ => ?_
 obtain ⟨ht, k, hk, rfl⟩ := hQ
 have e3 : ((k : Int)).toNat = k := Int.toNat_natCast k
 have hlt : (k : Int) < 16 := by omega
 have hkl : k < words16.length := by have : words16.length = 16 := rfl; omega
 obtain ⟨hm, hg⟩ := strs_getD hkl
 refine zS (zA e3 cI) ?_
 exact W_ret (RetT (c' := c') (Q := strOf words16) (by
  show ((words16.map DV.str).getD k .undef).rf = true
  rw [hg]; rfl) rfl hc' (by
  show strOf words16 ((words16.map DV.str).getD k .undef) c'
  rw [hg]; exact ⟨ht, _, hm, rfl⟩))
theorem recD_rf (rs : List (List (List UInt8))) : ∀ d ∈ recD rs, d.rf = true := by
 intro d hd
 unfold recD at hd
 obtain ⟨r, _, rfl⟩ := List.mem_map.1 hd
 rfl
theorem strL_rf (rs : List (List UInt8)) : (strL rs).all DV.rf = true := by
 refine List.all_eq_true.2 fun d hd => ?_
 unfold strL at hd
 obtain ⟨r, _, rfl⟩ := List.mem_map.1 hd
 rfl
theorem strL_app (rs : List (List UInt8)) (s : List UInt8) : strL rs ++ [.str s] = strL (rs ++ [s]) := by unfold strL; simp
theorem recD_app (rs : List (List (List UInt8))) (r : List (List UInt8)) : recD rs ++ [.sl 1 (strL r)] = recD (rs ++ [r]) := by unfold recD; simp
theorem purge_recD (o : Nat) (rs : List (List (List UInt8))) : (recD rs).map (purge o) = recD rs := map_purge o (recD_rf rs)
theorem purge_strL (o : Nat) (rs : List (List UInt8)) : (strL rs).map (purge o) = strL rs := map_purge o (List.all_eq_true.1 (strL_rf rs))
theorem frz_recD (o : Nat) (xs : List DV) (rs : List (List (List UInt8))) : (recD rs).map (frz o xs) = recD rs := map_frz o xs (recD_rf rs)
theorem frz_strL (r : List (List UInt8)) (o : Nat) : frz o (strL r) (.osl 1 o 0 r.length) = .sl 1 (strL r) := by
 have := strL_len r
 simp [frz, this]
 rw [List.take_of_length_le (Nat.le_of_eq this)]
def drawn (odd : Bool) : List (List UInt8) := if odd then words16 else plains
theorem reCell_calls (l : List UInt8) (hl : l.length ≤ 9223372036854775807) : PCalls Tryz.prog 93 [.str l] (.bool (cellB l)) := by
 refine PCalls_of isreCell (by simp [fnreCell]) ?_
 unfold codereCell
 refine zS cI ?_
 refine W_loop (σ := Nat) (fun i => [(0, .str l), (2, .bool false), (3, .int .i64 i)]) (fun _ => []) (fun i => i ≤ l.length ∧ (l.take i).all cellC = true) (fun i => l.length - i) 0 (And.intro (Nat.zero_le _) rfl) ?_ rfl ?_
 ·simp [subF, lk]
 ·rintro i ⟨hi, hall⟩
  try simp only at hi hall ⊢
  by_cases hlt : i < l.length
  ·have dl : decide ((i : Int) < l.length) = true := decide_eq_true (by omega)
   have ei : (i : Int).toNat = i := Int.toNat_natCast i
   have hta := @take_all1 cellC l i hlt hall
   have hbad := @all_bad1 cellC l i hlt
   obtain ⟨c, hc⟩ : ∃ c, l.getD i 0 = c := ⟨_, rfl⟩
   rw [hc] at hta hbad
   have hk : c.toNat < 256 := UInt8.toNat_lt c
   have eb : byteD c = .int .u8 (c.toNat : Nat) := rfl
   have e1 : ((i : Int) + 1) = ((i + 1 : Nat) : Int) := by omega
   refine zS (zA dl cI) ?_
   refine wTs ?_
   by_cases h33 : c.toNat < 33
   ·have d5 : decide (((c.toNat : Nat) : Int) < 33) = true := decide_eq_true (by omega)
    have hcb : cellB l = false := by unfold cellB; rw [hbad (by unfold cellC; rw [decide_eq_false (by omega)]; rfl)]; rfl
    rw [hcb]
    clear hta hbad hall
    refine zS (zA ei (zA hc (zA eb (zA d5 cI)))) ?_
    refine wT ?_
    refine zS cI ?_
    exact W_ret (RetP_1 (.imm rfl))
   ·have d5 : decide (((c.toNat : Nat) : Int) < 33) = false := decide_eq_false (by omega)
    by_cases h126 : 126 < c.toNat
    ·have d6 : decide ((126 : Int) < ((c.toNat : Nat) : Int)) = true := decide_eq_true (by omega)
     have hcb : cellB l = false := by unfold cellB; rw [hbad (by unfold cellC; rw [decide_eq_false (show ¬ c.toNat ≤ 126 by omega), Bool.and_false])]; rfl
     rw [hcb]
     clear hta hbad hall
     refine zS (zA ei (zA hc (zA eb (zA d5 (zA d6 cI))))) ?_
     refine wT ?_
     refine zS cI ?_
     exact W_ret (RetP_1 (.imm rfl))
    ·have d6 : decide ((126 : Int) < ((c.toNat : Nat) : Int)) = false := decide_eq_false (by omega)
     have hta' := hta (by unfold cellC; rw [decide_eq_true (by omega), decide_eq_true (by omega)]; rfl)
     clear hta hbad hall
     (replace hta' := Hid.mk hta')
     refine zS (zA ei (zA hc (zA eb (zA d5 (zA d6 cI))))) ?_
     refine wFs ?_
     refine zS (zA e1 cI) ?_
     exact ⟨i + 1, And.intro hlt hta'.out, by omega, by simp [subF, lk]⟩
  ·have dl : decide ((i : Int) < l.length) = false := decide_eq_false (by omega)
   have hil : i = l.length := by omega
   rw [hil, List.take_length] at hall
   have hcb : cellB l = (decide (1 ≤ l.length) && decide (l.length ≤ 32)) := by unfold cellB; rw [hall]; rfl
   rw [hcb]
   by_cases h1 : 1 ≤ l.length
   ·have d1 : decide ((1 : Int) ≤ (l.length : Int)) = true := decide_eq_true (by omega)
    have d2 : decide ((l.length : Int) ≤ 32) = decide (l.length ≤ 32) := by rw [decide_eq_decide]; omega
    rw [decide_eq_true h1, Bool.true_and, ← d2]
    refine zS (zA dl cI) ?_
    refine W_cond rfl (fun h => by cases h) (fun _ => W_exit ?_)
    refine zS (zA d1 cI) ?_
    exact W_ret (RetP_1 (.imm rfl))
   ·have d1 : decide ((1 : Int) ≤ (l.length : Int)) = false := decide_eq_false (by omega)
    rw [decide_eq_false h1, Bool.false_and]
    refine zS (zA dl cI) ?_
    refine W_cond rfl (fun h => by cases h) (fun _ => W_exit ?_)
    refine zS (zA d1 cI) ?_
    exact W_ret (RetP_1 (.imm rfl))
def reT : DC := dSeq2 (dSeq2 (dSeq2 (dSeq2 (dSeq2 (dSeq2 codereColumns)))))
theorem bys_appP (a b : List UInt8) : bys a ++ bys b = bys (a ++ b) := by unfold bys; rw [List.map_append]
theorem bys_32 (a : List UInt8) : bys a ++ [.int .u8 32] = bys (a ++ [32]) := by rw [← bys_appP]; rfl
theorem bys_10 (a : List UInt8) : bys a ++ [.int .u8 10] = bys (a ++ [10]) := by rw [← bys_appP]; rfl
theorem bytesOf_bys : ∀ l : List UInt8, bytesOf (bys l) = some l
 | [] => rfl
 | c :: r => by
  have ih := bytesOf_bys r
  unfold bys at ih ⊢
  rw [List.map_cons, byteD, bytesOf, ih]
  simp [Dat.byteOf]
theorem rfm_int (k : IntKind) (n : Int) (xs : List DV) : (∀ d ∈ DV.int k n :: xs, d.rf = true) ↔ ∀ d ∈ xs, d.rf = true := by simp [DV.rf]
theorem rfm_nil0 : (∀ d ∈ ([] : List DV), d.rf = true) ↔ True := by simp
theorem wcells_rf (f : Nat → Nat) (m : Nat) : ∀ d ∈ wcells f m, d.rf = true := by
 intro d hd
 unfold wcells at hd
 obtain ⟨c, _, rfl⟩ := List.mem_map.1 hd
 rfl
set_option maxHeartbeats 4000000 in
theorem reTail (recs : List (List (List UInt8))) (m : Nat) (hpos : 0 < recs.length) (h1024 : recs.length ≤ 1024) (hm1 : 1 ≤ m) (hm32 : m ≤ 32) (hlen : ∀ c, c < recs.length → (recs.getD c []).length = m) (hform : formB recs = true) :
  W fnreColumns reT (RetP resreColumns (.tup [.str (colT (wdT recs recs.length) recs m recs.length), .int .i64 0])) [(0, .sl 1 (recD recs)), (2, .str []), (3, .int .i64 0), (7, .osl 1 50 0 m)] [(50, wcells (wdT recs recs.length) m)] := by
 have hln := recD_len recs
 have hge := fun i j => wdT_ge (recs := recs) i j
 have hle := wdT_le hform
 generalize wdT recs recs.length = wd at *
 have hT : Dat.Hid (∀ i, (colT wd recs m i).length ≤ 1089 * i) := ⟨colT_len hm32 hge hle⟩
 have hR : Dat.Hid (∀ i k, (rowT wd (recs.getD i []) k).length ≤ 34 * k) := ⟨fun i k => rowT_len (hge i) hle k⟩
 have hmw := map_purge 115 (wcells_rf wd m)
 (replace hge := Hid.mk hge; replace hle := Hid.mk hle; replace hlen := Hid.mk hlen)
 clear hform
 unfold reT codereColumns
 dsimp only [dSeq2]
 refine zS (zA hln cI) ?_
 refine W_own 12 1 115 rfl (by simp [lkH]) ?_
 refine zE cI ?_
 refine W_loop (σ := Nat × List UInt8) (fun s => [(0, .sl 1 (recD recs)), (3, .int .i64 0), (7, .osl 1 50 0 m), (12, .osl 1 115 0 s.2.length), (79, .sl 1 (recD recs)), (80, .int .i64 recs.length), (81, .int .i64 s.1)]) (fun s => [(50, wcells wd m), (115, bys s.2)]) (fun s => s.1 ≤ recs.length ∧ s.2 = colT wd recs m s.1) (fun s => recs.length - s.1) (0, []) (And.intro (Nat.zero_le _) rfl) ?_ rfl ?_
 ·simp [subF, lk]
 ·rintro ⟨i, X⟩ ⟨hi, hX⟩
  try simp only at hi hX ⊢
  have hxl := hT.out i
  by_cases hlt : i < recs.length
  ·have dl : decide ((i : Int) < recs.length) = true := decide_eq_true (by omega)
   have ei : (i : Int).toNat = i := Int.toNat_natCast i
   have hgi := recD_getD hlt
   have hsi := strL_len (recs.getD i [])
   have hri := hlen.out i hlt
   rw [hri] at hsi
   have e1 : ((i : Int) + 1) = ((i + 1 : Nat) : Int) := by omega
   rw [← hX] at hxl
   refine zS (zA dl cI) ?_
   refine wTs ?_
   refine zS (zA ei (zA hln (zA hgi (zA hsi cI)))) ?_
   refine W_loop (σ := Nat × List UInt8) (fun s => [(0, .sl 1 (recD recs)), (3, .int .i64 0), (7, .osl 1 50 0 m), (12, .osl 1 115 0 s.2.length), (79, .sl 1 (recD recs)), (80, .int .i64 recs.length), (81, .int .i64 i), (85, .sl 1 (strL (recs.getD i []))), (86, .int .i64 m), (87, .int .i64 s.1)]) (fun s => [(50, wcells wd m), (115, bys s.2)]) (fun s => s.1 ≤ m ∧ s.2 = X ++ rowT wd (recs.getD i []) s.1) (fun s => m - s.1) (0, X) (And.intro (Nat.zero_le _) (by simp [rowT_zero])) ?_ rfl ?_
   ·simp [subF, lk]
   ·rintro ⟨j, Y⟩ ⟨hj, hY⟩
    try simp only at hj hY ⊢
    have hyl := hR.out i j
    have hYl : Y.length ≤ 1200000 := by rw [hY, List.length_append]; omega
    by_cases hjm : j < m
    ·have dj : decide ((j : Int) < m) = true := decide_eq_true (by omega)
     have ej : (j : Int).toNat = j := Int.toNat_natCast j
     have hgj := strL_getD (r := recs.getD i []) (j := j) (by omega)
     have e1j : ((j : Int) + 1) = ((j + 1 : Nat) : Int) := by omega
     have hwl := wcells_len wd m
     have hwg := wcells_getD (f := wd) hjm
     have hwj := hle.out j
     have hsj := hge.out i j
     have hnx := rowT_succ wd (recs.getD i []) j
     generalize (recs.getD i []).getD j [] = S at *
     refine zS (zA dj cI) ?_
     refine wTs ?_
     refine zS (zA ej (zA hsi (zA hgj cI))) ?_
     refine W_join (ι := List UInt8) (fun Z => Z = Y ++ (if 0 < j then [32, 32] else [])) (fun Z => [(0, .sl 1 (recD recs)), (3, .int .i64 0), (7, .osl 1 50 0 m), (12, .osl 1 115 0 Z.length), (15, .int .i64 j), (16, .str S), (79, .sl 1 (recD recs)), (80, .int .i64 recs.length), (81, .int .i64 i), (85, .sl 1 (strL (recs.getD i []))), (86, .int .i64 m), (87, .int .i64 j)]) (fun Z => [(50, wcells wd m), (115, bys Z)]) ?_ ?_
     ·by_cases hj0 : 0 < j
      ·have d0 : decide ((0 : Int) < (j : Int)) = true := decide_eq_true (by omega)
       have el : Y.length + 2 = (Y ++ [32, 32]).length := by simp
       have hbl := bys_len Y
       have e22 : ([32, 32] : List UInt8).length = 2 := rfl
       refine W_cond (by rw [d0]; rfl) (fun _ => ?_) (fun h => by cases h)
       refine zS (zA hbl (zA e22 (zA bys_appP (zA @purge_bys (zA hmw (zA el cI)))))) ?_
       exact ⟨Y ++ [32, 32], by rw [if_pos hj0], by simp [subF, lk, purge, DV.has], rfl⟩
      ·have d0 : decide ((0 : Int) < (j : Int)) = false := decide_eq_false (by omega)
       refine W_cond (by rw [d0]; rfl) (fun h => by cases h) (fun _ => W_skip ?_)
       exact ⟨Y, by rw [if_neg hj0, List.append_nil], by simp [subF, lk, purge, DV.has], rfl⟩
     ·rintro Z hZ
      have hZl : Z.length ≤ 1200002 := by
       rw [hZ, List.length_append]
       split
       ·simp only [List.length_cons, List.length_nil]; omega
       ·simp only [List.length_nil]; omega
      refine zS cI ?_
      refine W_loop (σ := Nat × List UInt8) (fun s => [(0, .sl 1 (recD recs)), (3, .int .i64 0), (7, .osl 1 50 0 m), (12, .osl 1 115 0 s.2.length), (15, .int .i64 j), (16, .str S), (17, .int .i64 ((S.length + s.1 : Nat) : Int)), (79, .sl 1 (recD recs)), (80, .int .i64 recs.length), (81, .int .i64 i), (85, .sl 1 (strL (recs.getD i []))), (86, .int .i64 m), (87, .int .i64 j)]) (fun s => [(50, wcells wd m), (115, bys s.2)]) (fun s => s.1 ≤ wd j - S.length ∧ s.2 = Z ++ List.replicate s.1 32) (fun s => wd j - S.length - s.1) (0, Z) (And.intro (Nat.zero_le _) (by simp)) ?_ rfl ?_
      ·simp [subF, lk]
      ·rintro ⟨p, V⟩ ⟨hp, hV⟩
       try simp only at hp hV ⊢
       have hVl : V.length ≤ 1200040 := by rw [hV, List.length_append, List.length_replicate]; omega
       by_cases hpt : S.length + p < wd j
       ·have dp : decide (((S.length + p : Nat) : Int) < (wd j : Int)) = true := decide_eq_true (by omega)
        have hbl := bys_len V
        have el : V.length + 1 = (V ++ [32]).length := by simp
        have e3 : (((S.length + p : Nat) : Int) + 1) = ((S.length + (p + 1) : Nat) : Int) := by omega
        refine zS (zA ej (zA hwl (zA hwg (zA dp cI)))) ?_
        refine wTs ?_
        refine zS (zA @cS (zA @rfm_nil0 (zA @rfm_int (zA hbl cI)))) ?_
        refine And.intro (And.intro (by omega) (And.intro (by omega) (fun d hd => by rw [List.mem_singleton.1 hd]; rfl))) ?_
        refine zS (zA @bys_32 (zA @purge_bys (zA hmw (zA el (zA e3 cI))))) ?_
        exact ⟨(p + 1, V ++ [32]), And.intro (by omega) (by simp only; rw [hV, List.append_assoc, ← List.replicate_succ']), by simp only; omega, by simp [subF, lk, purge, DV.has], rfl⟩
       ·have dp : decide (((S.length + p : Nat) : Int) < (wd j : Int)) = false := decide_eq_false (by omega)
        have hbl := bys_len V
        have el : V.length + S.length = (V ++ S).length := by simp
        refine zS (zA ej (zA hwl (zA hwg (zA dp cI)))) ?_
        refine W_cond rfl (fun h => by cases h) (fun _ => W_exit ?_)
        refine zS (zA hbl (zA bys_appP (zA @purge_bys (zA hmw (zA el (zA e1j cI)))))) ?_
        refine ⟨(j + 1, V ++ S), And.intro hjm ?_, by simp only; omega, by simp [subF, lk, purge, DV.has], rfl⟩
        simp only
        rw [hV, hZ, hY, hnx]
        have hpw : p = wd j - S.length := by omega
        rw [hpw]
        unfold cellT
        simp
    ·have dj : decide ((j : Int) < m) = false := decide_eq_false (by omega)
     have hjm2 : j = m := by omega
     have hbl := bys_len Y
     have el : Y.length + 1 = (Y ++ [10]).length := by simp
     refine zS (zA dj cI) ?_
     refine W_cond rfl (fun h => by cases h) (fun _ => W_exit ?_)
     refine zS (zA @cS (zA @rfm_nil0 (zA @rfm_int (zA hbl cI)))) ?_
     refine And.intro (And.intro (by omega) (And.intro (by omega) (fun d hd => by rw [List.mem_singleton.1 hd]; rfl))) ?_
     refine zS (zA @bys_10 (zA @purge_bys (zA hmw (zA el (zA e1 cI))))) ?_
     refine ⟨(i + 1, Y ++ [10]), And.intro hlt ?_, by simp only; omega, by simp [subF, lk, purge, DV.has], rfl⟩
     simp only
     rw [hY, hX, hjm2, colT_succ, List.append_assoc]
  ·have dl : decide ((i : Int) < recs.length) = false := decide_eq_false (by omega)
   have hil : i = recs.length := by omega
   have hbl := bys_len X
   have hto := List.take_of_length_le (Nat.le_of_eq hbl)
   refine zS (zA dl cI) ?_
   refine W_cond rfl (fun h => by cases h) (fun _ => W_exit ?_)
   refine zS (zA hbl (zA @List.drop_zero.{0} (zA hto (zA @bytesOf_bys cI)))) ?_
   rw [hX, hil]
   exact W_ret (RetP_2 (.imm rfl) (.imm rfl))
set_option maxHeartbeats 4000000 in
theorem reColumns_calls (recs : List (List (List UInt8))) (hb1 : recs.length ≤ 9223372036854775807) (hb2 : ∀ i, (recs.getD i []).length ≤ 9223372036854775807) (hb3 : ∀ i j, ((recs.getD i []).getD j []).length ≤ 9223372036854775807) :
  PCalls Tryz.prog 52 [.sl 1 (recD recs)] (colR recs) := by
 refine PCalls_of isreColumns (by simp [fnreColumns]) ?_
 unfold codereColumns
 have hln := recD_len recs
 by_cases h1 : recs.length < 1
 ·have d1 : decide ((recs.length : Int) < 1) = true := decide_eq_true (by omega)
  have hR : colR recs = .tup [.str [], .int .i64 6] := by
   unfold colR shapeOk
   rw [decide_eq_false (show ¬ 1 ≤ recs.length by omega)]; rfl
  rw [hR]
  refine zS (zA hln (zA d1 cI)) ?_
  refine wT ?_
  refine zS cI ?_
  refine W_ret ?_
  exact RetP_2 (.imm rfl) (.imm rfl)
 ·have d1 : decide ((recs.length : Int) < 1) = false := decide_eq_false (by omega)
  by_cases h2 : 1024 < recs.length
  ·have d2 : decide ((1024 : Int) < (recs.length : Int)) = true := decide_eq_true (by omega)
   have hR : colR recs = .tup [.str [], .int .i64 6] := by
    unfold colR shapeOk
    rw [decide_eq_false (show ¬ recs.length ≤ 1024 by omega), Bool.and_false]; rfl
   rw [hR]
   refine zS (zA hln (zA d1 (zA d2 cI))) ?_
   refine wT ?_
   refine zS cI ?_
   refine W_ret ?_
   exact RetP_2 (.imm rfl) (.imm rfl)
  ·have d2 : decide ((1024 : Int) < (recs.length : Int)) = false := decide_eq_false (by omega)
   refine zS (zA hln (zA d1 (zA d2 cI))) ?_
   refine wFs ?_
   have hpos : 0 < recs.length := by omega
   have hg0 := recD_getD hpos
   have hh : recs.getD 0 [] = recs.headD [] := by cases recs <;> rfl
   rw [hh] at hg0
   have hm := hb2 0
   rw [hh] at hm
   obtain ⟨m, hmd⟩ : ∃ m, (recs.headD []).length = m := ⟨_, rfl⟩
   have hsl := strL_len (recs.headD [])
   rw [hmd] at hsl hm
   have e0 : (Int.toNat 0) = 0 := rfl
   refine zS (zA hln (zA e0 (zA hg0 (zA hsl cI)))) ?_
   clear hg0 hsl
   refine zS (zA hln cI) ?_
   refine W_loop (σ := Nat) (fun i => [(0, .sl 1 (recD recs)), (2, .str []), (3, .int .i64 0), (4, .int .i64 m), (30, .sl 1 (recD recs)), (31, .int .i64 recs.length), (32, .int .i64 i)]) (fun _ => []) (fun i => i ≤ recs.length ∧ ∀ c, c < i → (recs.getD c []).length = m ∧ 1 ≤ m ∧ m ≤ 32) (fun i => recs.length - i) 0 (And.intro (Nat.zero_le _) (fun c hc => absurd hc (by omega))) ?_ rfl ?_
   ·simp [subF, lk]
   ·rintro i ⟨hi, hall⟩
    try simp only at hi hall ⊢
    by_cases hlt : i < recs.length
    ·have dl : decide ((i : Int) < recs.length) = true := decide_eq_true (by omega)
     have ei : (i : Int).toNat = i := Int.toNat_natCast i
     have hgi := recD_getD hlt
     have hsi := strL_len (recs.getD i [])
     have hbd := hb2 i
     have e1 : ((i : Int) + 1) = ((i + 1 : Nat) : Int) := by omega
     obtain ⟨q, hq⟩ : ∃ q, (recs.getD i []).length = q := ⟨_, rfl⟩
     rw [hq] at hsi hbd
     have hbad : ¬ (q = m ∧ 1 ≤ m ∧ m ≤ 32) → colR recs = .tup [.str [], .int .i64 6] := fun hn => by
      have hs : shapeB recs = false := shape_bad hlt (by
       rw [hq, hmd]
       by_cases a1 : q = m
       ·by_cases a2 : 1 ≤ m
        ·rw [decide_eq_false (show ¬ m ≤ 32 from fun a3 => hn ⟨a1, a2, a3⟩)]; simp
        ·rw [decide_eq_false a2]; simp
       ·rw [decide_eq_false a1]; rfl)
      unfold colR shapeOk
      rw [hs, Bool.and_false]; rfl
     refine zS (zA dl cI) ?_
     refine wTs ?_
     by_cases a1 : q = m
     ·have g1 : decide (¬ (q : Int) = (m : Int)) = false := decide_eq_false (by omega)
      by_cases a2 : 1 ≤ m
      ·have g2 : decide ((m : Int) < 1) = false := decide_eq_false (by omega)
       by_cases a3 : m ≤ 32
       ·have g3 : decide ((32 : Int) < (m : Int)) = false := decide_eq_false (by omega)
        have hall' : Dat.Hid (∀ c, c < i + 1 → (recs.getD c []).length = m ∧ 1 ≤ m ∧ m ≤ 32) := ⟨fun c hc => by
         rcases Nat.lt_or_ge c i with hci | hci
         ·exact hall c hci
         ·rw [show c = i by omega, hq]; exact ⟨a1, a2, a3⟩⟩
        clear hall hbad
        refine zS (zA ei (zA hln (zA hgi (zA hsi (zA g1 (zA g2 (zA g3 cI))))))) ?_
        refine wFs ?_
        refine zS (zA e1 cI) ?_
        exact ⟨i + 1, And.intro hlt hall'.out, by omega, by simp [subF, lk]⟩
       ·have g3 : decide ((32 : Int) < (m : Int)) = true := decide_eq_true (by omega)
        rw [hbad (fun h => a3 h.2.2)]
        clear hall hbad
        refine zS (zA ei (zA hln (zA hgi (zA hsi (zA g1 (zA g2 (zA g3 cI))))))) ?_
        refine wT ?_
        refine zS cI ?_
        refine W_ret ?_
        exact RetP_2 (.imm rfl) (.imm rfl)
      ·have g2 : decide ((m : Int) < 1) = true := decide_eq_true (by omega)
       rw [hbad (fun h => a2 h.2.1)]
       clear hall hbad
       refine zS (zA ei (zA hln (zA hgi (zA hsi (zA g1 (zA g2 cI)))))) ?_
       refine wT ?_
       refine zS cI ?_
       refine W_ret ?_
       exact RetP_2 (.imm rfl) (.imm rfl)
     ·have g1 : decide (¬ (q : Int) = (m : Int)) = true := decide_eq_true (by omega)
      rw [hbad (fun h => a1 h.1)]
      clear hall hbad
      refine zS (zA ei (zA hln (zA hgi (zA hsi (zA g1 cI))))) ?_
      refine wT ?_
      refine zS cI ?_
      refine W_ret ?_
      exact RetP_2 (.imm rfl) (.imm rfl)
    ·have dl : decide ((i : Int) < recs.length) = false := decide_eq_false (by omega)
     have hil : i = recs.length := by omega
     subst hil
     have hm1 := (hall 0 hpos).2.1
     have hm32 := (hall 0 hpos).2.2
     have hlen : ∀ c, c < recs.length → (recs.getD c []).length = m := fun c hc => (hall c hc).1
     have hsh : shapeOk recs = true := by
      unfold shapeOk shapeB
      rw [decide_eq_true (show 1 ≤ recs.length by omega), decide_eq_true (show recs.length ≤ 1024 by omega), Bool.true_and, Bool.true_and]
      refine List.all_eq_true.2 fun r hr => ?_
      obtain ⟨c, hc, rfl⟩ := List.mem_iff_getElem.1 hr
      have := hlen c hc
      rw [List.getD_eq_getElem?_getD, List.getElem?_eq_getElem hc] at this
      simp only [Option.getD_some] at this
      rw [this, hmd, decide_eq_true rfl, decide_eq_true hm1, decide_eq_true hm32]; rfl
     clear hall
     (replace hlen := Hid.mk hlen)
     refine zS (zA dl cI) ?_
     refine W_cond rfl (fun h => by cases h) (fun _ => W_exit ?_)
     have hrp : rep m [DV.int .i64 0] = wcells (wdT recs 0) m := wcells_rep recs m
     have hcap : (m : Int) * 8 ≤ 281474976710656 := by omega
     refine zS (zA hrp (zA @nbreColumns cI)) ?_
     refine zS (zA hln cI) ?_
     refine W_loop (σ := Nat) (fun i => [(0, .sl 1 (recD recs)), (2, .str []), (3, .int .i64 0), (7, .osl 1 50 0 m), (51, .sl 1 (recD recs)), (52, .int .i64 recs.length), (53, .int .i64 i)]) (fun i => [(50, wcells (wdT recs i) m)]) (fun i => i ≤ recs.length ∧ ∀ c, c < i → ∀ j, j < m → cellB ((recs.getD c []).getD j []) = true) (fun i => recs.length - i) 0 (And.intro (Nat.zero_le _) (fun c hc => absurd hc (by omega))) ?_ rfl ?_
     ·simp [subF, lk]
     ·rintro i ⟨hi2, hok⟩
      try simp only at hi2 hok ⊢
      by_cases hlt2 : i < recs.length
      ·have dl2 : decide ((i : Int) < recs.length) = true := decide_eq_true (by omega)
       have ei : (i : Int).toNat = i := Int.toNat_natCast i
       have hgi := recD_getD hlt2
       have hsi := strL_len (recs.getD i [])
       have hri := hlen.out i hlt2
       rw [hri] at hsi
       have e1 : ((i : Int) + 1) = ((i + 1 : Nat) : Int) := by omega
       replace hok := Dat.Hid.mk hok
       refine zS (zA dl2 cI) ?_
       refine wTs ?_
       refine zS (zA ei (zA hln (zA hgi (zA hsi cI)))) ?_
       refine W_loop (σ := Nat) (fun j => [(0, .sl 1 (recD recs)), (2, .str []), (3, .int .i64 0), (7, .osl 1 50 0 m), (51, .sl 1 (recD recs)), (52, .int .i64 recs.length), (53, .int .i64 i), (57, .sl 1 (strL (recs.getD i []))), (58, .int .i64 m), (59, .int .i64 j)]) (fun j => [(50, wcells (wmix recs i j) m)]) (fun j => j ≤ m ∧ ∀ c, c < j → cellB ((recs.getD i []).getD c []) = true) (fun j => m - j) 0 (And.intro (Nat.zero_le _) (fun c hc => absurd hc (by omega))) ?_ (by rw [wmix_zero]) ?_
       ·simp [subF, lk]
       ·rintro j ⟨hj, hcj⟩
        try simp only at hj hcj ⊢
        by_cases hjm : j < m
        ·have dj : decide ((j : Int) < m) = true := decide_eq_true (by omega)
         have ej : (j : Int).toNat = j := Int.toNat_natCast j
         have hgj := strL_getD (r := recs.getD i []) (j := j) (by omega)
         have hbd := hb3 i j
         have cc := reCell_calls ((recs.getD i []).getD j []) (by omega)
         have e1j : ((j : Int) + 1) = ((j + 1 : Nat) : Int) := by omega
         have hwl := wcells_len (wmix recs i j) m
         have hwg := wcells_getD (f := wmix recs i j) hjm
         have hws := wcells_set (recs := recs) hlt2 hjm
         have hmx : wmix recs i j j = wdT recs i j := by unfold wmix; rw [if_neg (Nat.lt_irrefl _)]
         rw [hmx] at hwg
         have hform := @form_bad recs i j hlt2 (by omega)
         have hnext : cellB ((recs.getD i []).getD j []) = true → ∀ c, c < j + 1 → cellB ((recs.getD i []).getD c []) = true := fun h c hc => by
          rcases Nat.lt_or_ge c j with hcj2 | hcj2
          ·exact hcj c hcj2
          ·rw [show c = j by omega]; exact h
         generalize (recs.getD i []).getD j [] = S at *
         refine zS (zA dj cI) ?_
         refine wTs ?_
         cases hcb : cellB S
         ·rw [hcb] at cc
          have hR : colR recs = .tup [.str [], .int .i64 4] := by
           unfold colR
           rw [hsh, hform hcb]; rfl
          rw [hR]
          clear hnext hform hcj
          repeat (first | refine zQ (zA ej (zA hsi (zA hgj cI))) ?_ | refine cP cc ?_ | exact zT)
          refine wT ?_
          refine zS cI ?_
          refine W_ret ?_
          exact RetP_2 (.imm rfl) (.imm rfl)
         ·rw [hcb] at cc
          have hnx := Dat.Hid.mk (hnext hcb)
          have emax : (if ((wdT recs i j : Nat) : Int) < (S.length : Int) then (S.length : Int) else ((wdT recs i j : Nat) : Int)) = ((max (wdT recs i j) S.length : Nat) : Int) := by
           split <;> omega
          clear hnext hform hcj
          repeat (first | refine zQ (zA ej (zA hsi (zA hgj cI))) ?_ | refine cP cc ?_ | exact zT)
          refine wFs ?_
          refine zS (zA ej (zA hwl (zA hwg (zA emax (zA hws (zA e1j cI)))))) ?_
          exact ⟨j + 1, And.intro hjm hnx.out, by omega, by simp [subF, lk]⟩
        ·have dj : decide ((j : Int) < m) = false := decide_eq_false (by omega)
         have hjm2 : j = m := by omega
         subst hjm2
         have hnx : Dat.Hid (∀ c, c < i + 1 → ∀ q, q < j → cellB ((recs.getD c []).getD q []) = true) := ⟨fun c hc q hq => by
          rcases Nat.lt_or_ge c i with hci | hci
          ·exact hok.out c hci q hq
          ·rw [show c = i by omega]; exact hcj q hq⟩
         clear hcj hok
         rw [wmix_full]
         refine zS (zA dj cI) ?_
         refine W_cond rfl (fun h => by cases h) (fun _ => W_exit ?_)
         refine zS (zA e1 cI) ?_
         exact ⟨i + 1, And.intro hlt2 hnx.out, by omega, by simp [subF, lk]⟩
      ·have dl2 : decide ((i : Int) < recs.length) = false := decide_eq_false (by omega)
       have hil2 : i = recs.length := by omega
       subst hil2
       have hform : formB recs = true := form_ok fun c hc q hq => hok c hc q (by rw [hlen.out c hc] at hq; exact hq)
       have hR : colR recs = .tup [.str (colT (wdT recs recs.length) recs m recs.length), .int .i64 0] := by
        unfold colR
        rw [hsh, hform, hmd]; rfl
       rw [hR]
       clear hok
       refine zS (zA dl2 cI) ?_
       refine W_cond rfl (fun h => by cases h) (fun _ => W_exit ?_)
       refine zE cI ?_
       have ht := reTail recs m hpos (by omega) hm1 hm32 hlen.out hform
       unfold reT codereColumns at ht
       dsimp only [dSeq2] at ht
       exact W_sub (by simp [subF, lk]) ht
theorem split_calls (s : List UInt8) (c : UInt8) (h : s.length < 4294967281) : PCalls Tryz.prog 57 [.str s, .str [c]] (.sl 1 (strL (spl1 c s))) :=
 PCalls_split (g := 1) (by kernel_rfl) fun m w hm => Tryz.strings_Split ⟨s.toArray⟩ ⟨#[c]⟩ m w (by show s.toArray.size < _; simpa using h) hm (Nat.le_refl 1)
theorem suffix_calls (s p : List UInt8) (h : s.length ≤ 9223372036854775807) : PCalls Tryz.prog 67 [.str s, .str p] (.bool (Lib.hasSuffix s p)) :=
 PCalls_suffix fun w => Tryz.strings_HasSuffix ⟨s.toArray⟩ ⟨p.toArray⟩ w (by show s.toArray.size ≤ _; simpa using h)
def linesD (s : List UInt8) : DV := if Lib.hasSuffix s [10] = true then .tup [.sl 1 (strL (spl1 10 (s.take (s.length - 1)))), .bool true] else .tup [.nils, .bool false]
theorem rpLines_calls (s : List UInt8) (h : s.length < 4294967281) : PCalls Tryz.prog 44 [.str s] (linesD s) := by
 have c1 := suffix_calls s [10] (by omega)
 refine PCalls_of isrpLines (by simp [fnrpLines]) ?_
 unfold coderpLines
 unfold linesD
 cases hs : Lib.hasSuffix s [10]
 ·rw [hs] at c1
  rw [if_neg (by decide)]
  repeat (first | refine zQ cI ?_ | refine cP c1 ?_ | exact zT)
  refine wT ?_
  refine zS cI ?_
  exact W_ret (RetP_2 (.imm rfl) (.imm rfl))
 ·rw [hs] at c1
  rw [if_pos rfl]
  obtain ⟨t, rfl⟩ := (suffix_10 s).1 hs
  have hl : (t ++ [10]).length = t.length + 1 := by simp
  have ht : (t ++ [10]).take t.length = t := by simp
  have e1 : ((t.length + 1 : Nat) : Int) - 1 = (t.length : Int) := by omega
  have e2 : (t.length : Int).toNat = t.length := Int.toNat_natCast _
  rw [hl] at h ⊢
  rw [show t.length + 1 - 1 = t.length by omega, ht]
  have c2 := split_calls t 10 (by omega)
  have hle : (t.length : Int) ≤ ((t.length + 1 : Nat) : Int) := by omega
  repeat (first | refine zQ (zA hl cI) ?_ | refine cP c1 ?_ | exact zT)
  refine wFs ?_
  repeat (first | refine zQ (zA hl (zA e1 (zA e2 (zA ht (zA @List.drop_zero.{0} cI))))) ?_ | refine cP c2 ?_ | exact zT)
  exact W_ret (RetP_2 (.imm rfl) (.imm rfl))
theorem frz_recD' (R : List (List Bs)) (o : Nat) : frz o (recD R) (.osl 1 o 0 R.length) = .sl 1 (recD R) := by
 have := recD_len R
 simp [frz, this]
 rw [List.take_of_length_le (Nat.le_of_eq this)]
set_option maxHeartbeats 2000000 in
theorem rpParse_calls (s : Bs) (hs : s.length ≤ 1000000) : PCalls Tryz.prog 30 [.str s] (parD s) := by
 have c0 := rpLines_calls s (by omega)
 refine PCalls_of isrpParse (by simp [fnrpParse]) ?_
 unfold coderpParse
 unfold linesD at c0
 cases hsf : Lib.hasSuffix s [10]
 ·rw [hsf, if_neg (by decide)] at c0
  have hp : parD s = .tup [.nils, .int .i64 3] := parD_bad fun h => by rw [(suffix_10 s).2 h] at hsf; cases hsf
  rw [hp]
  repeat (first | refine zQ cI ?_ | refine cP c0 ?_ | exact zT)
  refine wT ?_
  refine zS cI ?_
  exact W_ret (RetP_2 (.imm rfl) (.imm rfl))
 ·obtain ⟨t, rfl⟩ := (suffix_10 s).1 hsf
  have htk : (t ++ [10]).take ((t ++ [10]).length - 1) = t := by simp
  rw [hsf, if_pos rfl, htk] at c0
  clear htk
  have hwl := words_lines t
  have hsl := strL_len (spl1 10 t)
  have hll := spl1_len 10 t
  have htl : t.length + 1 ≤ 1000000 := by simpa using hs
  have hmem := spl1_mem 10 t
  have hrb := recB_words (t ++ [10])
  rw [hwl] at hrb
  have hpD : parD (t ++ [10]) = if colP ((spl1 10 t).map lineW) = some (t ++ [10]) then .tup [.sl 1 (recD ((spl1 10 t).map lineW)), .int .i64 0] else .tup [.nils, .int .i64 3] := by unfold parD; rw [hwl]
  generalize spl1 10 t = lns at *
  by_cases hm : 1024 < lns.length
  ·have d1 : decide ((1024 : Int) < (lns.length : Int)) = true := decide_eq_true (by omega)
   rw [colP_many (by simpa using hm), if_neg (by simp)] at hpD
   rw [hpD]
   repeat (first | refine zQ (zA hsl (zA d1 cI)) ?_ | refine cP c0 ?_ | exact zT)
   refine wT ?_
   refine zS cI ?_
   exact W_ret (RetP_2 (.imm rfl) (.imm rfl))
  ·have d1 : decide ((1024 : Int) < (lns.length : Int)) = false := decide_eq_false (by omega)
   rw [hpD]
   clear hpD hwl
   repeat (first | refine zQ (zA hsl (zA d1 cI)) ?_ | refine cP c0 ?_ | exact zT)
   refine wFs ?_
   refine zS (zA hsl cI) ?_
   refine W_own 6 1 49 rfl (by simp [lkH]) ?_
   refine zE cI ?_
   (replace hmem := Hid.mk hmem; replace hrb := Hid.mk hrb)
   refine W_loop (σ := Nat × List (List Bs)) (fun s => [(0, .str (t ++ [10])), (6, .osl 1 49 0 s.2.length), (26, .sl 1 (strL lns)), (27, .int .i64 lns.length), (28, .int .i64 s.1)]) (fun s => [(49, recD s.2)]) (fun s => s.1 ≤ lns.length ∧ s.2 = (lns.take s.1).map lineW) (fun s => lns.length - s.1) (0, []) (And.intro (Nat.zero_le _) rfl) ?_ rfl ?_
   ·simp [subF, lk]
   ·rintro ⟨i, R⟩ ⟨hi, hR⟩
    try simp only at hi hR ⊢
    have hRl : R.length = i := by rw [hR]; simp; omega
    have hrl := recD_len R
    by_cases hlt : i < lns.length
    ·have dl : decide ((i : Int) < lns.length) = true := decide_eq_true (by omega)
     have ei : (i : Int).toNat = i := Int.toNat_natCast i
     have hgi := strL_getD (r := lns) hlt
     have e1 : ((i : Int) + 1) = ((i + 1 : Nat) : Int) := by omega
     have hln : (lns.getD i []).length ≤ t.length := hmem.out _ (by rw [List.getD_eq_getElem?_getD, List.getElem?_eq_getElem hlt]; exact List.getElem_mem hlt)
     have hRn : (lns.take (i + 1)).map lineW = R ++ [lineW (lns.getD i [])] := by
      rw [hR, List.take_add_one, List.getElem?_eq_getElem hlt, List.map_append, List.getD_eq_getElem?_getD, List.getElem?_eq_getElem hlt]; rfl
     have hps := spl1_len 32 (lns.getD i [])
     have c1 := split_calls (lns.getD i []) 32 (by omega)
     have hpl := strL_len (spl1 32 (lns.getD i []))
     have hlw : lineW (lns.getD i []) = fl (spl1 32 (lns.getD i [])) := rfl
     rw [hlw] at hRn
     clear hlw
     generalize spl1 32 (lns.getD i []) = ps at *
     generalize lns.getD i [] = ln at *
     refine zS (zA dl cI) ?_
     refine wTs ?_
     repeat (first | refine zQ (zA ei (zA hsl (zA hgi (zA hpl cI)))) ?_ | refine cP c1 ?_ | exact zT)
     refine W_own 9 1 44 rfl (by simp [lkH]) ?_
     refine zE cI ?_
     refine W_loop (σ := Nat × List Bs) (fun s => [(0, .str (t ++ [10])), (6, .osl 1 49 0 R.length), (9, .osl 1 44 0 s.2.length), (26, .sl 1 (strL lns)), (27, .int .i64 lns.length), (28, .int .i64 i), (33, .sl 1 (strL ps)), (34, .int .i64 ps.length), (35, .int .i64 s.1)]) (fun s => [(44, strL s.2), (49, recD R)]) (fun s => s.1 ≤ ps.length ∧ s.2 = fl (ps.take s.1)) (fun s => ps.length - s.1) (0, []) (And.intro (Nat.zero_le _) rfl) ?_ rfl ?_
     ·simp [subF, lk]
     ·rintro ⟨j, r⟩ ⟨hj, hr⟩
      try simp only at hj hr ⊢
      have hfl := fl_len (ps.take j)
      rw [← hr, List.length_take] at hfl
      have hsr := strL_len r
      by_cases hjt : j < ps.length
      ·have dj : decide ((j : Int) < ps.length) = true := decide_eq_true (by omega)
       have ej : (j : Int).toNat = j := Int.toNat_natCast j
       have hgj := strL_getD (r := ps) hjt
       have e1j : ((j : Int) + 1) = ((j + 1 : Nat) : Int) := by omega
       have hrn : fl (ps.take (j + 1)) = if ps.getD j [] = [] then r else r ++ [ps.getD j []] := by
        rw [List.take_add_one, List.getElem?_eq_getElem hjt, Option.toList_some, fl_app, ← hr, List.getD_eq_getElem?_getD, List.getElem?_eq_getElem hjt]; rfl
       generalize ps.getD j [] = p at *
       refine zS (zA dj cI) ?_
       refine wTs ?_
       by_cases hp : p = []
       ·rw [if_pos hp] at hrn
        have dp : decide (¬ p = []) = false := decide_eq_false (fun h => h hp)
        refine zS (zA ej (zA hpl (zA hgj (zA dp cI)))) ?_
        refine wFs ?_
        refine zS (zA e1j cI) ?_
        exact ⟨(j + 1, r), And.intro hjt hrn.symm, by simp only; omega, by simp [subF, lk], rfl⟩
       ·rw [if_neg hp] at hrn
        have dp : decide (¬ p = []) = true := decide_eq_true hp
        have el : r.length + 1 = (r ++ [p]).length := by simp
        refine zS (zA ej (zA hpl (zA hgj (zA dp cI)))) ?_
        refine wT ?_
        refine zS (zA @cS (zA @rfm_nil (zA @rfm_str (zA hsr cI)))) ?_
        refine And.intro (And.intro (by omega) (And.intro (by omega) (fun d hd => by rw [List.mem_singleton.1 hd]; rfl))) ?_
        refine zS (zA e1j (zA @strL_app (zA @purge_strL (zA @purge_recD (zA el cI))))) ?_
        exact ⟨(j + 1, r ++ [p]), And.intro hjt hrn.symm, by simp only; omega, by simp [subF, lk, purge, DV.has], rfl⟩
      ·have dj : decide ((j : Int) < ps.length) = false := decide_eq_false (by omega)
       have hjl : j = ps.length := by omega
       rw [hjl, List.take_length] at hr
       refine zS (zA dj cI) ?_
       refine W_cond rfl (fun h => by cases h) (fun _ => W_exit ?_)
       refine zE cI ?_
       refine W_freeze 44 (cells := strL r) rfl (strL_rf r) ?_
       have hfz := frz_strL r 44
       have e4 : R.length + 1 = (R ++ [r]).length := by simp
       refine zS (zA hfz (zA @cS (zA @rfm_nil (zA @rfm_sl (zA hrl (zA @frz_recD cI)))))) ?_
       refine And.intro (And.intro (by omega) (And.intro (by omega) (fun d hd => by rw [List.mem_singleton.1 hd]; rfl))) ?_
       refine zS (zA @purge_recD (zA @recD_app (zA e1 (zA e4 cI)))) ?_
       exact ⟨(i + 1, R ++ [r]), And.intro hlt (by simp only; rw [hRn, hr]), by simp only; omega, by simp [subF, lk, purge, DV.has], rfl⟩
    ·have dl : decide ((i : Int) < lns.length) = false := decide_eq_false (by omega)
     have hil : i = lns.length := by omega
     rw [hil, List.take_length] at hR
     rw [← hR] at hrb ⊢
     obtain ⟨b1, b2, b3⟩ := hrb.out
     have hte : (t ++ [10]).length ≤ 9223372036854775807 := by simp; omega
     have cc := rpColumns_calls R (by omega) (fun i => by have := b2 i; omega) (fun i j => by have := b3 i j; omega)
     clear b1 b2 b3 hte
     refine zS (zA dl cI) ?_
     refine W_cond rfl (fun h => by cases h) (fun _ => W_exit ?_)
     refine zE cI ?_
     refine W_freeze 49 (cells := recD R) rfl (List.all_eq_true.2 (recD_rf R)) ?_
     have hfz := frz_recD' R 49
     refine zE (zA hfz cI) ?_
     cases hcp : colP R with
     | none =>
      obtain ⟨e, he, hce⟩ := colR_none hcp
      rw [hce] at cc
      have de : decide (¬ e = 0) = true := decide_eq_true he
      rw [if_neg (by simp)]
      repeat (first | refine zQ (zA de cI) ?_ | refine cP cc ?_ | exact zT)
      refine wT ?_
      refine zS cI ?_
      exact W_ret (RetP_2 (.imm rfl) (.imm rfl))
     | some u =>
      rw [colR_some hcp] at cc
      obtain ⟨e, he⟩ : ∃ e : Int, e = 0 := ⟨0, rfl⟩
      have de : decide (¬ e = 0) = false := decide_eq_false (fun h => h he)
      rw [← he] at cc
      by_cases hu : u = t ++ [10]
      ·have du : decide (¬ u = t ++ [10]) = false := decide_eq_false (fun h => h hu)
       rw [if_pos (by rw [hu])]
       repeat (first | refine zQ (zA de (zA du cI)) ?_ | refine cP cc ?_ | exact zT)
       refine wFs ?_
       refine zS cI ?_
       exact W_ret (RetP_2 (.imm rfl) (.imm rfl))
      ·have du : decide (¬ u = t ++ [10]) = true := decide_eq_true hu
       rw [if_neg (by simpa using hu)]
       repeat (first | refine zQ (zA de (zA du cI)) ?_ | refine cP cc ?_ | exact zT)
       refine wT ?_
       refine zS cI ?_
       exact W_ret (RetP_2 (.imm rfl) (.imm rfl))
theorem bytesOf_1 (c : UInt8) : bytesOf [.int .u8 ((c.toNat : Nat) : Int)] = some [c] := bytesOf_bys [c]
set_option maxHeartbeats 2000000 in
theorem reWords_calls (t : Bs) (hs : t.length ≤ 1000000) : PCalls Tryz.prog 47 [.str t] (.sl 1 (recD (wordsL t))) := by
 refine PCalls_of isreWords (by simp [fnreWords]) ?_
 unfold codereWords
 refine zS cI ?_
 refine W_own 3 1 39 rfl (by simp [lkH]) ?_
 refine zE cI ?_
 refine W_own 4 1 33 rfl (by simp [lkH]) ?_
 refine zE cI ?_
 refine W_loop (σ := Nat × WS) (fun s => [(0, .str t), (3, .osl 1 39 0 s.2.1.length), (4, .osl 1 33 0 s.2.2.1.length), (5, .str s.2.2.2), (6, .int .i64 s.1)]) (fun s => [(33, strL s.2.2.1), (39, recD s.2.1)]) (fun s => s.1 ≤ t.length ∧ s.2 = wst t s.1) (fun s => t.length - s.1) (0, ([], [], [])) (And.intro (Nat.zero_le _) rfl) ?_ rfl ?_
 ·simp [subF, lk]
 ·rintro ⟨i, out, row, w⟩ ⟨hi, hst⟩
  try simp only at hi hst ⊢
  obtain ⟨b1, ⟨b2, _⟩, _, _⟩ := wst_bd t i hi
  rw [← hst] at b1 b2
  try simp only at b1 b2
  have hrl := recD_len out
  have hsl := strL_len row
  by_cases hlt : i < t.length
  ·have dl : decide ((i : Int) < t.length) = true := decide_eq_true (by omega)
   have ei : (i : Int).toNat = i := Int.toNat_natCast i
   have e1 : ((i : Int) + 1) = ((i + 1 : Nat) : Int) := by omega
   have hsu := wst_succ hlt
   rw [← hst] at hsu
   obtain ⟨c, hc⟩ : ∃ c, t.getD i 0 = c := ⟨_, rfl⟩
   rw [hc] at hsu
   have eb : byteD c = .int .u8 (c.toNat : Nat) := rfl
   have hb1 := bytesOf_1 c
   have c32 : (c = 32) ↔ c.toNat = 32 := ⟨fun h => by rw [h]; rfl, fun h => UInt8.toNat_inj.1 h⟩
   have c10 : (c = 10) ↔ c.toNat = 10 := ⟨fun h => by rw [h]; rfl, fun h => UInt8.toNat_inj.1 h⟩
   replace hst := Dat.Hid.mk hst
   refine zS (zA dl cI) ?_
   refine wTs ?_
   by_cases h1 : c ≠ 32 ∧ c ≠ 10
   ·have d1 : decide (¬ ((c.toNat : Nat) : Int) = 32) = true := decide_eq_true (by have := h1.1; rw [ne_eq, c32] at this; omega)
    have d2 : decide (¬ ((c.toNat : Nat) : Int) = 10) = true := decide_eq_true (by have := h1.2; rw [ne_eq, c10] at this; omega)
    have hs2 : wst t (i + 1) = (out, row, w ++ [c]) := by rw [hsu]; simp [wstep, h1]
    refine zS (zA ei (zA hc (zA eb (zA d1 (zA d2 cI))))) ?_
    refine wT ?_
    refine zS (zA @cS (zA @rfm_nil0 (zA @rfm_int (zA hb1 cI)))) ?_
    have hwl : w.length ≤ i := by have := (wst_bd t i hi).2.2.1; rw [← hst.out] at this; exact this
    refine And.intro (by omega) ?_
    refine W_exit ?_
    refine zS (zA e1 cI) ?_
    exact ⟨(i + 1, (out, row, w ++ [c])), And.intro hlt hs2.symm, by simp only; omega, by simp [subF, lk], rfl⟩
   ·have d12 : decide (¬ ((c.toNat : Nat) : Int) = 32) = true → decide (¬ ((c.toNat : Nat) : Int) = 10) = false := fun h => decide_eq_false (fun h2 => h1 ⟨fun h3 => of_decide_eq_true h (by have := c32.1 h3; omega), fun h3 => h2 (by have := c10.1 h3; omega)⟩)
    have hs2 : wst t (i + 1) = if c = 10 then (out ++ [addW row w], [], []) else (out, addW row w, []) := by rw [hsu]; simp only [wstep, if_neg h1]
    cases d1 : decide (¬ ((c.toNat : Nat) : Int) = 32)
    ·refine zS (zA ei (zA hc (zA eb (zA d1 cI)))) ?_
     refine wFs ?_
     refine zS cI ?_
     refine W_join (ι := Unit) (fun _ => True) (fun _ => [(0, .str t), (3, .osl 1 39 0 out.length), (4, .osl 1 33 0 (addW row w).length), (5, .str []), (6, .int .i64 i), (7, .int .u8 (c.toNat : Nat))]) (fun _ => [(33, strL (addW row w)), (39, recD out)]) ?_ ?_
     ·by_cases hw : w = []
      ·have dw : decide (¬ w = []) = false := decide_eq_false (fun h => h hw)
       refine W_cond (by rw [dw]; rfl) (fun h => by cases h) (fun _ => W_skip ?_)
       exact ⟨(), trivial, by simp [subF, lk, addW, hw], by simp [addW, hw]⟩
      ·have dw : decide (¬ w = []) = true := decide_eq_true hw
       have ha : row ++ [w] = addW row w := by unfold addW; rw [if_neg hw]
       have el : row.length + 1 = (row ++ [w]).length := by simp
       refine W_cond (by rw [dw]; rfl) (fun _ => ?_) (fun h => by cases h)
       refine zS (zA @cS (zA @rfm_nil (zA @rfm_str (zA hsl cI)))) ?_
       refine And.intro (And.intro (by omega) (And.intro (by omega) (fun d hd => by rw [List.mem_singleton.1 hd]; rfl))) ?_
       refine zS (zA @strL_app (zA @purge_strL (zA @purge_recD (zA el (zA ha cI))))) ?_
       exact ⟨(), by simp [subF, lk, purge, DV.has]⟩
     ·intro _ _
      have hal := addW_len row w
      have hsa := strL_len (addW row w)
      generalize addW row w = rw' at *
      by_cases hc10 : c = 10
      ·rw [if_pos hc10] at hs2
       have d3 : decide (((c.toNat : Nat) : Int) = 10) = true := decide_eq_true (by have := c10.1 hc10; omega)
       have e4 : out.length + 1 = (out ++ [rw']).length := by simp
       refine zS (zA d3 cI) ?_
       refine wT ?_
       refine W_freeze 33 (cells := strL rw') rfl (strL_rf rw') ?_
       have hfz := frz_strL rw' 33
       refine zS (zA hfz (zA @cS (zA @rfm_nil (zA @rfm_sl (zA hrl (zA @frz_recD cI)))))) ?_
       refine And.intro (And.intro (by omega) (And.intro (by omega) (fun d hd => by rw [List.mem_singleton.1 hd]; rfl))) ?_
       refine W_reg ?_
       refine zE (zA @purge_recD (zA @recD_app (zA e4 cI))) ?_
       refine W_own 4 1 33 rfl (by simp [lkH]) ?_
       refine zS (zA e1 cI) ?_
       exact ⟨(i + 1, (out ++ [rw'], [], [])), And.intro hlt hs2.symm, by simp only; omega, by simp [subF, lk, purge, DV.has], rfl⟩
      ·rw [if_neg hc10] at hs2
       have d3 : decide (((c.toNat : Nat) : Int) = 10) = false := decide_eq_false (fun h => hc10 (c10.2 (by omega)))
       refine zS (zA d3 cI) ?_
       refine wFs ?_
       refine zS (zA e1 cI) ?_
       exact ⟨(i + 1, (out, rw', [])), And.intro hlt hs2.symm, by simp only; omega, by simp [subF, lk], rfl⟩
    ·have d2 := d12 d1
     refine zS (zA ei (zA hc (zA eb (zA d1 (zA d2 cI))))) ?_
     refine wFs ?_
     refine zS cI ?_
     refine W_join (ι := Unit) (fun _ => True) (fun _ => [(0, .str t), (3, .osl 1 39 0 out.length), (4, .osl 1 33 0 (addW row w).length), (5, .str []), (6, .int .i64 i), (7, .int .u8 (c.toNat : Nat))]) (fun _ => [(33, strL (addW row w)), (39, recD out)]) ?_ ?_
     ·by_cases hw : w = []
      ·have dw : decide (¬ w = []) = false := decide_eq_false (fun h => h hw)
       refine W_cond (by rw [dw]; rfl) (fun h => by cases h) (fun _ => W_skip ?_)
       exact ⟨(), trivial, by simp [subF, lk, addW, hw], by simp [addW, hw]⟩
      ·have dw : decide (¬ w = []) = true := decide_eq_true hw
       have ha : row ++ [w] = addW row w := by unfold addW; rw [if_neg hw]
       have el : row.length + 1 = (row ++ [w]).length := by simp
       refine W_cond (by rw [dw]; rfl) (fun _ => ?_) (fun h => by cases h)
       refine zS (zA @cS (zA @rfm_nil (zA @rfm_str (zA hsl cI)))) ?_
       refine And.intro (And.intro (by omega) (And.intro (by omega) (fun d hd => by rw [List.mem_singleton.1 hd]; rfl))) ?_
       refine zS (zA @strL_app (zA @purge_strL (zA @purge_recD (zA el (zA ha cI))))) ?_
       exact ⟨(), by simp [subF, lk, purge, DV.has]⟩
     ·intro _ _
      have hal := addW_len row w
      have hsa := strL_len (addW row w)
      generalize addW row w = rw' at *
      by_cases hc10 : c = 10
      ·rw [if_pos hc10] at hs2
       have d3 : decide (((c.toNat : Nat) : Int) = 10) = true := decide_eq_true (by have := c10.1 hc10; omega)
       have e4 : out.length + 1 = (out ++ [rw']).length := by simp
       refine zS (zA d3 cI) ?_
       refine wT ?_
       refine W_freeze 33 (cells := strL rw') rfl (strL_rf rw') ?_
       have hfz := frz_strL rw' 33
       refine zS (zA hfz (zA @cS (zA @rfm_nil (zA @rfm_sl (zA hrl (zA @frz_recD cI)))))) ?_
       refine And.intro (And.intro (by omega) (And.intro (by omega) (fun d hd => by rw [List.mem_singleton.1 hd]; rfl))) ?_
       refine W_reg ?_
       refine zE (zA @purge_recD (zA @recD_app (zA e4 cI))) ?_
       refine W_own 4 1 33 rfl (by simp [lkH]) ?_
       refine zS (zA e1 cI) ?_
       exact ⟨(i + 1, (out ++ [rw'], [], [])), And.intro hlt hs2.symm, by simp only; omega, by simp [subF, lk, purge, DV.has], rfl⟩
      ·rw [if_neg hc10] at hs2
       have d3 : decide (((c.toNat : Nat) : Int) = 10) = false := decide_eq_false (fun h => hc10 (c10.2 (by omega)))
       refine zS (zA d3 cI) ?_
       refine wFs ?_
       refine zS (zA e1 cI) ?_
       exact ⟨(i + 1, (out, rw', [])), And.intro hlt hs2.symm, by simp only; omega, by simp [subF, lk], rfl⟩
  ·have dl : decide ((i : Int) < t.length) = false := decide_eq_false (by omega)
   have hil : i = t.length := by omega
   have ho : out = wordsL t := by rw [← wst_full, ← hil, ← hst]
   refine zS (zA dl cI) ?_
   refine W_cond rfl (fun h => by cases h) (fun _ => W_exit ?_)
   refine zE cI ?_
   refine W_freeze 39 (cells := recD out) rfl (List.all_eq_true.2 (recD_rf out)) ?_
   have hfz := frz_recD' out 39
   refine zS (zA hfz cI) ?_
   rw [ho]
   exact W_ret (RetP_1 (.imm rfl))
theorem reSameWords_calls (r : List Bs) (hr : r.length ≤ 9223372036854775807) : PCalls Tryz.prog 26 [.sl 1 (strL r), .sl 1 (strL r)] (.bool true) := by
 refine PCalls_of isreSameWords (by simp [fnreSameWords]) ?_
 unfold codereSameWords
 have hsl := strL_len r
 have d0 : decide (¬ (r.length : Int) = (r.length : Int)) = false := decide_eq_false (fun h => h rfl)
 refine zS (zA hsl (zA d0 cI)) ?_
 refine wFs ?_
 refine zS (zA hsl cI) ?_
 refine W_loop (σ := Nat) (fun i => [(0, .sl 1 (strL r)), (1, .sl 1 (strL r)), (12, .int .i64 r.length), (13, .int .i64 i)]) (fun _ => []) (fun i => i ≤ r.length) (fun i => r.length - i) 0 (Nat.zero_le _) ?_ rfl ?_
 ·simp [subF, lk]
 ·rintro i hi
  try simp only at hi ⊢
  by_cases hlt : i < r.length
  ·have dl : decide ((i : Int) < r.length) = true := decide_eq_true (by omega)
   have ei : (i : Int).toNat = i := Int.toNat_natCast i
   have e1 : ((i : Int) + 1) = ((i + 1 : Nat) : Int) := by omega
   have hg := strL_getD hlt
   generalize r.getD i [] = x at *
   have dx : decide (¬ x = x) = false := decide_eq_false (fun h => h rfl)
   refine zS (zA dl cI) ?_
   refine wTs ?_
   refine zS (zA ei (zA hsl (zA hg (zA dx cI)))) ?_
   refine wFs ?_
   refine zS (zA e1 cI) ?_
   exact ⟨i + 1, hlt, by omega, by simp [subF, lk]⟩
  ·have dl : decide ((i : Int) < r.length) = false := decide_eq_false (by omega)
   refine zS (zA dl cI) ?_
   refine W_cond rfl (fun h => by cases h) (fun _ => W_exit ?_)
   refine zS cI ?_
   exact W_ret (RetP_1 (.imm rfl))
end Go.Proofs.YtjfedgpbedppeaaGreatDoor
namespace Go.Proofs.YtjfedgpbedppeaaGreatDoor
open Go Go.Dat Go.Proofs Go.RowKit Go.Shelf Nat32
abbrev XR := Bool × List Nat × List Nat
def xc (x : XR) : List DV := [.bool x.1, .sl 1 (us x.2.1), .sl 1 (us x.2.2)]
def xcs (xs : List XR) : List DV := xs.flatMap xc
def xv (x : XR) : Rat := rv x.1 x.2.1 x.2.2
def okx (m : Nat) (x : XR) : Prop := lim x.2.1 ∧ lim x.2.2 ∧ x.2.1.length ≤ m ∧ x.2.2.length ≤ m
theorem xcs_len : ∀ xs : List XR, (xcs xs).length = 3 * xs.length
 | [] => rfl
 | x :: xs => by
  have := xcs_len xs
  unfold xcs at this ⊢
  rw [List.flatMap_cons, List.length_append, this]
  simp [xc]; omega
theorem xcs_get : ∀ (xs : List XR) (k : Nat), k < xs.length → ((xcs xs).drop (3 * k)).take 3 = xc (xs.getD k (false, [], []))
 | x :: xs, 0, _ => by
  unfold xcs
  rw [List.flatMap_cons]
  rfl
 | x :: xs, k + 1, h => by
  have := xcs_get xs k (by simpa using h)
  unfold xcs at this ⊢
  rw [List.flatMap_cons, show 3 * (k + 1) = (xc x).length + 3 * k by simp [xc]; omega, List.drop_append, List.drop_eq_nil_of_le (by omega)]
  simp only [List.nil_append, Nat.add_sub_cancel_left, List.getD_cons_succ]
  exact this
theorem xcs_one (xs : List XR) : ∀ d ∈ xcs xs, d.one = true := by
 intro d hd
 unfold xcs at hd
 obtain ⟨x, _, h⟩ := List.mem_flatMap.1 hd
 simp only [xc, List.mem_cons, List.not_mem_nil, or_false] at h
 rcases h with rfl | rfl | rfl <;> rfl
theorem xcs_rf (xs : List XR) : ∀ d ∈ xcs xs, d.rf = true := by
 intro d hd
 unfold xcs at hd
 obtain ⟨x, _, h⟩ := List.mem_flatMap.1 hd
 simp only [xc, List.mem_cons, List.not_mem_nil, or_false] at h
 rcases h with rfl | rfl | rfl <;> rfl
theorem xcs_cells (xs : List XR) : (DV.agg (xcs xs)).cells? = some (xcs xs) := by
 simp only [DV.cells?]
 rw [if_pos (List.all_eq_true.2 (xcs_one xs))]
theorem xv_ok {xs : List XR} {m : Nat} (hx : ∀ x ∈ xs, okx m x) {k : Nat} (hk : k < xs.length) : okx m (xs.getD k (false, [], [])) := by
 rw [List.getD_eq_getElem?_getD, List.getElem?_eq_getElem hk]; exact hx _ (List.getElem_mem hk)
theorem xv_get (xs : List XR) (k : Nat) (hk : k < xs.length) : (xs.map xv).getD k 0 = xv (xs.getD k (false, [], [])) := by
 rw [List.getD_eq_getElem?_getD, List.getD_eq_getElem?_getD, List.getElem?_map, List.getElem?_eq_getElem hk]; rfl
theorem xc_cells (x : XR) : (DV.agg (xc x)).cells? = some (xc x) := by
 have := xcs_cells [x]
 unfold xcs at this
 rwa [List.flatMap_cons, List.flatMap_nil, List.append_nil] at this
def xq (r : Rat) : XR := (decide (r.num < 0), limbs r.num.natAbs, dn r.den)
theorem xv_xq (r : Rat) : xv (xq r) = r := rv_Q r
theorem xc_xq (r : Rat) : .agg (xc (xq r)) = Q r := rfl
theorem xvs_xq (rs : List Rat) : (rs.map xq).map xv = rs := by
 rw [List.map_map]
 conv => rhs; rw [← List.map_id rs]
 exact List.map_congr_left fun r _ => xv_xq r
theorem okx_xq {r : Rat} {m : Nat} (h : RB r m) (hm : 1 ≤ m) : okx m (xq r) := ⟨lim_limbs _, lim_dn _, h.1, RB_dn h⟩
theorem getD_mem' (l : List Bs) {k : Nat} (h : k < l.length) : l.getD k [] ∈ l := by rw [List.getD_eq_getElem?_getD, List.getElem?_eq_getElem h]; exact List.getElem_mem h
theorem xcs_app (xs : List XR) (x : XR) : xcs xs ++ xc x = xcs (xs ++ [x]) := by unfold xcs; simp
theorem xc_one (x : XR) : ∀ d ∈ xc x, d.one = true := by
 intro d hd
 simp only [xc, List.mem_cons, List.not_mem_nil, or_false] at hd
 rcases hd with rfl | rfl | rfl <;> rfl
theorem laid3 (x : XR) : laid [.bool false, .nils, .nils] [(0, 3, .agg (xc x))] = some (xc x) := by
 simp [laid, xc, DV.cells?, DV.one, spl]
theorem xc_rf (x : XR) : ∀ d ∈ xc x, d.rf = true := by
 intro d hd
 simp only [xc, List.mem_cons, List.not_mem_nil, or_false] at hd
 rcases hd with rfl | rfl | rfl <;> rfl
theorem pFraction_calls (a b : Int) (ha : a.natAbs ≤ 1000000) (hb : b ≠ 0) (hb2 : b.natAbs ≤ 1000000) : PCalls Tryz.prog 34 [.int .i64 a, .int .i64 b] (Q (Rat.divInt a b)) := by
 have c1 := sFromInt_calls a (by omega) (by omega)
 have c2 := sFromInt_calls b (by omega) (by omega)
 have il1 : ∀ z : Int, z.natAbs ≤ 1000000 → il z ≤ 900 := fun z hz => Nat.le_trans (limbs_len.2 (show z.natAbs < 4294967296 ^ 1 by omega)) (by decide)
 have c3 := p_over_calls a b hb (il1 a ha) (il1 b hb2)
 refine PCalls_of ispFraction (by simp [fnpFraction]) ?_
 unfold codepFraction
 generalize Rat.divInt a b = r at *
 have hx3 : (XL r).length = 3 := rfl
 have hcc : (Q r).cells? = some (XL r) := xc_cells (xq r)
 repeat (first | refine zP ?_ | refine cP c1 ?_ | refine cP c2 ?_ | refine cP c3 ?_ | exact zT)
 refine zS (zA hcc (zA hx3 @cS)) ?_
 exact W_ret (RetP_c rfl rfl rfl (.imm rfl))
theorem take_sn {α : Type} (R : List α) (z : α) {i : Nat} (hi : i < R.length) : R.take (i + 1) = R.take i ++ [R.getD i z] := by
 rw [List.getD_eq_getElem?_getD, List.take_add_one, List.getElem?_eq_getElem hi]; rfl
theorem mdLightList_calls (xs : List XR) (n : Nat) (hx : xs.length ≤ 9223372036854775807) (hn : n ≤ 1000000) : PCalls Tryz.prog 6 [.sl 3 (xcs xs), .int .i64 n] (.bool (decide (xs.length ≤ n) && xs.all fun x => lightB x.2.1 x.2.2)) := by
 have hxl : (xcs xs).length = xs.length * 3 := by rw [xcs_len]; omega
 have hd3 : xs.length * 3 / 3 = xs.length := by omega
 refine PCalls_of ismdLightList (by simp [fnmdLightList]) ?_
 unfold codemdLightList
 by_cases h : n < xs.length
 ·have d1 : decide ((n : Int) < (xs.length : Int)) = true := decide_eq_true (by omega)
  rw [decide_eq_false (show ¬ xs.length ≤ n by omega), Bool.false_and]
  refine zS (zA hxl (zA hd3 d1)) ?_
  refine wT ?_
  refine zR ?_
  exact W_ret (RetP_1 (.imm rfl))
 ·have d1 : decide ((n : Int) < (xs.length : Int)) = false := decide_eq_false (by omega)
  rw [decide_eq_true (show xs.length ≤ n by omega), Bool.true_and]
  refine zS (zA hxl (zA hd3 d1)) ?_
  refine wFs ?_
  refine zR ?_
  refine W_loop (σ := Nat) (fun i => [(0, .sl 3 (xcs xs)), (5, .int .i64 i)]) (fun _ => []) (fun i => i ≤ xs.length ∧ (xs.take i).all fun x => lightB x.2.1 x.2.2) (fun i => xs.length - i) 0 ⟨Nat.zero_le _, rfl⟩ ?_ rfl ?_
  ·simp [subF, lk]
  ·rintro i ⟨hi, hall⟩
   try simp only at hi hall ⊢
   by_cases hlt : i < xs.length
   ·have d2 : decide ((i : Int) < (xs.length : Int)) = true := decide_eq_true (by omega)
    have ei : (i : Int) + 1 = ((i + 1 : Nat) : Int) := by omega
    have hgx := xcs_get xs i hlt
    rw [Nat.mul_comm] at hgx
    have hk3 : ((i : Int)).toNat = i := Int.toNat_natCast i
    have hts := take_sn xs (false, [], []) hlt
    have cm := mdLight_calls (xs.getD i (false, [], [])).1 (xs.getD i (false, [], [])).2.1 (xs.getD i (false, [], [])).2.2
    have hmem : xs.getD i (false, [], []) ∈ xs := by rw [List.getD_eq_getElem?_getD, List.getElem?_eq_getElem hlt]; exact List.getElem_mem hlt
    generalize xs.getD i (false, [], []) = x at *
    change PCalls _ _ [.agg (xc x)] _ at cm
    refine zS (zA hxl (zA hd3 d2)) ?_
    refine wTs ?_
    cases hb : lightB x.2.1 x.2.2
    ·rw [hb] at cm
     have hf : (xs.all fun x => lightB x.2.1 x.2.2) = false := by
      rw [List.all_eq_false]; exact ⟨x, hmem, by rw [hb]; exact Bool.false_ne_true⟩
     rw [hf]
     refine zS (zA hxl (zA hk3 hgx)) ?_
     refine callC_pure cm (by rw [List.all_cons, DV.rf_agg, List.all_eq_true.2 (xc_rf x)]; rfl) ?_
     refine zR ?_
     refine wT ?_
     refine zR ?_
     exact W_ret (RetP_1 (.imm rfl))
    ·rw [hb] at cm
     refine zS (zA hxl (zA hk3 hgx)) ?_
     refine callC_pure cm (by rw [List.all_cons, DV.rf_agg, List.all_eq_true.2 (xc_rf x)]; rfl) ?_
     refine zR ?_
     refine wFs ?_
     refine zS ei ?_
     refine ⟨i + 1, ⟨by omega, by rw [hts, List.all_append, hall]; simp [hb]⟩, by omega, by simp [subF, lk]⟩
   ·have d2 : decide ((i : Int) < (xs.length : Int)) = false := decide_eq_false (by omega)
    rw [List.take_of_length_le (by omega)] at hall
    rw [hall]
    refine zS (zA hxl (zA hd3 d2)) ?_
    refine wF ?_
    refine W_exit ?_
    refine zR ?_
    exact W_ret (RetP_1 (.imm rfl))
def smX (x : XR) : Prop := smQ x.2.1 x.2.2
theorem smX.ok {x : XR} (h : smX x) : okx 4 x := ⟨h.1, h.2.1, h.2.2.1, h.2.2.2.1⟩
theorem smX_xq {r : Rat} (h : smR r) : smX (xq r) := smQ_Q h
def numQ (r : DV) (c' : List DV) : Prop := isTp c' ∧ ∃ x : XR, smX x ∧ r = .agg (xc x)
theorem wPick_calls (c : List DV) (l : List Int) (hl0 : 0 < l.length) (hl : l.length ≤ 1000) (hc : isTp c) : TCalls Tryz.prog 21 [.ptr 1048576 0, .sl 1 (l.map (.int .i64))] c fun r c' => isTp c' ∧ ∃ v ∈ l, r = .int .i64 v := by
 have cn := wNext_calls c l.length hc (by omega)
 have hil := ints_len l
 refine MRel_of iswPick (by simp [fnwPick]) ?_
 unfold codewPick
 refine zS hil ?_
 refine callC_lend1 1048576 cn rfl (by simp [lkH]) hc.rf (by simp [rn, fwd1]) fun r c' hr hc' hQ => ?_
 obtain ⟨ht, k, hk, rfl⟩ := hQ
 have e3 : ((k : Int)).toNat = k := Int.toNat_natCast k
 have hkl : k < l.length := by omega
 have hlt : (k : Int) < (l.length : Int) := by omega
 have hg := ints_getD hkl
 have hm : l.getD k 0 ∈ l := by rw [List.getD_eq_getElem?_getD, List.getElem?_eq_getElem hkl]; exact List.getElem_mem hkl
 refine zS (zA e3 (zA hg hil)) ?_
 exact W_ret (RetT (c' := c') rfl (by simp [lkH, setH]) hc' ⟨ht, _, hm, rfl⟩)
theorem RetTC {n k o : Nat} {fr : Fr} {H : Hp} {cells c' cs : List DV} {Q : DV → List DV → Prop} (h1 : lk fr k = .ptr o 0) (h2 : lkH H o = some cs) (h3 : cs.length = n) (hd : (DV.agg cs).rf = true) (hh : lkH H 1048576 = some c') (hc : ∀ d ∈ c', d.rf = true) (hQ : Q (.agg cs) c') :
  RetPR [.cn n k] [(1048576, cells)] (fun r H' => ∃ c', H' = [(1048576, c')] ∧ (∀ d ∈ c', d.rf = true) ∧ r.rf = true ∧ Q r c') .ret fr H := by
 refine ⟨.inr rfl, [.agg cs], .agg cs, [(1048576, c')], ⟨c', rfl, hc, hd, hQ⟩, fun o _ h => ?_, ?_, rn_rf _ _ hd, fun o c h => ?_⟩
 ·rw [lkH_one] at h ⊢
  split at h
  ·rename_i e; rw [if_pos e]; rfl
  ·cases h
 ·simp [resDs, resD1, h1, h2, h3, List.take_of_length_le (Nat.le_of_eq h3)]
 ·rw [lkH_one] at h
  split at h
  ·rename_i e
   subst e
   cases h
   exact ⟨_, hh, map_rf _ hc⟩
  ·cases h
theorem xc_agg (x : XR) : (DV.agg (xc x)).rf = true := by rw [DV.rf_agg]; exact List.all_eq_true.2 (xc_rf x)
theorem pInt_calls (v : Int) (h : v.natAbs ≤ 1000) : PCalls Tryz.prog 35 [.int .i64 v] (.agg (xc (xq (v : Rat)))) := pFromInt_calls v (by omega) (by omega)
theorem pFrac_calls (a b : Int) (ha : a.natAbs ≤ 1000) (hb : b ≠ 0) (hb2 : b.natAbs ≤ 1000) : PCalls Tryz.prog 34 [.int .i64 a, .int .i64 b] (.agg (xc (xq (Rat.divInt a b)))) := pFraction_calls a b (by omega) hb (by omega)
def ratQ (r : DV) (c' : List DV) : Prop := isTp c' ∧ ∃ q : Rat, smR q ∧ r = .agg (xc (xq q))
theorem wRat_calls (c : List DV) (hc : isTp c) : TCalls Tryz.prog 10 [.ptr 1048576 0] c ratQ := by
 have cn := wNext_calls c 8 hc (by decide)
 refine MRel_of iswRat (by simp [fnwRat]) ?_
 unfold codewRat
 refine zR ?_
 refine callC_lend1 1048576 cn rfl (by simp [lkH]) hc.rf (by simp [rn, fwd1]) fun r c1 hr hc1 hQ => ?_
 obtain ⟨ht, k, hk, rfl⟩ := hQ
 by_cases h6 : k = 6
 ·have d6 : decide ((k : Int) = 6) = true := decide_eq_true (by omega)
  refine zS d6 ?_
  refine wT ?_
  refine zR ?_
  have cn1 := wNext_calls c1 13 ht (by decide)
  refine callC_lend1 1048576 cn1 rfl (by simp [lkH, setH]) ht.rf (by simp [rn, fwd1]) fun r c2 hr hc2 hQ => ?_
  obtain ⟨ht2, k2, hk2, rfl⟩ := hQ
  refine zR ?_
  have cn2 := wNext_calls c2 6 ht2 (by decide)
  refine callC_lend1 1048576 cn2 rfl (by simp [lkH, setH]) ht2.rf (by simp [rn, fwd1]) fun r c3 hr hc3 hQ => ?_
  obtain ⟨ht3, k3, hk3, rfl⟩ := hQ
  refine zR ?_
  have cf := pFrac_calls ((k2 : Int) - 6) (1 + (k3 : Int)) (by omega) (by omega) (by omega)
  refine cP cf ?_
  have hsm := (smR_divInt (z := (k2 : Int) - 6) (e := 1 + (k3 : Int)) (by omega) (by omega) (by omega))
  generalize (Rat.divInt ((k2 : Int) - 6) (1 + (k3 : Int))) = q at *
  have hxc := xc_cells (xq q)
  have hx3 : (xc (xq q)).length = 3 := rfl
  refine zS (zA hxc (zA hx3 @cS)) ?_
  exact W_ret (RetTC (c' := c3) rfl rfl rfl (xc_agg _) (by simp [lkH, setH]) hc3 ⟨ht3, q, hsm, rfl⟩)
 ·have d6 : decide ((k : Int) = 6) = false := decide_eq_false (by omega)
  refine zS d6 ?_
  refine wF ?_
  by_cases h7 : k = 7
  ·have d7 : decide ((k : Int) = 7) = true := decide_eq_true (by omega)
   refine zS d7 ?_
   refine wT ?_
   refine zR ?_
   have cn1 := wNext_calls c1 2001 ht (by decide)
   refine callC_lend1 1048576 cn1 rfl (by simp [lkH, setH]) ht.rf (by simp [rn, fwd1]) fun r c2 hr hc2 hQ => ?_
   obtain ⟨ht2, k2, hk2, rfl⟩ := hQ
   refine zS (zA @cS (zA @rfm_nil0 @rfm_int)) ?_
   have cp := wPick_calls c2 [1, 1, 7] (by decide) (by decide) ht2
   refine callC_lend1 1048576 cp rfl (by simp [lkH, setH]) ht2.rf (by simp [rn, fwd1, rnL]) fun r c3 hr hc3 hQ => ?_
   obtain ⟨ht3, v, hv, rfl⟩ := hQ
   have hv1 : v = 1 ∨ v = 7 := by simpa using hv
   refine zR ?_
   have cf := pFrac_calls ((k2 : Int) - 1000) v (by omega) (by omega) (by omega)
   refine cP cf ?_
   have hsm := (smR_divInt (z := (k2 : Int) - 1000) (e := v) (by omega) (by omega) (by omega))
   generalize (Rat.divInt ((k2 : Int) - 1000) v) = q at *
   have hxc := xc_cells (xq q)
   have hx3 : (xc (xq q)).length = 3 := rfl
   refine zS (zA hxc (zA hx3 @cS)) ?_
   exact W_ret (RetTC (c' := c3) rfl rfl rfl (xc_agg _) (by simp [lkH, setH]) hc3 ⟨ht3, q, hsm, rfl⟩)
  ·have d7 : decide ((k : Int) = 7) = false := decide_eq_false (by omega)
   refine zS d7 ?_
   refine wFs ?_
   refine zR ?_
   have cn1 := wNext_calls c1 9 ht (by decide)
   refine callC_lend1 1048576 cn1 rfl (by simp [lkH, setH]) ht.rf (by simp [rn, fwd1]) fun r c2 hr hc2 hQ => ?_
   obtain ⟨ht2, k2, hk2, rfl⟩ := hQ
   refine zR ?_
   have cf := pInt_calls ((k2 : Int) - 4) (by omega)
   refine cP cf ?_
   have hsm := (smR_int (v := (k2 : Int) - 4) (by omega))
   generalize (((k2 : Int) - 4 : Int) : Rat) = q at *
   have hxc := xc_cells (xq q)
   have hx3 : (xc (xq q)).length = 3 := rfl
   refine zS (zA hxc (zA hx3 @cS)) ?_
   exact W_ret (RetTC (c' := c2) rfl rfl rfl (xc_agg _) (by simp [lkH, setH]) hc2 ⟨ht2, q, hsm, rfl⟩)
theorem us_app (a b : List Nat) : us a ++ us b = us (a ++ b) := by unfold us; rw [List.map_append]
theorem us_rf' (l : List Nat) : ∀ d ∈ us l, d.rf = true := by
 intro d hd
 unfold us at hd
 obtain ⟨n, _, rfl⟩ := List.mem_map.1 hd
 rfl
theorem us_one' (l : List Nat) : ∀ d ∈ us l, d.one = true := by
 intro d hd
 unfold us at hd
 obtain ⟨n, _, rfl⟩ := List.mem_map.1 hd
 rfl
theorem wOdd_calls (c : List DV) (hc : isTp c) : TCalls Tryz.prog 9 [.ptr 1048576 0] c numQ := by
 have cn := wRat_calls c hc
 refine MRel_of iswOdd (by simp [fnwOdd]) ?_
 unfold codewOdd
 refine zR ?_
 refine callC_lend1 1048576 cn rfl (by simp [lkH, setH]) hc.rf (by simp [rn, fwd1]) fun r c1 hr hc1 hQ => ?_
 obtain ⟨ht, q, hq, rfl⟩ := hQ
 have hxc := xc_cells (xq q)
 have hx3 : (xc (xq q)).length = 3 := rfl
 have h33 : (xc (xq q)).take 3 = xc (xq q) := rfl
 refine zS (zA hxc (zA hx3 @cS)) ?_
 have cn1 := wNext_calls c1 24 ht (by decide)
 refine callC_lend1 1048576 cn1 rfl (by simp [lkH, setH]) ht.rf (by simp [rn, fwd1]) fun r c2 hr hc2 hQ => ?_
 obtain ⟨ht2, k, hk, rfl⟩ := hQ
 by_cases h20 : k = 20
 ·have d20 : decide ((k : Int) = 20) = true := decide_eq_true (by omega)
  refine zS d20 ?_
  refine wT ?_
  have hset : (xc (xq q)).set 2 (.sl 1 [.int .u32 1]) = xc ((xq q).1, limbs q.num.natAbs, [1]) := rfl
  have hsm : smX ((xq q).1, limbs q.num.natAbs, [1]) := smQ_den1 hq
  generalize ((xq q).1, limbs q.num.natAbs, [1]) = y at *
  have hyc := xc_cells y
  have hy3 : (xc y).length = 3 := rfl
  have hyt : (xc y).take 3 = xc y := rfl
  refine zS (zA hset (zA hx3 (zA hy3 (zA hyt (zA hyc (zA @rfm_nil0 (zA @rfm_int (zA @List.drop_zero.{0} (zA @cells_int (zA @laid_int @laid_nil)))))))))) ?_
  refine And.intro rfl ?_
  refine zS (zA hy3 (zA hyt (zA hyc (zA @List.drop_zero.{0} @cS)))) ?_
  exact W_ret (RetTC (c' := c2) rfl rfl rfl (xc_agg _) (by simp [lkH, setH]) hc2 ⟨ht2, y, hsm, rfl⟩)
 ·have d20 : decide ((k : Int) = 20) = false := decide_eq_false (by omega)
  refine zS d20 ?_
  refine wF ?_
  by_cases h21 : k = 21
  ·have d21 : decide ((k : Int) = 21) = true := decide_eq_true (by omega)
   refine zS d21 ?_
   refine wT ?_
   have hg1 : (xc (xq q)).getD 1 .undef = .sl 1 (us (limbs q.num.natAbs)) := rfl
   have hul := limbs_sm hq.1
   generalize hl : limbs q.num.natAbs = l at *
   have p1 : purge 17 (.ptr 1048576 0) = .ptr 1048576 0 := rfl
   have p2 : purge 17 (.ptr 2 0) = .ptr 2 0 := rfl
   have p3 : purge 17 (.ptr 3 0) = .ptr 3 0 := rfl
   have p4 : purge 17 (.ptr 3 1) = .ptr 3 1 := rfl
   have u1 : ∀ d ∈ us l, d.one = true := us_one' l
   have u2 : (us l).map (purge 17) = us l := map_purge 17 (us_rf' l)
   have u3 : (xc (xq q)).map (purge 17) = xc (xq q) := map_purge 17 (xc_rf _)
   have u4 : c2.map (purge 17) = c2 := map_purge 17 hc2
   have u5 : (us l ++ [DV.int .u32 0]).map (purge 17) = us l ++ [DV.int .u32 0] := by rw [List.map_append, u2]; rfl
   have hla3 : laid [.int .u32 0] [(0, 1, .int .u32 0)] = some [.int .u32 0] := rfl
   have hy0 : us l ++ [DV.int .u32 0] = us (l ++ [0]) := us_app l [0]
   have hset : (xc (xq q)).set 1 (.sl 1 (us (l ++ [0]))) = xc ((xq q).1, l ++ [0], dn q.den) := rfl
   have hsm : smX ((xq q).1, l ++ [0], dn q.den) := by rw [← hl]; exact smQ_app0 hq
   refine zS (zA hg1 (zA @us_length (zA p1 (zA p2 (zA p3 (zA p4 (zA u2 (zA u3 (zA u4 (zA u5 hla3)))))))))) ?_
   have v1 : ∀ d ∈ [DV.int IntKind.u32 0], d.rf = true := fun d hd => by rw [List.mem_singleton.1 hd]; rfl
   have v2 : ∀ d ∈ [DV.int IntKind.u32 0], d.one = true := fun d hd => by rw [List.mem_singleton.1 hd]; rfl
   refine And.intro ⟨by omega, by omega, u1⟩ (And.intro v1 (And.intro ⟨by omega, by omega, fun h => h, v2⟩ (And.intro ⟨rfl, by rw [hx3]; decide⟩ ?_)))
   have hfl : frz 17 (us l ++ [DV.int .u32 0]) (.osl 1 17 0 (l.length + 1)) = .sl 1 (us (l ++ [0])) := by
    rw [hy0]; exact frz_us (by simp)
   refine W_freeze 17 (cells := us l ++ [DV.int .u32 0]) rfl (by rw [hy0]; exact us_rf _) ?_
   have f1 : frz 17 (us l ++ [DV.int .u32 0]) (.ptr 1048576 0) = .ptr 1048576 0 := frz_ptr_ne _ _ _ (by decide)
   have f2 : frz 17 (us l ++ [DV.int .u32 0]) (.ptr 2 0) = .ptr 2 0 := frz_ptr_ne _ _ _ (by decide)
   have f3 : frz 17 (us l ++ [DV.int .u32 0]) (.ptr 3 0) = .ptr 3 0 := frz_ptr_ne _ _ _ (by decide)
   have f4 : c2.map (frz 17 (us l ++ [DV.int .u32 0])) = c2 := map_frz 17 _ hc2
   have f5 : ((xc (xq q)).set 1 (.osl 1 17 0 (l.length + 1))).map (frz 17 (us l ++ [DV.int .u32 0])) = xc ((xq q).1, l ++ [0], dn q.den) := by
    show [_, _, _] = [_, _, _]
    rw [hfl]; rfl
   generalize us l ++ [DV.int .u32 0] = cs at *
   generalize ((xq q).1, l ++ [0], dn q.den) = y at *
   have hyc := xc_cells y
   have hy3 : (xc y).length = 3 := rfl
   have hyt : (xc y).take 3 = xc y := rfl
   refine zS (zA f1 (zA f2 (zA f3 (zA f4 (zA f5 (zA hy3 (zA hyt (zA hyc @List.drop_zero.{0})))))))) ?_
   refine zS (zA hy3 @cS) ?_
   exact W_ret (RetTC (c' := c2) rfl rfl rfl (xc_agg _) (by simp [lkH, setH]) hc2 ⟨ht2, y, hsm, rfl⟩)
  ·have d21 : decide ((k : Int) = 21) = false := decide_eq_false (by omega)
   refine zS d21 ?_
   refine wF ?_
   by_cases h22 : k = 22
   ·have d22 : decide ((k : Int) = 22) = true := decide_eq_true (by omega)
    refine zS d22 ?_
    refine wT ?_
    have hla : laid [.bool false, .nils, .nils] [(0, 2, .agg [.bool true, .nils])] = some [.bool true, .nils, .nils] := rfl
    have hla1 : laid [.bool false, .nils] [(0, 1, .bool true)] = some [.bool true, .nils] := rfl
    refine zS (zA hla (zA hla1 (zA hx3 h33))) ?_
    refine zS @cS ?_
    refine W_hnz 2 1 rfl ?_
    exact W_ret (RetTC (c' := c2) rfl rfl rfl (xc_agg (true, [], [])) (by simp [lkH, setH]) hc2 ⟨ht2, (true, [], []), smQ_0, rfl⟩)
   ·have d22 : decide ((k : Int) = 22) = false := decide_eq_false (by omega)
    refine zS d22 ?_
    refine wF ?_
    by_cases h23 : k = 23
    ·have d23 : decide ((k : Int) = 23) = true := decide_eq_true (by omega)
     refine zS d23 ?_
     refine wT ?_
     have hla : laid [.bool false, .nils, .nils] [(0, 2, .agg [.bool false, .sl 1 [.int .u32 2]]), (2, 1, .sl 1 [.int .u32 4])] = some [.bool false, .sl 1 [.int .u32 2], .sl 1 [.int .u32 4]] := rfl
     have hla1 : laid [.bool false, .nils] [(1, 1, .sl 1 [.int .u32 2])] = some [.bool false, .sl 1 [.int .u32 2]] := rfl
     have hla2 : laid [.int .u32 0] [(0, 1, .int .u32 2)] = some [.int .u32 2] := rfl
     have hla3 : laid [.int .u32 0] [(0, 1, .int .u32 4)] = some [.int .u32 4] := rfl
     refine zS (zA hla (zA hla1 (zA hla2 (zA hla3 (zA hx3 (zA h33 (zA @rfm_nil0 @rfm_int))))))) ?_
     refine zS @cS ?_
     exact W_ret (RetTC (c' := c2) rfl rfl rfl (xc_agg (false, [2], [4])) (by simp [lkH, setH]) hc2 ⟨ht2, (false, [2], [4]), smQ_24, rfl⟩)
    ·have d23 : decide ((k : Int) = 23) = false := decide_eq_false (by omega)
     refine zS d23 ?_
     refine wFs ?_
     repeat (first | refine W_seq ?_ | refine W_reg ?_ | refine W_regd ?_ | refine W_regs ?_ | refine W_regp ?_ | refine W_block ?_ | refine And.intro (by omega) ?_ | simp (maxSteps := 1000000) (disch := omega) only [cA, cB, cN, FnD.nb, lk, lkH, Dst.onT, Dst.onX, Dst.slot, setF, setH, mapF, mapH, initF, binE, unE, cnt, boundE, newsE, freshE, freshT, opE, rmH, blkQ, frz_us, Nat.reduceEqDiff, Nat.reduceLT, Nat.reduceAdd, Nat.reduceMul, Nat.reduceMod, ↓reduceIte, reduceCtorEq, Nat.reduceLeDiff, cS, hx3, h33, hxc])
     exact W_ret (RetTC (c' := c2) rfl rfl rfl (xc_agg _) (by simp [lkH, setH]) hc2 ⟨ht2, _, smX_xq hq, rfl⟩)
theorem xcs_map_get (rs : List Rat) {i : Nat} (h : i < rs.length) : (rs.map xq).getD i (false, [], []) = xq (rs.getD i 0) := by
 rw [List.getD_eq_getElem?_getD, List.getD_eq_getElem?_getD, List.getElem?_map, List.getElem?_eq_getElem h]; rfl
theorem pSameList_calls (rs : List Rat) (hl : rs.length ≤ 1000) (hRB : ∀ r ∈ rs, RB r 900) : PCalls Tryz.prog 27 [.sl 3 (xcs (rs.map xq)), .sl 3 (xcs (rs.map xq))] (.bool true) := by
 have hxl : (xcs (rs.map xq)).length = rs.length * 3 := by rw [xcs_len, List.length_map]; omega
 have hd3 : rs.length * 3 / 3 = rs.length := by omega
 have d0 : decide (¬ ((rs.length : Nat) : Int) = (rs.length : Int)) = false := decide_eq_false (fun h => h rfl)
 refine PCalls_of ispSameList (by simp [fnpSameList]) ?_
 unfold codepSameList
 refine zS (zA hxl (zA hd3 d0)) ?_
 refine wFs ?_
 refine zR ?_
 refine W_loop (σ := Nat) (fun i => [(0, .sl 3 (xcs (rs.map xq))), (1, .sl 3 (xcs (rs.map xq))), (5, .int .i64 i)]) (fun _ => []) (fun i => i ≤ rs.length) (fun i => rs.length - i) 0 (Nat.zero_le _) ?_ rfl ?_
 ·simp [subF, lk]
 ·intro i hi
  try simp only at hi ⊢
  by_cases hlt : i < rs.length
  ·have d2 : decide ((i : Int) < (rs.length : Int)) = true := decide_eq_true (by omega)
   have ei : (i : Int) + 1 = ((i + 1 : Nat) : Int) := by omega
   have hgx := xcs_get (rs.map xq) i (by rw [List.length_map]; exact hlt)
   rw [Nat.mul_comm, xcs_map_get rs hlt] at hgx
   have hk3 : ((i : Int)).toNat = i := Int.toNat_natCast i
   have hmem : rs.getD i 0 ∈ rs := by rw [List.getD_eq_getElem?_getD, List.getElem?_eq_getElem hlt]; exact List.getElem_mem hlt
   have cm := pSameT (rs.getD i 0) (hRB _ hmem)
   rw [← xc_xq] at cm
   have hfit : i * 3 + 3 ≤ (xcs (rs.map xq)).length := by omega
   generalize rs.getD i 0 = q at *
   refine zS (zA hxl (zA hd3 d2)) ?_
   refine wTs ?_
   refine zS (zA hxl (zA hk3 hgx)) ?_
   refine callC_pure cm (by rw [List.all_cons, List.all_cons, xc_agg]; rfl) ?_
   refine zR ?_
   refine wFs ?_
   refine zS ei ?_
   refine ⟨i + 1, by omega, by omega, by simp [subF, lk]⟩
  ·have d2 : decide ((i : Int) < (rs.length : Int)) = false := decide_eq_false (by omega)
   refine zS (zA hxl (zA hd3 d2)) ?_
   refine wF ?_
   refine W_exit ?_
   refine zR ?_
   exact W_ret (RetP_1 (.imm rfl))
end Go.Proofs.YtjfedgpbedppeaaGreatDoor
namespace Go.Proofs.YtjfedgpbedppeaaGreatDoor
open Go Go.Dat Go.Proofs Nat32 Go.RowKit
theorem rfk_nil : (∀ d ∈ ([] : List DV), d.rf = true) ↔ True := by simp
theorem rfk_str (l : List UInt8) (xs : List DV) : (∀ d ∈ DV.str l :: xs, d.rf = true) ↔ ∀ d ∈ xs, d.rf = true := by simp [DV.rf]
theorem rfk_sl (s : Nat) (ys xs : List DV) : (∀ d ∈ DV.sl s ys :: xs, d.rf = true) ↔ ∀ d ∈ xs, d.rf = true := by simp [DV.rf]
theorem getD_bd {α : Type} {p : α → Prop} {l : List α} {d : α} (hd : p d) (h : ∀ x ∈ l, p x) (i : Nat) : p (l.getD i d) := by
 rw [List.getD_eq_getElem?_getD]
 cases hi : l[i]? with
 | none => exact hd
 | some x => exact h x (List.mem_of_getElem? hi)
theorem lr_awake_calls : PCalls Tryz.prog 7 [] (.bool true) := by
 have hc : colR [[[97], [49, 48]], [[98, 99, 100], [50]]] = .tup [.str [32, 32, 97, 32, 32, 49, 48, 10, 98, 99, 100, 32, 32, 32, 50, 10], .int .i64 0] := by
  have h1 : shapeOk [[[97], [49, 48]], [[98, 99, 100], [50]]] = true := by decide +kernel
  have h2 : formB [[[97], [49, 48]], [[98, 99, 100], [50]]] = true := by decide +kernel
  have h3 : colT (wdT [[[97], [49, 48]], [[98, 99, 100], [50]]] 2) [[[97], [49, 48]], [[98, 99, 100], [50]]] 2 2 = [32, 32, 97, 32, 32, 49, 48, 10, 98, 99, 100, 32, 32, 32, 50, 10] := by decide +kernel
  unfold colR
  rw [h1, h2]
  show DV.tup [.str (colT (wdT [[[97], [49, 48]], [[98, 99, 100], [50]]] 2) [[[97], [49, 48]], [[98, 99, 100], [50]]] 2 2), .int .i64 0] = _
  rw [h3]
 have c := rpColumns_calls [[[97], [49, 48]], [[98, 99, 100], [50]]] (by decide)
  (fun i => getD_bd (p := fun r : List (List UInt8) => r.length ≤ 9223372036854775807) (by decide) (by decide) i)
  (fun i j => getD_bd (p := fun r : List (List UInt8) => (r.getD j []).length ≤ 9223372036854775807) (by simp) (fun r hr => getD_bd (p := fun s : List UInt8 => s.length ≤ 9223372036854775807) (by decide) (by
   intro x hx
   simp only [List.mem_cons, List.not_mem_nil, or_false] at hr
   rcases hr with rfl | rfl <;> (simp only [List.mem_cons, List.not_mem_nil, or_false] at hx; rcases hx with rfl | rfl <;> decide)) j) i)
 rw [hc] at c
 have c' : PCalls Tryz.prog 29 [.sl 1 [.sl 1 [.str [97], .str [49, 48]], .sl 1 [.str [98, 99, 100], .str [50]]]] (.tup [.str [32, 32, 97, 32, 32, 49, 48, 10, 98, 99, 100, 32, 32, 32, 50, 10], .int .i64 0]) := c
 clear c hc
 refine PCalls_of islr_awake (by simp [fnlr_awake]) ?_
 unfold codelr_awake
 repeat (first | refine zQ (zA @cS (zA @rfk_nil (zA @rfk_str (zA @rfk_sl (zA @decide_true cI))))) ?_ | refine cP c' ?_ | exact zT)
end Go.Proofs.YtjfedgpbedppeaaGreatDoor
namespace Go.Proofs.YtjfedgpbedppeaaGreatDoor
open Go Go.Dat Go.Proofs Go.RowKit Go.Shelf Nat32
theorem drawQ_any (n : Nat) {c : List DV} (hc : isTp c) : ∃ d c', d.rf = true ∧ (∀ x ∈ c', x.rf = true) ∧ drawQ n d c' := ⟨.int .i64 (0 : Nat), c, rfl, hc.rf, hc, 0, .inr rfl, rfl⟩
def coefRec (n : Bs) (r : Rat) (k : Int) : List Bs := [n, fmtQ r, decR r k]
def coefRecs (ns : List Bs) (rs : List Rat) (k : Int) (i : Nat) : List (List Bs) := (List.range i).map fun i => coefRec (ns.getD i []) (rs.getD i 0) k
def coefV (ns : List Bs) (rs : List Rat) (k : Int) : DV :=
 if ns.length < 1 ∨ rs.length ≠ ns.length then .tup [.str [], .int .i64 6] else if k < 0 ∨ 20 < k then .tup [.str [], .int .i64 1] else colR (coefRecs ns rs k ns.length)
theorem coefRecs_succ (ns : List Bs) (rs : List Rat) (k : Int) (i : Nat) : coefRecs ns rs k (i + 1) = coefRecs ns rs k i ++ [coefRec (ns.getD i []) (rs.getD i 0) k] := by
 unfold coefRecs; rw [List.range_succ, List.map_append]; rfl
theorem coefRecs_len (ns : List Bs) (rs : List Rat) (k : Int) (i : Nat) : (coefRecs ns rs k i).length = i := by unfold coefRecs; simp
theorem colR_tup (r : List (List Bs)) : ∃ s e, colR r = .tup [.str s, .int .i64 e] := by
 unfold colR; split
 ·split <;> exact ⟨_, _, rfl⟩
 ·exact ⟨_, _, rfl⟩
theorem decR_len {r : Rat} (h : RB r 100) (k : Int) : (decR r k).length ≤ 9223372036854775807 := by
 unfold decR
 split
 ·simp
 ·have := decS_len (k := k.toNat) h
  omega
theorem coefRecs_B {ns : List Bs} {rs : List Rat} {k : Int} {i : Nat} (hi : i ≤ 1000000) (hn : ∀ s ∈ ns, s.length ≤ 9223372036854775807) (hr : ∀ r ∈ rs, RB r 100) : recB 9223372036854775807 (coefRecs ns rs k i) := by
 refine recB_of (by rw [coefRecs_len]; omega) fun r hr' => ?_
 unfold coefRecs at hr'
 obtain ⟨j, hj, rfl⟩ := List.mem_map.1 hr'
 have hg : RB (rs.getD j 0) 100 := by
  rw [List.getD_eq_getElem?_getD]
  cases h : rs[j]? with
  | none => exact RB_int (z := 0) (by simp [limbs_zero]) (by decide)
  | some x => exact hr x (List.mem_of_getElem? h)
 have hs : (ns.getD j []).length ≤ 9223372036854775807 := by
  rw [List.getD_eq_getElem?_getD]
  cases h : ns[j]? with
  | none => simp
  | some x => exact hn x (List.mem_of_getElem? h)
 refine ⟨by simp [coefRec], fun s h => ?_⟩
 simp only [coefRec, List.mem_cons, List.not_mem_nil, or_false] at h
 rcases h with rfl | rfl | rfl
 ·exact hs
 ·exact Nat.le_trans (fmtQ_len hg) (by decide)
 ·exact decR_len hg k
set_option maxHeartbeats 4000000 in
theorem rpCoefs_calls (ns : List Bs) (xs : List XR) (k : Int) (hn : ns.length ≤ 1000000) (hxl : xs.length ≤ 1000000) (hns : ∀ s ∈ ns, s.length ≤ 9223372036854775807) (hx : ∀ x ∈ xs, okx 100 x) : PCalls Tryz.prog 22 [.sl 1 (strL ns), .sl 3 (xcs xs), .int .i64 k] (coefV ns (xs.map xv) k) := by
 have hsl := strL_len ns
 have hxc : (xcs xs).length = xs.length * 3 := by rw [xcs_len]; omega
 have hd3 : xs.length * 3 / 3 = xs.length := by omega
 have hml : (xs.map xv).length = xs.length := List.length_map ..
 refine PCalls_of isrpCoefs (by simp [fnrpCoefs]) ?_
 unfold coderpCoefs
 unfold coefV
 by_cases h1 : ns.length < 1
 ·have d1 : decide (((ns.length : Nat) : Int) < 1) = true := decide_eq_true (by omega)
  rw [if_pos (.inl h1)]
  refine zS (zA hsl (zA d1 @cT)) ?_
  refine wT ?_
  refine zR ?_
  exact W_ret (RetP_2 (.imm rfl) (.imm rfl))
 ·have d1 : decide (((ns.length : Nat) : Int) < 1) = false := decide_eq_false (by omega)
  by_cases h2 : xs.length = ns.length
  ·have d2 : decide (¬ ((xs.length : Nat) : Int) = (ns.length : Int)) = false := decide_eq_false (by omega)
   rw [if_neg (by rw [hml]; omega)]
   by_cases h3 : k < 0
   ·have d3 : decide (k < 0) = true := decide_eq_true h3
    rw [if_pos (.inl h3)]
    refine zS (zA hsl (zA hxc (zA hd3 (zA d1 d2)))) ?_
    refine wFs ?_
    refine zS (zA d3 @cT) ?_
    refine wT ?_
    refine zR ?_
    exact W_ret (RetP_2 (.imm rfl) (.imm rfl))
   ·have d3 : decide (k < 0) = false := decide_eq_false h3
    by_cases h4 : 20 < k
    ·have d4 : decide (k > 20) = true := decide_eq_true h4
     have d4' : decide (20 < k) = true := decide_eq_true h4
     rw [if_pos (.inr h4)]
     refine zS (zA hsl (zA hxc (zA hd3 (zA d1 d2)))) ?_
     refine wFs ?_
     refine zS (zA d3 (zA d4 d4')) ?_
     refine wT ?_
     refine zR ?_
     exact W_ret (RetP_2 (.imm rfl) (.imm rfl))
    ·have d4 : decide (k > 20) = false := decide_eq_false h4
     have d4' : decide (20 < k) = false := decide_eq_false h4
     rw [if_neg (by omega)]
     refine zS (zA hsl (zA hxc (zA hd3 (zA d1 d2)))) ?_
     refine wFs ?_
     refine zS (zA d3 (zA d4 d4')) ?_
     refine wFs ?_
     refine W_seq ?_
     refine W_reg ?_
     refine zD ?_
     refine W_own 8 1 49 rfl (by simp [lkH]) ?_
     refine zS hsl ?_
     refine W_loop (σ := Nat) (fun i => [(1, .sl 3 (xcs xs)), (2, .int .i64 k), (8, .osl 1 49 0 i), (27, .sl 1 (strL ns)), (28, .int .i64 ns.length), (29, .int .i64 i)])
      (fun i => [(49, recD (coefRecs ns (xs.map xv) k i))]) (fun i => i ≤ ns.length) (fun i => ns.length - i) 0 (Nat.zero_le _) ?_ rfl ?_
     ·simp [subF, lk]
     ·rintro i hi
      try simp only at hi ⊢
      have hcl := coefRecs_len ns (xs.map xv) k i
      have hrl := recD_len (coefRecs ns (xs.map xv) k i)
      by_cases hlt : i < ns.length
      ·have dl : decide ((i : Int) < (ns.length : Int)) = true := decide_eq_true (by omega)
       have ei : (i : Int).toNat = i := Int.toNat_natCast i
       have e1 : ((i : Int) + 1) = ((i + 1 : Nat) : Int) := by omega
       have hgi := strL_getD (r := ns) hlt
       have g3 := xcs_get xs i (by omega)
       rw [Nat.mul_comm 3 i] at g3
       have hok := xv_ok hx (k := i) (by omega)
       have hvg := xv_get xs i (by omega)
       have hrs := coefRecs_succ ns (xs.map xv) k i
       rw [hvg] at hrs
       generalize xs.getD i (false, [], []) = y at *
       have cf : PCalls Tryz.prog 39 [.agg (xc y)] (.str (fmtQ (xv y))) := qFormat_calls y.1 y.2.1 y.2.2 (by have := hok.2.2.1; omega) (by have := hok.2.2.2; omega) hok.1 hok.2.1
       have cd : PCalls Tryz.prog 50 [.agg (xc y), .int .i64 k] (.str (decR (xv y) k)) := qDecimal_calls y.1 y.2.1 y.2.2 k (by have := hok.2.2.1; omega) (by have := hok.2.2.2; omega) hok.1 hok.2.1
       have rfy : (DV.agg (xc y)).rf = true := xc_agg y
       have hR := coefRec (ns.getD i []) (xv y) k
       have hRe : ([.str (ns.getD i []), .str (fmtQ (xv y)), .str (decR (xv y) k)] : List DV) = strL (coefRec (ns.getD i []) (xv y) k) := rfl
       generalize coefRecs ns (xs.map xv) k i = R at *
       refine zS dl ?_
       refine wTs ?_
       repeat (first | refine W_seq ?_ | refine W_reg ?_ | refine W_regd ?_ | refine W_regs ?_ | refine W_regp ?_ | refine W_block ?_ | refine And.intro (by omega) ?_ | simp (maxSteps := 1000000) (disch := omega) only [cA, cB, cN, FnD.nb, lk, lkH, Dst.onT, Dst.onX, Dst.slot, setF, setH, mapF, mapH, initF, binE, unE, cnt, boundE, newsE, freshE, freshT, opE, rmH, blkQ, frz_us, Nat.reduceEqDiff, Nat.reduceLT, Nat.reduceAdd, Nat.reduceMul, Nat.reduceMod, ↓reduceIte, reduceCtorEq, Nat.reduceLeDiff, ei, hgi, hsl, hxc, g3])
       refine callC_pure cf (by rw [List.all_cons, rfy]; rfl) ?_
       repeat (first | refine W_seq ?_ | refine W_reg ?_ | refine W_regd ?_ | refine W_regs ?_ | refine W_regp ?_ | refine W_block ?_ | refine And.intro (by omega) ?_ | simp (maxSteps := 1000000) (disch := omega) only [cA, cB, cN, FnD.nb, lk, lkH, Dst.onT, Dst.onX, Dst.slot, setF, setH, mapF, mapH, initF, binE, unE, cnt, boundE, newsE, freshE, freshT, opE, rmH, blkQ, frz_us, Nat.reduceEqDiff, Nat.reduceLT, Nat.reduceAdd, Nat.reduceMul, Nat.reduceMod, ↓reduceIte, reduceCtorEq, Nat.reduceLeDiff, ei, hxc, g3])
       refine callC_pure cd (by rw [List.all_cons, rfy]; rfl) ?_
       refine zS (zA @cS (zA @rfm_nil (zA @rfm_str (zA @rfm_sl (zA hrl hcl))))) ?_
       refine And.intro (And.intro (by omega) (And.intro (by omega) (And.intro (fun h => h) (fun d hd => by rw [List.mem_singleton.1 hd]; rfl)))) ?_
       refine zS e1 ?_
       refine ⟨i + 1, hlt, by omega, by simp [subF, lk, purge, DV.has], ?_⟩
       rw [hrs, hRe, List.map_append, purge_recD, ← recD_app]
       rfl
      ·have dl : decide ((i : Int) < (ns.length : Int)) = false := decide_eq_false (by omega)
       obtain rfl : i = ns.length := by omega
       have hB := coefRecs_B (ns := ns) (rs := xs.map xv) (k := k) (i := ns.length) hn hns (fun r hr => by
        obtain ⟨x, hxm, rfl⟩ := List.mem_map.1 hr
        have := hx x hxm
        exact RB_rv this.1 this.2.1 this.2.2.1 this.2.2.2 (by decide))
       generalize coefRecs ns (xs.map xv) k ns.length = R at *
       have cc := rpColumns_calls R hB.1 hB.2.1 hB.2.2
       obtain ⟨s, e, hse⟩ := colR_tup R
       rw [hse] at cc ⊢
       refine zS dl ?_
       refine W_cond rfl (fun h => by cases h) (fun _ => W_exit ?_)
       refine zD ?_
       refine W_freeze 49 (cells := recD R) rfl (List.all_eq_true.2 (recD_rf R)) ?_
       have hfz := frz_recD' R 49
       rw [hcl] at hfz
       refine zS hfz ?_
       refine cP cc ?_
       refine zR ?_
       exact W_ret (RetP_2 (.imm rfl) (.imm rfl))
  ·have d2 : decide (¬ ((xs.length : Nat) : Int) = (ns.length : Int)) = true := decide_eq_true (by omega)
   rw [if_pos (.inr (by rw [hml]; exact h2))]
   refine zS (zA hsl (zA hxc (zA hd3 (zA d1 d2)))) ?_
   refine wT ?_
   refine zR ?_
   exact W_ret (RetP_2 (.imm rfl) (.imm rfl))
set_option maxHeartbeats 4000000 in
theorem reCoefs_calls (ns : List Bs) (xs : List XR) (k : Int) (hn : ns.length ≤ 1000000) (hxl : xs.length ≤ 1000000) (hns : ∀ s ∈ ns, s.length ≤ 9223372036854775807) (hx : ∀ x ∈ xs, okx 100 x) : PCalls Tryz.prog 23 [.sl 1 (strL ns), .sl 3 (xcs xs), .int .i64 k] (coefV ns (xs.map xv) k) := by
 have hsl := strL_len ns
 have hxc : (xcs xs).length = xs.length * 3 := by rw [xcs_len]; omega
 have hd3 : xs.length * 3 / 3 = xs.length := by omega
 have hml : (xs.map xv).length = xs.length := List.length_map ..
 refine PCalls_of isreCoefs (by simp [fnreCoefs]) ?_
 unfold codereCoefs
 unfold coefV
 by_cases h1 : ns.length < 1
 ·have d1 : decide (((ns.length : Nat) : Int) = 0) = true := decide_eq_true (by omega)
  rw [if_pos (.inl h1)]
  refine zS (zA hsl (zA d1 @cT)) ?_
  refine wT ?_
  refine zR ?_
  exact W_ret (RetP_2 (.imm rfl) (.imm rfl))
 ·have d1 : decide (((ns.length : Nat) : Int) = 0) = false := decide_eq_false (by omega)
  by_cases h2 : xs.length = ns.length
  ·have d2 : decide (¬ ((xs.length : Nat) : Int) = (ns.length : Int)) = false := decide_eq_false (by omega)
   rw [if_neg (by rw [hml]; omega)]
   by_cases h3 : k < 0
   ·have d3 : decide (k < 0) = true := decide_eq_true h3
    rw [if_pos (.inl h3)]
    refine zS (zA hsl (zA hxc (zA hd3 (zA d1 d2)))) ?_
    refine wFs ?_
    refine zS (zA d3 @cT) ?_
    refine wT ?_
    refine zR ?_
    exact W_ret (RetP_2 (.imm rfl) (.imm rfl))
   ·have d3 : decide (k < 0) = false := decide_eq_false h3
    by_cases h4 : 20 < k
    ·have d4 : decide (k > 20) = true := decide_eq_true h4
     have d4' : decide (20 < k) = true := decide_eq_true h4
     rw [if_pos (.inr h4)]
     refine zS (zA hsl (zA hxc (zA hd3 (zA d1 d2)))) ?_
     refine wFs ?_
     refine zS (zA d3 (zA d4 d4')) ?_
     refine wT ?_
     refine zR ?_
     exact W_ret (RetP_2 (.imm rfl) (.imm rfl))
    ·have d4 : decide (k > 20) = false := decide_eq_false h4
     have d4' : decide (20 < k) = false := decide_eq_false h4
     rw [if_neg (by omega)]
     refine zS (zA hsl (zA hxc (zA hd3 (zA d1 d2)))) ?_
     refine wFs ?_
     refine zS (zA d3 (zA d4 d4')) ?_
     refine wFs ?_
     refine W_seq ?_
     refine W_reg ?_
     refine zD ?_
     refine W_own 8 1 49 rfl (by simp [lkH]) ?_
     refine zS hsl ?_
     refine W_loop (σ := Nat) (fun i => [(1, .sl 3 (xcs xs)), (2, .int .i64 k), (8, .osl 1 49 0 i), (27, .sl 1 (strL ns)), (28, .int .i64 ns.length), (29, .int .i64 i)])
      (fun i => [(49, recD (coefRecs ns (xs.map xv) k i))]) (fun i => i ≤ ns.length) (fun i => ns.length - i) 0 (Nat.zero_le _) ?_ rfl ?_
     ·simp [subF, lk]
     ·rintro i hi
      try simp only at hi ⊢
      have hcl := coefRecs_len ns (xs.map xv) k i
      have hrl := recD_len (coefRecs ns (xs.map xv) k i)
      by_cases hlt : i < ns.length
      ·have dl : decide ((i : Int) < (ns.length : Int)) = true := decide_eq_true (by omega)
       have ei : (i : Int).toNat = i := Int.toNat_natCast i
       have e1 : ((i : Int) + 1) = ((i + 1 : Nat) : Int) := by omega
       have hgi := strL_getD (r := ns) hlt
       have g3 := xcs_get xs i (by omega)
       rw [Nat.mul_comm 3 i] at g3
       have hok := xv_ok hx (k := i) (by omega)
       have hvg := xv_get xs i (by omega)
       have hrs := coefRecs_succ ns (xs.map xv) k i
       rw [hvg] at hrs
       generalize xs.getD i (false, [], []) = y at *
       have cf : PCalls Tryz.prog 42 [.agg (xc y)] (.str (fmtQ (xv y))) := pFormat_calls y.1 y.2.1 y.2.2 (by have := hok.2.2.1; omega) (by have := hok.2.2.2; omega) hok.1 hok.2.1
       have cd : PCalls Tryz.prog 51 [.agg (xc y), .int .i64 k] (.str (decR (xv y) k)) := pDecimal_calls y.1 y.2.1 y.2.2 k (by have := hok.2.2.1; omega) (by have := hok.2.2.2; omega) hok.1 hok.2.1
       have rfy : (DV.agg (xc y)).rf = true := xc_agg y
       have hR := coefRec (ns.getD i []) (xv y) k
       have hRe : ([.str (ns.getD i []), .str (fmtQ (xv y)), .str (decR (xv y) k)] : List DV) = strL (coefRec (ns.getD i []) (xv y) k) := rfl
       generalize coefRecs ns (xs.map xv) k i = R at *
       refine zS dl ?_
       refine wTs ?_
       refine zS (zA ei (zA hgi (zA hsl (zA hxc g3)))) ?_
       refine callC_pure cf (by rw [List.all_cons, rfy]; rfl) ?_
       refine zS (zA ei (zA hxc g3)) ?_
       refine callC_pure cd (by rw [List.all_cons, rfy]; rfl) ?_
       refine zS (zA @cS (zA @rfm_nil (zA @rfm_str (zA @rfm_sl (zA hrl hcl))))) ?_
       refine And.intro (And.intro (by omega) (And.intro (by omega) (And.intro (fun h => h) (fun d hd => by rw [List.mem_singleton.1 hd]; rfl)))) ?_
       refine zS e1 ?_
       refine ⟨i + 1, hlt, by omega, by simp [subF, lk, purge, DV.has], ?_⟩
       rw [hrs, hRe, List.map_append, purge_recD, ← recD_app]
       rfl
      ·have dl : decide ((i : Int) < (ns.length : Int)) = false := decide_eq_false (by omega)
       obtain rfl : i = ns.length := by omega
       have hB := coefRecs_B (ns := ns) (rs := xs.map xv) (k := k) (i := ns.length) hn hns (fun r hr => by
        obtain ⟨x, hxm, rfl⟩ := List.mem_map.1 hr
        have := hx x hxm
        exact RB_rv this.1 this.2.1 this.2.2.1 this.2.2.2 (by decide))
       generalize coefRecs ns (xs.map xv) k ns.length = R at *
       have cc := reColumns_calls R hB.1 hB.2.1 hB.2.2
       obtain ⟨s, e, hse⟩ := colR_tup R
       rw [hse] at cc ⊢
       refine zS dl ?_
       refine W_cond rfl (fun h => by cases h) (fun _ => W_exit ?_)
       refine zD ?_
       refine W_freeze 49 (cells := recD R) rfl (List.all_eq_true.2 (recD_rf R)) ?_
       have hfz := frz_recD' R 49
       rw [hcl] at hfz
       refine zS hfz ?_
       refine cP cc ?_
       refine zR ?_
       exact W_ret (RetP_2 (.imm rfl) (.imm rfl))
  ·have d2 : decide (¬ ((xs.length : Nat) : Int) = (ns.length : Int)) = true := decide_eq_true (by omega)
   rw [if_pos (.inr (by rw [hml]; exact h2))]
   refine zS (zA hsl (zA hxc (zA hd3 (zA d1 d2)))) ?_
   refine wT ?_
   refine zR ?_
   exact W_ret (RetP_2 (.imm rfl) (.imm rfl))
theorem parseQ_RB1 {l : List UInt8} (hl : l.length ≤ 450) {x : Rat} (h : parseQ l = some x) : RB x 100 := by
 have key : ∀ {s : List UInt8}, s.length ≤ 450 → ∀ {x : Rat}, unsQ s = some x → RB x 100 := by
  intro s hs x h
  rw [unsQ_P, Option.map_eq_some_iff] at h
  obtain ⟨⟨n, d⟩, hp, rfl⟩ := h
  obtain ⟨b1, b2⟩ := unsP_9 hp hs
  exact RB_mk (show d ≠ 0 by have := unsP_pos hp; omega) (by rw [Int.natAbs_natCast]; exact len9 b1 (by decide)) (len9 b2 (by decide))
 unfold parseQ at h
 by_cases h45 : l.head? = some 45
 ·rw [decide_eq_true h45, if_pos h45] at h
  unfold negQ at h
  rw [if_pos rfl, Option.map_eq_some_iff] at h
  obtain ⟨y, hy, rfl⟩ := h
  exact RB_neg (key (by rw [List.length_tail]; omega) hy)
 ·rw [decide_eq_false h45, if_neg h45] at h
  exact key hl h
def coefP (ns : List Bs) (rs : List Rat) (k : Int) : Option Bs := if ns.length < 1 ∨ rs.length ≠ ns.length then none else if k < 0 ∨ 20 < k then none else colP (coefRecs ns rs k ns.length)
theorem coefV_some {ns : List Bs} {rs : List Rat} {k : Int} {u : Bs} (h : coefP ns rs k = some u) : coefV ns rs k = .tup [.str u, .int .i64 0] := by
 unfold coefP at h
 unfold coefV
 split at h
 ·cases h
 ·rename_i h1
  rw [if_neg h1]
  split at h
  ·cases h
  ·rename_i h2
   rw [if_neg h2]
   exact colR_some h
theorem coefV_none {ns : List Bs} {rs : List Rat} {k : Int} (h : coefP ns rs k = none) : ∃ e : Int, e ≠ 0 ∧ coefV ns rs k = .tup [.str [], .int .i64 e] := by
 unfold coefP at h
 unfold coefV
 split at h
 ·rename_i h1
  rw [if_pos h1]; exact ⟨6, by decide, rfl⟩
 ·rename_i h1
  rw [if_neg h1]
  split at h
  ·rename_i h2
   rw [if_pos h2]; exact ⟨1, by decide, rfl⟩
  ·rename_i h2
   rw [if_neg h2]; exact colR_none h
theorem coefP_col {ns : List Bs} {rs : List Rat} {k : Int} {u : Bs} (h : coefP ns rs k = some u) : colP (coefRecs ns rs k ns.length) = some u := by
 unfold coefP at h
 split at h
 ·cases h
 ·split at h
  ·cases h
  ·exact h
def cfNames (W : List (List Bs)) : List Bs := W.map fun r => r.getD 0 []
def cfNums (W : List (List Bs)) : List Rat := W.map fun r => (parseQ (r.getD 1 [])).getD 0
def cfOk (W : List (List Bs)) : Prop := ∀ r ∈ W, r.length = 3 ∧ parseQ (r.getD 1 []) ≠ none
def cfHit (W : List (List Bs)) (T : Bs) (k : Nat) : Prop := coefP (cfNames W) (cfNums W) k = some T
open Classical in
noncomputable def rdcR (T : Bs) : DV := if cfOk (wordsL T) ∧ ∃ k, k ≤ 20 ∧ cfHit (wordsL T) T k then .tup [.sl 1 (strL (cfNames (wordsL T))), .sl 3 (xcs ((cfNums (wordsL T)).map xq)), .int .i64 0] else .tup [.nils, .nils, .int .i64 3]
theorem rdcR_ok {T : Bs} (h1 : cfOk (wordsL T)) {k : Nat} (hk : k ≤ 20) (h2 : cfHit (wordsL T) T k) : rdcR T = .tup [.sl 1 (strL (cfNames (wordsL T))), .sl 3 (xcs ((cfNums (wordsL T)).map xq)), .int .i64 0] := by
 unfold rdcR; rw [if_pos ⟨h1, k, hk, h2⟩]
theorem rdcR_bad {T : Bs} (h : ¬ (cfOk (wordsL T) ∧ ∃ k, k ≤ 20 ∧ cfHit (wordsL T) T k)) : rdcR T = .tup [.nils, .nils, .int .i64 3] := by
 unfold rdcR; rw [if_neg h]
theorem rdcR_row {T : Bs} {i : Nat} (hi : i < (wordsL T).length) (h : ¬ (((wordsL T).getD i []).length = 3 ∧ parseQ (((wordsL T).getD i []).getD 1 []) ≠ none)) : rdcR T = .tup [.nils, .nils, .int .i64 3] :=
 rdcR_bad fun hh => h (hh.1 _ (by rw [List.getD_eq_getElem?_getD, List.getElem?_eq_getElem hi]; exact List.getElem_mem hi))
theorem rdcR_col {T : Bs} (h : colP (wordsL T) ≠ some T) : rdcR T = .tup [.nils, .nils, .int .i64 3] :=
 rdcR_bad fun hh => by
  obtain ⟨_, k, _, hk⟩ := hh
  have h1 := coefP_col hk
  have h2 := words_colP h1
  rw [h2] at h
  exact h h1
theorem take_names {W : List (List Bs)} {i : Nat} (hi : i < W.length) : (cfNames W).take (i + 1) = (cfNames W).take i ++ [(W.getD i []).getD 0 []] := by
 have : i < (cfNames W).length := by unfold cfNames; rw [List.length_map]; exact hi
 rw [List.take_add_one, List.getElem?_eq_getElem this]
 simp [cfNames, List.getElem?_eq_getElem hi]
theorem take_nums {W : List (List Bs)} {i : Nat} (hi : i < W.length) {x : Rat} (hx : parseQ ((W.getD i []).getD 1 []) = some x) : (cfNums W).take (i + 1) = (cfNums W).take i ++ [x] := by
 have : i < (cfNums W).length := by unfold cfNums; rw [List.length_map]; exact hi
 rw [List.take_add_one, List.getElem?_eq_getElem this]
 have e : W.getD i [] = W[i] := by rw [List.getD_eq_getElem?_getD, List.getElem?_eq_getElem hi]; rfl
 rw [e] at hx
 have h2 : (cfNums W)[i]? = some x := by
  unfold cfNums
  rw [List.getElem?_map, List.getElem?_eq_getElem hi, Option.map_some, hx]; rfl
 rw [List.getElem?_eq_getElem this] at h2
 cases h2
 rfl
theorem strL_app1 (l : List Bs) (s : Bs) : strL l ++ [.str s] = strL (l ++ [s]) := by unfold strL; simp
theorem strL_rfs (l : List Bs) : ∀ d ∈ strL l, d.rf = true := List.all_eq_true.1 (strL_rf l)
theorem colP_shape {recs : List (List Bs)} {t : Bs} (h : colP recs = some t) : 1 ≤ recs.length ∧ ∀ r ∈ recs, r.length = (recs.getD 0 []).length := by
 unfold colP at h
 split at h
 ·rename_i h1
  unfold shapeOk shapeB at h1
  simp only [Bool.and_eq_true, decide_eq_true_eq, List.all_eq_true] at h1
  refine ⟨h1.1.1, fun r hr => ?_⟩
  have := (h1.2 r hr).1
  cases recs with
  | nil => cases hr
  | cons a l => exact this
 ·cases h
theorem frz_strL' (l : List Bs) (o : Nat) : frz o (strL l) (.osl 1 o 0 l.length) = .sl 1 (strL l) := by
 have := strL_len l
 rw [frz_osl_eq o _ 0 l.length (by decide) (by omega), List.drop_zero, List.take_of_length_le (by omega)]
theorem frz_xcs' (xs : List XR) (o : Nat) : frz o (xcs xs) (.osl 3 o 0 xs.length) = .sl 3 (xcs xs) := by
 have := xcs_len xs
 rw [frz_osl_eq o _ 0 xs.length (by decide) (by omega), List.drop_zero, List.take_of_length_le (by omega)]
set_option maxRecDepth 10000 in
set_option maxHeartbeats 4000000 in
theorem reReadCoefs_calls (T : Bs) (hT : T.length ≤ 1000000) (hw : ∀ r ∈ wordsL T, ∀ s ∈ r, s.length ≤ 450) : PCalls Tryz.prog 25 [.str T] (rdcR T) := by
 have cw := reWords_calls T hT
 have hbd := words_bd T
 have hrow := fun i => @rdcR_row T i
 have hend : (∀ i, i < (wordsL T).length → ((wordsL T).getD i []).length = 3 ∧ parseQ (((wordsL T).getD i []).getD 1 []) ≠ none) → cfOk (wordsL T) := fun h r hr => by
  obtain ⟨i, hi⟩ := List.mem_iff_getElem?.1 hr
  have h1 := h i (List.getElem?_eq_some_iff.1 hi).1
  rw [List.getD_eq_getElem?_getD, hi] at h1
  exact h1
 have hbad := @rdcR_bad T
 have hokk := fun h1 k hk h2 => @rdcR_ok T h1 k hk h2
 generalize wordsL T = W at *
 have hWl := recD_len W
 have hnl : (cfNames W).length = W.length := List.length_map ..
 have hql : (cfNums W).length = W.length := List.length_map ..
 have hq0 : ∀ i, i < W.length → ∀ x, parseQ ((W.getD i []).getD 1 []) = some x → RB x 100 := fun i hi x hx => by
  have hm : W.getD i [] ∈ W := by rw [List.getD_eq_getElem?_getD, List.getElem?_eq_getElem hi]; exact List.getElem_mem hi
  refine parseQ_RB1 (l := (W.getD i []).getD 1 []) ?_ hx
  rw [List.getD_eq_getElem?_getD]
  cases h : (W.getD i [])[1]? with
  | none => simp
  | some s => exact hw _ hm s (List.mem_of_getElem? h)
 refine PCalls_of isreReadCoefs (by simp [fnreReadCoefs]) ?_
 unfold codereReadCoefs
 refine W_seq ?_
 refine W_reg ?_
 refine zD ?_
 refine W_seq ?_
 refine W_reg ?_
 refine zD ?_
 refine W_seq ?_
 refine W_reg ?_
 refine zD ?_
 refine W_own 5 1 38 rfl (by simp [lkH, setH]) ?_
 refine W_own 6 3 42 rfl (by simp [lkH, setH]) ?_
 refine zR ?_
 refine cP cw ?_
 refine zS hWl ?_
 refine W_loop (σ := Nat) (fun i => [(0, .str T), (5, .osl 1 38 0 i), (6, .osl 3 42 0 i), (15, .sl 1 (recD W)), (16, .int .i64 W.length), (17, .int .i64 i)])
  (fun i => [(38, strL ((cfNames W).take i)), (42, xcs (((cfNums W).take i).map xq))]) (fun i => i ≤ W.length ∧ ∀ j, j < i → (W.getD j []).length = 3 ∧ parseQ ((W.getD j []).getD 1 []) ≠ none) (fun i => W.length - i) 0 ⟨Nat.zero_le _, fun j hj => absurd hj (Nat.not_lt_zero _)⟩ ?_ rfl ?_
 ·simp [subF, lk]
 ·rintro i ⟨hi, hrows⟩
  try simp only at hi hrows ⊢
  have hnt : ((cfNames W).take i).length = i := by rw [List.length_take]; omega
  have hqt : (((cfNums W).take i).map xq).length = i := by rw [List.length_map, List.length_take]; omega
  have hsl := strL_len ((cfNames W).take i)
  have hxl := xcs_len (((cfNums W).take i).map xq)
  by_cases hlt : i < W.length
  ·have d1 : decide ((i : Int) < (W.length : Int)) = true := decide_eq_true (by omega)
   have ei : (i : Int) + 1 = ((i + 1 : Nat) : Int) := by omega
   have hgl := recD_getD (recs := W) (i := i) hlt
   have hmem : W.getD i [] ∈ W := by rw [List.getD_eq_getElem?_getD, List.getElem?_eq_getElem hlt]; exact List.getElem_mem hlt
   have hb := hbd.2 _ hmem
   have hsl2 := strL_len (W.getD i [])
   have hk3 : ((i : Int)).toNat = i := Int.toNat_natCast _
   have e1 : Int.toNat 1 = 1 := rfl
   have e0 : Int.toNat 0 = 0 := rfl
   have hnn := take_names hlt
   have hqq := fun x => @take_nums W i hlt x
   have hRx := hq0 i hlt
   have hbadi := hrow i hlt
   by_cases h2 : (W.getD i []).length = 3
   ·have hgf := strL_getD (r := W.getD i []) (j := 1) (by omega)
    have hg0 := strL_getD (r := W.getD i []) (j := 0) (by omega)
    have hfm := getD_mem' (W.getD i []) (k := 1) (by omega)
    have hfl := hw _ hmem _ hfm
    have cq := pParse_calls ((W.getD i []).getD 1 []) (by omega)
    generalize hX : (W.getD i []).getD 1 [] = X at *
    generalize hN : (W.getD i []).getD 0 [] = N at *
    generalize hl : W.getD i [] = l at *
    have d2 : decide (¬ ((l.length : Nat) : Int) = 3) = false := decide_eq_false (by omega)
    refine zS d1 ?_
    refine wTs ?_
    refine zS (zA hgl (zA hk3 (zA hWl (zA hsl2 d2)))) ?_
    refine wFs ?_
    refine zS (zA hsl2 (zA h2 (zA hgf e1))) ?_
    refine cP cq ?_
    cases hq : parseQ X with
    | none =>
     rw [hbadi (fun h => h.2 hq)]
     rw [show resQ none = .tup [.agg (xc (xq 0)), .bool false] from rfl]
     have hxc := xc_cells (xq 0)
     have hx3 : (xc (xq 0)).length = 3 := rfl
     have h33 : (xc (xq 0)).take 3 = xc (xq 0) := rfl
     refine zS (zA hxc (zA hx3 (zA h33 @cS))) ?_
     refine wT ?_
     refine zS @cS ?_
     exact W_ret (RetP_3 (.imm rfl) (.imm rfl) (.imm rfl))
    | some x =>
     rw [show resQ (some x) = .tup [.agg (xc (xq x)), .bool true] from rfl]
     have hxc := xc_cells (xq x)
     have hx3 : (xc (xq x)).length = 3 := rfl
     have h33 : (xc (xq x)).take 3 = xc (xq x) := rfl
     repeat (first | refine W_seq ?_ | refine W_reg ?_ | refine W_regd ?_ | refine W_regs ?_ | refine W_regp ?_ | refine W_block ?_ | refine And.intro (by omega) ?_ | simp (maxSteps := 1000000) (disch := omega) only [cA, cB, cN, FnD.nb, lk, lkH, Dst.onT, Dst.onX, Dst.slot, setF, setH, mapF, mapH, initF, binE, unE, cnt, boundE, newsE, freshE, freshT, opE, rmH, blkQ, frz_us, Nat.reduceEqDiff, Nat.reduceLT, Nat.reduceAdd, Nat.reduceMul, Nat.reduceMod, ↓reduceIte, reduceCtorEq, Nat.reduceLeDiff, hxc, hx3, h33, cS])
     refine wFs ?_
     have hla := laid3 (xq x)
     have hrf := xc_rf (xq x)
     have hone := xc_one (xq x)
     refine W_regd ?_
     simp (maxSteps := 1000000) (disch := omega) only [cA, cB, cN, FnD.nb, lk, lkH, Dst.onT, Dst.onX, Dst.slot, setF, setH, mapF, mapH, initF, binE, unE, cnt, boundE, newsE, freshE, freshT, opE, rmH, blkQ, frz_us, Nat.reduceEqDiff, Nat.reduceLT, Nat.reduceAdd, Nat.reduceMul, Nat.reduceMod, ↓reduceIte, reduceCtorEq, Nat.reduceLeDiff, hxc, hx3, h33, hsl2, h2, hg0, e0, hsl, hnt, hxl, hqt, hla, List.drop_zero, cS, rfm_nil, rfm_str]
     have hp9 : purge 38 (.ptr 9 0) = .ptr 9 0 := rfl
     have hp9b : purge 42 (.ptr 9 0) = .ptr 9 0 := rfl
     have hpq : purge 38 (.osl 3 42 0 i) = .osl 3 42 0 i := rfl
     have m1 := map_purge 38 hrf
     have m2 := map_purge 38 (xcs_rf (((cfNums W).take i).map xq))
     have m3 : List.map (purge 38) (strL ((cfNames W).take i) ++ [.str N]) = strL ((cfNames W).take (i + 1)) := by
      rw [List.map_append, purge_strL, hnn, ← strL_app1]; rfl
     have m4 := map_purge 42 hrf
     have m5 : List.map (purge 42) (xcs (((cfNums W).take i).map xq) ++ xc (xq x)) = xcs (((cfNums W).take (i + 1)).map xq) := by
      rw [List.map_append, map_purge 42 (xcs_rf _), map_purge 42 hrf, hqq x hq, List.map_append]; exact xcs_app _ _
     have m6 := purge_strL 42 ((cfNames W).take (i + 1))
     refine And.intro (by omega) (And.intro (And.intro (by omega) (And.intro (by omega) (And.intro (fun h => h) (fun d hd => by rw [List.mem_singleton.1 hd]; rfl)))) ?_)
     refine zE (zA hp9 (zA hp9b (zA hpq (zA m1 (zA m2 (zA m3 (zA m4 (zA m6 (zA hxc (zA hx3 (zA h33 (zA hsl (zA hnt (zA hxl (zA hqt (zA hla (zA @List.drop_zero.{0} @cS))))))))))))))))) ?_
     refine And.intro (fun d hd => And.intro (hone d hd) (hrf d hd)) (And.intro hrf (And.intro (And.intro (by omega) (And.intro (by omega) (And.intro (by omega) (And.intro (fun h => h) hone)))) ?_))
     refine W_freeze 9 (cells := xc (xq x)) rfl rfl ?_
     refine zS ei ?_
     refine ⟨i + 1, ⟨by omega, fun j hj => ?_⟩, by omega, ?_, ?_⟩
     ·rcases Nat.lt_or_ge j i with h | h
      ·exact hrows j h
      ·obtain rfl : j = i := by omega
       rw [hl, hX, hq]; exact ⟨h2, by simp⟩
     ·simp [subF, lk, frz_ptr_ne, frz_osl_ne, purge, DV.has, DV.hasL]
     ·simp only [m5, map_frz 9 _ (strL_rfs _), map_frz 9 _ (xcs_rf _)]
   ·have d2 : decide (¬ (((W.getD i []).length : Nat) : Int) = 3) = true := decide_eq_true (by omega)
    rw [hbadi (fun h => h2 h.1)]
    generalize W.getD i [] = l at *
    refine zS d1 ?_
    refine wTs ?_
    repeat (first | refine W_seq ?_ | refine W_reg ?_ | refine W_regd ?_ | refine W_regs ?_ | refine W_regp ?_ | refine W_block ?_ | refine And.intro (by omega) ?_ | simp (maxSteps := 1000000) (disch := omega) only [cA, cB, cN, FnD.nb, lk, lkH, Dst.onT, Dst.onX, Dst.slot, setF, setH, mapF, mapH, initF, binE, unE, cnt, boundE, newsE, freshE, freshT, opE, rmH, blkQ, frz_us, Nat.reduceEqDiff, Nat.reduceLT, Nat.reduceAdd, Nat.reduceMul, Nat.reduceMod, ↓reduceIte, reduceCtorEq, Nat.reduceLeDiff, hgl, hk3, hWl, hsl2, d2])
    refine wT ?_
    repeat (first | refine W_seq ?_ | refine W_reg ?_ | refine W_regd ?_ | refine W_regs ?_ | refine W_regp ?_ | refine W_block ?_ | refine And.intro (by omega) ?_ | simp (maxSteps := 1000000) (disch := omega) only [cA, cB, cN, FnD.nb, lk, lkH, Dst.onT, Dst.onX, Dst.slot, setF, setH, mapF, mapH, initF, binE, unE, cnt, boundE, newsE, freshE, freshT, opE, rmH, blkQ, frz_us, Nat.reduceEqDiff, Nat.reduceLT, Nat.reduceAdd, Nat.reduceMul, Nat.reduceMod, ↓reduceIte, reduceCtorEq, Nat.reduceLeDiff, cS])
    exact W_ret (RetP_3 (.imm rfl) (.imm rfl) (.imm rfl))
  ·have d1 : decide ((i : Int) < (W.length : Int)) = false := decide_eq_false (by omega)
   obtain rfl : i = W.length := by omega
   have hcf := hend hrows
   have tn : (cfNames W).take W.length = cfNames W := List.take_of_length_le (by omega)
   have tq : (cfNums W).take W.length = cfNums W := List.take_of_length_le (by omega)
   rw [tn, tq] at *
   have hWb := hbd.1
   have hnb : ∀ s ∈ cfNames W, s.length ≤ 9223372036854775807 := fun s hs => by
    obtain ⟨r, hr, rfl⟩ := List.mem_map.1 hs
    rw [List.getD_eq_getElem?_getD]
    cases h : r[0]? with
    | none => simp
    | some s => have := hw r hr s (List.mem_of_getElem? h); simp only [Option.getD_some]; omega
   have hxo : ∀ x ∈ (cfNums W).map xq, okx 100 x := fun x hx => by
    obtain ⟨q, hq, rfl⟩ := List.mem_map.1 hx
    obtain ⟨r, hr, rfl⟩ := List.mem_map.1 hq
    obtain ⟨j, hj⟩ := List.mem_iff_getElem?.1 hr
    have hjl := (List.getElem?_eq_some_iff.1 hj).1
    have e : W.getD j [] = r := by rw [List.getD_eq_getElem?_getD, hj]; rfl
    have h3 := (hcf r hr).2
    cases hp : parseQ (r.getD 1 []) with
    | none => exact absurd hp h3
    | some y => exact okx_xq (hq0 j hjl y (by rw [e]; exact hp)) (by decide)
   have hcoef : ∀ k : Nat, PCalls Tryz.prog 23 [.sl 1 (strL (cfNames W)), .sl 3 (xcs ((cfNums W).map xq)), .int .i64 (k : Int)] (coefV (cfNames W) (cfNums W) (k : Int)) := fun k => by
    have := reCoefs_calls (cfNames W) ((cfNums W).map xq) k (by omega) (by rw [List.length_map]; omega) hnb hxo
    rw [xvs_xq] at this
    exact this
   have hbad2 : (∀ k, k ≤ 20 → ¬ cfHit W T k) → rdcR T = .tup [.nils, .nils, .int .i64 3] := fun h => hbad fun hh => by
    obtain ⟨_, k, hk, h2⟩ := hh
    exact h k hk h2
   have hgood : ∀ k, k ≤ 20 → cfHit W T k → rdcR T = .tup [.sl 1 (strL (cfNames W)), .sl 3 (xcs ((cfNums W).map xq)), .int .i64 0] := fun k hk h => hokk hcf k hk h
   have f1 := frz_strL' (cfNames W) 38
   have f2 := frz_xcs' ((cfNums W).map xq) 42
   rw [hnl] at f1
   rw [show ((cfNums W).map xq).length = W.length by rw [List.length_map, hql]] at f2
   have f3 := map_frz 38 (strL (cfNames W)) (xcs_rf ((cfNums W).map xq))
   have hit0 : ∀ k, cfHit W T k ↔ coefP (cfNames W) (cfNums W) k = some T := fun k => Iff.rfl
   clear hrow hend hbad hokk hq0 hrows hcf hxo hnb tn tq
   generalize cfNames W = NS at *
   generalize cfNums W = QS at *
   repeat (first | refine W_seq ?_ | refine W_reg ?_ | refine W_regd ?_ | refine W_regs ?_ | refine W_regp ?_ | refine W_block ?_ | refine And.intro (by omega) ?_ | simp (maxSteps := 1000000) (disch := omega) only [cA, cB, cN, FnD.nb, lk, lkH, Dst.onT, Dst.onX, Dst.slot, setF, setH, mapF, mapH, initF, binE, unE, cnt, boundE, newsE, freshE, freshT, opE, rmH, blkQ, frz_us, Nat.reduceEqDiff, Nat.reduceLT, Nat.reduceAdd, Nat.reduceMul, Nat.reduceMod, ↓reduceIte, reduceCtorEq, Nat.reduceLeDiff, d1])
   refine wF ?_
   refine W_exit ?_
   simp (maxSteps := 1000000) (disch := omega) only [cA, cB, cN, FnD.nb, lk, lkH, Dst.onT, Dst.onX, Dst.slot, setF, setH, mapF, mapH, initF, binE, unE, cnt, boundE, newsE, freshE, freshT, opE, rmH, blkQ, frz_us, Nat.reduceEqDiff, Nat.reduceLT, Nat.reduceAdd, Nat.reduceMul, Nat.reduceMod, ↓reduceIte, reduceCtorEq, Nat.reduceLeDiff]
   refine W_freeze 38 (cells := strL NS) rfl (strL_rf NS) ?_
   simp (maxSteps := 1000000) (disch := omega) only [cA, cB, cN, FnD.nb, lk, lkH, Dst.onT, Dst.onX, Dst.slot, setF, setH, mapF, mapH, initF, binE, unE, cnt, boundE, newsE, freshE, freshT, opE, rmH, blkQ, frz_us, Nat.reduceEqDiff, Nat.reduceLT, Nat.reduceAdd, Nat.reduceMul, Nat.reduceMod, ↓reduceIte, reduceCtorEq, Nat.reduceLeDiff, f1, f3]
   refine W_freeze 42 (cells := xcs (QS.map xq)) rfl (List.all_eq_true.2 (xcs_rf _)) ?_
   simp (maxSteps := 1000000) (disch := omega) only [cA, cB, cN, FnD.nb, lk, lkH, Dst.onT, Dst.onX, Dst.slot, setF, setH, mapF, mapH, initF, binE, unE, cnt, boundE, newsE, freshE, freshT, opE, rmH, blkQ, frz_us, Nat.reduceEqDiff, Nat.reduceLT, Nat.reduceAdd, Nat.reduceMul, Nat.reduceMod, ↓reduceIte, reduceCtorEq, Nat.reduceLeDiff, f2]
   refine zR ?_
   refine W_loop (σ := Nat) (fun k => [(0, .str T), (5, .sl 1 (strL NS)), (6, .sl 3 (xcs (QS.map xq))), (11, .int .i64 k)]) (fun _ => []) (fun k => k ≤ 21 ∧ ∀ j, j < k → ¬ cfHit W T j) (fun k => 21 - k) 0 ⟨Nat.zero_le _, fun j hj => absurd hj (Nat.not_lt_zero _)⟩ ?_ rfl ?_
   ·simp [subF, lk]
   ·rintro k ⟨hk, hno⟩
    try simp only at hk hno ⊢
    by_cases hk2 : k ≤ 20
    ·have dk : decide ((k : Int) ≤ 20) = true := decide_eq_true (by omega)
     have ek : (k : Int) + 1 = ((k + 1 : Nat) : Int) := by omega
     have cc := hcoef k
     refine zS dk ?_
     refine wTs ?_
     refine zR ?_
     cases hp : coefP NS QS k with
     | none =>
      obtain ⟨e, he, hv⟩ := coefV_none hp
      rw [hv] at cc
      have de : decide (e = 0) = false := decide_eq_false he
      refine cP cc ?_
      refine zS de ?_
      refine wFs ?_
      repeat (first | refine W_seq ?_ | refine W_reg ?_ | refine W_regd ?_ | refine W_regs ?_ | refine W_regp ?_ | refine W_block ?_ | refine And.intro (by omega) ?_ | simp (maxSteps := 1000000) (disch := omega) only [cA, cB, cN, FnD.nb, lk, lkH, Dst.onT, Dst.onX, Dst.slot, setF, setH, mapF, mapH, initF, binE, unE, cnt, boundE, newsE, freshE, freshT, opE, rmH, blkQ, frz_us, Nat.reduceEqDiff, Nat.reduceLT, Nat.reduceAdd, Nat.reduceMul, Nat.reduceMod, ↓reduceIte, reduceCtorEq, Nat.reduceLeDiff, ek])
      refine ⟨k + 1, ⟨by omega, fun j hj => ?_⟩, by omega, by simp [subF, lk]⟩
      rcases Nat.lt_or_ge j k with h | h
      ·exact hno j h
      ·obtain rfl : j = k := by omega
       rw [hit0, hp]; simp
     | some u =>
      rw [coefV_some hp] at cc
      refine cP cc ?_
      have de : decide True = true := rfl
      by_cases hu : u = T
      ·have du : decide (u = T) = true := decide_eq_true hu
       rw [hgood k hk2 (by rw [hit0, hp, hu])]
       repeat (first | refine W_seq ?_ | refine W_reg ?_ | refine W_regd ?_ | refine W_regs ?_ | refine W_regp ?_ | refine W_block ?_ | refine And.intro (by omega) ?_ | simp (maxSteps := 1000000) (disch := omega) only [cA, cB, cN, FnD.nb, lk, lkH, Dst.onT, Dst.onX, Dst.slot, setF, setH, mapF, mapH, initF, binE, unE, cnt, boundE, newsE, freshE, freshT, opE, rmH, blkQ, frz_us, Nat.reduceEqDiff, Nat.reduceLT, Nat.reduceAdd, Nat.reduceMul, Nat.reduceMod, ↓reduceIte, reduceCtorEq, Nat.reduceLeDiff, de, du])
       refine wT ?_
       refine zR ?_
       exact W_ret (RetP_3 (.imm rfl) (.imm rfl) (.imm rfl))
      ·have du : decide (u = T) = false := decide_eq_false hu
       refine zS (zA de du) ?_
       refine wFs ?_
       refine zS ek ?_
       refine ⟨k + 1, ⟨by omega, fun j hj => ?_⟩, by omega, by simp [subF, lk]⟩
       rcases Nat.lt_or_ge j k with h | h
       ·exact hno j h
       ·obtain rfl : j = k := by omega
        rw [hit0, hp]; simpa using hu
    ·have dk : decide ((k : Int) ≤ 20) = false := decide_eq_false (by omega)
     rw [hbad2 (fun j hj => hno j (by omega))]
     refine zS dk ?_
     refine W_cond rfl (fun h => by cases h) (fun _ => W_exit ?_)
     refine zR ?_
     exact W_ret (RetP_3 (.imm rfl) (.imm rfl) (.imm rfl))
set_option maxRecDepth 10000 in
set_option maxHeartbeats 4000000 in
theorem rpReadCoefs_calls (T : Bs) (hT : T.length ≤ 1000000) (hw : ∀ r ∈ wordsL T, ∀ s ∈ r, s.length ≤ 450) : PCalls Tryz.prog 24 [.str T] (rdcR T) := by
 have cw := rpParse_calls T hT
 unfold parD at cw
 have hcol := @rdcR_col T
 have hbd := words_bd T
 have hrow := fun i => @rdcR_row T i
 have hend : (∀ i, i < (wordsL T).length → ((wordsL T).getD i []).length = 3 ∧ parseQ (((wordsL T).getD i []).getD 1 []) ≠ none) → cfOk (wordsL T) := fun h r hr => by
  obtain ⟨i, hi⟩ := List.mem_iff_getElem?.1 hr
  have h1 := h i (List.getElem?_eq_some_iff.1 hi).1
  rw [List.getD_eq_getElem?_getD, hi] at h1
  exact h1
 have hbad := @rdcR_bad T
 have hokk := fun h1 k hk h2 => @rdcR_ok T h1 k hk h2
 generalize wordsL T = W at *
 have hWl := recD_len W
 have hnl : (cfNames W).length = W.length := List.length_map ..
 have hql : (cfNums W).length = W.length := List.length_map ..
 have hq0 : ∀ i, i < W.length → ∀ x, parseQ ((W.getD i []).getD 1 []) = some x → RB x 100 := fun i hi x hx => by
  have hm : W.getD i [] ∈ W := by rw [List.getD_eq_getElem?_getD, List.getElem?_eq_getElem hi]; exact List.getElem_mem hi
  refine parseQ_RB1 (l := (W.getD i []).getD 1 []) ?_ hx
  rw [List.getD_eq_getElem?_getD]
  cases h : (W.getD i [])[1]? with
  | none => simp
  | some s => exact hw _ hm s (List.mem_of_getElem? h)
 refine PCalls_of isrpReadCoefs (by simp [fnrpReadCoefs]) ?_
 unfold coderpReadCoefs
 by_cases hcp : colP W = some T
 rotate_left
 ·rw [hcol hcp]
  rw [if_neg hcp] at cw
  have de : decide (¬ (3 : Int) = 0) = true := rfl
  refine zR ?_
  refine cP cw ?_
  refine zS (zA de @cT) ?_
  refine wT ?_
  refine zR ?_
  exact W_ret (RetP_3 (.imm rfl) (.imm rfl) (.imm rfl))
 rw [if_pos hcp] at cw
 obtain ⟨hW1, hall⟩ := colP_shape hcp
 have hg0 := recD_getD (recs := W) (i := 0) hW1
 have hs0 := strL_len (W.getD 0 [])
 have e00 : Int.toNat 0 = 0 := rfl
 have dF : decide (¬ True) = false := rfl
 by_cases h30 : (W.getD 0 []).length = 3
 rotate_left
 ·rw [hrow 0 hW1 (fun h => h30 h.1)]
  have d3 : decide (¬ (((W.getD 0 []).length : Nat) : Int) = 3) = true := decide_eq_true (by omega)
  refine zR ?_
  refine cP cw ?_
  refine zS (zA dF (zA e00 (zA hWl (zA hg0 (zA hs0 d3))))) ?_
  refine wT ?_
  refine zR ?_
  exact W_ret (RetP_3 (.imm rfl) (.imm rfl) (.imm rfl))
 have d3 : decide (¬ (((W.getD 0 []).length : Nat) : Int) = 3) = false := decide_eq_false (by omega)
 refine zR ?_
 refine cP cw ?_
 refine zS (zA dF (zA e00 (zA hWl (zA hg0 (zA hs0 d3))))) ?_
 refine wFs ?_
 refine zD ?_
 have hall3 : ∀ i, i < W.length → (W.getD i []).length = 3 := fun i hi => by
  rw [hall _ (show W.getD i [] ∈ W by rw [List.getD_eq_getElem?_getD, List.getElem?_eq_getElem hi]; exact List.getElem_mem hi), h30]
 clear hg0 hs0 d3 hall hcol hcp
 refine W_own 2 1 47 rfl (by simp [lkH, setH]) ?_
 refine W_own 3 3 51 rfl (by simp [lkH, setH]) ?_
 refine zS hWl ?_
 refine W_loop (σ := Nat) (fun i => [(0, .str T), (2, .osl 1 47 0 i), (3, .osl 3 51 0 i), (27, .sl 1 (recD W)), (28, .int .i64 W.length), (29, .int .i64 i)])
  (fun i => [(47, strL ((cfNames W).take i)), (51, xcs (((cfNums W).take i).map xq))]) (fun i => i ≤ W.length ∧ ∀ j, j < i → (W.getD j []).length = 3 ∧ parseQ ((W.getD j []).getD 1 []) ≠ none) (fun i => W.length - i) 0 ⟨Nat.zero_le _, fun j hj => absurd hj (Nat.not_lt_zero _)⟩ ?_ rfl ?_
 ·simp [subF, lk]
 ·rintro i ⟨hi, hrows⟩
  try simp only at hi hrows ⊢
  have hnt : ((cfNames W).take i).length = i := by rw [List.length_take]; omega
  have hqt : (((cfNums W).take i).map xq).length = i := by rw [List.length_map, List.length_take]; omega
  have hsl := strL_len ((cfNames W).take i)
  have hxl := xcs_len (((cfNums W).take i).map xq)
  by_cases hlt : i < W.length
  ·have d1 : decide ((i : Int) < (W.length : Int)) = true := decide_eq_true (by omega)
   have ei : (i : Int) + 1 = ((i + 1 : Nat) : Int) := by omega
   have hgl := recD_getD (recs := W) (i := i) hlt
   have hmem : W.getD i [] ∈ W := by rw [List.getD_eq_getElem?_getD, List.getElem?_eq_getElem hlt]; exact List.getElem_mem hlt
   have hb := hbd.2 _ hmem
   have hsl2 := strL_len (W.getD i [])
   have hk3 : ((i : Int)).toNat = i := Int.toNat_natCast _
   have e1 : Int.toNat 1 = 1 := rfl
   have e0 : Int.toNat 0 = 0 := rfl
   have hnn := take_names hlt
   have hqq := fun x => @take_nums W i hlt x
   have hRx := hq0 i hlt
   have hbadi := hrow i hlt
   by_cases h2 : (W.getD i []).length = 3
   ·have hgf := strL_getD (r := W.getD i []) (j := 1) (by omega)
    have hg0 := strL_getD (r := W.getD i []) (j := 0) (by omega)
    have hfm := getD_mem' (W.getD i []) (k := 1) (by omega)
    have hfl := hw _ hmem _ hfm
    have cq := qParse_all ((W.getD i []).getD 1 []) (by omega)
    generalize hX : (W.getD i []).getD 1 [] = X at *
    generalize hN : (W.getD i []).getD 0 [] = N at *
    generalize hl : W.getD i [] = l at *
    have d2 : decide (¬ ((l.length : Nat) : Int) = 3) = false := decide_eq_false (by omega)
    refine zS d1 ?_
    refine wTs ?_
    refine zS (zA hgl (zA hk3 (zA hWl (zA hsl2 d2)))) ?_
    refine zS (zA hsl2 (zA h2 (zA hgf e1))) ?_
    refine cP cq ?_
    cases hq : parseQ X with
    | none =>
     rw [hbadi (fun h => h.2 hq)]
     rw [show resQ none = .tup [.agg (xc (xq 0)), .bool false] from rfl]
     have hxc := xc_cells (xq 0)
     have hx3 : (xc (xq 0)).length = 3 := rfl
     have h33 : (xc (xq 0)).take 3 = xc (xq 0) := rfl
     refine zS (zA hxc (zA hx3 (zA h33 @cS))) ?_
     refine wT ?_
     refine zS @cS ?_
     exact W_ret (RetP_3 (.imm rfl) (.imm rfl) (.imm rfl))
    | some x =>
     rw [show resQ (some x) = .tup [.agg (xc (xq x)), .bool true] from rfl]
     have hxc := xc_cells (xq x)
     have hx3 : (xc (xq x)).length = 3 := rfl
     have h33 : (xc (xq x)).take 3 = xc (xq x) := rfl
     refine zS (zA hxc (zA hx3 (zA h33 @cS))) ?_
     refine wFs ?_
     have hla := laid3 (xq x)
     have hrf := xc_rf (xq x)
     have hone := xc_one (xq x)
     refine W_regd ?_
     refine zE (zA hxc (zA hx3 (zA h33 (zA hsl2 (zA h2 (zA hg0 (zA e0 (zA hsl (zA hnt (zA hxl (zA hqt (zA hla (zA @List.drop_zero.{0} (zA @cS (zA @rfm_nil @rfm_str))))))))))))))) ?_
     have hp9 : purge 47 (.ptr 8 0) = .ptr 8 0 := rfl
     have hp9b : purge 51 (.ptr 8 0) = .ptr 8 0 := rfl
     have hpq : purge 47 (.osl 3 51 0 i) = .osl 3 51 0 i := rfl
     have m1 := map_purge 47 hrf
     have m2 := map_purge 47 (xcs_rf (((cfNums W).take i).map xq))
     have m3 : List.map (purge 47) (strL ((cfNames W).take i) ++ [.str N]) = strL ((cfNames W).take (i + 1)) := by
      rw [List.map_append, purge_strL, hnn, ← strL_app1]; rfl
     have m4 := map_purge 51 hrf
     have m5 : List.map (purge 51) (xcs (((cfNums W).take i).map xq) ++ xc (xq x)) = xcs (((cfNums W).take (i + 1)).map xq) := by
      rw [List.map_append, map_purge 51 (xcs_rf _), map_purge 51 hrf, hqq x hq, List.map_append]; exact xcs_app _ _
     have m6 := purge_strL 51 ((cfNames W).take (i + 1))
     refine And.intro (by omega) (And.intro (And.intro (by omega) (And.intro (by omega) (And.intro (fun h => h) (fun d hd => by rw [List.mem_singleton.1 hd]; rfl)))) ?_)
     refine zE (zA hp9 (zA hp9b (zA hpq (zA m1 (zA m2 (zA m3 (zA m4 (zA m6 (zA hxc (zA hx3 (zA h33 (zA hsl (zA hnt (zA hxl (zA hqt (zA hla (zA @List.drop_zero.{0} @cS))))))))))))))))) ?_
     refine And.intro (fun d hd => And.intro (hone d hd) (hrf d hd)) (And.intro hrf (And.intro (And.intro (by omega) (And.intro (by omega) (And.intro (by omega) (And.intro (fun h => h) hone)))) ?_))
     refine W_freeze 8 (cells := xc (xq x)) rfl rfl ?_
     refine zS ei ?_
     refine ⟨i + 1, ⟨by omega, fun j hj => ?_⟩, by omega, ?_, ?_⟩
     ·rcases Nat.lt_or_ge j i with h | h
      ·exact hrows j h
      ·obtain rfl : j = i := by omega
       rw [hl, hX, hq]; exact ⟨h2, by simp⟩
     ·simp [subF, lk, frz_ptr_ne, frz_osl_ne, purge, DV.has, DV.hasL]
     ·simp only [m5, map_frz 8 _ (strL_rfs _), map_frz 8 _ (xcs_rf _)]
   ·exact absurd (hall3 i hlt) h2
  ·have d1 : decide ((i : Int) < (W.length : Int)) = false := decide_eq_false (by omega)
   obtain rfl : i = W.length := by omega
   have hcf := hend hrows
   have tn : (cfNames W).take W.length = cfNames W := List.take_of_length_le (by omega)
   have tq : (cfNums W).take W.length = cfNums W := List.take_of_length_le (by omega)
   rw [tn, tq] at *
   have hWb := hbd.1
   have hnb : ∀ s ∈ cfNames W, s.length ≤ 9223372036854775807 := fun s hs => by
    obtain ⟨r, hr, rfl⟩ := List.mem_map.1 hs
    rw [List.getD_eq_getElem?_getD]
    cases h : r[0]? with
    | none => simp
    | some s => have := hw r hr s (List.mem_of_getElem? h); simp only [Option.getD_some]; omega
   have hxo : ∀ x ∈ (cfNums W).map xq, okx 100 x := fun x hx => by
    obtain ⟨q, hq, rfl⟩ := List.mem_map.1 hx
    obtain ⟨r, hr, rfl⟩ := List.mem_map.1 hq
    obtain ⟨j, hj⟩ := List.mem_iff_getElem?.1 hr
    have hjl := (List.getElem?_eq_some_iff.1 hj).1
    have e : W.getD j [] = r := by rw [List.getD_eq_getElem?_getD, hj]; rfl
    have h3 := (hcf r hr).2
    cases hp : parseQ (r.getD 1 []) with
    | none => exact absurd hp h3
    | some y => exact okx_xq (hq0 j hjl y (by rw [e]; exact hp)) (by decide)
   have hcoef : ∀ k : Nat, PCalls Tryz.prog 22 [.sl 1 (strL (cfNames W)), .sl 3 (xcs ((cfNums W).map xq)), .int .i64 (k : Int)] (coefV (cfNames W) (cfNums W) (k : Int)) := fun k => by
    have := rpCoefs_calls (cfNames W) ((cfNums W).map xq) k (by omega) (by rw [List.length_map]; omega) hnb hxo
    rw [xvs_xq] at this
    exact this
   have hbad2 : (∀ k, k ≤ 20 → ¬ cfHit W T k) → rdcR T = .tup [.nils, .nils, .int .i64 3] := fun h => hbad fun hh => by
    obtain ⟨_, k, hk, h2⟩ := hh
    exact h k hk h2
   have hgood : ∀ k, k ≤ 20 → cfHit W T k → rdcR T = .tup [.sl 1 (strL (cfNames W)), .sl 3 (xcs ((cfNums W).map xq)), .int .i64 0] := fun k hk h => hokk hcf k hk h
   have f1 := frz_strL' (cfNames W) 47
   have f2 := frz_xcs' ((cfNums W).map xq) 51
   rw [hnl] at f1
   rw [show ((cfNums W).map xq).length = W.length by rw [List.length_map, hql]] at f2
   have f3 := map_frz 47 (strL (cfNames W)) (xcs_rf ((cfNums W).map xq))
   have hit0 : ∀ k, cfHit W T k ↔ coefP (cfNames W) (cfNums W) k = some T := fun k => Iff.rfl
   clear hrow hend hbad hokk hq0 hrows hcf hxo hnb tn tq
   generalize cfNames W = NS at *
   generalize cfNums W = QS at *
   refine zS d1 ?_
   refine wF ?_
   refine W_exit ?_
   refine zD ?_
   refine W_freeze 47 (cells := strL NS) rfl (strL_rf NS) ?_
   refine zE (zA f1 f3) ?_
   refine W_freeze 51 (cells := xcs (QS.map xq)) rfl (List.all_eq_true.2 (xcs_rf _)) ?_
   refine zE f2 ?_
   refine zR ?_
   refine W_loop (σ := Nat) (fun k => [(0, .str T), (2, .sl 1 (strL NS)), (3, .sl 3 (xcs (QS.map xq))), (10, .int .i64 k)]) (fun _ => []) (fun k => k ≤ 21 ∧ ∀ j, j < k → ¬ cfHit W T j) (fun k => 21 - k) 0 ⟨Nat.zero_le _, fun j hj => absurd hj (Nat.not_lt_zero _)⟩ ?_ rfl ?_
   ·simp [subF, lk]
   ·rintro k ⟨hk, hno⟩
    try simp only at hk hno ⊢
    by_cases hk2 : k ≤ 20
    ·have dk : decide ((k : Int) ≤ 20) = true := decide_eq_true (by omega)
     have ek : (k : Int) + 1 = ((k + 1 : Nat) : Int) := by omega
     have cc := hcoef k
     refine zS dk ?_
     refine wTs ?_
     refine zR ?_
     cases hp : coefP NS QS k with
     | none =>
      obtain ⟨e, he, hv⟩ := coefV_none hp
      rw [hv] at cc
      have de : decide (e = 0) = false := decide_eq_false he
      refine cP cc ?_
      refine zS de ?_
      refine wFs ?_
      refine zS ek ?_
      refine ⟨k + 1, ⟨by omega, fun j hj => ?_⟩, by omega, by simp [subF, lk]⟩
      rcases Nat.lt_or_ge j k with h | h
      ·exact hno j h
      ·obtain rfl : j = k := by omega
       rw [hit0, hp]; simp
     | some u =>
      rw [coefV_some hp] at cc
      refine cP cc ?_
      have de : decide True = true := rfl
      by_cases hu : u = T
      ·have du : decide (u = T) = true := decide_eq_true hu
       rw [hgood k hk2 (by rw [hit0, hp, hu])]
       refine zS (zA de du) ?_
       refine wT ?_
       refine zR ?_
       exact W_ret (RetP_3 (.imm rfl) (.imm rfl) (.imm rfl))
      ·have du : decide (u = T) = false := decide_eq_false hu
       refine zS (zA de du) ?_
       refine wFs ?_
       refine zS ek ?_
       refine ⟨k + 1, ⟨by omega, fun j hj => ?_⟩, by omega, by simp [subF, lk]⟩
       rcases Nat.lt_or_ge j k with h | h
       ·exact hno j h
       ·obtain rfl : j = k := by omega
        rw [hit0, hp]; simpa using hu
    ·have dk : decide ((k : Int) ≤ 20) = false := decide_eq_false (by omega)
     rw [hbad2 (fun j hj => hno j (by omega))]
     refine zS dk ?_
     refine W_cond rfl (fun h => by cases h) (fun _ => W_exit ?_)
     refine zR ?_
     exact W_ret (RetP_3 (.imm rfl) (.imm rfl) (.imm rfl))
theorem purge_xcs (o : Nat) (xs : List XR) : (xcs xs).map (purge o) = xcs xs := map_purge o (xcs_rf xs)
theorem coefP_words {ns : List Bs} {rs : List Rat} {k : Int} {u : Bs} (h : coefP ns rs k = some u) : ∀ r ∈ wordsL u, ∀ s ∈ r, s.length ≤ 32 := by
 have h1 := coefP_col h
 rw [words_colP h1]
 exact fun r hr => ((colP_len h1).2 r hr).2
theorem colP_bd {rs : List (List Bs)} {u : Bs} (hl : rs.length ≤ 20) (h : colP rs = some u) : u.length ≤ 30000 := by
 unfold colP at h
 split at h
 ·rename_i h1
  split at h
  ·rename_i h2
   cases h
   have h3 : (rs.headD []).length ≤ 32 := by
    unfold shapeOk shapeB at h1
    simp only [Bool.and_eq_true, decide_eq_true_eq, List.all_eq_true] at h1
    cases rs with
    | nil => exact Nat.zero_le _
    | cons x t => exact (h1.2 x (by simp)).2.2
   have := colT_len h3 (fun i j => wdT_ge (recs := rs) i j) (fun j => wdT_le h2 j) rs.length
   omega
  ·cases h
 ·cases h
theorem colT_len3 {wd : Nat → Nat} {recs : List (List Bs)} {n : Nat} (h : ∀ i j, ((recs.getD i []).getD j []).length ≤ wd j) (h2 : ∀ j, wd j ≤ 32) : ∀ i, (colT wd recs n i).length ≤ (34 * n + 1) * i
 | 0 => Nat.zero_le _
 | i + 1 => by
  rw [colT_succ, List.length_append, List.length_append]
  have := colT_len3 (n := n) h h2 i
  have := rowT_len (h i) h2 n
  simp only [List.length_singleton]
  rw [Nat.mul_add, Nat.mul_one]
  omega
theorem coefP_len3 {ns : List Bs} {rs : List Rat} {k : Int} {u : Bs} (h : coefP ns rs k = some u) : u.length ≤ 103 * ns.length := by
 have h1 := coefP_col h
 have hlen := coefRecs_len ns rs k ns.length
 have h0 : ((coefRecs ns rs k ns.length).headD []).length ≤ 3 := by
  cases hcr : coefRecs ns rs k ns.length with
  | nil => exact Nat.zero_le _
  | cons r l =>
   have hm : r ∈ coefRecs ns rs k ns.length := by rw [hcr]; simp
   unfold coefRecs at hm
   obtain ⟨j, _, rfl⟩ := List.mem_map.1 hm
   exact Nat.le_refl _
 unfold colP at h1
 split at h1
 ·split at h1
  ·rename_i h2
   cases h1
   have := colT_len3 (n := ((coefRecs ns rs k ns.length).headD []).length) (fun i j => wdT_ge (recs := coefRecs ns rs k ns.length) i j) (fun j => wdT_le h2 j) (coefRecs ns rs k ns.length).length
   rw [hlen] at this ⊢
   refine Nat.le_trans this (Nat.mul_le_mul_right _ (by omega))
  ·cases h1
 ·cases h1
def rdcOk (s : Bs) : Prop := s.length ≤ 1000000 ∧ (wordsL s).length ≤ 1000 ∧ ∀ r ∈ wordsL s, ∀ x ∈ r, x.length ≤ 450
theorem rdcOk_short {s : Bs} (h : s.length ≤ 450) : rdcOk s := by
 have hb := words_bd s
 exact ⟨by omega, by omega, fun r hr x hx => by have := (hb.2 r hr).2 x hx; omega⟩
theorem rdcOk_coef {ns : List Bs} {rs : List Rat} {k : Int} {u : Bs} (hn : ns.length ≤ 20) (h : coefP ns rs k = some u) : rdcOk u := by
 have h1 := coefP_col h
 have h2 := coefP_words h
 have h3 := colP_bd (by rw [coefRecs_len]; omega) h1
 exact ⟨by omega, by rw [words_colP h1, coefRecs_len]; omega, fun r hr x hx => by have := h2 r hr x hx; omega⟩
theorem rdc_same (s : Bs) (h : rdcOk s) : ∃ D E e, rdcR s = .tup [D, E, .int .i64 e] ∧ D.rf = true ∧ E.rf = true ∧ PCalls Tryz.prog 26 [D, D] (.bool true) ∧ PCalls Tryz.prog 27 [E, E] (.bool true) := by
 obtain ⟨h1, h2, h3⟩ := h
 by_cases hc : cfOk (wordsL s) ∧ ∃ k, k ≤ 20 ∧ cfHit (wordsL s) s k
 ·obtain ⟨hok, k, hk, hh⟩ := hc
  have hl : (cfNames (wordsL s)).length = (wordsL s).length := List.length_map ..
  have hl2 : (cfNums (wordsL s)).length = (wordsL s).length := List.length_map ..
  refine ⟨_, _, _, rdcR_ok hok hk hh, rfl, rfl, reSameWords_calls _ (by omega), pSameList_calls _ (by omega) fun r hr => ?_⟩
  obtain ⟨w, hw, rfl⟩ := List.mem_map.1 hr
  have h5 := (hok w hw).2
  cases hp : parseQ (w.getD 1 []) with
  | none => exact absurd hp h5
  | some y =>
   refine (parseQ_RB1 (l := w.getD 1 []) ?_ hp).mono (by decide)
   rw [List.getD_eq_getElem?_getD]
   cases hw1 : w[1]? with
   | none => simp
   | some x => exact h3 w hw x (List.mem_of_getElem? hw1)
 ·refine ⟨.nils, .nils, 3, rdcR_bad hc, rfl, rfl, PCalls_nz 1 (reSameWords_calls [] (by simp)), PCalls_nz 3 (pSameList_calls [] (by simp) (fun r hr => by cases hr))⟩
def lcTl : DC := dSeq2 (dSeq2 (dSeq2 (dSeq2 (dSeq2 (dSeq2 (dSeq2 (dSeq2 (dSeq2 (dSeq2 (dSeq2 (dSeq2 (dSeq2 (dSeq2 (dSeq2 codelrCoefs))))))))))))))
set_option maxHeartbeats 4000000 in
theorem coefTail (A C T : Bs) (hA : rdcOk A) (hC : rdcOk C) (hT : rdcOk T) :
  W fnlrCoefs lcTl (RetP reslrCoefs (.bool true)) [(3, .str T), (16, .str A), (20, .str C)] [] := by
 unfold lcTl codelrCoefs
 dsimp only [dSeq2]
 refine zS (zA @cS (zA @rfm_nil @rfm_str)) ?_
 refine W_loop (σ := Nat) (fun i => [(161, .sl 1 [.str A, .str C, .str T]), (162, .int .i64 3), (163, .int .i64 i)]) (fun _ => []) (fun i => i ≤ 3) (fun i => 3 - i) 0 (Nat.zero_le _) ?_ rfl ?_
 ·simp [subF, lk]
 ·rintro i hi
  try simp only at hi ⊢
  by_cases hlt : i < 3
  ·have dl : decide ((i : Int) < 3) = true := decide_eq_true (by omega)
   have ei : (i : Int).toNat = i := Int.toNat_natCast i
   have e1 : ((i : Int) + 1) = ((i + 1 : Nat) : Int) := by omega
   obtain ⟨u, hgi, hu⟩ : ∃ u, [DV.str A, DV.str C, DV.str T].getD i .undef = .str u ∧ rdcOk u := by
    match i, hlt with
    | 0, _ => exact ⟨A, rfl, hA⟩
    | 1, _ => exact ⟨C, rfl, hC⟩
    | 2, _ => exact ⟨T, rfl, hT⟩
   have p1 := rpReadCoefs_calls u hu.1 hu.2.2
   have p2 := reReadCoefs_calls u hu.1 hu.2.2
   obtain ⟨D, E, e, hre, hD, hE, s1, s2⟩ := rdc_same u hu
   rw [hre] at p1 p2
   have dF : decide (¬ True) = false := rfl
   have hl3 : ([DV.str A, DV.str C, DV.str T]).length = 3 := rfl
   refine zS dl ?_
   refine wTs ?_
   refine zS (zA ei (zA hgi hl3)) ?_
   refine cP p1 ?_
   refine zR ?_
   refine cP p2 ?_
   refine zS dF ?_
   refine callC_pure s1 (by simp [hD]) ?_
   refine zR ?_
   refine callC_pure s2 (by simp [hE]) ?_
   refine zR ?_
   refine wFs ?_
   refine zS e1 ?_
   exact ⟨i + 1, hlt, by omega, by simp [subF, lk]⟩
  ·have dl : decide ((i : Int) < 3) = false := decide_eq_false (by omega)
   have aw := lr_awake_calls
   refine zS dl ?_
   refine W_cond rfl (fun h => by cases h) (fun _ => W_exit ?_)
   repeat (first | refine zP ?_ | refine cP aw ?_ | exact zT)
theorem coefV_A {ns : List Bs} {rs : List Rat} {k : Int} (hn : ns.length ≤ 3) : ∃ A e, coefV ns rs k = .tup [.str A, .int .i64 e] ∧ A.length ≤ 309 := by
 cases h : coefP ns rs k with
 | none => obtain ⟨e, _, he⟩ := coefV_none h; exact ⟨[], e, he, by simp⟩
 | some u => exact ⟨u, 0, coefV_some h, by have := coefP_len3 h; omega⟩
theorem coefV_C {ns : List Bs} {rs : List Rat} {k : Int} (hn : ns.length ≤ 20) : ∃ A e, coefV ns rs k = .tup [.str A, .int .i64 e] ∧ rdcOk A := by
 cases h : coefP ns rs k with
 | none => obtain ⟨e, _, he⟩ := coefV_none h; exact ⟨[], e, he, rdcOk_short (by simp)⟩
 | some u => exact ⟨u, 0, coefV_some h, rdcOk_coef hn h⟩
def lcMd : DC := dSeq2 (dSeq2 (dSeq2 (dSeq2 (dSeq2 (dSeq2 (dSeq2 (dSeq2 codelrCoefs)))))))
set_option maxHeartbeats 4000000 in
set_option maxRecDepth 10000 in
theorem coefMid (ns : List Bs) (hnB : ns.length ≤ 20) (hns : ∀ s ∈ ns, s.length ≤ 9223372036854775807) (ys : List XR) (hyB : ys.length ≤ 20) (hly : ∀ y ∈ ys, okx 100 y) (s : Bs) (hsB : s.length ≤ 300) (dg : Int) (zs : List Bs) (hzl : zs.length ≤ 3) (hzs : ∀ w ∈ zs, w.length ≤ 40) (vs : List XR) (hvl : vs.length ≤ 3) (hvo : ∀ v ∈ vs, okx 100 v) (c : List DV) (ht : isTp c) :
  W fnlrCoefs lcMd (RetP reslrCoefs (.bool true)) [(1, .sl 1 (strL ns)), (2, .sl 3 (xcs ys)), (3, .str s), (4, .int .i64 dg), (11, .ptr 40 0), (12, .sl 1 (strL zs)), (13, .sl 3 (xcs vs))] [(40, c)] := by
 unfold lcMd codelrCoefs
 dsimp only [dSeq2]
 refine zS (zA @cS (zA @rfm_nil @rfm_int)) ?_
 refine callC_lend1 40 (wPick_calls c [0, 1, 3, 20, 21, -1] (by decide) (by decide) ht) rfl (by simp [lkH]) ht.rf (by simp [rn, fwd1]) fun q c1 hq1 hc1 hQ => ?_
 obtain ⟨ht1, k, _, rfl⟩ := hQ
 have a1 := rpCoefs_calls zs vs k (by omega) (by omega) (fun w hw => by have := hzs w hw; omega) hvo
 have a2 := reCoefs_calls zs vs k (by omega) (by omega) (fun w hw => by have := hzs w hw; omega) hvo
 obtain ⟨A, e, hA, hAl⟩ := coefV_A (ns := zs) (rs := vs.map xv) (k := k) hzl
 rw [hA] at a1 a2
 have b1 := rpCoefs_calls ns ys dg (by omega) (by omega) hns hly
 have b2 := reCoefs_calls ns ys dg (by omega) (by omega) hns hly
 obtain ⟨C, e', hC, hCo⟩ := coefV_C (ns := ns) (rs := ys.map xv) (k := dg) hnB
 rw [hC] at b1 b2
 have dF : decide (¬ True) = false := rfl
 clear hA hC hzs hvo hns hly
 refine zR ?_
 refine cP a1 ?_
 refine zR ?_
 refine cP a2 ?_
 refine zR ?_
 refine cP b1 ?_
 refine zR ?_
 refine cP b2 ?_
 refine zS dF ?_
 refine wFs ?_
 have hfin : ∀ (c : List DV), (∀ d ∈ c, d.rf = true) → ∀ S : Bs, rdcOk S → ∀ fr : Fr, subF fr [(3, .str s), (11, .ptr 40 0), (16, .str S), (20, .str C)] → W fnlrCoefs lcTl (RetP reslrCoefs (.bool true)) fr [(40, c)] := fun c hc S hS fr hf => by
  refine W_sub hf ?_
  refine W_freeze 40 (cells := c) rfl (List.all_eq_true.2 hc) ?_
  refine zD ?_
  exact W_sub (by simp [subF, lk, frz, purge, DV.has]) (coefTail S C s hS hCo (rdcOk_short (by omega)))
 unfold lcTl codelrCoefs at hfin
 dsimp only [dSeq2] at hfin
 by_cases h0 : 0 < A.length
 ·have d0 : decide ((0 : Int) < (A.length : Int)) = true := decide_eq_true (by omega)
  refine zS d0 ?_
  refine callC_lend1 40 (wBool_calls c1 2 ht1 (by decide)) rfl (by simp [lkH]) ht1.rf (by simp [rn, fwd1]) fun q c2 hq2 hc2 hQ => ?_
  obtain ⟨ht2, b, rfl⟩ := hQ
  cases b
  ·refine zR ?_
   refine wFs ?_
   refine zD ?_
   exact hfin c2 hc2 A (rdcOk_short (by omega)) _ (by simp [subF, lk])
  ·repeat (first | refine W_seq ?_ | refine W_reg ?_ | refine W_regd ?_ | refine W_regs ?_ | refine W_regp ?_ | refine W_block ?_ | refine And.intro (by omega) ?_ | simp (maxSteps := 1000000) (disch := omega) only [cA, cB, cN, FnD.nb, lk, lkH, Dst.onT, Dst.onX, Dst.slot, setF, setH, mapF, mapH, initF, binE, unE, cnt, boundE, newsE, freshE, freshT, opE, rmH, blkQ, frz_us, Nat.reduceEqDiff, Nat.reduceLT, Nat.reduceAdd, Nat.reduceMul, Nat.reduceMod, ↓reduceIte, reduceCtorEq, Nat.reduceLeDiff])
   refine wT ?_
   have cn := wNext_calls c2 A.length ht2 (by omega)
   repeat (first | refine W_seq ?_ | refine W_reg ?_ | refine W_regd ?_ | refine W_regs ?_ | refine W_regp ?_ | refine W_block ?_ | refine And.intro (by omega) ?_ | simp (maxSteps := 1000000) (disch := omega) only [cA, cB, cN, FnD.nb, lk, lkH, Dst.onT, Dst.onX, Dst.slot, setF, setH, mapF, mapH, initF, binE, unE, cnt, boundE, newsE, freshE, freshT, opE, rmH, blkQ, frz_us, Nat.reduceEqDiff, Nat.reduceLT, Nat.reduceAdd, Nat.reduceMul, Nat.reduceMod, ↓reduceIte, reduceCtorEq, Nat.reduceLeDiff])
   refine callC_lend1 40 cn rfl (by simp [lkH]) ht2.rf (by simp [rn, fwd1]) fun q c7 hq7 hc7 hQ => ?_
   obtain ⟨ht7, k, hk, rfl⟩ := hQ
   simp (maxSteps := 1000000) (disch := omega) only [cA, cB, cN, FnD.nb, lk, lkH, Dst.onT, Dst.onX, Dst.slot, setF, setH, mapF, mapH, initF, binE, unE, cnt, boundE, newsE, freshE, freshT, opE, rmH, blkQ, frz_us, Nat.reduceEqDiff, Nat.reduceLT, Nat.reduceAdd, Nat.reduceMul, Nat.reduceMod, ↓reduceIte, reduceCtorEq, Nat.reduceLeDiff]
   refine W_regdT ?_
   have hk1 : k < A.length := by omega
   have ek : (k : Int).toNat = k := Int.toNat_natCast k
   have hkl : (k : Int) ≤ (A.length : Int) := by omega
   have htk : (A.take k).length ≤ 30000 := by rw [List.length_take]; omega
   repeat (first | (refine And.intro (by omega) ?_) | (refine regWT_op rfl (by decide) ?_) | simp (maxSteps := 1000000) (disch := omega) only [cA, cB, cN, FnD.nb, lk, lkH, Dst.onT, Dst.onX, Dst.slot, setF, setH, mapF, mapH, initF, binE, unE, cnt, boundE, newsE, freshE, freshT, opE, rmH, blkQ, frz_us, Nat.reduceEqDiff, Nat.reduceLT, Nat.reduceAdd, Nat.reduceMul, Nat.reduceMod, ↓reduceIte, reduceCtorEq, Nat.reduceLeDiff, contT_go, regWT_call, ek, List.drop_zero])
   refine callTW_of 40 (wNext_calls c7 6 ht7 (by decide)) (by simp [lkH]) ht7.rf (by simp [rn, fwd1]) (drawQ_any 6 ht7) fun q c8 hq8 hc8 hQ => ?_
   obtain ⟨ht8, z, hz, rfl⟩ := hQ
   have hz5 : z < 6 := by omega
   have hzb : bytesOf [.int .u8 ((45 : Int) + (z : Int))] = some [UInt8.ofNat (45 + z)] := by
    have : ((45 : Int) + (z : Int)).toNat = 45 + z := by omega
    simp [Dat.bytesOf, Dat.byteOf, this]
   repeat (first | (refine And.intro (by omega) ?_) | (refine regWT_op rfl (by decide) ?_) | simp (maxSteps := 1000000) (disch := omega) only [cA, cB, cN, FnD.nb, lk, lkH, Dst.onT, Dst.onX, Dst.slot, setF, setH, mapF, mapH, initF, binE, unE, cnt, boundE, newsE, freshE, freshT, opE, rmH, blkQ, frz_us, Nat.reduceEqDiff, Nat.reduceLT, Nat.reduceAdd, Nat.reduceMul, Nat.reduceMod, ↓reduceIte, reduceCtorEq, Nat.reduceLeDiff, contT_go, regWT_call, ek, List.drop_zero, cS, rfm_nil, rfm_int, hzb])
   refine callTW_of 40 (wNext_calls c8 2 ht8 (by decide)) (by simp [lkH]) ht8.rf (by simp [rn, fwd1]) (drawQ_any 2 ht8) fun q c9 hq9 hc9 hQ => ?_
   obtain ⟨ht9, y, hy2, rfl⟩ := hQ
   have hy3 : y < 2 := by omega
   have eky : ((k : Int) + (y : Int)).toNat = k + y := by omega
   have hky : (k : Int) + (y : Int) ≤ (A.length : Int) := by omega
   have hta : (A.take A.length).drop (k + y) = A.drop (k + y) := by rw [List.take_length]
   have hdl : (A.drop (k + y)).length ≤ 30000 := by rw [List.length_drop]; omega
   repeat (first | (refine And.intro (by omega) ?_) | (refine regWT_op rfl (by decide) ?_) | simp (maxSteps := 1000000) (disch := omega) only [cA, cB, cN, FnD.nb, lk, lkH, Dst.onT, Dst.onX, Dst.slot, setF, setH, mapF, mapH, initF, binE, unE, cnt, boundE, newsE, freshE, freshT, opE, rmH, blkQ, frz_us, Nat.reduceEqDiff, Nat.reduceLT, Nat.reduceAdd, Nat.reduceMul, Nat.reduceMod, ↓reduceIte, reduceCtorEq, Nat.reduceLeDiff, contT_go, regWT_call, eky, hta])
   have hSl : ((A.take k ++ [UInt8.ofNat (45 + z)]) ++ A.drop (k + y)).length ≤ 450 := by
    rw [List.length_append, List.length_append, List.length_singleton, List.length_take, List.length_drop]; omega
   refine And.intro (by rw [List.length_append, List.length_singleton]; omega) ?_
   refine regWT_op rfl (by decide) ?_
   simp (maxSteps := 1000000) (disch := omega) only [cA, cB, cN, FnD.nb, lk, lkH, Dst.onT, Dst.onX, Dst.slot, setF, setH, mapF, mapH, initF, binE, unE, cnt, boundE, newsE, freshE, freshT, opE, rmH, blkQ, frz_us, Nat.reduceEqDiff, Nat.reduceLT, Nat.reduceAdd, Nat.reduceMul, Nat.reduceMod, ↓reduceIte, reduceCtorEq, Nat.reduceLeDiff, contT_go, regWT_nil]
   exact hfin c9 hc9 _ (rdcOk_short hSl) _ (by simp [subF, lk])
 ·have d0 : decide ((0 : Int) < (A.length : Int)) = false := decide_eq_false (by omega)
  repeat (first | refine W_seq ?_ | refine W_reg ?_ | refine W_regd ?_ | refine W_regs ?_ | refine W_regp ?_ | refine W_block ?_ | refine And.intro (by omega) ?_ | simp (maxSteps := 1000000) (disch := omega) only [cA, cB, cN, FnD.nb, lk, lkH, Dst.onT, Dst.onX, Dst.slot, setF, setH, mapF, mapH, initF, binE, unE, cnt, boundE, newsE, freshE, freshT, opE, rmH, blkQ, frz_us, Nat.reduceEqDiff, Nat.reduceLT, Nat.reduceAdd, Nat.reduceMul, Nat.reduceMod, ↓reduceIte, reduceCtorEq, Nat.reduceLeDiff, d0])
  refine wFs ?_
  refine zD ?_
  exact hfin c1 hc1 A (rdcOk_short (by omega)) _ (by simp [subF, lk])
theorem words16_len : ∀ s ∈ words16, s.length ≤ 40 := by decide
theorem plains_len : ∀ s ∈ plains, s.length ≤ 40 := by decide
set_option maxHeartbeats 4000000 in
set_option maxRecDepth 10000 in
theorem lrCoefs_calls (l : List Int) (hl : l.length ≤ 9223372036854775807) (ns : List Bs) (hnl : ns.length ≤ 9223372036854775807) (hns : ∀ s ∈ ns, s.length ≤ 9223372036854775807) (ys : List XR) (hyl : ys.length ≤ 9223372036854775807) (hys : ∀ y ∈ ys, lim y.2.1 ∧ lim y.2.2 ∧ y.2.1.length ≤ 9223372036854775807 ∧ y.2.2.length ≤ 9223372036854775807) (s : Bs) (hs : s.length ≤ 9223372036854775807) (dg : Int) :
  PCalls Tryz.prog 4 [.sl 1 (l.map (.int .i64)), .sl 1 (strL ns), .sl 3 (xcs ys), .str s, .int .i64 dg] (.bool true) := by
 have aw := lr_awake_calls
 have cm := mdLightList_calls ys 200 (by omega) (by decide)
 have hsl := strL_len ns
 have hxc : (xcs ys).length = ys.length * 3 := by rw [xcs_len]; omega
 have hd3 : ys.length * 3 / 3 = ys.length := by omega
 refine PCalls_of islrCoefs (by simp [fnlrCoefs]) ?_
 unfold codelrCoefs
 refine zR ?_
 refine cP cm ?_
 cases hli : (decide (ys.length ≤ 200) && ys.all fun x => lightB x.2.1 x.2.2)
 ·refine zR ?_
  refine wT ?_
  repeat (first | refine zP ?_ | refine cP aw ?_ | exact zT)
 ·have hly : ∀ y ∈ ys, okx 100 y := fun y h => by
   have h1 := hys y h
   have h2 := lightB_spec (List.all_eq_true.1 (Bool.and_eq_true_iff.1 hli).2 y h)
   exact ⟨h1.1, h1.2.1, by omega, by omega⟩
  refine zR ?_
  refine wFs ?_
  by_cases hb : 20 < ns.length ∨ 20 < ys.length ∨ 300 < s.length
  ·by_cases c1 : 20 < ns.length
   ·have b1 : decide ((20 : Int) < (ns.length : Int)) = true := decide_eq_true (by omega)
    refine zS (zA hsl (zA b1 @cT)) ?_
    refine wT ?_
    repeat (first | refine zP ?_ | refine cP aw ?_ | exact zT)
   ·have b1 : decide ((20 : Int) < (ns.length : Int)) = false := decide_eq_false (by omega)
    by_cases c2 : 20 < ys.length
    ·have b2 : decide ((20 : Int) < (ys.length : Int)) = true := decide_eq_true (by omega)
     refine zS (zA hsl (zA hxc (zA hd3 (zA b1 (zA b2 @cT))))) ?_
     refine wT ?_
     repeat (first | refine zP ?_ | refine cP aw ?_ | exact zT)
    ·have b2 : decide ((20 : Int) < (ys.length : Int)) = false := decide_eq_false (by omega)
     have b3 : decide ((300 : Int) < (s.length : Int)) = true := decide_eq_true (by omega)
     refine zS (zA hsl (zA hxc (zA hd3 (zA b1 (zA b2 b3))))) ?_
     refine wT ?_
     repeat (first | refine zP ?_ | refine cP aw ?_ | exact zT)
  ·have b1 : decide ((20 : Int) < (ns.length : Int)) = false := decide_eq_false (by omega)
   have b2 : decide ((20 : Int) < (ys.length : Int)) = false := decide_eq_false (by omega)
   have b3 : decide ((300 : Int) < (s.length : Int)) = false := decide_eq_false (by omega)
   refine zS (zA hsl (zA hxc (zA hd3 (zA b1 (zA b2 b3))))) ?_
   refine wFs ?_
   refine zR ?_
   refine callC_new1 40 (wNew_calls l hl) rfl (by decide) (by decide) (by decide) (by simp [lkH]) (by simp [DV.rf]) fun c0 hc0 ht0 => ?_
   refine zR ?_
   refine callC_lend1 40 (wNext_calls c0 4 ht0 (by decide)) rfl (by simp [lkH]) ht0.rf (by simp [rn, fwd1]) fun q c1 hq1 hc1 hQ => ?_
   obtain ⟨ht1, N, hN, rfl⟩ := hQ
   refine zD ?_
   refine W_own 12 1 63 rfl (by simp [lkH]) ?_
   refine W_own 13 3 68 rfl (by simp [lkH, setH]) ?_
   refine zD ?_
   clear cm hli
   have hnB : ns.length ≤ 20 := by omega
   have hyB : ys.length ≤ 20 := by omega
   have hsB : s.length ≤ 300 := by omega
   refine W_join (ι := List Bs × List XR × List DV) (fun s => s.1.length ≤ 3 ∧ s.2.1.length ≤ 3 ∧ isTp s.2.2 ∧ (∀ w ∈ s.1, w.length ≤ 40) ∧ ∀ v ∈ s.2.1, smX v) (fun t => [(1, .sl 1 (strL ns)), (2, .sl 3 (xcs ys)), (3, .str s), (4, .int .i64 dg), (11, .ptr 40 0), (12, .osl 1 63 0 t.1.length), (13, .osl 3 68 0 t.2.1.length)]) (fun t => [(40, t.2.2), (63, strL t.1), (68, xcs t.2.1)]) ?_ ?_
   ·refine zR ?_
    refine W_loop (σ := List Bs × List XR × List DV) (fun t => [(1, .sl 1 (strL ns)), (2, .sl 3 (xcs ys)), (3, .str s), (4, .int .i64 dg), (11, .ptr 40 0), (12, .osl 1 63 0 t.1.length), (13, .osl 3 68 0 t.2.1.length), (14, .int .i64 ((N - t.1.length : Nat) : Int))]) (fun t => [(40, t.2.2), (63, strL t.1), (68, xcs t.2.1)])
     (fun t => t.1.length ≤ N ∧ t.2.1.length = t.1.length ∧ isTp t.2.2 ∧ (∀ w ∈ t.1, w.length ≤ 40) ∧ ∀ v ∈ t.2.1, smX v) (fun t => N - t.1.length) ([], [], c1) ⟨Nat.zero_le _, rfl, ht1, (fun w h => by cases h), fun v h => by cases h⟩ ?_ rfl ?_
    ·simp [subF, lk]
    ·rintro ⟨ws, vs, c2⟩ ⟨hwl, hvl, ht2, hws, hvs⟩
     try simp only at hwl hvl ht2 hws hvs ⊢
     have hsw := strL_len ws
     have hxv := xcs_len vs
     by_cases hlt : ws.length < N
     ·have dl : decide ((0 : Int) < ((N - ws.length : Nat) : Int)) = true := decide_eq_true (by omega)
      have cw := lrWord_calls c2 ht2
      have e3 : ((N - ws.length : Nat) : Int) - 1 = ((N - (ws.length + 1) : Nat) : Int) := by omega
      (replace hws := Hid.mk hws; replace hvs := Hid.mk hvs)
      refine zS dl ?_
      refine wTs ?_
      refine zR ?_
      refine callC_lend1 40 cw rfl (by simp [lkH]) ht2.rf (by simp [rn, fwd1]) fun q c3 hq3 hc3 hQ => ?_
      obtain ⟨ht3, w, hw, rfl⟩ := hQ
      have hp5 := fun o => map_purge o hc3
      have hp1 : purge 63 (.ptr 40 0) = .ptr 40 0 := rfl
      have hp2 : purge 68 (.ptr 40 0) = .ptr 40 0 := rfl
      have hp3 : purge 63 (.osl 3 68 0 vs.length) = .osl 3 68 0 vs.length := rfl
      have hp4 : purge 68 (.osl 1 63 0 (ws.length + 1)) = .osl 1 63 0 (ws.length + 1) := rfl
      refine zS (zA @cS (zA @rfm_nil (zA @rfm_str hsw))) ?_
      refine And.intro (And.intro (by omega) (And.intro (by omega) (And.intro (fun h => h) (fun d hd => by rw [List.mem_singleton.1 hd]; rfl)))) ?_
      refine zS (zA hp1 (zA hp3 (zA hp5 (zA @strL_app (zA @purge_strL purge_xcs))))) ?_
      have co := wOdd_calls c3 ht3
      refine callC_lend1 40 co rfl (by simp [lkH]) ht3.rf (by simp [rn, fwd1]) fun q c4 hq4 hc4 hQ => ?_
      obtain ⟨ht4, v, hv, rfl⟩ := hQ
      have hla := laid3 v
      have hrf := xc_rf v
      have hone := xc_one v
      have hx3 : (xc v).length = 3 := rfl
      have hp6 := fun o => map_purge o hc4
      have hxa := xcs_app vs v
      refine zS (zA hla (zA hx3 hxv)) ?_
      refine And.intro (And.intro (by omega) (And.intro (by omega) (And.intro (by omega) (And.intro (fun h => h) hone)))) ?_
      refine zS (zA hp2 (zA hp4 (zA hp6 (zA hxa (zA @purge_strL (zA purge_xcs e3)))))) ?_
      refine ⟨(ws ++ [w], vs ++ [v], c4), ⟨by simp; omega, by simp; omega, ht4, fun y hy => ?_, fun y hy => ?_⟩, by simp; omega, by simp [subF, lk], rfl⟩
      ·rcases List.mem_append.1 hy with h | h
       ·exact hws.out y h
       ·rw [List.mem_singleton.1 h]; exact words16_len w hw
      ·rcases List.mem_append.1 hy with h | h
       ·exact hvs.out y h
       ·rw [List.mem_singleton.1 h]; exact hv
     ·have dl : decide ((0 : Int) < ((N - ws.length : Nat) : Int)) = false := decide_eq_false (by omega)
      repeat (first | refine W_seq ?_ | refine W_reg ?_ | refine W_regd ?_ | refine W_regs ?_ | refine W_regp ?_ | refine W_block ?_ | refine And.intro (by omega) ?_ | simp (maxSteps := 1000000) (disch := omega) only [cA, cB, cN, FnD.nb, lk, lkH, Dst.onT, Dst.onX, Dst.slot, setF, setH, mapF, mapH, initF, binE, unE, cnt, boundE, newsE, freshE, freshT, opE, rmH, blkQ, frz_us, Nat.reduceEqDiff, Nat.reduceLT, Nat.reduceAdd, Nat.reduceMul, Nat.reduceMod, ↓reduceIte, reduceCtorEq, Nat.reduceLeDiff, dl])
      refine W_cond rfl (fun h => by cases h) (fun _ => W_exit ?_)
      simp (maxSteps := 1000000) (disch := omega) only [cA, cB, cN, FnD.nb, lk, lkH, Dst.onT, Dst.onX, Dst.slot, setF, setH, mapF, mapH, initF, binE, unE, cnt, boundE, newsE, freshE, freshT, opE, rmH, blkQ, frz_us, Nat.reduceEqDiff, Nat.reduceLT, Nat.reduceAdd, Nat.reduceMul, Nat.reduceMod, ↓reduceIte, reduceCtorEq, Nat.reduceLeDiff]
      exact ⟨(ws, vs, c2), ⟨show ws.length ≤ 3 by omega, show vs.length ≤ 3 by omega, ht2, hws, hvs⟩, by simp [subF, lk], rfl⟩
   ·rintro ⟨ws, vs, c2⟩ ⟨hwl, hvl, ht2, hws, hvs⟩
    try simp only at hwl hvl ht2 hws hvs ⊢
    have hsw := strL_len ws
    have hxv := xcs_len vs
    refine W_freeze 63 (cells := strL ws) rfl (strL_rf ws) ?_
    have f1 := frz_strL' ws 63
    have f2 := map_frz 63 (strL ws) ht2.rf
    have f3 := map_frz 63 (strL ws) (xcs_rf vs)
    have f4 : frz 63 (strL ws) (.ptr 40 0) = .ptr 40 0 := frz_ptr_ne _ _ 0 (by decide)
    have f5 : frz 63 (strL ws) (.osl 3 68 0 vs.length) = .osl 3 68 0 vs.length := frz_osl_ne _ _ _ _ _ (by decide)
    refine zE (zA f1 (zA f2 (zA f3 (zA f4 f5)))) ?_
    refine W_freeze 68 (cells := xcs vs) rfl (List.all_eq_true.2 (xcs_rf vs)) ?_
    have g1 := frz_xcs' vs 68
    have g2 := map_frz 68 (xcs vs) ht2.rf
    have g4 : frz 68 (xcs vs) (.ptr 40 0) = .ptr 40 0 := frz_ptr_ne _ _ 0 (by decide)
    refine zE (zA g1 (zA g2 g4)) ?_
    clear f1 f2 f3 f4 f5 g1 g2 g4
    have hvo : ∀ v ∈ vs, okx 100 v := fun v h => by
     have h1 := hvs v h
     exact ⟨h1.1, h1.2.1, by have := h1.2.2.1; omega, by have := h1.2.2.2.1; omega⟩
    have hx3l : (xcs vs).length = vs.length * 3 := by omega
    have hvd3 : vs.length * 3 / 3 = vs.length := by omega
    refine W_seq ?_
    refine W_join (ι := Bool × List Bs × List DV) (fun t => t.2.1.length ≤ 3 ∧ isTp t.2.2 ∧ ∀ w ∈ t.2.1, w.length ≤ 40) (fun t => [(1, .sl 1 (strL ns)), (2, .sl 3 (xcs ys)), (3, .str s), (4, .int .i64 dg), (11, .ptr 40 0), (12, if t.1 then .osl 1 79 0 t.2.1.length else .sl 1 (strL t.2.1)), (13, .sl 3 (xcs vs))]) (fun t => if t.1 then [(40, t.2.2), (79, strL t.2.1)] else [(40, t.2.2)]) ?_ ?_
    ·refine zR ?_
     refine callC_lend1 40 (wBool_calls c2 3 ht2 (by decide)) rfl (by simp [lkH]) ht2.rf (by simp [rn, fwd1]) fun q c3 hq3 hc3 hQ => ?_
     obtain ⟨ht3, b, rfl⟩ := hQ
     cases b
     ·refine zR ?_
      refine wFs ?_
      exact ⟨(false, ws, c3), ⟨hwl, ht3, hws⟩, by simp [subF, lk], rfl⟩
     ·refine zR ?_
      refine wT ?_
      refine W_seq ?_
      refine W_reg ?_
      refine zD ?_
      refine W_own 12 1 79 rfl (by simp [lkH]) ?_
      refine zS (zA hx3l hvd3) ?_
      refine W_loop (σ := List Bs × List DV) (fun t => [(1, .sl 1 (strL ns)), (2, .sl 3 (xcs ys)), (3, .str s), (4, .int .i64 dg), (11, .ptr 40 0), (12, .osl 1 79 0 t.1.length), (13, .sl 3 (xcs vs)), (72, .int .i64 vs.length), (73, .int .i64 t.1.length)]) (fun t => [(40, t.2), (79, strL t.1)])
       (fun t => t.1.length ≤ vs.length ∧ isTp t.2 ∧ ∀ w ∈ t.1, w.length ≤ 40) (fun t => vs.length - t.1.length) ([], c3) ⟨Nat.zero_le _, ht3, fun w h => by cases h⟩ ?_ rfl ?_
      ·simp [subF, lk]
      ·rintro ⟨zs, c4⟩ ⟨hzl, ht4, hzs⟩
       try simp only at hzl ht4 hzs ⊢
       have hsz := strL_len zs
       by_cases hlt : zs.length < vs.length
       ·have dl : decide ((zs.length : Int) < (vs.length : Int)) = true := decide_eq_true (by omega)
        have cw := lrPlain_calls c4 ht4
        have e1 : ((zs.length : Int) + 1) = ((zs.length + 1 : Nat) : Int) := by omega
        (replace hzs := Hid.mk hzs)
        refine zS dl ?_
        refine wTs ?_
        refine zR ?_
        refine callC_lend1 40 cw rfl (by simp [lkH]) ht4.rf (by simp [rn, fwd1]) fun q c5 hq5 hc5 hQ => ?_
        obtain ⟨ht5, w, hw, rfl⟩ := hQ
        have hp5 := fun o => map_purge o hc5
        have hp1 : purge 79 (.ptr 40 0) = .ptr 40 0 := rfl
        refine zS (zA @cS (zA @rfm_nil (zA @rfm_str hsz))) ?_
        refine And.intro (And.intro (by omega) (And.intro (by omega) (And.intro (fun h => h) (fun d hd => by rw [List.mem_singleton.1 hd]; rfl)))) ?_
        refine zS (zA hp1 (zA hp5 (zA @strL_app (zA @purge_strL e1)))) ?_
        refine ⟨(zs ++ [w], c5), ⟨by simp; omega, ht5, fun y hy => ?_⟩, by simp; omega, by simp [subF, lk, purge, DV.has], rfl⟩
        rcases List.mem_append.1 hy with h | h
        ·exact hzs.out y h
        ·rw [List.mem_singleton.1 h]; exact plains_len w hw
       ·have dl : decide ((zs.length : Int) < (vs.length : Int)) = false := decide_eq_false (by omega)
        refine zS dl ?_
        refine W_cond rfl (fun h => by cases h) (fun _ => W_exit ?_)
        refine zD ?_
        exact ⟨(true, zs, c4), ⟨show zs.length ≤ 3 by omega, ht4, hzs⟩, by simp [subF, lk], rfl⟩
    ·rintro ⟨b, zs, c3⟩ ⟨hzl, ht3, hzs⟩
     try simp only at hzl ht3 hzs ⊢
     have hmid := coefMid ns hnB hns ys hyB hly s hsB dg zs hzl hzs vs hvl hvo c3 ht3
     unfold lcMd codelrCoefs at hmid
     dsimp only [dSeq2] at hmid
     cases b
     ·exact hmid
     ·refine W_freeze 79 (cells := strL zs) rfl (strL_rf zs) ?_
      have f1 := frz_strL' zs 79
      have f2 := map_frz 79 (strL zs) ht3.rf
      have f4 : frz 79 (strL zs) (.ptr 40 0) = .ptr 40 0 := frz_ptr_ne _ _ 0 (by decide)
      refine zE (zA f1 (zA f2 f4)) ?_
      exact hmid
end Go.Proofs.YtjfedgpbedppeaaGreatDoor
namespace Go.Proofs.YtjfedgpbedppeaaGreatDoor
open Go Go.Dat Go.Proofs Go.RowKit Nat32
theorem law_of {f : Nat} {ds : List DV} {vs : Array Value} {w : World} (hc : PCalls Tryz.prog f ds (.bool true)) (hT : Tab Tryz.prog w) (hs : vs.size = ds.length) (hv : ∀ (k : Nat) d v, ds[k]? = some d → vs[k]? = some v → VI w (fun _ => False) d v) :
  Calls Tryz.prog f vs w fun e w' => e = .returned (.bool true) ∧ Below w.heap.size w w' := by
 refine (hc (fun _ => False) w vs hT (fun b h => h.elim) hs hv).mono ?_
 rintro e w' ⟨v, rfl, hvi, hx⟩
 refine ⟨?_, hx.os, hx.tape, hx.output, hx.size, fun k hk => hx.block k hk id⟩
 cases hvi; rfl
theorem max_shaped {w : World} (h : w.ShapedOpen Tryz.prog) : ∀ g, Tryz.prog.globalNamed maxName = some g → g < w.heap.size ∧ ∃ m, w.cell? ⟨g, 0, none⟩ = some (.int .i64 m) := by
 intro g hg
 rw [show Tryz.prog.globalNamed maxName = some 1 by kernel_rfl] at hg
 cases hg
 obtain ⟨m, hm⟩ := Go.Proofs.cell_of_shapedOpen_int (zero := #[.int .i64 0]) (t := 3) (g := 1) h (of_decide_eq_true (by kernel_rfl)) (by kernel_rfl) rfl (by kernel_rfl) (by kernel_rfl) Tryz.underlying3
 exact ⟨World.block_lt_of_cell? w _ hm, m, hm⟩
theorem handed_and_shaped {H : Type} {enc : TypeId × Value → H} {a : Assume} {C : Checked} {os : Os} {f : FuncId} {fn : Func} {s : ChangeSpec} {conds : List PathCond} {apart fresh handsOn again : Bool} {X : World → Array Value → Prop}
  (hX : ∀ (w w' : World) (args : Array Value), w.heap = w'.heap → X w args → X w' args)
  (own : ownKnob C.prog.godebug = none) (started : os.Started) (noInit : C.prog.inits.idxOf? f = none) (hfn : C.prog.funcs[f]? = some fn)
  (witness : ∃ (w : World) (tape : Tape) (i : Input), w.os = os ∧ (w.forCall tape i).Shaped C.prog ∧ i.vars = [] ∧ Input.okWide C.prog (w.forCall tape i) .any w.heap.size f i ∧
   ((s.pre enc C.prog fn conds apart (w.forCall tape i).memory i.args ∧ X (w.forCall tape i).memory i.args) ∧ sizedMet enc C.prog fn (OpenSpec.ofChange s) apart (w.forCall tape i).memory i.args) ∧ a.holds C.prog (lone (Frame.enter C.prog f i.args .normal) [] (w.forCall tape i)))
  (contract : ∀ (W : World) (base : Nat) (args : Array Value) (ds gs : List (DataW H)) (before : List MemPlace),
   (∀ (j : Nat) t v, fn.params[j]? = some t → args[j]? = some v → Value.okWide C.prog W .any base t v) →
   DataW.Whole enc C.prog fn.params.toList s.vars apart W args.toList ds gs before → X W args → W.ShapedOpen C.prog →
   Calls C.prog f args W fun e W' => ∃ v, e = .returned v ∧ s.post enc C.prog fn apart fresh handsOn again W args v W') :
  ReturnsInHanded a C os f .any (fun w args => (s.pre enc C.prog fn conds apart w args ∧ X w args) ∧ sizedMet enc C.prog fn (OpenSpec.ofChange s) apart w args) (s.post enc C.prog fn apart fresh handsOn again) := by
 refine returnsInHanded_of_calls own started noInit witness ?_
 intro w tape i _ hsh _ hok hpre _
 obtain ⟨_, _, _, fn', hfn', _, _, _, _, hval⟩ := hok
 obtain rfl : fn' = fn := Option.some.inj (hfn'.symm.trans hfn)
 obtain ⟨⟨⟨ds, gs, before, hw, _⟩, hx⟩, _⟩ := hpre
 refine (contract (w.forCall tape i) w.heap.size i.args ds gs before hval (DataW.Whole.of_heap (w' := w.forCall tape i) (by rfl) hw) (hX _ _ _ (by rfl) hx) hsh).mono ?_
 rintro e W' ⟨v, rfl, hp⟩
 exact ChangeSpec.post_blind hp
theorem rat_xc {ds : List DV} (h : IsD ratT ds) : ∃ y : XR, lim y.2.1 ∧ lim y.2.2 ∧ y.2.1.length ≤ 9223372036854775807 ∧ y.2.2.length ≤ 9223372036854775807 ∧ ds = xc y := by
 obtain ⟨neg, a, d, h1, h2, h3, h4, rfl⟩ := h.rat
 exact ⟨(neg, a, d), h1, h2, h3, h4, rfl⟩
theorem rats_xcs {zs : List (List DV)} (h : ∀ z ∈ zs, IsD ratT z) : ∃ ys : List XR, ys.length = zs.length ∧ zs.flatten = xcs ys ∧ ∀ y ∈ ys, lim y.2.1 ∧ lim y.2.2 ∧ y.2.1.length ≤ 9223372036854775807 ∧ y.2.2.length ≤ 9223372036854775807 := by
 induction zs with
 | nil => exact ⟨[], rfl, rfl, fun y h => by cases h⟩
 | cons z zs ih =>
  obtain ⟨ys, h1, h2, h3⟩ := ih fun z hz => h z (by simp [hz])
  obtain ⟨y, g1, g2, g3, g4, rfl⟩ := rat_xc (h z (by simp))
  refine ⟨y :: ys, by simp [h1], by rw [List.flatten_cons, h2]; rfl, fun x hx => ?_⟩
  rcases List.mem_cons.1 hx with rfl | hx
  ·exact ⟨g1, g2, g3, g4⟩
  ·exact h3 x hx
end Go.Proofs.YtjfedgpbedppeaaGreatDoor
namespace Go.Proofs.YtjfedgpbedppeaaGreatDoor
open Go Go.Dat Go.Proofs Nat32
theorem strs_D {zs : List (List DV)} (h : ∀ z ∈ zs, IsD .str z) : ∃ ns : List Bs, ns.length = zs.length ∧ zs.flatten = strL ns ∧ ∀ s ∈ ns, s.length ≤ 9223372036854775807 := by
 induction zs with
 | nil => exact ⟨[], rfl, rfl, fun s h => by cases h⟩
 | cons z zs ih =>
  obtain ⟨ns, h1, h2, h3⟩ := ih fun z hz => h z (by simp [hz])
  obtain ⟨s, g1, rfl⟩ := h z (by simp)
  refine ⟨s :: ns, by simp [h1], by rw [List.flatten_cons, h2]; rfl, fun x hx => ?_⟩
  rcases List.mem_cons.1 hx with rfl | hx
  ·exact g1
  ·exact h3 x hx
end Go.Proofs.YtjfedgpbedppeaaGreatDoor
