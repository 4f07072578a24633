/- Lemmas of the walk; no conditions beyond those that each states. -/
import Derived.OpenShut
import Derived.Below
import Derived.HandedShaped
import Derived.Handed
import Derived.Test.YtlcagndeidjobaaGreatDoorD2
import Derived.Test.YtlcagndeidjobaaGreatDoorT2
import Derived.Test.YtlcagndeidjobaaGreatDoorN1
set_option linter.unusedSimpArgs false
set_option linter.unusedVariables false
set_option linter.unnecessarySimpa false
set_option maxHeartbeats 4000000
namespace Go.Proofs.YtlcagndeidjobaaGreatDoor
open Go Go.Dat Go.Proofs Go.RowKit Nat32
theorem ltX_len {m : Nat} {l : List XN} (h : ltX m l = true) : l.length ≤ m := by
 unfold ltX at h; simp only [Bool.and_eq_true, decide_eq_true_eq] at h; exact h.1
theorem eB64 : ∀ t, t < 5 → 3 * eB 64 t ≤ 140800 ∧ uB 64 t + 4 * eB 64 t ≤ 140800 ∧ 3 * gB 64 t + 2 ≤ 140800 := by decide
theorem gB64 : ∀ t, t < 6 → gB 64 t ≤ 140800 := by decide
set_option maxHeartbeats 2000000 in
theorem ldAli_calls (x : List (List XN)) (h1 : x.length ≤ 9223372036854775807) (h2 : ∀ r ∈ x, r.length ≤ 9223372036854775807) (h3 : ∀ r ∈ x, ∀ q ∈ r, lim q.2.1 ∧ lim q.2.2 ∧ q.2.1.length ≤ 9223372036854775807 ∧ q.2.2.length ≤ 9223372036854775807) :
  PCalls Tryz.prog 6 [.sl 1 (xrs x)] (.bool true) := by
 have hA := ld_awake_calls
 have cl := mdLightM_calls x 5 5 h1 h2 (by decide) (by decide)
 have hln := xrs_len x
 refine PCalls_of isldDesignAliases (by simp [fnldDesignAliases]) ?_
 unfold codeldDesignAliases
 refine zR ?_
 refine cP cl ?_
 cases hlm : ltM 5 5 x
 ·refine zR ?_
  refine wT ?_
  refine zR ?_
  refine cP hA ?_
  refine zR ?_
  exact W_ret (RetP_1 (.imm rfl))
 have hlm' := hlm
 unfold ltM at hlm'
 simp only [Bool.and_eq_true, decide_eq_true_eq, List.all_eq_true] at hlm'
 obtain ⟨hn5, hrows⟩ := hlm'
 have hrow : ∀ i, i < x.length → (x.getD i []).length ≤ 5 ∧ (x.getD i []) ∈ x := fun i hi => by
  have hm : x.getD i [] ∈ x := by rw [List.getD_eq_getElem?_getD, List.getElem?_eq_getElem hi]; exact List.getElem_mem hi
  exact ⟨ltX_len (hrows _ hm), hm⟩
 refine zR ?_
 refine wFs ?_
 refine zR ?_
 refine W_loop (σ := Nat) (fun i => [(0, .sl 1 (xrs x)), (3, .int .i64 i)]) (fun _ => []) (fun i => i ≤ x.length ∧ ∀ r, r < i → ∀ c, c < (x.getD r []).length → ((x.getD r []).getD c default).2.1.length ≤ 2 ∧ ((x.getD r []).getD c default).2.2.length ≤ 2) (fun i => x.length - i) 0 ⟨Nat.zero_le _, by simp⟩ ?_ rfl ?_
 ·simp [subF, lk]
 ·rintro i ⟨hi, hall⟩
  try simp only at hi hall ⊢
  by_cases hlt : i < x.length
  ·have dl : decide ((i : Int) < (x.length : Int)) = true := decide_eq_true (by omega)
   have ei : (i : Int).toNat = i := Int.toNat_natCast i
   have e1 : ((i : Int) + 1) = ((i + 1 : Nat) : Int) := by omega
   have hg := xrs_get hlt .undef
   obtain ⟨hr5, hrm⟩ := hrow i hlt
   have hlr := fm_len xnC_len (x.getD i [])
   have hlr3 : ((x.getD i []).flatMap xnC).length / 3 = (x.getD i []).length := by omega
   repeat (first | refine W_seq ?_ | refine W_reg ?_ | refine W_regd ?_ | refine W_regs ?_ | refine W_regp ?_ | refine W_block ?_ | refine And.intro (by omega) ?_ | simp (maxSteps := 1000000) (disch := omega) only [cA, cB, cN, FnD.nb, lk, lkH, Dst.onT, Dst.onX, Dst.slot, setF, setH, mapF, mapH, initF, binE, unE, cnt, boundE, newsE, freshE, freshT, opE, rmH, blkQ, frz_us, Nat.reduceEqDiff, Nat.reduceLT, Nat.reduceAdd, Nat.reduceMul, Nat.reduceMod, ↓reduceIte, reduceCtorEq, Nat.reduceLeDiff, dl, hln])
   refine wTs ?_
   refine W_seq ?_
   refine W_block ?_
   repeat (first | refine W_seq ?_ | refine W_reg ?_ | refine W_regd ?_ | refine W_regs ?_ | refine W_regp ?_ | refine W_block ?_ | refine And.intro (by omega) ?_ | simp (maxSteps := 1000000) (disch := omega) only [cA, cB, cN, FnD.nb, lk, lkH, Dst.onT, Dst.onX, Dst.slot, setF, setH, mapF, mapH, initF, binE, unE, cnt, boundE, newsE, freshE, freshT, opE, rmH, blkQ, frz_us, Nat.reduceEqDiff, Nat.reduceLT, Nat.reduceAdd, Nat.reduceMul, Nat.reduceMod, ↓reduceIte, reduceCtorEq, Nat.reduceLeDiff])
   refine W_loop (σ := Nat) (fun j => [(0, .sl 1 (xrs x)), (3, .int .i64 i), (4, .int .i64 j)]) (fun _ => []) (fun j => j ≤ (x.getD i []).length ∧ ∀ c, c < j → ((x.getD i []).getD c default).2.1.length ≤ 2 ∧ ((x.getD i []).getD c default).2.2.length ≤ 2) (fun j => (x.getD i []).length - j) 0 ⟨Nat.zero_le _, by simp⟩ ?_ rfl ?_
   ·simp [subF, lk]
   ·rintro j ⟨hj, hallj⟩
    try simp only at hj hallj ⊢
    by_cases hlj : j < (x.getD i []).length
    ·have dj : decide ((j : Int) < ((x.getD i []).length : Int)) = true := decide_eq_true (by omega)
     have ej : (j : Int).toNat = j := Int.toNat_natCast j
     have ej1 : ((j : Int) + 1) = ((j + 1 : Nat) : Int) := by omega
     have ha1 : ((x.getD i []).flatMap xnC).getD (j * 3 + 1) .undef = .sl 1 (us ((x.getD i []).getD j default).2.1) := fm_at (j := 1) xnC_len default hlj (by decide) .undef
     have ha2 : ((x.getD i []).flatMap xnC).getD (j * 3 + 2) .undef = .sl 1 (us ((x.getD i []).getD j default).2.2) := fm_at (j := 2) xnC_len default hlj (by decide) .undef
     have hlu : ∀ l : List Nat, (us l).length = l.length := fun l => by unfold us; rw [List.length_map]
     have hmem : (x.getD i []).getD j default ∈ x.getD i [] := memG hlj
     obtain ⟨_, _, b1, b2⟩ := h3 _ hrm _ hmem
     have hnx : ((x.getD i []).getD j default).2.1.length ≤ 2 ∧ ((x.getD i []).getD j default).2.2.length ≤ 2 → ∀ c, c < j + 1 → ((x.getD i []).getD c default).2.1.length ≤ 2 ∧ ((x.getD i []).getD c default).2.2.length ≤ 2 := fun h c hc => by
      rcases Nat.lt_or_ge c j with g | g
      ·exact hallj c g
      ·rw [show c = j by omega]; exact h
     generalize (x.getD i []).getD j default = q at *
     by_cases c1 : 2 < q.2.1.length
     ·have d1 : decide ((2 : Int) < (q.2.1.length : Int)) = true := decide_eq_true (by omega)
      refine zS (zA ei (zA hln (zA hg (zA hlr3 dj)))) ?_
      refine wTs ?_
      refine zS (zA ei (zA ej (zA hln (zA hg (zA hlr (zA ha1 (zA ha2 (zA hlu d1)))))))) ?_
      refine wT ?_
      refine zR ?_
      refine cP hA ?_
      refine zR ?_
      exact W_ret (RetP_1 (.imm rfl))
     ·have d1 : decide ((2 : Int) < (q.2.1.length : Int)) = false := decide_eq_false (by omega)
      by_cases c2 : 2 < q.2.2.length
      ·have d2 : decide ((2 : Int) < (q.2.2.length : Int)) = true := decide_eq_true (by omega)
       refine zS (zA ei (zA hln (zA hg (zA hlr3 dj)))) ?_
       refine wTs ?_
       refine zS (zA ei (zA ej (zA hln (zA hg (zA hlr (zA ha1 (zA ha2 (zA hlu (zA d1 d2))))))))) ?_
       refine wT ?_
       refine zR ?_
       refine cP hA ?_
       refine zR ?_
       exact W_ret (RetP_1 (.imm rfl))
      ·have d2 : decide ((2 : Int) < (q.2.2.length : Int)) = false := decide_eq_false (by omega)
       refine zS (zA ei (zA hln (zA hg (zA hlr3 dj)))) ?_
       refine wTs ?_
       refine zS (zA ei (zA ej (zA hln (zA hg (zA hlr (zA ha1 (zA ha2 (zA hlu (zA d1 d2))))))))) ?_
       refine wFs ?_
       refine zS ej1 ?_
       exact ⟨j + 1, ⟨by omega, hnx ⟨by omega, by omega⟩⟩, by omega, by simp [subF, lk]⟩
    ·have dj : decide ((j : Int) < ((x.getD i []).length : Int)) = false := decide_eq_false (by omega)
     refine zS (zA ei (zA hln (zA hg (zA hlr3 dj)))) ?_
     refine W_cond rfl (fun h => by cases h) (fun _ => W_exit ?_)
     refine zS e1 ?_
     refine ⟨i + 1, ⟨by omega, fun r hr c hc => ?_⟩, by omega, by simp [subF, lk]⟩
     rcases Nat.lt_or_ge r i with g | g
     ·exact hall r g c hc
     ·obtain rfl : r = i := by omega
      exact hallj c (by omega)
  ·have dl : decide ((i : Int) < (x.length : Int)) = false := decide_eq_false (by omega)
   refine zS (zA dl hln) ?_
   refine W_cond rfl (fun h => by cases h) (fun _ => W_exit ?_)
   have hrl : ∀ i, ((x.map fun r => r.flatMap xnC).getD i []).length ≤ 1000000 := fun i => by
    by_cases hi : i < x.length
    ·rw [xrs_row hi, fm_len xnC_len]; have := (hrow i hi).1; omega
    ·rw [List.getD_eq_getElem?_getD, List.getElem?_eq_none (by rw [List.length_map]; omega)]; exact Nat.zero_le _
   cases hf : frmR (x.map fun r => r.flatMap xnC)
   ·have ca := dgAlias_bad hf (by omega) hrl
    have cb := deAlias_bad hf (by omega) hrl
    have d00 : decide (¬ (0 : Int) = 0) = false := rfl
    have d66 : decide (¬ (6 : Int) = 6) = false := rfl
    have d0 : decide ((0 : Int) < 0) = false := rfl
    refine zR ?_
    refine cP ca ?_
    repeat (first | refine W_seq ?_ | refine W_reg ?_ | refine W_regd ?_ | refine W_regs ?_ | refine W_regp ?_ | refine W_block ?_ | refine And.intro (by omega) ?_ | simp (maxSteps := 1000000) (disch := omega) only [cA, cB, cN, FnD.nb, lk, lkH, Dst.onT, Dst.onX, Dst.slot, setF, setH, mapF, mapH, initF, binE, unE, cnt, boundE, newsE, freshE, freshT, opE, rmH, blkQ, frz_us, Nat.reduceEqDiff, Nat.reduceLT, Nat.reduceAdd, Nat.reduceMul, Nat.reduceMod, ↓reduceIte, reduceCtorEq, Nat.reduceLeDiff])
    refine cP cb ?_
    have dnt : ∀ [h : Decidable (¬ True)], @decide (¬ True) h = false := by intro h; exact decide_eq_false (fun g => g trivial)
    repeat (first | refine W_seq ?_ | refine W_reg ?_ | refine W_regd ?_ | refine W_regs ?_ | refine W_regp ?_ | refine W_block ?_ | refine And.intro (by omega) ?_ | simp (maxSteps := 1000000) (disch := omega) only [cA, cB, cN, FnD.nb, lk, lkH, Dst.onT, Dst.onX, Dst.slot, setF, setH, mapF, mapH, initF, binE, unE, cnt, boundE, newsE, freshE, freshT, opE, rmH, blkQ, frz_us, Nat.reduceEqDiff, Nat.reduceLT, Nat.reduceAdd, Nat.reduceMul, Nat.reduceMod, ↓reduceIte, reduceCtorEq, Nat.reduceLeDiff, d00, d66, dnt])
    refine cP pSameNil_calls ?_
    refine zR ?_
    refine wFs ?_
    refine zR ?_
    refine W_loop (σ := Unit) (fun _ => [(5, .nils), (8, .nils), (11, .int .i64 0)]) (fun _ => []) (fun _ => True) (fun _ => 0) () trivial ?_ rfl ?_
    ·simp [subF, lk]
    ·rintro ⟨⟩ -
     refine zS d0 ?_
     refine W_cond rfl (fun h => by cases h) (fun _ => W_exit ?_)
     refine zR ?_
     refine cP hA ?_
     refine zR ?_
     exact W_ret (RetP_1 (.imm rfl))
   ·obtain ⟨k, hk⟩ : ∃ k, k = (x.getD 0 []).length := ⟨_, rfl⟩
    have hf2 := hf
    unfold frmR at hf2
    simp only [Bool.and_eq_true, decide_eq_true_eq, List.all_eq_true] at hf2
    have hrw : ∀ i, i < x.length → 1 ≤ (x.getD i []).length ∧ (x.getD i []).length = k := fun i hi => by
     have hm : (x.map fun r => r.flatMap xnC).getD i [] ∈ x.map fun r => r.flatMap xnC := by
      rw [List.getD_eq_getElem?_getD, List.getElem?_eq_getElem (by rw [List.length_map]; exact hi)]; exact List.getElem_mem _
     have := hf2.2 _ hm
     rw [xrs_row hi, xrs_row (by omega), fm_len xnC_len, fm_len xnC_len, ← hk] at this
     omega
    have hk5 : k ≤ 5 := by
     by_cases e : x.length = 0
     ·rw [hk, List.eq_nil_of_length_eq_zero e]; exact Nat.zero_le _
     ·rw [hk]; exact (hrow 0 (by omega)).1
    have hok : mtOK x x.length k 64 := by
     refine ⟨rfl, by omega, by omega, fun e => ?_, fun i hi => (hrw i hi).2, fun e => ?_, fun i hi j hj => ?_, fun i hi j hj => ?_⟩
     ·rw [hk, List.eq_nil_of_length_eq_zero e]; rfl
     ·rw [← (hrw 0 (by omega)).2]; exact (hrw 0 (by omega)).1
     ·have hm : (x.getD i []).getD j default ∈ x.getD i [] := memG (by rw [(hrw i hi).2]; exact hj)
      obtain ⟨a1, a2, _, _⟩ := h3 _ (hrow i hi).2 _ hm
      have := hall i (by omega) j (by rw [(hrw i hi).2]; exact hj)
      exact ⟨a1, a2, by omega, by omega⟩
     ·have hm : (x.getD i []).getD j default ∈ x.getD i [] := memG (by rw [(hrw i hi).2]; exact hj)
      obtain ⟨a1, a2, _, _⟩ := h3 _ (hrow i hi).2 _ hm
      have := hall i (by omega) j (by rw [(hrw i hi).2]; exact hj)
      exact BS_rb (l := 2) (RB_rv a1 a2 this.1 this.2 (by decide))
    have ca := dgAlias_calls hok (fun t ht => (eB64 t (by omega)).1) (fun t ht => (eB64 t (by omega)).2.1) (fun t ht => gB64 t (by omega))
    have cb := deAlias_calls hok (fun t ht => (eB64 t (by omega)).2.2) (fun t ht => gB64 t (by omega))
    have hsz := rr_size hok.sz
    have hpn := rrP_len x.length k (mtX x)
    have hG := gB64 (rrP x.length k (mtX x)).length (by omega)
    have cm := pSameMat_calls k (rrP x.length k (mtX x)).length (gB 64 (rrP x.length k (mtX x)).length) (fun c a => rrM x.length k (mtX x) a c) (by omega) (by omega) (fun c hc a ha => hsz a (by omega) c hc) (by omega)
    unfold aliD at ca cb
    have hbl : ((List.range k).map fun c => DV.bool (decide (c ∈ rrP x.length k (mtX x)))) = blD (rrP x.length k (mtX x)) k := rfl
    rw [hbl] at ca cb
    generalize rrM x.length k (mtX x) = R at *
    generalize rrP x.length k (mtX x) = ps at *
    have hb1 := blD_len ps k
    have dnt : ∀ [h : Decidable (¬ True)], @decide (¬ True) h = false := by intro h; exact decide_eq_false (fun g => g trivial)
    have hbb : ∀ b : Bool, (!(b == b)) = false := by intro b; cases b <;> rfl
    refine zR ?_
    refine cP ca ?_
    refine zR ?_
    refine cP cb ?_
    refine zS (zA hb1 dnt) ?_
    refine cP cm ?_
    refine zR ?_
    refine wFs ?_
    refine zR ?_
    refine W_loop (σ := Nat) (fun c => [(5, .sl 1 (blD ps k)), (8, .sl 1 (blD ps k)), (11, .int .i64 c)]) (fun _ => []) (fun c => c ≤ k) (fun c => k - c) 0 (Nat.zero_le _) ?_ rfl ?_
    ·simp [subF, lk]
    ·intro c hc
     try simp only at hc ⊢
     by_cases hlc : c < k
     ·have dc : decide ((c : Int) < (k : Int)) = true := decide_eq_true (by omega)
      have ec : (c : Int).toNat = c := Int.toNat_natCast c
      have ec1 : ((c : Int) + 1) = ((c + 1 : Nat) : Int) := by omega
      have hgc := blD_get (ps := ps) hlc .undef
      refine zS (zA hb1 dc) ?_
      refine wTs ?_
      refine zS (zA hb1 (zA ec (zA hgc hbb))) ?_
      refine wFs ?_
      refine zS ec1 ?_
      exact ⟨c + 1, by omega, by omega, by simp [subF, lk]⟩
     ·have dc : decide ((c : Int) < (k : Int)) = false := decide_eq_false (by omega)
      refine zS (zA hb1 dc) ?_
      refine W_cond rfl (fun h => by cases h) (fun _ => W_exit ?_)
      refine zR ?_
      refine cP hA ?_
      refine zR ?_
      exact W_ret (RetP_1 (.imm rfl))
theorem law_of {f : Nat} {ds : List DV} {vs : Array Value} {w : World} (hc : PCalls Tryz.prog f ds (.bool true)) (hT : Tab Tryz.prog w) (hs : vs.size = ds.length) (hv : ∀ (k : Nat) d v, ds[k]? = some d → vs[k]? = some v → VI w (fun _ => False) d v) :
  Calls Tryz.prog f vs w fun e w' => e = .returned (.bool true) ∧ Below w.heap.size w w' := by
 refine (hc (fun _ => False) w vs hT (fun b h => h.elim) hs hv).mono ?_
 rintro e w' ⟨v, rfl, hvi, hx⟩
 refine ⟨?_, hx.os, hx.tape, hx.output, hx.size, fun k hk => hx.block k hk id⟩
 cases hvi; rfl
theorem max_shaped {w : World} (h : w.ShapedOpen Tryz.prog) : ∀ g, Tryz.prog.globalNamed maxName = some g → g < w.heap.size ∧ ∃ m, w.cell? ⟨g, 0, none⟩ = some (.int .i64 m) := by
 intro g hg
 rw [show Tryz.prog.globalNamed maxName = none by kernel_rfl] at hg
 cases hg
theorem handed_and_shaped {H : Type} {enc : TypeId × Value → H} {a : Assume} {C : Checked} {os : Os} {f : FuncId} {fn : Func} {s : ChangeSpec} {conds : List PathCond} {apart fresh handsOn again : Bool} {X : World → Array Value → Prop}
  (hX : ∀ (w w' : World) (args : Array Value), w.heap = w'.heap → X w args → X w' args)
  (own : ownKnob C.prog.godebug = none) (started : os.Started) (noInit : C.prog.inits.idxOf? f = none) (hfn : C.prog.funcs[f]? = some fn)
  (witness : ∃ (w : World) (tape : Tape) (i : Input), w.os = os ∧ (w.forCall tape i).Shaped C.prog ∧ i.vars = [] ∧ Input.okWide C.prog (w.forCall tape i) .any w.heap.size f i ∧
   ((s.pre enc C.prog fn conds apart (w.forCall tape i).memory i.args ∧ X (w.forCall tape i).memory i.args) ∧ sizedMet enc C.prog fn (OpenSpec.ofChange s) apart (w.forCall tape i).memory i.args) ∧ a.holds C.prog (lone (Frame.enter C.prog f i.args .normal) [] (w.forCall tape i)))
  (contract : ∀ (W : World) (base : Nat) (args : Array Value) (ds gs : List (DataW H)) (before : List MemPlace),
   (∀ (j : Nat) t v, fn.params[j]? = some t → args[j]? = some v → Value.okWide C.prog W .any base t v) →
   DataW.Whole enc C.prog fn.params.toList s.vars apart W args.toList ds gs before → X W args → W.ShapedOpen C.prog →
   Calls C.prog f args W fun e W' => ∃ v, e = .returned v ∧ s.post enc C.prog fn apart fresh handsOn again W args v W') :
  ReturnsInHanded a C os f .any (fun w args => (s.pre enc C.prog fn conds apart w args ∧ X w args) ∧ sizedMet enc C.prog fn (OpenSpec.ofChange s) apart w args) (s.post enc C.prog fn apart fresh handsOn again) := by
 refine returnsInHanded_of_calls own started noInit witness ?_
 intro w tape i _ hsh _ hok hpre _
 obtain ⟨_, _, _, fn', hfn', _, _, _, _, hval⟩ := hok
 obtain rfl : fn' = fn := Option.some.inj (hfn'.symm.trans hfn)
 obtain ⟨⟨⟨ds, gs, before, hw, _⟩, hx⟩, _⟩ := hpre
 refine (contract (w.forCall tape i) w.heap.size i.args ds gs before hval (DataW.Whole.of_heap (w' := w.forCall tape i) (by rfl) hw) (hX _ _ _ (by rfl) hx) hsh).mono ?_
 rintro e W' ⟨v, rfl, hp⟩
 exact ChangeSpec.post_blind hp
theorem lst_D {α : Type} {t : Ty} {f : α → List DV} {p : α → Prop} (hf : ∀ z, IsD t z → ∃ a, p a ∧ z = f a) : ∀ {zs : List (List DV)}, (∀ z ∈ zs, IsD t z) → ∃ l : List α, l.length = zs.length ∧ zs.flatten = l.flatMap f ∧ ∀ a ∈ l, p a
 | [], _ => ⟨[], rfl, rfl, fun a h => by cases h⟩
 | z :: zs, h => by
  obtain ⟨l, h1, h2, h3⟩ := lst_D hf (zs := zs) fun y hy => h y (List.mem_cons_of_mem _ hy)
  obtain ⟨a, g1, g2⟩ := hf z (h z List.mem_cons_self)
  refine ⟨a :: l, by simp [h1], by rw [List.flatten_cons, h2, g2]; rfl, fun x hx => ?_⟩
  rcases List.mem_cons.1 hx with rfl | hx
  ·exact g1
  ·exact h3 x hx
def okXN (x : XN) : Prop := lim x.2.1 ∧ lim x.2.2 ∧ x.2.1.length ≤ 9223372036854775807 ∧ x.2.2.length ≤ 9223372036854775807
theorem xn_D {z : List DV} (h : IsD ratT z) : ∃ x : XN, okXN x ∧ z = xnC x := by
 obtain ⟨neg, a, d, h1, h2, h3, h4, rfl⟩ := h.rat
 exact ⟨(neg, a, d), ⟨h1, h2, h3, h4⟩, rfl⟩
def okRow (l : List XN) : Prop := l.length ≤ 9223372036854775807 ∧ ∀ q ∈ l, okXN q
theorem row_D {z : List DV} (h : IsD (.sl ratT) z) : ∃ l : List XN, okRow l ∧ z = [.sl 3 (l.flatMap xnC)] := by
 obtain ⟨zs, h1, h2, rfl⟩ := h
 obtain ⟨l, g1, g2, g3⟩ := lst_D (f := xnC) (p := okXN) (fun z hz => xn_D hz) h1
 exact ⟨l, ⟨by rw [g1]; exact h2, g3⟩, by rw [g2]; rfl⟩
theorem mats_D {zs : List (List DV)} (h : ∀ z ∈ zs, IsD (.sl ratT) z) (hl : zs.length ≤ 9223372036854775807) : ∃ x : List (List XN), zs.flatten = xrs x ∧ x.length ≤ 9223372036854775807 ∧ ∀ r ∈ x, okRow r := by
 obtain ⟨x, h1, h2, h3⟩ := lst_D (f := fun r : List XN => [DV.sl 3 (r.flatMap xnC)]) (p := okRow) (fun z hz => row_D hz) h
 refine ⟨x, ?_, by rw [h1]; exact hl, h3⟩
 rw [h2]
 clear h1 h2 h3
 induction x with
 | nil => rfl
 | cons r x ih => rw [List.flatMap_cons, ih]; rfl
theorem ldAli_card {x : List (List XN)} (h1 : x.length ≤ 9223372036854775807) (h2 : ∀ r ∈ x, okRow r) : PCalls Tryz.prog 6 [.sl 1 (xrs x)] (.bool true) :=
 ldAli_calls x h1 (fun r hr => (h2 r hr).1) fun r hr q hq => (h2 r hr).2 q hq
end Go.Proofs.YtlcagndeidjobaaGreatDoor
