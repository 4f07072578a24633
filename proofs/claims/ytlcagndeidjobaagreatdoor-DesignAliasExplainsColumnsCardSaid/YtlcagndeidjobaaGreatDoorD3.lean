/- Lemmas of the walk; no conditions beyond those that each states. -/
import Derived.Deep.Upon
import Derived.Shelf.Spec.SlicesInsertGrow
import Derived.Deep.RegionLaw
import Derived.Deep.LoopGhost
import Derived.Lib.SlicesDelete
import Derived.Sort.WalkB12
import Derived.Test.YtlcagndeidjobaaGreatDoorD2
set_option linter.unusedSimpArgs false
set_option linter.unusedVariables false
set_option linter.unnecessarySimpa false
set_option maxHeartbeats 4000000
namespace Go.Dat
open Go
section
variable {F : FnD}
def callS (F : FnD) (dp : DOper) (f : Nat) (args : List Opd) (K : (Nat → DV) → Heap → Prop) (σ : Nat → DV) (h : Heap) : Prop :=
 ∀ (G : Cx) (L : Nat → Option Nat) (a : Act) (w : World) (us : Array Value), G.n = F.n → G.ok F.P → R G L σ h a w → us.size = args.length →
  (∀ (k : Nat) d v, (args.map (evS σ))[k]? = some d → us[k]? = some v → V w L (Av G.S L) d v) →
  Calls F.P f us w fun e w' => ∃ v L' d σ' h', e = .returned v ∧ R G L' σ' h' a w' ∧ V w' L' (Av G.S L') d v ∧ SimK σ σ' ∧ K (updS σ' dp.dst.slot d) h'
def stepX (F : FnD) (dp : DOper) (K : (Nat → DV) → Heap → Prop) (σ : Nat → DV) (h : Heap) : Prop :=
 match dp.op with
 | .call f args => (gS σ dp.guard = some true ∧ callS F dp f args K σ h) ∨ (gS σ dp.guard = some false ∧ K (updS σ dp.dst.slot (.tup [])) h)
 | _ => stepD F dp K σ h
def stepN (F : FnD) (n i : Nat) (dp : DOper) (K : (Nat → DV) → Heap → Prop) (σ : Nat → DV) (h : Heap) : Prop := if i < n then stepD F dp K σ h else stepX F dp K σ h
def anyX (F : FnD) (n : Nat) (ops : Array Oper) (ds : List DOper) (K : (Nat → DV) → Heap → Prop) : Nat → Array Bool → (Nat → DV) → Heap → Prop
 | 0, listed, σ, h => Region.ready .any ops listed = [] ∧ K σ h
 | fuel + 1, listed, σ, h => (Region.ready .any ops listed = [] → K σ h) ∧
  ∀ i ∈ Region.ready .any ops listed, ∃ x, ds[i]? = some x ∧ stepN F n i x (anyX F n ops ds K fuel (listed.setIfInBounds i true)) σ h
def lexX (F : FnD) (n : Nat) : Nat → List DOper → ((Nat → DV) → Heap → Prop) → (Nat → DV) → Heap → Prop
 | _, [], K => K
 | k, o :: os, K => stepN F n k o (lexX F n (k + 1) os K)
theorem stepX_mono {dp : DOper} {K K' : (Nat → DV) → Heap → Prop} (hk : ∀ σ h, K σ h → K' σ h) {σ : Nat → DV} {h : Heap} (hs : stepX F dp K σ h) : stepX F dp K' σ h := by
 unfold stepX at hs ⊢
 split at hs
 ·rcases hs with ⟨h1, h2⟩ | ⟨h1, h2⟩
  ·refine .inl ⟨h1, fun G L a w us hn hG hR hs hv => (h2 G L a w us hn hG hR hs hv).mono ?_⟩
   rintro e w' ⟨v, L', d, σ', h', e1, e2, e3, e5, e4⟩
   exact ⟨v, L', d, σ', h', e1, e2, e3, e5, hk _ _ e4⟩
  ·exact .inr ⟨h1, hk _ _ h2⟩
 ·obtain ⟨d, ef, h1, h2⟩ := hs
  exact ⟨d, ef, h1, hk _ _ h2⟩
theorem stepX_plain {dp : DOper} (hc : dp.op.isCall = false) (K : (Nat → DV) → Heap → Prop) (σ : Nat → DV) (h : Heap) : stepX F dp K σ h = stepD F dp K σ h := by
 unfold stepX
 split
 ·rename_i f args e; rw [e] at hc; cases hc
 ·rfl
theorem stepN_mono {n i : Nat} {dp : DOper} {K K' : (Nat → DV) → Heap → Prop} (hk : ∀ σ h, K σ h → K' σ h) {σ : Nat → DV} {h : Heap} (hs : stepN F n i dp K σ h) : stepN F n i dp K' σ h := by
 unfold stepN at hs ⊢
 split
 ·rename_i hlt
  rw [if_pos hlt] at hs
  obtain ⟨d, ef, h1, h2⟩ := hs
  exact ⟨d, ef, h1, hk _ _ h2⟩
 ·rename_i hlt
  rw [if_neg hlt] at hs
  exact stepX_mono hk hs
theorem stepN_plain {n i : Nat} {dp : DOper} (hc : cpN n i dp = true) (K : (Nat → DV) → Heap → Prop) (σ : Nat → DV) (h : Heap) : stepN F n i dp K σ h = stepD F dp K σ h := by
 unfold stepN
 split
 ·rfl
 ·rename_i hlt
  simp only [cpN, decide_eq_false hlt, Bool.false_or, Bool.not_eq_true'] at hc
  exact stepX_plain hc K σ h
theorem anyX_first {n : Nat} {ops : Array Oper} {ds : List DOper} {K : (Nat → DV) → Heap → Prop} {i : Nat} {x : DOper} (hx : ds[i]? = some x) (hxc : cpN n i x = true) : ∀ (fuel : Nat) (listed : Array Bool) (σ : Nat → DV) (h : Heap) (di : DV) (ei : Eff),
  ClosedL ops listed → i ∈ Region.ready .any ops listed →
  (∀ j y, ds[j]? = some y → j ≠ i → listed.getD j true = false → Dep ops j i ∨ (x.apart y = true ∧ comOK x.op y.op = true ∧ cpN n j y = true)) →
  Gives F x σ h di ei → anyX F n ops ds K fuel (listed.setIfInBounds i true) (updS (ei.onS σ) x.dst.slot di) (ei.onH h) → anyX F n ops ds K (fuel + 1) listed σ h := by
 intro fuel
 induction fuel with
 | zero =>
  intro listed σ h di ei hc hi hap hg H
  refine ⟨fun e => (by rw [e] at hi; cases hi), fun j hj => ?_⟩
  by_cases hji : j = i
  ·subst hji; exact ⟨x, hx, by rw [stepN_plain hxc]; exact ⟨di, ei, hg, H⟩⟩
  ·have := ready_mono hj hji
   rw [H.1] at this; cases this
 | succ fuel ih =>
  intro listed σ h di ei hc hi hap hg H
  refine ⟨fun e => (by rw [e] at hi; cases hi), fun j hj => ?_⟩
  by_cases hji : j = i
  ·subst hji; exact ⟨x, hx, by rw [stepN_plain hxc]; exact ⟨di, ei, hg, H⟩⟩
  ·obtain ⟨y, hy, H'⟩ := H.2 j (ready_mono hj hji)
   obtain ⟨hjun, oj, hoj, hall⟩ := mem_ready.1 hj
   obtain ⟨hiun, _, _, _⟩ := mem_ready.1 hi
   have hnd : ¬ Dep ops j i := by
    intro hd
    have h1 := dep_listed hc hd fun o ho e he hb => by rw [hoj] at ho; cases ho; exact hall e he hb
    have h2 : listed.getD i true = true := by
     rw [Array.getD_eq_getD_getElem?] at h1 ⊢
     cases hq : listed[i]? with
     | none => rfl
     | some b => rw [hq] at h1; exact h1
    rw [hiun] at h2; cases h2
   obtain ⟨hap1, hap2, hyc⟩ := (hap j y hy hji hjun).resolve_left hnd
   rw [stepN_plain hyc] at H'
   obtain ⟨dj, ej, hgj, H'⟩ := H'
   obtain ⟨dj', ej', di', ei', g1, g2, g3, g4⟩ := diamond hap1 hap2 hg hgj
   refine ⟨y, hy, ?_⟩
   rw [stepN_plain hyc]
   refine ⟨dj', ej', g1, ih _ _ _ di' ei' (hc.set hj) (ready_mono hi (Ne.symm hji)) (fun k z hz hki hun => ?_) g2 ?_⟩
   ·refine hap k z hz hki ?_
    by_cases hjk : j = k
    ·subst hjk; exact hjun
    ·rwa [getD_set_ne true hjk] at hun
   ·rw [g3, g4, Array.setIfInBounds_comm _ _ hji]
    exact H'
theorem anyX_lex {n : Nat} {ops : Array Oper} {ds : List DOper} {K : (Nat → DV) → Heap → Prop} {deps : List (List Nat)} (hdeps : ∀ k x, x ∈ deps.getD k [] → Dep ops k x) (hlen : ds.length = ops.size) :
  ∀ (fuel k : Nat) (listed : Array Bool) (σ : Nat → DV) (h : Heap), k + fuel = ops.size → ClosedL ops listed → drawFromS n ops ds deps fuel k listed = true → lexX F n k (ds.drop k) K σ h → anyX F n ops ds K fuel listed σ h := by
 intro fuel
 induction fuel with
 | zero =>
  intro k listed σ h hk hc hd hl
  rw [List.drop_eq_nil_of_le (by omega)] at hl
  exact ⟨List.isEmpty_iff.1 hd, hl⟩
 | succ fuel ih =>
  intro k listed σ h hk hc hd hl
  simp only [drawFromS, Bool.and_eq_true, List.contains_iff_mem, List.all_eq_true, List.mem_range] at hd
  obtain ⟨⟨hr, hall⟩, hd⟩ := hd
  have hlt : k < ds.length := by omega
  rw [List.drop_eq_getElem_cons hlt] at hl
  have hother : ∀ j y, ds[j]? = some y → j ≠ k → listed.getD j true = false → Dep ops j k ∨ (ds[k].apart y = true ∧ comOK ds[k].op y.op = true ∧ cpN n k ds[k] = true ∧ cpN n j y = true) := by
   intro j y hy hjk hun
   have hjl : j < ops.size := by have := (List.getElem?_eq_some_iff.1 hy).1; omega
   have := hall j hjl
   rw [hun, List.getElem?_eq_getElem hlt, hy] at this
   simp only [Bool.or_eq_true, beq_iff_eq, Bool.false_eq_true, or_false, Bool.and_eq_true, List.contains_iff_mem] at this
   rcases this with (h1 | h1) | h1
   ·exact absurd h1 hjk
   ·exact .inl (hdeps _ _ h1)
   ·exact .inr ⟨h1.1.1, h1.1.2, h1.2.1, h1.2.2⟩
  cases hkc : cpN n k ds[k] with
  | true =>
   simp only [lexX] at hl
   rw [stepN_plain hkc] at hl
   obtain ⟨d, ef, hg, hl⟩ := hl
   refine anyX_first (List.getElem?_eq_getElem hlt) hkc fuel listed σ h d ef hc hr (fun j y hy hjk hun => ?_) hg (ih (k + 1) _ _ _ (by omega) (hc.set hr) hd hl)
   rcases hother j y hy hjk hun with h1 | ⟨h1, h2, _, h3⟩
   ·exact .inl h1
   ·exact .inr ⟨h1, h2, h3⟩
  | false =>
   refine ⟨fun e => (by rw [e] at hr; cases hr), fun j hj => ?_⟩
   have hjk : j = k := by
    apply Classical.byContradiction
    intro hne
    obtain ⟨hjun, oj, hoj, hallj⟩ := mem_ready.1 hj
    obtain ⟨hiun, _, _, _⟩ := mem_ready.1 hr
    have hjl : j < ops.size := (Array.getElem?_eq_some_iff.1 hoj).1
    rcases hother j ds[j] (List.getElem?_eq_getElem (by omega)) hne hjun with h1 | ⟨_, _, h2, _⟩
    ·have h1 := dep_listed hc h1 fun o ho e he hb => by rw [hoj] at ho; cases ho; exact hallj e he hb
     have h2 : listed.getD k true = true := by
      rw [Array.getD_eq_getD_getElem?] at h1 ⊢
      cases hq : listed[k]? with
      | none => rfl
      | some b => rw [hq] at h1; exact h1
     rw [hiun] at h2; cases h2
    ·rw [hkc] at h2; cases h2
   subst hjk
   exact ⟨ds[j], List.getElem?_eq_getElem hlt, stepN_mono (fun σ h hk2 => ih (j + 1) _ _ _ (by omega) (hc.set hr) hd hk2) hl⟩
theorem regW_lexX (hp : F.pure = false) {K : Fr → Fr → Hp → Prop} {n : Nat} : ∀ (ds : List DOper) (k : Nat), n ≤ k → ds.all (·.tags F.vs) = true → ∀ (te fr : Fr) (H : Hp), regW F ds te fr H K →
  lexX F n k ds (fun σ h => ∃ te fr H, σ = den F.vs te fr ∧ h = lkH H ∧ K te fr H) (den F.vs te fr) (lkH H)
 | [], _, _, _, te, fr, H, hw => ⟨te, fr, H, rfl, rfl, hw⟩
 | o :: os, k, hkn, ht, te, fr, H, hw => by
  simp only [List.all_cons, Bool.and_eq_true] at ht
  obtain ⟨ht, hts⟩ := ht
  simp only [DOper.tags, Bool.and_eq_true] at ht
  obtain ⟨⟨t1, t2⟩, t3⟩ := ht
  have ih := regW_lexX hp (K := K) (n := n) os (k + 1) (by omega) hts
  have hd := dst_tag t1
  have skip : gS (den F.vs te fr) o.guard = some false → regW F os (o.dst.onT te (.tup [])) (o.dst.onX fr (.tup [])) H K → lexX F n k (o :: os) (fun σ h => ∃ te fr H, σ = den F.vs te fr ∧ h = lkH H ∧ K te fr H) (den F.vs te fr) (lkH H) := fun hg hw =>
   (show lexX F n k (o :: os) (fun σ h => ∃ te fr H, σ = den F.vs te fr ∧ h = lkH H ∧ K te fr H) (den F.vs te fr) (lkH H) from by
    have := ih _ _ _ hw
    rw [hd, den_put] at this
    show stepN F n k o _ _ _
    unfold stepN
    rw [if_neg (by omega)]
    unfold stepX
    rw [hd, sDst_slot]
    split
    ·exact .inr ⟨hg, this⟩
    ·exact ⟨.tup [], .no, ⟨.inr ⟨hg, rfl, rfl⟩⟩, by rw [hd, sDst_slot]; exact this⟩)
  have hev : ∀ p ∈ o.op.opds, ev te fr p = evS (den F.vs te fr) p := fun p hp => ev_tag (List.all_eq_true.1 t2 p hp)
  have go : gS (den F.vs te fr) o.guard = some true → (match o.op with
   | .call f args => callR F f (args.map (ev te fr)) te fr H fun d te' fr' H' => regW F os (o.dst.onT te' d) (o.dst.onX fr' d) H' K
   | p => OW (opE F.nb o.dst.slot (ev te fr) (lkH H) p) fun r => regW F os (o.dst.onT (r.2.onF te) r.1) (o.dst.onX (r.2.onF fr) r.1) (r.2.onL H) K) → lexX F n k (o :: os) (fun σ h => ∃ te fr H, σ = den F.vs te fr ∧ h = lkH H ∧ K te fr H) (den F.vs te fr) (lkH H) := fun hg hw =>
   (show lexX F n k (o :: os) (fun σ h => ∃ te fr H, σ = den F.vs te fr ∧ h = lkH H ∧ K te fr H) (den F.vs te fr) (lkH H) from by
    have plain : OW (opE F.nb o.dst.slot (ev te fr) (lkH H) o.op) (fun r => regW F os (o.dst.onT (r.2.onF te) r.1) (o.dst.onX (r.2.onF fr) r.1) (r.2.onL H) K) →
      ((∀ f args, o.op ≠ .call f args)) → lexX F n k (o :: os) (fun σ h => ∃ te fr H, σ = den F.vs te fr ∧ h = lkH H ∧ K te fr H) (den F.vs te fr) (lkH H) := by
     rintro ⟨⟨d, ef⟩, he, hk⟩ hnc
     show stepN F n k o _ _ _
     unfold stepN
     rw [if_neg (by omega)]
     unfold stepX
     split
     ·rename_i f args e; exact absurd e (hnc f args)
     refine ⟨d, ef, ⟨.inl ⟨hg, ?_⟩⟩, ?_⟩
     ·rw [opE_congr hev] at he
      unfold goD
      cases hop : o.op with
      | call f args => exact absurd hop (hnc f args)
      | _ => rw [hop] at he; exact he
     ·have := ih _ _ _ hk
      rw [hd, den_put, den_onF, lkH_onL] at this
      rw [hd, sDst_slot]
      exact this
    cases hop : o.op with
    | call f args =>
     rw [hop] at hw
     simp only [callR, hp, Bool.false_eq_true, if_false] at hw
     rw [hop] at hev
     have hm : args.map (ev te fr) = args.map (evS (den F.vs te fr)) := List.map_congr_left fun p hp => hev p hp
     rw [hm] at hw
     show stepN F n k o _ _ _
     unfold stepN
     rw [if_neg (by omega)]
     unfold stepX
     rw [hop]
     refine .inl ⟨hg, fun G L a w us hn hG hR hs hv => ?_⟩
     refine (hw G L a w us hG hR (by simpa using hs) hv).mono ?_
     rintro e w' ⟨v, L', d, te', fr', H', rfl, hR', hV, hsm, hk⟩
     refine ⟨v, L', d, _, _, rfl, hR', hV, hsm, ?_⟩
     have := ih _ _ _ hk
     rw [hd, den_put] at this
     rw [hd, sDst_slot]
     exact this
    | _ =>
     rw [hop] at hw
     exact plain (by rw [hop]; exact hw) (by rw [hop]; intro f args e; cases e))
  simp only [regW] at hw
  cases hgu : o.guard with
  | none =>
   rw [hgu] at hw
   exact go (by rw [hgu]; rfl) hw
  | some p =>
   obtain ⟨g, want⟩ := p
   rw [hgu] at hw t3
   have hgv := ev_tag (te := te) (fr := fr) t3
   simp only at hw
   split at hw
   ·rename_i b hb
    rw [hgv] at hb
    by_cases hbw : b = want
    ·exact go (by rw [hgu]; simp only [gS, hb]; simp [hbw]) (hw.1 hbw)
    ·exact skip (by rw [hgu]; simp only [gS, hb]; simp [hbw]) (hw.2 (by clear hw; cases b <;> cases want <;> first | rfl | exact absurd rfl hbw))
   ·rename_i hb
    rw [hgv] at hb
    exact skip (by rw [hgu]; simp only [gS, hb]) hw
   ·exact hw.elim
theorem Gives.np {dp : DOper} {σ : Nat → DV} {h : Heap} {d : DV} {ef : Eff} (hg : Gives { F with pure := true } dp σ h d ef) : Gives F dp σ h d ef := ⟨hg.out⟩
theorem lexX_pre {n : Nat} {K K' : (Nat → DV) → Heap → Prop} (d1 : List DOper) : ∀ (d0 : List DOper) (k : Nat) (σ : Nat → DV) (h : Heap), k + d0.length ≤ n → (∀ σ h, K σ h → lexX F n (k + d0.length) d1 K' σ h) →
  lexD { F with pure := true } d0 K σ h → lexX F n k (d0 ++ d1) K' σ h
 | [], k, σ, h, _, hk, hl => hk σ h hl
 | o :: os, k, σ, h, hkn, hk, hl => by
  obtain ⟨d, ef, hg, hl⟩ := hl
  simp only [List.length_cons] at hkn hk
  show stepN F n k o _ σ h
  unfold stepN
  rw [if_pos (by omega)]
  refine ⟨d, ef, hg.np, lexX_pre d1 os (k + 1) _ _ (by omega) (fun σ h h2 => ?_) hl⟩
  have := hk σ h h2
  rwa [show k + (os.length + 1) = k + 1 + os.length by omega] at this
end
section
variable {F : FnD} {G : Cx}
theorem anyX_sound {n : Nat} {ops : Array Oper} {ds : List DOper} {Q : Exit → Act → World → Prop} {K : (Nat → DV) → Heap → Prop} (hn : G.n = F.n ∧ G.ok F.P) (hs : sOpers F.P F.vs F.own F.n ops ops.toList = some ds)
  (hK : ∀ σ h L a w, R G L σ h a w → K σ h → Q .normal a w) : ∀ (fuel : Nat) (listed : Array Bool) (σ : Nat → DV) (h : Heap) (L : Nat → Option Nat) (a : Act) (w : World), R G L σ h a w →
   anyX F n ops ds K fuel listed σ h → wpAny F.P .any ops Q fuel listed a w := by
 intro fuel
 induction fuel with
 | zero => intro listed σ h L a w hR hA; exact ⟨hA.1, hK _ _ _ _ _ hR hA.2⟩
 | succ fuel ih =>
  intro listed σ h L a w hR hA
  refine ⟨fun e => hK _ _ _ _ _ hR (hA.1 e), fun i hi => ?_⟩
  obtain ⟨x, hx, hA'⟩ := hA.2 i hi
  obtain ⟨_, o, ho, _⟩ := mem_ready.1 hi
  obtain ⟨dp, hdp, hso⟩ := (sOpers_get _ _ hs).2 i o (by simpa using ho)
  rw [hx] at hdp; cases hdp
  have hgd : sGuard F.vs ops o.guard = some x.guard ∧ x.dst = sDst F.vs o.dst ∧ ∀ k, o.dst = some k → k < F.n := by
   simp only [sOper, Option.bind_eq_some_iff] at hso
   obtain ⟨p, hp, g, hg', hs⟩ := hso
   split at hs
   ·rename_i hd; cases hs; exact ⟨hg', rfl, dst_lt hd⟩
   ·cases hs
  obtain ⟨hgu, hdst, hdl⟩ := hgd
  simp only [wpOp, ho]
  have hskip : anyX F n ops ds K fuel (listed.setIfInBounds i true) (updS σ x.dst.slot (.tup [])) h → wpAny F.P .any ops Q fuel (listed.setIfInBounds i true) (a.put o.dst undef) w := fun h2 => by
   rw [hdst, sDst_slot] at h2
   exact ih _ _ _ L _ w (hR.put V_undef (by rw [hn.1]; exact hdl)) h2
  unfold stepN at hA'
  split at hA'
  ·obtain ⟨d, ef, hg, hA'⟩ := hA'
   rcases hg.out with ⟨h1, h2⟩ | ⟨h1, rfl, rfl⟩
   ·rw [wantedS hR hgu h1, if_pos rfl]
    exact .inl (oper_soundS hso hn hR h2 fun L a w hR' => ih _ _ _ L a w hR' hA')
   ·rw [wantedS hR hgu h1, if_neg (by simp)]
    exact hskip hA'
  unfold stepX at hA'
  split at hA'
  ·rename_i f args hop
   rcases hA' with ⟨h1, h2⟩ | ⟨h1, h2⟩
   ·rw [wantedS hR hgu h1, if_pos rfl]
    refine .inl ?_
    obtain ⟨odst, op, ty, pos, after, guard⟩ := o
    obtain ⟨xdst, xop, xguard⟩ := x
    simp only [sOper, Option.bind_eq_some_iff] at hso
    obtain ⟨p, hp, g, hg', hs2⟩ := hso
    split at hs2
    ·simp only [Option.some.injEq, DOper.mk.injEq] at hs2
     obtain ⟨_, rfl, _⟩ := hs2
     simp only at hop hdst
     subst hop
     subst hdst
     obtain ⟨c, fn, rfl, hcal, hfn, hbody, hname, rfl⟩ := sOp_call hp
     obtain ⟨callee, cargs, argTypes⟩ := c
     simp only at hcal h2
     subst hcal
     have hE : EV F.vs (evS σ) w L (Av G.S L) a := fun x => ev_V hR x
     have hcall := h2 G L a w (cargs.map a.eval) hn.1 hn.2 hR (by simp) (fun k d v h1 h2 => by
      simp only [List.map_map, List.getElem?_map, Array.getElem?_toList, Option.map_eq_some_iff] at h1
      simp only [Array.getElem?_map, Option.map_eq_some_iff] at h2
      obtain ⟨x, hx, rfl⟩ := h1
      obtain ⟨y, hy, rfl⟩ := h2
      rw [hx] at hy; cases hy
      exact hE x)
     have hr : (execOp a.eval ⟨odst, .call { callee := .value (.func f), args := cargs, argTypes := argTypes }, ty, pos, after, guard⟩).run F.P w = .ok (.enter f (cargs.map a.eval)) w := by
      have hb : ¬ fn.body = none := by intro e; rw [e] at hbody; cases hbody
      have hnm : ¬ fn.name = "runtime.NumGoroutine" := by simpa using hname
      simp [execOp, resolve, Act.eval, Deferred.ofValue, invoke, callFunc, hfn, hnm, hb]
     unfold Oper.wp
     rw [hr]
     refine hcall.mono ?_
     rintro e w' ⟨v, L', d, σ', h', rfl, hR2, hv, _, hk⟩
     have hput := hR2.put hv (dst := odst) (by rw [hn.1]; exact hdl)
     rw [sDst_slot] at hk
     exact ih _ _ _ L' _ w' hput hk
    ·cases hs2
   ·rw [wantedS hR hgu h1, if_neg (by simp)]
    exact hskip h2
  ·obtain ⟨d, ef, hg, hA'⟩ := hA'
   rcases hg.out with ⟨h1, h2⟩ | ⟨h1, rfl, rfl⟩
   ·rw [wantedS hR hgu h1, if_pos rfl]
    exact .inl (oper_soundS hso hn hR h2 fun L a w hR' => ih _ _ _ L a w hR' hA')
   ·rw [wantedS hR hgu h1, if_neg (by simp)]
    exact hskip hA'
theorem W_regp {Q : Ex → Fr → Hp → Prop} {fr : Fr} {H : Hp} {n : Nat} {ds : List DOper} (hw : regW { F with pure := true } (ds.take n) [] fr H fun te fr H => regW F (ds.drop n) te fr H fun _ fr H => Q .norm fr H) (hp : F.pure = false := by rfl) : W F (.regs n ds) Q fr H := by
 intro code hc G L a w hn hR
 have main : ∀ (id : Nat) (ops : Array Oper), sOpers F.P F.vs F.own F.n ops ops.toList = some ds → (drawOKs F.vs n ops ds && F.P.follows .mixedOrders) = true → (Code.region id ops true).wp F.P (Post F G Q) a w := by
  intro id ops hds hok
  simp only [drawOKs, Bool.and_eq_true] at hok
  obtain ⟨⟨⟨_, htags⟩, hdf⟩, hm⟩ := hok
  refine wp_region_any hm ?_
  have hlen : ds.length = ops.size := by rw [(sOpers_get _ _ hds).1]; simp
  have ht0 : (ds.take n).all (·.tags F.vs) = true := List.all_eq_true.2 fun d hd => List.all_eq_true.1 htags d (List.mem_of_mem_take hd)
  have ht1 : (ds.drop n).all (·.tags F.vs) = true := List.all_eq_true.2 fun d hd => List.all_eq_true.1 htags d (List.mem_of_mem_drop hd)
  have hlex : lexX F n 0 ds (fun σ h => ∃ te fr' H', σ = den F.vs te fr' ∧ h = lkH H' ∧ Q .norm fr' H') (den F.vs [] fr) (lkH H) := by
   have h0 := regW_lex (F := { F with pure := true }) rfl (ds.take n) ht0 [] fr H hw
   have := lexX_pre (F := F) (n := n) (K' := fun σ h => ∃ te fr' H', σ = den F.vs te fr' ∧ h = lkH H' ∧ Q .norm fr' H') (ds.drop n) (ds.take n) 0 _ _ (by rw [List.length_take]; omega) (fun σ h hk => ?_) h0
   ·rwa [List.take_append_drop] at this
   ·obtain ⟨te, fr', H', rfl, rfl, hk⟩ := hk
    by_cases hle : n ≤ ds.length
    ·exact regW_lexX hp (ds.drop n) _ (by rw [List.length_take]; omega) ht1 te fr' H' hk
    ·rw [List.drop_eq_nil_of_le (by omega)] at hk ⊢
     exact ⟨te, fr', H', rfl, rfl, hk⟩
  have hany : anyX F n ops ds (fun σ h => ∃ te fr' H', σ = den F.vs te fr' ∧ h = lkH H' ∧ Q .norm fr' H') ops.size (Array.replicate ops.size false) (den F.vs [] fr) (lkH H) := by
   refine anyX_lex (deps := depsAll ops.toList []) (fun k x hx => ?_) hlen ops.size 0 _ _ _ (by omega) ?_ hdf hlex
   ·exact depsAll_sound ops.toList [] (fun j => by simp) (fun k x hx => by simp at hx) k x hx
   ·intro j o hj _ e _ _
    simp [Array.getD_eq_getD_getElem?, Array.getElem?_replicate] at hj
    split at hj <;> simp at hj
  refine anyX_sound (F := F) (G := G) (K := fun σ h => ∃ te fr' H', σ = den F.vs te fr' ∧ h = lkH H' ∧ Q .norm fr' H') hn hds ?_ ops.size _ _ _ L a _ (hR.still (w' := { w with drawn := w.drawn + 1 }) ⟨rfl, rfl, rfl, Nat.le_refl _, fun _ _ _ => rfl⟩) hany
  rintro σ h L a w hR' ⟨te, fr', H', rfl, rfl, hk⟩
  refine ⟨L, fr', H', .norm, hR'.weak fun s => ?_, rfl, hk⟩
  simp only [den, lk]
  split
  ·exact .inl rfl
  ·exact .inr rfl
 cases code <;> simp only [strip] at hc <;> first | (cases hc; done) | skip
 rename_i id ops draw
 split at hc
 ·rename_i ds' hds
  split at hc
  ·rename_i hd
   subst hd
   split at hc
   ·rename_i hok
    cases hc
    rw [Bool.and_assoc] at hok
    exact main id ops hds (Bool.and_eq_true _ _ |>.mp hok).2
   ·split at hc
    ·cases hc
    ·split at hc
     ·rename_i hok
      cases hc
      rw [Bool.and_assoc] at hok
      exact main id ops hds (Bool.and_eq_true _ _ |>.mp hok).2
     ·(repeat' split at hc) <;> cases hc
  ·cases hc
 ·cases hc
theorem W_regs {Q : Ex → Fr → Hp → Prop} {fr : Fr} {H : Hp} {ds : List DOper} (hw : regW F ds [] fr H fun _ fr H => Q .norm fr H) (hp : F.pure = false := by rfl) : W F (.regs 0 ds) Q fr H := W_regp hw hp
end
end Go.Dat
namespace Go.Dat
open Go
section
variable {F : FnD}
theorem DV.sim_val {d : DV} (h : d.sim = true) : ∃ v, ∀ (w : World) (A : Nat → Prop), VI w A d v := by
 cases d <;> first | (cases h; done) | exact ⟨_, fun w A => .int _ _⟩ | exact ⟨_, fun w A => .bool _⟩ | exact ⟨_, fun w A => .str _⟩
theorem sim_V {w w' : World} {L L' : Nat → Option Nat} {A A' : Nat → Prop} {d : DV} {v : Value} (h : d.sim = true) (hv : V w L A d v) : V w' L' A' d v := by
 cases d with
 | int k n => rw [hv.inv_int]; exact .imm (.int _ _)
 | bool b => rw [hv.inv_bool]; exact .imm (.bool _)
 | str l => rw [hv.inv_str]; exact .imm (.str _)
 | _ => cases h
theorem binE_sim {op : BinOp} {a b d : DV} (h : binE op a b = some d) : d.sim = true := by
 cases a <;> cases b <;> simp only [binE] at h <;> first | (cases h; done) | skip
 all_goals
  cases op <;> simp only [reduceCtorEq] at h <;> first | (obtain ⟨_, h⟩ := gd_some h; cases h; rfl) | (cases h; rfl)
theorem unE_sim {op : UnOp} {a d : DV} (h : unE op a = some d) : d.sim = true := by
 cases a <;> simp only [unE, reduceCtorEq] at h
 all_goals
  cases op <;> simp only [reduceCtorEq] at h <;> (cases h; rfl)
theorem flatK_cls {p : DOp} (h : p.flatK = true) : p.cls = 0 := by cases p <;> first | rfl | (cases h; done)
theorem flatK_call {p : DOp} (h : p.flatK = true) : p.isCall = false := by cases p <;> first | rfl | (cases h; done)
theorem flatK_out {x : DOper} {σ : Nat → DV} {h : Heap} {d : DV} {ef : Eff} (hf : x.op.flatK = true) (hgn : x.guard = none) (hs : ∀ p ∈ x.op.opds, (evS σ p).sim = true) (hg : Gives F x σ h d ef) :
  d.sim = true ∧ ef = .no := by
 refine ⟨?_, hg.noEff (by rw [flatK_cls hf]; exact Nat.zero_le _)⟩
 rcases hg.out with ⟨_, h1⟩ | ⟨h1, _⟩
 ·obtain ⟨dst, op, guard⟩ := x
  simp only at hf hs
  cases op <;> first | (cases hf; done) | skip
  ·simp only [goD, opE, Option.some.injEq, Prod.mk.injEq] at h1
   rw [← h1.1]; exact hs _ (by simp [DOp.opds])
  ·simp only [goD, opE, Option.map_eq_some_iff, Prod.mk.injEq] at h1
   obtain ⟨d', h2, rfl, _⟩ := h1
   exact binE_sim h2
  ·simp only [goD, opE, Option.map_eq_some_iff, Prod.mk.injEq] at h1
   obtain ⟨d', h2, rfl, _⟩ := h1
   exact unE_sim h2
  ·simp only [goD, opE] at h1
   split at h1
   ·simp only [Option.some.injEq, Prod.mk.injEq] at h1; rw [← h1.1]; rfl
   ·cases h1
  ·simp only [goD, opE] at h1
   split at h1
   ·simp only [Option.bind_eq_some_iff, Option.map_eq_some_iff, Prod.mk.injEq] at h1
    obtain ⟨_, _, _, _, h2, _⟩ := h1
    rw [← h2]; rfl
   ·cases h1
  ·simp only [goD, opE] at h1
   split at h1
   ·obtain ⟨_, h1⟩ := gd_some h1
    simp only [Option.some.injEq, Prod.mk.injEq] at h1; rw [← h1.1]; rfl
   ·cases h1
  ·simp only [goD, opE] at h1
   split at h1
   ·simp only [Option.some.injEq, Prod.mk.injEq] at h1; rw [← h1.1]; rfl
   ·cases h1
  ·simp only [goD, opE] at h1
   split at h1
   ·simp only [Option.some.injEq, Prod.mk.injEq] at h1; rw [← h1.1]; rfl
   ·obtain ⟨_, h1⟩ := gd_some h1
    simp only [Option.some.injEq, Prod.mk.injEq] at h1; rw [← h1.1]; rfl
   ·cases h1
 ·rw [hgn] at h1; cases h1
theorem evS_eq {σ σ' : Nat → DV} {o : Opd} (h : ∀ s, o.slot = some s → σ' s = σ s) : evS σ' o = evS σ o := by
 cases o with
 | c d => rfl
 | x k => exact h k rfl
 | t k => exact h k rfl
theorem mem_looks {x : DOper} {p : Opd} (hp : p ∈ x.op.opds) {s : Nat} (hs : p.slot = some s) : s ∈ x.looks := by
 unfold DOper.looks; exact List.mem_append.2 (.inl (List.mem_filterMap.2 ⟨p, hp, hs⟩))
theorem Gives.flat {x : DOper} {σ σ' : Nat → DV} {h h' : Heap} {d : DV} {ef : Eff} (hf : x.op.flatK = true) (hgn : x.guard = none) (he : ∀ p ∈ x.op.opds, evS σ' p = evS σ p) (hg : Gives F x σ h d ef) : Gives F x σ' h' d ef := by
 have hg2 := hg.heap0 (h' := h') (flatK_cls hf)
 rcases hg2.out with ⟨_, h1⟩ | ⟨h1, _⟩
 ·refine ⟨.inl ⟨by rw [hgn]; rfl, ?_⟩⟩
  unfold goD at h1 ⊢
  have hc := flatK_call hf
  cases hop : x.op with
  | call f args => rw [hop] at hc; cases hc
  | _ =>
   rw [hop] at h1 he
   simp only at h1 ⊢
   rw [opE_congr he]; exact h1
 ·rw [hgn] at h1; cases h1
theorem gS_flat {σ σ' : Nat → DV} {y : DOper} (h : ∀ s ∈ y.looks, σ' s = σ s) : gS σ' y.guard = gS σ y.guard := by
 cases hg : y.guard with
 | none => rfl
 | some p =>
  obtain ⟨g, w⟩ := p
  have : evS σ' g = evS σ g := evS_eq fun s hs => h s (by unfold DOper.looks; rw [hg]; exact List.mem_append.2 (.inr (by simp [hs])))
  simp only [gS, this]
theorem sim_pgS {o : Nat} {σ : Nat → DV} {p : Opd} (h : (evS σ p).sim = true) : evS (purgeS o σ) p = evS σ p := by
 cases p with
 | c d => rfl
 | x k => show purge o (σ k) = σ k; have h : (σ k).sim = true := h; revert h; cases σ k <;> intro h <;> first | (cases h; done) | simp [purge, DV.has]
 | t k => show purge o (σ k) = σ k; have h : (σ k).sim = true := h; revert h; cases σ k <;> intro h <;> first | (cases h; done) | simp [purge, DV.has]
theorem onS_sim {ef : Eff} {σ : Nat → DV} {p : Opd} (h : (evS σ p).sim = true) : evS (ef.onS σ) p = evS σ p := by
 cases ef with
 | app o c => exact sim_pgS h
 | _ => rfl
theorem R.unput {G : Cx} {L : Nat → Option Nat} {σ σ' : Nat → DV} {h : Heap} {a : Act} {w : World} {dst : Option Nat} {v : Value} (hsz : a.tmps.size = G.n) (hR : R G L σ' h (a.put dst v) w)
  (hs : ∀ s, dst ≠ some s → σ s = σ' s) (hd : ∀ s, dst = some s → V w L (Av G.S L) (σ s) (a.tmps.getD s undef)) : R G L σ h a w := by
 cases dst with
 | none =>
  have : σ = σ' := funext fun s => hs s (by simp)
  rw [this]; exact hR
 | some k =>
  refine { hR with size := hsz, defers := hR.defers, slots := fun s => ?_ }
  by_cases e : k = s
  ·subst e; exact hd k rfl
  ·have h1 := hR.slots s
   simp only [Act.put] at h1
   have : (a.tmps.setIfInBounds k v).getD s undef = a.tmps.getD s undef := by
    simp [Array.getD_eq_getD_getElem?, e]
   rw [this] at h1
   rw [hs s (by simp [e])]; exact h1
theorem anyX_flat {ops : Array Oper} {ds : List DOper} {K : (Nat → DV) → Heap → Prop} {i : Nat} {x : DOper} (hx : ds[i]? = some x) (hf : x.op.flatK = true) (hgn : x.guard = none) (hself : ∀ s, x.dst.slot = some s → s ∉ x.looks)
  (hdl : ∀ s, x.dst.slot = some s → s < F.n) : ∀ (fuel : Nat) (listed : Array Bool) (σ : Nat → DV) (h : Heap) (di : DV),
  ClosedL ops listed → i ∈ Region.ready .any ops listed →
  (∀ j y, ds[j]? = some y → j ≠ i → listed.getD j true = false → Dep ops j i ∨ (x.apart y = true ∧ (comOK x.op y.op = true ∨ y.op.isCall = true))) →
  (∀ p ∈ x.op.opds, (evS σ p).sim = true) → Gives F x σ h di .no → anyX F 0 ops ds K fuel (listed.setIfInBounds i true) (updS σ x.dst.slot di) h → anyX F 0 ops ds K (fuel + 1) listed σ h := by
 have hx0 : ∀ (K : (Nat → DV) → Heap → Prop) (σ : Nat → DV) (h : Heap) (di : DV), Gives F x σ h di .no → K (updS σ x.dst.slot di) h → stepN F 0 i x K σ h := fun K σ h di hg hk => by
  rw [stepN_plain (by simp [cpN, flatK_call hf])]
  exact ⟨di, .no, hg, hk⟩
 intro fuel
 induction fuel with
 | zero =>
  intro listed σ h di hc hi hap hsm hg H
  refine ⟨fun e => (by rw [e] at hi; cases hi), fun j hj => ?_⟩
  by_cases hji : j = i
  ·subst hji; exact ⟨x, hx, hx0 _ _ _ _ hg H⟩
  ·have := ready_mono hj hji
   rw [H.1] at this; cases this
 | succ fuel ih =>
  intro listed σ h di hc hi hap hsm hg H
  refine ⟨fun e => (by rw [e] at hi; cases hi), fun j hj => ?_⟩
  by_cases hji : j = i
  ·subst hji; exact ⟨x, hx, hx0 _ _ _ _ hg H⟩
  ·obtain ⟨y, hy, H'⟩ := H.2 j (ready_mono hj hji)
   obtain ⟨hjun, oj, hoj, hall⟩ := mem_ready.1 hj
   obtain ⟨hiun, _, _, _⟩ := mem_ready.1 hi
   have hnd : ¬ Dep ops j i := by
    intro hd
    have h1 := dep_listed hc hd fun o ho e he hb => by rw [hoj] at ho; cases ho; exact hall e he hb
    have h2 : listed.getD i true = true := by
     rw [Array.getD_eq_getD_getElem?] at h1 ⊢
     cases hq : listed[i]? with
     | none => rfl
     | some b => rw [hq] at h1; exact h1
    rw [hiun] at h2; cases h2
   obtain ⟨hap1, hap2⟩ := (hap j y hy hji hjun).resolve_left hnd
   obtain ⟨a1, a2, a3⟩ := apart_ev hap1
   have hdi := (flatK_out hf hgn hsm hg).1
   have hrest : ∀ k z, ds[k]? = some z → k ≠ i → (listed.setIfInBounds j true).getD k true = false → Dep ops k i ∨ (x.apart z = true ∧ (comOK x.op z.op = true ∨ z.op.isCall = true)) := fun k z hz hki hun => by
    refine hap k z hz hki ?_
    by_cases hjk : j = k
    ·subst hjk; exact hjun
    ·rwa [getD_set_ne true hjk] at hun
   -- what x looks at, y does not write
   have hev : ∀ (τ : Nat → DV) (d : DV), (∀ s ∈ x.looks, τ s = σ s) → ∀ p ∈ x.op.opds, evS (updS τ y.dst.slot d) p = evS σ p := fun τ d hτ p hp => evS_eq fun s hs => by
    have hm := mem_looks hp hs
    cases hyd : y.dst.slot with
    | none => exact hτ s hm
    | some t =>
     have : s ≠ t := fun e => a2 t hyd (e ▸ hm)
     simp only [updS, if_neg this]
     exact hτ s hm
   refine ⟨y, hy, ?_⟩
   cases hyc : y.op.isCall with
   | false =>
    have hcm : comOK x.op y.op = true := hap2.resolve_right (by rw [hyc]; simp)
    rw [stepN_plain (by simp [cpN, hyc])] at H' ⊢
    obtain ⟨dj, ej, hgj, H'⟩ := H'
    obtain ⟨dj', ej', di', ei', g1, g2, g3, g4⟩ := diamond (ei := .no) hap1 hcm hg hgj
    have hsm2 : ∀ p ∈ x.op.opds, evS (updS (ej'.onS σ) y.dst.slot dj') p = evS σ p := fun p hp => by
     rw [evS_eq (σ := ej'.onS σ) (fun s hs => by
      have hm := mem_looks hp hs
      cases hyd : y.dst.slot with
      | none => rfl
      | some t => simp only [updS, if_neg (fun e : s = t => a2 t hyd (e ▸ hm))])]
     exact onS_sim (hsm p hp)
    have hno := (flatK_out hf hgn (fun p hp => by rw [hsm2 p hp]; exact hsm p hp) g2).2
    subst hno
    refine ⟨dj', ej', g1, ih _ _ _ di' (hc.set hj) (ready_mono hi (Ne.symm hji)) hrest (fun p hp => by rw [hsm2 p hp]; exact hsm p hp) g2 ?_⟩
    have e3 : updS (updS (ej'.onS σ) y.dst.slot dj') x.dst.slot di' = updS (ej.onS (updS σ x.dst.slot di)) y.dst.slot dj := g3
    have e4 : ej'.onH h = ej.onH h := g4
    rw [e3, e4, Array.setIfInBounds_comm _ _ hji]
    exact H'
   | true =>
    cases hyo : y.op with
    | call f args =>
     have hlk : ∀ s ∈ y.looks, updS σ x.dst.slot di s = σ s := fun s hs => by
      cases hxd : x.dst.slot with
      | none => rfl
      | some t => simp only [updS, if_neg (fun e : s = t => a1 t hxd (e ▸ hs))]
     unfold stepN at H' ⊢
     rw [if_neg (by omega)] at H' ⊢
     unfold stepX at H' ⊢
     rw [hyo] at H' ⊢
     simp only at H' ⊢
     rw [gS_flat hlk] at H'
     rcases H' with ⟨h1, h2⟩ | ⟨h1, h2⟩
     ·refine .inl ⟨h1, fun G L a w us hn hG hR hs hv => ?_⟩
      obtain ⟨vi, hvi⟩ := DV.sim_val hdi
      have hR' := hR.put (dst := x.dst.slot) (V.imm (hvi w (Av G.S L))) (fun k hk => by rw [hn]; exact hdl k hk)
      refine (h2 G L _ w us hn hG hR' hs fun k d v e1 e2 => ?_).mono ?_
      ·refine hv k d v ?_ e2
       rw [← e1]
       congr 1
       refine List.map_congr_left fun p hp => (evS_eq fun s hs => ?_).symm
       exact hlk s (mem_looks (by rw [hyo]; exact hp) hs)
      ·rintro e w' ⟨v, L', d, σ', h', rfl, hR2, hV, hsk, hk⟩
       obtain ⟨σ2, hσ2⟩ : ∃ σ2 : Nat → DV, σ2 = fun s => if x.dst.slot = some s then (if (σ s).sim then σ s else .undef) else σ' s := ⟨_, rfl⟩
       have hne : ∀ s, x.dst.slot ≠ some s → σ2 s = σ' s := fun s hs => by rw [hσ2]; simp only [if_neg hs]
       have hsm' : ∀ s, x.dst.slot ≠ some s → (σ s).sim = true → σ' s = σ s := fun s hs h0 => by
        have e : updS σ x.dst.slot di s = σ s := by
         cases hxd : x.dst.slot with
         | none => rfl
         | some t => simp only [updS, if_neg (fun e : s = t => hs (by rw [hxd, e]))]
        have := hsk s (by rw [e]; exact h0)
        rw [this, e]
       have hxs : ∀ s, x.dst.slot = some s → σ' s = di := fun s hs => by
        have e : updS σ x.dst.slot di s = di := by rw [hs]; simp [updS]
        have := hsk s (by rw [e]; exact hdi)
        rw [this, e]
       have hops : ∀ p ∈ x.op.opds, evS (updS σ2 y.dst.slot d) p = evS σ p := fun p hp => by
        cases p with
        | c d => rfl
        | x k | t k =>
         have hm := mem_looks hp rfl
         have h0 : (σ k).sim = true := hsm _ hp
         have h1 : x.dst.slot ≠ some k := fun e => hself k e hm
         show updS σ2 y.dst.slot d k = σ k
         have h3 : σ2 k = σ k := by rw [hne k h1, hsm' k h1 h0]
         cases hyd : y.dst.slot with
         | none => exact h3
         | some t =>
          simp only [updS, if_neg (fun e : k = t => a2 t hyd (e ▸ hm))]
          exact h3
       refine ⟨v, L', d, σ2, h', rfl, hR2.unput hR.size hne (fun s hs => ?_), hV, fun s h0 => ?_, ?_⟩
       ·rw [hσ2]; simp only [if_pos hs]
        split
        ·rename_i h0; exact sim_V h0 (hR.slots s)
        ·exact .imm (.undef _)
       ·by_cases e : x.dst.slot = some s
        ·rw [hσ2]; simp only [if_pos e, h0, if_true]
        ·rw [hne s e, hsm' s e h0]
       ·refine ih _ _ _ di (hc.set hj) (ready_mono hi (Ne.symm hji)) hrest (fun p hp => by rw [hops p hp]; exact hsm p hp) (hg.flat hf hgn hops) ?_
        rw [Array.setIfInBounds_comm _ _ hji]
        have : updS (updS σ2 y.dst.slot d) x.dst.slot di = updS σ' y.dst.slot d := by
         rw [updS_comm a3]
         congr 1
         funext s
         cases hxd : x.dst.slot with
         | none => exact hne s (by rw [hxd]; simp)
         | some t =>
          simp only [updS]
          split
          ·rename_i e; subst e; exact (hxs s hxd).symm
          ·rename_i e; exact hne s (by rw [hxd]; simp [Ne.symm e])
        rw [this]
        exact hk
     ·refine .inr ⟨h1, ih _ _ _ di (hc.set hj) (ready_mono hi (Ne.symm hji)) hrest (fun p hp => by rw [hev σ _ (fun _ _ => rfl) p hp]; exact hsm p hp) (hg.flat hf hgn (hev σ _ fun _ _ => rfl)) ?_⟩
      rw [Array.setIfInBounds_comm _ _ hji, updS_comm a3]
      exact h2
    | _ => rw [hyo] at hyc; cases hyc
def treeI (F : FnD) (ds : List DOper) (K : (Nat → DV) → Heap → Prop) : IT → (Nat → DV) → Heap → Prop
 | .leaf, σ, h => K σ h
 | .st k t, σ, h => ∃ x, ds[k]? = some x ∧ stepX F x (treeI F ds K t) σ h
 | .fl k t, σ, h => ∃ x, ds[k]? = some x ∧ (∀ p ∈ x.op.opds, (evS σ p).sim = true) ∧ stepX F x (treeI F ds K t) σ h
 | .alt a b, σ, h => treeI F ds K a σ h ∧ treeI F ds K b σ h
theorem stepN_0 {i : Nat} {dp : DOper} {K : (Nat → DV) → Heap → Prop} {σ : Nat → DV} {h : Heap} (hs : stepX F dp K σ h) : stepN F 0 i dp K σ h := by
 unfold stepN; rw [if_neg (by omega)]; exact hs
theorem movN_spec {ops : Array Oper} {ds : List DOper} {deps : List (List Nat)} {k : Nat} {listed : Array Bool} (hlen : ds.length = ops.size) (hdeps : ∀ k x, x ∈ deps.getD k [] → Dep ops k x) (h : movN ops ds deps k listed = true) {x : DOper} (hx : ds[k]? = some x) :
  x.op.isCall = false ∧ ∀ j y, ds[j]? = some y → j ≠ k → listed.getD j true = false → Dep ops j k ∨ (x.apart y = true ∧ comOK x.op y.op = true ∧ y.op.isCall = false) := by
 unfold movN at h
 rw [hx] at h
 simp only [Bool.and_eq_true, Bool.not_eq_true', List.all_eq_true, List.mem_range] at h
 refine ⟨h.1, fun j y hy hjk hun => ?_⟩
 have := h.2 j (by have := (List.getElem?_eq_some_iff.1 hy).1; omega)
 rw [hun, hy] at this
 simp only [Bool.or_eq_true, beq_iff_eq, Bool.false_eq_true, or_false, Bool.and_eq_true, List.contains_iff_mem, Bool.not_eq_true'] at this
 rcases this with (h1 | h1) | h1
 ·exact absurd h1 hjk
 ·exact .inl (hdeps _ _ h1)
 ·exact .inr ⟨h1.1.1, h1.1.2, h1.2⟩
theorem movF_spec {n : Nat} {ops : Array Oper} {ds : List DOper} {deps : List (List Nat)} {k : Nat} {listed : Array Bool} (hlen : ds.length = ops.size) (hdeps : ∀ k x, x ∈ deps.getD k [] → Dep ops k x) (h : movF n ops ds deps k listed = true) {x : DOper} (hx : ds[k]? = some x) :
  x.op.flatK = true ∧ x.guard = none ∧ (∀ s, x.dst.slot = some s → s < n) ∧ (∀ s, x.dst.slot = some s → s ∉ x.looks) ∧
  ∀ j y, ds[j]? = some y → j ≠ k → listed.getD j true = false → Dep ops j k ∨ (x.apart y = true ∧ (comOK x.op y.op = true ∨ y.op.isCall = true)) := by
 unfold movF at h
 rw [hx] at h
 simp only [Bool.and_eq_true, List.all_eq_true, List.mem_range, Option.isNone_iff_eq_none] at h
 obtain ⟨⟨⟨⟨h1, h2⟩, h3⟩, h4⟩, h5⟩ := h
 refine ⟨h1, h2, dst_lt h3, fun s hs hm => ?_, fun j y hy hjk hun => ?_⟩
 ·rw [hs] at h4
  simp only [Bool.not_eq_true', List.contains_eq_mem, decide_eq_false_iff_not] at h4
  exact h4 hm
 ·have := h5 j (by have := (List.getElem?_eq_some_iff.1 hy).1; omega)
  rw [hun, hy] at this
  simp only [Bool.or_eq_true, beq_iff_eq, Bool.false_eq_true, or_false, Bool.and_eq_true, List.contains_iff_mem] at this
  rcases this with (h1 | h1) | h1
  ·exact absurd h1 hjk
  ·exact .inl (hdeps _ _ h1)
  ·exact .inr h1
theorem anyX_tree {ops : Array Oper} {ds : List DOper} {K : (Nat → DV) → Heap → Prop} {deps : List (List Nat)} (hdeps : ∀ k x, x ∈ deps.getD k [] → Dep ops k x) (hlen : ds.length = ops.size) :
  ∀ (t : IT) (fuel : Nat) (listed : Array Bool) (σ : Nat → DV) (h : Heap), ClosedL ops listed → treeI F ds K t σ h →
   (t.ok F.n ops ds deps true fuel listed = true → anyX F 0 ops ds K fuel listed σ h) ∧
   (t.ok F.n ops ds deps false fuel listed = true → ∀ i ∈ t.heads, ∃ f x, fuel = f + 1 ∧ ds[i]? = some x ∧ i ∈ Region.ready .any ops listed ∧ stepX F x (anyX F 0 ops ds K f (listed.setIfInBounds i true)) σ h) := by
 intro t
 induction t with
 | leaf =>
  intro fuel listed σ h hc ht
  refine ⟨fun hk => ?_, fun hk => ?_⟩
  ·simp only [IT.ok, Bool.true_and, List.isEmpty_iff] at hk
   cases fuel with
   | zero => exact ⟨hk, ht⟩
   | succ f => exact ⟨fun _ => ht, fun i hi => by rw [hk] at hi; cases hi⟩
  ·simp [IT.ok] at hk
 | st k t ih =>
  intro fuel listed σ h hc ht
  obtain ⟨x, hx, ht⟩ := ht
  cases fuel with
  | zero => refine ⟨fun hk => ?_, fun hk => ?_⟩ <;> simp [IT.ok] at hk
  | succ f =>
   refine ⟨fun hk => ?_, fun hk i hi => ?_⟩
   ·simp only [IT.ok, Bool.not_true, Bool.false_or, Bool.and_eq_true, Bool.or_eq_true, List.contains_iff_mem, List.all_eq_true, beq_iff_eq] at hk
    obtain ⟨⟨hr, hm⟩, hok⟩ := hk
    have hnext : ∀ σ h, treeI F ds K t σ h → anyX F 0 ops ds K f (listed.setIfInBounds k true) σ h := fun σ h ht => (ih f _ σ h (hc.set hr) ht).1 hok
    rcases hm with hm | hm
    ·obtain ⟨hxc, hall⟩ := movN_spec hlen hdeps hm hx
     rw [stepX_plain hxc] at ht
     obtain ⟨d, ef, hg, ht⟩ := ht
     refine anyX_first hx (by simp [cpN, hxc]) f listed σ h d ef hc hr (fun j y hy hjk hun => ?_) hg (hnext _ _ ht)
     rcases hall j y hy hjk hun with h1 | ⟨h1, h2, h3⟩
     ·exact .inl h1
     ·exact .inr ⟨h1, h2, by simp [cpN, h3]⟩
    ·refine ⟨fun e => (by rw [e] at hr; cases hr), fun j hj => ?_⟩
     obtain rfl := hm j hj
     exact ⟨x, hx, stepN_0 (stepX_mono hnext ht)⟩
   ·simp only [IT.ok, Bool.not_false, Bool.true_or, Bool.and_true, Bool.and_eq_true, List.contains_iff_mem] at hk
    obtain ⟨hr, hok⟩ := hk
    simp only [IT.heads, List.mem_singleton] at hi
    subst hi
    exact ⟨f, x, rfl, hx, hr, stepX_mono (fun σ h ht => (ih f _ σ h (hc.set hr) ht).1 hok) ht⟩
 | fl k t ih =>
  intro fuel listed σ h hc ht
  obtain ⟨x, hx, hsm, ht⟩ := ht
  cases fuel with
  | zero => refine ⟨fun hk => ?_, fun hk => ?_⟩ <;> simp [IT.ok] at hk
  | succ f =>
   refine ⟨fun hk => ?_, fun hk => by simp [IT.ok] at hk⟩
   simp only [IT.ok, Bool.true_and, Bool.and_eq_true, List.contains_iff_mem] at hk
   obtain ⟨⟨hr, hm⟩, hok⟩ := hk
   obtain ⟨h1, h2, h3, h4, h5⟩ := movF_spec hlen hdeps hm hx
   rw [stepX_plain (flatK_call h1)] at ht
   obtain ⟨d, ef, hg, ht⟩ := ht
   obtain rfl := (flatK_out h1 h2 hsm hg).2
   exact anyX_flat hx h1 h2 h4 h3 f listed σ h d hc hr h5 hsm hg ((ih f _ _ _ (hc.set hr) ht).1 hok)
 | alt a b iha ihb =>
  intro fuel listed σ h hc ht
  obtain ⟨hta, htb⟩ := ht
  have key : a.ok F.n ops ds deps false fuel listed = true → b.ok F.n ops ds deps false fuel listed = true → ∀ i ∈ a.heads ++ b.heads, ∃ f x, fuel = f + 1 ∧ ds[i]? = some x ∧ i ∈ Region.ready .any ops listed ∧ stepX F x (anyX F 0 ops ds K f (listed.setIfInBounds i true)) σ h := by
   intro ha hb i hi
   rcases List.mem_append.1 hi with h1 | h1
   ·exact (iha fuel listed σ h hc hta).2 ha i h1
   ·exact (ihb fuel listed σ h hc htb).2 hb i h1
  refine ⟨fun hk => ?_, fun hk i hi => ?_⟩
  ·simp only [IT.ok, Bool.not_true, Bool.false_or, Bool.and_eq_true, List.all_eq_true, List.contains_iff_mem] at hk
   obtain ⟨⟨hall, ha⟩, hb⟩ := hk
   have hne : ∃ i, i ∈ a.heads ++ b.heads := by
    have : ∀ (t : IT) (fu : Nat) (li : Array Bool), t.ok F.n ops ds deps false fu li = true → ∃ i, i ∈ t.heads := by
     intro t
     induction t with
     | leaf => intro fu li h; simp [IT.ok] at h
     | st k t _ => intro _ _ _; exact ⟨k, by simp [IT.heads]⟩
     | fl k t _ => intro _ _ _; exact ⟨k, by simp [IT.heads]⟩
     | alt a b iha _ =>
      intro fu li h
      simp only [IT.ok, Bool.not_false, Bool.true_or, Bool.true_and, Bool.and_eq_true] at h
      obtain ⟨i, hi⟩ := iha fu li h.1
      exact ⟨i, by simp [IT.heads, hi]⟩
    obtain ⟨i, hi⟩ := this a fuel listed ha
    exact ⟨i, List.mem_append.2 (.inl hi)⟩
   obtain ⟨i0, hi0⟩ := hne
   obtain ⟨f, _, rfl, _, hr0, _⟩ := key ha hb i0 hi0
   refine ⟨fun e => (by rw [e] at hr0; cases hr0), fun i hi => ?_⟩
   obtain ⟨f', x, hf, hx, _, hs⟩ := key ha hb i (hall i hi)
   cases hf
   exact ⟨x, hx, stepN_0 hs⟩
  ·simp only [IT.ok, Bool.not_false, Bool.true_or, Bool.true_and, Bool.and_eq_true] at hk
   exact key hk.1 hk.2 i hi
def regT (F : FnD) : DT → Fr → Fr → Hp → (Fr → Fr → Hp → Prop) → Prop
 | .leaf, te, fr, H, K => K te fr H
 | .no, _, _, _, _ => False
 | .st o t, te, fr, H, K => regW F [o] te fr H fun te fr H => regT F t te fr H K
 | .fl o t, te, fr, H, K => (o.op.opds.all fun p => (ev te fr p).sim) = true ∧ regW F [o] te fr H fun te fr H => regT F t te fr H K
 | .alt a b, te, fr, H, K => regT F a te fr H K ∧ regT F b te fr H K
theorem regT_treeI (hp : F.pure = false) {ds : List DOper} (htags : ds.all (·.tags F.vs) = true) {K : Fr → Fr → Hp → Prop} : ∀ (t : IT) (te fr : Fr) (H : Hp), regT F (t.dt ds) te fr H K →
  treeI F ds (fun σ h => ∃ te fr H, σ = den F.vs te fr ∧ h = lkH H ∧ K te fr H) t (den F.vs te fr) (lkH H) := by
 have one : ∀ (o : DOper) (k : Nat) (t : IT), ds[k]? = some o → (∀ te fr H, regT F (t.dt ds) te fr H K → treeI F ds (fun σ h => ∃ te fr H, σ = den F.vs te fr ∧ h = lkH H ∧ K te fr H) t (den F.vs te fr) (lkH H)) →
   ∀ te fr H, (regW F [o] te fr H fun te fr H => regT F (t.dt ds) te fr H K) → stepX F o (treeI F ds (fun σ h => ∃ te fr H, σ = den F.vs te fr ∧ h = lkH H ∧ K te fr H) t) (den F.vs te fr) (lkH H) := by
  intro o k t ho ih te fr H h
  have hm := List.mem_of_getElem? ho
  have h1 := regW_lexX hp (n := 0) [o] 0 (Nat.le_refl _) (by simp only [List.all_cons, List.all_nil, Bool.and_true]; exact List.all_eq_true.1 htags o hm) te fr H h
  have h2 : stepN F 0 0 o (fun σ h => ∃ te fr H, σ = den F.vs te fr ∧ h = lkH H ∧ regT F (t.dt ds) te fr H K) (den F.vs te fr) (lkH H) := h1
  unfold stepN at h2
  rw [if_neg (by omega)] at h2
  refine stepX_mono (fun σ h hk => ?_) h2
  obtain ⟨te, fr, H, rfl, rfl, hk⟩ := hk
  exact ih te fr H hk
 intro t
 induction t with
 | leaf => intro te fr H h; exact ⟨te, fr, H, rfl, rfl, h⟩
 | st k t ih =>
  intro te fr H h
  simp only [IT.dt] at h
  cases hk : ds[k]? with
  | none => rw [hk] at h; exact h.elim
  | some o =>
   rw [hk] at h
   exact ⟨o, hk, one o k t hk ih te fr H h⟩
 | fl k t ih =>
  intro te fr H h
  simp only [IT.dt] at h
  cases hk : ds[k]? with
  | none => rw [hk] at h; exact h.elim
  | some o =>
   rw [hk] at h
   refine ⟨o, hk, fun p hp => ?_, one o k t hk ih te fr H h.2⟩
   have h1 := List.all_eq_true.1 h.1 p hp
   have ht := List.all_eq_true.1 htags o (List.mem_of_getElem? hk)
   simp only [DOper.tags, Bool.and_eq_true] at ht
   rw [ev_tag (List.all_eq_true.1 ht.1.2 p hp)] at h1
   exact h1
 | alt a b iha ihb => intro te fr H h; exact ⟨iha te fr H h.1, ihb te fr H h.2⟩
theorem W_rego {Q : Ex → Fr → Hp → Prop} {fr : Fr} {H : Hp} {t : DT} (hw : regT F t [] fr H fun _ fr H => Q .norm fr H) (hp : F.pure = false := by rfl) : W F (.rego t) Q fr H := by
 intro code hc G L a w hn hR
 cases code <;> simp only [strip] at hc <;> first | (cases hc; done) | skip
 rename_i id ops draw
 split at hc
 ·rename_i ds hds
  split at hc
  ·rename_i hd
   subst hd
   split at hc
   ·cases hc
   split at hc
   ·cases hc
   split at hc
   ·cases hc
   split at hc
   ·rename_i hok
    cases hc
    simp only [Bool.and_eq_true] at hok
    obtain ⟨⟨_, hok⟩, hm⟩ := hok
    simp only [itOK, Bool.and_eq_true] at hok
    obtain ⟨⟨_, htags⟩, hok⟩ := hok
    refine wp_region_any hm ?_
    have hlen : ds.length = ops.size := by rw [(sOpers_get _ _ hds).1]; simp
    have htree := regT_treeI hp htags _ _ _ _ hw
    have hany := (anyX_tree (F := F) (deps := depsAll ops.toList []) (fun k x hx => depsAll_sound ops.toList [] (fun j => by simp) (fun k x hx => by simp at hx) k x hx) hlen _ ops.size (Array.replicate ops.size false) _ _ (by
     intro j o hj _ e _ _
     simp [Array.getD_eq_getD_getElem?, Array.getElem?_replicate] at hj
     split at hj <;> simp at hj) htree).1 hok
    refine anyX_sound (F := F) (G := G) (K := fun σ h => ∃ te fr' H', σ = den F.vs te fr' ∧ h = lkH H' ∧ Q .norm fr' H') hn hds ?_ ops.size _ _ _ L a _ (hR.still (w' := { w with drawn := w.drawn + 1 }) ⟨rfl, rfl, rfl, Nat.le_refl _, fun _ _ _ => rfl⟩) hany
    rintro σ h L a w hR' ⟨te, fr', H', rfl, rfl, hk⟩
    refine ⟨L, fr', H', .norm, hR'.weak fun s => ?_, rfl, hk⟩
    simp only [den, lk]
    split
    ·exact .inl rfl
    ·exact .inr rfl
   ·split at hc
    ·cases hc
     exact hw.1.elim
    ·cases hc
  ·cases hc
 ·cases hc
end
end Go.Dat
namespace Go.Dat
open Go
def DT.pre : DT → List DOper × DT
 | .st o t => (o :: t.pre.1, t.pre.2)
 | t => ([], t)
def WkD (d d' : DV) : Prop := ∀ (w : World) (A : Nat → Prop) (v : Value), VI w A d v → VI w A d' v
theorem WkD.refl (d : DV) : WkD d d := fun _ _ _ h => h
theorem WkD.nils (sz : Nat) : WkD .nils (.sl sz []) := fun _ _ _ h => by cases h; exact .sl0 _ _ _
inductive WkL : List DV → List DV → Prop where
 | nil : WkL [] []
 | cons {d d' : DV} {r r' : List DV} (h : WkD d d') (hr : WkL r r') : WkL (d :: r) (d' :: r')
theorem WkL.len : ∀ {xs ys : List DV}, WkL xs ys → xs.length = ys.length
 | _, _, .nil => rfl
 | _, _, .cons _ hr => by rw [List.length_cons, List.length_cons, hr.len]
theorem WkL.at : ∀ {xs ys : List DV}, WkL xs ys → ∀ {k : Nat} {d' : DV}, ys[k]? = some d' → ∃ d, xs[k]? = some d ∧ WkD d d'
 | _, _, .nil, _, _, h => by simp at h
 | _, _, .cons h hr, 0, _, e => by simp at e; subst e; exact ⟨_, rfl, h⟩
 | _, _, .cons h hr, k + 1, _, e => by
  obtain ⟨d, h1, h2⟩ := hr.at (k := k) (by simpa using e)
  exact ⟨d, by simpa using h1, h2⟩
theorem WkL.refl : ∀ xs : List DV, WkL xs xs
 | [] => .nil
 | x :: xs => .cons (WkD.refl x) (WkL.refl xs)
theorem WkL.app : ∀ {a b c d : List DV}, WkL a b → WkL c d → WkL (a ++ c) (b ++ d)
 | _, _, _, _, .nil, h => h
 | _, _, _, _, .cons h hr, k => .cons h (hr.app k)
theorem WkD.sl {xs ys : List DV} (sz : Nat) (h : WkL xs ys) : WkD (.sl sz xs) (.sl sz ys) := fun w A v hv => by
 have hl := h.len
 cases hv with
 | sl0 =>
  have : ys = [] := List.eq_nil_of_length_eq_zero (by simpa using hl.symm)
  subst this; exact .sl0 _ _ _
 | sl vs hx hn hc hA hcell hv =>
  refine .sl vs (fun e => ?_) (by rw [← hl]; exact hn) hc hA (fun k d' hk => ?_) (fun k d' hk => ?_)
  ·subst e; exact hx (List.eq_nil_of_length_eq_zero (by simpa using hl))
  ·obtain ⟨d, h1, _⟩ := h.at hk
   exact hcell k d h1
  ·obtain ⟨d, h1, h2⟩ := h.at hk
   exact h2 w A _ (hv k d h1)
theorem WkD.agg {xs ys : List DV} (h : WkL xs ys) : WkD (.agg xs) (.agg ys) := fun w A v hv => by
 have hl := h.len
 cases hv with
 | agg hs hv =>
  refine .agg (by rw [← hl]; exact hs) fun k d' u hk hu => ?_
  obtain ⟨d, h1, h2⟩ := h.at hk
  exact h2 w A _ (hv k d u h1 hu)
theorem PCalls_wk {P : Program} {f : Nat} {ds ds' : List DV} {r : DV} (h : WkL ds ds') (hc : PCalls P f ds' r) : PCalls P f ds r := by
 intro A w us hT hA hs hv
 refine hc A w us hT hA (by rw [← h.len]; exact hs) fun k d' v h1 h2 => ?_
 obtain ⟨d, e1, e2⟩ := h.at h1
 exact e2 w A v (hv k d v e1 h2)
def frzp (o : Nat) (cells : List DV) : DV → DV
 | .ptr p k => if p = o then (if cells ≠ [] then .el cells k else .undef) else .ptr p k
 | d => frz o cells d
theorem frzp_undef (o : Nat) (cells : List DV) : frzp o cells .undef = .undef := by simp [frzp, frz, purge]
theorem R.freezeP {G : Cx} {L : Nat → Option Nat} {σ : Nat → DV} {h : Heap} {a : Act} {w : World} (o : Nat) (hK : G.K o = none) {cells : List DV} (ho : h o = some cells) (hrf : cells.all DV.rf = true) (hR : R G L σ h a w) :
  R G (updL L o none) (fun s => frzp o cells (σ s)) (fun p => if p = o then none else (h p).map (·.map (frz o cells))) a w := by
 have hinv : ∀ p b, updL L o none p = some b → p ≠ o ∧ L p = some b := fun p b hp => by
  unfold updL at hp; by_cases e : p = o
  ·rw [if_pos e] at hp; cases hp
  ·rw [if_neg e] at hp; exact ⟨e, hp⟩
 have hAA : ∀ b, ¬ Av G.S L b → ¬ Av G.S (updL L o none) b := by
  rintro b hA (hS | ⟨p, hp⟩)
  ·exact hA (.inl hS)
  ·exact hA (.inr ⟨p, (hinv p b hp).2⟩)
 have hF := hR.freeze o hK ho hrf
 refine { hF with slots := fun s => ?_ }
 have h0 := hR.slots s
 have h1 := hF.slots s
 cases hs : σ s with
 | ptr p k =>
  rw [hs] at h0 h1
  simp only [frzp]
  by_cases hp : p = o
  ·subst hp
   rw [if_pos rfl]
   split
   ·rename_i hne
    obtain ⟨b, hL, hv0⟩ := h0.inv_ptr
    rw [hv0]
    ·obtain ⟨cells', cur, T', hho, hb, hl', hpp⟩ := hR.heap.at_ hL
     rw [ho] at hho; cases hho
     have hnb : ¬ Av G.S (updL L p none) b := by
      rintro (h1 | ⟨q, h1⟩)
      ·exact hR.heap.notS p b hL h1
      ·obtain ⟨h2, h3⟩ := hinv q b h1
       exact h2 (hR.heap.inj q p b h3 hL)
     have hget : ∀ j d, cells[j]? = some d → ∃ u, cur[j]? = some u ∧ VI w (Av G.S (updL L p none)) d u := fun j d hj => by
      obtain ⟨u, hu⟩ := exists_aget (l := cur) (k := j) (by have := (List.getElem?_eq_some_iff.1 hj).1; omega)
      exact ⟨u, hu, ((hpp j d u hj hu).rf_imm (List.all_eq_true.1 hrf d (List.mem_of_getElem? hj))).mono fun b _ hA => ⟨rfl, hAA b hA⟩⟩
     have hv := VI.el (w := w) (A := Av G.S (updL L p none)) (xs := cells) (i := k) (ad := ⟨b, 0, none⟩) (fun j => (cur[j]?).getD Go.undef) hne hnb (fun j d hj => by
      obtain ⟨u, hu, _⟩ := hget j d hj
      rw [add_lit, cell_of_row w b _ cur T' (0, 0) hb, Nat.zero_add, hu]; rfl) (fun j d hj => by
      obtain ⟨u, hu, hv'⟩ := hget j d hj
      rw [hu]; exact hv')
     rw [add_lit, Nat.zero_add] at hv
     exact .imm hv
   ·exact .imm (.undef _)
  ·rw [if_neg hp]
   have : frz o cells (.ptr p k) = .ptr p k := by simp [frz, purge, DV.has, hp]
   rw [this] at h1; exact h1
 | _ => rw [hs] at h1; exact h1
theorem W_freezeP {F : FnD} {c : DC} {Q : Ex → Fr → Hp → Prop} {fr : Fr} {H : Hp} (o : Nat) {cells : List DV} (ho : lkH H o = some cells) (hrf : cells.all DV.rf = true)
  (hw : W F c Q (mapF (frzp o cells) fr) (rmH o cells H)) (hlt : o < 1048576 := by decide) : W F c Q fr H := by
 intro code hc G L a w hn hR
 have h1 := hR.freezeP o (hR.keep_none hlt) ho hrf
 have e1 : (fun s => frzp o cells (den F.vs [] fr s)) = den F.vs [] (mapF (frzp o cells) fr) := by
  funext s
  simp only [den, lk_mapF _ (frzp_undef o cells), lk]
  split
  ·rfl
  ·exact frzp_undef o cells
 have e2 : (fun p => if p = o then none else (lkH H p).map (·.map (frz o cells))) = lkH (rmH o cells H) := by
  funext p; rw [lkH_rmH]
 rw [e1, e2] at h1
 exact hw code hc G _ a w hn h1
theorem callC_newS {F : FnD} {os : List DOper} {dst : Dst} {f : Nat} {ds : List DV} {te fr : Fr} {H : Hp} {K : Fr → Fr → Hp → Prop} (o : Nat) {m z n : Nat} {cs : List DV}
  (hc : MRel F.P f ds [] fun r H' => r = .osl z m 0 n ∧ H' = [(m, cs)]) (hp : F.pure = false) (hcs : ∀ d ∈ cs, d.rf = true) (hmm : tyNo m) (hto : tyNo o) (hlt : o < 1048576) (ho : lkH H o = none) (ha : ∀ d ∈ ds, d.rf = true)
  (hK : regW F os (dst.onT te (.osl z o 0 n)) (dst.onX fr (.osl z o 0 n)) (setH H o cs) K) : callC F os dst f ds te fr H K := by
 refine callC_rel hp (fwdn m o) (backn m o) (fbn m o) (fun p q h1 h2 => ?_) (fun p q h1 => (by unfold fwdn at h1; split at h1 <;> cases h1; subst p; exact hto.eq hmm)) (Hc := []) (fun q => ?_) (by rw [map_rf _ ha]; exact hc) ?_
 ·unfold fwdn at h1; split at h1
  ·omega
  ·cases h1
 ·unfold backn
  by_cases e : q = m
  ·rw [if_pos e, Option.bind_some, ho]; rfl
  ·rw [if_neg e, Option.bind_none]; rfl
 ·rintro r Hc' ⟨rfl, rfl⟩
  refine ⟨setH H o cs, fun p => ?_, ?_⟩
  ·rw [lkH_setH]
   unfold fwdn
   by_cases e : p = o
   ·subst e
    simp only [if_true, lkH_one, Option.map_some, map_rf _ hcs]
   ·rw [if_neg e]
    simp only [if_neg e]
    exact lk_id (pgn ho) p
  ·rw [mapF_id (pgn ho), mapF_id (pgn ho), rn]
   have e : backn m o m = some o := by unfold backn; rw [if_pos rfl]
   rw [e]
   exact hK
def gone1 (o p : Nat) : Option Nat := if p = o then none else some p
def fwG1 (o p : Nat) : Option Nat := if p = o then some 1000 else none
def bkG1 (o p : Nat) : Option Nat := if p = 1000 then some o else none
theorem callC_mv {F : FnD} {os : List DOper} {dst : Dst} {f : Nat} {ds : List DV} {te fr : Fr} {H : Hp} {K : Fr → Fr → Hp → Prop} (hp : F.pure = false) (o : Nat) (args : List DV) (R : DV) {c1 : List DV} (ho : o < 100000) (h1 : lkH H o = some c1)
  (hr1 : ∀ d ∈ c1, d.rf = true) (hR : R.rf = true) (ha : ds.map (rn (fwG1 o)) = args)
  (hc : MRel F.P f args [(1000, c1)] fun r H' => r = R ∧ H' = []) (H2 : Hp) (hH2 : ∀ p, lkH H2 p = if p = o then none else (lkH H p).map (List.map (rn (gone1 o))))
  (hK : regW F os (dst.onT (mapF (rn (gone1 o)) te) R) (dst.onX (mapF (rn (gone1 o)) fr) R) H2 K) : callC F os dst f ds te fr H K := by
 subst ha
 have fn : ∀ p, p ≠ o → fwG1 o p = none := fun p h1 => by simp [fwG1, h1]
 have hg : pgN H (fwG1 o) = gone1 o := funext fun p => by
  unfold pgN gone1
  by_cases e : p = o
  ·subst e; simp [fwG1, h1]
  ·rw [fn p e, if_neg e]
 refine callC_rel hp (fwG1 o) (bkG1 o) (fun p r => ?_) (fun p r h1 h2 => ?_) (fun p r h1 => ?_) (Hc := [(1000, c1)]) (fun r => ?_) hc ?_
 ·unfold fwG1 bkG1
  constructor
  ·intro h; split at h
   ·cases h; rename_i e; subst e; simp
   ·cases h
  ·intro h; split at h
   ·cases h; rename_i e; subst e; simp
   ·cases h
 ·unfold fwG1 at h1
  split at h1
  ·omega
  ·cases h1
 ·unfold fwG1 at h1
  split at h1
  ·cases h1; refine tyNo.eq ?_ ?_ <;> (unfold tyNo; omega)
  ·cases h1
 ·simp only [lkH, bkG1]
  by_cases e : r = 1000
  ·subst e
   rw [if_pos rfl, if_pos rfl, Option.bind_some, h1, Option.map_some, map_rf _ hr1]
  ·rw [if_neg (Ne.symm e), if_neg e]; rfl
 ·rintro r Hc' ⟨rfl, rfl⟩
  refine ⟨H2, fun p => ?_, ?_⟩
  ·rw [hH2]
   by_cases e : p = o
   ·subst e; rw [if_pos rfl]; simp [fwG1, lkH]
   ·rw [if_neg e, fn p e, hg]
  ·rw [hg, rn_rf _ _ hR]; exact hK
theorem Ret_new {k o z n : Nat} {fr : Fr} {H : Hp} {cs : List DV} (h : lk fr k = .osl z o 0 n) (hH : lkH H o = some cs) (hr : ∀ d ∈ cs, d.rf = true) : RetPR [.t k] [] (fun r H' => r = .osl z o 0 n ∧ H' = [(o, cs)]) .ret fr H := by
 refine ⟨.inr rfl, [lk fr k], .osl z o 0 n, [(o, cs)], ⟨rfl, rfl⟩, fun o h1 h2 => (by cases h2), rfl, ?_, fun p c h => ?_⟩
 ·show rn _ (lk fr k) = _
  rw [h, rn]
  have : nmH [(o, cs)] o = some o := by simp [nmH, lkH]
  rw [this]
 ·rw [lkH_one] at h
  split at h
  ·rename_i e; subst e; cases h
   exact ⟨cs, hH, map_rf _ hr⟩
  ·cases h
def gdd {α : Type} (c : Prop) [Decidable c] (x : Option α) : Option α := if c then x else none
theorem gd_eq {α : Type} (c : Prop) [Decidable c] (x : Option α) : gd c x = gdd c x := by
 unfold gd gdd
 by_cases h : c <;> simp [h]
def binC (op : BinOp) : DV → DV → Option DV
 | .int k a, .int j b => match op with
  | .add => gdd (k = j) (some (.int k (k.wrap (a + b))))
  | .sub => gdd (k = j) (some (.int k (k.wrap (a - b))))
  | .mul => gdd (k = j) (some (.int k (k.wrap (a * b))))
  | .quo => gdd (k = j ∧ b ≠ 0) (some (.int k (k.wrap (a.tdiv b))))
  | .rem => gdd (k = j ∧ b ≠ 0) (some (.int k (a.tmod b)))
  | .and => gdd (k = j) (some (.int k (bitE .and k a b)))
  | .or => gdd (k = j) (some (.int k (bitE .or k a b)))
  | .xor => gdd (k = j) (some (.int k (bitE .xor k a b)))
  | .andNot => gdd (k = j) (some (.int k (bitE .andNot k a b)))
  | .shl => gdd (0 ≤ b) (some (.int k (k.wrap (a * 2 ^ (min b.toNat k.bits)))))
  | .shr => gdd (0 ≤ b) (some (.int k (a.fdiv (2 ^ (min b.toNat k.bits)))))
  | .eql => gdd (k = j) (some (.bool (decide (a = b))))
  | .neq => gdd (k = j) (some (.bool (decide (¬ a = b))))
  | .lss => gdd (k = j) (some (.bool (decide (a < b))))
  | .leq => gdd (k = j) (some (.bool (decide (a ≤ b))))
  | .gtr => gdd (k = j) (some (.bool (decide (b < a))))
  | .geq => gdd (k = j) (some (.bool (decide (b ≤ a))))
 | .str a, .str b => match op with
  | .add => gdd (a.length + b.length ≤ 9223372036854775807) (some (.str (a ++ b)))
  | .eql => some (.bool (decide (a = b)))
  | .neq => some (.bool (decide (¬ a = b)))
  | _ => none
 | _, _ => none
theorem binC_eq {op : BinOp} {a b r : DV} (h : binC op a b = some r) : binE op a b = some r := by
 unfold binC at h
 unfold binE
 split at h
 ·cases op <;> simpa only [gd_eq] using h
 ·cases op <;> first | simpa only [gd_eq] using h | (cases h; done)
 ·cases h
section
variable (nb : Nat) (dst : Option Nat) (e : Opd → DV) (h : Heap)
def boundC (n : Nat) : Option Opd → Nat → Option Nat
 | none, d => some d
 | some x, _ => match e x with
  | .int _ i => gdd (0 ≤ i ∧ i ≤ n) (some i.toNat)
  | _ => none
theorem boundC_eq (n : Nat) (x : Option Opd) (d : Nat) : boundE e n x d = boundC e n x d := by
 cases x with
 | none => rfl
 | some x =>
  simp only [boundE, boundC, gd_eq]
  rfl
def newsC (sz : Nat) : DV → Option (List DV)
 | .sl s ys => gdd (s = sz) (some ys)
 | .nils => some []
 | .osl s o off len => (h o).bind fun cs => gdd (s = sz ∧ off + len * sz ≤ cs.length) (some ((cs.drop off).take (len * sz)))
 | _ => none
theorem newsC_eq (sz : Nat) (d : DV) : newsE h sz d = newsC h sz d := by
 cases d <;> simp only [newsE, newsC, gd_eq]
def opC : DOp → Option (DV × Eff)
 | .mv x => some (e x, .no)
 | .pick c a b => match e c with
  | .bool t => some (if t then e a else e b, .no)
  | _ => none
 | .alloc z => (freshE nb dst h).map fun o => (.ptr o 0, .new o z)
 | .box x => (e x).cells?.bind fun cs => (freshE nb dst h).map fun o => (.ptr o 0, .new o cs)
 | .build z ps => (laid z (ps.map fun p => (p.1, p.2.1, e p.2.2))).map fun cs => (.agg cs, .no)
 | .bsl sz z ps => (laid z (ps.map fun p => (p.1, p.2.1, e p.2.2))).bind fun cs => gdd (∀ d ∈ cs, d.rf = true) (some (.sl sz cs, .no))
 | .bsl' sz z ps => (laid z (ps.map fun p => (p.1, p.2.1, e p.2.2))).bind fun cs => (freshE nb dst h).map fun o => (.osl sz o 0 (cnt sz z), .new o cs)
 | .ld x => match e x with
  | .el xs i => gdd (i < xs.length) (some (xs.getD i .undef, .no))
  | .ptr o off => (h o).bind fun cs => gdd (off < cs.length) (some (cs.getD off .undef, .no))
  | _ => none
 | .ldn n x => match e x with
  | .el xs i => gdd (i + n ≤ xs.length) (some (.agg ((xs.drop i).take n), .no))
  | .ptr o off => (h o).bind fun cs => gdd (off + n ≤ cs.length) (some (.agg ((cs.drop off).take n), .no))
  | _ => none
 | .st x v => match e x with
  | .ptr o off => (h o).bind fun cs => gdd ((e v).one = true ∧ off < cs.length) (some (.tup [], .set o (cs.set off (e v))))
  | _ => none
 | .stn n x v => match e x with
  | .ptr o off => (h o).bind fun cs => (e v).cells?.bind fun cv => gdd (cv.length = n ∧ off + n ≤ cs.length) (some (.tup [], .set o (cs.take off ++ cv ++ cs.drop (off + n))))
  | _ => none
 | .nilc x => match e x with
  | .ptr o off => some (.ptr o off, .no)
  | .el xs i => some (.el xs i, .no)
  | _ => none
 | .bin op x y => (binC op (e x) (e y)).map fun d => (d, .no)
 | .beq neg x y => match e x, e y with
  | .bool a, .bool b => some (.bool (if neg then !(a == b) else a == b), .no)
  | _, _ => none
 | .un op x => (unE op (e x)).map fun d => (d, .no)
 | .eqs neg l x y => match e x, e y with
  | .agg cs, .agg ds => (eqsD cs ds l).map fun b => (.bool (if neg then !b else b), .no)
  | _, _ => none
 | .conv k x => match e x with
  | .int _ n => some (.int k (k.wrap n), .no)
  | _ => none
 | .s2b x => match e x with
  | .str l => some (.sl 1 (l.map byteD), .no)
  | _ => none
 | .b2s x => match e x with
  | .nils => some (.str [], .no)
  | .sl sz xs => gdd (sz = 1) ((bytesOf xs).map fun l => (.str l, .no))
  | .osl sz o off len => (h o).bind fun cs => gdd (sz = 1 ∧ off + len ≤ cs.length) ((bytesOf ((cs.drop off).take len)).map fun l => (.str l, .no))
  | _ => none
 | .mks sz bytes z l c => match e l, e c with
  | .int _ a, .int _ b => gdd (0 ≤ a ∧ a ≤ b ∧ b * bytes ≤ 281474976710656) ((freshE nb dst h).map fun o => (.osl sz o 0 a.toNat, .new o (rep a.toNat z)))
  | _, _ => none
 | .slc sz x lo hi => match e x with
  | .sl s xs => gdd (s = sz) ((boundC e (cnt sz xs) hi (cnt sz xs)).bind fun b => (boundC e b lo 0).map fun a => (.sl sz ((xs.take (b * sz)).drop (a * sz)), .no))
  | .osl s o off len => gdd (s = sz) ((boundC e len hi len).bind fun b => (boundC e b lo 0).bind fun a => gdo a b (some (.osl sz o (off + a * sz) (b - a), .no)) (some (.sl sz [], .no)))
  | .nils => (boundC e 0 hi 0).bind fun b => (boundC e b lo 0).map fun _ => (.nils, .no)
  | _ => none
 | .slcS x lo hi => match e x with
  | .str l => (boundC e l.length hi l.length).bind fun b => (boundC e b lo 0).map fun a => (.str ((l.take b).drop a), .no)
  | _ => none
 | .fad off x => match e x with
  | .ptr o k => some (.ptr o (k + off), .no)
  | .el xs i => some (.el xs (i + off), .no)
  | _ => none
 | .fld off x => match e x with
  | .agg cs => gdd (off < cs.length) (some (cs.getD off .undef, .no))
  | _ => none
 | .fldn off n x => match e x with
  | .agg cs => gdd (off + n ≤ cs.length) (some (.agg ((cs.drop off).take n), .no))
  | _ => none
 | .iad sz x i => match e x, e i with
  | .sl s xs, .int _ n => gdd (s = sz ∧ 0 ≤ n ∧ (n.toNat + 1) * sz ≤ xs.length) (some (.el xs (n.toNat * sz), .no))
  | .osl s o off len, .int _ n => gdd (s = sz ∧ 0 ≤ n ∧ n < len) (some (.ptr o (off + n.toNat * sz), .no))
  | _, _ => none
 | .idx x i => match e x, e i with
  | .str l, .int _ n => gdd (0 ≤ n ∧ n.toNat < l.length) (some (byteD (l.getD n.toNat 0), .no))
  | _, _ => none
 | .ext x i => match e x with
  | .tup ds => gdd (i < ds.length) (some (ds.getD i .undef, .no))
  | _ => none
 | .s2s x => match e x with
  | .str l => some (.str l, .no)
  | .int _ n => gdd (0 ≤ n ∧ n < 128) (some (.str [UInt8.ofNat n.toNat], .no))
  | _ => none
 | .clr sz z x => match e x with
  | .osl s o off len => (h o).bind fun cs => gdd (s = sz ∧ off + len * sz ≤ cs.length) (some (.tup [], .set o (cs.take off ++ rep len z ++ cs.drop (off + len * sz))))
  | _ => none
 | .lenS x => match e x with
  | .str l => some (.int .i64 l.length, .no)
  | _ => none
 | .len sz x => match e x with
  | .sl s xs => gdd (s = sz) (some (.int .i64 (cnt sz xs), .no))
  | .osl _ _ _ n => some (.int .i64 n, .no)
  | .nils => some (.int .i64 0, .no)
  | _ => none
 | .app te sz bytes s x => match e s with
  | .nils => (newsC h sz (e x)).bind fun ys => gdd (ys.length * bytes ≤ 140737488355328 ∧ ys.length ≤ 9223372036854775807 ∧ ∀ d ∈ ys, d.one = true)
    ((freshE nb dst h).map fun o => (.osl sz o 0 (cnt sz ys), .app o (ys.map (purge o))))
  | .osl s' o off len => (h o).bind fun cs => (newsC h sz (e x)).bind fun ys =>
    gdd (s' = sz ∧ off = 0 ∧ cs.length = len * sz ∧ (cs.length + ys.length) * bytes ≤ 140737488355328 ∧ cs.length + ys.length ≤ 9223372036854775807 ∧ o < 1048576 ∧ (786432 ≤ o ∧ o < 851968 → te = (o - 786432) / 16) ∧ ∀ d ∈ ys, d.one = true)
     (some (.osl sz o 0 (len + cnt sz ys), .app o ((cs ++ ys).map (purge o))))
  | _ => none
 | .min2 x y => match e x, e y with
  | .int k a, .int _ b => some (.int k (if b < a then b else a), .no)
  | _, _ => none
 | .max2 x y => match e x, e y with
  | .int k a, .int _ b => some (.int k (if b > a then b else a), .no)
  | _, _ => none
 | .isnil neg x => match e x with
  | .nils => some (.bool (!neg), .no)
  | .sl _ xs => gdd (xs ≠ []) (some (.bool neg, .no))
  | .osl _ _ _ n => gdd (n ≠ 0) (some (.bool neg, .no))
  | _ => none
 | .boxi x => (e x).cells?.bind fun cs => if !cs.isEmpty && cs.all DV.rf then some (.el cs 0, .no) else none
 | .mkf f ps => gdd (∀ d ∈ ps.map e, d.rf = true) (some (.clo f (ps.map e), .no))
 | _ => none
theorem opC_eq {p : DOp} {r : DV × Eff} (hr : opC nb dst e h p = some r) : opE nb dst e h p = some r := by
 cases p with
 | bin op x y =>
  simp only [opC, Option.map_eq_some_iff] at hr
  obtain ⟨d, hd, rfl⟩ := hr
  simp only [opE, binC_eq hd, Option.map_some]
 | boxi x =>
  simp only [opC, Option.bind_eq_some_iff] at hr
  obtain ⟨cs, h1, h2⟩ := hr
  split at h2
  ·rename_i hc
   cases h2
   simp only [Bool.and_eq_true, Bool.not_eq_true', List.all_eq_true] at hc
   have hne : cs ≠ [] := fun e => by rw [e] at hc; cases hc.1
   simp only [opE, h1, Option.bind_some, gd_eq, gdd]
   rw [if_pos ⟨hne, hc.2⟩]
  ·cases h2
 | isnil neg x =>
  revert hr
  simp only [opC, opE]
  cases e x <;> simp only [gd, gdd] <;> intro h <;> first | exact h | (split at h <;> first | (cases h; done) | (rename_i hc; rw [if_pos hc]; exact h))
 | _ => first | (cases hr; done) | (simp only [opC] at hr; simp only [opE, gd_eq, boundC_eq, newsC_eq]; exact hr)
end
end Go.Dat
namespace Go.Dat
open Go
def look (ps : List (Nat × Nat)) (p : Nat) : Option Nat := match ps with
 | [] => none
 | (a, b) :: r => if a = p then some b else look r p
def unlook (ps : List (Nat × Nat)) (q : Nat) : Option Nat := match ps with
 | [] => none
 | (a, b) :: r => if b = q then some a else unlook r q
def pairsOK : List (Nat × Nat) → Bool
 | [] => true
 | (a, b) :: r => (look r a).isNone && (unlook r b).isNone && pairsOK r
theorem unlook_none {q : Nat} : ∀ {ps : List (Nat × Nat)}, unlook ps q = none → ∀ p, look ps p ≠ some q
 | [], _, p, h => by cases h
 | (a, b) :: r, h, p, h2 => by
  simp only [unlook] at h
  split at h
  ·cases h
  ·simp only [look] at h2
   split at h2
   ·cases h2; contradiction
   ·exact unlook_none h p h2
theorem look_none {p : Nat} : ∀ {ps : List (Nat × Nat)}, look ps p = none → ∀ q, unlook ps q ≠ some p
 | [], _, q, h => by cases h
 | (a, b) :: r, h, q, h2 => by
  simp only [look] at h
  split at h
  ·cases h
  ·simp only [unlook] at h2
   split at h2
   ·cases h2; contradiction
   ·exact look_none h q h2
theorem look_iff {ps : List (Nat × Nat)} (h : pairsOK ps = true) (p q : Nat) : look ps p = some q ↔ unlook ps q = some p := by
 induction ps with
 | nil => simp [look, unlook]
 | cons x r ih =>
  obtain ⟨a, b⟩ := x
  simp only [pairsOK, Bool.and_eq_true, Option.isNone_iff_eq_none] at h
  obtain ⟨⟨h1, h2⟩, h3⟩ := h
  simp only [look, unlook]
  by_cases e1 : a = p <;> by_cases e2 : b = q
  ·rw [if_pos e1, if_pos e2, e1, e2]; simp
  ·rw [if_pos e1, if_neg e2]
   subst e1
   constructor
   ·intro h; cases h; contradiction
   ·intro h; exact absurd h (look_none h1 q)
  ·rw [if_neg e1, if_pos e2]
   subst e2
   constructor
   ·intro h; exact absurd h (unlook_none h2 p)
   ·intro h; cases h; contradiction
  ·rw [if_neg e1, if_neg e2]; exact ih h3
def rnM (f : Nat → Option Nat) (cs : List DV) : List DV := cs.map (rn f)
def renH (f : Nat → Option Nat) : List (Nat × Nat) → Hp → Hp
 | [], _ => []
 | (a, b) :: r, H => setH (renH f r H) b (rnM f ((lkH H a).getD []))
theorem lkH_renH (f : Nat → Option Nat) (H : Hp) : ∀ (ps : List (Nat × Nat)) (q : Nat), lkH (renH f ps H) q = (unlook ps q).map fun p => rnM f ((lkH H p).getD [])
 | [], q => rfl
 | (a, b) :: r, q => by
  simp only [renH, lkH_setH, unlook, eq_comm (a := q)]
  split
  ·rfl
  ·exact lkH_renH f H r q
def domH : Hp → List Nat
 | [] => []
 | (o, _) :: r => o :: domH r
theorem domH_mem {H : Hp} {o : Nat} : (lkH H o).isSome = true ↔ o ∈ domH H := by
 induction H with
 | nil => simp [lkH, domH]
 | cons x r ih =>
  obtain ⟨k, c⟩ := x
  simp only [lkH, domH, List.mem_cons]
  by_cases e : k = o
  ·subst e; simp
  ·rw [if_neg e, ih]
   constructor
   ·exact .inr
   ·rintro (h | h)
    ·exact absurd h.symm e
    ·exact h
theorem look_map {g : Nat → Nat} {o : Nat} : ∀ {l : List Nat}, o ∈ l → ∃ q, look (l.map fun o => (o, g o)) o = some q ∧ q = g o
 | a :: l, h => by
  simp only [List.map_cons, look]
  by_cases e : a = o
  ·rw [if_pos e]; exact ⟨_, rfl, by rw [e]⟩
  ·rw [if_neg e]
   refine look_map ?_
   rcases List.mem_cons.1 h with h | h
   ·exact absurd h.symm e
   ·exact h
theorem look_map_none {g : Nat → Nat} {o : Nat} : ∀ {l : List Nat}, o ∉ l → look (l.map fun o => (o, g o)) o = none
 | [], _ => rfl
 | a :: l, h => by
  simp only [List.map_cons, look]
  rw [if_neg (fun e => h (by rw [e]; exact List.mem_cons_self))]
  exact look_map_none fun h2 => h (List.mem_cons_of_mem _ h2)
def freshN (k : Nat) : List Nat → List (Nat × Nat)
 | [] => []
 | o :: r => if o < 1000 then (o, k) :: freshN (k + 1) r else (o, o) :: freshN k r
def pairB (ps : List (Nat × Nat)) : Bool := ps.all fun p => decide (p.1 = p.2) || (decide (p.1 < 786432) && decide (p.2 < 786432))
theorem look_mem {p q : Nat} : ∀ {ps : List (Nat × Nat)}, look ps p = some q → (p, q) ∈ ps
 | (a, b) :: r, h => by
  simp only [look] at h
  split at h
  ·rename_i e; subst e; cases h; exact List.mem_cons_self
  ·exact List.mem_cons_of_mem _ (look_mem h)
theorem W_ren {F : FnD} {c : DC} {Q : Ex → Fr → Hp → Prop} {fr : Fr} {H : Hp} (ps : List (Nat × Nat)) (hp : pairsOK ps = true) (hb : pairB ps = true) (hd : ∀ o, (lkH H o).isSome = true → (look ps o).isSome = true) (hd2 : ∀ o, (look ps o).isSome = true → (lkH H o).isSome = true)
  (h : W F c Q (mapF (rn (look ps)) fr) (renH (look ps) ps H)) : W F c Q fr H := by
 intro code hc G L a w hn hR
 obtain ⟨L', hL'⟩ : ∃ L' : Nat → Option Nat, L' = fun q => (unlook ps q).bind L := ⟨_, rfl⟩
 have e1 : ∀ q b, L' q = some b → ∃ p, look ps p = some q ∧ L p = some b := fun q b hq => by
  rw [hL'] at hq
  simp only [Option.bind_eq_some_iff] at hq
  obtain ⟨p, hp1, hp2⟩ := hq
  exact ⟨p, (look_iff hp p q).2 hp1, hp2⟩
 have e2 : ∀ p q b, look ps p = some q → L p = some b → L' q = some b := fun p q b h1 h2 => by
  rw [hL']
  simp only [(look_iff hp p q).1 h1, Option.bind_some, h2]
 have hAv : ∀ b, Av G.S L' b → Av G.S L b := by
  rintro b (hS | ⟨q, hq⟩)
  ·exact .inl hS
  ·obtain ⟨p, _, h2⟩ := e1 q b hq
   exact .inr ⟨p, h2⟩
 have hV : ∀ d v, V w L (Av G.S L) d v → V w L' (Av G.S L') (rn (look ps) d) v := fun d v hv => hv.rn (look ps) hAv e2
 have hpq : ∀ p q, look ps p = some q → p = q ∨ (p < 786432 ∧ q < 786432) := fun p q h => by
  have := List.all_eq_true.1 hb _ (look_mem h)
  simpa using this
 refine h code hc G L' a w hn ⟨hR.size, hR.defers, fun s => ?_, ⟨?_, ?_, ?_, ?_, ?_⟩, hR.ext, hR.sLt, ?_, ?_, hR.shp⟩
 ·have h1 := hV _ _ (hR.slots s)
  have e : den F.vs [] (mapF (rn (look ps)) fr) s = rn (look ps) (den F.vs [] fr s) := by
   simp only [den, lk_mapF _ (rn_undef _)]
   split
   ·rfl
   ·simp only [lk, rn_undef]
  rw [e]; exact h1
 ·intro q b hq
  obtain ⟨p, h1, h2⟩ := e1 q b hq
  exact ⟨_, by rw [lkH_renH, (look_iff hp p q).1 h1]; rfl⟩
 ·intro q cells hq
  rw [lkH_renH, Option.map_eq_some_iff] at hq
  obtain ⟨p, hp1, rfl⟩ := hq
  have hlp := (look_iff hp p q).2 hp1
  obtain ⟨cs, hcs⟩ := Option.isSome_iff_exists.1 (hd2 p (by rw [hlp]; rfl))
  rw [hcs, Option.getD_some]
  rcases hR.heap.obj p cs hcs with ⟨h1, h2⟩ | ⟨b, us, T, h1, h2, h3, h4⟩
  ·refine .inl ⟨?_, by rw [h2]; rfl⟩
   rw [hL']
   simp only [hp1, Option.bind_some, h1]
  ·refine .inr ⟨b, us, T, e2 p q b hlp h1, h2, by unfold rnM; simpa using h3, fun k d v g1 g2 => ?_⟩
   unfold rnM at g1
   rw [List.getElem?_map, Option.map_eq_some_iff] at g1
   obtain ⟨d0, hd0, rfl⟩ := g1
   exact hV _ _ (h4 k d0 v hd0 g2)
 ·intro q q' b hq hq'
  obtain ⟨p, h1, h2⟩ := e1 q b hq
  obtain ⟨p', h3, h4⟩ := e1 q' b hq'
  have := hR.heap.inj p p' b h2 h4
  subst this
  rw [h1] at h3; exact Option.some.inj h3
 ·intro q b hq
  obtain ⟨p, _, h2⟩ := e1 q b hq
  exact hR.heap.notS p b h2
 ·intro q b hq
  obtain ⟨p, h1, h2⟩ := e1 q b hq
  have h3 := hR.heap.ty p b h2
  rcases hpq p q h1 with e | ⟨g1, g2⟩
  ·rw [← e]; exact h3
  ·exact (show tyNo q from .inl g2).ok w b
 ·intro q b hq
  obtain ⟨p, _, h2⟩ := e1 q b hq
  exact hR.own p b h2
 ·intro o b ho
  obtain ⟨h1, h2⟩ := hR.keep o b ho
  obtain ⟨cells, hc1⟩ := hR.heap.dom o b h1
  obtain ⟨q, hq⟩ := Option.isSome_iff_exists.1 (hd o (by rw [hc1]; rfl))
  rcases hpq o q hq with e | ⟨g1, _⟩
  ·exact ⟨e2 o o b (by rw [hq, e]) h1, h2⟩
  ·omega
def DV.flat1 : DV → Bool
 | .undef | .int .. | .bool _ | .str _ | .nilp | .nils | .nili | .fn _ => true
 | _ => false
theorem VI.flat1 {w w' : World} {A A' : Nat → Prop} {d : DV} {v : Value} (h : VI w A d v) (hf : d.flat1 = true) : VI w' A' d v := by
 cases h <;> first | (simp [DV.flat1] at hf; done) | constructor
def fw2 (o o2 q q2 p : Nat) : Option Nat := if p = o then some o2 else if p = q then some q2 else none
def slo (o : Nat) (xs : List DV) : DV → DV
 | .osl sz p off n => if p = o ∧ sz ≠ 0 ∧ off + n * sz ≤ xs.length then .sl sz ((xs.drop off).take (n * sz)) else .undef
 | d => if d.rf then d else .undef
theorem callC_readS {F : FnD} {os : List DOper} {dst : Dst} {f : Nat} {ds : List DV} {te fr : Fr} {H : Hp} {K : Fr → Fr → Hp → Prop} (hp : F.pure = false) (o : Nat) {cells args : List DV} {r : DV} (hc : PCalls F.P f args r)
  (ho : lkH H o = some cells) (hcr : ∀ d ∈ cells, d.rf = true) (ha : ds.map (slo o cells) = args) (hr : r.flat1 = true) (hK : regW F os (dst.onT te r) (dst.onX fr r) H K) : callC F os dst f ds te fr H K := by
 subst ha
 refine callC_W hp ?_
 intro G L a w us hG hR hs hv
 have hlt : ∀ x, Av G.S L x → x < w.heap.size := by
  rintro x (h | ⟨p, h⟩)
  ·exact hR.sLt x h
  ·exact hR.heap.lt h
 obtain ⟨A', hA', hA2, hV⟩ : ∃ A' : Nat → Prop, (∀ x, A' x → x < w.heap.size) ∧ (∀ x, A' x → Av G.S L x) ∧ ∀ d v, V w L (Av G.S L) d v → VI w A' (slo o cells d) v := by
  rcases hR.heap.obj o cells ho with ⟨h1, h2⟩ | ⟨b, cs, T, hL, hb, hl, hcv⟩
  ·refine ⟨Av G.S L, hlt, fun _ h => h, fun d v h => ?_⟩
   have hrf : VI w (Av G.S L) (if d.rf = true then d else .undef) v := by
    split
    ·rename_i h3; exact h.rf_imm h3
    ·exact .undef _
   cases d with
   | osl sz p off n =>
    simp only [slo]
    split
    ·rename_i h3
     obtain ⟨rfl, h4, h5⟩ := h3
     cases h with
     | osl hL _ _ _ => rw [h1] at hL; cases hL
     | osl0 => rw [Nat.zero_mul, List.take_zero]; exact .sl0 _ _ _
     | imm h => cases h
    ·exact .undef _
   | _ => exact hrf
  ·refine ⟨fun x => Av G.S L x ∧ x ≠ b, fun x h => hlt x h.1, fun _ h => h.1, fun d v h => ?_⟩
   have hmono : ∀ {d : DV} {v : Value}, VI w (Av G.S L) d v → VI w (fun x => Av G.S L x ∧ x ≠ b) d v := fun h => h.mono fun x _ hx => ⟨rfl, fun h2 => hx h2.1⟩
   have hrf : VI w (fun x => Av G.S L x ∧ x ≠ b) (if d.rf = true then d else .undef) v := by
    split
    ·rename_i h3; exact hmono (h.rf_imm h3)
    ·exact .undef _
   cases d with
   | osl sz p off n =>
    simp only [slo]
    split
    ·rename_i h3
     obtain ⟨rfl, h4, h5⟩ := h3
     cases h with
     | osl0 => rw [Nat.zero_mul, List.take_zero]; exact .sl0 _ _ _
     | imm h => cases h
     | osl hL2 hcc hsh hm =>
      rw [hL] at hL2; cases hL2
      have hlen : ((cells.drop off).take (n * sz)).length = n * sz := by rw [List.length_take, List.length_drop]; omega
      by_cases hn : n = 0
      ·subst hn; rw [Nat.zero_mul, List.take_zero]; exact .sl0 _ _ _
      ·refine .sl (fun k => (cs[off + k]?).getD Go.undef) (fun e => ?_) hlen hcc (fun h => h.2 rfl) (fun k d hk => ?_) (fun k d hk => ?_)
       ·rw [e] at hlen
        have := Nat.mul_pos (Nat.pos_of_ne_zero hn) (Nat.pos_of_ne_zero h4)
        simp at hlen; omega
       ·have h6 := (List.getElem?_eq_some_iff.1 hk).1
        rw [hlen] at h6
        obtain ⟨u, hu⟩ := exists_aget (l := cs) (k := off + k) (by omega)
        rw [add_lit, cell_of_row w b (off + k) cs T (0, 0) hb, hu]; rfl
       ·rw [List.getElem?_take] at hk
        split at hk
        ·rw [List.getElem?_drop] at hk
         obtain ⟨u, hu⟩ := exists_aget (l := cs) (k := off + k) (by have := (List.getElem?_eq_some_iff.1 hk).1; omega)
         rw [hu]
         exact hmono ((hcv _ d u hk hu).rf_imm (hcr d (List.mem_of_getElem? hk)))
        ·cases hk
    ·exact .undef _
   | _ => exact hrf
 refine (hc A' w us (hG.tab hR) hA' (by simpa using hs) fun k d v h1 h2 => ?_).mono ?_
 ·rw [List.getElem?_map, Option.map_eq_some_iff] at h1
  obtain ⟨d0, hd0, rfl⟩ := h1
  exact hV d0 v (hv k d0 v hd0 h2)
 ·rintro e w' ⟨v, rfl, hvi, hx⟩
  exact ⟨v, L, r, te, fr, H, rfl, hR.still hx, .imm (hvi.flat1 hr), SimK.refl _, hK⟩
def rdo (H : Hp) : Nat → DV → DV
 | n + 1, .osl sz p off m => match lkH H p with
  | some cells => if sz ≠ 0 ∧ off + m * sz ≤ cells.length then .sl sz (((cells.drop off).take (m * sz)).map (rdo H n)) else .undef
  | none => .undef
 | _, d => if d.rf then d else .undef
theorem rdo_rf (H : Hp) (n : Nat) {d : DV} (h : d.rf = true) : rdo H n d = d := by
 cases n with
 | zero => cases d <;> first | (cases h; done) | (simp only [rdo]; rw [if_pos h])
 | succ n => cases d <;> first | (cases h; done) | (simp only [rdo]; rw [if_pos h])
theorem rdo_V {H : Hp} {w : World} {S : Nat → Prop} {L : Nat → Option Nat} (hH : HOK w S L (lkH H)) : ∀ (n : Nat) (d : DV) (v : Value), V w L (Av S L) d v → VI w S (rdo H n d) v := by
 have hmono : ∀ {d : DV} {v : Value}, VI w (Av S L) d v → VI w S d v := fun h => h.mono fun x _ hx => ⟨rfl, fun h2 => hx (.inl h2)⟩
 have base : ∀ (d : DV) (v : Value), V w L (Av S L) d v → VI w S (if d.rf = true then d else .undef) v := fun d v h => by
  split
  ·rename_i h3; exact hmono (h.rf_imm h3)
  ·exact .undef _
 intro n
 induction n with
 | zero =>
  intro d v h
  have e : rdo H 0 d = if d.rf = true then d else .undef := by cases d <;> rfl
  rw [e]; exact base d v h
 | succ n ih =>
  intro d v h
  cases d with
  | osl sz p off m =>
   simp only [rdo]
   cases hp : lkH H p with
   | none => exact .undef _
   | some cells =>
    simp only
    split
    ·rename_i h3
     obtain ⟨h4, h5⟩ := h3
     have hlen : (((cells.drop off).take (m * sz)).map (rdo H n)).length = m * sz := by rw [List.length_map, List.length_take, List.length_drop]; omega
     rcases hH.obj p cells hp with ⟨h1, h2⟩ | ⟨b, cs, T, hL, hb, hl, hcv⟩
     ·cases h with
      | osl hL _ _ _ => rw [h1] at hL; cases hL
      | osl0 => rw [Nat.zero_mul, List.take_zero]; exact .sl0 _ _ _
      | imm h => cases h
     ·cases h with
      | osl0 => rw [Nat.zero_mul, List.take_zero]; exact .sl0 _ _ _
      | imm h => cases h
      | osl hL2 hcc hsh hm =>
       rw [hL] at hL2; cases hL2
       by_cases hn : m = 0
       ·subst hn; rw [Nat.zero_mul, List.take_zero]; exact .sl0 _ _ _
       ·refine .sl (fun k => (cs[off + k]?).getD Go.undef) (fun e => ?_) hlen hcc (fun h => hH.notS p b hL h) (fun k d hk => ?_) (fun k d hk => ?_)
        ·rw [e] at hlen
         have := Nat.mul_pos (Nat.pos_of_ne_zero hn) (Nat.pos_of_ne_zero h4)
         simp at hlen; omega
        ·have h6 := (List.getElem?_eq_some_iff.1 hk).1
         rw [hlen] at h6
         obtain ⟨u, hu⟩ := exists_aget (l := cs) (k := off + k) (by omega)
         rw [add_lit, cell_of_row w b (off + k) cs T (0, 0) hb, hu]; rfl
        ·rw [List.getElem?_map, Option.map_eq_some_iff] at hk
         obtain ⟨d0, hk, rfl⟩ := hk
         rw [List.getElem?_take] at hk
         split at hk
         ·rw [List.getElem?_drop] at hk
          obtain ⟨u, hu⟩ := exists_aget (l := cs) (k := off + k) (by have := (List.getElem?_eq_some_iff.1 hk).1; omega)
          rw [hu]
          exact ih _ _ (hcv _ d0 u hk hu)
         ·cases hk
    ·exact .undef _
  | _ => exact base _ v h
theorem callC_readN {F : FnD} {os : List DOper} {dst : Dst} {f : Nat} {ds : List DV} {te fr : Fr} {H : Hp} {K : Fr → Fr → Hp → Prop} (hp : F.pure = false) (n : Nat) {args : List DV} {r : DV} (hc : PCalls F.P f args r)
  (ha : ds.map (rdo H n) = args) (hr : r.flat1 = true) (hK : regW F os (dst.onT te r) (dst.onX fr r) H K) : callC F os dst f ds te fr H K := by
 subst ha
 refine callC_W hp ?_
 intro G L a w us hG hR hs hv
 refine (hc G.S w us (hG.tab hR) hR.sLt (by simpa using hs) fun k d v h1 h2 => ?_).mono ?_
 ·rw [List.getElem?_map, Option.map_eq_some_iff] at h1
  obtain ⟨d0, hd0, rfl⟩ := h1
  exact rdo_V hR.heap n d0 v (hv k d0 v hd0 h2)
 ·rintro e w' ⟨v, rfl, hvi, hx⟩
  exact ⟨v, L, r, te, fr, H, rfl, hR.still hx, .imm (hvi.flat1 hr), SimK.refl _, hK⟩
abbrev CE := Nat → List DV → Hp → Option (DV × Hp)
def kn (o : Nat) : Nat := if o < 1048576 then o + 1048576 else o
def lendP (H : Hp) : List (Nat × Nat) := (domH H).map fun o => (o, kn o)
def lendB (ps : List (Nat × Nat)) : Bool := ps.all fun p => (decide (p.1 < 786432) || decide (1048576 ≤ p.1)) && decide (p.2 < 2097152)
def backH (ps : List (Nat × Nat)) : List (Nat × Nat) → Hp → Hp
 | [], _ => []
 | (a, b) :: r, H => setH (backH ps r H) a (rnM (unlook ps) ((lkH H b).getD []))
theorem lkH_backH (ps : List (Nat × Nat)) (H : Hp) : ∀ (l : List (Nat × Nat)) (p : Nat), lkH (backH ps l H) p = (look l p).map fun q => rnM (unlook ps) ((lkH H q).getD [])
 | [], p => rfl
 | (a, b) :: r, p => by
  simp only [backH, lkH_setH, look, eq_comm (a := p)]
  split
  ·rfl
  ·exact lkH_backH ps H r p
def callE (ce : CE) (pu : Bool) (f : Nat) (ds : List DV) (H : Hp) : Option (DV × Hp) :=
 if ds.all DV.rf then (ce f ds []).bind fun r => if r.2.isEmpty && r.1.rf then some (r.1, H) else none
 else if pu then none
 else if pairsOK (lendP H) && lendB (lendP H) then
  (ce f (ds.map (rn (look (lendP H)))) (renH (look (lendP H)) (lendP H) H)).bind fun r =>
   if (domH H).all (fun o => (lkH r.2 (kn o)).isSome) then some (rn (unlook (lendP H)) r.1, backH (lendP H) (lendP H) r.2) else none
 else none
theorem PCalls_rel {P : Program} {f : Nat} {ds : List DV} {r : DV} (h : MRel P f ds [] fun a b => a = r ∧ b = []) (hr : r.rf = true) : PCalls P f ds r := by
 intro A w us hT hA hs hv
 have hAv : ∀ b, Av A (fun _ => none) b ↔ A b := fun b => ⟨fun h => h.elim id (fun ⟨o, h⟩ => by cases h), .inl⟩
 refine (h A (fun _ => none) w us hT (by intro o b h; cases h) ⟨(by intro o b h; cases h), (by intro o c h; cases h), (by intro o p b h; cases h), (by intro o b h; cases h), (by intro o b h; cases h)⟩ hA hs fun k d v h1 h2 => .imm ((hv k d v h1 h2).mono fun b _ hb => ⟨rfl, fun h' => hb ((hAv b).1 h')⟩)).mono ?_
 rintro e w' ⟨v, L', r', H', ⟨rfl, rfl⟩, rfl, hH, hV, hx, _⟩
 refine ⟨v, rfl, (hV.rf_imm hr).mono fun b _ hb => ⟨rfl, fun h' => hb (.inl h')⟩, hx.mono fun k _ ⟨o, h⟩ => by cases h⟩
def GoodCE (P : Program) (ce : CE) : Prop := ∀ f ds H r H', ce f ds H = some (r, H') → MRel P f ds H fun a b => a = r ∧ b = H'
theorem lend_mem {H : Hp} {p q : Nat} (h : look (lendP H) p = some q) : p ∈ domH H ∧ q = kn p := by
 by_cases hm : p ∈ domH H
 ·obtain ⟨q', h1, h2⟩ := look_map (g := kn) hm
  unfold lendP at h
  rw [h1] at h
  cases h
  exact ⟨hm, h2⟩
 ·unfold lendP at h
  rw [look_map_none hm] at h; cases h
theorem callE_sound {F : FnD} {ce : CE} {pu : Bool} (hF : F.pure = pu) (hce : GoodCE F.P ce) {f : Nat} {ds : List DV} {H : Hp} {r : DV} {H' : Hp} (h : callE ce pu f ds H = some (r, H')) {os : List DOper} {dst : Dst} {te fr : Fr} {K : Fr → Fr → Hp → Prop}
  (hK : regW F os (dst.onT te r) (dst.onX fr r) H' K) : callC F os dst f ds te fr H K := by
 unfold callE at h
 split at h
 ·rename_i hrf
  rw [Option.bind_eq_some_iff] at h
  obtain ⟨⟨r1, H1⟩, h1, h2⟩ := h
  simp only [Bool.and_eq_true, List.isEmpty_iff] at h2
  split at h2
  ·rename_i hc
   cases h2
   obtain ⟨e1, e2⟩ := hc
   subst e1
   exact callC_pure (PCalls_rel (hce f ds [] r [] h1) e2) hrf hK
  ·cases h2
 ·split at h
  ·cases h
  ·rename_i hp
   split at h
   ·rename_i hc
    rw [Bool.and_eq_true] at hc
    obtain ⟨hc1, hc2⟩ := hc
    rw [Option.bind_eq_some_iff] at h
    obtain ⟨⟨r1, H1⟩, h1, h2⟩ := h
    simp only [List.all_eq_true] at h2
    split at h2
    ·rename_i d2
     cases h2
     have hl := look_iff hc1
     have bd : ∀ p q, look (lendP H) p = some q → (p < 786432 ∨ 1048576 ≤ p) ∧ q < 2097152 ∧ 1048576 ≤ q ∧ p < 2097152 := fun p q h => by
      have h3 := List.all_eq_true.1 hc2 _ (look_mem h)
      simp only [Bool.and_eq_true, Bool.or_eq_true, decide_eq_true_eq] at h3
      have h4 := (lend_mem h).2
      unfold kn at h4
      split at h4 <;> exact ⟨h3.1, h3.2, by omega, by omega⟩
     have hpg : pgN H (look (lendP H)) = some := funext fun o => by
      unfold pgN
      cases hq : look (lendP H) o with
      | none => rfl
      | some q =>
       have := (bd o q hq).2.2.1
       simp only
       rw [if_neg (by omega)]
     have hid := fun te => mapF_id (f := fun o => some o) (fun o => rfl) te
     refine callC_rel (by rw [hF]; simpa using hp) (look (lendP H)) (unlook (lendP H)) hl (fun p q h _ => (bd p q h).2.2.1) (fun p q h => ?_) (Hc := renH (look (lendP H)) (lendP H) H) (fun q => ?_) (hce _ _ _ _ _ h1) ?_
     ·obtain ⟨g1, g2, g3, g4⟩ := bd p q h
      exact tyNo.eq (by unfold tyNo; omega) (by unfold tyNo; omega)
     ·rw [lkH_renH]
      cases hu : unlook (lendP H) q with
      | none => rfl
      | some p =>
       have hm := (lend_mem ((hl p q).2 hu)).1
       obtain ⟨cs, hcs⟩ := Option.isSome_iff_exists.1 (domH_mem.2 hm)
       simp only [Option.map_some, Option.bind_some, hcs, Option.getD_some, rnM]
     ·rintro r2 H2 ⟨rfl, rfl⟩
      refine ⟨backH (lendP H) (lendP H) H2, fun p => ?_, ?_⟩
      ·rw [lkH_backH]
       cases hq : look (lendP H) p with
       | none =>
        have hn : lkH H p = none := by
         cases hn : lkH H p with
         | none => rfl
         | some cs =>
          have hm : p ∈ domH H := domH_mem.1 (by rw [hn]; rfl)
          obtain ⟨q, g1, _⟩ := look_map (g := kn) hm
          unfold lendP at hq
          rw [g1] at hq; cases hq
        simp only [hn, Option.map_none]
       | some q =>
        obtain ⟨hm, e⟩ := lend_mem hq
        obtain ⟨cs, hcs⟩ := Option.isSome_iff_exists.1 (d2 p hm)
        subst e
        simp only [Option.map_some, hcs, Option.getD_some, rnM]
      ·rw [hpg]
       have e : mapF (rn some) te = te := hid te
       have e2 : mapF (rn some) fr = fr := hid fr
       rw [e, e2]; exact hK
    ·cases h2
   ·cases h
def evGo (ce : CE) (pu : Bool) (rest : Fr → Fr → Hp → Option (Fr × Fr × Hp)) (dst : Dst) (te fr : Fr) (H : Hp) : DOp → Option (Fr × Fr × Hp)
 | .call f args => (callE ce pu f (args.map (ev te fr)) H).bind fun r => rest (dst.onT te r.1) (dst.onX fr r.1) r.2
 | p => (opC 0 dst.slot (ev te fr) (lkH H) p).bind fun r => rest (dst.onT (r.2.onF te) r.1) (dst.onX (r.2.onF fr) r.1) (r.2.onL H)
def evG (te fr : Fr) : Option (Opd × Bool) → Option Bool
 | none => some true
 | some (g, want) => match ev te fr g with
  | .bool b => some (b == want)
  | .tup [] => some false
  | _ => none
def evR (ce : CE) (pu : Bool) : List DOper → Fr → Fr → Hp → Option (Fr × Fr × Hp)
 | [], te, fr, H => some (te, fr, H)
 | o :: os, te, fr, H => match evG te fr o.guard with
  | none => none
  | some false => evR ce pu os (o.dst.onT te (.tup [])) (o.dst.onX fr (.tup [])) H
  | some true => evGo ce pu (evR ce pu os) o.dst te fr H o.op
theorem evGo_sound {F : FnD} {ce : CE} {pu : Bool} (hF : F.pure = pu) (hce : GoodCE F.P ce) {os : List DOper} {dst : Dst} {te fr : Fr} {H : Hp} {K : Fr → Fr → Hp → Prop} {rest : Fr → Fr → Hp → Option (Fr × Fr × Hp)} {z : Fr × Fr × Hp}
  (hr : ∀ te fr H, rest te fr H = some z → regW F os te fr H K) {op : DOp} (h : evGo ce pu rest dst te fr H op = some z) : regW F (⟨dst, op, none⟩ :: os) te fr H K := by
 cases op with
 | call f args =>
  simp only [evGo] at h
  rw [Option.bind_eq_some_iff] at h
  obtain ⟨⟨r, H1⟩, h1, h2⟩ := h
  exact callE_sound hF hce h1 (hr _ _ _ h2)
 | _ =>
  simp only [evGo] at h
  rw [Option.bind_eq_some_iff] at h
  obtain ⟨r, h1, h2⟩ := h
  exact ⟨r, opC_eq _ _ _ _ h1, hr _ _ _ h2⟩
theorem evR_sound {F : FnD} {ce : CE} {pu : Bool} (hF : F.pure = pu) (hce : GoodCE F.P ce) : ∀ (ops : List DOper) (te fr : Fr) (H : Hp) (te' fr' : Fr) (H' : Hp), evR ce pu ops te fr H = some (te', fr', H') → ∀ K : Fr → Fr → Hp → Prop, K te' fr' H' → regW F ops te fr H K
 | [], te, fr, H, te', fr', H', h, K, hK => by
  simp only [evR, Option.some.injEq, Prod.mk.injEq] at h
  obtain ⟨rfl, rfl, rfl⟩ := h
  exact hK
 | ⟨dst, op, guard⟩ :: os, te, fr, H, te', fr', H', h, K, hK => by
  have ih := fun te fr H h => evR_sound hF hce os te fr H te' fr' H' h K hK
  simp only [evR] at h
  cases guard with
  | none => exact evGo_sound hF hce ih h
  | some gw =>
   obtain ⟨g, want⟩ := gw
   simp only [evG] at h
   have key : ∀ {b : Bool}, ev te fr g = .bool b → (match some (b == want) with
    | none => none
    | some false => evR ce pu os (dst.onT te (.tup [])) (dst.onX fr (.tup [])) H
    | some true => evGo ce pu (evR ce pu os) dst te fr H op) = some (te', fr', H') → (b = want → regW F (⟨dst, op, none⟩ :: os) te fr H K) ∧ (b = !want → regW F os (dst.onT te (.tup [])) (dst.onX fr (.tup [])) H K) := by
    intro b _ hm
    refine ⟨fun e => ?_, fun e => ?_⟩
    ·subst e
     rw [beq_self_eq_true] at hm
     exact evGo_sound hF hce ih hm
    ·subst e
     have : ((!want) == want) = false := by cases want <;> rfl
     rw [this] at hm
     exact ih _ _ _ hm
   show match ev te fr g with
    | .bool b => (b = want → regW F (⟨dst, op, none⟩ :: os) te fr H K) ∧ (b = !want → regW F os (dst.onT te (.tup [])) (dst.onX fr (.tup [])) H K)
    | .tup [] => regW F os (dst.onT te (.tup [])) (dst.onX fr (.tup [])) H K
    | _ => False
   split at h
   ·cases h
   ·rename_i hm
    split at hm
    ·rename_i b hb
     exact key hb (by rw [hm]; exact h)
    ·exact ih _ _ _ h
    ·cases hm
   ·rename_i hm
    split at hm
    ·rename_i b hb
     exact key hb (by rw [hm]; exact h)
    ·cases hm
    ·cases hm
mutual
def dvB : DV → DV → Bool
 | .undef, .undef => true
 | .int k a, .int j b => decide (k = j) && decide (a = b)
 | .bool a, .bool b => a == b
 | .str a, .str b => decide (a = b)
 | .nilp, .nilp => true
 | .nils, .nils => true
 | .nili, .nili => true
 | .fn f, .fn g => decide (f = g)
 | .sl s xs, .sl t ys => decide (s = t) && dvL xs ys
 | .el xs i, .el ys j => decide (i = j) && dvL xs ys
 | .osl a b c d, .osl e f g h => decide (a = e) && decide (b = f) && decide (c = g) && decide (d = h)
 | .ptr a b, .ptr c d => decide (a = c) && decide (b = d)
 | .agg xs, .agg ys => dvL xs ys
 | .tup xs, .tup ys => dvL xs ys
 | .iface t d, .iface u e => decide (t = u) && dvB d e
 | .clo f xs, .clo g ys => decide (f = g) && dvL xs ys
 | _, _ => false
def dvL : List DV → List DV → Bool
 | [], [] => true
 | x :: xs, y :: ys => dvB x y && dvL xs ys
 | _, _ => false
end
mutual
theorem dvB_eq : ∀ {d e : DV}, dvB d e = true → d = e
 | .undef, e, h => by cases e <;> first | rfl | (simp [dvB] at h; done)
 | .int k a, e, h => by cases e <;> simp [dvB] at h <;> obtain ⟨rfl, rfl⟩ := h; rfl
 | .bool a, e, h => by cases e <;> simp [dvB] at h <;> subst h; rfl
 | .str a, e, h => by cases e <;> simp [dvB] at h <;> subst h; rfl
 | .nilp, e, h => by cases e <;> first | rfl | (simp [dvB] at h; done)
 | .nils, e, h => by cases e <;> first | rfl | (simp [dvB] at h; done)
 | .nili, e, h => by cases e <;> first | rfl | (simp [dvB] at h; done)
 | .fn f, e, h => by cases e <;> simp [dvB] at h <;> subst h; rfl
 | .sl s xs, e, h => by cases e <;> simp [dvB] at h; obtain ⟨rfl, h⟩ := h; rw [dvL_eq h]
 | .el xs i, e, h => by cases e <;> simp [dvB] at h; obtain ⟨rfl, h⟩ := h; rw [dvL_eq h]
 | .osl a b c d, e, h => by cases e <;> simp [dvB] at h; obtain ⟨⟨⟨rfl, rfl⟩, rfl⟩, rfl⟩ := h; rfl
 | .ptr a b, e, h => by cases e <;> simp [dvB] at h; obtain ⟨rfl, rfl⟩ := h; rfl
 | .agg xs, e, h => by cases e <;> simp [dvB] at h; rw [dvL_eq h]
 | .tup xs, e, h => by cases e <;> simp [dvB] at h; rw [dvL_eq h]
 | .iface t d, e, h => by cases e <;> simp [dvB] at h; obtain ⟨rfl, h⟩ := h; rw [dvB_eq h]
 | .clo f xs, e, h => by cases e <;> simp [dvB] at h; obtain ⟨rfl, h⟩ := h; rw [dvL_eq h]
 | .raw v, e, h => by cases e <;> simp [dvB] at h
theorem dvL_eq : ∀ {l m : List DV}, dvL l m = true → l = m
 | [], m, h => by cases m <;> simp [dvL] at h; rfl
 | x :: xs, m, h => by
  cases m with
  | nil => simp [dvL] at h
  | cons y ys =>
   simp only [dvL, Bool.and_eq_true] at h
   rw [dvB_eq h.1, dvL_eq h.2]
end
def frB : Fr → Fr → Bool
 | [], [] => true
 | (k, d) :: r, (j, e) :: s => decide (k = j) && dvB d e && frB r s
 | _, _ => false
theorem frB_eq : ∀ {a b : Fr}, frB a b = true → a = b
 | [], [], _ => rfl
 | [], _ :: _, h => by cases h
 | _ :: _, [], h => by cases h
 | (k, d) :: r, (j, e) :: s, h => by
  simp only [frB, Bool.and_eq_true, decide_eq_true_eq] at h
  obtain ⟨⟨rfl, h1⟩, h2⟩ := h
  rw [dvB_eq h1, frB_eq h2]
def hpB : Hp → Hp → Bool
 | [], [] => true
 | (k, d) :: r, (j, e) :: s => decide (k = j) && dvL d e && hpB r s
 | _, _ => false
theorem hpB_eq : ∀ {a b : Hp}, hpB a b = true → a = b
 | [], [], _ => rfl
 | [], _ :: _, h => by cases h
 | _ :: _, [], h => by cases h
 | (k, d) :: r, (j, e) :: s, h => by
  simp only [hpB, Bool.and_eq_true, decide_eq_true_eq] at h
  obtain ⟨⟨rfl, h1⟩, h2⟩ := h
  rw [dvL_eq h1, hpB_eq h2]
def evT (ce : CE) : DT → Fr → Fr → Hp → Option (Fr × Hp)
 | .leaf, _, fr, H => some (fr, H)
 | .no, _, _, _ => none
 | .st o t, te, fr, H => (evR ce false [o] te fr H).bind fun z => evT ce t z.1 z.2.1 z.2.2
 | .fl o t, te, fr, H => if (o.op.opds.all fun p => (ev te fr p).sim) then (evR ce false [o] te fr H).bind fun z => evT ce t z.1 z.2.1 z.2.2 else none
 | .alt a b, te, fr, H => (evT ce a te fr H).bind fun x => (evT ce b te fr H).bind fun y => if frB x.1 y.1 && hpB x.2 y.2 then some x else none
theorem evT_sound {F : FnD} (hF : F.pure = false) {ce : CE} (hce : GoodCE F.P ce) : ∀ (t : DT) (te fr : Fr) (H : Hp) (fr' : Fr) (H' : Hp), evT ce t te fr H = some (fr', H') → ∀ K : Fr → Hp → Prop, K fr' H' → regT F t te fr H fun _ fr H => K fr H
 | .leaf, te, fr, H, fr', H', h, K, hK => by
  simp only [evT, Option.some.injEq, Prod.mk.injEq] at h
  obtain ⟨rfl, rfl⟩ := h
  exact hK
 | .no, _, _, _, _, _, h, _, _ => by cases h
 | .st o t, te, fr, H, fr', H', h, K, hK => by
  simp only [evT] at h
  rw [Option.bind_eq_some_iff] at h
  obtain ⟨⟨te1, fr1, H1⟩, h1, h2⟩ := h
  exact evR_sound hF hce [o] te fr H te1 fr1 H1 h1 _ (evT_sound hF hce t te1 fr1 H1 fr' H' h2 K hK)
 | .fl o t, te, fr, H, fr', H', h, K, hK => by
  simp only [evT] at h
  split at h
  ·rename_i hs
   rw [Option.bind_eq_some_iff] at h
   obtain ⟨⟨te1, fr1, H1⟩, h1, h2⟩ := h
   exact ⟨hs, evR_sound hF hce [o] te fr H te1 fr1 H1 h1 _ (evT_sound hF hce t te1 fr1 H1 fr' H' h2 K hK)⟩
  ·cases h
 | .alt a b, te, fr, H, fr', H', h, K, hK => by
  simp only [evT] at h
  rw [Option.bind_eq_some_iff] at h
  obtain ⟨⟨fr1, H1⟩, h1, h2⟩ := h
  rw [Option.bind_eq_some_iff] at h2
  obtain ⟨⟨fr2, H2⟩, h3, h4⟩ := h2
  split at h4
  ·rename_i hc
   cases h4
   rw [Bool.and_eq_true] at hc
   have e1 := frB_eq hc.1
   have e2 := hpB_eq hc.2
   simp only at e1 e2
   subst e1
   subst e2
   exact ⟨evT_sound hF hce a te fr H _ _ h1 K hK, evT_sound hF hce b te fr H _ _ h3 K hK⟩
  ·cases h4
def Callable (P : Program) (f : Nat) : Prop := ∃ fn, P.funcs[f]? = some fn ∧ fn.body.isSome = true ∧ (fn.name != "runtime.NumGoroutine") = true
def isClo (d : DV) (f : Nat) (cs : List DV) : Prop := d = .clo f cs ∨ (d = .fn f ∧ cs = [])
theorem V.inv_clo {w : World} {L : Nat → Option Nat} {A : Nat → Prop} {d : DV} {f : Nat} {cs : List DV} {v : Value} (hd : isClo d f cs) (h : V w L A d v) :
  ∃ vs : Array Value, v = .func (.func f) #[] vs ∧ cs.length = vs.size ∧ ∀ (k : Nat) d v, cs[k]? = some d → vs[k]? = some v → V w L A d v := by
 rcases hd with rfl | ⟨rfl, rfl⟩
 ·cases h with
  | imm h => cases h with
   | clo hl h => exact ⟨_, rfl, hl, fun k d v h1 h2 => .imm (h k d v h1 h2)⟩
 ·cases h with
  | imm h => cases h with
   | fn => exact ⟨#[], rfl, rfl, fun k d v h1 h2 => by simp at h1⟩
section
variable {F : FnD}
theorem sOp_callv {P : Program} {vs own : List Nat} {dst : Option Nat} {op : Op} {x : Opd} {args : List Opd} (hp : sOp P vs own dst op = some (.callv x args)) :
  ∃ c k, op = .call c ∧ c.callee = .value (.tmp k) ∧ x = sOpd vs (.tmp k) ∧ args = c.args.toList.map (sOpd vs) := by
 cases op with
 | call c =>
  obtain ⟨callee, cargs, argTypes⟩ := c
  cases callee with
  | value q =>
   cases q with
   | tmp k =>
    simp only [sOp, Option.some.injEq, DOp.callv.injEq] at hp
    exact ⟨_, k, rfl, rfl, hp.1.symm, hp.2.symm⟩
   | func f =>
    simp only [sOp] at hp
    split at hp
    ·split at hp <;> cases hp
    ·cases hp
   | _ => simp [sOp] at hp
  | invoke r m => simp [sOp] at hp
  | builtin b =>
   exfalso
   cases b with
   | append =>
    simp only [sOp] at hp
    repeat' split at hp
    all_goals first
     | (cases hp; done)
     | (simp only [Option.bind_eq_some_iff] at hp; obtain ⟨_, _, hp⟩ := hp; split at hp; (cases hp; done); (simp only [Option.some.injEq] at hp; split at hp <;> cases hp); done)
     | (simp only [Option.bind_eq_some_iff] at hp; obtain ⟨_, _, hp⟩ := hp; split at hp <;> cases hp)
   | clear =>
    simp only [sOp] at hp
    repeat' split at hp
    all_goals first
     | (cases hp; done)
     | (simp only [Option.bind_eq_some_iff] at hp; obtain ⟨_, _, _, _, hp⟩ := hp; split at hp <;> cases hp)
   | _ =>
    simp only [sOp] at hp
    repeat' split at hp
    all_goals first
     | (cases hp; done)
     | (simp only [Option.bind_eq_some_iff] at hp; obtain ⟨_, _, hp⟩ := hp; split at hp <;> cases hp)
 | makeFunc fn first caps =>
  cases fn with
  | func f =>
   simp only [sOp] at hp
   split at hp <;> cases hp
  | _ => simp [sOp] at hp
 | _ =>
  exfalso
  simp only [sOp] at hp
  repeat' split at hp
  all_goals first
   | (cases hp; done)
   | (simp only [Option.some.injEq] at hp; split at hp <;> cases hp; done)
   | (simp [Option.bind_eq_some_iff, Option.map_eq_some_iff] at hp; done)
   | (simp only [Option.map_eq_some_iff] at hp; obtain ⟨_, _, hp⟩ := hp; (repeat' split at hp) <;> cases hp; done)
   | (simp only [Option.bind_eq_some_iff, Option.map_eq_some_iff] at hp; obtain ⟨_, _, hp⟩ := hp; (repeat' split at hp) <;> first | (cases hp; done) | (obtain ⟨_, _, hp⟩ := hp; (repeat' split at hp) <;> cases hp; done) | (rw [Option.map_eq_some_iff] at hp; obtain ⟨_, _, hp⟩ := hp; cases hp; done))
theorem W_callV {Q : Ex → Fr → Hp → Prop} {fr : Fr} {H : Hp} {ds : List DOper} (d0 d1 : List DOper) (dst : Dst) (x : Opd) (args : List Opd) (hd : ds = d0 ++ ⟨dst, .callv x args, none⟩ :: d1)
  (h : regW F d0 [] fr H fun te fr H => ∃ f cs, isClo (ev te fr x) f cs ∧ Callable F.P f ∧ callR F f (args.map (ev te fr) ++ cs) te fr H fun d te' fr' H' => regW F d1 (dst.onT te' d) (dst.onX fr' d) H' fun _ fr H => Q .norm fr H) :
  W F (.reg ds) Q fr H := by
 subst hd
 intro code hc G L a w hn hR
 cases code <;> simp only [strip] at hc <;> first | (cases hc; done) | skip
 rename_i id ops draw
 split at hc
 ·rename_i ds' hds
  split at hc
  ·(repeat' split at hc) <;> cases hc
  ·rename_i hd
   cases hc
   have hd' : draw = false := by simpa using hd
   subst hd'
   obtain ⟨l0, l1, hl, h0, h1⟩ := sOpers_split _ _ _ hds
   refine wp_region_list ?_
   rw [hl]
   refine regW_pre hn (fun te fr H L a w hR' hk => ?_) l0 d0 h0 [] fr H L a w hR h
   match l1, h1 with
   | o :: l2, h1 =>
    simp only [sOpers, Option.bind_eq_some_iff, Option.map_eq_some_iff] at h1
    obtain ⟨d, hd, ds', hds', e⟩ := h1
    simp only [List.cons.injEq] at e
    obtain ⟨rfl, rfl⟩ := e
    obtain ⟨odst, op, ty, pos, after, guard⟩ := o
    simp only [sOper, Option.bind_eq_some_iff] at hd
    obtain ⟨p, hp, g, hg, hs⟩ := hd
    split at hs
    ·rename_i hdo
     simp only [Option.some.injEq, DOper.mk.injEq] at hs
     obtain ⟨rfl, rfl, rfl⟩ := hs
     have hdl := dst_lt hdo
     obtain ⟨c, kk, rfl, hcal, rfl, rfl⟩ := sOp_callv hp
     obtain ⟨callee, cargs, argTypes⟩ := c
     simp only at hcal hk
     subst hcal
     obtain ⟨f, cs, hclo, ⟨fn, hfn, hbody, hname⟩, hk⟩ := hk
     have hE : EV F.vs (ev te fr) w L (Av G.S L) a := fun x => by rw [ev_den]; exact ev_V hR' x
     obtain ⟨vs, ev1, ev2, ev3⟩ := V.inv_clo hclo (hE (.tmp kk))
     have hcall := callR_W hk G L a w (cargs.map a.eval ++ vs) hn.2 hR' (by simp [ev2]) (fun k d v h1 h2 => by
      rw [List.getElem?_append] at h1
      rw [Array.getElem?_append] at h2
      simp only [List.length_map, Array.length_toList, Array.size_map] at h1 h2
      split at h1
      ·rename_i hlt
       rw [if_pos hlt] at h2
       simp only [List.map_map, List.getElem?_map, Array.getElem?_toList, Option.map_eq_some_iff] at h1
       simp only [Array.getElem?_map, Option.map_eq_some_iff] at h2
       obtain ⟨x, hx, rfl⟩ := h1
       obtain ⟨y, hy, rfl⟩ := h2
       rw [hx] at hy; cases hy
       exact hE x
      ·rename_i hlt
       rw [if_neg hlt] at h2
       exact ev3 _ d v h1 h2)
     have hr : (execOp a.eval ⟨odst, .call { callee := .value (.tmp kk), args := cargs, argTypes := argTypes }, ty, pos, after, guard⟩).run F.P w = .ok (.enter f (cargs.map a.eval ++ vs)) w := by
      have hb : ¬ fn.body = none := by intro e; rw [e] at hbody; cases hbody
      have hnm : ¬ fn.name = "runtime.NumGoroutine" := by simpa using hname
      simp [execOp, resolve, ev1, Deferred.ofValue, invoke, callFunc, hfn, hnm, hb]
     have hw : Region.wanted (⟨odst, .call { callee := .value (.tmp kk), args := cargs, argTypes := argTypes }, ty, pos, after, guard⟩ : Oper) (yielded ops a.tmps) = true := wanted_none (F := F) (ops := ops) a.tmps hg
     simp only [wpList, hw, if_true]
     refine .inl ?_
     unfold Oper.wp
     rw [hr]
     refine hcall.mono ?_
     rintro e w' ⟨v, L', d, te', fr', H', rfl, hR2, hv, _, hKd⟩
     have hput := hR2.put hv (by rw [hn.1]; exact hdl)
     rw [← den_put] at hput
     refine regW_sound hn (fun te fr H L a w hR3 hk => ?_) l2 ds' hds' _ _ _ _ _ _ hput hKd
     refine ⟨L, fr, H, .norm, hR3.weak fun s => ?_, rfl, hk⟩
     simp only [den, lk]
     split
     ·exact .inl rfl
     ·exact .inr rfl
    ·cases hs
 ·cases hc
end
end Go.Dat
namespace Go.Dat
open Go
section
variable {F : FnD} {G : Cx} {σ : Nat → DV} {h : Heap} {L : Nat → Option Nat} {a : Act} {w : World}
def goV (F : FnD) (dp : DOper) (σ : Nat → DV) (d : DV) : Prop := match dp.op with
 | .callv x args => ∃ f cs, isClo (evS σ x) f cs ∧ Callable F.P f ∧ PCalls F.P f (args.map (evS σ) ++ cs) d ∧ (args.map (evS σ) ++ cs).all DV.rf = true
 | _ => False
theorem oper_soundV {o : Oper} {ops : Array Oper} {dp : DOper} {d : DV} {K : Act → World → Prop} {Q : Exit → Act → World → Prop}
  (hs : sOper F.P F.vs F.own F.n ops o = some dp) (hn : G.n = F.n ∧ G.ok F.P) (hR : R G L σ h a w) (hgo : goV F dp σ d)
  (hK : ∀ L a w, R G L (updS σ dp.dst.slot d) h a w → K a w) : o.wp F.P a w K Q := by
 obtain ⟨dst, op, ty, pos, after, guard⟩ := o
 simp only [sOper, Option.bind_eq_some_iff] at hs
 obtain ⟨p, hp, g, hg, hs⟩ := hs
 split at hs
 ·rename_i hd
  cases hs
  rw [sDst_slot] at hK
  have hdl := dst_lt hd
  have hE : EV F.vs (evS σ) w L (Av G.S L) a := fun x => ev_V hR x
  cases p with
  | callv x args =>
   simp only [goV] at hgo
   obtain ⟨c, kk, rfl, hcal, rfl, rfl⟩ := sOp_callv hp
   obtain ⟨callee, cargs, argTypes⟩ := c
   simp only at hcal hgo
   subst hcal
   obtain ⟨f, cs, hclo, ⟨fn, hfn, hbody, hname⟩, hpc, hrf⟩ := hgo
   obtain ⟨vs, ev1, ev2, ev3⟩ := V.inv_clo hclo (hE (.tmp kk))
   have hA : ∀ b, Av G.S L b → b < w.heap.size := by
    rintro b (h | ⟨o, h⟩)
    ·exact hR.sLt b h
    ·exact hR.heap.lt h
   have hcall := hpc (Av G.S L) w (cargs.map a.eval ++ vs) (hn.2.tab hR) hA (by simp [ev2]) (fun k d v h1 h2 => by
    have hrfd := List.all_eq_true.1 hrf d (List.mem_of_getElem? h1)
    rw [List.getElem?_append] at h1
    rw [Array.getElem?_append] at h2
    simp only [List.length_map, Array.length_toList, Array.size_map] at h1 h2
    split at h1
    ·rename_i hlt
     rw [if_pos hlt] at h2
     simp only [List.map_map, List.getElem?_map, Array.getElem?_toList, Option.map_eq_some_iff] at h1
     simp only [Array.getElem?_map, Option.map_eq_some_iff] at h2
     obtain ⟨x, hx, rfl⟩ := h1
     obtain ⟨y, hy, rfl⟩ := h2
     rw [hx] at hy; cases hy
     exact (hE x).rf_imm hrfd
    ·rename_i hlt
     rw [if_neg hlt] at h2
     exact (ev3 _ d v h1 h2).rf_imm hrfd)
   have hr : (execOp a.eval ⟨dst, .call { callee := .value (.tmp kk), args := cargs, argTypes := argTypes }, ty, pos, after, guard⟩).run F.P w = .ok (.enter f (cargs.map a.eval ++ vs)) w := by
    have hb : ¬ fn.body = none := by intro e; rw [e] at hbody; cases hbody
    have hnm : ¬ fn.name = "runtime.NumGoroutine" := by simpa using hname
    simp [execOp, resolve, ev1, Deferred.ofValue, invoke, callFunc, hfn, hnm, hb]
   unfold Oper.wp
   rw [hr]
   refine hcall.mono ?_
   rintro e w' ⟨v, rfl, hvi, hx⟩
   exact hK _ _ _ ((hR.still hx).put (.imm hvi) (by rw [hn.1]; exact hdl))
  | _ => exact hgo.elim
 ·cases hs
def stepV (F : FnD) (dp : DOper) (K : (Nat → DV) → Heap → Prop) (σ : Nat → DV) (h : Heap) : Prop :=
 stepD F dp K σ h ∨ (dp.guard = none ∧ ∃ d, goV F dp σ d ∧ K (updS σ dp.dst.slot d) h)
def anyV (F : FnD) (ops : Array Oper) (ds : List DOper) (K : (Nat → DV) → Heap → Prop) : Nat → Array Bool → (Nat → DV) → Heap → Prop
 | 0, listed, σ, h => Region.ready .any ops listed = [] ∧ K σ h
 | fuel + 1, listed, σ, h => (Region.ready .any ops listed = [] → K σ h) ∧
  ∀ i ∈ Region.ready .any ops listed, ∃ x, ds[i]? = some x ∧ stepV F x (anyV F ops ds K fuel (listed.setIfInBounds i true)) σ h
theorem anyV_sound {ops : Array Oper} {ds : List DOper} {Q : Exit → Act → World → Prop} {K : (Nat → DV) → Heap → Prop} (hn : G.n = F.n ∧ G.ok F.P) (hs : sOpers F.P F.vs F.own F.n ops ops.toList = some ds)
  (hK : ∀ σ h L a w, R G L σ h a w → K σ h → Q .normal a w) : ∀ (fuel : Nat) (listed : Array Bool) (σ : Nat → DV) (h : Heap) (L : Nat → Option Nat) (a : Act) (w : World), R G L σ h a w →
   anyV F ops ds K fuel listed σ h → wpAny F.P .any ops Q fuel listed a w := by
 intro fuel
 induction fuel with
 | zero => intro listed σ h L a w hR hA; exact ⟨hA.1, hK _ _ _ _ _ hR hA.2⟩
 | succ fuel ih =>
  intro listed σ h L a w hR hA
  refine ⟨fun e => hK _ _ _ _ _ hR (hA.1 e), fun i hi => ?_⟩
  obtain ⟨x, hx, hst⟩ := hA.2 i hi
  obtain ⟨_, o, ho, _⟩ := mem_ready.1 hi
  obtain ⟨dp, hdp, hso⟩ := (sOpers_get _ _ hs).2 i o (by simpa using ho)
  rw [hx] at hdp; cases hdp
  have hgd : sGuard F.vs ops o.guard = some x.guard ∧ x.dst = sDst F.vs o.dst ∧ ∀ k, o.dst = some k → k < F.n := by
   simp only [sOper, Option.bind_eq_some_iff] at hso
   obtain ⟨p, hp, g, hg', hs⟩ := hso
   split at hs
   ·rename_i hd; cases hs; exact ⟨hg', rfl, dst_lt hd⟩
   ·cases hs
  obtain ⟨hgu, hdst, hdl⟩ := hgd
  simp only [wpOp, ho]
  rcases hst with ⟨d, ef, hg, hA'⟩ | ⟨hgn, d, hg, hA'⟩
  ·rcases hg.out with ⟨h1, h2⟩ | ⟨h1, rfl, rfl⟩
   ·rw [wantedS hR hgu h1, if_pos rfl]
    exact .inl (oper_soundS hso hn hR h2 fun L a w hR' => ih _ _ _ L a w hR' hA')
   ·rw [wantedS hR hgu h1, if_neg (by simp)]
    rw [hdst, sDst_slot] at hA'
    exact ih _ _ _ L _ w (hR.put V_undef (by rw [hn.1]; exact hdl)) hA'
  ·rw [wantedS (b := true) hR hgu (by rw [hgn]; rfl), if_pos rfl]
   exact .inl (oper_soundV hso hn hR hg fun L a w hR' => ih _ _ _ L a w hR' hA')
end
end Go.Dat
namespace Go.Dat
open Go
theorem sOp_isnil {P : Program} {vs own : List Nat} {dst : Option Nat} {op : Op} {neg : Bool} {x : Opd} (hp : sOp P vs own dst op = some (.isnil neg x)) :
  ∃ bop t x0 u e, op = .binOp bop t x0 (.const (.slice none 0 0)) u ∧ (bop = .eql ∨ bop = .neq) ∧ neg = (bop == .neq) ∧ P.underlying t = some (.slice e) ∧ x = sOpd vs x0 := by
 cases op with
 | binOp bop t x0 y u =>
  have key : ∀ b : BinOp, (b = .eql ∨ b = .neq) → (match P.underlying t with
    | some .bool => some (DOp.beq (b == .neq) (sOpd vs x0) (sOpd vs y))
    | some (.int _) | some .string => some (.bin b (sOpd vs x0) (sOpd vs y))
    | some (.slice _) => if isNilC y then some (.isnil (b == .neq) (sOpd vs x0)) else none
    | some (.struct fs) => if P.stoodInHeld t || P.eqGuardType P.depth t then none else (eqOffs P fs.toList).map fun l => .eqs (b == .neq) l (sOpd vs x0) (sOpd vs y)
    | _ => none) = some (.isnil neg x) → ∃ bop' t' x0' u' e, Op.binOp b t x0 y u = .binOp bop' t' x0' (.const (.slice none 0 0)) u' ∧ (bop' = .eql ∨ bop' = .neq) ∧ neg = (bop' == .neq) ∧ P.underlying t' = some (.slice e) ∧ x = sOpd vs x0' := by
   intro b hb h
   split at h
   ·cases h
   ·cases h
   ·cases h
   ·rename_i e ht
    split at h
    ·rename_i hn
     cases h
     exact ⟨b, t, x0, u, e, by rw [isNilC_eq hn], hb, rfl, ht, rfl⟩
    ·cases h
   ·split at h
    ·cases h
    ·rw [Option.map_eq_some_iff] at h
     obtain ⟨_, _, h⟩ := h
     cases h
   ·cases h
  cases bop <;> simp only [sOp] at hp <;> first | (cases hp; done) | skip
  ·exact key .eql (.inl rfl) hp
  ·exact key .neq (.inr rfl) hp
 | _ =>
  exfalso
  simp only [sOp] at hp
  repeat' first
   | (cases hp; done)
   | (obtain ⟨_, _, hp⟩ := hp)
   | split at hp
   | (simp only [Option.bind_eq_some_iff, Option.map_eq_some_iff] at hp; obtain ⟨_, _, hp⟩ := hp)
  all_goals first
   | contradiction
   | (rename_i h1 _ _ _ _; cases h1)
   | simp_all
section
variable {F : FnD}
theorem W_isnil {Q : Ex → Fr → Hp → Prop} {fr : Fr} {H : Hp} {ds : List DOper} (d0 : List DOper) (dst : Dst) (neg : Bool) (x : Opd) (hd : ds = d0 ++ [⟨dst, .isnil neg x, none⟩])
  (h : regW F d0 [] fr H fun te fr H => (∃ sz, ev te fr x = .sl sz []) ∧ ∀ b, Q .norm (dst.onX fr (.bool b)) H) : W F (.reg ds) Q fr H := by
 subst hd
 intro code hc G L a w hn hR
 cases code <;> simp only [strip] at hc <;> first | (cases hc; done) | skip
 rename_i id ops draw
 split at hc
 ·rename_i ds' hds
  split at hc
  ·(repeat' split at hc) <;> cases hc
  ·rename_i hd
   cases hc
   have hd' : draw = false := by simpa using hd
   subst hd'
   obtain ⟨l0, l1, hl, h0, h1⟩ := sOpers_split _ _ _ hds
   refine wp_region_list ?_
   rw [hl]
   refine regW_pre hn (fun te fr H L a w hR' hk => ?_) l0 d0 h0 [] fr H L a w hR h
   match l1, h1 with
   | o :: l2, h1 =>
    simp only [sOpers, Option.bind_eq_some_iff, Option.map_eq_some_iff] at h1
    obtain ⟨d, hd, ds', hds', e⟩ := h1
    simp only [List.cons.injEq] at e
    obtain ⟨rfl, rfl⟩ := e
    have hl2 : l2 = [] := by
     have := (sOpers_get _ _ hds').1
     exact List.length_eq_zero_iff.1 this.symm
    subst hl2
    obtain ⟨odst, op, ty, pos, after, guard⟩ := o
    simp only [sOper, Option.bind_eq_some_iff] at hd
    obtain ⟨p, hp, g, hg, hs⟩ := hd
    split at hs
    ·rename_i hdo
     simp only [Option.some.injEq, DOper.mk.injEq] at hs
     obtain ⟨rfl, rfl, rfl⟩ := hs
     have hdl := dst_lt hdo
     obtain ⟨bop, t, x0, u, e, rfl, hbop, rfl, ht, rfl⟩ := sOp_isnil hp
     obtain ⟨⟨sz, hev⟩, hq⟩ := hk
     have hx : V w L (Av G.S L) (.sl sz []) (a.eval x0) := by
      rw [← hev, ev_den]; exact ev_V hR' x0
     obtain ⟨A, n, c, e1⟩ : ∃ A n c, a.eval x0 = .slice A n c := by
      rcases hx.inv_sl with ⟨_, A, c, e1⟩ | ⟨hx0, _⟩
      ·exact ⟨A, 0, c, e1⟩
      ·exact absurd rfl hx0
     have eq : (Op.equal t (.slice A n c) (.slice none 0 0)).run F.P w = .ok A.isNone w := equalIn_nil 9999 ht A n c
     have e2 : a.eval (.const (.slice none 0 0)) = .slice none 0 0 := rfl
     have hr : (execOp a.eval ⟨odst, .binOp bop t x0 (.const (.slice none 0 0)) u, ty, pos, after, guard⟩).run F.P w = .ok (.value (.bool (if bop == .neq then A.isSome else A.isNone))) w := by
      rcases hbop with rfl | rfl <;> cases A <;> simp [execOp, e1, e2, eqGuard, binOp, eq]
     have hw : Region.wanted (⟨odst, .binOp bop t x0 (.const (.slice none 0 0)) u, ty, pos, after, guard⟩ : Oper) (yielded ops a.tmps) = true := wanted_none (F := F) (ops := ops) a.tmps hg
     simp only [wpList, hw, if_true]
     refine .inl ?_
     unfold Oper.wp
     rw [hr]
     generalize (if bop == .neq then A.isSome else A.isNone) = b at *
     have hput := hR'.put (dst := odst) (V.imm (VI.bool (w := w) (A := Av G.S L) b)) (by rw [hn.1]; exact hdl)
     rw [← den_put] at hput
     refine ⟨L, _, H, .norm, hput.weak fun s => ?_, rfl, hq b⟩
     simp only [den, lk]
     split
     ·exact .inl rfl
     ·exact .inr rfl
    ·cases hs
 ·cases hc
end
end Go.Dat
namespace Go.Dat
open Go
theorem countP_lt {p q : Nat → Bool} (hpq : ∀ x, q x = true → p x = true) : ∀ (l : List Nat) (i : Nat), i ∈ l → p i = true → q i = false → l.countP q < l.countP p
 | [], i, hi, _, _ => by cases hi
 | a :: l, i, hi, h1, h2 => by
  have hle : l.countP q ≤ l.countP p := List.countP_mono_left fun x _ h => hpq x h
  simp only [List.countP_cons]
  by_cases hm : i ∈ l
  ·have := countP_lt hpq l i hm h1 h2
   have ha : (if q a = true then 1 else 0) ≤ if p a = true then 1 else 0 := by
    by_cases hq : q a = true
    ·rw [if_pos hq, if_pos (hpq a hq)]; exact Nat.le_refl _
    ·rw [if_neg hq]; exact Nat.zero_le _
   omega
  ·have : i = a := (List.mem_cons.1 hi).resolve_right hm
   subst this
   rw [if_pos h1, if_neg (by rw [h2]; simp)]
   omega
def dstI (ds : List DOper) (s k : Nat) : Prop := ∃ z, ds[k]? = some z ∧ z.dst.slot = some s
def lookI (ds : List DOper) (s j : Nat) : Prop := ∃ y, ds[j]? = some y ∧ s ∈ y.op.opds.filterMap Opd.slot
structure FreeI (ops : Array Oper) (ds : List DOper) (deps : List (List Nat)) : Prop where
 fwd : ∀ (i : Nat) (o : Oper), ops[i]? = some o → ∀ e ∈ o.after, e.on < i
 gd : ∀ (i : Nat) (x : DOper), ds[i]? = some x → x.guard = none
 one : ∀ s i j, dstI ds s i → dstI ds s j → i = j
 dep : ∀ s i j, lookI ds s i → dstI ds s j → j ∈ deps.getD i []
theorem freeI_ok {ops : Array Oper} {ds : List DOper} {deps : List (List Nat)} (h : freeI ops ds deps = true) : FreeI ops ds deps := by
 simp only [freeI, Bool.and_eq_true, List.all_eq_true, List.mem_range] at h
 obtain ⟨h1, h2⟩ := h
 have hlt : ∀ {i x}, ds[i]? = some x → i < ds.length := fun h => (List.getElem?_eq_some_iff.1 h).1
 refine ⟨fun i o ho e he => ?_, fun i x hx => ?_, ?_, ?_⟩
 ·have := h1 i (Array.getElem?_eq_some_iff.1 ho).1
  rw [ho] at this
  exact of_decide_eq_true (Array.all_eq_true_iff_forall_mem.1 this e he)
 ·have := h2 i (hlt hx)
  rw [hx] at this
  simp only [Bool.and_eq_true] at this
  exact Option.isNone_iff_eq_none.1 this.1.1
 ·rintro s i j ⟨x, hx, hxs⟩ ⟨y, hy, hys⟩
  have := h2 i (hlt hx)
  rw [hx] at this
  simp only [Bool.and_eq_true] at this
  have h3 := this.1.2
  rw [hxs] at h3
  simp only [List.all_eq_true, List.mem_range] at h3
  have h4 := h3 j (hlt hy)
  rw [hy] at h4
  simp only [hys, bne_self_eq_false, Bool.or_false, beq_iff_eq] at h4
  exact h4.symm
 ·rintro s i j ⟨x, hx, hxs⟩ ⟨y, hy, hys⟩
  have := h2 i (hlt hx)
  rw [hx] at this
  simp only [Bool.and_eq_true] at this
  have h3 := List.all_eq_true.1 this.2 s hxs
  have h4 := List.all_eq_true.1 h3 j (List.mem_range.2 (hlt hy))
  rw [hy] at h4
  simp only [hys, bne_self_eq_false, Bool.or_false, List.contains_iff_mem] at h4
  exact h4
section
variable {F : FnD} {ops : Array Oper} {ds : List DOper} {deps : List (List Nat)} {keep : Nat → Prop} {T : Nat → DV} {Hf : (Nat → Bool) → Heap}
def SafeI (ds : List DOper) (deps : List (List Nat)) (keep : Nat → Prop) (T : Nat → DV) (i : Nat) (x : DOper) (o : Nat) : Prop :=
 ∀ s, x.dst.slot ≠ some s → (∀ k, dstI ds s k → i ∉ deps.getD k []) → (keep s ∨ ∃ j, j ≠ i ∧ j ∉ deps.getD i [] ∧ lookI ds s j) → (T s).has o = false
def StepI (F : FnD) (ds : List DOper) (deps : List (List Nat)) (keep : Nat → Prop) (T : Nat → DV) (h h' : Heap) (i : Nat) (x : DOper) : Prop :=
 ∃ d ef, (goD F x T h d ef ∨ (goV F x T d ∧ ef = .no)) ∧ (∀ s, x.dst.slot = some s → d = T s) ∧ ef.onH h = h' ∧ ∀ o c, ef = .app o c → SafeI ds deps keep T i x o
def InvI (ds : List DOper) (keep : Nat → Prop) (T : Nat → DV) (Hf : (Nat → Bool) → Heap) (S : Nat → Bool) (σ : Nat → DV) (h : Heap) : Prop :=
 h = Hf S ∧ ∀ s, (keep s ∨ ∃ j, S j = false ∧ lookI ds s j) → (∀ k, dstI ds s k → S k = true) → σ s = T s
theorem goD_congr {x : DOper} {σ τ : Nat → DV} {h : Heap} {d : DV} {ef : Eff} (he : ∀ p ∈ x.op.opds, evS σ p = evS τ p) (hg : goD F x τ h d ef) : goD F x σ h d ef := by
 unfold goD at hg ⊢
 cases hop : x.op with
 | call f args =>
  rw [hop] at hg he
  have hm : args.map (evS σ) = args.map (evS τ) := List.map_congr_left fun p hp => he p hp
  simp only [hm]; exact hg
 | _ => rw [hop] at hg he; simp only at hg ⊢; rw [opE_congr he]; exact hg
theorem goV_congr {x : DOper} {σ τ : Nat → DV} {d : DV} (he : ∀ p ∈ x.op.opds, evS σ p = evS τ p) (hg : goV F x τ d) : goV F x σ d := by
 unfold goV at hg ⊢
 cases hop : x.op with
 | callv y args =>
  rw [hop] at hg he
  have hm : args.map (evS σ) = args.map (evS τ) := List.map_congr_left fun p hp => he p (by simp [DOp.opds, hp])
  simp only [hm, he y (by simp [DOp.opds])]
  exact hg
 | _ => rw [hop] at hg; exact hg.elim
theorem ready_all {ops : Array Oper} {listed : Array Bool} (hsz : listed.size = ops.size) (hfw : ∀ (i : Nat) (o : Oper), ops[i]? = some o → ∀ e ∈ o.after, e.on < i) (hr : Region.ready .any ops listed = []) : ∀ i, i < ops.size → listed.getD i false = true := by
 intro i
 induction i using Nat.strongRecOn with
 | _ i ih =>
  intro hi
  cases hl : listed.getD i false with
  | true => rfl
  | false =>
   have : i ∈ Region.ready .any ops listed := by
    have ho := Array.getElem?_eq_getElem hi
    generalize ops[i] = o at ho
    refine mem_ready.2 ⟨?_, o, ho, fun e he _ => ?_⟩
    rotate_left
    ·have h1 := hfw i o ho e he
     exact ih e.on h1 (by omega)
    rw [Array.getD_eq_getD_getElem?] at hl ⊢
    rw [Array.getElem?_eq_getElem (by omega)] at hl ⊢
    exact hl
   rw [hr] at this; cases this
theorem anyV_inv {K : (Nat → DV) → Heap → Prop} (hlen : ds.length = ops.size) (hdeps : ∀ k x, x ∈ deps.getD k [] → Dep ops k x) (hf : FreeI ops ds deps)
  (hob : ∀ i x S, ds[i]? = some x → S i = false → (∀ j ∈ deps.getD i [], S j = true) → (∀ e, S e = true → ∀ j ∈ deps.getD e [], S j = true) → StepI F ds deps keep T (Hf S) (Hf fun k => S k || k == i) i x)
  (hK : ∀ S σ h, (∀ i, i < ds.length → S i = true) → InvI ds keep T Hf S σ h → K σ h) :
  ∀ (fuel : Nat) (listed : Array Bool) (σ : Nat → DV) (h : Heap), listed.size = ops.size → (List.range ops.size).countP (fun j => !listed.getD j false) ≤ fuel → ClosedL ops listed → InvI ds keep T Hf (fun j => listed.getD j false) σ h → anyV F ops ds K fuel listed σ h := by
 intro fuel
 have fin : ∀ (listed : Array Bool) σ h, (∀ i, i < ops.size → listed.getD i false = true) → InvI ds keep T Hf (fun j => listed.getD j false) σ h → K σ h := fun listed σ h hl hI => hK _ σ h (fun i hi => hl i (by omega)) hI
 induction fuel with
 | zero =>
  intro listed σ h hsz hcn hc hI
  have hall : ∀ i, i < ops.size → listed.getD i false = true := fun i hi => by
   have := List.countP_eq_zero.1 (Nat.le_zero.1 hcn) i (List.mem_range.2 hi)
   simpa using this
  refine ⟨?_, fin listed σ h hall hI⟩
  apply List.eq_nil_iff_forall_not_mem.2
  intro i hi
  obtain ⟨hun, o, ho, _⟩ := mem_ready.1 hi
  have h1 := hall i (Array.getElem?_eq_some_iff.1 ho).1
  rw [Array.getD_eq_getD_getElem?] at h1 hun
  cases hq : listed[i]? with
  | none => rw [hq] at h1; cases h1
  | some b => rw [hq] at h1 hun; simp only [Option.getD_some] at h1 hun; rw [h1] at hun; cases hun
 | succ fuel ih =>
  intro listed σ h hsz hcn hc hI
  refine ⟨fun e => fin listed σ h (ready_all hsz hf.fwd e) hI, fun i hi => ?_⟩
  obtain ⟨hun, o, ho, hall⟩ := mem_ready.1 hi
  have hio : i < ops.size := (Array.getElem?_eq_some_iff.1 ho).1
  have hx : ds[i]? = some ds[i] := List.getElem?_eq_getElem (by omega)
  generalize ds[i] = x at hx
  have hSi : listed.getD i false = false := by
   rw [Array.getD_eq_getD_getElem?] at hun ⊢
   rw [Array.getElem?_eq_getElem (by omega)] at hun ⊢
   exact hun
  have hdi : ∀ j ∈ deps.getD i [], listed.getD j false = true := fun j hj => dep_listed hc (hdeps _ _ hj) fun o' ho' e he hb => by rw [ho] at ho'; cases ho'; exact hall e he hb
  have hcl : ∀ e, listed.getD e false = true → ∀ j ∈ deps.getD e [], listed.getD j false = true := fun e he j hj => dep_listed hc (hdeps _ _ hj) fun o' ho' e' he' hb => hc e o' he ho' e' he' hb
  obtain ⟨d, ef, hg, hdT, hH, hsafe⟩ := hob i x (fun j => listed.getD j false) hx hSi hdi hcl
  obtain ⟨rfl, hσ⟩ := hI
  have hlk : ∀ s ∈ x.op.opds.filterMap Opd.slot, σ s = T s := fun s hs => hσ s (.inr ⟨i, hSi, x, hx, hs⟩) fun k hk => hdi k (hf.dep s i k ⟨x, hx, hs⟩ hk)
  have hset : ∀ j, (listed.setIfInBounds i true).getD j false = (listed.getD j false || j == i) := fun j => by
   by_cases e : i = j
   ·subst e
    rw [Array.getD_eq_getD_getElem?, Array.getElem?_setIfInBounds_self_of_lt (by omega)]
    simp
   ·rw [getD_set_ne false e]
    have : (j == i) = false := by simpa using fun e2 => e e2.symm
    rw [this, Bool.or_false]
  have hop : ∀ p ∈ x.op.opds, evS σ p = evS T p := fun p hp => by
   cases p with
   | c d => rfl
   | x k => exact hlk k (List.mem_filterMap.2 ⟨_, hp, rfl⟩)
   | t k => exact hlk k (List.mem_filterMap.2 ⟨_, hp, rfl⟩)
  have hnext : anyV F ops ds K fuel (listed.setIfInBounds i true) (updS (ef.onS σ) x.dst.slot d) (ef.onH (Hf fun j => listed.getD j false)) := by
   refine ih _ _ _ (by simpa using hsz) ?_ (hc.set hi) ⟨?_, fun s hs hav => ?_⟩
   ·have h1 := countP_lt (p := fun j => !listed.getD j false) (q := fun j => !(listed.setIfInBounds i true).getD j false) (fun j hj => by
     rw [hset] at hj; simp only [Bool.not_or, Bool.and_eq_true] at hj; exact hj.1) (List.range ops.size) i (List.mem_range.2 hio) (by rw [hSi]; rfl) (by rw [hset]; simp)
    omega
   ·rw [hH]; congr 1; funext j; exact (hset j).symm
   ·by_cases hsl : x.dst.slot = some s
    ·rw [hsl]; simp only [updS, if_true]; exact hdT s hsl
    ·have hne : ∀ (τ : Nat → DV), updS τ x.dst.slot d s = τ s := fun τ => by
      cases hxd : x.dst.slot with
      | none => rfl
      | some t => simp only [updS]; rw [if_neg (fun e => hsl (by rw [hxd, e]))]
     have hav2 : ∀ k, dstI ds s k → k ≠ i ∧ listed.getD k false = true := fun k hk => by
      have hki : k ≠ i := fun e => by
       obtain ⟨z, hz, hzs⟩ := hk
       rw [e, hx] at hz; cases hz; exact hsl hzs
      have := hav k hk
      simp only [hset, Bool.or_eq_true, beq_iff_eq] at this
      exact ⟨hki, this.resolve_right hki⟩
     have hs2 : keep s ∨ ∃ j, listed.getD j false = false ∧ j ≠ i ∧ lookI ds s j := by
      rcases hs with hs | ⟨j, hj, hl⟩
      ·exact .inl hs
      ·simp only [hset, Bool.or_eq_false_iff, beq_eq_false_iff_ne] at hj
       exact .inr ⟨j, hj.1, hj.2, hl⟩
     have h1 : σ s = T s := hσ s (hs2.imp id fun ⟨j, a, _, b⟩ => ⟨j, a, b⟩) fun k hk => (hav2 k hk).2
     rw [hne]
     cases ef with
     | app o c =>
      have h2 := hsafe o c rfl s hsl (fun k hk hm => by
       have := hcl k (hav2 k hk).2 i hm
       rw [hSi] at this; cases this) (hs2.imp id fun ⟨j, a, b, c⟩ => ⟨j, b, fun hm => (by rw [hdi j hm] at a; cases a), c⟩)
      simp only [Eff.onS, purgeS, h1, Dat.purge, h2, Bool.false_eq_true, if_false]
     | _ => exact h1
  rcases hg with hg | ⟨hg, rfl⟩
  ·exact ⟨x, hx, .inl ⟨d, ef, ⟨.inl ⟨by rw [hf.gd i x hx]; rfl, goD_congr hop hg⟩⟩, hnext⟩⟩
  ·exact ⟨x, hx, .inr ⟨hf.gd i x hx, d, goV_congr hop hg, hnext⟩⟩
end
def subsI : List Nat → List (List Nat)
 | [] => [[]]
 | a :: l => (subsI l).map (a :: ·) ++ subsI l
theorem filter_subs (S : Nat → Bool) : ∀ l : List Nat, l.filter S ∈ subsI l
 | [] => by simp [subsI]
 | a :: l => by
  simp only [subsI, List.mem_append, List.mem_map]
  rw [List.filter_cons]
  split
  ·exact .inl ⟨_, filter_subs S l, rfl⟩
  ·exact .inr (filter_subs S l)
def okI (deps : List (List Nat)) (eff B : List Nat) (i : Nat) : Bool :=
 !B.contains i && (B.all fun e => !(deps.getD e []).contains i && eff.all fun f => !(deps.getD e []).contains f || B.contains f) && eff.all fun f => !(deps.getD i []).contains f || B.contains f
def addI (eff B : List Nat) (i : Nat) : List Nat := eff.filter fun e => B.contains e || e == i
theorem okI_of {deps : List (List Nat)} {eff : List Nat} {S : Nat → Bool} {i : Nat} (h1 : S i = false) (h2 : ∀ j ∈ deps.getD i [], S j = true) (h3 : ∀ e, S e = true → ∀ j ∈ deps.getD e [], S j = true) : okI deps eff (eff.filter S) i = true := by
 simp only [okI, Bool.and_eq_true, Bool.not_eq_true', List.all_eq_true, Bool.or_eq_true, List.contains_iff_mem, List.mem_filter]
 refine ⟨⟨?_, fun e he => ⟨?_, fun f hf => ?_⟩⟩, fun f hf => ?_⟩
 ·cases hq : (eff.filter S).contains i with
  | false => rfl
  | true =>
   have := (List.mem_filter.1 (List.contains_iff_mem.1 hq)).2
   rw [h1] at this; cases this
 ·cases hq : (deps.getD e []).contains i with
  | false => rfl
  | true =>
   have := h3 e he.2 i (List.contains_iff_mem.1 hq)
   rw [h1] at this; cases this
 ·cases hq : (deps.getD e []).contains f with
  | false => exact .inl rfl
  | true => exact .inr ⟨hf, h3 e he.2 f (List.contains_iff_mem.1 hq)⟩
 ·cases hq : (deps.getD i []).contains f with
  | false => exact .inl rfl
  | true => exact .inr ⟨hf, h2 f (List.contains_iff_mem.1 hq)⟩
theorem addI_eq (eff : List Nat) (S : Nat → Bool) (i : Nat) : (eff.filter fun k => S k || k == i) = addI eff (eff.filter S) i := by
 unfold addI
 apply List.filter_congr
 intro e he
 have : (eff.filter S).contains e = S e := by
  cases hq : S e with
  | true => exact List.contains_iff_mem.2 (List.mem_filter.2 ⟨he, hq⟩)
  | false =>
   cases hc : (eff.filter S).contains e with
   | false => rfl
   | true => have := (List.mem_filter.1 (List.contains_iff_mem.1 hc)).2; rw [hq] at this; cases this
 rw [this]
theorem iops_chain : ∀ (ds : List DOper) (ls : List (List Nat)), (chainI ds ls).iops = ds
 | [], _ => rfl
 | o :: os, ls => by simp only [chainI, DT.iops, iops_chain os]
theorem ideps_get : ∀ (ds : List DOper) (ls : List (List Nat)) (k : Nat), (chainI ds ls).ideps.getD k [] = if k < ds.length then ls.getD k [] else []
 | [], _, k => by simp [chainI, DT.ideps]
 | o :: os, ls, k => by
  have hm : ∀ l : List Nat, (l.map Opd.t).filterMap Opd.slot = l := fun l => by
   induction l with
   | nil => rfl
   | cons a l ih => simp only [List.map_cons, List.filterMap_cons, Opd.slot, ih]
  simp only [chainI, DT.ideps, DOp.opds, hm]
  cases k with
  | zero => cases ls <;> simp
  | succ k =>
   rw [List.getD_cons_succ, ideps_get os ls.tail k]
   simp only [List.length_cons, Nat.add_lt_add_iff_right]
   cases ls <;> simp
section
variable {F : FnD} {Q : Ex → Fr → Hp → Prop} {fr : Fr} {H : Hp} {t : DT}
theorem W_regI (tv fr2 : Fr) (eff : List Nat) (Hl : List Nat → Hp) (he : ∀ e ∈ eff, e < t.iops.length) (h0 : lkH (Hl []) = lkH H)
  (hT : ∀ s, (∀ k, ¬ dstI t.iops s k) → den F.vs tv fr2 s = den F.vs [] fr s)
  (hob : ∀ B ∈ subsI eff, ∀ i x, t.iops[i]? = some x → (∀ y ∈ t.iops, y.tags F.vs = true) → okI t.ideps eff B i = true → StepI F t.iops t.ideps (fun s => F.vs.contains s = true) (den F.vs tv fr2) (lkH (Hl B)) (lkH (Hl (addI eff B i))) i x)
  (hQ : Q .norm fr2 (Hl eff)) (hw : F.own.contains 1000003 = false) : W F (.rego (.alt .no t)) Q fr H := by
 intro code hc G L a w hn hR
 cases code <;> simp only [strip] at hc <;> first | (cases hc; done) | skip
 rename_i id ops draw
 split at hc
 ·rename_i ds hds
  split at hc
  ·rename_i hd
   subst hd
   split at hc
   ·cases hc
   split at hc
   ·cases hc
   split at hc
   ·cases hc
   split at hc
   ·rename_i hok
    rw [hw] at hok
    simp at hok
   split at hc
   ·rename_i hok
    simp only [DC.rego.injEq, DT.alt.injEq, true_and] at hc
    subst hc
    simp only [iops_chain] at he hT hob
    simp only [Bool.and_eq_true] at hok
    obtain ⟨⟨⟨⟨_, hns⟩, htags⟩, hfr⟩, hm⟩ := hok
    have hfree0 := freeI_ok hfr
    have hlen : ds.length = ops.size := by rw [(sOpers_get _ _ hds).1]; simp
    have hdeps : ∀ k x, x ∈ (chainI ds (depsAll ops.toList [])).ideps.getD k [] → Dep ops k x := fun k x hx => by
     rw [ideps_get] at hx
     split at hx
     ·exact depsAll_sound ops.toList [] (fun j => by simp) (fun k x hx => by simp at hx) k x hx
     ·cases hx
    have hfree : FreeI ops ds (chainI ds (depsAll ops.toList [])).ideps := ⟨hfree0.fwd, hfree0.gd, hfree0.one, fun s i j hi hj => by
     rw [ideps_get, if_pos (by obtain ⟨y, hy, _⟩ := hi; exact (List.getElem?_eq_some_iff.1 hy).1)]
     exact hfree0.dep s i j hi hj⟩
    refine wp_region_any hm ?_
    have hany : anyV F ops ds (fun σ h => h = lkH (Hl eff) ∧ ∀ s, F.vs.contains s = true → σ s = den F.vs tv fr2 s) ops.size (Array.replicate ops.size false) (den F.vs [] fr) (lkH H) := by
     have hno : ∀ j, (Array.replicate ops.size false).getD j false = false := fun j => by
      simp only [Array.getD_eq_getD_getElem?, Array.getElem?_replicate]
      split <;> rfl
     have hob2 : ∀ i x S, ds[i]? = some x → S i = false → (∀ j ∈ (chainI ds (depsAll ops.toList [])).ideps.getD i [], S j = true) → (∀ e, S e = true → ∀ j ∈ (chainI ds (depsAll ops.toList [])).ideps.getD e [], S j = true) →
       StepI F ds (chainI ds (depsAll ops.toList [])).ideps (fun s => F.vs.contains s = true) (den F.vs tv fr2) (lkH (Hl (eff.filter S))) (lkH (Hl (eff.filter fun k => S k || k == i))) i x := fun i x S hx h1 h2 h3 => by
      rw [addI_eq]
      exact hob (eff.filter S) (filter_subs S eff) i x hx (fun y hy => List.all_eq_true.1 htags y hy) (okI_of h1 h2 h3)
     have hK2 : ∀ (S : Nat → Bool) (σ : Nat → DV) (h : Heap), (∀ i, i < ds.length → S i = true) → InvI ds (fun s => F.vs.contains s = true) (den F.vs tv fr2) (fun S => lkH (Hl (eff.filter S))) S σ h → h = lkH (Hl eff) ∧ ∀ s, F.vs.contains s = true → σ s = den F.vs tv fr2 s := fun S σ h hall hI => by
      refine ⟨?_, fun s hs => hI.2 s (.inl hs) fun k hk => ?_⟩
      ·have : eff.filter S = eff := List.filter_eq_self.2 fun e hm => hall e (he e hm)
       rw [hI.1]; simp only [this]
      ·obtain ⟨z, hz, _⟩ := hk
       exact hall k (List.getElem?_eq_some_iff.1 hz).1
     have hi1 : (List.range ops.size).countP (fun j => !(Array.replicate ops.size false).getD j false) ≤ ops.size := by
      have := List.countP_le_length (p := fun j => !(Array.replicate ops.size false).getD j false) (l := List.range ops.size)
      rwa [List.length_range] at this
     have hi2 : ClosedL ops (Array.replicate ops.size false) := fun j o hj => by rw [hno] at hj; cases hj
     have hi3 : InvI ds (fun s => F.vs.contains s = true) (den F.vs tv fr2) (fun S => lkH (Hl (eff.filter S))) (fun j => (Array.replicate ops.size false).getD j false) (den F.vs [] fr) (lkH H) := by
      refine ⟨?_, fun s _ hav => (hT s fun k hk => ?_).symm⟩
      ·have : eff.filter (fun j => (Array.replicate ops.size false).getD j false) = [] := List.filter_eq_nil_iff.2 fun j _ => by rw [hno]; simp
       show _ = lkH (Hl (eff.filter _))
       rw [← h0, this]
      ·have := hav k hk
       simp only [hno] at this; cases this
     exact anyV_inv hlen hdeps hfree hob2 hK2 ops.size _ _ _ (by rw [Array.size_replicate]) hi1 hi2 hi3
    refine anyV_sound (F := F) (G := G) hn hds ?_ ops.size _ _ _ L a _ (hR.still (w' := { w with drawn := w.drawn + 1 }) ⟨rfl, rfl, rfl, Nat.le_refl _, fun _ _ _ => rfl⟩) hany
    rintro σ h L a w hR' ⟨rfl, hσ⟩
    refine ⟨L, fr2, Hl eff, .norm, hR'.weak fun s => ?_, rfl, hQ⟩
    cases hs : F.vs.contains s with
    | true =>
     refine .inl ?_
     rw [hσ s hs]
     simp only [den, hs, if_true]
    | false =>
     simp only [den, hs, lk]
     exact .inr rfl
   ·cases hc
  ·cases hc
 ·cases hc
end
def nilH : Hp → Bool
 | [] => true
 | _ => false
def valI (ce : CE) (cal : Nat → Bool) (tv fr : Fr) (H : Hp) (o : DOper) : Option (DV × Eff) := match o.op with
 | .call f args => (ce f (args.map (ev tv fr)) []).bind fun r => if nilH r.2 && r.1.rf && (args.map (ev tv fr)).all DV.rf then some (r.1, .no) else none
 | .callv x args => match ev tv fr x with
  | .clo g cs => if cal g then (ce g (args.map (ev tv fr) ++ cs) []).bind fun r => if nilH r.2 && r.1.rf && (args.map (ev tv fr) ++ cs).all DV.rf then some (r.1, .no) else none else none
  | .fn g => if cal g then (ce g (args.map (ev tv fr) ++ []) []).bind fun r => if nilH r.2 && r.1.rf && (args.map (ev tv fr) ++ []).all DV.rf then some (r.1, .no) else none else none
  | _ => none
 | p => opC 0 o.dst.slot (ev tv fr) (lkH H) p
def runI (ce : CE) (cal : Nat → Bool) : List DOper → Fr → Fr → Hp → Option (Fr × Fr)
 | [], tv, fr, _ => some (tv, fr)
 | o :: os, tv, fr, H => (valI ce cal tv fr H o).bind fun z => runI ce cal os (o.dst.onT tv z.1) (o.dst.onX fr z.1) (z.2.onL H)
def hpI (ce : CE) (cal : Nat → Bool) (ds : List DOper) (tv fr : Fr) : List Nat → Hp → Hp
 | [], H => H
 | i :: B, H => match ds[i]? with
  | some o => match valI ce cal tv fr H o with
   | some z => hpI ce cal ds tv fr B (z.2.onL H)
   | none => []
  | none => []
def effI (ds : List DOper) : List Nat := (List.range ds.length).filter fun i => match ds[i]? with
 | some o => !o.op.isCall && decide (2 ≤ o.op.cls) && (match o.op with | .callv .. => false | _ => true)
 | none => false
def aftI (ds : List DOper) (deps : List (List Nat)) (i s : Nat) : Bool := (List.range ds.length).any fun k => (k == i || (deps.getD k []).contains i) && match ds[k]? with
 | some z => z.dst.slot == some s
 | none => false
def safeB (ds : List DOper) (deps : List (List Nat)) (tv fr : Fr) (i o : Nat) : Bool :=
 (fr.all fun e => !e.2.has o || aftI ds deps i e.1) && (List.range ds.length).all fun j => j == i || (deps.getD i []).contains j || match ds[j]? with
  | some y => y.op.opds.all fun p => !(ev tv fr p).has o || (match p.slot with | some s => aftI ds deps i s | none => true)
  | none => true
def stepB (ce : CE) (cal : Nat → Bool) (ds : List DOper) (deps : List (List Nat)) (tv fr : Fr) (H H' : Hp) (i : Nat) (x : DOper) : Bool := match valI ce cal tv fr H x with
 | some z => (match x.dst with | .t k => dvB z.1 (lk tv k) | .x k => dvB z.1 (lk fr k) | .no => true) && (match z.2 with
  | .no => hpB H H'
  | .app o c => hpB ((Eff.app o c).onL H) H' && safeB ds deps tv fr i o
  | ef => hpB (ef.onL H) H')
 | none => false
def evI (ce : CE) (cal : Nat → Bool) (own : List Nat) (t : DT) (fr : Fr) (H : Hp) : Option (Fr × Hp) :=
 (runI ce cal t.iops [] fr H).bind fun z =>
  let eff := effI t.iops
  if !own.contains 1000003 && (eff.all fun e => decide (e < t.iops.length)) && ((z.1.all fun e => (List.range t.iops.length).any fun k => match t.iops[k]? with | some y => y.dst.slot == some e.1 | none => false)) &&
   ((fr.all fun e => dvB (lk z.2 e.1) (lk fr e.1) || (List.range t.iops.length).any fun k => match t.iops[k]? with | some y => y.dst.slot == some e.1 | none => false)) &&
   ((z.2.all fun e => dvB (lk z.2 e.1) (lk fr e.1) || (List.range t.iops.length).any fun k => match t.iops[k]? with | some y => y.dst.slot == some e.1 | none => false)) &&
   ((subsI eff).all fun B => (List.range t.iops.length).all fun i => !okI t.ideps eff B i || (match t.iops[i]? with
    | some x => stepB ce cal t.iops t.ideps z.1 z.2 (hpI ce cal t.iops z.1 z.2 B H) (hpI ce cal t.iops z.1 z.2 (addI eff B i) H) i x
    | none => true)) then some (z.2, hpI ce cal t.iops z.1 z.2 eff H) else none
theorem lk_out {fr : Fr} {s : Nat} (h : ∀ e ∈ fr, e.1 ≠ s) : lk fr s = .undef := by
 induction fr with
 | nil => rfl
 | cons e r ih =>
  obtain ⟨k, d⟩ := e
  simp only [lk]
  rw [if_neg (h (k, d) (.head _))]
  exact ih fun e he => h e (.tail _ he)
theorem nilH_eq {H : Hp} (h : nilH H = true) : H = [] := by cases H <;> first | rfl | cases h
theorem valI_sound {F : FnD} {ce : CE} (hce : GoodCE F.P ce) {cal : Nat → Bool} (hcal : ∀ f, cal f = true → Callable F.P f) {tv fr : Fr} {H : Hp} {x : DOper} {d : DV} {ef : Eff} (htg : x.tags F.vs = true) (h : valI ce cal tv fr H x = some (d, ef)) : goD F x (den F.vs tv fr) (lkH H) d ef ∨ (goV F x (den F.vs tv fr) d ∧ ef = .no) := by
 simp only [DOper.tags, Bool.and_eq_true] at htg
 have hev : ∀ p ∈ x.op.opds, ev tv fr p = evS (den F.vs tv fr) p := fun p hp => ev_tag (List.all_eq_true.1 htg.1.2 p hp)
 unfold valI at h
 cases hop : x.op with
 | call f args =>
  rw [hop] at h hev
  have hm : args.map (ev tv fr) = args.map (evS (den F.vs tv fr)) := List.map_congr_left fun p hp => hev p hp
  simp only at h
  rw [hm, Option.bind_eq_some_iff] at h
  obtain ⟨⟨r, H1⟩, h1, h2⟩ := h
  split at h2
  ·rename_i hc
   simp only [Bool.and_eq_true] at hc
   cases h2
   have hn : H1 = [] := nilH_eq hc.1.1
   subst hn
   refine .inl ?_
   unfold goD
   rw [hop]
   exact ⟨PCalls_rel (hce _ _ _ _ _ h1) hc.1.2, hc.2, rfl⟩
  ·cases h2
 | callv y args =>
  rw [hop] at h hev
  have hm : args.map (ev tv fr) = args.map (evS (den F.vs tv fr)) := List.map_congr_left fun p hp => hev p (by simp [DOp.opds, hp])
  have hy : ev tv fr y = evS (den F.vs tv fr) y := hev y (by simp [DOp.opds])
  have key : ∀ g cs, isClo (evS (den F.vs tv fr) y) g cs → (if cal g then (ce g (args.map (ev tv fr) ++ cs) []).bind fun r => if nilH r.2 && r.1.rf && (args.map (ev tv fr) ++ cs).all DV.rf then some (r.1, Eff.no) else none else none) = some (d, ef) → goD F x (den F.vs tv fr) (lkH H) d ef ∨ (goV F x (den F.vs tv fr) d ∧ ef = .no) := fun g cs hclo h => by
   split at h
   ·rename_i hg
    rw [hm, Option.bind_eq_some_iff] at h
    obtain ⟨⟨r, H1⟩, h1, h2⟩ := h
    split at h2
    ·rename_i hc
     simp only [Bool.and_eq_true] at hc
     cases h2
     have hn : H1 = [] := nilH_eq hc.1.1
     subst hn
     refine .inr ⟨?_, rfl⟩
     unfold goV
     rw [hop]
     exact ⟨g, cs, hclo, hcal g hg, PCalls_rel (hce _ _ _ _ _ h1) hc.1.2, hc.2⟩
    ·cases h2
   ·cases h
  simp only at h
  split at h
  ·rename_i g cs hx; rw [hy] at hx; exact key g cs (.inl hx) h
  ·rename_i g hx; rw [hy] at hx; exact key g [] (.inr ⟨hx, rfl⟩) h
  ·cases h
 | _ =>
  rw [hop] at h hev
  refine .inl ?_
  unfold goD
  rw [hop]
  simp only
  rw [← opE_congr hev]
  exact opC_eq _ _ _ _ h
theorem any_dst {ds : List DOper} {s : Nat} (h : ((List.range ds.length).any fun k => match ds[k]? with | some y => y.dst.slot == some s | none => false) = true) : ∃ k, dstI ds s k := by
 obtain ⟨k, _, hk⟩ := List.any_eq_true.1 h
 cases hq : ds[k]? with
 | none => rw [hq] at hk; cases hk
 | some y => rw [hq] at hk; exact ⟨k, y, hq, by simpa using hk⟩
theorem aft_no {ds : List DOper} {deps : List (List Nat)} {i s : Nat} {x : DOper} (hx : ds[i]? = some x) (h1 : x.dst.slot ≠ some s) (h2 : ∀ k, dstI ds s k → i ∉ deps.getD k []) : aftI ds deps i s = false := by
 cases hq : aftI ds deps i s with
 | false => rfl
 | true =>
  obtain ⟨k, _, hk⟩ := List.any_eq_true.1 hq
  rw [Bool.and_eq_true] at hk
  obtain ⟨hk1, hk2⟩ := hk
  cases hz : ds[k]? with
  | none => rw [hz] at hk2; cases hk2
  | some z =>
   rw [hz] at hk2
   simp only [beq_iff_eq] at hk2
   rcases Bool.or_eq_true _ _ |>.mp hk1 with h | h
   ·rw [beq_iff_eq] at h
    subst h
    rw [hx] at hz; cases hz
    exact absurd hk2 h1
   ·exact absurd (List.contains_iff_mem.1 h) (h2 k ⟨z, hz, hk2⟩)
theorem safeB_ok {F : FnD} {ds : List DOper} {deps : List (List Nat)} {tv fr : Fr} {i o : Nat} {x : DOper} (hx : ds[i]? = some x) (htv : ∀ y ∈ ds, y.tags F.vs = true) (h : safeB ds deps tv fr i o = true) : SafeI ds deps (fun s => F.vs.contains s = true) (den F.vs tv fr) i x o := by
 intro s h1 h2 h3
 have ha := aft_no hx h1 h2
 simp only [safeB, Bool.and_eq_true] at h
 have hfr : ∀ s, aftI ds deps i s = false → (lk fr s).has o = false := fun s ha => by
  by_cases hm : ∃ e ∈ fr, e.1 = s
  ·have : ∀ (r : Fr), (∀ e ∈ r, (!e.2.has o || aftI ds deps i e.1) = true) → (lk r s).has o = false := by
    intro r
    induction r with
    | nil => intro _; rfl
    | cons e r ih =>
     intro hr
     obtain ⟨k, d⟩ := e
     simp only [lk]
     split
     ·rename_i e; subst e
      have := hr (k, d) (.head _)
      simp only [ha, Bool.or_false, Bool.not_eq_true'] at this
      exact this
     ·exact ih fun e he => hr e (.tail _ he)
   exact this fr fun e he => List.all_eq_true.1 h.1 e he
  ·rw [lk_out fun e he e2 => hm ⟨e, he, e2⟩]; rfl
 rcases h3 with h3 | ⟨j, hj1, hj2, y, hy, hys⟩
 ·simp only [den, h3, if_true]
  exact hfr s ha
 ·have h4 := List.all_eq_true.1 h.2 j (List.mem_range.2 (List.getElem?_eq_some_iff.1 hy).1)
  have e1 : (j == i) = false := by simpa using hj1
  have e2 : (deps.getD i []).contains j = false := by
   cases hq : (deps.getD i []).contains j with
   | false => rfl
   | true => exact absurd (List.contains_iff_mem.1 hq) hj2
  rw [e1, e2, hy] at h4
  simp only [Bool.false_or] at h4
  obtain ⟨p, hp, hps⟩ := List.mem_filterMap.1 hys
  have h5 := List.all_eq_true.1 h4 p hp
  rw [hps] at h5
  simp only [ha, Bool.or_false, Bool.not_eq_true'] at h5
  have htg := htv y (List.mem_of_getElem? hy)
  simp only [DOper.tags, Bool.and_eq_true] at htg
  have := ev_tag (te := tv) (fr := fr) (List.all_eq_true.1 htg.1.2 p hp)
  rw [this] at h5
  cases p with
  | c d => cases hps
  | x k => cases hps; exact h5
  | t k => cases hps; exact h5
theorem evI_sound {F : FnD} {ce : CE} (hce : GoodCE F.P ce) {cal : Nat → Bool} (hcal : ∀ f, cal f = true → Callable F.P f) {t : DT} {fr : Fr} {H : Hp} {fr' : Fr} {H' : Hp} (h : evI ce cal F.own t fr H = some (fr', H')) {Q : Ex → Fr → Hp → Prop} (hQ : Q .norm fr' H') : W F (.rego (.alt .no t)) Q fr H := by
 unfold evI at h
 rw [Option.bind_eq_some_iff] at h
 obtain ⟨⟨tv, fr2⟩, _, h⟩ := h
 simp only at h
 split at h
 ·rename_i hc
  simp only [Bool.and_eq_true] at hc
  obtain ⟨⟨⟨⟨⟨c1, c2⟩, c3⟩, c4⟩, c5⟩, c6⟩ := hc
  simp only [Option.some.injEq, Prod.mk.injEq] at h
  obtain ⟨rfl, rfl⟩ := h
  refine W_regI tv fr2 (effI t.iops) (fun B => hpI ce cal t.iops tv fr2 B H) (fun e he => of_decide_eq_true (List.all_eq_true.1 c2 e he)) rfl (fun s hs => ?_) (fun B hB i x hx htgs hk => ?_) hQ (by simpa using c1)
  ·have nod : ∀ (r : Fr), (∀ e ∈ r, (dvB (lk fr2 e.1) (lk fr e.1) || (List.range t.iops.length).any fun k => match t.iops[k]? with | some y => y.dst.slot == some e.1 | none => false) = true) → (∃ e ∈ r, e.1 = s) → lk fr2 s = lk fr s := by
    rintro r hr ⟨e, he, rfl⟩
    rcases Bool.or_eq_true _ _ |>.mp (hr e he) with h | h
    ·exact dvB_eq h
    ·obtain ⟨k, hk⟩ := any_dst h
     exact absurd hk (hs k)
   simp only [den]
   split
   ·by_cases h1 : ∃ e ∈ fr, e.1 = s
    ·exact nod fr (fun e he => List.all_eq_true.1 c4 e he) h1
    ·by_cases h2 : ∃ e ∈ fr2, e.1 = s
     ·exact nod fr2 (fun e he => List.all_eq_true.1 c5 e he) h2
     ·rw [lk_out fun e he e2 => h1 ⟨e, he, e2⟩, lk_out fun e he e2 => h2 ⟨e, he, e2⟩]
   ·rw [lk_out (fr := tv) fun e he e2 => by
     obtain ⟨k, hk⟩ := any_dst (List.all_eq_true.1 c3 e he)
     rw [e2] at hk
     exact hs k hk]
    rfl
  ·have h1 := List.all_eq_true.1 (List.all_eq_true.1 c6 B hB) i (List.mem_range.2 (List.getElem?_eq_some_iff.1 hx).1)
   rw [hk, hx] at h1
   simp only [Bool.not_true, Bool.false_or] at h1
   unfold stepB at h1
   split at h1
   ·rename_i z hz
    obtain ⟨d, ef⟩ := z
    simp only [Bool.and_eq_true] at h1
    obtain ⟨h2, h3⟩ := h1
    have htg := htgs x (List.mem_of_getElem? hx)
    have htg2 := htg
    simp only [DOper.tags, Bool.and_eq_true] at htg2
    refine ⟨d, ef, valI_sound hce hcal htg hz, fun s hs => ?_, ?_, ?_⟩
    ·have hd := htg2.1.1
     cases hxd : x.dst with
     | no => rw [hxd] at hs; cases hs
     | x k =>
      rw [hxd] at hs hd h2
      cases hs
      simp only [tagD] at hd
      simp only [den, hd, if_true]
      exact dvB_eq h2
     | t k =>
      rw [hxd] at hs hd h2
      cases hs
      simp only [tagD, Bool.not_eq_true'] at hd
      simp only [den, hd, Bool.false_eq_true, if_false]
      exact dvB_eq h2
    ·rw [← lkH_onL]
     cases ef with
     | no => simp only at h3; rw [← hpB_eq h3]; rfl
     | app o c => simp only [Bool.and_eq_true] at h3; rw [← hpB_eq h3.1]
     | set o c => simp only at h3; rw [← hpB_eq h3]
     | new o c => simp only at h3; rw [← hpB_eq h3]
    ·rintro o c rfl
     simp only [Bool.and_eq_true] at h3
     exact safeB_ok hx htgs h3.2
   ·cases h1
 ·cases h
def evO (ce : CE) (cal : Nat → Bool) (own : List Nat) (tr : DT) (fr : Fr) (H : Hp) : Option (Fr × Hp) := match tr with
 | .alt .no t => evI ce cal own t fr H
 | tr => evT ce tr [] fr H
theorem evO_sound {F : FnD} (hF : F.pure = false) {ce : CE} (hce : GoodCE F.P ce) {cal : Nat → Bool} (hcal : ∀ f, cal f = true → Callable F.P f) {tr : DT} {fr : Fr} {H : Hp} {fr' : Fr} {H' : Hp} (h : evO ce cal F.own tr fr H = some (fr', H')) {Q : Ex → Fr → Hp → Prop} (hQ : Q .norm fr' H') : W F (.rego tr) Q fr H := by
 unfold evO at h
 split at h
 ·exact evI_sound hce hcal h hQ
 ·exact W_rego (evT_sound hF hce tr [] fr H _ _ h (fun fr H => Q .norm fr H) hQ) hF
end Go.Dat
namespace Go.Dat
open Go
inductive EX where
 | norm
 | exit (j : Nat)
 | ret
def EX.ex : EX → Ex
 | .norm => .norm
 | .exit j => .exit j
 | .ret => .ret
structure EF where
 fn : FnD
 c : DC
 rv : List RV
def tlook : List (Nat × EF) → Nat → Option EF
 | [], _ => none
 | (g, e) :: r, f => if g = f then some e else tlook r f
structure EOK (P : Program) (f : Nat) (e : EF) : Prop where
 prog : e.fn.P = P
 pure : e.fn.pure = false
 is : IsFn e.fn f e.c e.rv
 call : Callable P f
abbrev Tb := List (Nat × EF) × List (Nat × (List DV → Option DV))
structure TOK (P : Program) (t : Tb) : Prop where
 fn : ∀ f e, tlook t.1 f = some e → EOK P f e
 kn : ∀ f φ, (f, φ) ∈ t.2 → ∀ ds r, φ ds = some r → PCalls P f ds r
theorem TOK.nil {P : Program} : TOK P ([], []) := ⟨(fun f e h => by cases h), (fun f l h => by cases h)⟩
theorem TOK.cons {P : Program} {t : Tb} {f : Nat} {e : EF} (h : EOK P f e) (ht : TOK P t) : TOK P ((f, e) :: t.1, t.2) := ⟨fun g e' h' => by
 simp only [tlook] at h'
 split at h'
 ·rename_i hg; subst hg; cases h'; exact h
 ·exact ht.fn g e' h', ht.kn⟩
theorem TOK.ext {P : Program} {t : Tb} {f : Nat} {φ : List DV → Option DV} (h : ∀ ds r, φ ds = some r → PCalls P f ds r) (ht : TOK P t) : TOK P (t.1, (f, φ) :: t.2) := ⟨ht.fn, fun g ψ hm => by
 rcases List.mem_cons.1 hm with e | hm
 ·cases e; exact h
 ·exact ht.kn g ψ hm⟩
def findX : List (Nat × (List DV → Option DV)) → Nat → List DV → Option DV
 | [], _, _ => none
 | (g, φ) :: t, f, ds => if g = f then match φ ds with
   | some r => some r
   | none => findX t f ds
  else findX t f ds
theorem findX_mem : ∀ {t : List (Nat × (List DV → Option DV))} {f : Nat} {ds : List DV} {r : DV}, findX t f ds = some r → ∃ φ, (f, φ) ∈ t ∧ φ ds = some r
 | (g, φ) :: t, f, ds, r, h => by
  simp only [findX] at h
  split at h
  ·rename_i hg
   subst hg
   split at h
   ·rename_i s hs; cases h; exact ⟨φ, List.mem_cons_self, hs⟩
   ·obtain ⟨ψ, h1, h2⟩ := findX_mem h; exact ⟨ψ, List.mem_cons_of_mem _ h1, h2⟩
  ·obtain ⟨ψ, h1, h2⟩ := findX_mem h; exact ⟨ψ, List.mem_cons_of_mem _ h1, h2⟩
def factL (t : Tb) (f : Nat) (ds : List DV) (H : Hp) : Option DV := if H.isEmpty && ds.all DV.rf then findX t.2 f ds else none
theorem MRel_pure {P : Program} {f : Nat} {ds : List DV} {r : DV} (hd : ds.all DV.rf = true) (h : PCalls P f ds r) : MRel P f ds [] fun a b => a = r ∧ b = [] := by
 intro S L w us hT _ hH hS hs hv
 have hL : ∀ o b, L o ≠ some b := fun o b h => by
  obtain ⟨c, hc⟩ := hH.dom o b h
  cases hc
 refine (h S w us hT hS hs fun k d v h1 h2 => ((hv k d v h1 h2).rf_imm (List.all_eq_true.1 hd d (List.mem_of_getElem? h1))).mono fun b _ hb => ⟨rfl, fun h' => hb (.inl h')⟩).mono ?_
 rintro e w' ⟨v, rfl, hV, hx⟩
 refine ⟨v, fun _ => none, r, [], ⟨rfl, rfl⟩, rfl, ⟨(by intro o b h; cases h), (by intro o c h; cases h), (by intro o p b h; cases h), (by intro o b h; cases h), (by intro o b h; cases h)⟩, .imm (hV.mono fun b _ hb => ⟨rfl, fun h' => ?_⟩), hx.mono fun k _ h => h.elim, fun o b h => absurd h (hL o b), (by intro o b h; cases h), fun b hb => shape_of_block (hx.block b hb id)⟩
 rcases h' with h' | ⟨o, h'⟩
 ·exact hb h'
 ·cases h'
def canFr (fr : Fr) (o : Nat) (cs : List DV) : Bool := decide (o < 1048576) && cs.all DV.rf && fr.all fun p => match p.2 with | .ptr q _ => !(q == o) | _ => true
def findFr (fr : Fr) : Hp → Option Nat
 | [] => none
 | (o, cs) :: r => if canFr fr o cs then some o else findFr fr r
def frAll : Nat → Fr → Hp → Fr × Hp
 | 0, fr, H => (fr, H)
 | n + 1, fr, H => match findFr fr H with
  | none => (fr, H)
  | some o => match lkH H o with
   | none => (fr, H)
   | some cs => if canFr fr o cs then frAll n (mapF (frz o cs) fr) (rmH o cs H) else (fr, H)
theorem frAll_sound {F : FnD} {c : DC} {Q : Ex → Fr → Hp → Prop} : ∀ (n : Nat) (fr : Fr) (H : Hp), W F c Q (frAll n fr H).1 (frAll n fr H).2 → W F c Q fr H
 | 0, fr, H, h => h
 | n + 1, fr, H, h => by
  simp only [frAll] at h
  split at h
  ·exact h
  ·rename_i o hfind
   split at h
   ·exact h
   ·rename_i cs hcs
    split at h
    ·rename_i hc
     simp only [canFr, Bool.and_eq_true, decide_eq_true_eq] at hc
     exact W_freeze o hcs hc.1.2 (frAll_sound n _ _ h) hc.1.1
    ·exact h
abbrev EvC := FnD → DC → Fr → Hp → Nat → Option (EX × Fr × Hp × Nat)
def keepP (H : Hp) : List (Nat × Nat) := (domH H).map fun o => (o, o)
def funE (t : Tb) (rec : EvC) (k : Nat) : CE := fun f ds H => match factL t f ds H with
 | some r => some (r, [])
 | none => (tlook t.1 f).bind fun e => if ds.length ≤ e.fn.n then (rec e.fn e.c (initF 0 ds) H k).bind fun x => match x with
  | (.exit _, _, _, _) => none
  | (_, fr', H', _) => (resDs fr' H' e.rv).bind fun rs =>
   if pairsOK (keepP H) && (domH H).all (fun o => decide (1048576 ≤ o) && (lkH H' o).isSome) then some (rn (look (keepP H)) (oneOf rs), renH (look (keepP H)) (keepP H) H') else none
 else none
def splitV : List DOper → Option (List DOper × Dst × Opd × List Opd × List DOper)
 | [] => none
 | ⟨dst, .callv x args, none⟩ :: os => some ([], dst, x, args, os)
 | o :: os => (splitV os).map fun z => (o :: z.1, z.2)
theorem splitV_eq : ∀ {ops d0 d1 : List DOper} {dst : Dst} {x : Opd} {args : List Opd}, splitV ops = some (d0, dst, x, args, d1) → ops = d0 ++ ⟨dst, .callv x args, none⟩ :: d1
 | [], _, _, _, _, _, h => by cases h
 | o :: os, d0, d1, dst, x, args, h => by
  have gen : ∀ {z : Option (List DOper × Dst × Opd × List Opd × List DOper)}, z = splitV os → (z.map fun z => (o :: z.1, z.2)) = some (d0, dst, x, args, d1) → o :: os = d0 ++ ⟨dst, .callv x args, none⟩ :: d1 := by
   intro z hz hm
   rw [Option.map_eq_some_iff] at hm
   obtain ⟨⟨a, b1, b2, b3, b4⟩, h1, h2⟩ := hm
   cases h2
   rw [h1] at hz
   rw [splitV_eq hz.symm]; rfl
  obtain ⟨dst', op, g⟩ := o
  cases op with
  | callv x' args' =>
   cases g with
   | none => simp only [splitV, Option.some.injEq, Prod.mk.injEq] at h; obtain ⟨rfl, rfl, rfl, rfl, rfl⟩ := h; rfl
   | some g => exact gen rfl h
  | _ => exact gen rfl h
def evV (t : Tb) (ce : CE) (ops : List DOper) (fr : Fr) (H : Hp) : Option (Fr × Fr × Hp) := match splitV ops with
 | none => evR ce false ops [] fr H
 | some (d0, dst, x, args, d1) => (evR ce false d0 [] fr H).bind fun z => match ev z.1 z.2.1 x with
  | .clo g cs => if (tlook t.1 g).isSome then (callE ce false g (args.map (ev z.1 z.2.1) ++ cs) z.2.2).bind fun r => evR ce false d1 (dst.onT z.1 r.1) (dst.onX z.2.1 r.1) r.2 else none
  | .fn g => if (tlook t.1 g).isSome then (callE ce false g (args.map (ev z.1 z.2.1) ++ []) z.2.2).bind fun r => evR ce false d1 (dst.onT z.1 r.1) (dst.onX z.2.1 r.1) r.2 else none
  | _ => none
theorem evV_sound {P : Program} {t : Tb} (ht : TOK P t) {F : FnD} (hP : F.P = P) (hF : F.pure = false) {ce : CE} (hce : GoodCE P ce) {ops : List DOper} {fr : Fr} {H : Hp} {te' fr' : Fr} {H' : Hp} (h : evV t ce ops fr H = some (te', fr', H')) (Q : Ex → Fr → Hp → Prop) (hQ : Q .norm fr' H') : W F (.reg ops) Q fr H := by
 subst hP
 unfold evV at h
 split at h
 ·exact W_reg (evR_sound hF hce ops [] fr H te' fr' H' h _ hQ)
 ·rename_i d0 dst x args d1 hsp
  rw [Option.bind_eq_some_iff] at h
  obtain ⟨⟨te1, fr1, H1⟩, h1, h2⟩ := h
  refine W_callV d0 d1 dst x args (splitV_eq hsp) (evR_sound hF hce d0 [] fr H te1 fr1 H1 h1 _ ?_)
  have key : ∀ {g : Nat} {cs : List DV}, isClo (ev te1 fr1 x) g cs → (if (tlook t.1 g).isSome then (callE ce false g (args.map (ev te1 fr1) ++ cs) H1).bind fun r => evR ce false d1 (dst.onT te1 r.1) (dst.onX fr1 r.1) r.2 else none) = some (te', fr', H') →
    ∃ f cs, isClo (ev te1 fr1 x) f cs ∧ Callable F.P f ∧ callR F f (args.map (ev te1 fr1) ++ cs) te1 fr1 H1 fun d te' fr' H' => regW F d1 (dst.onT te' d) (dst.onX fr' d) H' fun _ fr H => Q .norm fr H := by
   intro g cs hc hm
   split at hm
   ·rename_i hg
    obtain ⟨e, he⟩ := Option.isSome_iff_exists.1 hg
    rw [Option.bind_eq_some_iff] at hm
    obtain ⟨⟨r, H2⟩, g1, g2⟩ := hm
    exact ⟨g, cs, hc, (ht.fn g e he).call, callE_sound (os := d1) (dst := dst) (K := fun _ fr H => Q .norm fr H) hF hce g1 (evR_sound hF hce d1 _ _ _ te' fr' H' g2 _ hQ)⟩
   ·cases hm
  simp only at h2
  split at h2
  ·rename_i g cs hx; exact key (.inl hx) h2
  ·rename_i g hx; exact key (.inr ⟨hx, rfl⟩) h2
  ·cases h2
def capO (fr : Fr) (H : Hp) : List DOper → Option Nat
 | [] => none
 | o :: os => match o.op with
  | .mkf _ ps => match ps.findSome? fun p => match ev [] fr p with
    | .ptr q _ => match lkH H q with
     | some cs => if decide (q < 1048576) && cs.all DV.rf then some q else none
     | none => none
    | _ => none with
   | some q => some q
   | none => capO fr H os
  | _ => capO fr H os
def ownT (fr : Fr) (ops : List DOper) : Opd → Option Nat
 | .t a => ops.findSome? fun p => match p.op with
  | .mv (.x k) => if p.dst.slot == some a then (match lk fr k with | .osl _ q _ _ => some q | _ => none) else none
  | _ => none
 | .x k => (match lk fr k with | .osl _ q _ _ => some q | _ => none)
 | _ => none
def slcO (fr : Fr) (ops : List DOper) : Option Nat := ops.findSome? fun o => match o.op with
 | .slc _ x _ _ => ownT fr ops x
 | .bsl _ _ ps => ps.findSome? fun p => ownT fr ops p.2.2
 | _ => none
def frzO (fr : Fr) (H : Hp) (ops : List DOper) : Option (Fr × Hp) := match slcO fr ops with
 | some o => match lkH H o with
  | some cs => if decide (o < 1048576) && cs.all DV.rf then some (mapF (frzp o cs) fr, rmH o cs H) else none
  | none => none
 | none => none
theorem frzO_sound {F : FnD} {c : DC} {Q : Ex → Fr → Hp → Prop} {fr : Fr} {H : Hp} {ops : List DOper} {z : Fr × Hp} (h : frzO fr H ops = some z) (hw : W F c Q z.1 z.2) : W F c Q fr H := by
 unfold frzO at h
 split at h
 ·rename_i o ho
  split at h
  ·rename_i cs hcs
   split at h
   ·rename_i hc
    cases h
    simp only [Bool.and_eq_true, decide_eq_true_eq] at hc
    exact W_freezeP o hcs hc.2 hw hc.1
   ·cases h
  ·cases h
 ·cases h
def DT.iopsO : DT → List DOper
 | .alt .no t => t.iops
 | _ => []
def hasSmall (H : Hp) : Bool := (domH H).any fun o => decide (o < 1000)
def ren1 (k : Nat) (fr : Fr) (H : Hp) (go : Fr → Hp → Nat → Option (EX × Fr × Hp × Nat)) : Option (EX × Fr × Hp × Nat) :=
 if hasSmall H then
  if pairsOK (freshN k (domH H)) && pairB (freshN k (domH H)) && decide ((freshN k (domH H)).map Prod.fst = domH H) then
   go (mapF (rn (look (freshN k (domH H)))) fr) (renH (look (freshN k (domH H))) (freshN k (domH H)) H) (k + H.length)
  else none
 else go fr H k
def sortF : Fr → Bool
 | [] => true
 | [_] => true
 | (a, _) :: (b, d) :: r => decide (a < b) && sortF ((b, d) :: r)
theorem sortF_lt : ∀ {r : Fr} {a : Nat} {d : DV}, sortF ((a, d) :: r) = true → ∀ p ∈ r, a < p.1
 | [], _, _, _, p, hp => by cases hp
 | (b, e) :: r, a, d, h, p, hp => by
  simp only [sortF, Bool.and_eq_true, decide_eq_true_eq] at h
  rcases List.mem_cons.1 hp with rfl | hp
  ·exact h.1
  ·have := sortF_lt h.2 p hp; omega
theorem subF_all {fr : Fr} : ∀ {r : Fr}, (∀ p ∈ r, lk fr p.1 = p.2) → subF fr r
 | [], _ => trivial
 | (k, d) :: r, h => ⟨h (k, d) List.mem_cons_self, subF_all fun p hp => h p (List.mem_cons_of_mem _ hp)⟩
theorem sortF_sub {fr : Fr} (h : sortF fr = true) : subF fr fr := by
 refine subF_all ?_
 induction fr with
 | nil => intro p hp; cases hp
 | cons x r ih =>
  obtain ⟨a, d⟩ := x
  intro p hp
  rcases List.mem_cons.1 hp with rfl | hp
  ·simp [lk]
  ·have h1 := sortF_lt h p hp
   have h2 : sortF r = true := by
    cases r with
    | nil => rfl
    | cons y r =>
     obtain ⟨b, e⟩ := y
     simp only [sortF, Bool.and_eq_true] at h
     exact h.2
   simp only [lk]
   rw [if_neg (by omega)]
   exact ih h2 p hp
def evStep (t : Tb) (rec : EvC) : EvC := fun F c fr H k => match c with
 | .skip => some (.norm, fr, H, k)
 | .reg ops => match capO fr H ops with
  | some o => match lkH H o with
   | some cs => if decide (o < 1048576) && cs.all DV.rf then rec F (.reg ops) (mapF (frzp o cs) fr) (rmH o cs H) k else none
   | none => none
  | none => match ren1 k fr H fun fr H k => (evV t (funE t rec k) ops fr H).map fun z => (.norm, z.2.1, z.2.2, k) with
   | some z => some z
   | none => (frzO fr H ops).bind fun z => rec F (.reg ops) z.1 z.2 k
 | .regd ops => ren1 k fr H fun fr H k => (evR (funE t rec k) true ops [] fr H).map fun z => (.norm, z.2.1, z.2.2, k)
 | .rego tr => match ren1 k fr H fun fr H k => (evO (funE t rec k) (fun g => (tlook t.1 g).isSome) F.own tr fr H).map fun z => (.norm, z.1, z.2, k) with
  | some z => some z
  | none => (frzO fr H tr.iopsO).bind fun z => rec F (.rego tr) z.1 z.2 k
 | .seq a b => (rec F a fr H k).bind fun x => match x with
  | (.norm, fr1, H1, k1) => rec F b fr1 H1 k1
  | x => some x
 | .cond c a b => match ev [] fr c with
  | .bool true => rec F a fr H k
  | .bool false => rec F b fr H k
  | _ => none
 | .block id b => (rec F b fr H k).map fun x => match x with
  | (.exit j, fr, H, k) => (if j = id then .norm else .exit j, fr, H, k)
  | x => x
 | .loop b => if sortF fr then (rec F b fr H k).bind fun x => match x with
  | (.norm, fr1, H1, k1) => rec F (.loop b) fr1 H1 k1
  | x => some x
  else none
 | .exit i => some (.exit i, fr, H, k)
 | .ret => some (.ret, (frAll 60 fr H).1, (frAll 60 fr H).2, k)
 | _ => none
noncomputable def evN (t : Tb) (n : Nat) : EvC := Nat.rec (fun _ _ _ _ _ => none) (fun _ rec => evStep t rec) n
theorem evN_0 (t : Tb) (F : FnD) (c : DC) (fr : Fr) (H : Hp) (k : Nat) : evN t 0 F c fr H k = none := rfl
theorem evN_succ (t : Tb) (n : Nat) : evN t (n + 1) = evStep t (evN t n) := rfl
def GoodEv (P : Program) (rec : EvC) : Prop := ∀ F c fr H k e fr' H' k', F.P = P → F.pure = false → rec F c fr H k = some (e, fr', H', k') → ∀ Q : Ex → Fr → Hp → Prop, Q e.ex fr' H' → W F c Q fr H
theorem keep_look {H : Hp} (o : Nat) : look (keepP H) o = if o ∈ domH H then some o else none := by
 unfold keepP
 split
 ·rename_i h
  obtain ⟨q, h1, h2⟩ := look_map (g := fun o => o) h
  rw [h1, h2]
 ·rename_i h; exact look_map_none h
theorem funE_good {P : Program} {t : Tb} {rec : EvC} (ht : TOK P t) (hr : GoodEv P rec) (k : Nat) : GoodCE P (funE t rec k) := by
 intro f ds H r H' h
 unfold funE at h
 split at h
 ·rename_i s hs
  cases h
  unfold factL at hs
  split at hs
  ·rename_i hH
   rw [Bool.and_eq_true, List.isEmpty_iff] at hH
   obtain ⟨rfl, hrf⟩ := hH
   obtain ⟨φ, h1, h2⟩ := findX_mem hs
   exact MRel_pure hrf (ht.kn _ _ h1 _ _ h2)
  ·cases hs
 rw [Option.bind_eq_some_iff] at h
 obtain ⟨e, he, h⟩ := h
 obtain ⟨hP, hpu, his, _⟩ := ht.fn f e he
 split at h
 ·rename_i hn
  rw [Option.bind_eq_some_iff] at h
  obtain ⟨⟨x, fr1, H1, k1⟩, h1, h2⟩ := h
  have fin : (x = .norm ∨ x = .ret) → ((resDs fr1 H1 e.rv).bind fun rs =>
    if pairsOK (keepP H) && (domH H).all (fun o => decide (1048576 ≤ o) && (lkH H1 o).isSome) then some (rn (look (keepP H)) (oneOf rs), renH (look (keepP H)) (keepP H) H1) else none) = some (r, H') → MRel P f ds H fun a b => a = r ∧ b = H' := by
   intro hx h2
   rw [Option.bind_eq_some_iff] at h2
   obtain ⟨rs, hrs, h2⟩ := h2
   split at h2
   ·rename_i hc
    cases h2
    simp only [Bool.and_eq_true, List.all_eq_true, decide_eq_true_eq] at hc
    obtain ⟨c2, c3⟩ := hc
    have hl := look_iff c2
    have hq : ∀ q, lkH (renH (look (keepP H)) (keepP H) H1) q = if q ∈ domH H then (lkH H1 q).map (List.map (rn (look (keepP H)))) else none := fun q => by
     rw [lkH_renH]
     by_cases hm : q ∈ domH H
     ·have := (hl q q).1 (by rw [keep_look, if_pos hm])
      rw [this, if_pos hm]
      obtain ⟨cs, hcs⟩ := Option.isSome_iff_exists.1 (c3 q hm).2
      simp only [Option.map_some, hcs, Option.getD_some, rnM]
     ·rw [if_neg hm]
      cases hu : unlook (keepP H) q with
      | none => rfl
      | some p =>
       have := (hl p q).2 hu
       rw [keep_look] at this
       split at this
       ·rename_i hp; cases this; exact absurd hp hm
       ·cases this
    have hnm : nmH (renH (look (keepP H)) (keepP H) H1) = look (keepP H) := funext fun o => by
     unfold nmH
     rw [hq, keep_look]
     by_cases hm : o ∈ domH H
     ·rw [if_pos hm, if_pos hm]
      obtain ⟨cs, hcs⟩ := Option.isSome_iff_exists.1 (c3 o hm).2
      rw [hcs]; rfl
     ·rw [if_neg hm, if_neg hm]; rfl
    rw [← hP]
    refine MRel_of his hn (hr _ _ _ _ _ _ _ _ _ hP hpu h1 _ ⟨?_, rs, _, _, ⟨rfl, rfl⟩, fun o _ hs => ?_, hrs, ?_, fun o c ho => ?_⟩)
    ·rcases hx with rfl | rfl
     ·exact .inl rfl
     ·exact .inr rfl
    ·have hm := domH_mem.1 hs
     rw [hq, if_pos hm]
     obtain ⟨cs, hcs⟩ := Option.isSome_iff_exists.1 (c3 o hm).2
     rw [hcs]; rfl
    ·rw [hnm]
    ·rw [hnm]
     rw [hq] at ho
     split at ho
     ·rw [Option.map_eq_some_iff] at ho
      obtain ⟨c0, g1, g2⟩ := ho
      exact ⟨c0, g1, g2⟩
     ·cases ho
   ·cases h2
  cases x with
  | norm => exact fin (.inl rfl) h2
  | ret => exact fin (.inr rfl) h2
  | exit j => cases h2
 ·cases h
theorem ren1_good {F : FnD} {c : DC} {fr : Fr} {H : Hp} {k : Nat} {go : Fr → Hp → Nat → Option (EX × Fr × Hp × Nat)} {z : EX × Fr × Hp × Nat} (h : ren1 k fr H go = some z) {Q : Ex → Fr → Hp → Prop} (hg : ∀ fr H k, go fr H k = some z → W F c Q fr H) : W F c Q fr H := by
 unfold ren1 at h
 split at h
 ·split at h
  ·rename_i hc
   simp only [Bool.and_eq_true, decide_eq_true_eq] at hc
   obtain ⟨⟨c1, c2⟩, c3⟩ := hc
   have hd : ∀ (ps : List (Nat × Nat)) o, (look ps o).isSome = true ↔ o ∈ ps.map Prod.fst := fun ps o => by
    induction ps with
    | nil => simp [look]
    | cons x r ih =>
     obtain ⟨a, b⟩ := x
     simp only [look, List.map_cons, List.mem_cons]
     by_cases e : a = o
     ·rw [if_pos e]; simp [e]
     ·rw [if_neg e, ih]
      constructor
      ·exact .inr
      ·rintro (h | h)
       ·exact absurd h.symm e
       ·exact h
   exact W_ren _ c1 c2 (fun o ho => by rw [hd, c3]; exact domH_mem.1 ho) (fun o ho => by rw [hd, c3] at ho; exact domH_mem.2 ho) (hg _ _ _ h)
  ·cases h
 ·exact hg _ _ _ h
theorem evStep_good {P : Program} {t : Tb} {rec : EvC} (ht : TOK P t) (hr : GoodEv P rec) (hloop : ∀ F b fr H k e fr' H' k', F.P = P → F.pure = false → evStep t rec F (.loop b) fr H k = some (e, fr', H', k') → ∀ Q : Ex → Fr → Hp → Prop, Q e.ex fr' H' → W F (.loop b) Q fr H) : GoodEv P (evStep t rec) := by
 intro F c fr H k e fr' H' k' hP hpu h Q hQ
 cases c with
 | skip => simp only [evStep, Option.some.injEq, Prod.mk.injEq] at h; obtain ⟨rfl, rfl, rfl, rfl⟩ := h; exact W_skip hQ
 | reg ops =>
  simp only [evStep] at h
  split at h
  ·rename_i o ho
   split at h
   ·rename_i cs hcs
    split at h
    ·rename_i hc
     simp only [Bool.and_eq_true, decide_eq_true_eq] at hc
     exact W_freezeP o hcs hc.2 (hr _ _ _ _ _ _ _ _ _ hP hpu h Q hQ) hc.1
    ·cases h
   ·cases h
  ·split at h
   ·rename_i z hz
    cases h
    refine ren1_good hz fun fr H k h => ?_
    rw [Option.map_eq_some_iff] at h
    obtain ⟨⟨te, fr1, H1⟩, h1, h2⟩ := h
    cases h2
    exact evV_sound ht hP hpu (funE_good ht hr _) h1 Q hQ
   ·rw [Option.bind_eq_some_iff] at h
    obtain ⟨z, h1, h2⟩ := h
    exact frzO_sound h1 (hr _ _ _ _ _ _ _ _ _ hP hpu h2 Q hQ)
 | regd ops =>
  simp only [evStep] at h
  refine ren1_good h fun fr H k h => ?_
  rw [Option.map_eq_some_iff] at h
  obtain ⟨⟨te, fr1, H1⟩, h1, h2⟩ := h
  cases h2
  subst hP
  exact W_regd (evR_sound (F := { F with pure := true }) rfl (funE_good ht hr _) ops [] fr H te fr1 H1 h1 _ hQ)
 | seq a b =>
  simp only [evStep] at h
  rw [Option.bind_eq_some_iff] at h
  obtain ⟨⟨x, fr1, H1, k1⟩, h1, h2⟩ := h
  refine W_seq (hr _ _ _ _ _ _ _ _ _ hP hpu h1 _ ?_)
  cases x with
  | norm => exact hr _ _ _ _ _ _ _ _ _ hP hpu h2 Q hQ
  | exit j => simp only [Option.some.injEq, Prod.mk.injEq] at h2; obtain ⟨rfl, rfl, rfl, rfl⟩ := h2; exact hQ
  | ret => simp only [Option.some.injEq, Prod.mk.injEq] at h2; obtain ⟨rfl, rfl, rfl, rfl⟩ := h2; exact hQ
 | cond c a b =>
  simp only [evStep] at h
  split at h
  ·rename_i hc; exact W_cond hc (fun _ => hr _ _ _ _ _ _ _ _ _ hP hpu h Q hQ) (fun h => by cases h)
  ·rename_i hc; exact W_cond hc (fun h => by cases h) (fun _ => hr _ _ _ _ _ _ _ _ _ hP hpu h Q hQ)
  ·cases h
 | block id b =>
  simp only [evStep] at h
  rw [Option.map_eq_some_iff] at h
  obtain ⟨⟨x, fr1, H1, k1⟩, h1, h2⟩ := h
  refine W_block (hr _ _ _ _ _ _ _ _ _ hP hpu h1 _ ?_)
  cases x with
  | norm => simp only [Prod.mk.injEq] at h2; obtain ⟨rfl, rfl, rfl, rfl⟩ := h2; exact hQ
  | ret => simp only [Prod.mk.injEq] at h2; obtain ⟨rfl, rfl, rfl, rfl⟩ := h2; exact hQ
  | exit j =>
   simp only [Prod.mk.injEq] at h2
   obtain ⟨rfl, rfl, rfl, rfl⟩ := h2
   simp only [EX.ex, blkQ]
   by_cases hj : j = id
   ·rw [if_pos hj] at hQ ⊢; exact hQ
   ·rw [if_neg hj] at hQ ⊢; exact hQ
 | loop b => exact hloop F b fr H k e fr' H' k' hP hpu h Q hQ
 | exit i => simp only [evStep, Option.some.injEq, Prod.mk.injEq] at h; obtain ⟨rfl, rfl, rfl, rfl⟩ := h; exact W_exit hQ
 | ret =>
  simp only [evStep, Option.some.injEq, Prod.mk.injEq] at h
  obtain ⟨rfl, rfl, rfl, rfl⟩ := h
  exact frAll_sound 60 _ _ (W_ret hQ)
 | regs n ops => cases h
 | rego tr =>
  simp only [evStep] at h
  split at h
  ·rename_i z hz
   cases h
   refine ren1_good hz fun fr H k h => ?_
   rw [Option.map_eq_some_iff] at h
   obtain ⟨⟨fr1, H1⟩, h1, h2⟩ := h
   cases h2
   subst hP
   exact evO_sound hpu (funE_good ht hr _) (fun g hg => by obtain ⟨e, he⟩ := Option.isSome_iff_exists.1 hg; exact (ht.fn g e he).call) h1 hQ
  ·rw [Option.bind_eq_some_iff] at h
   obtain ⟨z, h1, h2⟩ := h
   exact frzO_sound h1 (hr _ _ _ _ _ _ _ _ _ hP hpu h2 Q hQ)
 | bad => cases h
theorem evN_good {P : Program} {t : Tb} (ht : TOK P t) (n : Nat) : GoodEv P (evN t n) := by
 induction n using Nat.strongRecOn with
 | ind n ih =>
  cases n with
  | zero =>
   intro F c fr H k e fr' H' k' _ _ h
   rw [evN_0] at h; cases h
  | succ n =>
   rw [evN_succ]
   refine evStep_good ht (ih n (Nat.lt_succ_self n)) ?_
   intro F b fr H k e fr' H' k' hP hpu h Q hQ
   have hs : sortF fr = true := by
    simp only [evStep] at h
    split at h
    ·assumption
    ·cases h
   refine W_loop (σ := Fr × Hp × Nat × Nat) (fun s => s.1) (fun s => s.2.1) (fun s => s.2.2.2 ≤ n + 1 ∧ evN t s.2.2.2 F (.loop b) s.1 s.2.1 s.2.2.1 = some (e, fr', H', k')) (fun s => s.2.2.2) (fr, H, k, n + 1) ⟨Nat.le_refl _, h⟩ (sortF_sub hs) rfl ?_
   rintro ⟨fr1, H1, k1, m⟩ ⟨hm, h1⟩
   simp only at hm h1 ⊢
   cases m with
   | zero => rw [evN_0] at h1; cases h1
   | succ m =>
    rw [evN_succ] at h1
    simp only [evStep] at h1
    split at h1
    ·rw [Option.bind_eq_some_iff] at h1
     obtain ⟨⟨x, fr2, H2, k2⟩, g1, g2⟩ := h1
     refine ih m (by omega) F b fr1 H1 k1 x fr2 H2 k2 hP hpu g1 _ ?_
     cases x with
     | norm =>
      simp only at g2
      have hs2 : sortF fr2 = true := by
       cases m with
       | zero => rw [evN_0] at g2; cases g2
       | succ m =>
        rw [evN_succ] at g2
        simp only [evStep] at g2
        split at g2
        ·assumption
        ·cases g2
      exact ⟨(fr2, H2, k2, m), ⟨by show m ≤ n + 1; omega, g2⟩, Nat.lt_succ_self m, sortF_sub hs2, rfl⟩
     | exit j => simp only [Option.some.injEq, Prod.mk.injEq] at g2; obtain ⟨rfl, rfl, rfl, rfl⟩ := g2; exact hQ
     | ret => simp only [Option.some.injEq, Prod.mk.injEq] at g2; obtain ⟨rfl, rfl, rfl, rfl⟩ := g2; exact hQ
    ·cases h1
theorem PCalls_ev {P : Program} {t : Tb} (ht : TOK P t) (n : Nat) {f : Nat} {ds : List DV} {r : DV} (h : funE t (evN t n) 1000 f ds [] = some (r, [])) (hr : r.rf = true := by rfl) : PCalls P f ds r :=
 PCalls_rel (funE_good ht (evN_good ht n) 1000 f ds [] r [] h) hr
theorem WC_evN {P : Program} {t : Tb} (ht : TOK P t) {F : FnD} {code : Code} {c : DC} {fr fr' : Fr} {H H' : Hp} {k k' n : Nat} {Q : Ex → Fr → Hp → Prop} (hst : strip F.P F.vs F.own F.n code = c) (hP : F.P = P) (hpu : F.pure = false)
  (h : evN t n F c fr H k = some (.norm, fr', H', k')) (hQ : Q .norm fr' H') : WC F code Q fr H :=
 WC_of hst (evN_good ht n F c fr H k _ _ _ _ hP hpu h Q hQ)
def retC (x : Option (EX × Fr × Hp × Nat)) (rv : List RV) (r : DV) : Bool := match x with
 | some (.ret, fr', H', _) => match resDs fr' H' rv with
  | some ds => dvB (oneOf ds) r && r.rf
  | none => false
 | _ => false
theorem WC_evR {P : Program} {t : Tb} (ht : TOK P t) {F : FnD} {code : Code} {c : DC} {fr : Fr} {H : Hp} {k n : Nat} {rv : List RV} {r : DV} (hst : strip F.P F.vs F.own F.n code = c) (hP : F.P = P) (hpu : F.pure = false)
  (h : retC (evN t n F c fr H k) rv r = true) : WC F code (RetP rv r) fr H := by
 unfold retC at h
 split at h
 ·rename_i fr' H' k' he
  split at h
  ·rename_i ds hds
   rw [Bool.and_eq_true] at h
   exact WC_of hst (evN_good ht n F c fr H k _ _ _ _ hP hpu he _ ⟨.inr rfl, ds, hds, by rw [dvB_eq h.1]; exact .imm h.2⟩)
  ·cases h
 ·cases h
noncomputable def efF (P : Program) (F : Func) (vs own : List Nat) : EF := ⟨⟨P, vs, own, F.ntmps, false⟩, (match F.body with
 | some c => strip P vs own F.ntmps c
 | none => .bad), (sRess P F.results.toList).getD []⟩
def okF (P : Program) (vs : List Nat) (F : Func) : Bool := F.body.isSome && (sRess P F.results.toList).isSome && resVs vs F.results.toList && (F.name != "runtime.NumGoroutine")
theorem TOK.f {P : Program} {t : Tb} {f : Nat} (h : TOK P t) {F : Func} (hf : P.funcs[f]? = some F) (vs own : List Nat) (hk : okF P vs F = true) : TOK P ((f, efF P F vs own) :: t.1, t.2) := by
 unfold okF at hk
 simp only [Bool.and_eq_true] at hk
 obtain ⟨⟨⟨h1, h2⟩, h3⟩, h4⟩ := hk
 obtain ⟨c, hc⟩ := Option.isSome_iff_exists.1 h1
 obtain ⟨rv, hr⟩ := Option.isSome_iff_exists.1 h2
 refine TOK.cons ⟨rfl, rfl, ⟨F, c, hf, hc, rfl, ?_, ?_, h3⟩, F, hf, h1, h4⟩ h
 ·unfold efF; rw [hc]
 ·unfold efF; rw [hr]; rfl
def kAns (az : List DV) (r : DV) : List DV → Option DV := fun ds => if dvL ds az then some r else none
theorem TOK.ans {P : Program} {t : Tb} {f : Nat} {az : List DV} {r : DV} (h : PCalls P f az r) (ht : TOK P t) : TOK P (t.1, (f, kAns az r) :: t.2) := TOK.ext (fun ds s hs => by
 unfold kAns at hs
 split at hs
 ·rename_i hd; cases hs; rw [dvL_eq hd]; exact h
 ·cases hs) ht
end Go.Dat
