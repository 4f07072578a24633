/- Lemmas of the walk; no conditions beyond those that each states. -/
import Derived.Shelf.Spec.SlicesInsertGrow
import Derived.Deep.RegionLaw
import Derived.Deep.LoopGhost
import Derived.Lib.SlicesDelete
import Derived.Sort.WalkB12
import Derived.Deep.Upon
import Derived.Test.YtjahkcgckiobkaaGreatDoorD2
set_option linter.unusedSimpArgs false
set_option linter.unusedVariables false
set_option linter.unnecessarySimpa false
set_option maxHeartbeats 4000000
namespace Go.Dat
open Go
section
variable {F : FnD}
def callS (F : FnD) (dp : DOper) (f : Nat) (args : List Opd) (K : (Nat → DV) → Heap → Prop) (σ : Nat → DV) (h : Heap) : Prop :=
 ∀ (G : Cx) (L : Nat → Option Nat) (a : Act) (w : World) (us : Array Value), G.n = F.n → G.ok F.P → R G L σ h a w → us.size = args.length →
  (∀ (k : Nat) d v, (args.map (evS σ))[k]? = some d → us[k]? = some v → V w L (Av G.S L) d v) →
  Calls F.P f us w fun e w' => ∃ v L' d σ' h', e = .returned v ∧ R G L' σ' h' a w' ∧ V w' L' (Av G.S L') d v ∧ SimK σ σ' ∧ K (updS σ' dp.dst.slot d) h'
def stepX (F : FnD) (dp : DOper) (K : (Nat → DV) → Heap → Prop) (σ : Nat → DV) (h : Heap) : Prop :=
 match dp.op with
 | .call f args => (gS σ dp.guard = some true ∧ callS F dp f args K σ h) ∨ (gS σ dp.guard = some false ∧ K (updS σ dp.dst.slot (.tup [])) h)
 | _ => stepD F dp K σ h
def stepN (F : FnD) (n i : Nat) (dp : DOper) (K : (Nat → DV) → Heap → Prop) (σ : Nat → DV) (h : Heap) : Prop := if i < n then stepD F dp K σ h else stepX F dp K σ h
def anyX (F : FnD) (n : Nat) (ops : Array Oper) (ds : List DOper) (K : (Nat → DV) → Heap → Prop) : Nat → Array Bool → (Nat → DV) → Heap → Prop
 | 0, listed, σ, h => Region.ready .any ops listed = [] ∧ K σ h
 | fuel + 1, listed, σ, h => (Region.ready .any ops listed = [] → K σ h) ∧
  ∀ i ∈ Region.ready .any ops listed, ∃ x, ds[i]? = some x ∧ stepN F n i x (anyX F n ops ds K fuel (listed.setIfInBounds i true)) σ h
def lexX (F : FnD) (n : Nat) : Nat → List DOper → ((Nat → DV) → Heap → Prop) → (Nat → DV) → Heap → Prop
 | _, [], K => K
 | k, o :: os, K => stepN F n k o (lexX F n (k + 1) os K)
theorem stepX_mono {dp : DOper} {K K' : (Nat → DV) → Heap → Prop} (hk : ∀ σ h, K σ h → K' σ h) {σ : Nat → DV} {h : Heap} (hs : stepX F dp K σ h) : stepX F dp K' σ h := by
 unfold stepX at hs ⊢
 split at hs
 ·rcases hs with ⟨h1, h2⟩ | ⟨h1, h2⟩
  ·refine .inl ⟨h1, fun G L a w us hn hG hR hs hv => (h2 G L a w us hn hG hR hs hv).mono ?_⟩
   rintro e w' ⟨v, L', d, σ', h', e1, e2, e3, e5, e4⟩
   exact ⟨v, L', d, σ', h', e1, e2, e3, e5, hk _ _ e4⟩
  ·exact .inr ⟨h1, hk _ _ h2⟩
 ·obtain ⟨d, ef, h1, h2⟩ := hs
  exact ⟨d, ef, h1, hk _ _ h2⟩
theorem stepX_plain {dp : DOper} (hc : dp.op.isCall = false) (K : (Nat → DV) → Heap → Prop) (σ : Nat → DV) (h : Heap) : stepX F dp K σ h = stepD F dp K σ h := by
 unfold stepX
 split
 ·rename_i f args e; rw [e] at hc; cases hc
 ·rfl
theorem stepN_mono {n i : Nat} {dp : DOper} {K K' : (Nat → DV) → Heap → Prop} (hk : ∀ σ h, K σ h → K' σ h) {σ : Nat → DV} {h : Heap} (hs : stepN F n i dp K σ h) : stepN F n i dp K' σ h := by
 unfold stepN at hs ⊢
 split
 ·rename_i hlt
  rw [if_pos hlt] at hs
  obtain ⟨d, ef, h1, h2⟩ := hs
  exact ⟨d, ef, h1, hk _ _ h2⟩
 ·rename_i hlt
  rw [if_neg hlt] at hs
  exact stepX_mono hk hs
theorem stepN_plain {n i : Nat} {dp : DOper} (hc : cpN n i dp = true) (K : (Nat → DV) → Heap → Prop) (σ : Nat → DV) (h : Heap) : stepN F n i dp K σ h = stepD F dp K σ h := by
 unfold stepN
 split
 ·rfl
 ·rename_i hlt
  simp only [cpN, decide_eq_false hlt, Bool.false_or, Bool.not_eq_true'] at hc
  exact stepX_plain hc K σ h
theorem anyX_first {n : Nat} {ops : Array Oper} {ds : List DOper} {K : (Nat → DV) → Heap → Prop} {i : Nat} {x : DOper} (hx : ds[i]? = some x) (hxc : cpN n i x = true) : ∀ (fuel : Nat) (listed : Array Bool) (σ : Nat → DV) (h : Heap) (di : DV) (ei : Eff),
  ClosedL ops listed → i ∈ Region.ready .any ops listed →
  (∀ j y, ds[j]? = some y → j ≠ i → listed.getD j true = false → Dep ops j i ∨ (x.apart y = true ∧ comOK x.op y.op = true ∧ cpN n j y = true)) →
  Gives F x σ h di ei → anyX F n ops ds K fuel (listed.setIfInBounds i true) (updS (ei.onS σ) x.dst.slot di) (ei.onH h) → anyX F n ops ds K (fuel + 1) listed σ h := by
 intro fuel
 induction fuel with
 | zero =>
  intro listed σ h di ei hc hi hap hg H
  refine ⟨fun e => (by rw [e] at hi; cases hi), fun j hj => ?_⟩
  by_cases hji : j = i
  ·subst hji; exact ⟨x, hx, by rw [stepN_plain hxc]; exact ⟨di, ei, hg, H⟩⟩
  ·have := ready_mono hj hji
   rw [H.1] at this; cases this
 | succ fuel ih =>
  intro listed σ h di ei hc hi hap hg H
  refine ⟨fun e => (by rw [e] at hi; cases hi), fun j hj => ?_⟩
  by_cases hji : j = i
  ·subst hji; exact ⟨x, hx, by rw [stepN_plain hxc]; exact ⟨di, ei, hg, H⟩⟩
  ·obtain ⟨y, hy, H'⟩ := H.2 j (ready_mono hj hji)
   obtain ⟨hjun, oj, hoj, hall⟩ := mem_ready.1 hj
   obtain ⟨hiun, _, _, _⟩ := mem_ready.1 hi
   have hnd : ¬ Dep ops j i := by
    intro hd
    have h1 := dep_listed hc hd fun o ho e he hb => by rw [hoj] at ho; cases ho; exact hall e he hb
    have h2 : listed.getD i true = true := by
     rw [Array.getD_eq_getD_getElem?] at h1 ⊢
     cases hq : listed[i]? with
     | none => rfl
     | some b => rw [hq] at h1; exact h1
    rw [hiun] at h2; cases h2
   obtain ⟨hap1, hap2, hyc⟩ := (hap j y hy hji hjun).resolve_left hnd
   rw [stepN_plain hyc] at H'
   obtain ⟨dj, ej, hgj, H'⟩ := H'
   obtain ⟨dj', ej', di', ei', g1, g2, g3, g4⟩ := diamond hap1 hap2 hg hgj
   refine ⟨y, hy, ?_⟩
   rw [stepN_plain hyc]
   refine ⟨dj', ej', g1, ih _ _ _ di' ei' (hc.set hj) (ready_mono hi (Ne.symm hji)) (fun k z hz hki hun => ?_) g2 ?_⟩
   ·refine hap k z hz hki ?_
    by_cases hjk : j = k
    ·subst hjk; exact hjun
    ·rwa [getD_set_ne true hjk] at hun
   ·rw [g3, g4, Array.setIfInBounds_comm _ _ hji]
    exact H'
theorem anyX_lex {n : Nat} {ops : Array Oper} {ds : List DOper} {K : (Nat → DV) → Heap → Prop} {deps : List (List Nat)} (hdeps : ∀ k x, x ∈ deps.getD k [] → Dep ops k x) (hlen : ds.length = ops.size) :
  ∀ (fuel k : Nat) (listed : Array Bool) (σ : Nat → DV) (h : Heap), k + fuel = ops.size → ClosedL ops listed → drawFromS n ops ds deps fuel k listed = true → lexX F n k (ds.drop k) K σ h → anyX F n ops ds K fuel listed σ h := by
 intro fuel
 induction fuel with
 | zero =>
  intro k listed σ h hk hc hd hl
  rw [List.drop_eq_nil_of_le (by omega)] at hl
  exact ⟨List.isEmpty_iff.1 hd, hl⟩
 | succ fuel ih =>
  intro k listed σ h hk hc hd hl
  simp only [drawFromS, Bool.and_eq_true, List.contains_iff_mem, List.all_eq_true, List.mem_range] at hd
  obtain ⟨⟨hr, hall⟩, hd⟩ := hd
  have hlt : k < ds.length := by omega
  rw [List.drop_eq_getElem_cons hlt] at hl
  have hother : ∀ j y, ds[j]? = some y → j ≠ k → listed.getD j true = false → Dep ops j k ∨ (ds[k].apart y = true ∧ comOK ds[k].op y.op = true ∧ cpN n k ds[k] = true ∧ cpN n j y = true) := by
   intro j y hy hjk hun
   have hjl : j < ops.size := by have := (List.getElem?_eq_some_iff.1 hy).1; omega
   have := hall j hjl
   rw [hun, List.getElem?_eq_getElem hlt, hy] at this
   simp only [Bool.or_eq_true, beq_iff_eq, Bool.false_eq_true, or_false, Bool.and_eq_true, List.contains_iff_mem] at this
   rcases this with (h1 | h1) | h1
   ·exact absurd h1 hjk
   ·exact .inl (hdeps _ _ h1)
   ·exact .inr ⟨h1.1.1, h1.1.2, h1.2.1, h1.2.2⟩
  cases hkc : cpN n k ds[k] with
  | true =>
   simp only [lexX] at hl
   rw [stepN_plain hkc] at hl
   obtain ⟨d, ef, hg, hl⟩ := hl
   refine anyX_first (List.getElem?_eq_getElem hlt) hkc fuel listed σ h d ef hc hr (fun j y hy hjk hun => ?_) hg (ih (k + 1) _ _ _ (by omega) (hc.set hr) hd hl)
   rcases hother j y hy hjk hun with h1 | ⟨h1, h2, _, h3⟩
   ·exact .inl h1
   ·exact .inr ⟨h1, h2, h3⟩
  | false =>
   refine ⟨fun e => (by rw [e] at hr; cases hr), fun j hj => ?_⟩
   have hjk : j = k := by
    apply Classical.byContradiction
    intro hne
    obtain ⟨hjun, oj, hoj, hallj⟩ := mem_ready.1 hj
    obtain ⟨hiun, _, _, _⟩ := mem_ready.1 hr
    have hjl : j < ops.size := (Array.getElem?_eq_some_iff.1 hoj).1
    rcases hother j ds[j] (List.getElem?_eq_getElem (by omega)) hne hjun with h1 | ⟨_, _, h2, _⟩
    ·have h1 := dep_listed hc h1 fun o ho e he hb => by rw [hoj] at ho; cases ho; exact hallj e he hb
     have h2 : listed.getD k true = true := by
      rw [Array.getD_eq_getD_getElem?] at h1 ⊢
      cases hq : listed[k]? with
      | none => rfl
      | some b => rw [hq] at h1; exact h1
     rw [hiun] at h2; cases h2
    ·rw [hkc] at h2; cases h2
   subst hjk
   exact ⟨ds[j], List.getElem?_eq_getElem hlt, stepN_mono (fun σ h hk2 => ih (j + 1) _ _ _ (by omega) (hc.set hr) hd hk2) hl⟩
theorem regW_lexX (hp : F.pure = false) {K : Fr → Fr → Hp → Prop} {n : Nat} : ∀ (ds : List DOper) (k : Nat), n ≤ k → ds.all (·.tags F.vs) = true → ∀ (te fr : Fr) (H : Hp), regW F ds te fr H K →
  lexX F n k ds (fun σ h => ∃ te fr H, σ = den F.vs te fr ∧ h = lkH H ∧ K te fr H) (den F.vs te fr) (lkH H)
 | [], _, _, _, te, fr, H, hw => ⟨te, fr, H, rfl, rfl, hw⟩
 | o :: os, k, hkn, ht, te, fr, H, hw => by
  simp only [List.all_cons, Bool.and_eq_true] at ht
  obtain ⟨ht, hts⟩ := ht
  simp only [DOper.tags, Bool.and_eq_true] at ht
  obtain ⟨⟨t1, t2⟩, t3⟩ := ht
  have ih := regW_lexX hp (K := K) (n := n) os (k + 1) (by omega) hts
  have hd := dst_tag t1
  have skip : gS (den F.vs te fr) o.guard = some false → regW F os (o.dst.onT te (.tup [])) (o.dst.onX fr (.tup [])) H K → lexX F n k (o :: os) (fun σ h => ∃ te fr H, σ = den F.vs te fr ∧ h = lkH H ∧ K te fr H) (den F.vs te fr) (lkH H) := fun hg hw =>
   (show lexX F n k (o :: os) (fun σ h => ∃ te fr H, σ = den F.vs te fr ∧ h = lkH H ∧ K te fr H) (den F.vs te fr) (lkH H) from by
    have := ih _ _ _ hw
    rw [hd, den_put] at this
    show stepN F n k o _ _ _
    unfold stepN
    rw [if_neg (by omega)]
    unfold stepX
    rw [hd, sDst_slot]
    split
    ·exact .inr ⟨hg, this⟩
    ·exact ⟨.tup [], .no, ⟨.inr ⟨hg, rfl, rfl⟩⟩, by rw [hd, sDst_slot]; exact this⟩)
  have hev : ∀ p ∈ o.op.opds, ev te fr p = evS (den F.vs te fr) p := fun p hp => ev_tag (List.all_eq_true.1 t2 p hp)
  have go : gS (den F.vs te fr) o.guard = some true → (match o.op with
   | .call f args => callR F f (args.map (ev te fr)) te fr H fun d te' fr' H' => regW F os (o.dst.onT te' d) (o.dst.onX fr' d) H' K
   | p => OW (opE F.nb o.dst.slot (ev te fr) (lkH H) p) fun r => regW F os (o.dst.onT (r.2.onF te) r.1) (o.dst.onX (r.2.onF fr) r.1) (r.2.onL H) K) → lexX F n k (o :: os) (fun σ h => ∃ te fr H, σ = den F.vs te fr ∧ h = lkH H ∧ K te fr H) (den F.vs te fr) (lkH H) := fun hg hw =>
   (show lexX F n k (o :: os) (fun σ h => ∃ te fr H, σ = den F.vs te fr ∧ h = lkH H ∧ K te fr H) (den F.vs te fr) (lkH H) from by
    have plain : OW (opE F.nb o.dst.slot (ev te fr) (lkH H) o.op) (fun r => regW F os (o.dst.onT (r.2.onF te) r.1) (o.dst.onX (r.2.onF fr) r.1) (r.2.onL H) K) →
      ((∀ f args, o.op ≠ .call f args)) → lexX F n k (o :: os) (fun σ h => ∃ te fr H, σ = den F.vs te fr ∧ h = lkH H ∧ K te fr H) (den F.vs te fr) (lkH H) := by
     rintro ⟨⟨d, ef⟩, he, hk⟩ hnc
     show stepN F n k o _ _ _
     unfold stepN
     rw [if_neg (by omega)]
     unfold stepX
     split
     ·rename_i f args e; exact absurd e (hnc f args)
     refine ⟨d, ef, ⟨.inl ⟨hg, ?_⟩⟩, ?_⟩
     ·rw [opE_congr hev] at he
      unfold goD
      cases hop : o.op with
      | call f args => exact absurd hop (hnc f args)
      | _ => rw [hop] at he; exact he
     ·have := ih _ _ _ hk
      rw [hd, den_put, den_onF, lkH_onL] at this
      rw [hd, sDst_slot]
      exact this
    cases hop : o.op with
    | call f args =>
     rw [hop] at hw
     simp only [callR, hp, Bool.false_eq_true, if_false] at hw
     rw [hop] at hev
     have hm : args.map (ev te fr) = args.map (evS (den F.vs te fr)) := List.map_congr_left fun p hp => hev p hp
     rw [hm] at hw
     show stepN F n k o _ _ _
     unfold stepN
     rw [if_neg (by omega)]
     unfold stepX
     rw [hop]
     refine .inl ⟨hg, fun G L a w us hn hG hR hs hv => ?_⟩
     refine (hw G L a w us hG hR (by simpa using hs) hv).mono ?_
     rintro e w' ⟨v, L', d, te', fr', H', rfl, hR', hV, hsm, hk⟩
     refine ⟨v, L', d, _, _, rfl, hR', hV, hsm, ?_⟩
     have := ih _ _ _ hk
     rw [hd, den_put] at this
     rw [hd, sDst_slot]
     exact this
    | _ =>
     rw [hop] at hw
     exact plain (by rw [hop]; exact hw) (by rw [hop]; intro f args e; cases e))
  simp only [regW] at hw
  cases hgu : o.guard with
  | none =>
   rw [hgu] at hw
   exact go (by rw [hgu]; rfl) hw
  | some p =>
   obtain ⟨g, want⟩ := p
   rw [hgu] at hw t3
   have hgv := ev_tag (te := te) (fr := fr) t3
   simp only at hw
   split at hw
   ·rename_i b hb
    rw [hgv] at hb
    by_cases hbw : b = want
    ·exact go (by rw [hgu]; simp only [gS, hb]; simp [hbw]) (hw.1 hbw)
    ·exact skip (by rw [hgu]; simp only [gS, hb]; simp [hbw]) (hw.2 (by clear hw; cases b <;> cases want <;> first | rfl | exact absurd rfl hbw))
   ·rename_i hb
    rw [hgv] at hb
    exact skip (by rw [hgu]; simp only [gS, hb]) hw
   ·exact hw.elim
theorem Gives.np {dp : DOper} {σ : Nat → DV} {h : Heap} {d : DV} {ef : Eff} (hg : Gives { F with pure := true } dp σ h d ef) : Gives F dp σ h d ef := ⟨hg.out⟩
theorem lexX_pre {n : Nat} {K K' : (Nat → DV) → Heap → Prop} (d1 : List DOper) : ∀ (d0 : List DOper) (k : Nat) (σ : Nat → DV) (h : Heap), k + d0.length ≤ n → (∀ σ h, K σ h → lexX F n (k + d0.length) d1 K' σ h) →
  lexD { F with pure := true } d0 K σ h → lexX F n k (d0 ++ d1) K' σ h
 | [], k, σ, h, _, hk, hl => hk σ h hl
 | o :: os, k, σ, h, hkn, hk, hl => by
  obtain ⟨d, ef, hg, hl⟩ := hl
  simp only [List.length_cons] at hkn hk
  show stepN F n k o _ σ h
  unfold stepN
  rw [if_pos (by omega)]
  refine ⟨d, ef, hg.np, lexX_pre d1 os (k + 1) _ _ (by omega) (fun σ h h2 => ?_) hl⟩
  have := hk σ h h2
  rwa [show k + (os.length + 1) = k + 1 + os.length by omega] at this
end
section
variable {F : FnD} {G : Cx}
theorem anyX_sound {n : Nat} {ops : Array Oper} {ds : List DOper} {Q : Exit → Act → World → Prop} {K : (Nat → DV) → Heap → Prop} (hn : G.n = F.n ∧ G.ok F.P) (hs : sOpers F.P F.vs F.own F.n ops ops.toList = some ds)
  (hK : ∀ σ h L a w, R G L σ h a w → K σ h → Q .normal a w) : ∀ (fuel : Nat) (listed : Array Bool) (σ : Nat → DV) (h : Heap) (L : Nat → Option Nat) (a : Act) (w : World), R G L σ h a w →
   anyX F n ops ds K fuel listed σ h → wpAny F.P .any ops Q fuel listed a w := by
 intro fuel
 induction fuel with
 | zero => intro listed σ h L a w hR hA; exact ⟨hA.1, hK _ _ _ _ _ hR hA.2⟩
 | succ fuel ih =>
  intro listed σ h L a w hR hA
  refine ⟨fun e => hK _ _ _ _ _ hR (hA.1 e), fun i hi => ?_⟩
  obtain ⟨x, hx, hA'⟩ := hA.2 i hi
  obtain ⟨_, o, ho, _⟩ := mem_ready.1 hi
  obtain ⟨dp, hdp, hso⟩ := (sOpers_get _ _ hs).2 i o (by simpa using ho)
  rw [hx] at hdp; cases hdp
  have hgd : sGuard F.vs ops o.guard = some x.guard ∧ x.dst = sDst F.vs o.dst ∧ ∀ k, o.dst = some k → k < F.n := by
   simp only [sOper, Option.bind_eq_some_iff] at hso
   obtain ⟨p, hp, g, hg', hs⟩ := hso
   split at hs
   ·rename_i hd; cases hs; exact ⟨hg', rfl, dst_lt hd⟩
   ·cases hs
  obtain ⟨hgu, hdst, hdl⟩ := hgd
  simp only [wpOp, ho]
  have hskip : anyX F n ops ds K fuel (listed.setIfInBounds i true) (updS σ x.dst.slot (.tup [])) h → wpAny F.P .any ops Q fuel (listed.setIfInBounds i true) (a.put o.dst undef) w := fun h2 => by
   rw [hdst, sDst_slot] at h2
   exact ih _ _ _ L _ w (hR.put V_undef (by rw [hn.1]; exact hdl)) h2
  unfold stepN at hA'
  split at hA'
  ·obtain ⟨d, ef, hg, hA'⟩ := hA'
   rcases hg.out with ⟨h1, h2⟩ | ⟨h1, rfl, rfl⟩
   ·rw [wantedS hR hgu h1, if_pos rfl]
    exact .inl (oper_soundS hso hn hR h2 fun L a w hR' => ih _ _ _ L a w hR' hA')
   ·rw [wantedS hR hgu h1, if_neg (by simp)]
    exact hskip hA'
  unfold stepX at hA'
  split at hA'
  ·rename_i f args hop
   rcases hA' with ⟨h1, h2⟩ | ⟨h1, h2⟩
   ·rw [wantedS hR hgu h1, if_pos rfl]
    refine .inl ?_
    obtain ⟨odst, op, ty, pos, after, guard⟩ := o
    obtain ⟨xdst, xop, xguard⟩ := x
    simp only [sOper, Option.bind_eq_some_iff] at hso
    obtain ⟨p, hp, g, hg', hs2⟩ := hso
    split at hs2
    ·simp only [Option.some.injEq, DOper.mk.injEq] at hs2
     obtain ⟨_, rfl, _⟩ := hs2
     simp only at hop hdst
     subst hop
     subst hdst
     obtain ⟨c, fn, rfl, hcal, hfn, hbody, hname, rfl⟩ := sOp_call hp
     obtain ⟨callee, cargs, argTypes⟩ := c
     simp only at hcal h2
     subst hcal
     have hE : EV F.vs (evS σ) w L (Av G.S L) a := fun x => ev_V hR x
     have hcall := h2 G L a w (cargs.map a.eval) hn.1 hn.2 hR (by simp) (fun k d v h1 h2 => by
      simp only [List.map_map, List.getElem?_map, Array.getElem?_toList, Option.map_eq_some_iff] at h1
      simp only [Array.getElem?_map, Option.map_eq_some_iff] at h2
      obtain ⟨x, hx, rfl⟩ := h1
      obtain ⟨y, hy, rfl⟩ := h2
      rw [hx] at hy; cases hy
      exact hE x)
     have hr : (execOp a.eval ⟨odst, .call { callee := .value (.func f), args := cargs, argTypes := argTypes }, ty, pos, after, guard⟩).run F.P w = .ok (.enter f (cargs.map a.eval)) w := by
      have hb : ¬ fn.body = none := by intro e; rw [e] at hbody; cases hbody
      have hnm : ¬ fn.name = "runtime.NumGoroutine" := by simpa using hname
      simp [execOp, resolve, Act.eval, Deferred.ofValue, invoke, callFunc, hfn, hnm, hb]
     unfold Oper.wp
     rw [hr]
     refine hcall.mono ?_
     rintro e w' ⟨v, L', d, σ', h', rfl, hR2, hv, _, hk⟩
     have hput := hR2.put hv (dst := odst) (by rw [hn.1]; exact hdl)
     rw [sDst_slot] at hk
     exact ih _ _ _ L' _ w' hput hk
    ·cases hs2
   ·rw [wantedS hR hgu h1, if_neg (by simp)]
    exact hskip h2
  ·obtain ⟨d, ef, hg, hA'⟩ := hA'
   rcases hg.out with ⟨h1, h2⟩ | ⟨h1, rfl, rfl⟩
   ·rw [wantedS hR hgu h1, if_pos rfl]
    exact .inl (oper_soundS hso hn hR h2 fun L a w hR' => ih _ _ _ L a w hR' hA')
   ·rw [wantedS hR hgu h1, if_neg (by simp)]
    exact hskip hA'
theorem W_regp {Q : Ex → Fr → Hp → Prop} {fr : Fr} {H : Hp} {n : Nat} {ds : List DOper} (hw : regW { F with pure := true } (ds.take n) [] fr H fun te fr H => regW F (ds.drop n) te fr H fun _ fr H => Q .norm fr H) (hp : F.pure = false := by rfl) : W F (.regs n ds) Q fr H := by
 intro code hc G L a w hn hR
 have main : ∀ (id : Nat) (ops : Array Oper), sOpers F.P F.vs F.own F.n ops ops.toList = some ds → (drawOKs F.vs n ops ds && F.P.follows .mixedOrders) = true → (Code.region id ops true).wp F.P (Post F G Q) a w := by
  intro id ops hds hok
  simp only [drawOKs, Bool.and_eq_true] at hok
  obtain ⟨⟨⟨_, htags⟩, hdf⟩, hm⟩ := hok
  refine wp_region_any hm ?_
  have hlen : ds.length = ops.size := by rw [(sOpers_get _ _ hds).1]; simp
  have ht0 : (ds.take n).all (·.tags F.vs) = true := List.all_eq_true.2 fun d hd => List.all_eq_true.1 htags d (List.mem_of_mem_take hd)
  have ht1 : (ds.drop n).all (·.tags F.vs) = true := List.all_eq_true.2 fun d hd => List.all_eq_true.1 htags d (List.mem_of_mem_drop hd)
  have hlex : lexX F n 0 ds (fun σ h => ∃ te fr' H', σ = den F.vs te fr' ∧ h = lkH H' ∧ Q .norm fr' H') (den F.vs [] fr) (lkH H) := by
   have h0 := regW_lex (F := { F with pure := true }) rfl (ds.take n) ht0 [] fr H hw
   have := lexX_pre (F := F) (n := n) (K' := fun σ h => ∃ te fr' H', σ = den F.vs te fr' ∧ h = lkH H' ∧ Q .norm fr' H') (ds.drop n) (ds.take n) 0 _ _ (by rw [List.length_take]; omega) (fun σ h hk => ?_) h0
   ·rwa [List.take_append_drop] at this
   ·obtain ⟨te, fr', H', rfl, rfl, hk⟩ := hk
    by_cases hle : n ≤ ds.length
    ·exact regW_lexX hp (ds.drop n) _ (by rw [List.length_take]; omega) ht1 te fr' H' hk
    ·rw [List.drop_eq_nil_of_le (by omega)] at hk ⊢
     exact ⟨te, fr', H', rfl, rfl, hk⟩
  have hany : anyX F n ops ds (fun σ h => ∃ te fr' H', σ = den F.vs te fr' ∧ h = lkH H' ∧ Q .norm fr' H') ops.size (Array.replicate ops.size false) (den F.vs [] fr) (lkH H) := by
   refine anyX_lex (deps := depsAll ops.toList []) (fun k x hx => ?_) hlen ops.size 0 _ _ _ (by omega) ?_ hdf hlex
   ·exact depsAll_sound ops.toList [] (fun j => by simp) (fun k x hx => by simp at hx) k x hx
   ·intro j o hj _ e _ _
    simp [Array.getD_eq_getD_getElem?, Array.getElem?_replicate] at hj
    split at hj <;> simp at hj
  refine anyX_sound (F := F) (G := G) (K := fun σ h => ∃ te fr' H', σ = den F.vs te fr' ∧ h = lkH H' ∧ Q .norm fr' H') hn hds ?_ ops.size _ _ _ L a _ (hR.still (w' := { w with drawn := w.drawn + 1 }) ⟨rfl, rfl, rfl, Nat.le_refl _, fun _ _ _ => rfl⟩) hany
  rintro σ h L a w hR' ⟨te, fr', H', rfl, rfl, hk⟩
  refine ⟨L, fr', H', .norm, hR'.weak fun s => ?_, rfl, hk⟩
  simp only [den, lk]
  split
  ·exact .inl rfl
  ·exact .inr rfl
 cases code <;> simp only [strip] at hc <;> first | (cases hc; done) | skip
 rename_i id ops draw
 split at hc
 ·rename_i ds' hds
  split at hc
  ·rename_i hd
   subst hd
   split at hc
   ·rename_i hok
    cases hc
    rw [Bool.and_assoc] at hok
    exact main id ops hds (Bool.and_eq_true _ _ |>.mp hok).2
   ·split at hc
    ·cases hc
    ·split at hc
     ·rename_i hok
      cases hc
      rw [Bool.and_assoc] at hok
      exact main id ops hds (Bool.and_eq_true _ _ |>.mp hok).2
     ·split at hc <;> cases hc
  ·cases hc
 ·cases hc
theorem W_regs {Q : Ex → Fr → Hp → Prop} {fr : Fr} {H : Hp} {ds : List DOper} (hw : regW F ds [] fr H fun _ fr H => Q .norm fr H) (hp : F.pure = false := by rfl) : W F (.regs 0 ds) Q fr H := W_regp hw hp
end
end Go.Dat
namespace Go.Dat
open Go
section
variable {F : FnD}
theorem DV.sim_val {d : DV} (h : d.sim = true) : ∃ v, ∀ (w : World) (A : Nat → Prop), VI w A d v := by
 cases d <;> first | (cases h; done) | exact ⟨_, fun w A => .int _ _⟩ | exact ⟨_, fun w A => .bool _⟩ | exact ⟨_, fun w A => .str _⟩
theorem sim_V {w w' : World} {L L' : Nat → Option Nat} {A A' : Nat → Prop} {d : DV} {v : Value} (h : d.sim = true) (hv : V w L A d v) : V w' L' A' d v := by
 cases d with
 | int k n => rw [hv.inv_int]; exact .imm (.int _ _)
 | bool b => rw [hv.inv_bool]; exact .imm (.bool _)
 | str l => rw [hv.inv_str]; exact .imm (.str _)
 | _ => cases h
theorem binE_sim {op : BinOp} {a b d : DV} (h : binE op a b = some d) : d.sim = true := by
 cases a <;> cases b <;> simp only [binE] at h <;> first | (cases h; done) | skip
 all_goals
  cases op <;> simp only [reduceCtorEq] at h <;> first | (obtain ⟨_, h⟩ := gd_some h; cases h; rfl) | (cases h; rfl)
theorem unE_sim {op : UnOp} {a d : DV} (h : unE op a = some d) : d.sim = true := by
 cases a <;> simp only [unE, reduceCtorEq] at h
 all_goals
  cases op <;> simp only [reduceCtorEq] at h <;> (cases h; rfl)
theorem flatK_cls {p : DOp} (h : p.flatK = true) : p.cls = 0 := by cases p <;> first | rfl | (cases h; done)
theorem flatK_call {p : DOp} (h : p.flatK = true) : p.isCall = false := by cases p <;> first | rfl | (cases h; done)
theorem flatK_out {x : DOper} {σ : Nat → DV} {h : Heap} {d : DV} {ef : Eff} (hf : x.op.flatK = true) (hgn : x.guard = none) (hs : ∀ p ∈ x.op.opds, (evS σ p).sim = true) (hg : Gives F x σ h d ef) :
  d.sim = true ∧ ef = .no := by
 refine ⟨?_, hg.noEff (by rw [flatK_cls hf]; exact Nat.zero_le _)⟩
 rcases hg.out with ⟨_, h1⟩ | ⟨h1, _⟩
 ·obtain ⟨dst, op, guard⟩ := x
  simp only at hf hs
  cases op <;> first | (cases hf; done) | skip
  ·simp only [goD, opE, Option.some.injEq, Prod.mk.injEq] at h1
   rw [← h1.1]; exact hs _ (by simp [DOp.opds])
  ·simp only [goD, opE, Option.map_eq_some_iff, Prod.mk.injEq] at h1
   obtain ⟨d', h2, rfl, _⟩ := h1
   exact binE_sim h2
  ·simp only [goD, opE, Option.map_eq_some_iff, Prod.mk.injEq] at h1
   obtain ⟨d', h2, rfl, _⟩ := h1
   exact unE_sim h2
  ·simp only [goD, opE] at h1
   split at h1
   ·simp only [Option.some.injEq, Prod.mk.injEq] at h1; rw [← h1.1]; rfl
   ·cases h1
  ·simp only [goD, opE] at h1
   split at h1
   ·simp only [Option.bind_eq_some_iff, Option.map_eq_some_iff, Prod.mk.injEq] at h1
    obtain ⟨_, _, _, _, h2, _⟩ := h1
    rw [← h2]; rfl
   ·cases h1
  ·simp only [goD, opE] at h1
   split at h1
   ·obtain ⟨_, h1⟩ := gd_some h1
    simp only [Option.some.injEq, Prod.mk.injEq] at h1; rw [← h1.1]; rfl
   ·cases h1
  ·simp only [goD, opE] at h1
   split at h1
   ·simp only [Option.some.injEq, Prod.mk.injEq] at h1; rw [← h1.1]; rfl
   ·cases h1
  ·simp only [goD, opE] at h1
   split at h1
   ·simp only [Option.some.injEq, Prod.mk.injEq] at h1; rw [← h1.1]; rfl
   ·obtain ⟨_, h1⟩ := gd_some h1
    simp only [Option.some.injEq, Prod.mk.injEq] at h1; rw [← h1.1]; rfl
   ·cases h1
 ·rw [hgn] at h1; cases h1
theorem evS_eq {σ σ' : Nat → DV} {o : Opd} (h : ∀ s, o.slot = some s → σ' s = σ s) : evS σ' o = evS σ o := by
 cases o with
 | c d => rfl
 | x k => exact h k rfl
 | t k => exact h k rfl
theorem mem_looks {x : DOper} {p : Opd} (hp : p ∈ x.op.opds) {s : Nat} (hs : p.slot = some s) : s ∈ x.looks := by
 unfold DOper.looks; exact List.mem_append.2 (.inl (List.mem_filterMap.2 ⟨p, hp, hs⟩))
theorem Gives.flat {x : DOper} {σ σ' : Nat → DV} {h h' : Heap} {d : DV} {ef : Eff} (hf : x.op.flatK = true) (hgn : x.guard = none) (he : ∀ p ∈ x.op.opds, evS σ' p = evS σ p) (hg : Gives F x σ h d ef) : Gives F x σ' h' d ef := by
 have hg2 := hg.heap0 (h' := h') (flatK_cls hf)
 rcases hg2.out with ⟨_, h1⟩ | ⟨h1, _⟩
 ·refine ⟨.inl ⟨by rw [hgn]; rfl, ?_⟩⟩
  unfold goD at h1 ⊢
  have hc := flatK_call hf
  cases hop : x.op with
  | call f args => rw [hop] at hc; cases hc
  | _ =>
   rw [hop] at h1 he
   simp only at h1 ⊢
   rw [opE_congr he]; exact h1
 ·rw [hgn] at h1; cases h1
theorem gS_flat {σ σ' : Nat → DV} {y : DOper} (h : ∀ s ∈ y.looks, σ' s = σ s) : gS σ' y.guard = gS σ y.guard := by
 cases hg : y.guard with
 | none => rfl
 | some p =>
  obtain ⟨g, w⟩ := p
  have : evS σ' g = evS σ g := evS_eq fun s hs => h s (by unfold DOper.looks; rw [hg]; exact List.mem_append.2 (.inr (by simp [hs])))
  simp only [gS, this]
theorem sim_pgS {o : Nat} {σ : Nat → DV} {p : Opd} (h : (evS σ p).sim = true) : evS (purgeS o σ) p = evS σ p := by
 cases p with
 | c d => rfl
 | x k => show purge o (σ k) = σ k; have h : (σ k).sim = true := h; revert h; cases σ k <;> intro h <;> first | (cases h; done) | simp [purge, DV.has]
 | t k => show purge o (σ k) = σ k; have h : (σ k).sim = true := h; revert h; cases σ k <;> intro h <;> first | (cases h; done) | simp [purge, DV.has]
theorem onS_sim {ef : Eff} {σ : Nat → DV} {p : Opd} (h : (evS σ p).sim = true) : evS (ef.onS σ) p = evS σ p := by
 cases ef with
 | app o c => exact sim_pgS h
 | _ => rfl
theorem R.unput {G : Cx} {L : Nat → Option Nat} {σ σ' : Nat → DV} {h : Heap} {a : Act} {w : World} {dst : Option Nat} {v : Value} (hsz : a.tmps.size = G.n) (hR : R G L σ' h (a.put dst v) w)
  (hs : ∀ s, dst ≠ some s → σ s = σ' s) (hd : ∀ s, dst = some s → V w L (Av G.S L) (σ s) (a.tmps.getD s undef)) : R G L σ h a w := by
 cases dst with
 | none =>
  have : σ = σ' := funext fun s => hs s (by simp)
  rw [this]; exact hR
 | some k =>
  refine { hR with size := hsz, defers := hR.defers, slots := fun s => ?_ }
  by_cases e : k = s
  ·subst e; exact hd k rfl
  ·have h1 := hR.slots s
   simp only [Act.put] at h1
   have : (a.tmps.setIfInBounds k v).getD s undef = a.tmps.getD s undef := by
    simp [Array.getD_eq_getD_getElem?, e]
   rw [this] at h1
   rw [hs s (by simp [e])]; exact h1
theorem anyX_flat {ops : Array Oper} {ds : List DOper} {K : (Nat → DV) → Heap → Prop} {i : Nat} {x : DOper} (hx : ds[i]? = some x) (hf : x.op.flatK = true) (hgn : x.guard = none) (hself : ∀ s, x.dst.slot = some s → s ∉ x.looks)
  (hdl : ∀ s, x.dst.slot = some s → s < F.n) : ∀ (fuel : Nat) (listed : Array Bool) (σ : Nat → DV) (h : Heap) (di : DV),
  ClosedL ops listed → i ∈ Region.ready .any ops listed →
  (∀ j y, ds[j]? = some y → j ≠ i → listed.getD j true = false → Dep ops j i ∨ (x.apart y = true ∧ (comOK x.op y.op = true ∨ y.op.isCall = true))) →
  (∀ p ∈ x.op.opds, (evS σ p).sim = true) → Gives F x σ h di .no → anyX F 0 ops ds K fuel (listed.setIfInBounds i true) (updS σ x.dst.slot di) h → anyX F 0 ops ds K (fuel + 1) listed σ h := by
 have hx0 : ∀ (K : (Nat → DV) → Heap → Prop) (σ : Nat → DV) (h : Heap) (di : DV), Gives F x σ h di .no → K (updS σ x.dst.slot di) h → stepN F 0 i x K σ h := fun K σ h di hg hk => by
  rw [stepN_plain (by simp [cpN, flatK_call hf])]
  exact ⟨di, .no, hg, hk⟩
 intro fuel
 induction fuel with
 | zero =>
  intro listed σ h di hc hi hap hsm hg H
  refine ⟨fun e => (by rw [e] at hi; cases hi), fun j hj => ?_⟩
  by_cases hji : j = i
  ·subst hji; exact ⟨x, hx, hx0 _ _ _ _ hg H⟩
  ·have := ready_mono hj hji
   rw [H.1] at this; cases this
 | succ fuel ih =>
  intro listed σ h di hc hi hap hsm hg H
  refine ⟨fun e => (by rw [e] at hi; cases hi), fun j hj => ?_⟩
  by_cases hji : j = i
  ·subst hji; exact ⟨x, hx, hx0 _ _ _ _ hg H⟩
  ·obtain ⟨y, hy, H'⟩ := H.2 j (ready_mono hj hji)
   obtain ⟨hjun, oj, hoj, hall⟩ := mem_ready.1 hj
   obtain ⟨hiun, _, _, _⟩ := mem_ready.1 hi
   have hnd : ¬ Dep ops j i := by
    intro hd
    have h1 := dep_listed hc hd fun o ho e he hb => by rw [hoj] at ho; cases ho; exact hall e he hb
    have h2 : listed.getD i true = true := by
     rw [Array.getD_eq_getD_getElem?] at h1 ⊢
     cases hq : listed[i]? with
     | none => rfl
     | some b => rw [hq] at h1; exact h1
    rw [hiun] at h2; cases h2
   obtain ⟨hap1, hap2⟩ := (hap j y hy hji hjun).resolve_left hnd
   obtain ⟨a1, a2, a3⟩ := apart_ev hap1
   have hdi := (flatK_out hf hgn hsm hg).1
   have hrest : ∀ k z, ds[k]? = some z → k ≠ i → (listed.setIfInBounds j true).getD k true = false → Dep ops k i ∨ (x.apart z = true ∧ (comOK x.op z.op = true ∨ z.op.isCall = true)) := fun k z hz hki hun => by
    refine hap k z hz hki ?_
    by_cases hjk : j = k
    ·subst hjk; exact hjun
    ·rwa [getD_set_ne true hjk] at hun
   -- what x looks at, y does not write
   have hev : ∀ (τ : Nat → DV) (d : DV), (∀ s ∈ x.looks, τ s = σ s) → ∀ p ∈ x.op.opds, evS (updS τ y.dst.slot d) p = evS σ p := fun τ d hτ p hp => evS_eq fun s hs => by
    have hm := mem_looks hp hs
    cases hyd : y.dst.slot with
    | none => exact hτ s hm
    | some t =>
     have : s ≠ t := fun e => a2 t hyd (e ▸ hm)
     simp only [updS, if_neg this]
     exact hτ s hm
   refine ⟨y, hy, ?_⟩
   cases hyc : y.op.isCall with
   | false =>
    have hcm : comOK x.op y.op = true := hap2.resolve_right (by rw [hyc]; simp)
    rw [stepN_plain (by simp [cpN, hyc])] at H' ⊢
    obtain ⟨dj, ej, hgj, H'⟩ := H'
    obtain ⟨dj', ej', di', ei', g1, g2, g3, g4⟩ := diamond (ei := .no) hap1 hcm hg hgj
    have hsm2 : ∀ p ∈ x.op.opds, evS (updS (ej'.onS σ) y.dst.slot dj') p = evS σ p := fun p hp => by
     rw [evS_eq (σ := ej'.onS σ) (fun s hs => by
      have hm := mem_looks hp hs
      cases hyd : y.dst.slot with
      | none => rfl
      | some t => simp only [updS, if_neg (fun e : s = t => a2 t hyd (e ▸ hm))])]
     exact onS_sim (hsm p hp)
    have hno := (flatK_out hf hgn (fun p hp => by rw [hsm2 p hp]; exact hsm p hp) g2).2
    subst hno
    refine ⟨dj', ej', g1, ih _ _ _ di' (hc.set hj) (ready_mono hi (Ne.symm hji)) hrest (fun p hp => by rw [hsm2 p hp]; exact hsm p hp) g2 ?_⟩
    have e3 : updS (updS (ej'.onS σ) y.dst.slot dj') x.dst.slot di' = updS (ej.onS (updS σ x.dst.slot di)) y.dst.slot dj := g3
    have e4 : ej'.onH h = ej.onH h := g4
    rw [e3, e4, Array.setIfInBounds_comm _ _ hji]
    exact H'
   | true =>
    cases hyo : y.op with
    | call f args =>
     have hlk : ∀ s ∈ y.looks, updS σ x.dst.slot di s = σ s := fun s hs => by
      cases hxd : x.dst.slot with
      | none => rfl
      | some t => simp only [updS, if_neg (fun e : s = t => a1 t hxd (e ▸ hs))]
     unfold stepN at H' ⊢
     rw [if_neg (by omega)] at H' ⊢
     unfold stepX at H' ⊢
     rw [hyo] at H' ⊢
     simp only at H' ⊢
     rw [gS_flat hlk] at H'
     rcases H' with ⟨h1, h2⟩ | ⟨h1, h2⟩
     ·refine .inl ⟨h1, fun G L a w us hn hG hR hs hv => ?_⟩
      obtain ⟨vi, hvi⟩ := DV.sim_val hdi
      have hR' := hR.put (dst := x.dst.slot) (V.imm (hvi w (Av G.S L))) (fun k hk => by rw [hn]; exact hdl k hk)
      refine (h2 G L _ w us hn hG hR' hs fun k d v e1 e2 => ?_).mono ?_
      ·refine hv k d v ?_ e2
       rw [← e1]
       congr 1
       refine List.map_congr_left fun p hp => (evS_eq fun s hs => ?_).symm
       exact hlk s (mem_looks (by rw [hyo]; exact hp) hs)
      ·rintro e w' ⟨v, L', d, σ', h', rfl, hR2, hV, hsk, hk⟩
       obtain ⟨σ2, hσ2⟩ : ∃ σ2 : Nat → DV, σ2 = fun s => if x.dst.slot = some s then (if (σ s).sim then σ s else .undef) else σ' s := ⟨_, rfl⟩
       have hne : ∀ s, x.dst.slot ≠ some s → σ2 s = σ' s := fun s hs => by rw [hσ2]; simp only [if_neg hs]
       have hsm' : ∀ s, x.dst.slot ≠ some s → (σ s).sim = true → σ' s = σ s := fun s hs h0 => by
        have e : updS σ x.dst.slot di s = σ s := by
         cases hxd : x.dst.slot with
         | none => rfl
         | some t => simp only [updS, if_neg (fun e : s = t => hs (by rw [hxd, e]))]
        have := hsk s (by rw [e]; exact h0)
        rw [this, e]
       have hxs : ∀ s, x.dst.slot = some s → σ' s = di := fun s hs => by
        have e : updS σ x.dst.slot di s = di := by rw [hs]; simp [updS]
        have := hsk s (by rw [e]; exact hdi)
        rw [this, e]
       have hops : ∀ p ∈ x.op.opds, evS (updS σ2 y.dst.slot d) p = evS σ p := fun p hp => by
        cases p with
        | c d => rfl
        | x k | t k =>
         have hm := mem_looks hp rfl
         have h0 : (σ k).sim = true := hsm _ hp
         have h1 : x.dst.slot ≠ some k := fun e => hself k e hm
         show updS σ2 y.dst.slot d k = σ k
         have h3 : σ2 k = σ k := by rw [hne k h1, hsm' k h1 h0]
         cases hyd : y.dst.slot with
         | none => exact h3
         | some t =>
          simp only [updS, if_neg (fun e : k = t => a2 t hyd (e ▸ hm))]
          exact h3
       refine ⟨v, L', d, σ2, h', rfl, hR2.unput hR.size hne (fun s hs => ?_), hV, fun s h0 => ?_, ?_⟩
       ·rw [hσ2]; simp only [if_pos hs]
        split
        ·rename_i h0; exact sim_V h0 (hR.slots s)
        ·exact .imm (.undef _)
       ·by_cases e : x.dst.slot = some s
        ·rw [hσ2]; simp only [if_pos e, h0, if_true]
        ·rw [hne s e, hsm' s e h0]
       ·refine ih _ _ _ di (hc.set hj) (ready_mono hi (Ne.symm hji)) hrest (fun p hp => by rw [hops p hp]; exact hsm p hp) (hg.flat hf hgn hops) ?_
        rw [Array.setIfInBounds_comm _ _ hji]
        have : updS (updS σ2 y.dst.slot d) x.dst.slot di = updS σ' y.dst.slot d := by
         rw [updS_comm a3]
         congr 1
         funext s
         cases hxd : x.dst.slot with
         | none => exact hne s (by rw [hxd]; simp)
         | some t =>
          simp only [updS]
          split
          ·rename_i e; subst e; exact (hxs s hxd).symm
          ·rename_i e; exact hne s (by rw [hxd]; simp [Ne.symm e])
        rw [this]
        exact hk
     ·refine .inr ⟨h1, ih _ _ _ di (hc.set hj) (ready_mono hi (Ne.symm hji)) hrest (fun p hp => by rw [hev σ _ (fun _ _ => rfl) p hp]; exact hsm p hp) (hg.flat hf hgn (hev σ _ fun _ _ => rfl)) ?_⟩
      rw [Array.setIfInBounds_comm _ _ hji, updS_comm a3]
      exact h2
    | _ => rw [hyo] at hyc; cases hyc
def treeI (F : FnD) (ds : List DOper) (K : (Nat → DV) → Heap → Prop) : IT → (Nat → DV) → Heap → Prop
 | .leaf, σ, h => K σ h
 | .st k t, σ, h => ∃ x, ds[k]? = some x ∧ stepX F x (treeI F ds K t) σ h
 | .fl k t, σ, h => ∃ x, ds[k]? = some x ∧ (∀ p ∈ x.op.opds, (evS σ p).sim = true) ∧ stepX F x (treeI F ds K t) σ h
 | .alt a b, σ, h => treeI F ds K a σ h ∧ treeI F ds K b σ h
theorem stepN_0 {i : Nat} {dp : DOper} {K : (Nat → DV) → Heap → Prop} {σ : Nat → DV} {h : Heap} (hs : stepX F dp K σ h) : stepN F 0 i dp K σ h := by
 unfold stepN; rw [if_neg (by omega)]; exact hs
theorem movN_spec {ops : Array Oper} {ds : List DOper} {deps : List (List Nat)} {k : Nat} {listed : Array Bool} (hlen : ds.length = ops.size) (hdeps : ∀ k x, x ∈ deps.getD k [] → Dep ops k x) (h : movN ops ds deps k listed = true) {x : DOper} (hx : ds[k]? = some x) :
  x.op.isCall = false ∧ ∀ j y, ds[j]? = some y → j ≠ k → listed.getD j true = false → Dep ops j k ∨ (x.apart y = true ∧ comOK x.op y.op = true ∧ y.op.isCall = false) := by
 unfold movN at h
 rw [hx] at h
 simp only [Bool.and_eq_true, Bool.not_eq_true', List.all_eq_true, List.mem_range] at h
 refine ⟨h.1, fun j y hy hjk hun => ?_⟩
 have := h.2 j (by have := (List.getElem?_eq_some_iff.1 hy).1; omega)
 rw [hun, hy] at this
 simp only [Bool.or_eq_true, beq_iff_eq, Bool.false_eq_true, or_false, Bool.and_eq_true, List.contains_iff_mem, Bool.not_eq_true'] at this
 rcases this with (h1 | h1) | h1
 ·exact absurd h1 hjk
 ·exact .inl (hdeps _ _ h1)
 ·exact .inr ⟨h1.1.1, h1.1.2, h1.2⟩
theorem movF_spec {n : Nat} {ops : Array Oper} {ds : List DOper} {deps : List (List Nat)} {k : Nat} {listed : Array Bool} (hlen : ds.length = ops.size) (hdeps : ∀ k x, x ∈ deps.getD k [] → Dep ops k x) (h : movF n ops ds deps k listed = true) {x : DOper} (hx : ds[k]? = some x) :
  x.op.flatK = true ∧ x.guard = none ∧ (∀ s, x.dst.slot = some s → s < n) ∧ (∀ s, x.dst.slot = some s → s ∉ x.looks) ∧
  ∀ j y, ds[j]? = some y → j ≠ k → listed.getD j true = false → Dep ops j k ∨ (x.apart y = true ∧ (comOK x.op y.op = true ∨ y.op.isCall = true)) := by
 unfold movF at h
 rw [hx] at h
 simp only [Bool.and_eq_true, List.all_eq_true, List.mem_range, Option.isNone_iff_eq_none] at h
 obtain ⟨⟨⟨⟨h1, h2⟩, h3⟩, h4⟩, h5⟩ := h
 refine ⟨h1, h2, dst_lt h3, fun s hs hm => ?_, fun j y hy hjk hun => ?_⟩
 ·rw [hs] at h4
  simp only [Bool.not_eq_true', List.contains_eq_mem, decide_eq_false_iff_not] at h4
  exact h4 hm
 ·have := h5 j (by have := (List.getElem?_eq_some_iff.1 hy).1; omega)
  rw [hun, hy] at this
  simp only [Bool.or_eq_true, beq_iff_eq, Bool.false_eq_true, or_false, Bool.and_eq_true, List.contains_iff_mem] at this
  rcases this with (h1 | h1) | h1
  ·exact absurd h1 hjk
  ·exact .inl (hdeps _ _ h1)
  ·exact .inr h1
theorem anyX_tree {ops : Array Oper} {ds : List DOper} {K : (Nat → DV) → Heap → Prop} {deps : List (List Nat)} (hdeps : ∀ k x, x ∈ deps.getD k [] → Dep ops k x) (hlen : ds.length = ops.size) :
  ∀ (t : IT) (fuel : Nat) (listed : Array Bool) (σ : Nat → DV) (h : Heap), ClosedL ops listed → treeI F ds K t σ h →
   (t.ok F.n ops ds deps true fuel listed = true → anyX F 0 ops ds K fuel listed σ h) ∧
   (t.ok F.n ops ds deps false fuel listed = true → ∀ i ∈ t.heads, ∃ f x, fuel = f + 1 ∧ ds[i]? = some x ∧ i ∈ Region.ready .any ops listed ∧ stepX F x (anyX F 0 ops ds K f (listed.setIfInBounds i true)) σ h) := by
 intro t
 induction t with
 | leaf =>
  intro fuel listed σ h hc ht
  refine ⟨fun hk => ?_, fun hk => ?_⟩
  ·simp only [IT.ok, Bool.true_and, List.isEmpty_iff] at hk
   cases fuel with
   | zero => exact ⟨hk, ht⟩
   | succ f => exact ⟨fun _ => ht, fun i hi => by rw [hk] at hi; cases hi⟩
  ·simp [IT.ok] at hk
 | st k t ih =>
  intro fuel listed σ h hc ht
  obtain ⟨x, hx, ht⟩ := ht
  cases fuel with
  | zero => refine ⟨fun hk => ?_, fun hk => ?_⟩ <;> simp [IT.ok] at hk
  | succ f =>
   refine ⟨fun hk => ?_, fun hk i hi => ?_⟩
   ·simp only [IT.ok, Bool.not_true, Bool.false_or, Bool.and_eq_true, Bool.or_eq_true, List.contains_iff_mem, List.all_eq_true, beq_iff_eq] at hk
    obtain ⟨⟨hr, hm⟩, hok⟩ := hk
    have hnext : ∀ σ h, treeI F ds K t σ h → anyX F 0 ops ds K f (listed.setIfInBounds k true) σ h := fun σ h ht => (ih f _ σ h (hc.set hr) ht).1 hok
    rcases hm with hm | hm
    ·obtain ⟨hxc, hall⟩ := movN_spec hlen hdeps hm hx
     rw [stepX_plain hxc] at ht
     obtain ⟨d, ef, hg, ht⟩ := ht
     refine anyX_first hx (by simp [cpN, hxc]) f listed σ h d ef hc hr (fun j y hy hjk hun => ?_) hg (hnext _ _ ht)
     rcases hall j y hy hjk hun with h1 | ⟨h1, h2, h3⟩
     ·exact .inl h1
     ·exact .inr ⟨h1, h2, by simp [cpN, h3]⟩
    ·refine ⟨fun e => (by rw [e] at hr; cases hr), fun j hj => ?_⟩
     obtain rfl := hm j hj
     exact ⟨x, hx, stepN_0 (stepX_mono hnext ht)⟩
   ·simp only [IT.ok, Bool.not_false, Bool.true_or, Bool.and_true, Bool.and_eq_true, List.contains_iff_mem] at hk
    obtain ⟨hr, hok⟩ := hk
    simp only [IT.heads, List.mem_singleton] at hi
    subst hi
    exact ⟨f, x, rfl, hx, hr, stepX_mono (fun σ h ht => (ih f _ σ h (hc.set hr) ht).1 hok) ht⟩
 | fl k t ih =>
  intro fuel listed σ h hc ht
  obtain ⟨x, hx, hsm, ht⟩ := ht
  cases fuel with
  | zero => refine ⟨fun hk => ?_, fun hk => ?_⟩ <;> simp [IT.ok] at hk
  | succ f =>
   refine ⟨fun hk => ?_, fun hk => by simp [IT.ok] at hk⟩
   simp only [IT.ok, Bool.true_and, Bool.and_eq_true, List.contains_iff_mem] at hk
   obtain ⟨⟨hr, hm⟩, hok⟩ := hk
   obtain ⟨h1, h2, h3, h4, h5⟩ := movF_spec hlen hdeps hm hx
   rw [stepX_plain (flatK_call h1)] at ht
   obtain ⟨d, ef, hg, ht⟩ := ht
   obtain rfl := (flatK_out h1 h2 hsm hg).2
   exact anyX_flat hx h1 h2 h4 h3 f listed σ h d hc hr h5 hsm hg ((ih f _ _ _ (hc.set hr) ht).1 hok)
 | alt a b iha ihb =>
  intro fuel listed σ h hc ht
  obtain ⟨hta, htb⟩ := ht
  have key : a.ok F.n ops ds deps false fuel listed = true → b.ok F.n ops ds deps false fuel listed = true → ∀ i ∈ a.heads ++ b.heads, ∃ f x, fuel = f + 1 ∧ ds[i]? = some x ∧ i ∈ Region.ready .any ops listed ∧ stepX F x (anyX F 0 ops ds K f (listed.setIfInBounds i true)) σ h := by
   intro ha hb i hi
   rcases List.mem_append.1 hi with h1 | h1
   ·exact (iha fuel listed σ h hc hta).2 ha i h1
   ·exact (ihb fuel listed σ h hc htb).2 hb i h1
  refine ⟨fun hk => ?_, fun hk i hi => ?_⟩
  ·simp only [IT.ok, Bool.not_true, Bool.false_or, Bool.and_eq_true, List.all_eq_true, List.contains_iff_mem] at hk
   obtain ⟨⟨hall, ha⟩, hb⟩ := hk
   have hne : ∃ i, i ∈ a.heads ++ b.heads := by
    have : ∀ (t : IT) (fu : Nat) (li : Array Bool), t.ok F.n ops ds deps false fu li = true → ∃ i, i ∈ t.heads := by
     intro t
     induction t with
     | leaf => intro fu li h; simp [IT.ok] at h
     | st k t _ => intro _ _ _; exact ⟨k, by simp [IT.heads]⟩
     | fl k t _ => intro _ _ _; exact ⟨k, by simp [IT.heads]⟩
     | alt a b iha _ =>
      intro fu li h
      simp only [IT.ok, Bool.not_false, Bool.true_or, Bool.true_and, Bool.and_eq_true] at h
      obtain ⟨i, hi⟩ := iha fu li h.1
      exact ⟨i, by simp [IT.heads, hi]⟩
    obtain ⟨i, hi⟩ := this a fuel listed ha
    exact ⟨i, List.mem_append.2 (.inl hi)⟩
   obtain ⟨i0, hi0⟩ := hne
   obtain ⟨f, _, rfl, _, hr0, _⟩ := key ha hb i0 hi0
   refine ⟨fun e => (by rw [e] at hr0; cases hr0), fun i hi => ?_⟩
   obtain ⟨f', x, hf, hx, _, hs⟩ := key ha hb i (hall i hi)
   cases hf
   exact ⟨x, hx, stepN_0 hs⟩
  ·simp only [IT.ok, Bool.not_false, Bool.true_or, Bool.true_and, Bool.and_eq_true] at hk
   exact key hk.1 hk.2 i hi
def regT (F : FnD) : DT → Fr → Fr → Hp → (Fr → Fr → Hp → Prop) → Prop
 | .leaf, te, fr, H, K => K te fr H
 | .no, _, _, _, _ => False
 | .st o t, te, fr, H, K => regW F [o] te fr H fun te fr H => regT F t te fr H K
 | .fl o t, te, fr, H, K => (o.op.opds.all fun p => (ev te fr p).sim) = true ∧ regW F [o] te fr H fun te fr H => regT F t te fr H K
 | .alt a b, te, fr, H, K => regT F a te fr H K ∧ regT F b te fr H K
theorem regT_treeI (hp : F.pure = false) {ds : List DOper} (htags : ds.all (·.tags F.vs) = true) {K : Fr → Fr → Hp → Prop} : ∀ (t : IT) (te fr : Fr) (H : Hp), regT F (t.dt ds) te fr H K →
  treeI F ds (fun σ h => ∃ te fr H, σ = den F.vs te fr ∧ h = lkH H ∧ K te fr H) t (den F.vs te fr) (lkH H) := by
 have one : ∀ (o : DOper) (k : Nat) (t : IT), ds[k]? = some o → (∀ te fr H, regT F (t.dt ds) te fr H K → treeI F ds (fun σ h => ∃ te fr H, σ = den F.vs te fr ∧ h = lkH H ∧ K te fr H) t (den F.vs te fr) (lkH H)) →
   ∀ te fr H, (regW F [o] te fr H fun te fr H => regT F (t.dt ds) te fr H K) → stepX F o (treeI F ds (fun σ h => ∃ te fr H, σ = den F.vs te fr ∧ h = lkH H ∧ K te fr H) t) (den F.vs te fr) (lkH H) := by
  intro o k t ho ih te fr H h
  have hm := List.mem_of_getElem? ho
  have h1 := regW_lexX hp (n := 0) [o] 0 (Nat.le_refl _) (by simp only [List.all_cons, List.all_nil, Bool.and_true]; exact List.all_eq_true.1 htags o hm) te fr H h
  have h2 : stepN F 0 0 o (fun σ h => ∃ te fr H, σ = den F.vs te fr ∧ h = lkH H ∧ regT F (t.dt ds) te fr H K) (den F.vs te fr) (lkH H) := h1
  unfold stepN at h2
  rw [if_neg (by omega)] at h2
  refine stepX_mono (fun σ h hk => ?_) h2
  obtain ⟨te, fr, H, rfl, rfl, hk⟩ := hk
  exact ih te fr H hk
 intro t
 induction t with
 | leaf => intro te fr H h; exact ⟨te, fr, H, rfl, rfl, h⟩
 | st k t ih =>
  intro te fr H h
  simp only [IT.dt] at h
  cases hk : ds[k]? with
  | none => rw [hk] at h; exact h.elim
  | some o =>
   rw [hk] at h
   exact ⟨o, hk, one o k t hk ih te fr H h⟩
 | fl k t ih =>
  intro te fr H h
  simp only [IT.dt] at h
  cases hk : ds[k]? with
  | none => rw [hk] at h; exact h.elim
  | some o =>
   rw [hk] at h
   refine ⟨o, hk, fun p hp => ?_, one o k t hk ih te fr H h.2⟩
   have h1 := List.all_eq_true.1 h.1 p hp
   have ht := List.all_eq_true.1 htags o (List.mem_of_getElem? hk)
   simp only [DOper.tags, Bool.and_eq_true] at ht
   rw [ev_tag (List.all_eq_true.1 ht.1.2 p hp)] at h1
   exact h1
 | alt a b iha ihb => intro te fr H h; exact ⟨iha te fr H h.1, ihb te fr H h.2⟩
theorem W_rego {Q : Ex → Fr → Hp → Prop} {fr : Fr} {H : Hp} {t : DT} (hw : regT F t [] fr H fun _ fr H => Q .norm fr H) (hp : F.pure = false := by rfl) : W F (.rego t) Q fr H := by
 intro code hc G L a w hn hR
 cases code <;> simp only [strip] at hc <;> first | (cases hc; done) | skip
 rename_i id ops draw
 split at hc
 ·rename_i ds hds
  split at hc
  ·rename_i hd
   subst hd
   split at hc
   ·cases hc
   split at hc
   ·cases hc
   split at hc
   ·cases hc
   split at hc
   ·rename_i hok
    cases hc
    simp only [Bool.and_eq_true] at hok
    obtain ⟨⟨_, hok⟩, hm⟩ := hok
    simp only [itOK, Bool.and_eq_true] at hok
    obtain ⟨⟨_, htags⟩, hok⟩ := hok
    refine wp_region_any hm ?_
    have hlen : ds.length = ops.size := by rw [(sOpers_get _ _ hds).1]; simp
    have htree := regT_treeI hp htags _ _ _ _ hw
    have hany := (anyX_tree (F := F) (deps := depsAll ops.toList []) (fun k x hx => depsAll_sound ops.toList [] (fun j => by simp) (fun k x hx => by simp at hx) k x hx) hlen _ ops.size (Array.replicate ops.size false) _ _ (by
     intro j o hj _ e _ _
     simp [Array.getD_eq_getD_getElem?, Array.getElem?_replicate] at hj
     split at hj <;> simp at hj) htree).1 hok
    refine anyX_sound (F := F) (G := G) (K := fun σ h => ∃ te fr' H', σ = den F.vs te fr' ∧ h = lkH H' ∧ Q .norm fr' H') hn hds ?_ ops.size _ _ _ L a _ (hR.still (w' := { w with drawn := w.drawn + 1 }) ⟨rfl, rfl, rfl, Nat.le_refl _, fun _ _ _ => rfl⟩) hany
    rintro σ h L a w hR' ⟨te, fr', H', rfl, rfl, hk⟩
    refine ⟨L, fr', H', .norm, hR'.weak fun s => ?_, rfl, hk⟩
    simp only [den, lk]
    split
    ·exact .inl rfl
    ·exact .inr rfl
   ·cases hc
  ·cases hc
 ·cases hc
end
end Go.Dat
namespace Go.Dat
open Go
def DT.pre : DT → List DOper × DT
 | .st o t => (o :: t.pre.1, t.pre.2)
 | t => ([], t)
def WkD (d d' : DV) : Prop := ∀ (w : World) (A : Nat → Prop) (v : Value), VI w A d v → VI w A d' v
theorem WkD.refl (d : DV) : WkD d d := fun _ _ _ h => h
theorem WkD.nils (sz : Nat) : WkD .nils (.sl sz []) := fun _ _ _ h => by cases h; exact .sl0 _ _ _
inductive WkL : List DV → List DV → Prop where
 | nil : WkL [] []
 | cons {d d' : DV} {r r' : List DV} (h : WkD d d') (hr : WkL r r') : WkL (d :: r) (d' :: r')
theorem WkL.len : ∀ {xs ys : List DV}, WkL xs ys → xs.length = ys.length
 | _, _, .nil => rfl
 | _, _, .cons _ hr => by rw [List.length_cons, List.length_cons, hr.len]
theorem WkL.at : ∀ {xs ys : List DV}, WkL xs ys → ∀ {k : Nat} {d' : DV}, ys[k]? = some d' → ∃ d, xs[k]? = some d ∧ WkD d d'
 | _, _, .nil, _, _, h => by simp at h
 | _, _, .cons h hr, 0, _, e => by simp at e; subst e; exact ⟨_, rfl, h⟩
 | _, _, .cons h hr, k + 1, _, e => by
  obtain ⟨d, h1, h2⟩ := hr.at (k := k) (by simpa using e)
  exact ⟨d, by simpa using h1, h2⟩
theorem WkL.refl : ∀ xs : List DV, WkL xs xs
 | [] => .nil
 | x :: xs => .cons (WkD.refl x) (WkL.refl xs)
theorem WkL.app : ∀ {a b c d : List DV}, WkL a b → WkL c d → WkL (a ++ c) (b ++ d)
 | _, _, _, _, .nil, h => h
 | _, _, _, _, .cons h hr, k => .cons h (hr.app k)
theorem WkD.sl {xs ys : List DV} (sz : Nat) (h : WkL xs ys) : WkD (.sl sz xs) (.sl sz ys) := fun w A v hv => by
 have hl := h.len
 cases hv with
 | sl0 =>
  have : ys = [] := List.eq_nil_of_length_eq_zero (by simpa using hl.symm)
  subst this; exact .sl0 _ _ _
 | sl vs hx hn hc hA hcell hv =>
  refine .sl vs (fun e => ?_) (by rw [← hl]; exact hn) hc hA (fun k d' hk => ?_) (fun k d' hk => ?_)
  ·subst e; exact hx (List.eq_nil_of_length_eq_zero (by simpa using hl))
  ·obtain ⟨d, h1, _⟩ := h.at hk
   exact hcell k d h1
  ·obtain ⟨d, h1, h2⟩ := h.at hk
   exact h2 w A _ (hv k d h1)
theorem WkD.agg {xs ys : List DV} (h : WkL xs ys) : WkD (.agg xs) (.agg ys) := fun w A v hv => by
 have hl := h.len
 cases hv with
 | agg hs hv =>
  refine .agg (by rw [← hl]; exact hs) fun k d' u hk hu => ?_
  obtain ⟨d, h1, h2⟩ := h.at hk
  exact h2 w A _ (hv k d u h1 hu)
theorem PCalls_wk {P : Program} {f : Nat} {ds ds' : List DV} {r : DV} (h : WkL ds ds') (hc : PCalls P f ds' r) : PCalls P f ds r := by
 intro A w us hT hA hs hv
 refine hc A w us hT hA (by rw [← h.len]; exact hs) fun k d' v h1 h2 => ?_
 obtain ⟨d, e1, e2⟩ := h.at h1
 exact e2 w A v (hv k d v e1 h2)
def frzp (o : Nat) (cells : List DV) : DV → DV
 | .ptr p k => if p = o then (if cells ≠ [] then .el cells k else .undef) else .ptr p k
 | d => frz o cells d
theorem frzp_undef (o : Nat) (cells : List DV) : frzp o cells .undef = .undef := by simp [frzp, frz, purge]
theorem R.freezeP {G : Cx} {L : Nat → Option Nat} {σ : Nat → DV} {h : Heap} {a : Act} {w : World} (o : Nat) (hK : G.K o = none) {cells : List DV} (ho : h o = some cells) (hrf : cells.all DV.rf = true) (hR : R G L σ h a w) :
  R G (updL L o none) (fun s => frzp o cells (σ s)) (fun p => if p = o then none else (h p).map (·.map (frz o cells))) a w := by
 have hinv : ∀ p b, updL L o none p = some b → p ≠ o ∧ L p = some b := fun p b hp => by
  unfold updL at hp; by_cases e : p = o
  ·rw [if_pos e] at hp; cases hp
  ·rw [if_neg e] at hp; exact ⟨e, hp⟩
 have hAA : ∀ b, ¬ Av G.S L b → ¬ Av G.S (updL L o none) b := by
  rintro b hA (hS | ⟨p, hp⟩)
  ·exact hA (.inl hS)
  ·exact hA (.inr ⟨p, (hinv p b hp).2⟩)
 have hF := hR.freeze o hK ho hrf
 refine { hF with slots := fun s => ?_ }
 have h0 := hR.slots s
 have h1 := hF.slots s
 cases hs : σ s with
 | ptr p k =>
  rw [hs] at h0 h1
  simp only [frzp]
  by_cases hp : p = o
  ·subst hp
   rw [if_pos rfl]
   split
   ·rename_i hne
    obtain ⟨b, hL, hv0⟩ := h0.inv_ptr
    rw [hv0]
    ·obtain ⟨cells', cur, T', hho, hb, hl', hpp⟩ := hR.heap.at_ hL
     rw [ho] at hho; cases hho
     have hnb : ¬ Av G.S (updL L p none) b := by
      rintro (h1 | ⟨q, h1⟩)
      ·exact hR.heap.notS p b hL h1
      ·obtain ⟨h2, h3⟩ := hinv q b h1
       exact h2 (hR.heap.inj q p b h3 hL)
     have hget : ∀ j d, cells[j]? = some d → ∃ u, cur[j]? = some u ∧ VI w (Av G.S (updL L p none)) d u := fun j d hj => by
      obtain ⟨u, hu⟩ := exists_aget (l := cur) (k := j) (by have := (List.getElem?_eq_some_iff.1 hj).1; omega)
      exact ⟨u, hu, ((hpp j d u hj hu).rf_imm (List.all_eq_true.1 hrf d (List.mem_of_getElem? hj))).mono fun b _ hA => ⟨rfl, hAA b hA⟩⟩
     have hv := VI.el (w := w) (A := Av G.S (updL L p none)) (xs := cells) (i := k) (ad := ⟨b, 0, none⟩) (fun j => (cur[j]?).getD Go.undef) hne hnb (fun j d hj => by
      obtain ⟨u, hu, _⟩ := hget j d hj
      rw [add_lit, cell_of_row w b _ cur T' (0, 0) hb, Nat.zero_add, hu]; rfl) (fun j d hj => by
      obtain ⟨u, hu, hv'⟩ := hget j d hj
      rw [hu]; exact hv')
     rw [add_lit, Nat.zero_add] at hv
     exact .imm hv
   ·exact .imm (.undef _)
  ·rw [if_neg hp]
   have : frz o cells (.ptr p k) = .ptr p k := by simp [frz, purge, DV.has, hp]
   rw [this] at h1; exact h1
 | _ => rw [hs] at h1; exact h1
theorem W_freezeP {F : FnD} {c : DC} {Q : Ex → Fr → Hp → Prop} {fr : Fr} {H : Hp} (o : Nat) {cells : List DV} (ho : lkH H o = some cells) (hrf : cells.all DV.rf = true)
  (hw : W F c Q (mapF (frzp o cells) fr) (rmH o cells H)) (hlt : o < 1048576 := by decide) : W F c Q fr H := by
 intro code hc G L a w hn hR
 have h1 := hR.freezeP o (hR.keep_none hlt) ho hrf
 have e1 : (fun s => frzp o cells (den F.vs [] fr s)) = den F.vs [] (mapF (frzp o cells) fr) := by
  funext s
  simp only [den, lk_mapF _ (frzp_undef o cells), lk]
  split
  ·rfl
  ·exact frzp_undef o cells
 have e2 : (fun p => if p = o then none else (lkH H p).map (·.map (frz o cells))) = lkH (rmH o cells H) := by
  funext p; rw [lkH_rmH]
 rw [e1, e2] at h1
 exact hw code hc G _ a w hn h1
theorem run_copy_k {P : Program} (w : World) (dT sT ty elem : TypeId) (k b o dLen dCap : Nat) (a : Addr) (sLen sCap : Nat) (cs : List Value)
  (hu : P.underlying dT = some (.slice elem)) (hs : (P.info? elem).map (·.size) = some k) (hn : cs.length = Nat.min sLen dLen * k)
  (hsrc : ∀ j v, cs[j]? = some v → w.cell? (a.add j) = some v) (hc : ∀ j, j < cs.length → (w.cell? ⟨b, o + j, none⟩).isSome = true) (hf : ∀ j, j < cs.length → w.frozen? ⟨b, o + j, none⟩ = false) (h1 : ∀ v ∈ cs, v.oneCell' = true) :
  (Builtin.copy_ #[dT, sT] ty #[.slice (some ⟨b, o, none⟩) dLen dCap, .slice (some a) sLen sCap]).run P w = .ok (goInt (Nat.min sLen dLen)) (w.setCells b o cs) := by
 have hl := run_loadCells_list (P := P) w a cs hsrc
 have hst := run_storeCells_cells (P := P) b o cs 0 w (by simpa using hc) (by simpa using hf) h1
 cases hq : P.info? elem with
 | none => simp [hq] at hs
 | some i =>
  have hi : i.size = k := by simpa [hq] using hs
  rw [hn] at hl
  simp [Builtin.copy_, run_underlying hu, Builtin.lenOf, Builtin.firstCells, sizeOf, typeInfo, hq, hi, hl, hst]
theorem run_clear_k {P : Program} (w : World) (t e ty : TypeId) (z : Value) (k : Nat) (ht : P.underlying t = some (.slice e)) (hv : ∀ w, (zeroValue e).run P w = .ok z w) (hz : z.cells.size = k) (h1 : ∀ v ∈ z.cells.toList, v.oneCell' = true) (b o c : Nat)
  (hc : ∀ j, j < k → (w.cell? ⟨b, o + j, none⟩).isSome = true) (hf : ∀ j, j < k → w.frozen? ⟨b, o + j, none⟩ = false) :
  (Builtin.clear_ #[t] ty #[.slice (some ⟨b, o, none⟩) 1 c]).run P w = .ok (.tuple #[]) (w.setCells b o z.cells.toList) := by
 have hzc : (Builtin.zeroCells z.cells 1).toList = z.cells.toList := by
  simp only [Builtin.zeroCells, Nat.one_mul]
  apply List.ext_getElem
  ·simp
  ·intro i h1 h2
   simp at h1 h2 ⊢
   simp [Nat.mod_eq_of_lt h2, getElem!_pos z.cells i h2]
 have hst := run_storeCells_cells (P := P) b o z.cells.toList 0 w (by simpa [hz] using hc) (by simpa [hz] using hf) h1
 simp only [Nat.add_zero] at hst
 simp [Builtin.clear_, run_underlying ht, hv, hzc, hst]
def Callable (P : Program) (f : Nat) : Prop := ∃ fn, P.funcs[f]? = some fn ∧ fn.body.isSome = true ∧ (fn.name != "runtime.NumGoroutine") = true
def isClo (d : DV) (f : Nat) (cs : List DV) : Prop := d = .clo f cs ∨ (d = .fn f ∧ cs = [])
theorem V.inv_clo {w : World} {L : Nat → Option Nat} {A : Nat → Prop} {d : DV} {f : Nat} {cs : List DV} {v : Value} (hd : isClo d f cs) (h : V w L A d v) :
  ∃ vs : Array Value, v = .func (.func f) #[] vs ∧ cs.length = vs.size ∧ ∀ (k : Nat) d v, cs[k]? = some d → vs[k]? = some v → V w L A d v := by
 rcases hd with rfl | ⟨rfl, rfl⟩
 ·cases h with
  | imm h => cases h with
   | clo hl h => exact ⟨_, rfl, hl, fun k d v h1 h2 => .imm (h k d v h1 h2)⟩
 ·cases h with
  | imm h => cases h with
   | fn => exact ⟨#[], rfl, rfl, fun k d v h1 h2 => by simp at h1⟩
section
variable {F : FnD}
theorem sOp_callv {P : Program} {vs own : List Nat} {dst : Option Nat} {op : Op} {x : Opd} {args : List Opd} (hp : sOp P vs own dst op = some (.callv x args)) :
  ∃ c k, op = .call c ∧ c.callee = .value (.tmp k) ∧ x = sOpd vs (.tmp k) ∧ args = c.args.toList.map (sOpd vs) := by
 cases op with
 | call c =>
  obtain ⟨callee, cargs, argTypes⟩ := c
  cases callee with
  | value q =>
   cases q with
   | tmp k =>
    simp only [sOp, Option.some.injEq, DOp.callv.injEq] at hp
    exact ⟨_, k, rfl, rfl, hp.1.symm, hp.2.symm⟩
   | func f =>
    simp only [sOp] at hp
    split at hp
    ·split at hp <;> cases hp
    ·cases hp
   | _ => simp [sOp] at hp
  | invoke r m => simp [sOp] at hp
  | builtin b =>
   exfalso
   cases b with
   | append =>
    simp only [sOp] at hp
    repeat' split at hp
    all_goals first
     | (cases hp; done)
     | (simp only [Option.bind_eq_some_iff] at hp; obtain ⟨_, _, hp⟩ := hp; split at hp; (cases hp; done); (simp only [Option.some.injEq] at hp; split at hp <;> cases hp); done)
     | (simp only [Option.bind_eq_some_iff] at hp; obtain ⟨_, _, hp⟩ := hp; split at hp <;> cases hp)
   | clear =>
    simp only [sOp] at hp
    repeat' split at hp
    all_goals first
     | (cases hp; done)
     | (simp only [Option.bind_eq_some_iff] at hp; obtain ⟨_, _, _, _, hp⟩ := hp; split at hp <;> cases hp)
   | _ =>
    simp only [sOp] at hp
    repeat' split at hp
    all_goals first
     | (cases hp; done)
     | (simp only [Option.bind_eq_some_iff] at hp; obtain ⟨_, _, hp⟩ := hp; split at hp <;> cases hp)
 | makeFunc fn first caps =>
  cases fn with
  | func f =>
   simp only [sOp] at hp
   split at hp <;> cases hp
  | _ => simp [sOp] at hp
 | _ =>
  exfalso
  simp only [sOp] at hp
  repeat' split at hp
  all_goals first
   | (cases hp; done)
   | (simp only [Option.some.injEq] at hp; split at hp <;> cases hp; done)
   | (simp [Option.bind_eq_some_iff, Option.map_eq_some_iff] at hp; done)
   | (simp only [Option.map_eq_some_iff] at hp; obtain ⟨_, _, hp⟩ := hp; (repeat' split at hp) <;> cases hp; done)
   | (simp only [Option.bind_eq_some_iff, Option.map_eq_some_iff] at hp; obtain ⟨_, _, hp⟩ := hp; (repeat' split at hp) <;> first | (cases hp; done) | (obtain ⟨_, _, hp⟩ := hp; (repeat' split at hp) <;> cases hp; done) | (rw [Option.map_eq_some_iff] at hp; obtain ⟨_, _, hp⟩ := hp; cases hp; done))
theorem W_callV {Q : Ex → Fr → Hp → Prop} {fr : Fr} {H : Hp} {ds : List DOper} (d0 d1 : List DOper) (dst : Dst) (x : Opd) (args : List Opd) (hd : ds = d0 ++ ⟨dst, .callv x args, none⟩ :: d1)
  (h : regW F d0 [] fr H fun te fr H => ∃ f cs, isClo (ev te fr x) f cs ∧ Callable F.P f ∧ callR F f (args.map (ev te fr) ++ cs) te fr H fun d te' fr' H' => regW F d1 (dst.onT te' d) (dst.onX fr' d) H' fun _ fr H => Q .norm fr H) :
  W F (.reg ds) Q fr H := by
 subst hd
 intro code hc G L a w hn hR
 cases code <;> simp only [strip] at hc <;> first | (cases hc; done) | skip
 rename_i id ops draw
 split at hc
 ·rename_i ds' hds
  split at hc
  ·(repeat' split at hc) <;> cases hc
  ·rename_i hd
   cases hc
   have hd' : draw = false := by simpa using hd
   subst hd'
   obtain ⟨l0, l1, hl, h0, h1⟩ := sOpers_split _ _ _ hds
   refine wp_region_list ?_
   rw [hl]
   refine regW_pre hn (fun te fr H L a w hR' hk => ?_) l0 d0 h0 [] fr H L a w hR h
   match l1, h1 with
   | o :: l2, h1 =>
    simp only [sOpers, Option.bind_eq_some_iff, Option.map_eq_some_iff] at h1
    obtain ⟨d, hd, ds', hds', e⟩ := h1
    simp only [List.cons.injEq] at e
    obtain ⟨rfl, rfl⟩ := e
    obtain ⟨odst, op, ty, pos, after, guard⟩ := o
    simp only [sOper, Option.bind_eq_some_iff] at hd
    obtain ⟨p, hp, g, hg, hs⟩ := hd
    split at hs
    ·rename_i hdo
     simp only [Option.some.injEq, DOper.mk.injEq] at hs
     obtain ⟨rfl, rfl, rfl⟩ := hs
     have hdl := dst_lt hdo
     obtain ⟨c, kk, rfl, hcal, rfl, rfl⟩ := sOp_callv hp
     obtain ⟨callee, cargs, argTypes⟩ := c
     simp only at hcal hk
     subst hcal
     obtain ⟨f, cs, hclo, ⟨fn, hfn, hbody, hname⟩, hk⟩ := hk
     have hE : EV F.vs (ev te fr) w L (Av G.S L) a := fun x => by rw [ev_den]; exact ev_V hR' x
     obtain ⟨vs, ev1, ev2, ev3⟩ := V.inv_clo hclo (hE (.tmp kk))
     have hcall := callR_W hk G L a w (cargs.map a.eval ++ vs) hn.2 hR' (by simp [ev2]) (fun k d v h1 h2 => by
      rw [List.getElem?_append] at h1
      rw [Array.getElem?_append] at h2
      simp only [List.length_map, Array.length_toList, Array.size_map] at h1 h2
      split at h1
      ·rename_i hlt
       rw [if_pos hlt] at h2
       simp only [List.map_map, List.getElem?_map, Array.getElem?_toList, Option.map_eq_some_iff] at h1
       simp only [Array.getElem?_map, Option.map_eq_some_iff] at h2
       obtain ⟨x, hx, rfl⟩ := h1
       obtain ⟨y, hy, rfl⟩ := h2
       rw [hx] at hy; cases hy
       exact hE x
      ·rename_i hlt
       rw [if_neg hlt] at h2
       exact ev3 _ d v h1 h2)
     have hr : (execOp a.eval ⟨odst, .call { callee := .value (.tmp kk), args := cargs, argTypes := argTypes }, ty, pos, after, guard⟩).run F.P w = .ok (.enter f (cargs.map a.eval ++ vs)) w := by
      have hb : ¬ fn.body = none := by intro e; rw [e] at hbody; cases hbody
      have hnm : ¬ fn.name = "runtime.NumGoroutine" := by simpa using hname
      simp [execOp, resolve, ev1, Deferred.ofValue, invoke, callFunc, hfn, hnm, hb]
     have hw : Region.wanted (⟨odst, .call { callee := .value (.tmp kk), args := cargs, argTypes := argTypes }, ty, pos, after, guard⟩ : Oper) (yielded ops a.tmps) = true := wanted_none (F := F) (ops := ops) a.tmps hg
     simp only [wpList, hw, if_true]
     refine .inl ?_
     unfold Oper.wp
     rw [hr]
     refine hcall.mono ?_
     rintro e w' ⟨v, L', d, te', fr', H', rfl, hR2, hv, _, hKd⟩
     have hput := hR2.put hv (by rw [hn.1]; exact hdl)
     rw [← den_put] at hput
     refine regW_sound hn (fun te fr H L a w hR3 hk => ?_) l2 ds' hds' _ _ _ _ _ _ hput hKd
     refine ⟨L, fr, H, .norm, hR3.weak fun s => ?_, rfl, hk⟩
     simp only [den, lk]
     split
     ·exact .inl rfl
     ·exact .inr rfl
    ·cases hs
 ·cases hc
end
end Go.Dat
namespace Go.Dat
open Go
theorem sOp_isnil {P : Program} {vs own : List Nat} {dst : Option Nat} {op : Op} {neg : Bool} {x : Opd} (hp : sOp P vs own dst op = some (.isnil neg x)) :
  ∃ bop t x0 u e, op = .binOp bop t x0 (.const (.slice none 0 0)) u ∧ (bop = .eql ∨ bop = .neq) ∧ neg = (bop == .neq) ∧ P.underlying t = some (.slice e) ∧ x = sOpd vs x0 := by
 cases op with
 | binOp bop t x0 y u =>
  have key : ∀ b : BinOp, (b = .eql ∨ b = .neq) → (match P.underlying t with
    | some .bool => some (DOp.beq (b == .neq) (sOpd vs x0) (sOpd vs y))
    | some (.int _) | some .string => some (.bin b (sOpd vs x0) (sOpd vs y))
    | some (.slice _) => if isNilC y then some (.isnil (b == .neq) (sOpd vs x0)) else none
    | _ => none) = some (.isnil neg x) → ∃ bop' t' x0' u' e, Op.binOp b t x0 y u = .binOp bop' t' x0' (.const (.slice none 0 0)) u' ∧ (bop' = .eql ∨ bop' = .neq) ∧ neg = (bop' == .neq) ∧ P.underlying t' = some (.slice e) ∧ x = sOpd vs x0' := by
   intro b hb h
   split at h
   ·cases h
   ·cases h
   ·cases h
   ·rename_i e ht
    split at h
    ·rename_i hn
     cases h
     exact ⟨b, t, x0, u, e, by rw [isNilC_eq hn], hb, rfl, ht, rfl⟩
    ·cases h
   ·cases h
  cases bop <;> simp only [sOp] at hp <;> first | (cases hp; done) | skip
  ·exact key .eql (.inl rfl) hp
  ·exact key .neq (.inr rfl) hp
 | _ =>
  exfalso
  simp only [sOp] at hp
  repeat' first
   | (cases hp; done)
   | (obtain ⟨_, _, hp⟩ := hp)
   | split at hp
   | (simp only [Option.bind_eq_some_iff, Option.map_eq_some_iff] at hp; obtain ⟨_, _, hp⟩ := hp)
  all_goals first
   | contradiction
   | (rename_i h1 _ _ _ _; cases h1)
   | simp_all
section
variable {F : FnD}
theorem W_isnil {Q : Ex → Fr → Hp → Prop} {fr : Fr} {H : Hp} {ds : List DOper} (d0 : List DOper) (dst : Dst) (neg : Bool) (x : Opd) (hd : ds = d0 ++ [⟨dst, .isnil neg x, none⟩])
  (h : regW F d0 [] fr H fun te fr H => (∃ sz, ev te fr x = .sl sz []) ∧ ∀ b, Q .norm (dst.onX fr (.bool b)) H) : W F (.reg ds) Q fr H := by
 subst hd
 intro code hc G L a w hn hR
 cases code <;> simp only [strip] at hc <;> first | (cases hc; done) | skip
 rename_i id ops draw
 split at hc
 ·rename_i ds' hds
  split at hc
  ·(repeat' split at hc) <;> cases hc
  ·rename_i hd
   cases hc
   have hd' : draw = false := by simpa using hd
   subst hd'
   obtain ⟨l0, l1, hl, h0, h1⟩ := sOpers_split _ _ _ hds
   refine wp_region_list ?_
   rw [hl]
   refine regW_pre hn (fun te fr H L a w hR' hk => ?_) l0 d0 h0 [] fr H L a w hR h
   match l1, h1 with
   | o :: l2, h1 =>
    simp only [sOpers, Option.bind_eq_some_iff, Option.map_eq_some_iff] at h1
    obtain ⟨d, hd, ds', hds', e⟩ := h1
    simp only [List.cons.injEq] at e
    obtain ⟨rfl, rfl⟩ := e
    have hl2 : l2 = [] := by
     have := (sOpers_get _ _ hds').1
     exact List.length_eq_zero_iff.1 this.symm
    subst hl2
    obtain ⟨odst, op, ty, pos, after, guard⟩ := o
    simp only [sOper, Option.bind_eq_some_iff] at hd
    obtain ⟨p, hp, g, hg, hs⟩ := hd
    split at hs
    ·rename_i hdo
     simp only [Option.some.injEq, DOper.mk.injEq] at hs
     obtain ⟨rfl, rfl, rfl⟩ := hs
     have hdl := dst_lt hdo
     obtain ⟨bop, t, x0, u, e, rfl, hbop, rfl, ht, rfl⟩ := sOp_isnil hp
     obtain ⟨⟨sz, hev⟩, hq⟩ := hk
     have hx : V w L (Av G.S L) (.sl sz []) (a.eval x0) := by
      rw [← hev, ev_den]; exact ev_V hR' x0
     obtain ⟨A, n, c, e1⟩ : ∃ A n c, a.eval x0 = .slice A n c := by
      rcases hx.inv_sl with ⟨_, A, c, e1⟩ | ⟨hx0, _⟩
      ·exact ⟨A, 0, c, e1⟩
      ·exact absurd rfl hx0
     have eq : (Op.equal t (.slice A n c) (.slice none 0 0)).run F.P w = .ok A.isNone w := equalIn_nil 9999 ht A n c
     have e2 : a.eval (.const (.slice none 0 0)) = .slice none 0 0 := rfl
     have hr : (execOp a.eval ⟨odst, .binOp bop t x0 (.const (.slice none 0 0)) u, ty, pos, after, guard⟩).run F.P w = .ok (.value (.bool (if bop == .neq then A.isSome else A.isNone))) w := by
      rcases hbop with rfl | rfl <;> cases A <;> simp [execOp, e1, e2, eqGuard, binOp, eq]
     have hw : Region.wanted (⟨odst, .binOp bop t x0 (.const (.slice none 0 0)) u, ty, pos, after, guard⟩ : Oper) (yielded ops a.tmps) = true := wanted_none (F := F) (ops := ops) a.tmps hg
     simp only [wpList, hw, if_true]
     refine .inl ?_
     unfold Oper.wp
     rw [hr]
     generalize (if bop == .neq then A.isSome else A.isNone) = b at *
     have hput := hR'.put (dst := odst) (V.imm (VI.bool (w := w) (A := Av G.S L) b)) (by rw [hn.1]; exact hdl)
     rw [← den_put] at hput
     refine ⟨L, _, H, .norm, hput.weak fun s => ?_, rfl, hq b⟩
     simp only [den, lk]
     split
     ·exact .inl rfl
     ·exact .inr rfl
    ·cases hs
 ·cases hc
end
end Go.Dat
namespace Go.Dat
open Go
theorem setCell_meta (w : World) (a : Addr) (v : Value) : (w.setCell a v).os = w.os ∧ (w.setCell a v).tape = w.tape ∧ (w.setCell a v).output = w.output ∧ (w.setCell a v).heap.size = w.heap.size ∧
  (∀ k, k ≠ a.block → (w.setCell a v).heap[k]? = w.heap[k]?) ∧ ∀ k, (w.setCell a v).shape? k = w.shape? k := by
 refine ⟨rfl, rfl, rfl, by simp [World.setCell], fun k hk => Go.RowKit.Below.heap_setCell _ _ _ _ hk, fun k => ?_⟩
 by_cases e : k = a.block
 ·subst e
  simp only [World.shape?, World.setCell, Array.getElem?_modify, if_true]
  cases h : w.heap[a.block]? with
  | none => rfl
  | some o => cases o <;> (try rfl); simp only [Option.map_some]; split <;> simp
 ·simp only [World.shape?, Go.RowKit.Below.heap_setCell _ _ _ _ e]
theorem setCells_meta (b : Nat) : ∀ (vs : List Value) (o : Nat) (w : World), (w.setCells b o vs).os = w.os ∧ (w.setCells b o vs).tape = w.tape ∧ (w.setCells b o vs).output = w.output ∧ (w.setCells b o vs).heap.size = w.heap.size ∧
  (∀ k, k ≠ b → (w.setCells b o vs).heap[k]? = w.heap[k]?) ∧ ∀ k, (w.setCells b o vs).shape? k = w.shape? k
 | [], _, _ => ⟨rfl, rfl, rfl, rfl, fun _ _ => rfl, fun _ => rfl⟩
 | v :: r, o, w => by
  obtain ⟨a1, a2, a3, a4, a5, a6⟩ := setCells_meta b r (o + 1) (w.setCell ⟨b, o, none⟩ v)
  obtain ⟨b1, b2, b3, b4, b5, b6⟩ := setCell_meta w ⟨b, o, none⟩ v
  exact ⟨a1.trans b1, a2.trans b2, a3.trans b3, a4.trans b4, fun k hk => (a5 k hk).trans (b5 k hk), fun k => (a6 k).trans (b6 k)⟩
theorem Ext.setCells {S : Nat → Prop} {a w : World} (h : Ext S a w) (b o : Nat) (vs : List Value) (hb : S b ∨ a.heap.size ≤ b) : Ext S a (w.setCells b o vs) := by
 obtain ⟨a1, a2, a3, a4, a5, a6⟩ := setCells_meta b vs o w
 refine ⟨a1.trans h.os, a2.trans h.tape, a3.trans h.output, by rw [a4]; exact h.size, fun k hk hS => ?_⟩
 rw [a5 k (fun e => by subst e; exact hb.elim hS fun h2 => by omega)]
 exact h.block k hk hS
theorem row_VI {w w' : World} {A A' : Nat → Prop} {b n c sz : Nat} {Rr : List DV} (hn : Rr.length = n * sz) (hsz : 0 < sz) (hnc : n ≤ c) (hb : ¬ A' b)
  (hc : ∀ (k : Nat) d, Rr[k]? = some d → ∃ v, w'.cell? ⟨b, k, none⟩ = some v ∧ VI w A d v) (hm : ∀ x, x < w.heap.size → ¬ A x → w'.heap[x]? = w.heap[x]? ∧ ¬ A' x) : VI w' A' (.sl sz Rr) (.slice (some ⟨b, 0, none⟩) n c) := by
 by_cases hx : Rr = []
 ·subst hx
  have h0 : n * sz = 0 := by simpa using hn.symm
  rcases Nat.mul_eq_zero.1 h0 with rfl | h
  ·exact .sl0 _ _ _
  ·omega
 ·refine .sl (fun k => (w'.cell? ⟨b, k, none⟩).getD undef) hx hn hnc hb (fun k d hk => ?_) fun k d hk => ?_
  ·obtain ⟨v, h1, _⟩ := hc k d hk
   rw [add_lit, Nat.zero_add, h1]; rfl
  ·obtain ⟨v, h1, h2⟩ := hc k d hk
   simp only [h1, Option.getD_some]
   exact h2.mono hm
theorem MRel_fin {S : Nat → Prop} {L : Nat → Option Nat} {w w' : World} {H : Hp} {sz n c b : Nat} {Rr : List DV} (hH : HOK w S L (lkH H)) (hlow : ∀ o c, lkH H o = some c → o < 1048576) (hSl : ∀ x, S x → x < w.heap.size) (hn : Rr.length = n * sz) (hsz : 0 < sz) (hnc : n ≤ c)
  (hb : (∃ o, L o = some b) ∨ w.heap.size ≤ b) (hx : Ext (fun x => ∃ o, L o = some x) w w') (hsh : ∀ k, k < w.heap.size → w'.shape? k = w.shape? k)
  (hc : ∀ (k : Nat) d, Rr[k]? = some d → ∃ v, w'.cell? ⟨b, k, none⟩ = some v ∧ VI w (Av S L) d v) :
  ∃ v L' r H', (r = DV.sl sz Rr ∧ H' = ([] : Hp)) ∧ Ending.returned (.slice (some ⟨b, 0, none⟩) n c) = .returned v ∧ HOK w' S L' (lkH H') ∧ V w' L' (Av S L') r v ∧ Ext (fun x => ∃ o, L o = some x) w w' ∧
   (∀ o b, L o = some b → 1048576 ≤ o → L' o = some b) ∧ (∀ o b, L' o = some b → (∃ p, L p = some b) ∨ w.heap.size ≤ b) ∧ (∀ b, b < w.heap.size → w'.shape? b = w.shape? b) := by
 have hno : ∀ x, Av S (fun _ => none) x → S x := fun x h => by
  rcases h with h | ⟨o, h⟩
  ·exact h
  ·cases h
 refine ⟨_, fun _ => none, _, [], ⟨rfl, rfl⟩, rfl, ⟨(by intro o b h; cases h), (by intro o c h; cases h), (by intro o p b h; cases h), (by intro o b h; cases h), (by intro o b h; cases h)⟩, .imm (row_VI hn hsz hnc (fun h => ?_) hc fun x hx1 hx2 => ⟨hx.block x hx1 fun h => hx2 (.inr h), fun h => hx2 (.inl (hno x h))⟩), hx, fun o b h h2 => ?_, (by intro o b h; cases h), hsh⟩
 ·rcases hb with ⟨o, hb⟩ | hb
  ·exact hH.notS o b hb (hno b h)
  ·have := hSl b (hno b h); omega
 ·obtain ⟨cells, hcells⟩ := hH.dom o b h
  have := hlow o cells hcells
  omega
theorem callC_newS {F : FnD} {os : List DOper} {dst : Dst} {f : Nat} {ds : List DV} {te fr : Fr} {H : Hp} {K : Fr → Fr → Hp → Prop} (o : Nat) {m z n : Nat} {cs : List DV}
  (hc : MRel F.P f ds [] fun r H' => r = .osl z m 0 n ∧ H' = [(m, cs)]) (hp : F.pure = false) (hcs : ∀ d ∈ cs, d.rf = true) (hmm : tyNo m) (hto : tyNo o) (hlt : o < 1048576) (ho : lkH H o = none) (ha : ∀ d ∈ ds, d.rf = true)
  (hK : regW F os (dst.onT te (.osl z o 0 n)) (dst.onX fr (.osl z o 0 n)) (setH H o cs) K) : callC F os dst f ds te fr H K := by
 refine callC_rel hp (fwdn m o) (backn m o) (fbn m o) (fun p q h1 h2 => ?_) (fun p q h1 => (by unfold fwdn at h1; split at h1 <;> cases h1; subst p; exact hto.eq hmm)) (Hc := []) (fun q => ?_) (by rw [map_rf _ ha]; exact hc) ?_
 ·unfold fwdn at h1; split at h1
  ·omega
  ·cases h1
 ·unfold backn
  by_cases e : q = m
  ·rw [if_pos e, Option.bind_some, ho]; rfl
  ·rw [if_neg e, Option.bind_none]; rfl
 ·rintro r Hc' ⟨rfl, rfl⟩
  refine ⟨setH H o cs, fun p => ?_, ?_⟩
  ·rw [lkH_setH]
   unfold fwdn
   by_cases e : p = o
   ·subst e
    simp only [if_true, lkH_one, Option.map_some, map_rf _ hcs]
   ·rw [if_neg e]
    simp only [if_neg e]
    exact lk_id (pgn ho) p
  ·rw [mapF_id (pgn ho), mapF_id (pgn ho), rn]
   have e : backn m o m = some o := by unfold backn; rw [if_pos rfl]
   rw [e]
   exact hK
def gone2 (o q p : Nat) : Option Nat := if p = o then none else if p = q then none else some p
def fwG2 (o q p : Nat) : Option Nat := if p = o then some 1000 else if p = q then some 1001 else none
def bkG2 (o q p : Nat) : Option Nat := if p = 1000 then some o else if p = 1001 then some q else none
theorem callC_mv2 {F : FnD} {os : List DOper} {dst : Dst} {f : Nat} {ds : List DV} {te fr : Fr} {H : Hp} {K : Fr → Fr → Hp → Prop} (hp : F.pure = false) (o q : Nat) (args : List DV) (R : DV) {c1 c2 : List DV} (ho : o < 100000) (hq : q < 100000) (hne : o ≠ q) (h1 : lkH H o = some c1) (h2 : lkH H q = some c2)
  (hr1 : ∀ d ∈ c1, d.rf = true) (hr2 : ∀ d ∈ c2, d.rf = true) (hR : R.rf = true) (ha : ds.map (rn (fwG2 o q)) = args)
  (hc : MRel F.P f args [(1000, c1), (1001, c2)] fun r H' => r = R ∧ H' = []) (H2 : Hp) (hH2 : ∀ p, lkH H2 p = if p = o then none else if p = q then none else (lkH H p).map (List.map (rn (gone2 o q))))
  (hK : regW F os (dst.onT (mapF (rn (gone2 o q)) te) R) (dst.onX (mapF (rn (gone2 o q)) fr) R) H2 K) : callC F os dst f ds te fr H K := by
 subst ha
 have fn : ∀ p, p ≠ o → p ≠ q → fwG2 o q p = none := fun p h1 h2 => by simp [fwG2, h1, h2]
 have hg : pgN H (fwG2 o q) = gone2 o q := funext fun p => by
  unfold pgN gone2
  by_cases e : p = o
  ·subst e; simp [fwG2, h1]
  ·by_cases e2 : p = q
   ·subst e2; simp [fwG2, h2, Ne.symm hne]
   ·rw [fn p e e2, if_neg e, if_neg e2]
 refine callC_rel hp (fwG2 o q) (bkG2 o q) (fun p r => ?_) (fun p r h1 h2 => ?_) (fun p r h1 => ?_) (Hc := [(1000, c1), (1001, c2)]) (fun r => ?_) hc ?_
 ·unfold fwG2 bkG2
  constructor
  ·intro h; split at h
   ·cases h; rename_i e; subst e; simp
   ·split at h
    ·cases h; rename_i e; subst e; simp
    ·cases h
  ·intro h; split at h
   ·cases h; rename_i e; subst e; simp
   ·split at h
    ·cases h; rename_i e; subst e; simp [Ne.symm hne]
    ·cases h
 ·unfold fwG2 at h1
  split at h1
  ·omega
  ·split at h1
   ·omega
   ·cases h1
 ·unfold fwG2 at h1
  split at h1
  ·cases h1; refine tyNo.eq ?_ ?_ <;> (unfold tyNo; omega)
  ·split at h1
   ·cases h1; refine tyNo.eq ?_ ?_ <;> (unfold tyNo; omega)
   ·cases h1
 ·simp only [lkH, bkG2]
  by_cases e : r = 1000
  ·subst e
   rw [if_pos rfl, if_pos rfl, Option.bind_some, h1, Option.map_some, map_rf _ hr1]
  ·rw [if_neg (Ne.symm e), if_neg e]
   by_cases e2 : r = 1001
   ·subst e2
    rw [if_pos rfl, if_pos rfl, Option.bind_some, h2, Option.map_some, map_rf _ hr2]
   ·rw [if_neg (Ne.symm e2), if_neg e2]; rfl
 ·rintro r Hc' ⟨rfl, rfl⟩
  refine ⟨H2, fun p => ?_, ?_⟩
  ·rw [hH2]
   by_cases e : p = o
   ·subst e; rw [if_pos rfl]; simp [fwG2, lkH]
   ·rw [if_neg e]
    by_cases e2 : p = q
    ·subst e2; rw [if_pos rfl]; simp [fwG2, lkH, Ne.symm hne]
    ·rw [if_neg e2, fn p e e2, hg]
  ·rw [hg, rn_rf _ _ hR]; exact hK
def gone1 (o p : Nat) : Option Nat := if p = o then none else some p
def fwG1 (o p : Nat) : Option Nat := if p = o then some 1000 else none
def bkG1 (o p : Nat) : Option Nat := if p = 1000 then some o else none
theorem callC_mv {F : FnD} {os : List DOper} {dst : Dst} {f : Nat} {ds : List DV} {te fr : Fr} {H : Hp} {K : Fr → Fr → Hp → Prop} (hp : F.pure = false) (o : Nat) (args : List DV) (R : DV) {c1 : List DV} (ho : o < 100000) (h1 : lkH H o = some c1)
  (hr1 : ∀ d ∈ c1, d.rf = true) (hR : R.rf = true) (ha : ds.map (rn (fwG1 o)) = args)
  (hc : MRel F.P f args [(1000, c1)] fun r H' => r = R ∧ H' = []) (H2 : Hp) (hH2 : ∀ p, lkH H2 p = if p = o then none else (lkH H p).map (List.map (rn (gone1 o))))
  (hK : regW F os (dst.onT (mapF (rn (gone1 o)) te) R) (dst.onX (mapF (rn (gone1 o)) fr) R) H2 K) : callC F os dst f ds te fr H K := by
 subst ha
 have fn : ∀ p, p ≠ o → fwG1 o p = none := fun p h1 => by simp [fwG1, h1]
 have hg : pgN H (fwG1 o) = gone1 o := funext fun p => by
  unfold pgN gone1
  by_cases e : p = o
  ·subst e; simp [fwG1, h1]
  ·rw [fn p e, if_neg e]
 refine callC_rel hp (fwG1 o) (bkG1 o) (fun p r => ?_) (fun p r h1 h2 => ?_) (fun p r h1 => ?_) (Hc := [(1000, c1)]) (fun r => ?_) hc ?_
 ·unfold fwG1 bkG1
  constructor
  ·intro h; split at h
   ·cases h; rename_i e; subst e; simp
   ·cases h
  ·intro h; split at h
   ·cases h; rename_i e; subst e; simp
   ·cases h
 ·unfold fwG1 at h1
  split at h1
  ·omega
  ·cases h1
 ·unfold fwG1 at h1
  split at h1
  ·cases h1; refine tyNo.eq ?_ ?_ <;> (unfold tyNo; omega)
  ·cases h1
 ·simp only [lkH, bkG1]
  by_cases e : r = 1000
  ·subst e
   rw [if_pos rfl, if_pos rfl, Option.bind_some, h1, Option.map_some, map_rf _ hr1]
  ·rw [if_neg (Ne.symm e), if_neg e]; rfl
 ·rintro r Hc' ⟨rfl, rfl⟩
  refine ⟨H2, fun p => ?_, ?_⟩
  ·rw [hH2]
   by_cases e : p = o
   ·subst e; rw [if_pos rfl]; simp [fwG1, lkH]
   ·rw [if_neg e, fn p e, hg]
  ·rw [hg, rn_rf _ _ hR]; exact hK
theorem Ret_new {k o z n : Nat} {fr : Fr} {H : Hp} {cs : List DV} (h : lk fr k = .osl z o 0 n) (hH : lkH H o = some cs) (hr : ∀ d ∈ cs, d.rf = true) : RetPR [.t k] [] (fun r H' => r = .osl z o 0 n ∧ H' = [(o, cs)]) .ret fr H := by
 refine ⟨.inr rfl, [lk fr k], .osl z o 0 n, [(o, cs)], ⟨rfl, rfl⟩, fun o h1 h2 => (by cases h2), rfl, ?_, fun p c h => ?_⟩
 ·show rn _ (lk fr k) = _
  rw [h, rn]
  have : nmH [(o, cs)] o = some o := by simp [nmH, lkH]
  rw [this]
 ·rw [lkH_one] at h
  split at h
  ·rename_i e; subst e; cases h
   exact ⟨cs, hH, map_rf _ hr⟩
  ·cases h
def okHD (D : Hp) : Prop := ∀ e ∈ D, (100000 ≤ e.1 ∧ e.1 < 200000) ∧ ∀ d ∈ e.2, d.rf = true
theorem okHD.lk {D : Hp} (h : okHD D) : ∀ {p : Nat} {c : List DV}, lkH D p = some c → (100000 ≤ p ∧ p < 200000) ∧ ∀ d ∈ c, d.rf = true := by
 induction D with
 | nil => intro p c e; cases e
 | cons a D ih =>
  intro p c e
  obtain ⟨k, d⟩ := a
  simp only [lkH] at e
  split at e
  ·rename_i hk
   subst hk
   cases e
   exact h _ List.mem_cons_self
  ·exact ih (fun x hx => h x (List.mem_cons_of_mem _ hx)) e
theorem okHD.no {D : Hp} (h : okHD D) {p : Nat} (hp : p < 100000 ∨ 200000 ≤ p) : lkH D p = none := by
 cases e : lkH D p with
 | none => rfl
 | some c =>
  have := (h.lk e).1
  omega
theorem okHD.map {D : Hp} (h : okHD D) {f : DV → DV} (hf : ∀ d : DV, d.rf = true → f d = d) : mapH f D = D := by
 induction D with
 | nil => rfl
 | cons a D ih =>
  obtain ⟨k, d⟩ := a
  simp only [mapH]
  rw [ih fun x hx => h x (List.mem_cons_of_mem _ hx), List.map_congr_left (g := id) fun x hx => hf x ((h (k, d) List.mem_cons_self).2 x hx), List.map_id]
theorem okHD.purge {D : Hp} (h : okHD D) (o : Nat) : mapH (purge o) D = D := h.map fun _ hd => purge_of_rf o hd
theorem okHD.rm {D : Hp} (h : okHD D) {o : Nat} (ho : o < 100000) (cs : List DV) : rmH o cs D = D := by
 induction D with
 | nil => rfl
 | cons a D ih =>
  obtain ⟨k, d⟩ := a
  have hk := (h (k, d) List.mem_cons_self)
  simp only [rmH]
  rw [if_neg (by have := hk.1.1; simp only at this; omega), ih fun x hx => h x (List.mem_cons_of_mem _ hx), map_frz o cs hk.2]
def okO (D : Hp) (d : DV) : Prop := d.rf = true ∨ ∃ s o n, d = .osl s o 0 n ∧ (lkH D o).isSome = true
theorem okO.purge {D : Hp} (hD : okHD D) {d : DV} (h : okO D d) {p : Nat} (hp : p < 100000) : Dat.purge p d = d := by
 rcases h with h | ⟨s, o, n, rfl, ho⟩
 ·exact purge_of_rf p h
 ·obtain ⟨c, hc⟩ := Option.isSome_iff_exists.1 ho
  have := (hD.lk hc).1
  unfold Dat.purge
  rw [if_neg]
  simp [DV.has]
  omega
theorem okO.frz {D : Hp} (hD : okHD D) {d : DV} (h : okO D d) {p : Nat} (hp : p < 100000) (cs : List DV) : Dat.frz p cs d = d := by
 rcases h with h | ⟨s, o, n, rfl, ho⟩
 ·have := map_frz p cs (cs := [d]) (by simpa using h)
  simpa using this
 ·obtain ⟨c, hc⟩ := Option.isSome_iff_exists.1 ho
  have := (hD.lk hc).1
  simp only [Dat.frz]
  rw [if_neg (by omega)]
def wnd (pre post : List DV) (x y l c : DV) : List DV := pre ++ [x, y, l, c] ++ post
section
variable {pre post : List DV} {x y l c : DV}
theorem wnd_len : (wnd pre post x y l c).length = pre.length + 4 + post.length := by simp [wnd]; omega
theorem wnd_getD {j : Nat} (hj : j < 4) (z : DV) : (wnd pre post x y l c).getD (pre.length + j) z = [x, y, l, c].getD j z := by
 unfold wnd
 rw [List.getD_eq_getElem?_getD, List.getD_eq_getElem?_getD, List.append_assoc, List.getElem?_append_right (by omega), Nat.add_sub_cancel_left, List.getElem?_append_left (by simpa using hj)]
theorem wnd_map {f : DV → DV} (h1 : ∀ d ∈ pre, f d = d) (h2 : ∀ d ∈ post, f d = d) : (wnd pre post x y l c).map f = wnd pre post (f x) (f y) (f l) (f c) := by
 unfold wnd
 rw [List.map_append, List.map_append, List.map_congr_left (g := id) h1, List.map_congr_left (g := id) h2, List.map_id, List.map_id]
 rfl
theorem wnd_set2 (d : DV) : (wnd pre post x y l c).set (pre.length + 2) d = wnd pre post x y d c := by
 unfold wnd
 rw [List.append_assoc, List.set_append_right _ _ (by omega), Nat.add_sub_cancel_left, List.append_assoc]; rfl
theorem wnd_set3 (d : DV) : (wnd pre post x y l c).set (pre.length + 3) d = wnd pre post x y l d := by
 unfold wnd
 rw [List.append_assoc, List.set_append_right _ _ (by omega), Nat.add_sub_cancel_left, List.append_assoc]; rfl
end
end Go.Dat
namespace Go.Dat
open Go
def DV.flat1 : DV → Bool
 | .undef | .int .. | .bool _ | .str _ | .nilp | .nils | .nili | .fn _ => true
 | _ => false
theorem VI.flat1 {w w' : World} {A A' : Nat → Prop} {d : DV} {v : Value} (h : VI w A d v) (hf : d.flat1 = true) : VI w' A' d v := by
 cases h <;> first | (simp [DV.flat1] at hf; done) | constructor
def slo (o : Nat) (xs : List DV) : DV → DV
 | .osl sz p off n => if p = o ∧ sz ≠ 0 ∧ off + n * sz ≤ xs.length then .sl sz ((xs.drop off).take (n * sz)) else .undef
 | d => if d.rf then d else .undef
theorem callC_readS {F : FnD} {os : List DOper} {dst : Dst} {f : Nat} {ds : List DV} {te fr : Fr} {H : Hp} {K : Fr → Fr → Hp → Prop} (hp : F.pure = false) (o : Nat) {cells args : List DV} {r : DV} (hc : PCalls F.P f args r)
  (ho : lkH H o = some cells) (hcr : ∀ d ∈ cells, d.rf = true) (ha : ds.map (slo o cells) = args) (hr : r.flat1 = true) (hK : regW F os (dst.onT te r) (dst.onX fr r) H K) : callC F os dst f ds te fr H K := by
 subst ha
 refine callC_W hp ?_
 intro G L a w us hG hR hs hv
 have hlt : ∀ x, Av G.S L x → x < w.heap.size := by
  rintro x (h | ⟨p, h⟩)
  ·exact hR.sLt x h
  ·exact hR.heap.lt h
 obtain ⟨A', hA', hA2, hV⟩ : ∃ A' : Nat → Prop, (∀ x, A' x → x < w.heap.size) ∧ (∀ x, A' x → Av G.S L x) ∧ ∀ d v, V w L (Av G.S L) d v → VI w A' (slo o cells d) v := by
  rcases hR.heap.obj o cells ho with ⟨h1, h2⟩ | ⟨b, cs, T, hL, hb, hl, hcv⟩
  ·refine ⟨Av G.S L, hlt, fun _ h => h, fun d v h => ?_⟩
   have hrf : VI w (Av G.S L) (if d.rf = true then d else .undef) v := by
    split
    ·rename_i h3; exact h.rf_imm h3
    ·exact .undef _
   cases d with
   | osl sz p off n =>
    simp only [slo]
    split
    ·rename_i h3
     obtain ⟨rfl, h4, h5⟩ := h3
     cases h with
     | osl hL _ _ _ => rw [h1] at hL; cases hL
     | osl0 => rw [Nat.zero_mul, List.take_zero]; exact .sl0 _ _ _
     | imm h => cases h
    ·exact .undef _
   | _ => exact hrf
  ·refine ⟨fun x => Av G.S L x ∧ x ≠ b, fun x h => hlt x h.1, fun _ h => h.1, fun d v h => ?_⟩
   have hmono : ∀ {d : DV} {v : Value}, VI w (Av G.S L) d v → VI w (fun x => Av G.S L x ∧ x ≠ b) d v := fun h => h.mono fun x _ hx => ⟨rfl, fun h2 => hx h2.1⟩
   have hrf : VI w (fun x => Av G.S L x ∧ x ≠ b) (if d.rf = true then d else .undef) v := by
    split
    ·rename_i h3; exact hmono (h.rf_imm h3)
    ·exact .undef _
   cases d with
   | osl sz p off n =>
    simp only [slo]
    split
    ·rename_i h3
     obtain ⟨rfl, h4, h5⟩ := h3
     cases h with
     | osl0 => rw [Nat.zero_mul, List.take_zero]; exact .sl0 _ _ _
     | imm h => cases h
     | osl hL2 hcc hsh hm =>
      rw [hL] at hL2; cases hL2
      have hlen : ((cells.drop off).take (n * sz)).length = n * sz := by rw [List.length_take, List.length_drop]; omega
      by_cases hn : n = 0
      ·subst hn; rw [Nat.zero_mul, List.take_zero]; exact .sl0 _ _ _
      ·refine .sl (fun k => (cs[off + k]?).getD Go.undef) (fun e => ?_) hlen hcc (fun h => h.2 rfl) (fun k d hk => ?_) (fun k d hk => ?_)
       ·rw [e] at hlen
        have := Nat.mul_pos (Nat.pos_of_ne_zero hn) (Nat.pos_of_ne_zero h4)
        simp at hlen; omega
       ·have h6 := (List.getElem?_eq_some_iff.1 hk).1
        rw [hlen] at h6
        obtain ⟨u, hu⟩ := exists_aget (l := cs) (k := off + k) (by omega)
        rw [add_lit, cell_of_row w b (off + k) cs T (0, 0) hb, hu]; rfl
       ·rw [List.getElem?_take] at hk
        split at hk
        ·rw [List.getElem?_drop] at hk
         obtain ⟨u, hu⟩ := exists_aget (l := cs) (k := off + k) (by have := (List.getElem?_eq_some_iff.1 hk).1; omega)
         rw [hu]
         exact hmono ((hcv _ d u hk hu).rf_imm (hcr d (List.mem_of_getElem? hk)))
        ·cases hk
    ·exact .undef _
   | _ => exact hrf
 refine (hc A' w us (hG.tab hR) hA' (by simpa using hs) fun k d v h1 h2 => ?_).mono ?_
 ·rw [List.getElem?_map, Option.map_eq_some_iff] at h1
  obtain ⟨d0, hd0, rfl⟩ := h1
  exact hV d0 v (hv k d0 v hd0 h2)
 ·rintro e w' ⟨v, rfl, hvi, hx⟩
  exact ⟨v, L, r, te, fr, H, rfl, hR.still hx, .imm (hvi.flat1 hr), SimK.refl _, hK⟩
theorem RetP_ctt {n j k i o : Nat} {r s t : DV} {fr : Fr} {H : Hp} {cs : List DV} (h1 : lk fr j = .ptr o 0) (h2 : lkH H o = some cs) (h3 : cs.length = n)
  (e1 : Exp (lkH H) (.agg cs) r) (e2 : Exp (lkH H) (lk fr k) s) (e3 : Exp (lkH H) (lk fr i) t) : RetP [.cn n j, .t k, .t i] (.tup [r, s, t]) .ret fr H := by
 refine ⟨.inr rfl, [.agg cs, lk fr k, lk fr i], ?_, ?_⟩
 ·simp [resDs, resD1, h1, h2, h3, List.take_of_length_le (Nat.le_of_eq h3)]
 ·exact .tup rfl fun q d x hd hx => by
   match q, hd, hx with
   | 0, hd, hx => cases hd; cases hx; exact e1
   | 1, hd, hx => cases hd; cases hx; exact e2
   | 2, hd, hx => cases hd; cases hx; exact e3
   | q + 3, hd, hx => cases hd
theorem W_ext {F : FnD} {c : DC} {Q : Ex → Fr → Hp → Prop} {fr : Fr} {H : Hp} (H' : Hp) (he : ∀ p, lkH H p = lkH H' p) (h : W F c Q fr H') : W F c Q fr H := by
 have e : lkH H = lkH H' := funext he
 intro code hc G L a w hn hR
 rw [e] at hR
 exact h code hc G L a w hn hR
def rmP (o : Nat) : Hp → Hp
 | [] => []
 | (k, d) :: r => if k = o then rmP o r else (k, d.map (purge o)) :: rmP o r
theorem lkH_rmP (o : Nat) : ∀ (H : Hp) (s : Nat), lkH (rmP o H) s = if s = o then none else (lkH H s).map (·.map (purge o))
 | [], s => by simp [rmP, lkH]
 | (k, d) :: r, s => by
  have ih := lkH_rmP o r s
  simp only [rmP, lkH]
  by_cases h1 : k = o
  ·subst h1
   rw [if_pos rfl, ih]
   by_cases h2 : s = k
   ·rw [if_pos h2, if_pos h2]
   ·rw [if_neg h2, if_neg h2, if_neg (Ne.symm h2)]
  ·rw [if_neg h1]
   simp only [lkH]
   by_cases h2 : k = s
   ·subst h2
    rw [if_pos rfl, if_neg h1, if_pos rfl]; rfl
   ·rw [if_neg h2, if_neg h2, ih]
theorem W_drop {F : FnD} {c : DC} {Q : Ex → Fr → Hp → Prop} {fr : Fr} {H : Hp} (o : Nat) (hw : W F c Q (mapF (purge o) fr) (rmP o H)) (hlt : o < 1048576 := by decide) : W F c Q fr H := by
 intro code hc G L a w hn hR
 have h1 := hR.drop o (hR.keep_none hlt)
 have e1 : purgeS o (den F.vs [] fr) = den F.vs [] (mapF (purge o) fr) := by
  funext s
  simp only [den, purgeS, lk_mapF _ (purge_undef o), lk]
  split
  ·rfl
  ·exact purge_undef o
 have e2 : ((Heap.purge o (lkH H)).upd o none) = lkH (rmP o H) := by
  funext s
  rw [lkH_rmP]
  rfl
 rw [e1, e2] at h1
 exact hw code hc G _ a w hn h1
end Go.Dat
