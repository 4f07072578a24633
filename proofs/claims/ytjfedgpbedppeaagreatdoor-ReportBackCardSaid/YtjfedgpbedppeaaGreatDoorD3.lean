/- Lemmas of the walk; no conditions beyond those that each states. -/
import Derived.Test.YtjfedgpbedppeaaGreatDoorD2
set_option linter.unusedSimpArgs false
set_option linter.unusedVariables false
set_option linter.unnecessarySimpa false
set_option maxHeartbeats 4000000
namespace Go.Dat
open Go
section
variable {F : FnD}
def callS (F : FnD) (dp : DOper) (f : Nat) (args : List Opd) (K : (Nat → DV) → Heap → Prop) (σ : Nat → DV) (h : Heap) : Prop :=
 ∀ (G : Cx) (L : Nat → Option Nat) (a : Act) (w : World) (us : Array Value), G.n = F.n → G.ok F.P → R G L σ h a w → us.size = args.length →
  (∀ (k : Nat) d v, (args.map (evS σ))[k]? = some d → us[k]? = some v → V w L (Av G.S L) d v) →
  Calls F.P f us w fun e w' => ∃ v L' d σ' h', e = .returned v ∧ R G L' σ' h' a w' ∧ V w' L' (Av G.S L') d v ∧ SimK σ σ' ∧ K (updS σ' dp.dst.slot d) h'
def stepX (F : FnD) (dp : DOper) (K : (Nat → DV) → Heap → Prop) (σ : Nat → DV) (h : Heap) : Prop :=
 match dp.op with
 | .call f args => (gS σ dp.guard = some true ∧ callS F dp f args K σ h) ∨ (gS σ dp.guard = some false ∧ K (updS σ dp.dst.slot (.tup [])) h)
 | _ => stepD F dp K σ h
def stepN (F : FnD) (n i : Nat) (dp : DOper) (K : (Nat → DV) → Heap → Prop) (σ : Nat → DV) (h : Heap) : Prop := if i < n then stepD F dp K σ h else stepX F dp K σ h
def anyX (F : FnD) (n : Nat) (ops : Array Oper) (ds : List DOper) (K : (Nat → DV) → Heap → Prop) : Nat → Array Bool → (Nat → DV) → Heap → Prop
 | 0, listed, σ, h => Region.ready .any ops listed = [] ∧ K σ h
 | fuel + 1, listed, σ, h => (Region.ready .any ops listed = [] → K σ h) ∧
  ∀ i ∈ Region.ready .any ops listed, ∃ x, ds[i]? = some x ∧ stepN F n i x (anyX F n ops ds K fuel (listed.setIfInBounds i true)) σ h
def lexX (F : FnD) (n : Nat) : Nat → List DOper → ((Nat → DV) → Heap → Prop) → (Nat → DV) → Heap → Prop
 | _, [], K => K
 | k, o :: os, K => stepN F n k o (lexX F n (k + 1) os K)
theorem stepX_mono {dp : DOper} {K K' : (Nat → DV) → Heap → Prop} (hk : ∀ σ h, K σ h → K' σ h) {σ : Nat → DV} {h : Heap} (hs : stepX F dp K σ h) : stepX F dp K' σ h := by
 unfold stepX at hs ⊢
 split at hs
 ·rcases hs with ⟨h1, h2⟩ | ⟨h1, h2⟩
  ·refine .inl ⟨h1, fun G L a w us hn hG hR hs hv => (h2 G L a w us hn hG hR hs hv).mono ?_⟩
   rintro e w' ⟨v, L', d, σ', h', e1, e2, e3, e5, e4⟩
   exact ⟨v, L', d, σ', h', e1, e2, e3, e5, hk _ _ e4⟩
  ·exact .inr ⟨h1, hk _ _ h2⟩
 ·obtain ⟨d, ef, h1, h2⟩ := hs
  exact ⟨d, ef, h1, hk _ _ h2⟩
theorem stepX_plain {dp : DOper} (hc : dp.op.isCall = false) (K : (Nat → DV) → Heap → Prop) (σ : Nat → DV) (h : Heap) : stepX F dp K σ h = stepD F dp K σ h := by
 unfold stepX
 split
 ·rename_i f args e; rw [e] at hc; cases hc
 ·rfl
theorem stepN_mono {n i : Nat} {dp : DOper} {K K' : (Nat → DV) → Heap → Prop} (hk : ∀ σ h, K σ h → K' σ h) {σ : Nat → DV} {h : Heap} (hs : stepN F n i dp K σ h) : stepN F n i dp K' σ h := by
 unfold stepN at hs ⊢
 split
 ·rename_i hlt
  rw [if_pos hlt] at hs
  obtain ⟨d, ef, h1, h2⟩ := hs
  exact ⟨d, ef, h1, hk _ _ h2⟩
 ·rename_i hlt
  rw [if_neg hlt] at hs
  exact stepX_mono hk hs
theorem stepN_plain {n i : Nat} {dp : DOper} (hc : cpN n i dp = true) (K : (Nat → DV) → Heap → Prop) (σ : Nat → DV) (h : Heap) : stepN F n i dp K σ h = stepD F dp K σ h := by
 unfold stepN
 split
 ·rfl
 ·rename_i hlt
  simp only [cpN, decide_eq_false hlt, Bool.false_or, Bool.not_eq_true'] at hc
  exact stepX_plain hc K σ h
theorem anyX_first {n : Nat} {ops : Array Oper} {ds : List DOper} {K : (Nat → DV) → Heap → Prop} {i : Nat} {x : DOper} (hx : ds[i]? = some x) (hxc : cpN n i x = true) : ∀ (fuel : Nat) (listed : Array Bool) (σ : Nat → DV) (h : Heap) (di : DV) (ei : Eff),
  ClosedL ops listed → i ∈ Region.ready .any ops listed →
  (∀ j y, ds[j]? = some y → j ≠ i → listed.getD j true = false → Dep ops j i ∨ (x.apart y = true ∧ comOK x.op y.op = true ∧ cpN n j y = true)) →
  Gives F x σ h di ei → anyX F n ops ds K fuel (listed.setIfInBounds i true) (updS (ei.onS σ) x.dst.slot di) (ei.onH h) → anyX F n ops ds K (fuel + 1) listed σ h := by
 intro fuel
 induction fuel with
 | zero =>
  intro listed σ h di ei hc hi hap hg H
  refine ⟨fun e => (by rw [e] at hi; cases hi), fun j hj => ?_⟩
  by_cases hji : j = i
  ·subst hji; exact ⟨x, hx, by rw [stepN_plain hxc]; exact ⟨di, ei, hg, H⟩⟩
  ·have := ready_mono hj hji
   rw [H.1] at this; cases this
 | succ fuel ih =>
  intro listed σ h di ei hc hi hap hg H
  refine ⟨fun e => (by rw [e] at hi; cases hi), fun j hj => ?_⟩
  by_cases hji : j = i
  ·subst hji; exact ⟨x, hx, by rw [stepN_plain hxc]; exact ⟨di, ei, hg, H⟩⟩
  ·obtain ⟨y, hy, H'⟩ := H.2 j (ready_mono hj hji)
   obtain ⟨hjun, oj, hoj, hall⟩ := mem_ready.1 hj
   obtain ⟨hiun, _, _, _⟩ := mem_ready.1 hi
   have hnd : ¬ Dep ops j i := by
    intro hd
    have h1 := dep_listed hc hd fun o ho e he hb => by rw [hoj] at ho; cases ho; exact hall e he hb
    have h2 : listed.getD i true = true := by
     rw [Array.getD_eq_getD_getElem?] at h1 ⊢
     cases hq : listed[i]? with
     | none => rfl
     | some b => rw [hq] at h1; exact h1
    rw [hiun] at h2; cases h2
   obtain ⟨hap1, hap2, hyc⟩ := (hap j y hy hji hjun).resolve_left hnd
   rw [stepN_plain hyc] at H'
   obtain ⟨dj, ej, hgj, H'⟩ := H'
   obtain ⟨dj', ej', di', ei', g1, g2, g3, g4⟩ := diamond hap1 hap2 hg hgj
   refine ⟨y, hy, ?_⟩
   rw [stepN_plain hyc]
   refine ⟨dj', ej', g1, ih _ _ _ di' ei' (hc.set hj) (ready_mono hi (Ne.symm hji)) (fun k z hz hki hun => ?_) g2 ?_⟩
   ·refine hap k z hz hki ?_
    by_cases hjk : j = k
    ·subst hjk; exact hjun
    ·rwa [getD_set_ne true hjk] at hun
   ·rw [g3, g4, Array.setIfInBounds_comm _ _ hji]
    exact H'
theorem anyX_lex {n : Nat} {ops : Array Oper} {ds : List DOper} {K : (Nat → DV) → Heap → Prop} {deps : List (List Nat)} (hdeps : ∀ k x, x ∈ deps.getD k [] → Dep ops k x) (hlen : ds.length = ops.size) :
  ∀ (fuel k : Nat) (listed : Array Bool) (σ : Nat → DV) (h : Heap), k + fuel = ops.size → ClosedL ops listed → drawFromS n ops ds deps fuel k listed = true → lexX F n k (ds.drop k) K σ h → anyX F n ops ds K fuel listed σ h := by
 intro fuel
 induction fuel with
 | zero =>
  intro k listed σ h hk hc hd hl
  rw [List.drop_eq_nil_of_le (by omega)] at hl
  exact ⟨List.isEmpty_iff.1 hd, hl⟩
 | succ fuel ih =>
  intro k listed σ h hk hc hd hl
  simp only [drawFromS, Bool.and_eq_true, List.contains_iff_mem, List.all_eq_true, List.mem_range] at hd
  obtain ⟨⟨hr, hall⟩, hd⟩ := hd
  have hlt : k < ds.length := by omega
  rw [List.drop_eq_getElem_cons hlt] at hl
  have hother : ∀ j y, ds[j]? = some y → j ≠ k → listed.getD j true = false → Dep ops j k ∨ (ds[k].apart y = true ∧ comOK ds[k].op y.op = true ∧ cpN n k ds[k] = true ∧ cpN n j y = true) := by
   intro j y hy hjk hun
   have hjl : j < ops.size := by have := (List.getElem?_eq_some_iff.1 hy).1; omega
   have := hall j hjl
   rw [hun, List.getElem?_eq_getElem hlt, hy] at this
   simp only [Bool.or_eq_true, beq_iff_eq, Bool.false_eq_true, or_false, Bool.and_eq_true, List.contains_iff_mem] at this
   rcases this with (h1 | h1) | h1
   ·exact absurd h1 hjk
   ·exact .inl (hdeps _ _ h1)
   ·exact .inr ⟨h1.1.1, h1.1.2, h1.2.1, h1.2.2⟩
  cases hkc : cpN n k ds[k] with
  | true =>
   simp only [lexX] at hl
   rw [stepN_plain hkc] at hl
   obtain ⟨d, ef, hg, hl⟩ := hl
   refine anyX_first (List.getElem?_eq_getElem hlt) hkc fuel listed σ h d ef hc hr (fun j y hy hjk hun => ?_) hg (ih (k + 1) _ _ _ (by omega) (hc.set hr) hd hl)
   rcases hother j y hy hjk hun with h1 | ⟨h1, h2, _, h3⟩
   ·exact .inl h1
   ·exact .inr ⟨h1, h2, h3⟩
  | false =>
   refine ⟨fun e => (by rw [e] at hr; cases hr), fun j hj => ?_⟩
   have hjk : j = k := by
    apply Classical.byContradiction
    intro hne
    obtain ⟨hjun, oj, hoj, hallj⟩ := mem_ready.1 hj
    obtain ⟨hiun, _, _, _⟩ := mem_ready.1 hr
    have hjl : j < ops.size := (Array.getElem?_eq_some_iff.1 hoj).1
    rcases hother j ds[j] (List.getElem?_eq_getElem (by omega)) hne hjun with h1 | ⟨_, _, h2, _⟩
    ·have h1 := dep_listed hc h1 fun o ho e he hb => by rw [hoj] at ho; cases ho; exact hallj e he hb
     have h2 : listed.getD k true = true := by
      rw [Array.getD_eq_getD_getElem?] at h1 ⊢
      cases hq : listed[k]? with
      | none => rfl
      | some b => rw [hq] at h1; exact h1
     rw [hiun] at h2; cases h2
    ·rw [hkc] at h2; cases h2
   subst hjk
   exact ⟨ds[j], List.getElem?_eq_getElem hlt, stepN_mono (fun σ h hk2 => ih (j + 1) _ _ _ (by omega) (hc.set hr) hd hk2) hl⟩
theorem regW_lexX (hp : F.pure = false) {K : Fr → Fr → Hp → Prop} {n : Nat} : ∀ (ds : List DOper) (k : Nat), n ≤ k → ds.all (·.tags F.vs) = true → ∀ (te fr : Fr) (H : Hp), regW F ds te fr H K →
  lexX F n k ds (fun σ h => ∃ te fr H, σ = den F.vs te fr ∧ h = lkH H ∧ K te fr H) (den F.vs te fr) (lkH H)
 | [], _, _, _, te, fr, H, hw => ⟨te, fr, H, rfl, rfl, hw⟩
 | o :: os, k, hkn, ht, te, fr, H, hw => by
  simp only [List.all_cons, Bool.and_eq_true] at ht
  obtain ⟨ht, hts⟩ := ht
  simp only [DOper.tags, Bool.and_eq_true] at ht
  obtain ⟨⟨t1, t2⟩, t3⟩ := ht
  have ih := regW_lexX hp (K := K) (n := n) os (k + 1) (by omega) hts
  have hd := dst_tag t1
  have skip : gS (den F.vs te fr) o.guard = some false → regW F os (o.dst.onT te (.tup [])) (o.dst.onX fr (.tup [])) H K → lexX F n k (o :: os) (fun σ h => ∃ te fr H, σ = den F.vs te fr ∧ h = lkH H ∧ K te fr H) (den F.vs te fr) (lkH H) := fun hg hw =>
   (show lexX F n k (o :: os) (fun σ h => ∃ te fr H, σ = den F.vs te fr ∧ h = lkH H ∧ K te fr H) (den F.vs te fr) (lkH H) from by
    have := ih _ _ _ hw
    rw [hd, den_put] at this
    show stepN F n k o _ _ _
    unfold stepN
    rw [if_neg (by omega)]
    unfold stepX
    rw [hd, sDst_slot]
    split
    ·exact .inr ⟨hg, this⟩
    ·exact ⟨.tup [], .no, ⟨.inr ⟨hg, rfl, rfl⟩⟩, by rw [hd, sDst_slot]; exact this⟩)
  have hev : ∀ p ∈ o.op.opds, ev te fr p = evS (den F.vs te fr) p := fun p hp => ev_tag (List.all_eq_true.1 t2 p hp)
  have go : gS (den F.vs te fr) o.guard = some true → (match o.op with
   | .call f args => callR F f (args.map (ev te fr)) te fr H fun d te' fr' H' => regW F os (o.dst.onT te' d) (o.dst.onX fr' d) H' K
   | p => OW (opE F.nb o.dst.slot (ev te fr) (lkH H) p) fun r => regW F os (o.dst.onT (r.2.onF te) r.1) (o.dst.onX (r.2.onF fr) r.1) (r.2.onL H) K) → lexX F n k (o :: os) (fun σ h => ∃ te fr H, σ = den F.vs te fr ∧ h = lkH H ∧ K te fr H) (den F.vs te fr) (lkH H) := fun hg hw =>
   (show lexX F n k (o :: os) (fun σ h => ∃ te fr H, σ = den F.vs te fr ∧ h = lkH H ∧ K te fr H) (den F.vs te fr) (lkH H) from by
    have plain : OW (opE F.nb o.dst.slot (ev te fr) (lkH H) o.op) (fun r => regW F os (o.dst.onT (r.2.onF te) r.1) (o.dst.onX (r.2.onF fr) r.1) (r.2.onL H) K) →
      ((∀ f args, o.op ≠ .call f args)) → lexX F n k (o :: os) (fun σ h => ∃ te fr H, σ = den F.vs te fr ∧ h = lkH H ∧ K te fr H) (den F.vs te fr) (lkH H) := by
     rintro ⟨⟨d, ef⟩, he, hk⟩ hnc
     show stepN F n k o _ _ _
     unfold stepN
     rw [if_neg (by omega)]
     unfold stepX
     split
     ·rename_i f args e; exact absurd e (hnc f args)
     refine ⟨d, ef, ⟨.inl ⟨hg, ?_⟩⟩, ?_⟩
     ·rw [opE_congr hev] at he
      unfold goD
      cases hop : o.op with
      | call f args => exact absurd hop (hnc f args)
      | _ => rw [hop] at he; exact he
     ·have := ih _ _ _ hk
      rw [hd, den_put, den_onF, lkH_onL] at this
      rw [hd, sDst_slot]
      exact this
    cases hop : o.op with
    | call f args =>
     rw [hop] at hw
     simp only [callR, hp, Bool.false_eq_true, if_false] at hw
     rw [hop] at hev
     have hm : args.map (ev te fr) = args.map (evS (den F.vs te fr)) := List.map_congr_left fun p hp => hev p hp
     rw [hm] at hw
     show stepN F n k o _ _ _
     unfold stepN
     rw [if_neg (by omega)]
     unfold stepX
     rw [hop]
     refine .inl ⟨hg, fun G L a w us hn hG hR hs hv => ?_⟩
     refine (hw G L a w us hG hR (by simpa using hs) hv).mono ?_
     rintro e w' ⟨v, L', d, te', fr', H', rfl, hR', hV, hsm, hk⟩
     refine ⟨v, L', d, _, _, rfl, hR', hV, hsm, ?_⟩
     have := ih _ _ _ hk
     rw [hd, den_put] at this
     rw [hd, sDst_slot]
     exact this
    | _ =>
     rw [hop] at hw
     exact plain (by rw [hop]; exact hw) (by rw [hop]; intro f args e; cases e))
  simp only [regW] at hw
  cases hgu : o.guard with
  | none =>
   rw [hgu] at hw
   exact go (by rw [hgu]; rfl) hw
  | some p =>
   obtain ⟨g, want⟩ := p
   rw [hgu] at hw t3
   have hgv := ev_tag (te := te) (fr := fr) t3
   simp only at hw
   split at hw
   ·rename_i b hb
    rw [hgv] at hb
    by_cases hbw : b = want
    ·exact go (by rw [hgu]; simp only [gS, hb]; simp [hbw]) (hw.1 hbw)
    ·exact skip (by rw [hgu]; simp only [gS, hb]; simp [hbw]) (hw.2 (by clear hw; cases b <;> cases want <;> first | rfl | exact absurd rfl hbw))
   ·rename_i hb
    rw [hgv] at hb
    exact skip (by rw [hgu]; simp only [gS, hb]) hw
   ·exact hw.elim
theorem Gives.np {dp : DOper} {σ : Nat → DV} {h : Heap} {d : DV} {ef : Eff} (hg : Gives { F with pure := true } dp σ h d ef) : Gives F dp σ h d ef := ⟨hg.out⟩
theorem lexX_pre {n : Nat} {K K' : (Nat → DV) → Heap → Prop} (d1 : List DOper) : ∀ (d0 : List DOper) (k : Nat) (σ : Nat → DV) (h : Heap), k + d0.length ≤ n → (∀ σ h, K σ h → lexX F n (k + d0.length) d1 K' σ h) →
  lexD { F with pure := true } d0 K σ h → lexX F n k (d0 ++ d1) K' σ h
 | [], k, σ, h, _, hk, hl => hk σ h hl
 | o :: os, k, σ, h, hkn, hk, hl => by
  obtain ⟨d, ef, hg, hl⟩ := hl
  simp only [List.length_cons] at hkn hk
  show stepN F n k o _ σ h
  unfold stepN
  rw [if_pos (by omega)]
  refine ⟨d, ef, hg.np, lexX_pre d1 os (k + 1) _ _ (by omega) (fun σ h h2 => ?_) hl⟩
  have := hk σ h h2
  rwa [show k + (os.length + 1) = k + 1 + os.length by omega] at this
end
section
variable {F : FnD} {G : Cx}
theorem anyX_sound {n : Nat} {ops : Array Oper} {ds : List DOper} {Q : Exit → Act → World → Prop} {K : (Nat → DV) → Heap → Prop} (hn : G.n = F.n ∧ G.ok F.P) (hs : sOpers F.P F.vs F.own F.n ops ops.toList = some ds)
  (hK : ∀ σ h L a w, R G L σ h a w → K σ h → Q .normal a w) : ∀ (fuel : Nat) (listed : Array Bool) (σ : Nat → DV) (h : Heap) (L : Nat → Option Nat) (a : Act) (w : World), R G L σ h a w →
   anyX F n ops ds K fuel listed σ h → wpAny F.P .any ops Q fuel listed a w := by
 intro fuel
 induction fuel with
 | zero => intro listed σ h L a w hR hA; exact ⟨hA.1, hK _ _ _ _ _ hR hA.2⟩
 | succ fuel ih =>
  intro listed σ h L a w hR hA
  refine ⟨fun e => hK _ _ _ _ _ hR (hA.1 e), fun i hi => ?_⟩
  obtain ⟨x, hx, hA'⟩ := hA.2 i hi
  obtain ⟨_, o, ho, _⟩ := mem_ready.1 hi
  obtain ⟨dp, hdp, hso⟩ := (sOpers_get _ _ hs).2 i o (by simpa using ho)
  rw [hx] at hdp; cases hdp
  have hgd : sGuard F.vs ops o.guard = some x.guard ∧ x.dst = sDst F.vs o.dst ∧ ∀ k, o.dst = some k → k < F.n := by
   simp only [sOper, Option.bind_eq_some_iff] at hso
   obtain ⟨p, hp, g, hg', hs⟩ := hso
   split at hs
   ·rename_i hd; cases hs; exact ⟨hg', rfl, dst_lt hd⟩
   ·cases hs
  obtain ⟨hgu, hdst, hdl⟩ := hgd
  simp only [wpOp, ho]
  have hskip : anyX F n ops ds K fuel (listed.setIfInBounds i true) (updS σ x.dst.slot (.tup [])) h → wpAny F.P .any ops Q fuel (listed.setIfInBounds i true) (a.put o.dst undef) w := fun h2 => by
   rw [hdst, sDst_slot] at h2
   exact ih _ _ _ L _ w (hR.put V_undef (by rw [hn.1]; exact hdl)) h2
  unfold stepN at hA'
  split at hA'
  ·obtain ⟨d, ef, hg, hA'⟩ := hA'
   rcases hg.out with ⟨h1, h2⟩ | ⟨h1, rfl, rfl⟩
   ·rw [wantedS hR hgu h1, if_pos rfl]
    exact .inl (oper_soundS hso hn hR h2 fun L a w hR' => ih _ _ _ L a w hR' hA')
   ·rw [wantedS hR hgu h1, if_neg (by simp)]
    exact hskip hA'
  unfold stepX at hA'
  split at hA'
  ·rename_i f args hop
   rcases hA' with ⟨h1, h2⟩ | ⟨h1, h2⟩
   ·rw [wantedS hR hgu h1, if_pos rfl]
    refine .inl ?_
    obtain ⟨odst, op, ty, pos, after, guard⟩ := o
    obtain ⟨xdst, xop, xguard⟩ := x
    simp only [sOper, Option.bind_eq_some_iff] at hso
    obtain ⟨p, hp, g, hg', hs2⟩ := hso
    split at hs2
    ·simp only [Option.some.injEq, DOper.mk.injEq] at hs2
     obtain ⟨_, rfl, _⟩ := hs2
     simp only at hop hdst
     subst hop
     subst hdst
     obtain ⟨c, fn, rfl, hcal, hfn, hbody, hname, rfl⟩ := sOp_call hp
     obtain ⟨callee, cargs, argTypes⟩ := c
     simp only at hcal h2
     subst hcal
     have hE : EV F.vs (evS σ) w L (Av G.S L) a := fun x => ev_V hR x
     have hcall := h2 G L a w (cargs.map a.eval) hn.1 hn.2 hR (by simp) (fun k d v h1 h2 => by
      simp only [List.map_map, List.getElem?_map, Array.getElem?_toList, Option.map_eq_some_iff] at h1
      simp only [Array.getElem?_map, Option.map_eq_some_iff] at h2
      obtain ⟨x, hx, rfl⟩ := h1
      obtain ⟨y, hy, rfl⟩ := h2
      rw [hx] at hy; cases hy
      exact hE x)
     have hr : (execOp a.eval ⟨odst, .call { callee := .value (.func f), args := cargs, argTypes := argTypes }, ty, pos, after, guard⟩).run F.P w = .ok (.enter f (cargs.map a.eval)) w := by
      have hb : ¬ fn.body = none := by intro e; rw [e] at hbody; cases hbody
      have hnm : ¬ fn.name = "runtime.NumGoroutine" := by simpa using hname
      simp [execOp, resolve, Act.eval, Deferred.ofValue, invoke, callFunc, hfn, hnm, hb]
     unfold Oper.wp
     rw [hr]
     refine hcall.mono ?_
     rintro e w' ⟨v, L', d, σ', h', rfl, hR2, hv, _, hk⟩
     have hput := hR2.put hv (dst := odst) (by rw [hn.1]; exact hdl)
     rw [sDst_slot] at hk
     exact ih _ _ _ L' _ w' hput hk
    ·cases hs2
   ·rw [wantedS hR hgu h1, if_neg (by simp)]
    exact hskip h2
  ·obtain ⟨d, ef, hg, hA'⟩ := hA'
   rcases hg.out with ⟨h1, h2⟩ | ⟨h1, rfl, rfl⟩
   ·rw [wantedS hR hgu h1, if_pos rfl]
    exact .inl (oper_soundS hso hn hR h2 fun L a w hR' => ih _ _ _ L a w hR' hA')
   ·rw [wantedS hR hgu h1, if_neg (by simp)]
    exact hskip hA'
theorem W_regp {Q : Ex → Fr → Hp → Prop} {fr : Fr} {H : Hp} {n : Nat} {ds : List DOper} (hw : regW { F with pure := true } (ds.take n) [] fr H fun te fr H => regW F (ds.drop n) te fr H fun _ fr H => Q .norm fr H) (hp : F.pure = false := by rfl) : W F (.regs n ds) Q fr H := by
 intro code hc G L a w hn hR
 have main : ∀ (id : Nat) (ops : Array Oper), sOpers F.P F.vs F.own F.n ops ops.toList = some ds → (drawOKs F.vs n ops ds && F.P.follows .mixedOrders) = true → (Code.region id ops true).wp F.P (Post F G Q) a w := by
  intro id ops hds hok
  simp only [drawOKs, Bool.and_eq_true] at hok
  obtain ⟨⟨⟨_, htags⟩, hdf⟩, hm⟩ := hok
  refine wp_region_any hm ?_
  have hlen : ds.length = ops.size := by rw [(sOpers_get _ _ hds).1]; simp
  have ht0 : (ds.take n).all (·.tags F.vs) = true := List.all_eq_true.2 fun d hd => List.all_eq_true.1 htags d (List.mem_of_mem_take hd)
  have ht1 : (ds.drop n).all (·.tags F.vs) = true := List.all_eq_true.2 fun d hd => List.all_eq_true.1 htags d (List.mem_of_mem_drop hd)
  have hlex : lexX F n 0 ds (fun σ h => ∃ te fr' H', σ = den F.vs te fr' ∧ h = lkH H' ∧ Q .norm fr' H') (den F.vs [] fr) (lkH H) := by
   have h0 := regW_lex (F := { F with pure := true }) rfl (ds.take n) ht0 [] fr H hw
   have := lexX_pre (F := F) (n := n) (K' := fun σ h => ∃ te fr' H', σ = den F.vs te fr' ∧ h = lkH H' ∧ Q .norm fr' H') (ds.drop n) (ds.take n) 0 _ _ (by rw [List.length_take]; omega) (fun σ h hk => ?_) h0
   ·rwa [List.take_append_drop] at this
   ·obtain ⟨te, fr', H', rfl, rfl, hk⟩ := hk
    by_cases hle : n ≤ ds.length
    ·exact regW_lexX hp (ds.drop n) _ (by rw [List.length_take]; omega) ht1 te fr' H' hk
    ·rw [List.drop_eq_nil_of_le (by omega)] at hk ⊢
     exact ⟨te, fr', H', rfl, rfl, hk⟩
  have hany : anyX F n ops ds (fun σ h => ∃ te fr' H', σ = den F.vs te fr' ∧ h = lkH H' ∧ Q .norm fr' H') ops.size (Array.replicate ops.size false) (den F.vs [] fr) (lkH H) := by
   refine anyX_lex (deps := depsAll ops.toList []) (fun k x hx => ?_) hlen ops.size 0 _ _ _ (by omega) ?_ hdf hlex
   ·exact depsAll_sound ops.toList [] (fun j => by simp) (fun k x hx => by simp at hx) k x hx
   ·intro j o hj _ e _ _
    simp [Array.getD_eq_getD_getElem?, Array.getElem?_replicate] at hj
    split at hj <;> simp at hj
  refine anyX_sound (F := F) (G := G) (K := fun σ h => ∃ te fr' H', σ = den F.vs te fr' ∧ h = lkH H' ∧ Q .norm fr' H') hn hds ?_ ops.size _ _ _ L a _ (hR.still (w' := { w with drawn := w.drawn + 1 }) ⟨rfl, rfl, rfl, Nat.le_refl _, fun _ _ _ => rfl⟩) hany
  rintro σ h L a w hR' ⟨te, fr', H', rfl, rfl, hk⟩
  refine ⟨L, fr', H', .norm, hR'.weak fun s => ?_, rfl, hk⟩
  simp only [den, lk]
  split
  ·exact .inl rfl
  ·exact .inr rfl
 cases code <;> simp only [strip] at hc <;> first | (cases hc; done) | skip
 rename_i id ops draw
 split at hc
 ·rename_i ds' hds
  split at hc
  ·rename_i hd
   subst hd
   split at hc
   ·rename_i hok
    cases hc
    rw [Bool.and_assoc] at hok
    exact main id ops hds (Bool.and_eq_true _ _ |>.mp hok).2
   ·split at hc
    ·cases hc
    ·split at hc
     ·rename_i hok
      cases hc
      rw [Bool.and_assoc] at hok
      exact main id ops hds (Bool.and_eq_true _ _ |>.mp hok).2
     ·split at hc <;> cases hc
  ·cases hc
 ·cases hc
theorem W_regs {Q : Ex → Fr → Hp → Prop} {fr : Fr} {H : Hp} {ds : List DOper} (hw : regW F ds [] fr H fun _ fr H => Q .norm fr H) (hp : F.pure = false := by rfl) : W F (.regs 0 ds) Q fr H := W_regp hw hp
end
end Go.Dat
namespace Go.Dat
open Go
mutual
theorem rn_has (f : Nat → Option Nat) (q : Nat) (hf : ∀ o, o ≠ q → f o = some o) : ∀ d : DV, d.has q = false → rn f d = d
 | .ptr o off, h => by
  have : o ≠ q := by simpa [DV.has] using h
  rw [rn, hf o this]
 | .osl sz o off n, h => by
  have : o ≠ q := by simpa [DV.has] using h
  rw [rn, hf o this]
 | .agg cs, h => by rw [DV.has] at h; rw [rn, rnL_has f q hf cs h]
 | .tup cs, h => by rw [DV.has] at h; rw [rn, rnL_has f q hf cs h]
 | .undef, _ => by rw [rn] <;> (intros; contradiction)
 | .int .., _ => by rw [rn] <;> (intros; contradiction)
 | .bool _, _ => by rw [rn] <;> (intros; contradiction)
 | .str _, _ => by rw [rn] <;> (intros; contradiction)
 | .nilp, _ => by rw [rn] <;> (intros; contradiction)
 | .nils, _ => by rw [rn] <;> (intros; contradiction)
 | .nili, _ => by rw [rn] <;> (intros; contradiction)
 | .fn _, _ => by rw [rn] <;> (intros; contradiction)
 | .sl .., _ => by rw [rn] <;> (intros; contradiction)
 | .el .., _ => by rw [rn] <;> (intros; contradiction)
 | .iface .., _ => by rw [rn] <;> (intros; contradiction)
 | .clo .., _ => by rw [rn] <;> (intros; contradiction)
 | .raw .., _ => by rw [rn] <;> (intros; contradiction)
theorem rnL_has (f : Nat → Option Nat) (q : Nat) (hf : ∀ o, o ≠ q → f o = some o) : ∀ cs : List DV, DV.hasL q cs = false → rnL f cs = cs
 | [], _ => rfl
 | d :: r, h => by
  rw [DV.hasL, Bool.or_eq_false_iff] at h
  rw [rnL, rn_has f q hf d h.1, rnL_has f q hf r h.2]
end
theorem map_has (f : Nat → Option Nat) (q : Nat) (hf : ∀ o, o ≠ q → f o = some o) {cs : List DV} (h : ∀ d ∈ cs, d.has q = false) : cs.map (rn f) = cs := by
 conv => rhs; rw [← List.map_id cs]
 exact List.map_congr_left fun d hd => rn_has f q hf d (h d hd)
theorem mapF_has (f : Nat → Option Nat) (q : Nat) (hf : ∀ o, o ≠ q → f o = some o) : ∀ fr : Fr, fr.all (fun p => !p.2.has q) = true → mapF (rn f) fr = fr
 | [], _ => rfl
 | (k, d) :: r, h => by
  simp only [List.all_cons, Bool.and_eq_true, Bool.not_eq_true'] at h
  rw [mapF, rn_has f q hf d h.1, mapF_has f q hf r h.2]
def fw2 (o o2 q q2 p : Nat) : Option Nat := if p = o then some o2 else if p = q then some q2 else none
theorem fw2_fb {o o2 q q2 : Nat} (h : o ≠ q) (h2 : o2 ≠ q2) (p r : Nat) : fw2 o o2 q q2 p = some r ↔ fw2 o2 o q2 q r = some p := by
 unfold fw2
 constructor
 ·intro e
  split at e
  ·cases e; subst p; rw [if_pos rfl]
  ·split at e
   ·cases e; subst p; rw [if_neg (Ne.symm h2), if_pos rfl]
   ·cases e
 ·intro e
  split at e
  ·cases e; subst r; rw [if_pos rfl]
  ·split at e
   ·cases e; subst r; rw [if_neg (Ne.symm h), if_pos rfl]
   ·cases e
theorem pgN_fw2 (H : Hp) {o o2 q q2 : Nat} (h2 : 1048576 ≤ o2) (p : Nat) (hp : p ≠ q) : pgN H (fw2 o o2 q q2) p = some p := by
 unfold pgN fw2
 by_cases e : p = o
 ·rw [if_pos e]; simp only; rw [if_neg (by omega)]
 ·rw [if_neg e, if_neg hp]
def BH (N M : Nat) (c0 : DV) (l : List UInt8) : Hp := [(M, bys l), (N, [c0, .osl 1 M 0 l.length])]
def BCalls (P : Program) (N M f : Nat) (args : List DV) (l : List UInt8) (r : DV) (l' : List UInt8) : Prop :=
 ∀ c0, c0 = .nilp ∨ c0 = .ptr N 0 → MRel P f (.ptr N 0 :: args) (BH N M c0 l) fun r' H' => r' = r ∧ H' = BH N M (.ptr N 0) l'
theorem bys_rf (l : List UInt8) : ∀ d ∈ bys l, d.rf = true := fun d hd => by
 unfold bys at hd
 obtain ⟨b, _, rfl⟩ := List.mem_map.1 hd
 rfl
theorem lkH_BH {N M : Nat} (hN : N ≠ M) (c0 : DV) (l : List UInt8) (q : Nat) : lkH (BH N M c0 l) q = if q = N then some [c0, .osl 1 M 0 l.length] else if q = M then some (bys l) else none := by
 unfold BH
 rw [lkH_two]
 by_cases e : q = N
 ·subst e; rw [if_neg (Ne.symm hN), if_pos rfl, if_pos rfl]
 ·rw [if_neg e]
  by_cases e2 : q = M
  ·rw [if_pos e2.symm, if_pos e2]
  ·rw [if_neg (Ne.symm e2), if_neg (Ne.symm e), if_neg e2]
theorem callC_bld {F : FnD} {os : List DOper} {dst : Dst} {f : Nat} {args : List DV} {te fr : Fr} {H : Hp} {K : Fr → Fr → Hp → Prop} (N q : Nat) {l l' : List UInt8} {r c0 : DV} (hc : BCalls F.P N q f args l r l') (hp : F.pure = false)
  (h0 : lkH H N = some [c0, .osl 1 q 0 l.length]) (h1 : lkH H q = some (bys l)) (h2 : c0 = .nilp ∨ c0 = .ptr N 0) (hN : 2097152 ≤ N) (hq : q < 1048576) (ha : ∀ d ∈ args, d.rf = true) (hr : r.rf = true)
  (hte : te.all (fun p => !p.2.has q) = true) (hfr : fr.all (fun p => !p.2.has q) = true) (hH : ∀ p c, p ≠ N → p ≠ q → lkH H p = some c → ∀ d ∈ c, d.has q = false)
  (hK : regW F os (dst.onT te r) (dst.onX fr r) (setH (setH H N [.ptr N 0, .osl 1 q 0 l'.length]) q (bys l')) K) : callC F os dst f (.ptr N 0 :: args) te fr H K := by
 have hNq : N ≠ q := by omega
 have hpg : ∀ o, o ≠ q → pgN H (fw2 N N q q) o = some o := fun o ho => pgN_fw2 H (by omega) o ho
 have fN : fw2 N N q q N = some N := by unfold fw2; rw [if_pos rfl]
 have fq : fw2 N N q q q = some q := by unfold fw2; rw [if_neg (Ne.symm hNq), if_pos rfl]
 have fn : ∀ p, p ≠ N → p ≠ q → fw2 N N q q p = none := fun p h1 h2 => by unfold fw2; rw [if_neg h1, if_neg h2]
 refine callC_rel hp (fw2 N N q q) (fw2 N N q q) (fw2_fb hNq hNq) (fun p r h hh => ?_) (fun p r h => ?_) (Hc := BH N q c0 l) (fun r => ?_) ?_ ?_ (Q := fun r' H' => r' = r ∧ H' = BH N q (.ptr N 0) l')
 ·unfold fw2 at h; split at h
  ·cases h; omega
  ·split at h
   ·omega
   ·cases h
 ·unfold fw2 at h; split at h
  ·rename_i e; cases h; rw [e]; exact tyEq_refl _
  ·split at h
   ·rename_i e; cases h; rw [e]; exact tyEq_refl _
   ·cases h
 ·rw [lkH_BH hNq]
  by_cases e : r = N
  ·subst e
   rw [if_pos rfl, fN, Option.bind_some, h0]
   simp only [Option.map_some, List.map_cons, List.map_nil, Option.some.injEq, List.cons.injEq, and_true]
   refine ⟨?_, by rw [rn, fq]⟩
   rcases h2 with rfl | rfl
   ·rw [rn] <;> (intros; contradiction)
   ·rw [rn, fN]
  ·rw [if_neg e]
   by_cases e2 : r = q
   ·subst e2
    rw [if_pos rfl, fq, Option.bind_some, h1, Option.map_some, map_rf _ (bys_rf l)]
   ·rw [if_neg e2, fn r e e2, Option.bind_none]
 ·simp only [List.map_cons]
  rw [rn, fN, map_rf _ ha]
  exact hc c0 h2
 ·rintro r' Hc' ⟨rfl, rfl⟩
  refine ⟨setH (setH H N [.ptr N 0, .osl 1 q 0 l'.length]) q (bys l'), fun p => ?_, ?_⟩
  ·rw [lkH_setH, lkH_setH]
   by_cases e : p = q
   ·subst e
    rw [if_pos rfl, fq]
    simp only
    rw [lkH_BH hNq, if_neg (Ne.symm hNq), if_pos rfl, Option.map_some, map_rf _ (bys_rf l')]
   ·rw [if_neg e]
    by_cases e2 : p = N
    ·subst e2
     rw [if_pos rfl, fN]
     simp only
     rw [lkH_BH hNq, if_pos rfl]
     simp only [Option.map_some, List.map_cons, List.map_nil]
     rw [rn, rn, fN, fq]
    ·rw [if_neg e2, fn p e2 e]
     simp only
     cases hl : lkH H p with
     | none => rfl
     | some c => simp only [Option.map_some, Option.some.injEq]; exact (map_has _ q hpg (hH p c e2 e hl)).symm
  ·rw [mapF_has _ q hpg te hte, mapF_has _ q hpg fr hfr, rn_rf _ r' hr]
   exact hK
theorem RetB {N M : Nat} (hNM : N ≠ M) {rv : List RV} {fr : Fr} {H : Hp} {c0 r : DV} {l l' : List UInt8} {ds : List DV} (hd : resDs fr H rv = some ds) (he : oneOf ds = r) (hr : r.rf = true) (h0 : lkH H N = some [.ptr N 0, .osl 1 M 0 l'.length]) (h1 : lkH H M = some (bys l')) :
  RetPR rv (BH N M c0 l) (fun r' H' => r' = r ∧ H' = BH N M (.ptr N 0) l') .ret fr H := by
 have eN : nmH (BH N M (.ptr N 0) l') N = some N := by unfold nmH; rw [lkH_BH hNM, if_pos rfl]; rfl
 have eM : nmH (BH N M (.ptr N 0) l') M = some M := by unfold nmH; rw [lkH_BH hNM, if_neg (Ne.symm hNM), if_pos rfl]; rfl
 refine ⟨.inr rfl, ds, r, BH N M (.ptr N 0) l', ⟨rfl, rfl⟩, fun o _ h => ?_, hd, by rw [he, rn_rf _ r hr], fun o c h => ?_⟩
 ·rw [lkH_BH hNM] at h ⊢
  split
  ·rfl
  ·rename_i e
   rw [if_neg e] at h
   split
   ·rfl
   ·rename_i e2; rw [if_neg e2] at h; cases h
 ·rw [lkH_BH hNM] at h
  split at h
  ·rename_i e
   subst e
   cases h
   refine ⟨_, h0, ?_⟩
   simp only [List.map_cons, List.map_nil]
   rw [rn, rn, eN, eM]
  ·split at h
   ·rename_i e
    subst e
    cases h
    exact ⟨_, h1, map_rf _ (bys_rf l')⟩
   ·cases h
end Go.Dat
namespace Go.Dat
open Go
def delH : Hp → Nat → Hp
 | [], _ => []
 | (k, c) :: r, q => if k = q then delH r q else (k, c) :: delH r q
theorem lkH_delH : ∀ (H : Hp) (q p : Nat), lkH (delH H q) p = if p = q then none else lkH H p
 | [], q, p => by simp [delH, lkH]
 | (k, c) :: r, q, p => by
  simp only [delH]
  by_cases e : k = q
  ·rw [if_pos e, lkH_delH r q p]
   by_cases e2 : p = q
   ·rw [if_pos e2, if_pos e2]
   ·rw [if_neg e2, if_neg e2]
    simp only [lkH]
    rw [if_neg (fun h => e2 (h.symm.trans e))]
  ·rw [if_neg e]
   simp only [lkH, lkH_delH r q p]
   by_cases e2 : k = p
   ·rw [if_pos e2, if_pos e2, if_neg (fun h => e (e2.trans h))]
   ·rw [if_neg e2, if_neg e2]
theorem callC_bstr {F : FnD} {os : List DOper} {dst : Dst} {f : Nat} {te fr : Fr} {H : Hp} {K : Fr → Fr → Hp → Prop} (N q : Nat) {l : List UInt8} {c0 : DV} (hc : MRel F.P f [.ptr N 0] (BH N q c0 l) fun r H' => r = .str l ∧ H' = [(N, [.undef, .undef])]) (hp : F.pure = false)
  (h0 : lkH H N = some [c0, .osl 1 q 0 l.length]) (h1 : lkH H q = some (bys l)) (h2 : c0 = .nilp ∨ c0 = .ptr N 0) (hN : 2097152 ≤ N) (hq : q < 1048576)
  (hte : te.all (fun p => !p.2.has q) = true) (hfr : fr.all (fun p => !p.2.has q) = true) (hH : ∀ p c, p ≠ N → p ≠ q → lkH H p = some c → ∀ d ∈ c, d.has q = false)
  (hK : regW F os (dst.onT te (.str l)) (dst.onX fr (.str l)) (setH (delH H q) N [.undef, .undef]) K) : callC F os dst f [.ptr N 0] te fr H K := by
 have hNq : N ≠ q := by omega
 have hpg : ∀ o, o ≠ q → pgN H (fw2 N N q q) o = some o := fun o ho => pgN_fw2 H (by omega) o ho
 have fN : fw2 N N q q N = some N := by unfold fw2; rw [if_pos rfl]
 have fq : fw2 N N q q q = some q := by unfold fw2; rw [if_neg (Ne.symm hNq), if_pos rfl]
 have fn : ∀ p, p ≠ N → p ≠ q → fw2 N N q q p = none := fun p h1 h2 => by unfold fw2; rw [if_neg h1, if_neg h2]
 refine callC_rel hp (fw2 N N q q) (fw2 N N q q) (fw2_fb hNq hNq) (fun p r h hh => ?_) (fun p r h => ?_) (Hc := BH N q c0 l) (fun r => ?_) ?_ ?_ (Q := fun r H' => r = .str l ∧ H' = [(N, [.undef, .undef])])
 ·unfold fw2 at h; split at h
  ·cases h; omega
  ·split at h
   ·omega
   ·cases h
 ·unfold fw2 at h; split at h
  ·rename_i e; cases h; rw [e]; exact tyEq_refl _
  ·split at h
   ·rename_i e; cases h; rw [e]; exact tyEq_refl _
   ·cases h
 ·rw [lkH_BH hNq]
  by_cases e : r = N
  ·subst e
   rw [if_pos rfl, fN, Option.bind_some, h0]
   simp only [Option.map_some, List.map_cons, List.map_nil, Option.some.injEq, List.cons.injEq, and_true]
   refine ⟨?_, by rw [rn, fq]⟩
   rcases h2 with rfl | rfl
   ·rw [rn] <;> (intros; contradiction)
   ·rw [rn, fN]
  ·rw [if_neg e]
   by_cases e2 : r = q
   ·subst e2
    rw [if_pos rfl, fq, Option.bind_some, h1, Option.map_some, map_rf _ (bys_rf l)]
   ·rw [if_neg e2, fn r e e2, Option.bind_none]
 ·simp only [List.map_cons, List.map_nil]
  rw [rn, fN]
  exact hc
 ·rintro r' Hc' ⟨rfl, rfl⟩
  refine ⟨setH (delH H q) N [.undef, .undef], fun p => ?_, ?_⟩
  ·rw [lkH_setH, lkH_delH]
   by_cases e2 : p = N
   ·subst e2
    rw [if_pos rfl, fN]
    simp only [lkH_one, if_true, Option.map_some, List.map_cons, List.map_nil]
    rw [rn_undef]
   ·rw [if_neg e2]
    by_cases e : p = q
    ·subst e
     rw [if_pos rfl, fq]
     simp only [lkH_one]
     rw [if_neg hNq]; rfl
    ·rw [if_neg e, fn p e2 e]
     simp only
     cases hl : lkH H p with
     | none => rfl
     | some c => simp only [Option.map_some, Option.some.injEq]; exact (map_has _ q hpg (hH p c e2 e hl)).symm
  ·rw [mapF_has _ q hpg te hte, mapF_has _ q hpg fr hfr, rn_rf _ _ rfl]
   exact hK
end Go.Dat
namespace Go.Dat
open Go
theorem one_el (xs : List DV) (i : Nat) : (DV.el xs i).one = true := rfl
theorem cells_el (xs : List DV) (i : Nat) : (DV.el xs i).cells? = some [.el xs i] := rfl
theorem laid_el {cells : List DV} {off : Nat} (xs : List DV) (i : Nat) (r : List (Nat × Nat × DV)) : laid cells ((off, 1, .el xs i) :: r) = if off + 1 ≤ cells.length then laid (cells.set off (.el xs i)) r else none := by simp [laid, cells_el, spl]
theorem cells_ptr (o f : Nat) : (DV.ptr o f).cells? = some [.ptr o f] := rfl
theorem laid_ptr {cells : List DV} {off : Nat} (o f : Nat) (r : List (Nat × Nat × DV)) : laid cells ((off, 1, .ptr o f) :: r) = if off + 1 ≤ cells.length then laid (cells.set off (.ptr o f)) r else none := by simp [laid, cells_ptr, spl]
end Go.Dat
namespace Go.Dat
open Go
def pp (o : Nat) (offs : List Nat) : List DV := offs.map fun k => .ptr o k
theorem rn_pp {f : Nat → Option Nat} {o p : Nat} (h : f o = some p) (offs : List Nat) : (pp o offs).map (rn f) = pp p offs := by
 unfold pp
 rw [List.map_map]
 refine List.map_congr_left fun k _ => ?_
 show rn f (.ptr o k) = .ptr p k
 rw [rn, h]
theorem callC_ptrs {F : FnD} {os : List DOper} {dst : Dst} {f : Nat} {te fr : Fr} {H : Hp} {K : Fr → Fr → Hp → Prop} (o n : Nat) {cells : List DV} {m sz : Nat} {offs : List Nat}
  (hc : MRel F.P f [.ptr 1048576 0] [(1048576, cells)] fun r H' => r = .osl sz m 0 offs.length ∧ H' = [(1048576, cells), (m, pp 1048576 offs)]) (hp : F.pure = false) (hmm : tyNo m) (hlo : tyNo o) (hto : tyNo n) (hm : m ≠ 1048576) (hne : o ≠ n) (hlt : n < 1048576) (ho : lkH H o = some cells) (hn : lkH H n = none) (hrf : ∀ d ∈ cells, d.rf = true)
  (hK : regW F os (dst.onT te (.osl sz n 0 offs.length)) (dst.onX fr (.osl sz n 0 offs.length)) (setH H n (pp o offs)) K) : callC F os dst f [.ptr o 0] te fr H K := by
 have ha : [DV.ptr o 0].map (rn (fwdm m o n)) = [.ptr 1048576 0] := by
  have : fwdm m o n o = some 1048576 := by unfold fwdm; simp [hne]
  simp [rn, this]
 rw [← ha] at hc
 refine callC_rel hp (fwdm m o n) (backm m o n) (fbm hne hm) (fun p q h1 h2 => ?_) (fun p q h1 => (by unfold fwdm at h1; split at h1 <;> (try split at h1) <;> cases h1 <;> subst p <;> first | exact hlo.eq (by decide) | exact hto.eq hmm)) (Hc := [(1048576, cells)]) (fun q => ?_) hc ?_
 ·unfold fwdm at h1; split at h1
  ·cases h1; exact Nat.le_refl _
  ·split at h1
   ·omega
   ·cases h1
 ·rw [lkH_one]
  unfold backm
  by_cases e : q = 1048576
  ·subst e
   rw [if_pos rfl, if_pos rfl, Option.bind_some, ho, Option.map_some, map_rf _ hrf]
  ·rw [if_neg (Ne.symm e), if_neg e]
   by_cases e2 : q = m
   ·rw [if_pos e2, Option.bind_some, hn]; rfl
   ·rw [if_neg e2, Option.bind_none]
 ·rintro r Hc' ⟨rfl, rfl⟩
  refine ⟨setH H n (pp o offs), fun p => ?_, ?_⟩
  ·rw [lkH_setH]
   unfold fwdm
   by_cases e : p = o
   ·subst e
    rw [if_neg hne, if_pos rfl]
    simp only [lkH_two, if_true, Option.map_some, map_rf _ hrf]
    exact ho
   ·by_cases e2 : p = n
    ·subst e2
     rw [if_pos rfl, if_neg e, if_pos rfl]
     have : ¬ (1048576 : Nat) = m := Ne.symm hm
     have hb : backm m o p 1048576 = some o := by unfold backm; rw [if_pos rfl]
     simp only [lkH_two, if_neg this, if_true, Option.map_some, rn_pp hb]
    ·rw [if_neg e2, if_neg e, if_neg e2]
     exact lk_id (pgm hn) p
  ·rw [mapF_id (pgm hn), mapF_id (pgm hn), rn]
   have e : backm m o n m = some n := by unfold backm; rw [if_neg hm, if_pos rfl]
   rw [e]
   exact hK
theorem RetPP {k m sz : Nat} {fr : Fr} {H : Hp} {cells : List DV} {offs : List Nat} (hm : m ≠ 1048576) (hd : lk fr k = .osl sz m 0 offs.length) (hh : lkH H 1048576 = some cells) (hh2 : lkH H m = some (pp 1048576 offs))
  (hc : ∀ d ∈ cells, d.rf = true) :
  RetPR [.t k] [(1048576, cells)] (fun r H' => r = .osl sz m 0 offs.length ∧ H' = [(1048576, cells), (m, pp 1048576 offs)]) .ret fr H := by
 have n1 : nmH [(1048576, cells), (m, pp 1048576 offs)] 1048576 = some 1048576 := by unfold nmH; rw [lkH_two, if_pos rfl]; rfl
 refine ⟨.inr rfl, [lk fr k], .osl sz m 0 offs.length, [(1048576, cells), (m, pp 1048576 offs)], ⟨rfl, rfl⟩, fun o _ h => ?_, rfl, ?_, fun o c h => ?_⟩
 ·rw [lkH_one] at h
  split at h
  ·rename_i e; rw [lkH_two, if_pos e]; rfl
  ·cases h
 ·have e : nmH [(1048576, cells), (m, pp 1048576 offs)] m = some m := by unfold nmH; rw [lkH_two, if_neg (Ne.symm hm), if_pos rfl]; rfl
  show rn _ (lk fr k) = _
  rw [hd, rn, e]
 ·rw [lkH_two] at h
  split at h
  ·rename_i e
   subst e
   cases h
   exact ⟨_, hh, map_rf _ hc⟩
  ·split at h
   ·rename_i e
    subst e
    cases h
    exact ⟨_, hh2, rn_pp n1 offs⟩
   ·cases h
end Go.Dat
