/- Lemmas of the walk; no conditions beyond those that each states. -/
import Derived.Test.YtjfedgpbedppeaaGreatDoorD2
set_option linter.unusedSimpArgs false
set_option linter.unusedVariables false
set_option linter.unnecessarySimpa false
set_option maxHeartbeats 4000000
namespace Go.Dat
open Go
abbrev SD := DV → Eff → Prop
def callT (F : FnD) (f : Nat) (ds : List DV) (h : Heap) (S : SD) : Prop :=
 ∃ (o : Nat) (cells : List DV) (Q : DV → List DV → Prop), (h o = some cells ∧ tyNo o) ∧ (∀ d ∈ cells, d.rf = true) ∧ TCalls F.P f (ds.map (rn (fwd1 o))) cells Q ∧
  (∃ d c', d.rf = true ∧ (∀ x ∈ c', x.rf = true) ∧ Q d c') ∧ ∀ d ef, S d ef ↔ ∃ c', ef = .set o c' ∧ d.rf = true ∧ (∀ x ∈ c', x.rf = true) ∧ Q d c'
structure GivesT (F : FnD) (dp : DOper) (σ : Nat → DV) (h : Heap) (S : SD) : Prop where
 out : (dp.op.isCall = false ∧ dp.op.cls ≤ 1 ∧ ∃ d, Gives F dp σ (fun _ => none) d .no ∧ ∀ d' ef, S d' ef ↔ d' = d ∧ ef = .no) ∨
  (dp.op.isCall = true ∧ ((gS σ dp.guard = some true ∧ ∃ f args, dp.op = .call f args ∧ callT F f (args.map (evS σ)) h S) ∨ (gS σ dp.guard = some false ∧ ∀ d' ef, S d' ef ↔ d' = .tup [] ∧ ef = .no)))
section
variable {F : FnD}
theorem GivesT.inh {dp : DOper} {σ : Nat → DV} {h : Heap} {S : SD} (hg : GivesT F dp σ h S) : ∃ d ef, S d ef := by
 rcases hg.out with ⟨_, _, d, _, h2⟩ | ⟨_, ⟨_, f, args, _, o, cells, Q, _, _, _, ⟨d, c', h3, h4, h5⟩, h6⟩ | ⟨_, h2⟩⟩
 ·exact ⟨d, .no, (h2 _ _).2 ⟨rfl, rfl⟩⟩
 ·exact ⟨d, .set o c', (h6 _ _).2 ⟨c', rfl, h3, h4, h5⟩⟩
 ·exact ⟨_, .no, (h2 _ _).2 ⟨rfl, rfl⟩⟩
theorem GivesT.one {dp : DOper} {σ : Nat → DV} {h : Heap} {S : SD} (hc : dp.op.isCall = false) (hg : GivesT F dp σ h S) : ∃ d, ∀ d' ef, S d' ef ↔ d' = d ∧ ef = .no := by
 rcases hg.out with ⟨_, _, d, _, h2⟩ | ⟨h1, _⟩
 ·exact ⟨d, h2⟩
 ·rw [hc] at h1; cases h1
theorem GivesT.heap {dp : DOper} {σ : Nat → DV} {h : Heap} (h' : Heap) {S : SD} (hc : dp.op.isCall = false) (hg : GivesT F dp σ h S) : GivesT F dp σ h' S := by
 rcases hg.out with h1 | ⟨h1, _⟩
 ·exact ⟨.inl h1⟩
 ·rw [hc] at h1; cases h1
theorem Gives.det {dp : DOper} {σ : Nat → DV} {h : Heap} {d d' : DV} {ef ef' : Eff} (hc : dp.op.isCall = false) (h1 : Gives F dp σ h d ef) (h2 : Gives F dp σ h d' ef') : d = d' := by
 rcases h1.out with ⟨a1, a2⟩ | ⟨a1, a2, _⟩ <;> rcases h2.out with ⟨b1, b2⟩ | ⟨b1, b2, _⟩
 ·obtain ⟨dst, op, guard⟩ := dp
  cases op with
  | call f args => cases hc
  | _ =>
   simp only [goD] at a2 b2
   rw [a2] at b2
   cases b2; rfl
 ·rw [a1] at b1; cases b1
 ·rw [a1] at b1; cases b1
 ·rw [a2, b2]
theorem GivesT.det {dp : DOper} {σ : Nat → DV} {h h' : Heap} {S S' : SD} (hc : dp.op.isCall = false) (h1 : GivesT F dp σ h S) (h2 : GivesT F dp σ h' S') : ∀ d ef, S d ef ↔ S' d ef := by
 rcases h1.out with ⟨_, _, d, a1, a2⟩ | ⟨a1, _⟩
 ·rcases h2.out with ⟨_, _, d', b1, b2⟩ | ⟨b1, _⟩
  ·have := a1.det hc b1
   subst this
   intro d ef
   rw [a2, b2]
  ·rw [hc] at b1; cases b1
 ·rw [hc] at a1; cases a1
theorem gS_upd {dp : DOper} {σ : Nat → DV} {k : Option Nat} {d' : DV} (hk : ∀ s, k = some s → s ∉ dp.looks) : gS (updS σ k d') dp.guard = gS σ dp.guard := by
 cases hgu : dp.guard with
 | none => rfl
 | some p =>
  obtain ⟨g, w⟩ := p
  have : evS (updS σ k d') g = evS σ g := evS_upd fun s hs e => hk s hs (by
   unfold DOper.looks; rw [hgu]; exact List.mem_append.2 (.inr (by simp [e])))
  simp only [gS, this]
theorem GivesT.upd {dp : DOper} {σ : Nat → DV} {h : Heap} {S : SD} {k : Option Nat} {d' : DV} (hk : ∀ s, k = some s → s ∉ dp.looks) : GivesT F dp (updS σ k d') h S ↔ GivesT F dp σ h S := by
 have hg := gS_upd (d' := d') (σ := σ) hk
 have hargs : ∀ f args, dp.op = .call f args → args.map (evS (updS σ k d')) = args.map (evS σ) := fun f args e => List.map_congr_left fun o ho => evS_upd fun s hs e2 => hk s hs (by
  unfold DOper.looks; exact List.mem_append.2 (.inl (List.mem_filterMap.2 ⟨o, by rw [e]; exact ho, e2⟩)))
 constructor
 ·rintro ⟨h1⟩
  refine ⟨?_⟩
  rcases h1 with ⟨a1, a2, d, a3, a4⟩ | ⟨a1, ⟨a2, f, args, a3, a4⟩ | ⟨a2, a3⟩⟩
  ·exact .inl ⟨a1, a2, d, (Gives.upd hk).1 a3, a4⟩
  ·exact .inr ⟨a1, .inl ⟨hg ▸ a2, f, args, a3, by rw [hargs f args a3] at a4; exact a4⟩⟩
  ·exact .inr ⟨a1, .inr ⟨hg ▸ a2, a3⟩⟩
 ·rintro ⟨h1⟩
  refine ⟨?_⟩
  rcases h1 with ⟨a1, a2, d, a3, a4⟩ | ⟨a1, ⟨a2, f, args, a3, a4⟩ | ⟨a2, a3⟩⟩
  ·exact .inl ⟨a1, a2, d, (Gives.upd hk).2 a3, a4⟩
  ·exact .inr ⟨a1, .inl ⟨by rw [hg]; exact a2, f, args, a3, by rw [hargs f args a3]; exact a4⟩⟩
  ·exact .inr ⟨a1, .inr ⟨by rw [hg]; exact a2, a3⟩⟩
def stepT (F : FnD) (dp : DOper) (K : (Nat → DV) → Heap → Prop) (σ : Nat → DV) (h : Heap) : Prop :=
 ∃ S, GivesT F dp σ h S ∧ ∀ d ef, S d ef → K (updS σ dp.dst.slot d) (ef.onH h)
def anyT (F : FnD) (ops : Array Oper) (ds : List DOper) (K : (Nat → DV) → Heap → Prop) : Nat → Array Bool → (Nat → DV) → Heap → Prop
 | 0, listed, σ, h => Region.ready .any ops listed = [] ∧ K σ h
 | fuel + 1, listed, σ, h => (Region.ready .any ops listed = [] → K σ h) ∧
  ∀ i ∈ Region.ready .any ops listed, ∃ x, ds[i]? = some x ∧ stepT F x (anyT F ops ds K fuel (listed.setIfInBounds i true)) σ h
def lexT (F : FnD) : List DOper → ((Nat → DV) → Heap → Prop) → (Nat → DV) → Heap → Prop
 | [], K => K
 | o :: os, K => stepT F o (lexT F os K)
theorem anyT_first {ops : Array Oper} {ds : List DOper} {K : (Nat → DV) → Heap → Prop} {i : Nat} {x : DOper} (hx : ds[i]? = some x) : ∀ (fuel : Nat) (listed : Array Bool) (σ : Nat → DV) (h : Heap) (S : SD),
  ClosedL ops listed → i ∈ Region.ready .any ops listed →
  (∀ j y, ds[j]? = some y → j ≠ i → listed.getD j true = false → Dep ops j i ∨ (x.apart y = true ∧ (x.op.isCall && y.op.isCall) = false)) →
  GivesT F x σ h S → (∀ d ef, S d ef → anyT F ops ds K fuel (listed.setIfInBounds i true) (updS σ x.dst.slot d) (ef.onH h)) → anyT F ops ds K (fuel + 1) listed σ h := by
 intro fuel
 induction fuel with
 | zero =>
  intro listed σ h S hc hi hap hg H
  refine ⟨fun e => (by rw [e] at hi; cases hi), fun j hj => ?_⟩
  by_cases hji : j = i
  ·subst hji; exact ⟨x, hx, S, hg, H⟩
  ·obtain ⟨d, ef, hs⟩ := hg.inh
   have := ready_mono hj hji
   rw [(H d ef hs).1] at this; cases this
 | succ fuel ih =>
  intro listed σ h S hc hi hap hg H
  refine ⟨fun e => (by rw [e] at hi; cases hi), fun j hj => ?_⟩
  by_cases hji : j = i
  ·subst hji; exact ⟨x, hx, S, hg, H⟩
  ·obtain ⟨d0, e0, hs0⟩ := hg.inh
   obtain ⟨y, hy, S0, hg0, H0⟩ := (H d0 e0 hs0).2 j (ready_mono hj hji)
   obtain ⟨hjun, oj, hoj, hall⟩ := mem_ready.1 hj
   obtain ⟨hiun, _, _, _⟩ := mem_ready.1 hi
   have hnd : ¬ Dep ops j i := by
    intro hd
    have h1 := dep_listed hc hd fun o ho e he hb => by rw [hoj] at ho; cases ho; exact hall e he hb
    have h2 : listed.getD i true = true := by
     rw [Array.getD_eq_getD_getElem?] at h1 ⊢
     cases hq : listed[i]? with
     | none => rfl
     | some b => rw [hq] at h1; exact h1
    rw [hiun] at h2; cases h2
   obtain ⟨hap1, hap2⟩ := (hap j y hy hji hjun).resolve_left hnd
   obtain ⟨a1, a2, a3⟩ := apart_ev hap1
   have hapn : ∀ k z, ds[k]? = some z → k ≠ i → (listed.setIfInBounds j true).getD k true = false → Dep ops k i ∨ (x.apart z = true ∧ (x.op.isCall && z.op.isCall) = false) := fun k z hz hki hun => by
    refine hap k z hz hki ?_
    by_cases hjk : j = k
    ·subst hjk; exact hjun
    ·rwa [getD_set_ne true hjk] at hun
   cases hxc : x.op.isCall with
   | false =>
    obtain ⟨di, hS⟩ := hg.one hxc
    obtain ⟨rfl, rfl⟩ := (hS _ _).1 hs0
    refine ⟨y, hy, S0, (GivesT.upd a1).1 hg0, fun dj ej hsj => ?_⟩
    refine ih _ _ _ S (hc.set hj) (ready_mono hi (Ne.symm hji)) hapn ((GivesT.upd a2).2 (hg.heap _ hxc)) fun d ef hs => ?_
    obtain ⟨rfl, rfl⟩ := (hS _ _).1 hs
    have := H0 dj ej hsj
    rw [updS_comm a3, Array.setIfInBounds_comm _ _ hji]
    exact this
   | true =>
    rw [hxc, Bool.true_and] at hap2
    have hg0' := (GivesT.upd a1).1 (hg0.heap h hap2)
    obtain ⟨dj, hS0⟩ := hg0'.one hap2
    refine ⟨y, hy, S0, hg0', fun d' ef' hsj => ?_⟩
    obtain ⟨rfl, rfl⟩ := (hS0 _ _).1 hsj
    refine ih _ _ _ S (hc.set hj) (ready_mono hi (Ne.symm hji)) hapn ((GivesT.upd a2).2 hg) fun d ef hs => ?_
    obtain ⟨y', hy', S1, hg1, H1⟩ := (H d ef hs).2 j (ready_mono hj hji)
    rw [hy] at hy'; cases hy'
    have h3 := (GivesT.det hap2 ((GivesT.upd a1).1 hg1) hg0' d' .no).2 hsj
    have := H1 d' .no h3
    rw [updS_comm a3, Array.setIfInBounds_comm _ _ hji]
    exact this
theorem anyT_lex {ops : Array Oper} {ds : List DOper} {K : (Nat → DV) → Heap → Prop} {deps : List (List Nat)} (hdeps : ∀ k x, x ∈ deps.getD k [] → Dep ops k x) (hlen : ds.length = ops.size) :
  ∀ (fuel k : Nat) (listed : Array Bool) (σ : Nat → DV) (h : Heap), k + fuel = ops.size → ClosedL ops listed → drawFrom ops ds deps fuel k listed = true → lexT F (ds.drop k) K σ h → anyT F ops ds K fuel listed σ h := by
 intro fuel
 induction fuel with
 | zero =>
  intro k listed σ h hk hc hd hl
  rw [List.drop_eq_nil_of_le (by omega)] at hl
  exact ⟨List.isEmpty_iff.1 hd, hl⟩
 | succ fuel ih =>
  intro k listed σ h hk hc hd hl
  simp only [drawFrom, Bool.and_eq_true, List.contains_iff_mem, List.all_eq_true, List.mem_range] at hd
  obtain ⟨⟨hr, hall⟩, hd⟩ := hd
  have hlt : k < ds.length := by omega
  rw [List.drop_eq_getElem_cons hlt] at hl
  obtain ⟨S, hg, hl⟩ := hl
  refine anyT_first (List.getElem?_eq_getElem hlt) fuel listed σ h S hc hr (fun j y hy hjk hun => ?_) hg (fun d ef hs => ih (k + 1) _ _ _ (by omega) (hc.set hr) hd (hl d ef hs))
  have hjl : j < ops.size := by have := (List.getElem?_eq_some_iff.1 hy).1; omega
  have := hall j hjl
  rw [hun, List.getElem?_eq_getElem hlt, hy] at this
  simp only [Bool.or_eq_true, beq_iff_eq, Bool.false_eq_true, or_false, Bool.and_eq_true, List.contains_iff_mem, Bool.not_eq_true'] at this
  rcases this with (h1 | h1) | h1
  ·exact absurd h1 hjk
  ·exact .inl (hdeps _ _ h1)
  ·exact .inr ⟨h1.1.1, h1.2⟩
end
def callTW (F : FnD) (dst : Dst) (f : Nat) (ds : List DV) (te fr : Fr) (H : Hp) (R : Fr → Fr → Hp → Prop) : Prop :=
 ∃ (o : Nat) (cells : List DV) (Q : DV → List DV → Prop), (lkH H o = some cells ∧ tyNo o) ∧ (∀ d ∈ cells, d.rf = true) ∧ TCalls F.P f (ds.map (rn (fwd1 o))) cells Q ∧
  (∃ d c', d.rf = true ∧ (∀ x ∈ c', x.rf = true) ∧ Q d c') ∧ ∀ d c', d.rf = true → (∀ x ∈ c', x.rf = true) → Q d c' → R (dst.onT te d) (dst.onX fr d) (setH H o c')
def regWT (F : FnD) : List DOper → (Fr → Fr → Hp → Prop) → Fr → Fr → Hp → Prop
 | [], K => K
 | o :: os, K => fun te fr H => match o.op with
  | .call f args => o.guard = none ∧ callTW F o.dst f (args.map (ev te fr)) te fr H (regWT F os K)
  | _ => o.op.cls ≤ 1 ∧ regW F [o] te fr [] fun te' fr' _ => regWT F os K te' fr' H
def contT (F : FnD) (os : List DOper) (K : Fr → Fr → Hp → Prop) (H : Hp) (te' fr' : Fr) (_ : Hp) : Prop := regWT F os K te' fr' H
theorem regWT_nil (F : FnD) (K : Fr → Fr → Hp → Prop) (te fr : Fr) (H : Hp) : regWT F [] K te fr H = K te fr H := rfl
theorem regWT_call (F : FnD) (os : List DOper) (K : Fr → Fr → Hp → Prop) (te fr : Fr) (H : Hp) (dst : Dst) (f : Nat) (args : List Opd) :
  regWT F (⟨dst, .call f args, none⟩ :: os) K te fr H = callTW F dst f (args.map (ev te fr)) te fr H (regWT F os K) := by simp [regWT]
theorem regWT_op {F : FnD} {os : List DOper} {K : Fr → Fr → Hp → Prop} {te fr : Fr} {H : Hp} {o : DOper} (hc : o.op.isCall = false) (hcl : o.op.cls ≤ 1) (h : regW F [o] te fr [] (contT F os K H)) : regWT F (o :: os) K te fr H := by
 unfold regWT
 split
 ·rename_i f args e; rw [e] at hc; cases hc
 ·exact ⟨hcl, h⟩
theorem contT_go (F : FnD) (os : List DOper) (K : Fr → Fr → Hp → Prop) (H : Hp) (te' fr' : Fr) (H' : Hp) : contT F os K H te' fr' H' = regWT F os K te' fr' H := rfl
theorem callTW_of {F : FnD} {dst : Dst} {f : Nat} {ds : List DV} {te fr : Fr} {H : Hp} {R : Fr → Fr → Hp → Prop} (o : Nat) {args cells : List DV} {Q : DV → List DV → Prop} (hc : TCalls F.P f args cells Q) (ho : lkH H o = some cells)
  (hrf : ∀ d ∈ cells, d.rf = true) (ha : ds.map (rn (fwd1 o)) = args) (hne : ∃ d c', d.rf = true ∧ (∀ x ∈ c', x.rf = true) ∧ Q d c')
  (hK : ∀ d c', d.rf = true → (∀ x ∈ c', x.rf = true) → Q d c' → R (dst.onT te d) (dst.onX fr d) (setH H o c')) (hlo : tyNo o := by decide) : callTW F dst f ds te fr H R :=
 ⟨o, cells, Q, ⟨ho, hlo⟩, hrf, by rw [ha]; exact hc, hne, hK⟩
section
variable {F : FnD}
theorem regWT_lex (hp : F.pure = true) {K : Fr → Fr → Hp → Prop} : ∀ (ds : List DOper), ds.all (·.tags F.vs) = true → ∀ (te fr : Fr) (H : Hp), regWT F ds K te fr H →
  lexT F ds (fun σ h => ∃ te fr H, σ = den F.vs te fr ∧ h = lkH H ∧ K te fr H) (den F.vs te fr) (lkH H)
 | [], _, te, fr, H, hw => ⟨te, fr, H, rfl, rfl, hw⟩
 | o :: os, ht, te, fr, H, hw => by
  have ht0 := ht
  simp only [List.all_cons, Bool.and_eq_true] at ht
  obtain ⟨ht, hts⟩ := ht
  have ih := regWT_lex hp (K := K) os hts
  have htag := ht
  simp only [DOper.tags, Bool.and_eq_true] at ht
  obtain ⟨⟨t1, t2⟩, t3⟩ := ht
  have hd := dst_tag t1
  unfold regWT at hw
  split at hw
  ·rename_i f args hop
   obtain ⟨hgu, o', cells, Q, h1, h2, h3, h4, h5⟩ := hw
   have hm : args.map (ev te fr) = args.map (evS (den F.vs te fr)) := List.map_congr_left fun p hp => ev_tag (List.all_eq_true.1 t2 p (by rw [hop]; exact hp))
   rw [hm] at h3
   refine ⟨fun d ef => ∃ c', ef = .set o' c' ∧ d.rf = true ∧ (∀ x ∈ c', x.rf = true) ∧ Q d c', ⟨.inr ⟨by rw [hop]; rfl, .inl ⟨by rw [hgu]; rfl, f, args, hop, o', cells, Q, h1, h2, h3, h4, fun d ef => Iff.rfl⟩⟩⟩, ?_⟩
   rintro d ef ⟨c', rfl, hr, hc, hQ⟩
   have := ih _ _ _ (h5 d c' hr hc hQ)
   rw [hd, den_put] at this
   rw [hd, sDst_slot]
   have e : lkH (setH H o' c') = Eff.onH (.set o' c') (lkH H) := by funext s; simp only [Eff.onH, Heap.upd, lkH_setH]
   rw [e] at this
   exact this
  ·rename_i hnc
   obtain ⟨hcl, hw⟩ := hw
   have hcf : o.op.isCall = false := by
    cases hop : o.op with
    | call f args => exact absurd hop (hnc f args)
    | _ => rfl
   have hl := regW_lex hp [o] (by rw [List.all_cons, htag]; rfl) te fr [] hw
   obtain ⟨d, ef, hg, te', fr', H', e1, e2, hk⟩ := hl
   have hno := hg.noEff hcl
   subst hno
   refine ⟨fun d' ef => d' = d ∧ ef = .no, ⟨.inl ⟨hcf, hcl, d, hg, fun d' ef => Iff.rfl⟩⟩, ?_⟩
   rintro d' ef ⟨rfl, rfl⟩
   have := ih _ _ _ hk
   have e3 : updS (den F.vs te fr) o.dst.slot d' = den F.vs te' fr' := e1
   rw [e3]
   exact this
end
def pgH (h : Heap) (f : Nat → Option Nat) (o : Nat) : Option Nat := match f o with
 | some q => if q < 1048576 ∧ (h o).isSome = true then none else some o
 | none => some o
theorem MRel.run {P : Program} {G : Cx} {L : Nat → Option Nat} {σ : Nat → DV} {h : Heap} {a : Act} {w : World} {us : Array Value} {f : Nat} {ds : List DV} {Q : DV → Hp → Prop} (fwd back : Nat → Option Nat)
  (hfb : ∀ p q, fwd p = some q ↔ back q = some p) (hkp : ∀ p q, fwd p = some q → 1048576 ≤ p → 1048576 ≤ q) (hty : ∀ p q, fwd p = some q → tyEq p q) {Hc : Hp}
  (hH : ∀ q, lkH Hc q = (back q).bind fun p => (h p).map (List.map (rn fwd))) (hc : MRel P f (ds.map (rn fwd)) Hc Q) (hG : G.ok P) (hR : R G L σ h a w) (hs : us.size = ds.length)
  (hv : ∀ (k : Nat) d v, ds[k]? = some d → us[k]? = some v → V w L (Av G.S L) d v) :
  Calls P f us w fun e w' => ∃ v r Hc' h2 L2, e = .returned v ∧ Q r Hc' ∧ (∀ p, h2 p = match fwd p with | some q => (lkH Hc' q).map (List.map (rn back)) | none => (h p).map (List.map (rn (pgH h fwd)))) ∧
   R G L2 (fun s => rn (pgH h fwd) (σ s)) h2 a w' ∧ V w' L2 (Av G.S L2) (rn back r) v := by
 obtain ⟨Lc, hLc⟩ : ∃ Lc : Nat → Option Nat, Lc = fun q => (back q).bind L := ⟨_, rfl⟩
 have hLc1 : ∀ q b, Lc q = some b → ∃ p, back q = some p ∧ L p = some b := fun q b h => by
  rw [hLc] at h
  simp only [Option.bind_eq_some_iff] at h
  exact h
 have hLc2 : ∀ p q b, fwd p = some q → L p = some b → Lc q = some b := fun p q b h1 h2 => by
  rw [hLc]
  simp only [(hfb p q).1 h1, Option.bind_some, h2]
 obtain ⟨Sc, hSc⟩ : ∃ Sc : Nat → Prop, Sc = fun x => Av G.S L x ∧ ¬ ∃ q, Lc q = some x := ⟨_, rfl⟩
 have hAvc : ∀ x, Av Sc Lc x ↔ Av G.S L x := fun x => by
  unfold Av
  rw [hSc]
  constructor
  ·rintro (h | ⟨q, h⟩)
   ·exact h.1
   ·obtain ⟨p, _, h2⟩ := hLc1 q x h
    exact .inr ⟨p, h2⟩
  ·intro h
   by_cases e : ∃ q, Lc q = some x
   ·exact .inr e
   ·exact .inl ⟨h, e⟩
 have hlt : ∀ x, Av G.S L x → x < w.heap.size := by
  rintro x (h | ⟨p, h⟩)
  ·exact hR.sLt x h
  ·exact hR.heap.lt h
 have hGS : ∀ x, G.S x → Sc x := fun x hx => by
  rw [hSc]
  refine ⟨.inl hx, ?_⟩
  rintro ⟨q, hq⟩
  obtain ⟨p, _, h2⟩ := hLc1 q x hq
  exact hR.heap.notS p x h2 hx
 have hVf : ∀ d v, V w L (Av G.S L) d v → V w Lc (Av Sc Lc) (rn fwd d) v := fun d v hd => hd.rn fwd (fun b hb => (hAvc b).1 hb) fun o p b h1 h2 => hLc2 o p b h1 h2
 have hHc : HOK w Sc Lc (lkH Hc) := by
  refine ⟨fun q b hq => ?_, fun q c hq => ?_, fun q q' b h1 h2 => ?_, fun q b hq hs => ?_, fun q b hq => ?_⟩
  ·obtain ⟨p, h1, h2⟩ := hLc1 q b hq
   obtain ⟨c, h3⟩ := hR.heap.dom p b h2
   exact ⟨_, by rw [hH, h1, Option.bind_some, h3]; rfl⟩
  ·rw [hH] at hq
   simp only [Option.bind_eq_some_iff, Option.map_eq_some_iff] at hq
   obtain ⟨p, h1, c0, h2, rfl⟩ := hq
   have e : Lc q = L p := by rw [hLc]; simp only [h1, Option.bind_some]
   rcases hR.heap.obj p c0 h2 with ⟨h3, h4⟩ | ⟨b, cs, T, h3, h4, h5, h6⟩
   ·exact .inl ⟨by rw [e, h3], by rw [h4]; rfl⟩
   ·refine .inr ⟨b, cs, T, by rw [e, h3], h4, by simpa using h5, fun k d v hk hu => ?_⟩
    rw [List.getElem?_map, Option.map_eq_some_iff] at hk
    obtain ⟨d0, hd0, rfl⟩ := hk
    exact hVf _ _ (h6 k d0 v hd0 hu)
  ·obtain ⟨p, h3, h4⟩ := hLc1 q b h1
   obtain ⟨p', h5, h6⟩ := hLc1 q' b h2
   have e := hR.heap.inj p p' b h4 h6
   subst e
   have h7 := (hfb p q).2 h3
   rw [(hfb p q').2 h5] at h7
   exact (Option.some.inj h7).symm
  ·rw [hSc] at hs
   exact hs.2 ⟨q, hq⟩
  ·obtain ⟨p, h1, h2⟩ := hLc1 q b hq
   exact (hR.heap.ty p b h2).rn (hty p q ((hfb p q).2 h1))
 have hown : ∀ q b, Lc q = some b → ∃ p, L p = some b := fun q b h => (hLc1 q b h).elim fun p h => ⟨p, h.2⟩
 refine (hc Sc Lc w us (hG.tab hR) (fun q b h => (hown q b h).elim fun p h => hG.own hR h) hHc (fun x hx => hlt x (by rw [hSc] at hx; exact hx.1)) (by simpa using hs) fun k d v h1 h2 => ?_).mono ?_
 ·rw [List.getElem?_map, Option.map_eq_some_iff] at h1
  obtain ⟨d0, hd0, rfl⟩ := h1
  exact hVf _ _ (hv k d0 v hd0 h2)
 ·rintro e w' ⟨v, L', r, Hc', hQ, rfl, hH', hr, hx, hkeep, hnew, hshp⟩
  obtain ⟨h2, hH2⟩ : ∃ h2 : Heap, ∀ p, h2 p = match fwd p with | some q => (lkH Hc' q).map (List.map (rn back)) | none => (h p).map (List.map (rn (pgH h fwd))) := ⟨fun p => _, fun p => rfl⟩
  obtain ⟨L2, hL2⟩ : ∃ L2 : Nat → Option Nat, L2 = fun p => match fwd p with | some q => L' q | none => L p := ⟨_, rfl⟩
  have hL2f : ∀ p q, fwd p = some q → L2 p = L' q := fun p q h => by rw [hL2]; simp only [h]
  have hL2n : ∀ p, fwd p = none → L2 p = L p := fun p h => by rw [hL2]; simp only [h]
  have hcase : ∀ p, (∃ q, fwd p = some q) ∨ fwd p = none := fun p => by
   cases h : fwd p with
   | none => exact .inr rfl
   | some q => exact .inl ⟨q, rfl⟩
  have hlent : ∀ p, fwd p = none → ∀ b, L p = some b → ¬ ∃ q, Lc q = some b := by
   rintro p hp b hb ⟨q, hq⟩
   obtain ⟨p', h1, h2⟩ := hLc1 q b hq
   have e := hR.heap.inj p p' b hb h2
   subst e
   rw [(hfb p q).2 h1] at hp; cases hp
  have hL2o : ∀ p b, L2 p = some b → (∃ o, L o = some b) ∨ w.heap.size ≤ b := fun p b h => by
   rcases hcase p with ⟨q, hq⟩ | hq
   ·rw [hL2f p q hq] at h
    rcases hnew q b h with ⟨q', h1⟩ | h1
    ·exact .inl (hown q' b h1)
    ·exact .inr h1
   ·rw [hL2n p hq] at h; exact .inl ⟨p, h⟩
  have hAv2 : ∀ b, Av G.S L2 b → Av Sc L' b := by
   rintro b (h | ⟨p, h⟩)
   ·exact .inl (hGS b h)
   ·rcases hcase p with ⟨q, hq⟩ | hq
    ·rw [hL2f p q hq] at h; exact .inr ⟨q, h⟩
    ·rw [hL2n p hq] at h
     refine .inl ?_
     rw [hSc]; exact ⟨.inr ⟨p, h⟩, hlent p hq b h⟩
  have hblk : ∀ b, b < w.heap.size → ¬ (∃ q, Lc q = some b) → w'.heap[b]? = w.heap[b]? := fun b hb h => hx.block b hb h
  have hVb : ∀ d v, V w' L' (Av Sc L') d v → V w' L2 (Av G.S L2) (rn back d) v := fun d v hd => hd.rn back hAv2 fun q p b h1 h2 => by
   rw [hL2f p q ((hfb p q).2 h1)]; exact h2
  have hVk : ∀ d v, V w L (Av G.S L) d v → V w' L2 (Av G.S L2) (rn (pgH h fwd) d) v := fun d v hd => by
   have h1 := hd.rn (L' := fun p => (pgH h fwd p).bind L) (A' := Av G.S L) (pgH h fwd) (fun _ h => h) (fun o p b h1 h2 => by
    have e : o = p := by
     unfold pgH at h1; split at h1
     ·split at h1
      ·cases h1
      ·simpa using h1
     ·simpa using h1
    subst e
    show (pgH h fwd o).bind L = some b
    rw [h1]; exact h2)
   refine h1.mono (fun b hb hA => ⟨hblk b hb fun h => hA ((hown _ b h.choose_spec).elim fun p h => .inr ⟨p, h⟩), ?_⟩) fun o b _ ho => ?_
   ·rintro (h | ⟨p, h⟩)
    ·exact hA (.inl h)
    ·rcases hL2o p b h with h2 | h2
     ·exact hA (.inr h2)
     ·omega
   ·have ho' : L o = some b ∧ (fwd o = none ∨ ∃ q, fwd o = some q ∧ 1048576 ≤ q) := by
     unfold pgH at ho
     cases hq : fwd o with
     | none => rw [hq] at ho; exact ⟨ho, .inl rfl⟩
     | some q =>
      rw [hq] at ho
      simp only at ho
      split at ho
      ·cases ho
      ·rename_i hc
       have hLo : L o = some b := ho
       refine ⟨hLo, .inr ⟨q, rfl, ?_⟩⟩
       obtain ⟨c, hc2⟩ := hR.heap.dom o b hLo
       rcases Nat.lt_or_ge q 1048576 with h | h
       ·exact absurd ⟨h, by rw [hc2]; rfl⟩ hc
       ·exact h
    refine ⟨?_, hshp b (hR.heap.lt ho'.1)⟩
    rcases ho'.2 with h | ⟨q, h, hq⟩
    ·rw [hL2n o h]; exact ho'.1
    ·rw [hL2f o q h]; exact hkeep q b (hLc2 o q b h ho'.1) hq
  have hRn : R G L2 (fun s => rn (pgH h fwd) (σ s)) h2 a w' := by
   refine ⟨hR.size, hR.defers, fun s => ?_, ⟨fun p b hb => ?_, fun p c hc => ?_, fun p p' b h1 h2 => ?_, fun p b hb hs => ?_, fun p b hb => ?_⟩, ⟨hx.os.trans hR.ext.os, hx.tape.trans hR.ext.tape, hx.output.trans hR.ext.output, Nat.le_trans hR.ext.size hx.size, fun k hk hS => ?_⟩, fun k hk => Nat.lt_of_lt_of_le (hR.sLt k hk) hx.size, fun p b hb => ?_, fun p b hb => ?_, fun k hk => ?_⟩
   ·exact hVk _ _ (hR.slots s)
   ·rw [hH2]
    rcases hcase p with ⟨q, hq⟩ | hq
    ·rw [hL2f p q hq] at hb
     obtain ⟨c, hc⟩ := hH'.dom q b hb
     exact ⟨_, by rw [hq]; simp only [hc, Option.map_some]; rfl⟩
    ·rw [hL2n p hq] at hb
     obtain ⟨c, hc⟩ := hR.heap.dom p b hb
     exact ⟨_, by rw [hq]; simp only [hc, Option.map_some]; rfl⟩
   ·rw [hH2] at hc
    rcases hcase p with ⟨q, hq⟩ | hq
    ·rw [hq] at hc
     simp only [Option.map_eq_some_iff] at hc
     obtain ⟨c0, h1, rfl⟩ := hc
     rcases hH'.obj q c0 h1 with ⟨h2, h3⟩ | ⟨b, cs, T, h2, h3, h4, h5⟩
     ·exact .inl ⟨by rw [hL2f p q hq, h2], by rw [h3]; rfl⟩
     ·refine .inr ⟨b, cs, T, by rw [hL2f p q hq, h2], h3, by simpa using h4, fun k d u hk hu => ?_⟩
      rw [List.getElem?_map, Option.map_eq_some_iff] at hk
      obtain ⟨d0, hd0, rfl⟩ := hk
      exact hVb _ _ (h5 k d0 u hd0 hu)
    ·rw [hq] at hc
     simp only [Option.map_eq_some_iff] at hc
     obtain ⟨c0, h1, rfl⟩ := hc
     rcases hR.heap.obj p c0 h1 with ⟨h2, h3⟩ | ⟨b, cs, T, h2, h3, h4, h5⟩
     ·exact .inl ⟨by rw [hL2n p hq, h2], by rw [h3]; rfl⟩
     ·refine .inr ⟨b, cs, T, by rw [hL2n p hq, h2], (hblk b (hR.heap.lt h2) (hlent p hq b h2)).trans h3, by simpa using h4, fun k d u hk hu => ?_⟩
      rw [List.getElem?_map, Option.map_eq_some_iff] at hk
      obtain ⟨d0, hd0, rfl⟩ := hk
      exact hVk _ _ (h5 k d0 u hd0 hu)
   ·have mixed : ∀ p p' q, fwd p = some q → fwd p' = none → L2 p = some b → L2 p' = some b → False := fun p p' q hq hn h1 h2 => by
     rw [hL2f p q hq] at h1
     rw [hL2n p' hn] at h2
     rcases hnew q b h1 with ⟨q', h3⟩ | h3
     ·exact hlent p' hn b h2 ⟨q', h3⟩
     ·have := hR.heap.lt h2; omega
    rcases hcase p with ⟨q, hq⟩ | hq <;> rcases hcase p' with ⟨q', hq'⟩ | hq'
    ·rw [hL2f p q hq] at h1
     rw [hL2f p' q' hq'] at h2
     have e := hH'.inj q q' b h1 h2
     subst e
     have h3 := (hfb p q).1 hq
     rw [(hfb p' q).1 hq'] at h3
     exact (Option.some.inj h3).symm
    ·exact (mixed p p' q hq hq' h1 h2).elim
    ·exact (mixed p' p q' hq' hq h2 h1).elim
    ·rw [hL2n p hq] at h1
     rw [hL2n p' hq'] at h2
     exact hR.heap.inj p p' b h1 h2
   ·rcases hcase p with ⟨q, hq⟩ | hq
    ·rw [hL2f p q hq] at hb
     exact hH'.notS q b hb (hGS b hs)
    ·rw [hL2n p hq] at hb
     exact hR.heap.notS p b hb hs
   ·rcases hcase p with ⟨q, hq⟩ | hq
    ·rw [hL2f p q hq] at hb
     exact (hH'.ty q b hb).rn (hty p q hq).symm
    ·rw [hL2n p hq] at hb
     exact (hR.heap.ty p b hb).imm_shape (hshp b (hR.heap.lt hb))
   ·refine (hblk k (Nat.lt_of_lt_of_le hk hR.ext.size) ?_).trans (hR.ext.block k hk hS)
    rintro ⟨q, hq⟩
    obtain ⟨p, hp⟩ := hown q k hq
    rcases hR.own p k hp with h1 | h1
    ·exact hS h1
    ·omega
   ·rcases hL2o p b hb with ⟨o, ho⟩ | h1
    ·exact hR.own o b ho
    ·exact .inr (Nat.le_trans hR.ext.size h1)
   ·obtain ⟨h1, h2⟩ := hR.keep p b hb
    refine ⟨?_, h2⟩
    rcases hcase p with ⟨q, hq⟩ | hq
    ·rw [hL2f p q hq]; exact hkeep q b (hLc2 p q b hq h1) (hkp p q hq h2)
    ·rw [hL2n p hq]; exact h1
   ·exact (hshp k (Nat.lt_of_lt_of_le hk hR.ext.size)).trans (hR.shp k hk)
  exact ⟨v, r, Hc', h2, L2, rfl, hQ, hH2, hRn, hVb _ _ hr⟩
theorem pgh1 (h : Heap) (o p : Nat) : pgH h (fwd1 o) p = some p := by
 unfold pgH fwd1
 split
 ·rename_i q h1
  split at h1
  ·cases h1; rw [if_neg (by omega)]
  ·cases h1
 ·rfl
theorem TCalls.run {P : Program} {G : Cx} {L : Nat → Option Nat} {σ : Nat → DV} {h : Heap} {a : Act} {w : World} {us : Array Value} {f : Nat} {ds : List DV} {o : Nat} {cells : List DV} {Q : DV → List DV → Prop}
  (hc : TCalls P f (ds.map (rn (fwd1 o))) cells Q) (ho : h o = some cells) (hlo : tyNo o) (hrf : ∀ d ∈ cells, d.rf = true) (hG : G.ok P) (hR : R G L σ h a w) (hs : us.size = ds.length)
  (hv : ∀ (k : Nat) d v, ds[k]? = some d → us[k]? = some v → V w L (Av G.S L) d v) :
  Calls P f us w fun e w' => ∃ v r c' L2, e = .returned v ∧ r.rf = true ∧ (∀ x ∈ c', x.rf = true) ∧ Q r c' ∧ R G L2 σ (h.upd o (some c')) a w' ∧ V w' L2 (Av G.S L2) r v := by
 refine (MRel.run (fwd1 o) (back1 o) (fb1 o) (fun p q h1 _ => ?_) (fun p q h1 => (by unfold fwd1 at h1; split at h1 <;> cases h1; subst p; exact hlo.eq (by decide))) (Hc := [(1048576, cells)]) (h := h) (fun q => ?_) hc hG hR hs hv).mono ?_
 ·unfold fwd1 at h1; split at h1
  ·cases h1; exact Nat.le_refl _
  ·cases h1
 ·rw [lkH_one]
  unfold back1
  by_cases e : q = 1048576
  ·subst e
   rw [if_pos rfl, if_pos rfl, Option.bind_some, ho, Option.map_some, map_rf _ hrf]
  ·rw [if_neg e, if_neg (Ne.symm e), Option.bind_none]
 ·rintro e w' ⟨v, r, Hc', h2, L2, rfl, ⟨c', rfl, hc', hr, hQ⟩, hh2, hR2, hV⟩
  have e1 : (fun s => rn (pgH h (fwd1 o)) (σ s)) = σ := funext fun s => rn_id (pgh1 h o) _
  have e2 : h2 = h.upd o (some c') := by
   funext p
   rw [hh2]
   unfold fwd1 Heap.upd
   by_cases e : p = o
   ·subst e
    simp only [if_true, lkH_one, Option.map_some, map_rf _ hc']
   ·simp only [if_neg e]
    cases h p with
    | none => rfl
    | some c =>
     simp only [Option.map_some, Option.some.injEq]
     conv => rhs; rw [← List.map_id c]
     exact List.map_congr_left fun d _ => rn_id (pgh1 h o) d
  rw [e1, e2] at hR2
  rw [rn_rf _ r hr] at hV
  exact ⟨v, r, c', L2, rfl, hr, hc', hQ, hR2, hV⟩
section
variable {F : FnD} {G : Cx} {L : Nat → Option Nat} {a : Act} {w : World} {σ : Nat → DV} {h : Heap}
theorem oper_soundT {o : Oper} {ops : Array Oper} {dp : DOper} {f : Nat} {args : List Opd} {S : SD} {K : Act → World → Prop} {Q : Exit → Act → World → Prop} (hop : dp.op = .call f args)
  (hs : sOper F.P F.vs F.own F.n ops o = some dp) (hn : G.n = F.n ∧ G.ok F.P) (hR : R G L σ h a w) (hgo : callT F f (args.map (evS σ)) h S)
  (hK : ∀ d ef, S d ef → ∀ L a w, R G L (updS σ dp.dst.slot d) (ef.onH h) a w → K a w) : o.wp F.P a w K Q := by
 obtain ⟨dst, op, ty, pos, after, guard⟩ := o
 simp only [sOper, Option.bind_eq_some_iff] at hs
 obtain ⟨p, hp, g, hg, hs⟩ := hs
 split at hs
 ·rename_i hd
  cases hs
  simp only at hop
  subst hop
  rw [sDst_slot] at hK
  have hdl := dst_lt hd
  have hE : EV F.vs (evS σ) w L (Av G.S L) a := fun x => ev_V hR x
  have hc : ∃ c fn, op = .call c ∧ c.callee = .value (.func f) ∧ F.P.funcs[f]? = some fn ∧ fn.body.isSome = true ∧ (fn.name != "runtime.NumGoroutine") = true ∧ args = c.args.toList.map (sOpd F.vs) := by
   cases op with
   | call c =>
    obtain ⟨callee, cargs, argTypes⟩ := c
    cases callee with
    | value q =>
     cases q with
     | func f' =>
      simp only [sOp] at hp
      split at hp
      ·rename_i fn hfn
       split at hp
       ·rename_i hcond
        cases hp
        simp only [Bool.and_eq_true] at hcond
        exact ⟨_, fn, rfl, rfl, hfn, hcond.1, hcond.2, rfl⟩
       ·cases hp
      ·cases hp
     | _ => simp [sOp] at hp
    | invoke r m => simp [sOp] at hp
    | builtin b =>
     exfalso
     cases b <;> simp only [sOp] at hp <;> (repeat' split at hp) <;> first | (cases hp; done) | (simp [Option.bind_eq_some_iff] at hp; done) | (simp only [Option.bind_eq_some_iff] at hp; obtain ⟨_, _, hp⟩ := hp; split at hp <;> cases hp)
   | _ =>
    exfalso
    exact sOp_nocall (by intro c e; cases e) hp
  obtain ⟨c, fn, rfl, hcal, hfn, hbody, hname, rfl⟩ := hc
  obtain ⟨callee, cargs, argTypes⟩ := c
  simp only at hcal hgo
  subst hcal
  obtain ⟨ob, cells, QQ, h1, h2, h3, _, h5⟩ := hgo
  have hcall := TCalls.run (us := cargs.map a.eval) h3 h1.1 h1.2 h2 hn.2 hR (by simp) (fun k d v h1 h2 => by
   simp only [List.map_map, List.getElem?_map, Array.getElem?_toList, Option.map_eq_some_iff] at h1
   simp only [Array.getElem?_map, Option.map_eq_some_iff] at h2
   obtain ⟨x, hx, rfl⟩ := h1
   obtain ⟨y, hy, rfl⟩ := h2
   rw [hx] at hy; cases hy
   exact hE x)
  have hr : (execOp a.eval ⟨dst, .call { callee := .value (.func f), args := cargs, argTypes := argTypes }, ty, pos, after, guard⟩).run F.P w = .ok (.enter f (cargs.map a.eval)) w := by
   have hb : ¬ fn.body = none := by intro e; rw [e] at hbody; cases hbody
   have hnm : ¬ fn.name = "runtime.NumGoroutine" := by simpa using hname
   simp [execOp, resolve, Act.eval, Deferred.ofValue, invoke, callFunc, hfn, hnm, hb]
  unfold Oper.wp
  rw [hr]
  refine hcall.mono ?_
  rintro e w' ⟨v, r, c', L2, rfl, hrr, hcc, hQ, hR2, hV⟩
  exact hK r (.set ob c') ((h5 _ _).2 ⟨c', rfl, hrr, hcc, hQ⟩) _ _ _ (hR2.put hV (by rw [hn.1]; exact hdl))
 ·cases hs
theorem anyT_sound {ops : Array Oper} {ds : List DOper} {Q : Exit → Act → World → Prop} {K : (Nat → DV) → Heap → Prop} (hn : G.n = F.n ∧ G.ok F.P) (hs : sOpers F.P F.vs F.own F.n ops ops.toList = some ds)
  (hK : ∀ σ h L a w, R G L σ h a w → K σ h → Q .normal a w) : ∀ (fuel : Nat) (listed : Array Bool) (σ : Nat → DV) (h : Heap) (L : Nat → Option Nat) (a : Act) (w : World), R G L σ h a w →
   anyT F ops ds K fuel listed σ h → wpAny F.P .any ops Q fuel listed a w := by
 intro fuel
 induction fuel with
 | zero => intro listed σ h L a w hR hA; exact ⟨hA.1, hK _ _ _ _ _ hR hA.2⟩
 | succ fuel ih =>
  intro listed σ h L a w hR hA
  refine ⟨fun e => hK _ _ _ _ _ hR (hA.1 e), fun i hi => ?_⟩
  obtain ⟨x, hx, S, hg, hA'⟩ := hA.2 i hi
  obtain ⟨_, o, ho, _⟩ := mem_ready.1 hi
  obtain ⟨dp, hdp, hso⟩ := (sOpers_get _ _ hs).2 i o (by simpa using ho)
  rw [hx] at hdp; cases hdp
  have hgd : sGuard F.vs ops o.guard = some x.guard ∧ x.dst = sDst F.vs o.dst ∧ ∀ k, o.dst = some k → k < F.n := by
   simp only [sOper, Option.bind_eq_some_iff] at hso
   obtain ⟨p, hp, g, hg', hs⟩ := hso
   split at hs
   ·rename_i hd; cases hs; exact ⟨hg', rfl, dst_lt hd⟩
   ·cases hs
  obtain ⟨hgu, hdst, hdl⟩ := hgd
  have hskip : S (.tup []) .no → wpAny F.P .any ops Q fuel (listed.setIfInBounds i true) (a.put o.dst undef) w := fun h2 => by
   have := hA' _ _ h2
   rw [hdst, sDst_slot] at this
   exact ih _ _ _ L _ w (hR.put V_undef (by rw [hn.1]; exact hdl)) this
  rcases hg.out with ⟨_, hcl, d, h1, h2⟩ | ⟨_, ⟨h1, f, args, hop, h2⟩ | ⟨h1, h2⟩⟩
  ·have hgh : Gives F x σ h d .no := by
    by_cases hc0 : x.op.cls = 0
    ·exact h1.heap0 hc0
    ·exact h1.heap1 (fun o c e => by cases e) (by omega)
   rcases hgh.out with ⟨g1, g2⟩ | ⟨g1, rfl, _⟩
   ·simp only [wpOp, ho]
    rw [wantedS hR hgu g1, if_pos rfl]
    exact .inl (oper_soundS hso hn hR g2 fun L a w hR' => ih _ _ _ L a w hR' (hA' d .no ((h2 _ _).2 ⟨rfl, rfl⟩)))
   ·simp only [wpOp, ho]
    rw [wantedS hR hgu g1, if_neg (by simp)]
    exact hskip ((h2 _ _).2 ⟨rfl, rfl⟩)
  ·simp only [wpOp, ho]
   rw [wantedS hR hgu h1, if_pos rfl]
   exact .inl (oper_soundT hop hso hn hR h2 fun d ef hS L a w hR' => ih _ _ _ L a w hR' (hA' d ef hS))
  ·simp only [wpOp, ho]
   rw [wantedS hR hgu h1, if_neg (by simp)]
   exact hskip ((h2 _ _).2 ⟨rfl, rfl⟩)
theorem W_regdT {Q : Ex → Fr → Hp → Prop} {fr : Fr} {H : Hp} {ds : List DOper} (hw : regWT { F with pure := true } ds (fun _ fr H => Q .norm fr H) [] fr H) : W F (.regd ds) Q fr H := by
 intro code hc G L a w hn hR
 cases code <;> simp only [strip] at hc <;> first | (cases hc; done) | skip
 rename_i id ops draw
 split at hc
 ·rename_i ds' hds
  split at hc
  ·rename_i hd
   subst hd
   split at hc
   ·cases hc
   split at hc
   ·rename_i hok
    cases hc
    simp only [drawOK, Bool.and_eq_true] at hok
    obtain ⟨⟨_, ⟨⟨_, htags⟩, hdf⟩⟩, hm⟩ := hok
    refine wp_region_any hm ?_
    have hlen : ds.length = ops.size := by rw [(sOpers_get _ _ hds).1]; simp
    have hlex := regWT_lex (F := { F with pure := true }) rfl ds htags [] fr H hw
    have hany : anyT { F with pure := true } ops ds (fun σ h => ∃ te fr' H', σ = den F.vs te fr' ∧ h = lkH H' ∧ Q .norm fr' H') ops.size (Array.replicate ops.size false) (den F.vs [] fr) (lkH H) := by
     refine anyT_lex (deps := depsAll ops.toList []) (fun k x hx => ?_) hlen ops.size 0 _ _ _ (by omega) ?_ hdf hlex
     ·exact depsAll_sound ops.toList [] (fun j => by simp) (fun k x hx => by simp at hx) k x hx
     ·intro j o hj _ e _ _
      simp [Array.getD_eq_getD_getElem?, Array.getElem?_replicate] at hj
      split at hj <;> simp at hj
    refine anyT_sound (F := { F with pure := true }) (G := G) (K := fun σ h => ∃ te fr' H', σ = den F.vs te fr' ∧ h = lkH H' ∧ Q .norm fr' H') hn hds ?_ ops.size _ _ _ L a _ (hR.still (w' := { w with drawn := w.drawn + 1 }) ⟨rfl, rfl, rfl, Nat.le_refl _, fun _ _ _ => rfl⟩) hany
    rintro σ h L a w hR' ⟨te, fr', H', rfl, rfl, hk⟩
    refine ⟨L, fr', H', .norm, hR'.weak fun s => ?_, rfl, hk⟩
    simp only [den, lk]
    split
    ·exact .inl rfl
    ·exact .inr rfl
   ·(repeat' split at hc) <;> cases hc
  ·cases hc
 ·cases hc
end
end Go.Dat
namespace Go.Dat
open Go
section
variable {F : FnD} {G : Cx}
theorem sOp_call {P : Program} {vs own : List Nat} {dst : Option Nat} {op : Op} {f : Nat} {args : List Opd} (hp : sOp P vs own dst op = some (.call f args)) :
  ∃ c fn, op = .call c ∧ c.callee = .value (.func f) ∧ P.funcs[f]? = some fn ∧ fn.body.isSome = true ∧ (fn.name != "runtime.NumGoroutine") = true ∧ args = c.args.toList.map (sOpd vs) := by
 cases op with
 | call c =>
  obtain ⟨callee, cargs, argTypes⟩ := c
  cases callee with
  | value q =>
   cases q with
   | func f' =>
    simp only [sOp] at hp
    split at hp
    ·rename_i fn hfn
     split at hp
     ·rename_i hcond
      cases hp
      simp only [Bool.and_eq_true] at hcond
      exact ⟨_, fn, rfl, rfl, hfn, hcond.1, hcond.2, rfl⟩
     ·cases hp
    ·cases hp
   | _ => simp [sOp] at hp
  | invoke r m => simp [sOp] at hp
  | builtin b =>
   exfalso
   cases b <;> simp only [sOp] at hp <;> (repeat' split at hp) <;> first | (cases hp; done) | (simp [Option.bind_eq_some_iff] at hp; done) | (simp only [Option.bind_eq_some_iff] at hp; obtain ⟨_, _, hp⟩ := hp; split at hp <;> cases hp) 
 | _ =>
  exfalso
  exact sOp_nocall (by intro c e; cases e) hp
end
inductive RX where
 | ret (d : DV)
 | pan (ch : List PanicEntry)
end Go.Dat
namespace Go.Dat
open Go
section
variable {F : FnD}
def callS (F : FnD) (dp : DOper) (f : Nat) (args : List Opd) (K : (Nat → DV) → Heap → Prop) (σ : Nat → DV) (h : Heap) : Prop :=
 ∀ (G : Cx) (L : Nat → Option Nat) (a : Act) (w : World) (us : Array Value), G.n = F.n → G.ok F.P → R G L σ h a w → us.size = args.length →
  (∀ (k : Nat) d v, (args.map (evS σ))[k]? = some d → us[k]? = some v → V w L (Av G.S L) d v) →
  Calls F.P f us w fun e w' => ∃ v L' d σ' h', e = .returned v ∧ R G L' σ' h' a w' ∧ V w' L' (Av G.S L') d v ∧ SimK σ σ' ∧ K (updS σ' dp.dst.slot d) h'
def stepX (F : FnD) (dp : DOper) (K : (Nat → DV) → Heap → Prop) (σ : Nat → DV) (h : Heap) : Prop :=
 match dp.op with
 | .call f args => (gS σ dp.guard = some true ∧ callS F dp f args K σ h) ∨ (gS σ dp.guard = some false ∧ K (updS σ dp.dst.slot (.tup [])) h)
 | _ => stepD F dp K σ h
def stepN (F : FnD) (n i : Nat) (dp : DOper) (K : (Nat → DV) → Heap → Prop) (σ : Nat → DV) (h : Heap) : Prop := if i < n then stepD F dp K σ h else stepX F dp K σ h
def anyX (F : FnD) (n : Nat) (ops : Array Oper) (ds : List DOper) (K : (Nat → DV) → Heap → Prop) : Nat → Array Bool → (Nat → DV) → Heap → Prop
 | 0, listed, σ, h => Region.ready .any ops listed = [] ∧ K σ h
 | fuel + 1, listed, σ, h => (Region.ready .any ops listed = [] → K σ h) ∧
  ∀ i ∈ Region.ready .any ops listed, ∃ x, ds[i]? = some x ∧ stepN F n i x (anyX F n ops ds K fuel (listed.setIfInBounds i true)) σ h
def lexX (F : FnD) (n : Nat) : Nat → List DOper → ((Nat → DV) → Heap → Prop) → (Nat → DV) → Heap → Prop
 | _, [], K => K
 | k, o :: os, K => stepN F n k o (lexX F n (k + 1) os K)
theorem stepX_mono {dp : DOper} {K K' : (Nat → DV) → Heap → Prop} (hk : ∀ σ h, K σ h → K' σ h) {σ : Nat → DV} {h : Heap} (hs : stepX F dp K σ h) : stepX F dp K' σ h := by
 unfold stepX at hs ⊢
 split at hs
 ·rcases hs with ⟨h1, h2⟩ | ⟨h1, h2⟩
  ·refine .inl ⟨h1, fun G L a w us hn hG hR hs hv => (h2 G L a w us hn hG hR hs hv).mono ?_⟩
   rintro e w' ⟨v, L', d, σ', h', e1, e2, e3, e5, e4⟩
   exact ⟨v, L', d, σ', h', e1, e2, e3, e5, hk _ _ e4⟩
  ·exact .inr ⟨h1, hk _ _ h2⟩
 ·obtain ⟨d, ef, h1, h2⟩ := hs
  exact ⟨d, ef, h1, hk _ _ h2⟩
theorem stepX_plain {dp : DOper} (hc : dp.op.isCall = false) (K : (Nat → DV) → Heap → Prop) (σ : Nat → DV) (h : Heap) : stepX F dp K σ h = stepD F dp K σ h := by
 unfold stepX
 split
 ·rename_i f args e; rw [e] at hc; cases hc
 ·rfl
theorem stepN_mono {n i : Nat} {dp : DOper} {K K' : (Nat → DV) → Heap → Prop} (hk : ∀ σ h, K σ h → K' σ h) {σ : Nat → DV} {h : Heap} (hs : stepN F n i dp K σ h) : stepN F n i dp K' σ h := by
 unfold stepN at hs ⊢
 split
 ·rename_i hlt
  rw [if_pos hlt] at hs
  obtain ⟨d, ef, h1, h2⟩ := hs
  exact ⟨d, ef, h1, hk _ _ h2⟩
 ·rename_i hlt
  rw [if_neg hlt] at hs
  exact stepX_mono hk hs
theorem stepN_plain {n i : Nat} {dp : DOper} (hc : cpN n i dp = true) (K : (Nat → DV) → Heap → Prop) (σ : Nat → DV) (h : Heap) : stepN F n i dp K σ h = stepD F dp K σ h := by
 unfold stepN
 split
 ·rfl
 ·rename_i hlt
  simp only [cpN, decide_eq_false hlt, Bool.false_or, Bool.not_eq_true'] at hc
  exact stepX_plain hc K σ h
theorem anyX_first {n : Nat} {ops : Array Oper} {ds : List DOper} {K : (Nat → DV) → Heap → Prop} {i : Nat} {x : DOper} (hx : ds[i]? = some x) (hxc : cpN n i x = true) : ∀ (fuel : Nat) (listed : Array Bool) (σ : Nat → DV) (h : Heap) (di : DV) (ei : Eff),
  ClosedL ops listed → i ∈ Region.ready .any ops listed →
  (∀ j y, ds[j]? = some y → j ≠ i → listed.getD j true = false → Dep ops j i ∨ (x.apart y = true ∧ comOK x.op y.op = true ∧ cpN n j y = true)) →
  Gives F x σ h di ei → anyX F n ops ds K fuel (listed.setIfInBounds i true) (updS (ei.onS σ) x.dst.slot di) (ei.onH h) → anyX F n ops ds K (fuel + 1) listed σ h := by
 intro fuel
 induction fuel with
 | zero =>
  intro listed σ h di ei hc hi hap hg H
  refine ⟨fun e => (by rw [e] at hi; cases hi), fun j hj => ?_⟩
  by_cases hji : j = i
  ·subst hji; exact ⟨x, hx, by rw [stepN_plain hxc]; exact ⟨di, ei, hg, H⟩⟩
  ·have := ready_mono hj hji
   rw [H.1] at this; cases this
 | succ fuel ih =>
  intro listed σ h di ei hc hi hap hg H
  refine ⟨fun e => (by rw [e] at hi; cases hi), fun j hj => ?_⟩
  by_cases hji : j = i
  ·subst hji; exact ⟨x, hx, by rw [stepN_plain hxc]; exact ⟨di, ei, hg, H⟩⟩
  ·obtain ⟨y, hy, H'⟩ := H.2 j (ready_mono hj hji)
   obtain ⟨hjun, oj, hoj, hall⟩ := mem_ready.1 hj
   obtain ⟨hiun, _, _, _⟩ := mem_ready.1 hi
   have hnd : ¬ Dep ops j i := by
    intro hd
    have h1 := dep_listed hc hd fun o ho e he hb => by rw [hoj] at ho; cases ho; exact hall e he hb
    have h2 : listed.getD i true = true := by
     rw [Array.getD_eq_getD_getElem?] at h1 ⊢
     cases hq : listed[i]? with
     | none => rfl
     | some b => rw [hq] at h1; exact h1
    rw [hiun] at h2; cases h2
   obtain ⟨hap1, hap2, hyc⟩ := (hap j y hy hji hjun).resolve_left hnd
   rw [stepN_plain hyc] at H'
   obtain ⟨dj, ej, hgj, H'⟩ := H'
   obtain ⟨dj', ej', di', ei', g1, g2, g3, g4⟩ := diamond hap1 hap2 hg hgj
   refine ⟨y, hy, ?_⟩
   rw [stepN_plain hyc]
   refine ⟨dj', ej', g1, ih _ _ _ di' ei' (hc.set hj) (ready_mono hi (Ne.symm hji)) (fun k z hz hki hun => ?_) g2 ?_⟩
   ·refine hap k z hz hki ?_
    by_cases hjk : j = k
    ·subst hjk; exact hjun
    ·rwa [getD_set_ne true hjk] at hun
   ·rw [g3, g4, Array.setIfInBounds_comm _ _ hji]
    exact H'
theorem anyX_lex {n : Nat} {ops : Array Oper} {ds : List DOper} {K : (Nat → DV) → Heap → Prop} {deps : List (List Nat)} (hdeps : ∀ k x, x ∈ deps.getD k [] → Dep ops k x) (hlen : ds.length = ops.size) :
  ∀ (fuel k : Nat) (listed : Array Bool) (σ : Nat → DV) (h : Heap), k + fuel = ops.size → ClosedL ops listed → drawFromS n ops ds deps fuel k listed = true → lexX F n k (ds.drop k) K σ h → anyX F n ops ds K fuel listed σ h := by
 intro fuel
 induction fuel with
 | zero =>
  intro k listed σ h hk hc hd hl
  rw [List.drop_eq_nil_of_le (by omega)] at hl
  exact ⟨List.isEmpty_iff.1 hd, hl⟩
 | succ fuel ih =>
  intro k listed σ h hk hc hd hl
  simp only [drawFromS, Bool.and_eq_true, List.contains_iff_mem, List.all_eq_true, List.mem_range] at hd
  obtain ⟨⟨hr, hall⟩, hd⟩ := hd
  have hlt : k < ds.length := by omega
  rw [List.drop_eq_getElem_cons hlt] at hl
  have hother : ∀ j y, ds[j]? = some y → j ≠ k → listed.getD j true = false → Dep ops j k ∨ (ds[k].apart y = true ∧ comOK ds[k].op y.op = true ∧ cpN n k ds[k] = true ∧ cpN n j y = true) := by
   intro j y hy hjk hun
   have hjl : j < ops.size := by have := (List.getElem?_eq_some_iff.1 hy).1; omega
   have := hall j hjl
   rw [hun, List.getElem?_eq_getElem hlt, hy] at this
   simp only [Bool.or_eq_true, beq_iff_eq, Bool.false_eq_true, or_false, Bool.and_eq_true, List.contains_iff_mem] at this
   rcases this with (h1 | h1) | h1
   ·exact absurd h1 hjk
   ·exact .inl (hdeps _ _ h1)
   ·exact .inr ⟨h1.1.1, h1.1.2, h1.2.1, h1.2.2⟩
  cases hkc : cpN n k ds[k] with
  | true =>
   simp only [lexX] at hl
   rw [stepN_plain hkc] at hl
   obtain ⟨d, ef, hg, hl⟩ := hl
   refine anyX_first (List.getElem?_eq_getElem hlt) hkc fuel listed σ h d ef hc hr (fun j y hy hjk hun => ?_) hg (ih (k + 1) _ _ _ (by omega) (hc.set hr) hd hl)
   rcases hother j y hy hjk hun with h1 | ⟨h1, h2, _, h3⟩
   ·exact .inl h1
   ·exact .inr ⟨h1, h2, h3⟩
  | false =>
   refine ⟨fun e => (by rw [e] at hr; cases hr), fun j hj => ?_⟩
   have hjk : j = k := by
    apply Classical.byContradiction
    intro hne
    obtain ⟨hjun, oj, hoj, hallj⟩ := mem_ready.1 hj
    obtain ⟨hiun, _, _, _⟩ := mem_ready.1 hr
    have hjl : j < ops.size := (Array.getElem?_eq_some_iff.1 hoj).1
    rcases hother j ds[j] (List.getElem?_eq_getElem (by omega)) hne hjun with h1 | ⟨_, _, h2, _⟩
    ·have h1 := dep_listed hc h1 fun o ho e he hb => by rw [hoj] at ho; cases ho; exact hallj e he hb
     have h2 : listed.getD k true = true := by
      rw [Array.getD_eq_getD_getElem?] at h1 ⊢
      cases hq : listed[k]? with
      | none => rfl
      | some b => rw [hq] at h1; exact h1
     rw [hiun] at h2; cases h2
    ·rw [hkc] at h2; cases h2
   subst hjk
   exact ⟨ds[j], List.getElem?_eq_getElem hlt, stepN_mono (fun σ h hk2 => ih (j + 1) _ _ _ (by omega) (hc.set hr) hd hk2) hl⟩
theorem regW_lexX (hp : F.pure = false) {K : Fr → Fr → Hp → Prop} {n : Nat} : ∀ (ds : List DOper) (k : Nat), n ≤ k → ds.all (·.tags F.vs) = true → ∀ (te fr : Fr) (H : Hp), regW F ds te fr H K →
  lexX F n k ds (fun σ h => ∃ te fr H, σ = den F.vs te fr ∧ h = lkH H ∧ K te fr H) (den F.vs te fr) (lkH H)
 | [], _, _, _, te, fr, H, hw => ⟨te, fr, H, rfl, rfl, hw⟩
 | o :: os, k, hkn, ht, te, fr, H, hw => by
  simp only [List.all_cons, Bool.and_eq_true] at ht
  obtain ⟨ht, hts⟩ := ht
  simp only [DOper.tags, Bool.and_eq_true] at ht
  obtain ⟨⟨t1, t2⟩, t3⟩ := ht
  have ih := regW_lexX hp (K := K) (n := n) os (k + 1) (by omega) hts
  have hd := dst_tag t1
  have skip : gS (den F.vs te fr) o.guard = some false → regW F os (o.dst.onT te (.tup [])) (o.dst.onX fr (.tup [])) H K → lexX F n k (o :: os) (fun σ h => ∃ te fr H, σ = den F.vs te fr ∧ h = lkH H ∧ K te fr H) (den F.vs te fr) (lkH H) := fun hg hw =>
   (show lexX F n k (o :: os) (fun σ h => ∃ te fr H, σ = den F.vs te fr ∧ h = lkH H ∧ K te fr H) (den F.vs te fr) (lkH H) from by
    have := ih _ _ _ hw
    rw [hd, den_put] at this
    show stepN F n k o _ _ _
    unfold stepN
    rw [if_neg (by omega)]
    unfold stepX
    rw [hd, sDst_slot]
    split
    ·exact .inr ⟨hg, this⟩
    ·exact ⟨.tup [], .no, ⟨.inr ⟨hg, rfl, rfl⟩⟩, by rw [hd, sDst_slot]; exact this⟩)
  have hev : ∀ p ∈ o.op.opds, ev te fr p = evS (den F.vs te fr) p := fun p hp => ev_tag (List.all_eq_true.1 t2 p hp)
  have go : gS (den F.vs te fr) o.guard = some true → (match o.op with
   | .call f args => callR F f (args.map (ev te fr)) te fr H fun d te' fr' H' => regW F os (o.dst.onT te' d) (o.dst.onX fr' d) H' K
   | p => OW (opE F.nb o.dst.slot (ev te fr) (lkH H) p) fun r => regW F os (o.dst.onT (r.2.onF te) r.1) (o.dst.onX (r.2.onF fr) r.1) (r.2.onL H) K) → lexX F n k (o :: os) (fun σ h => ∃ te fr H, σ = den F.vs te fr ∧ h = lkH H ∧ K te fr H) (den F.vs te fr) (lkH H) := fun hg hw =>
   (show lexX F n k (o :: os) (fun σ h => ∃ te fr H, σ = den F.vs te fr ∧ h = lkH H ∧ K te fr H) (den F.vs te fr) (lkH H) from by
    have plain : OW (opE F.nb o.dst.slot (ev te fr) (lkH H) o.op) (fun r => regW F os (o.dst.onT (r.2.onF te) r.1) (o.dst.onX (r.2.onF fr) r.1) (r.2.onL H) K) →
      ((∀ f args, o.op ≠ .call f args)) → lexX F n k (o :: os) (fun σ h => ∃ te fr H, σ = den F.vs te fr ∧ h = lkH H ∧ K te fr H) (den F.vs te fr) (lkH H) := by
     rintro ⟨⟨d, ef⟩, he, hk⟩ hnc
     show stepN F n k o _ _ _
     unfold stepN
     rw [if_neg (by omega)]
     unfold stepX
     split
     ·rename_i f args e; exact absurd e (hnc f args)
     refine ⟨d, ef, ⟨.inl ⟨hg, ?_⟩⟩, ?_⟩
     ·rw [opE_congr hev] at he
      unfold goD
      cases hop : o.op with
      | call f args => exact absurd hop (hnc f args)
      | _ => rw [hop] at he; exact he
     ·have := ih _ _ _ hk
      rw [hd, den_put, den_onF, lkH_onL] at this
      rw [hd, sDst_slot]
      exact this
    cases hop : o.op with
    | call f args =>
     rw [hop] at hw
     simp only [callR, hp, Bool.false_eq_true, if_false] at hw
     rw [hop] at hev
     have hm : args.map (ev te fr) = args.map (evS (den F.vs te fr)) := List.map_congr_left fun p hp => hev p hp
     rw [hm] at hw
     show stepN F n k o _ _ _
     unfold stepN
     rw [if_neg (by omega)]
     unfold stepX
     rw [hop]
     refine .inl ⟨hg, fun G L a w us hn hG hR hs hv => ?_⟩
     refine (hw G L a w us hG hR (by simpa using hs) hv).mono ?_
     rintro e w' ⟨v, L', d, te', fr', H', rfl, hR', hV, hsm, hk⟩
     refine ⟨v, L', d, _, _, rfl, hR', hV, hsm, ?_⟩
     have := ih _ _ _ hk
     rw [hd, den_put] at this
     rw [hd, sDst_slot]
     exact this
    | _ =>
     rw [hop] at hw
     exact plain (by rw [hop]; exact hw) (by rw [hop]; intro f args e; cases e))
  simp only [regW] at hw
  cases hgu : o.guard with
  | none =>
   rw [hgu] at hw
   exact go (by rw [hgu]; rfl) hw
  | some p =>
   obtain ⟨g, want⟩ := p
   rw [hgu] at hw t3
   have hgv := ev_tag (te := te) (fr := fr) t3
   simp only at hw
   split at hw
   ·rename_i b hb
    rw [hgv] at hb
    by_cases hbw : b = want
    ·exact go (by rw [hgu]; simp only [gS, hb]; simp [hbw]) (hw.1 hbw)
    ·exact skip (by rw [hgu]; simp only [gS, hb]; simp [hbw]) (hw.2 (by clear hw; cases b <;> cases want <;> first | rfl | exact absurd rfl hbw))
   ·rename_i hb
    rw [hgv] at hb
    exact skip (by rw [hgu]; simp only [gS, hb]) hw
   ·exact hw.elim
theorem Gives.np {dp : DOper} {σ : Nat → DV} {h : Heap} {d : DV} {ef : Eff} (hg : Gives { F with pure := true } dp σ h d ef) : Gives F dp σ h d ef := ⟨hg.out⟩
theorem lexX_pre {n : Nat} {K K' : (Nat → DV) → Heap → Prop} (d1 : List DOper) : ∀ (d0 : List DOper) (k : Nat) (σ : Nat → DV) (h : Heap), k + d0.length ≤ n → (∀ σ h, K σ h → lexX F n (k + d0.length) d1 K' σ h) →
  lexD { F with pure := true } d0 K σ h → lexX F n k (d0 ++ d1) K' σ h
 | [], k, σ, h, _, hk, hl => hk σ h hl
 | o :: os, k, σ, h, hkn, hk, hl => by
  obtain ⟨d, ef, hg, hl⟩ := hl
  simp only [List.length_cons] at hkn hk
  show stepN F n k o _ σ h
  unfold stepN
  rw [if_pos (by omega)]
  refine ⟨d, ef, hg.np, lexX_pre d1 os (k + 1) _ _ (by omega) (fun σ h h2 => ?_) hl⟩
  have := hk σ h h2
  rwa [show k + (os.length + 1) = k + 1 + os.length by omega] at this
end
section
variable {F : FnD} {G : Cx}
theorem anyX_sound {n : Nat} {ops : Array Oper} {ds : List DOper} {Q : Exit → Act → World → Prop} {K : (Nat → DV) → Heap → Prop} (hn : G.n = F.n ∧ G.ok F.P) (hs : sOpers F.P F.vs F.own F.n ops ops.toList = some ds)
  (hK : ∀ σ h L a w, R G L σ h a w → K σ h → Q .normal a w) : ∀ (fuel : Nat) (listed : Array Bool) (σ : Nat → DV) (h : Heap) (L : Nat → Option Nat) (a : Act) (w : World), R G L σ h a w →
   anyX F n ops ds K fuel listed σ h → wpAny F.P .any ops Q fuel listed a w := by
 intro fuel
 induction fuel with
 | zero => intro listed σ h L a w hR hA; exact ⟨hA.1, hK _ _ _ _ _ hR hA.2⟩
 | succ fuel ih =>
  intro listed σ h L a w hR hA
  refine ⟨fun e => hK _ _ _ _ _ hR (hA.1 e), fun i hi => ?_⟩
  obtain ⟨x, hx, hA'⟩ := hA.2 i hi
  obtain ⟨_, o, ho, _⟩ := mem_ready.1 hi
  obtain ⟨dp, hdp, hso⟩ := (sOpers_get _ _ hs).2 i o (by simpa using ho)
  rw [hx] at hdp; cases hdp
  have hgd : sGuard F.vs ops o.guard = some x.guard ∧ x.dst = sDst F.vs o.dst ∧ ∀ k, o.dst = some k → k < F.n := by
   simp only [sOper, Option.bind_eq_some_iff] at hso
   obtain ⟨p, hp, g, hg', hs⟩ := hso
   split at hs
   ·rename_i hd; cases hs; exact ⟨hg', rfl, dst_lt hd⟩
   ·cases hs
  obtain ⟨hgu, hdst, hdl⟩ := hgd
  simp only [wpOp, ho]
  have hskip : anyX F n ops ds K fuel (listed.setIfInBounds i true) (updS σ x.dst.slot (.tup [])) h → wpAny F.P .any ops Q fuel (listed.setIfInBounds i true) (a.put o.dst undef) w := fun h2 => by
   rw [hdst, sDst_slot] at h2
   exact ih _ _ _ L _ w (hR.put V_undef (by rw [hn.1]; exact hdl)) h2
  unfold stepN at hA'
  split at hA'
  ·obtain ⟨d, ef, hg, hA'⟩ := hA'
   rcases hg.out with ⟨h1, h2⟩ | ⟨h1, rfl, rfl⟩
   ·rw [wantedS hR hgu h1, if_pos rfl]
    exact .inl (oper_soundS hso hn hR h2 fun L a w hR' => ih _ _ _ L a w hR' hA')
   ·rw [wantedS hR hgu h1, if_neg (by simp)]
    exact hskip hA'
  unfold stepX at hA'
  split at hA'
  ·rename_i f args hop
   rcases hA' with ⟨h1, h2⟩ | ⟨h1, h2⟩
   ·rw [wantedS hR hgu h1, if_pos rfl]
    refine .inl ?_
    obtain ⟨odst, op, ty, pos, after, guard⟩ := o
    obtain ⟨xdst, xop, xguard⟩ := x
    simp only [sOper, Option.bind_eq_some_iff] at hso
    obtain ⟨p, hp, g, hg', hs2⟩ := hso
    split at hs2
    ·simp only [Option.some.injEq, DOper.mk.injEq] at hs2
     obtain ⟨_, rfl, _⟩ := hs2
     simp only at hop hdst
     subst hop
     subst hdst
     obtain ⟨c, fn, rfl, hcal, hfn, hbody, hname, rfl⟩ := sOp_call hp
     obtain ⟨callee, cargs, argTypes⟩ := c
     simp only at hcal h2
     subst hcal
     have hE : EV F.vs (evS σ) w L (Av G.S L) a := fun x => ev_V hR x
     have hcall := h2 G L a w (cargs.map a.eval) hn.1 hn.2 hR (by simp) (fun k d v h1 h2 => by
      simp only [List.map_map, List.getElem?_map, Array.getElem?_toList, Option.map_eq_some_iff] at h1
      simp only [Array.getElem?_map, Option.map_eq_some_iff] at h2
      obtain ⟨x, hx, rfl⟩ := h1
      obtain ⟨y, hy, rfl⟩ := h2
      rw [hx] at hy; cases hy
      exact hE x)
     have hr : (execOp a.eval ⟨odst, .call { callee := .value (.func f), args := cargs, argTypes := argTypes }, ty, pos, after, guard⟩).run F.P w = .ok (.enter f (cargs.map a.eval)) w := by
      have hb : ¬ fn.body = none := by intro e; rw [e] at hbody; cases hbody
      have hnm : ¬ fn.name = "runtime.NumGoroutine" := by simpa using hname
      simp [execOp, resolve, Act.eval, Deferred.ofValue, invoke, callFunc, hfn, hnm, hb]
     unfold Oper.wp
     rw [hr]
     refine hcall.mono ?_
     rintro e w' ⟨v, L', d, σ', h', rfl, hR2, hv, _, hk⟩
     have hput := hR2.put hv (dst := odst) (by rw [hn.1]; exact hdl)
     rw [sDst_slot] at hk
     exact ih _ _ _ L' _ w' hput hk
    ·cases hs2
   ·rw [wantedS hR hgu h1, if_neg (by simp)]
    exact hskip h2
  ·obtain ⟨d, ef, hg, hA'⟩ := hA'
   rcases hg.out with ⟨h1, h2⟩ | ⟨h1, rfl, rfl⟩
   ·rw [wantedS hR hgu h1, if_pos rfl]
    exact .inl (oper_soundS hso hn hR h2 fun L a w hR' => ih _ _ _ L a w hR' hA')
   ·rw [wantedS hR hgu h1, if_neg (by simp)]
    exact hskip hA'
theorem W_regp {Q : Ex → Fr → Hp → Prop} {fr : Fr} {H : Hp} {n : Nat} {ds : List DOper} (hw : regW { F with pure := true } (ds.take n) [] fr H fun te fr H => regW F (ds.drop n) te fr H fun _ fr H => Q .norm fr H) (hp : F.pure = false := by rfl) : W F (.regs n ds) Q fr H := by
 intro code hc G L a w hn hR
 have main : ∀ (id : Nat) (ops : Array Oper), sOpers F.P F.vs F.own F.n ops ops.toList = some ds → (drawOKs F.vs n ops ds && F.P.follows .mixedOrders) = true → (Code.region id ops true).wp F.P (Post F G Q) a w := by
  intro id ops hds hok
  simp only [drawOKs, Bool.and_eq_true] at hok
  obtain ⟨⟨⟨_, htags⟩, hdf⟩, hm⟩ := hok
  refine wp_region_any hm ?_
  have hlen : ds.length = ops.size := by rw [(sOpers_get _ _ hds).1]; simp
  have ht0 : (ds.take n).all (·.tags F.vs) = true := List.all_eq_true.2 fun d hd => List.all_eq_true.1 htags d (List.mem_of_mem_take hd)
  have ht1 : (ds.drop n).all (·.tags F.vs) = true := List.all_eq_true.2 fun d hd => List.all_eq_true.1 htags d (List.mem_of_mem_drop hd)
  have hlex : lexX F n 0 ds (fun σ h => ∃ te fr' H', σ = den F.vs te fr' ∧ h = lkH H' ∧ Q .norm fr' H') (den F.vs [] fr) (lkH H) := by
   have h0 := regW_lex (F := { F with pure := true }) rfl (ds.take n) ht0 [] fr H hw
   have := lexX_pre (F := F) (n := n) (K' := fun σ h => ∃ te fr' H', σ = den F.vs te fr' ∧ h = lkH H' ∧ Q .norm fr' H') (ds.drop n) (ds.take n) 0 _ _ (by rw [List.length_take]; omega) (fun σ h hk => ?_) h0
   ·rwa [List.take_append_drop] at this
   ·obtain ⟨te, fr', H', rfl, rfl, hk⟩ := hk
    by_cases hle : n ≤ ds.length
    ·exact regW_lexX hp (ds.drop n) _ (by rw [List.length_take]; omega) ht1 te fr' H' hk
    ·rw [List.drop_eq_nil_of_le (by omega)] at hk ⊢
     exact ⟨te, fr', H', rfl, rfl, hk⟩
  have hany : anyX F n ops ds (fun σ h => ∃ te fr' H', σ = den F.vs te fr' ∧ h = lkH H' ∧ Q .norm fr' H') ops.size (Array.replicate ops.size false) (den F.vs [] fr) (lkH H) := by
   refine anyX_lex (deps := depsAll ops.toList []) (fun k x hx => ?_) hlen ops.size 0 _ _ _ (by omega) ?_ hdf hlex
   ·exact depsAll_sound ops.toList [] (fun j => by simp) (fun k x hx => by simp at hx) k x hx
   ·intro j o hj _ e _ _
    simp [Array.getD_eq_getD_getElem?, Array.getElem?_replicate] at hj
    split at hj <;> simp at hj
  refine anyX_sound (F := F) (G := G) (K := fun σ h => ∃ te fr' H', σ = den F.vs te fr' ∧ h = lkH H' ∧ Q .norm fr' H') hn hds ?_ ops.size _ _ _ L a _ (hR.still (w' := { w with drawn := w.drawn + 1 }) ⟨rfl, rfl, rfl, Nat.le_refl _, fun _ _ _ => rfl⟩) hany
  rintro σ h L a w hR' ⟨te, fr', H', rfl, rfl, hk⟩
  refine ⟨L, fr', H', .norm, hR'.weak fun s => ?_, rfl, hk⟩
  simp only [den, lk]
  split
  ·exact .inl rfl
  ·exact .inr rfl
 cases code <;> simp only [strip] at hc <;> first | (cases hc; done) | skip
 rename_i id ops draw
 split at hc
 ·rename_i ds' hds
  split at hc
  ·rename_i hd
   subst hd
   split at hc
   ·rename_i hok
    cases hc
    rw [Bool.and_assoc] at hok
    exact main id ops hds (Bool.and_eq_true _ _ |>.mp hok).2
   ·split at hc
    ·cases hc
    ·split at hc
     ·rename_i hok
      cases hc
      rw [Bool.and_assoc] at hok
      exact main id ops hds (Bool.and_eq_true _ _ |>.mp hok).2
     ·split at hc <;> cases hc
  ·cases hc
 ·cases hc
theorem W_regs {Q : Ex → Fr → Hp → Prop} {fr : Fr} {H : Hp} {ds : List DOper} (hw : regW F ds [] fr H fun _ fr H => Q .norm fr H) (hp : F.pure = false := by rfl) : W F (.regs 0 ds) Q fr H := W_regp hw hp
end
end Go.Dat
namespace Go.Dat
open Go
theorem V_nz {w : World} {L : Nat → Option Nat} {A : Nat → Prop} (sz : Nat) {d : DV} {v : Value} (h : V w L A d v) : V w L A (nz sz d) v := by
 cases d with
 | nils =>
  rw [h.inv_nils]
  exact .imm (.sl0 _ _ _)
 | _ => exact h
theorem W_hnz {F : FnD} {c : DC} {Q : Ex → Fr → Hp → Prop} {fr : Fr} {H : Hp} (o sz : Nat) {cells : List DV} (ho : lkH H o = some cells) (h : W F c Q fr (setH H o (cells.map (nz sz)))) : W F c Q fr H := by
 intro code hc G L a w hn hR
 refine h code hc G L a w hn { hR with heap := ⟨fun p b hp => ?_, fun p cs hp => ?_, hR.heap.inj, hR.heap.notS, hR.heap.ty⟩ }
 ·obtain ⟨c0, h0⟩ := hR.heap.dom p b hp
  rw [lkH_setH]
  split
  ·exact ⟨_, rfl⟩
  ·exact ⟨c0, h0⟩
 ·rw [lkH_setH] at hp
  split at hp
  ·rename_i e
   subst e
   cases hp
   rcases hR.heap.obj _ cells ho with ⟨h1, h2⟩ | ⟨b, cs, T, h1, h2, h3, h4⟩
   ·exact .inl ⟨h1, by rw [h2]; rfl⟩
   ·refine .inr ⟨b, cs, T, h1, h2, by simpa using h3, fun k d v hk hv => ?_⟩
    rw [List.getElem?_map, Option.map_eq_some_iff] at hk
    obtain ⟨d0, hd0, rfl⟩ := hk
    exact V_nz sz (h4 k d0 v hd0 hv)
  ·exact hR.heap.obj p cs hp
end Go.Dat
