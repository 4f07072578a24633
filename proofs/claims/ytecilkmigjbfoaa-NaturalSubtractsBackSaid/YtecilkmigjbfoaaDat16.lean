/- Regions that draw their order (3): the rule. Over any program. -/
import Derived.Test.YtecilkmigjbfoaaDat15
set_option linter.unusedSimpArgs false
set_option linter.unusedVariables false
namespace Go.Dat
open Go

section
variable {F : FnD}

def stepD (F : FnD) (dp : DOper) (K : (Nat → DV) → Heap → Prop) (σ : Nat → DV) (h : Heap) : Prop :=
  ∃ d ef, Gives F dp σ h d ef ∧ K (updS (ef.onS σ) dp.dst.slot d) (ef.onH h)
def anyD (F : FnD) (ops : Array Oper) (ds : List DOper) (K : (Nat → DV) → Heap → Prop) : Nat → Array Bool → (Nat → DV) → Heap → Prop
  | 0, listed, σ, h => Region.ready .any ops listed = [] ∧ K σ h
  | fuel + 1, listed, σ, h => (Region.ready .any ops listed = [] → K σ h) ∧
    ∀ i ∈ Region.ready .any ops listed, ∃ x, ds[i]? = some x ∧ stepD F x (anyD F ops ds K fuel (listed.setIfInBounds i true)) σ h
def lexD (F : FnD) : List DOper → ((Nat → DV) → Heap → Prop) → (Nat → DV) → Heap → Prop
  | [], K => K
  | o :: os, K => stepD F o (lexD F os K)

theorem ClosedL.set {ops : Array Oper} {listed : Array Bool} (hc : ClosedL ops listed) {i : Nat} (hi : i ∈ Region.ready .any ops listed) : ClosedL ops (listed.setIfInBounds i true) := by
  obtain ⟨h0, o, ho, hall⟩ := mem_ready.1 hi
  intro j oj hj hoj e he hb
  by_cases hji : i = j
  · subst hji
    rw [ho] at hoj; cases hoj
    exact getD_set_true (hall e he hb)
  · rw [getD_set_ne false hji] at hj
    exact getD_set_true (hc j oj hj hoj e he hb)

theorem anyD_first {ops : Array Oper} {ds : List DOper} {K : (Nat → DV) → Heap → Prop} {i : Nat} {x : DOper} (hx : ds[i]? = some x) : ∀ (fuel : Nat) (listed : Array Bool) (σ : Nat → DV) (h : Heap) (di : DV) (ei : Eff),
    ClosedL ops listed → i ∈ Region.ready .any ops listed →
    (∀ j y, ds[j]? = some y → j ≠ i → listed.getD j true = false → Dep ops j i ∨ (x.apart y = true ∧ clsOK x.op.cls y.op.cls = true)) →
    Gives F x σ h di ei → anyD F ops ds K fuel (listed.setIfInBounds i true) (updS (ei.onS σ) x.dst.slot di) (ei.onH h) → anyD F ops ds K (fuel + 1) listed σ h := by
  intro fuel
  induction fuel with
  | zero =>
    intro listed σ h di ei hc hi hap hg H
    refine ⟨fun e => (by rw [e] at hi; cases hi), fun j hj => ?_⟩
    by_cases hji : j = i
    · subst hji; exact ⟨x, hx, di, ei, hg, H⟩
    · have := ready_mono hj hji
      rw [H.1] at this; cases this
  | succ fuel ih =>
    intro listed σ h di ei hc hi hap hg H
    refine ⟨fun e => (by rw [e] at hi; cases hi), fun j hj => ?_⟩
    by_cases hji : j = i
    · subst hji; exact ⟨x, hx, di, ei, hg, H⟩
    · obtain ⟨y, hy, dj, ej, hgj, H'⟩ := H.2 j (ready_mono hj hji)
      obtain ⟨hjun, oj, hoj, hall⟩ := mem_ready.1 hj
      obtain ⟨hiun, _, _, _⟩ := mem_ready.1 hi
      have hnd : ¬ Dep ops j i := by
        intro hd
        have h1 := dep_listed hc hd fun o ho e he hb => by rw [hoj] at ho; cases ho; exact hall e he hb
        have h2 : listed.getD i true = true := by
          rw [Array.getD_eq_getD_getElem?] at h1 ⊢
          cases hq : listed[i]? with
          | none => rfl
          | some b => rw [hq] at h1; exact h1
        rw [hiun] at h2; cases h2
      obtain ⟨hap1, hap2⟩ := (hap j y hy hji hjun).resolve_left hnd
      obtain ⟨g1, g2, g3, g4⟩ := diamond hap1 hap2 hg hgj
      refine ⟨y, hy, dj, ej, g1, ih _ _ _ di ei (hc.set hj) (ready_mono hi (Ne.symm hji)) (fun k z hz hki hun => ?_) g2 ?_⟩
      · refine hap k z hz hki ?_
        by_cases hjk : j = k
        · subst hjk; exact hjun
        · rwa [getD_set_ne true hjk] at hun
      · rw [g3, g4, Array.setIfInBounds_comm _ _ hji]
        exact H'

theorem anyD_lex {ops : Array Oper} {ds : List DOper} {K : (Nat → DV) → Heap → Prop} {deps : List (List Nat)} (hdeps : ∀ k x, x ∈ deps.getD k [] → Dep ops k x) (hlen : ds.length = ops.size) :
    ∀ (fuel k : Nat) (listed : Array Bool) (σ : Nat → DV) (h : Heap), k + fuel = ops.size → ClosedL ops listed → drawFrom ops ds deps fuel k listed = true → lexD F (ds.drop k) K σ h → anyD F ops ds K fuel listed σ h := by
  intro fuel
  induction fuel with
  | zero =>
    intro k listed σ h hk hc hd hl
    rw [List.drop_eq_nil_of_le (by omega)] at hl
    exact ⟨List.isEmpty_iff.1 hd, hl⟩
  | succ fuel ih =>
    intro k listed σ h hk hc hd hl
    simp only [drawFrom, Bool.and_eq_true, List.contains_iff_mem, List.all_eq_true, List.mem_range] at hd
    obtain ⟨⟨hr, hall⟩, hd⟩ := hd
    have hlt : k < ds.length := by omega
    rw [List.drop_eq_getElem_cons hlt] at hl
    obtain ⟨d, ef, hg, hl⟩ := hl
    refine anyD_first (List.getElem?_eq_getElem hlt) fuel listed σ h d ef hc hr (fun j y hy hjk hun => ?_) hg (ih (k + 1) _ _ _ (by omega) (hc.set hr) hd hl)
    have hjl : j < ops.size := by have := (List.getElem?_eq_some_iff.1 hy).1; omega
    have := hall j hjl
    rw [hun, List.getElem?_eq_getElem hlt, hy] at this
    simp only [Bool.or_eq_true, beq_iff_eq, Bool.false_eq_true, or_false, Bool.and_eq_true, List.contains_iff_mem] at this
    rcases this with (h1 | h1) | h1
    · exact absurd h1 hjk
    · exact .inl (hdeps _ _ h1)
    · exact .inr h1

/-! ### From the walk of the text's order -/
theorem ev_tag {vs : List Nat} {te fr : Fr} {o : Opd} (h : tagOK vs o = true) : ev te fr o = evS (den vs te fr) o := by
  cases o with
  | c d => rfl
  | x k => simp only [tagOK] at h; simp only [ev, evS, den, h, if_true]
  | t k => simp only [tagOK, Bool.not_eq_true'] at h; simp only [ev, evS, den, h, Bool.false_eq_true, if_false]
theorem dst_tag {vs : List Nat} {d : Dst} (h : tagD vs d = true) : d = sDst vs d.slot := by
  cases d with
  | no => rfl
  | x k => simp only [tagD] at h; simp [Dst.slot, sDst]; simpa using h
  | t k => simp only [tagD, Bool.not_eq_true'] at h; simp [Dst.slot, sDst]; simpa using h

theorem regW_lex (hp : F.pure = true) {K : Fr → Fr → Hp → Prop} : ∀ (ds : List DOper), ds.all (·.tags F.vs) = true → ∀ (te fr : Fr) (H : Hp), regW F ds te fr H K →
    lexD F ds (fun σ h => ∃ te fr H, σ = den F.vs te fr ∧ h = lkH H ∧ K te fr H) (den F.vs te fr) (lkH H)
  | [], _, te, fr, H, hw => ⟨te, fr, H, rfl, rfl, hw⟩
  | o :: os, ht, te, fr, H, hw => by
    simp only [List.all_cons, Bool.and_eq_true] at ht
    obtain ⟨ht, hts⟩ := ht
    simp only [DOper.tags, Bool.and_eq_true] at ht
    obtain ⟨⟨t1, t2⟩, t3⟩ := ht
    have ih := regW_lex hp (K := K) os hts
    have hd := dst_tag t1
    have skip : gS (den F.vs te fr) o.guard = some false → regW F os (o.dst.onT te (.tup [])) (o.dst.onX fr (.tup [])) H K → lexD F (o :: os) (fun σ h => ∃ te fr H, σ = den F.vs te fr ∧ h = lkH H ∧ K te fr H) (den F.vs te fr) (lkH H) := fun hg hw =>
      (show lexD F (o :: os) (fun σ h => ∃ te fr H, σ = den F.vs te fr ∧ h = lkH H ∧ K te fr H) (den F.vs te fr) (lkH H) from by
        refine ⟨.tup [], .no, ⟨.inr ⟨hg, rfl, rfl⟩⟩, ?_⟩
        have := ih _ _ _ hw
        rw [hd, den_put] at this
        rw [hd, sDst_slot]
        exact this)
    have hev : ∀ p ∈ o.op.opds, ev te fr p = evS (den F.vs te fr) p := fun p hp => ev_tag (List.all_eq_true.1 t2 p hp)
    have go : gS (den F.vs te fr) o.guard = some true → (match o.op with
      | .call f args => callR F f (args.map (ev te fr)) te fr H fun d te' fr' H' => regW F os (o.dst.onT te' d) (o.dst.onX fr' d) H' K
      | p => OW (opE F.nb o.dst.slot (ev te fr) (lkH H) p) fun r => regW F os (o.dst.onT (r.2.onF te) r.1) (o.dst.onX (r.2.onF fr) r.1) (r.2.onL H) K) → lexD F (o :: os) (fun σ h => ∃ te fr H, σ = den F.vs te fr ∧ h = lkH H ∧ K te fr H) (den F.vs te fr) (lkH H) := fun hg hw =>
      (show lexD F (o :: os) (fun σ h => ∃ te fr H, σ = den F.vs te fr ∧ h = lkH H ∧ K te fr H) (den F.vs te fr) (lkH H) from by
        have plain : OW (opE F.nb o.dst.slot (ev te fr) (lkH H) o.op) (fun r => regW F os (o.dst.onT (r.2.onF te) r.1) (o.dst.onX (r.2.onF fr) r.1) (r.2.onL H) K) →
            ((∀ f args, o.op ≠ .call f args)) → lexD F (o :: os) (fun σ h => ∃ te fr H, σ = den F.vs te fr ∧ h = lkH H ∧ K te fr H) (den F.vs te fr) (lkH H) := by
          rintro ⟨⟨d, ef⟩, he, hk⟩ hnc
          refine ⟨d, ef, ⟨.inl ⟨hg, ?_⟩⟩, ?_⟩
          · rw [opE_congr hev] at he
            unfold goD
            cases hop : o.op with
            | call f args => exact absurd hop (hnc f args)
            | _ => rw [hop] at he; exact he
          · have := ih _ _ _ hk
            rw [hd, den_put, den_onF, lkH_onL] at this
            rw [hd, sDst_slot]
            exact this
        cases hop : o.op with
        | call f args =>
          rw [hop] at hw
          simp only [callR, hp, if_true] at hw
          obtain ⟨r, h1, h2, h3⟩ := hw
          rw [hop] at hev
          have hm : args.map (ev te fr) = args.map (evS (den F.vs te fr)) := List.map_congr_left fun p hp => hev p hp
          rw [hm] at h1 h2
          refine ⟨r, .no, ⟨.inl ⟨hg, ?_⟩⟩, ?_⟩
          · unfold goD; rw [hop]; exact ⟨h1, h2, rfl⟩
          · have := ih _ _ _ h3
            rw [hd, den_put] at this
            rw [hd, sDst_slot]
            exact this
        | _ =>
          rw [hop] at hw
          exact plain (by rw [hop]; exact hw) (by rw [hop]; intro f args e; cases e))
    simp only [regW] at hw
    cases hgu : o.guard with
    | none =>
      rw [hgu] at hw
      exact go (by rw [hgu]; rfl) hw
    | some p =>
      obtain ⟨g, want⟩ := p
      rw [hgu] at hw t3
      have hgv := ev_tag (te := te) (fr := fr) t3
      simp only at hw
      split at hw
      · rename_i b hb
        rw [hgv] at hb
        by_cases hbw : b = want
        · exact go (by rw [hgu]; simp only [gS, hb]; simp [hbw]) (hw.1 hbw)
        · exact skip (by rw [hgu]; simp only [gS, hb]; simp [hbw]) (hw.2 (by clear hw; cases b <;> cases want <;> first | rfl | exact absurd rfl hbw))
      · rename_i hb
        rw [hgv] at hb
        exact skip (by rw [hgu]; simp only [gS, hb]) hw
      · exact hw.elim
end

/-! ### To the machine -/
section
variable {F : FnD} {G : Cx} {L : Nat → Option Nat} {a : Act} {w : World} {σ : Nat → DV} {h : Heap}

theorem wantedS {ops : Array Oper} {o : Oper} {g : Option (Opd × Bool)} {b : Bool} (hR : R G L σ h a w) (hg : sGuard F.vs ops o.guard = some g) (hb : gS σ g = some b) :
    Region.wanted o (yielded ops a.tmps) = b := by
  cases hgd : o.guard with
  | none =>
    rw [hgd] at hg
    simp only [sGuard, Option.some.injEq] at hg
    subst hg
    simp only [gS, Option.some.injEq] at hb
    subst hb
    simp [Region.wanted, hgd]
  | some p =>
    obtain ⟨j, w0⟩ := p
    rw [hgd] at hg
    simp only [sGuard, Option.map_eq_some_iff] at hg
    obtain ⟨k, hk, hg⟩ := hg
    subst hg
    have he : evS σ (sOpd F.vs (.tmp k)) = σ k := by simp only [sOpd]; split <;> rfl
    simp only [gS, he] at hb
    have hv := hR.slots k
    split at hb
    · rename_i c hc
      rw [hc] at hv
      have h1 := getD_ne hv.inv_bool (by simp [undef])
      simp only [Option.some.injEq] at hb
      subst hb
      simp [Region.wanted, hgd, yielded, hk, h1]
    · rename_i hc
      rw [hc] at hv
      obtain ⟨us, hu, hl, _⟩ := hv.inv_tup
      have : us = #[] := Array.eq_empty_of_size_eq_zero (by simpa using hl.symm)
      subst this
      have hy : yielded ops a.tmps j = none := by
        simp only [yielded, hk, Option.bind_some]
        rw [Array.getD_eq_getD_getElem?] at hu
        cases hq : a.tmps[k]? with
        | none => rfl
        | some v => rw [hq] at hu; simp only [Option.getD_some] at hu; rw [hu]
      simp only [Option.some.injEq] at hb
      subst hb
      simp [Region.wanted, hgd, hy]
    · cases hb

theorem oper_soundS {o : Oper} {ops : Array Oper} {dp : DOper} {d : DV} {ef : Eff} {K : Act → World → Prop} {Q : Exit → Act → World → Prop}
    (hs : sOper F.P F.vs F.own F.n ops o = some dp) (hn : G.n = F.n) (hR : R G L σ h a w) (hgo : goD F dp σ h d ef)
    (hK : ∀ L a w, R G L (updS (ef.onS σ) dp.dst.slot d) (ef.onH h) a w → K a w) : o.wp F.P a w K Q := by
  obtain ⟨dst, op, ty, pos, after, guard⟩ := o
  simp only [sOper, Option.bind_eq_some_iff] at hs
  obtain ⟨p, hp, g, hg, hs⟩ := hs
  split at hs
  · rename_i hd
    cases hs
    rw [sDst_slot] at hK
    have hdl := dst_lt hd
    have hE : EV F.vs (evS σ) w L (Av G.S L) a := fun x => ev_V hR x
    have plain : opE F.nb (sDst F.vs dst).slot (evS σ) h p = some (d, ef) → Oper.wp F.P ⟨dst, op, ty, pos, after, guard⟩ a w K Q := by
      intro he
      rw [sDst_slot] at he
      obtain ⟨v, w', L', hr, hR', hv⟩ := opE_sound (P := F.P) F.nb (ty := ty) (pos := pos) (after := after) (guard := guard) hE hR op hp he
      have hput := hR'.put hv (by rw [hn]; exact hdl)
      have := hK _ _ _ hput
      unfold Oper.wp
      rcases hr with hr | ⟨hr, rfl⟩
      · rw [hr]; exact this
      · rw [hr]; exact this
    cases p with
    | call f args =>
      simp only [goD] at hgo
      have hc : ∃ c fn, op = .call c ∧ c.callee = .value (.func f) ∧ F.P.funcs[f]? = some fn ∧ fn.body.isSome = true ∧ (fn.name != "runtime.NumGoroutine") = true ∧ args = c.args.toList.map (sOpd F.vs) := by
        cases op with
        | call c =>
          obtain ⟨callee, cargs, argTypes⟩ := c
          cases callee with
          | value q =>
            cases q with
            | func f' =>
              simp only [sOp] at hp
              split at hp
              · rename_i fn hfn
                split at hp
                · rename_i hcond
                  cases hp
                  simp only [Bool.and_eq_true] at hcond
                  exact ⟨_, fn, rfl, rfl, hfn, hcond.1, hcond.2, rfl⟩
                · cases hp
              · cases hp
            | _ => simp [sOp] at hp
          | invoke r m => simp [sOp] at hp
          | builtin b =>
            exfalso
            cases b <;> simp only [sOp] at hp <;> (repeat' split at hp) <;> first | (cases hp; done) | (simp [Option.bind_eq_some_iff] at hp; done) | (simp only [Option.bind_eq_some_iff] at hp; obtain ⟨_, _, hp⟩ := hp; split at hp <;> cases hp)
        | _ =>
          exfalso
          exact sOp_nocall (by intro c e; cases e) hp
      obtain ⟨c, fn, rfl, hcal, hfn, hbody, hname, rfl⟩ := hc
      obtain ⟨callee, cargs, argTypes⟩ := c
      simp only at hcal hgo
      subst hcal
      obtain ⟨hpc, hrf, rfl⟩ := hgo
      have hA : ∀ b, Av G.S L b → b < w.heap.size := by
        rintro b (h | ⟨o, h⟩)
        · exact hR.sLt b h
        · exact hR.heap.lt h
      have hcall := hpc (Av G.S L) w (cargs.map a.eval) hA (by simp) (fun k d v h1 h2 => by
        have hrfd := List.all_eq_true.1 hrf d (List.mem_of_getElem? h1)
        simp only [List.map_map, List.getElem?_map, Array.getElem?_toList, Option.map_eq_some_iff] at h1
        simp only [Array.getElem?_map, Option.map_eq_some_iff] at h2
        obtain ⟨x, hx, rfl⟩ := h1
        obtain ⟨y, hy, rfl⟩ := h2
        rw [hx] at hy; cases hy
        exact (hE x).rf_imm hrfd)
      have hr : (execOp a.eval ⟨dst, .call { callee := .value (.func f), args := cargs, argTypes := argTypes }, ty, pos, after, guard⟩).run F.P w = .ok (.enter f (cargs.map a.eval)) w := by
        have hb : ¬ fn.body = none := by intro e; rw [e] at hbody; cases hbody
        have hnm : ¬ fn.name = "runtime.NumGoroutine" := by simpa using hname
        simp [execOp, resolve, Act.eval, Deferred.ofValue, invoke, callFunc, hfn, hnm, hb]
      unfold Oper.wp
      rw [hr]
      refine hcall.mono ?_
      rintro e w' ⟨v, rfl, hvi, hx⟩
      exact hK _ _ _ ((hR.still hx).put (.imm hvi) (by rw [hn]; exact hdl))
    | _ => exact plain hgo
  · cases hs

theorem sOpers_get {ops : Array Oper} : ∀ (l : List Oper) (ds : List DOper), sOpers F.P F.vs F.own F.n ops l = some ds → ds.length = l.length ∧ ∀ (i : Nat) (o : Oper), l[i]? = some o → ∃ dp, ds[i]? = some dp ∧ sOper F.P F.vs F.own F.n ops o = some dp
  | [], ds, hs => by simp only [sOpers, Option.some.injEq] at hs; subst hs; exact ⟨rfl, fun i o h => by simp at h⟩
  | o :: l, ds, hs => by
    simp only [sOpers, Option.bind_eq_some_iff, Option.map_eq_some_iff] at hs
    obtain ⟨dp, hdp, ds', hds', rfl⟩ := hs
    obtain ⟨h1, h2⟩ := sOpers_get l ds' hds'
    refine ⟨by simp [h1], fun i p hp => ?_⟩
    cases i with
    | zero => simp at hp; subst hp; exact ⟨dp, rfl, hdp⟩
    | succ i => simp at hp; simpa using h2 i p hp

theorem anyD_sound {ops : Array Oper} {ds : List DOper} {Q : Exit → Act → World → Prop} {K : (Nat → DV) → Heap → Prop} (hn : G.n = F.n) (hs : sOpers F.P F.vs F.own F.n ops ops.toList = some ds)
    (hK : ∀ σ h L a w, R G L σ h a w → K σ h → Q .normal a w) : ∀ (fuel : Nat) (listed : Array Bool) (σ : Nat → DV) (h : Heap) (L : Nat → Option Nat) (a : Act) (w : World), R G L σ h a w →
      anyD F ops ds K fuel listed σ h → wpAny F.P .any ops Q fuel listed a w := by
  intro fuel
  induction fuel with
  | zero => intro listed σ h L a w hR hA; exact ⟨hA.1, hK _ _ _ _ _ hR hA.2⟩
  | succ fuel ih =>
    intro listed σ h L a w hR hA
    refine ⟨fun e => hK _ _ _ _ _ hR (hA.1 e), fun i hi => ?_⟩
    obtain ⟨x, hx, d, ef, hg, hA'⟩ := hA.2 i hi
    obtain ⟨_, o, ho, _⟩ := mem_ready.1 hi
    obtain ⟨dp, hdp, hso⟩ := (sOpers_get _ _ hs).2 i o (by simpa using ho)
    rw [hx] at hdp; cases hdp
    have hgd : sGuard F.vs ops o.guard = some x.guard ∧ x.dst = sDst F.vs o.dst ∧ ∀ k, o.dst = some k → k < F.n := by
      simp only [sOper, Option.bind_eq_some_iff] at hso
      obtain ⟨p, hp, g, hg', hs⟩ := hso
      split at hs
      · rename_i hd; cases hs; exact ⟨hg', rfl, dst_lt hd⟩
      · cases hs
    obtain ⟨hgu, hdst, hdl⟩ := hgd
    simp only [wpOp, ho]
    rcases hg.out with ⟨h1, h2⟩ | ⟨h1, rfl, rfl⟩
    · rw [wantedS hR hgu h1, if_pos rfl]
      exact .inl (oper_soundS hso hn hR h2 fun L a w hR' => ih _ _ _ L a w hR' hA')
    · rw [wantedS hR hgu h1, if_neg (by simp)]
      rw [hdst, sDst_slot] at hA'
      exact ih _ _ _ L _ w (hR.put V_undef (by rw [hn]; exact hdl)) hA'

theorem W_regd {Q : Ex → Fr → Hp → Prop} {fr : Fr} {H : Hp} {ds : List DOper} (hw : regW { F with pure := true } ds [] fr H fun _ fr H => Q .norm fr H) : W F (.regd ds) Q fr H := by
  intro code hc G L a w hn hR
  cases code <;> simp only [strip] at hc <;> first | (cases hc; done) | skip
  rename_i id ops draw
  split at hc
  · rename_i ds' hds
    split at hc
    · rename_i hd
      subst hd
      split at hc
      · rename_i hok
        cases hc
        simp only [drawOK, Bool.and_eq_true] at hok
        obtain ⟨⟨⟨_, htags⟩, hdf⟩, hm⟩ := hok
        refine wp_region_any hm ?_
        have hlen : ds.length = ops.size := by rw [(sOpers_get _ _ hds).1]; simp
        have hlex := regW_lex (F := { F with pure := true }) rfl ds htags [] fr H hw
        have hany : anyD { F with pure := true } ops ds (fun σ h => ∃ te fr' H', σ = den F.vs te fr' ∧ h = lkH H' ∧ Q .norm fr' H') ops.size (Array.replicate ops.size false) (den F.vs [] fr) (lkH H) := by
          refine anyD_lex (deps := depsAll ops.toList []) (fun k x hx => ?_) hlen ops.size 0 _ _ _ (by omega) ?_ hdf hlex
          · exact depsAll_sound ops.toList [] (fun j => by simp) (fun k x hx => by simp at hx) k x hx
          · intro j o hj _ e _ _
            simp [Array.getD_eq_getD_getElem?, Array.getElem?_replicate] at hj
            split at hj <;> simp at hj
        refine anyD_sound (F := { F with pure := true }) (G := G) (K := fun σ h => ∃ te fr' H', σ = den F.vs te fr' ∧ h = lkH H' ∧ Q .norm fr' H') hn hds ?_ ops.size _ _ _ L a _ (hR.still (w' := { w with drawn := w.drawn + 1 }) ⟨rfl, rfl, rfl, Nat.le_refl _, fun _ _ _ => rfl⟩) hany
        rintro σ h L a w hR' ⟨te, fr', H', rfl, rfl, hk⟩
        refine ⟨L, fr', H', .norm, hR'.weak fun s => ?_, rfl, hk⟩
        simp only [den, lk]
        split
        · exact .inl rfl
        · exact .inr rfl
      · cases hc
    · cases hc
  · cases hc
end
end Go.Dat
