/- What a function hands out; from a triple to a contract. Over any program. -/
import Derived.Test.YtecilkmigjbfoaaDat11
set_option linter.unusedSimpArgs false
set_option linter.unusedVariables false
namespace Go.Dat
open Go

/-- Own data, handed out: slices of own objects become slices that nobody writes. -/
inductive Exp (h : Heap) : DV → DV → Prop where
  | imm {d : DV} (hr : d.rf = true) : Exp h d d
  | undef (d : DV) : Exp h d .undef
  | nils (sz : Nat) : Exp h .nils (.sl sz [])
  | osl {sz o off len : Nat} {cells rs : List DV} (ho : h o = some cells) (hsz : sz ≠ 0) (hfit : off + len * sz ≤ cells.length) (hl : rs.length = len * sz)
      (hp : ∀ (k : Nat) d r, ((cells.drop off).take (len * sz))[k]? = some d → rs[k]? = some r → Exp h d r) : Exp h (.osl sz o off len) (.sl sz rs)
  | agg {cs rs : List DV} (hl : rs.length = cs.length) (hp : ∀ (k : Nat) d r, cs[k]? = some d → rs[k]? = some r → Exp h d r) : Exp h (.agg cs) (.agg rs)
  | tup {cs rs : List DV} (hl : rs.length = cs.length) (hp : ∀ (k : Nat) d r, cs[k]? = some d → rs[k]? = some r → Exp h d r) : Exp h (.tup cs) (.tup rs)

theorem Exp.VI {w : World} {S : Nat → Prop} {L : Nat → Option Nat} {h : Heap} (H : HOK w S L h) {d r : DV} (he : Exp h d r) : ∀ {v : Value}, V w L (Av S L) d v → VI w S r v := by
  induction he with
  | imm hr =>
    intro v hv
    exact (hv.rf_imm hr).mono fun b _ hA => ⟨rfl, fun hS => hA (.inl hS)⟩
  | undef d => intro v _; exact .undef v
  | nils sz => intro v hv; rw [hv.inv_nils]; exact .sl0 _ _ _
  | @osl sz o off len cells rs ho hsz hfit hl hp ih =>
    intro v hv
    rcases hv.inv_osl with ⟨b, c, T, m, hL, rfl, hc, hs, hm⟩ | ⟨rfl, rfl⟩
    · obtain ⟨cells', cur, T', hho, hb, hl', hpp⟩ := H.at_ hL
      rw [ho] at hho; cases hho
      by_cases h0 : rs = []
      · subst h0
        have : len = 0 := by
          rcases Nat.eq_zero_or_pos len with e | e
          · exact e
          · have := Nat.mul_pos e (Nat.pos_of_ne_zero hsz); simp at hl; omega
        subst this
        exact .sl0 _ _ _
      · have hget : ∀ k r, rs[k]? = some r → ∃ d u, ((cells.drop off).take (len * sz))[k]? = some d ∧ cur[off + k]? = some u ∧ V w L (Av S L) d u := by
          intro k r hk
          have hlt : k < len * sz := by have := (List.getElem?_eq_some_iff.1 hk).1; omega
          obtain ⟨d, hd⟩ := exists_get (l := (cells.drop off).take (len * sz)) (k := k) (by simp; omega)
          obtain ⟨u, hu⟩ := exists_aget (l := cur) (k := off + k) (by omega)
          exact ⟨d, u, hd, hu, hpp _ d u (cut_get hd) hu⟩
        refine .sl (ad := ⟨b, off, none⟩) (fun k => (cur[off + k]?).getD Go.undef) h0 hl hc (H.notS o b hL) (fun k r hk => ?_) (fun k r hk => ?_)
        · obtain ⟨d, u, hd, hu, hv'⟩ := hget k r hk
          rw [add_lit, cell_of_row w b _ cur T' (0, 0) hb, hu]; rfl
        · obtain ⟨d, u, hd, hu, hv'⟩ := hget k r hk
          rw [hu]
          exact ih k d r hd hk hv'
    · have : rs = [] := List.eq_nil_of_length_eq_zero (by simpa using hl)
      subst this
      exact .sl0 _ _ _
  | agg hl hp ih =>
    intro v hv
    obtain ⟨us, rfl, hl', hv'⟩ := hv.inv_agg
    refine .agg (by omega) fun k r u hk hu => ?_
    obtain ⟨d, hd⟩ := exists_get (show k < _ from by have := (List.getElem?_eq_some_iff.1 hk).1; rw [hl] at this; exact this)
    exact ih k d r hd hk (hv' k d u hd hu)
  | tup hl hp ih =>
    intro v hv
    obtain ⟨us, rfl, hl', hv'⟩ := hv.inv_tup
    refine .tup (by omega) fun k r u hk hu => ?_
    obtain ⟨d, hd⟩ := exists_get (show k < _ from by have := (List.getElem?_eq_some_iff.1 hk).1; rw [hl] at this; exact this)
    exact ih k d r hd hk (hv' k d u hd hu)

mutual
/-- Data without memory: a call that hands back such leaves lent slices as they were. -/
def DV.sc : DV → Bool
  | .int .. | .bool _ | .str _ | .nilp | .nils | .nili | .fn _ => true
  | .sl _ xs => xs.isEmpty
  | .tup cs => DV.scL cs
  | _ => false
def DV.scL : List DV → Bool
  | [] => true
  | d :: r => d.sc && DV.scL r
end
theorem DV.scL_all : ∀ cs : List DV, DV.scL cs = cs.all (·.sc)
  | [] => rfl
  | d :: r => by simp [DV.scL, DV.scL_all r]
theorem DV.sc_tup (cs : List DV) : (DV.tup cs).sc = cs.all (·.sc) := by rw [DV.sc, DV.scL_all]
theorem VI.sc {w : World} {A : Nat → Prop} {d : DV} {v : Value} (h : VI w A d v) (hs : d.sc = true) (w' : World) (A' : Nat → Prop) : VI w' A' d v := by
  induction h with
  | undef v => exact .undef v
  | int k n => exact .int k n
  | bool b => exact .bool b
  | str l => exact .str l
  | nilp => exact .nilp
  | nils => exact .nils
  | nili => exact .nili
  | fn f => exact .fn f
  | sl0 sz a c => exact .sl0 sz a c
  | @sl sz xs n c ad vs hx => simp [DV.sc, hx] at hs
  | el => simp [DV.sc] at hs
  | agg => simp [DV.sc] at hs
  | tup hl _ ih =>
    rw [DV.sc_tup, List.all_eq_true] at hs
    exact .tup hl fun k d v h1 h2 => ih k d v h1 h2 (hs d (List.mem_of_getElem? h1))
  | iface => simp [DV.sc] at hs

theorem callW_lend {P : Program} {vs : List Nat} {f : Nat} {ds rs : List DV} {te fr : Fr} {H : Hp} {K : DV → Fr → Fr → Hp → Prop} {r : DV} (hc : PCalls P f rs r) (hl : rs.length = ds.length)
    (he : ∀ (k : Nat) d r, ds[k]? = some d → rs[k]? = some r → Exp (lkH H) d r) (hsc : r.sc = true) (hK : K r te fr H) : callW P vs f ds te fr H K := by
  intro G L a w us hR hs hv
  refine (hc G.S w us hR.sLt (by omega) fun k r v h1 h2 => ?_).mono ?_
  · obtain ⟨d, hd⟩ := exists_get (l := ds) (k := k) (by have := (List.getElem?_eq_some_iff.1 h1).1; omega)
    exact (he k d r hd h1).VI hR.heap (hv k d v hd h2)
  · rintro e w' ⟨v, rfl, hvi, hx⟩
    exact ⟨v, L, r, te, fr, H, rfl, hR.still hx, .imm (hvi.sc hsc _ _), hK⟩

/-! ### Functions -/
inductive RV where
  | t (k : Nat)
  | c1 (k : Nat)
  | cn (n k : Nat)
def sRes (P : Program) : ResultVar → Option RV
  | .tmp k => some (.t k)
  | .cell k t => if tAgg P t then (tSize P t).map (.cn · k) else if (P.underlying t).isSome then some (.c1 k) else none
def sRess (P : Program) : List ResultVar → Option (List RV)
  | [] => some []
  | x :: r => (sRes P x).bind fun y => (sRess P r).map (y :: ·)
def resD1 (fr : Fr) (H : Hp) : RV → Option DV
  | .t k => some (lk fr k)
  | .c1 k => match lk fr k with
    | .ptr o off => (lkH H o).bind fun cs => cs[off]?
    | _ => none
  | .cn n k => match lk fr k with
    | .ptr o off => (lkH H o).bind fun cs => if off + n ≤ cs.length then some (.agg ((cs.drop off).take n)) else none
    | _ => none
def resDs (fr : Fr) (H : Hp) : List RV → Option (List DV)
  | [] => some []
  | x :: r => (resD1 fr H x).bind fun d => (resDs fr H r).map (d :: ·)
def oneOf : List DV → DV
  | [d] => d
  | ds => .tup ds

section
variable {P : Program} {G : Cx} {L : Nat → Option Nat} {vs : List Nat} {fr : Fr} {H : Hp} {a : Act} {w : World}

theorem den_some {k : Nat} {d : DV} (hd : lk fr k = d) (hR : R G L (den vs [] fr) (lkH H) a w) (hvs : vs.contains k = true) : V w L (Av G.S L) d (a.tmps.getD k undef) := by
  have := hR.slots k
  simp only [den, hvs, if_true, hd] at this
  exact this

def resF (tmps : Array Value) (x : ResultVar) : Sem Value := match x with
  | .tmp t => pure (tmps.getD t undef)
  | .cell c t => do loadVar t (← asAddr (tmps.getD c undef))
theorem results_eq (fn : Func) (tmps : Array Value) : results fn tmps = (do let vs ← fn.results.mapM (resF tmps); pure (if h : vs.size = 1 then vs[0] else .tuple vs)) := rfl

theorem res1_run (hR : R G L (den vs [] fr) (lkH H) a w) (x : ResultVar) {y : RV} (hx : sRes P x = some y) {d : DV} (hd : resD1 fr H y = some d) (hvs : ∀ k, (x = .tmp k ∨ ∃ t, x = .cell k t) → vs.contains k = true) :
    ∃ v, (resF a.tmps x).run P w = .ok v w ∧ V w L (Av G.S L) d v := by
  unfold resF
  cases x with
  | tmp k =>
    simp only [sRes, Option.some.injEq] at hx
    subst hx
    simp only [resD1, Option.some.injEq] at hd
    have := hR.slots k
    simp only [den, hvs k (.inl rfl), if_true, hd] at this
    exact ⟨_, rfl, this⟩
  | cell k t =>
    have hk := hvs k (.inr ⟨t, rfl⟩)
    have hs := hR.slots k
    simp only [den, hk, if_true] at hs
    simp only [sRes] at hx
    split at hx
    · rename_i hA
      rw [Option.map_eq_some_iff] at hx
      obtain ⟨n, hn, rfl⟩ := hx
      simp only [resD1] at hd
      split at hd
      · rename_i o off hp
        rw [hp] at hs
        obtain ⟨b, hL, hv⟩ := hs.inv_ptr
        obtain ⟨cells, cur, T, hho, hb, hl, hpp⟩ := hR.heap.at_ hL
        rw [hho] at hd
        simp only [Option.bind_some] at hd
        split at hd
        · rename_i hfit
          cases hd
          have hrow : ∀ j v, ((cur.toList.drop off).take n)[j]? = some v → w.cell? ((⟨b, off, none⟩ : Addr).add j) = some v := by
            intro j v hj
            rw [add_lit, cell_of_row w b _ cur T (0, 0) hb]
            simpa using cut_get hj
          refine ⟨.agg ((cur.toList.drop off).take n).toArray, ?_, .agg (by simp; omega) fun j y v h1 h2 => ?_⟩
          · simp only [hv, Sem.run_bind, asAddr, Sem.run_pure, Result.andThen_ok, run_loadVar_agg P t n _ _ w hA hn (by simp; omega) hrow]
          · have h2' := cut_get (show ((cur.toList.drop off).take n)[j]? = some v by simpa using h2)
            exact hpp _ y v (cut_get h1) (by simpa using h2')
        · cases hd
      · cases hd
    · rename_i hA
      split at hx
      · rename_i hu
        cases hx
        simp only [resD1] at hd
        split at hd
        · rename_i o off hp
          rw [hp] at hs
          obtain ⟨b, hL, hv⟩ := hs.inv_ptr
          obtain ⟨cells, cur, T, hho, hb, hl, hpp⟩ := hR.heap.at_ hL
          rw [hho] at hd
          simp only [Option.bind_some] at hd
          obtain ⟨u, hu'⟩ := exists_aget (l := cur) (k := off) (by have := (List.getElem?_eq_some_iff.1 hd).1; omega)
          refine ⟨u, ?_, hpp off d u hd hu'⟩
          have hc : w.cell? ⟨b, off, none⟩ = some u := by rw [cell_of_row w b off cur T (0, 0) hb]; exact hu'
          simp only [hv, Sem.run_bind, asAddr, Sem.run_pure, Result.andThen_ok, run_loadVar_one P t _ _ w (by simpa using hA) hu hc]
        · cases hd
      · cases hx

/-- The slots of the results are variables. -/
def resVs (vs : List Nat) : List ResultVar → Bool
  | [] => true
  | .tmp k :: r => vs.contains k && resVs vs r
  | .cell k _ :: r => vs.contains k && resVs vs r

theorem resL_run (hR : R G L (den vs [] fr) (lkH H) a w) : ∀ (l : List ResultVar) (rv : List RV) (ds : List DV), sRess P l = some rv → resDs fr H rv = some ds → resVs vs l = true →
    ∃ us : List Value, (l.mapM (resF a.tmps)).run P w = .ok us w ∧ us.length = ds.length ∧ ∀ (k : Nat) d v, ds[k]? = some d → us[k]? = some v → V w L (Av G.S L) d v
  | [], rv, ds, h1, h2, _ => by
    simp only [sRess, Option.some.injEq] at h1
    subst h1
    simp only [resDs, Option.some.injEq] at h2
    subst h2
    exact ⟨[], by simp, rfl, fun k d v h => by simp at h⟩
  | x :: l, rv, ds, h1, h2, h3 => by
    simp only [sRess, Option.bind_eq_some_iff, Option.map_eq_some_iff] at h1
    obtain ⟨y, hy, rv', hrv, rfl⟩ := h1
    simp only [resDs, Option.bind_eq_some_iff, Option.map_eq_some_iff] at h2
    obtain ⟨d, hd, ds', hds, rfl⟩ := h2
    have hx : (∀ k, (x = .tmp k ∨ ∃ t, x = .cell k t) → vs.contains k = true) ∧ resVs vs l = true := by
      cases x with
      | tmp k => simp only [resVs, Bool.and_eq_true] at h3; exact ⟨by rintro k' (e | ⟨t, e⟩) <;> cases e; exact h3.1, h3.2⟩
      | cell k t => simp only [resVs, Bool.and_eq_true] at h3; exact ⟨by rintro k' (e | ⟨t, e⟩) <;> cases e; exact h3.1, h3.2⟩
    obtain ⟨v, hv, hV⟩ := res1_run (P := P) hR x hy hd hx.1
    obtain ⟨us, hus, hl, hp⟩ := resL_run hR l rv' ds' hrv hds hx.2
    refine ⟨v :: us, ?_, by simp [hl], fun k e u h1 h2 => ?_⟩
    · rw [List.mapM_cons]
      simp only [Sem.run_bind, hv, hus, Result.andThen_ok, Sem.run_pure]
    · cases k with
      | zero => simp at h1 h2; subst h1; subst h2; exact hV
      | succ k => simp at h1 h2; exact hp k e u h1 h2

theorem results_run (fn : Func) (hR : R G L (den vs [] fr) (lkH H) a w) {rv : List RV} {ds : List DV} (h1 : sRess P fn.results.toList = some rv) (h2 : resDs fr H rv = some ds) (h3 : resVs vs fn.results.toList = true) :
    ∃ v, (results fn a.tmps).run P w = .ok v w ∧ V w L (Av G.S L) (oneOf ds) v := by
  obtain ⟨us, hus, hl, hp⟩ := resL_run (P := P) hR fn.results.toList rv ds h1 h2 h3
  refine ⟨if h : us.length = 1 then us[0] else .tuple us.toArray, ?_, ?_⟩
  · rw [results_eq, Array.mapM_eq_mapM_toList]
    simp only [Sem.run_bind, Sem.run_map, hus, Result.andThen_ok, Sem.run_pure, List.size_toArray, List.getElem_toArray]
  · match ds, us, hl, hp with
    | [d], [u], _, hp => exact hp 0 d u rfl rfl
    | [], [], _, _ => exact .imm (.tup rfl fun k d v h => by simp at h)
    | d :: d' :: ds, u :: u' :: us, hl, hp =>
      simp only [oneOf]
      rw [dif_neg (by simp)]
      exact .tup (by simpa using hl.symm) fun k d v h1 h2 => hp k d v h1 (by simpa using h2)
end

def initF (k : Nat) : List DV → Fr
  | [] => []
  | d :: r => (k, d) :: initF (k + 1) r
theorem lk_initF : ∀ (ds : List DV) (k s : Nat), lk (initF k ds) s = if k ≤ s then ds.getD (s - k) .undef else .undef
  | [], k, s => by simp [initF, lk]
  | d :: ds, k, s => by
    simp only [initF, lk, lk_initF ds (k + 1) s]
    by_cases h1 : k = s
    · subst h1; simp
    · rw [if_neg h1]
      by_cases h2 : k + 1 ≤ s
      · rw [if_pos h2, if_pos (by omega)]
        have : s - k = (s - (k + 1)) + 1 := by omega
        rw [this]; simp
      · rw [if_neg h2, if_neg (by omega)]

/-- What a function of the program is, at the data level. -/
structure IsFn (F : FnD) (f : Nat) (c : DC) (rv : List RV) : Prop where
  ex : ∃ fn code, F.P.funcs[f]? = some fn ∧ fn.body = some code ∧ fn.ntmps = F.n ∧ strip F.P F.vs F.own F.n code = c ∧ sRess F.P fn.results.toList = some rv ∧ resVs F.vs fn.results.toList = true

/-- What is asked at a function's end. -/
def RetP (rv : List RV) (r : DV) (e : Ex) (fr : Fr) (H : Hp) : Prop := (e = .norm ∨ e = .ret) ∧ ∃ ds, resDs fr H rv = some ds ∧ Exp (lkH H) (oneOf ds) r

theorem RetP_1 {k : Nat} {r : DV} {fr : Fr} {H : Hp} (h : Exp (lkH H) (lk fr k) r) : RetP [.t k] r .ret fr H := ⟨.inr rfl, _, rfl, h⟩
theorem RetP_2 {j k : Nat} {r s : DV} {fr : Fr} {H : Hp} (h1 : Exp (lkH H) (lk fr j) r) (h2 : Exp (lkH H) (lk fr k) s) : RetP [.t j, .t k] (.tup [r, s]) .ret fr H :=
  ⟨.inr rfl, _, rfl, .tup rfl fun i d x hd hx => by
    match i with
    | 0 => simp at hd hx; subst hd; subst hx; exact h1
    | 1 => simp at hd hx; subst hd; subst hx; exact h2
    | i + 2 => simp at hd⟩
theorem RetP_3 {i j k : Nat} {r s t : DV} {fr : Fr} {H : Hp} (h1 : Exp (lkH H) (lk fr i) r) (h2 : Exp (lkH H) (lk fr j) s) (h3 : Exp (lkH H) (lk fr k) t) : RetP [.t i, .t j, .t k] (.tup [r, s, t]) .ret fr H :=
  ⟨.inr rfl, _, rfl, .tup rfl fun i d x hd hx => by
    match i with
    | 0 => simp at hd hx; subst hd; subst hx; exact h1
    | 1 => simp at hd hx; subst hd; subst hx; exact h2
    | 2 => simp at hd hx; subst hd; subst hx; exact h3
    | i + 3 => simp at hd⟩
theorem RetP_0 {fr : Fr} {H : Hp} {e : Ex} (he : e = .norm ∨ e = .ret) : RetP [] (.tup []) e fr H := ⟨he, _, rfl, .imm rfl⟩
/-- A struct that lies in an object. -/
theorem RetP_c {n k o : Nat} {r : DV} {fr : Fr} {H : Hp} {cs : List DV} (hk : lk fr k = .ptr o 0) (ho : lkH H o = some cs) (hn : cs.length = n) (h : Exp (lkH H) (.agg cs) r) : RetP [.cn n k] r .ret fr H := by
  refine ⟨.inr rfl, [.agg cs], ?_, h⟩
  simp [resDs, resD1, hk, ho, hn, List.take_of_length_le (Nat.le_of_eq hn)]

/-- FROM A TRIPLE TO A PURE CONTRACT. -/
theorem PCalls_of {F : FnD} {f : Nat} {c : DC} {rv : List RV} {args : List DV} {r : DV} (hf : IsFn F f c rv) (hn : args.length ≤ F.n)
    (h : W F c (RetP rv r) (initF 0 args) []) : PCalls F.P f args r := by
  obtain ⟨fn, code, hfn, hb, hnt, hst, hrv, hrs⟩ := hf.ex
  intro A w us hA hs hv
  refine calls_of_wp hfn hb ?_
  have hR : R ⟨A, w, fun _ => False, F.n⟩ (fun _ => none) (den F.vs [] (initF 0 args)) (lkH []) { tmps := us ++ Array.replicate (fn.ntmps - us.size) undef, defers := [] } w := by
    refine ⟨by simp; omega, rfl, fun s => ?_, ⟨(by intro o b h; cases h), (by intro o c h; cases h), (by intro o p b h; cases h), (by intro o b h; cases h)⟩, Ext.refl _ _, hA, (by intro o b h; cases h)⟩
    simp only [den, lk]
    split
    · rw [lk_initF, if_pos (Nat.zero_le _), Nat.sub_zero]
      cases hk : args[s]? with
      | none => rw [List.getD_eq_getElem?_getD, hk]; exact .imm (.undef _)
      | some d =>
        have hlt := (List.getElem?_eq_some_iff.1 hk).1
        obtain ⟨u, hu⟩ := exists_aget (l := us) (k := s) (by omega)
        rw [List.getD_eq_getElem?_getD, hk, Array.getD_eq_getD_getElem?, Array.getElem?_append_left (by omega), hu]
        refine .imm ((hv s d u hk hu).mono fun b _ hb => ⟨rfl, ?_⟩)
        rintro (h1 | ⟨o, h1⟩)
        · exact hb h1
        · cases h1
    · exact .imm (.undef _)
  refine wp_mono (h code hst _ _ _ _ rfl hR) fun e a' w' => ?_
  rintro ⟨L, fr, H, de, hR', he, hde, ds, hds, hexp⟩
  obtain ⟨v, hrun, hV⟩ := results_run (P := F.P) fn hR' hrv hds hrs
  have hvi := hexp.VI hR'.heap hV
  have hfin : ∃ u, Ending.returned v = .returned u ∧ VI w' A r u ∧ Ext (fun _ => False) w w' := ⟨v, rfl, hvi, hR'.ext⟩
  cases e <;> simp only [er, Option.some.injEq, reduceCtorEq] at he
  · exact ⟨hR'.defers, v, hrun, hfin⟩
  · subst he; rcases hde with e | e <;> cases e
  · exact ⟨hR'.defers, v, hrun, hfin⟩
end Go.Dat
