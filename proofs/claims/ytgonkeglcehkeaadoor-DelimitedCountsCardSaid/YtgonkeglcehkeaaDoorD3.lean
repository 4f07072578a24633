/- Lemmas of the walk; no conditions beyond those that each states. -/
import Derived.Test.YtgonkeglcehkeaaDoorD2
set_option linter.unusedSimpArgs false
set_option linter.unusedVariables false
set_option linter.unnecessarySimpa false
namespace Go.Dat
open Go
section
variable {F : FnD} {G : Cx}
theorem sOpers_split {P : Program} {vs own : List Nat} {n : Nat} {ops : Array Oper} : ∀ (d0 d1 : List DOper) (l : List Oper), sOpers P vs own n ops l = some (d0 ++ d1) →
    ∃ l0 l1, l = l0 ++ l1 ∧ sOpers P vs own n ops l0 = some d0 ∧ sOpers P vs own n ops l1 = some d1
  | [], d1, l, h => ⟨[], l, rfl, rfl, h⟩
  | x :: d0, d1, [], h => by simp [sOpers] at h
  | x :: d0, d1, o :: l, h => by
    simp only [sOpers, Option.bind_eq_some_iff, Option.map_eq_some_iff] at h
    obtain ⟨d, hd, ds, hds, e⟩ := h
    simp only [List.cons_append, List.cons.injEq] at e
    obtain ⟨rfl, rfl⟩ := e
    obtain ⟨l0, l1, rfl, h1, h2⟩ := sOpers_split d0 d1 l hds
    exact ⟨o :: l0, l1, rfl, by simp only [sOpers, hd, Option.bind_some, h1, Option.map_some], h2⟩
theorem regW_pre {ops : Array Oper} {Q : Exit → Act → World → Prop} {Kd : Fr → Fr → Hp → Prop} {l1 : List Oper} (hn : G.n = F.n ∧ G.ok F.P)
    (hK : ∀ te fr H L a w, R G L (den F.vs te fr) (lkH H) a w → Kd te fr H → wpList F.P ops Q l1 a w) :
    ∀ (l : List Oper) (ds : List DOper), sOpers F.P F.vs F.own F.n ops l = some ds → ∀ (te fr : Fr) (H : Hp) (L : Nat → Option Nat) (a : Act) (w : World),
      R G L (den F.vs te fr) (lkH H) a w → regW F ds te fr H Kd → wpList F.P ops Q (l ++ l1) a w
  | [], ds, hs, te, fr, H, L, a, w, hR, hW => by
    simp only [sOpers, Option.some.injEq] at hs
    subst hs
    exact hK _ _ _ _ _ _ hR hW
  | o :: l, ds, hs, te, fr, H, L, a, w, hR, hW => by
    show wpList F.P ops Q (o :: (l ++ l1)) a w
    simp only [sOpers, Option.bind_eq_some_iff, Option.map_eq_some_iff] at hs
    obtain ⟨dp, hdp, ds', hds', rfl⟩ := hs
    have ih := regW_pre hn hK l ds' hds'
    have hgd : sGuard F.vs ops o.guard = some dp.guard ∧ dp.dst = sDst F.vs o.dst ∧ ∀ k, o.dst = some k → k < F.n := by
      simp only [sOper, Option.bind_eq_some_iff] at hdp
      obtain ⟨p, hp, g, hg, hs⟩ := hdp
      split at hs
      · rename_i hd; cases hs; exact ⟨hg, rfl, dst_lt hd⟩
      · cases hs
    obtain ⟨hg, hdst, hdl⟩ := hgd
    have hskip : Region.wanted o (yielded ops a.tmps) = false → regW F ds' (dp.dst.onT te (.tup [])) (dp.dst.onX fr (.tup [])) H Kd → wpList F.P ops Q (o :: (l ++ l1)) a w := by
      intro hw hW'
      have hput := hR.put (V_undef) (dst := o.dst) (by rw [hn.1]; exact hdl)
      rw [← den_put, ← hdst] at hput
      simp only [wpList, hw]
      exact ih _ _ _ _ _ _ hput hW'
    have hgo : Region.wanted o (yielded ops a.tmps) = true → (match dp.op with
      | .call f args => callR F f (args.map (ev te fr)) te fr H fun d te' fr' H' => regW F ds' (dp.dst.onT te' d) (dp.dst.onX fr' d) H' Kd
      | p => OW (opE F.nb dp.dst.slot (ev te fr) (lkH H) p) fun r => regW F ds' (dp.dst.onT (r.2.onF te) r.1) (dp.dst.onX (r.2.onF fr) r.1) (r.2.onL H) Kd) → wpList F.P ops Q (o :: (l ++ l1)) a w := by
      intro hw hg'
      simp only [wpList, hw, if_true]
      exact .inl (oper_sound (Kd := fun te fr H => regW F ds' te fr H Kd) hdp hn hR (fun te fr H L a w hR' hk => ih te fr H L a w hR' hk) hg')
    simp only [regW] at hW
    cases hgu : dp.guard with
    | none =>
      rw [hgu] at hg hW
      exact hgo (wanted_none _ hg) hW
    | some p =>
      obtain ⟨g, want⟩ := p
      rw [hgu] at hg hW
      simp only at hW
      split at hW
      · rename_i b hb
        have hwn := wanted_bool hR hg hb
        by_cases hbw : b = want
        · exact hgo (by rw [hwn]; simp [hbw]) (hW.1 hbw)
        · exact hskip (by rw [hwn]; simp [hbw]) (hW.2 (by cases b <;> cases want <;> simp_all))
      · rename_i hb
        exact hskip (wanted_skip hR hg hb) hW
      · exact hW.elim
theorem sOp_pan {P : Program} {vs own : List Nat} {dst : Option Nat} {op : Op} {x : Opd} (h : sOp P vs own dst op = some (.pan x)) : ∃ y, op = .panic y ∧ x = sOpd vs y := by
  cases op with
  | panic y => simp only [sOp, Option.some.injEq, DOp.pan.injEq] at h; exact ⟨y, rfl, h.symm⟩
  | call c =>
    exfalso
    obtain ⟨callee, cargs, argTypes⟩ := c
    cases callee with
    | value q =>
      cases q <;> simp only [sOp] at h <;> (repeat' split at h) <;> first | (cases h; done) | contradiction
    | invoke r m => simp [sOp] at h
    | builtin b => cases b <;> simp only [sOp] at h <;> (repeat' split at h) <;> first | (cases h; done) | (simp [Option.bind_eq_some_iff] at h; done) | (simp only [Option.bind_eq_some_iff] at h; obtain ⟨_, _, h⟩ := h; split at h <;> cases h)
  | binOp op t x y u => exfalso; cases op <;> simp only [sOp] at h <;> (repeat' split at h) <;> cases h
  | _ =>
    exfalso
    simp only [sOp] at h
    repeat' split at h
    all_goals first | (cases h; done) | (simp [Option.bind_eq_some_iff, Option.map_eq_some_iff] at h; done) | (simp only [Option.bind_eq_some_iff, Option.map_eq_some_iff] at h; obtain ⟨_, _, h⟩ := h; (repeat' split at h) <;> first | (cases h; done) | (obtain ⟨_, _, h⟩ := h; cases h; done))
theorem sOp_call {P : Program} {vs own : List Nat} {dst : Option Nat} {op : Op} {f : Nat} {args : List Opd} (hp : sOp P vs own dst op = some (.call f args)) :
    ∃ c fn, op = .call c ∧ c.callee = .value (.func f) ∧ P.funcs[f]? = some fn ∧ fn.body.isSome = true ∧ (fn.name != "runtime.NumGoroutine") = true ∧ args = c.args.toList.map (sOpd vs) := by
  cases op with
  | call c =>
    obtain ⟨callee, cargs, argTypes⟩ := c
    cases callee with
    | value q =>
      cases q with
      | func f' =>
        simp only [sOp] at hp
        split at hp
        · rename_i fn hfn
          split at hp
          · rename_i hcond
            cases hp
            simp only [Bool.and_eq_true] at hcond
            exact ⟨_, fn, rfl, rfl, hfn, hcond.1, hcond.2, rfl⟩
          · cases hp
        · cases hp
      | _ => simp [sOp] at hp
    | invoke r m => simp [sOp] at hp
    | builtin b =>
      exfalso
      cases b <;> simp only [sOp] at hp <;> (repeat' split at hp) <;> first | (cases hp; done) | (simp [Option.bind_eq_some_iff] at hp; done) | (simp only [Option.bind_eq_some_iff] at hp; obtain ⟨_, _, hp⟩ := hp; split at hp <;> cases hp) 
  | _ =>
    exfalso
    exact sOp_nocall (by intro c e; cases e) hp
def vOf1 : DV → Option Value
  | .int k n => some (.int k n)
  | .bool b => some (.bool b)
  | .str l => some (.string ⟨l.toArray⟩)
  | _ => none
def vOf : DV → Option Value
  | .iface t (.agg [d]) => (vOf1 d).map fun v => .iface t (.agg #[v])
  | .iface t d => (vOf1 d).map fun v => .iface t v
  | _ => none
theorem vOf1_eq {w : World} {A : Nat → Prop} {d : DV} {v u : Value} (h : VI w A d v) (e : vOf1 d = some u) : v = u := by
  cases h <;> simp only [vOf1, Option.some.injEq, reduceCtorEq] at e <;> exact e
theorem vOf_eq {w : World} {L : Nat → Option Nat} {A : Nat → Prop} {d : DV} {v u : Value} (h : V w L A d v) (e : vOf d = some u) : v = u ∧ ∃ t v0, u = .iface t v0 := by
  unfold vOf at e
  split at e
  · rename_i t d
    rw [Option.map_eq_some_iff] at e
    obtain ⟨v1, h1, rfl⟩ := e
    cases h with
    | imm h =>
      cases h with
      | iface h =>
        cases h with
        | @agg cs vs hl hp =>
          obtain ⟨l⟩ := vs
          match l, hl with
          | [y], _ =>
            rw [vOf1_eq (hp 0 _ y rfl rfl) h1]
            exact ⟨rfl, _, _, rfl⟩
  · rw [Option.map_eq_some_iff] at e
    obtain ⟨v1, h1, rfl⟩ := e
    cases h with
    | imm h =>
      cases h with
      | iface h => rw [vOf1_eq h h1]; exact ⟨rfl, _, _, rfl⟩
  · cases e
theorem W_pan {Q : Ex → Fr → Hp → Prop} {fr : Fr} {H : Hp} {ds : List DOper} (d0 : List DOper) (dst : Dst) (x : Opd) (hd : ds = d0 ++ [⟨dst, .pan x, none⟩])
    (h : regW F d0 [] fr H fun te fr H => ∃ u, vOf (ev te fr x) = some u ∧ Q (.pan [{ v := u, recovered := false }]) fr H) : W F (.reg ds) Q fr H := by
  subst hd
  intro code hc G L a w hn hR
  cases code <;> simp only [strip] at hc <;> first | (cases hc; done) | skip
  rename_i id ops draw
  split at hc
  · rename_i ds' hds
    split at hc
    · (repeat' split at hc) <;> cases hc
    · rename_i hd
      cases hc
      have hd' : draw = false := by simpa using hd
      subst hd'
      obtain ⟨l0, l1, hl, h0, h1⟩ := sOpers_split _ _ _ hds
      refine wp_region_list ?_
      rw [hl]
      refine regW_pre hn (fun te fr H L a w hR' hk => ?_) l0 d0 h0 [] fr H L a w hR h
      obtain ⟨u, hu, hq⟩ := hk
      match l1, h1 with
      | o :: l2, h1 =>
        simp only [sOpers, Option.bind_eq_some_iff, Option.map_eq_some_iff] at h1
        obtain ⟨d, hd, ds', _, e⟩ := h1
        simp only [List.cons.injEq] at e
        obtain ⟨rfl, _⟩ := e
        obtain ⟨odst, op, ty, pos, after, guard⟩ := o
        simp only [sOper, Option.bind_eq_some_iff] at hd
        obtain ⟨p, hp, g, hg, hs⟩ := hd
        split at hs
        · simp only [Option.some.injEq, DOper.mk.injEq] at hs
          obtain ⟨_, rfl, rfl⟩ := hs
          obtain ⟨y, rfl, rfl⟩ := sOp_pan hp
          have hv := ev_V (vs := F.vs) hR' y
          rw [← ev_den] at hv
          obtain ⟨e1, t, v0, e2⟩ := vOf_eq hv hu
          have hw : Region.wanted (⟨odst, .panic y, ty, pos, after, guard⟩ : Oper) (yielded ops a.tmps) = true := wanted_none (F := F) (ops := ops) a.tmps hg
          simp only [wpList, hw, if_true]
          refine .inl ?_
          have hr : (execOp a.eval ⟨odst, .panic y, ty, pos, after, guard⟩).run F.P w = .halt (.panic u) w := by
            have h3 : (execOp a.eval ⟨odst, .panic y, ty, pos, after, guard⟩) = (do pure (.value (← Instr.panic (a.eval y)))) := rfl
            rw [h3, e1, e2]
            have h4 : (Instr.panic (.iface t v0)).run F.P w = .halt (.panic (.iface t v0)) w := rfl
            simp [h4]
          unfold Oper.wp
          rw [hr]
          refine ⟨L, fr, H, .pan _, hR'.weak fun s => ?_, rfl, hq⟩
          simp only [den, lk]
          split
          · exact .inl rfl
          · exact .inr rfl
        · cases hs
  · cases hc
def callX (P : Program) (vs : List Nat) (f : Nat) (ds : List DV) (te fr : Fr) (H : Hp) (K : DV → Fr → Fr → Hp → Prop) (E : List PanicEntry → Fr → Hp → Prop) : Prop :=
  ∀ (G : Cx) (L : Nat → Option Nat) (a : Act) (w : World) (us : Array Value), G.ok P → R G L (den vs te fr) (lkH H) a w → us.size = ds.length →
    (∀ (k : Nat) d v, ds[k]? = some d → us[k]? = some v → V w L (Av G.S L) d v) →
    Calls P f us w fun e w' => (∃ v L' d te' fr' H', e = .returned v ∧ R G L' (den vs te' fr') (lkH H') a w' ∧ V w' L' (Av G.S L') d v ∧ K d te' fr' H') ∨
      ∃ ch L' fr' H', e = .panicked ch ∧ R G L' (den vs [] fr') (lkH H') a w' ∧ E ch fr' H'
theorem W_callX {Q : Ex → Fr → Hp → Prop} {fr : Fr} {H : Hp} {ds : List DOper} (d0 d1 : List DOper) (dst : Dst) (f : Nat) (args : List Opd) (hd : ds = d0 ++ ⟨dst, .call f args, none⟩ :: d1)
    (h : regW F d0 [] fr H fun te fr H => callX F.P F.vs f (args.map (ev te fr)) te fr H (fun d te' fr' H' => regW F d1 (dst.onT te' d) (dst.onX fr' d) H' fun _ fr H => Q .norm fr H) fun ch fr' H' => Q (.pan ch) fr' H') :
    W F (.reg ds) Q fr H := by
  subst hd
  intro code hc G L a w hn hR
  cases code <;> simp only [strip] at hc <;> first | (cases hc; done) | skip
  rename_i id ops draw
  split at hc
  · rename_i ds' hds
    split at hc
    · (repeat' split at hc) <;> cases hc
    · rename_i hd
      cases hc
      have hd' : draw = false := by simpa using hd
      subst hd'
      obtain ⟨l0, l1, hl, h0, h1⟩ := sOpers_split _ _ _ hds
      refine wp_region_list ?_
      rw [hl]
      refine regW_pre hn (fun te fr H L a w hR' hk => ?_) l0 d0 h0 [] fr H L a w hR h
      match l1, h1 with
      | o :: l2, h1 =>
        simp only [sOpers, Option.bind_eq_some_iff, Option.map_eq_some_iff] at h1
        obtain ⟨d, hd, ds', hds', e⟩ := h1
        simp only [List.cons.injEq] at e
        obtain ⟨rfl, rfl⟩ := e
        obtain ⟨odst, op, ty, pos, after, guard⟩ := o
        simp only [sOper, Option.bind_eq_some_iff] at hd
        obtain ⟨p, hp, g, hg, hs⟩ := hd
        split at hs
        · rename_i hdo
          simp only [Option.some.injEq, DOper.mk.injEq] at hs
          obtain ⟨rfl, rfl, rfl⟩ := hs
          have hdl := dst_lt hdo
          obtain ⟨c, fn, rfl, hcal, hfn, hbody, hname, rfl⟩ := sOp_call hp
          obtain ⟨callee, cargs, argTypes⟩ := c
          simp only at hcal hk
          subst hcal
          have hE : EV F.vs (ev te fr) w L (Av G.S L) a := fun x => by rw [ev_den]; exact ev_V hR' x
          have hcall := hk G L a w (cargs.map a.eval) hn.2 hR' (by simp) (fun k d v h1 h2 => by
            simp only [List.map_map, List.getElem?_map, Array.getElem?_toList, Option.map_eq_some_iff] at h1
            simp only [Array.getElem?_map, Option.map_eq_some_iff] at h2
            obtain ⟨x, hx, rfl⟩ := h1
            obtain ⟨y, hy, rfl⟩ := h2
            rw [hx] at hy; cases hy
            exact hE x)
          have hr : (execOp a.eval ⟨odst, .call { callee := .value (.func f), args := cargs, argTypes := argTypes }, ty, pos, after, guard⟩).run F.P w = .ok (.enter f (cargs.map a.eval)) w := by
            have hb : ¬ fn.body = none := by intro e; rw [e] at hbody; cases hbody
            have hnm : ¬ fn.name = "runtime.NumGoroutine" := by simpa using hname
            simp [execOp, resolve, Act.eval, Deferred.ofValue, invoke, callFunc, hfn, hnm, hb]
          have hw : Region.wanted (⟨odst, .call { callee := .value (.func f), args := cargs, argTypes := argTypes }, ty, pos, after, guard⟩ : Oper) (yielded ops a.tmps) = true := wanted_none (F := F) (ops := ops) a.tmps hg
          simp only [wpList, hw, if_true]
          refine .inl ?_
          unfold Oper.wp
          rw [hr]
          refine hcall.mono ?_
          rintro e w' (⟨v, L', d, te', fr', H', rfl, hR2, hv, hKd⟩ | ⟨ch, L', fr', H', rfl, hR2, hq⟩)
          · have hput := hR2.put hv (by rw [hn.1]; exact hdl)
            rw [← den_put] at hput
            refine regW_sound hn (fun te fr H L a w hR3 hk => ?_) l2 ds' hds' _ _ _ _ _ _ hput hKd
            refine ⟨L, fr, H, .norm, hR3.weak fun s => ?_, rfl, hk⟩
            simp only [den, lk]
            split
            · exact .inl rfl
            · exact .inr rfl
          · exact ⟨L', fr', H', .pan _, hR2, rfl, hq⟩
        · cases hs
  · cases hc
end
inductive RX where
  | ret (d : DV)
  | pan (ch : List PanicEntry)
def MX (P : Program) (f : Nat) (args : List DV) (H : Hp) (Q : RX → Hp → Prop) : Prop :=
  ∀ (S : Nat → Prop) (L : Nat → Option Nat) (w : World) (us : Array Value), Tab P w → (∀ o b, L o = some b → NotTab P b) → HOK w S L (lkH H) → (∀ x, S x → x < w.heap.size) → us.size = args.length →
    (∀ (k : Nat) d v, args[k]? = some d → us[k]? = some v → V w L (Av S L) d v) →
    Calls P f us w fun e w' => ∃ L' H' rx, Q rx H' ∧ HOK w' S L' (lkH H') ∧ Ext (fun x => ∃ o, L o = some x) w w' ∧
      (∀ o b, L o = some b → 1048576 ≤ o → L' o = some b) ∧ (∀ o b, L' o = some b → (∃ p, L p = some b) ∨ w.heap.size ≤ b) ∧ (∀ b, b < w.heap.size → w'.shape? b = w.shape? b) ∧
      match rx with
      | .ret r => ∃ v, e = .returned v ∧ V w' L' (Av S L') r v
      | .pan ch => e = .panicked ch
def RetPX (rv : List RV) (H0 : Hp) (Q : RX → Hp → Prop) (e : Ex) (fr : Fr) (H : Hp) : Prop :=
  RetPR rv H0 (fun r H' => Q (.ret r) H') e fr H ∨
  ∃ ch H', e = .pan ch ∧ Q (.pan ch) H' ∧ (∀ o, 1048576 ≤ o → (lkH H0 o).isSome = true → (lkH H' o).isSome = true) ∧ ∀ o c, lkH H' o = some c → ∃ c0, lkH H o = some c0 ∧ c0.map (rn (nmH H')) = c
theorem MX_of {F : FnD} {f : Nat} {c : DC} {rv : List RV} {args : List DV} {H : Hp} {Q : RX → Hp → Prop} (hf : IsFn F f c rv) (hn : args.length ≤ F.n)
    (h : W F c (RetPX rv H Q) (initF 0 args) H) : MX F.P f args H Q := by
  obtain ⟨fn, code, hfn, hb, hnt, hst, hrv, hrs⟩ := hf.ex
  intro S L w us hT hTb hH hA hs hv
  refine calls_of_wp hfn hb ?_
  have hlt : ∀ o b, L o = some b → b < w.heap.size := fun o b ho => hH.lt ho
  have hR : R ⟨S, w, fun x => ∃ o, L o = some x, F.n, fun o => if 1048576 ≤ o then L o else none, []⟩ L (den F.vs [] (initF 0 args)) (lkH H) { tmps := us ++ Array.replicate (fn.ntmps - us.size) undef, defers := [] } w := by
    refine ⟨by simp; omega, rfl, fun s => ?_, hH, Ext.refl _ _, hA, fun o x ho => .inl ⟨o, ho⟩, fun o x ho => ?_, fun _ _ => rfl⟩
    · simp only [den, lk]
      split
      · rw [lk_initF, if_pos (Nat.zero_le _), Nat.sub_zero]
        cases hk : args[s]? with
        | none => rw [List.getD_eq_getElem?_getD, hk]; exact .imm (.undef _)
        | some d =>
          have hlt := (List.getElem?_eq_some_iff.1 hk).1
          obtain ⟨u, hu⟩ := exists_aget (l := us) (k := s) (by omega)
          rw [List.getD_eq_getElem?_getD, hk, Array.getD_eq_getD_getElem?, Array.getElem?_append_left (by omega), hu]
          exact hv s d u hk hu
      · exact .imm (.undef _)
    · simp only at ho
      split at ho
      · rename_i h1; exact ⟨ho, h1⟩
      · cases ho
  refine wp_mono (h code hst ⟨S, w, fun x => ∃ o, L o = some x, F.n, fun o => if 1048576 ≤ o then L o else none, []⟩ _ _ _ ⟨rfl, hT, fun x hx => (show ∃ o, L o = some x from hx).elim fun o ho => hTb o x ho⟩ hR) fun e a' w' => ?_
  rintro ⟨L1, fr, H1, de, hR', he, hde⟩
  have hst : ∀ H' : Hp, (∀ o, 1048576 ≤ o → (lkH H o).isSome = true → (lkH H' o).isSome = true) → (∀ o c, lkH H' o = some c → ∃ c0, lkH H1 o = some c0 ∧ c0.map (rn (nmH H')) = c) →
      ∃ L', HOK w' S L' (lkH H') ∧ Ext (fun x => ∃ o, L o = some x) w w' ∧
      (∀ o b, L o = some b → 1048576 ≤ o → L' o = some b) ∧ (∀ o b, L' o = some b → (∃ p, L p = some b) ∨ w.heap.size ≤ b) ∧ (∀ b, b < w.heap.size → w'.shape? b = w.shape? b) ∧
      (∀ d v, V w' L1 (Av S L1) d v → V w' L' (Av S L') (rn (nmH H') d) v) := by
    intro H' hdom hcells
    have hsub : ∀ o b, (nmH H' o).bind L1 = some b → lkH H' o ≠ none ∧ L1 o = some b := fun o b ho => by
      unfold nmH at ho
      split at ho
      · rename_i h1; exact ⟨fun e => (by rw [e] at h1; cases h1), ho⟩
      · cases ho
    have hAv : ∀ b, Av S (fun o => (nmH H' o).bind L1) b → Av S L1 b := by
      rintro b (h1 | ⟨o, h1⟩)
      · exact .inl h1
      · exact .inr ⟨o, (hsub o b h1).2⟩
    have hVr : ∀ d v, V w' L1 (Av S L1) d v → V w' (fun o => (nmH H' o).bind L1) (Av S (fun o => (nmH H' o).bind L1)) (rn (nmH H') d) v := fun d v hd =>
      hd.rn (nmH H') hAv fun o p b h1 h2 => by
        have e : o = p := by
          unfold nmH at h1; split at h1
          · simpa using h1
          · cases h1
        subst e
        show (nmH H' o).bind L1 = some b
        rw [h1]; exact h2
    refine ⟨fun o => (nmH H' o).bind L1, ⟨?_, ?_, ?_, ?_, ?_⟩, hR'.ext, ?_, ?_, fun b hb => hR'.shp b hb, hVr⟩
    · intro o b ho
      have h1 := (hsub o b ho).1
      cases h2 : lkH H' o with
      | none => exact absurd h2 h1
      | some c => exact ⟨c, rfl⟩
    · intro o c hc
      obtain ⟨c0, h1, rfl⟩ := hcells o c hc
      have e1 : nmH H' o = some o := by unfold nmH; rw [hc]; rfl
      rcases hR'.heap.obj o c0 h1 with ⟨h2, h3⟩ | ⟨b, cs, T, h2, h3, h4, h5⟩
      · exact .inl ⟨by rw [e1]; exact h2, by rw [h3]; rfl⟩
      · refine .inr ⟨b, cs, T, by rw [e1]; exact h2, h3, by simpa using h4, fun k d u hk hu => ?_⟩
        rw [List.getElem?_map, Option.map_eq_some_iff] at hk
        obtain ⟨d0, hd0, rfl⟩ := hk
        exact hVr _ _ (h5 k d0 u hd0 hu)
    · intro o p b ho hp
      exact hR'.heap.inj o p b (hsub o b ho).2 (hsub p b hp).2
    · intro o b ho
      exact hR'.heap.notS o b (hsub o b ho).2
    · intro o b ho
      exact hR'.heap.ty o b (hsub o b ho).2
    · intro o b ho h1
      have h2 := (hR'.keep o b (by simp only [if_pos h1]; exact ho)).1
      have h3 : (lkH H o).isSome = true := by
        obtain ⟨c, hc⟩ := hH.dom o b ho
        rw [hc]; rfl
      have e1 : nmH H' o = some o := by unfold nmH; rw [if_pos (hdom o h1 h3)]
      show (nmH H' o).bind L1 = some b
      rw [e1]; exact h2
    · intro o b ho
      exact hR'.own o b (hsub o b ho).2
  rcases hde with ⟨hn1, ds, r, H', hQ, hdom, hds, hr, hcells⟩ | ⟨ch, H', hn1, hQ, hdom, hcells⟩
  · obtain ⟨v, hrun, hV⟩ := results_run (P := F.P) fn hR' hrv hds hrs
    obtain ⟨L', g1, g2, g3, g4, g5, g6⟩ := hst H' hdom hcells
    have hfin : ∃ L' H' rx, Q rx H' ∧ HOK w' S L' (lkH H') ∧ Ext (fun x => ∃ o, L o = some x) w w' ∧
        (∀ o b, L o = some b → 1048576 ≤ o → L' o = some b) ∧ (∀ o b, L' o = some b → (∃ p, L p = some b) ∨ w.heap.size ≤ b) ∧ (∀ b, b < w.heap.size → w'.shape? b = w.shape? b) ∧
        match rx with
        | .ret r => ∃ u, Ending.returned v = .returned u ∧ V w' L' (Av S L') r u
        | .pan ch => Ending.returned v = .panicked ch := ⟨L', H', .ret r, hQ, g1, g2, g3, g4, g5, v, rfl, hr ▸ g6 _ _ hV⟩
    cases e <;> simp only [er, Option.some.injEq, reduceCtorEq] at he
    · exact ⟨hR'.defers, v, hrun, hfin⟩
    · subst he; rcases hn1 with e | e <;> cases e
    · exact ⟨hR'.defers, v, hrun, hfin⟩
    · subst he; rcases hn1 with e | e <;> cases e
  · subst hn1
    obtain ⟨L', g1, g2, g3, g4, g5, g6⟩ := hst H' hdom hcells
    cases e <;> simp only [er, Option.some.injEq, reduceCtorEq] at he
    · cases he
      exact ⟨hR'.defers, L', H', .pan _, hQ, g1, g2, g3, g4, g5, rfl⟩
theorem callX_rel {F : FnD} {f : Nat} {ds : List DV} {te fr : Fr} {H : Hp} {K : DV → Fr → Fr → Hp → Prop} {E : List PanicEntry → Fr → Hp → Prop} {Q : RX → Hp → Prop} (fwd back : Nat → Option Nat)
    (hfb : ∀ p q, fwd p = some q ↔ back q = some p) (hkp : ∀ p q, fwd p = some q → 1048576 ≤ p → 1048576 ≤ q) (hty : ∀ p q, fwd p = some q → tyEq p q) {Hc : Hp}
    (hH : ∀ q, lkH Hc q = (back q).bind fun p => (lkH H p).map (List.map (rn fwd))) (hc : MX F.P f (ds.map (rn fwd)) Hc Q)
    (hK : ∀ rx Hc', Q rx Hc' → ∃ H2, (∀ p, lkH H2 p = match fwd p with | some q => (lkH Hc' q).map (List.map (rn back)) | none => (lkH H p).map (List.map (rn (pgN H fwd)))) ∧
      match rx with
      | .ret r => K (rn back r) (mapF (rn (pgN H fwd)) te) (mapF (rn (pgN H fwd)) fr) H2
      | .pan ch => E ch (mapF (rn (pgN H fwd)) fr) H2) : callX F.P F.vs f ds te fr H K E := by
  intro G L a w us hG hR hs hv
  obtain ⟨Lc, hLc⟩ : ∃ Lc : Nat → Option Nat, Lc = fun q => (back q).bind L := ⟨_, rfl⟩
  have hLc1 : ∀ q b, Lc q = some b → ∃ p, back q = some p ∧ L p = some b := fun q b h => by
    rw [hLc] at h
    simp only [Option.bind_eq_some_iff] at h
    exact h
  have hLc2 : ∀ p q b, fwd p = some q → L p = some b → Lc q = some b := fun p q b h1 h2 => by
    rw [hLc]
    simp only [(hfb p q).1 h1, Option.bind_some, h2]
  obtain ⟨Sc, hSc⟩ : ∃ Sc : Nat → Prop, Sc = fun x => Av G.S L x ∧ ¬ ∃ q, Lc q = some x := ⟨_, rfl⟩
  have hAvc : ∀ x, Av Sc Lc x ↔ Av G.S L x := fun x => by
    unfold Av
    rw [hSc]
    constructor
    · rintro (h | ⟨q, h⟩)
      · exact h.1
      · obtain ⟨p, _, h2⟩ := hLc1 q x h
        exact .inr ⟨p, h2⟩
    · intro h
      by_cases e : ∃ q, Lc q = some x
      · exact .inr e
      · exact .inl ⟨h, e⟩
  have hlt : ∀ x, Av G.S L x → x < w.heap.size := by
    rintro x (h | ⟨p, h⟩)
    · exact hR.sLt x h
    · exact hR.heap.lt h
  have hGS : ∀ x, G.S x → Sc x := fun x hx => by
    rw [hSc]
    refine ⟨.inl hx, ?_⟩
    rintro ⟨q, hq⟩
    obtain ⟨p, _, h2⟩ := hLc1 q x hq
    exact hR.heap.notS p x h2 hx
  have hVf : ∀ d v, V w L (Av G.S L) d v → V w Lc (Av Sc Lc) (rn fwd d) v := fun d v hd => hd.rn fwd (fun b hb => (hAvc b).1 hb) fun o p b h1 h2 => hLc2 o p b h1 h2
  have hHc : HOK w Sc Lc (lkH Hc) := by
    refine ⟨fun q b hq => ?_, fun q c hq => ?_, fun q q' b h1 h2 => ?_, fun q b hq hs => ?_, fun q b hq => ?_⟩
    · obtain ⟨p, h1, h2⟩ := hLc1 q b hq
      obtain ⟨c, h3⟩ := hR.heap.dom p b h2
      exact ⟨_, by rw [hH, h1, Option.bind_some, h3]; rfl⟩
    · rw [hH] at hq
      simp only [Option.bind_eq_some_iff, Option.map_eq_some_iff] at hq
      obtain ⟨p, h1, c0, h2, rfl⟩ := hq
      have e : Lc q = L p := by rw [hLc]; simp only [h1, Option.bind_some]
      rcases hR.heap.obj p c0 h2 with ⟨h3, h4⟩ | ⟨b, cs, T, h3, h4, h5, h6⟩
      · exact .inl ⟨by rw [e, h3], by rw [h4]; rfl⟩
      · refine .inr ⟨b, cs, T, by rw [e, h3], h4, by simpa using h5, fun k d v hk hu => ?_⟩
        rw [List.getElem?_map, Option.map_eq_some_iff] at hk
        obtain ⟨d0, hd0, rfl⟩ := hk
        exact hVf _ _ (h6 k d0 v hd0 hu)
    · obtain ⟨p, h3, h4⟩ := hLc1 q b h1
      obtain ⟨p', h5, h6⟩ := hLc1 q' b h2
      have e := hR.heap.inj p p' b h4 h6
      subst e
      have h7 := (hfb p q).2 h3
      rw [(hfb p q').2 h5] at h7
      exact (Option.some.inj h7).symm
    · rw [hSc] at hs
      exact hs.2 ⟨q, hq⟩
    · obtain ⟨p, h1, h2⟩ := hLc1 q b hq
      exact (hR.heap.ty p b h2).rn (hty p q ((hfb p q).2 h1))
  have hown : ∀ q b, Lc q = some b → ∃ p, L p = some b := fun q b h => (hLc1 q b h).elim fun p h => ⟨p, h.2⟩
  refine (hc Sc Lc w us (hG.tab hR) (fun q b h => (hown q b h).elim fun p h => hG.own hR h) hHc (fun x hx => hlt x (by rw [hSc] at hx; exact hx.1)) (by simpa using hs) fun k d v h1 h2 => ?_).mono ?_
  · rw [List.getElem?_map, Option.map_eq_some_iff] at h1
    obtain ⟨d0, hd0, rfl⟩ := h1
    exact hVf _ _ (hv k d0 v hd0 h2)
  · rintro e w' ⟨L', Hc', rx, hQ, hH', hx, hkeep, hnew, hshp, hend⟩
    obtain ⟨H2, hH2, hK⟩ := hK rx Hc' hQ
    obtain ⟨L2, hL2⟩ : ∃ L2 : Nat → Option Nat, L2 = fun p => match fwd p with | some q => L' q | none => L p := ⟨_, rfl⟩
    have hL2f : ∀ p q, fwd p = some q → L2 p = L' q := fun p q h => by rw [hL2]; simp only [h]
    have hL2n : ∀ p, fwd p = none → L2 p = L p := fun p h => by rw [hL2]; simp only [h]
    have hcase : ∀ p, (∃ q, fwd p = some q) ∨ fwd p = none := fun p => by
      cases h : fwd p with
      | none => exact .inr rfl
      | some q => exact .inl ⟨q, rfl⟩
    have hlent : ∀ p, fwd p = none → ∀ b, L p = some b → ¬ ∃ q, Lc q = some b := by
      rintro p hp b hb ⟨q, hq⟩
      obtain ⟨p', h1, h2⟩ := hLc1 q b hq
      have e := hR.heap.inj p p' b hb h2
      subst e
      rw [(hfb p q).2 h1] at hp; cases hp
    have hL2o : ∀ p b, L2 p = some b → (∃ o, L o = some b) ∨ w.heap.size ≤ b := fun p b h => by
      rcases hcase p with ⟨q, hq⟩ | hq
      · rw [hL2f p q hq] at h
        rcases hnew q b h with ⟨q', h1⟩ | h1
        · exact .inl (hown q' b h1)
        · exact .inr h1
      · rw [hL2n p hq] at h; exact .inl ⟨p, h⟩
    have hAv2 : ∀ b, Av G.S L2 b → Av Sc L' b := by
      rintro b (h | ⟨p, h⟩)
      · exact .inl (hGS b h)
      · rcases hcase p with ⟨q, hq⟩ | hq
        · rw [hL2f p q hq] at h; exact .inr ⟨q, h⟩
        · rw [hL2n p hq] at h
          refine .inl ?_
          rw [hSc]; exact ⟨.inr ⟨p, h⟩, hlent p hq b h⟩
    have hblk : ∀ b, b < w.heap.size → ¬ (∃ q, Lc q = some b) → w'.heap[b]? = w.heap[b]? := fun b hb h => hx.block b hb h
    have hVb : ∀ d v, V w' L' (Av Sc L') d v → V w' L2 (Av G.S L2) (rn back d) v := fun d v hd => hd.rn back hAv2 fun q p b h1 h2 => by
      rw [hL2f p q ((hfb p q).2 h1)]; exact h2
    have hVk : ∀ d v, V w L (Av G.S L) d v → V w' L2 (Av G.S L2) (rn (pgN H fwd) d) v := fun d v hd => by
      have h1 := hd.rn (L' := fun p => (pgN H fwd p).bind L) (A' := Av G.S L) (pgN H fwd) (fun _ h => h) (fun o p b h1 h2 => by
        have e : o = p := by
          unfold pgN at h1; split at h1
          · split at h1
            · cases h1
            · simpa using h1
          · simpa using h1
        subst e
        show (pgN H fwd o).bind L = some b
        rw [h1]; exact h2)
      refine h1.mono (fun b hb hA => ⟨hblk b hb fun h => hA ((hown _ b h.choose_spec).elim fun p h => .inr ⟨p, h⟩), ?_⟩) fun o b _ ho => ?_
      · rintro (h | ⟨p, h⟩)
        · exact hA (.inl h)
        · rcases hL2o p b h with h2 | h2
          · exact hA (.inr h2)
          · omega
      · have ho' : L o = some b ∧ (fwd o = none ∨ ∃ q, fwd o = some q ∧ 1048576 ≤ q) := by
          unfold pgN at ho
          cases hq : fwd o with
          | none => rw [hq] at ho; exact ⟨ho, .inl rfl⟩
          | some q =>
            rw [hq] at ho
            simp only at ho
            split at ho
            · cases ho
            · rename_i hc
              have hLo : L o = some b := ho
              refine ⟨hLo, .inr ⟨q, rfl, ?_⟩⟩
              obtain ⟨c, hc2⟩ := hR.heap.dom o b hLo
              rcases Nat.lt_or_ge q 1048576 with h | h
              · exact absurd ⟨h, by rw [hc2]; rfl⟩ hc
              · exact h
        refine ⟨?_, hshp b (hR.heap.lt ho'.1)⟩
        rcases ho'.2 with h | ⟨q, h, hq⟩
        · rw [hL2n o h]; exact ho'.1
        · rw [hL2f o q h]; exact hkeep q b (hLc2 o q b h ho'.1) hq
    have hRn : R G L2 (den F.vs (mapF (rn (pgN H fwd)) te) (mapF (rn (pgN H fwd)) fr)) (lkH H2) a w' := by
      refine ⟨hR.size, hR.defers, fun s => ?_, ⟨fun p b hb => ?_, fun p c hc => ?_, fun p p' b h1 h2 => ?_, fun p b hb hs => ?_, fun p b hb => ?_⟩, ⟨hx.os.trans hR.ext.os, hx.tape.trans hR.ext.tape, hx.output.trans hR.ext.output, Nat.le_trans hR.ext.size hx.size, fun k hk hS => ?_⟩, fun k hk => Nat.lt_of_lt_of_le (hR.sLt k hk) hx.size, fun p b hb => ?_, fun p b hb => ?_, fun k hk => ?_⟩
      · have := hVk _ _ (hR.slots s)
        simp only [den, lk_mapF _ (rn_undef _)] at this ⊢
        by_cases hc : F.vs.contains s = true
        · simp only [hc, if_true] at this ⊢; exact this
        · simp only [hc] at this ⊢; exact this
      · rw [hH2]
        rcases hcase p with ⟨q, hq⟩ | hq
        · rw [hL2f p q hq] at hb
          obtain ⟨c, hc⟩ := hH'.dom q b hb
          exact ⟨_, by rw [hq]; simp only [hc, Option.map_some]; rfl⟩
        · rw [hL2n p hq] at hb
          obtain ⟨c, hc⟩ := hR.heap.dom p b hb
          exact ⟨_, by rw [hq]; simp only [hc, Option.map_some]; rfl⟩
      · rw [hH2] at hc
        rcases hcase p with ⟨q, hq⟩ | hq
        · rw [hq] at hc
          simp only [Option.map_eq_some_iff] at hc
          obtain ⟨c0, h1, rfl⟩ := hc
          rcases hH'.obj q c0 h1 with ⟨h2, h3⟩ | ⟨b, cs, T, h2, h3, h4, h5⟩
          · exact .inl ⟨by rw [hL2f p q hq, h2], by rw [h3]; rfl⟩
          · refine .inr ⟨b, cs, T, by rw [hL2f p q hq, h2], h3, by simpa using h4, fun k d u hk hu => ?_⟩
            rw [List.getElem?_map, Option.map_eq_some_iff] at hk
            obtain ⟨d0, hd0, rfl⟩ := hk
            exact hVb _ _ (h5 k d0 u hd0 hu)
        · rw [hq] at hc
          simp only [Option.map_eq_some_iff] at hc
          obtain ⟨c0, h1, rfl⟩ := hc
          rcases hR.heap.obj p c0 h1 with ⟨h2, h3⟩ | ⟨b, cs, T, h2, h3, h4, h5⟩
          · exact .inl ⟨by rw [hL2n p hq, h2], by rw [h3]; rfl⟩
          · refine .inr ⟨b, cs, T, by rw [hL2n p hq, h2], (hblk b (hR.heap.lt h2) (hlent p hq b h2)).trans h3, by simpa using h4, fun k d u hk hu => ?_⟩
            rw [List.getElem?_map, Option.map_eq_some_iff] at hk
            obtain ⟨d0, hd0, rfl⟩ := hk
            exact hVk _ _ (h5 k d0 u hd0 hu)
      · have mixed : ∀ p p' q, fwd p = some q → fwd p' = none → L2 p = some b → L2 p' = some b → False := fun p p' q hq hn h1 h2 => by
          rw [hL2f p q hq] at h1
          rw [hL2n p' hn] at h2
          rcases hnew q b h1 with ⟨q', h3⟩ | h3
          · exact hlent p' hn b h2 ⟨q', h3⟩
          · have := hR.heap.lt h2; omega
        rcases hcase p with ⟨q, hq⟩ | hq <;> rcases hcase p' with ⟨q', hq'⟩ | hq'
        · rw [hL2f p q hq] at h1
          rw [hL2f p' q' hq'] at h2
          have e := hH'.inj q q' b h1 h2
          subst e
          have h3 := (hfb p q).1 hq
          rw [(hfb p' q).1 hq'] at h3
          exact (Option.some.inj h3).symm
        · exact (mixed p p' q hq hq' h1 h2).elim
        · exact (mixed p' p q' hq' hq h2 h1).elim
        · rw [hL2n p hq] at h1
          rw [hL2n p' hq'] at h2
          exact hR.heap.inj p p' b h1 h2
      · rcases hcase p with ⟨q, hq⟩ | hq
        · rw [hL2f p q hq] at hb
          exact hH'.notS q b hb (hGS b hs)
        · rw [hL2n p hq] at hb
          exact hR.heap.notS p b hb hs
      · rcases hcase p with ⟨q, hq⟩ | hq
        · rw [hL2f p q hq] at hb
          exact (hH'.ty q b hb).rn (hty p q hq).symm
        · rw [hL2n p hq] at hb
          exact (hR.heap.ty p b hb).imm_shape (hshp b (hR.heap.lt hb))
      · refine (hblk k (Nat.lt_of_lt_of_le hk hR.ext.size) ?_).trans (hR.ext.block k hk hS)
        rintro ⟨q, hq⟩
        obtain ⟨p, hp⟩ := hown q k hq
        rcases hR.own p k hp with h1 | h1
        · exact hS h1
        · omega
      · rcases hL2o p b hb with ⟨o, ho⟩ | h1
        · exact hR.own o b ho
        · exact .inr (Nat.le_trans hR.ext.size h1)
      · obtain ⟨h1, h2⟩ := hR.keep p b hb
        refine ⟨?_, h2⟩
        rcases hcase p with ⟨q, hq⟩ | hq
        · rw [hL2f p q hq]; exact hkeep q b (hLc2 p q b hq h1) (hkp p q hq h2)
        · rw [hL2n p hq]; exact h1
      · exact (hshp k (Nat.lt_of_lt_of_le hk hR.ext.size)).trans (hR.shp k hk)
    cases rx with
    | ret r =>
      obtain ⟨v, rfl, hr⟩ := hend
      exact .inl ⟨v, L2, rn back r, _, _, H2, rfl, hRn, hVb _ _ hr, hK⟩
    | pan ch =>
      obtain rfl := hend
      refine .inr ⟨ch, L2, _, H2, rfl, hRn.weak fun s => ?_, hK⟩
      simp only [den, lk]
      split
      · exact .inl rfl
      · exact .inr rfl
end Go.Dat
namespace Go.Dat
open Go
section
variable {F : FnD}
def callS (F : FnD) (dp : DOper) (f : Nat) (args : List Opd) (K : (Nat → DV) → Heap → Prop) (σ : Nat → DV) (h : Heap) : Prop :=
  ∀ (G : Cx) (L : Nat → Option Nat) (a : Act) (w : World) (us : Array Value), G.n = F.n → G.ok F.P → R G L σ h a w → us.size = args.length →
    (∀ (k : Nat) d v, (args.map (evS σ))[k]? = some d → us[k]? = some v → V w L (Av G.S L) d v) →
    Calls F.P f us w fun e w' => ∃ v L' d σ' h', e = .returned v ∧ R G L' σ' h' a w' ∧ V w' L' (Av G.S L') d v ∧ K (updS σ' dp.dst.slot d) h'
def stepX (F : FnD) (dp : DOper) (K : (Nat → DV) → Heap → Prop) (σ : Nat → DV) (h : Heap) : Prop :=
  match dp.op with
  | .call f args => (gS σ dp.guard = some true ∧ callS F dp f args K σ h) ∨ (gS σ dp.guard = some false ∧ K (updS σ dp.dst.slot (.tup [])) h)
  | _ => stepD F dp K σ h
def anyX (F : FnD) (ops : Array Oper) (ds : List DOper) (K : (Nat → DV) → Heap → Prop) : Nat → Array Bool → (Nat → DV) → Heap → Prop
  | 0, listed, σ, h => Region.ready .any ops listed = [] ∧ K σ h
  | fuel + 1, listed, σ, h => (Region.ready .any ops listed = [] → K σ h) ∧
    ∀ i ∈ Region.ready .any ops listed, ∃ x, ds[i]? = some x ∧ stepX F x (anyX F ops ds K fuel (listed.setIfInBounds i true)) σ h
def lexX (F : FnD) : List DOper → ((Nat → DV) → Heap → Prop) → (Nat → DV) → Heap → Prop
  | [], K => K
  | o :: os, K => stepX F o (lexX F os K)
theorem stepX_mono {dp : DOper} {K K' : (Nat → DV) → Heap → Prop} (hk : ∀ σ h, K σ h → K' σ h) {σ : Nat → DV} {h : Heap} (hs : stepX F dp K σ h) : stepX F dp K' σ h := by
  unfold stepX at hs ⊢
  split at hs
  · rcases hs with ⟨h1, h2⟩ | ⟨h1, h2⟩
    · refine .inl ⟨h1, fun G L a w us hn hG hR hs hv => (h2 G L a w us hn hG hR hs hv).mono ?_⟩
      rintro e w' ⟨v, L', d, σ', h', e1, e2, e3, e4⟩
      exact ⟨v, L', d, σ', h', e1, e2, e3, hk _ _ e4⟩
    · exact .inr ⟨h1, hk _ _ h2⟩
  · obtain ⟨d, ef, h1, h2⟩ := hs
    exact ⟨d, ef, h1, hk _ _ h2⟩
theorem stepX_plain {dp : DOper} (hc : dp.op.isCall = false) (K : (Nat → DV) → Heap → Prop) (σ : Nat → DV) (h : Heap) : stepX F dp K σ h = stepD F dp K σ h := by
  unfold stepX
  split
  · rename_i f args e; rw [e] at hc; cases hc
  · rfl
theorem anyX_first {ops : Array Oper} {ds : List DOper} {K : (Nat → DV) → Heap → Prop} {i : Nat} {x : DOper} (hx : ds[i]? = some x) (hxc : x.op.isCall = false) : ∀ (fuel : Nat) (listed : Array Bool) (σ : Nat → DV) (h : Heap) (di : DV) (ei : Eff),
    ClosedL ops listed → i ∈ Region.ready .any ops listed →
    (∀ j y, ds[j]? = some y → j ≠ i → listed.getD j true = false → Dep ops j i ∨ (x.apart y = true ∧ clsOK x.op.cls y.op.cls = true ∧ y.op.isCall = false)) →
    Gives F x σ h di ei → anyX F ops ds K fuel (listed.setIfInBounds i true) (updS (ei.onS σ) x.dst.slot di) (ei.onH h) → anyX F ops ds K (fuel + 1) listed σ h := by
  intro fuel
  induction fuel with
  | zero =>
    intro listed σ h di ei hc hi hap hg H
    refine ⟨fun e => (by rw [e] at hi; cases hi), fun j hj => ?_⟩
    by_cases hji : j = i
    · subst hji; exact ⟨x, hx, by rw [stepX_plain hxc]; exact ⟨di, ei, hg, H⟩⟩
    · have := ready_mono hj hji
      rw [H.1] at this; cases this
  | succ fuel ih =>
    intro listed σ h di ei hc hi hap hg H
    refine ⟨fun e => (by rw [e] at hi; cases hi), fun j hj => ?_⟩
    by_cases hji : j = i
    · subst hji; exact ⟨x, hx, by rw [stepX_plain hxc]; exact ⟨di, ei, hg, H⟩⟩
    · obtain ⟨y, hy, H'⟩ := H.2 j (ready_mono hj hji)
      obtain ⟨hjun, oj, hoj, hall⟩ := mem_ready.1 hj
      obtain ⟨hiun, _, _, _⟩ := mem_ready.1 hi
      have hnd : ¬ Dep ops j i := by
        intro hd
        have h1 := dep_listed hc hd fun o ho e he hb => by rw [hoj] at ho; cases ho; exact hall e he hb
        have h2 : listed.getD i true = true := by
          rw [Array.getD_eq_getD_getElem?] at h1 ⊢
          cases hq : listed[i]? with
          | none => rfl
          | some b => rw [hq] at h1; exact h1
        rw [hiun] at h2; cases h2
      obtain ⟨hap1, hap2, hyc⟩ := (hap j y hy hji hjun).resolve_left hnd
      rw [stepX_plain hyc] at H'
      obtain ⟨dj, ej, hgj, H'⟩ := H'
      obtain ⟨g1, g2, g3, g4⟩ := diamond hap1 hap2 hg hgj
      refine ⟨y, hy, ?_⟩
      rw [stepX_plain hyc]
      refine ⟨dj, ej, g1, ih _ _ _ di ei (hc.set hj) (ready_mono hi (Ne.symm hji)) (fun k z hz hki hun => ?_) g2 ?_⟩
      · refine hap k z hz hki ?_
        by_cases hjk : j = k
        · subst hjk; exact hjun
        · rwa [getD_set_ne true hjk] at hun
      · rw [g3, g4, Array.setIfInBounds_comm _ _ hji]
        exact H'
theorem anyX_lex {ops : Array Oper} {ds : List DOper} {K : (Nat → DV) → Heap → Prop} {deps : List (List Nat)} (hdeps : ∀ k x, x ∈ deps.getD k [] → Dep ops k x) (hlen : ds.length = ops.size) :
    ∀ (fuel k : Nat) (listed : Array Bool) (σ : Nat → DV) (h : Heap), k + fuel = ops.size → ClosedL ops listed → drawFromS ops ds deps fuel k listed = true → lexX F (ds.drop k) K σ h → anyX F ops ds K fuel listed σ h := by
  intro fuel
  induction fuel with
  | zero =>
    intro k listed σ h hk hc hd hl
    rw [List.drop_eq_nil_of_le (by omega)] at hl
    exact ⟨List.isEmpty_iff.1 hd, hl⟩
  | succ fuel ih =>
    intro k listed σ h hk hc hd hl
    simp only [drawFromS, Bool.and_eq_true, List.contains_iff_mem, List.all_eq_true, List.mem_range] at hd
    obtain ⟨⟨hr, hall⟩, hd⟩ := hd
    have hlt : k < ds.length := by omega
    rw [List.drop_eq_getElem_cons hlt] at hl
    have hother : ∀ j y, ds[j]? = some y → j ≠ k → listed.getD j true = false → Dep ops j k ∨ (ds[k].apart y = true ∧ clsOK ds[k].op.cls y.op.cls = true ∧ ds[k].op.isCall = false ∧ y.op.isCall = false) := by
      intro j y hy hjk hun
      have hjl : j < ops.size := by have := (List.getElem?_eq_some_iff.1 hy).1; omega
      have := hall j hjl
      rw [hun, List.getElem?_eq_getElem hlt, hy] at this
      simp only [Bool.or_eq_true, beq_iff_eq, Bool.false_eq_true, or_false, Bool.and_eq_true, List.contains_iff_mem, Bool.not_eq_true'] at this
      rcases this with (h1 | h1) | h1
      · exact absurd h1 hjk
      · exact .inl (hdeps _ _ h1)
      · exact .inr ⟨h1.1.1, h1.1.2, h1.2.1, h1.2.2⟩
    cases hkc : ds[k].op.isCall with
    | false =>
      simp only [lexX] at hl
      rw [stepX_plain hkc] at hl
      obtain ⟨d, ef, hg, hl⟩ := hl
      refine anyX_first (List.getElem?_eq_getElem hlt) hkc fuel listed σ h d ef hc hr (fun j y hy hjk hun => ?_) hg (ih (k + 1) _ _ _ (by omega) (hc.set hr) hd hl)
      rcases hother j y hy hjk hun with h1 | ⟨h1, h2, _, h3⟩
      · exact .inl h1
      · exact .inr ⟨h1, h2, h3⟩
    | true =>
      refine ⟨fun e => (by rw [e] at hr; cases hr), fun j hj => ?_⟩
      have hjk : j = k := by
        apply Classical.byContradiction
        intro hne
        obtain ⟨hjun, oj, hoj, hallj⟩ := mem_ready.1 hj
        obtain ⟨hiun, _, _, _⟩ := mem_ready.1 hr
        have hjl : j < ops.size := (Array.getElem?_eq_some_iff.1 hoj).1
        rcases hother j ds[j] (List.getElem?_eq_getElem (by omega)) hne hjun with h1 | ⟨_, _, h2, _⟩
        · have h1 := dep_listed hc h1 fun o ho e he hb => by rw [hoj] at ho; cases ho; exact hallj e he hb
          have h2 : listed.getD k true = true := by
            rw [Array.getD_eq_getD_getElem?] at h1 ⊢
            cases hq : listed[k]? with
            | none => rfl
            | some b => rw [hq] at h1; exact h1
          rw [hiun] at h2; cases h2
        · rw [hkc] at h2; cases h2
      subst hjk
      exact ⟨ds[j], List.getElem?_eq_getElem hlt, stepX_mono (fun σ h hk2 => ih (j + 1) _ _ _ (by omega) (hc.set hr) hd hk2) hl⟩
theorem regW_lexX (hp : F.pure = false) {K : Fr → Fr → Hp → Prop} : ∀ (ds : List DOper), ds.all (·.tags F.vs) = true → ∀ (te fr : Fr) (H : Hp), regW F ds te fr H K →
    lexX F ds (fun σ h => ∃ te fr H, σ = den F.vs te fr ∧ h = lkH H ∧ K te fr H) (den F.vs te fr) (lkH H)
  | [], _, te, fr, H, hw => ⟨te, fr, H, rfl, rfl, hw⟩
  | o :: os, ht, te, fr, H, hw => by
    simp only [List.all_cons, Bool.and_eq_true] at ht
    obtain ⟨ht, hts⟩ := ht
    simp only [DOper.tags, Bool.and_eq_true] at ht
    obtain ⟨⟨t1, t2⟩, t3⟩ := ht
    have ih := regW_lexX hp (K := K) os hts
    have hd := dst_tag t1
    have skip : gS (den F.vs te fr) o.guard = some false → regW F os (o.dst.onT te (.tup [])) (o.dst.onX fr (.tup [])) H K → lexX F (o :: os) (fun σ h => ∃ te fr H, σ = den F.vs te fr ∧ h = lkH H ∧ K te fr H) (den F.vs te fr) (lkH H) := fun hg hw =>
      (show lexX F (o :: os) (fun σ h => ∃ te fr H, σ = den F.vs te fr ∧ h = lkH H ∧ K te fr H) (den F.vs te fr) (lkH H) from by
        have := ih _ _ _ hw
        rw [hd, den_put] at this
        show stepX F o _ _ _
        unfold stepX
        rw [hd, sDst_slot]
        split
        · exact .inr ⟨hg, this⟩
        · exact ⟨.tup [], .no, ⟨.inr ⟨hg, rfl, rfl⟩⟩, by rw [hd, sDst_slot]; exact this⟩)
    have hev : ∀ p ∈ o.op.opds, ev te fr p = evS (den F.vs te fr) p := fun p hp => ev_tag (List.all_eq_true.1 t2 p hp)
    have go : gS (den F.vs te fr) o.guard = some true → (match o.op with
      | .call f args => callR F f (args.map (ev te fr)) te fr H fun d te' fr' H' => regW F os (o.dst.onT te' d) (o.dst.onX fr' d) H' K
      | p => OW (opE F.nb o.dst.slot (ev te fr) (lkH H) p) fun r => regW F os (o.dst.onT (r.2.onF te) r.1) (o.dst.onX (r.2.onF fr) r.1) (r.2.onL H) K) → lexX F (o :: os) (fun σ h => ∃ te fr H, σ = den F.vs te fr ∧ h = lkH H ∧ K te fr H) (den F.vs te fr) (lkH H) := fun hg hw =>
      (show lexX F (o :: os) (fun σ h => ∃ te fr H, σ = den F.vs te fr ∧ h = lkH H ∧ K te fr H) (den F.vs te fr) (lkH H) from by
        have plain : OW (opE F.nb o.dst.slot (ev te fr) (lkH H) o.op) (fun r => regW F os (o.dst.onT (r.2.onF te) r.1) (o.dst.onX (r.2.onF fr) r.1) (r.2.onL H) K) →
            ((∀ f args, o.op ≠ .call f args)) → lexX F (o :: os) (fun σ h => ∃ te fr H, σ = den F.vs te fr ∧ h = lkH H ∧ K te fr H) (den F.vs te fr) (lkH H) := by
          rintro ⟨⟨d, ef⟩, he, hk⟩ hnc
          show stepX F o _ _ _
          unfold stepX
          split
          · rename_i f args e; exact absurd e (hnc f args)
          refine ⟨d, ef, ⟨.inl ⟨hg, ?_⟩⟩, ?_⟩
          · rw [opE_congr hev] at he
            unfold goD
            cases hop : o.op with
            | call f args => exact absurd hop (hnc f args)
            | _ => rw [hop] at he; exact he
          · have := ih _ _ _ hk
            rw [hd, den_put, den_onF, lkH_onL] at this
            rw [hd, sDst_slot]
            exact this
        cases hop : o.op with
        | call f args =>
          rw [hop] at hw
          simp only [callR, hp, Bool.false_eq_true, if_false] at hw
          rw [hop] at hev
          have hm : args.map (ev te fr) = args.map (evS (den F.vs te fr)) := List.map_congr_left fun p hp => hev p hp
          rw [hm] at hw
          show stepX F o _ _ _
          unfold stepX
          rw [hop]
          refine .inl ⟨hg, fun G L a w us hn hG hR hs hv => ?_⟩
          refine (hw G L a w us hG hR (by simpa using hs) hv).mono ?_
          rintro e w' ⟨v, L', d, te', fr', H', rfl, hR', hV, hk⟩
          refine ⟨v, L', d, _, _, rfl, hR', hV, ?_⟩
          have := ih _ _ _ hk
          rw [hd, den_put] at this
          rw [hd, sDst_slot]
          exact this
        | _ =>
          rw [hop] at hw
          exact plain (by rw [hop]; exact hw) (by rw [hop]; intro f args e; cases e))
    simp only [regW] at hw
    cases hgu : o.guard with
    | none =>
      rw [hgu] at hw
      exact go (by rw [hgu]; rfl) hw
    | some p =>
      obtain ⟨g, want⟩ := p
      rw [hgu] at hw t3
      have hgv := ev_tag (te := te) (fr := fr) t3
      simp only at hw
      split at hw
      · rename_i b hb
        rw [hgv] at hb
        by_cases hbw : b = want
        · exact go (by rw [hgu]; simp only [gS, hb]; simp [hbw]) (hw.1 hbw)
        · exact skip (by rw [hgu]; simp only [gS, hb]; simp [hbw]) (hw.2 (by clear hw; cases b <;> cases want <;> first | rfl | exact absurd rfl hbw))
      · rename_i hb
        rw [hgv] at hb
        exact skip (by rw [hgu]; simp only [gS, hb]) hw
      · exact hw.elim
end
section
variable {F : FnD} {G : Cx}
theorem anyX_sound {ops : Array Oper} {ds : List DOper} {Q : Exit → Act → World → Prop} {K : (Nat → DV) → Heap → Prop} (hn : G.n = F.n ∧ G.ok F.P) (hs : sOpers F.P F.vs F.own F.n ops ops.toList = some ds)
    (hK : ∀ σ h L a w, R G L σ h a w → K σ h → Q .normal a w) : ∀ (fuel : Nat) (listed : Array Bool) (σ : Nat → DV) (h : Heap) (L : Nat → Option Nat) (a : Act) (w : World), R G L σ h a w →
      anyX F ops ds K fuel listed σ h → wpAny F.P .any ops Q fuel listed a w := by
  intro fuel
  induction fuel with
  | zero => intro listed σ h L a w hR hA; exact ⟨hA.1, hK _ _ _ _ _ hR hA.2⟩
  | succ fuel ih =>
    intro listed σ h L a w hR hA
    refine ⟨fun e => hK _ _ _ _ _ hR (hA.1 e), fun i hi => ?_⟩
    obtain ⟨x, hx, hA'⟩ := hA.2 i hi
    obtain ⟨_, o, ho, _⟩ := mem_ready.1 hi
    obtain ⟨dp, hdp, hso⟩ := (sOpers_get _ _ hs).2 i o (by simpa using ho)
    rw [hx] at hdp; cases hdp
    have hgd : sGuard F.vs ops o.guard = some x.guard ∧ x.dst = sDst F.vs o.dst ∧ ∀ k, o.dst = some k → k < F.n := by
      simp only [sOper, Option.bind_eq_some_iff] at hso
      obtain ⟨p, hp, g, hg', hs⟩ := hso
      split at hs
      · rename_i hd; cases hs; exact ⟨hg', rfl, dst_lt hd⟩
      · cases hs
    obtain ⟨hgu, hdst, hdl⟩ := hgd
    simp only [wpOp, ho]
    have hskip : anyX F ops ds K fuel (listed.setIfInBounds i true) (updS σ x.dst.slot (.tup [])) h → wpAny F.P .any ops Q fuel (listed.setIfInBounds i true) (a.put o.dst undef) w := fun h2 => by
      rw [hdst, sDst_slot] at h2
      exact ih _ _ _ L _ w (hR.put V_undef (by rw [hn.1]; exact hdl)) h2
    unfold stepX at hA'
    split at hA'
    · rename_i f args hop
      rcases hA' with ⟨h1, h2⟩ | ⟨h1, h2⟩
      · rw [wantedS hR hgu h1, if_pos rfl]
        refine .inl ?_
        obtain ⟨odst, op, ty, pos, after, guard⟩ := o
        obtain ⟨xdst, xop, xguard⟩ := x
        simp only [sOper, Option.bind_eq_some_iff] at hso
        obtain ⟨p, hp, g, hg', hs2⟩ := hso
        split at hs2
        · simp only [Option.some.injEq, DOper.mk.injEq] at hs2
          obtain ⟨_, rfl, _⟩ := hs2
          simp only at hop hdst
          subst hop
          subst hdst
          obtain ⟨c, fn, rfl, hcal, hfn, hbody, hname, rfl⟩ := sOp_call hp
          obtain ⟨callee, cargs, argTypes⟩ := c
          simp only at hcal h2
          subst hcal
          have hE : EV F.vs (evS σ) w L (Av G.S L) a := fun x => ev_V hR x
          have hcall := h2 G L a w (cargs.map a.eval) hn.1 hn.2 hR (by simp) (fun k d v h1 h2 => by
            simp only [List.map_map, List.getElem?_map, Array.getElem?_toList, Option.map_eq_some_iff] at h1
            simp only [Array.getElem?_map, Option.map_eq_some_iff] at h2
            obtain ⟨x, hx, rfl⟩ := h1
            obtain ⟨y, hy, rfl⟩ := h2
            rw [hx] at hy; cases hy
            exact hE x)
          have hr : (execOp a.eval ⟨odst, .call { callee := .value (.func f), args := cargs, argTypes := argTypes }, ty, pos, after, guard⟩).run F.P w = .ok (.enter f (cargs.map a.eval)) w := by
            have hb : ¬ fn.body = none := by intro e; rw [e] at hbody; cases hbody
            have hnm : ¬ fn.name = "runtime.NumGoroutine" := by simpa using hname
            simp [execOp, resolve, Act.eval, Deferred.ofValue, invoke, callFunc, hfn, hnm, hb]
          unfold Oper.wp
          rw [hr]
          refine hcall.mono ?_
          rintro e w' ⟨v, L', d, σ', h', rfl, hR2, hv, hk⟩
          have hput := hR2.put hv (dst := odst) (by rw [hn.1]; exact hdl)
          rw [sDst_slot] at hk
          exact ih _ _ _ L' _ w' hput hk
        · cases hs2
      · rw [wantedS hR hgu h1, if_neg (by simp)]
        exact hskip h2
    · obtain ⟨d, ef, hg, hA'⟩ := hA'
      rcases hg.out with ⟨h1, h2⟩ | ⟨h1, rfl, rfl⟩
      · rw [wantedS hR hgu h1, if_pos rfl]
        exact .inl (oper_soundS hso hn hR h2 fun L a w hR' => ih _ _ _ L a w hR' hA')
      · rw [wantedS hR hgu h1, if_neg (by simp)]
        exact hskip hA'
theorem W_regs {Q : Ex → Fr → Hp → Prop} {fr : Fr} {H : Hp} {ds : List DOper} (hw : regW F ds [] fr H fun _ fr H => Q .norm fr H) (hp : F.pure = false := by rfl) : W F (.regs ds) Q fr H := by
  intro code hc G L a w hn hR
  cases code <;> simp only [strip] at hc <;> first | (cases hc; done) | skip
  rename_i id ops draw
  split at hc
  · rename_i ds' hds
    split at hc
    · rename_i hd
      subst hd
      split at hc
      · rename_i hok
        cases hc
        simp only [drawOKs, Bool.and_eq_true] at hok
        obtain ⟨⟨_, ⟨⟨_, htags⟩, hdf⟩⟩, hm⟩ := hok
        refine wp_region_any hm ?_
        have hlen : ds.length = ops.size := by rw [(sOpers_get _ _ hds).1]; simp
        have hlex := regW_lexX (F := F) hp ds htags [] fr H hw
        have hany : anyX F ops ds (fun σ h => ∃ te fr' H', σ = den F.vs te fr' ∧ h = lkH H' ∧ Q .norm fr' H') ops.size (Array.replicate ops.size false) (den F.vs [] fr) (lkH H) := by
          refine anyX_lex (deps := depsAll ops.toList []) (fun k x hx => ?_) hlen ops.size 0 _ _ _ (by omega) ?_ hdf hlex
          · exact depsAll_sound ops.toList [] (fun j => by simp) (fun k x hx => by simp at hx) k x hx
          · intro j o hj _ e _ _
            simp [Array.getD_eq_getD_getElem?, Array.getElem?_replicate] at hj
            split at hj <;> simp at hj
        refine anyX_sound (F := F) (G := G) (K := fun σ h => ∃ te fr' H', σ = den F.vs te fr' ∧ h = lkH H' ∧ Q .norm fr' H') hn hds ?_ ops.size _ _ _ L a _ (hR.still (w' := { w with drawn := w.drawn + 1 }) ⟨rfl, rfl, rfl, Nat.le_refl _, fun _ _ _ => rfl⟩) hany
        rintro σ h L a w hR' ⟨te, fr', H', rfl, rfl, hk⟩
        refine ⟨L, fr', H', .norm, hR'.weak fun s => ?_, rfl, hk⟩
        simp only [den, lk]
        split
        · exact .inl rfl
        · exact .inr rfl
      · split at hc <;> cases hc
    · cases hc
  · cases hc
end
end Go.Dat
namespace Go.Dat
open Go
def DV.flat1 : DV → Bool
  | .undef | .int .. | .bool _ | .str _ | .nilp | .nils | .nili | .fn _ => true
  | _ => false
theorem VI.flat1 {w w' : World} {A A' : Nat → Prop} {d : DV} {v : Value} (h : VI w A d v) (hf : d.flat1 = true) : VI w' A' d v := by
  cases h <;> first | (simp [DV.flat1] at hf; done) | constructor
def elo (o : Nat) (xs : List DV) : DV → DV
  | .ptr p off => if p = o then .el xs off else .undef
  | d => if d.rf then d else .undef
def rfc (cells : List DV) : List DV := cells.map fun d => if d.rf then d else .undef
theorem callC_read {F : FnD} {os : List DOper} {dst : Dst} {f : Nat} {ds : List DV} {te fr : Fr} {H : Hp} {K : Fr → Fr → Hp → Prop} (hp : F.pure = false) (o : Nat) {cells args : List DV} {r : DV} (hc : PCalls F.P f args r)
    (ho : lkH H o = some cells) (hne : cells ≠ []) (ha : ds.map (elo o (rfc cells)) = args) (hr : r.flat1 = true) (hK : regW F os (dst.onT te r) (dst.onX fr r) H K) : callC F os dst f ds te fr H K := by
  subst ha
  refine callC_W hp ?_
  intro G L a w us hG hR hs hv
  have hob := hR.heap.obj o cells ho
  rcases hob with ⟨_, h2⟩ | ⟨b, cs, T, hL, hb, hl, hcv⟩
  · exact absurd h2 hne
  have hA : ∀ x, (Av G.S L x ∧ x ≠ b) → x < w.heap.size := by
    rintro x ⟨h | ⟨p, h⟩, _⟩
    · exact hR.sLt x h
    · exact hR.heap.lt h
  have hmono : ∀ {d : DV} {v : Value}, VI w (Av G.S L) d v → VI w (fun x => Av G.S L x ∧ x ≠ b) d v := fun h => h.mono fun x _ hx => ⟨rfl, fun h2 => hx h2.1⟩
  have hrf : ∀ (d : DV) (v : Value), V w L (Av G.S L) d v → VI w (fun x => Av G.S L x ∧ x ≠ b) (if d.rf = true then d else .undef) v := fun d v h => by
    split
    · rename_i h1; exact hmono (h.rf_imm h1)
    · exact .undef _
  refine (hc (fun x => Av G.S L x ∧ x ≠ b) w us (hG.tab hR) hA (by simpa using hs) fun k d v h1 h2 => ?_).mono ?_
  · rw [List.getElem?_map, Option.map_eq_some_iff] at h1
    obtain ⟨d0, hd0, rfl⟩ := h1
    have hv0 := hv k d0 v hd0 h2
    cases d0 with
    | ptr p off =>
      simp only [elo]
      split
      · rename_i e
        subst e
        obtain ⟨b', hL', rfl⟩ := hv0.inv_ptr
        rw [hL] at hL'; cases hL'
        have hlen : (rfc cells).length = cells.length := by unfold rfc; simp
        have hget : ∀ (k : Nat) d, (rfc cells)[k]? = some d → ∃ d0 u, cells[k]? = some d0 ∧ cs[k]? = some u ∧ d = if d0.rf = true then d0 else .undef := fun k d hk => by
          unfold rfc at hk
          rw [List.getElem?_map, Option.map_eq_some_iff] at hk
          obtain ⟨d0, h3, rfl⟩ := hk
          obtain ⟨u, hu⟩ := exists_aget (l := cs) (k := k) (by have := (List.getElem?_eq_some_iff.1 h3).1; omega)
          exact ⟨d0, u, h3, hu, rfl⟩
        have := VI.el (w := w) (A := fun x => Av G.S L x ∧ x ≠ b) (xs := rfc cells) (i := off) (ad := ⟨b, 0, none⟩) (fun k => (cs[k]?).getD Go.undef) (fun e => hne (List.eq_nil_of_length_eq_zero (by rw [← hlen, e]; rfl))) (fun h => h.2 rfl)
          (fun k d hk => by
            obtain ⟨d0, u, _, hu, _⟩ := hget k d hk
            rw [add_lit, Nat.zero_add, cell_of_row w b k cs T (0, 0) hb, hu]; rfl)
          (fun k d hk => by
            obtain ⟨d0, u, h3, hu, rfl⟩ := hget k d hk
            rw [hu]
            exact hrf d0 u (hcv k d0 u h3 hu))
        rwa [add_lit, Nat.zero_add] at this
      · exact .undef _
    | _ => exact hrf _ v hv0
  · rintro e w' ⟨v, rfl, hvi, hx⟩
    exact ⟨v, L, r, te, fr, H, rfl, hR.still hx, .imm (hvi.flat1 hr), hK⟩
mutual
theorem rn_has (f : Nat → Option Nat) (q : Nat) (hf : ∀ o, o ≠ q → f o = some o) : ∀ d : DV, d.has q = false → rn f d = d
  | .ptr o off, h => by
    have : o ≠ q := by simpa [DV.has] using h
    rw [rn, hf o this]
  | .osl sz o off n, h => by
    have : o ≠ q := by simpa [DV.has] using h
    rw [rn, hf o this]
  | .agg cs, h => by rw [DV.has] at h; rw [rn, rnL_has f q hf cs h]
  | .tup cs, h => by rw [DV.has] at h; rw [rn, rnL_has f q hf cs h]
  | .undef, _ => by rw [rn] <;> (intros; contradiction)
  | .int .., _ => by rw [rn] <;> (intros; contradiction)
  | .bool _, _ => by rw [rn] <;> (intros; contradiction)
  | .str _, _ => by rw [rn] <;> (intros; contradiction)
  | .nilp, _ => by rw [rn] <;> (intros; contradiction)
  | .nils, _ => by rw [rn] <;> (intros; contradiction)
  | .nili, _ => by rw [rn] <;> (intros; contradiction)
  | .fn _, _ => by rw [rn] <;> (intros; contradiction)
  | .sl .., _ => by rw [rn] <;> (intros; contradiction)
  | .el .., _ => by rw [rn] <;> (intros; contradiction)
  | .iface .., _ => by rw [rn] <;> (intros; contradiction)
theorem rnL_has (f : Nat → Option Nat) (q : Nat) (hf : ∀ o, o ≠ q → f o = some o) : ∀ cs : List DV, DV.hasL q cs = false → rnL f cs = cs
  | [], _ => rfl
  | d :: r, h => by
    rw [DV.hasL, Bool.or_eq_false_iff] at h
    rw [rnL, rn_has f q hf d h.1, rnL_has f q hf r h.2]
end
theorem map_has (f : Nat → Option Nat) (q : Nat) (hf : ∀ o, o ≠ q → f o = some o) {cs : List DV} (h : ∀ d ∈ cs, d.has q = false) : cs.map (rn f) = cs := by
  conv => rhs; rw [← List.map_id cs]
  exact List.map_congr_left fun d hd => rn_has f q hf d (h d hd)
theorem mapF_has (f : Nat → Option Nat) (q : Nat) (hf : ∀ o, o ≠ q → f o = some o) : ∀ fr : Fr, fr.all (fun p => !p.2.has q) = true → mapF (rn f) fr = fr
  | [], _ => rfl
  | (k, d) :: r, h => by
    simp only [List.all_cons, Bool.and_eq_true, Bool.not_eq_true'] at h
    rw [mapF, rn_has f q hf d h.1, mapF_has f q hf r h.2]
def fw2 (o o2 q q2 p : Nat) : Option Nat := if p = o then some o2 else if p = q then some q2 else none
theorem fw2_fb {o o2 q q2 : Nat} (h : o ≠ q) (h2 : o2 ≠ q2) (p r : Nat) : fw2 o o2 q q2 p = some r ↔ fw2 o2 o q2 q r = some p := by
  unfold fw2
  constructor
  · intro e
    split at e
    · cases e; subst p; rw [if_pos rfl]
    · split at e
      · cases e; subst p; rw [if_neg (Ne.symm h2), if_pos rfl]
      · cases e
  · intro e
    split at e
    · cases e; subst r; rw [if_pos rfl]
    · split at e
      · cases e; subst r; rw [if_neg (Ne.symm h), if_pos rfl]
      · cases e
theorem pgN_fw2 (H : Hp) {o o2 q q2 : Nat} (h2 : 1048576 ≤ o2) (p : Nat) (hp : p ≠ q) : pgN H (fw2 o o2 q q2) p = some p := by
  unfold pgN fw2
  by_cases e : p = o
  · rw [if_pos e]; simp only; rw [if_neg (by omega)]
  · rw [if_neg e, if_neg hp]
def BH (N M : Nat) (c0 : DV) (l : List UInt8) : Hp := [(M, bys l), (N, [c0, .osl 1 M 0 l.length])]
def BCalls (P : Program) (N M f : Nat) (args : List DV) (l : List UInt8) (r : DV) (l' : List UInt8) : Prop :=
  ∀ c0, c0 = .nilp ∨ c0 = .ptr N 0 → MRel P f (.ptr N 0 :: args) (BH N M c0 l) fun r' H' => r' = r ∧ H' = BH N M (.ptr N 0) l'
theorem bys_rf (l : List UInt8) : ∀ d ∈ bys l, d.rf = true := fun d hd => by
  unfold bys at hd
  obtain ⟨b, _, rfl⟩ := List.mem_map.1 hd
  rfl
theorem lkH_BH {N M : Nat} (hN : N ≠ M) (c0 : DV) (l : List UInt8) (q : Nat) : lkH (BH N M c0 l) q = if q = N then some [c0, .osl 1 M 0 l.length] else if q = M then some (bys l) else none := by
  unfold BH
  rw [lkH_two]
  by_cases e : q = N
  · subst e; rw [if_neg (Ne.symm hN), if_pos rfl, if_pos rfl]
  · rw [if_neg e]
    by_cases e2 : q = M
    · rw [if_pos e2.symm, if_pos e2]
    · rw [if_neg (Ne.symm e2), if_neg (Ne.symm e), if_neg e2]
theorem callC_bld {F : FnD} {os : List DOper} {dst : Dst} {f : Nat} {args : List DV} {te fr : Fr} {H : Hp} {K : Fr → Fr → Hp → Prop} (N q : Nat) {l l' : List UInt8} {r c0 : DV} (hc : BCalls F.P N q f args l r l') (hp : F.pure = false)
    (h0 : lkH H N = some [c0, .osl 1 q 0 l.length]) (h1 : lkH H q = some (bys l)) (h2 : c0 = .nilp ∨ c0 = .ptr N 0) (hN : 2097152 ≤ N) (hq : q < 1048576) (ha : ∀ d ∈ args, d.rf = true) (hr : r.rf = true)
    (hte : te.all (fun p => !p.2.has q) = true) (hfr : fr.all (fun p => !p.2.has q) = true) (hH : ∀ p c, p ≠ N → p ≠ q → lkH H p = some c → ∀ d ∈ c, d.has q = false)
    (hK : regW F os (dst.onT te r) (dst.onX fr r) (setH (setH H N [.ptr N 0, .osl 1 q 0 l'.length]) q (bys l')) K) : callC F os dst f (.ptr N 0 :: args) te fr H K := by
  have hNq : N ≠ q := by omega
  have hpg : ∀ o, o ≠ q → pgN H (fw2 N N q q) o = some o := fun o ho => pgN_fw2 H (by omega) o ho
  have fN : fw2 N N q q N = some N := by unfold fw2; rw [if_pos rfl]
  have fq : fw2 N N q q q = some q := by unfold fw2; rw [if_neg (Ne.symm hNq), if_pos rfl]
  have fn : ∀ p, p ≠ N → p ≠ q → fw2 N N q q p = none := fun p h1 h2 => by unfold fw2; rw [if_neg h1, if_neg h2]
  refine callC_rel hp (fw2 N N q q) (fw2 N N q q) (fw2_fb hNq hNq) (fun p r h hh => ?_) (fun p r h => ?_) (Hc := BH N q c0 l) (fun r => ?_) ?_ ?_ (Q := fun r' H' => r' = r ∧ H' = BH N q (.ptr N 0) l')
  · unfold fw2 at h; split at h
    · cases h; omega
    · split at h
      · omega
      · cases h
  · unfold fw2 at h; split at h
    · rename_i e; cases h; rw [e]; exact tyEq_refl _
    · split at h
      · rename_i e; cases h; rw [e]; exact tyEq_refl _
      · cases h
  · rw [lkH_BH hNq]
    by_cases e : r = N
    · subst e
      rw [if_pos rfl, fN, Option.bind_some, h0]
      simp only [Option.map_some, List.map_cons, List.map_nil, Option.some.injEq, List.cons.injEq, and_true]
      refine ⟨?_, by rw [rn, fq]⟩
      rcases h2 with rfl | rfl
      · rw [rn] <;> (intros; contradiction)
      · rw [rn, fN]
    · rw [if_neg e]
      by_cases e2 : r = q
      · subst e2
        rw [if_pos rfl, fq, Option.bind_some, h1, Option.map_some, map_rf _ (bys_rf l)]
      · rw [if_neg e2, fn r e e2, Option.bind_none]
  · simp only [List.map_cons]
    rw [rn, fN, map_rf _ ha]
    exact hc c0 h2
  · rintro r' Hc' ⟨rfl, rfl⟩
    refine ⟨setH (setH H N [.ptr N 0, .osl 1 q 0 l'.length]) q (bys l'), fun p => ?_, ?_⟩
    · rw [lkH_setH, lkH_setH]
      by_cases e : p = q
      · subst e
        rw [if_pos rfl, fq]
        simp only
        rw [lkH_BH hNq, if_neg (Ne.symm hNq), if_pos rfl, Option.map_some, map_rf _ (bys_rf l')]
      · rw [if_neg e]
        by_cases e2 : p = N
        · subst e2
          rw [if_pos rfl, fN]
          simp only
          rw [lkH_BH hNq, if_pos rfl]
          simp only [Option.map_some, List.map_cons, List.map_nil]
          rw [rn, rn, fN, fq]
        · rw [if_neg e2, fn p e2 e]
          simp only
          cases hl : lkH H p with
          | none => rfl
          | some c => simp only [Option.map_some, Option.some.injEq]; exact (map_has _ q hpg (hH p c e2 e hl)).symm
    · rw [mapF_has _ q hpg te hte, mapF_has _ q hpg fr hfr, rn_rf _ r' hr]
      exact hK
theorem RetB {N M : Nat} (hNM : N ≠ M) {rv : List RV} {fr : Fr} {H : Hp} {c0 r : DV} {l l' : List UInt8} {ds : List DV} (hd : resDs fr H rv = some ds) (he : oneOf ds = r) (hr : r.rf = true) (h0 : lkH H N = some [.ptr N 0, .osl 1 M 0 l'.length]) (h1 : lkH H M = some (bys l')) :
    RetPR rv (BH N M c0 l) (fun r' H' => r' = r ∧ H' = BH N M (.ptr N 0) l') .ret fr H := by
  have eN : nmH (BH N M (.ptr N 0) l') N = some N := by unfold nmH; rw [lkH_BH hNM, if_pos rfl]; rfl
  have eM : nmH (BH N M (.ptr N 0) l') M = some M := by unfold nmH; rw [lkH_BH hNM, if_neg (Ne.symm hNM), if_pos rfl]; rfl
  refine ⟨.inr rfl, ds, r, BH N M (.ptr N 0) l', ⟨rfl, rfl⟩, fun o _ h => ?_, hd, by rw [he, rn_rf _ r hr], fun o c h => ?_⟩
  · rw [lkH_BH hNM] at h ⊢
    split
    · rfl
    · rename_i e
      rw [if_neg e] at h
      split
      · rfl
      · rename_i e2; rw [if_neg e2] at h; cases h
  · rw [lkH_BH hNM] at h
    split at h
    · rename_i e
      subst e
      cases h
      refine ⟨_, h0, ?_⟩
      simp only [List.map_cons, List.map_nil]
      rw [rn, rn, eN, eM]
    · split at h
      · rename_i e
        subst e
        cases h
        exact ⟨_, h1, map_rf _ (bys_rf l')⟩
      · cases h
def RH (T : List UInt8) (d : Int) (i : Int) (n : Nat) (rs : List DV) : Hp := [(1048576, [.str T, .int .u8 d, .int .i64 i, .osl 1 1048577 0 n]), (1048577, rs)]
theorem callX_rd {F : FnD} {f : Nat} {te fr : Fr} {H : Hp} {K : DV → Fr → Fr → Hp → Prop} {E : List PanicEntry → Fr → Hp → Prop} (q : Nat) {T : List UInt8} {d i : Int} {n : Nat} {rs : List DV} {Q : RX → Int → Prop}
    (hc : MX F.P f [.ptr 1048576 0] (RH T d i n rs) fun rx H' => ∃ j, H' = RH T d j n rs ∧ Q rx j) (hq : q < 1048576) (hqt : tyNo q) (h0 : lkH H 1048576 = some [.str T, .int .u8 d, .int .i64 i, .osl 1 q 0 n]) (h1 : lkH H q = some rs) (hrs : ∀ x ∈ rs, x.rf = true)
    (hK : ∀ r j, Q (.ret r) j → r.rf = true ∧ K r te fr (setH H 1048576 [.str T, .int .u8 d, .int .i64 j, .osl 1 q 0 n])) (hE : ∀ ch j, Q (.pan ch) j → E ch fr (setH H 1048576 [.str T, .int .u8 d, .int .i64 j, .osl 1 q 0 n])) :
    callX F.P F.vs f [.ptr 1048576 0] te fr H K E := by
  have hne : (1048576 : Nat) ≠ q := by omega
  have hpg : ∀ o, pgN H (fw2 1048576 1048576 q 1048577) o = some o := fun o => by
    unfold pgN fw2
    by_cases e : o = 1048576
    · rw [if_pos e]; simp only; rw [if_neg (by omega)]
    · rw [if_neg e]
      by_cases e2 : o = q
      · rw [if_pos e2]; simp only; rw [if_neg (by omega)]
      · rw [if_neg e2]
  have fN : fw2 1048576 1048576 q 1048577 1048576 = some 1048576 := by unfold fw2; rw [if_pos rfl]
  have fq : fw2 1048576 1048576 q 1048577 q = some 1048577 := by unfold fw2; rw [if_neg (Ne.symm hne), if_pos rfl]
  have bN : fw2 1048576 1048576 1048577 q 1048576 = some 1048576 := by unfold fw2; rw [if_pos rfl]
  have bq : fw2 1048576 1048576 1048577 q 1048577 = some q := by unfold fw2; rw [if_neg (by decide), if_pos rfl]
  have hsame : ∀ j, ∀ p, lkH (setH H 1048576 [.str T, .int .u8 d, .int .i64 j, .osl 1 q 0 n]) p = match fw2 1048576 1048576 q 1048577 p with | some r => (lkH (RH T d j n rs) r).map (List.map (rn (fw2 1048576 1048576 1048577 q))) | none => (lkH H p).map (List.map (rn (pgN H (fw2 1048576 1048576 q 1048577)))) := fun j p => by
    rw [lkH_setH]
    by_cases e : p = 1048576
    · subst e
      rw [if_pos rfl, fN]
      simp only [RH, lkH_two, if_true, Option.map_some, List.map_cons, List.map_nil]
      rw [rn_rf _ (.str T) rfl, rn_rf _ (.int .u8 d) rfl, rn_rf _ (.int .i64 j) rfl, rn, bq]
    · rw [if_neg e]
      by_cases e2 : p = q
      · subst e2
        rw [fq]
        simp only [RH, lkH_two]
        rw [if_neg (by decide), if_pos trivial, h1, Option.map_some, map_rf _ hrs]
      · have : fw2 1048576 1048576 q 1048577 p = none := by unfold fw2; rw [if_neg e, if_neg e2]
        rw [this]
        exact lk_id hpg p
  refine callX_rel (fw2 1048576 1048576 q 1048577) (fw2 1048576 1048576 1048577 q) (fw2_fb hne (by decide)) (fun p r h _ => ?_) (fun p r h => ?_) (Hc := RH T d i n rs) (fun r => ?_) (by rw [List.map_cons, List.map_nil, rn, fN]; exact hc) ?_
  · unfold fw2 at h; split at h
    · cases h; omega
    · split at h
      · cases h; omega
      · cases h
  · unfold fw2 at h; split at h
    · rename_i e; cases h; rw [e]; exact tyEq_refl _
    · split at h
      · rename_i e; cases h; rw [e]; exact hqt.eq (by decide)
      · cases h
  · simp only [RH, lkH_two]
    by_cases e : r = 1048576
    · subst e
      rw [if_pos rfl, bN, Option.bind_some, h0]
      simp only [Option.map_some, List.map_cons, List.map_nil]
      rw [rn_rf _ (.str T) rfl, rn_rf _ (.int .u8 d) rfl, rn_rf _ (.int .i64 i) rfl, rn, fq]
    · rw [if_neg (Ne.symm e)]
      by_cases e2 : r = 1048577
      · subst e2
        rw [if_pos rfl, bq, Option.bind_some, h1, Option.map_some, map_rf _ hrs]
      · rw [if_neg (Ne.symm e2)]
        have : fw2 1048576 1048576 1048577 q r = none := by unfold fw2; rw [if_neg e, if_neg e2]
        rw [this, Option.bind_none]
  · rintro rx Hc' ⟨j, rfl, hQ⟩
    refine ⟨_, hsame j, ?_⟩
    cases rx with
    | ret r =>
      obtain ⟨h3, h4⟩ := hK r j hQ
      simp only
      rw [mapF_id hpg, mapF_id hpg, rn_rf _ r h3]
      exact h4
    | pan ch =>
      simp only
      rw [mapF_id hpg]
      exact hE ch j hQ
end Go.Dat
namespace Go.Dat
open Go
def delH : Hp → Nat → Hp
  | [], _ => []
  | (k, c) :: r, q => if k = q then delH r q else (k, c) :: delH r q
theorem lkH_delH : ∀ (H : Hp) (q p : Nat), lkH (delH H q) p = if p = q then none else lkH H p
  | [], q, p => by simp [delH, lkH]
  | (k, c) :: r, q, p => by
    simp only [delH]
    by_cases e : k = q
    · rw [if_pos e, lkH_delH r q p]
      by_cases e2 : p = q
      · rw [if_pos e2, if_pos e2]
      · rw [if_neg e2, if_neg e2]
        simp only [lkH]
        rw [if_neg (fun h => e2 (h.symm.trans e))]
    · rw [if_neg e]
      simp only [lkH, lkH_delH r q p]
      by_cases e2 : k = p
      · rw [if_pos e2, if_pos e2, if_neg (fun h => e (e2.trans h))]
      · rw [if_neg e2, if_neg e2]
theorem callC_bstr {F : FnD} {os : List DOper} {dst : Dst} {f : Nat} {te fr : Fr} {H : Hp} {K : Fr → Fr → Hp → Prop} (N q : Nat) {l : List UInt8} {c0 : DV} (hc : MRel F.P f [.ptr N 0] (BH N q c0 l) fun r H' => r = .str l ∧ H' = [(N, [.undef, .undef])]) (hp : F.pure = false)
    (h0 : lkH H N = some [c0, .osl 1 q 0 l.length]) (h1 : lkH H q = some (bys l)) (h2 : c0 = .nilp ∨ c0 = .ptr N 0) (hN : 2097152 ≤ N) (hq : q < 1048576)
    (hte : te.all (fun p => !p.2.has q) = true) (hfr : fr.all (fun p => !p.2.has q) = true) (hH : ∀ p c, p ≠ N → p ≠ q → lkH H p = some c → ∀ d ∈ c, d.has q = false)
    (hK : regW F os (dst.onT te (.str l)) (dst.onX fr (.str l)) (setH (delH H q) N [.undef, .undef]) K) : callC F os dst f [.ptr N 0] te fr H K := by
  have hNq : N ≠ q := by omega
  have hpg : ∀ o, o ≠ q → pgN H (fw2 N N q q) o = some o := fun o ho => pgN_fw2 H (by omega) o ho
  have fN : fw2 N N q q N = some N := by unfold fw2; rw [if_pos rfl]
  have fq : fw2 N N q q q = some q := by unfold fw2; rw [if_neg (Ne.symm hNq), if_pos rfl]
  have fn : ∀ p, p ≠ N → p ≠ q → fw2 N N q q p = none := fun p h1 h2 => by unfold fw2; rw [if_neg h1, if_neg h2]
  refine callC_rel hp (fw2 N N q q) (fw2 N N q q) (fw2_fb hNq hNq) (fun p r h hh => ?_) (fun p r h => ?_) (Hc := BH N q c0 l) (fun r => ?_) ?_ ?_ (Q := fun r H' => r = .str l ∧ H' = [(N, [.undef, .undef])])
  · unfold fw2 at h; split at h
    · cases h; omega
    · split at h
      · omega
      · cases h
  · unfold fw2 at h; split at h
    · rename_i e; cases h; rw [e]; exact tyEq_refl _
    · split at h
      · rename_i e; cases h; rw [e]; exact tyEq_refl _
      · cases h
  · rw [lkH_BH hNq]
    by_cases e : r = N
    · subst e
      rw [if_pos rfl, fN, Option.bind_some, h0]
      simp only [Option.map_some, List.map_cons, List.map_nil, Option.some.injEq, List.cons.injEq, and_true]
      refine ⟨?_, by rw [rn, fq]⟩
      rcases h2 with rfl | rfl
      · rw [rn] <;> (intros; contradiction)
      · rw [rn, fN]
    · rw [if_neg e]
      by_cases e2 : r = q
      · subst e2
        rw [if_pos rfl, fq, Option.bind_some, h1, Option.map_some, map_rf _ (bys_rf l)]
      · rw [if_neg e2, fn r e e2, Option.bind_none]
  · simp only [List.map_cons, List.map_nil]
    rw [rn, fN]
    exact hc
  · rintro r' Hc' ⟨rfl, rfl⟩
    refine ⟨setH (delH H q) N [.undef, .undef], fun p => ?_, ?_⟩
    · rw [lkH_setH, lkH_delH]
      by_cases e2 : p = N
      · subst e2
        rw [if_pos rfl, fN]
        simp only [lkH_one, if_true, Option.map_some, List.map_cons, List.map_nil]
        rw [rn_undef]
      · rw [if_neg e2]
        by_cases e : p = q
        · subst e
          rw [if_pos rfl, fq]
          simp only [lkH_one]
          rw [if_neg hNq]; rfl
        · rw [if_neg e, fn p e2 e]
          simp only
          cases hl : lkH H p with
          | none => rfl
          | some c => simp only [Option.map_some, Option.some.injEq]; exact (map_has _ q hpg (hH p c e2 e hl)).symm
    · rw [mapF_has _ q hpg te hte, mapF_has _ q hpg fr hfr, rn_rf _ _ rfl]
      exact hK
theorem RetRX {rv : List RV} {fr : Fr} {H : Hp} {T : List UInt8} {d i j : Int} {n : Nat} {rs : List DV} {Q : RX → Int → Prop} {ds : List DV} (hd : resDs fr H rv = some ds) (hr : (oneOf ds).rf = true) (hQ : Q (.ret (oneOf ds)) j)
    (h0 : lkH H 1048576 = some [.str T, .int .u8 d, .int .i64 j, .osl 1 1048577 0 n]) (h1 : lkH H 1048577 = some rs) (hrs : ∀ x ∈ rs, x.rf = true) :
    RetPX rv (RH T d i n rs) (fun rx H' => ∃ j, H' = RH T d j n rs ∧ Q rx j) .ret fr H := by
  refine .inl ⟨.inr rfl, ds, oneOf ds, RH T d j n rs, ⟨j, rfl, hQ⟩, fun o _ h => ?_, hd, rn_rf _ _ hr, fun o c h => ?_⟩
  · unfold RH at h ⊢
    rw [lkH_two] at h ⊢
    split
    · rfl
    · rename_i e
      rw [if_neg e] at h
      split
      · rfl
      · rename_i e2; rw [if_neg e2] at h; cases h
  · unfold RH at h
    rw [lkH_two] at h
    split at h
    · rename_i e
      subst e
      cases h
      refine ⟨_, h0, ?_⟩
      simp only [List.map_cons, List.map_nil]
      rw [rn_rf _ (.str T) rfl, rn_rf _ (.int .u8 d) rfl, rn_rf _ (.int .i64 j) rfl, rn]
      rfl
    · split at h
      · rename_i e
        subst e
        cases h
        exact ⟨_, h1, map_rf _ hrs⟩
      · cases h
theorem RetRP {rv : List RV} {fr : Fr} {H : Hp} {T : List UInt8} {d i j : Int} {n : Nat} {rs : List DV} {Q : RX → Int → Prop} {ch : List PanicEntry} (hQ : Q (.pan ch) j)
    (h0 : lkH H 1048576 = some [.str T, .int .u8 d, .int .i64 j, .osl 1 1048577 0 n]) (h1 : lkH H 1048577 = some rs) (hrs : ∀ x ∈ rs, x.rf = true) :
    RetPX rv (RH T d i n rs) (fun rx H' => ∃ j, H' = RH T d j n rs ∧ Q rx j) (.pan ch) fr H := by
  refine .inr ⟨ch, RH T d j n rs, rfl, ⟨j, rfl, hQ⟩, fun o _ h => ?_, fun o c h => ?_⟩
  · unfold RH at h ⊢
    rw [lkH_two] at h ⊢
    split
    · rfl
    · rename_i e
      rw [if_neg e] at h
      split
      · rfl
      · rename_i e2; rw [if_neg e2] at h; cases h
  · unfold RH at h
    rw [lkH_two] at h
    split at h
    · rename_i e
      subst e
      cases h
      refine ⟨_, h0, ?_⟩
      simp only [List.map_cons, List.map_nil]
      rw [rn_rf _ (.str T) rfl, rn_rf _ (.int .u8 d) rfl, rn_rf _ (.int .i64 j) rfl, rn]
      rfl
    · split at h
      · rename_i e
        subst e
        cases h
        exact ⟨_, h1, map_rf _ hrs⟩
      · cases h
def RHm (T : List UInt8) (d : Int) (i : Int) (n : Nat) (rs : List DV) : Hp := [(1000000, rs), (1048576, [.str T, .int .u8 d, .int .i64 i, .osl 1 1000000 0 n])]
theorem RetMX {rv : List RV} {fr : Fr} {H : Hp} {T : List UInt8} {d i j : Int} {n n' : Nat} {rs rs' : List DV} {Q : RX → Int → List DV → Nat → Prop} {ds : List DV} (hd : resDs fr H rv = some ds) (hr : (oneOf ds).rf = true) (hQ : Q (.ret (oneOf ds)) j rs' n')
    (h0 : lkH H 1048576 = some [.str T, .int .u8 d, .int .i64 j, .osl 1 1000000 0 n']) (h1 : lkH H 1000000 = some rs') (hrs : ∀ x ∈ rs', x.rf = true) :
    RetPX rv (RHm T d i n rs) (fun rx H' => ∃ j n' rs', H' = RHm T d j n' rs' ∧ Q rx j rs' n') .ret fr H := by
  refine .inl ⟨.inr rfl, ds, oneOf ds, RHm T d j n' rs', ⟨j, n', rs', rfl, hQ⟩, fun o _ h => ?_, hd, rn_rf _ _ hr, fun o c h => ?_⟩
  · unfold RHm at h ⊢
    rw [lkH_two] at h ⊢
    split
    · rfl
    · rename_i e
      rw [if_neg e] at h
      split
      · rfl
      · rename_i e2; rw [if_neg e2] at h; cases h
  · unfold RHm at h
    rw [lkH_two] at h
    split at h
    · rename_i e
      subst e
      cases h
      exact ⟨_, h1, map_rf _ hrs⟩
    · split at h
      · rename_i e
        subst e
        cases h
        refine ⟨_, h0, ?_⟩
        simp only [List.map_cons, List.map_nil]
        rw [rn_rf _ (.str T) rfl, rn_rf _ (.int .u8 d) rfl, rn_rf _ (.int .i64 j) rfl, rn]
        rfl
      · cases h
theorem RetMP {rv : List RV} {fr : Fr} {H : Hp} {T : List UInt8} {d i j : Int} {n n' : Nat} {rs rs' : List DV} {Q : RX → Int → List DV → Nat → Prop} {ch : List PanicEntry} (hQ : Q (.pan ch) j rs' n')
    (h0 : lkH H 1048576 = some [.str T, .int .u8 d, .int .i64 j, .osl 1 1000000 0 n']) (h1 : lkH H 1000000 = some rs') (hrs : ∀ x ∈ rs', x.rf = true) :
    RetPX rv (RHm T d i n rs) (fun rx H' => ∃ j n' rs', H' = RHm T d j n' rs' ∧ Q rx j rs' n') (.pan ch) fr H := by
  refine .inr ⟨ch, RHm T d j n' rs', rfl, ⟨j, n', rs', rfl, hQ⟩, fun o _ h => ?_, fun o c h => ?_⟩
  · unfold RHm at h ⊢
    rw [lkH_two] at h ⊢
    split
    · rfl
    · rename_i e
      rw [if_neg e] at h
      split
      · rfl
      · rename_i e2; rw [if_neg e2] at h; cases h
  · unfold RHm at h
    rw [lkH_two] at h
    split at h
    · rename_i e
      subst e
      cases h
      exact ⟨_, h1, map_rf _ hrs⟩
    · split at h
      · rename_i e
        subst e
        cases h
        refine ⟨_, h0, ?_⟩
        simp only [List.map_cons, List.map_nil]
        rw [rn_rf _ (.str T) rfl, rn_rf _ (.int .u8 d) rfl, rn_rf _ (.int .i64 j) rfl, rn]
        rfl
      · cases h
end Go.Dat
namespace Go.Dat
open Go
theorem R_project {S : Nat → Prop} {L L1 : Nat → Option Nat} {w w' : World} {n : Nat} {D : List Deferred} {σ : Nat → DV} {H H1 : Hp} {a' : Act} {K : Nat → Option Nat} (hR' : R ⟨S, w, fun x => ∃ o, L o = some x, n, K, D⟩ L1 σ (lkH H1) a' w') (hK : ∀ o b, L o = some b → 1048576 ≤ o → K o = some b) (hH : HOK w S L (lkH H)) :
    ∀ H' : Hp, (∀ o, 1048576 ≤ o → (lkH H o).isSome = true → (lkH H' o).isSome = true) → (∀ o c, lkH H' o = some c → ∃ c0, lkH H1 o = some c0 ∧ c0.map (rn (nmH H')) = c) →
      ∃ L', HOK w' S L' (lkH H') ∧ Ext (fun x => ∃ o, L o = some x) w w' ∧
      (∀ o b, L o = some b → 1048576 ≤ o → L' o = some b) ∧ (∀ o b, L' o = some b → (∃ p, L p = some b) ∨ w.heap.size ≤ b) ∧ (∀ b, b < w.heap.size → w'.shape? b = w.shape? b) ∧
      (∀ d v, V w' L1 (Av S L1) d v → V w' L' (Av S L') (rn (nmH H') d) v) := by
  intro H' hdom hcells
  have hsub : ∀ o b, (nmH H' o).bind L1 = some b → lkH H' o ≠ none ∧ L1 o = some b := fun o b ho => by
    unfold nmH at ho
    split at ho
    · rename_i h1; exact ⟨fun e => (by rw [e] at h1; cases h1), ho⟩
    · cases ho
  have hAv : ∀ b, Av S (fun o => (nmH H' o).bind L1) b → Av S L1 b := by
    rintro b (h1 | ⟨o, h1⟩)
    · exact .inl h1
    · exact .inr ⟨o, (hsub o b h1).2⟩
  have hVr : ∀ d v, V w' L1 (Av S L1) d v → V w' (fun o => (nmH H' o).bind L1) (Av S (fun o => (nmH H' o).bind L1)) (rn (nmH H') d) v := fun d v hd =>
    hd.rn (nmH H') hAv fun o p b h1 h2 => by
      have e : o = p := by
        unfold nmH at h1; split at h1
        · simpa using h1
        · cases h1
      subst e
      show (nmH H' o).bind L1 = some b
      rw [h1]; exact h2
  refine ⟨fun o => (nmH H' o).bind L1, ⟨?_, ?_, ?_, ?_, ?_⟩, hR'.ext, ?_, ?_, fun b hb => hR'.shp b hb, hVr⟩
  · intro o b ho
    have h1 := (hsub o b ho).1
    cases h2 : lkH H' o with
    | none => exact absurd h2 h1
    | some c => exact ⟨c, rfl⟩
  · intro o c hc
    obtain ⟨c0, h1, rfl⟩ := hcells o c hc
    have e1 : nmH H' o = some o := by unfold nmH; rw [hc]; rfl
    rcases hR'.heap.obj o c0 h1 with ⟨h2, h3⟩ | ⟨b, cs, T, h2, h3, h4, h5⟩
    · exact .inl ⟨by rw [e1]; exact h2, by rw [h3]; rfl⟩
    · refine .inr ⟨b, cs, T, by rw [e1]; exact h2, h3, by simpa using h4, fun k d u hk hu => ?_⟩
      rw [List.getElem?_map, Option.map_eq_some_iff] at hk
      obtain ⟨d0, hd0, rfl⟩ := hk
      exact hVr _ _ (h5 k d0 u hd0 hu)
  · intro o p b ho hp
    exact hR'.heap.inj o p b (hsub o b ho).2 (hsub p b hp).2
  · intro o b ho
    exact hR'.heap.notS o b (hsub o b ho).2
  · intro o b ho
    exact hR'.heap.ty o b (hsub o b ho).2
  · intro o b ho h1
    have h2 := (hR'.keep o b (hK o b ho h1)).1
    have h3 : (lkH H o).isSome = true := by
      obtain ⟨c, hc⟩ := hH.dom o b ho
      rw [hc]; rfl
    have e1 : nmH H' o = some o := by unfold nmH; rw [if_pos (hdom o h1 h3)]
    show (nmH H' o).bind L1 = some b
    rw [e1]; exact h2
  · intro o b ho
    exact hR'.own o b (hsub o b ho).2
theorem callX_rm {F : FnD} {f : Nat} {te fr : Fr} {H : Hp} {K : DV → Fr → Fr → Hp → Prop} {E : List PanicEntry → Fr → Hp → Prop} {T : List UInt8} {d i : Int} {n : Nat} {rs : List DV} {Q : RX → Int → List DV → Nat → Prop}
    (hc : MX F.P f [.ptr 1048576 0] (RHm T d i n rs) fun rx H' => ∃ j n' rs', H' = RHm T d j n' rs' ∧ Q rx j rs' n') (h0 : lkH H 1048576 = some [.str T, .int .u8 d, .int .i64 i, .osl 1 1000000 0 n]) (h1 : lkH H 1000000 = some rs) (hrs : ∀ x ∈ rs, x.rf = true)
    (hte : te.all (fun p => !p.2.has 1000000) = true) (hfr : fr.all (fun p => !p.2.has 1000000) = true) (hH : ∀ p c, p ≠ 1048576 → p ≠ 1000000 → lkH H p = some c → ∀ d ∈ c, d.has 1000000 = false)
    (hrs' : ∀ rx j rs' n', Q rx j rs' n' → ∀ x ∈ rs', x.rf = true)
    (hK : ∀ r j rs' n', Q (.ret r) j rs' n' → r.rf = true ∧ K r te fr (setH (setH H 1048576 [.str T, .int .u8 d, .int .i64 j, .osl 1 1000000 0 n']) 1000000 rs'))
    (hE : ∀ ch j rs' n', Q (.pan ch) j rs' n' → E ch fr (setH (setH H 1048576 [.str T, .int .u8 d, .int .i64 j, .osl 1 1000000 0 n']) 1000000 rs')) :
    callX F.P F.vs f [.ptr 1048576 0] te fr H K E := by
  have hne : (1048576 : Nat) ≠ 1000000 := by decide
  have hpg : ∀ o, o ≠ 1000000 → pgN H (fw2 1048576 1048576 1000000 1000000) o = some o := fun o ho => pgN_fw2 H (by decide) o ho
  have fN : fw2 1048576 1048576 1000000 1000000 1048576 = some 1048576 := by unfold fw2; rw [if_pos rfl]
  have fq : fw2 1048576 1048576 1000000 1000000 1000000 = some 1000000 := by unfold fw2; rw [if_neg (Ne.symm hne), if_pos rfl]
  have fn : ∀ p, p ≠ 1048576 → p ≠ 1000000 → fw2 1048576 1048576 1000000 1000000 p = none := fun p h1 h2 => by unfold fw2; rw [if_neg h1, if_neg h2]
  have hcell : ∀ j m, ([.str T, .int .u8 d, .int .i64 j, .osl 1 1000000 0 m] : List DV).map (rn (fw2 1048576 1048576 1000000 1000000)) = [.str T, .int .u8 d, .int .i64 j, .osl 1 1000000 0 m] := fun j m => by
    simp only [List.map_cons, List.map_nil]
    rw [rn_rf _ (.str T) rfl, rn_rf _ (.int .u8 d) rfl, rn_rf _ (.int .i64 j) rfl, rn, fq]
  have hsame : ∀ j n' rs', (∀ x ∈ rs', x.rf = true) → ∀ p, lkH (setH (setH H 1048576 [.str T, .int .u8 d, .int .i64 j, .osl 1 1000000 0 n']) 1000000 rs') p = match fw2 1048576 1048576 1000000 1000000 p with | some r => (lkH (RHm T d j n' rs') r).map (List.map (rn (fw2 1048576 1048576 1000000 1000000))) | none => (lkH H p).map (List.map (rn (pgN H (fw2 1048576 1048576 1000000 1000000)))) := fun j n' rs' hr p => by
    rw [lkH_setH, lkH_setH]
    by_cases e : p = 1000000
    · subst e
      rw [if_pos rfl, fq]
      simp only [RHm, lkH_two]
      rw [if_pos trivial, Option.map_some, map_rf _ hr]
    · rw [if_neg e]
      by_cases e2 : p = 1048576
      · subst e2
        rw [if_pos rfl, fN]
        simp only [RHm, lkH_two]
        rw [if_neg (by decide), if_pos trivial, Option.map_some, hcell]
      · rw [if_neg e2, fn p e2 e]
        simp only
        cases hl : lkH H p with
        | none => rfl
        | some c => simp only [Option.map_some, Option.some.injEq]; exact (map_has _ 1000000 hpg (hH p c e2 e hl)).symm
  refine callX_rel (fw2 1048576 1048576 1000000 1000000) (fw2 1048576 1048576 1000000 1000000) (fw2_fb hne hne) (fun p r h hh => ?_) (fun p r h => ?_) (Hc := RHm T d i n rs) (fun r => ?_) (by rw [List.map_cons, List.map_nil, rn, fN]; exact hc) ?_
  · unfold fw2 at h; split at h
    · cases h; omega
    · split at h
      · omega
      · cases h
  · unfold fw2 at h; split at h
    · rename_i e; cases h; rw [e]; exact tyEq_refl _
    · split at h
      · rename_i e; cases h; rw [e]; exact tyEq_refl _
      · cases h
  · simp only [RHm, lkH_two]
    by_cases e : r = 1000000
    · subst e
      rw [if_pos rfl, fq, Option.bind_some, h1, Option.map_some, map_rf _ hrs]
    · rw [if_neg (Ne.symm e)]
      by_cases e2 : r = 1048576
      · subst e2
        rw [if_pos rfl, fN, Option.bind_some, h0, Option.map_some, hcell]
      · rw [if_neg (Ne.symm e2), fn r e2 e, Option.bind_none]
  · rintro rx Hc' ⟨j, n', rs', rfl, hQ⟩
    refine ⟨_, hsame j n' rs' (hrs' _ _ _ _ hQ), ?_⟩
    cases rx with
    | ret r =>
      obtain ⟨h3, h4⟩ := hK r j rs' n' hQ
      simp only
      rw [mapF_has _ 1000000 hpg te hte, mapF_has _ 1000000 hpg fr hfr, rn_rf _ r h3]
      exact h4
    | pan ch =>
      simp only
      rw [mapF_has _ 1000000 hpg fr hfr]
      exact hE ch j rs' n' hQ
theorem RetTG {rv : List RV} {fr : Fr} {H : Hp} {ds : List DV} {cells c' : List DV} {Q : DV → List DV → Prop} (hds : resDs fr H rv = some ds) (hd : (oneOf ds).rf = true) (hh : lkH H 1048576 = some c') (hc : ∀ d ∈ c', d.rf = true) (hQ : Q (oneOf ds) c') :
    RetPR rv [(1048576, cells)] (fun r H' => ∃ c', H' = [(1048576, c')] ∧ (∀ d ∈ c', d.rf = true) ∧ r.rf = true ∧ Q r c') .ret fr H := by
  refine ⟨.inr rfl, ds, oneOf ds, [(1048576, c')], ⟨c', rfl, hc, hd, hQ⟩, fun o _ h => ?_, hds, rn_rf _ _ hd, fun o c h => ?_⟩
  · rw [lkH_one] at h ⊢
    split at h
    · rename_i e; rw [if_pos e]; rfl
    · cases h
  · rw [lkH_one] at h
    split at h
    · rename_i e
      subst e
      cases h
      exact ⟨_, hh, map_rf _ hc⟩
    · cases h
end Go.Dat
namespace Go.Dat
open Go
theorem callC_blen {F : FnD} {os : List DOper} {dst : Dst} {f : Nat} {te fr : Fr} {H : Hp} {K : Fr → Fr → Hp → Prop} (N q : Nat) {l : List UInt8} {r c0 : DV} (hc : MRel F.P f [.ptr N 0] (BH N q c0 l) fun r' H' => r' = r ∧ H' = BH N q c0 l) (hp : F.pure = false)
    (h0 : lkH H N = some [c0, .osl 1 q 0 l.length]) (h1 : lkH H q = some (bys l)) (h2 : c0 = .nilp ∨ c0 = .ptr N 0) (hN : 2097152 ≤ N) (hq : q < 1048576) (hr : r.rf = true)
    (hte : te.all (fun p => !p.2.has q) = true) (hfr : fr.all (fun p => !p.2.has q) = true) (hH : ∀ p c, p ≠ N → p ≠ q → lkH H p = some c → ∀ d ∈ c, d.has q = false)
    (hK : regW F os (dst.onT te r) (dst.onX fr r) H K) : callC F os dst f [.ptr N 0] te fr H K := by
  have hNq : N ≠ q := by omega
  have hpg : ∀ o, o ≠ q → pgN H (fw2 N N q q) o = some o := fun o ho => pgN_fw2 H (by omega) o ho
  have fN : fw2 N N q q N = some N := by unfold fw2; rw [if_pos rfl]
  have fq : fw2 N N q q q = some q := by unfold fw2; rw [if_neg (Ne.symm hNq), if_pos rfl]
  have fn : ∀ p, p ≠ N → p ≠ q → fw2 N N q q p = none := fun p h1 h2 => by unfold fw2; rw [if_neg h1, if_neg h2]
  have hc0 : rn (fw2 N N q q) c0 = c0 := by
    rcases h2 with rfl | rfl
    · rw [rn] <;> (intros; contradiction)
    · rw [rn, fN]
  have hos : rn (fw2 N N q q) (.osl 1 q 0 l.length) = .osl 1 q 0 l.length := by rw [rn, fq]
  refine callC_rel hp (fw2 N N q q) (fw2 N N q q) (fw2_fb hNq hNq) (fun p r h hh => ?_) (fun p r h => ?_) (Hc := BH N q c0 l) (fun r => ?_) ?_ ?_ (Q := fun r' H' => r' = r ∧ H' = BH N q c0 l)
  · unfold fw2 at h; split at h
    · cases h; omega
    · split at h
      · omega
      · cases h
  · unfold fw2 at h; split at h
    · rename_i e; cases h; rw [e]; exact tyEq_refl _
    · split at h
      · rename_i e; cases h; rw [e]; exact tyEq_refl _
      · cases h
  · rw [lkH_BH hNq]
    by_cases e : r = N
    · subst e
      rw [if_pos rfl, fN, Option.bind_some, h0]
      simp only [Option.map_some, List.map_cons, List.map_nil, Option.some.injEq, List.cons.injEq, and_true]
      exact ⟨hc0.symm, hos.symm⟩
    · rw [if_neg e]
      by_cases e2 : r = q
      · subst e2
        rw [if_pos rfl, fq, Option.bind_some, h1, Option.map_some, map_rf _ (bys_rf l)]
      · rw [if_neg e2, fn r e e2, Option.bind_none]
  · simp only [List.map_cons, List.map_nil]
    rw [rn, fN]
    exact hc
  · rintro r' Hc' ⟨rfl, rfl⟩
    refine ⟨H, fun p => ?_, ?_⟩
    · by_cases e2 : p = N
      · subst e2
        rw [fN]
        simp only
        rw [lkH_BH hNq, if_pos rfl, h0]
        simp only [Option.map_some, List.map_cons, List.map_nil]
        rw [hc0, hos]
      · by_cases e : p = q
        · subst e
          rw [fq]
          simp only
          rw [lkH_BH hNq, if_neg (Ne.symm hNq), if_pos rfl, h1, Option.map_some, map_rf _ (bys_rf l)]
        · rw [fn p e2 e]
          simp only
          cases hl : lkH H p with
          | none => rfl
          | some c => simp only [Option.map_some, Option.some.injEq]; exact (map_has _ q hpg (hH p c e2 e hl)).symm
    · rw [mapF_has _ q hpg te hte, mapF_has _ q hpg fr hfr, rn_rf _ r' hr]
      exact hK
theorem RetBl {N M : Nat} (hNM : N ≠ M) {rv : List RV} {fr : Fr} {H : Hp} {c0 r : DV} {l : List UInt8} {ds : List DV} (h2 : c0 = .nilp ∨ c0 = .ptr N 0) (hd : resDs fr H rv = some ds) (he : oneOf ds = r) (hr : r.rf = true) (h0 : lkH H N = some [c0, .osl 1 M 0 l.length]) (h1 : lkH H M = some (bys l)) :
    RetPR rv (BH N M c0 l) (fun r' H' => r' = r ∧ H' = BH N M c0 l) .ret fr H := by
  have eN : nmH (BH N M c0 l) N = some N := by unfold nmH; rw [lkH_BH hNM, if_pos rfl]; rfl
  have eM : nmH (BH N M c0 l) M = some M := by unfold nmH; rw [lkH_BH hNM, if_neg (Ne.symm hNM), if_pos rfl]; rfl
  have hc0 : rn (nmH (BH N M c0 l)) c0 = c0 := by
    rcases h2 with rfl | rfl
    · rw [rn] <;> (intros; contradiction)
    · rw [rn, eN]
  refine ⟨.inr rfl, ds, r, BH N M c0 l, ⟨rfl, rfl⟩, fun o _ h => ?_, hd, by rw [he, rn_rf _ r hr], fun o c h => ?_⟩
  · rw [lkH_BH hNM] at h ⊢
    split
    · rfl
    · rename_i e
      rw [if_neg e] at h
      split
      · rfl
      · rename_i e2; rw [if_neg e2] at h; cases h
  · rw [lkH_BH hNM] at h
    split at h
    · rename_i e
      subst e
      cases h
      refine ⟨_, h0, ?_⟩
      simp only [List.map_cons, List.map_nil]
      rw [hc0, rn, eM]
    · split at h
      · rename_i e
        subst e
        cases h
        exact ⟨_, h1, map_rf _ (bys_rf l)⟩
      · cases h
end Go.Dat
