/- Regions in the order of the text; the rules for code; functions. Over any program. -/
import Derived.Test.YtecilkmigjbfoaaDat9
set_option linter.unusedSimpArgs false
set_option linter.unusedVariables false
namespace Go.Dat
open Go

section
variable {F : FnD} {G : Cx} {L : Nat → Option Nat} {a : Act} {w : World} {h : Heap}

theorem wanted_skip {ops : Array Oper} {o : Oper} {g : Opd} {want : Bool} {te fr : Fr} (hR : R G L (den F.vs te fr) h a w) (hg : sGuard F.vs ops o.guard = some (some (g, want))) (hb : ev te fr g = .tup []) :
    Region.wanted o (yielded ops a.tmps) = false := by
  cases hgd : o.guard with
  | none => rw [hgd] at hg; simp [sGuard] at hg
  | some p =>
    obtain ⟨j, w0⟩ := p
    rw [hgd] at hg
    simp only [sGuard, Option.map_eq_some_iff] at hg
    obtain ⟨k, hk, hg⟩ := hg
    cases hg
    rw [ev_den] at hb
    have hv := hR.slots k
    have hs : den F.vs te fr k = .tup [] := by
      by_cases hc : F.vs.contains k = true
      · simpa only [sOpd, hc, if_true, evS] using hb
      · have hc' : F.vs.contains k = false := by simpa using hc
        simpa only [sOpd, hc', Bool.false_eq_true, if_false, evS] using hb
    rw [hs] at hv
    obtain ⟨us, hu, hl, _⟩ := hv.inv_tup
    have : us = #[] := Array.eq_empty_of_size_eq_zero (by simpa using hl.symm)
    subst this
    have hy : yielded ops a.tmps j = none := by
      simp only [yielded, hk, Option.bind_some]
      rw [Array.getD_eq_getD_getElem?] at hu
      cases hq : a.tmps[k]? with
      | none => rfl
      | some v => rw [hq] at hu; simp only [Option.getD_some] at hu; rw [hu]
    simp [Region.wanted, hgd, hy]

theorem wanted_none {ops : Array Oper} {o : Oper} (tmps : Array Value) (hg : sGuard F.vs ops o.guard = some none) : Region.wanted o (yielded ops tmps) = true := by
  cases hgd : o.guard with
  | none => simp [Region.wanted, hgd]
  | some p =>
    obtain ⟨j, w0⟩ := p
    rw [hgd] at hg
    simp only [sGuard, Option.map_eq_some_iff] at hg
    obtain ⟨k, _, hk⟩ := hg
    cases hk

/-- The slots' places are there. -/
theorem dst_lt {n : Nat} {dst : Option Nat} (h : dOk n dst = true) : ∀ k, dst = some k → k < n := by
  rintro k rfl; simpa [dOk] using h

theorem V_undef {A : Nat → Prop} : V w L A (.tup []) undef := .imm (.tup rfl fun k d v h => by simp at h)

theorem sOp_nocall {P : Program} {vs own : List Nat} {dst : Option Nat} {op : Op} {f : Nat} {args : List Opd} (hop : ∀ c, op ≠ .call c) (h : sOp P vs own dst op = some (.call f args)) : False := by
  cases op with
  | call c => exact hop c rfl
  | binOp op t x y u => cases op <;> simp only [sOp] at h <;> (repeat' split at h) <;> cases h
  | build t ps =>
    simp only [sOp] at h
    repeat' split at h
    all_goals first | cases h | (simp only [Option.bind_eq_some_iff, Option.map_eq_some_iff] at h; obtain ⟨_, _, _, _, h⟩ := h; cases h; done) | (simp only [Option.bind_eq_some_iff, Option.map_eq_some_iff] at h; obtain ⟨_, _, _, _, _, _, h⟩ := h; cases h; done)
  | buildSlice t len ps =>
    simp only [sOp] at h
    split at h
    · simp only [Option.bind_eq_some_iff] at h
      obtain ⟨n, _, z, _, h⟩ := h
      split at h
      · cases h
      · rw [Option.map_eq_some_iff] at h
        obtain ⟨_, _, h⟩ := h
        split at h <;> cases h
    · cases h
  | _ =>
    simp only [sOp] at h
    repeat' split at h
    all_goals first
      | cases h
      | (simp only [Option.map_eq_some_iff] at h; obtain ⟨_, _, h⟩ := h; cases h)
      | (simp only [Option.map_eq_some_iff] at h; obtain ⟨_, _, h⟩ := h; split at h <;> cases h)
      | (simp only [Option.bind_eq_some_iff] at h; obtain ⟨_, _, h⟩ := h; split at h <;> cases h; done)
      | (simp only [Option.bind_eq_some_iff] at h; obtain ⟨_, _, _, _, h⟩ := h; (repeat' split at h) <;> cases h; done)
      | (simp only [Option.bind_eq_some_iff] at h; obtain ⟨_, _, h⟩ := h; split at h <;> (simp only [Option.bind_eq_some_iff] at h; obtain ⟨_, _, h⟩ := h; (repeat' split at h) <;> cases h))

/-- One operation that is carried out. -/
theorem oper_sound {o : Oper} {ops : Array Oper} {dp : DOper} {te fr : Fr} {H : Hp} {K : Act → World → Prop} {Q : Exit → Act → World → Prop} {Kd : Fr → Fr → Hp → Prop}
    (hs : sOper F.P F.vs F.own F.n ops o = some dp) (hn : G.n = F.n) (hR : R G L (den F.vs te fr) (lkH H) a w)
    (hK : ∀ te fr H L a w, R G L (den F.vs te fr) (lkH H) a w → Kd te fr H → K a w)
    (hgo : match dp.op with
      | .call f args => callR F f (args.map (ev te fr)) te fr H fun d te' fr' H' => Kd (dp.dst.onT te' d) (dp.dst.onX fr' d) H'
      | p => OW (opE F.nb dp.dst.slot (ev te fr) (lkH H) p) fun r => Kd (dp.dst.onT (r.2.onF te) r.1) (dp.dst.onX (r.2.onF fr) r.1) (r.2.onL H)) : o.wp F.P a w K Q := by
  obtain ⟨dst, op, ty, pos, after, guard⟩ := o
  simp only [sOper, Option.bind_eq_some_iff] at hs
  obtain ⟨p, hp, g, hg, hs⟩ := hs
  split at hs
  · rename_i hd
    cases hs
    have hdl := dst_lt hd
    have hE : EV F.vs (ev te fr) w L (Av G.S L) a := fun x => by rw [ev_den]; exact ev_V hR x
    have plain : OW (opE F.nb (sDst F.vs dst).slot (ev te fr) (lkH H) p) (fun r => Kd ((sDst F.vs dst).onT (r.2.onF te) r.1) ((sDst F.vs dst).onX (r.2.onF fr) r.1) (r.2.onL H)) →
        Oper.wp F.P ⟨dst, op, ty, pos, after, guard⟩ a w K Q := by
      rintro ⟨⟨d, ef⟩, he, hKd⟩
      rw [sDst_slot] at he
      obtain ⟨v, w', L', hr, hR', hv⟩ := opE_sound (P := F.P) F.nb (ty := ty) (pos := pos) (after := after) (guard := guard) hE hR op hp he
      have hput := hR'.put hv (by rw [hn]; exact hdl)
      rw [← den_onF, ← den_put, ← lkH_onL] at hput
      have := hK _ _ _ _ _ _ hput hKd
      unfold Oper.wp
      rcases hr with hr | ⟨hr, rfl⟩
      · rw [hr]; exact this
      · rw [hr]; exact this
    cases p with
    | call f args =>
      simp only at hgo
      -- the operation is a call of a function that has a body
      have hc : ∃ c fn, op = .call c ∧ c.callee = .value (.func f) ∧ F.P.funcs[f]? = some fn ∧ fn.body.isSome = true ∧ (fn.name != "runtime.NumGoroutine") = true ∧ args = c.args.toList.map (sOpd F.vs) := by
        cases op with
        | call c =>
          obtain ⟨callee, cargs, argTypes⟩ := c
          cases callee with
          | value q =>
            cases q with
            | func f' =>
              simp only [sOp] at hp
              split at hp
              · rename_i fn hfn
                split at hp
                · rename_i hcond
                  cases hp
                  simp only [Bool.and_eq_true] at hcond
                  exact ⟨_, fn, rfl, rfl, hfn, hcond.1, hcond.2, rfl⟩
                · cases hp
              · cases hp
            | _ => simp [sOp] at hp
          | invoke r m => simp [sOp] at hp
          | builtin b =>
            exfalso
            cases b <;> simp only [sOp] at hp <;> (repeat' split at hp) <;> first | (cases hp; done) | (simp [Option.bind_eq_some_iff] at hp; done) | (simp only [Option.bind_eq_some_iff] at hp; obtain ⟨_, _, hp⟩ := hp; split at hp <;> cases hp) 
        | _ =>
          exfalso
          exact sOp_nocall (by intro c e; cases e) hp
      obtain ⟨c, fn, rfl, hcal, hfn, hbody, hname, rfl⟩ := hc
      obtain ⟨callee, cargs, argTypes⟩ := c
      simp only at hcal hgo
      subst hcal
      have hcall := callR_W hgo G L a w (cargs.map a.eval) hR (by simp) (fun k d v h1 h2 => by
        simp only [List.map_map, List.getElem?_map, Array.getElem?_toList, Option.map_eq_some_iff] at h1
        simp only [Array.getElem?_map, Option.map_eq_some_iff] at h2
        obtain ⟨x, hx, rfl⟩ := h1
        obtain ⟨y, hy, rfl⟩ := h2
        rw [hx] at hy; cases hy
        exact hE x)
      have hr : (execOp a.eval ⟨dst, .call { callee := .value (.func f), args := cargs, argTypes := argTypes }, ty, pos, after, guard⟩).run F.P w = .ok (.enter f (cargs.map a.eval)) w := by
        have hb : ¬ fn.body = none := by intro e; rw [e] at hbody; cases hbody
        have hnm : ¬ fn.name = "runtime.NumGoroutine" := by simpa using hname
        simp [execOp, resolve, Act.eval, Deferred.ofValue, invoke, callFunc, hfn, hnm, hb]
      unfold Oper.wp
      rw [hr]
      refine hcall.mono ?_
      rintro e w' ⟨v, L', d, te', fr', H', rfl, hR', hv, hKd⟩
      have hput := hR'.put hv (by rw [hn]; exact hdl)
      rw [← den_put] at hput
      exact hK _ _ _ _ _ _ hput hKd
    | _ => exact plain hgo
  · cases hs

theorem regW_sound {ops : Array Oper} {Q : Exit → Act → World → Prop} {Kd : Fr → Fr → Hp → Prop} (hn : G.n = F.n)
    (hK : ∀ te fr H L a w, R G L (den F.vs te fr) (lkH H) a w → Kd te fr H → Q .normal a w) :
    ∀ (l : List Oper) (ds : List DOper), sOpers F.P F.vs F.own F.n ops l = some ds → ∀ (te fr : Fr) (H : Hp) (L : Nat → Option Nat) (a : Act) (w : World),
      R G L (den F.vs te fr) (lkH H) a w → regW F ds te fr H Kd → wpList F.P ops Q l a w
  | [], ds, hs, te, fr, H, L, a, w, hR, hW => by
    simp only [sOpers, Option.some.injEq] at hs
    subst hs
    exact hK _ _ _ _ _ _ hR hW
  | o :: l, ds, hs, te, fr, H, L, a, w, hR, hW => by
    simp only [sOpers, Option.bind_eq_some_iff, Option.map_eq_some_iff] at hs
    obtain ⟨dp, hdp, ds', hds', rfl⟩ := hs
    have ih := regW_sound hn hK l ds' hds'
    have hgd : sGuard F.vs ops o.guard = some dp.guard ∧ dp.dst = sDst F.vs o.dst ∧ ∀ k, o.dst = some k → k < F.n := by
      simp only [sOper, Option.bind_eq_some_iff] at hdp
      obtain ⟨p, hp, g, hg, hs⟩ := hdp
      split at hs
      · rename_i hd; cases hs; exact ⟨hg, rfl, dst_lt hd⟩
      · cases hs
    obtain ⟨hg, hdst, hdl⟩ := hgd
    have hskip : Region.wanted o (yielded ops a.tmps) = false → regW F ds' (dp.dst.onT te (.tup [])) (dp.dst.onX fr (.tup [])) H Kd → wpList F.P ops Q (o :: l) a w := by
      intro hw hW'
      have hput := hR.put (V_undef) (dst := o.dst) (by rw [hn]; exact hdl)
      rw [← den_put, ← hdst] at hput
      simp only [wpList, hw]
      exact ih _ _ _ _ _ _ hput hW'
    have hgo : Region.wanted o (yielded ops a.tmps) = true → (match dp.op with
      | .call f args => callR F f (args.map (ev te fr)) te fr H fun d te' fr' H' => regW F ds' (dp.dst.onT te' d) (dp.dst.onX fr' d) H' Kd
      | p => OW (opE F.nb dp.dst.slot (ev te fr) (lkH H) p) fun r => regW F ds' (dp.dst.onT (r.2.onF te) r.1) (dp.dst.onX (r.2.onF fr) r.1) (r.2.onL H) Kd) → wpList F.P ops Q (o :: l) a w := by
      intro hw hg'
      simp only [wpList, hw, if_true]
      exact .inl (oper_sound (Kd := fun te fr H => regW F ds' te fr H Kd) hdp hn hR (fun te fr H L a w hR' hk => ih te fr H L a w hR' hk) hg')
    simp only [regW] at hW
    cases hgu : dp.guard with
    | none =>
      rw [hgu] at hg hW
      exact hgo (wanted_none _ hg) hW
    | some p =>
      obtain ⟨g, want⟩ := p
      rw [hgu] at hg hW
      simp only at hW
      split at hW
      · rename_i b hb
        have hwn := wanted_bool hR hg hb
        by_cases hbw : b = want
        · exact hgo (by rw [hwn]; simp [hbw]) (hW.1 hbw)
        · exact hskip (by rw [hwn]; simp [hbw]) (hW.2 (by cases b <;> cases want <;> simp_all))
      · rename_i hb
        exact hskip (wanted_skip hR hg hb) hW
      · exact hW.elim
end
end Go.Dat
