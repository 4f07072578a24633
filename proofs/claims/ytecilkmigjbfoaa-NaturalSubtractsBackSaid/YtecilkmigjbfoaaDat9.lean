/- Frames and heaps as lists; calls; regions; the rules for code. Over any program. -/
import Derived.Test.YtecilkmigjbfoaaDat8
set_option linter.unusedSimpArgs false
set_option linter.unusedVariables false
namespace Go.Dat
open Go

abbrev Fr := List (Nat × DV)
abbrev Hp := List (Nat × List DV)
def lk : Fr → Nat → DV
  | [], _ => .undef
  | (k, d) :: r, s => if k = s then d else lk r s
def lkH : Hp → Nat → Option (List DV)
  | [], _ => none
  | (k, d) :: r, s => if k = s then some d else lkH r s
/-- A variable is written: the frame stays sorted. -/
def setF : Fr → Nat → DV → Fr
  | [], k, d => [(k, d)]
  | (j, e) :: r, k, d => if j = k then (k, d) :: r else if k < j then (k, d) :: (j, e) :: r else (j, e) :: setF r k d
def setH : Hp → Nat → List DV → Hp
  | [], k, d => [(k, d)]
  | (j, e) :: r, k, d => if j = k then (k, d) :: r else if k < j then (k, d) :: (j, e) :: r else (j, e) :: setH r k d
def mapF (f : DV → DV) : Fr → Fr
  | [] => []
  | (k, d) :: r => (k, f d) :: mapF f r
def mapH (f : DV → DV) : Hp → Hp
  | [] => []
  | (k, d) :: r => (k, d.map f) :: mapH f r

theorem lk_setF : ∀ (r : Fr) (k : Nat) (d : DV) (s : Nat), lk (setF r k d) s = if s = k then d else lk r s
  | [], k, d, s => by simp [setF, lk, eq_comm]
  | (j, e) :: r, k, d, s => by
    simp only [setF]
    by_cases h1 : j = k
    · subst h1; simp only [if_true, lk]; by_cases h : j = s
      · simp [h]
      · simp [h, Ne.symm h]
    · rw [if_neg h1]
      by_cases h2 : k < j
      · rw [if_pos h2]; simp only [lk]
        by_cases h : k = s
        · simp [h]
        · simp [h, Ne.symm h]
      · rw [if_neg h2]; simp only [lk, lk_setF r k d s]
        by_cases h : j = s
        · subst h; simp [h1]
        · simp [h]
theorem lkH_setH : ∀ (r : Hp) (k : Nat) (d : List DV) (s : Nat), lkH (setH r k d) s = if s = k then some d else lkH r s
  | [], k, d, s => by simp [setH, lkH, eq_comm]
  | (j, e) :: r, k, d, s => by
    simp only [setH]
    by_cases h1 : j = k
    · subst h1; simp only [if_true, lkH]; by_cases h : j = s
      · simp [h]
      · simp [h, Ne.symm h]
    · rw [if_neg h1]
      by_cases h2 : k < j
      · rw [if_pos h2]; simp only [lkH]
        by_cases h : k = s
        · simp [h]
        · simp [h, Ne.symm h]
      · rw [if_neg h2]; simp only [lkH, lkH_setH r k d s]
        by_cases h : j = s
        · subst h; simp [h1]
        · simp [h]
theorem lk_mapF (f : DV → DV) (hf : f .undef = .undef) : ∀ (r : Fr) (s : Nat), lk (mapF f r) s = f (lk r s)
  | [], s => by simp [mapF, lk, hf]
  | (k, d) :: r, s => by
    simp only [mapF, lk, lk_mapF f hf r s]
    split <;> rfl
theorem lkH_mapH (f : DV → DV) : ∀ (r : Hp) (s : Nat), lkH (mapH f r) s = (lkH r s).map (·.map f)
  | [], s => by simp [mapH, lkH]
  | (k, d) :: r, s => by
    simp only [mapH, lkH, lkH_mapH f r s]
    split <;> rfl

structure FnD where
  P : Program
  vs : List Nat
  own : List Nat
  n : Nat
  nb : Nat
  pure : Bool := false

/-- The slots as the two frames say: variables, temporaries of the region. -/
def den (vs : List Nat) (te fr : Fr) : Nat → DV := fun s => if vs.contains s then lk fr s else lk te s
def ev (te fr : Fr) : Opd → DV
  | .x k => lk fr k
  | .t k => lk te k
  | .c d => d

theorem ev_den (vs : List Nat) (te fr : Fr) (x : Operand) : ev te fr (sOpd vs x) = evS (den vs te fr) (sOpd vs x) := by
  cases x with
  | tmp k =>
    by_cases h : vs.contains k = true
    · simp only [sOpd, h, if_true, ev, evS, den]
    · have h' : vs.contains k = false := by simpa using h
      simp only [sOpd, h', Bool.false_eq_true, if_false, ev, evS, den]
  | _ => rfl

def Eff.onF : Eff → Fr → Fr
  | .app o _, r => mapF (purge o) r
  | _, r => r
def Eff.onL : Eff → Hp → Hp
  | .no, H => H
  | .set o c, H => setH H o c
  | .new o c, H => setH H o c
  | .app o c, H => setH (mapH (purge o) H) o c
theorem purge_undef (o : Nat) : purge o .undef = .undef := by simp [purge]
theorem den_onF (vs : List Nat) (ef : Eff) (te fr : Fr) : den vs (ef.onF te) (ef.onF fr) = ef.onS (den vs te fr) := by
  cases ef with
  | app o c =>
    funext s
    simp only [den, Eff.onF, Eff.onS, purgeS, lk_mapF _ (purge_undef o)]
    split <;> rfl
  | _ => rfl
theorem lkH_onL (ef : Eff) (H : Hp) : lkH (ef.onL H) = ef.onH (lkH H) := by
  cases ef with
  | no => rfl
  | set o c => funext s; simp only [Eff.onL, Eff.onH, Heap.upd, lkH_setH]
  | new o c => funext s; simp only [Eff.onL, Eff.onH, Heap.upd, lkH_setH]
  | app o c => funext s; simp only [Eff.onL, Eff.onH, Heap.upd, lkH_setH, lkH_mapH, Heap.purge]

def Dst.onT : Dst → Fr → DV → Fr
  | .t k, te, d => (k, d) :: te
  | _, te, _ => te
def Dst.onX : Dst → Fr → DV → Fr
  | .x k, fr, d => setF fr k d
  | _, fr, _ => fr
theorem den_put (vs : List Nat) (dst : Option Nat) (te fr : Fr) (d : DV) : den vs ((sDst vs dst).onT te d) ((sDst vs dst).onX fr d) = updS (den vs te fr) dst d := by
  cases dst with
  | none => rfl
  | some k =>
    funext s
    by_cases h : vs.contains k = true
    · simp only [sDst, h, if_true, Dst.onT, Dst.onX, den, updS, lk_setF]
      by_cases hs : s = k
      · subst hs; simp only [h, if_true]
      · simp only [hs, if_false]
    · have h' : vs.contains k = false := by simpa using h
      simp only [sDst, h', Bool.false_eq_true, if_false, Dst.onT, Dst.onX, den, updS, lk]
      by_cases hs : s = k
      · subst hs; simp only [h', Bool.false_eq_true, if_false, if_true]
      · simp only [hs, Ne.symm hs, if_false]
theorem sDst_slot (vs : List Nat) (dst : Option Nat) : (sDst vs dst).slot = dst := by
  cases dst with
  | none => rfl
  | some k => simp only [sDst]; split <;> rfl

/-! ### Calls -/
/-- Pure contract: whatever the memory, data of these arguments, nothing that was there has turned, the result is data. -/
def PCalls (P : Program) (f : Nat) (args : List DV) (r : DV) : Prop :=
  ∀ (A : Nat → Prop) (w : World) (us : Array Value), (∀ b, A b → b < w.heap.size) → us.size = args.length → (∀ (k : Nat) d v, args[k]? = some d → us[k]? = some v → VI w A d v) →
    Calls P f us w fun e w' => ∃ v, e = .returned v ∧ VI w' A r v ∧ Ext (fun _ => False) w w'

/-- What a call does to the state of the walk, as the walk wants it. -/
def callW (P : Program) (vs : List Nat) (f : Nat) (ds : List DV) (te fr : Fr) (H : Hp) (K : DV → Fr → Fr → Hp → Prop) : Prop :=
  ∀ (G : Cx) (L : Nat → Option Nat) (a : Act) (w : World) (us : Array Value), R G L (den vs te fr) (lkH H) a w → us.size = ds.length →
    (∀ (k : Nat) d v, ds[k]? = some d → us[k]? = some v → V w L (Av G.S L) d v) →
    Calls P f us w fun e w' => ∃ v L' d te' fr' H', e = .returned v ∧ R G L' (den vs te' fr') (lkH H') a w' ∧ V w' L' (Av G.S L') d v ∧ K d te' fr' H'

theorem callW_pure {P : Program} {vs : List Nat} {f : Nat} {ds : List DV} {te fr : Fr} {H : Hp} {K : DV → Fr → Fr → Hp → Prop} {r : DV} (hc : PCalls P f ds r) (hrf : ds.all DV.rf = true) (hK : K r te fr H) :
    callW P vs f ds te fr H K := by
  intro G L a w us hR hs hv
  have hA : ∀ b, Av G.S L b → b < w.heap.size := by
    rintro b (h | ⟨o, h⟩)
    · exact hR.sLt b h
    · exact hR.heap.lt h
  refine (hc (Av G.S L) w us hA hs fun k d v h1 h2 => (hv k d v h1 h2).rf_imm (List.all_eq_true.1 hrf d (List.mem_of_getElem? h1))).mono ?_
  rintro e w' ⟨v, rfl, hvi, hx⟩
  exact ⟨v, L, r, te, fr, H, rfl, hR.still hx, .imm hvi, hK⟩

/-- The call as the region wants it: a region that draws its order takes pure calls of plain data alone. -/
def callR (F : FnD) (f : Nat) (ds : List DV) (te fr : Fr) (H : Hp) (K : DV → Fr → Fr → Hp → Prop) : Prop :=
  if F.pure then ∃ r, PCalls F.P f ds r ∧ ds.all DV.rf = true ∧ K r te fr H else callW F.P F.vs f ds te fr H K
theorem callR_pure {F : FnD} {f : Nat} {ds : List DV} {te fr : Fr} {H : Hp} {K : DV → Fr → Fr → Hp → Prop} {r : DV} (hc : PCalls F.P f ds r) (hrf : ds.all DV.rf = true) (hK : K r te fr H) :
    callR F f ds te fr H K := by
  unfold callR
  split
  · exact ⟨r, hc, hrf, hK⟩
  · exact callW_pure hc hrf hK
theorem callR_of {F : FnD} {f : Nat} {ds : List DV} {te fr : Fr} {H : Hp} {K : DV → Fr → Fr → Hp → Prop} (hF : F.pure = false) (h : callW F.P F.vs f ds te fr H K) : callR F f ds te fr H K := by
  unfold callR; rw [hF]; exact h
theorem callR_W {F : FnD} {f : Nat} {ds : List DV} {te fr : Fr} {H : Hp} {K : DV → Fr → Fr → Hp → Prop} (h : callR F f ds te fr H K) : callW F.P F.vs f ds te fr H K := by
  unfold callR at h
  split at h
  · obtain ⟨r, h1, h2, h3⟩ := h; exact callW_pure h1 h2 h3
  · exact h

/-! ### Regions -/
/-- 'x' is a value of which K holds. -/
def OW {α : Type} (x : Option α) (K : α → Prop) : Prop := ∃ a, x = some a ∧ K a
theorem OW_some {α : Type} (a : α) (K : α → Prop) : OW (some a) K ↔ K a := by simp [OW]
theorem OW_none {α : Type} (K : α → Prop) : OW none K ↔ False := by simp [OW]
theorem OW_gd {α : Type} (c : Prop) (x : Option α) (K : α → Prop) : OW (gd c x) K ↔ c ∧ OW x K := by
  unfold OW gd
  by_cases h : c <;> simp [h]

def regW (F : FnD) : List DOper → Fr → Fr → Hp → (Fr → Fr → Hp → Prop) → Prop
  | [], te, fr, H, K => K te fr H
  | o :: os, te, fr, H, K =>
    let skip := regW F os (o.dst.onT te (.tup [])) (o.dst.onX fr (.tup [])) H K
    let go := match o.op with
      | .call f args => callR F f (args.map (ev te fr)) te fr H fun d te' fr' H' => regW F os (o.dst.onT te' d) (o.dst.onX fr' d) H' K
      | p => OW (opE F.nb o.dst.slot (ev te fr) (lkH H) p) fun r => regW F os (o.dst.onT (r.2.onF te) r.1) (o.dst.onX (r.2.onF fr) r.1) (r.2.onL H) K
    match o.guard with
    | none => go
    | some (g, want) => match ev te fr g with
      | .bool b => (b = want → go) ∧ (b = !want → skip)
      | .tup [] => skip
      | _ => False

section
variable {F : FnD} {G : Cx} {L : Nat → Option Nat} {a : Act} {w : World} {h : Heap}

theorem getD_ne {l : Array Value} {k : Nat} {v : Value} (h : l.getD k undef = v) (hv : v ≠ undef) : l[k]? = some v := by
  rw [Array.getD_eq_getD_getElem?] at h
  cases hk : l[k]? with
  | none => rw [hk] at h; exact absurd h.symm hv
  | some u => rw [hk] at h; exact congrArg some h

theorem wanted_bool {ops : Array Oper} {o : Oper} {g : Opd} {want b : Bool} {te fr : Fr} (hR : R G L (den F.vs te fr) h a w) (hg : sGuard F.vs ops o.guard = some (some (g, want))) (hb : ev te fr g = .bool b) :
    Region.wanted o (yielded ops a.tmps) = (b == want) := by
  cases hgd : o.guard with
  | none => rw [hgd] at hg; simp [sGuard] at hg
  | some p =>
    obtain ⟨j, w0⟩ := p
    rw [hgd] at hg
    simp only [sGuard, Option.map_eq_some_iff] at hg
    obtain ⟨k, hk, hg⟩ := hg
    cases hg
    rw [ev_den] at hb
    have hv := hR.slots k
    have hs : den F.vs te fr k = .bool b := by
      by_cases hc : F.vs.contains k = true
      · simpa only [sOpd, hc, if_true, evS] using hb
      · have hc' : F.vs.contains k = false := by simpa using hc
        simpa only [sOpd, hc', Bool.false_eq_true, if_false, evS] using hb
    rw [hs] at hv
    have h1 := getD_ne hv.inv_bool (by simp [undef])
    simp [Region.wanted, hgd, yielded, hk, h1]
end
end Go.Dat
