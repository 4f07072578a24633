/- Joining the ways through a piece of code. Over any program. -/
import Derived.Test.YtecilkmigjbfoaaDat18
set_option linter.unusedSimpArgs false
set_option linter.unusedVariables false
namespace Go.Dat
open Go
theorem W_mono {F : FnD} {c : DC} {Q Q' : Ex → Fr → Hp → Prop} {fr : Fr} {H : Hp} (h : W F c Q fr H) (hq : ∀ e fr H, Q e fr H → Q' e fr H) : W F c Q' fr H := by
  intro code hc G L a w hn hR
  refine wp_mono (h code hc G L a w hn hR) fun e a' w' => ?_
  rintro ⟨L', fr', H', de, h1, h2, h3⟩
  exact ⟨L', fr', H', de, h1, h2, hq _ _ _ h3⟩
/-- Whatever way is gone, the rest is walked once. -/
theorem W_join {F : FnD} {c rest : DC} {Q : Ex → Fr → Hp → Prop} {fr : Fr} {H : Hp} {ι : Type} (I : ι → Prop) (fr' : ι → Fr) (H' : ι → Hp)
    (h1 : W F c (fun e fr1 H1 => match e with
      | .norm => ∃ i, I i ∧ subF fr1 (fr' i) ∧ H1 = H' i
      | e => Q e fr1 H1) fr H) (h2 : ∀ i, I i → W F rest Q (fr' i) (H' i)) : W F c (seqQ F rest Q) fr H := by
  refine W_mono h1 fun e fr1 H1 h => ?_
  cases e with
  | norm =>
    obtain ⟨i, hi, hs, rfl⟩ := h
    exact W_sub hs (h2 i hi)
  | exit j => exact h
  | ret => exact h

theorem ev_x (te fr : Fr) (k : Nat) : ev te fr (.x k) = lk fr k := rfl
theorem ev_t (te fr : Fr) (k : Nat) : ev te fr (.t k) = lk te k := rfl
theorem ev_c (te fr : Fr) (d : DV) : ev te fr (.c d) = d := rfl
/-! ### Calls without a binder: 'simp' need not look into what comes after -/
def callC (F : FnD) (os : List DOper) (dst : Dst) (f : Nat) (ds : List DV) (te fr : Fr) (H : Hp) (K : Fr → Fr → Hp → Prop) : Prop :=
  callR F f ds te fr H fun d te' fr' H' => regW F os (dst.onT te' d) (dst.onX fr' d) H' K
theorem callC_pure {F : FnD} {os : List DOper} {dst : Dst} {f : Nat} {ds : List DV} {te fr : Fr} {H : Hp} {K : Fr → Fr → Hp → Prop} {r : DV} (hc : PCalls F.P f ds r) (hrf : ds.all DV.rf = true)
    (hK : regW F os (dst.onT te r) (dst.onX fr r) H K) : callC F os dst f ds te fr H K := callR_pure hc hrf hK
theorem callC_freeze {F : FnD} {os : List DOper} {dst : Dst} {f : Nat} {ds : List DV} {te fr : Fr} {H : Hp} {K : Fr → Fr → Hp → Prop} (hp : F.pure = false) (o : Nat) {cells : List DV} (ho : lkH H o = some cells) (hrf : cells.all DV.rf = true)
    (hc : callC F os dst f (ds.map (frz o cells)) (mapF (frz o cells) te) (mapF (frz o cells) fr) (rmH o cells H) K) : callC F os dst f ds te fr H K := callR_freeze hp o ho hrf hc
theorem callC_W {F : FnD} {os : List DOper} {dst : Dst} {f : Nat} {ds : List DV} {te fr : Fr} {H : Hp} {K : Fr → Fr → Hp → Prop} (hp : F.pure = false)
    (h : callW F.P F.vs f ds te fr H fun d te' fr' H' => regW F os (dst.onT te' d) (dst.onX fr' d) H' K) : callC F os dst f ds te fr H K := callR_of hp h
section
variable (F : FnD) (os : List DOper) (dst : Dst) (te fr : Fr) (H : Hp) (K : Fr → Fr → Hp → Prop)
theorem goW_call (f : Nat) (args : List Opd) : goW F os dst te fr H K (.call f args) = callC F os dst f (args.map (ev te fr)) te fr H K := rfl
theorem goW_mv (x : Opd) : goW F os dst te fr H K (.mv x) = regW F os (dst.onT te (ev te fr x)) (dst.onX fr (ev te fr x)) H K := by simp [goW, opE, stepW_no]
theorem goW_pick (c a b : Opd) : goW F os dst te fr H K (.pick c a b) = stepW F os dst te fr H K (opE F.nb dst.slot (ev te fr) (lkH H) (.pick c a b)) := rfl
theorem goW_alloc (z : List DV) : goW F os dst te fr H K (.alloc z) = stepW F os dst te fr H K (opE F.nb dst.slot (ev te fr) (lkH H) (.alloc z)) := rfl
theorem goW_box (x : Opd) : goW F os dst te fr H K (.box x) = stepW F os dst te fr H K (opE F.nb dst.slot (ev te fr) (lkH H) (.box x)) := rfl
theorem goW_build (z : List DV) (ps : List (Nat × Nat × Opd)) : goW F os dst te fr H K (.build z ps) = stepW F os dst te fr H K (opE F.nb dst.slot (ev te fr) (lkH H) (.build z ps)) := rfl
theorem goW_bsl (sz : Nat) (z : List DV) (ps : List (Nat × Nat × Opd)) : goW F os dst te fr H K (.bsl sz z ps) = stepW F os dst te fr H K (opE F.nb dst.slot (ev te fr) (lkH H) (.bsl sz z ps)) := rfl
theorem goW_bsl_ (sz : Nat) (z : List DV) (ps : List (Nat × Nat × Opd)) : goW F os dst te fr H K (.bsl' sz z ps) = stepW F os dst te fr H K (opE F.nb dst.slot (ev te fr) (lkH H) (.bsl' sz z ps)) := rfl
theorem goW_ld (x : Opd) : goW F os dst te fr H K (.ld x) = stepW F os dst te fr H K (opE F.nb dst.slot (ev te fr) (lkH H) (.ld x)) := rfl
theorem goW_ldn (n : Nat) (x : Opd) : goW F os dst te fr H K (.ldn n x) = stepW F os dst te fr H K (opE F.nb dst.slot (ev te fr) (lkH H) (.ldn n x)) := rfl
theorem goW_st (x v : Opd) : goW F os dst te fr H K (.st x v) = stepW F os dst te fr H K (opE F.nb dst.slot (ev te fr) (lkH H) (.st x v)) := rfl
theorem goW_stn (n : Nat) (x v : Opd) : goW F os dst te fr H K (.stn n x v) = stepW F os dst te fr H K (opE F.nb dst.slot (ev te fr) (lkH H) (.stn n x v)) := rfl
theorem goW_nilc (x : Opd) : goW F os dst te fr H K (.nilc x) = stepW F os dst te fr H K (opE F.nb dst.slot (ev te fr) (lkH H) (.nilc x)) := rfl
theorem goW_bin (op : BinOp) (x y : Opd) : goW F os dst te fr H K (.bin op x y) = stepW F os dst te fr H K (opE F.nb dst.slot (ev te fr) (lkH H) (.bin op x y)) := rfl
theorem goW_beq (neg : Bool) (x y : Opd) : goW F os dst te fr H K (.beq neg x y) = stepW F os dst te fr H K (opE F.nb dst.slot (ev te fr) (lkH H) (.beq neg x y)) := rfl
theorem goW_un (op : UnOp) (x : Opd) : goW F os dst te fr H K (.un op x) = stepW F os dst te fr H K (opE F.nb dst.slot (ev te fr) (lkH H) (.un op x)) := rfl
theorem goW_conv (k : IntKind) (x : Opd) : goW F os dst te fr H K (.conv k x) = stepW F os dst te fr H K (opE F.nb dst.slot (ev te fr) (lkH H) (.conv k x)) := rfl
theorem goW_s2b (x : Opd) : goW F os dst te fr H K (.s2b x) = stepW F os dst te fr H K (opE F.nb dst.slot (ev te fr) (lkH H) (.s2b x)) := rfl
theorem goW_b2s (x : Opd) : goW F os dst te fr H K (.b2s x) = stepW F os dst te fr H K (opE F.nb dst.slot (ev te fr) (lkH H) (.b2s x)) := rfl
theorem goW_mks (sz bytes : Nat) (z : List DV) (l c : Opd) : goW F os dst te fr H K (.mks sz bytes z l c) = stepW F os dst te fr H K (opE F.nb dst.slot (ev te fr) (lkH H) (.mks sz bytes z l c)) := rfl
theorem goW_slc (sz : Nat) (x : Opd) (lo hi : Option Opd) : goW F os dst te fr H K (.slc sz x lo hi) = stepW F os dst te fr H K (opE F.nb dst.slot (ev te fr) (lkH H) (.slc sz x lo hi)) := rfl
theorem goW_slcS (x : Opd) (lo hi : Option Opd) : goW F os dst te fr H K (.slcS x lo hi) = stepW F os dst te fr H K (opE F.nb dst.slot (ev te fr) (lkH H) (.slcS x lo hi)) := rfl
theorem goW_fad (off : Nat) (x : Opd) : goW F os dst te fr H K (.fad off x) = stepW F os dst te fr H K (opE F.nb dst.slot (ev te fr) (lkH H) (.fad off x)) := rfl
theorem goW_fld (off : Nat) (x : Opd) : goW F os dst te fr H K (.fld off x) = stepW F os dst te fr H K (opE F.nb dst.slot (ev te fr) (lkH H) (.fld off x)) := rfl
theorem goW_fldn (off n : Nat) (x : Opd) : goW F os dst te fr H K (.fldn off n x) = stepW F os dst te fr H K (opE F.nb dst.slot (ev te fr) (lkH H) (.fldn off n x)) := rfl
theorem goW_iad (sz : Nat) (x i : Opd) : goW F os dst te fr H K (.iad sz x i) = stepW F os dst te fr H K (opE F.nb dst.slot (ev te fr) (lkH H) (.iad sz x i)) := rfl
theorem goW_iaa (len sz : Nat) (x i : Opd) : goW F os dst te fr H K (.iaa len sz x i) = stepW F os dst te fr H K (opE F.nb dst.slot (ev te fr) (lkH H) (.iaa len sz x i)) := rfl
theorem goW_idx (x i : Opd) : goW F os dst te fr H K (.idx x i) = stepW F os dst te fr H K (opE F.nb dst.slot (ev te fr) (lkH H) (.idx x i)) := rfl
theorem goW_ext (x : Opd) (i : Nat) : goW F os dst te fr H K (.ext x i) = stepW F os dst te fr H K (opE F.nb dst.slot (ev te fr) (lkH H) (.ext x i)) := rfl
theorem goW_len (sz : Nat) (x : Opd) : goW F os dst te fr H K (.len sz x) = stepW F os dst te fr H K (opE F.nb dst.slot (ev te fr) (lkH H) (.len sz x)) := rfl
theorem goW_lenS (x : Opd) : goW F os dst te fr H K (.lenS x) = stepW F os dst te fr H K (opE F.nb dst.slot (ev te fr) (lkH H) (.lenS x)) := rfl
theorem goW_s2s (x : Opd) : goW F os dst te fr H K (.s2s x) = stepW F os dst te fr H K (opE F.nb dst.slot (ev te fr) (lkH H) (.s2s x)) := rfl
theorem goW_app (sz bytes : Nat) (s x : Opd) : goW F os dst te fr H K (.app sz bytes s x) = stepW F os dst te fr H K (opE F.nb dst.slot (ev te fr) (lkH H) (.app sz bytes s x)) := rfl
theorem goW_mki (t : Nat) (x : Opd) : goW F os dst te fr H K (.mki t x) = stepW F os dst te fr H K (opE F.nb dst.slot (ev te fr) (lkH H) (.mki t x)) := rfl
theorem goW_min2 (x y : Opd) : goW F os dst te fr H K (.min2 x y) = stepW F os dst te fr H K (opE F.nb dst.slot (ev te fr) (lkH H) (.min2 x y)) := rfl
theorem goW_max2 (x y : Opd) : goW F os dst te fr H K (.max2 x y) = stepW F os dst te fr H K (opE F.nb dst.slot (ev te fr) (lkH H) (.max2 x y)) := rfl
theorem goW_pan (x : Opd) : goW F os dst te fr H K (.pan x) = stepW F os dst te fr H K (opE F.nb dst.slot (ev te fr) (lkH H) (.pan x)) := rfl
end
end Go.Dat
