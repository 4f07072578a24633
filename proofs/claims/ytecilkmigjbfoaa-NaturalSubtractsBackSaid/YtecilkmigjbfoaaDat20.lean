/- Nil slices as empty ones, ahead of a call. Over any program. -/
import Derived.Test.YtecilkmigjbfoaaDat19
set_option linter.unusedSimpArgs false
set_option linter.unusedVariables false
namespace Go.Dat
open Go
/-- 'r' says no more than 'd'. -/
inductive Nil2 : DV → DV → Prop where
  | same (d : DV) : Nil2 d d
  | nil (sz : Nat) : Nil2 .nils (.sl sz [])
theorem Nil2.V {w : World} {L : Nat → Option Nat} {A : Nat → Prop} {d r : DV} {v : Value} (h : Nil2 d r) (hv : V w L A d v) : V w L A r v := by
  cases h with
  | same => exact hv
  | nil sz => rw [hv.inv_nils]; exact .imm (.sl0 _ _ _)
theorem callC_nil {F : FnD} {os : List DOper} {dst : Dst} {f : Nat} {ds rs : List DV} {te fr : Fr} {H : Hp} {K : Fr → Fr → Hp → Prop} {r : DV} (hp : F.pure = false) (hl : rs.length = ds.length)
    (he : ∀ (k : Nat) d r, ds[k]? = some d → rs[k]? = some r → Nil2 d r) (hc : PCalls F.P f rs r) (hrf : rs.all DV.rf = true) (hK : regW F os (dst.onT te r) (dst.onX fr r) H K) : callC F os dst f ds te fr H K := by
  refine callC_W hp ?_
  have hw := callW_pure (vs := F.vs) (te := te) (fr := fr) (H := H) (K := fun d te' fr' H' => regW F os (dst.onT te' d) (dst.onX fr' d) H' K) hc hrf hK
  intro G L a w us hR hs hv
  refine hw G L a w us hR (by omega) fun k r v h1 h2 => ?_
  obtain ⟨d, hd⟩ := exists_get (l := ds) (k := k) (by have := (List.getElem?_eq_some_iff.1 h1).1; omega)
  exact (he k d r hd h1).V (hv k d v hd h2)
theorem callC_nil1 {F : FnD} {os : List DOper} {dst : Dst} {f : Nat} (sz : Nat) {te fr : Fr} {H : Hp} {K : Fr → Fr → Hp → Prop} {r : DV} (hp : F.pure = false) (hc : PCalls F.P f [.sl sz []] r) (hK : regW F os (dst.onT te r) (dst.onX fr r) H K) :
    callC F os dst f [.nils] te fr H K :=
  callC_nil (rs := [.sl sz []]) hp rfl (fun k d r h1 h2 => by
    cases k with
    | zero => simp at h1 h2; subst h1; subst h2; exact .nil sz
    | succ k => simp at h1) hc rfl hK
end Go.Dat
