/- Freezing: an own object that nobody writes any more becomes plain data. Over any program. -/
import Derived.Test.YtecilkmigjbfoaaDat16
import Derived.Test.YtecilkmigjbfoaaDat13
set_option linter.unusedSimpArgs false
set_option linter.unusedVariables false
namespace Go.Dat
open Go

def frz (o : Nat) (cells : List DV) : DV → DV
  | .osl sz p off len => if p = o then (if sz ≠ 0 ∧ off + len * sz ≤ cells.length then .sl sz ((cells.drop off).take (len * sz)) else .undef) else .osl sz p off len
  | d => purge o d
def rmH (o : Nat) (cells : List DV) : Hp → Hp
  | [] => []
  | (k, d) :: r => if k = o then rmH o cells r else (k, d.map (frz o cells)) :: rmH o cells r
theorem frz_undef (o : Nat) (cells : List DV) : frz o cells .undef = .undef := by simp [frz, purge]
theorem lkH_rmH (o : Nat) (cells : List DV) : ∀ (H : Hp) (s : Nat), lkH (rmH o cells H) s = if s = o then none else (lkH H s).map (·.map (frz o cells))
  | [], s => by simp [rmH, lkH]
  | (k, d) :: r, s => by
    simp only [rmH, lkH]
    by_cases h1 : k = o
    · rw [if_pos h1, lkH_rmH o cells r s]
      by_cases h2 : s = o
      · simp [h2]
      · rw [if_neg h2, if_neg h2, if_neg (by omega)]
    · rw [if_neg h1]
      simp only [lkH, lkH_rmH o cells r s]
      by_cases h2 : k = s
      · subst h2; simp [h1]
      · simp [h2]

section
variable {G : Cx} {L : Nat → Option Nat} {σ : Nat → DV} {h : Heap} {a : Act} {w : World}

theorem R.freeze (o : Nat) {cells : List DV} (ho : h o = some cells) (hrf : cells.all DV.rf = true) (hR : R G L σ h a w) :
    R G (updL L o none) (fun s => frz o cells (σ s)) (fun p => if p = o then none else (h p).map (·.map (frz o cells))) a w := by
  have hinv : ∀ p b, updL L o none p = some b → p ≠ o ∧ L p = some b := fun p b hp => by
    unfold updL at hp; by_cases e : p = o
    · rw [if_pos e] at hp; cases hp
    · rw [if_neg e] at hp; exact ⟨e, hp⟩
  have hAA : ∀ b, ¬ Av G.S L b → ¬ Av G.S (updL L o none) b := by
    rintro b hA (hS | ⟨p, hp⟩)
    · exact hA (.inl hS)
    · exact hA (.inr ⟨p, (hinv p b hp).2⟩)
  have hPV : ∀ d v, V w L (Av G.S L) d v → V w (updL L o none) (Av G.S (updL L o none)) (Dat.purge o d) v := fun d v hd =>
    hd.purge o (fun b _ hA => ⟨rfl, hAA b hA⟩) fun p b hne hp => ⟨by simp [updL, hne, hp], rfl⟩
  have hV : ∀ d v, V w L (Av G.S L) d v → V w (updL L o none) (Av G.S (updL L o none)) (frz o cells d) v := fun d v hd => by
    cases d with
    | osl sz p off len =>
      simp only [frz]
      by_cases hp : p = o
      · subst hp
        rw [if_pos rfl]
        split
        · rename_i hfit
          rcases hd.inv_osl with ⟨b, c, T, m, hL, rfl, hc, hs, hm⟩ | ⟨rfl, rfl⟩
          · obtain ⟨cells', cur, T', hho, hb, hl', hpp⟩ := hR.heap.at_ hL
            rw [ho] at hho; cases hho
            by_cases h0 : (cells.drop off).take (len * sz) = []
            · rw [h0]
              have : len = 0 := by
                rcases Nat.eq_zero_or_pos len with e | e
                · exact e
                · have h1 := Nat.mul_pos e (Nat.pos_of_ne_zero hfit.1)
                  have h2 := congrArg List.length h0
                  simp at h2; omega
              subst this
              exact .imm (.sl0 _ _ _)
            · have hlen : ((cells.drop off).take (len * sz)).length = len * sz := by simp; omega
              have hget : ∀ k r, ((cells.drop off).take (len * sz))[k]? = some r → ∃ u, cur[off + k]? = some u ∧ VI w (Av G.S (updL L p none)) r u := by
                intro k r hk
                have hlt : k < len * sz := by have := (List.getElem?_eq_some_iff.1 hk).1; omega
                obtain ⟨u, hu⟩ := exists_aget (l := cur) (k := off + k) (by omega)
                have hc := cut_get hk
                refine ⟨u, hu, ((hpp _ r u hc hu).rf_imm (List.all_eq_true.1 hrf r (List.mem_of_getElem? hc))).mono fun b _ hA => ⟨rfl, hAA b hA⟩⟩
              have hnb : ¬ Av G.S (updL L p none) b := by
                rintro (h1 | ⟨q, h1⟩)
                · exact hR.heap.notS p b hL h1
                · obtain ⟨h2, h3⟩ := hinv q b h1
                  exact h2 (hR.heap.inj q p b h3 hL)
              refine .imm (.sl (ad := ⟨b, off, none⟩) (fun k => (cur[off + k]?).getD Go.undef) h0 hlen hc hnb (fun k r hk => ?_) (fun k r hk => ?_))
              · obtain ⟨u, hu, _⟩ := hget k r hk
                rw [add_lit, cell_of_row w b _ cur T' (0, 0) hb, hu]; rfl
              · obtain ⟨u, hu, hv'⟩ := hget k r hk
                rw [hu]; exact hv'
          · simp only [Nat.zero_mul, List.take_zero]
            exact .imm (.sl0 _ _ _)
        · exact .imm (.undef _)
      · rw [if_neg hp]
        have := hPV _ _ hd
        unfold Dat.purge at this
        rwa [if_neg (by simpa [DV.has] using hp)] at this
    | _ => exact hPV _ _ hd
  refine { hR with slots := fun s => hV _ _ (hR.slots s), heap := ⟨?_, ?_, ?_, ?_⟩, own := fun p b hp => hR.own p b (hinv p b hp).2 }
  · intro p b hp
    obtain ⟨hne, hp'⟩ := hinv p b hp
    obtain ⟨c, hc⟩ := hR.heap.dom p b hp'
    exact ⟨_, by simp only [hne, if_false, hc, Option.map_some]; rfl⟩
  · intro p c hp
    by_cases e : p = o
    · simp only [e, if_true] at hp; cases hp
    · simp only [e, if_false, Option.map_eq_some_iff] at hp
      obtain ⟨c0, hc0, rfl⟩ := hp
      rcases hR.heap.obj p c0 hc0 with ⟨h1, h2⟩ | ⟨b, cs, T, hL, hb, hl, hv⟩
      · exact .inl ⟨by simp [updL, e, h1], by simp [h2]⟩
      · refine .inr ⟨b, cs, T, by simp [updL, e, hL], hb, by simpa using hl, fun k d v h1 h2 => ?_⟩
        simp only [List.getElem?_map, Option.map_eq_some_iff] at h1
        obtain ⟨d0, hd0, rfl⟩ := h1
        exact hV _ _ (hv k d0 v hd0 h2)
  · intro p q b hp hq
    exact hR.heap.inj p q b (hinv p b hp).2 (hinv q b hq).2
  · intro p b hp
    exact hR.heap.notS p b (hinv p b hp).2
end

theorem R.freezeL {G : Cx} {L : Nat → Option Nat} {a : Act} {w : World} {vs : List Nat} {te fr : Fr} {H : Hp} (o : Nat) {cells : List DV} (ho : lkH H o = some cells) (hrf : cells.all DV.rf = true) (hR : R G L (den vs te fr) (lkH H) a w) :
    R G (updL L o none) (den vs (mapF (frz o cells) te) (mapF (frz o cells) fr)) (lkH (rmH o cells H)) a w := by
  have := hR.freeze o ho hrf
  have e1 : (fun s => frz o cells (den vs te fr s)) = den vs (mapF (frz o cells) te) (mapF (frz o cells) fr) := by
    funext s
    simp only [den, lk_mapF _ (frz_undef o cells)]
    split <;> rfl
  have e2 : (fun p => if p = o then none else (lkH H p).map (·.map (frz o cells))) = lkH (rmH o cells H) := by
    funext p; rw [lkH_rmH]
  rw [e1, e2] at this
  exact this

theorem W_freeze {F : FnD} {c : DC} {Q : Ex → Fr → Hp → Prop} {fr : Fr} {H : Hp} (o : Nat) {cells : List DV} (ho : lkH H o = some cells) (hrf : cells.all DV.rf = true)
    (hw : W F c Q (mapF (frz o cells) fr) (rmH o cells H)) : W F c Q fr H := by
  intro code hc G L a w hn hR
  exact hw code hc G _ a w hn (hR.freezeL (te := []) o ho hrf)

/-- An own slice handed to a function that makes plain data of it: it is own no more. -/
theorem callR_freeze {F : FnD} {f : Nat} {ds : List DV} {te fr : Fr} {H : Hp} {K : DV → Fr → Fr → Hp → Prop} (hp : F.pure = false) (o : Nat) {cells : List DV} (ho : lkH H o = some cells) (hrf : cells.all DV.rf = true)
    (hc : callR F f (ds.map (frz o cells)) (mapF (frz o cells) te) (mapF (frz o cells) fr) (rmH o cells H) K) : callR F f ds te fr H K := by
  refine callR_of hp ?_
  have hc' := callR_W hc
  intro G L a w us hR hs hv
  refine hc' G _ a w us (hR.freezeL o ho hrf) (by simpa using hs) fun k d v h1 h2 => ?_
  rw [List.getElem?_map, Option.map_eq_some_iff] at h1
  obtain ⟨d0, hd0, rfl⟩ := h1
  -- by the slots' own argument, on a frame of one slot
  have hv0 := hv k d0 v hd0 h2
  have hR1 : R ⟨G.S, w, fun _ => True, 1⟩ L (fun s => if s = 0 then d0 else .undef) (lkH H) { tmps := #[v], defers := [] } w := by
    refine ⟨rfl, rfl, fun s => ?_, hR.heap, Ext.refl _ _, hR.sLt, fun o b ho => .inl trivial⟩
    · by_cases e : s = 0
      · subst e; simpa using hv0
      · simp only [e, if_false]; exact .imm (.undef _)
  have := (hR1.freeze o ho hrf).slots 0
  simpa using this
end Go.Dat
