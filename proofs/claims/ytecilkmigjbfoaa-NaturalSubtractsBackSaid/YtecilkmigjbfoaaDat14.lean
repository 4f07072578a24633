/- Regions that draw their order: one walk of the text's order serves every order, where 'drawOK' says so. Over any program. -/
import Derived.Test.YtecilkmigjbfoaaDat13
set_option linter.unusedSimpArgs false
set_option linter.unusedVariables false
namespace Go.Dat
open Go

/-! ### 'opE' looks at its operands alone -/
theorem opE_congr {nb : Nat} {dst : Option Nat} {e e' : Opd → DV} {h : Heap} {p : DOp} (he : ∀ o ∈ p.opds, e o = e' o) : opE nb dst e h p = opE nb dst e' h p := by
  have hps : ∀ (ps : List (Nat × Nat × Opd)), (∀ o ∈ ps.map (·.2.2), e o = e' o) → (ps.map fun p => (p.1, p.2.1, e p.2.2)) = ps.map fun p => (p.1, p.2.1, e' p.2.2) := by
    intro ps hp
    refine List.map_congr_left fun p hm => ?_
    rw [hp _ (List.mem_map.2 ⟨p, hm, rfl⟩)]
  have hb : ∀ (n : Nat) (x : Option Opd) (d : Nat), (∀ o ∈ x.toList, e o = e' o) → boundE e n x d = boundE e' n x d := by
    intro n x d hx
    cases x with
    | none => rfl
    | some x => simp only [boundE]; rw [hx x (by simp)]
  cases p with
  | build z ps => simp only [opE]; rw [hps ps he]
  | bsl sz z ps => simp only [opE]; rw [hps ps he]
  | bsl' sz z ps => simp only [opE]; rw [hps ps he]
  | slc sz x lo hi =>
    simp only [DOp.opds, List.mem_cons, List.mem_append] at he
    have hx := he x (.inl rfl)
    have hlo := fun n d => hb n lo d fun o ho => he o (.inr (.inl ho))
    have hhi := fun n d => hb n hi d fun o ho => he o (.inr (.inr ho))
    simp only [opE, hx, hlo, hhi]
  | slcS x lo hi =>
    simp only [DOp.opds, List.mem_cons, List.mem_append] at he
    have hx := he x (.inl rfl)
    have hlo := fun n d => hb n lo d fun o ho => he o (.inr (.inl ho))
    have hhi := fun n d => hb n hi d fun o ho => he o (.inr (.inr ho))
    simp only [opE, hx, hlo, hhi]
  | call f args => rfl
  | alloc z => rfl
  | pan x => rfl
  | _ => simp only [DOp.opds, List.mem_cons, List.not_mem_nil, or_false, forall_eq_or_imp, forall_eq] at he; simp only [opE, he]

def NoEff (x : Option (DV × Eff)) : Prop := ∀ d ef, x = some (d, ef) → ef = .no
theorem NoEff.none : NoEff none := by intro d ef h; cases h
theorem NoEff.some (d : DV) : NoEff (some (d, .no)) := by intro d' ef h; cases h; rfl
theorem NoEff.gd {c : Prop} {x : Option (DV × Eff)} (h : NoEff x) : NoEff (gd c x) := fun d ef e => h d ef (gd_some e).2
theorem NoEff.map {α : Type} (x : Option α) (f : α → DV) : NoEff (x.map fun a => (f a, .no)) := by
  intro d ef h
  rw [Option.map_eq_some_iff] at h
  obtain ⟨_, _, h⟩ := h
  cases h; rfl
theorem NoEff.bind {α : Type} {x : Option α} {f : α → Option (DV × Eff)} (h : ∀ a, NoEff (f a)) : NoEff (x.bind f) := by
  intro d ef e
  rw [Option.bind_eq_some_iff] at e
  obtain ⟨a, _, e⟩ := e
  exact h a d ef e

/-- Operations that only compute, or read: no effect. -/
theorem opE_noEff {nb : Nat} {dst : Option Nat} {e : Opd → DV} {h : Heap} {p : DOp} (hc : p.cls ≤ 1) : NoEff (opE nb dst e h p) := by
  cases p <;> first | (simp [DOp.cls] at hc; done) | skip
  all_goals
    simp only [opE]
    repeat' split
    all_goals repeat' first | exact NoEff.none | exact NoEff.some _ | exact NoEff.map _ _ | apply NoEff.gd | (apply NoEff.bind; intro _)

/-- Operations that only compute ask nothing of the objects. -/
theorem opE_pure {nb : Nat} {dst : Option Nat} {e : Opd → DV} {h h' : Heap} {p : DOp} (hc : p.cls = 0) : opE nb dst e h p = opE nb dst e h' p := by
  cases p <;> first | (simp [DOp.cls] at hc; done) | rfl

/-- 'h'' knows what 'h' knows. -/
def Heap.le (h h' : Heap) : Prop := ∀ o c, h o = some c → h' o = some c
theorem opE_read {nb : Nat} {dst : Option Nat} {e : Opd → DV} {h h' : Heap} (hle : h.le h') {p : DOp} (hc : p.cls = 1) {r : DV × Eff} (he : opE nb dst e h p = some r) : opE nb dst e h' p = some r := by
  cases p <;> first | (simp [DOp.cls] at hc; done) | skip
  all_goals
    simp only [opE] at he ⊢
    split at he
    all_goals first
      | exact he
      | (simp only [Option.bind_eq_some_iff] at he ⊢; obtain ⟨c, h1, h2⟩ := he; exact ⟨c, hle _ _ h1, h2⟩)

/-- What makes an object: under the name of its slot, if that is free. -/
theorem opE_new {nb : Nat} {dst : Option Nat} {e : Opd → DV} {h : Heap} {p : DOp} (hc : p.cls = 2) {d : DV} {ef : Eff} (he : opE nb dst e h p = some (d, ef)) :
    ∃ k cells, dst = some k ∧ ef = .new (nb + k) cells ∧ h (nb + k) = none ∧ ∀ h' : Heap, h' (nb + k) = none → opE nb dst e h' p = some (d, ef) := by
  have fr : ∀ (h : Heap) o, freshE nb dst h = some o → ∃ k, dst = some k ∧ o = nb + k ∧ h (nb + k) = none := by
    intro h o ho
    unfold freshE at ho
    cases dst with
    | none => cases ho
    | some k =>
      simp only [Option.bind_some] at ho
      split at ho
      · rename_i hn; cases ho; exact ⟨k, rfl, rfl, by simpa using hn⟩
      · cases ho
  have fr' : ∀ (h' : Heap) k, dst = some k → h' (nb + k) = none → freshE nb dst h' = some (nb + k) := by
    intro h' k hk hn
    subst hk
    simp [freshE, hn]
  cases p <;> first | (simp [DOp.cls] at hc; done) | skip
  case alloc z =>
    simp only [opE, Option.map_eq_some_iff] at he
    obtain ⟨o, ho, he⟩ := he
    cases he
    obtain ⟨k, hk, rfl, hn⟩ := fr h o ho
    exact ⟨k, z, hk, rfl, hn, fun h' hn' => by simp only [opE, fr' h' k hk hn', Option.map_some]⟩
  case box x =>
    simp only [opE, Option.bind_eq_some_iff, Option.map_eq_some_iff] at he
    obtain ⟨cs, hcs, o, ho, he⟩ := he
    cases he
    obtain ⟨k, hk, rfl, hn⟩ := fr h o ho
    exact ⟨k, cs, hk, rfl, hn, fun h' hn' => by simp only [opE, hcs, fr' h' k hk hn', Option.map_some, Option.bind_some]⟩
  case bsl' sz z ps =>
    simp only [opE, Option.bind_eq_some_iff, Option.map_eq_some_iff] at he
    obtain ⟨cs, hcs, o, ho, he⟩ := he
    cases he
    obtain ⟨k, hk, rfl, hn⟩ := fr h o ho
    exact ⟨k, cs, hk, rfl, hn, fun h' hn' => by simp only [opE, hcs, fr' h' k hk hn', Option.map_some, Option.bind_some]⟩
  case mks sz bytes z l c =>
    simp only [opE] at he
    split at he
    · rename_i k1 a1 k2 b1 e1 e2
      obtain ⟨hg, he'⟩ := gd_some he
      rw [Option.map_eq_some_iff] at he'
      obtain ⟨o, ho, he'⟩ := he'
      cases he'
      obtain ⟨k, hk, rfl, hn⟩ := fr h o ho
      exact ⟨k, _, hk, rfl, hn, fun h' hn' => by simp only [opE, e1, e2, fr' h' k hk hn', Option.map_some]; exact gd_pos _ hg⟩
    · cases he

/-- What writes: at an object that is there. -/
theorem opE_set {nb : Nat} {dst : Option Nat} {e : Opd → DV} {h : Heap} {p : DOp} (hc : p.cls = 3) {d : DV} {ef : Eff} (he : opE nb dst e h p = some (d, ef)) : ∃ o cells, ef = .set o cells := by
  cases p <;> first | (simp [DOp.cls] at hc; done) | skip
  all_goals
    simp only [opE] at he
    split at he
    · simp only [Option.bind_eq_some_iff] at he
      first
        | (obtain ⟨cs, hcs, cv, hcv, he⟩ := he; obtain ⟨_, he⟩ := gd_some he; cases he; exact ⟨_, _, rfl⟩)
        | (obtain ⟨cs, hcs, he⟩ := he; obtain ⟨_, he⟩ := gd_some he; cases he; exact ⟨_, _, rfl⟩)
    · cases he

/-! ### One step, as functions -/
def gS (σ : Nat → DV) : Option (Opd × Bool) → Option Bool
  | none => some true
  | some (g, w) => match evS σ g with
    | .bool b => some (b == w)
    | .tup [] => some false
    | _ => none

/-- What an operation that is carried out gives. -/
def goD (F : FnD) (dp : DOper) (σ : Nat → DV) (h : Heap) (d : DV) (ef : Eff) : Prop :=
  match dp.op with
  | .call f args => PCalls F.P f (args.map (evS σ)) d ∧ (args.map (evS σ)).all DV.rf = true ∧ ef = .no
  | p => opE F.nb dp.dst.slot (evS σ) h p = some (d, ef)

structure Gives (F : FnD) (dp : DOper) (σ : Nat → DV) (h : Heap) (d : DV) (ef : Eff) : Prop where
  out : (gS σ dp.guard = some true ∧ goD F dp σ h d ef) ∨ (gS σ dp.guard = some false ∧ d = .tup [] ∧ ef = .no)

theorem evS_upd {σ : Nat → DV} {k : Option Nat} {d : DV} {o : Opd} (h : ∀ s, k = some s → o.slot ≠ some s) : evS (updS σ k d) o = evS σ o := by
  cases k with
  | none => rfl
  | some s =>
    have hs := h s rfl
    cases o with
    | c d => rfl
    | x j => simp only [Opd.slot] at hs; simp only [evS, updS]; rw [if_neg (fun e => hs (by rw [e]))]
    | t j => simp only [Opd.slot] at hs; simp only [evS, updS]; rw [if_neg (fun e => hs (by rw [e]))]

theorem apart_ev {x y : DOper} (h : x.apart y = true) : (∀ s, x.dst.slot = some s → s ∉ y.looks) ∧ (∀ s, y.dst.slot = some s → s ∉ x.looks) ∧ (∀ s, x.dst.slot = some s → y.dst.slot ≠ some s) := by
  refine ⟨fun s hs => ?_, fun s hs => ?_, fun s hs => ?_⟩ <;> simp [DOper.apart, hs] at h
  · exact h.1.1
  · exact h.2
  · exact h.1.2

/-- A slot that an operation does not look at may turn. -/
theorem Gives.upd {F : FnD} {dp : DOper} {σ : Nat → DV} {h : Heap} {d d' : DV} {ef : Eff} {k : Option Nat} (hk : ∀ s, k = some s → s ∉ dp.looks) :
    Gives F dp (updS σ k d') h d ef ↔ Gives F dp σ h d ef := by
  have hop : ∀ o ∈ dp.op.opds, evS (updS σ k d') o = evS σ o := fun o ho => evS_upd fun s hs e => hk s hs (by
    unfold DOper.looks; exact List.mem_append.2 (.inl (List.mem_filterMap.2 ⟨o, ho, e⟩)))
  have hg : gS (updS σ k d') dp.guard = gS σ dp.guard := by
    cases hgu : dp.guard with
    | none => rfl
    | some p =>
      obtain ⟨g, w⟩ := p
      have : evS (updS σ k d') g = evS σ g := evS_upd fun s hs e => hk s hs (by
        unfold DOper.looks; rw [hgu]; exact List.mem_append.2 (.inr (by simp [e])))
      simp only [gS, this]
  have hgo : goD F dp (updS σ k d') h d ef ↔ goD F dp σ h d ef := by
    unfold goD
    obtain ⟨dst, op, guard⟩ := dp
    cases op with
    | call f args =>
      simp only
      have : args.map (evS (updS σ k d')) = args.map (evS σ) := List.map_congr_left fun o ho => hop o ho
      rw [this]
    | _ => simp only; rw [opE_congr hop]
  constructor
  · rintro ⟨h1⟩; exact ⟨by rw [hg, hgo] at h1; exact h1⟩
  · rintro ⟨h1⟩; exact ⟨by rw [hg, hgo]; exact h1⟩
end Go.Dat
