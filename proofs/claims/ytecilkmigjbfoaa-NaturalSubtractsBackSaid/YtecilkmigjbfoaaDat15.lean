/- Regions that draw their order (2): whatever order comes, the data are those of the text's order. Over any program. -/
import Derived.Test.YtecilkmigjbfoaaDat14
set_option linter.unusedSimpArgs false
set_option linter.unusedVariables false
namespace Go.Dat
open Go

section
variable {F : FnD}

theorem Gives.noEff {dp : DOper} {σ : Nat → DV} {h : Heap} {d : DV} {ef : Eff} (hc : dp.op.cls ≤ 1) (hg : Gives F dp σ h d ef) : ef = .no := by
  rcases hg.out with ⟨_, h1⟩ | ⟨_, _, h1⟩
  · obtain ⟨dst, op, guard⟩ := dp
    cases op with
    | call f args => exact h1.2.2
    | _ => exact opE_noEff hc _ _ h1
  · exact h1
theorem Gives.heap0 {dp : DOper} {σ : Nat → DV} {h h' : Heap} {d : DV} {ef : Eff} (hc : dp.op.cls = 0) (hg : Gives F dp σ h d ef) : Gives F dp σ h' d ef := by
  rcases hg.out with ⟨h0, h1⟩ | h1
  · refine ⟨.inl ⟨h0, ?_⟩⟩
    obtain ⟨dst, op, guard⟩ := dp
    cases op with
    | call f args => exact h1
    | _ => exact (opE_pure (h' := h) hc).trans h1
  · exact ⟨.inr h1⟩
theorem Gives.heap1 {dp : DOper} {σ : Nat → DV} {h h' : Heap} (hle : h.le h') {d : DV} {ef : Eff} (hc : dp.op.cls = 1) (hg : Gives F dp σ h d ef) : Gives F dp σ h' d ef := by
  rcases hg.out with ⟨h0, h1⟩ | h1
  · refine ⟨.inl ⟨h0, ?_⟩⟩
    obtain ⟨dst, op, guard⟩ := dp
    cases op with
    | call f args => exact h1
    | _ => exact opE_read hle hc h1
  · exact ⟨.inr h1⟩
theorem Gives.new2 {dp : DOper} {σ : Nat → DV} {h : Heap} {d : DV} {ef : Eff} (hc : dp.op.cls = 2) (hg : Gives F dp σ h d ef) :
    (ef = .no ∧ ∀ h', Gives F dp σ h' d ef) ∨ ∃ k cells, dp.dst.slot = some k ∧ ef = .new (F.nb + k) cells ∧ h (F.nb + k) = none ∧ ∀ h' : Heap, h' (F.nb + k) = none → Gives F dp σ h' d ef := by
  rcases hg.out with ⟨h0, h1⟩ | ⟨h0, h1, h2⟩
  · obtain ⟨dst, op, guard⟩ := dp
    cases op with
    | call f args => simp [DOp.cls] at hc
    | _ =>
      obtain ⟨k, cells, e1, e2, e3, e4⟩ := opE_new hc h1
      exact .inr ⟨k, cells, e1, e2, e3, fun h' hn => ⟨.inl ⟨h0, e4 h' hn⟩⟩⟩
  · exact .inl ⟨h2, fun h' => ⟨.inr ⟨h0, h1, h2⟩⟩⟩
theorem Gives.onS {dp : DOper} {σ τ : Nat → DV} {h : Heap} {d : DV} {ef : Eff} (hc : dp.op.cls ≠ 4) (hg : Gives F dp σ h d ef) : ef.onS τ = τ := by
  have hcls : dp.op.cls ≤ 1 ∨ dp.op.cls = 2 ∨ dp.op.cls = 3 := by
    revert hc; cases dp.op <;> simp [DOp.cls]
  rcases hcls with h1 | h1 | h1
  · rw [hg.noEff h1]; rfl
  · rcases hg.new2 h1 with ⟨e, _⟩ | ⟨k, c, _, e, _⟩ <;> rw [e] <;> rfl
  · rcases hg.out with ⟨_, h2⟩ | ⟨_, _, h2⟩
    · obtain ⟨dst, op, guard⟩ := dp
      cases op with
      | call f args => rw [h2.2.2]; rfl
      | _ =>
        obtain ⟨o, c, e⟩ := opE_set h1 h2
        rw [e]; rfl
    · rw [h2]; rfl

theorem updS_comm {σ : Nat → DV} {x y : Option Nat} {d e : DV} (hne : ∀ s, x = some s → y ≠ some s) : updS (updS σ y e) x d = updS (updS σ x d) y e := by
  cases x with
  | none => cases y <;> rfl
  | some s =>
    cases y with
    | none => rfl
    | some t =>
      have : s ≠ t := fun e => hne s rfl (by rw [e])
      funext k
      simp only [updS]
      by_cases h1 : k = s
      · subst h1; rw [if_pos rfl, if_neg this, if_pos rfl]
      · rw [if_neg h1]
        by_cases h2 : k = t
        · rw [if_pos h2, if_pos h2]
        · rw [if_neg h2, if_neg h2, if_neg h1]

theorem le_upd {h : Heap} {o : Nat} {c : List DV} (hn : h o = none) : h.le (h.upd o (some c)) := by
  intro p d hp
  unfold Heap.upd
  split
  · rename_i e; subst e; rw [hn] at hp; cases hp
  · exact hp

theorem diamond {x y : DOper} {σ : Nat → DV} {h : Heap} {di dj : DV} {ei ej : Eff} (hap : x.apart y = true) (hcl : clsOK x.op.cls y.op.cls = true) (hi : Gives F x σ h di ei)
    (hj : Gives F y (updS (ei.onS σ) x.dst.slot di) (ei.onH h) dj ej) :
    Gives F y σ h dj ej ∧ Gives F x (updS (ej.onS σ) y.dst.slot dj) (ej.onH h) di ei ∧
      updS (ei.onS (updS (ej.onS σ) y.dst.slot dj)) x.dst.slot di = updS (ej.onS (updS (ei.onS σ) x.dst.slot di)) y.dst.slot dj ∧ ei.onH (ej.onH h) = ej.onH (ei.onH h) := by
  obtain ⟨a1, a2, a3⟩ := apart_ev hap
  have hx4 : x.op.cls ≠ 4 := by intro e; rw [e] at hcl; revert hcl; cases y.op <;> simp [clsOK, DOp.cls]
  have hy4 : y.op.cls ≠ 4 := by intro e; rw [e] at hcl; revert hcl; cases x.op <;> simp [clsOK, DOp.cls]
  rw [hi.onS hx4] at hj ⊢
  rw [hj.onS hy4, hi.onS hx4, hj.onS hy4]
  rw [Gives.upd a1] at hj
  rw [Gives.upd a2]
  refine ⟨?_, ?_, updS_comm a3, ?_⟩
  all_goals
    simp only [clsOK, Bool.or_eq_true, Bool.and_eq_true, beq_iff_eq, bne_iff_ne] at hcl
  · rcases hcl with (((⟨h1, _⟩ | ⟨h1, _⟩) | ⟨h1, h2⟩) | ⟨h1, h2⟩) | ⟨h1, h2⟩
    · rw [hi.noEff (by omega)] at hj; exact hj
    · exact hj.heap0 h1
    · rw [hi.noEff (by omega)] at hj; exact hj
    · rw [hi.noEff (by omega)] at hj; exact hj
    · rcases hj.new2 h2 with ⟨_, e⟩ | ⟨k, c, e1, e2, e3, e4⟩
      · exact e h
      · refine e4 h ?_
        rcases hi.new2 h1 with ⟨e5, _⟩ | ⟨k', c', e5, e6, e7, _⟩
        · rw [e5] at e3; exact e3
        · rw [e6] at e3
          simp only [Eff.onH, Heap.upd] at e3
          split at e3
          · cases e3
          · exact e3
  · rcases hcl with (((⟨h1, _⟩ | ⟨h1, _⟩) | ⟨h1, h2⟩) | ⟨h1, h2⟩) | ⟨h1, h2⟩
    · exact hi.heap0 h1
    · rw [hj.noEff (by omega)]; exact hi
    · rw [hj.noEff (by omega)]; exact hi
    · rcases hj.new2 h2 with ⟨e, _⟩ | ⟨k, c, e1, e2, e3, _⟩
      · rw [e]; exact hi
      · rw [e2]
        rw [hi.noEff (by omega)] at e3
        exact hi.heap1 (le_upd e3) h1
    · rcases hi.new2 h1 with ⟨_, e⟩ | ⟨k, c, e1, e2, e3, e4⟩
      · exact e _
      · refine e4 _ ?_
        rcases hj.new2 h2 with ⟨e5, _⟩ | ⟨k', c', e5, e6, e7, _⟩
        · rw [e5]; exact e3
        · rw [e6]
          simp only [Eff.onH, Heap.upd]
          rw [if_neg (fun e => a3 k e1 (by rw [e5]; congr 1; omega))]
          exact e3
  · rcases hcl with (((⟨h1, _⟩ | ⟨h1, _⟩) | ⟨h1, h2⟩) | ⟨h1, h2⟩) | ⟨h1, h2⟩
    · rw [hi.noEff (by omega)]; rfl
    · rw [hj.noEff (by omega)]; rfl
    · rw [hi.noEff (by omega)]; rfl
    · rw [hi.noEff (by omega)]; rfl
    · rcases hi.new2 h1 with ⟨e, _⟩ | ⟨k, c, e1, e2, e3, e4⟩
      · rw [e]; rfl
      · rcases hj.new2 h2 with ⟨e5, _⟩ | ⟨k', c', e5, e6, e7, _⟩
        · rw [e5]; rfl
        · rw [e2, e6]
          have hne : F.nb + k ≠ F.nb + k' := fun e => a3 k e1 (by rw [e5]; congr 1; omega)
          simp only [Eff.onH]
          funext p
          simp only [Heap.upd]
          by_cases q1 : p = F.nb + k
          · rw [if_pos q1, if_neg (by omega), if_pos q1]
          · rw [if_neg q1, if_neg q1]
end

/-! ### Who waits for whom -/
inductive Dep (ops : Array Oper) : Nat → Nat → Prop where
  | direct {j : Nat} {o : Oper} {e : Edge} (ho : ops[j]? = some o) (he : e ∈ o.after) (hb : Region.binds .any e = true) : Dep ops j e.on
  | step {j i : Nat} {o : Oper} {e : Edge} (ho : ops[j]? = some o) (he : e ∈ o.after) (hb : Region.binds .any e = true) (h : Dep ops e.on i) : Dep ops j i
def ClosedL (ops : Array Oper) (listed : Array Bool) : Prop :=
  ∀ j o, listed.getD j false = true → ops[j]? = some o → ∀ e ∈ o.after, Region.binds .any e = true → listed.getD e.on false = true
theorem dep_listed {ops : Array Oper} {listed : Array Bool} (hc : ClosedL ops listed) {j i : Nat} (hd : Dep ops j i)
    (hj : ∀ o, ops[j]? = some o → ∀ e ∈ o.after, Region.binds .any e = true → listed.getD e.on false = true) : listed.getD i false = true := by
  induction hd with
  | direct ho he hb => exact hj _ ho _ he hb
  | step ho he hb _ ih => exact ih fun o' ho' => hc _ o' (hj _ ho _ he hb) ho'

theorem depsOf_sound {ops : Array Oper} {acc : List (List Nat)} {j : Nat} {o : Oper} (ho : ops[j]? = some o) (ha : ∀ k x, x ∈ acc.getD k [] → Dep ops k x) : ∀ x ∈ depsOf acc o, Dep ops j x := by
  intro x hx
  unfold depsOf at hx
  rw [List.mem_eraseDups] at hx
  simp only [List.mem_flatMap, List.mem_filter, Array.mem_toList_iff, List.mem_cons] at hx
  obtain ⟨e, ⟨he, hb⟩, h | h⟩ := hx
  · subst h; exact .direct ho he hb
  · exact .step ho he hb (ha _ _ h)
theorem depsAll_sound {ops : Array Oper} : ∀ (l : List Oper) (acc : List (List Nat)), (∀ j, l[j]? = ops[acc.length + j]?) → (∀ k x, x ∈ acc.getD k [] → Dep ops k x) →
    ∀ k x, x ∈ (depsAll l acc).getD k [] → Dep ops k x
  | [], acc, _, ha => ha
  | o :: l, acc, hl, ha => by
    have h0 : ops[acc.length]? = some o := by simpa using (hl 0).symm
    refine depsAll_sound l (acc ++ [depsOf acc o]) (fun j => by have := hl (j + 1); simpa [Nat.add_assoc, Nat.add_comm 1 j] using this) fun k x hx => ?_
    rw [List.getD_eq_getElem?_getD, List.getElem?_append] at hx
    split at hx
    · exact ha k x (by rw [List.getD_eq_getElem?_getD]; exact hx)
    · by_cases e : k = acc.length
      · subst e
        simp at hx
        exact depsOf_sound h0 ha x hx
      · have : [depsOf acc o][k - acc.length]? = none := by simp; omega
        rw [this] at hx; simp at hx
end Go.Dat
