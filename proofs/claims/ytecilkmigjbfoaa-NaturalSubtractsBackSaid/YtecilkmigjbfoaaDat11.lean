/- The rules for code, and for functions. Over any program. -/
import Derived.Test.YtecilkmigjbfoaaDat10
set_option linter.unusedSimpArgs false
set_option linter.unusedVariables false
namespace Go.Dat
open Go

/-! ### Which regions may be carried out in the text's order though they draw theirs -/
/-- What an operation does to own objects: 0 nothing, 1 it reads, 2 it makes one, 3 it writes, 4 anything. -/
def DOp.cls : DOp → Nat
  | .ld _ | .ldn .. | .b2s _ => 1
  | .alloc _ | .box _ | .mks .. | .bsl' .. => 2
  | .st .. | .stn .. => 3
  | .app .. | .pan _ => 4
  | _ => 0
/-- May an operation of class i, which the text has first, change places with one of class j? -/
def clsOK (i j : Nat) : Bool := (i == 0 && j != 4) || (j == 0 && i != 4) || (i == 1 && j == 1) || (i == 1 && j == 2) || (i == 2 && j == 2)
def DOp.opds : DOp → List Opd
  | .mv x | .box x | .ld x | .ldn _ x | .nilc x | .un _ x | .conv _ x | .s2b x | .b2s x | .fad _ x | .fld _ x | .fldn _ _ x | .ext x _ | .len _ x | .lenS x | .s2s x | .mki _ x | .pan x => [x]
  | .pick c a b => [c, a, b]
  | .alloc _ => []
  | .build _ ps | .bsl _ _ ps | .bsl' _ _ ps => ps.map (·.2.2)
  | .st x y | .stn _ x y | .bin _ x y | .beq _ x y | .mks _ _ _ x y | .iad _ x y | .iaa _ _ x y | .idx x y | .app _ _ x y | .min2 x y | .max2 x y => [x, y]
  | .slc _ x lo hi | .slcS x lo hi => x :: (lo.toList ++ hi.toList)
  | .call _ args => args
def Opd.slot : Opd → Option Nat
  | .x k | .t k => some k
  | .c _ => none
/-- The slots that an operation looks at. -/
def DOper.looks (d : DOper) : List Nat := d.op.opds.filterMap Opd.slot ++ (match d.guard with | some (g, _) => g.slot.toList | none => [])
def DOper.apart (x y : DOper) : Bool :=
  (match x.dst.slot with
   | some d => !y.looks.contains d && y.dst.slot != some d
   | none => true) &&
  (match y.dst.slot with
   | some d => !x.looks.contains d
   | none => true)
def tagOK (vs : List Nat) : Opd → Bool
  | .x k => vs.contains k
  | .t k => !vs.contains k
  | .c _ => true
def tagD (vs : List Nat) : Dst → Bool
  | .x k => vs.contains k
  | .t k => !vs.contains k
  | .no => true
def DOper.tags (vs : List Nat) (d : DOper) : Bool := tagD vs d.dst && d.op.opds.all (tagOK vs) && (match d.guard with | some (g, _) => tagOK vs g | none => true)

/-- Whom an operation waits for, in however many steps. -/
def depsOf (acc : List (List Nat)) (o : Oper) : List Nat :=
  ((o.after.toList.filter (Region.binds .any)).flatMap fun e => e.on :: acc.getD e.on []).eraseDups
def depsAll : List Oper → List (List Nat) → List (List Nat)
  | [], acc => acc
  | o :: r, acc => depsAll r (acc ++ [depsOf acc o])

/-- Each operation may be taken first when its turn comes in the text: what is left either waits for it or lies apart from it. -/
def drawFrom (ops : Array Oper) (ds : List DOper) (deps : List (List Nat)) : Nat → Nat → Array Bool → Bool
  | 0, _, listed => (Region.ready .any ops listed).isEmpty
  | fuel + 1, k, listed =>
    (Region.ready .any ops listed).contains k &&
    (List.range ops.size).all (fun j => j == k || listed.getD j true || (deps.getD j []).contains k ||
      (match ds[k]?, ds[j]? with
       | some x, some y => x.apart y && clsOK x.op.cls y.op.cls
       | _, _ => true)) &&
    drawFrom ops ds deps fuel (k + 1) (listed.setIfInBounds k true)
def drawOK (vs : List Nat) (ops : Array Oper) (ds : List DOper) : Bool := Region.noSelect ops && ds.all (·.tags vs) && drawFrom ops ds (depsAll ops.toList []) ops.size 0 (Array.replicate ops.size false)

def strip (P : Program) (vs own : List Nat) (n : Nat) : Code → DC
  | .skip => .skip
  | .region _ ops draw => match sOpers P vs own n ops ops.toList with
    | some ds => if draw then (if drawOK vs ops ds && P.follows .mixedOrders then .regd ds else .bad) else .reg ds
    | none => .bad
  | .seq a b => .seq (strip P vs own n a) (strip P vs own n b)
  | .cond c a b => .cond (sOpd vs c) (strip P vs own n a) (strip P vs own n b)
  | .block id b => .block id (strip P vs own n b)
  | .loop b => .loop (strip P vs own n b)
  | .exit id => .exit id
  | .ret => .ret
  | _ => .bad

inductive Ex where
  | norm
  | exit (id : Nat)
  | ret

def er : Exit → Option Ex
  | .normal => some .norm
  | .exit id => some (.exit id)
  | .ret => some .ret
  | _ => none

/-- What is left behind a piece of code. -/
def Post (F : FnD) (G : Cx) (Q : Ex → Fr → Hp → Prop) (e : Exit) (a : Act) (w : World) : Prop :=
  ∃ L fr H de, R G L (den F.vs [] fr) (lkH H) a w ∧ er e = some de ∧ Q de fr H

/-- The data level's triple. -/
def W (F : FnD) (c : DC) (Q : Ex → Fr → Hp → Prop) (fr : Fr) (H : Hp) : Prop :=
  ∀ code, strip F.P F.vs F.own F.n code = c → ∀ (G : Cx) (L : Nat → Option Nat) (a : Act) (w : World), G.n = F.n → R G L (den F.vs [] fr) (lkH H) a w → code.wp F.P (Post F G Q) a w

section
variable {F : FnD} {Q : Ex → Fr → Hp → Prop} {fr : Fr} {H : Hp}

theorem W_skip (h : Q .norm fr H) : W F .skip Q fr H := by
  intro code hc G L a w hn hR
  cases code <;> simp only [strip] at hc <;> first | (cases hc; done) | (repeat' split at hc) <;> first | (cases hc; done) | skip
  all_goals first | exact wp_skip ⟨L, fr, H, .norm, hR, rfl, h⟩ | contradiction

theorem W_exit {id : Nat} (h : Q (.exit id) fr H) : W F (.exit id) Q fr H := by
  intro code hc G L a w hn hR
  cases code <;> simp only [strip] at hc <;> first | (cases hc; done) | (repeat' split at hc) <;> first | (cases hc; done) | skip
  all_goals first | (cases hc; exact wp_exit ⟨L, fr, H, .exit _, hR, rfl, h⟩) | contradiction

theorem W_ret (h : Q .ret fr H) : W F .ret Q fr H := by
  intro code hc G L a w hn hR
  cases code <;> simp only [strip] at hc <;> first | (cases hc; done) | (repeat' split at hc) <;> first | (cases hc; done) | skip
  all_goals first | exact wp_ret ⟨L, fr, H, .ret, hR, rfl, h⟩ | contradiction

def seqQ (F : FnD) (b : DC) (Q : Ex → Fr → Hp → Prop) : Ex → Fr → Hp → Prop
  | .norm, fr, H => W F b Q fr H
  | e, fr, H => Q e fr H

theorem W_seq {b c : DC} (h : W F b (seqQ F c Q) fr H) : W F (.seq b c) Q fr H := by
  intro code hc G L a w hn hR
  cases code <;> simp only [strip] at hc <;> first | (cases hc; done) | (repeat' split at hc) <;> first | (cases hc; done) | skip
  all_goals try contradiction
  rename_i x y
  cases hc
  refine wp_seq (wp_mono (h x rfl G L a w hn hR) fun e a' w' => ?_)
  rintro ⟨L', fr', H', de, hR', he, hq⟩
  cases e <;> simp only [er, Option.some.injEq, reduceCtorEq] at he
  · subst he; exact hq y rfl G L' a' w' hn hR'
  · subst he; exact ⟨L', fr', H', _, hR', rfl, hq⟩
  · subst he; exact ⟨L', fr', H', _, hR', rfl, hq⟩

theorem W_reg {ds : List DOper} (h : regW F ds [] fr H fun _ fr H => Q .norm fr H) : W F (.reg ds) Q fr H := by
  intro code hc G L a w hn hR
  cases code <;> simp only [strip] at hc <;> first | (cases hc; done) | skip
  rename_i id ops draw
  split at hc
  · rename_i ds' hds
    split at hc
    · split at hc <;> cases hc
    · rename_i hd
      cases hc
      have hd' : draw = false := by simpa using hd
      subst hd'
      refine wp_region_list (regW_sound hn (fun te fr H L a w hR' hk => ?_) ops.toList ds hds [] fr H L a w hR h)
      refine ⟨L, fr, H, .norm, hR'.weak fun s => ?_, rfl, hk⟩
      simp only [den, lk]
      split
      · exact .inl rfl
      · exact .inr rfl
  · cases hc

theorem W_cond {c : Opd} {x y : DC} {b : Bool} (hc : ev [] fr c = .bool b) (ht : b = true → W F x Q fr H) (hf : b = false → W F y Q fr H) : W F (.cond c x y) Q fr H := by
  intro code hs G L a w hn hR
  cases code <;> simp only [strip] at hs <;> first | (cases hs; done) | (repeat' split at hs) <;> first | (cases hs; done) | skip
  all_goals try contradiction
  rename_i c' x' y'
  cases hs
  rw [ev_den] at hc
  have hv := ev_V (vs := F.vs) hR c'
  rw [hc] at hv
  refine wp_cond_split hv.inv_bool (fun hb => ht hb x' rfl G L a w hn hR) (fun hb => hf hb y' rfl G L a w hn hR)

def blkQ (id : Nat) (Q : Ex → Fr → Hp → Prop) : Ex → Fr → Hp → Prop
  | .exit j, fr, H => if j = id then Q .norm fr H else Q (.exit j) fr H
  | e, fr, H => Q e fr H

theorem W_block {id : Nat} {b : DC} (h : W F b (blkQ id Q) fr H) : W F (.block id b) Q fr H := by
  intro code hc G L a w hn hR
  cases code <;> simp only [strip] at hc <;> first | (cases hc; done) | (repeat' split at hc) <;> first | (cases hc; done) | skip
  all_goals try contradiction
  cases hc
  refine wp_block (wp_mono (h _ rfl G L a w hn hR) fun e a' w' => ?_)
  rintro ⟨L', fr', H', de, hR', he, hq⟩
  cases e <;> simp only [er, Option.some.injEq, reduceCtorEq] at he
  · subst he; exact ⟨L', fr', H', _, hR', rfl, hq⟩
  · subst he
    simp only [blkQ] at hq
    simp only [Exit.inBlock]
    split at hq
    · rename_i e; rw [if_pos e]; exact ⟨L', fr', H', _, hR', rfl, hq⟩
    · rename_i e; rw [if_neg e]; exact ⟨L', fr', H', _, hR', rfl, hq⟩
  · subst he; exact ⟨L', fr', H', _, hR', rfl, hq⟩

/-- The second frame says no more than the first. -/
def subF (fr : Fr) : Fr → Prop
  | [] => True
  | (k, d) :: r => lk fr k = d ∧ subF fr r
theorem subF_lk {fr : Fr} : ∀ {r : Fr}, subF fr r → ∀ s, lk r s = lk fr s ∨ lk r s = .undef
  | [], _, s => .inr rfl
  | (k, d) :: r, h, s => by
    simp only [lk]
    split
    · rename_i e; subst e; exact .inl h.1.symm
    · exact subF_lk h.2 s
theorem W_sub {c : DC} {fr' : Fr} (hs : subF fr fr') (h : W F c Q fr' H) : W F c Q fr H := by
  intro code hc G L a w hn hR
  refine h code hc G L a w hn (hR.weak fun s => ?_)
  simp only [den]
  split
  · exact subF_lk hs s
  · exact .inl rfl

theorem exists_min {p : Nat → Prop} (h : ∃ n, p n) : ∃ n, p n ∧ ∀ m, p m → n ≤ m := by
  obtain ⟨n, hn⟩ := h
  induction n using Nat.strongRecOn with
  | _ n ih =>
    by_cases hm : ∃ m, m < n ∧ p m
    · obtain ⟨m, h1, h2⟩ := hm
      exact ih m h1 h2
    · refine ⟨n, hn, fun m hp => ?_⟩
      rcases Nat.lt_or_ge m n with h1 | h1
      · exact absurd ⟨m, h1, hp⟩ hm
      · exact h1

/-- A loop: its states are 'F s', 'G s' for what s says; each round lowers the measure. -/
theorem W_loop {σ : Type} {b : DC} (fr' : σ → Fr) (H' : σ → Hp) (I : σ → Prop) (μ : σ → Nat) (s0 : σ) (h0 : I s0) (hf : subF fr (fr' s0)) (hH : H = H' s0)
    (round : ∀ s, I s → W F b (fun e fr1 H1 => match e with
      | .norm => ∃ s', I s' ∧ μ s' < μ s ∧ subF fr1 (fr' s') ∧ H1 = H' s'
      | e => Q e fr1 H1) (fr' s) (H' s)) : W F (.loop b) Q fr H := by
  intro code hc G L a w hn hR
  cases code <;> simp only [strip] at hc <;> first | (cases hc; done) | (repeat' split at hc) <;> first | (cases hc; done) | skip
  all_goals try contradiction
  rename_i body
  cases hc
  subst hH
  have weak : ∀ {fr1 fr2 : Fr} {H1 : Hp} {L a w}, subF fr1 fr2 → R G L (den F.vs [] fr1) (lkH H1) a w → R G L (den F.vs [] fr2) (lkH H1) a w := by
    intro fr1 fr2 H1 L a w hs hR
    refine hR.weak fun s => ?_
    simp only [den]
    split
    · exact subF_lk hs s
    · exact .inl rfl
  classical
  let inv : Act → World → Prop := fun a w => ∃ s L, I s ∧ R G L (den F.vs [] (fr' s)) (lkH (H' s)) a w
  let mes : Act → World → Nat := fun a w => if h : ∃ n, ∃ s L, I s ∧ R G L (den F.vs [] (fr' s)) (lkH (H' s)) a w ∧ μ s = n then Classical.choose (exists_min h) else 0
  have hmes : ∀ a w, inv a w → ∃ s L, I s ∧ R G L (den F.vs [] (fr' s)) (lkH (H' s)) a w ∧ μ s = mes a w := by
    rintro a w ⟨s, L, h1, h2⟩
    have hex : ∃ n, ∃ s L, I s ∧ R G L (den F.vs [] (fr' s)) (lkH (H' s)) a w ∧ μ s = n := ⟨_, s, L, h1, h2, rfl⟩
    have := (Classical.choose_spec (exists_min hex)).1
    simp only [mes, dif_pos hex]
    exact this
  have hmin : ∀ a w s L, I s → R G L (den F.vs [] (fr' s)) (lkH (H' s)) a w → mes a w ≤ μ s := by
    intro a w s L h1 h2
    have hex : ∃ n, ∃ s L, I s ∧ R G L (den F.vs [] (fr' s)) (lkH (H' s)) a w ∧ μ s = n := ⟨_, s, L, h1, h2, rfl⟩
    simp only [mes, dif_pos hex]
    exact (Classical.choose_spec (exists_min hex)).2 _ ⟨s, L, h1, h2, rfl⟩
  refine wp_loop inv mes ⟨s0, L, h0, weak hf hR⟩ fun a w hI => ?_
  obtain ⟨s, L, hs, hRs, hm⟩ := hmes a w hI
  refine wp_mono (round s hs body rfl G L a w hn hRs) fun e a' w' => ?_
  rintro ⟨L', fr1, H1, de, hR', he, hq⟩
  cases e <;> simp only [er, Option.some.injEq, reduceCtorEq] at he
  · subst he
    obtain ⟨s', hs', hlt, hsub, rfl⟩ := hq
    have hR2 := weak hsub hR'
    exact ⟨⟨s', L', hs', hR2⟩, Nat.lt_of_le_of_lt (hmin a' w' s' L' hs' hR2) (by omega)⟩
  · subst he; exact ⟨L', fr1, H1, _, hR', rfl, hq⟩
  · subst he; exact ⟨L', fr1, H1, _, hR', rfl, hq⟩
end
end Go.Dat
