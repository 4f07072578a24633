/- Own objects, the relation between the data level and the model's state, and how it goes on over each kind of change. Over any program. -/
import Derived.Test.YtecilkmigjbfoaaDat1
set_option linter.unusedSimpArgs false
set_option linter.unusedVariables false
namespace Go.Dat
open Go

abbrev Heap := Nat → Option (List DV)
def Heap.upd (h : Heap) (o : Nat) (c : Option (List DV)) : Heap := fun p => if p = o then c else h p
def updL (L : Nat → Option Nat) (o : Nat) (c : Option Nat) : Nat → Option Nat := fun p => if p = o then c else L p
/-- The blocks that data must not touch: those of 'S', and the own objects'. -/
def Av (S : Nat → Prop) (L : Nat → Option Nat) (b : Nat) : Prop := S b ∨ ∃ o, L o = some b

/-- What holds of the world when only blocks of 'S' (and new ones) have turned. -/
structure Ext (S : Nat → Prop) (w w' : World) : Prop where
  os : w'.os = w.os
  tape : w'.tape = w.tape
  output : w'.output = w.output
  size : w.heap.size ≤ w'.heap.size
  block : ∀ b, b < w.heap.size → ¬ S b → w'.heap[b]? = w.heap[b]?

theorem Ext.refl (S : Nat → Prop) (w : World) : Ext S w w := ⟨rfl, rfl, rfl, Nat.le_refl _, fun _ _ _ => rfl⟩
theorem Ext.trans {S : Nat → Prop} {a b c : World} (h : Ext S a b) (k : Ext S b c) : Ext S a c :=
  ⟨k.os.trans h.os, k.tape.trans h.tape, k.output.trans h.output, Nat.le_trans h.size k.size,
   fun i hi hS => (k.block i (Nat.lt_of_lt_of_le hi h.size) hS).trans (h.block i hi hS)⟩
theorem Ext.mono {S T : Nat → Prop} {a b : World} (h : Ext S a b) (hT : ∀ k, k < a.heap.size → S k → T k) : Ext T a b :=
  ⟨h.os, h.tape, h.output, h.size, fun i hi hn => h.block i hi fun hs => hn (hT i hi hs)⟩
theorem Ext.drew (S : Nat → Prop) (w : World) : Ext S w w.drew := ⟨rfl, rfl, rfl, Nat.le_refl _, fun _ _ _ => rfl⟩
theorem Ext.alloc (S : Nat → Prop) (w : World) (o : Obj) : Ext S w (w.alloc o) :=
  ⟨rfl, rfl, rfl, by simp, fun b hb _ => Go.RowKit.Below.heap_alloc w o b hb⟩

structure HOK (w : World) (S : Nat → Prop) (L : Nat → Option Nat) (h : Heap) : Prop where
  dom : ∀ o b, L o = some b → ∃ cells, h o = some cells
  obj : ∀ o cells, h o = some cells → (L o = none ∧ cells = []) ∨ ∃ b cs T, L o = some b ∧ w.heap[b]? = some (.cells cs T (0, 0)) ∧ cells.length ≤ cs.size ∧
    ∀ (k : Nat) d v, cells[k]? = some d → cs[k]? = some v → V w L (Av S L) d v
  inj : ∀ o p b, L o = some b → L p = some b → o = p
  notS : ∀ o b, L o = some b → ¬ S b

theorem HOK.at_ {w : World} {S : Nat → Prop} {L : Nat → Option Nat} {h : Heap} (H : HOK w S L h) {o b : Nat} (ho : L o = some b) :
    ∃ cells cs T, h o = some cells ∧ w.heap[b]? = some (.cells cs T (0, 0)) ∧ cells.length ≤ cs.size ∧
      ∀ (k : Nat) d v, cells[k]? = some d → cs[k]? = some v → V w L (Av S L) d v := by
  obtain ⟨cells, hc⟩ := H.dom o b ho
  rcases H.obj o cells hc with ⟨hn, _⟩ | ⟨b', cs, T, hL, rest⟩
  · rw [ho] at hn; cases hn
  · rw [ho] at hL; cases hL; exact ⟨cells, cs, T, hc, rest⟩
theorem HOK.lt {w : World} {S : Nat → Prop} {L : Nat → Option Nat} {h : Heap} (H : HOK w S L h) {o b : Nat} (ho : L o = some b) : b < w.heap.size := by
  obtain ⟨_, _, _, _, hb, _⟩ := H.at_ ho
  exact (Array.getElem?_eq_some_iff.1 hb).1
theorem shape_of_block {w w' : World} {b : Nat} (h : w'.heap[b]? = w.heap[b]?) : w'.shape? b = w.shape? b := by simp [World.shape?, h]

/-- What a function's walk carries along: the foreign blocks, the world at its beginning, the blocks that it was handed to write, the number of its slots. -/
structure Cx where
  S : Nat → Prop
  w0 : World
  P : Nat → Prop
  n : Nat

structure R (G : Cx) (L : Nat → Option Nat) (σ : Nat → DV) (h : Heap) (a : Act) (w : World) : Prop where
  size : a.tmps.size = G.n
  defers : a.defers = []
  slots : ∀ s, V w L (Av G.S L) (σ s) (a.tmps.getD s undef)
  heap : HOK w G.S L h
  ext : Ext G.P G.w0 w
  sLt : ∀ b, G.S b → b < w.heap.size
  own : ∀ o b, L o = some b → G.P b ∨ G.w0.heap.size ≤ b

section
variable {G : Cx} {L : Nat → Option Nat} {σ : Nat → DV} {h : Heap} {a : Act} {w w' : World}

/-- Nothing that was there has turned. -/
theorem V.still {S : Nat → Prop} (H : HOK w S L h) (hx : Ext (fun _ => False) w w') {d : DV} {v : Value} (hv : V w L (Av S L) d v) : V w' L (Av S L) d v :=
  hv.mono (fun b hb hA => ⟨hx.block b hb id, hA⟩) fun _ b _ ho => ⟨ho, shape_of_block (hx.block b (H.lt ho) id)⟩
theorem HOK.still {S : Nat → Prop} (H : HOK w S L h) (hx : Ext (fun _ => False) w w') : HOK w' S L h where
  dom := H.dom
  obj := fun o cells hc => by
    rcases H.obj o cells hc with hn | ⟨b, cs, T, hL, hb, hl, hv⟩
    · exact .inl hn
    · exact .inr ⟨b, cs, T, hL, (hx.block b (H.lt hL) id).trans hb, hl, fun k d v h1 h2 => (hv k d v h1 h2).still H hx⟩
  inj := H.inj
  notS := H.notS
theorem R.still (hR : R G L σ h a w) (hx : Ext (fun _ => False) w w') : R G L σ h a w' where
  size := hR.size
  defers := hR.defers
  slots := fun s => (hR.slots s).still hR.heap hx
  heap := hR.heap.still hx
  ext := hR.ext.trans (hx.mono (fun _ _ h => h.elim))
  sLt := fun b hb => Nat.lt_of_lt_of_le (hR.sLt b hb) hx.size
  own := hR.own

/-- Less may be known. -/
theorem R.weak {σ' : Nat → DV} (hR : R G L σ h a w) (hs : ∀ s, σ' s = σ s ∨ σ' s = .undef) : R G L σ' h a w :=
  { hR with slots := fun s => by rcases hs s with e | e <;> rw [e]; exact hR.slots s; exact .imm (.undef _) }

/-- A slot is written. -/
def updS (σ : Nat → DV) (dst : Option Nat) (d : DV) : Nat → DV := match dst with
  | some k => fun s => if s = k then d else σ s
  | none => σ
theorem R.put (hR : R G L σ h a w) {d : DV} {v : Value} (hv : V w L (Av G.S L) d v) {dst : Option Nat} (hd : ∀ k, dst = some k → k < G.n) :
    R G L (updS σ dst d) h (a.put dst v) w := by
  cases dst with
  | none => exact hR
  | some k =>
    have hk := hd k rfl
    refine { hR with size := by simp [Act.put, hR.size], defers := hR.defers, slots := fun s => ?_ }
    simp only [updS, Act.put]
    by_cases hs : s = k
    · subst hs
      rw [if_pos rfl]
      have : (a.tmps.setIfInBounds s v).getD s undef = v := by
        have hlt : s < a.tmps.size := by rw [hR.size]; exact hk
        simp [Array.getD_eq_getD_getElem?, hlt]
      rw [this]; exact hv
    · rw [if_neg hs]
      have : (a.tmps.setIfInBounds k v).getD s undef = a.tmps.getD s undef := by
        simp [Array.getD_eq_getD_getElem?, Ne.symm hs]
      rw [this]; exact hR.slots s

theorem R.lNone (hR : R G L σ h a w) {o : Nat} (ho : h o = none) : L o = none := by
  cases hL : L o with
  | none => rfl
  | some b =>
    obtain ⟨cells, hc⟩ := hR.heap.dom o b hL
    rw [ho] at hc; cases hc

/-- A new own object. -/
theorem R.new (hR : R G L σ h a w) {o : Nat} (ho : h o = none) {cells : List DV} {cs : Array Value} (T : TypeId) (hl : cells.length ≤ cs.size)
    (hv : ∀ (k : Nat) d v, cells[k]? = some d → cs[k]? = some v → V w L (Av G.S L) d v) :
    R G (updL L o (some w.heap.size)) σ (h.upd o (some cells)) a (w.alloc (.cells cs T)) ∧
    (∀ d v, V w L (Av G.S L) d v → V (w.alloc (.cells cs T)) (updL L o (some w.heap.size)) (Av G.S (updL L o (some w.heap.size))) d v) := by
  have hLo := hR.lNone ho
  have hlt : ∀ p b, L p = some b → b < w.heap.size := fun p b hp => hR.heap.lt hp
  have hold : ∀ p b, L p = some b → updL L o (some w.heap.size) p = some b := fun p b hp => by
    unfold updL; by_cases e : p = o
    · subst e; rw [hLo] at hp; cases hp
    · rw [if_neg e]; exact hp
  have hinv : ∀ p b, updL L o (some w.heap.size) p = some b → (p = o ∧ b = w.heap.size) ∨ (p ≠ o ∧ L p = some b) := fun p b hp => by
    unfold updL at hp; by_cases e : p = o
    · rw [if_pos e] at hp; cases hp; exact .inl ⟨e, rfl⟩
    · rw [if_neg e] at hp; exact .inr ⟨e, hp⟩
  have hV : ∀ d v, V w L (Av G.S L) d v → V (w.alloc (.cells cs T)) (updL L o (some w.heap.size)) (Av G.S (updL L o (some w.heap.size))) d v := by
    intro d v hd
    refine hd.mono (fun b hb hA => ⟨Go.RowKit.Below.heap_alloc w _ b hb, ?_⟩) fun p b _ hp => ⟨hold p b hp, shape_of_block (Go.RowKit.Below.heap_alloc w _ b (hlt p b hp))⟩
    rintro (hS | ⟨p, hp⟩)
    · exact hA (.inl hS)
    · rcases hinv p b hp with ⟨_, e⟩ | ⟨_, e⟩
      · omega
      · exact hA (.inr ⟨p, e⟩)
  refine ⟨⟨hR.size, hR.defers, fun s => hV _ _ (hR.slots s), ⟨?_, ?_, ?_, ?_⟩, hR.ext.trans (Ext.alloc _ w _), fun b hb => ?_, ?_⟩, hV⟩
  · intro p b hp
    rcases hinv p b hp with ⟨e, _⟩ | ⟨e, hp'⟩
    · exact ⟨cells, by simp [Heap.upd, e]⟩
    · obtain ⟨c, hc⟩ := hR.heap.dom p b hp'
      exact ⟨c, by simp [Heap.upd, e, hc]⟩
  · intro p c hp
    unfold Heap.upd at hp
    by_cases e : p = o
    · rw [if_pos e] at hp
      cases hp
      exact .inr ⟨w.heap.size, cs, T, by simp [updL, e], heap_alloc_new w _, hl, fun k d v h1 h2 => hV _ _ (hv k d v h1 h2)⟩
    · rw [if_neg e] at hp
      rcases hR.heap.obj p c hp with ⟨h1, h2⟩ | ⟨b, cs', T', hL, hb, hl', hv'⟩
      · exact .inl ⟨by simp [updL, e, h1], h2⟩
      · exact .inr ⟨b, cs', T', hold p b hL, (Go.RowKit.Below.heap_alloc w _ b (hlt p b hL)).trans hb, hl', fun k d v h1 h2 => hV _ _ (hv' k d v h1 h2)⟩
  · intro p q b hp hq
    rcases hinv p b hp with ⟨e1, e2⟩ | ⟨_, hp'⟩ <;> rcases hinv q b hq with ⟨e3, e4⟩ | ⟨_, hq'⟩
    · rw [e1, e3]
    · have := hlt q b hq'; omega
    · have := hlt p b hp'; omega
    · exact hR.heap.inj p q b hp' hq'
  · intro p b hp hS
    rcases hinv p b hp with ⟨_, e⟩ | ⟨_, hp'⟩
    · have := hR.sLt b hS; omega
    · exact hR.heap.notS p b hp' hS
  · have := hR.sLt b hb; simp; omega
  · intro p b hp
    rcases hinv p b hp with ⟨_, e⟩ | ⟨_, hp'⟩
    · exact .inr (by rw [e]; exact hR.ext.size)
    · exact hR.own p b hp'

/-- An own object's cells are written: the block keeps its size. -/
theorem R.write (hR : R G L σ h a w) {o b : Nat} (hL : L o = some b) {cells : List DV} {cs cs' : Array Value} {T : TypeId} (hb : w.heap[b]? = some (.cells cs T (0, 0)))
    (hsz : cs'.size = cs.size) (hl : cells.length ≤ cs'.size)
    (hv : ∀ (k : Nat) d v, cells[k]? = some d → cs'[k]? = some v → V w L (Av G.S L) d v)
    (hw : w' = { w with heap := w.heap.setIfInBounds b (.cells cs' T (0, 0)) }) :
    R G L σ (h.upd o (some cells)) a w' := by
  subst hw
  have hblt := hR.heap.lt hL
  have hoth : ∀ k, k ≠ b → (w.heap.setIfInBounds b (.cells cs' T (0, 0)))[k]? = w.heap[k]? := fun k hk => by
    rw [Array.getElem?_setIfInBounds]; rw [if_neg (Ne.symm hk)]
  have hsame : (w.heap.setIfInBounds b (.cells cs' T (0, 0)))[b]? = some (.cells cs' T (0, 0)) := by
    rw [Array.getElem?_setIfInBounds]; simp [hblt]
  have hV : ∀ d v, V w L (Av G.S L) d v → V { w with heap := w.heap.setIfInBounds b (.cells cs' T (0, 0)) } L (Av G.S L) d v := by
    intro d v hd
    refine hd.mono (fun k hk hA => ⟨hoth k ?_, hA⟩) fun p k _ hp => ⟨hp, ?_⟩
    · rintro rfl; exact hA (.inr ⟨o, hL⟩)
    · by_cases e : k = b
      · subst e
        simp [World.shape?, hsame, hb, hsz]
      · exact shape_of_block (hoth k e)
  refine ⟨hR.size, hR.defers, fun s => hV _ _ (hR.slots s), ⟨?_, ?_, hR.heap.inj, hR.heap.notS⟩, ⟨hR.ext.os, hR.ext.tape, hR.ext.output, by simpa using hR.ext.size, fun k hk hS => (hoth k ?_).trans (hR.ext.block k hk hS)⟩, fun k hk => by simpa using hR.sLt k hk, hR.own⟩
  · intro p k hp
    by_cases e : p = o
    · exact ⟨cells, by simp [Heap.upd, e]⟩
    · obtain ⟨c, hc⟩ := hR.heap.dom p k hp
      exact ⟨c, by simp [Heap.upd, e, hc]⟩
  · intro p c hp
    unfold Heap.upd at hp
    by_cases e : p = o
    · subst e
      rw [if_pos rfl] at hp
      cases hp
      exact .inr ⟨b, cs', T, hL, hsame, hl, fun k d v h1 h2 => hV _ _ (hv k d v h1 h2)⟩
    · rw [if_neg e] at hp
      rcases hR.heap.obj p c hp with h1 | ⟨k, cs2, T2, hk, hkb, hl', hv'⟩
      · exact .inl h1
      · have hne : k ≠ b := fun e' => e (hR.heap.inj p o k hk (by rw [e']; exact hL))
        exact .inr ⟨k, cs2, T2, hk, (hoth k hne).trans hkb, hl', fun j d v h1 h2 => hV _ _ (hv' j d v h1 h2)⟩
  · rintro rfl
    rcases hR.own o k hL with h1 | h1
    · exact hS h1
    · omega

/-- What names object 'o' is forgotten. -/
def purge (o : Nat) (d : DV) : DV := if d.has o then .undef else d
def purgeS (o : Nat) (σ : Nat → DV) : Nat → DV := fun s => purge o (σ s)
def Heap.purge (o : Nat) (h : Heap) : Heap := fun p => (h p).map (·.map (Dat.purge o))

theorem V.purge {L' : Nat → Option Nat} {A A' : Nat → Prop} (o : Nat) {d : DV} {v : Value} (hv : V w L A d v)
    (hA : ∀ b, b < w.heap.size → ¬ A b → w'.heap[b]? = w.heap[b]? ∧ ¬ A' b)
    (hL : ∀ p b, p ≠ o → L p = some b → L' p = some b ∧ w'.shape? b = w.shape? b) : V w' L' A' (purge o d) v := by
  unfold Dat.purge
  by_cases hh : d.has o = true
  · rw [if_pos hh]; exact .imm (.undef _)
  · rw [if_neg hh]
    refine hv.mono hA fun p b hp => hL p b ?_
    rintro rfl; exact hh hp

theorem R.weakH (o : Nat) (hR : R G L σ h a w) : R G L (purgeS o σ) (h.purge o) a w := by
  have hV : ∀ d v, V w L (Av G.S L) d v → V w L (Av G.S L) (Dat.purge o d) v := fun d v hd => by
    unfold Dat.purge; split
    · exact .imm (.undef _)
    · exact hd
  refine { hR with slots := fun s => hV _ _ (hR.slots s), heap := ⟨?_, ?_, hR.heap.inj, hR.heap.notS⟩ }
  · intro p b hp
    obtain ⟨c, hc⟩ := hR.heap.dom p b hp
    exact ⟨_, by simp only [Heap.purge, hc, Option.map_some]; rfl⟩
  · intro p c hp
    simp only [Heap.purge, Option.map_eq_some_iff] at hp
    obtain ⟨c0, hc0, rfl⟩ := hp
    rcases hR.heap.obj p c0 hc0 with ⟨h1, h2⟩ | ⟨b, cs, T, hL, hb, hl, hv⟩
    · exact .inl ⟨h1, by simp [h2]⟩
    · refine .inr ⟨b, cs, T, hL, hb, by simpa using hl, fun k d v h1 h2 => ?_⟩
      simp only [List.getElem?_map, Option.map_eq_some_iff] at h1
      obtain ⟨d0, hd0, rfl⟩ := h1
      exact hV _ _ (hv k d0 v hd0 h2)

/-- An own object is forgotten. -/
theorem R.drop (o : Nat) (hR : R G L σ h a w) : R G (updL L o none) (purgeS o σ) ((h.purge o).upd o none) a w := by
  have hinv : ∀ p b, updL L o none p = some b → p ≠ o ∧ L p = some b := fun p b hp => by
    unfold updL at hp; by_cases e : p = o
    · rw [if_pos e] at hp; cases hp
    · rw [if_neg e] at hp; exact ⟨e, hp⟩
  have hAA : ∀ b, ¬ Av G.S L b → ¬ Av G.S (updL L o none) b := by
    rintro b hA (hS | ⟨p, hp⟩)
    · exact hA (.inl hS)
    · exact hA (.inr ⟨p, (hinv p b hp).2⟩)
  have hV : ∀ d v, V w L (Av G.S L) d v → V w (updL L o none) (Av G.S (updL L o none)) (Dat.purge o d) v := fun d v hd =>
    hd.purge o (fun b _ hA => ⟨rfl, hAA b hA⟩) fun p b hne hp => ⟨by simp [updL, hne, hp], rfl⟩
  refine { hR with slots := fun s => hV _ _ (hR.slots s), heap := ⟨?_, ?_, ?_, ?_⟩, own := fun p b hp => hR.own p b (hinv p b hp).2 }
  · intro p b hp
    obtain ⟨hne, hp'⟩ := hinv p b hp
    obtain ⟨c, hc⟩ := hR.heap.dom p b hp'
    exact ⟨_, by simp only [Heap.upd, hne, if_false, Heap.purge, hc, Option.map_some]; rfl⟩
  · intro p c hp
    unfold Heap.upd at hp
    by_cases e : p = o
    · rw [if_pos e] at hp; cases hp
    · rw [if_neg e] at hp
      simp only [Heap.purge, Option.map_eq_some_iff] at hp
      obtain ⟨c0, hc0, rfl⟩ := hp
      rcases hR.heap.obj p c0 hc0 with ⟨h1, h2⟩ | ⟨b, cs, T, hL, hb, hl, hv⟩
      · exact .inl ⟨by simp [updL, e, h1], by simp [h2]⟩
      · refine .inr ⟨b, cs, T, by simp [updL, e, hL], hb, by simpa using hl, fun k d v h1 h2 => ?_⟩
        simp only [List.getElem?_map, Option.map_eq_some_iff] at h1
        obtain ⟨d0, hd0, rfl⟩ := h1
        exact hV _ _ (hv k d0 v hd0 h2)
  · intro p q b hp hq
    exact hR.heap.inj p q b (hinv p b hp).2 (hinv q b hq).2
  · intro p b hp
    exact hR.heap.notS p b (hinv p b hp).2

/-- An empty object without a block: what a nil slice is as an own one. -/
theorem R.virt {o : Nat} (hR : R G L σ h a w) (ho : h o = none) : R G L σ (h.upd o (some [])) a w := by
  have hLo := hR.lNone ho
  refine { hR with heap := ⟨?_, ?_, hR.heap.inj, hR.heap.notS⟩ }
  · intro p b hp
    by_cases e : p = o
    · exact ⟨[], by simp [Heap.upd, e]⟩
    · obtain ⟨c, hc⟩ := hR.heap.dom p b hp
      exact ⟨c, by simp [Heap.upd, e, hc]⟩
  · intro p c hp
    unfold Heap.upd at hp
    by_cases e : p = o
    · rw [if_pos e] at hp; cases hp
      exact .inl ⟨by rw [e]; exact hLo, rfl⟩
    · rw [if_neg e] at hp
      exact hR.heap.obj p c hp
end
end Go.Dat
