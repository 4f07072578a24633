/- Lemmas of the walk; no conditions beyond those that each states. -/
import Derived.WalkKit
import Derived.Laws.CopyRow
import Derived.Laws.MakeOwn
import Derived.Laws.StructEq
import Derived.Laws.IdiomStrings
import Derived.Laws.BytesArg
import Derived.Lib.AppendStr
import Derived.Lib.LaidTab
import Derived.Lib.ItoaNum
import Derived.FnData
set_option linter.unusedSimpArgs false
set_option linter.unusedVariables false
set_option linter.unnecessarySimpa false
set_option maxHeartbeats 4000000
namespace Go.Dat
open Go
inductive DV where
 | undef
 | int (k : IntKind) (n : Int)
 | bool (b : Bool)
 | str (l : List UInt8)
 | nilp
 | nils
 | nili
 | fn (f : Nat)
 | sl (sz : Nat) (xs : List DV)
 | el (xs : List DV) (i : Nat)
 | osl (sz o off len : Nat)
 | ptr (o off : Nat)
 | agg (cs : List DV)
 | tup (vs : List DV)
 | iface (t : Nat) (d : DV)
 | clo (f : Nat) (cs : List DV)
 | raw (v : Value)
 deriving Inhabited
theorem add_block (a : Addr) (n : Nat) : (a.add n).block = a.block := by unfold Addr.add; split <;> rfl
theorem add_add (a : Addr) (i j : Nat) : (a.add i).add j = a.add (i + j) := by
 unfold Addr.add
 by_cases hi : i = 0 <;> by_cases hj : j = 0 <;> simp [hi, hj, Nat.add_assoc]
theorem add_lit (b off k : Nat) : (⟨b, off, none⟩ : Addr).add k = ⟨b, off + k, none⟩ := by
 unfold Addr.add
 by_cases hk : k = 0 <;> simp [hk]
inductive VI (w : World) (A : Nat → Prop) : DV → Value → Prop where
 | undef (v : Value) : VI w A .undef v
 | int (k : IntKind) (n : Int) : VI w A (.int k n) (.int k n)
 | bool (b : Bool) : VI w A (.bool b) (.bool b)
 | str (l : List UInt8) : VI w A (.str l) (.string ⟨l.toArray⟩)
 | nilp : VI w A .nilp (.pointer none)
 | nils : VI w A .nils (.slice none 0 0)
 | nili : VI w A .nili .nilIface
 | fn (f : Nat) : VI w A (.fn f) (.func (.func f) #[] #[])
 | sl0 (sz : Nat) (a : Option Addr) (c : Nat) : VI w A (.sl sz []) (.slice a 0 c)
 | sl {sz : Nat} {xs : List DV} {n c : Nat} {ad : Addr} (vs : Nat → Value) (hx : xs ≠ []) (hn : xs.length = n * sz) (hc : n ≤ c) (hA : ¬ A ad.block)
   (hcell : ∀ k d, xs[k]? = some d → w.cell? (ad.add k) = some (vs k)) (hv : ∀ k d, xs[k]? = some d → VI w A d (vs k)) : VI w A (.sl sz xs) (.slice (some ad) n c)
 | el {xs : List DV} {i : Nat} {ad : Addr} (vs : Nat → Value) (hx : xs ≠ []) (hA : ¬ A ad.block)
   (hcell : ∀ k d, xs[k]? = some d → w.cell? (ad.add k) = some (vs k)) (hv : ∀ k d, xs[k]? = some d → VI w A d (vs k)) : VI w A (.el xs i) (.pointer (some (ad.add i)))
 | agg {cs : List DV} {vs : Array Value} (hl : cs.length = vs.size) (h : ∀ (k : Nat) d v, cs[k]? = some d → vs[k]? = some v → VI w A d v) : VI w A (.agg cs) (.agg vs)
 | tup {cs : List DV} {vs : Array Value} (hl : cs.length = vs.size) (h : ∀ (k : Nat) d v, cs[k]? = some d → vs[k]? = some v → VI w A d v) : VI w A (.tup cs) (.tuple vs)
 | iface {t : Nat} {d : DV} {v : Value} (h : VI w A d v) : VI w A (.iface t d) (.iface t v)
 | clo {f : Nat} {cs : List DV} {vs : Array Value} (hl : cs.length = vs.size) (h : ∀ (k : Nat) d v, cs[k]? = some d → vs[k]? = some v → VI w A d v) : VI w A (.clo f cs) (.func (.func f) #[] vs)
 | raw (v : Value) : VI w A (.raw v) v
theorem block_lt {w : World} {a : Addr} {v : Value} (h : w.cell? a = some v) : a.block < w.heap.size := World.block_lt_of_cell? w a h
theorem VI.mono {w w' : World} {A A' : Nat → Prop} (h : ∀ b, b < w.heap.size → ¬ A b → w'.heap[b]? = w.heap[b]? ∧ ¬ A' b) {d : DV} {v : Value}
  (hv : VI w A d v) : VI w' A' d v := by
 have row : ∀ {xs : List DV} {ad : Addr} {vs : Nat → Value}, xs ≠ [] → ¬ A ad.block → (∀ k d, xs[k]? = some d → w.cell? (ad.add k) = some (vs k)) →
   ¬ A' ad.block ∧ ∀ k d, xs[k]? = some d → w'.cell? (ad.add k) = some (vs k) := by
  intro xs ad vs hx hA hc
  obtain ⟨x, xs, rfl⟩ := List.exists_cons_of_ne_nil hx
  have hlt : ad.block < w.heap.size := by
   have := block_lt (hc 0 x rfl)
   rwa [add_block] at this
  have hb := h _ hlt hA
  refine ⟨hb.2, fun k d hk => ?_⟩
  rw [World.cell?_of_block (w := w) (by rw [add_block]; exact hb.1)]
  exact hc k d hk
 induction hv with
 | undef v => exact .undef v
 | int k n => exact .int k n
 | bool b => exact .bool b
 | str l => exact .str l
 | nilp => exact .nilp
 | nils => exact .nils
 | nili => exact .nili
 | fn f => exact .fn f
 | sl0 sz a c => exact .sl0 sz a c
 | sl vs hx hn hc hA hcell _ ih => exact .sl vs hx hn hc (row hx hA hcell).1 (row hx hA hcell).2 ih
 | el vs hx hA hcell _ ih => exact .el vs hx (row hx hA hcell).1 (row hx hA hcell).2 ih
 | agg hl _ ih => exact .agg hl ih
 | tup hl _ ih => exact .tup hl ih
 | iface _ ih => exact .iface ih
 | clo hl _ ih => exact .clo hl ih
 | raw v => exact .raw v
inductive V (w : World) (L : Nat → Option Nat) (A : Nat → Prop) : DV → Value → Prop where
 | imm {d : DV} {v : Value} (h : VI w A d v) : V w L A d v
 | ptr {o off b : Nat} (h : L o = some b) : V w L A (.ptr o off) (.pointer (some ⟨b, off, none⟩))
 | osl {sz o off n c b m : Nat} {T : TypeId} (hL : L o = some b) (hc : n ≤ c) (hs : w.shape? b = some (T, m)) (hm : off + c * sz ≤ m) :
   V w L A (.osl sz o off n) (.slice (some ⟨b, off, none⟩) n c)
 | osl0 (sz o off : Nat) : V w L A (.osl sz o off 0) (.slice none 0 0)
 | agg {cs : List DV} {vs : Array Value} (hl : cs.length = vs.size) (h : ∀ (k : Nat) d v, cs[k]? = some d → vs[k]? = some v → V w L A d v) : V w L A (.agg cs) (.agg vs)
 | tup {cs : List DV} {vs : Array Value} (hl : cs.length = vs.size) (h : ∀ (k : Nat) d v, cs[k]? = some d → vs[k]? = some v → V w L A d v) : V w L A (.tup cs) (.tuple vs)
mutual
def DV.has (o : Nat) : DV → Bool
 | .ptr p _ => p == o
 | .osl _ p _ _ => p == o
 | .agg cs => DV.hasL o cs
 | .tup cs => DV.hasL o cs
 | _ => false
def DV.hasL (o : Nat) : List DV → Bool
 | [] => false
 | d :: r => d.has o || DV.hasL o r
end
mutual
def DV.rf : DV → Bool
 | .ptr _ _ => false
 | .osl _ _ _ _ => false
 | .agg cs => DV.rfL cs
 | .tup cs => DV.rfL cs
 | _ => true
def DV.rfL : List DV → Bool
 | [] => true
 | d :: r => d.rf && DV.rfL r
end
theorem DV.hasL_any (o : Nat) : ∀ cs : List DV, DV.hasL o cs = cs.any (·.has o)
 | [] => rfl
 | d :: r => by simp [DV.hasL, DV.hasL_any o r]
theorem DV.rfL_all : ∀ cs : List DV, DV.rfL cs = cs.all (·.rf)
 | [] => rfl
 | d :: r => by simp [DV.rfL, DV.rfL_all r]
theorem DV.has_agg (o : Nat) (cs : List DV) : (DV.agg cs).has o = cs.any (·.has o) := by rw [DV.has, DV.hasL_any]
theorem DV.has_tup (o : Nat) (cs : List DV) : (DV.tup cs).has o = cs.any (·.has o) := by rw [DV.has, DV.hasL_any]
theorem DV.rf_agg (cs : List DV) : (DV.agg cs).rf = cs.all (·.rf) := by rw [DV.rf, DV.rfL_all]
theorem DV.rf_tup (cs : List DV) : (DV.tup cs).rf = cs.all (·.rf) := by rw [DV.rf, DV.rfL_all]
theorem V.rf_imm {w : World} {L : Nat → Option Nat} {A : Nat → Prop} {d : DV} {v : Value} (h : V w L A d v) (hr : d.rf = true) : VI w A d v := by
 induction h with
 | imm h => exact h
 | ptr h => simp [DV.rf] at hr
 | osl => simp [DV.rf] at hr
 | osl0 => simp [DV.rf] at hr
 | agg hl _ ih =>
  rw [DV.rf_agg, List.all_eq_true] at hr
  exact .agg hl fun k d v hd hv => ih k d v hd hv (hr d (List.mem_of_getElem? hd))
 | tup hl _ ih =>
  rw [DV.rf_tup, List.all_eq_true] at hr
  exact .tup hl fun k d v hd hv => ih k d v hd hv (hr d (List.mem_of_getElem? hd))
theorem V.mono {w w' : World} {L L' : Nat → Option Nat} {A A' : Nat → Prop} {d : DV} {v : Value}
  (hA : ∀ b, b < w.heap.size → ¬ A b → w'.heap[b]? = w.heap[b]? ∧ ¬ A' b)
  (h : V w L A d v) (hL : ∀ o b, d.has o = true → L o = some b → L' o = some b ∧ w'.shape? b = w.shape? b) : V w' L' A' d v := by
 induction h with
 | imm h => exact .imm (h.mono hA)
 | ptr h => exact .ptr (hL _ _ (by simp [DV.has]) h).1
 | osl h hc hs hm =>
  obtain ⟨h1, h2⟩ := hL _ _ (by simp [DV.has]) h
  exact .osl h1 hc (h2.trans hs) hm
 | osl0 => exact .osl0 _ _ _
 | agg hl _ ih => exact .agg hl fun k d v hd hv => ih k d v hd hv fun o b ho => hL o b (by rw [DV.has_agg, List.any_eq_true]; exact ⟨d, List.mem_of_getElem? hd, ho⟩)
 | tup hl _ ih => exact .tup hl fun k d v hd hv => ih k d v hd hv fun o b ho => hL o b (by rw [DV.has_tup, List.any_eq_true]; exact ⟨d, List.mem_of_getElem? hd, ho⟩)
abbrev Heap := Nat → Option (List DV)
def Heap.upd (h : Heap) (o : Nat) (c : Option (List DV)) : Heap := fun p => if p = o then c else h p
def updL (L : Nat → Option Nat) (o : Nat) (c : Option Nat) : Nat → Option Nat := fun p => if p = o then c else L p
def Av (S : Nat → Prop) (L : Nat → Option Nat) (b : Nat) : Prop := S b ∨ ∃ o, L o = some b
structure Ext (S : Nat → Prop) (w w' : World) : Prop where
 os : w'.os = w.os
 tape : w'.tape = w.tape
 output : w'.output = w.output
 size : w.heap.size ≤ w'.heap.size
 block : ∀ b, b < w.heap.size → ¬ S b → w'.heap[b]? = w.heap[b]?
theorem Ext.refl (S : Nat → Prop) (w : World) : Ext S w w := ⟨rfl, rfl, rfl, Nat.le_refl _, fun _ _ _ => rfl⟩
theorem Ext.trans {S : Nat → Prop} {a b c : World} (h : Ext S a b) (k : Ext S b c) : Ext S a c :=
 ⟨k.os.trans h.os, k.tape.trans h.tape, k.output.trans h.output, Nat.le_trans h.size k.size,
  fun i hi hS => (k.block i (Nat.lt_of_lt_of_le hi h.size) hS).trans (h.block i hi hS)⟩
theorem Ext.mono {S T : Nat → Prop} {a b : World} (h : Ext S a b) (hT : ∀ k, k < a.heap.size → S k → T k) : Ext T a b :=
 ⟨h.os, h.tape, h.output, h.size, fun i hi hn => h.block i hi fun hs => hn (hT i hi hs)⟩
theorem Ext.drew (S : Nat → Prop) (w : World) : Ext S w w.drew := ⟨rfl, rfl, rfl, Nat.le_refl _, fun _ _ _ => rfl⟩
theorem Ext.alloc (S : Nat → Prop) (w : World) (o : Obj) : Ext S w (w.alloc o) :=
 ⟨rfl, rfl, rfl, by simp, fun b hb _ => Go.RowKit.Below.heap_alloc w o b hb⟩
def TyC (o T m : Nat) : Prop := (2097152 ≤ o → T = (o - 2097152) / 4096 ∧ m = (o - 2097152) / 256 % 16) ∧ (786432 ≤ o → o < 851968 → T = (o - 786432) / 16)
def TyOK (w : World) (o b : Nat) : Prop := (2097152 ≤ o ∨ (786432 ≤ o ∧ o < 851968)) → ∃ T m, w.shape? b = some (T, m) ∧ TyC o T m
theorem TyOK.imm_shape {w w' : World} {o b : Nat} (h : TyOK w o b) (e : w'.shape? b = w.shape? b) : TyOK w' o b := fun hg => by rw [e]; exact h hg
def tyEq (p q : Nat) : Prop := ((2097152 ≤ p ∨ (786432 ≤ p ∧ p < 851968)) ↔ (2097152 ≤ q ∨ (786432 ≤ q ∧ q < 851968))) ∧ ∀ T m, TyC p T m ↔ TyC q T m
theorem TyOK.rn {w : World} {p q b : Nat} (h : TyOK w p b) (e : tyEq p q) : TyOK w q b := fun hg => by
 obtain ⟨T, m, h1, h2⟩ := h (e.1.2 hg)
 exact ⟨T, m, h1, (e.2 T m).1 h2⟩
theorem tyEq.symm {p q : Nat} (h : tyEq p q) : tyEq q p := ⟨h.1.symm, fun T m => (h.2 T m).symm⟩
def tyNo (o : Nat) : Prop := o < 786432 ∨ (851968 ≤ o ∧ o < 2097152)
instance (o : Nat) : Decidable (tyNo o) := by unfold tyNo; infer_instance
theorem tyNo.eq {p q : Nat} (h1 : tyNo p) (h2 : tyNo q) : tyEq p q := by
 unfold tyNo at h1 h2
 refine ⟨by omega, fun T m => ⟨fun _ => ⟨by omega, by omega⟩, fun _ => ⟨by omega, by omega⟩⟩⟩
theorem tyNo.ok {o : Nat} (h : tyNo o) (w : World) (b : Nat) : TyOK w o b := fun hg => by unfold tyNo at h; omega
structure HOK (w : World) (S : Nat → Prop) (L : Nat → Option Nat) (h : Heap) : Prop where
 dom : ∀ o b, L o = some b → ∃ cells, h o = some cells
 obj : ∀ o cells, h o = some cells → (L o = none ∧ cells = []) ∨ ∃ b cs T, L o = some b ∧ w.heap[b]? = some (.cells cs T (0, 0)) ∧ cells.length ≤ cs.size ∧
  ∀ (k : Nat) d v, cells[k]? = some d → cs[k]? = some v → V w L (Av S L) d v
 inj : ∀ o p b, L o = some b → L p = some b → o = p
 notS : ∀ o b, L o = some b → ¬ S b
 ty : ∀ o b, L o = some b → TyOK w o b
theorem HOK.at_ {w : World} {S : Nat → Prop} {L : Nat → Option Nat} {h : Heap} (H : HOK w S L h) {o b : Nat} (ho : L o = some b) :
  ∃ cells cs T, h o = some cells ∧ w.heap[b]? = some (.cells cs T (0, 0)) ∧ cells.length ≤ cs.size ∧
   ∀ (k : Nat) d v, cells[k]? = some d → cs[k]? = some v → V w L (Av S L) d v := by
 obtain ⟨cells, hc⟩ := H.dom o b ho
 rcases H.obj o cells hc with ⟨hn, _⟩ | ⟨b', cs, T, hL, rest⟩
 ·rw [ho] at hn; cases hn
 ·rw [ho] at hL; cases hL; exact ⟨cells, cs, T, hc, rest⟩
theorem HOK.lt {w : World} {S : Nat → Prop} {L : Nat → Option Nat} {h : Heap} (H : HOK w S L h) {o b : Nat} (ho : L o = some b) : b < w.heap.size := by
 obtain ⟨_, _, _, _, hb, _⟩ := H.at_ ho
 exact (Array.getElem?_eq_some_iff.1 hb).1
theorem shape_of_block {w w' : World} {b : Nat} (h : w'.heap[b]? = w.heap[b]?) : w'.shape? b = w.shape? b := by simp [World.shape?, h]
structure Cx where
 S : Nat → Prop
 w0 : World
 P : Nat → Prop
 n : Nat
 K : Nat → Option Nat
 D : List Deferred := []
structure R (G : Cx) (L : Nat → Option Nat) (σ : Nat → DV) (h : Heap) (a : Act) (w : World) : Prop where
 size : a.tmps.size = G.n
 defers : a.defers = G.D
 slots : ∀ s, V w L (Av G.S L) (σ s) (a.tmps.getD s undef)
 heap : HOK w G.S L h
 ext : Ext G.P G.w0 w
 sLt : ∀ b, G.S b → b < w.heap.size
 own : ∀ o b, L o = some b → G.P b ∨ G.w0.heap.size ≤ b
 keep : ∀ o b, G.K o = some b → L o = some b ∧ 1048576 ≤ o
 shp : ∀ b, b < G.w0.heap.size → w.shape? b = G.w0.shape? b
section
variable {G : Cx} {L : Nat → Option Nat} {σ : Nat → DV} {h : Heap} {a : Act} {w w' : World}
theorem V.still {S : Nat → Prop} (H : HOK w S L h) (hx : Ext (fun _ => False) w w') {d : DV} {v : Value} (hv : V w L (Av S L) d v) : V w' L (Av S L) d v :=
 hv.mono (fun b hb hA => ⟨hx.block b hb id, hA⟩) fun _ b _ ho => ⟨ho, shape_of_block (hx.block b (H.lt ho) id)⟩
theorem HOK.still {S : Nat → Prop} (H : HOK w S L h) (hx : Ext (fun _ => False) w w') : HOK w' S L h where
 dom := H.dom
 obj := fun o cells hc => by
  rcases H.obj o cells hc with hn | ⟨b, cs, T, hL, hb, hl, hv⟩
  ·exact .inl hn
  ·exact .inr ⟨b, cs, T, hL, (hx.block b (H.lt hL) id).trans hb, hl, fun k d v h1 h2 => (hv k d v h1 h2).still H hx⟩
 inj := H.inj
 notS := H.notS
 ty := fun o b hL => (H.ty o b hL).imm_shape (shape_of_block (hx.block b (H.lt hL) id))
theorem R.still (hR : R G L σ h a w) (hx : Ext (fun _ => False) w w') : R G L σ h a w' where
 size := hR.size
 defers := hR.defers
 slots := fun s => (hR.slots s).still hR.heap hx
 heap := hR.heap.still hx
 ext := hR.ext.trans (hx.mono (fun _ _ h => h.elim))
 sLt := fun b hb => Nat.lt_of_lt_of_le (hR.sLt b hb) hx.size
 own := hR.own
 keep := hR.keep
 shp := fun b hb => (shape_of_block (hx.block b (Nat.lt_of_lt_of_le hb hR.ext.size) id)).trans (hR.shp b hb)
theorem R.weak {σ' : Nat → DV} (hR : R G L σ h a w) (hs : ∀ s, σ' s = σ s ∨ σ' s = .undef) : R G L σ' h a w :=
 { hR with slots := fun s => by rcases hs s with e | e <;> rw [e]; exact hR.slots s; exact .imm (.undef _) }
def updS (σ : Nat → DV) (dst : Option Nat) (d : DV) : Nat → DV := match dst with
 | some k => fun s => if s = k then d else σ s
 | none => σ
theorem R.put (hR : R G L σ h a w) {d : DV} {v : Value} (hv : V w L (Av G.S L) d v) {dst : Option Nat} (hd : ∀ k, dst = some k → k < G.n) :
  R G L (updS σ dst d) h (a.put dst v) w := by
 cases dst with
 | none => exact hR
 | some k =>
  have hk := hd k rfl
  refine { hR with size := by simp [Act.put, hR.size], defers := hR.defers, slots := fun s => ?_ }
  simp only [updS, Act.put]
  by_cases hs : s = k
  ·subst hs
   rw [if_pos rfl]
   have : (a.tmps.setIfInBounds s v).getD s undef = v := by
    have hlt : s < a.tmps.size := by rw [hR.size]; exact hk
    simp [Array.getD_eq_getD_getElem?, hlt]
   rw [this]; exact hv
  ·rw [if_neg hs]
   have : (a.tmps.setIfInBounds k v).getD s undef = a.tmps.getD s undef := by
    simp [Array.getD_eq_getD_getElem?, Ne.symm hs]
   rw [this]; exact hR.slots s
theorem R.lNone (hR : R G L σ h a w) {o : Nat} (ho : h o = none) : L o = none := by
 cases hL : L o with
 | none => rfl
 | some b =>
  obtain ⟨cells, hc⟩ := hR.heap.dom o b hL
  rw [ho] at hc; cases hc
theorem R.new (hR : R G L σ h a w) {o : Nat} (ho : h o = none) {cells : List DV} {cs : Array Value} (T : TypeId) (hty : TyC o T cs.size) (hl : cells.length ≤ cs.size)
  (hv : ∀ (k : Nat) d v, cells[k]? = some d → cs[k]? = some v → V w L (Av G.S L) d v) :
  R G (updL L o (some w.heap.size)) σ (h.upd o (some cells)) a (w.alloc (.cells cs T)) ∧
  (∀ d v, V w L (Av G.S L) d v → V (w.alloc (.cells cs T)) (updL L o (some w.heap.size)) (Av G.S (updL L o (some w.heap.size))) d v) := by
 have hLo := hR.lNone ho
 have hlt : ∀ p b, L p = some b → b < w.heap.size := fun p b hp => hR.heap.lt hp
 have hold : ∀ p b, L p = some b → updL L o (some w.heap.size) p = some b := fun p b hp => by
  unfold updL; by_cases e : p = o
  ·subst e; rw [hLo] at hp; cases hp
  ·rw [if_neg e]; exact hp
 have hinv : ∀ p b, updL L o (some w.heap.size) p = some b → (p = o ∧ b = w.heap.size) ∨ (p ≠ o ∧ L p = some b) := fun p b hp => by
  unfold updL at hp; by_cases e : p = o
  ·rw [if_pos e] at hp; cases hp; exact .inl ⟨e, rfl⟩
  ·rw [if_neg e] at hp; exact .inr ⟨e, hp⟩
 have hV : ∀ d v, V w L (Av G.S L) d v → V (w.alloc (.cells cs T)) (updL L o (some w.heap.size)) (Av G.S (updL L o (some w.heap.size))) d v := by
  intro d v hd
  refine hd.mono (fun b hb hA => ⟨Go.RowKit.Below.heap_alloc w _ b hb, ?_⟩) fun p b _ hp => ⟨hold p b hp, shape_of_block (Go.RowKit.Below.heap_alloc w _ b (hlt p b hp))⟩
  rintro (hS | ⟨p, hp⟩)
  ·exact hA (.inl hS)
  ·rcases hinv p b hp with ⟨_, e⟩ | ⟨_, e⟩
   ·omega
   ·exact hA (.inr ⟨p, e⟩)
 refine ⟨⟨hR.size, hR.defers, fun s => hV _ _ (hR.slots s), ⟨?_, ?_, ?_, ?_, ?_⟩, hR.ext.trans (Ext.alloc _ w _), fun b hb => ?_, ?_, fun p b hp => ⟨hold p b (hR.keep p b hp).1, (hR.keep p b hp).2⟩, fun b hb => (shape_of_block (Go.RowKit.Below.heap_alloc w _ b (Nat.lt_of_lt_of_le hb hR.ext.size))).trans (hR.shp b hb)⟩, hV⟩
 ·intro p b hp
  rcases hinv p b hp with ⟨e, _⟩ | ⟨e, hp'⟩
  ·exact ⟨cells, by simp [Heap.upd, e]⟩
  ·obtain ⟨c, hc⟩ := hR.heap.dom p b hp'
   exact ⟨c, by simp [Heap.upd, e, hc]⟩
 ·intro p c hp
  unfold Heap.upd at hp
  by_cases e : p = o
  ·rw [if_pos e] at hp
   cases hp
   exact .inr ⟨w.heap.size, cs, T, by simp [updL, e], heap_alloc_new w _, hl, fun k d v h1 h2 => hV _ _ (hv k d v h1 h2)⟩
  ·rw [if_neg e] at hp
   rcases hR.heap.obj p c hp with ⟨h1, h2⟩ | ⟨b, cs', T', hL, hb, hl', hv'⟩
   ·exact .inl ⟨by simp [updL, e, h1], h2⟩
   ·exact .inr ⟨b, cs', T', hold p b hL, (Go.RowKit.Below.heap_alloc w _ b (hlt p b hL)).trans hb, hl', fun k d v h1 h2 => hV _ _ (hv' k d v h1 h2)⟩
 ·intro p q b hp hq
  rcases hinv p b hp with ⟨e1, e2⟩ | ⟨_, hp'⟩ <;> rcases hinv q b hq with ⟨e3, e4⟩ | ⟨_, hq'⟩
  ·rw [e1, e3]
  ·have := hlt q b hq'; omega
  ·have := hlt p b hp'; omega
  ·exact hR.heap.inj p q b hp' hq'
 ·intro p b hp hS
  rcases hinv p b hp with ⟨_, e⟩ | ⟨_, hp'⟩
  ·have := hR.sLt b hS; omega
  ·exact hR.heap.notS p b hp' hS
 ·intro p b hp
  rcases hinv p b hp with ⟨e1, e2⟩ | ⟨_, hp'⟩
  ·subst e1
   subst e2
   intro _
   refine ⟨T, cs.size, ?_, hty⟩
   have h1 : (w.alloc (.cells cs T)).heap[w.heap.size]? = some (.cells cs T) := heap_alloc_new w _
   simp only [World.shape?, h1]
  ·exact (hR.heap.ty p b hp').imm_shape (shape_of_block (Go.RowKit.Below.heap_alloc w _ b (hlt p b hp')))
 ·have := hR.sLt b hb; simp; omega
 ·intro p b hp
  rcases hinv p b hp with ⟨_, e⟩ | ⟨_, hp'⟩
  ·exact .inr (by rw [e]; exact hR.ext.size)
  ·exact hR.own p b hp'
theorem R.write (hR : R G L σ h a w) {o b : Nat} (hL : L o = some b) {cells : List DV} {cs cs' : Array Value} {T : TypeId} (hb : w.heap[b]? = some (.cells cs T (0, 0)))
  (hsz : cs'.size = cs.size) (hl : cells.length ≤ cs'.size)
  (hv : ∀ (k : Nat) d v, cells[k]? = some d → cs'[k]? = some v → V w L (Av G.S L) d v)
  (hw : w' = { w with heap := w.heap.setIfInBounds b (.cells cs' T (0, 0)) }) :
  R G L σ (h.upd o (some cells)) a w' := by
 subst hw
 have hblt := hR.heap.lt hL
 have hoth : ∀ k, k ≠ b → (w.heap.setIfInBounds b (.cells cs' T (0, 0)))[k]? = w.heap[k]? := fun k hk => by
  rw [Array.getElem?_setIfInBounds]; rw [if_neg (Ne.symm hk)]
 have hsame : (w.heap.setIfInBounds b (.cells cs' T (0, 0)))[b]? = some (.cells cs' T (0, 0)) := by
  rw [Array.getElem?_setIfInBounds]; simp [hblt]
 have hV : ∀ d v, V w L (Av G.S L) d v → V { w with heap := w.heap.setIfInBounds b (.cells cs' T (0, 0)) } L (Av G.S L) d v := by
  intro d v hd
  refine hd.mono (fun k hk hA => ⟨hoth k ?_, hA⟩) fun p k _ hp => ⟨hp, ?_⟩
  ·rintro rfl; exact hA (.inr ⟨o, hL⟩)
  ·by_cases e : k = b
   ·subst e
    simp [World.shape?, hsame, hb, hsz]
   ·exact shape_of_block (hoth k e)
 refine ⟨hR.size, hR.defers, fun s => hV _ _ (hR.slots s), ⟨?_, ?_, hR.heap.inj, hR.heap.notS, fun p k hp => ?_⟩, ⟨hR.ext.os, hR.ext.tape, hR.ext.output, by simpa using hR.ext.size, fun k hk hS => (hoth k ?_).trans (hR.ext.block k hk hS)⟩, fun k hk => by simpa using hR.sLt k hk, hR.own, hR.keep, fun k hk => Eq.trans (by
  by_cases e : k = b
  ·subst e
   simp [World.shape?, hsame, hb, hsz]
  ·exact shape_of_block (hoth k e)) (hR.shp k hk)⟩
 ·intro p k hp
  by_cases e : p = o
  ·exact ⟨cells, by simp [Heap.upd, e]⟩
  ·obtain ⟨c, hc⟩ := hR.heap.dom p k hp
   exact ⟨c, by simp [Heap.upd, e, hc]⟩
 ·intro p c hp
  unfold Heap.upd at hp
  by_cases e : p = o
  ·subst e
   rw [if_pos rfl] at hp
   cases hp
   exact .inr ⟨b, cs', T, hL, hsame, hl, fun k d v h1 h2 => hV _ _ (hv k d v h1 h2)⟩
  ·rw [if_neg e] at hp
   rcases hR.heap.obj p c hp with h1 | ⟨k, cs2, T2, hk, hkb, hl', hv'⟩
   ·exact .inl h1
   ·have hne : k ≠ b := fun e' => e (hR.heap.inj p o k hk (by rw [e']; exact hL))
    exact .inr ⟨k, cs2, T2, hk, (hoth k hne).trans hkb, hl', fun j d v h1 h2 => hV _ _ (hv' j d v h1 h2)⟩
 ·refine (hR.heap.ty p k hp).imm_shape ?_
  by_cases e : k = b
  ·subst e
   simp [World.shape?, hsame, hb, hsz]
  ·exact shape_of_block (hoth k e)
 ·rintro rfl
  rcases hR.own o k hL with h1 | h1
  ·exact hS h1
  ·omega
def purge (o : Nat) (d : DV) : DV := if d.has o then .undef else d
def purgeS (o : Nat) (σ : Nat → DV) : Nat → DV := fun s => purge o (σ s)
def Heap.purge (o : Nat) (h : Heap) : Heap := fun p => (h p).map (·.map (Dat.purge o))
theorem V.purge {L' : Nat → Option Nat} {A A' : Nat → Prop} (o : Nat) {d : DV} {v : Value} (hv : V w L A d v)
  (hA : ∀ b, b < w.heap.size → ¬ A b → w'.heap[b]? = w.heap[b]? ∧ ¬ A' b)
  (hL : ∀ p b, p ≠ o → L p = some b → L' p = some b ∧ w'.shape? b = w.shape? b) : V w' L' A' (purge o d) v := by
 unfold Dat.purge
 by_cases hh : d.has o = true
 ·rw [if_pos hh]; exact .imm (.undef _)
 ·rw [if_neg hh]
  refine hv.mono hA fun p b hp => hL p b ?_
  rintro rfl; exact hh hp
theorem R.weakH (o : Nat) (hR : R G L σ h a w) : R G L (purgeS o σ) (h.purge o) a w := by
 have hV : ∀ d v, V w L (Av G.S L) d v → V w L (Av G.S L) (Dat.purge o d) v := fun d v hd => by
  unfold Dat.purge; split
  ·exact .imm (.undef _)
  ·exact hd
 refine { hR with slots := fun s => hV _ _ (hR.slots s), heap := ⟨?_, ?_, hR.heap.inj, hR.heap.notS, hR.heap.ty⟩ }
 ·intro p b hp
  obtain ⟨c, hc⟩ := hR.heap.dom p b hp
  exact ⟨_, by simp only [Heap.purge, hc, Option.map_some]; rfl⟩
 ·intro p c hp
  simp only [Heap.purge, Option.map_eq_some_iff] at hp
  obtain ⟨c0, hc0, rfl⟩ := hp
  rcases hR.heap.obj p c0 hc0 with ⟨h1, h2⟩ | ⟨b, cs, T, hL, hb, hl, hv⟩
  ·exact .inl ⟨h1, by simp [h2]⟩
  ·refine .inr ⟨b, cs, T, hL, hb, by simpa using hl, fun k d v h1 h2 => ?_⟩
   simp only [List.getElem?_map, Option.map_eq_some_iff] at h1
   obtain ⟨d0, hd0, rfl⟩ := h1
   exact hV _ _ (hv k d0 v hd0 h2)
theorem R.keep_none (hR : R G L σ h a w) {o : Nat} (ho : o < 1048576) : G.K o = none := by
 cases hK : G.K o with
 | none => rfl
 | some b => have := (hR.keep o b hK).2; omega
theorem R.drop (o : Nat) (hK : G.K o = none) (hR : R G L σ h a w) : R G (updL L o none) (purgeS o σ) ((h.purge o).upd o none) a w := by
 have hinv : ∀ p b, updL L o none p = some b → p ≠ o ∧ L p = some b := fun p b hp => by
  unfold updL at hp; by_cases e : p = o
  ·rw [if_pos e] at hp; cases hp
  ·rw [if_neg e] at hp; exact ⟨e, hp⟩
 have hAA : ∀ b, ¬ Av G.S L b → ¬ Av G.S (updL L o none) b := by
  rintro b hA (hS | ⟨p, hp⟩)
  ·exact hA (.inl hS)
  ·exact hA (.inr ⟨p, (hinv p b hp).2⟩)
 have hV : ∀ d v, V w L (Av G.S L) d v → V w (updL L o none) (Av G.S (updL L o none)) (Dat.purge o d) v := fun d v hd =>
  hd.purge o (fun b _ hA => ⟨rfl, hAA b hA⟩) fun p b hne hp => ⟨by simp [updL, hne, hp], rfl⟩
 refine { hR with slots := fun s => hV _ _ (hR.slots s), heap := ⟨?_, ?_, ?_, ?_, fun p b hp => hR.heap.ty p b (hinv p b hp).2⟩, own := fun p b hp => hR.own p b (hinv p b hp).2, keep := fun p b hp => ⟨by unfold updL; rw [if_neg (by rintro rfl; rw [hK] at hp; cases hp)]; exact (hR.keep p b hp).1, (hR.keep p b hp).2⟩ }
 ·intro p b hp
  obtain ⟨hne, hp'⟩ := hinv p b hp
  obtain ⟨c, hc⟩ := hR.heap.dom p b hp'
  exact ⟨_, by simp only [Heap.upd, hne, if_false, Heap.purge, hc, Option.map_some]; rfl⟩
 ·intro p c hp
  unfold Heap.upd at hp
  by_cases e : p = o
  ·rw [if_pos e] at hp; cases hp
  ·rw [if_neg e] at hp
   simp only [Heap.purge, Option.map_eq_some_iff] at hp
   obtain ⟨c0, hc0, rfl⟩ := hp
   rcases hR.heap.obj p c0 hc0 with ⟨h1, h2⟩ | ⟨b, cs, T, hL, hb, hl, hv⟩
   ·exact .inl ⟨by simp [updL, e, h1], by simp [h2]⟩
   ·refine .inr ⟨b, cs, T, by simp [updL, e, hL], hb, by simpa using hl, fun k d v h1 h2 => ?_⟩
    simp only [List.getElem?_map, Option.map_eq_some_iff] at h1
    obtain ⟨d0, hd0, rfl⟩ := h1
    exact hV _ _ (hv k d0 v hd0 h2)
 ·intro p q b hp hq
  exact hR.heap.inj p q b (hinv p b hp).2 (hinv q b hq).2
 ·intro p b hp
  exact hR.heap.notS p b (hinv p b hp).2
theorem R.virt {o : Nat} (hR : R G L σ h a w) (ho : h o = none) : R G L σ (h.upd o (some [])) a w := by
 have hLo := hR.lNone ho
 refine { hR with heap := ⟨?_, ?_, hR.heap.inj, hR.heap.notS, hR.heap.ty⟩ }
 ·intro p b hp
  by_cases e : p = o
  ·exact ⟨[], by simp [Heap.upd, e]⟩
  ·obtain ⟨c, hc⟩ := hR.heap.dom p b hp
   exact ⟨c, by simp [Heap.upd, e, hc]⟩
 ·intro p c hp
  unfold Heap.upd at hp
  by_cases e : p = o
  ·rw [if_pos e] at hp; cases hp
   exact .inl ⟨by rw [e]; exact hLo, rfl⟩
  ·rw [if_neg e] at hp
   exact hR.heap.obj p c hp
end
end Go.Dat
namespace Go.Dat
open Go
inductive Opd where
 | x (k : Nat)
 | t (k : Nat)
 | c (d : DV)
 deriving Inhabited
inductive Dst where
 | no
 | x (k : Nat)
 | t (k : Nat)
 deriving Inhabited
def Dst.slot : Dst → Option Nat
 | .no => none
 | .x k => some k
 | .t k => some k
inductive DOp where
 | mv (x : Opd)
 | pick (c a b : Opd)
 | alloc (z : List DV)
 | allocT (t : Nat) (z : List DV)
 | box (x : Opd)
 | build (z : List DV) (ps : List (Nat × Nat × Opd))
 | bsl (sz : Nat) (z : List DV) (ps : List (Nat × Nat × Opd))
 | bsl' (sz : Nat) (z : List DV) (ps : List (Nat × Nat × Opd))
 | ld (x : Opd)
 | ldn (n : Nat) (x : Opd)
 | st (x v : Opd)
 | stn (n : Nat) (x v : Opd)
 | nilc (x : Opd)
 | bin (op : BinOp) (x y : Opd)
 | beq (neg : Bool) (x y : Opd)
 | un (op : UnOp) (x : Opd)
 | conv (k : IntKind) (x : Opd)
 | s2b (x : Opd)
 | b2s (x : Opd)
 | mks (sz bytes : Nat) (z : List DV) (l c : Opd)
 | slc (sz : Nat) (x : Opd) (lo hi : Option Opd)
 | slcS (x : Opd) (lo hi : Option Opd)
 | fad (off : Nat) (x : Opd)
 | fld (off : Nat) (x : Opd)
 | fldn (off n : Nat) (x : Opd)
 | iad (sz : Nat) (x i : Opd)
 | iaa (len sz : Nat) (x i : Opd)
 | idx (x i : Opd)
 | ext (x : Opd) (i : Nat)
 | len (sz : Nat) (x : Opd)
 | lenS (x : Opd)
 | s2s (x : Opd)
 | app (e sz bytes : Nat) (s x : Opd)
 | call (f : Nat) (args : List Opd)
 | mki (t : Nat) (x : Opd)
 | min2 (x y : Opd)
 | max2 (x y : Opd)
 | apps (e : Nat) (s x : Opd)
 | pan (x : Opd)
 | mkf (f : Nat) (ps : List Opd)
 | callv (x : Opd) (args : List Opd)
 | boxi (x : Opd)
 | appi (sz bytes : Nat) (x : Opd)
 | lde (x : Opd)
 | ldne (n : Nat) (x : Opd)
 | slc3 (sz : Nat) (x : Opd) (lo : Option Opd) (hi mx : Opd)
 | clr (sz : Nat) (z : List DV) (x : Opd)
 | isnil (neg : Bool) (x : Opd)
 | ldr (x : Opd)
 | ldnr (n : Nat) (x : Opd)
 | eqs (neg : Bool) (l : List (Nat × Nat)) (x y : Opd)
 deriving Inhabited
structure DOper where
 dst : Dst
 op : DOp
 guard : Option (Opd × Bool)
 deriving Inhabited
inductive DT where
 | leaf
 | no
 | st (o : DOper) (t : DT)
 | fl (o : DOper) (t : DT)
 | alt (a b : DT)
 deriving Inhabited
inductive DC where
 | skip
 | reg (ops : List DOper)
 | regd (ops : List DOper)
 | regs (n : Nat) (ops : List DOper)
 | rego (t : DT)
 | seq (a b : DC)
 | cond (c : Opd) (a b : DC)
 | block (id : Nat) (b : DC)
 | loop (b : DC)
 | exit (id : Nat)
 | ret
 | bad
 deriving Inhabited
def cv1 : Value → DV
 | .bool b => .bool b
 | .int k n => .int k n
 | .string s => .str s.data.toList
 | .pointer none => .nilp
 | .slice none 0 0 => .nils
 | .nilIface => .nili
 | .func (.func f) a b => if a.size = 0 ∧ b.size = 0 then .fn f else .undef
 | .tuple a => if a.size = 0 then .tup [] else .undef
 | _ => .undef
def cv : Value → DV
 | .agg cs => .agg (cs.toList.map cv1)
 | v => cv1 v
theorem cv1_VI (w : World) (A : Nat → Prop) (v : Value) : VI w A (cv1 v) v := by
 cases v with
 | bool b => exact .bool _
 | int k n => exact .int _ _
 | string s =>
  have : (Value.string s) = .string ⟨s.data.toList.toArray⟩ := by cases s; simp
  rw [this]
  simpa [cv1] using VI.str (w := w) (A := A) s.data.toList
 | pointer a => cases a with
  | none => exact .nilp
  | some a => exact .undef _
 | slice a n c => cases a with
  | none => cases n with
   | zero => cases c with
    | zero => exact .nils
    | succ c => exact .undef _
   | succ n => exact .undef _
  | some a => exact .undef _
 | func f a b => cases f with
  | func f =>
   simp only [cv1]
   split
   ·rename_i hc
    obtain ⟨h1, h2⟩ := hc
    have e1 : a = #[] := Array.eq_empty_of_size_eq_zero h1
    have e2 : b = #[] := Array.eq_empty_of_size_eq_zero h2
    subst e1; subst e2
    exact .fn f
   ·exact .undef _
  | _ => exact .undef _
 | nilIface => exact .nili
 | tuple a =>
  simp only [cv1]
  split
  ·rename_i hc
   have e1 : a = #[] := Array.eq_empty_of_size_eq_zero hc
   subst e1
   exact .tup rfl (fun k d v h => by simp at h)
  ·exact .undef _
 | _ => exact .undef _
theorem cv_VI (w : World) (A : Nat → Prop) (v : Value) : VI w A (cv v) v := by
 cases v with
 | agg cs =>
  refine .agg (by simp) fun k d v h1 h2 => ?_
  simp only [List.getElem?_map, Array.getElem?_toList, h2, Option.map_some, Option.some.injEq] at h1
  rw [← h1]
  exact cv1_VI w A v
 | _ => simp only [cv]; exact cv1_VI w A _
section strip
variable (P : Program) (vs : List Nat)
def sOpd : Operand → Opd
 | .tmp k => if vs.contains k then .x k else .t k
 | .const v => .c (cv v)
 | .func f => .c (.fn f)
 | .global _ => .c .undef
def sDst : Option Nat → Dst
 | none => .no
 | some k => if vs.contains k then .x k else .t k
def isNilC : Operand → Bool
 | .const (.slice none 0 0) => true
 | _ => false
def tAgg (t : TypeId) : Bool := match P.underlying t with
 | some (.struct _) | some (.array ..) => true
 | _ => false
def tSize (t : TypeId) : Option Nat := (P.info? t).map (·.size)
def tZero (t : TypeId) : Option (List DV) := ((P.info? t).bind (·.zero)).map fun z => z.cells.toList.map cv1
def sParts (place : Nat → Option (Nat × Nat)) : List (Nat × Operand) → Option (List (Nat × Nat × Opd))
 | [] => some []
 | (i, x) :: r => (place i).bind fun p => (sParts place r).map ((p.1, p.2, sOpd vs x) :: ·)
def eqOffs : List Field → Option (List (Nat × Nat))
 | [] => some []
 | f :: r => if f.name = "_" then none else match P.underlying f.type with
  | some (.int _) => (eqOffs r).map ((f.offset, 0) :: ·)
  | some .bool => (eqOffs r).map ((f.offset, 1) :: ·)
  | some .string => (eqOffs r).map ((f.offset, 2) :: ·)
  | _ => none
def sOp (own : List Nat) (dst : Option Nat) (o : Op) : Option DOp :=
 let s := sOpd vs
 match o with
 | .move x | .assign x => some (.mv (s x))
 | .pick c a b => some (.pick (s c) (s a) (s b))
 | .alloc e => (tZero P e).map fun z => if own.contains (dst.getD 0) then .allocT e z else .alloc z
 | .box _ x => some (if own.contains (2000000 + dst.getD 0) then .boxi (s x) else .box (s x))
 | .build t ps => match P.underlying t with
  | some (.struct fs) => match fs.toList.mapM (fun f => (tSize P f.type).map fun n => (f.offset, n)) with
   | some places => (tZero P t).bind fun z => (sParts vs (places[·]?) ps.toList).map (.build z)
   | none => none
  | some (.array _ e) => (tSize P e).bind fun n => (tZero P t).bind fun z => (sParts vs (fun i => some (i * n, n)) ps.toList).map (.build z)
  | _ => none
 | .buildSlice t len ps => match P.underlying t with
  | some (.slice e) => (tSize P e).bind fun n => (tZero P e).bind fun z =>
   if n = 0 ∨ len * n > 4096 then none else
   (sParts vs (fun i => some (i * n, n)) ps.toList).map
    (if own.contains (dst.getD 0) then .bsl' n ((List.range (len * n)).map fun j => z.getD (j % z.length) .undef)
     else .bsl n ((List.range (len * n)).map fun j => z.getD (j % z.length) .undef))
  | _ => none
 | .load t a => if tAgg P t then (tSize P t).map (fun n => if own.contains (4000000 + dst.getD 0) then .ldne n (s a) else if own.contains (6000000 + dst.getD 0) then .ldnr n (s a) else .ldn n (s a)) else if (P.underlying t).isSome then some (if own.contains (4000000 + dst.getD 0) then .lde (s a) else if own.contains (6000000 + dst.getD 0) then .ldr (s a) else .ld (s a)) else none
 | .store t a x => (tSize P t).map fun n => if n = 1 then .st (s a) (s x) else .stn n (s a) (s x)
 | .nilCheck x => some (.nilc (s x))
 | .binOp op t x y _ => match op with
  | .eql | .neq => match P.underlying t with
   | some .bool => some (.beq (op == .neq) (s x) (s y))
   | some (.int _) | some .string => some (.bin op (s x) (s y))
   | some (.slice _) => if isNilC y then some (.isnil (op == .neq) (s x)) else none
   | some (.struct fs) => if P.stoodInHeld t || P.eqGuardType P.depth t then none else (eqOffs P fs.toList).map fun l => .eqs (op == .neq) l (s x) (s y)
   | _ => none
  | _ => some (.bin op (s x) (s y))
 | .unOp op _ x => some (.un op (s x))
 | .convert src dst x => match P.underlying src, P.underlying dst with
  | some (.int _), some (.int k) => some (.conv k (s x))
  | some .string, some .string => some (.s2s (s x))
  | some (.int _), some .string => some (.s2s (s x))
  | some .string, some (.slice e) => if P.underlying e matches some (.int .u8) then some (.s2b (s x)) else none
  | some (.slice e), some .string => if P.underlying e matches some (.int .u8) then some (.b2s (s x)) else none
  | _, _ => none
 | .makeSlice t l c => match P.underlying t with
  | some (.slice e) => (P.info? e).bind fun i => (tZero P e).bind fun z => if i.size = 0 ∨ i.bytes = 0 ∨ z.length ≠ i.size then none else some (.mks i.size i.bytes z (s l) (s c))
  | _ => none
 | .slice t x lo hi mx => match P.underlying t with
  | some (.slice e) => (tSize P e).bind fun n => if n = 0 then none else match mx with
   | none => some (.slc n (s x) (lo.map s) (hi.map s))
   | some m => hi.map fun hh => .slc3 n (s x) (lo.map s) (s hh) (s m)
  | some .string => if mx.isSome then none else some (.slcS (s x) (lo.map s) (hi.map s))
  | _ => none
 | .fieldAddr t x f => match P.underlying t with
  | some (.struct fs) => (fs[f]?).bind fun g => (tSize P g.type).bind fun n => if n = 0 then none else some (.fad g.offset (s x))
  | _ => none
 | .field t x f => match P.underlying t with
  | some (.struct fs) => (fs[f]?).bind fun g => (tSize P g.type).bind fun n =>
   if tAgg P g.type then some (.fldn g.offset n (s x)) else if (P.underlying g.type).isSome then some (.fld g.offset (s x)) else none
  | _ => none
 | .indexAddr t x i => match P.underlying t with
  | some (.slice e) => (tSize P e).bind fun n => if n = 0 then none else some (.iad n (s x) (s i))
  | some (.array len e) => (tSize P e).bind fun n => if n = 0 then none else some (.iaa len n (s x) (s i))
  | _ => none
 | .index t x i => match P.underlying t with
  | some .string => some (.idx (s x) (s i))
  | _ => none
 | .extract t i => some (.ext (s t) i)
 | .makeInterface t x => match P.underlying t with
  | some (.interface _) | none => none
  | some _ => some (.mki t (s x))
 | .panic x => some (.pan (s x))
 | .makeFunc (.func f) first caps => if first.size = 0 then some (.mkf f (caps.toList.map s)) else none
 | .call c => match c.callee with
  | .value (.func f) => match P.funcs[f]? with
   | some fn => if fn.body.isSome && fn.name != "runtime.NumGoroutine" then some (.call f (c.args.toList.map s)) else none
   | none => none
  | .builtin .len => match c.args.toList, c.argTypes.toList with
   | [x], [t] => match P.underlying t with
    | some .string => some (.lenS (s x))
    | some (.slice e) => (tSize P e).bind fun n => if n = 0 then none else some (.len n (s x))
    | _ => none
   | _, _ => none
  | .value (.tmp k) => some (.callv (s (.tmp k)) (c.args.toList.map s))
  | .builtin .clear => match c.args.toList, c.argTypes.toList with
   | [x], [t] => match P.underlying t with
    | some (.slice e) => (P.info? e).bind fun i => (tZero P e).bind fun z => if i.size = 0 ∨ z.length ≠ i.size ∨ z.all (fun d => match d with | .undef | .agg _ | .tup _ | .raw _ => false | _ => true) = false then none else some (.clr i.size z (s x))
    | _ => none
   | _, _ => none
  | .builtin .append => match c.args.toList, c.argTypes.toList with
   | [x, y], [t, u] => match P.underlying t, P.underlying u with
    | some (.slice e), some (.slice _) => if t = u then (P.info? e).bind fun i => if i.size = 0 ∨ i.zero.map (·.cells.size) ≠ some i.size then none else
     some (if own.contains (3000000 + dst.getD 0) && isNilC x then .appi i.size i.bytes (s y) else .app e i.size i.bytes (s x) (s y)) else none
    | some (.slice e), some .string => (P.info? e).bind fun i => if i.size = 1 ∧ i.bytes = 1 ∧ i.zero.map (·.cells.size) = some 1 then some (.apps e (s x) (s y)) else none
    | _, _ => none
   | _, _ => none
  | .builtin .min => match c.args.toList with
   | [x, y] => some (.min2 (s x) (s y))
   | _ => none
  | .builtin .max => match c.args.toList with
   | [x, y] => some (.max2 (s x) (s y))
   | _ => none
  | _ => none
 | _ => none
def sGuard (ops : Array Oper) : Option (Nat × Bool) → Option (Option (Opd × Bool))
 | none => some none
 | some (j, b) => ((ops[j]?).bind (·.dst)).map fun k => some (sOpd vs (.tmp k), b)
def dOk (n : Nat) : Option Nat → Bool
 | some k => decide (k < n)
 | none => true
def sOper (own : List Nat) (n : Nat) (ops : Array Oper) (o : Oper) : Option DOper :=
 (sOp P vs own o.dst o.op).bind fun p => (sGuard vs ops o.guard).bind fun g =>
  if dOk n o.dst then some ⟨sDst vs o.dst, p, g⟩ else none
def sOpers (own : List Nat) (n : Nat) (ops : Array Oper) : List Oper → Option (List DOper)
 | [] => some []
 | o :: r => (sOper P vs own n ops o).bind fun d => (sOpers own n ops r).map (d :: ·)
end strip
def DV.one : DV → Bool
 | .undef | .agg _ | .tup _ | .raw _ => false
 | _ => true
def DV.cells? : DV → Option (List DV)
 | .agg cs => if cs.all DV.one then some cs else none
 | d => if d.one then some [d] else none
open Classical in
noncomputable def gd {α : Type} (c : Prop) (x : Option α) : Option α := if c then x else none
def gdo {α : Type} (a b : Nat) (x y : Option α) : Option α := if a < b then x else if a = b then y else none
theorem gdo_lt {α : Type} {a b : Nat} {x y : Option α} (h : a < b) : gdo a b x y = x := by unfold gdo; rw [if_pos h]
theorem gdo_eq {α : Type} {a b : Nat} {x y : Option α} (h : a = b) : gdo a b x y = y := by unfold gdo; rw [if_neg (by omega), if_pos h]
inductive Eff where
 | no
 | set (o : Nat) (cells : List DV)
 | new (o : Nat) (cells : List DV)
 | app (o : Nat) (cells : List DV)
def Eff.onS : Eff → (Nat → DV) → (Nat → DV)
 | .app o _, σ => purgeS o σ
 | _, σ => σ
def Eff.onH : Eff → Heap → Heap
 | .no, h => h
 | .set o c, h => h.upd o (some c)
 | .new o c, h => h.upd o (some c)
 | .app o c, h => (h.purge o).upd o (some c)
def bitE (op : BinOp) (k : IntKind) (a b : Int) : Int :=
 let x := BitVec.ofInt k.bits a
 let y := BitVec.ofInt k.bits b
 k.wrap (match op with
  | .and => ((x &&& y).toNat : Int)
  | .or => ((x ||| y).toNat : Int)
  | .xor => ((x ^^^ y).toNat : Int)
  | _ => ((x &&& ~~~y).toNat : Int))
noncomputable def binE (op : BinOp) : DV → DV → Option DV
 | .int k a, .int j b => match op with
  | .add => gd (k = j) (some (.int k (k.wrap (a + b))))
  | .sub => gd (k = j) (some (.int k (k.wrap (a - b))))
  | .mul => gd (k = j) (some (.int k (k.wrap (a * b))))
  | .quo => gd (k = j ∧ b ≠ 0) (some (.int k (k.wrap (a.tdiv b))))
  | .rem => gd (k = j ∧ b ≠ 0) (some (.int k (a.tmod b)))
  | .and => gd (k = j) (some (.int k (bitE .and k a b)))
  | .or => gd (k = j) (some (.int k (bitE .or k a b)))
  | .xor => gd (k = j) (some (.int k (bitE .xor k a b)))
  | .andNot => gd (k = j) (some (.int k (bitE .andNot k a b)))
  | .shl => gd (0 ≤ b) (some (.int k (k.wrap (a * 2 ^ (min b.toNat k.bits)))))
  | .shr => gd (0 ≤ b) (some (.int k (a.fdiv (2 ^ (min b.toNat k.bits)))))
  | .eql => gd (k = j) (some (.bool (decide (a = b))))
  | .neq => gd (k = j) (some (.bool (decide (¬ a = b))))
  | .lss => gd (k = j) (some (.bool (decide (a < b))))
  | .leq => gd (k = j) (some (.bool (decide (a ≤ b))))
  | .gtr => gd (k = j) (some (.bool (decide (b < a))))
  | .geq => gd (k = j) (some (.bool (decide (b ≤ a))))
 | .str a, .str b => match op with
  | .add => gd (a.length + b.length ≤ 9223372036854775807) (some (.str (a ++ b)))
  | .eql => some (.bool (decide (a = b)))
  | .neq => some (.bool (decide (¬ a = b)))
  | .lss => some (.bool (Op.bytesLess a b))
  | .leq => some (.bool (Op.bytesLess a b || decide (a = b)))
  | .gtr => some (.bool (!(Op.bytesLess a b || decide (a = b))))
  | .geq => some (.bool (!Op.bytesLess a b))
  | _ => none
 | _, _ => none
def unE (op : UnOp) : DV → Option DV
 | .int k a => match op with
  | .neg => some (.int k (k.wrap (0 - a)))
  | .xor => some (.int k (bitE .xor k (if k.signed then -1 else k.max) a))
  | _ => none
 | .bool b => match op with
  | .not => some (.bool (!b))
  | _ => none
 | _ => none
def cnt (sz : Nat) (xs : List DV) : Nat := if sz = 1 then xs.length else xs.length / sz
def byteD (b : UInt8) : DV := .int .u8 b.toNat
def byteOf : DV → Option UInt8
 | .int .u8 n => some (UInt8.ofNat n.toNat)
 | _ => none
def bytesOf : List DV → Option (List UInt8)
 | [] => some []
 | d :: r => (byteOf d).bind fun b => (bytesOf r).map (b :: ·)
def rep (l : Nat) : List DV → List DV
 | [z] => List.replicate l z
 | z => (List.replicate l z).flatten
def spl (cells : List DV) (off n : Nat) : List DV → List DV
 | [c] => cells.set off c
 | cs => cells.take off ++ cs ++ cells.drop (off + n)
def laid (cells : List DV) : List (Nat × Nat × DV) → Option (List DV)
 | [] => some cells
 | (off, n, d) :: r => d.cells?.bind fun cs =>
  if cs.length = n ∧ off + n ≤ cells.length then laid (spl cells off n cs) r else none
section
variable (nb : Nat) (dst : Option Nat) (e : Opd → DV) (h : Heap)
def freshE : Option Nat := dst.bind fun k => if (h (nb + k)).isNone then (if nb + k < 786432 then some (nb + k) else none) else none
def freshT (t n : Nat) : Option Nat := dst.bind fun k => if n < 16 then (if (h (2097152 + 4096 * t + 256 * n + k % 256)).isNone then some (2097152 + 4096 * t + 256 * n + k % 256) else none) else none
noncomputable def boundE (n : Nat) : Option Opd → Nat → Option Nat
 | none, d => some d
 | some x, _ => match e x with
  | .int _ i => gd (0 ≤ i ∧ i ≤ n) (some i.toNat)
  | _ => none
noncomputable def newsE (sz : Nat) : DV → Option (List DV)
 | .sl s ys => gd (s = sz) (some ys)
 | .nils => some []
 | .osl s o off len => (h o).bind fun cs => gd (s = sz ∧ off + len * sz ≤ cs.length) (some ((cs.drop off).take (len * sz)))
 | _ => none
def bys (l : List UInt8) : List DV := l.map byteD
def eqD : Nat → DV → DV → Option Bool
 | 0, .int k a, .int j b => if k = j then some (decide (a = b)) else none
 | 1, .bool a, .bool b => some (a == b)
 | 2, .str a, .str b => some (decide (a = b))
 | _, _, _ => none
def eqsD (cs ds : List DV) : List (Nat × Nat) → Option Bool
 | [] => some true
 | (o, k) :: r => (eqD k (cs.getD o .undef) (ds.getD o .undef)).bind fun b => if b then eqsD cs ds r else some false
noncomputable def opE : DOp → Option (DV × Eff)
 | .mv x => some (e x, .no)
 | .pick c a b => match e c with
  | .bool t => some (if t then e a else e b, .no)
  | _ => none
 | .alloc z => (freshE nb dst h).map fun o => (.ptr o 0, .new o z)
 | .allocT t z => (freshT dst h t z.length).map fun o => (.ptr o 0, .new o z)
 | .box x => (e x).cells?.bind fun cs => (freshE nb dst h).map fun o => (.ptr o 0, .new o cs)
 | .build z ps => (laid z (ps.map fun p => (p.1, p.2.1, e p.2.2))).map fun cs => (.agg cs, .no)
 | .bsl sz z ps => (laid z (ps.map fun p => (p.1, p.2.1, e p.2.2))).bind fun cs => gd (∀ d ∈ cs, d.rf = true) (some (.sl sz cs, .no))
 | .bsl' sz z ps => (laid z (ps.map fun p => (p.1, p.2.1, e p.2.2))).bind fun cs => (freshE nb dst h).map fun o => (.osl sz o 0 (cnt sz z), .new o cs)
 | .ld x => match e x with
  | .el xs i => gd (i < xs.length) (some (xs.getD i .undef, .no))
  | .ptr o off => (h o).bind fun cs => gd (off < cs.length) (some (cs.getD off .undef, .no))
  | _ => none
 | .ldn n x => match e x with
  | .el xs i => gd (i + n ≤ xs.length) (some (.agg ((xs.drop i).take n), .no))
  | .ptr o off => (h o).bind fun cs => gd (off + n ≤ cs.length) (some (.agg ((cs.drop off).take n), .no))
  | _ => none
 | .st x v => match e x with
  | .ptr o off => (h o).bind fun cs => gd ((e v).one = true ∧ off < cs.length) (some (.tup [], .set o (cs.set off (e v))))
  | _ => none
 | .stn n x v => match e x with
  | .ptr o off => (h o).bind fun cs => (e v).cells?.bind fun cv => gd (cv.length = n ∧ off + n ≤ cs.length) (some (.tup [], .set o (cs.take off ++ cv ++ cs.drop (off + n))))
  | _ => none
 | .nilc x => match e x with
  | .ptr o off => some (.ptr o off, .no)
  | .el xs i => some (.el xs i, .no)
  | _ => none
 | .bin op x y => (binE op (e x) (e y)).map fun d => (d, .no)
 | .beq neg x y => match e x, e y with
  | .bool a, .bool b => some (.bool (if neg then !(a == b) else a == b), .no)
  | _, _ => none
 | .un op x => (unE op (e x)).map fun d => (d, .no)
 | .eqs neg l x y => match e x, e y with
  | .agg cs, .agg ds => (eqsD cs ds l).map fun b => (.bool (if neg then !b else b), .no)
  | _, _ => none
 | .conv k x => match e x with
  | .int _ n => some (.int k (k.wrap n), .no)
  | _ => none
 | .s2b x => match e x with
  | .str l => some (.sl 1 (l.map byteD), .no)
  | _ => none
 | .b2s x => match e x with
  | .nils => some (.str [], .no)
  | .sl sz xs => gd (sz = 1) ((bytesOf xs).map fun l => (.str l, .no))
  | .osl sz o off len => (h o).bind fun cs => gd (sz = 1 ∧ off + len ≤ cs.length) ((bytesOf ((cs.drop off).take len)).map fun l => (.str l, .no))
  | _ => none
 | .mks sz bytes z l c => match e l, e c with
  | .int _ a, .int _ b => gd (0 ≤ a ∧ a ≤ b ∧ b * bytes ≤ 281474976710656) ((freshE nb dst h).map fun o => (.osl sz o 0 a.toNat, .new o (rep a.toNat z)))
  | _, _ => none
 | .slc sz x lo hi => match e x with
  | .sl s xs => gd (s = sz) ((boundE e (cnt sz xs) hi (cnt sz xs)).bind fun b => (boundE e b lo 0).map fun a => (.sl sz ((xs.take (b * sz)).drop (a * sz)), .no))
  | .osl s o off len => gd (s = sz) ((boundE e len hi len).bind fun b => (boundE e b lo 0).bind fun a => gdo a b (some (.osl sz o (off + a * sz) (b - a), .no)) (some (.sl sz [], .no)))
  | .nils => (boundE e 0 hi 0).bind fun b => (boundE e b lo 0).map fun _ => (.nils, .no)
  | _ => none
 | .slcS x lo hi => match e x with
  | .str l => (boundE e l.length hi l.length).bind fun b => (boundE e b lo 0).map fun a => (.str ((l.take b).drop a), .no)
  | _ => none
 | .fad off x => match e x with
  | .ptr o k => some (.ptr o (k + off), .no)
  | .el xs i => some (.el xs (i + off), .no)
  | _ => none
 | .fld off x => match e x with
  | .agg cs => gd (off < cs.length) (some (cs.getD off .undef, .no))
  | _ => none
 | .fldn off n x => match e x with
  | .agg cs => gd (off + n ≤ cs.length) (some (.agg ((cs.drop off).take n), .no))
  | _ => none
 | .iad sz x i => match e x, e i with
  | .sl s xs, .int _ n => gd (s = sz ∧ 0 ≤ n ∧ (n.toNat + 1) * sz ≤ xs.length) (some (.el xs (n.toNat * sz), .no))
  | .osl s o off len, .int _ n => gd (s = sz ∧ 0 ≤ n ∧ n < len) (some (.ptr o (off + n.toNat * sz), .no))
  | _, _ => none
 | .iaa len sz x i => match e x, e i with
  | .ptr o k, .int _ n => gd (0 ≤ n ∧ n < len) (some (.ptr o (k + n.toNat * sz), .no))
  | .el xs k, .int _ n => gd (0 ≤ n ∧ n < len) (some (.el xs (k + n.toNat * sz), .no))
  | _, _ => none
 | .idx x i => match e x, e i with
  | .str l, .int _ n => gd (0 ≤ n ∧ n.toNat < l.length) (some (byteD (l.getD n.toNat 0), .no))
  | _, _ => none
 | .ext x i => match e x with
  | .tup ds => gd (i < ds.length) (some (ds.getD i .undef, .no))
  | _ => none
 | .s2s x => match e x with
  | .str l => some (.str l, .no)
  | .int _ n => gd (0 ≤ n ∧ n < 128) (some (.str [UInt8.ofNat n.toNat], .no))
  | _ => none
 | .lenS x => match e x with
  | .str l => some (.int .i64 l.length, .no)
  | _ => none
 | .len sz x => match e x with
  | .sl s xs => gd (s = sz) (some (.int .i64 (cnt sz xs), .no))
  | .osl _ _ _ n => some (.int .i64 n, .no)
  | .nils => some (.int .i64 0, .no)
  | _ => none
 | .app te sz bytes s x => match e s with
  | .nils => (newsE h sz (e x)).bind fun ys => gd (ys.length * bytes ≤ 140737488355328 ∧ ys.length ≤ 9223372036854775807 ∧ ∀ d ∈ ys, d.one = true)
    ((freshE nb dst h).map fun o => (.osl sz o 0 (cnt sz ys), .app o (ys.map (purge o))))
  | .osl s' o off len => (h o).bind fun cs => (newsE h sz (e x)).bind fun ys =>
    gd (s' = sz ∧ off = 0 ∧ cs.length = len * sz ∧ (cs.length + ys.length) * bytes ≤ 140737488355328 ∧ cs.length + ys.length ≤ 9223372036854775807 ∧ o < 1048576 ∧ (786432 ≤ o ∧ o < 851968 → te = (o - 786432) / 16) ∧ ∀ d ∈ ys, d.one = true)
     (some (.osl sz o 0 (len + cnt sz ys), .app o ((cs ++ ys).map (purge o))))
  | _ => none
 | .mki t x => gd ((e x).rf = true) (some (.iface t (e x), .no))
 | .min2 x y => match e x, e y with
  | .int k a, .int _ b => some (.int k (if b < a then b else a), .no)
  | _, _ => none
 | .max2 x y => match e x, e y with
  | .int k a, .int _ b => some (.int k (if b > a then b else a), .no)
  | _, _ => none
 | .apps te s x => match e s, e x with
  | .nils, .str l => gd (l.length ≤ 140737488355328) ((freshE nb dst h).map fun o => (.osl 1 o 0 l.length, .app o (bys l)))
  | .osl s' o off len, .str l => (h o).bind fun cs =>
    gd (s' = 1 ∧ off = 0 ∧ cs.length = len ∧ cs.length + l.length ≤ 140737488355328 ∧ o < 1048576 ∧ (786432 ≤ o ∧ o < 851968 → te = (o - 786432) / 16)) (some (.osl 1 o 0 (len + l.length), .app o ((cs ++ bys l).map (purge o))))
  | _, _ => none
 | .call _ _ => none
 | .pan _ => none
 | .callv _ _ => none
 | .mkf f ps => gd (∀ d ∈ ps.map e, d.rf = true) (some (.clo f (ps.map e), .no))
 | .boxi x => (e x).cells?.bind fun cs => gd (cs ≠ [] ∧ ∀ d ∈ cs, d.rf = true) (some (.el cs 0, .no))
 | .appi sz bytes x => (newsE h sz (e x)).bind fun ys => gd (ys.length * bytes ≤ 140737488355328 ∧ ys.length ≤ 9223372036854775807 ∧ ∀ d ∈ ys, d.rf = true) (some (.sl sz ys, .no))
 | .lde x => match e x with
  | .el xs i => gd (i < xs.length ∧ (xs.getD i .undef).rf = true) (some (xs.getD i .undef, .no))
  | _ => none
 | .ldne n x => match e x with
  | .el xs i => gd (i + n ≤ xs.length ∧ ∀ d ∈ (xs.drop i).take n, d.rf = true) (some (.agg ((xs.drop i).take n), .no))
  | _ => none
 | .slc3 sz x lo hi mx => match e mx with
  | .int _ m => match e x with
   | .sl s xs => gd (s = sz ∧ 0 ≤ m ∧ m ≤ cnt sz xs) ((boundE e m.toNat (some hi) 0).bind fun b => (boundE e b lo 0).map fun a => (.sl sz ((xs.take (b * sz)).drop (a * sz)), .no))
   | .osl s o off len => gd (s = sz ∧ 0 ≤ m ∧ m ≤ len) ((boundE e m.toNat (some hi) 0).bind fun b => (boundE e b lo 0).bind fun a => gd (a < b) (some (.osl sz o (off + a * sz) (b - a), .no)))
   | _ => none
  | _ => none
 | .clr sz z x => match e x with
  | .osl s o off len => (h o).bind fun cs => gd (s = sz ∧ off + len * sz ≤ cs.length) (some (.tup [], .set o (cs.take off ++ rep len z ++ cs.drop (off + len * sz))))
  | _ => none
 | .ldr x => match e x with
  | .ptr o off => (h o).bind fun cs => gd (off < cs.length ∧ (cs.getD off .undef).one = true ∧ (cs.getD off .undef).rf = true) (some (cs.getD off .undef, .no))
  | _ => none
 | .ldnr n x => match e x with
  | .ptr o off => (h o).bind fun cs => gd (off + n ≤ cs.length ∧ ∀ d ∈ (cs.drop off).take n, d.one = true ∧ d.rf = true) (some (.agg ((cs.drop off).take n), .no))
  | _ => none
 | .isnil neg x => match e x with
  | .nils => some (.bool (!neg), .no)
  | .sl _ xs => gd (xs ≠ []) (some (.bool neg, .no))
  | .osl _ _ _ n => gd (n ≠ 0) (some (.bool neg, .no))
  | _ => none
end
end Go.Dat
namespace Go.Dat
open Go
def evS (σ : Nat → DV) : Opd → DV
 | .x k => σ k
 | .t k => σ k
 | .c d => d
section inv
variable {w : World} {L : Nat → Option Nat} {A : Nat → Prop} {v : Value}
theorem V.inv_int {k : IntKind} {n : Int} (h : V w L A (.int k n) v) : v = .int k n := by
 cases h with | imm h => cases h with | int => rfl
theorem V.inv_bool {b : Bool} (h : V w L A (.bool b) v) : v = .bool b := by
 cases h with | imm h => cases h with | bool => rfl
theorem V.inv_str {l : List UInt8} (h : V w L A (.str l) v) : v = .string ⟨l.toArray⟩ := by
 cases h with | imm h => cases h with | str => rfl
theorem V.inv_nils (h : V w L A .nils v) : v = .slice none 0 0 := by
 cases h with | imm h => cases h with | nils => rfl
theorem V.inv_tup {cs : List DV} (h : V w L A (.tup cs) v) : ∃ vs : Array Value, v = .tuple vs ∧ cs.length = vs.size ∧ ∀ (k : Nat) d v, cs[k]? = some d → vs[k]? = some v → V w L A d v := by
 cases h with
 | imm h => cases h with
  | tup hl h => exact ⟨_, rfl, hl, fun k d v h1 h2 => .imm (h k d v h1 h2)⟩
 | tup hl h => exact ⟨_, rfl, hl, h⟩
theorem V.inv_agg {cs : List DV} (h : V w L A (.agg cs) v) : ∃ vs : Array Value, v = .agg vs ∧ cs.length = vs.size ∧ ∀ (k : Nat) d v, cs[k]? = some d → vs[k]? = some v → V w L A d v := by
 cases h with
 | imm h => cases h with
  | agg hl h => exact ⟨_, rfl, hl, fun k d v h1 h2 => .imm (h k d v h1 h2)⟩
 | agg hl h => exact ⟨_, rfl, hl, h⟩
theorem V.inv_ptr {o off : Nat} (h : V w L A (.ptr o off) v) : ∃ b, L o = some b ∧ v = .pointer (some ⟨b, off, none⟩) := by
 cases h with
 | imm h => cases h
 | ptr h => exact ⟨_, h, rfl⟩
theorem V.inv_osl {sz o off n : Nat} (h : V w L A (.osl sz o off n) v) :
  (∃ b c T m, L o = some b ∧ v = .slice (some ⟨b, off, none⟩) n c ∧ n ≤ c ∧ w.shape? b = some (T, m) ∧ off + c * sz ≤ m) ∨ (n = 0 ∧ v = .slice none 0 0) := by
 cases h with
 | imm h => cases h
 | osl hL hc hs hm => exact .inl ⟨_, _, _, _, hL, rfl, hc, hs, hm⟩
 | osl0 => exact .inr ⟨rfl, rfl⟩
theorem V.inv_sl {sz : Nat} {xs : List DV} (h : V w L A (.sl sz xs) v) :
  (xs = [] ∧ ∃ a c, v = .slice a 0 c) ∨
  (xs ≠ [] ∧ ∃ (ad : Addr) (n c : Nat) (vs : Nat → Value), v = .slice (some ad) n c ∧ xs.length = n * sz ∧ n ≤ c ∧ ¬ A ad.block ∧
   (∀ k d, xs[k]? = some d → w.cell? (ad.add k) = some (vs k)) ∧ (∀ k d, xs[k]? = some d → VI w A d (vs k))) := by
 cases h with
 | imm h => cases h with
  | sl0 => exact .inl ⟨rfl, _, _, rfl⟩
  | sl vs hx hn hc hA hcell hv => exact .inr ⟨hx, _, _, _, vs, rfl, hn, hc, hA, hcell, hv⟩
theorem V.inv_el {xs : List DV} {i : Nat} (h : V w L A (.el xs i) v) :
  ∃ (ad : Addr) (vs : Nat → Value), v = .pointer (some (ad.add i)) ∧ xs ≠ [] ∧ ¬ A ad.block ∧
   (∀ k d, xs[k]? = some d → w.cell? (ad.add k) = some (vs k)) ∧ (∀ k d, xs[k]? = some d → VI w A d (vs k)) := by
 cases h with
 | imm h => cases h with
  | el vs hx hA hcell hv => exact ⟨_, vs, rfl, hx, hA, hcell, hv⟩
theorem VI.int' {k : IntKind} {n m : Int} (h : n = m) : VI w A (.int k n) (.int k m) := by subst h; exact .int _ _
theorem V.cells {d : DV} {cs : List DV} (hc : d.cells? = some cs) (h : V w L A d v) :
  v.cells.size = cs.length ∧ (∀ (k : Nat) d v', cs[k]? = some d → v.cells[k]? = some v' → V w L A d v') ∧ ∀ d ∈ cs, d.one = true := by
 have key : ∀ (d : DV), d.one = true → V w L A d v → v.cells = #[v] := by
  intro d hd hv
  cases hv with
  | imm h => cases h <;> first | rfl | simp [DV.one] at hd
  | ptr => rfl
  | osl => rfl
  | osl0 => rfl
  | agg => simp [DV.one] at hd
  | tup => simp [DV.one] at hd
 have one : ∀ (d : DV), d.one = true → V w L A d v → v.cells.size = [d].length ∧ (∀ (k : Nat) e v', [d][k]? = some e → v.cells[k]? = some v' → V w L A e v') ∧ ∀ e ∈ [d], e.one = true := by
  intro d hd hv
  rw [key d hd hv]
  refine ⟨rfl, fun k e v' h1 h2 => ?_, fun e he => by simp at he; subst he; exact hd⟩
  cases k with
  | zero => simp at h1 h2; subst h1; subst h2; exact hv
  | succ k => simp at h1
 cases d with
 | agg ds =>
  simp only [DV.cells?] at hc
  split at hc
  ·rename_i hall
   cases hc
   obtain ⟨vs, rfl, hl, hp⟩ := h.inv_agg
   exact ⟨hl.symm, hp, List.all_eq_true.1 hall⟩
  ·cases hc
 | undef => simp [DV.cells?, DV.one] at hc
 | tup => simp [DV.cells?, DV.one] at hc
 | raw => simp [DV.cells?, DV.one] at hc
 | _ =>
  simp only [DV.cells?, DV.one, if_true, Option.some.injEq] at hc
  subst hc
  exact one _ rfl h
theorem V.oneCell {d : DV} (hd : d.one = true) (h : V w L A d v) : v.oneCell' = true := by
 cases h with
 | imm h => cases h <;> first | rfl | simp [DV.one] at hd
 | ptr => rfl
 | osl => rfl
 | osl0 => rfl
 | agg => simp [DV.one] at hd
 | tup => simp [DV.one] at hd
end inv
section
variable {P : Program} {G : Cx} {L : Nat → Option Nat} {σ : Nat → DV} {h : Heap} {a : Act} {w : World} {vs own : List Nat} {ε : Opd → DV}
theorem ev_V (hR : R G L σ h a w) (x : Operand) : V w L (Av G.S L) (evS σ (sOpd vs x)) (a.eval x) := by
 cases x with
 | tmp k =>
  have := hR.slots k
  by_cases hk : vs.contains k = true
  ·simp only [sOpd, hk, if_true, evS, Act.eval]; exact this
  ·simp only [sOpd, hk, evS, Act.eval]; exact this
 | const v => exact .imm (cv_VI _ _ v)
 | global g => exact .imm (.undef _)
 | func f => exact .imm (.fn f)
def EV (vs : List Nat) (ε : Opd → DV) (w : World) (L : Nat → Option Nat) (A : Nat → Prop) (a : Act) : Prop := ∀ x : Operand, V w L A (ε (sOpd vs x)) (a.eval x)
def Snd (P : Program) (G : Cx) (σ : Nat → DV) (h : Heap) (a : Act) (w : World) (o : Oper) (d : DV) (ef : Eff) : Prop :=
 ∃ v w' L', ((execOp a.eval o).run P w = .ok (.value v) w' ∨ ((execOp a.eval o).run P w = .ok .skip w' ∧ v = undef)) ∧
  R G L' (ef.onS σ) (ef.onH h) a w' ∧ V w' L' (Av G.S L') d v
theorem Snd.val {o : Oper} {d : DV} {v : Value} (hR : R G L σ h a w) (hr : (execOp a.eval o).run P w = .ok (.value v) w) (hv : V w L (Av G.S L) d v) : Snd P G σ h a w o d .no :=
 ⟨v, w, L, .inl hr, hR, hv⟩
theorem Snd.val' {o : Oper} {d : DV} {v : Value} {w' : World} (hR : R G L σ h a w) (hx : Ext (fun _ => False) w w') (hr : (execOp a.eval o).run P w = .ok (.value v) w') (hv : VI w' (Av G.S L) d v) : Snd P G σ h a w o d .no :=
 ⟨v, w', L, .inl hr, hR.still hx, .imm hv⟩
theorem Snd.new {o : Oper} {id : Nat} {T : TypeId} {cells : List DV} {cs : Array Value} {d : DV} {v : Value} (hR : R G L σ h a w) (ho : h id = none) (hty : TyC id T cs.size) (hl : cells.length ≤ cs.size)
  (hv : ∀ (k : Nat) d v, cells[k]? = some d → cs[k]? = some v → V w L (Av G.S L) d v)
  (hr : (execOp a.eval o).run P w = .ok (.value v) (w.alloc (.cells cs T)))
  (hd : V (w.alloc (.cells cs T)) (updL L id (some w.heap.size)) (Av G.S (updL L id (some w.heap.size))) d v) : Snd P G σ h a w o d (.new id cells) :=
 ⟨v, _, _, .inl hr, (hR.new ho T hty hl hv).1, hd⟩
theorem freshE_some {nb : Nat} {dst : Option Nat} {id : Nat} (h1 : freshE nb dst h = some id) : h id = none ∧ id < 786432 := by
 unfold freshE at h1
 cases dst with
 | none => cases h1
 | some k =>
  simp only [Option.bind_some] at h1
  split at h1
  ·rename_i hn
   split at h1
   ·rename_i hl; cases h1; exact ⟨by simpa using hn, hl⟩
   ·cases h1
  ·cases h1
theorem freshT_some {t n : Nat} {dst : Option Nat} {id : Nat} (h1 : freshT dst h t n = some id) : h id = none ∧ 2097152 ≤ id ∧ t = (id - 2097152) / 4096 ∧ n = (id - 2097152) / 256 % 16 := by
 unfold freshT at h1
 cases dst with
 | none => cases h1
 | some k =>
  simp only [Option.bind_some] at h1
  split at h1
  ·split at h1
   ·rename_i hl hn; cases h1; exact ⟨by simpa using hn, by omega, by omega, by omega⟩
   ·cases h1
  ·cases h1
variable (nb : Nat) {d : DV} {ef : Eff} {dst : Option Nat} {ty : TypeId} {pos : String} {after : Array Edge} {guard : Option (Nat × Bool)}
theorem gd_some {α : Type} {c : Prop} {x : Option α} {y : α} (h : gd c x = some y) : c ∧ x = some y := by
 unfold gd at h
 split at h
 ·exact ⟨‹_›, h⟩
 ·cases h
theorem snd_mv (hE : EV vs ε w L (Av G.S L) a) (hR : R G L σ h a w) {op : Op} (x : Operand) (hop : op = .move x ∨ op = .assign x) : Snd P G σ h a w ⟨dst, op, ty, pos, after, guard⟩ (ε (sOpd vs x)) .no :=
 Snd.val hR (by rcases hop with rfl | rfl <;> rfl) (hE x)
theorem snd_pick (hE : EV vs ε w L (Av G.S L) a) (hR : R G L σ h a w) (c x y : Operand) (he : opE nb dst (ε) h (.pick (sOpd vs c) (sOpd vs x) (sOpd vs y)) = some (d, ef)) :
  Snd P G σ h a w ⟨dst, .pick c x y, ty, pos, after, guard⟩ d ef := by
 simp only [opE] at he
 split at he
 ·rename_i t ht
  cases he
  have hc := hE c
  rw [ht] at hc
  have hc := hc.inv_bool
  refine Snd.val hR (v := if t then a.eval x else a.eval y) (by simp [execOp, asBool, hc]) ?_
  cases t
  ·exact hE y
  ·exact hE x
 ·cases he
theorem snd_alloc (hE : EV vs ε w L (Av G.S L) a) (hR : R G L σ h a w) (e : TypeId) {z : List DV} (hz : tZero P e = some z) (he : opE nb dst (ε) h (.alloc z) = some (d, ef)) :
  Snd P G σ h a w ⟨dst, .alloc e, ty, pos, after, guard⟩ d ef := by
 simp only [opE, Option.map_eq_some_iff] at he
 obtain ⟨id, hid, he⟩ := he
 cases he
 simp only [tZero, Option.map_eq_some_iff, Option.bind_eq_some_iff] at hz
 obtain ⟨zv, ⟨i, hi, hzi⟩, rfl⟩ := hz
 refine Snd.new (T := e) (cs := zv.cells) (v := .pointer (some ⟨w.heap.size, 0, none⟩)) hR (freshE_some hid).1 ⟨fun h => absurd (freshE_some hid).2 (by omega), fun h => absurd (freshE_some hid).2 (by omega)⟩ (by simp) (fun k d v h1 h2 => ?_) ?_ (.ptr (by simp [updL]))
 ·simp only [List.getElem?_map, Array.getElem?_toList, h2, Option.map_some, Option.some.injEq] at h1
  rw [← h1]
  exact .imm (cv1_VI _ _ _)
 ·simp [execOp, Instr.alloc, zeroValue, typeInfo, hi, hzi, newVar, newRow]
theorem snd_allocT (hE : EV vs ε w L (Av G.S L) a) (hR : R G L σ h a w) (e : TypeId) {z : List DV} (hz : tZero P e = some z) (he : opE nb dst (ε) h (.allocT e z) = some (d, ef)) :
  Snd P G σ h a w ⟨dst, .alloc e, ty, pos, after, guard⟩ d ef := by
 simp only [opE, Option.map_eq_some_iff] at he
 obtain ⟨id, hid, he⟩ := he
 cases he
 simp only [tZero, Option.map_eq_some_iff, Option.bind_eq_some_iff] at hz
 obtain ⟨zv, ⟨i, hi, hzi⟩, rfl⟩ := hz
 refine Snd.new (T := e) (cs := zv.cells) (v := .pointer (some ⟨w.heap.size, 0, none⟩)) hR (freshT_some hid).1 ⟨fun _ => ⟨(freshT_some hid).2.2.1, by have := (freshT_some hid).2.2.2; simpa using this⟩, fun _ h => absurd h (by have := (freshT_some hid).2.1; omega)⟩ (by simp) (fun k d v h1 h2 => ?_) ?_ (.ptr (by simp [updL]))
 ·simp only [List.getElem?_map, Array.getElem?_toList, h2, Option.map_some, Option.some.injEq] at h1
  rw [← h1]
  exact .imm (cv1_VI _ _ _)
 ·simp [execOp, Instr.alloc, zeroValue, typeInfo, hi, hzi, newVar, newRow]
theorem snd_box (hE : EV vs ε w L (Av G.S L) a) (hR : R G L σ h a w) (e : TypeId) (x : Operand) (he : opE nb dst (ε) h (.box (sOpd vs x)) = some (d, ef)) :
  Snd P G σ h a w ⟨dst, .box e x, ty, pos, after, guard⟩ d ef := by
 simp only [opE, Option.bind_eq_some_iff, Option.map_eq_some_iff] at he
 obtain ⟨cs, hcs, id, hid, he⟩ := he
 cases he
 obtain ⟨h1, h2, _⟩ := (hE x).cells hcs
 refine Snd.new (T := e) (cs := (a.eval x).cells) (v := .pointer (some ⟨w.heap.size, 0, none⟩)) hR (freshE_some hid).1 ⟨fun h => absurd (freshE_some hid).2 (by omega), fun h => absurd (freshE_some hid).2 (by omega)⟩ (by omega) h2 ?_ (.ptr (by simp [updL]))
 simp [execOp, Instr.box, newVar, newRow]
theorem run_loadVar_one (P : Program) (t : TypeId) (ad : Addr) (v : Value) (w : World) (hA : tAgg P t = false) (hu : (P.underlying t).isSome = true) (hc : w.cell? ad = some v) :
  (loadVar t ad).run P w = .ok v w := by
 obtain ⟨u, hu⟩ := Option.isSome_iff_exists.1 hu
 have hi : (isAgg t).run P w = .ok false w := by
  unfold tAgg at hA
  rw [hu] at hA
  simp only [isAgg, Sem.run_bind, run_underlying hu, Result.andThen_ok]
  cases u <;> first | rfl | simp at hA
 simp [loadVar, hi, hc]
theorem run_loadVar_agg (P : Program) (t : TypeId) (n : Nat) (ad : Addr) (cs : List Value) (w : World) (hA : tAgg P t = true) (hn : tSize P t = some n) (hl : cs.length = n)
  (hc : ∀ j v, cs[j]? = some v → w.cell? (ad.add j) = some v) : (loadVar t ad).run P w = .ok (.agg cs.toArray) w := by
 have hi : (isAgg t).run P w = .ok true w := by
  unfold tAgg at hA
  split at hA
  ·rename_i hu; simp [isAgg, run_underlying hu]
  ·rename_i hu; simp [isAgg, run_underlying hu]
  ·cases hA
 simp only [tSize, Option.map_eq_some_iff] at hn
 obtain ⟨i, hi', rfl⟩ := hn
 have hlc := run_loadCells_list (P := P) w ad cs hc
 rw [hl] at hlc
 simp [loadVar, hi, sizeOf, typeInfo, hi', hlc]
theorem getD_of_some {α : Type} {l : List α} {k : Nat} {x y : α} (h : l[k]? = some x) : l.getD k y = x := by simp [List.getD_eq_getElem?_getD, h]
theorem exists_get {α : Type} {l : List α} {k : Nat} (h : k < l.length) : ∃ x, l[k]? = some x := ⟨l[k], List.getElem?_eq_getElem h⟩
theorem exists_aget {α : Type} {l : Array α} {k : Nat} (h : k < l.size) : ∃ x, l[k]? = some x := ⟨l[k], Array.getElem?_eq_getElem h⟩
theorem snd_ld (hE : EV vs ε w L (Av G.S L) a) (hR : R G L σ h a w) (t : TypeId) (x : Operand) (hA : tAgg P t = false) (hu : (P.underlying t).isSome = true) (he : opE nb dst (ε) h (.ld (sOpd vs x)) = some (d, ef)) :
  Snd P G σ h a w ⟨dst, .load t x, ty, pos, after, guard⟩ d ef := by
 simp only [opE] at he
 have hx := hE x
 split at he
 ·rename_i xs i hxe
  obtain ⟨hlt, he⟩ := gd_some he
  cases he
  rw [hxe] at hx
  obtain ⟨ad, vs', hv, _, hA', hcell, hvi⟩ := hx.inv_el
  obtain ⟨y, hy⟩ := exists_get hlt
  refine Snd.val hR (v := vs' i) ?_ (by rw [getD_of_some hy]; exact .imm (hvi i y hy))
  simp only [execOp, hv, Sem.run_bind, Instr.loadAt, Instr.sureAddr, Sem.run_pure, Result.andThen_ok, run_loadVar_one P t _ _ w hA hu (hcell i y hy)]
 ·rename_i o off hxe
  simp only [Option.bind_eq_some_iff] at he
  obtain ⟨cs, hcs, he⟩ := he
  obtain ⟨hlt, he⟩ := gd_some he
  cases he
  rw [hxe] at hx
  obtain ⟨b, hL, hv⟩ := hx.inv_ptr
  obtain ⟨cells, cur, T, hho, hb, hl, hp⟩ := hR.heap.at_ hL
  rw [hcs] at hho; cases hho
  obtain ⟨y, hy⟩ := exists_get hlt
  obtain ⟨u, hu'⟩ := exists_aget (l := cur) (k := off) (by omega)
  refine Snd.val hR (v := u) ?_ (by rw [getD_of_some hy]; exact hp off y u hy hu')
  have hc : w.cell? ⟨b, off, none⟩ = some u := by rw [cell_of_row w b off cur T (0, 0) hb]; exact hu'
  simp only [execOp, hv, Sem.run_bind, Instr.loadAt, Instr.sureAddr, Sem.run_pure, Result.andThen_ok, run_loadVar_one P t _ _ w hA hu hc]
 ·cases he
theorem cut_get {α : Type} {l : List α} {i n j : Nat} {x : α} (h : ((l.drop i).take n)[j]? = some x) : l[i + j]? = some x := by
 rw [List.getElem?_take] at h
 split at h
 ·rw [List.getElem?_drop] at h; exact h
 ·cases h
theorem snd_ldn (hE : EV vs ε w L (Av G.S L) a) (hR : R G L σ h a w) (t : TypeId) (x : Operand) (n : Nat) (hA : tAgg P t = true) (hn : tSize P t = some n) (he : opE nb dst (ε) h (.ldn n (sOpd vs x)) = some (d, ef)) :
  Snd P G σ h a w ⟨dst, .load t x, ty, pos, after, guard⟩ d ef := by
 simp only [opE] at he
 have hx := hE x
 split at he
 ·rename_i xs i hxe
  obtain ⟨hlt, he⟩ := gd_some he
  cases he
  rw [hxe] at hx
  obtain ⟨ad, vs', hv, _, hA', hcell, hvi⟩ := hx.inv_el
  have hrow : ∀ j v, ((List.range n).map fun j => vs' (i + j))[j]? = some v → w.cell? ((ad.add i).add j) = some v := by
   intro j v hj
   simp only [List.getElem?_map, Option.map_eq_some_iff] at hj
   obtain ⟨j', hj', rfl⟩ := hj
   have hlt' : j < n := by have := (List.getElem?_eq_some_iff.1 hj').1; simpa using this
   have : j' = j := by simpa [hlt'] using hj'.symm
   subst this
   obtain ⟨y, hy⟩ := exists_get (l := xs) (k := i + j') (by omega)
   rw [add_add]; exact hcell _ y hy
  refine Snd.val hR (v := .agg ((List.range n).map fun j => vs' (i + j)).toArray) ?_ (.imm (.agg (by simp; omega) fun j y v h1 h2 => ?_))
  ·simp only [execOp, hv, Sem.run_bind, Instr.loadAt, Instr.sureAddr, Sem.run_pure, Result.andThen_ok, run_loadVar_agg P t n _ _ w hA hn (by simp) hrow]
  ·have h1' := cut_get h1
   simp only [List.getElem?_toArray, List.getElem?_map, Option.map_eq_some_iff] at h2
   obtain ⟨j', hj', rfl⟩ := h2
   have hlt' : j < n := by have := (List.getElem?_eq_some_iff.1 hj').1; simpa using this
   have : j' = j := by simpa [hlt'] using hj'.symm
   subst this
   exact hvi _ y h1'
 ·rename_i o off hxe
  simp only [Option.bind_eq_some_iff] at he
  obtain ⟨cs, hcs, he⟩ := he
  obtain ⟨hlt, he⟩ := gd_some he
  cases he
  rw [hxe] at hx
  obtain ⟨b, hL, hv⟩ := hx.inv_ptr
  obtain ⟨cells, cur, T, hho, hb, hl, hp⟩ := hR.heap.at_ hL
  rw [hcs] at hho; cases hho
  have hrow : ∀ j v, ((cur.toList.drop off).take n)[j]? = some v → w.cell? ((⟨b, off, none⟩ : Addr).add j) = some v := by
   intro j v hj
   rw [add_lit, cell_of_row w b _ cur T (0, 0) hb]
   simpa using cut_get hj
  refine Snd.val hR (v := .agg ((cur.toList.drop off).take n).toArray) ?_ (.agg (by simp; omega) fun j y v h1 h2 => ?_)
  ·simp only [execOp, hv, Sem.run_bind, Instr.loadAt, Instr.sureAddr, Sem.run_pure, Result.andThen_ok, run_loadVar_agg P t n _ _ w hA hn (by simp; omega) hrow]
  ·have h2' := cut_get (show ((cur.toList.drop off).take n)[j]? = some v by simpa using h2)
   exact hp _ y v (cut_get h1) (by simpa using h2')
 ·cases he
end
end Go.Dat
namespace Go.Dat
open Go
section
variable {P : Program} {G : Cx} {L : Nat → Option Nat} {σ : Nat → DV} {h : Heap} {a : Act} {w : World} {vs own : List Nat} {ε : Opd → DV}
variable (nb : Nat) {d : DV} {ef : Eff} {dst : Option Nat} {ty : TypeId} {pos : String} {after : Array Edge} {guard : Option (Nat × Bool)}
theorem setRow_eq {b : Nat} {cs cs' : Array Value} {T : TypeId} (hb : w.heap[b]? = some (.cells cs T (0, 0))) :
  w.setRow b cs' = { w with heap := w.heap.setIfInBounds b (.cells cs' T (0, 0)) } := by
 unfold World.setRow
 congr 1
 apply Array.ext_getElem?
 intro k
 rw [Array.getElem?_modify, Array.getElem?_setIfInBounds]
 by_cases e : b = k
 ·subst e
  have hlt := (Array.getElem?_eq_some_iff.1 hb).1
  rw [if_pos rfl, if_pos rfl, hb, if_pos hlt]
  rfl
 ·rw [if_neg e, if_neg e]
theorem splice_get {α β : Type} {cs cv : List α} {cur us : List β} {off n k : Nat} {x : α} {y : β} (hc : off + n ≤ cs.length) (hl : cs.length ≤ cur.length) (h1 : cv.length = n) (h2 : us.length = n)
  (hx : (cs.take off ++ cv ++ cs.drop (off + n))[k]? = some x) (hy : (cur.take off ++ us ++ cur.drop (off + n))[k]? = some y) :
  (cs[k]? = some x ∧ cur[k]? = some y) ∨ (cv[k - off]? = some x ∧ us[k - off]? = some y) := by
 rw [List.getElem?_append, List.getElem?_append] at hx hy
 simp only [List.length_append, List.length_take] at hx hy
 rw [h1] at hx
 rw [h2] at hy
 have e1 : min off cs.length = off := by omega
 have e2 : min off cur.length = off := by omega
 rw [e1] at hx
 rw [e2] at hy
 by_cases hk : k < off + n
 ·rw [if_pos hk] at hx hy
  by_cases hk' : k < off
  ·rw [if_pos hk'] at hx hy
   rw [List.getElem?_take, if_pos hk'] at hx hy
   exact .inl ⟨hx, hy⟩
  ·rw [if_neg hk'] at hx hy
   exact .inr ⟨hx, hy⟩
 ·rw [if_neg hk] at hx hy
  rw [List.getElem?_drop] at hx hy
  have e : off + n + (k - (off + n)) = k := by omega
  rw [e] at hx hy
  exact .inl ⟨hx, hy⟩
theorem snd_store_aux (hE : EV vs ε w L (Av G.S L) a) (hR : R G L σ h a w) (t : TypeId) (x y : Operand) {n : Nat} (hn : tSize P t = some n) {o off : Nat} {cs cv : List DV} (hx : ε (sOpd vs x) = .ptr o off)
  (hcs : h o = some cs) (hcv : (ε (sOpd vs y)).cells? = some cv) (hcn : cv.length = n) (hfit : off + n ≤ cs.length) :
  Snd P G σ h a w ⟨dst, .store t x y, ty, pos, after, guard⟩ (.tup []) (.set o (cs.take off ++ cv ++ cs.drop (off + n))) := by
 have hvx := hE x
 rw [hx] at hvx
 obtain ⟨b, hL, hv⟩ := hvx.inv_ptr
 obtain ⟨cells, cur, T, hho, hb, hl, hp⟩ := hR.heap.at_ hL
 rw [hcs] at hho; cases hho
 obtain ⟨hsz, hpt, hone⟩ := (hE y).cells hcv
 have h1 : ∀ u ∈ (a.eval y).cells.toList, u.oneCell' = true := by
  intro u hu
  obtain ⟨k, hk⟩ := List.mem_iff_getElem?.1 hu
  have hk' : (a.eval y).cells[k]? = some u := by simpa using hk
  obtain ⟨dd, hdd⟩ := exists_get (l := cv) (k := k) (by have := (List.getElem?_eq_some_iff.1 hk).1; simp at this; omega)
  exact V.oneCell (hone dd (List.mem_of_getElem? hdd)) (hpt k dd u hdd hk')
 have hst := run_storeCells_at P b off T (a.eval y).cells.toList 0 cur w hb (by simp; omega) h1
 simp only [Nat.add_zero] at hst
 have hs2 : tSize P t = some n := hn
 simp only [tSize, Option.map_eq_some_iff] at hn
 obtain ⟨i, hi, hin⟩ := hn
 have hlen : (a.eval y).cells.toList.length = n := by simp; omega
 refine ⟨undef, _, L, .inr ⟨?_, rfl⟩, hR.write (cells := cs.take off ++ cv ++ cs.drop (off + n)) hL hb (cs' := (cur.toList.take off ++ (a.eval y).cells.toList ++ cur.toList.drop (off + n)).toArray) ?_ ?_ ?_ (setRow_eq hb), ?_⟩
 ·rw [hlen] at hst
  simp [execOp, Instr.storeAt, Instr.sureAddr, storeVar, hv, sizeOf, typeInfo, hi, hin, hsz, hcn, hst]
 ·simp; omega
 ·simp; omega
 ·intro k dd v hk1 hk2
  rcases splice_get (cur := cur.toList) (us := (a.eval y).cells.toList) hfit (by simp; omega) hcn hlen hk1 (by simpa using hk2) with ⟨e1, e2⟩ | ⟨e1, e2⟩
  ·exact hp k dd v e1 (by simpa using e2)
  ·exact hpt _ dd v e1 (by simpa using e2)
 ·exact .imm (.tup (by simp) fun k d v hk => by simp at hk)
theorem snd_stn (hE : EV vs ε w L (Av G.S L) a) (hR : R G L σ h a w) (t : TypeId) (x y : Operand) {n : Nat} (hn : tSize P t = some n) (he : opE nb dst (ε) h (.stn n (sOpd vs x) (sOpd vs y)) = some (d, ef)) :
  Snd P G σ h a w ⟨dst, .store t x y, ty, pos, after, guard⟩ d ef := by
 simp only [opE] at he
 split at he
 ·rename_i o off hxe
  simp only [Option.bind_eq_some_iff] at he
  obtain ⟨cs, hcs, cv, hcv, he⟩ := he
  obtain ⟨⟨h1, h2⟩, he⟩ := gd_some he
  cases he
  exact snd_store_aux hE hR t x y hn hxe hcs hcv h1 h2
 ·cases he
theorem cells_one {d : DV} (h : d.one = true) : d.cells? = some [d] := by
 cases d <;> simp_all [DV.one, DV.cells?]
theorem snd_st (hE : EV vs ε w L (Av G.S L) a) (hR : R G L σ h a w) (t : TypeId) (x y : Operand) (hn : tSize P t = some 1) (he : opE nb dst (ε) h (.st (sOpd vs x) (sOpd vs y)) = some (d, ef)) :
  Snd P G σ h a w ⟨dst, .store t x y, ty, pos, after, guard⟩ d ef := by
 simp only [opE] at he
 split at he
 ·rename_i o off hxe
  simp only [Option.bind_eq_some_iff] at he
  obtain ⟨cs, hcs, he⟩ := he
  obtain ⟨⟨h1, h2⟩, he⟩ := gd_some he
  cases he
  have := snd_store_aux (ty := ty) (pos := pos) (after := after) (guard := guard) (dst := dst) hE hR t x y hn hxe hcs (cells_one h1) rfl (by omega)
  rw [List.set_eq_take_append_cons_drop, if_pos h2]
  simpa using this
 ·cases he
theorem snd_nilc (hE : EV vs ε w L (Av G.S L) a) (hR : R G L σ h a w) (x : Operand) (he : opE nb dst (ε) h (.nilc (sOpd vs x)) = some (d, ef)) :
  Snd P G σ h a w ⟨dst, .nilCheck x, ty, pos, after, guard⟩ d ef := by
 simp only [opE] at he
 have hx := hE x
 split at he
 ·rename_i o off hxe
  cases he
  rw [hxe] at hx
  obtain ⟨b, hL, hv⟩ := hx.inv_ptr
  exact Snd.val hR (v := a.eval x) (by simp [execOp, hv]) hx
 ·rename_i xs i hxe
  cases he
  rw [hxe] at hx
  obtain ⟨ad, vs', hv, _⟩ := hx.inv_el
  exact Snd.val hR (v := a.eval x) (by simp [execOp, hv]) hx
 ·cases he
theorem run_eqGuard_int (op : BinOp) (t : TypeId) (x y : Operand) (k j : IntKind) (m n : Int) : (eqGuard op t x y (.int k m) (.int j n)).run P w = .ok () w := by
 unfold eqGuard; cases op <;> simp
theorem run_eqGuard_str (op : BinOp) (t : TypeId) (x y : Operand) (s u : ByteArray) : (eqGuard op t x y (.string s) (.string u)).run P w = .ok () w := by
 unfold eqGuard; cases op <;> simp
theorem run_eqGuard_bool (op : BinOp) (t : TypeId) (x y : Operand) (s u : Bool) : (eqGuard op t x y (.bool s) (.bool u)).run P w = .ok () w := by
 unfold eqGuard; cases op <;> simp
theorem beqd {α : Type} [BEq α] [LawfulBEq α] [DecidableEq α] (x y : α) : (x == y) = decide (x = y) := by
 rw [Bool.eq_iff_iff]; simp
theorem run_bin_int (op : BinOp) (t : TypeId) (k j : IntKind) (m n : Int) {r : DV} (he : binE op (.int k m) (.int j n) = some r) :
  ∃ v, (binOp op t (.int k m) (.int j n)).run P w = .ok v w ∧ ∀ A, VI w A r v := by
 cases op <;> simp only [binE] at he <;> obtain ⟨hc, he⟩ := gd_some he <;> cases he
 case add => subst hc; exact ⟨_, by simp [binOp, Op.intArith], fun _ => .int _ _⟩
 case sub => subst hc; exact ⟨_, by simp [binOp, Op.intArith], fun _ => .int _ _⟩
 case mul => subst hc; exact ⟨_, by simp [binOp, Op.intArith], fun _ => .int _ _⟩
 case quo => obtain ⟨rfl, hc⟩ := hc; exact ⟨_, by simp [binOp, Op.intDiv, hc], fun _ => .int _ _⟩
 case rem => obtain ⟨rfl, hc⟩ := hc; exact ⟨_, by simp [binOp, Op.intDiv, hc], fun _ => .int _ _⟩
 case and => subst hc; exact ⟨.int k (bitE .and k m n), by simp [binOp, Op.intBits, bitE], fun _ => .int _ _⟩
 case or => subst hc; exact ⟨.int k (bitE .or k m n), by simp [binOp, Op.intBits, bitE], fun _ => .int _ _⟩
 case xor => subst hc; exact ⟨.int k (bitE .xor k m n), by simp [binOp, Op.intBits, bitE], fun _ => .int _ _⟩
 case andNot => subst hc; exact ⟨.int k (bitE .andNot k m n), by simp [binOp, Op.intBits, bitE], fun _ => .int _ _⟩
 case shl =>
  have hc' : ¬ n < 0 := by omega
  exact ⟨_, by simp [binOp, Op.shift, hc'], fun _ => .int _ _⟩
 case shr =>
  have hc' : ¬ n < 0 := by omega
  exact ⟨_, by simp [binOp, Op.shift, hc'], fun _ => .int _ _⟩
 case eql => subst hc; exact ⟨.bool (m == n), by simp [binOp, Op.intCmp], fun _ => by rw [beqd]; exact .bool _⟩
 case neq => subst hc; exact ⟨.bool (m != n), by simp [binOp, Op.intCmp], fun _ => by simp only [bne, beqd, decide_not]; exact .bool _⟩
 case lss => subst hc; exact ⟨_, by simp [binOp, Op.intCmp], fun _ => .bool _⟩
 case leq => subst hc; exact ⟨_, by simp [binOp, Op.intCmp], fun _ => .bool _⟩
 case gtr => subst hc; exact ⟨_, by simp [binOp, Op.intCmp], fun _ => .bool _⟩
 case geq => subst hc; exact ⟨_, by simp [binOp, Op.intCmp], fun _ => .bool _⟩
theorem run_bin_str (op : BinOp) (t : TypeId) (l m : List UInt8) {r : DV} (he : binE op (.str l) (.str m) = some r) :
  ∃ v, (binOp op t (.string ⟨l.toArray⟩) (.string ⟨m.toArray⟩)).run P w = .ok v w ∧ ∀ A, VI w A r v := by
 cases op <;> simp only [binE] at he
 case add =>
  obtain ⟨hc, he⟩ := gd_some he
  cases he
  refine ⟨.string ⟨(l ++ m).toArray⟩, ?_, fun _ => .str _⟩
  simp only [binOp]
  rw [run_string_add_sum w _ _ (by simpa [ByteArray.size] using hc)]
  congr 2
 case eql => cases he; exact ⟨.bool (l == m), by simp [binOp, Op.stringOp], fun _ => by rw [beqd]; exact .bool _⟩
 case neq => cases he; exact ⟨.bool (!(l == m)), by simp [binOp, Op.stringOp], fun _ => by simp only [beqd, decide_not]; exact .bool _⟩
 case lss => cases he; exact ⟨.bool (Op.bytesLess l m), by simp [binOp, Op.stringOp], fun _ => .bool _⟩
 case leq => cases he; exact ⟨.bool (Op.bytesLess l m || l == m), by simp [binOp, Op.stringOp], fun _ => by rw [beqd]; exact .bool _⟩
 case gtr => cases he; exact ⟨.bool (!(Op.bytesLess l m || l == m)), by simp [binOp, Op.stringOp], fun _ => by rw [beqd]; exact .bool _⟩
 case geq => cases he; exact ⟨.bool (!Op.bytesLess l m), by simp [binOp, Op.stringOp], fun _ => .bool _⟩
 all_goals cases he
theorem snd_bin (hE : EV vs ε w L (Av G.S L) a) (hR : R G L σ h a w) (op : BinOp) (t u : TypeId) (x y : Operand) (he : opE nb dst (ε) h (.bin op (sOpd vs x) (sOpd vs y)) = some (d, ef)) :
  Snd P G σ h a w ⟨dst, .binOp op t x y u, ty, pos, after, guard⟩ d ef := by
 simp only [opE, Option.map_eq_some_iff] at he
 obtain ⟨r, hr, he⟩ := he
 cases he
 have hx := hE x
 have hy := hE y
 generalize ε (sOpd vs x) = dx at *
 generalize ε (sOpd vs y) = dy at *
 cases dx <;> cases dy <;> first | (simp [binE] at hr; done) | skip
 ·have e1 := hx.inv_int
  have e2 := hy.inv_int
  obtain ⟨v, hv, hV⟩ := run_bin_int (P := P) (w := w) op t _ _ _ _ hr
  exact Snd.val hR (v := v) (by simp [execOp, e1, e2, run_eqGuard_int, hv]) (.imm (hV _))
 ·have e1 := hx.inv_str
  have e2 := hy.inv_str
  obtain ⟨v, hv, hV⟩ := run_bin_str (P := P) (w := w) op t _ _ hr
  exact Snd.val hR (v := v) (by simp [execOp, e1, e2, run_eqGuard_str, hv]) (.imm (hV _))
theorem snd_beq (hE : EV vs ε w L (Av G.S L) a) (hR : R G L σ h a w) (op : BinOp) (hop : op = .eql ∨ op = .neq) (t u : TypeId) (ht : P.underlying t = some .bool) (x y : Operand)
  (he : opE nb dst (ε) h (.beq (op == .neq) (sOpd vs x) (sOpd vs y)) = some (d, ef)) :
  Snd P G σ h a w ⟨dst, .binOp op t x y u, ty, pos, after, guard⟩ d ef := by
 simp only [opE] at he
 have hx := hE x
 have hy := hE y
 split at he
 ·rename_i p q hp hq
  cases he
  rw [hp] at hx
  rw [hq] at hy
  have e1 := hx.inv_bool
  have e2 := hy.inv_bool
  rcases hop with rfl | rfl
  ·exact Snd.val hR (v := .bool (p == q)) (by simp [execOp, e1, e2, run_eqGuard_bool, run_eql_bool _ _ _ _ ht]) (.imm (.bool _))
  ·exact Snd.val hR (v := .bool (!(p == q))) (by simp [execOp, e1, e2, run_eqGuard_bool, run_neq_bool _ _ _ _ ht]) (.imm (.bool _))
 ·cases he
theorem eqs_run {A : Nat → Prop} {cs ds : List DV} {xs ys : Array Value} (hlx : cs.length = xs.size) (hx : ∀ (k : Nat) d v, cs[k]? = some d → xs[k]? = some v → V w L A d v)
  (hly : ds.length = ys.size) (hy : ∀ (k : Nat) d v, ds[k]? = some d → ys[k]? = some v → V w L A d v) (n : Nat) : ∀ (fs : List Field) (l : List (Nat × Nat)) (b : Bool), eqOffs P fs = some l → eqsD cs ds l = some b → (Op.eqFields (n + 1) xs ys fs).run P w = .ok b w
 | [], l, b, h1, h2 => by
  simp only [eqOffs, Option.some.injEq] at h1
  subst h1
  simp only [eqsD, Option.some.injEq] at h2
  subst h2
  simp [Op.eqFields]
 | f :: fs, l, b, h1, h2 => by
  have get : ∀ {zs : List DV} {us : Array Value} {o : Nat} {d : DV}, zs.length = us.size → (∀ (k : Nat) d v, zs[k]? = some d → us[k]? = some v → V w L A d v) → zs.getD o .undef = d → d ≠ .undef → ∃ v, us[o]? = some v ∧ V w L A d v := by
   intro zs us o d hl hz hd hne
   by_cases ho : o < zs.length
   ·obtain ⟨y, hy⟩ := exists_get ho
    obtain ⟨u, hu⟩ := exists_aget (l := us) (k := o) (by omega)
    rw [getD_of_some hy] at hd
    subst hd
    exact ⟨u, hu, hz o y u hy hu⟩
   ·rw [List.getD_eq_getElem?_getD, List.getElem?_eq_none (by omega)] at hd
    exact absurd hd.symm hne
  have fin : ∀ {td : TypeDesc} {va vb : Value} {r : Bool} {l' : List (Nat × Nat)}, f.name ≠ "_" → P.underlying f.type = some td → (∀ fs, td ≠ .struct fs) → (∀ a e, td ≠ .array a e) → xs[f.offset]? = some va → ys[f.offset]? = some vb → (Op.equalIn (n + 1) f.type va vb).run P w = .ok r w →
    eqOffs P fs = some l' → (if r then eqsD cs ds l' else some false) = some b → (Op.eqFields (n + 1) xs ys (f :: fs)).run P w = .ok b w := by
   intro td va vb r l' hn ht hs ha h3 h4 h5 h6 h7
   have hi : (isAgg f.type).run P w = .ok false w := by
    simp only [isAgg, Sem.run_bind, run_underlying ht, Result.andThen_ok]
    cases td <;> first | rfl | exact absurd rfl (hs _) | exact absurd rfl (ha _ _)
   cases r
   ·have hb : b = false := by simpa using h7.symm
    subst hb
    simp [Op.eqFields, hn, part, hi, h3, h4, h5]
   ·have ih := eqs_run hlx hx hly hy n fs l' b h6 (by simpa using h7)
    simp [Op.eqFields, hn, part, hi, h3, h4, h5, ih]
  simp only [eqOffs] at h1
  split at h1
  ·cases h1
  ·rename_i hn
   split at h1
   all_goals first | (cases h1; done) | skip
   all_goals
    rename_i ht
    rw [Option.map_eq_some_iff] at h1
    obtain ⟨l', hl', rfl⟩ := h1
    simp only [eqsD, Option.bind_eq_some_iff] at h2
    obtain ⟨r, hr, h2⟩ := h2
    unfold eqD at hr
    split at hr
    all_goals first | (cases hr; done) | skip
    all_goals first | (rename_i hk _ _; cases hk; done) | skip
   ·rename_i hc hd
    split at hr
    ·rename_i hk
     subst hk
     cases hr
     obtain ⟨u, hu, hv⟩ := get hlx hx hc (by simp)
     obtain ⟨u', hu', hv'⟩ := get hly hy hd (by simp)
     rw [hv.inv_int] at hu
     rw [hv'.inv_int] at hu'
     exact fin hn ht (by simp) (by simp) hu hu' (by rw [run_equalIn_int _ _ _ _ _ _ _ ht, beqd]) hl' h2
    ·cases hr
   ·rename_i hc hd
    cases hr
    obtain ⟨u, hu, hv⟩ := get hlx hx hc (by simp)
    obtain ⟨u', hu', hv'⟩ := get hly hy hd (by simp)
    rw [hv.inv_bool] at hu
    rw [hv'.inv_bool] at hu'
    exact fin hn ht (by simp) (by simp) hu hu' (by rw [run_equalIn_bool' _ _ _ _ _ ht]) hl' h2
   ·rename_i hc hd
    cases hr
    obtain ⟨u, hu, hv⟩ := get hlx hx hc (by simp)
    obtain ⟨u', hu', hv'⟩ := get hly hy hd (by simp)
    rw [hv.inv_str] at hu
    rw [hv'.inv_str] at hu'
    exact fin hn ht (by simp) (by simp) hu hu' (by rw [run_equalIn_string _ _ _ _ _ ht, beqd]; simp) hl' h2
theorem snd_eqs (hE : EV vs ε w L (Av G.S L) a) (hR : R G L σ h a w) (op : BinOp) (hop : op = .eql ∨ op = .neq) (t u : TypeId) {fs : Array Field} (ht : P.underlying t = some (.struct fs)) (h1 : P.stoodInHeld t = false) (h2 : P.eqGuardType P.depth t = false) {l : List (Nat × Nat)} (hl : eqOffs P fs.toList = some l) (x y : Operand)
  (he : opE nb dst (ε) h (.eqs (op == .neq) l (sOpd vs x) (sOpd vs y)) = some (d, ef)) :
  Snd P G σ h a w ⟨dst, .binOp op t x y u, ty, pos, after, guard⟩ d ef := by
 simp only [opE] at he
 have hx := hE x
 have hy := hE y
 split at he
 ·rename_i cs ds hp hq
  rw [Option.map_eq_some_iff] at he
  obtain ⟨b, hb, he⟩ := he
  cases he
  rw [hp] at hx
  rw [hq] at hy
  obtain ⟨xs, e1, l1, v1⟩ := hx.inv_agg
  obtain ⟨ys, e2, l2, v2⟩ := hy.inv_agg
  have hfs : P.fieldsOf t = fs := by unfold Program.fieldsOf; rw [ht]
  have key : (Op.equalIn 10000 t (.agg xs) (.agg ys)).run P w = .ok b w := by
   rw [run_equalIn_struct w 9999 t xs ys (by rw [hfs]; exact ht) h1, hfs]
   exact eqs_run l1 v1 l2 v2 9998 fs.toList l b hl hb
  rcases hop with rfl | rfl
  ·exact Snd.val hR (v := .bool b) (by simp [execOp, e1, e2, run_eqGuard_agg w _ _ _ _ _ _ h2, run_eql_struct, key]) (.imm (.bool _))
  ·exact Snd.val hR (v := .bool (!b)) (by simp [execOp, e1, e2, run_eqGuard_agg w _ _ _ _ _ _ h2, run_neq_struct, key]) (.imm (.bool _))
 ·cases he
theorem snd_un (hE : EV vs ε w L (Av G.S L) a) (hR : R G L σ h a w) (op : UnOp) (t : TypeId) (x : Operand) (he : opE nb dst (ε) h (.un op (sOpd vs x)) = some (d, ef)) :
  Snd P G σ h a w ⟨dst, .unOp op t x, ty, pos, after, guard⟩ d ef := by
 simp only [opE, Option.map_eq_some_iff] at he
 obtain ⟨r, hr, he⟩ := he
 cases he
 have hx := hE x
 generalize ε (sOpd vs x) = dx at *
 cases dx <;> first | (simp [unE] at hr; done) | skip
 ·rename_i k n
  have e1 := hx.inv_int
  cases op <;> simp only [unE] at hr <;> cases hr
  ·exact Snd.val hR (v := .int k (k.wrap (0 - n))) (by simp [execOp, e1, Op.unary, Op.intArith]) (.imm (.int _ _))
  ·exact Snd.val hR (v := .int k (bitE .xor k (if k.signed then -1 else k.max) n)) (by simp [execOp, e1, Op.unary, Op.intBits, bitE]) (.imm (.int _ _))
 ·rename_i b
  have e1 := hx.inv_bool
  cases op <;> simp only [unE] at hr <;> cases hr
  exact Snd.val hR (v := .bool (!b)) (by simp [execOp, e1, Op.unary]) (.imm (.bool _))
theorem snd_conv (hE : EV vs ε w L (Av G.S L) a) (hR : R G L σ h a w) (src tgt : TypeId) (i k : IntKind) (hs : P.underlying src = some (.int i)) (ht : P.underlying tgt = some (.int k)) (x : Operand)
  (he : opE nb dst (ε) h (.conv k (sOpd vs x)) = some (d, ef)) : Snd P G σ h a w ⟨dst, .convert src tgt x, ty, pos, after, guard⟩ d ef := by
 simp only [opE] at he
 have hx := hE x
 split at he
 ·rename_i j n hp
  cases he
  rw [hp] at hx
  have e1 := hx.inv_int
  exact Snd.val hR (v := .int k (k.wrap n)) (by simp [execOp, e1, convert, run_underlying hs, run_underlying ht, Conv.intToInt]) (.imm (.int _ _))
 ·cases he
theorem encode_lt (n : Int) (h0 : 0 ≤ n) (h1 : n < 128) : Utf8.encode n = ⟨#[UInt8.ofNat n.toNat]⟩ := by
 have hv : Utf8.valid n = true := by
  simp only [Utf8.valid, Bool.or_eq_true, Bool.and_eq_true, decide_eq_true_eq]
  omega
 unfold Utf8.encode
 simp only [hv, if_true]
 rw [if_pos (by omega)]
theorem snd_s2s (hE : EV vs ε w L (Av G.S L) a) (hR : R G L σ h a w) (src tgt : TypeId) {u : TypeDesc} (hs : P.underlying src = some u) (ht : P.underlying tgt = some .string) (x : Operand)
  (he : opE nb dst (ε) h (.s2s (sOpd vs x)) = some (d, ef)) : Snd P G σ h a w ⟨dst, .convert src tgt x, ty, pos, after, guard⟩ d ef := by
 simp only [opE] at he
 have hx := hE x
 split at he
 ·rename_i l hp
  cases he
  rw [hp] at hx
  exact Snd.val hR (v := a.eval x) (by simp [execOp, hx.inv_str, convert, run_underlying hs, run_underlying ht]) hx
 ·rename_i k n hp
  obtain ⟨⟨h0, h1⟩, he⟩ := gd_some he
  cases he
  rw [hp] at hx
  have e1 := hx.inv_int
  exact Snd.val hR (v := .string ⟨[UInt8.ofNat n.toNat].toArray⟩) (by simp [execOp, e1, convert, run_underlying hs, run_underlying ht, Conv.intToString, encode_lt n h0 h1]) (.imm (.str _))
 ·cases he
theorem snd_mki (hE : EV vs ε w L (Av G.S L) a) (hR : R G L σ h a w) (t : TypeId) {u : TypeDesc} (hu : P.underlying t = some u) (hn : ∀ ms, u ≠ .interface ms) (x : Operand)
  (he : opE nb dst (ε) h (.mki t (sOpd vs x)) = some (d, ef)) : Snd P G σ h a w ⟨dst, .makeInterface t x, ty, pos, after, guard⟩ d ef := by
 simp only [opE] at he
 obtain ⟨hrf, he⟩ := gd_some he
 cases he
 have hx := (hE x).rf_imm hrf
 refine Snd.val hR (v := .iface t (a.eval x)) ?_ (.imm (.iface hx))
 simp only [execOp, Instr.makeInterface, Sem.run_bind, run_underlying hu, Result.andThen_ok]
 cases u <;> first | rfl | exact absurd rfl (hn _)
theorem snd_min2 (hE : EV vs ε w L (Av G.S L) a) (hR : R G L σ h a w) (x y : Operand) (ts : Array TypeId) (he : opE nb dst (ε) h (.min2 (sOpd vs x) (sOpd vs y)) = some (d, ef)) :
  Snd P G σ h a w ⟨dst, .call { callee := .builtin .min, args := #[x, y], argTypes := ts }, ty, pos, after, guard⟩ d ef := by
 simp only [opE] at he
 have hx := hE x
 have hy := hE y
 split at he
 ·rename_i k p j q hp hq
  cases he
  rw [hp] at hx
  rw [hq] at hy
  have e1 := hx.inv_int
  have e2 := hy.inv_int
  exact Snd.val hR (v := .int k (if q < p then q else p)) (by simp [execOp, resolve, invoke, builtin, e1, e2, run_min_int2]) (.imm (.int _ _))
 ·cases he
theorem snd_max2 (hE : EV vs ε w L (Av G.S L) a) (hR : R G L σ h a w) (x y : Operand) (ts : Array TypeId) (he : opE nb dst (ε) h (.max2 (sOpd vs x) (sOpd vs y)) = some (d, ef)) :
  Snd P G σ h a w ⟨dst, .call { callee := .builtin .max, args := #[x, y], argTypes := ts }, ty, pos, after, guard⟩ d ef := by
 simp only [opE] at he
 have hx := hE x
 have hy := hE y
 split at he
 ·rename_i k p j q hp hq
  cases he
  rw [hp] at hx
  rw [hq] at hy
  have e1 := hx.inv_int
  have e2 := hy.inv_int
  exact Snd.val hR (v := .int k (if q > p then q else p)) (by simp [execOp, resolve, invoke, builtin, e1, e2, run_max_int2]) (.imm (.int _ _))
 ·cases he
theorem snd_ext (hE : EV vs ε w L (Av G.S L) a) (hR : R G L σ h a w) (x : Operand) (i : Nat) (he : opE nb dst (ε) h (.ext (sOpd vs x) i) = some (d, ef)) :
  Snd P G σ h a w ⟨dst, .extract x i, ty, pos, after, guard⟩ d ef := by
 simp only [opE] at he
 have hx := hE x
 split at he
 ·rename_i ds hp
  obtain ⟨hlt, he⟩ := gd_some he
  cases he
  rw [hp] at hx
  obtain ⟨us, e1, hl, hv⟩ := hx.inv_tup
  obtain ⟨y, hy⟩ := exists_get hlt
  obtain ⟨u, hu⟩ := exists_aget (l := us) (k := i) (by omega)
  exact Snd.val hR (v := u) (by simp [execOp, e1, Instr.extract, hu]) (by rw [getD_of_some hy]; exact hv i y u hy hu)
 ·cases he
theorem snd_fad (hE : EV vs ε w L (Av G.S L) a) (hR : R G L σ h a w) (t : TypeId) (x : Operand) (f : Nat) {fs : Array Field} {g : Field} {n : Nat} (ht : P.underlying t = some (.struct fs)) (hf : fs[f]? = some g)
  (hn : tSize P g.type = some n) (hn0 : n ≠ 0) (he : opE nb dst (ε) h (.fad g.offset (sOpd vs x)) = some (d, ef)) :
  Snd P G σ h a w ⟨dst, .fieldAddr t x f, ty, pos, after, guard⟩ d ef := by
 simp only [tSize, Option.map_eq_some_iff] at hn
 obtain ⟨i, hi, rfl⟩ := hn
 simp only [opE] at he
 have hx := hE x
 split at he
 ·rename_i o k hp
  cases he
  rw [hp] at hx
  obtain ⟨b, hL, e1⟩ := hx.inv_ptr
  exact Snd.val hR (v := .pointer (some ⟨b, k + g.offset, none⟩)) (by simp [execOp, e1, Instr.fieldAt, run_underlying ht, hf, Instr.sureAddr, fieldPlace, sizeOf, typeInfo, hi, hn0, add_lit]) (.ptr hL)
 ·rename_i xs k hp
  cases he
  rw [hp] at hx
  obtain ⟨ad, us, e1, hx0, hA, hc, hv⟩ := hx.inv_el
  exact Snd.val hR (v := .pointer (some (ad.add (k + g.offset)))) (by simp [execOp, e1, Instr.fieldAt, run_underlying ht, hf, Instr.sureAddr, fieldPlace, sizeOf, typeInfo, hi, hn0, add_add]) (.imm (.el us hx0 hA hc hv))
 ·cases he
theorem snd_iad (hE : EV vs ε w L (Av G.S L) a) (hR : R G L σ h a w) (t : TypeId) (x i : Operand) {e : TypeId} {n : Nat} (ht : P.underlying t = some (.slice e)) (hn : tSize P e = some n) (hn0 : n ≠ 0)
  (he : opE nb dst (ε) h (.iad n (sOpd vs x) (sOpd vs i)) = some (d, ef)) : Snd P G σ h a w ⟨dst, .indexAddr t x i, ty, pos, after, guard⟩ d ef := by
 simp only [tSize, Option.map_eq_some_iff] at hn
 obtain ⟨inf, hi, rfl⟩ := hn
 simp only [opE] at he
 have hx := hE x
 have hy := hE i
 split at he
 ·rename_i s xs k m hp hq
  obtain ⟨hgd, he'⟩ := gd_some he
  clear he
  obtain ⟨rfl, h0, hlt⟩ := hgd
  cases he'
  rw [hp] at hx
  rw [hq] at hy
  have e2 := hy.inv_int
  rcases hx.inv_sl with ⟨rfl, _⟩ | ⟨hx0, ad, len, c, us, e1, hl, hc, hA, hcell, hv⟩
  ·simp at hlt
   have := Nat.mul_pos (show 0 < m.toNat + 1 by omega) (show 0 < inf.size by omega)
   omega
  ·rw [hl] at hlt
   have hlt' : m.toNat + 1 ≤ len := Nat.le_of_mul_le_mul_right hlt (by omega)
   have hm : m < len := by omega
   exact Snd.val hR (v := .pointer (some (ad.add (m.toNat * inf.size))))
    (by simp [execOp, e1, e2, Instr.indexAt, asIntOf, run_underlying ht, sizeOf, typeInfo, hi, h0, hm]) (.imm (.el us hx0 hA hcell hv))
 ·rename_i s o off len k m hp hq
  obtain ⟨hgd, he'⟩ := gd_some he
  clear he
  obtain ⟨rfl, h0, hlt⟩ := hgd
  cases he'
  rw [hp] at hx
  rw [hq] at hy
  have e2 := hy.inv_int
  rcases hx.inv_osl with ⟨b, c, T, m', hL, e1, hc, hs, hm⟩ | ⟨rfl, _⟩
  ·exact Snd.val hR (v := .pointer (some ⟨b, off + m.toNat * inf.size, none⟩))
    (by simp [execOp, e1, e2, Instr.indexAt, asIntOf, run_underlying ht, sizeOf, typeInfo, hi, h0, hlt, add_lit]) (.ptr hL)
  ·omega
 ·cases he
theorem snd_iaa (hE : EV vs ε w L (Av G.S L) a) (hR : R G L σ h a w) (t : TypeId) (x i : Operand) {e : TypeId} {n len : Nat} (ht : P.underlying t = some (.array len e)) (hn : tSize P e = some n)
  (he : opE nb dst (ε) h (.iaa len n (sOpd vs x) (sOpd vs i)) = some (d, ef)) : Snd P G σ h a w ⟨dst, .indexAddr t x i, ty, pos, after, guard⟩ d ef := by
 simp only [tSize, Option.map_eq_some_iff] at hn
 obtain ⟨inf, hi, rfl⟩ := hn
 simp only [opE] at he
 have hx := hE x
 have hy := hE i
 split at he
 ·rename_i o k j m hp hq
  obtain ⟨⟨h0, hlt⟩, he⟩ := gd_some he
  cases he
  rw [hp] at hx
  rw [hq] at hy
  have e2 := hy.inv_int
  obtain ⟨b, hL, e1⟩ := hx.inv_ptr
  exact Snd.val hR (v := .pointer (some ⟨b, k + m.toNat * inf.size, none⟩))
   (by simp [execOp, e1, e2, Instr.indexAt, asIntOf, run_underlying ht, sizeOf, typeInfo, hi, h0, hlt, add_lit, Instr.sureAddr]) (.ptr hL)
 ·rename_i xs k j m hp hq
  obtain ⟨⟨h0, hlt⟩, he⟩ := gd_some he
  cases he
  rw [hp] at hx
  rw [hq] at hy
  have e2 := hy.inv_int
  obtain ⟨ad, us, e1, hx0, hA, hc, hv⟩ := hx.inv_el
  exact Snd.val hR (v := .pointer (some (ad.add (k + m.toNat * inf.size))))
   (by simp [execOp, e1, e2, Instr.indexAt, asIntOf, run_underlying ht, sizeOf, typeInfo, hi, h0, hlt, add_add, Instr.sureAddr]) (.imm (.el us hx0 hA hc hv))
 ·cases he
theorem snd_idx (hE : EV vs ε w L (Av G.S L) a) (hR : R G L σ h a w) (t : TypeId) (x i : Operand) (ht : P.underlying t = some .string)
  (he : opE nb dst (ε) h (.idx (sOpd vs x) (sOpd vs i)) = some (d, ef)) : Snd P G σ h a w ⟨dst, .index t x i, ty, pos, after, guard⟩ d ef := by
 simp only [opE] at he
 have hx := hE x
 have hy := hE i
 split at he
 ·rename_i l j m hp hq
  obtain ⟨⟨h0, hlt⟩, he⟩ := gd_some he
  cases he
  rw [hp] at hx
  rw [hq] at hy
  have e1 := hx.inv_str
  have e2 := hy.inv_int
  have hg : (⟨l.toArray⟩ : ByteArray)[m.toNat]? = some (l.getD m.toNat 0) := by
   obtain ⟨y, hy⟩ := exists_get hlt
   rw [getD_of_some hy]
   have hs : m.toNat < (⟨l.toArray⟩ : ByteArray).size := by simpa [ByteArray.size] using hlt
   rw [getElem?_pos (⟨l.toArray⟩ : ByteArray) m.toNat hs]
   have : (⟨l.toArray⟩ : ByteArray)[m.toNat] = l[m.toNat] := rfl
   rw [this]
   rw [List.getElem?_eq_getElem hlt] at hy
   exact hy
  exact Snd.val hR (v := .int .u8 (l.getD m.toNat 0).toNat)
   (by simp [execOp, e1, e2, Instr.index, asIntOf, run_underlying ht, h0, hg]) (.imm (.int _ _))
 ·cases he
theorem cnt_of {sz n : Nat} {xs : List DV} (h : xs.length = n * sz) (h0 : sz ≠ 0) : cnt sz xs = n := by
 unfold cnt
 split
 ·rename_i e; subst e; simpa using h
 ·rw [h, Nat.mul_div_cancel _ (by omega)]
theorem snd_len_slice (hE : EV vs ε w L (Av G.S L) a) (hR : R G L σ h a w) (t : TypeId) (x : Operand) {e : TypeId} {n : Nat} (ht : P.underlying t = some (.slice e)) (hn0 : n ≠ 0)
  (he : opE nb dst (ε) h (.len n (sOpd vs x)) = some (d, ef)) :
  Snd P G σ h a w ⟨dst, .call { callee := .builtin .len, args := #[x], argTypes := #[t] }, ty, pos, after, guard⟩ d ef := by
 simp only [opE] at he
 have hx := hE x
 split at he
 ·rename_i s xs hp
  obtain ⟨hgd, he'⟩ := gd_some he
  clear he
  obtain rfl := hgd
  cases he'
  rw [hp] at hx
  rcases hx.inv_sl with ⟨rfl, ad, c, e1⟩ | ⟨hx0, ad, len, c, us, e1, hl, hc, hA, hcell, hv⟩
  ·exact Snd.val hR (v := .int .i64 (0 : Nat)) (by simp [execOp, resolve, invoke, builtin, e1, Builtin.len_, run_underlying ht, goInt]) (.imm (VI.int' (by simp [cnt])))
  ·exact Snd.val hR (v := .int .i64 len) (by simp [execOp, resolve, invoke, builtin, e1, Builtin.len_, run_underlying ht, goInt]) (.imm (VI.int' (by rw [cnt_of hl hn0])))
 ·rename_i s o off m hp
  cases he
  rw [hp] at hx
  rcases hx.inv_osl with ⟨b, c, T, m', hL, e1, hc, hs, hm⟩ | ⟨rfl, e1⟩
  ·exact Snd.val hR (v := .int .i64 m) (by simp [execOp, resolve, invoke, builtin, e1, Builtin.len_, run_underlying ht, goInt]) (.imm (.int _ _))
  ·exact Snd.val hR (v := .int .i64 (0 : Nat)) (by simp [execOp, resolve, invoke, builtin, e1, Builtin.len_, run_underlying ht, goInt]) (.imm (.int _ _))
 ·rename_i hp
  cases he
  rw [hp] at hx
  have e1 := hx.inv_nils
  exact Snd.val hR (v := .int .i64 0) (by simp [execOp, resolve, invoke, builtin, e1, Builtin.len_, run_underlying ht, goInt]) (.imm (.int _ _))
 ·cases he
theorem snd_len_str (hE : EV vs ε w L (Av G.S L) a) (hR : R G L σ h a w) (t : TypeId) (x : Operand) (ht : P.underlying t = some .string)
  (he : opE nb dst (ε) h (.lenS (sOpd vs x)) = some (d, ef)) :
  Snd P G σ h a w ⟨dst, .call { callee := .builtin .len, args := #[x], argTypes := #[t] }, ty, pos, after, guard⟩ d ef := by
 simp only [opE] at he
 have hx := hE x
 split at he
 ·rename_i l hp
  cases he
  rw [hp] at hx
  have e1 := hx.inv_str
  exact Snd.val hR (v := .int .i64 ((⟨l.toArray⟩ : ByteArray).size : Nat)) (by simp [execOp, resolve, invoke, builtin, e1, run_len_string _ _ _ _ ht, goInt]) (.imm (VI.int' rfl))
 ·cases he
theorem snd_fld (hE : EV vs ε w L (Av G.S L) a) (hR : R G L σ h a w) (t : TypeId) (x : Operand) (f : Nat) {fs : Array Field} {g : Field} (ht : P.underlying t = some (.struct fs)) (hf : fs[f]? = some g)
  (hA : tAgg P g.type = false) (hu : (P.underlying g.type).isSome = true) (he : opE nb dst (ε) h (.fld g.offset (sOpd vs x)) = some (d, ef)) :
  Snd P G σ h a w ⟨dst, .field t x f, ty, pos, after, guard⟩ d ef := by
 simp only [opE] at he
 have hx := hE x
 split at he
 ·rename_i cs hp
  obtain ⟨hlt, he⟩ := gd_some he
  cases he
  rw [hp] at hx
  obtain ⟨us, e1, hl, hv⟩ := hx.inv_agg
  obtain ⟨y, hy⟩ := exists_get hlt
  obtain ⟨u, hu'⟩ := exists_aget (l := us) (k := g.offset) (by omega)
  obtain ⟨td, htd⟩ := Option.isSome_iff_exists.1 hu
  have hi : (isAgg g.type).run P w = .ok false w := by
   unfold tAgg at hA
   rw [htd] at hA
   simp only [isAgg, Sem.run_bind, run_underlying htd, Result.andThen_ok]
   cases td <;> first | rfl | simp at hA
  refine Snd.val hR (v := u) ?_ (by rw [getD_of_some hy]; exact hv _ y u hy hu')
  simp [execOp, Instr.field, run_underlying ht, hf, e1, asAgg, part, hi, hu']
 ·cases he
theorem snd_fldn (hE : EV vs ε w L (Av G.S L) a) (hR : R G L σ h a w) (t : TypeId) (x : Operand) (f n : Nat) {fs : Array Field} {g : Field} (ht : P.underlying t = some (.struct fs)) (hf : fs[f]? = some g)
  (hA : tAgg P g.type = true) (hn : tSize P g.type = some n) (he : opE nb dst (ε) h (.fldn g.offset n (sOpd vs x)) = some (d, ef)) :
  Snd P G σ h a w ⟨dst, .field t x f, ty, pos, after, guard⟩ d ef := by
 simp only [opE] at he
 have hx := hE x
 split at he
 ·rename_i cs hp
  obtain ⟨hlt, he⟩ := gd_some he
  cases he
  rw [hp] at hx
  obtain ⟨us, e1, hl, hv⟩ := hx.inv_agg
  have hi : (isAgg g.type).run P w = .ok true w := by
   unfold tAgg at hA
   split at hA
   ·rename_i hu; simp [isAgg, run_underlying hu]
   ·rename_i hu; simp [isAgg, run_underlying hu]
   ·cases hA
  simp only [tSize, Option.map_eq_some_iff] at hn
  obtain ⟨i, hi', rfl⟩ := hn
  refine Snd.val hR (v := .agg (us.extract g.offset (g.offset + i.size))) ?_ (.agg (by simp; omega) fun k y v h1 h2 => ?_)
  ·simp [execOp, Instr.field, run_underlying ht, hf, e1, asAgg, part, hi, sizeOf, typeInfo, hi']
  ·have h1' := cut_get h1
   rw [Array.getElem?_extract] at h2
   split at h2
   ·exact hv _ y v h1' h2
   ·cases h2
 ·cases he
end
end Go.Dat
namespace Go.Dat
open Go
section
variable {P : Program} {G : Cx} {L : Nat → Option Nat} {σ : Nat → DV} {h : Heap} {a : Act} {w : World} {vs own : List Nat} {ε : Opd → DV}
variable (nb : Nat) {d : DV} {ef : Eff} {dst : Option Nat} {ty : TypeId} {pos : String} {after : Array Edge} {guard : Option (Nat × Bool)}
theorem flat_rep_get {α : Type} (z : List α) (hz : z ≠ []) : ∀ (l k : Nat) (x : α), (List.replicate l z).flatten[k]? = some x → z[k % z.length]? = some x
 | 0, k, x, hk => by simp at hk
 | l + 1, k, x, hk => by
  rw [List.replicate_succ, List.flatten_cons, List.getElem?_append] at hk
  split at hk
  ·rename_i hlt; rwa [Nat.mod_eq_of_lt hlt]
  ·rename_i hge
   have := flat_rep_get z hz l _ x hk
   rwa [← Nat.mod_eq_sub_mod (by omega)] at this
theorem rep_get {z : List DV} (hz : z ≠ []) {l k : Nat} {x : DV} (hk : (rep l z)[k]? = some x) : z[k % z.length]? = some x := by
 unfold rep at hk
 split at hk
 ·rename_i z0
  rw [List.getElem?_replicate] at hk
  split at hk
  ·cases hk; simp [Nat.mod_one]
  ·cases hk
 ·exact flat_rep_get z hz l k x hk
theorem rep_length (l : Nat) (z : List DV) : (rep l z).length = l * z.length := by
 unfold rep
 split
 ·simp
 ·simp
theorem shape_new (w : World) (cs : Array Value) (T : TypeId) : (w.alloc (.cells cs T)).shape? w.heap.size = some (T, cs.size) := by
 simp only [World.shape?]
 rw [heap_alloc_new w (.cells cs T)]
theorem snd_mks (hE : EV vs ε w L (Av G.S L) a) (hR : R G L σ h a w) (t e : TypeId) (x y : Operand) {i : TypeInfo} {z : List DV} (ht : P.underlying t = some (.slice e)) (hi : P.info? e = some i) (hz : tZero P e = some z)
  (h0 : i.size ≠ 0) (hb0 : i.bytes ≠ 0) (hzl : z.length = i.size) (he : opE nb dst (ε) h (.mks i.size i.bytes z (sOpd vs x) (sOpd vs y)) = some (d, ef)) :
  Snd P G σ h a w ⟨dst, .makeSlice t x y, ty, pos, after, guard⟩ d ef := by
 simp only [opE] at he
 have hx := hE x
 have hy := hE y
 split at he
 ·rename_i k p j q hp hq
  obtain ⟨⟨g1, g2, g3⟩, he⟩ := gd_some he
  rw [Option.map_eq_some_iff] at he
  obtain ⟨id, hid, he⟩ := he
  cases he
  rw [hp] at hx
  rw [hq] at hy
  have e1 := hx.inv_int
  have e2 := hy.inv_int
  simp only [tZero, Option.map_eq_some_iff, Option.bind_eq_some_iff] at hz
  obtain ⟨zv, ⟨i', hi', hzi⟩, rfl⟩ := hz
  rw [hi] at hi'; cases hi'
  have hq63 : q ≤ 9223372036854775807 := by
   have h1 : q * 1 ≤ q * (i.bytes : Int) := Int.mul_le_mul_of_nonneg_left (by omega) (by omega)
   omega
  have hrun := run_make (P := P) w t e i zv ht hi hzi k j p q g1 g2 (by rw [Int.mul_comm]; exact g3) hq63
  have hzs : zv.cells.size = i.size := by simpa using hzl
  have hpq : p.toNat ≤ q.toNat := by omega
  refine Snd.new (T := e) (cs := madeCells zv.cells (q.toNat * i.size)) (v := .slice (some ⟨w.heap.size, 0, none⟩) p.toNat q.toNat) hR (freshE_some hid).1 ⟨fun h => absurd (freshE_some hid).2 (by omega), fun h => absurd (freshE_some hid).2 (by omega)⟩ ?_ ?_ (by simp [execOp, e1, e2, hrun])
   (.osl (c := q.toNat) (by simp [updL]) hpq (shape_new _ _ _) (by simp [size_madeCells]))
  ·rw [rep_length, hzl, size_madeCells]
   exact Nat.mul_le_mul_right _ hpq
  ·intro k dd v h1 h2
   have h3 := rep_get (by intro e0; rw [e0] at hzl; simp at hzl; omega) h1
   simp only [List.getElem?_map, Option.map_eq_some_iff, List.length_map, Array.length_toList] at h3
   obtain ⟨u, hu, rfl⟩ := h3
   have : v = u := by
    simp only [madeCells, Array.getElem?_map] at h2
    rw [Option.map_eq_some_iff] at h2
    obtain ⟨k', hk', rfl⟩ := h2
    have hkk : k' = k := by
     have := Array.getElem?_eq_some_iff.1 hk'
     obtain ⟨h4, h5⟩ := this
     simpa using h5.symm
    subst hkk
    have hu' : zv.cells[k' % zv.cells.size]? = some u := by simpa using hu
    simp [getElem!_def, hu']
   subst this
   exact .imm (cv1_VI _ _ _)
 ·cases he
theorem boundV (hE : EV vs ε w L (Av G.S L) a) (hR : R G L σ h a w) {n dflt b : Nat} (x : Option Operand) (he : boundE (ε) n (x.map (sOpd vs)) dflt = some b) :
  (x.map a.eval = none ∧ b = dflt) ∨ ∃ k i, x.map a.eval = some (.int k i) ∧ 0 ≤ i ∧ i ≤ (n : Int) ∧ b = i.toNat := by
 cases x with
 | none => simp only [Option.map_none, boundE, Option.some.injEq] at he; exact .inl ⟨rfl, he.symm⟩
 | some x =>
  simp only [Option.map_some, boundE] at he
  have hx := hE x
  split at he
  ·rename_i k i hp
   obtain ⟨⟨g1, g2⟩, he⟩ := gd_some he
   cases he
   rw [hp] at hx
   exact .inr ⟨k, i, by simp [hx.inv_int], g1, g2, rfl⟩
  ·cases he
theorem run_bounds (P : Program) (w : World) (isS : Bool) (len cap : Nat) (lo hi : Option Value) {l b : Nat}
  (hb : (hi = none ∧ b = len) ∨ ∃ k i, hi = some (.int k i) ∧ 0 ≤ i ∧ i ≤ (cap : Int) ∧ b = i.toNat)
  (hl : (lo = none ∧ l = 0) ∨ ∃ k i, lo = some (.int k i) ∧ 0 ≤ i ∧ i ≤ (b : Int) ∧ l = i.toNat) :
  (Instr.sliceBounds isS len cap lo hi none).run P w = .ok (l, b, cap) w := by
 rcases hb with ⟨rfl, rfl⟩ | ⟨k, i, rfl, h1, h2, rfl⟩ <;> rcases hl with ⟨rfl, rfl⟩ | ⟨k', j, rfl, h3, h4, rfl⟩
 ·simp [Instr.sliceBounds]
 ·simp [Instr.sliceBounds, run_sliceBound w k' j _ _ h3 h4]
 ·simp [Instr.sliceBounds, run_sliceBound w k i _ _ h1 h2]
 ·simp [Instr.sliceBounds, run_sliceBound w k i _ _ h1 h2, run_sliceBound w k' j _ _ h3 h4]
theorem boundE_le {e : Opd → DV} {n dflt b : Nat} {x : Option Opd} (he : boundE e n x dflt = some b) (hd : dflt ≤ n) : b ≤ n := by
 unfold boundE at he
 split at he
 ·cases he; exact hd
 ·split at he
  ·obtain ⟨⟨g1, g2⟩, he⟩ := gd_some he
   cases he; omega
  ·cases he
theorem snd_slc (hE : EV vs ε w L (Av G.S L) a) (hR : R G L σ h a w) (t e : TypeId) (x : Operand) (lo hi : Option Operand) {n : Nat} (ht : P.underlying t = some (.slice e)) (hn : tSize P e = some n) (hn0 : n ≠ 0)
  (he : opE nb dst (ε) h (.slc n (sOpd vs x) (lo.map (sOpd vs)) (hi.map (sOpd vs))) = some (d, ef)) :
  Snd P G σ h a w ⟨dst, .slice t x lo hi none, ty, pos, after, guard⟩ d ef := by
 simp only [tSize, Option.map_eq_some_iff] at hn
 obtain ⟨inf, hinf, rfl⟩ := hn
 simp only [opE] at he
 have hx := hE x
 have hrun : ∀ (A : Option Addr) (len cap l b : Nat), a.eval x = .slice A len cap → (Instr.sliceBounds true len cap (lo.map a.eval) (hi.map a.eval) none).run P w = .ok (l, b, cap) w →
   (execOp a.eval ⟨dst, .slice t x lo hi none, ty, pos, after, guard⟩).run P w = .ok (.value (.slice (if cap = l then A else A.map (·.add (l * inf.size))) (b - l) (cap - l))) w := by
  intro A len cap l b e1 hb
  simp [execOp, Instr.sliceAt, Instr.slice, run_underlying ht, e1, hb, sizeOf, typeInfo, hinf]
 split at he
 ·rename_i s xs hp
  obtain ⟨hgd, he'⟩ := gd_some he
  clear he
  obtain rfl := hgd
  simp only [Option.bind_eq_some_iff, Option.map_eq_some_iff] at he'
  obtain ⟨b, hb, l, hl, he'⟩ := he'
  cases he'
  rw [hp] at hx
  have hbl := boundE_le hb (Nat.le_refl _)
  have hll := boundE_le hl (Nat.zero_le _)
  have hlV := boundV (vs := vs) hE hR lo hl
  rcases hx.inv_sl with ⟨rfl, A, c, e1⟩ | ⟨hx0, ad, len, c, us, e1, hlen, hc, hA, hcell, hv⟩
  ·have hb0 : b = 0 := by simpa [cnt] using hbl
   have hl0 : l = 0 := by omega
   have hbV := boundV (vs := vs) hE hR hi hb
   subst hb0; subst hl0
   refine Snd.val hR (hrun A 0 c 0 0 e1 (run_bounds P w true 0 c _ _ ?_ ?_)) ?_
   ·rcases hbV with ⟨h1, h2⟩ | ⟨k, i, h1, h2, h3, h4⟩
    ·exact .inl ⟨h1, rfl⟩
    ·exact .inr ⟨k, i, h1, h2, by omega, h4⟩
   ·exact hlV
   ·simpa using V.imm (L := L) (VI.sl0 (w := w) (A := Av G.S L) inf.size _ _)
  ·have hcn := cnt_of hlen hn0
   rw [hcn] at hb hbl
   have hbV := boundV (vs := vs) hE hR hi hb
   refine Snd.val hR (hrun (some ad) len c l b e1 (run_bounds P w true len c _ _ ?_ hlV)) ?_
   ·rcases hbV with ⟨h1, h2⟩ | ⟨k, i, h1, h2, h3, h4⟩
    ·exact .inl ⟨h1, h2⟩
    ·exact .inr ⟨k, i, h1, h2, by omega, h4⟩
   ·by_cases hlb : l = b
    ·subst hlb
     have : (xs.take (l * inf.size)).drop (l * inf.size) = [] := List.drop_eq_nil_of_le (by simp; omega)
     rw [this, Nat.sub_self]
     exact .imm (.sl0 _ _ _)
    ·have hlt : l < b := by omega
     rw [if_neg (by omega)]
     have hbs : b * inf.size ≤ xs.length := by rw [hlen]; exact Nat.mul_le_mul_right _ hbl
     have hget : ∀ k dd, ((xs.take (b * inf.size)).drop (l * inf.size))[k]? = some dd → xs[l * inf.size + k]? = some dd := by
      intro k dd hk
      rw [List.getElem?_drop, List.getElem?_take] at hk
      split at hk
      ·exact hk
      ·cases hk
     have hls : l * inf.size < b * inf.size := Nat.mul_lt_mul_of_pos_right hlt (Nat.pos_of_ne_zero hn0)
     refine .imm (.sl (ad := ad.add (l * inf.size)) (fun k => us (l * inf.size + k)) ?_ ?_ (by omega) (by rw [add_block]; exact hA) (fun k dd hk => ?_) (fun k dd hk => hv _ dd (hget k dd hk)))
     ·intro e0
      have := congrArg List.length e0
      simp at this
      omega
     ·simp only [List.length_drop, List.length_take, Nat.sub_mul]
      omega
     ·rw [add_add]; exact hcell _ dd (hget k dd hk)
 ·rename_i s o off len hp
  obtain ⟨hgd, he'⟩ := gd_some he
  clear he
  obtain rfl := hgd
  simp only [Option.bind_eq_some_iff] at he'
  obtain ⟨b, hb, l, hl, he'⟩ := he'
  rw [hp] at hx
  have hbl := boundE_le hb (Nat.le_refl _)
  have hlV := boundV (vs := vs) hE hR lo hl
  have hbV := boundV (vs := vs) hE hR hi hb
  rcases Nat.lt_trichotomy l b with hlt | heq | hgt
  case inr.inl =>
   rw [gdo_eq heq] at he'
   cases he'
   subst heq
   rcases hx.inv_osl with ⟨bk, c, T, m, hL, e1, hc, hs, hm⟩ | ⟨rfl, e1⟩
   ·refine Snd.val hR (hrun (some ⟨bk, off, none⟩) len c l l e1 (run_bounds P w true len c _ _ ?_ hlV)) ?_
    ·rcases hbV with ⟨h1, h2⟩ | ⟨k, i, h1, h2, h3, h4⟩
     ·exact .inl ⟨h1, h2⟩
     ·exact .inr ⟨k, i, h1, h2, by omega, h4⟩
    ·rw [Nat.sub_self]; exact .imm (.sl0 _ _ _)
   ·have hl0 : l = 0 := by omega
    subst hl0
    refine Snd.val hR (hrun none 0 0 0 0 e1 (run_bounds P w true 0 0 _ _ hbV hlV)) ?_
    exact .imm (.sl0 _ _ _)
  case inr.inr => unfold gdo at he'; rw [if_neg (by omega), if_neg (by omega)] at he'; cases he'
  rw [gdo_lt hlt] at he'
  cases he'
  rcases hx.inv_osl with ⟨bk, c, T, m, hL, e1, hc, hs, hm⟩ | ⟨rfl, _⟩
  ·refine Snd.val hR (hrun (some ⟨bk, off, none⟩) len c l b e1 (run_bounds P w true len c _ _ ?_ hlV)) ?_
   ·rcases hbV with ⟨h1, h2⟩ | ⟨k, i, h1, h2, h3, h4⟩
    ·exact .inl ⟨h1, h2⟩
    ·exact .inr ⟨k, i, h1, h2, by omega, h4⟩
   ·rw [if_neg (by omega)]
    simp only [Option.map_some, add_lit]
    refine .osl hL (by omega) hs ?_
    rw [Nat.sub_mul]
    have : l * inf.size ≤ c * inf.size := Nat.mul_le_mul_right _ (by omega)
    omega
  ·omega
 ·rename_i hp
  simp only [Option.bind_eq_some_iff, Option.map_eq_some_iff] at he
  obtain ⟨b, hb, l, hl, he⟩ := he
  cases he
  rw [hp] at hx
  have e1 := hx.inv_nils
  have hbl := boundE_le hb (Nat.le_refl _)
  have hll := boundE_le hl (Nat.zero_le _)
  have hlV := boundV (vs := vs) hE hR lo hl
  have hbV := boundV (vs := vs) hE hR hi hb
  have hb0 : b = 0 := by omega
  have hl0 : l = 0 := by omega
  subst hb0; subst hl0
  refine Snd.val hR (hrun none 0 0 0 0 e1 (run_bounds P w true 0 0 _ _ hbV hlV)) ?_
  simpa using V.imm (L := L) (VI.nils (w := w) (A := Av G.S L))
 ·cases he
theorem extract_str (l : List UInt8) (i j : Nat) : (⟨l.toArray⟩ : ByteArray).extract i j = ⟨((l.take j).drop i).toArray⟩ := by
 apply ByteArray.ext
 rw [ByteArray.data_extract]
 apply Array.ext'
 simp [List.drop_take]
theorem snd_slcS (hE : EV vs ε w L (Av G.S L) a) (hR : R G L σ h a w) (t : TypeId) (x : Operand) (lo hi : Option Operand) (ht : P.underlying t = some .string)
  (he : opE nb dst (ε) h (.slcS (sOpd vs x) (lo.map (sOpd vs)) (hi.map (sOpd vs))) = some (d, ef)) :
  Snd P G σ h a w ⟨dst, .slice t x lo hi none, ty, pos, after, guard⟩ d ef := by
 simp only [opE] at he
 have hx := hE x
 split at he
 ·rename_i s hp
  simp only [Option.bind_eq_some_iff, Option.map_eq_some_iff] at he
  obtain ⟨b, hb, l, hl, he⟩ := he
  cases he
  rw [hp] at hx
  have e1 := hx.inv_str
  have hlV := boundV (vs := vs) hE hR lo hl
  have hbV := boundV (vs := vs) hE hR hi hb
  have hsz : (⟨s.toArray⟩ : ByteArray).size = s.length := rfl
  have hbd := run_bounds P w false s.length s.length (lo.map a.eval) (hi.map a.eval) hbV hlV
  refine Snd.val hR (v := .string ⟨((s.take b).drop l).toArray⟩) ?_ (.imm (.str _))
  simp [execOp, Instr.sliceAt, Instr.slice, run_underlying ht, e1, hsz, hbd, extract_str]
 ·cases he
end
end Go.Dat
namespace Go.Dat
open Go
theorem foldl_set (off : Nat) : ∀ (l : List Value) (j : Nat) (cells : Array Value), off + j + l.length ≤ cells.size →
  ((l.zipIdx j).foldl (fun cs p => cs.setIfInBounds (off + p.2) p.1) cells).size = cells.size ∧
  ∀ k, ((l.zipIdx j).foldl (fun cs p => cs.setIfInBounds (off + p.2) p.1) cells)[k]? = if off + j ≤ k ∧ k < off + j + l.length then l[k - (off + j)]? else cells[k]?
 | [], j, cells, _ => ⟨rfl, fun k => by rw [if_neg (by simp)]; simp⟩
 | x :: l, j, cells, hb => by
  simp only [List.length_cons] at hb
  obtain ⟨h1, h2⟩ := foldl_set off l (j + 1) (cells.setIfInBounds (off + j) x) (by simp; omega)
  simp only [List.zipIdx_cons, List.foldl_cons]
  refine ⟨by rw [h1]; simp, fun k => ?_⟩
  rw [h2 k]
  simp only [List.length_cons]
  by_cases e : k = off + j
  ·subst e
   rw [if_neg (by omega), if_pos (by omega), Array.getElem?_setIfInBounds]
   simp
   omega
  ·by_cases hk : off + (j + 1) ≤ k ∧ k < off + (j + 1) + l.length
   ·rw [if_pos hk, if_pos (by omega)]
    have : k - (off + j) = (k - (off + (j + 1))) + 1 := by omega
    rw [this, List.getElem?_cons_succ]
   ·rw [if_neg hk, if_neg (by omega), Array.getElem?_setIfInBounds, if_neg (by omega)]
theorem laid_splice {cells cs : List DV} {off n : Nat} (hl : cs.length = n) (hb : off + n ≤ cells.length) :
  spl cells off n cs = cells.take off ++ cs ++ cells.drop (off + n) := by
 unfold spl
 split
 ·subst hl
  rw [List.set_eq_take_append_cons_drop, if_pos (by simp at hb; omega)]
  simp
 ·rfl
section
variable {P : Program} {G : Cx} {L : Nat → Option Nat} {σ : Nat → DV} {h : Heap} {a : Act} {w : World} {vs own : List Nat} {ε : Opd → DV}
variable (nb : Nat) {d : DV} {ef : Eff} {dst : Option Nat} {ty : TypeId} {pos : String} {after : Array Edge} {guard : Option (Nat × Bool)}
theorem fill_laid (hE : EV vs ε w L (Av G.S L) a) (hR : R G L σ h a w) (place : Nat → Option (Nat × Nat)) : ∀ (ps : List (Nat × Operand)) (qs : List (Nat × Nat × Opd)) (dc dr : List DV) (cells : Array Value),
  sParts vs place ps = some qs → laid dc (qs.map fun p => (p.1, p.2.1, ε p.2.2)) = some dr → cells.size = dc.length →
  (∀ (k : Nat) d v, dc[k]? = some d → cells[k]? = some v → V w L (Av G.S L) d v) →
  ∃ res, Instr.fill place cells (ps.map fun p => (p.1, a.eval p.2)) = some res ∧ res.size = dr.length ∧ ∀ (k : Nat) d v, dr[k]? = some d → res[k]? = some v → V w L (Av G.S L) d v
 | [], qs, dc, dr, cells, hq, hl, hs, hV => by
  simp only [sParts, Option.some.injEq] at hq
  subst hq
  simp only [List.map_nil, laid, Option.some.injEq] at hl
  subst hl
  exact ⟨cells, rfl, hs, hV⟩
 | (i, x) :: ps, qs, dc, dr, cells, hq, hl, hs, hV => by
  simp only [sParts, Option.bind_eq_some_iff, Option.map_eq_some_iff] at hq
  obtain ⟨⟨off, n⟩, hp, qs', hq', rfl⟩ := hq
  simp only [List.map_cons, laid, Option.bind_eq_some_iff] at hl
  obtain ⟨cs, hcs, hl⟩ := hl
  split at hl
  ·rename_i hc
   obtain ⟨hcn, hfit⟩ := hc
   rw [laid_splice hcn hfit] at hl
   obtain ⟨v1, v2, v3⟩ := (hE x).cells hcs
   have hsz : (a.eval x).cells.toList.length = n := by simp; omega
   obtain ⟨f1, f2⟩ := foldl_set off (a.eval x).cells.toList 0 cells (by rw [hsz]; omega)
   obtain ⟨res, h1, h2, h3⟩ := fill_laid hE hR place ps qs' _ dr (((a.eval x).cells.toList.zipIdx 0).foldl (fun cs p => cs.setIfInBounds (off + p.2) p.1) cells) hq' hl
    (by rw [f1, hs]; simp; omega) (fun k dd v hk1 hk2 => by
     rw [f2 k, hsz] at hk2
     rcases splice_get (cur := cells.toList) (us := (a.eval x).cells.toList) (k := k) (y := v) hfit (by simp; omega) hcn hsz hk1 (by
      rw [List.getElem?_append, List.getElem?_append]
      simp only [List.length_append, List.length_take, Array.length_toList]
      rw [show min off cells.size = off by omega]
      simp only [Array.length_toList] at hsz
      rw [hsz]
      by_cases e1 : k < off + n
      ·rw [if_pos e1]
       by_cases e2 : k < off
       ·rw [if_pos e2, List.getElem?_take, if_pos e2]
        rw [if_neg (by omega)] at hk2
        simpa using hk2
       ·rw [if_neg e2]
        rw [if_pos (by omega)] at hk2
        simpa using hk2
      ·rw [if_neg e1, List.getElem?_drop, show off + n + (k - (off + n)) = k by omega]
       rw [if_neg (by omega)] at hk2
       simpa using hk2) with ⟨e1, e2⟩ | ⟨e1, e2⟩
     ·exact hV k dd v e1 (by simpa using e2)
     ·exact v2 _ dd v e1 (by simpa using e2))
   refine ⟨res, ?_, h2, h3⟩
   simp only [List.map_cons, Instr.fill, hp]
   rw [if_neg (by simp; omega)]
   rw [← Array.foldl_toList, Array.toList_zipIdx]
   exact h1
  ·cases hl
theorem snd_build (hE : EV vs ε w L (Av G.S L) a) (hR : R G L σ h a w) (t : TypeId) (ps : Array (Nat × Operand)) {place : Nat → Option (Nat × Nat)} {z : List DV} {qs : List (Nat × Nat × Opd)}
  (hz : tZero P t = some z) (hq : sParts vs place ps.toList = some qs)
  (hb : ∀ (zv : Value) (i : TypeInfo) (parts : List (Nat × Value)), P.info? t = some i → i.zero = some zv → P.built t parts = Instr.fill place zv.cells parts)
  (he : opE nb dst (ε) h (.build z qs) = some (d, ef)) : Snd P G σ h a w ⟨dst, .build t ps, ty, pos, after, guard⟩ d ef := by
 simp only [opE, Option.map_eq_some_iff] at he
 obtain ⟨cs, hcs, he⟩ := he
 cases he
 simp only [tZero, Option.map_eq_some_iff, Option.bind_eq_some_iff] at hz
 obtain ⟨zv, ⟨i, hi, hzi⟩, rfl⟩ := hz
 obtain ⟨res, h1, h2, h3⟩ := fill_laid hE hR place ps.toList qs _ cs zv.cells hq hcs (by simp) (fun k dd v h1 h2 => by
  simp only [List.getElem?_map, Array.getElem?_toList, h2, Option.map_some, Option.some.injEq] at h1
  rw [← h1]
  exact .imm (cv1_VI _ _ _))
 have hrun := run_build (P := P) w t (ps.map fun p => (p.1, a.eval p.2)) res (by
  rw [hb zv i _ hi hzi]; simpa using h1)
 exact Snd.val hR (v := .agg res) (by
  have : (execOp a.eval ⟨dst, .build t ps, ty, pos, after, guard⟩) = (do pure (.value (← Instr.build t (ps.map fun p => (p.1, a.eval p.2))))) := rfl
  rw [this]
  simp [hrun]) (.agg (by omega) h3)
theorem R.fresh_av (hR : R G L σ h a w) : ¬ Av G.S L w.heap.size := by
 rintro (hS | ⟨o, ho⟩)
 ·have := hR.sLt _ hS; omega
 ·have := hR.heap.lt ho; omega
theorem VI.row (hR : R G L σ h a w) {cells : List DV} {cs : Array Value} (T : TypeId) {sz len c : Nat} (fz : Nat × Nat) (hsz : sz ≠ 0) (hl : cells.length = len * sz) (hlc : len ≤ c) (hlen : cells.length ≤ cs.size)
  (hv : ∀ (k : Nat) d v, cells[k]? = some d → cs[k]? = some v → VI w (Av G.S L) d v) :
  VI (w.alloc (.cells cs T fz)) (Av G.S L) (.sl sz cells) (.slice (some ⟨w.heap.size, 0, none⟩) len c) := by
 have hx : Ext (fun _ => False) w (w.alloc (.cells cs T fz)) := Ext.alloc _ _ _
 by_cases h0 : cells = []
 ·subst h0
  have : len = 0 := by
   rcases Nat.eq_zero_or_pos len with e | e
   ·exact e
   ·have := Nat.mul_pos e (Nat.pos_of_ne_zero hsz); simp at hl; omega
  subst this
  exact .sl0 _ _ _
 ·refine .sl (fun k => (cs[k]?).getD Go.undef) h0 hl hlc hR.fresh_av (fun k dd hk => ?_) (fun k dd hk => ?_)
  ·obtain ⟨u, hu⟩ := exists_aget (l := cs) (k := k) (by have := (List.getElem?_eq_some_iff.1 hk).1; omega)
   rw [add_lit, Nat.zero_add, cell_of_row _ w.heap.size k cs T fz (heap_alloc_new w _), hu]
   rfl
  ·obtain ⟨u, hu⟩ := exists_aget (l := cs) (k := k) (by have := (List.getElem?_eq_some_iff.1 hk).1; omega)
   rw [hu]
   exact (hv k dd u hk hu).mono fun b hb hA => ⟨hx.block b hb id, hA⟩
theorem zero_row (zv : Array Value) (n : Nat) (k : Nat) {dd : DV} {v : Value}
  (h1 : ((List.range n).map fun j => (zv.toList.map cv1).getD (j % (zv.toList.map cv1).length) .undef)[k]? = some dd) (h2 : ((Array.range n).map fun j => zv[j % zv.size]!)[k]? = some v) (w : World) (A : Nat → Prop) : VI w A dd v := by
 simp only [List.getElem?_map, Option.map_eq_some_iff] at h1
 simp only [Array.getElem?_map, Option.map_eq_some_iff] at h2
 obtain ⟨j, hj, rfl⟩ := h1
 obtain ⟨j', hj', rfl⟩ := h2
 have e1 : j = k := by have := (List.getElem?_eq_some_iff.1 hj).2; simpa using this.symm
 have e2 : j' = k := by have := (Array.getElem?_eq_some_iff.1 hj').2; simpa using this.symm
 subst e1; subst e2
 simp only [List.length_map, Array.length_toList]
 rw [List.getD_eq_getElem?_getD]
 cases hz : zv[j' % zv.size]? with
 | none =>
  have : (zv.toList.map cv1)[j' % zv.size]? = none := by simp [hz]
  rw [this]; exact .undef _
 | some u =>
  have e3 : (zv.toList.map cv1)[j' % zv.size]? = some (cv1 u) := by simp [hz]
  have e4 : zv[j' % zv.size]! = u := by simp [getElem!_def, hz]
  rw [e3, e4]
  exact cv1_VI _ _ _
theorem bsl_aux (hE : EV vs ε w L (Av G.S L) a) (hR : R G L σ h a w) (t e : TypeId) (len : Nat) (ps : Array (Nat × Operand)) {n : Nat} {z : List DV} {qs : List (Nat × Nat × Opd)} {cs : List DV}
  (ht : P.underlying t = some (.slice e)) (hn : tSize P e = some n) (hz : tZero P e = some z) (hsmall : len * n ≤ 4096) (hq : sParts vs (fun i => some (i * n, n)) ps.toList = some qs)
  (hcs : laid ((List.range (len * n)).map fun j => z.getD (j % z.length) .undef) (qs.map fun p => (p.1, p.2.1, ε p.2.2)) = some cs) :
  ∃ res : Array Value, cs.length = len * n ∧ res.size = cs.length ∧ (∀ (k : Nat) d v, cs[k]? = some d → res[k]? = some v → V w L (Av G.S L) d v) ∧
   (execOp a.eval ⟨dst, .buildSlice t len ps, ty, pos, after, guard⟩).run P w = .ok (.value (.slice (some ⟨w.heap.size, 0, none⟩) len len)) (w.alloc (.cells res e)) := by
 simp only [tSize, Option.map_eq_some_iff] at hn
 obtain ⟨inf, hinf, rfl⟩ := hn
 simp only [tZero, Option.map_eq_some_iff, Option.bind_eq_some_iff] at hz
 obtain ⟨zv, ⟨i, hi, hzi⟩, rfl⟩ := hz
 rw [hinf] at hi; cases hi
 obtain ⟨res, h1, h2, h3⟩ := fill_laid hE hR (fun i => some (i * inf.size, inf.size)) ps.toList qs _ cs ((Array.range (len * inf.size)).map fun j => zv.cells[j % zv.cells.size]!) hq hcs (by simp)
  (fun k dd v h1 h2 => .imm (zero_row zv.cells _ k h1 h2 _ _))
 have hlaid : ∀ (qs : List (Nat × Nat × DV)) (dc dr : List DV), laid dc qs = some dr → dr.length = dc.length := by
  intro qs
  induction qs with
  | nil => intro dc dr hd; simp only [laid, Option.some.injEq] at hd; rw [hd]
  | cons q qs ih =>
   intro dc dr hd
   obtain ⟨o, m, x⟩ := q
   simp only [laid, Option.bind_eq_some_iff] at hd
   obtain ⟨cx, _, hd⟩ := hd
   split at hd
   ·rename_i hc
    rw [laid_splice hc.1 hc.2] at hd
    rw [ih _ _ hd]
    simp; omega
   ·cases hd
 have hcl : cs.length = len * inf.size := by rw [hlaid _ _ _ hcs]; simp
 refine ⟨res, hcl, h2, h3, ?_⟩
 have hlt : ¬ (16777216 < len * inf.size) := by omega
 have h1' : Instr.fill (fun i => some (i * inf.size, inf.size)) ((Array.range (len * inf.size)).map fun j => zv.cells[j % zv.cells.size]!) (ps.map fun p => (p.1, a.eval p.2)).toList = some res := by simpa using h1
 have e0 : (execOp a.eval ⟨dst, .buildSlice t len ps, ty, pos, after, guard⟩) = (do pure (.value (← Instr.buildSlice t len (ps.map fun p => (p.1, a.eval p.2))))) := rfl
 rw [e0]
 have hsz : (sizeOf e).run P w = .ok inf.size w := by simp [sizeOf, typeInfo, hinf]
 have hzv : (zeroValue e).run P w = .ok zv w := by simp [zeroValue, typeInfo, hinf, hzi]
 by_cases hz0 : len * inf.size = 0
 ·rw [hz0] at h1
  simp only [Array.range_zero', Array.map_empty] at h1
  simp [Instr.buildSlice, run_underlying ht, hsz, hz0, newRow]
  rw [Array.range_zero', Array.map_empty, h1]
  simp
 ·simp [Instr.buildSlice, run_underlying ht, hsz, hz0, hlt, hzv]
  rw [h1]
  simp [newRow]
theorem snd_bsl (hE : EV vs ε w L (Av G.S L) a) (hR : R G L σ h a w) (t e : TypeId) (len : Nat) (ps : Array (Nat × Operand)) {n : Nat} {z : List DV} {qs : List (Nat × Nat × Opd)}
  (ht : P.underlying t = some (.slice e)) (hn : tSize P e = some n) (hn0 : n ≠ 0) (hz : tZero P e = some z) (hsmall : len * n ≤ 4096) (hq : sParts vs (fun i => some (i * n, n)) ps.toList = some qs)
  (he : opE nb dst (ε) h (.bsl n ((List.range (len * n)).map fun j => z.getD (j % z.length) .undef) qs) = some (d, ef)) :
  Snd P G σ h a w ⟨dst, .buildSlice t len ps, ty, pos, after, guard⟩ d ef := by
 simp only [opE, Option.bind_eq_some_iff] at he
 obtain ⟨cs, hcs, he⟩ := he
 obtain ⟨hrf, he⟩ := gd_some he
 cases he
 obtain ⟨res, h1, h2, h3, h4⟩ := bsl_aux (dst := dst) (ty := ty) (pos := pos) (after := after) (guard := guard) hE hR t e len ps ht hn hz hsmall hq hcs
 exact Snd.val' hR (Ext.alloc _ _ _) h4 (VI.row hR e (0, 0) hn0 h1 (Nat.le_refl _) (by omega) fun k dd v e1 e2 => (h3 k dd v e1 e2).rf_imm (hrf dd (List.mem_of_getElem? e1)))
theorem snd_bsl' (hE : EV vs ε w L (Av G.S L) a) (hR : R G L σ h a w) (t e : TypeId) (len : Nat) (ps : Array (Nat × Operand)) {n : Nat} {z : List DV} {qs : List (Nat × Nat × Opd)}
  (ht : P.underlying t = some (.slice e)) (hn : tSize P e = some n) (hn0 : n ≠ 0) (hz : tZero P e = some z) (hsmall : len * n ≤ 4096) (hq : sParts vs (fun i => some (i * n, n)) ps.toList = some qs)
  (he : opE nb dst (ε) h (.bsl' n ((List.range (len * n)).map fun j => z.getD (j % z.length) .undef) qs) = some (d, ef)) :
  Snd P G σ h a w ⟨dst, .buildSlice t len ps, ty, pos, after, guard⟩ d ef := by
 simp only [opE, Option.bind_eq_some_iff, Option.map_eq_some_iff] at he
 obtain ⟨cs, hcs, id, hid, he⟩ := he
 cases he
 obtain ⟨res, h1, h2, h3, h4⟩ := bsl_aux (dst := dst) (ty := ty) (pos := pos) (after := after) (guard := guard) hE hR t e len ps ht hn hz hsmall hq hcs
 have hcnt : cnt n ((List.range (len * n)).map fun j => z.getD (j % z.length) .undef) = len := cnt_of (by simp) hn0
 rw [hcnt]
 exact Snd.new hR (freshE_some hid).1 ⟨fun h => absurd (freshE_some hid).2 (by omega), fun h => absurd (freshE_some hid).2 (by omega)⟩ (by omega) h3 h4 (.osl (by simp [updL]) (Nat.le_refl _) (shape_new _ _ _) (by omega))
theorem snd_s2b (hE : EV vs ε w L (Av G.S L) a) (hR : R G L σ h a w) (src tgt e : TypeId) (hs : P.underlying src = some .string) (ht : P.underlying tgt = some (.slice e)) (hee : P.underlying e = some (.int .u8)) (x : Operand)
  (he : opE nb dst (ε) h (.s2b (sOpd vs x)) = some (d, ef)) : Snd P G σ h a w ⟨dst, .convert src tgt x, ty, pos, after, guard⟩ d ef := by
 simp only [opE] at he
 have hx := hE x
 split at he
 ·rename_i l hp
  cases he
  rw [hp] at hx
  have e1 := hx.inv_str
  have hrun := run_bytes_of_string (P := P) w src tgt e ⟨l.toArray⟩ hs ht hee
  have hsz : (⟨l.toArray⟩ : ByteArray).size = l.length := rfl
  rw [hsz] at hrun
  have hge := grownCap_ge w l.length 0 e
  refine Snd.val' hR (v := .slice (some ⟨w.heap.size, 0, none⟩) l.length (grownCap w l.length 0 e)) ((Ext.drew _ w).trans (Ext.alloc _ w.drew (.cells (bytesRow ⟨l.toArray⟩ (grownCap w l.length 0 e)) e ((bytesRow ⟨l.toArray⟩ (grownCap w l.length 0 e)).size, (bytesRow ⟨l.toArray⟩ (grownCap w l.length 0 e)).size + 1)))) (by simp [execOp, e1, hrun]) ?_
  refine VI.row (sz := 1) (len := l.length) (hR.still (Ext.drew _ w)) e _ (by decide) (by simp) hge (by simp [bytesRow]) fun k dd v h1 h2 => ?_
  simp only [List.getElem?_map, Option.map_eq_some_iff] at h1
  obtain ⟨b, hb, rfl⟩ := h1
  have hlt := (List.getElem?_eq_some_iff.1 hb).1
  have : v = .int .u8 b.toNat := by
   rw [bytesRow, Array.getElem?_append_left (by simpa using hlt)] at h2
   simp only [Array.getElem?_map, Option.map_eq_some_iff] at h2
   obtain ⟨b', hb', rfl⟩ := h2
   have : l[k]? = some b' := by simpa using hb'
   rw [hb] at this; cases this; rfl
  subst this
  exact .int _ _
 ·cases he
theorem bytesOf_nums : ∀ (xs : List DV) (l : List UInt8), bytesOf xs = some l → ∃ ns : List Int, xs = ns.map (DV.int .u8) ∧ l = ns.map (fun n => UInt8.ofNat n.toNat)
 | [], l, h => by simp only [bytesOf, Option.some.injEq] at h; exact ⟨[], rfl, h.symm⟩
 | x :: xs, l, h => by
  simp only [bytesOf, Option.bind_eq_some_iff, Option.map_eq_some_iff] at h
  obtain ⟨b, hb, l', hl', rfl⟩ := h
  obtain ⟨ns, rfl, rfl⟩ := bytesOf_nums xs l' hl'
  unfold byteOf at hb
  split at hb
  ·cases hb; exact ⟨_ :: ns, rfl, rfl⟩
  ·cases hb
theorem run_b2s (w : World) (src tgt e : TypeId) (hs : P.underlying src = some (.slice e)) (ht : P.underlying tgt = some .string) (hee : P.underlying e = some (.int .u8)) (ad : Addr) (len c : Nat) (ns : List Int)
  (hl : ns.length = len) (hc : ∀ j v, (ns.map (Value.int .u8))[j]? = some v → w.cell? (ad.add j) = some v) :
  (convert src tgt (.slice (some ad) len c)).run P w = .ok (.string ⟨(ns.map fun n => UInt8.ofNat n.toNat).toArray⟩) w := by
 have hlc := run_loadCells_list (P := P) w ad _ hc
 rw [List.length_map, hl] at hlc
 rw [run_convert_bytes_string w src tgt e _ len c hs hee ht, run_bytesToString w ad len c ns (by simpa using hlc), foldl_push_bytes]
 congr 2
 apply ByteArray.ext
 simp
theorem snd_b2s (hE : EV vs ε w L (Av G.S L) a) (hR : R G L σ h a w) (src tgt e : TypeId) (hs : P.underlying src = some (.slice e)) (ht : P.underlying tgt = some .string) (hee : P.underlying e = some (.int .u8)) (x : Operand)
  (he : opE nb dst (ε) h (.b2s (sOpd vs x)) = some (d, ef)) : Snd P G σ h a w ⟨dst, .convert src tgt x, ty, pos, after, guard⟩ d ef := by
 simp only [opE] at he
 have hx := hE x
 have hnil : ∀ (l c : Nat), (convert src tgt (.slice none l c)).run P w = .ok (.string ⟨([] : List UInt8).toArray⟩) w := fun l c => by
  rw [run_convert_bytes_string w src tgt e _ l c hs hee ht]
  rfl
 split at he
 ·rename_i hp
  cases he
  rw [hp] at hx
  have e1 := hx.inv_nils
  exact Snd.val hR (v := .string ⟨([] : List UInt8).toArray⟩) (by simp [execOp, e1, hnil]) (.imm (.str _))
 ·rename_i sz xs hp
  obtain ⟨hgd, he'⟩ := gd_some he
  clear he
  obtain rfl := hgd
  simp only [Option.map_eq_some_iff] at he'
  obtain ⟨l, hl, he'⟩ := he'
  cases he'
  rw [hp] at hx
  obtain ⟨ns, rfl, rfl⟩ := bytesOf_nums _ _ hl
  rcases hx.inv_sl with ⟨h0, ad, c, e1⟩ | ⟨hx0, ad, len, c, us, e1, hlen, hc, hA, hcell, hv⟩
  ·have : ns = [] := by simpa using h0
   subst this
   cases ad with
   | none => exact Snd.val hR (v := .string ⟨([] : List UInt8).toArray⟩) (by simp [execOp, e1, hnil]) (.imm (.str _))
   | some ad => exact Snd.val hR (v := .string ⟨(([] : List Int).map fun n => UInt8.ofNat n.toNat).toArray⟩) (by
     have := run_b2s (P := P) w src tgt e hs ht hee ad 0 c [] rfl (by simp)
     simp [execOp, e1, this]) (.imm (.str _))
  ·have hrun := run_b2s (P := P) w src tgt e hs ht hee ad len c ns (by simpa using hlen) (fun j v hj => by
    simp only [List.getElem?_map, Option.map_eq_some_iff] at hj
    obtain ⟨n, hn, rfl⟩ := hj
    have h1 : (ns.map (DV.int .u8))[j]? = some (.int .u8 n) := by simp [hn]
    rw [hcell j _ h1, (V.imm (L := L) (hv j _ h1)).inv_int])
   exact Snd.val hR (v := .string ⟨(ns.map fun n => UInt8.ofNat n.toNat).toArray⟩) (by simp [execOp, e1, hrun]) (.imm (.str _))
 ·rename_i sz o off len hp
  simp only [Option.bind_eq_some_iff] at he
  obtain ⟨cs, hcs, he⟩ := he
  obtain ⟨hgd, he'⟩ := gd_some he
  clear he
  obtain ⟨rfl, hfit⟩ := hgd
  simp only [Option.map_eq_some_iff] at he'
  obtain ⟨l, hl, he'⟩ := he'
  cases he'
  rw [hp] at hx
  obtain ⟨ns, hns, rfl⟩ := bytesOf_nums _ _ hl
  rcases hx.inv_osl with ⟨b, c, T, m, hL, e1, hc, hs', hm⟩ | ⟨rfl, e1⟩
  ·obtain ⟨cells, cur, T', hho, hb, hl', hpp⟩ := hR.heap.at_ hL
   rw [hcs] at hho; cases hho
   have hnl : ns.length = len := by
    have := congrArg List.length hns
    simp at this; omega
   have hrun := run_b2s (P := P) w src tgt e hs ht hee ⟨b, off, none⟩ len c ns hnl (fun j v hj => by
    simp only [List.getElem?_map, Option.map_eq_some_iff] at hj
    obtain ⟨n, hn, rfl⟩ := hj
    have h1 : ((cs.drop off).take len)[j]? = some (.int .u8 n) := by rw [hns]; simp [hn]
    have h2 := cut_get h1
    obtain ⟨u, hu⟩ := exists_aget (l := cur) (k := off + j) (by have := (List.getElem?_eq_some_iff.1 h2).1; omega)
    rw [add_lit, cell_of_row w b _ cur T' (0, 0) hb, hu, (hpp _ _ u h2 hu).inv_int])
   exact Snd.val hR (v := .string ⟨(ns.map fun n => UInt8.ofNat n.toNat).toArray⟩) (by simp [execOp, e1, hrun]) (.imm (.str _))
  ·have : ns = [] := by simpa using hns.symm
   subst this
   exact Snd.val hR (v := .string ⟨([] : List UInt8).toArray⟩) (by simp [execOp, e1, hnil]) (.imm (.str _))
 ·cases he
theorem newsV (hR : R G L σ h a w) {sz : Nat} {dx : DV} {v : Value} {ys : List DV} (hsz : sz ≠ 0) (hn : newsE h sz dx = some ys) (hv : V w L (Av G.S L) dx v) :
  ∃ (A : Option Addr) (m c : Nat), v = .slice A m c ∧ ys.length = m * sz ∧
   (ys = [] ∨ ∃ ad news, A = some ad ∧ (news : List Value).length = ys.length ∧ (∀ (j : Nat) u, news[j]? = some u → w.cell? (ad.add j) = some u) ∧
    ∀ (j : Nat) d u, ys[j]? = some d → news[j]? = some u → V w L (Av G.S L) d u) := by
 unfold newsE at hn
 split at hn
 ·rename_i s ys'
  obtain ⟨hgd, hn'⟩ := gd_some hn
  clear hn
  obtain rfl := hgd
  cases hn'
  rcases hv.inv_sl with ⟨rfl, A, c, rfl⟩ | ⟨hx0, ad, n, c, us, rfl, hl, hc, hA, hcell, hvi⟩
  ·exact ⟨A, 0, c, rfl, by simp, .inl rfl⟩
  ·refine ⟨some ad, n, c, rfl, hl, .inr ⟨ad, (List.range ys.length).map us, rfl, by simp, fun j u hj => ?_, fun j d u h1 h2 => ?_⟩⟩
   ·simp only [List.getElem?_map, Option.map_eq_some_iff] at hj
    obtain ⟨j', hj', rfl⟩ := hj
    have hlt : j < ys.length := by have := (List.getElem?_eq_some_iff.1 hj').1; simpa using this
    have : j' = j := by simpa [hlt] using hj'.symm
    subst this
    obtain ⟨y, hy⟩ := exists_get hlt
    exact hcell _ y hy
   ·simp only [List.getElem?_map, Option.map_eq_some_iff] at h2
    obtain ⟨j', hj', rfl⟩ := h2
    have hlt : j < ys.length := by have := (List.getElem?_eq_some_iff.1 hj').1; simpa using this
    have : j' = j := by simpa [hlt] using hj'.symm
    subst this
    exact .imm (hvi _ d h1)
 ·cases hn
  exact ⟨none, 0, 0, hv.inv_nils, by simp, .inl rfl⟩
 ·rename_i s o off len
  simp only [Option.bind_eq_some_iff] at hn
  obtain ⟨cs, hcs, hn⟩ := hn
  obtain ⟨hgd, hn'⟩ := gd_some hn
  clear hn
  obtain ⟨rfl, hfit⟩ := hgd
  cases hn'
  rcases hv.inv_osl with ⟨b, c, T, m, hL, rfl, hc, hs', hm⟩ | ⟨rfl, rfl⟩
  ·obtain ⟨cells, cur, T', hho, hb, hl', hpp⟩ := hR.heap.at_ hL
   rw [hcs] at hho; cases hho
   refine ⟨_, len, c, rfl, by simp; omega, .inr ⟨_, (cur.toList.drop off).take (len * s), rfl, by simp; omega, fun j u hj => ?_, fun j d u h1 h2 => ?_⟩⟩
   ·rw [add_lit, cell_of_row w b _ cur T' (0, 0) hb]
    simpa using cut_get hj
   ·exact hpp _ d u (cut_get h1) (by simpa using cut_get h2)
  ·exact ⟨none, 0, 0, rfl, by simp, .inl (by simp)⟩
 ·cases hn
end
end Go.Dat
namespace Go.Dat
open Go
section
variable {P : Program} {G : Cx} {L : Nat → Option Nat} {σ : Nat → DV} {h : Heap} {a : Act} {w : World} {vs own : List Nat} {ε : Opd → DV}
variable {dst : Option Nat} {ty : TypeId} {pos : String} {after : Array Edge} {guard : Option (Nat × Bool)} {d : DV} {ef : Eff}
variable (nb : Nat)
theorem isNilC_eq {x : Operand} (h : isNilC x = true) : x = .const (.slice none 0 0) := by
 unfold isNilC at h
 split at h
 ·rfl
 ·cases h
theorem snd_mkf (hE : EV vs ε w L (Av G.S L) a) (hR : R G L σ h a w) (f : Nat) (caps : Array Operand) (he : opE nb dst ε h (.mkf f (caps.toList.map (sOpd vs))) = some (d, ef)) :
  Snd P G σ h a w ⟨dst, .makeFunc (.func f) #[] caps, ty, pos, after, guard⟩ d ef := by
 simp only [opE] at he
 obtain ⟨hrf, he⟩ := gd_some he
 cases he
 refine Snd.val hR (v := .func (.func f) #[] (caps.map a.eval)) (by simp [execOp, Instr.makeFunc]) (.imm (.clo (by simp) fun k d v h1 h2 => ?_))
 simp only [List.getElem?_map, Option.map_eq_some_iff] at h1
 simp only [Array.getElem?_map, Option.map_eq_some_iff] at h2
 obtain ⟨y, ⟨x, hx, rfl⟩, rfl⟩ := h1
 obtain ⟨x', hx', rfl⟩ := h2
 have : x = x' := by
  have h3 : caps[k]? = some x := by simpa using hx
  rw [h3] at hx'; cases hx'; rfl
 subst this
 exact (hE x).rf_imm (hrf _ (List.mem_map_of_mem (List.mem_map_of_mem (List.mem_of_getElem? hx))))
theorem VI.elrow (hR : R G L σ h a w) {cells : List DV} {cs : Array Value} (T : TypeId) (fz : Nat × Nat) (hne : cells ≠ []) (hlen : cells.length ≤ cs.size)
  (hv : ∀ (k : Nat) d v, cells[k]? = some d → cs[k]? = some v → VI w (Av G.S L) d v) :
  VI (w.alloc (.cells cs T fz)) (Av G.S L) (.el cells 0) (.pointer (some ⟨w.heap.size, 0, none⟩)) := by
 have hx : Ext (fun _ => False) w (w.alloc (.cells cs T fz)) := Ext.alloc _ _ _
 have := VI.el (w := w.alloc (.cells cs T fz)) (A := Av G.S L) (xs := cells) (i := 0) (ad := ⟨w.heap.size, 0, none⟩) (fun k => (cs[k]?).getD Go.undef) hne hR.fresh_av (fun k dd hk => by
  obtain ⟨u, hu⟩ := exists_aget (l := cs) (k := k) (by have := (List.getElem?_eq_some_iff.1 hk).1; omega)
  rw [add_lit, Nat.zero_add, cell_of_row _ w.heap.size k cs T fz (heap_alloc_new w _), hu]
  rfl) (fun k dd hk => by
  obtain ⟨u, hu⟩ := exists_aget (l := cs) (k := k) (by have := (List.getElem?_eq_some_iff.1 hk).1; omega)
  rw [hu]
  exact (hv k dd u hk hu).mono fun b hb hA => ⟨hx.block b hb id, hA⟩)
 rwa [add_lit, Nat.zero_add] at this
theorem snd_boxi (hE : EV vs ε w L (Av G.S L) a) (hR : R G L σ h a w) (e : TypeId) (x : Operand) (he : opE nb dst (ε) h (.boxi (sOpd vs x)) = some (d, ef)) :
  Snd P G σ h a w ⟨dst, .box e x, ty, pos, after, guard⟩ d ef := by
 simp only [opE, Option.bind_eq_some_iff] at he
 obtain ⟨cs, hcs, he⟩ := he
 obtain ⟨⟨hne, hrf⟩, he⟩ := gd_some he
 cases he
 obtain ⟨h1, h2, _⟩ := (hE x).cells hcs
 exact Snd.val' hR (Ext.alloc _ _ _) (v := .pointer (some ⟨w.heap.size, 0, none⟩)) (by simp [execOp, Instr.box, newVar, newRow])
  (VI.elrow hR e (0, 0) hne (by omega) fun k dd v e1 e2 => (h2 k dd v e1 e2).rf_imm (hrf dd (List.mem_of_getElem? e1)))
theorem snd_lde (hE : EV vs ε w L (Av G.S L) a) (hR : R G L σ h a w) (t : TypeId) (x : Operand) (hA : tAgg P t = false) (hu : (P.underlying t).isSome = true) (he : opE nb dst (ε) h (.lde (sOpd vs x)) = some (d, ef)) :
  Snd P G σ h a w ⟨dst, .load t x, ty, pos, after, guard⟩ d ef := by
 refine snd_ld nb hE hR t x hA hu ?_
 simp only [opE] at he ⊢
 split at he
 ·rename_i hx; rw [hx]
  obtain ⟨⟨h1, _⟩, h2⟩ := gd_some he
  cases h2
  exact if_pos h1
 ·cases he
theorem snd_ldne (hE : EV vs ε w L (Av G.S L) a) (hR : R G L σ h a w) (t : TypeId) (x : Operand) (n : Nat) (hA : tAgg P t = true) (hn : tSize P t = some n) (he : opE nb dst (ε) h (.ldne n (sOpd vs x)) = some (d, ef)) :
  Snd P G σ h a w ⟨dst, .load t x, ty, pos, after, guard⟩ d ef := by
 refine snd_ldn nb hE hR t x n hA hn ?_
 simp only [opE] at he ⊢
 split at he
 ·rename_i hx; rw [hx]
  obtain ⟨⟨h1, _⟩, h2⟩ := gd_some he
  cases h2
  exact if_pos h1
 ·cases he
theorem snd_ldr (hE : EV vs ε w L (Av G.S L) a) (hR : R G L σ h a w) (t : TypeId) (x : Operand) (hA : tAgg P t = false) (hu : (P.underlying t).isSome = true) (he : opE nb dst (ε) h (.ldr (sOpd vs x)) = some (d, ef)) :
  Snd P G σ h a w ⟨dst, .load t x, ty, pos, after, guard⟩ d ef := by
 refine snd_ld nb hE hR t x hA hu ?_
 simp only [opE] at he ⊢
 split at he
 ·rename_i hx; rw [hx]
  simp only [Option.bind_eq_some_iff] at he ⊢
  obtain ⟨cs, hcs, he⟩ := he
  obtain ⟨⟨h1, _⟩, h2⟩ := gd_some he
  cases h2
  exact ⟨cs, hcs, if_pos h1⟩
 ·cases he
theorem snd_ldnr (hE : EV vs ε w L (Av G.S L) a) (hR : R G L σ h a w) (t : TypeId) (x : Operand) (n : Nat) (hA : tAgg P t = true) (hn : tSize P t = some n) (he : opE nb dst (ε) h (.ldnr n (sOpd vs x)) = some (d, ef)) :
  Snd P G σ h a w ⟨dst, .load t x, ty, pos, after, guard⟩ d ef := by
 refine snd_ldn nb hE hR t x n hA hn ?_
 simp only [opE] at he ⊢
 split at he
 ·rename_i hx; rw [hx]
  simp only [Option.bind_eq_some_iff] at he ⊢
  obtain ⟨cs, hcs, he⟩ := he
  obtain ⟨⟨h1, _⟩, h2⟩ := gd_some he
  cases h2
  exact ⟨cs, hcs, if_pos h1⟩
 ·cases he
theorem run_bounds3 (P : Program) (w : World) (isS : Bool) (len cap : Nat) (lo hi mx : Option Value) {l b m : Nat}
  (hm : ∃ k i, mx = some (.int k i) ∧ 0 ≤ i ∧ i ≤ (cap : Int) ∧ m = i.toNat)
  (hb : ∃ k i, hi = some (.int k i) ∧ 0 ≤ i ∧ i ≤ (m : Int) ∧ b = i.toNat)
  (hl : (lo = none ∧ l = 0) ∨ ∃ k i, lo = some (.int k i) ∧ 0 ≤ i ∧ i ≤ (b : Int) ∧ l = i.toNat) :
  (Instr.sliceBounds isS len cap lo hi mx).run P w = .ok (l, b, m) w := by
 obtain ⟨k1, i1, rfl, h1, h2, rfl⟩ := hm
 obtain ⟨k2, i2, rfl, h3, h4, rfl⟩ := hb
 rcases hl with ⟨rfl, rfl⟩ | ⟨k', j, rfl, h5, h6, rfl⟩
 ·simp [Instr.sliceBounds, run_sliceBound w k1 i1 _ _ h1 h2, run_sliceBound w k2 i2 _ _ h3 h4]
 ·simp [Instr.sliceBounds, run_sliceBound w k1 i1 _ _ h1 h2, run_sliceBound w k2 i2 _ _ h3 h4, run_sliceBound w k' j _ _ h5 h6]
theorem snd_slc3 (hE : EV vs ε w L (Av G.S L) a) (hR : R G L σ h a w) (t e : TypeId) (x : Operand) (lo : Option Operand) (hi mx : Operand) {n : Nat} (ht : P.underlying t = some (.slice e)) (hn : tSize P e = some n) (hn0 : n ≠ 0)
  (he : opE nb dst (ε) h (.slc3 n (sOpd vs x) (lo.map (sOpd vs)) (sOpd vs hi) (sOpd vs mx)) = some (d, ef)) :
  Snd P G σ h a w ⟨dst, .slice t x lo (some hi) (some mx), ty, pos, after, guard⟩ d ef := by
 simp only [tSize, Option.map_eq_some_iff] at hn
 obtain ⟨inf, hinf, rfl⟩ := hn
 simp only [opE] at he
 have hx := hE x
 have hrun : ∀ (A : Option Addr) (len cap l b m : Nat), a.eval x = .slice A len cap → (Instr.sliceBounds true len cap (lo.map a.eval) (some (a.eval hi)) (some (a.eval mx))).run P w = .ok (l, b, m) w →
   (execOp a.eval ⟨dst, .slice t x lo (some hi) (some mx), ty, pos, after, guard⟩).run P w = .ok (.value (.slice (if m = l then A else A.map (·.add (l * inf.size))) (b - l) (m - l))) w := by
  intro A len cap l b m e1 hb
  simp [execOp, Instr.sliceAt, Instr.slice, run_underlying ht, e1, hb, sizeOf, typeInfo, hinf]
 split at he
 ·rename_i km mi hmx
  have hmv : a.eval mx = .int km mi := by have := hE mx; rw [hmx] at this; exact this.inv_int
  split at he
  ·rename_i s xs hp
   obtain ⟨⟨hs, hm0, hm1⟩, he'⟩ := gd_some he
   clear he
   obtain rfl := hs
   simp only [Option.bind_eq_some_iff, Option.map_eq_some_iff] at he'
   obtain ⟨b, hb, l, hl, he'⟩ := he'
   cases he'
   rw [hp] at hx
   have hlV := boundV (vs := vs) hE hR lo hl
   have hbV := boundV (vs := vs) hE hR (some hi) hb
   have hll := boundE_le hl (Nat.zero_le _)
   have hbl := boundE_le hb (Nat.zero_le _)
   have hbV' : ∃ k i, some (a.eval hi) = some (.int k i) ∧ 0 ≤ i ∧ i ≤ (mi.toNat : Int) ∧ b = i.toNat := by
    rcases hbV with ⟨h1, _⟩ | h
    ·cases h1
    ·exact h
   rcases hx.inv_sl with ⟨rfl, A, c, e1⟩ | ⟨hx0, ad, len, c, us, e1, hlen, hc, hA, hcell, hv⟩
   ·have hm2 : mi.toNat = 0 := by simp [cnt] at hm1; omega
    have hb0 : b = 0 := by omega
    have hl0 : l = 0 := by omega
    subst hb0; subst hl0
    refine Snd.val hR (hrun A 0 c 0 0 mi.toNat e1 (run_bounds3 P w true 0 c _ _ _ ⟨km, mi, by rw [hmv], hm0, by omega, rfl⟩ hbV' hlV)) ?_
    simpa using V.imm (L := L) (VI.sl0 (w := w) (A := Av G.S L) inf.size _ _)
   ·have hcn := cnt_of hlen hn0
    rw [hcn] at hm1
    refine Snd.val hR (hrun (some ad) len c l b mi.toNat e1 (run_bounds3 P w true len c _ _ _ ⟨km, mi, by rw [hmv], hm0, by omega, rfl⟩ hbV' hlV)) ?_
    by_cases hlb : l = b
    ·subst hlb
     have : (xs.take (l * inf.size)).drop (l * inf.size) = [] := List.drop_eq_nil_of_le (by simp; omega)
     rw [this, Nat.sub_self]
     exact .imm (.sl0 _ _ _)
    ·have hlt : l < b := by omega
     rw [if_neg (by omega)]
     have hbs : b * inf.size ≤ xs.length := by rw [hlen]; exact Nat.mul_le_mul_right _ (by omega)
     have hget : ∀ k dd, ((xs.take (b * inf.size)).drop (l * inf.size))[k]? = some dd → xs[l * inf.size + k]? = some dd := by
      intro k dd hk
      rw [List.getElem?_drop, List.getElem?_take] at hk
      split at hk
      ·exact hk
      ·cases hk
     have hls : l * inf.size < b * inf.size := Nat.mul_lt_mul_of_pos_right hlt (Nat.pos_of_ne_zero hn0)
     refine .imm (.sl (ad := ad.add (l * inf.size)) (fun k => us (l * inf.size + k)) ?_ ?_ (by omega) (by rw [add_block]; exact hA) (fun k dd hk => ?_) (fun k dd hk => hv _ dd (hget k dd hk)))
     ·intro e0
      have := congrArg List.length e0
      simp at this
      omega
     ·simp only [List.length_drop, List.length_take, Nat.sub_mul]
      omega
     ·rw [add_add]; exact hcell _ dd (hget k dd hk)
  ·rename_i s o off len hp
   obtain ⟨⟨hs, hm0, hm1⟩, he'⟩ := gd_some he
   clear he
   obtain rfl := hs
   simp only [Option.bind_eq_some_iff] at he'
   obtain ⟨b, hb, l, hl, he'⟩ := he'
   obtain ⟨hlt, he'⟩ := gd_some he'
   cases he'
   rw [hp] at hx
   have hbl := boundE_le hb (Nat.zero_le _)
   have hlV := boundV (vs := vs) hE hR lo hl
   have hbV := boundV (vs := vs) hE hR (some hi) hb
   have hbV' : ∃ k i, some (a.eval hi) = some (.int k i) ∧ 0 ≤ i ∧ i ≤ (mi.toNat : Int) ∧ b = i.toNat := by
    rcases hbV with ⟨h1, _⟩ | h
    ·cases h1
    ·exact h
   rcases hx.inv_osl with ⟨bk, c, T, m, hL, e1, hc, hs, hm⟩ | ⟨rfl, _⟩
   ·refine Snd.val hR (hrun (some ⟨bk, off, none⟩) len c l b mi.toNat e1 (run_bounds3 P w true len c _ _ _ ⟨km, mi, by rw [hmv], hm0, by omega, rfl⟩ hbV' hlV)) ?_
    rw [if_neg (by omega)]
    simp only [Option.map_some, add_lit]
    refine .osl hL (by omega) hs ?_
    rw [Nat.sub_mul]
    have h1 : mi.toNat * inf.size ≤ c * inf.size := Nat.mul_le_mul_right _ (by omega)
    have h2 : l * inf.size ≤ mi.toNat * inf.size := Nat.mul_le_mul_right _ (by omega)
    omega
   ·omega
  ·cases he
 ·cases he
theorem snd_clr (hE : EV vs ε w L (Av G.S L) a) (hR : R G L σ h a w) (t e : TypeId) (x : Operand) {i : TypeInfo} {z : List DV} (ht : P.underlying t = some (.slice e)) (hi : P.info? e = some i) (hz : tZero P e = some z) (h0 : i.size ≠ 0)
  (hzl : z.length = i.size) (hz1 : ∀ d ∈ z, d.one = true) (he : opE nb dst (ε) h (.clr i.size z (sOpd vs x)) = some (d, ef)) :
  Snd P G σ h a w ⟨dst, .call { callee := .builtin .clear, args := #[x], argTypes := #[t] }, ty, pos, after, guard⟩ d ef := by
 simp only [opE] at he
 have hx := hE x
 have hex : ∀ (v : Value) (w' : World), (Builtin.clear_ #[t] ty #[a.eval x]).run P w = .ok v w' →
   (execOp a.eval ⟨dst, .call { callee := .builtin .clear, args := #[x], argTypes := #[t] }, ty, pos, after, guard⟩).run P w = .ok (.value v) w' := by
  intro v w' hr
  simp [execOp, resolve, invoke, builtin, hr]
 split at he
 ·rename_i s o off len hp
  simp only [Option.bind_eq_some_iff] at he
  obtain ⟨cs, hcs, he⟩ := he
  obtain ⟨⟨hs, hfit⟩, he'⟩ := gd_some he
  clear he
  obtain rfl := hs
  cases he'
  rw [hp] at hx
  have ztup : V w L (Av G.S L) (.tup []) (.tuple #[]) := .imm (.tup (by simp) fun k d v hk => by simp at hk)
  rcases hx.inv_osl with ⟨b, c, T0, m, hL, e1, hc, hs, hm⟩ | ⟨rfl, e1⟩
  ·rcases Nat.eq_zero_or_pos len with hl0 | hl0
   ·subst hl0
    refine ⟨.tuple #[], w, L, .inl (hex _ _ ?_), ?_, ztup⟩
    ·rw [e1]; simp [Builtin.clear_, run_underlying ht]
    ·have : cs.take off ++ rep 0 z ++ cs.drop (off + 0 * i.size) = cs := by
      have : rep 0 z = [] := List.eq_nil_of_length_eq_zero (by rw [rep_length]; simp)
      rw [this]; simp
     rw [this]
     have hu : h.upd o (some cs) = h := by funext p; unfold Heap.upd; split <;> first | (rename_i e; rw [e, hcs]) | rfl
     simp only [Eff.onS, Eff.onH, hu]
     exact hR
   ·obtain ⟨cells, cur, T, hho, hb, hl, hpp⟩ := hR.heap.at_ hL
    rw [hcs] at hho; cases hho
    simp only [tZero, hi, Option.bind_some, Option.map_eq_some_iff] at hz
    obtain ⟨zv, hzv, rfl⟩ := hz
    have hzs : zv.cells.size = i.size := by simpa using hzl
    have hzc : (Builtin.zeroCells zv.cells len).size = len * i.size := by simp [Builtin.zeroCells, hzs]
    have hget : ∀ k u, (Builtin.zeroCells zv.cells len)[k]? = some u → k < len * i.size ∧ zv.cells[k % zv.cells.size]? = some u := by
     intro k u hk
     have hlt : k < len * i.size := by have := (Array.getElem?_eq_some_iff.1 hk).1; omega
     refine ⟨hlt, ?_⟩
     simp only [Builtin.zeroCells, Array.getElem?_map, Option.map_eq_some_iff] at hk
     obtain ⟨k', hk', rfl⟩ := hk
     have e2 : k' = k := by have := (Array.getElem?_eq_some_iff.1 hk').2; simpa using this.symm
     subst e2
     obtain ⟨u, hu⟩ := exists_aget (l := zv.cells) (k := k' % zv.cells.size) (Nat.mod_lt _ (by omega))
     simp [getElem!_def, hu]
    have hz1' : ∀ u ∈ zv.cells.toList, u.oneCell' = true := by
     intro u hu
     have := hz1 (cv1 u) (List.mem_map_of_mem hu)
     exact V.oneCell (w := w) (L := L) (A := Av G.S L) this (.imm (cv1_VI _ _ u))
    have h1 : ∀ u ∈ (Builtin.zeroCells zv.cells len).toList, u.oneCell' = true := by
     intro u hu
     obtain ⟨k, hk⟩ := List.mem_iff_getElem?.1 hu
     obtain ⟨_, h3⟩ := hget k u (by simpa using hk)
     exact hz1' u (Array.mem_toList_iff.2 (Array.mem_of_getElem? h3))
    have hst := run_storeCells_at P b off T (Builtin.zeroCells zv.cells len).toList 0 cur w hb (by simp; omega) h1
    simp only [Nat.add_zero] at hst
    have hlen : (Builtin.zeroCells zv.cells len).toList.length = len * i.size := by simp [hzc]
    refine ⟨.tuple #[], _, L, .inl (hex (.tuple #[]) _ ?_), hR.write (cells := cs.take off ++ rep len (zv.cells.toList.map cv1) ++ cs.drop (off + len * i.size)) hL hb (cs' := (cur.toList.take off ++ (Builtin.zeroCells zv.cells len).toList ++ cur.toList.drop (off + len * i.size)).toArray) ?_ ?_ ?_ (setRow_eq hb), ?_⟩
    ·rw [hlen] at hst
     obtain ⟨n', rfl⟩ : ∃ n', len = n' + 1 := ⟨len - 1, by omega⟩
     rw [e1]
     simp [Builtin.clear_, run_underlying ht, zeroValue, typeInfo, hi, hzv, hst]
    ·simp; omega
    ·have hrl : (rep len (zv.cells.toList.map cv1)).length = len * i.size := by rw [rep_length, hzl]
     simp only [List.length_append, List.length_take, List.length_drop, hrl, List.size_toArray, Array.length_toList, hlen]; omega
    ·intro k dd v hk1 hk2
     rcases splice_get (cur := cur.toList) (us := (Builtin.zeroCells zv.cells len).toList) hfit (by simp; omega) (by rw [rep_length, hzl]) hlen hk1 (by simpa using hk2) with ⟨e3, e4⟩ | ⟨e3, e4⟩
     ·exact hpp k dd v e3 (by simpa using e4)
     ·have h3 := rep_get (by intro e0; rw [e0] at hzl; simp at hzl; omega) e3
      obtain ⟨_, h5⟩ := hget (k - off) v (by simpa using e4)
      simp only [List.getElem?_map, Option.map_eq_some_iff, List.length_map, Array.length_toList] at h3
      obtain ⟨u, hu, rfl⟩ := h3
      have : u = v := by
       have hu' : zv.cells[(k - off) % zv.cells.size]? = some u := by simpa using hu
       rw [hu'] at h5; cases h5; rfl
      subst this
      exact .imm (cv1_VI _ _ _)
    ·exact .imm (.tup (by simp) fun k d v hk => by simp at hk)
  ·refine ⟨.tuple #[], w, L, .inl (hex _ _ ?_), ?_, ztup⟩
   ·rw [e1]; simp [Builtin.clear_, run_underlying ht]
   ·have : cs.take off ++ rep 0 z ++ cs.drop (off + 0 * i.size) = cs := by
     have : rep 0 z = [] := List.eq_nil_of_length_eq_zero (by rw [rep_length]; simp)
     rw [this]; simp
    rw [this]
    have hu : h.upd o (some cs) = h := by funext p; unfold Heap.upd; split <;> first | (rename_i e; rw [e, hcs]) | rfl
    simp only [Eff.onS, Eff.onH, hu]
    exact hR
 ·cases he
theorem equalIn_nil (k : Nat) {t e : TypeId} (ht : P.underlying t = some (.slice e)) (A : Option Addr) (n c : Nat) : (Op.equalIn (k + 1) t (.slice A n c) (.slice none 0 0)).run P w = .ok A.isNone w := by
 cases A <;> simp [Op.equalIn, run_underlying ht]
theorem snd_isnil (hE : EV vs ε w L (Av G.S L) a) (hR : R G L σ h a w) (op : BinOp) (hop : op = .eql ∨ op = .neq) (t u : TypeId) {e : TypeId} (ht : P.underlying t = some (.slice e)) (x : Operand)
  (he : opE nb dst (ε) h (.isnil (op == .neq) (sOpd vs x)) = some (d, ef)) :
  Snd P G σ h a w ⟨dst, .binOp op t x (.const (.slice none 0 0)) u, ty, pos, after, guard⟩ d ef := by
 simp only [opE] at he
 have hx := hE x
 have run : ∀ (A : Option Addr) (n c : Nat), a.eval x = .slice A n c →
   (execOp a.eval ⟨dst, .binOp op t x (.const (.slice none 0 0)) u, ty, pos, after, guard⟩).run P w = .ok (.value (.bool (if op == .neq then A.isSome else A.isNone))) w := by
  intro A n c e1
  have eq : (Op.equal t (.slice A n c) (.slice none 0 0)).run P w = .ok A.isNone w := equalIn_nil 9999 ht A n c
  have e2 : a.eval (.const (.slice none 0 0)) = .slice none 0 0 := rfl
  rcases hop with rfl | rfl <;> cases A <;>
   simp [execOp, e1, e2, eqGuard, binOp, eq]
 split at he
 ·rename_i hp
  cases he
  rw [hp] at hx
  refine Snd.val hR (run none 0 0 hx.inv_nils) ?_
  rcases hop with rfl | rfl <;> exact .imm (.bool _)
 ·rename_i s xs hp
  obtain ⟨hne, he⟩ := gd_some he
  cases he
  rw [hp] at hx
  rcases hx.inv_sl with ⟨rfl, _⟩ | ⟨hx0, ad, len, c, us, e1, _⟩
  ·exact absurd rfl hne
  ·refine Snd.val hR (run (some ad) len c e1) ?_
   rcases hop with rfl | rfl <;> exact .imm (.bool _)
 ·rename_i s o off n hp
  obtain ⟨hne, he⟩ := gd_some he
  cases he
  rw [hp] at hx
  rcases hx.inv_osl with ⟨b, c, T, m, hL, e1, _⟩ | ⟨e0, _⟩
  ·refine Snd.val hR (run _ _ _ e1) ?_
   rcases hop with rfl | rfl <;> exact .imm (.bool _)
  ·exact absurd e0 hne
 ·cases he
end
end Go.Dat
namespace Go.Dat
open Go
section
variable {P : Program} {G : Cx} {L : Nat → Option Nat} {σ : Nat → DV} {h : Heap} {a : Act} {w : World} {vs own : List Nat} {ε : Opd → DV}
variable (nb : Nat) {d : DV} {ef : Eff} {dst : Option Nat} {ty : TypeId} {pos : String} {after : Array Edge} {guard : Option (Nat × Bool)}
theorem run_append_zero (t ty e : TypeId) (i : TypeInfo) (ht : P.underlying t = some (.slice e)) (hi : P.info? e = some i) (A B : Option Addr) (n c c' : Nat) (hnc : n ≤ c) :
  (Builtin.append_ #[t, t] ty #[.slice A n c, .slice B 0 c']).run P w = .ok (.slice A n c) w := by
 cases A <;> cases B <;> simp [Builtin.append_, run_underlying ht, sizeOf, typeInfo, hi, Builtin.lenOf, Builtin.firstCells, hnc, storeCells, loadCells, loadCellsFrom]
theorem execOp_append (x y : Operand) (t u : TypeId) :
  (execOp a.eval ⟨dst, .call { callee := .builtin .append, args := #[x, y], argTypes := #[t, u] }, ty, pos, after, guard⟩) =
   (do pure (.value (← Builtin.append_ #[t, u] ty #[a.eval x, a.eval y]))) := by
 simp [execOp, resolve, invoke, builtin]
theorem R.purged (o : Nat) (hR : R G L σ h a w) : R G L (purgeS o σ) (h.purge o) a w := hR.weakH o
theorem purge_V {A : Nat → Prop} (o : Nat) {d : DV} {v : Value} (hv : V w L A d v) : V w L A (purge o d) v := by
 unfold purge; split
 ·exact .imm (.undef _)
 ·exact hv
theorem upd_same {h : Heap} {o : Nat} {c : List DV} (hc : h o = some c) : h.upd o (some c) = h := by
 funext p
 unfold Heap.upd
 split
 ·rename_i e; rw [e, hc]
 ·rfl
theorem snd_app_new (hR : R G L σ h a w) {o : Nat} (hK : G.K o = none) (t u e : TypeId) (hlo : o < 1048576 ∧ (786432 ≤ o ∧ o < 851968 → e = (o - 786432) / 16)) (x y : Operand) (i : TypeInfo) {z : Value} (hzs : z.cells.size = i.size) {cells : List DV} {vals : List Value} {n cap : Nat}
  (hl : cells.length = n * i.size) (hvl : vals.length = cells.length) (hcap : n ≤ cap)
  (hv : ∀ (k : Nat) d v, cells[k]? = some d → vals[k]? = some v → V w L (Av G.S L) d v)
  (hr : (Builtin.append_ #[t, u] ty #[a.eval x, a.eval y]).run P w = .ok (.slice (some ⟨w.heap.size, 0, none⟩) n cap) (w.drew.alloc (.cells (vals.toArray ++ Builtin.zeroCells z.cells (cap - n)) e))) :
  Snd P G σ h a w ⟨dst, .call { callee := .builtin .append, args := #[x, y], argTypes := #[t, u] }, ty, pos, after, guard⟩ (.osl i.size o 0 n) (.app o (cells.map (purge o))) := by
 have hD := (hR.drop o hK).still (Ext.drew _ w)
 have hsize : (vals.toArray ++ Builtin.zeroCells z.cells (cap - n)).size = cap * i.size := by
  rw [Array.size_append, size_zeroCells, hzs, List.size_toArray, hvl, hl, ← Nat.add_mul]
  congr 1
  omega
 have hN := hD.new (o := o) (cells := cells.map (purge o)) (cs := vals.toArray ++ Builtin.zeroCells z.cells (cap - n)) (by simp [Heap.upd]) e ⟨fun h => absurd hlo.1 (by omega), fun h1 h2 => hlo.2 ⟨h1, h2⟩⟩ (by rw [hsize, List.length_map, hl]; exact Nat.mul_le_mul_right _ hcap) (fun k d v h1 h2 => by
  simp only [List.getElem?_map, Option.map_eq_some_iff] at h1
  obtain ⟨d0, hd0, rfl⟩ := h1
  have hlt := (List.getElem?_eq_some_iff.1 hd0).1
  rw [Array.getElem?_append_left (by simp; omega)] at h2
  have hv0 := hv k d0 v hd0 (by simpa using h2)
  refine hv0.purge o (fun b hb hA => ⟨rfl, ?_⟩) fun p b hne hp => ⟨by simp [updL, hne, hp], rfl⟩
  rintro (hS | ⟨p, hp⟩)
  ·exact hA (.inl hS)
  ·unfold updL at hp
   split at hp
   ·cases hp
   ·exact hA (.inr ⟨p, hp⟩))
 refine ⟨.slice (some ⟨w.heap.size, 0, none⟩) n cap, w.drew.alloc (.cells (vals.toArray ++ Builtin.zeroCells z.cells (cap - n)) e), updL (updL L o none) o (some w.drew.heap.size), .inl ?_, ?_, ?_⟩
 ·rw [execOp_append]
  simp only [Sem.run_bind, hr, Result.andThen_ok, Sem.run_pure]
 ·have := hN.1
  have e1 : ((h.purge o).upd o none).upd o (some (cells.map (purge o))) = (h.purge o).upd o (some (cells.map (purge o))) := by
   funext p; unfold Heap.upd; split <;> rfl
  rw [e1] at this
  exact this
 ·refine .osl (b := w.heap.size) (by simp [updL]) hcap (shape_new w.drew _ _) ?_
  rw [hsize]; omega
theorem snd_app (hE : EV vs ε w L (Av G.S L) a) (hR : R G L σ h a w) (t e : TypeId) (x y : Operand) {i : TypeInfo} {z : Value} (ht : P.underlying t = some (.slice e)) (hi : P.info? e = some i) (hz : i.zero = some z)
  (hzs : z.cells.size = i.size) (h0 : i.size ≠ 0) (he : opE nb dst (ε) h (.app e i.size i.bytes (sOpd vs x) (sOpd vs y)) = some (d, ef)) :
  Snd P G σ h a w ⟨dst, .call { callee := .builtin .append, args := #[x, y], argTypes := #[t, t] }, ty, pos, after, guard⟩ d ef := by
 have hx := hE x
 have hy := hE y
 simp only [opE] at he
 split at he
 ·rename_i hp
  simp only [Option.bind_eq_some_iff] at he
  obtain ⟨ys, hys, he⟩ := he
  obtain ⟨⟨g1, g2, g3⟩, he⟩ := gd_some he
  rw [Option.map_eq_some_iff] at he
  obtain ⟨o, ho, he⟩ := he
  cases he
  rw [hp] at hx
  have e1 := hx.inv_nils
  have hno := (freshE_some ho).1
  have hlo2 := (freshE_some ho).2
  have hK : G.K o = none := by
   cases hKo : G.K o with
   | none => rfl
   | some b => have := (hR.keep o b hKo).1; rw [hR.lNone hno] at this; cases this
  obtain ⟨B, m, c, e2, hyl, hB⟩ := newsV hR h0 hys hy
  have hcnt := cnt_of hyl h0
  rw [hcnt]
  rcases hB with rfl | ⟨ad, news, rfl, hnl, hcell, hvv⟩
  ·have hm : m = 0 := by
    rcases Nat.eq_zero_or_pos m with e | e
    ·exact e
    ·have := Nat.mul_pos e (Nat.pos_of_ne_zero h0); simp at hyl; omega
   subst hm
   have hrun := run_append_zero (P := P) (w := w) t ty e i ht hi none B 0 0 c (Nat.le_refl _)
   refine ⟨.slice none 0 0, w, L, .inl ?_, ?_, .osl0 _ _ _⟩
   ·rw [execOp_append, e1, e2]; simp [hrun]
   ·exact (hR.purged o).virt (by simp [Heap.purge, hno])
  ·rcases Nat.eq_zero_or_pos m with hm | hm
   ·subst hm
    have : ys = [] := List.eq_nil_of_length_eq_zero (by omega)
    subst this
    have hrun := run_append_zero (P := P) (w := w) t ty e i ht hi none (some ad) 0 0 c (Nat.le_refl _)
    refine ⟨.slice none 0 0, w, L, .inl ?_, ?_, .osl0 _ _ _⟩
    ·rw [execOp_append, e1, e2]; simp [hrun]
    ·exact (hR.purged o).virt (by simp [Heap.purge, hno])
   ·have hmb : m * i.bytes ≤ ys.length * i.bytes := Nat.mul_le_mul_right _ (by rw [hyl]; exact Nat.le_mul_of_pos_right _ (Nat.pos_of_ne_zero h0))
    have hm2 : m ≤ ys.length := by rw [hyl]; exact Nat.le_mul_of_pos_right _ (Nat.pos_of_ne_zero h0)
    have hr := run_append_nil (P := P) w t ty e i z ht hi hz ad m c news (by omega) hcell hm (by omega) (by omega)
    rw [← e1, ← e2] at hr
    exact snd_app_new hR hK t t e ⟨by omega, by omega⟩ x y i hzs hyl hnl (grownCap_ge w m 0 e) hvv hr
 ·rename_i s' o off len hp
  simp only [Option.bind_eq_some_iff] at he
  obtain ⟨cs, hcs, ys, hys, he⟩ := he
  obtain ⟨hgd, he'⟩ := gd_some he
  clear he
  obtain ⟨rfl, rfl, g3, g4, g5, gk, gt, g6⟩ := hgd
  have hK : G.K o = none := hR.keep_none gk
  cases he'
  rw [hp] at hx
  obtain ⟨B, m, c, e2, hyl, hB⟩ := newsV hR h0 hys hy
  have hcnt := cnt_of hyl h0
  rw [hcnt]
  have hpos := Nat.pos_of_ne_zero h0
  have hlenle : len ≤ cs.length := by rw [g3]; exact Nat.le_mul_of_pos_right _ hpos
  have hmle : m ≤ ys.length := by rw [hyl]; exact Nat.le_mul_of_pos_right _ hpos
  have hbytes : (len + m) * i.bytes ≤ 140737488355328 := Nat.le_trans (Nat.mul_le_mul_right _ (by omega)) g4
  have hzero : ∀ B', a.eval y = .slice B' 0 c → ys = [] → ∀ A n c0, a.eval x = .slice A n c0 → n ≤ c0 → V w L (Av G.S L) (.osl i.size o 0 len) (.slice A n c0) →
    Snd P G σ h a w ⟨dst, .call { callee := .builtin .append, args := #[x, y], argTypes := #[t, t] }, ty, pos, after, guard⟩ (.osl i.size o 0 (len + 0)) (.app o ((cs ++ ys).map (purge o))) := by
   intro B' e2' hy0 A n c0 e1 hnc hvv
   subst hy0
   have hrun := run_append_zero (P := P) (w := w) t ty e i ht hi A B' n c0 c hnc
   refine ⟨_, w, L, .inl ?_, ?_, hvv⟩
   ·rw [execOp_append, e1, e2']; simp [hrun]
   ·have := hR.purged o
    rw [List.append_nil]
    show R G L (purgeS o σ) ((h.purge o).upd o (some (cs.map (purge o)))) a w
    rw [upd_same (by simp [Heap.purge, hcs])]
    exact this
  have hm0 : m = 0 → ys = [] := fun hm => List.eq_nil_of_length_eq_zero (by rw [hyl, hm]; simp)
  by_cases hm : m = 0
  ·subst hm
   rcases hx.inv_osl with ⟨b, c0, T, mm, hL, e1, hc, hs, hmm⟩ | ⟨rfl, e1⟩
   ·exact hzero B e2 (hm0 rfl) _ _ _ e1 hc (e1 ▸ hx)
   ·exact hzero B e2 (hm0 rfl) _ _ _ e1 (Nat.le_refl _) (e1 ▸ hx)
  ·have hmp : 0 < m := Nat.pos_of_ne_zero hm
   rcases hB with rfl | ⟨ad, news, rfl, hnl, hcell, hvv⟩
   ·exact absurd (show m = 0 from by
     rcases Nat.eq_zero_or_pos m with e | e
     ·exact e
     ·have := Nat.mul_pos e hpos; simp at hyl; omega) hm
   ·have hone : ∀ u ∈ news, u.oneCell' = true := by
     intro u hu
     obtain ⟨k, hk⟩ := List.mem_iff_getElem?.1 hu
     obtain ⟨dd, hdd⟩ := exists_get (l := ys) (k := k) (by have := (List.getElem?_eq_some_iff.1 hk).1; omega)
     exact V.oneCell (g6 dd (List.mem_of_getElem? hdd)) (hvv k dd u hdd hk)
    rcases hx.inv_osl with ⟨b, c0, T, mm, hL, e1, hc, hs, hmm⟩ | ⟨rfl, e1⟩
    ·obtain ⟨cells, cur, T', hho, hb, hl', hpp⟩ := hR.heap.at_ hL
     rw [hcs] at hho; cases hho
     have hcur : c0 * i.size ≤ cur.size := by
      simp [World.shape?, hb] at hs
      omega
     by_cases hroom : len + m ≤ c0
     ·-- there is room: the cells are written behind the old ones
      have hfit : len * i.size + news.length ≤ cur.size := by
       rw [hnl, hyl, ← Nat.add_mul]
       exact Nat.le_trans (Nat.mul_le_mul_right _ hroom) hcur
      have hf := run_firstCells_some (P := P) w i.size m ad m c news (by omega) hcell
      have hst := run_storeCells_at P b (len * i.size) T' news 0 cur w hb (by simpa using hfit) hone
      simp only [Nat.add_zero] at hst
      have hrun : (Builtin.append_ #[t, t] ty #[a.eval x, a.eval y]).run P w =
        .ok (.slice (some ⟨b, 0, none⟩) (len + m) c0) (w.setRow b (cur.toList.take (len * i.size) ++ news ++ cur.toList.drop (len * i.size + news.length)).toArray) := by
       rw [e1, e2]
       simp [Builtin.append_, run_underlying ht, sizeOf, typeInfo, hi, Builtin.lenOf, hroom, hf, Addr.add_lit, hst]
      have hcs' : (cur.toList.take (len * i.size) ++ news ++ cur.toList.drop (len * i.size + news.length)).toArray.size = cur.size := by simp; omega
      refine ⟨.slice (some ⟨b, 0, none⟩) (len + m) c0, _, L, .inl (by rw [execOp_append]; simp only [Sem.run_bind, hrun, Result.andThen_ok, Sem.run_pure]),
       (hR.purged o).write (cells := (cs ++ ys).map (purge o)) hL hb (cs' := (cur.toList.take (len * i.size) ++ news ++ cur.toList.drop (len * i.size + news.length)).toArray) hcs' (by simp; omega) (fun k dd v h1 h2 => ?_) (setRow_eq hb), ?_⟩
      ·simp only [List.getElem?_map, Option.map_eq_some_iff] at h1
       obtain ⟨d0, hd0, rfl⟩ := h1
       refine purge_V o ?_
       have hlt := (List.getElem?_eq_some_iff.1 hd0).1
       simp only [List.length_append] at hlt
       have h2' : (cur.toList.take (len * i.size) ++ news ++ cur.toList.drop (len * i.size + news.length))[k]? = some v := by simpa using h2
       rw [List.getElem?_append_left (by simp; omega)] at h2'
       rw [List.getElem?_append] at hd0 h2'
       have hlen2 : (cur.toList.take (len * i.size)).length = cs.length := by simp; omega
       rw [hlen2] at h2'
       by_cases hk : k < cs.length
       ·rw [if_pos hk] at hd0 h2'
        rw [List.getElem?_take, if_pos (by omega)] at h2'
        exact hpp k d0 v hd0 (by simpa using h2')
       ·rw [if_neg hk] at hd0 h2'
        exact hvv _ d0 v hd0 h2'
      ·refine .osl (T := T') (m := cur.size) hL hroom ?_ (by omega)
       rw [setRow_eq hb]
       have hblt := hR.heap.lt hL
       simp only [World.shape?]
       rw [Array.getElem?_setIfInBounds]
       simp only [if_true, hblt]
       simp only [hcs']
     ·have hr := run_append_grow (P := P) w t ty e i z ht hi hz ⟨b, 0, none⟩ len c0 (cur.toList.take (len * i.size)) (by simp; omega) (fun j v hj => by
       rw [add_lit, Nat.zero_add, cell_of_row w b j cur T' (0, 0) hb]
       rw [List.getElem?_take] at hj
       split at hj
       ·simpa using hj
       ·cases hj) ad m c news (by omega) hcell (by omega) (by omega) (growslice_fits (by omega) hbytes)
      rw [← e1, ← e2] at hr
      have hr' : (Builtin.append_ #[t, t] ty #[a.eval x, a.eval y]).run P w = .ok (.slice (some ⟨w.heap.size, 0, none⟩) (len + m) (grownCap w (len + m) c0 e))
        (w.drew.alloc (.cells ((cur.toList.take (len * i.size) ++ news).toArray ++ Builtin.zeroCells z.cells (grownCap w (len + m) c0 e - (len + m))) e)) := by
       rw [hr]; simp
      refine snd_app_new hR hK t t e ⟨gk, gt⟩ x y i hzs (cells := cs ++ ys) (by rw [List.length_append, g3, hyl, Nat.add_mul]) (by simp; omega) (grownCap_ge w _ _ _) (fun k dd v h1 h2 => ?_) hr'
      rw [List.getElem?_append] at h1 h2
      have hlen2 : (cur.toList.take (len * i.size)).length = cs.length := by simp; omega
      rw [hlen2] at h2
      by_cases hk : k < cs.length
      ·rw [if_pos hk] at h1 h2
       rw [List.getElem?_take, if_pos (by omega)] at h2
       exact hpp k dd v h1 (by simpa using h2)
      ·rw [if_neg hk] at h1 h2
       exact hvv _ dd v h1 h2
    ·have hcs0 : cs = [] := List.eq_nil_of_length_eq_zero (by omega)
     subst hcs0
     have hr := run_append_nil (P := P) w t ty e i z ht hi hz ad m c news (by omega) hcell hmp (by omega) (by
      have : m * i.bytes ≤ (0 + m) * i.bytes := Nat.mul_le_mul_right _ (by omega)
      omega)
     rw [← e1, ← e2] at hr
     rw [Nat.zero_add, List.nil_append]
     exact snd_app_new hR hK t t e ⟨gk, gt⟩ x y i hzs hyl hnl (grownCap_ge w m 0 e) hvv hr
 ·cases he
theorem snd_appi (hE : EV vs ε w L (Av G.S L) a) (hR : R G L σ h a w) (t e : TypeId) (y : Operand) {i : TypeInfo} {z : Value} (ht : P.underlying t = some (.slice e)) (hi : P.info? e = some i) (hz : i.zero = some z)
  (hzs : z.cells.size = i.size) (h0 : i.size ≠ 0) (he : opE nb dst (ε) h (.appi i.size i.bytes (sOpd vs y)) = some (d, ef)) :
  Snd P G σ h a w ⟨dst, .call { callee := .builtin .append, args := #[.const (.slice none 0 0), y], argTypes := #[t, t] }, ty, pos, after, guard⟩ d ef := by
 have hy := hE y
 simp only [opE, Option.bind_eq_some_iff] at he
 obtain ⟨ys, hys, he⟩ := he
 obtain ⟨⟨g1, g2, g3⟩, he⟩ := gd_some he
 cases he
 have e1 : a.eval (.const (.slice none 0 0)) = .slice none 0 0 := rfl
 obtain ⟨B, m, c, e2, hyl, hB⟩ := newsV hR h0 hys hy
 have nilr : ∀ B c, a.eval y = .slice B 0 c → Snd P G σ h a w ⟨dst, .call { callee := .builtin .append, args := #[.const (.slice none 0 0), y], argTypes := #[t, t] }, ty, pos, after, guard⟩ (.sl i.size []) .no := by
  intro B c e2
  have hrun := run_append_zero (P := P) (w := w) t ty e i ht hi none B 0 0 c (Nat.le_refl _)
  exact Snd.val hR (v := .slice none 0 0) (by rw [execOp_append, e1, e2]; simp [hrun]) (.imm (.sl0 _ _ _))
 rcases hB with rfl | ⟨ad, news, rfl, hnl, hcell, hvv⟩
 ·have hm : m = 0 := by
   rcases Nat.eq_zero_or_pos m with e | e
   ·exact e
   ·have := Nat.mul_pos e (Nat.pos_of_ne_zero h0); simp at hyl; omega
  subst hm
  exact nilr B c e2
 ·rcases Nat.eq_zero_or_pos m with hm | hm
  ·subst hm
   have : ys = [] := List.eq_nil_of_length_eq_zero (by omega)
   subst this
   exact nilr _ c e2
  ·have hmb : m * i.bytes ≤ ys.length * i.bytes := Nat.mul_le_mul_right _ (by rw [hyl]; exact Nat.le_mul_of_pos_right _ (Nat.pos_of_ne_zero h0))
   have hm2 : m ≤ ys.length := by rw [hyl]; exact Nat.le_mul_of_pos_right _ (Nat.pos_of_ne_zero h0)
   have hr := run_append_nil (P := P) w t ty e i z ht hi hz ad m c news (by omega) hcell hm (by omega) (by omega)
   rw [← e1, ← e2] at hr
   have hR' := hR.still (Ext.drew (fun _ => False) w)
   refine Snd.val' hR (v := .slice (some ⟨w.heap.size, 0, none⟩) m (grownCap w m 0 e)) (w' := w.drew.alloc (.cells (news.toArray ++ Builtin.zeroCells z.cells (grownCap w m 0 e - m)) e)) ((Ext.drew (fun _ => False) w).trans (Ext.alloc _ _ _)) (by rw [execOp_append]; simp only [Sem.run_bind, hr, Result.andThen_ok, Sem.run_pure]) ?_
   refine VI.row hR' e (0, 0) h0 hyl (grownCap_ge w m 0 e) ?_ (fun k dd v h1 h2 => ?_)
   ·rw [Array.size_append, List.size_toArray]; omega
   ·have hlt := (List.getElem?_eq_some_iff.1 h1).1
    rw [Array.getElem?_append_left (by simp; omega)] at h2
    exact VI.mono (w := w) (w' := w.drew) (A := Av G.S L) (A' := Av G.S L) (fun b hb hA => ⟨rfl, hA⟩) ((hvv k dd v h1 (by simpa using h2)).rf_imm (g3 dd (List.mem_of_getElem? h1)))
theorem bys_len (l : List UInt8) : (bys l).length = l.length := List.length_map ..
theorem strCells_bys (l : List UInt8) (k : Nat) (d : DV) (v : Value) {S : Nat → Prop} (h1 : (bys l)[k]? = some d) (h2 : (Lib.strCells ⟨l.toArray⟩)[k]? = some v) : V w L S d v := by
 unfold bys at h1
 unfold Lib.strCells at h2
 simp only [List.getElem?_map, Option.map_eq_some_iff] at h1 h2
 obtain ⟨b, hb, rfl⟩ := h1
 obtain ⟨c, hc, rfl⟩ := h2
 rw [hb] at hc
 cases hc
 exact .imm (.int _ _)
theorem purge_bys (o : Nat) (l : List UInt8) : (bys l).map (purge o) = bys l := by
 unfold bys
 rw [List.map_map]
 exact List.map_congr_left fun b _ => by simp [purge, byteD, DV.has]
theorem run_append_zeroS (t u ty e : TypeId) (i : TypeInfo) (ht : P.underlying t = some (.slice e)) (hu : P.underlying u = some .string) (hi : P.info? e = some i) (A : Option Addr) (n c : Nat) (hnc : n ≤ c) :
  (Builtin.append_ #[t, u] ty #[.slice A n c, .string ⟨#[]⟩]).run P w = .ok (.slice A n c) w := by
 have hf := Lib.run_firstCells_string (P := P) w i.size ⟨#[]⟩
 have e0 : (⟨#[]⟩ : ByteArray).size = 0 := rfl
 rw [e0] at hf
 have e1 : (Lib.strCells ⟨#[]⟩) = [] := rfl
 cases A <;> simp [Builtin.append_, run_underlying ht, run_underlying hu, sizeOf, typeInfo, hi, Builtin.lenOf, e0, hnc, hf, e1, storeCells]
theorem snd_apps (hE : EV vs ε w L (Av G.S L) a) (hR : R G L σ h a w) (t u e : TypeId) (x y : Operand) {i : TypeInfo} {z : Value} (ht : P.underlying t = some (.slice e)) (hu : P.underlying u = some .string) (hi : P.info? e = some i) (hz : i.zero = some z)
  (hzs : z.cells.size = 1) (hs1 : i.size = 1) (hb1 : i.bytes = 1) (he : opE nb dst (ε) h (.apps e (sOpd vs x) (sOpd vs y)) = some (d, ef)) :
  Snd P G σ h a w ⟨dst, .call { callee := .builtin .append, args := #[x, y], argTypes := #[t, u] }, ty, pos, after, guard⟩ d ef := by
 have hx := hE x
 have hy := hE y
 have hzs' : z.cells.size = i.size := by rw [hzs, hs1]
 have hsz : ∀ l : List UInt8, (⟨l.toArray⟩ : ByteArray).size = l.length := fun l => by show l.toArray.size = _; simp
 have hsl : ∀ l : List UInt8, (Lib.strCells ⟨l.toArray⟩).length = l.length := fun l => by rw [Lib.strCells_length, hsz]
 simp only [opE] at he
 split at he
 ·rename_i l hp hq
  obtain ⟨g1, he⟩ := gd_some he
  rw [Option.map_eq_some_iff] at he
  obtain ⟨o, ho, he⟩ := he
  cases he
  rw [hp] at hx
  rw [hq] at hy
  have e1 := hx.inv_nils
  have e2 := hy.inv_str
  have hno := (freshE_some ho).1
  have hlo2 := (freshE_some ho).2
  have hK : G.K o = none := by
   cases hKo : G.K o with
   | none => rfl
   | some b => have := (hR.keep o b hKo).1; rw [hR.lNone hno] at this; cases this
  rcases Nat.eq_zero_or_pos l.length with hm | hm
  ·have hl0 : l = [] := List.eq_nil_of_length_eq_zero hm
   subst hl0
   have hrun := run_append_zeroS (P := P) (w := w) t u ty e i ht hu hi none 0 0 (Nat.le_refl _)
   refine ⟨.slice none 0 0, w, L, .inl ?_, ?_, .osl0 _ _ _⟩
   ·rw [execOp_append, e1, e2]; simp [hrun]
   ·exact (hR.purged o).virt (by simp [Heap.purge, hno])
  ·have hr := run_append_nil_string (P := P) w t u ty e i z ht hu hi hz ⟨l.toArray⟩ (by rw [hsz]; exact hm) (by rw [hsz]; omega) (by rw [hsz, hb1]; omega)
   rw [hsz] at hr
   have e3 : (⟨l.toArray⟩ : ByteArray).data.map (fun b => Value.int .u8 b.toNat) = (Lib.strCells ⟨l.toArray⟩).toArray := by simp [Lib.strCells]
   rw [e3, ← e1, ← e2] at hr
   have := snd_app_new (dst := dst) (pos := pos) (after := after) (guard := guard) hR hK t u e ⟨by omega, by omega⟩ x y i hzs' (cells := bys l) (by rw [bys_len, hs1, Nat.mul_one]) (by rw [hsl, bys_len]) (grownCap_ge w l.length 0 e) (fun k d v h1 h2 => strCells_bys l k d v h1 h2) hr
   rw [purge_bys, hs1] at this
   exact this
 ·rename_i s' o off len l hp hq
  simp only [Option.bind_eq_some_iff] at he
  obtain ⟨cs, hcs, he⟩ := he
  obtain ⟨hgd, he'⟩ := gd_some he
  clear he
  obtain ⟨rfl, rfl, g3, g4, gk, gt⟩ := hgd
  have hK : G.K o = none := hR.keep_none gk
  cases he'
  rw [hp] at hx
  rw [hq] at hy
  have e2 := hy.inv_str
  have hzero : l = [] → ∀ A n c0, a.eval x = .slice A n c0 → n ≤ c0 → V w L (Av G.S L) (.osl 1 o 0 len) (.slice A n c0) →
    Snd P G σ h a w ⟨dst, .call { callee := .builtin .append, args := #[x, y], argTypes := #[t, u] }, ty, pos, after, guard⟩ (.osl 1 o 0 (len + l.length)) (.app o ((cs ++ bys l).map (purge o))) := by
   intro hl0 A n c0 e1 hnc hvv
   subst hl0
   have hrun := run_append_zeroS (P := P) (w := w) t u ty e i ht hu hi A n c0 hnc
   refine ⟨_, w, L, .inl ?_, ?_, hvv⟩
   ·rw [execOp_append, e1, e2]; simp [hrun]
   ·have := hR.purged o
    rw [show bys [] = [] from rfl, List.append_nil]
    show R G L (purgeS o σ) ((h.purge o).upd o (some (cs.map (purge o)))) a w
    rw [upd_same (by simp [Heap.purge, hcs])]
    exact this
  by_cases hm : l.length = 0
  ·have hl0 := List.eq_nil_of_length_eq_zero hm
   rcases hx.inv_osl with ⟨b, c0, T, mm, hL, e1, hc, hs, hmm⟩ | ⟨rfl, e1⟩
   ·exact hzero hl0 _ _ _ e1 hc (e1 ▸ hx)
   ·exact hzero hl0 _ _ _ e1 (Nat.le_refl _) (e1 ▸ hx)
  ·have hmp : 0 < l.length := Nat.pos_of_ne_zero hm
   rcases hx.inv_osl with ⟨b, c0, T, mm, hL, e1, hc, hs, hmm⟩ | ⟨rfl, e1⟩
   ·obtain ⟨cells, cur, T', hho, hb, hl', hpp⟩ := hR.heap.at_ hL
    rw [hcs] at hho; cases hho
    have hcur : c0 ≤ cur.size := by
     simp [World.shape?, hb] at hs
     omega
    by_cases hroom : len + l.length ≤ c0
    ·have hfit : len + (Lib.strCells ⟨l.toArray⟩).length ≤ cur.size := by
      rw [hsl]; omega
     have hf := Lib.run_firstCells_string (P := P) w 1 ⟨l.toArray⟩
     have hst := run_storeCells_at P b len T' (Lib.strCells ⟨l.toArray⟩) 0 cur w hb (by simpa using hfit) (Lib.strCells_oneCell _)
     rw [hsz] at hf
     simp only [Nat.add_zero] at hst
     have hrun : (Builtin.append_ #[t, u] ty #[a.eval x, a.eval y]).run P w =
       .ok (.slice (some ⟨b, 0, none⟩) (len + l.length) c0) (w.setRow b (cur.toList.take len ++ Lib.strCells ⟨l.toArray⟩ ++ cur.toList.drop (len + (Lib.strCells ⟨l.toArray⟩).length)).toArray) := by
      rw [e1, e2]
      simp [Builtin.append_, run_underlying ht, run_underlying hu, sizeOf, typeInfo, hi, hs1, Builtin.lenOf, hsz, hroom, hf, Addr.add_lit, hst]
     have hcs' : (cur.toList.take len ++ Lib.strCells ⟨l.toArray⟩ ++ cur.toList.drop (len + (Lib.strCells ⟨l.toArray⟩).length)).toArray.size = cur.size := by simp; omega
     refine ⟨.slice (some ⟨b, 0, none⟩) (len + l.length) c0, _, L, .inl (by rw [execOp_append]; simp only [Sem.run_bind, hrun, Result.andThen_ok, Sem.run_pure]),
      (hR.purged o).write (cells := (cs ++ bys l).map (purge o)) hL hb (cs' := (cur.toList.take len ++ Lib.strCells ⟨l.toArray⟩ ++ cur.toList.drop (len + (Lib.strCells ⟨l.toArray⟩).length)).toArray) hcs' (by simp [bys_len, hsl]; omega) (fun k dd v h1 h2 => ?_) (setRow_eq hb), ?_⟩
     ·simp only [List.getElem?_map, Option.map_eq_some_iff] at h1
      obtain ⟨d0, hd0, rfl⟩ := h1
      refine purge_V o ?_
      have hlt := (List.getElem?_eq_some_iff.1 hd0).1
      simp only [List.length_append, bys_len] at hlt
      have h2' : (cur.toList.take len ++ Lib.strCells ⟨l.toArray⟩ ++ cur.toList.drop (len + (Lib.strCells ⟨l.toArray⟩).length))[k]? = some v := by simpa using h2
      rw [List.getElem?_append_left (by simp [hsl]; omega)] at h2'
      rw [List.getElem?_append] at hd0 h2'
      have hlen2 : (cur.toList.take len).length = cs.length := by simp; omega
      rw [hlen2] at h2'
      by_cases hk : k < cs.length
      ·rw [if_pos hk] at hd0 h2'
       rw [List.getElem?_take, if_pos (by omega)] at h2'
       exact hpp k d0 v hd0 (by simpa using h2')
      ·rw [if_neg hk] at hd0 h2'
       exact strCells_bys l _ d0 v hd0 h2'
     ·refine .osl (T := T') (m := cur.size) hL hroom ?_ (by omega)
      rw [setRow_eq hb]
      have hblt := hR.heap.lt hL
      simp only [World.shape?]
      rw [Array.getElem?_setIfInBounds]
      simp only [if_true, hblt]
      simp only [hcs']
    ·have hr := Lib.run_append_grow_string (P := P) w t u ty e i z ht hu hi hz ⟨b, 0, none⟩ len c0 (cur.toList.take len) (by rw [hs1]; simp; omega) (fun j v hj => by
      rw [add_lit, Nat.zero_add, cell_of_row w b j cur T' (0, 0) hb]
      rw [List.getElem?_take] at hj
      split at hj
      ·simpa using hj
      ·cases hj) ⟨l.toArray⟩ (by rw [hsz]; omega) (by rw [hsz]; omega) (by rw [hb1, hsz]; exact growslice_fits (by omega) (by omega))
     rw [hsz, ← e1, ← e2] at hr
     have hr' : (Builtin.append_ #[t, u] ty #[a.eval x, a.eval y]).run P w = .ok (.slice (some ⟨w.heap.size, 0, none⟩) (len + l.length) (grownCap w (len + l.length) c0 e))
       (w.drew.alloc (.cells ((cur.toList.take len ++ Lib.strCells ⟨l.toArray⟩).toArray ++ Builtin.zeroCells z.cells (grownCap w (len + l.length) c0 e - (len + l.length))) e)) := by
      rw [hr]; simp
     have := snd_app_new (dst := dst) (pos := pos) (after := after) (guard := guard) hR hK t u e ⟨gk, gt⟩ x y i hzs' (cells := cs ++ bys l) (by rw [List.length_append, g3, bys_len, hs1, Nat.mul_one]) (by simp [bys_len, hsl]; omega) (grownCap_ge w _ _ _) (fun k dd v h1 h2 => ?_) hr'
     ·rw [hs1] at this
      exact this
     ·rw [List.getElem?_append] at h1 h2
      have hlen2 : (cur.toList.take len).length = cs.length := by simp; omega
      rw [hlen2] at h2
      by_cases hk : k < cs.length
      ·rw [if_pos hk] at h1 h2
       rw [List.getElem?_take, if_pos (by omega)] at h2
       exact hpp k dd v h1 (by simpa using h2)
      ·rw [if_neg hk] at h1 h2
       exact strCells_bys l _ dd v h1 h2
   ·have hcs0 : cs = [] := List.eq_nil_of_length_eq_zero (by omega)
    subst hcs0
    have hr := run_append_nil_string (P := P) w t u ty e i z ht hu hi hz ⟨l.toArray⟩ (by rw [hsz]; exact hmp) (by rw [hsz]; omega) (by rw [hsz, hb1]; omega)
    rw [hsz] at hr
    have e3 : (⟨l.toArray⟩ : ByteArray).data.map (fun b => Value.int .u8 b.toNat) = (Lib.strCells ⟨l.toArray⟩).toArray := by simp [Lib.strCells]
    rw [e3, ← e1, ← e2] at hr
    rw [Nat.zero_add, List.nil_append]
    have := snd_app_new (dst := dst) (pos := pos) (after := after) (guard := guard) hR hK t u e ⟨gk, gt⟩ x y i hzs' (cells := bys l) (by rw [bys_len, hs1, Nat.mul_one]) (by rw [hsl, bys_len]) (grownCap_ge w l.length 0 e) (fun k d v h1 h2 => strCells_bys l k d v h1 h2) hr
    rw [hs1] at this
    exact this
 ·cases he
theorem sParts_struct {fs : Array Field} {t : TypeId} {places : List (Nat × Nat)} (ht : P.underlying t = some (.struct fs)) (hp : fs.toList.mapM (fun f => (tSize P f.type).map fun n => (f.offset, n)) = some places)
  (zv : Value) (i : TypeInfo) (parts : List (Nat × Value)) (hi : P.info? t = some i) (hz : i.zero = some zv) : P.built t parts = Instr.fill (places[·]?) zv.cells parts := by
 have hp' : fs.toList.mapM (fun f => (P.info? f.type).map fun i => (f.offset, i.size)) = some places := by
  rw [← hp]
  congr 1
  funext f
  simp only [tSize, Option.map_map]
  rfl
 simp [Program.built, hi, ht, hz, hp']
theorem sParts_array {len : Nat} {e t : TypeId} {n : Nat} (ht : P.underlying t = some (.array len e)) (hn : tSize P e = some n)
  (zv : Value) (i : TypeInfo) (parts : List (Nat × Value)) (hi : P.info? t = some i) (hz : i.zero = some zv) : P.built t parts = Instr.fill (fun i => some (i * n, n)) zv.cells parts := by
 simp only [tSize, Option.map_eq_some_iff] at hn
 obtain ⟨j, hj, rfl⟩ := hn
 simp [Program.built, hi, ht, hz, hj]
theorem opE_sound (hE : EV vs ε w L (Av G.S L) a) (hR : R G L σ h a w) (op : Op) {p : DOp} (hs : sOp P vs own dst op = some p) (he : opE nb dst (ε) h p = some (d, ef)) :
  Snd P G σ h a w ⟨dst, op, ty, pos, after, guard⟩ d ef := by
 cases op with
 | move x => simp only [sOp, Option.some.injEq] at hs; subst hs; simp only [opE, Option.some.injEq] at he; cases he; exact snd_mv hE hR x (.inl rfl)
 | assign x => simp only [sOp, Option.some.injEq] at hs; subst hs; simp only [opE, Option.some.injEq] at he; cases he; exact snd_mv hE hR x (.inr rfl)
 | pick c x y => simp only [sOp, Option.some.injEq] at hs; subst hs; exact snd_pick nb hE hR c x y he
 | alloc e =>
  simp only [sOp, Option.map_eq_some_iff] at hs
  obtain ⟨z, hz, rfl⟩ := hs
  split at he
  ·exact snd_allocT nb hE hR e hz he
  ·exact snd_alloc nb hE hR e hz he
 | box e x =>
  simp only [sOp, Option.some.injEq] at hs
  split at hs
  ·subst hs; exact snd_boxi nb hE hR e x he
  ·subst hs; exact snd_box nb hE hR e x he
 | build t ps =>
  simp only [sOp] at hs
  split at hs
  ·rename_i fs ht
   split at hs
   ·rename_i places hp
    simp only [Option.bind_eq_some_iff, Option.map_eq_some_iff] at hs
    obtain ⟨z, hz, qs, hq, rfl⟩ := hs
    exact snd_build nb hE hR t ps hz hq (fun zv i parts => sParts_struct ht hp zv i parts) he
   ·cases hs
  ·rename_i len e ht
   simp only [Option.bind_eq_some_iff, Option.map_eq_some_iff] at hs
   obtain ⟨n, hn, z, hz, qs, hq, rfl⟩ := hs
   exact snd_build nb hE hR t ps hz hq (fun zv i parts => sParts_array ht hn zv i parts) he
  ·cases hs
 | buildSlice t len ps =>
  simp only [sOp] at hs
  split at hs
  ·rename_i e ht
   simp only [Option.bind_eq_some_iff] at hs
   obtain ⟨n, hn, z, hz, hs⟩ := hs
   split at hs
   ·cases hs
   ·rename_i hc
    rw [Option.map_eq_some_iff] at hs
    obtain ⟨qs, hq, hs⟩ := hs
    have hn0 : n ≠ 0 := fun e => hc (.inl e)
    have hsm : len * n ≤ 4096 := by
     rcases Nat.lt_or_ge 4096 (len * n) with e | e
     ·exact absurd (.inr e) hc
     ·exact e
    split at hs
    ·subst hs; exact snd_bsl' nb hE hR t e len ps ht hn hn0 hz hsm hq he
    ·subst hs; exact snd_bsl nb hE hR t e len ps ht hn hn0 hz hsm hq he
  ·cases hs
 | load t x =>
  simp only [sOp] at hs
  split at hs
  ·rename_i hA
   rw [Option.map_eq_some_iff] at hs
   obtain ⟨n, hn, hs⟩ := hs
   split at hs
   ·subst hs; exact snd_ldne nb hE hR t x n hA hn he
   ·split at hs
    ·subst hs; exact snd_ldnr nb hE hR t x n hA hn he
    ·subst hs; exact snd_ldn nb hE hR t x n hA hn he
  ·rename_i hA
   split at hs
   ·rename_i hu
    split at hs
    ·cases hs; exact snd_lde nb hE hR t x (by simpa using hA) hu he
    ·split at hs
     ·cases hs; exact snd_ldr nb hE hR t x (by simpa using hA) hu he
     ·cases hs; exact snd_ld nb hE hR t x (by simpa using hA) hu he
   ·cases hs
 | store t x y =>
  simp only [sOp, Option.map_eq_some_iff] at hs
  obtain ⟨n, hn, hs⟩ := hs
  split at hs
  ·rename_i e; subst e; subst hs; exact snd_st nb hE hR t x y hn he
  ·subst hs; exact snd_stn nb hE hR t x y hn he
 | nilCheck x => simp only [sOp, Option.some.injEq] at hs; subst hs; exact snd_nilc nb hE hR x he
 | binOp op t x y u =>
  have gen : ∀ {q : DOp}, some (DOp.bin op (sOpd vs x) (sOpd vs y)) = some q → opE nb dst (ε) h q = some (d, ef) → Snd P G σ h a w ⟨dst, .binOp op t x y u, ty, pos, after, guard⟩ d ef := by
   intro q hq hq2; cases hq; exact snd_bin nb hE hR op t u x y hq2
  have cmp : (op = .eql ∨ op = .neq) → (match P.underlying t with
    | some .bool => some (DOp.beq (op == .neq) (sOpd vs x) (sOpd vs y))
    | some (.int _) | some .string => some (.bin op (sOpd vs x) (sOpd vs y))
    | some (.slice _) => if isNilC y then some (.isnil (op == .neq) (sOpd vs x)) else none
    | some (.struct fs) => if P.stoodInHeld t || P.eqGuardType P.depth t then none else (eqOffs P fs.toList).map fun l => .eqs (op == .neq) l (sOpd vs x) (sOpd vs y)
    | _ => none) = some p → Snd P G σ h a w ⟨dst, .binOp op t x y u, ty, pos, after, guard⟩ d ef := by
   clear hs
   intro hop hs
   split at hs
   ·rename_i ht; cases hs; exact snd_beq nb hE hR op hop t u ht x y he
   ·exact gen hs he
   ·exact gen hs he
   ·rename_i e ht
    split at hs
    ·rename_i hy; cases hs; obtain rfl := isNilC_eq hy; exact snd_isnil nb hE hR op hop t u ht x he
    ·cases hs
   ·rename_i fs ht
    split at hs
    ·cases hs
    ·rename_i hc
     rw [Option.map_eq_some_iff] at hs
     obtain ⟨l, hl, rfl⟩ := hs
     simp only [Bool.or_eq_true, not_or, Bool.not_eq_true] at hc
     exact snd_eqs nb hE hR op hop t u ht hc.1 hc.2 hl x y he
   ·cases hs
  cases op <;> first | exact gen hs he | exact cmp (.inl rfl) hs | exact cmp (.inr rfl) hs
 | unOp op t x => simp only [sOp, Option.some.injEq] at hs; subst hs; exact snd_un nb hE hR op t x he
 | convert src tgt x =>
  simp only [sOp] at hs
  split at hs
  ·rename_i h1 h2; cases hs; exact snd_conv nb hE hR src tgt _ _ h1 h2 x he
  ·rename_i h1 h2; cases hs; exact snd_s2s nb hE hR src tgt h1 h2 x he
  ·rename_i h1 h2; cases hs; exact snd_s2s nb hE hR src tgt h1 h2 x he
  ·rename_i e h1 h2
   split at hs
   ·rename_i h3
    cases hs
    have h3' : P.underlying e = some (.int .u8) := by
     revert h3; cases hq : P.underlying e with
     | none => simp
     | some q => cases q <;> simp <;> (rename_i k; cases k <;> simp)
    exact snd_s2b nb hE hR src tgt e h1 h2 h3' x he
   ·cases hs
  ·rename_i e h1 h2
   split at hs
   ·rename_i h3
    cases hs
    have h3' : P.underlying e = some (.int .u8) := by
     revert h3; cases hq : P.underlying e with
     | none => simp
     | some q => cases q <;> simp <;> (rename_i k; cases k <;> simp)
    exact snd_b2s nb hE hR src tgt e h1 h2 h3' x he
   ·cases hs
  ·cases hs
 | makeSlice t l c =>
  simp only [sOp] at hs
  split at hs
  ·rename_i e ht
   simp only [Option.bind_eq_some_iff] at hs
   obtain ⟨i, hi, z, hz, hs⟩ := hs
   split at hs
   ·cases hs
   ·rename_i hc
    cases hs
    exact snd_mks nb hE hR t e l c ht hi hz (fun e => hc (.inl e)) (fun e => hc (.inr (.inl e))) (by
     rcases Nat.decEq z.length i.size with e | e
     ·exact absurd (.inr (.inr e)) hc
     ·exact e) he
  ·cases hs
 | slice t x lo hi mx =>
  simp only [sOp] at hs
  split at hs
  ·rename_i e ht
   simp only [Option.bind_eq_some_iff] at hs
   obtain ⟨n, hn, hs⟩ := hs
   split at hs
   ·cases hs
   ·rename_i hn0
    split at hs
    ·cases hs; exact snd_slc nb hE hR t e x lo hi ht hn hn0 he
    ·cases hi with
     | some hi => cases hs; exact snd_slc3 nb hE hR t e x lo hi _ ht hn hn0 he
     | none => cases hs
  ·rename_i ht
   split at hs
   ·cases hs
   ·rename_i hmx
    have : mx = none := by cases mx <;> simp_all
    subst this
    cases hs; exact snd_slcS nb hE hR t x lo hi ht he
  ·cases hs
 | fieldAddr t x f =>
  simp only [sOp] at hs
  split at hs
  ·rename_i fs ht
   simp only [Option.bind_eq_some_iff] at hs
   obtain ⟨g, hg, n, hn, hs⟩ := hs
   split at hs
   ·cases hs
   ·rename_i hn0; cases hs; exact snd_fad nb hE hR t x f ht hg hn hn0 he
  ·cases hs
 | field t x f =>
  simp only [sOp] at hs
  split at hs
  ·rename_i fs ht
   simp only [Option.bind_eq_some_iff] at hs
   obtain ⟨g, hg, n, hn, hs⟩ := hs
   split at hs
   ·rename_i hA; cases hs; exact snd_fldn nb hE hR t x f n ht hg hA hn he
   ·rename_i hA
    split at hs
    ·rename_i hu; cases hs; exact snd_fld nb hE hR t x f ht hg (by simpa using hA) hu he
    ·cases hs
  ·cases hs
 | indexAddr t x i =>
  simp only [sOp] at hs
  split at hs
  ·rename_i e ht
   simp only [Option.bind_eq_some_iff] at hs
   obtain ⟨n, hn, hs⟩ := hs
   split at hs
   ·cases hs
   ·rename_i hn0; cases hs; exact snd_iad nb hE hR t x i ht hn hn0 he
  ·rename_i len e ht
   simp only [Option.bind_eq_some_iff] at hs
   obtain ⟨n, hn, hs⟩ := hs
   split at hs
   ·cases hs
   ·cases hs; exact snd_iaa nb hE hR t x i ht hn he
  ·cases hs
 | index t x i =>
  simp only [sOp] at hs
  split at hs
  ·rename_i ht; cases hs; exact snd_idx nb hE hR t x i ht he
  ·cases hs
 | extract x i => simp only [sOp, Option.some.injEq] at hs; subst hs; exact snd_ext nb hE hR x i he
 | makeInterface t x =>
  simp only [sOp] at hs
  split at hs
  ·cases hs
  ·cases hs
  ·rename_i u hu1 hu2
   cases hs
   exact snd_mki nb hE hR t hu2 (fun ms e => hu1 ms e) x he
 | panic x => simp only [sOp, Option.some.injEq] at hs; subst hs; simp [opE] at he
 | makeFunc fn first caps =>
  cases fn with
  | func f =>
   simp only [sOp] at hs
   split at hs
   ·rename_i h0
    cases hs
    have : first = #[] := Array.eq_empty_of_size_eq_zero h0
    subst this
    exact snd_mkf nb hE hR f caps he
   ·cases hs
  | _ => simp [sOp] at hs
 | call c =>
  obtain ⟨callee, args, argTypes⟩ := c
  have one : ∀ {α : Type} {xs : Array α} {x : α}, xs.toList = [x] → xs = #[x] := fun e => Array.ext' e
  have two : ∀ {α : Type} {xs : Array α} {x y : α}, xs.toList = [x, y] → xs = #[x, y] := fun e => Array.ext' e
  cases callee with
  | value f =>
   cases f with
   | func f =>
    simp only [sOp] at hs
    split at hs
    ·split at hs
     ·cases hs; simp [opE] at he
     ·cases hs
    ·cases hs
   | tmp k => simp only [sOp, Option.some.injEq] at hs; subst hs; simp [opE] at he
   | _ => simp [sOp] at hs
  | invoke r m => simp [sOp] at hs
  | builtin b =>
   cases b with
   | len =>
    simp only [sOp] at hs
    split at hs
    ·rename_i x t hargs hts
     obtain rfl := one hargs
     obtain rfl := one hts
     split at hs
     ·rename_i ht; cases hs; exact snd_len_str nb hE hR t x ht he
     ·rename_i e ht
      simp only [Option.bind_eq_some_iff] at hs
      obtain ⟨n, hn, hs⟩ := hs
      split at hs
      ·cases hs
      ·rename_i hn0; cases hs; exact snd_len_slice nb hE hR t x ht hn0 he
     ·cases hs
    ·cases hs
   | append =>
    simp only [sOp] at hs
    split at hs
    ·rename_i x y t u hargs hts
     obtain rfl := two hargs
     obtain rfl := two hts
     split at hs
     ·rename_i e e' ht hu
      split at hs
      ·rename_i htu
       subst htu
       simp only [Option.bind_eq_some_iff] at hs
       obtain ⟨i, hi, hs⟩ := hs
       split at hs
       ·cases hs
       ·rename_i hc
        cases hs
        have hz : i.zero.map (·.cells.size) = some i.size := by
         by_cases e : i.zero.map (·.cells.size) = some i.size
         ·exact e
         ·exact absurd (.inr e) hc
        rw [Option.map_eq_some_iff] at hz
        obtain ⟨z, hz, hzs⟩ := hz
        split at he
        ·rename_i hown
         rw [Bool.and_eq_true] at hown
         obtain rfl := isNilC_eq hown.2
         exact snd_appi nb hE hR t e y ht hi hz hzs (fun e => hc (.inl e)) he
        ·exact snd_app nb hE hR t e x y ht hi hz hzs (fun e => hc (.inl e)) he
      ·cases hs
     ·rename_i e ht hu
      simp only [Option.bind_eq_some_iff] at hs
      obtain ⟨i, hi, hs⟩ := hs
      split at hs
      ·rename_i hc
       cases hs
       obtain ⟨c1, c2, c3⟩ := hc
       rw [Option.map_eq_some_iff] at c3
       obtain ⟨z, hz, hzs⟩ := c3
       exact snd_apps nb hE hR t u e x y ht hu hi hz hzs c1 c2 he
      ·cases hs
     ·cases hs
    ·cases hs
   | clear =>
    simp only [sOp] at hs
    split at hs
    ·rename_i x t hargs hts
     obtain rfl := one hargs
     obtain rfl := one hts
     split at hs
     ·rename_i e ht
      simp only [Option.bind_eq_some_iff] at hs
      obtain ⟨i, hi, z, hz, hs⟩ := hs
      split at hs
      ·cases hs
      ·rename_i hc
       cases hs
       refine snd_clr nb hE hR t e x ht hi hz (fun e => hc (.inl e)) ?_ ?_ he
       ·rcases Nat.decEq z.length i.size with e | e
        ·exact absurd (.inr (.inl e)) hc
        ·exact e
       ·intro d hd
        have h3 : z.all DV.one = true := by
         cases hq : z.all DV.one with
         | true => rfl
         | false => exact absurd (.inr (.inr hq)) hc
        exact List.all_eq_true.1 h3 d hd
     ·cases hs
    ·cases hs
   | min =>
    simp only [sOp] at hs
    split at hs
    ·rename_i x y hargs
     obtain rfl := two hargs
     cases hs
     exact snd_min2 nb hE hR x y argTypes he
    ·cases hs
   | max =>
    simp only [sOp] at hs
    split at hs
    ·rename_i x y hargs
     obtain rfl := two hargs
     cases hs
     exact snd_max2 nb hE hR x y argTypes he
    ·cases hs
   | _ => simp [sOp] at hs
 | _ => simp [sOp] at hs
end
end Go.Dat
namespace Go.Dat
open Go
abbrev Fr := List (Nat × DV)
abbrev Hp := List (Nat × List DV)
def lk : Fr → Nat → DV
 | [], _ => .undef
 | (k, d) :: r, s => if k = s then d else lk r s
def lkH : Hp → Nat → Option (List DV)
 | [], _ => none
 | (k, d) :: r, s => if k = s then some d else lkH r s
def setF : Fr → Nat → DV → Fr
 | [], k, d => [(k, d)]
 | (j, e) :: r, k, d => if j = k then (k, d) :: r else if k < j then (k, d) :: (j, e) :: r else (j, e) :: setF r k d
def setH : Hp → Nat → List DV → Hp
 | [], k, d => [(k, d)]
 | (j, e) :: r, k, d => if j = k then (k, d) :: r else if k < j then (k, d) :: (j, e) :: r else (j, e) :: setH r k d
def mapF (f : DV → DV) : Fr → Fr
 | [] => []
 | (k, d) :: r => (k, f d) :: mapF f r
def mapH (f : DV → DV) : Hp → Hp
 | [] => []
 | (k, d) :: r => (k, d.map f) :: mapH f r
theorem lk_setF : ∀ (r : Fr) (k : Nat) (d : DV) (s : Nat), lk (setF r k d) s = if s = k then d else lk r s
 | [], k, d, s => by simp [setF, lk, eq_comm]
 | (j, e) :: r, k, d, s => by
  simp only [setF]
  by_cases h1 : j = k
  ·subst h1; simp only [if_true, lk]; by_cases h : j = s
   ·simp [h]
   ·simp [h, Ne.symm h]
  ·rw [if_neg h1]
   by_cases h2 : k < j
   ·rw [if_pos h2]; simp only [lk]
    by_cases h : k = s
    ·simp [h]
    ·simp [h, Ne.symm h]
   ·rw [if_neg h2]; simp only [lk, lk_setF r k d s]
    by_cases h : j = s
    ·subst h; simp [h1]
    ·simp [h]
theorem lkH_setH : ∀ (r : Hp) (k : Nat) (d : List DV) (s : Nat), lkH (setH r k d) s = if s = k then some d else lkH r s
 | [], k, d, s => by simp [setH, lkH, eq_comm]
 | (j, e) :: r, k, d, s => by
  simp only [setH]
  by_cases h1 : j = k
  ·subst h1; simp only [if_true, lkH]; by_cases h : j = s
   ·simp [h]
   ·simp [h, Ne.symm h]
  ·rw [if_neg h1]
   by_cases h2 : k < j
   ·rw [if_pos h2]; simp only [lkH]
    by_cases h : k = s
    ·simp [h]
    ·simp [h, Ne.symm h]
   ·rw [if_neg h2]; simp only [lkH, lkH_setH r k d s]
    by_cases h : j = s
    ·subst h; simp [h1]
    ·simp [h]
theorem lk_mapF (f : DV → DV) (hf : f .undef = .undef) : ∀ (r : Fr) (s : Nat), lk (mapF f r) s = f (lk r s)
 | [], s => by simp [mapF, lk, hf]
 | (k, d) :: r, s => by
  simp only [mapF, lk, lk_mapF f hf r s]
  split <;> rfl
theorem lkH_mapH (f : DV → DV) : ∀ (r : Hp) (s : Nat), lkH (mapH f r) s = (lkH r s).map (·.map f)
 | [], s => by simp [mapH, lkH]
 | (k, d) :: r, s => by
  simp only [mapH, lkH, lkH_mapH f r s]
  split <;> rfl
structure FnD where
 P : Program
 vs : List Nat
 own : List Nat
 n : Nat
 pure : Bool := false
def FnD.nb (_ : FnD) : Nat := 0
def den (vs : List Nat) (te fr : Fr) : Nat → DV := fun s => if vs.contains s then lk fr s else lk te s
def ev (te fr : Fr) : Opd → DV
 | .x k => lk fr k
 | .t k => lk te k
 | .c d => d
theorem ev_den (vs : List Nat) (te fr : Fr) (x : Operand) : ev te fr (sOpd vs x) = evS (den vs te fr) (sOpd vs x) := by
 cases x with
 | tmp k =>
  by_cases h : vs.contains k = true
  ·simp only [sOpd, h, if_true, ev, evS, den]
  ·have h' : vs.contains k = false := by simpa using h
   simp only [sOpd, h', Bool.false_eq_true, if_false, ev, evS, den]
 | _ => rfl
def Eff.onF : Eff → Fr → Fr
 | .app o _, r => mapF (purge o) r
 | _, r => r
def Eff.onL : Eff → Hp → Hp
 | .no, H => H
 | .set o c, H => setH H o c
 | .new o c, H => setH H o c
 | .app o c, H => setH (mapH (purge o) H) o c
theorem purge_undef (o : Nat) : purge o .undef = .undef := by simp [purge]
theorem den_onF (vs : List Nat) (ef : Eff) (te fr : Fr) : den vs (ef.onF te) (ef.onF fr) = ef.onS (den vs te fr) := by
 cases ef with
 | app o c =>
  funext s
  simp only [den, Eff.onF, Eff.onS, purgeS, lk_mapF _ (purge_undef o)]
  split <;> rfl
 | _ => rfl
theorem lkH_onL (ef : Eff) (H : Hp) : lkH (ef.onL H) = ef.onH (lkH H) := by
 cases ef with
 | no => rfl
 | set o c => funext s; simp only [Eff.onL, Eff.onH, Heap.upd, lkH_setH]
 | new o c => funext s; simp only [Eff.onL, Eff.onH, Heap.upd, lkH_setH]
 | app o c => funext s; simp only [Eff.onL, Eff.onH, Heap.upd, lkH_setH, lkH_mapH, Heap.purge]
def Dst.onT : Dst → Fr → DV → Fr
 | .t k, te, d => (k, d) :: te
 | _, te, _ => te
def Dst.onX : Dst → Fr → DV → Fr
 | .x k, fr, d => setF fr k d
 | _, fr, _ => fr
theorem den_put (vs : List Nat) (dst : Option Nat) (te fr : Fr) (d : DV) : den vs ((sDst vs dst).onT te d) ((sDst vs dst).onX fr d) = updS (den vs te fr) dst d := by
 cases dst with
 | none => rfl
 | some k =>
  funext s
  by_cases h : vs.contains k = true
  ·simp only [sDst, h, if_true, Dst.onT, Dst.onX, den, updS, lk_setF]
   by_cases hs : s = k
   ·subst hs; simp only [h, if_true]
   ·simp only [hs, if_false]
  ·have h' : vs.contains k = false := by simpa using h
   simp only [sDst, h', Bool.false_eq_true, if_false, Dst.onT, Dst.onX, den, updS, lk]
   by_cases hs : s = k
   ·subst hs; simp only [h', Bool.false_eq_true, if_false, if_true]
   ·simp only [hs, Ne.symm hs, if_false]
theorem sDst_slot (vs : List Nat) (dst : Option Nat) : (sDst vs dst).slot = dst := by
 cases dst with
 | none => rfl
 | some k => simp only [sDst]; split <;> rfl
def tabName : String := "internal/strconv.uint64pow10"
def maxName : String := "internal/bytealg.MaxLen"
def Tab (P : Program) (w : World) : Prop := (∀ g, P.globalNamed tabName = some g → g < w.heap.size ∧ Lib.TabIs P w tabName .u64 Lib.pow10Tab) ∧
 ∀ g, P.globalNamed maxName = some g → g < w.heap.size ∧ ∃ m, w.cell? ⟨g, 0, none⟩ = some (.int .i64 m)
def NotTab (P : Program) (b : Nat) : Prop := ∀ g, P.globalNamed tabName = some g ∨ P.globalNamed maxName = some g → b ≠ g
theorem Tab.ext {P : Program} {S : Nat → Prop} {w w' : World} (h : Tab P w) (hx : Ext S w w') (hS : ∀ b, S b → NotTab P b) : Tab P w' := by
 refine ⟨fun g hg => ?_, fun g hg => ?_⟩
 ·obtain ⟨h1, h2⟩ := h.1 g hg
  refine ⟨Nat.lt_of_lt_of_le h1 hx.size, ?_⟩
  unfold Lib.TabIs at h2 ⊢
  rw [← h2]
  simp only [World.var?, hg, Option.bind_some]
  rw [hx.block g h1 fun hs => hS g hs g (.inl hg) rfl]
 ·obtain ⟨h1, m, h2⟩ := h.2 g hg
  refine ⟨Nat.lt_of_lt_of_le h1 hx.size, m, ?_⟩
  rw [← h2]
  exact World.cell?_of_block (hx.block g h1 fun hs => hS g hs g (.inr hg) rfl)
theorem Tab.none {P : Program} (h : P.globalNamed tabName = none) (h2 : P.globalNamed maxName = none) (w : World) : Tab P w := ⟨fun g hg => (by rw [h] at hg; cases hg), fun g hg => (by rw [h2] at hg; cases hg)⟩
def Cx.ok (G : Cx) (P : Program) : Prop := Tab P G.w0 ∧ ∀ b, G.P b → NotTab P b
theorem Cx.ok.tab {G : Cx} {P : Program} (h : G.ok P) {L : Nat → Option Nat} {σ : Nat → DV} {hp : Heap} {a : Act} {w : World} (hR : R G L σ hp a w) : Tab P w := h.1.ext hR.ext h.2
theorem Cx.ok.own {G : Cx} {P : Program} (h : G.ok P) {L : Nat → Option Nat} {σ : Nat → DV} {hp : Heap} {a : Act} {w : World} (hR : R G L σ hp a w) {o b : Nat} (hL : L o = some b) : NotTab P b := by
 rcases hR.own o b hL with h1 | h1
 ·exact h.2 b h1
 ·rintro g (hg | hg) e
  ·have := (h.1.1 g hg).1
   omega
  ·have := (h.1.2 g hg).1
   omega
def PCalls (P : Program) (f : Nat) (args : List DV) (r : DV) : Prop :=
 ∀ (A : Nat → Prop) (w : World) (us : Array Value), Tab P w → (∀ b, A b → b < w.heap.size) → us.size = args.length → (∀ (k : Nat) d v, args[k]? = some d → us[k]? = some v → VI w A d v) →
  Calls P f us w fun e w' => ∃ v, e = .returned v ∧ VI w' A r v ∧ Ext (fun _ => False) w w'
def DV.sim : DV → Bool
 | .int .. | .bool _ | .str _ => true
 | _ => false
def SimK (σ σ' : Nat → DV) : Prop := ∀ s, (σ s).sim = true → σ' s = σ s
theorem SimK.refl (σ : Nat → DV) : SimK σ σ := fun _ _ => rfl
theorem SimK.trans {σ σ' σ'' : Nat → DV} (h : SimK σ σ') (k : SimK σ' σ'') : SimK σ σ'' := fun s hs => by
 have h1 := h s hs
 rw [k s (by rw [h1]; exact hs), h1]
theorem SimK.map {g : DV → DV} (hg : ∀ d : DV, d.sim = true → g d = d) (hu : g .undef = .undef) (vs : List Nat) (te fr : Fr) : SimK (den vs te fr) (den vs (mapF g te) (mapF g fr)) := fun s hs => by
 simp only [den, lk_mapF g hu] at hs ⊢
 by_cases hc : vs.contains s = true
 ·rw [if_pos hc] at hs ⊢; rw [if_pos hc]; exact hg _ hs
 ·rw [if_neg hc] at hs ⊢; rw [if_neg hc]; exact hg _ hs
def callW (P : Program) (vs : List Nat) (f : Nat) (ds : List DV) (te fr : Fr) (H : Hp) (K : DV → Fr → Fr → Hp → Prop) : Prop :=
 ∀ (G : Cx) (L : Nat → Option Nat) (a : Act) (w : World) (us : Array Value), G.ok P → R G L (den vs te fr) (lkH H) a w → us.size = ds.length →
  (∀ (k : Nat) d v, ds[k]? = some d → us[k]? = some v → V w L (Av G.S L) d v) →
  Calls P f us w fun e w' => ∃ v L' d te' fr' H', e = .returned v ∧ R G L' (den vs te' fr') (lkH H') a w' ∧ V w' L' (Av G.S L') d v ∧ SimK (den vs te fr) (den vs te' fr') ∧ K d te' fr' H'
theorem callW_pure {P : Program} {vs : List Nat} {f : Nat} {ds : List DV} {te fr : Fr} {H : Hp} {K : DV → Fr → Fr → Hp → Prop} {r : DV} (hc : PCalls P f ds r) (hrf : ds.all DV.rf = true) (hK : K r te fr H) :
  callW P vs f ds te fr H K := by
 intro G L a w us hG hR hs hv
 have hA : ∀ b, Av G.S L b → b < w.heap.size := by
  rintro b (h | ⟨o, h⟩)
  ·exact hR.sLt b h
  ·exact hR.heap.lt h
 refine (hc (Av G.S L) w us (hG.tab hR) hA hs fun k d v h1 h2 => (hv k d v h1 h2).rf_imm (List.all_eq_true.1 hrf d (List.mem_of_getElem? h1))).mono ?_
 rintro e w' ⟨v, rfl, hvi, hx⟩
 exact ⟨v, L, r, te, fr, H, rfl, hR.still hx, .imm hvi, SimK.refl _, hK⟩
def callR (F : FnD) (f : Nat) (ds : List DV) (te fr : Fr) (H : Hp) (K : DV → Fr → Fr → Hp → Prop) : Prop :=
 if F.pure then ∃ r, PCalls F.P f ds r ∧ ds.all DV.rf = true ∧ K r te fr H else callW F.P F.vs f ds te fr H K
theorem callR_pure {F : FnD} {f : Nat} {ds : List DV} {te fr : Fr} {H : Hp} {K : DV → Fr → Fr → Hp → Prop} {r : DV} (hc : PCalls F.P f ds r) (hrf : ds.all DV.rf = true) (hK : K r te fr H) :
  callR F f ds te fr H K := by
 unfold callR
 split
 ·exact ⟨r, hc, hrf, hK⟩
 ·exact callW_pure hc hrf hK
theorem callR_of {F : FnD} {f : Nat} {ds : List DV} {te fr : Fr} {H : Hp} {K : DV → Fr → Fr → Hp → Prop} (hF : F.pure = false) (h : callW F.P F.vs f ds te fr H K) : callR F f ds te fr H K := by
 unfold callR; rw [hF]; exact h
theorem callR_W {F : FnD} {f : Nat} {ds : List DV} {te fr : Fr} {H : Hp} {K : DV → Fr → Fr → Hp → Prop} (h : callR F f ds te fr H K) : callW F.P F.vs f ds te fr H K := by
 unfold callR at h
 split at h
 ·obtain ⟨r, h1, h2, h3⟩ := h; exact callW_pure h1 h2 h3
 ·exact h
def OW {α : Type} (x : Option α) (K : α → Prop) : Prop := ∃ a, x = some a ∧ K a
theorem OW_gd {α : Type} (c : Prop) (x : Option α) (K : α → Prop) : OW (gd c x) K ↔ c ∧ OW x K := by
 unfold OW gd
 by_cases h : c <;> simp [h]
def regW (F : FnD) : List DOper → Fr → Fr → Hp → (Fr → Fr → Hp → Prop) → Prop
 | [], te, fr, H, K => K te fr H
 | o :: os, te, fr, H, K =>
  let skip := regW F os (o.dst.onT te (.tup [])) (o.dst.onX fr (.tup [])) H K
  let go := match o.op with
   | .call f args => callR F f (args.map (ev te fr)) te fr H fun d te' fr' H' => regW F os (o.dst.onT te' d) (o.dst.onX fr' d) H' K
   | p => OW (opE F.nb o.dst.slot (ev te fr) (lkH H) p) fun r => regW F os (o.dst.onT (r.2.onF te) r.1) (o.dst.onX (r.2.onF fr) r.1) (r.2.onL H) K
  match o.guard with
  | none => go
  | some (g, want) => match ev te fr g with
   | .bool b => (b = want → go) ∧ (b = !want → skip)
   | .tup [] => skip
   | _ => False
section
variable {F : FnD} {G : Cx} {L : Nat → Option Nat} {a : Act} {w : World} {h : Heap}
theorem getD_ne {l : Array Value} {k : Nat} {v : Value} (h : l.getD k undef = v) (hv : v ≠ undef) : l[k]? = some v := by
 rw [Array.getD_eq_getD_getElem?] at h
 cases hk : l[k]? with
 | none => rw [hk] at h; exact absurd h.symm hv
 | some u => rw [hk] at h; exact congrArg some h
theorem wanted_bool {ops : Array Oper} {o : Oper} {g : Opd} {want b : Bool} {te fr : Fr} (hR : R G L (den F.vs te fr) h a w) (hg : sGuard F.vs ops o.guard = some (some (g, want))) (hb : ev te fr g = .bool b) :
  Region.wanted o (yielded ops a.tmps) = (b == want) := by
 cases hgd : o.guard with
 | none => rw [hgd] at hg; simp [sGuard] at hg
 | some p =>
  obtain ⟨j, w0⟩ := p
  rw [hgd] at hg
  simp only [sGuard, Option.map_eq_some_iff] at hg
  obtain ⟨k, hk, hg⟩ := hg
  cases hg
  rw [ev_den] at hb
  have hv := hR.slots k
  have hs : den F.vs te fr k = .bool b := by
   by_cases hc : F.vs.contains k = true
   ·simpa only [sOpd, hc, if_true, evS] using hb
   ·have hc' : F.vs.contains k = false := by simpa using hc
    simpa only [sOpd, hc', Bool.false_eq_true, if_false, evS] using hb
  rw [hs] at hv
  have h1 := getD_ne hv.inv_bool (by simp [undef])
  simp [Region.wanted, hgd, yielded, hk, h1]
end
end Go.Dat
namespace Go.Dat
open Go
section
variable {F : FnD} {G : Cx} {L : Nat → Option Nat} {a : Act} {w : World} {h : Heap}
theorem wanted_skip {ops : Array Oper} {o : Oper} {g : Opd} {want : Bool} {te fr : Fr} (hR : R G L (den F.vs te fr) h a w) (hg : sGuard F.vs ops o.guard = some (some (g, want))) (hb : ev te fr g = .tup []) :
  Region.wanted o (yielded ops a.tmps) = false := by
 cases hgd : o.guard with
 | none => rw [hgd] at hg; simp [sGuard] at hg
 | some p =>
  obtain ⟨j, w0⟩ := p
  rw [hgd] at hg
  simp only [sGuard, Option.map_eq_some_iff] at hg
  obtain ⟨k, hk, hg⟩ := hg
  cases hg
  rw [ev_den] at hb
  have hv := hR.slots k
  have hs : den F.vs te fr k = .tup [] := by
   by_cases hc : F.vs.contains k = true
   ·simpa only [sOpd, hc, if_true, evS] using hb
   ·have hc' : F.vs.contains k = false := by simpa using hc
    simpa only [sOpd, hc', Bool.false_eq_true, if_false, evS] using hb
  rw [hs] at hv
  obtain ⟨us, hu, hl, _⟩ := hv.inv_tup
  have : us = #[] := Array.eq_empty_of_size_eq_zero (by simpa using hl.symm)
  subst this
  have hy : yielded ops a.tmps j = none := by
   simp only [yielded, hk, Option.bind_some]
   rw [Array.getD_eq_getD_getElem?] at hu
   cases hq : a.tmps[k]? with
   | none => rfl
   | some v => rw [hq] at hu; simp only [Option.getD_some] at hu; rw [hu]
  simp [Region.wanted, hgd, hy]
theorem wanted_none {ops : Array Oper} {o : Oper} (tmps : Array Value) (hg : sGuard F.vs ops o.guard = some none) : Region.wanted o (yielded ops tmps) = true := by
 cases hgd : o.guard with
 | none => simp [Region.wanted, hgd]
 | some p =>
  obtain ⟨j, w0⟩ := p
  rw [hgd] at hg
  simp only [sGuard, Option.map_eq_some_iff] at hg
  obtain ⟨k, _, hk⟩ := hg
  cases hk
theorem dst_lt {n : Nat} {dst : Option Nat} (h : dOk n dst = true) : ∀ k, dst = some k → k < n := by
 rintro k rfl; simpa [dOk] using h
theorem V_undef {A : Nat → Prop} : V w L A (.tup []) undef := .imm (.tup rfl fun k d v h => by simp at h)
theorem sOp_nocall {P : Program} {vs own : List Nat} {dst : Option Nat} {op : Op} {f : Nat} {args : List Opd} (hop : ∀ c, op ≠ .call c) (h : sOp P vs own dst op = some (.call f args)) : False := by
 cases op with
 | call c => exact hop c rfl
 | binOp op t x y u => cases op <;> simp only [sOp] at h <;> (repeat' split at h) <;> first | (cases h; done) | (rw [Option.map_eq_some_iff] at h; obtain ⟨_, _, h⟩ := h; cases h)
 | build t ps =>
  simp only [sOp] at h
  repeat' split at h
  all_goals first | cases h | (simp only [Option.bind_eq_some_iff, Option.map_eq_some_iff] at h; obtain ⟨_, _, _, _, h⟩ := h; cases h; done) | (simp only [Option.bind_eq_some_iff, Option.map_eq_some_iff] at h; obtain ⟨_, _, _, _, _, _, h⟩ := h; cases h; done)
 | buildSlice t len ps =>
  simp only [sOp] at h
  split at h
  ·simp only [Option.bind_eq_some_iff] at h
   obtain ⟨n, _, z, _, h⟩ := h
   split at h
   ·cases h
   ·rw [Option.map_eq_some_iff] at h
    obtain ⟨_, _, h⟩ := h
    split at h <;> cases h
  ·cases h
 | makeFunc fn first caps =>
  cases fn with
  | func f =>
   simp only [sOp] at h
   split at h <;> cases h
  | _ => simp [sOp] at h
 | slice t x lo hi mx =>
  simp only [sOp] at h
  split at h
  ·simp only [Option.bind_eq_some_iff] at h
   obtain ⟨n, _, h⟩ := h
   split at h
   ·cases h
   ·split at h
    ·cases h
    ·rw [Option.map_eq_some_iff] at h; obtain ⟨_, _, h⟩ := h; cases h
  ·split at h <;> cases h
  ·cases h
 | load t x =>
  simp only [sOp] at h
  split at h
  ·simp only [Option.map_eq_some_iff] at h
   obtain ⟨n, _, h⟩ := h
   (repeat' split at h) <;> cases h
  ·(repeat' split at h) <;> cases h
 | box e x =>
  simp only [sOp, Option.some.injEq] at h
  split at h <;> cases h
 | _ =>
  simp only [sOp] at h
  repeat' split at h
  all_goals first
   | cases h
   | (simp only [Option.map_eq_some_iff] at h; obtain ⟨_, _, h⟩ := h; cases h)
   | (simp only [Option.map_eq_some_iff] at h; obtain ⟨_, _, h⟩ := h; split at h <;> cases h)
   | (simp only [Option.bind_eq_some_iff] at h; obtain ⟨_, _, h⟩ := h; split at h <;> cases h; done)
   | (simp only [Option.bind_eq_some_iff] at h; obtain ⟨_, _, _, _, h⟩ := h; (repeat' split at h) <;> cases h; done)
   | (simp only [Option.bind_eq_some_iff] at h; obtain ⟨_, _, h⟩ := h; split at h <;> (simp only [Option.bind_eq_some_iff] at h; obtain ⟨_, _, h⟩ := h; (repeat' split at h) <;> cases h))
theorem oper_sound {o : Oper} {ops : Array Oper} {dp : DOper} {te fr : Fr} {H : Hp} {K : Act → World → Prop} {Q : Exit → Act → World → Prop} {Kd : Fr → Fr → Hp → Prop}
  (hs : sOper F.P F.vs F.own F.n ops o = some dp) (hn : G.n = F.n ∧ G.ok F.P) (hR : R G L (den F.vs te fr) (lkH H) a w)
  (hK : ∀ te fr H L a w, R G L (den F.vs te fr) (lkH H) a w → Kd te fr H → K a w)
  (hgo : match dp.op with
   | .call f args => callR F f (args.map (ev te fr)) te fr H fun d te' fr' H' => Kd (dp.dst.onT te' d) (dp.dst.onX fr' d) H'
   | p => OW (opE F.nb dp.dst.slot (ev te fr) (lkH H) p) fun r => Kd (dp.dst.onT (r.2.onF te) r.1) (dp.dst.onX (r.2.onF fr) r.1) (r.2.onL H)) : o.wp F.P a w K Q := by
 obtain ⟨dst, op, ty, pos, after, guard⟩ := o
 simp only [sOper, Option.bind_eq_some_iff] at hs
 obtain ⟨p, hp, g, hg, hs⟩ := hs
 split at hs
 ·rename_i hd
  cases hs
  have hdl := dst_lt hd
  have hE : EV F.vs (ev te fr) w L (Av G.S L) a := fun x => by rw [ev_den]; exact ev_V hR x
  have plain : OW (opE F.nb (sDst F.vs dst).slot (ev te fr) (lkH H) p) (fun r => Kd ((sDst F.vs dst).onT (r.2.onF te) r.1) ((sDst F.vs dst).onX (r.2.onF fr) r.1) (r.2.onL H)) →
    Oper.wp F.P ⟨dst, op, ty, pos, after, guard⟩ a w K Q := by
   rintro ⟨⟨d, ef⟩, he, hKd⟩
   rw [sDst_slot] at he
   obtain ⟨v, w', L', hr, hR', hv⟩ := opE_sound (P := F.P) F.nb (ty := ty) (pos := pos) (after := after) (guard := guard) hE hR op hp he
   have hput := hR'.put hv (by rw [hn.1]; exact hdl)
   rw [← den_onF, ← den_put, ← lkH_onL] at hput
   have := hK _ _ _ _ _ _ hput hKd
   unfold Oper.wp
   rcases hr with hr | ⟨hr, rfl⟩
   ·rw [hr]; exact this
   ·rw [hr]; exact this
  cases p with
  | call f args =>
   simp only at hgo
   -- the operation is a call of a function that has a body
   have hc : ∃ c fn, op = .call c ∧ c.callee = .value (.func f) ∧ F.P.funcs[f]? = some fn ∧ fn.body.isSome = true ∧ (fn.name != "runtime.NumGoroutine") = true ∧ args = c.args.toList.map (sOpd F.vs) := by
    cases op with
    | call c =>
     obtain ⟨callee, cargs, argTypes⟩ := c
     cases callee with
     | value q =>
      cases q with
      | func f' =>
       simp only [sOp] at hp
       split at hp
       ·rename_i fn hfn
        split at hp
        ·rename_i hcond
         cases hp
         simp only [Bool.and_eq_true] at hcond
         exact ⟨_, fn, rfl, rfl, hfn, hcond.1, hcond.2, rfl⟩
        ·cases hp
       ·cases hp
      | _ => simp [sOp] at hp
     | invoke r m => simp [sOp] at hp
     | builtin b =>
      exfalso
      cases b <;> simp only [sOp] at hp <;> (repeat' split at hp) <;> first | (cases hp; done) | (simp [Option.bind_eq_some_iff] at hp; done) | (simp only [Option.bind_eq_some_iff] at hp; obtain ⟨_, _, hp⟩ := hp; split at hp <;> cases hp) 
    | _ =>
     exfalso
     exact sOp_nocall (by intro c e; cases e) hp
   obtain ⟨c, fn, rfl, hcal, hfn, hbody, hname, rfl⟩ := hc
   obtain ⟨callee, cargs, argTypes⟩ := c
   simp only at hcal hgo
   subst hcal
   have hcall := callR_W hgo G L a w (cargs.map a.eval) hn.2 hR (by simp) (fun k d v h1 h2 => by
    simp only [List.map_map, List.getElem?_map, Array.getElem?_toList, Option.map_eq_some_iff] at h1
    simp only [Array.getElem?_map, Option.map_eq_some_iff] at h2
    obtain ⟨x, hx, rfl⟩ := h1
    obtain ⟨y, hy, rfl⟩ := h2
    rw [hx] at hy; cases hy
    exact hE x)
   have hr : (execOp a.eval ⟨dst, .call { callee := .value (.func f), args := cargs, argTypes := argTypes }, ty, pos, after, guard⟩).run F.P w = .ok (.enter f (cargs.map a.eval)) w := by
    have hb : ¬ fn.body = none := by intro e; rw [e] at hbody; cases hbody
    have hnm : ¬ fn.name = "runtime.NumGoroutine" := by simpa using hname
    simp [execOp, resolve, Act.eval, Deferred.ofValue, invoke, callFunc, hfn, hnm, hb]
   unfold Oper.wp
   rw [hr]
   refine hcall.mono ?_
   rintro e w' ⟨v, L', d, te', fr', H', rfl, hR', hv, _, hKd⟩
   have hput := hR'.put hv (by rw [hn.1]; exact hdl)
   rw [← den_put] at hput
   exact hK _ _ _ _ _ _ hput hKd
  | _ => exact plain hgo
 ·cases hs
theorem regW_sound {ops : Array Oper} {Q : Exit → Act → World → Prop} {Kd : Fr → Fr → Hp → Prop} (hn : G.n = F.n ∧ G.ok F.P)
  (hK : ∀ te fr H L a w, R G L (den F.vs te fr) (lkH H) a w → Kd te fr H → Q .normal a w) :
  ∀ (l : List Oper) (ds : List DOper), sOpers F.P F.vs F.own F.n ops l = some ds → ∀ (te fr : Fr) (H : Hp) (L : Nat → Option Nat) (a : Act) (w : World),
   R G L (den F.vs te fr) (lkH H) a w → regW F ds te fr H Kd → wpList F.P ops Q l a w
 | [], ds, hs, te, fr, H, L, a, w, hR, hW => by
  simp only [sOpers, Option.some.injEq] at hs
  subst hs
  exact hK _ _ _ _ _ _ hR hW
 | o :: l, ds, hs, te, fr, H, L, a, w, hR, hW => by
  simp only [sOpers, Option.bind_eq_some_iff, Option.map_eq_some_iff] at hs
  obtain ⟨dp, hdp, ds', hds', rfl⟩ := hs
  have ih := regW_sound hn hK l ds' hds'
  have hgd : sGuard F.vs ops o.guard = some dp.guard ∧ dp.dst = sDst F.vs o.dst ∧ ∀ k, o.dst = some k → k < F.n := by
   simp only [sOper, Option.bind_eq_some_iff] at hdp
   obtain ⟨p, hp, g, hg, hs⟩ := hdp
   split at hs
   ·rename_i hd; cases hs; exact ⟨hg, rfl, dst_lt hd⟩
   ·cases hs
  obtain ⟨hg, hdst, hdl⟩ := hgd
  have hskip : Region.wanted o (yielded ops a.tmps) = false → regW F ds' (dp.dst.onT te (.tup [])) (dp.dst.onX fr (.tup [])) H Kd → wpList F.P ops Q (o :: l) a w := by
   intro hw hW'
   have hput := hR.put (V_undef) (dst := o.dst) (by rw [hn.1]; exact hdl)
   rw [← den_put, ← hdst] at hput
   simp only [wpList, hw]
   exact ih _ _ _ _ _ _ hput hW'
  have hgo : Region.wanted o (yielded ops a.tmps) = true → (match dp.op with
   | .call f args => callR F f (args.map (ev te fr)) te fr H fun d te' fr' H' => regW F ds' (dp.dst.onT te' d) (dp.dst.onX fr' d) H' Kd
   | p => OW (opE F.nb dp.dst.slot (ev te fr) (lkH H) p) fun r => regW F ds' (dp.dst.onT (r.2.onF te) r.1) (dp.dst.onX (r.2.onF fr) r.1) (r.2.onL H) Kd) → wpList F.P ops Q (o :: l) a w := by
   intro hw hg'
   simp only [wpList, hw, if_true]
   exact .inl (oper_sound (Kd := fun te fr H => regW F ds' te fr H Kd) hdp hn hR (fun te fr H L a w hR' hk => ih te fr H L a w hR' hk) hg')
  simp only [regW] at hW
  cases hgu : dp.guard with
  | none =>
   rw [hgu] at hg hW
   exact hgo (wanted_none _ hg) hW
  | some p =>
   obtain ⟨g, want⟩ := p
   rw [hgu] at hg hW
   simp only at hW
   split at hW
   ·rename_i b hb
    have hwn := wanted_bool hR hg hb
    by_cases hbw : b = want
    ·exact hgo (by rw [hwn]; simp [hbw]) (hW.1 hbw)
    ·exact hskip (by rw [hwn]; simp [hbw]) (hW.2 (by cases b <;> cases want <;> simp_all))
   ·rename_i hb
    exact hskip (wanted_skip hR hg hb) hW
   ·exact hW.elim
end
end Go.Dat
