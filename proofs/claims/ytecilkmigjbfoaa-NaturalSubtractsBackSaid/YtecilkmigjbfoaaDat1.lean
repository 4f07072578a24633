/- The data level: what Go values mean as data, and how that reading stays while the world grows. Over any program. -/
import Derived.WalkKit
set_option linter.unusedSimpArgs false
set_option linter.unusedVariables false
namespace Go.Dat
open Go

/-- Data: a value as the prover speaks of it. 'sl': a slice that nobody writes (its cells); 'osl', 'ptr': a slice of, a pointer into an object of the call's own. -/
inductive DV where
  | undef
  | int (k : IntKind) (n : Int)
  | bool (b : Bool)
  | str (l : List UInt8)
  | nilp
  | nils
  | nili
  | fn (f : Nat)
  | sl (sz : Nat) (xs : List DV)
  | el (xs : List DV) (i : Nat)
  | osl (sz o off len : Nat)
  | ptr (o off : Nat)
  | agg (cs : List DV)
  | tup (vs : List DV)
  | iface (t : Nat) (d : DV)
  deriving Inhabited

theorem add_block (a : Addr) (n : Nat) : (a.add n).block = a.block := by unfold Addr.add; split <;> rfl
theorem add_add (a : Addr) (i j : Nat) : (a.add i).add j = a.add (i + j) := by
  unfold Addr.add
  by_cases hi : i = 0 <;> by_cases hj : j = 0 <;> simp [hi, hj, Nat.add_assoc]
theorem add_lit (b off k : Nat) : (⟨b, off, none⟩ : Addr).add k = ⟨b, off + k, none⟩ := by
  unfold Addr.add
  by_cases hk : k = 0 <;> simp [hk]

/-- Immutable data: the blocks that the reading touches are none of 'A'. -/
inductive VI (w : World) (A : Nat → Prop) : DV → Value → Prop where
  | undef (v : Value) : VI w A .undef v
  | int (k : IntKind) (n : Int) : VI w A (.int k n) (.int k n)
  | bool (b : Bool) : VI w A (.bool b) (.bool b)
  | str (l : List UInt8) : VI w A (.str l) (.string ⟨l.toArray⟩)
  | nilp : VI w A .nilp (.pointer none)
  | nils : VI w A .nils (.slice none 0 0)
  | nili : VI w A .nili .nilIface
  | fn (f : Nat) : VI w A (.fn f) (.func (.func f) #[] #[])
  | sl0 (sz : Nat) (a : Option Addr) (c : Nat) : VI w A (.sl sz []) (.slice a 0 c)
  | sl {sz : Nat} {xs : List DV} {n c : Nat} {ad : Addr} (vs : Nat → Value) (hx : xs ≠ []) (hn : xs.length = n * sz) (hc : n ≤ c) (hA : ¬ A ad.block)
      (hcell : ∀ k d, xs[k]? = some d → w.cell? (ad.add k) = some (vs k)) (hv : ∀ k d, xs[k]? = some d → VI w A d (vs k)) : VI w A (.sl sz xs) (.slice (some ad) n c)
  | el {xs : List DV} {i : Nat} {ad : Addr} (vs : Nat → Value) (hx : xs ≠ []) (hA : ¬ A ad.block)
      (hcell : ∀ k d, xs[k]? = some d → w.cell? (ad.add k) = some (vs k)) (hv : ∀ k d, xs[k]? = some d → VI w A d (vs k)) : VI w A (.el xs i) (.pointer (some (ad.add i)))
  | agg {cs : List DV} {vs : Array Value} (hl : cs.length = vs.size) (h : ∀ (k : Nat) d v, cs[k]? = some d → vs[k]? = some v → VI w A d v) : VI w A (.agg cs) (.agg vs)
  | tup {cs : List DV} {vs : Array Value} (hl : cs.length = vs.size) (h : ∀ (k : Nat) d v, cs[k]? = some d → vs[k]? = some v → VI w A d v) : VI w A (.tup cs) (.tuple vs)
  | iface {t : Nat} {d : DV} {v : Value} (h : VI w A d v) : VI w A (.iface t d) (.iface t v)

theorem block_lt {w : World} {a : Addr} {v : Value} (h : w.cell? a = some v) : a.block < w.heap.size := World.block_lt_of_cell? w a h

theorem VI.mono {w w' : World} {A A' : Nat → Prop} (h : ∀ b, b < w.heap.size → ¬ A b → w'.heap[b]? = w.heap[b]? ∧ ¬ A' b) {d : DV} {v : Value}
    (hv : VI w A d v) : VI w' A' d v := by
  have row : ∀ {xs : List DV} {ad : Addr} {vs : Nat → Value}, xs ≠ [] → ¬ A ad.block → (∀ k d, xs[k]? = some d → w.cell? (ad.add k) = some (vs k)) →
      ¬ A' ad.block ∧ ∀ k d, xs[k]? = some d → w'.cell? (ad.add k) = some (vs k) := by
    intro xs ad vs hx hA hc
    obtain ⟨x, xs, rfl⟩ := List.exists_cons_of_ne_nil hx
    have hlt : ad.block < w.heap.size := by
      have := block_lt (hc 0 x rfl)
      rwa [add_block] at this
    have hb := h _ hlt hA
    refine ⟨hb.2, fun k d hk => ?_⟩
    rw [World.cell?_of_block (w := w) (by rw [add_block]; exact hb.1)]
    exact hc k d hk
  induction hv with
  | undef v => exact .undef v
  | int k n => exact .int k n
  | bool b => exact .bool b
  | str l => exact .str l
  | nilp => exact .nilp
  | nils => exact .nils
  | nili => exact .nili
  | fn f => exact .fn f
  | sl0 sz a c => exact .sl0 sz a c
  | sl vs hx hn hc hA hcell _ ih => exact .sl vs hx hn hc (row hx hA hcell).1 (row hx hA hcell).2 ih
  | el vs hx hA hcell _ ih => exact .el vs hx (row hx hA hcell).1 (row hx hA hcell).2 ih
  | agg hl _ ih => exact .agg hl ih
  | tup hl _ ih => exact .tup hl ih
  | iface _ ih => exact .iface ih

/-- Data with the call's own objects in it: 'L' says which block an object is. -/
inductive V (w : World) (L : Nat → Option Nat) (A : Nat → Prop) : DV → Value → Prop where
  | imm {d : DV} {v : Value} (h : VI w A d v) : V w L A d v
  | ptr {o off b : Nat} (h : L o = some b) : V w L A (.ptr o off) (.pointer (some ⟨b, off, none⟩))
  | osl {sz o off n c b m : Nat} {T : TypeId} (hL : L o = some b) (hc : n ≤ c) (hs : w.shape? b = some (T, m)) (hm : off + c * sz ≤ m) :
      V w L A (.osl sz o off n) (.slice (some ⟨b, off, none⟩) n c)
  | osl0 (sz o off : Nat) : V w L A (.osl sz o off 0) (.slice none 0 0)
  | agg {cs : List DV} {vs : Array Value} (hl : cs.length = vs.size) (h : ∀ (k : Nat) d v, cs[k]? = some d → vs[k]? = some v → V w L A d v) : V w L A (.agg cs) (.agg vs)
  | tup {cs : List DV} {vs : Array Value} (hl : cs.length = vs.size) (h : ∀ (k : Nat) d v, cs[k]? = some d → vs[k]? = some v → V w L A d v) : V w L A (.tup cs) (.tuple vs)

mutual
/-- Does a datum name object 'o'? ('sl' and 'el' hold no objects.) -/
def DV.has (o : Nat) : DV → Bool
  | .ptr p _ => p == o
  | .osl _ p _ _ => p == o
  | .agg cs => DV.hasL o cs
  | .tup cs => DV.hasL o cs
  | _ => false
def DV.hasL (o : Nat) : List DV → Bool
  | [] => false
  | d :: r => d.has o || DV.hasL o r
end
mutual
/-- Free of objects. -/
def DV.rf : DV → Bool
  | .ptr _ _ => false
  | .osl _ _ _ _ => false
  | .agg cs => DV.rfL cs
  | .tup cs => DV.rfL cs
  | _ => true
def DV.rfL : List DV → Bool
  | [] => true
  | d :: r => d.rf && DV.rfL r
end

theorem DV.hasL_any (o : Nat) : ∀ cs : List DV, DV.hasL o cs = cs.any (·.has o)
  | [] => rfl
  | d :: r => by simp [DV.hasL, DV.hasL_any o r]
theorem DV.rfL_all : ∀ cs : List DV, DV.rfL cs = cs.all (·.rf)
  | [] => rfl
  | d :: r => by simp [DV.rfL, DV.rfL_all r]
theorem DV.has_agg (o : Nat) (cs : List DV) : (DV.agg cs).has o = cs.any (·.has o) := by rw [DV.has, DV.hasL_any]
theorem DV.has_tup (o : Nat) (cs : List DV) : (DV.tup cs).has o = cs.any (·.has o) := by rw [DV.has, DV.hasL_any]
theorem DV.rf_agg (cs : List DV) : (DV.agg cs).rf = cs.all (·.rf) := by rw [DV.rf, DV.rfL_all]
theorem DV.rf_tup (cs : List DV) : (DV.tup cs).rf = cs.all (·.rf) := by rw [DV.rf, DV.rfL_all]

theorem V.rf_imm {w : World} {L : Nat → Option Nat} {A : Nat → Prop} {d : DV} {v : Value} (h : V w L A d v) (hr : d.rf = true) : VI w A d v := by
  induction h with
  | imm h => exact h
  | ptr h => simp [DV.rf] at hr
  | osl => simp [DV.rf] at hr
  | osl0 => simp [DV.rf] at hr
  | agg hl _ ih =>
    rw [DV.rf_agg, List.all_eq_true] at hr
    exact .agg hl fun k d v hd hv => ih k d v hd hv (hr d (List.mem_of_getElem? hd))
  | tup hl _ ih =>
    rw [DV.rf_tup, List.all_eq_true] at hr
    exact .tup hl fun k d v hd hv => ih k d v hd hv (hr d (List.mem_of_getElem? hd))

/-- The general step: objects that 'd' names stay where they are, with the shape that they had. -/
theorem V.mono {w w' : World} {L L' : Nat → Option Nat} {A A' : Nat → Prop} {d : DV} {v : Value}
    (hA : ∀ b, b < w.heap.size → ¬ A b → w'.heap[b]? = w.heap[b]? ∧ ¬ A' b)
    (h : V w L A d v) (hL : ∀ o b, d.has o = true → L o = some b → L' o = some b ∧ w'.shape? b = w.shape? b) : V w' L' A' d v := by
  induction h with
  | imm h => exact .imm (h.mono hA)
  | ptr h => exact .ptr (hL _ _ (by simp [DV.has]) h).1
  | osl h hc hs hm =>
    obtain ⟨h1, h2⟩ := hL _ _ (by simp [DV.has]) h
    exact .osl h1 hc (h2.trans hs) hm
  | osl0 => exact .osl0 _ _ _
  | agg hl _ ih => exact .agg hl fun k d v hd hv => ih k d v hd hv fun o b ho => hL o b (by rw [DV.has_agg, List.any_eq_true]; exact ⟨d, List.mem_of_getElem? hd, ho⟩)
  | tup hl _ ih => exact .tup hl fun k d v hd hv => ih k d v hd hv fun o b ho => hL o b (by rw [DV.has_tup, List.any_eq_true]; exact ⟨d, List.mem_of_getElem? hd, ho⟩)

end Go.Dat
