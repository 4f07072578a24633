/- Each operation of the model does what 'opE' says. Over any program. -/
import Derived.Test.YtecilkmigjbfoaaDat3
set_option linter.unusedSimpArgs false
set_option linter.unusedVariables false
namespace Go.Dat
open Go

def evS (σ : Nat → DV) : Opd → DV
  | .x k => σ k
  | .t k => σ k
  | .c d => d

/-! ### What a value is, by its datum -/
section inv
variable {w : World} {L : Nat → Option Nat} {A : Nat → Prop} {v : Value}
theorem V.inv_int {k : IntKind} {n : Int} (h : V w L A (.int k n) v) : v = .int k n := by
  cases h with | imm h => cases h with | int => rfl
theorem V.inv_bool {b : Bool} (h : V w L A (.bool b) v) : v = .bool b := by
  cases h with | imm h => cases h with | bool => rfl
theorem V.inv_str {l : List UInt8} (h : V w L A (.str l) v) : v = .string ⟨l.toArray⟩ := by
  cases h with | imm h => cases h with | str => rfl
theorem V.inv_nils (h : V w L A .nils v) : v = .slice none 0 0 := by
  cases h with | imm h => cases h with | nils => rfl
theorem V.inv_tup {cs : List DV} (h : V w L A (.tup cs) v) : ∃ vs : Array Value, v = .tuple vs ∧ cs.length = vs.size ∧ ∀ (k : Nat) d v, cs[k]? = some d → vs[k]? = some v → V w L A d v := by
  cases h with
  | imm h => cases h with
    | tup hl h => exact ⟨_, rfl, hl, fun k d v h1 h2 => .imm (h k d v h1 h2)⟩
  | tup hl h => exact ⟨_, rfl, hl, h⟩
theorem V.inv_agg {cs : List DV} (h : V w L A (.agg cs) v) : ∃ vs : Array Value, v = .agg vs ∧ cs.length = vs.size ∧ ∀ (k : Nat) d v, cs[k]? = some d → vs[k]? = some v → V w L A d v := by
  cases h with
  | imm h => cases h with
    | agg hl h => exact ⟨_, rfl, hl, fun k d v h1 h2 => .imm (h k d v h1 h2)⟩
  | agg hl h => exact ⟨_, rfl, hl, h⟩
theorem V.inv_ptr {o off : Nat} (h : V w L A (.ptr o off) v) : ∃ b, L o = some b ∧ v = .pointer (some ⟨b, off, none⟩) := by
  cases h with
  | imm h => cases h
  | ptr h => exact ⟨_, h, rfl⟩
theorem V.inv_osl {sz o off n : Nat} (h : V w L A (.osl sz o off n) v) :
    (∃ b c T m, L o = some b ∧ v = .slice (some ⟨b, off, none⟩) n c ∧ n ≤ c ∧ w.shape? b = some (T, m) ∧ off + c * sz ≤ m) ∨ (n = 0 ∧ v = .slice none 0 0) := by
  cases h with
  | imm h => cases h
  | osl hL hc hs hm => exact .inl ⟨_, _, _, _, hL, rfl, hc, hs, hm⟩
  | osl0 => exact .inr ⟨rfl, rfl⟩
theorem V.inv_sl {sz : Nat} {xs : List DV} (h : V w L A (.sl sz xs) v) :
    (xs = [] ∧ ∃ a c, v = .slice a 0 c) ∨
    (xs ≠ [] ∧ ∃ (ad : Addr) (n c : Nat) (vs : Nat → Value), v = .slice (some ad) n c ∧ xs.length = n * sz ∧ n ≤ c ∧ ¬ A ad.block ∧
      (∀ k d, xs[k]? = some d → w.cell? (ad.add k) = some (vs k)) ∧ (∀ k d, xs[k]? = some d → VI w A d (vs k))) := by
  cases h with
  | imm h => cases h with
    | sl0 => exact .inl ⟨rfl, _, _, rfl⟩
    | sl vs hx hn hc hA hcell hv => exact .inr ⟨hx, _, _, _, vs, rfl, hn, hc, hA, hcell, hv⟩
theorem V.inv_el {xs : List DV} {i : Nat} (h : V w L A (.el xs i) v) :
    ∃ (ad : Addr) (vs : Nat → Value), v = .pointer (some (ad.add i)) ∧ xs ≠ [] ∧ ¬ A ad.block ∧
      (∀ k d, xs[k]? = some d → w.cell? (ad.add k) = some (vs k)) ∧ (∀ k d, xs[k]? = some d → VI w A d (vs k)) := by
  cases h with
  | imm h => cases h with
    | el vs hx hA hcell hv => exact ⟨_, vs, rfl, hx, hA, hcell, hv⟩
theorem VI.int' {k : IntKind} {n m : Int} (h : n = m) : VI w A (.int k n) (.int k m) := by subst h; exact .int _ _

/-- The cells of a datum are those of its value. -/
theorem V.cells {d : DV} {cs : List DV} (hc : d.cells? = some cs) (h : V w L A d v) :
    v.cells.size = cs.length ∧ (∀ (k : Nat) d v', cs[k]? = some d → v.cells[k]? = some v' → V w L A d v') ∧ ∀ d ∈ cs, d.one = true := by
  have key : ∀ (d : DV), d.one = true → V w L A d v → v.cells = #[v] := by
    intro d hd hv
    cases hv with
    | imm h => cases h <;> first | rfl | simp [DV.one] at hd
    | ptr => rfl
    | osl => rfl
    | osl0 => rfl
    | agg => simp [DV.one] at hd
    | tup => simp [DV.one] at hd
  have one : ∀ (d : DV), d.one = true → V w L A d v → v.cells.size = [d].length ∧ (∀ (k : Nat) e v', [d][k]? = some e → v.cells[k]? = some v' → V w L A e v') ∧ ∀ e ∈ [d], e.one = true := by
    intro d hd hv
    rw [key d hd hv]
    refine ⟨rfl, fun k e v' h1 h2 => ?_, fun e he => by simp at he; subst he; exact hd⟩
    cases k with
    | zero => simp at h1 h2; subst h1; subst h2; exact hv
    | succ k => simp at h1
  cases d with
  | agg ds =>
    simp only [DV.cells?] at hc
    split at hc
    · rename_i hall
      cases hc
      obtain ⟨vs, rfl, hl, hp⟩ := h.inv_agg
      exact ⟨hl.symm, hp, List.all_eq_true.1 hall⟩
    · cases hc
  | undef => simp [DV.cells?, DV.one] at hc
  | tup => simp [DV.cells?, DV.one] at hc
  | _ =>
    simp only [DV.cells?, DV.one, if_true, Option.some.injEq] at hc
    subst hc
    exact one _ rfl h
/-- A value of a datum of one cell is of one cell. -/
theorem V.oneCell {d : DV} (hd : d.one = true) (h : V w L A d v) : v.oneCell' = true := by
  cases h with
  | imm h => cases h <;> first | rfl | simp [DV.one] at hd
  | ptr => rfl
  | osl => rfl
  | osl0 => rfl
  | agg => simp [DV.one] at hd
  | tup => simp [DV.one] at hd
end inv

section
variable {P : Program} {G : Cx} {L : Nat → Option Nat} {σ : Nat → DV} {h : Heap} {a : Act} {w : World} {vs own : List Nat} {ε : Opd → DV}

theorem ev_V (hR : R G L σ h a w) (x : Operand) : V w L (Av G.S L) (evS σ (sOpd vs x)) (a.eval x) := by
  cases x with
  | tmp k =>
    have := hR.slots k
    by_cases hk : vs.contains k = true
    · simp only [sOpd, hk, if_true, evS, Act.eval]; exact this
    · simp only [sOpd, hk, evS, Act.eval]; exact this
  | const v => exact .imm (cv_VI _ _ v)
  | global g => exact .imm (.undef _)
  | func f => exact .imm (.fn f)

/-- What the operands read as. -/
def EV (vs : List Nat) (ε : Opd → DV) (w : World) (L : Nat → Option Nat) (A : Nat → Prop) (a : Act) : Prop := ∀ x : Operand, V w L A (ε (sOpd vs x)) (a.eval x)
/-- What is shown of an operation. -/
def Snd (P : Program) (G : Cx) (σ : Nat → DV) (h : Heap) (a : Act) (w : World) (o : Oper) (d : DV) (ef : Eff) : Prop :=
  ∃ v w' L', ((execOp a.eval o).run P w = .ok (.value v) w' ∨ ((execOp a.eval o).run P w = .ok .skip w' ∧ v = undef)) ∧
    R G L' (ef.onS σ) (ef.onH h) a w' ∧ V w' L' (Av G.S L') d v

theorem Snd.val {o : Oper} {d : DV} {v : Value} (hR : R G L σ h a w) (hr : (execOp a.eval o).run P w = .ok (.value v) w) (hv : V w L (Av G.S L) d v) : Snd P G σ h a w o d .no :=
  ⟨v, w, L, .inl hr, hR, hv⟩
theorem Snd.val' {o : Oper} {d : DV} {v : Value} {w' : World} (hR : R G L σ h a w) (hx : Ext (fun _ => False) w w') (hr : (execOp a.eval o).run P w = .ok (.value v) w') (hv : VI w' (Av G.S L) d v) : Snd P G σ h a w o d .no :=
  ⟨v, w', L, .inl hr, hR.still hx, .imm hv⟩

theorem Snd.new {o : Oper} {id : Nat} {T : TypeId} {cells : List DV} {cs : Array Value} {d : DV} {v : Value} (hR : R G L σ h a w) (ho : h id = none) (hl : cells.length ≤ cs.size)
    (hv : ∀ (k : Nat) d v, cells[k]? = some d → cs[k]? = some v → V w L (Av G.S L) d v)
    (hr : (execOp a.eval o).run P w = .ok (.value v) (w.alloc (.cells cs T)))
    (hd : V (w.alloc (.cells cs T)) (updL L id (some w.heap.size)) (Av G.S (updL L id (some w.heap.size))) d v) : Snd P G σ h a w o d (.new id cells) :=
  ⟨v, _, _, .inl hr, (hR.new ho T hl hv).1, hd⟩

theorem freshE_some {nb : Nat} {dst : Option Nat} {id : Nat} (h1 : freshE nb dst h = some id) : h id = none := by
  unfold freshE at h1
  cases dst with
  | none => cases h1
  | some k =>
    simp only [Option.bind_some] at h1
    split at h1
    · rename_i hn; cases h1; simpa using hn
    · cases h1

variable (nb : Nat) {d : DV} {ef : Eff} {dst : Option Nat} {ty : TypeId} {pos : String} {after : Array Edge} {guard : Option (Nat × Bool)}

theorem gd_some {α : Type} {c : Prop} {x : Option α} {y : α} (h : gd c x = some y) : c ∧ x = some y := by
  unfold gd at h
  split at h
  · exact ⟨‹_›, h⟩
  · cases h

theorem snd_mv (hE : EV vs ε w L (Av G.S L) a) (hR : R G L σ h a w) {op : Op} (x : Operand) (hop : op = .move x ∨ op = .assign x) : Snd P G σ h a w ⟨dst, op, ty, pos, after, guard⟩ (ε (sOpd vs x)) .no :=
  Snd.val hR (by rcases hop with rfl | rfl <;> rfl) (hE x)

theorem snd_pick (hE : EV vs ε w L (Av G.S L) a) (hR : R G L σ h a w) (c x y : Operand) (he : opE nb dst (ε) h (.pick (sOpd vs c) (sOpd vs x) (sOpd vs y)) = some (d, ef)) :
    Snd P G σ h a w ⟨dst, .pick c x y, ty, pos, after, guard⟩ d ef := by
  simp only [opE] at he
  split at he
  · rename_i t ht
    cases he
    have hc := hE c
    rw [ht] at hc
    have hc := hc.inv_bool
    refine Snd.val hR (v := if t then a.eval x else a.eval y) (by simp [execOp, asBool, hc]) ?_
    cases t
    · exact hE y
    · exact hE x
  · cases he

theorem snd_alloc (hE : EV vs ε w L (Av G.S L) a) (hR : R G L σ h a w) (e : TypeId) {z : List DV} (hz : tZero P e = some z) (he : opE nb dst (ε) h (.alloc z) = some (d, ef)) :
    Snd P G σ h a w ⟨dst, .alloc e, ty, pos, after, guard⟩ d ef := by
  simp only [opE, Option.map_eq_some_iff] at he
  obtain ⟨id, hid, he⟩ := he
  cases he
  simp only [tZero, Option.map_eq_some_iff, Option.bind_eq_some_iff] at hz
  obtain ⟨zv, ⟨i, hi, hzi⟩, rfl⟩ := hz
  refine Snd.new (T := e) (cs := zv.cells) (v := .pointer (some ⟨w.heap.size, 0, none⟩)) hR (freshE_some hid) (by simp) (fun k d v h1 h2 => ?_) ?_ (.ptr (by simp [updL]))
  · simp only [List.getElem?_map, Array.getElem?_toList, h2, Option.map_some, Option.some.injEq] at h1
    rw [← h1]
    exact .imm (cv1_VI _ _ _)
  · simp [execOp, Instr.alloc, zeroValue, typeInfo, hi, hzi, newVar, newRow]

theorem snd_box (hE : EV vs ε w L (Av G.S L) a) (hR : R G L σ h a w) (e : TypeId) (x : Operand) (he : opE nb dst (ε) h (.box (sOpd vs x)) = some (d, ef)) :
    Snd P G σ h a w ⟨dst, .box e x, ty, pos, after, guard⟩ d ef := by
  simp only [opE, Option.bind_eq_some_iff, Option.map_eq_some_iff] at he
  obtain ⟨cs, hcs, id, hid, he⟩ := he
  cases he
  obtain ⟨h1, h2, _⟩ := (hE x).cells hcs
  refine Snd.new (T := e) (cs := (a.eval x).cells) (v := .pointer (some ⟨w.heap.size, 0, none⟩)) hR (freshE_some hid) (by omega) h2 ?_ (.ptr (by simp [updL]))
  simp [execOp, Instr.box, newVar, newRow]

/-! ### Loads -/
theorem add_inj {a b : Addr} {i : Nat} : (a.add i).block = a.block := add_block a i

theorem run_loadVar_one (P : Program) (t : TypeId) (ad : Addr) (v : Value) (w : World) (hA : tAgg P t = false) (hu : (P.underlying t).isSome = true) (hc : w.cell? ad = some v) :
    (loadVar t ad).run P w = .ok v w := by
  obtain ⟨u, hu⟩ := Option.isSome_iff_exists.1 hu
  have hi : (isAgg t).run P w = .ok false w := by
    unfold tAgg at hA
    rw [hu] at hA
    simp only [isAgg, Sem.run_bind, run_underlying hu, Result.andThen_ok]
    cases u <;> first | rfl | simp at hA
  simp [loadVar, hi, hc]

theorem run_loadVar_agg (P : Program) (t : TypeId) (n : Nat) (ad : Addr) (cs : List Value) (w : World) (hA : tAgg P t = true) (hn : tSize P t = some n) (hl : cs.length = n)
    (hc : ∀ j v, cs[j]? = some v → w.cell? (ad.add j) = some v) : (loadVar t ad).run P w = .ok (.agg cs.toArray) w := by
  have hi : (isAgg t).run P w = .ok true w := by
    unfold tAgg at hA
    split at hA
    · rename_i hu; simp [isAgg, run_underlying hu]
    · rename_i hu; simp [isAgg, run_underlying hu]
    · cases hA
  simp only [tSize, Option.map_eq_some_iff] at hn
  obtain ⟨i, hi', rfl⟩ := hn
  have hlc := run_loadCells_list (P := P) w ad cs hc
  rw [hl] at hlc
  simp [loadVar, hi, sizeOf, typeInfo, hi', hlc]

theorem getD_of_some {α : Type} {l : List α} {k : Nat} {x y : α} (h : l[k]? = some x) : l.getD k y = x := by simp [List.getD_eq_getElem?_getD, h]
theorem exists_get {α : Type} {l : List α} {k : Nat} (h : k < l.length) : ∃ x, l[k]? = some x := ⟨l[k], List.getElem?_eq_getElem h⟩
theorem exists_aget {α : Type} {l : Array α} {k : Nat} (h : k < l.size) : ∃ x, l[k]? = some x := ⟨l[k], Array.getElem?_eq_getElem h⟩

theorem snd_ld (hE : EV vs ε w L (Av G.S L) a) (hR : R G L σ h a w) (t : TypeId) (x : Operand) (hA : tAgg P t = false) (hu : (P.underlying t).isSome = true) (he : opE nb dst (ε) h (.ld (sOpd vs x)) = some (d, ef)) :
    Snd P G σ h a w ⟨dst, .load t x, ty, pos, after, guard⟩ d ef := by
  simp only [opE] at he
  have hx := hE x
  split at he
  · rename_i xs i hxe
    obtain ⟨hlt, he⟩ := gd_some he
    cases he
    rw [hxe] at hx
    obtain ⟨ad, vs', hv, _, hA', hcell, hvi⟩ := hx.inv_el
    obtain ⟨y, hy⟩ := exists_get hlt
    refine Snd.val hR (v := vs' i) ?_ (by rw [getD_of_some hy]; exact .imm (hvi i y hy))
    simp only [execOp, hv, Sem.run_bind, Instr.loadAt, Instr.sureAddr, Sem.run_pure, Result.andThen_ok, run_loadVar_one P t _ _ w hA hu (hcell i y hy)]
  · rename_i o off hxe
    simp only [Option.bind_eq_some_iff] at he
    obtain ⟨cs, hcs, he⟩ := he
    obtain ⟨hlt, he⟩ := gd_some he
    cases he
    rw [hxe] at hx
    obtain ⟨b, hL, hv⟩ := hx.inv_ptr
    obtain ⟨cells, cur, T, hho, hb, hl, hp⟩ := hR.heap.at_ hL
    rw [hcs] at hho; cases hho
    obtain ⟨y, hy⟩ := exists_get hlt
    obtain ⟨u, hu'⟩ := exists_aget (l := cur) (k := off) (by omega)
    refine Snd.val hR (v := u) ?_ (by rw [getD_of_some hy]; exact hp off y u hy hu')
    have hc : w.cell? ⟨b, off, none⟩ = some u := by rw [cell_of_row w b off cur T (0, 0) hb]; exact hu'
    simp only [execOp, hv, Sem.run_bind, Instr.loadAt, Instr.sureAddr, Sem.run_pure, Result.andThen_ok, run_loadVar_one P t _ _ w hA hu hc]
  · cases he

/-- n cells from place i on. -/
theorem cut_get {α : Type} {l : List α} {i n j : Nat} {x : α} (h : ((l.drop i).take n)[j]? = some x) : l[i + j]? = some x := by
  rw [List.getElem?_take] at h
  split at h
  · rw [List.getElem?_drop] at h; exact h
  · cases h

theorem snd_ldn (hE : EV vs ε w L (Av G.S L) a) (hR : R G L σ h a w) (t : TypeId) (x : Operand) (n : Nat) (hA : tAgg P t = true) (hn : tSize P t = some n) (he : opE nb dst (ε) h (.ldn n (sOpd vs x)) = some (d, ef)) :
    Snd P G σ h a w ⟨dst, .load t x, ty, pos, after, guard⟩ d ef := by
  simp only [opE] at he
  have hx := hE x
  split at he
  · rename_i xs i hxe
    obtain ⟨hlt, he⟩ := gd_some he
    cases he
    rw [hxe] at hx
    obtain ⟨ad, vs', hv, _, hA', hcell, hvi⟩ := hx.inv_el
    have hrow : ∀ j v, ((List.range n).map fun j => vs' (i + j))[j]? = some v → w.cell? ((ad.add i).add j) = some v := by
      intro j v hj
      simp only [List.getElem?_map, Option.map_eq_some_iff] at hj
      obtain ⟨j', hj', rfl⟩ := hj
      have hlt' : j < n := by have := (List.getElem?_eq_some_iff.1 hj').1; simpa using this
      have : j' = j := by simpa [hlt'] using hj'.symm
      subst this
      obtain ⟨y, hy⟩ := exists_get (l := xs) (k := i + j') (by omega)
      rw [add_add]; exact hcell _ y hy
    refine Snd.val hR (v := .agg ((List.range n).map fun j => vs' (i + j)).toArray) ?_ (.imm (.agg (by simp; omega) fun j y v h1 h2 => ?_))
    · simp only [execOp, hv, Sem.run_bind, Instr.loadAt, Instr.sureAddr, Sem.run_pure, Result.andThen_ok, run_loadVar_agg P t n _ _ w hA hn (by simp) hrow]
    · have h1' := cut_get h1
      simp only [List.getElem?_toArray, List.getElem?_map, Option.map_eq_some_iff] at h2
      obtain ⟨j', hj', rfl⟩ := h2
      have hlt' : j < n := by have := (List.getElem?_eq_some_iff.1 hj').1; simpa using this
      have : j' = j := by simpa [hlt'] using hj'.symm
      subst this
      exact hvi _ y h1'
  · rename_i o off hxe
    simp only [Option.bind_eq_some_iff] at he
    obtain ⟨cs, hcs, he⟩ := he
    obtain ⟨hlt, he⟩ := gd_some he
    cases he
    rw [hxe] at hx
    obtain ⟨b, hL, hv⟩ := hx.inv_ptr
    obtain ⟨cells, cur, T, hho, hb, hl, hp⟩ := hR.heap.at_ hL
    rw [hcs] at hho; cases hho
    have hrow : ∀ j v, ((cur.toList.drop off).take n)[j]? = some v → w.cell? ((⟨b, off, none⟩ : Addr).add j) = some v := by
      intro j v hj
      rw [add_lit, cell_of_row w b _ cur T (0, 0) hb]
      simpa using cut_get hj
    refine Snd.val hR (v := .agg ((cur.toList.drop off).take n).toArray) ?_ (.agg (by simp; omega) fun j y v h1 h2 => ?_)
    · simp only [execOp, hv, Sem.run_bind, Instr.loadAt, Instr.sureAddr, Sem.run_pure, Result.andThen_ok, run_loadVar_agg P t n _ _ w hA hn (by simp; omega) hrow]
    · have h2' := cut_get (show ((cur.toList.drop off).take n)[j]? = some v by simpa using h2)
      exact hp _ y v (cut_get h1) (by simpa using h2')
  · cases he
end
end Go.Dat
