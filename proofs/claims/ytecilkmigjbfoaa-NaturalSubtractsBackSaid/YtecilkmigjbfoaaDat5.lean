/- Each operation of the model does what 'opE' says (2). Over any program. -/
import Derived.Test.YtecilkmigjbfoaaDat4
import Derived.Laws.CopyRow
import Derived.Laws.MakeOwn
set_option linter.unusedSimpArgs false
set_option linter.unusedVariables false
namespace Go.Dat
open Go

section
variable {P : Program} {G : Cx} {L : Nat → Option Nat} {σ : Nat → DV} {h : Heap} {a : Act} {w : World} {vs own : List Nat} {ε : Opd → DV}
variable (nb : Nat) {d : DV} {ef : Eff} {dst : Option Nat} {ty : TypeId} {pos : String} {after : Array Edge} {guard : Option (Nat × Bool)}

/-! ### Stores -/
theorem setRow_eq {b : Nat} {cs cs' : Array Value} {T : TypeId} (hb : w.heap[b]? = some (.cells cs T (0, 0))) :
    w.setRow b cs' = { w with heap := w.heap.setIfInBounds b (.cells cs' T (0, 0)) } := by
  unfold World.setRow
  congr 1
  apply Array.ext_getElem?
  intro k
  rw [Array.getElem?_modify, Array.getElem?_setIfInBounds]
  by_cases e : b = k
  · subst e
    have hlt := (Array.getElem?_eq_some_iff.1 hb).1
    rw [if_pos rfl, if_pos rfl, hb, if_pos hlt]
    rfl
  · rw [if_neg e, if_neg e]

theorem splice_get {α β : Type} {cs cv : List α} {cur us : List β} {off n k : Nat} {x : α} {y : β} (hc : off + n ≤ cs.length) (hl : cs.length ≤ cur.length) (h1 : cv.length = n) (h2 : us.length = n)
    (hx : (cs.take off ++ cv ++ cs.drop (off + n))[k]? = some x) (hy : (cur.take off ++ us ++ cur.drop (off + n))[k]? = some y) :
    (cs[k]? = some x ∧ cur[k]? = some y) ∨ (cv[k - off]? = some x ∧ us[k - off]? = some y) := by
  rw [List.getElem?_append, List.getElem?_append] at hx hy
  simp only [List.length_append, List.length_take] at hx hy
  rw [h1] at hx
  rw [h2] at hy
  have e1 : min off cs.length = off := by omega
  have e2 : min off cur.length = off := by omega
  rw [e1] at hx
  rw [e2] at hy
  by_cases hk : k < off + n
  · rw [if_pos hk] at hx hy
    by_cases hk' : k < off
    · rw [if_pos hk'] at hx hy
      rw [List.getElem?_take, if_pos hk'] at hx hy
      exact .inl ⟨hx, hy⟩
    · rw [if_neg hk'] at hx hy
      exact .inr ⟨hx, hy⟩
  · rw [if_neg hk] at hx hy
    rw [List.getElem?_drop] at hx hy
    have e : off + n + (k - (off + n)) = k := by omega
    rw [e] at hx hy
    exact .inl ⟨hx, hy⟩

/-- A store of n cells into an own object. -/
theorem snd_store_aux (hE : EV vs ε w L (Av G.S L) a) (hR : R G L σ h a w) (t : TypeId) (x y : Operand) {n : Nat} (hn : tSize P t = some n) {o off : Nat} {cs cv : List DV} (hx : ε (sOpd vs x) = .ptr o off)
    (hcs : h o = some cs) (hcv : (ε (sOpd vs y)).cells? = some cv) (hcn : cv.length = n) (hfit : off + n ≤ cs.length) :
    Snd P G σ h a w ⟨dst, .store t x y, ty, pos, after, guard⟩ (.tup []) (.set o (cs.take off ++ cv ++ cs.drop (off + n))) := by
  have hvx := hE x
  rw [hx] at hvx
  obtain ⟨b, hL, hv⟩ := hvx.inv_ptr
  obtain ⟨cells, cur, T, hho, hb, hl, hp⟩ := hR.heap.at_ hL
  rw [hcs] at hho; cases hho
  obtain ⟨hsz, hpt, hone⟩ := (hE y).cells hcv
  have h1 : ∀ u ∈ (a.eval y).cells.toList, u.oneCell' = true := by
    intro u hu
    obtain ⟨k, hk⟩ := List.mem_iff_getElem?.1 hu
    have hk' : (a.eval y).cells[k]? = some u := by simpa using hk
    obtain ⟨dd, hdd⟩ := exists_get (l := cv) (k := k) (by have := (List.getElem?_eq_some_iff.1 hk).1; simp at this; omega)
    exact V.oneCell (hone dd (List.mem_of_getElem? hdd)) (hpt k dd u hdd hk')
  have hst := run_storeCells_at P b off T (a.eval y).cells.toList 0 cur w hb (by simp; omega) h1
  simp only [Nat.add_zero] at hst
  have hs2 : tSize P t = some n := hn
  simp only [tSize, Option.map_eq_some_iff] at hn
  obtain ⟨i, hi, hin⟩ := hn
  have hlen : (a.eval y).cells.toList.length = n := by simp; omega
  refine ⟨undef, _, L, .inr ⟨?_, rfl⟩, hR.write (cells := cs.take off ++ cv ++ cs.drop (off + n)) hL hb (cs' := (cur.toList.take off ++ (a.eval y).cells.toList ++ cur.toList.drop (off + n)).toArray) ?_ ?_ ?_ (setRow_eq hb), ?_⟩
  · rw [hlen] at hst
    simp [execOp, Instr.storeAt, Instr.sureAddr, storeVar, hv, sizeOf, typeInfo, hi, hin, hsz, hcn, hst]
  · simp; omega
  · simp; omega
  · intro k dd v hk1 hk2
    rcases splice_get (cur := cur.toList) (us := (a.eval y).cells.toList) hfit (by simp; omega) hcn hlen hk1 (by simpa using hk2) with ⟨e1, e2⟩ | ⟨e1, e2⟩
    · exact hp k dd v e1 (by simpa using e2)
    · exact hpt _ dd v e1 (by simpa using e2)
  · exact .imm (.tup (by simp) fun k d v hk => by simp at hk)

theorem snd_stn (hE : EV vs ε w L (Av G.S L) a) (hR : R G L σ h a w) (t : TypeId) (x y : Operand) {n : Nat} (hn : tSize P t = some n) (he : opE nb dst (ε) h (.stn n (sOpd vs x) (sOpd vs y)) = some (d, ef)) :
    Snd P G σ h a w ⟨dst, .store t x y, ty, pos, after, guard⟩ d ef := by
  simp only [opE] at he
  split at he
  · rename_i o off hxe
    simp only [Option.bind_eq_some_iff] at he
    obtain ⟨cs, hcs, cv, hcv, he⟩ := he
    obtain ⟨⟨h1, h2⟩, he⟩ := gd_some he
    cases he
    exact snd_store_aux hE hR t x y hn hxe hcs hcv h1 h2
  · cases he

theorem cells_one {d : DV} (h : d.one = true) : d.cells? = some [d] := by
  cases d <;> simp_all [DV.one, DV.cells?]

theorem snd_st (hE : EV vs ε w L (Av G.S L) a) (hR : R G L σ h a w) (t : TypeId) (x y : Operand) (hn : tSize P t = some 1) (he : opE nb dst (ε) h (.st (sOpd vs x) (sOpd vs y)) = some (d, ef)) :
    Snd P G σ h a w ⟨dst, .store t x y, ty, pos, after, guard⟩ d ef := by
  simp only [opE] at he
  split at he
  · rename_i o off hxe
    simp only [Option.bind_eq_some_iff] at he
    obtain ⟨cs, hcs, he⟩ := he
    obtain ⟨⟨h1, h2⟩, he⟩ := gd_some he
    cases he
    have := snd_store_aux (ty := ty) (pos := pos) (after := after) (guard := guard) (dst := dst) hE hR t x y hn hxe hcs (cells_one h1) rfl (by omega)
    rw [List.set_eq_take_append_cons_drop, if_pos h2]
    simpa using this
  · cases he

/-! ### Arithmetic -/
theorem snd_nilc (hE : EV vs ε w L (Av G.S L) a) (hR : R G L σ h a w) (x : Operand) (he : opE nb dst (ε) h (.nilc (sOpd vs x)) = some (d, ef)) :
    Snd P G σ h a w ⟨dst, .nilCheck x, ty, pos, after, guard⟩ d ef := by
  simp only [opE] at he
  have hx := hE x
  split at he
  · rename_i o off hxe
    cases he
    rw [hxe] at hx
    obtain ⟨b, hL, hv⟩ := hx.inv_ptr
    exact Snd.val hR (v := a.eval x) (by simp [execOp, hv]) hx
  · rename_i xs i hxe
    cases he
    rw [hxe] at hx
    obtain ⟨ad, vs', hv, _⟩ := hx.inv_el
    exact Snd.val hR (v := a.eval x) (by simp [execOp, hv]) hx
  · cases he

theorem run_eqGuard_int (op : BinOp) (t : TypeId) (x y : Operand) (k j : IntKind) (m n : Int) : (eqGuard op t x y (.int k m) (.int j n)).run P w = .ok () w := by
  unfold eqGuard; cases op <;> simp
theorem run_eqGuard_str (op : BinOp) (t : TypeId) (x y : Operand) (s u : ByteArray) : (eqGuard op t x y (.string s) (.string u)).run P w = .ok () w := by
  unfold eqGuard; cases op <;> simp
theorem run_eqGuard_bool (op : BinOp) (t : TypeId) (x y : Operand) (s u : Bool) : (eqGuard op t x y (.bool s) (.bool u)).run P w = .ok () w := by
  unfold eqGuard; cases op <;> simp

theorem beqd {α : Type} [BEq α] [LawfulBEq α] [DecidableEq α] (x y : α) : (x == y) = decide (x = y) := by
  rw [Bool.eq_iff_iff]; simp

theorem run_bin_int (op : BinOp) (t : TypeId) (k j : IntKind) (m n : Int) {r : DV} (he : binE op (.int k m) (.int j n) = some r) :
    ∃ v, (binOp op t (.int k m) (.int j n)).run P w = .ok v w ∧ ∀ A, VI w A r v := by
  cases op <;> simp only [binE] at he <;> obtain ⟨hc, he⟩ := gd_some he <;> cases he
  case add => subst hc; exact ⟨_, by simp [binOp, Op.intArith], fun _ => .int _ _⟩
  case sub => subst hc; exact ⟨_, by simp [binOp, Op.intArith], fun _ => .int _ _⟩
  case mul => subst hc; exact ⟨_, by simp [binOp, Op.intArith], fun _ => .int _ _⟩
  case quo => obtain ⟨rfl, hc⟩ := hc; exact ⟨_, by simp [binOp, Op.intDiv, hc], fun _ => .int _ _⟩
  case rem => obtain ⟨rfl, hc⟩ := hc; exact ⟨_, by simp [binOp, Op.intDiv, hc], fun _ => .int _ _⟩
  case and => subst hc; exact ⟨.int k (bitE .and k m n), by simp [binOp, Op.intBits, bitE], fun _ => .int _ _⟩
  case or => subst hc; exact ⟨.int k (bitE .or k m n), by simp [binOp, Op.intBits, bitE], fun _ => .int _ _⟩
  case xor => subst hc; exact ⟨.int k (bitE .xor k m n), by simp [binOp, Op.intBits, bitE], fun _ => .int _ _⟩
  case andNot => subst hc; exact ⟨.int k (bitE .andNot k m n), by simp [binOp, Op.intBits, bitE], fun _ => .int _ _⟩
  case shl =>
    have hc' : ¬ n < 0 := by omega
    exact ⟨_, by simp [binOp, Op.shift, hc'], fun _ => .int _ _⟩
  case shr =>
    have hc' : ¬ n < 0 := by omega
    exact ⟨_, by simp [binOp, Op.shift, hc'], fun _ => .int _ _⟩
  case eql => subst hc; exact ⟨.bool (m == n), by simp [binOp, Op.intCmp], fun _ => by rw [beqd]; exact .bool _⟩
  case neq => subst hc; exact ⟨.bool (m != n), by simp [binOp, Op.intCmp], fun _ => by simp only [bne, beqd, decide_not]; exact .bool _⟩
  case lss => subst hc; exact ⟨_, by simp [binOp, Op.intCmp], fun _ => .bool _⟩
  case leq => subst hc; exact ⟨_, by simp [binOp, Op.intCmp], fun _ => .bool _⟩
  case gtr => subst hc; exact ⟨_, by simp [binOp, Op.intCmp], fun _ => .bool _⟩
  case geq => subst hc; exact ⟨_, by simp [binOp, Op.intCmp], fun _ => .bool _⟩

theorem run_bin_str (op : BinOp) (t : TypeId) (l m : List UInt8) {r : DV} (he : binE op (.str l) (.str m) = some r) :
    ∃ v, (binOp op t (.string ⟨l.toArray⟩) (.string ⟨m.toArray⟩)).run P w = .ok v w ∧ ∀ A, VI w A r v := by
  cases op <;> simp only [binE] at he
  case add =>
    obtain ⟨hc, he⟩ := gd_some he
    cases he
    refine ⟨.string ⟨(l ++ m).toArray⟩, ?_, fun _ => .str _⟩
    simp only [binOp]
    rw [run_string_add_sum w _ _ (by simpa [ByteArray.size] using hc)]
    congr 2
  case eql => cases he; exact ⟨.bool (l == m), by simp [binOp, Op.stringOp], fun _ => by rw [beqd]; exact .bool _⟩
  case neq => cases he; exact ⟨.bool (!(l == m)), by simp [binOp, Op.stringOp], fun _ => by simp only [beqd, decide_not]; exact .bool _⟩
  case lss => cases he; exact ⟨.bool (Op.bytesLess l m), by simp [binOp, Op.stringOp], fun _ => .bool _⟩
  case leq => cases he; exact ⟨.bool (Op.bytesLess l m || l == m), by simp [binOp, Op.stringOp], fun _ => by rw [beqd]; exact .bool _⟩
  case gtr => cases he; exact ⟨.bool (!(Op.bytesLess l m || l == m)), by simp [binOp, Op.stringOp], fun _ => by rw [beqd]; exact .bool _⟩
  case geq => cases he; exact ⟨.bool (!Op.bytesLess l m), by simp [binOp, Op.stringOp], fun _ => .bool _⟩
  all_goals cases he

theorem snd_bin (hE : EV vs ε w L (Av G.S L) a) (hR : R G L σ h a w) (op : BinOp) (t u : TypeId) (x y : Operand) (he : opE nb dst (ε) h (.bin op (sOpd vs x) (sOpd vs y)) = some (d, ef)) :
    Snd P G σ h a w ⟨dst, .binOp op t x y u, ty, pos, after, guard⟩ d ef := by
  simp only [opE, Option.map_eq_some_iff] at he
  obtain ⟨r, hr, he⟩ := he
  cases he
  have hx := hE x
  have hy := hE y
  generalize ε (sOpd vs x) = dx at *
  generalize ε (sOpd vs y) = dy at *
  cases dx <;> cases dy <;> first | (simp [binE] at hr; done) | skip
  · have e1 := hx.inv_int
    have e2 := hy.inv_int
    obtain ⟨v, hv, hV⟩ := run_bin_int (P := P) (w := w) op t _ _ _ _ hr
    exact Snd.val hR (v := v) (by simp [execOp, e1, e2, run_eqGuard_int, hv]) (.imm (hV _))
  · have e1 := hx.inv_str
    have e2 := hy.inv_str
    obtain ⟨v, hv, hV⟩ := run_bin_str (P := P) (w := w) op t _ _ hr
    exact Snd.val hR (v := v) (by simp [execOp, e1, e2, run_eqGuard_str, hv]) (.imm (hV _))

theorem snd_beq (hE : EV vs ε w L (Av G.S L) a) (hR : R G L σ h a w) (op : BinOp) (hop : op = .eql ∨ op = .neq) (t u : TypeId) (ht : P.underlying t = some .bool) (x y : Operand)
    (he : opE nb dst (ε) h (.beq (op == .neq) (sOpd vs x) (sOpd vs y)) = some (d, ef)) :
    Snd P G σ h a w ⟨dst, .binOp op t x y u, ty, pos, after, guard⟩ d ef := by
  simp only [opE] at he
  have hx := hE x
  have hy := hE y
  split at he
  · rename_i p q hp hq
    cases he
    rw [hp] at hx
    rw [hq] at hy
    have e1 := hx.inv_bool
    have e2 := hy.inv_bool
    rcases hop with rfl | rfl
    · exact Snd.val hR (v := .bool (p == q)) (by simp [execOp, e1, e2, run_eqGuard_bool, run_eql_bool _ _ _ _ ht]) (.imm (.bool _))
    · exact Snd.val hR (v := .bool (!(p == q))) (by simp [execOp, e1, e2, run_eqGuard_bool, run_neq_bool _ _ _ _ ht]) (.imm (.bool _))
  · cases he

theorem snd_un (hE : EV vs ε w L (Av G.S L) a) (hR : R G L σ h a w) (op : UnOp) (t : TypeId) (x : Operand) (he : opE nb dst (ε) h (.un op (sOpd vs x)) = some (d, ef)) :
    Snd P G σ h a w ⟨dst, .unOp op t x, ty, pos, after, guard⟩ d ef := by
  simp only [opE, Option.map_eq_some_iff] at he
  obtain ⟨r, hr, he⟩ := he
  cases he
  have hx := hE x
  generalize ε (sOpd vs x) = dx at *
  cases dx <;> first | (simp [unE] at hr; done) | skip
  · rename_i k n
    have e1 := hx.inv_int
    cases op <;> simp only [unE] at hr <;> cases hr
    · exact Snd.val hR (v := .int k (k.wrap (0 - n))) (by simp [execOp, e1, Op.unary, Op.intArith]) (.imm (.int _ _))
    · exact Snd.val hR (v := .int k (bitE .xor k (if k.signed then -1 else k.max) n)) (by simp [execOp, e1, Op.unary, Op.intBits, bitE]) (.imm (.int _ _))
  · rename_i b
    have e1 := hx.inv_bool
    cases op <;> simp only [unE] at hr <;> cases hr
    exact Snd.val hR (v := .bool (!b)) (by simp [execOp, e1, Op.unary]) (.imm (.bool _))

theorem snd_conv (hE : EV vs ε w L (Av G.S L) a) (hR : R G L σ h a w) (src tgt : TypeId) (i k : IntKind) (hs : P.underlying src = some (.int i)) (ht : P.underlying tgt = some (.int k)) (x : Operand)
    (he : opE nb dst (ε) h (.conv k (sOpd vs x)) = some (d, ef)) : Snd P G σ h a w ⟨dst, .convert src tgt x, ty, pos, after, guard⟩ d ef := by
  simp only [opE] at he
  have hx := hE x
  split at he
  · rename_i j n hp
    cases he
    rw [hp] at hx
    have e1 := hx.inv_int
    exact Snd.val hR (v := .int k (k.wrap n)) (by simp [execOp, e1, convert, run_underlying hs, run_underlying ht, Conv.intToInt]) (.imm (.int _ _))
  · cases he

theorem snd_mki (hE : EV vs ε w L (Av G.S L) a) (hR : R G L σ h a w) (t : TypeId) {u : TypeDesc} (hu : P.underlying t = some u) (hn : ∀ ms, u ≠ .interface ms) (x : Operand)
    (he : opE nb dst (ε) h (.mki t (sOpd vs x)) = some (d, ef)) : Snd P G σ h a w ⟨dst, .makeInterface t x, ty, pos, after, guard⟩ d ef := by
  simp only [opE] at he
  obtain ⟨hrf, he⟩ := gd_some he
  cases he
  have hx := (hE x).rf_imm hrf
  refine Snd.val hR (v := .iface t (a.eval x)) ?_ (.imm (.iface hx))
  simp only [execOp, Instr.makeInterface, Sem.run_bind, run_underlying hu, Result.andThen_ok]
  cases u <;> first | rfl | exact absurd rfl (hn _)

theorem snd_min2 (hE : EV vs ε w L (Av G.S L) a) (hR : R G L σ h a w) (x y : Operand) (ts : Array TypeId) (he : opE nb dst (ε) h (.min2 (sOpd vs x) (sOpd vs y)) = some (d, ef)) :
    Snd P G σ h a w ⟨dst, .call { callee := .builtin .min, args := #[x, y], argTypes := ts }, ty, pos, after, guard⟩ d ef := by
  simp only [opE] at he
  have hx := hE x
  have hy := hE y
  split at he
  · rename_i k p j q hp hq
    cases he
    rw [hp] at hx
    rw [hq] at hy
    have e1 := hx.inv_int
    have e2 := hy.inv_int
    exact Snd.val hR (v := .int k (if q < p then q else p)) (by simp [execOp, resolve, invoke, builtin, e1, e2, run_min_int2]) (.imm (.int _ _))
  · cases he
theorem snd_max2 (hE : EV vs ε w L (Av G.S L) a) (hR : R G L σ h a w) (x y : Operand) (ts : Array TypeId) (he : opE nb dst (ε) h (.max2 (sOpd vs x) (sOpd vs y)) = some (d, ef)) :
    Snd P G σ h a w ⟨dst, .call { callee := .builtin .max, args := #[x, y], argTypes := ts }, ty, pos, after, guard⟩ d ef := by
  simp only [opE] at he
  have hx := hE x
  have hy := hE y
  split at he
  · rename_i k p j q hp hq
    cases he
    rw [hp] at hx
    rw [hq] at hy
    have e1 := hx.inv_int
    have e2 := hy.inv_int
    exact Snd.val hR (v := .int k (if q > p then q else p)) (by simp [execOp, resolve, invoke, builtin, e1, e2, run_max_int2]) (.imm (.int _ _))
  · cases he

theorem snd_ext (hE : EV vs ε w L (Av G.S L) a) (hR : R G L σ h a w) (x : Operand) (i : Nat) (he : opE nb dst (ε) h (.ext (sOpd vs x) i) = some (d, ef)) :
    Snd P G σ h a w ⟨dst, .extract x i, ty, pos, after, guard⟩ d ef := by
  simp only [opE] at he
  have hx := hE x
  split at he
  · rename_i ds hp
    obtain ⟨hlt, he⟩ := gd_some he
    cases he
    rw [hp] at hx
    obtain ⟨us, e1, hl, hv⟩ := hx.inv_tup
    obtain ⟨y, hy⟩ := exists_get hlt
    obtain ⟨u, hu⟩ := exists_aget (l := us) (k := i) (by omega)
    exact Snd.val hR (v := u) (by simp [execOp, e1, Instr.extract, hu]) (by rw [getD_of_some hy]; exact hv i y u hy hu)
  · cases he

/-! ### Addresses -/
theorem snd_fad (hE : EV vs ε w L (Av G.S L) a) (hR : R G L σ h a w) (t : TypeId) (x : Operand) (f : Nat) {fs : Array Field} {g : Field} {n : Nat} (ht : P.underlying t = some (.struct fs)) (hf : fs[f]? = some g)
    (hn : tSize P g.type = some n) (hn0 : n ≠ 0) (he : opE nb dst (ε) h (.fad g.offset (sOpd vs x)) = some (d, ef)) :
    Snd P G σ h a w ⟨dst, .fieldAddr t x f, ty, pos, after, guard⟩ d ef := by
  simp only [tSize, Option.map_eq_some_iff] at hn
  obtain ⟨i, hi, rfl⟩ := hn
  simp only [opE] at he
  have hx := hE x
  split at he
  · rename_i o k hp
    cases he
    rw [hp] at hx
    obtain ⟨b, hL, e1⟩ := hx.inv_ptr
    exact Snd.val hR (v := .pointer (some ⟨b, k + g.offset, none⟩)) (by simp [execOp, e1, Instr.fieldAt, run_underlying ht, hf, Instr.sureAddr, fieldPlace, sizeOf, typeInfo, hi, hn0, add_lit]) (.ptr hL)
  · rename_i xs k hp
    cases he
    rw [hp] at hx
    obtain ⟨ad, us, e1, hx0, hA, hc, hv⟩ := hx.inv_el
    exact Snd.val hR (v := .pointer (some (ad.add (k + g.offset)))) (by simp [execOp, e1, Instr.fieldAt, run_underlying ht, hf, Instr.sureAddr, fieldPlace, sizeOf, typeInfo, hi, hn0, add_add]) (.imm (.el us hx0 hA hc hv))
  · cases he

theorem snd_iad (hE : EV vs ε w L (Av G.S L) a) (hR : R G L σ h a w) (t : TypeId) (x i : Operand) {e : TypeId} {n : Nat} (ht : P.underlying t = some (.slice e)) (hn : tSize P e = some n) (hn0 : n ≠ 0)
    (he : opE nb dst (ε) h (.iad n (sOpd vs x) (sOpd vs i)) = some (d, ef)) : Snd P G σ h a w ⟨dst, .indexAddr t x i, ty, pos, after, guard⟩ d ef := by
  simp only [tSize, Option.map_eq_some_iff] at hn
  obtain ⟨inf, hi, rfl⟩ := hn
  simp only [opE] at he
  have hx := hE x
  have hy := hE i
  split at he
  · rename_i s xs k m hp hq
    obtain ⟨hgd, he'⟩ := gd_some he
    clear he
    obtain ⟨rfl, h0, hlt⟩ := hgd
    cases he'
    rw [hp] at hx
    rw [hq] at hy
    have e2 := hy.inv_int
    rcases hx.inv_sl with ⟨rfl, _⟩ | ⟨hx0, ad, len, c, us, e1, hl, hc, hA, hcell, hv⟩
    · simp at hlt
      have := Nat.mul_pos (show 0 < m.toNat + 1 by omega) (show 0 < inf.size by omega)
      omega
    · rw [hl] at hlt
      have hlt' : m.toNat + 1 ≤ len := Nat.le_of_mul_le_mul_right hlt (by omega)
      have hm : m < len := by omega
      exact Snd.val hR (v := .pointer (some (ad.add (m.toNat * inf.size))))
        (by simp [execOp, e1, e2, Instr.indexAt, asIntOf, run_underlying ht, sizeOf, typeInfo, hi, h0, hm]) (.imm (.el us hx0 hA hcell hv))
  · rename_i s o off len k m hp hq
    obtain ⟨hgd, he'⟩ := gd_some he
    clear he
    obtain ⟨rfl, h0, hlt⟩ := hgd
    cases he'
    rw [hp] at hx
    rw [hq] at hy
    have e2 := hy.inv_int
    rcases hx.inv_osl with ⟨b, c, T, m', hL, e1, hc, hs, hm⟩ | ⟨rfl, _⟩
    · exact Snd.val hR (v := .pointer (some ⟨b, off + m.toNat * inf.size, none⟩))
        (by simp [execOp, e1, e2, Instr.indexAt, asIntOf, run_underlying ht, sizeOf, typeInfo, hi, h0, hlt, add_lit]) (.ptr hL)
    · omega
  · cases he

theorem snd_iaa (hE : EV vs ε w L (Av G.S L) a) (hR : R G L σ h a w) (t : TypeId) (x i : Operand) {e : TypeId} {n len : Nat} (ht : P.underlying t = some (.array len e)) (hn : tSize P e = some n)
    (he : opE nb dst (ε) h (.iaa len n (sOpd vs x) (sOpd vs i)) = some (d, ef)) : Snd P G σ h a w ⟨dst, .indexAddr t x i, ty, pos, after, guard⟩ d ef := by
  simp only [tSize, Option.map_eq_some_iff] at hn
  obtain ⟨inf, hi, rfl⟩ := hn
  simp only [opE] at he
  have hx := hE x
  have hy := hE i
  split at he
  · rename_i o k j m hp hq
    obtain ⟨⟨h0, hlt⟩, he⟩ := gd_some he
    cases he
    rw [hp] at hx
    rw [hq] at hy
    have e2 := hy.inv_int
    obtain ⟨b, hL, e1⟩ := hx.inv_ptr
    exact Snd.val hR (v := .pointer (some ⟨b, k + m.toNat * inf.size, none⟩))
      (by simp [execOp, e1, e2, Instr.indexAt, asIntOf, run_underlying ht, sizeOf, typeInfo, hi, h0, hlt, add_lit, Instr.sureAddr]) (.ptr hL)
  · rename_i xs k j m hp hq
    obtain ⟨⟨h0, hlt⟩, he⟩ := gd_some he
    cases he
    rw [hp] at hx
    rw [hq] at hy
    have e2 := hy.inv_int
    obtain ⟨ad, us, e1, hx0, hA, hc, hv⟩ := hx.inv_el
    exact Snd.val hR (v := .pointer (some (ad.add (k + m.toNat * inf.size))))
      (by simp [execOp, e1, e2, Instr.indexAt, asIntOf, run_underlying ht, sizeOf, typeInfo, hi, h0, hlt, add_add, Instr.sureAddr]) (.imm (.el us hx0 hA hc hv))
  · cases he

theorem snd_idx (hE : EV vs ε w L (Av G.S L) a) (hR : R G L σ h a w) (t : TypeId) (x i : Operand) (ht : P.underlying t = some .string)
    (he : opE nb dst (ε) h (.idx (sOpd vs x) (sOpd vs i)) = some (d, ef)) : Snd P G σ h a w ⟨dst, .index t x i, ty, pos, after, guard⟩ d ef := by
  simp only [opE] at he
  have hx := hE x
  have hy := hE i
  split at he
  · rename_i l j m hp hq
    obtain ⟨⟨h0, hlt⟩, he⟩ := gd_some he
    cases he
    rw [hp] at hx
    rw [hq] at hy
    have e1 := hx.inv_str
    have e2 := hy.inv_int
    have hg : (⟨l.toArray⟩ : ByteArray)[m.toNat]? = some (l.getD m.toNat 0) := by
      obtain ⟨y, hy⟩ := exists_get hlt
      rw [getD_of_some hy]
      have hs : m.toNat < (⟨l.toArray⟩ : ByteArray).size := by simpa [ByteArray.size] using hlt
      rw [getElem?_pos (⟨l.toArray⟩ : ByteArray) m.toNat hs]
      have : (⟨l.toArray⟩ : ByteArray)[m.toNat] = l[m.toNat] := rfl
      rw [this]
      rw [List.getElem?_eq_getElem hlt] at hy
      exact hy
    exact Snd.val hR (v := .int .u8 (l.getD m.toNat 0).toNat)
      (by simp [execOp, e1, e2, Instr.index, asIntOf, run_underlying ht, h0, hg]) (.imm (.int _ _))
  · cases he

theorem cnt_of {sz n : Nat} {xs : List DV} (h : xs.length = n * sz) (h0 : sz ≠ 0) : cnt sz xs = n := by
  unfold cnt
  split
  · rename_i e; subst e; simpa using h
  · rw [h, Nat.mul_div_cancel _ (by omega)]

theorem snd_len_slice (hE : EV vs ε w L (Av G.S L) a) (hR : R G L σ h a w) (t : TypeId) (x : Operand) {e : TypeId} {n : Nat} (ht : P.underlying t = some (.slice e)) (hn0 : n ≠ 0)
    (he : opE nb dst (ε) h (.len n (sOpd vs x)) = some (d, ef)) :
    Snd P G σ h a w ⟨dst, .call { callee := .builtin .len, args := #[x], argTypes := #[t] }, ty, pos, after, guard⟩ d ef := by
  simp only [opE] at he
  have hx := hE x
  split at he
  · rename_i s xs hp
    obtain ⟨hgd, he'⟩ := gd_some he
    clear he
    obtain rfl := hgd
    cases he'
    rw [hp] at hx
    rcases hx.inv_sl with ⟨rfl, ad, c, e1⟩ | ⟨hx0, ad, len, c, us, e1, hl, hc, hA, hcell, hv⟩
    · exact Snd.val hR (v := .int .i64 (0 : Nat)) (by simp [execOp, resolve, invoke, builtin, e1, Builtin.len_, run_underlying ht, goInt]) (.imm (VI.int' (by simp [cnt])))
    · exact Snd.val hR (v := .int .i64 len) (by simp [execOp, resolve, invoke, builtin, e1, Builtin.len_, run_underlying ht, goInt]) (.imm (VI.int' (by rw [cnt_of hl hn0])))
  · rename_i s o off m hp
    cases he
    rw [hp] at hx
    rcases hx.inv_osl with ⟨b, c, T, m', hL, e1, hc, hs, hm⟩ | ⟨rfl, e1⟩
    · exact Snd.val hR (v := .int .i64 m) (by simp [execOp, resolve, invoke, builtin, e1, Builtin.len_, run_underlying ht, goInt]) (.imm (.int _ _))
    · exact Snd.val hR (v := .int .i64 (0 : Nat)) (by simp [execOp, resolve, invoke, builtin, e1, Builtin.len_, run_underlying ht, goInt]) (.imm (.int _ _))
  · rename_i hp
    cases he
    rw [hp] at hx
    have e1 := hx.inv_nils
    exact Snd.val hR (v := .int .i64 0) (by simp [execOp, resolve, invoke, builtin, e1, Builtin.len_, run_underlying ht, goInt]) (.imm (.int _ _))
  · cases he

theorem snd_len_str (hE : EV vs ε w L (Av G.S L) a) (hR : R G L σ h a w) (t : TypeId) (x : Operand) (ht : P.underlying t = some .string)
    (he : opE nb dst (ε) h (.lenS (sOpd vs x)) = some (d, ef)) :
    Snd P G σ h a w ⟨dst, .call { callee := .builtin .len, args := #[x], argTypes := #[t] }, ty, pos, after, guard⟩ d ef := by
  simp only [opE] at he
  have hx := hE x
  split at he
  · rename_i l hp
    cases he
    rw [hp] at hx
    have e1 := hx.inv_str
    exact Snd.val hR (v := .int .i64 ((⟨l.toArray⟩ : ByteArray).size : Nat)) (by simp [execOp, resolve, invoke, builtin, e1, run_len_string _ _ _ _ ht, goInt]) (.imm (VI.int' rfl))
  · cases he

/-! ### Parts of an aggregate -/
theorem snd_fld (hE : EV vs ε w L (Av G.S L) a) (hR : R G L σ h a w) (t : TypeId) (x : Operand) (f : Nat) {fs : Array Field} {g : Field} (ht : P.underlying t = some (.struct fs)) (hf : fs[f]? = some g)
    (hA : tAgg P g.type = false) (hu : (P.underlying g.type).isSome = true) (he : opE nb dst (ε) h (.fld g.offset (sOpd vs x)) = some (d, ef)) :
    Snd P G σ h a w ⟨dst, .field t x f, ty, pos, after, guard⟩ d ef := by
  simp only [opE] at he
  have hx := hE x
  split at he
  · rename_i cs hp
    obtain ⟨hlt, he⟩ := gd_some he
    cases he
    rw [hp] at hx
    obtain ⟨us, e1, hl, hv⟩ := hx.inv_agg
    obtain ⟨y, hy⟩ := exists_get hlt
    obtain ⟨u, hu'⟩ := exists_aget (l := us) (k := g.offset) (by omega)
    obtain ⟨td, htd⟩ := Option.isSome_iff_exists.1 hu
    have hi : (isAgg g.type).run P w = .ok false w := by
      unfold tAgg at hA
      rw [htd] at hA
      simp only [isAgg, Sem.run_bind, run_underlying htd, Result.andThen_ok]
      cases td <;> first | rfl | simp at hA
    refine Snd.val hR (v := u) ?_ (by rw [getD_of_some hy]; exact hv _ y u hy hu')
    simp [execOp, Instr.field, run_underlying ht, hf, e1, asAgg, part, hi, hu']
  · cases he

theorem snd_fldn (hE : EV vs ε w L (Av G.S L) a) (hR : R G L σ h a w) (t : TypeId) (x : Operand) (f n : Nat) {fs : Array Field} {g : Field} (ht : P.underlying t = some (.struct fs)) (hf : fs[f]? = some g)
    (hA : tAgg P g.type = true) (hn : tSize P g.type = some n) (he : opE nb dst (ε) h (.fldn g.offset n (sOpd vs x)) = some (d, ef)) :
    Snd P G σ h a w ⟨dst, .field t x f, ty, pos, after, guard⟩ d ef := by
  simp only [opE] at he
  have hx := hE x
  split at he
  · rename_i cs hp
    obtain ⟨hlt, he⟩ := gd_some he
    cases he
    rw [hp] at hx
    obtain ⟨us, e1, hl, hv⟩ := hx.inv_agg
    have hi : (isAgg g.type).run P w = .ok true w := by
      unfold tAgg at hA
      split at hA
      · rename_i hu; simp [isAgg, run_underlying hu]
      · rename_i hu; simp [isAgg, run_underlying hu]
      · cases hA
    simp only [tSize, Option.map_eq_some_iff] at hn
    obtain ⟨i, hi', rfl⟩ := hn
    refine Snd.val hR (v := .agg (us.extract g.offset (g.offset + i.size))) ?_ (.agg (by simp; omega) fun k y v h1 h2 => ?_)
    · simp [execOp, Instr.field, run_underlying ht, hf, e1, asAgg, part, hi, sizeOf, typeInfo, hi']
    · have h1' := cut_get h1
      rw [Array.getElem?_extract] at h2
      split at h2
      · exact hv _ y v h1' h2
      · cases h2
  · cases he
end
end Go.Dat
