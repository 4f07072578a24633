/- The small syntax of a function's code with types resolved ('strip'), and what an operation does at the data level ('opE'). Over any program. -/
import Derived.Test.YtecilkmigjbfoaaDat2
set_option linter.unusedSimpArgs false
set_option linter.unusedVariables false
namespace Go.Dat
open Go

inductive Opd where
  | x (k : Nat)
  | t (k : Nat)
  | c (d : DV)
  deriving Inhabited

/-- Where a result goes: nowhere, a variable's slot, a temporary of the region. -/
inductive Dst where
  | no
  | x (k : Nat)
  | t (k : Nat)
  deriving Inhabited

def Dst.slot : Dst → Option Nat
  | .no => none
  | .x k => some k
  | .t k => some k

inductive DOp where
  | mv (x : Opd)
  | pick (c a b : Opd)
  | alloc (z : List DV)
  | box (x : Opd)
  | build (z : List DV) (ps : List (Nat × Nat × Opd))
  | bsl (sz : Nat) (z : List DV) (ps : List (Nat × Nat × Opd))
  | bsl' (sz : Nat) (z : List DV) (ps : List (Nat × Nat × Opd))
  | ld (x : Opd)
  | ldn (n : Nat) (x : Opd)
  | st (x v : Opd)
  | stn (n : Nat) (x v : Opd)
  | nilc (x : Opd)
  | bin (op : BinOp) (x y : Opd)
  | beq (neg : Bool) (x y : Opd)
  | un (op : UnOp) (x : Opd)
  | conv (k : IntKind) (x : Opd)
  | s2b (x : Opd)
  | b2s (x : Opd)
  | mks (sz bytes : Nat) (z : List DV) (l c : Opd)
  | slc (sz : Nat) (x : Opd) (lo hi : Option Opd)
  | slcS (x : Opd) (lo hi : Option Opd)
  | fad (off : Nat) (x : Opd)
  | fld (off : Nat) (x : Opd)
  | fldn (off n : Nat) (x : Opd)
  | iad (sz : Nat) (x i : Opd)
  | iaa (len sz : Nat) (x i : Opd)
  | idx (x i : Opd)
  | ext (x : Opd) (i : Nat)
  | len (sz : Nat) (x : Opd)
  | lenS (x : Opd)
  | s2s (x : Opd)
  | app (sz bytes : Nat) (s x : Opd)
  | call (f : Nat) (args : List Opd)
  | mki (t : Nat) (x : Opd)
  | min2 (x y : Opd)
  | max2 (x y : Opd)
  | pan (x : Opd)
  deriving Inhabited

structure DOper where
  dst : Dst
  op : DOp
  guard : Option (Opd × Bool)
  deriving Inhabited

inductive DC where
  | skip
  | reg (ops : List DOper)
  | regd (ops : List DOper)
  | seq (a b : DC)
  | cond (c : Opd) (a b : DC)
  | block (id : Nat) (b : DC)
  | loop (b : DC)
  | exit (id : Nat)
  | ret
  | bad
  deriving Inhabited

/-! ### Constants -/
def cv1 : Value → DV
  | .bool b => .bool b
  | .int k n => .int k n
  | .string s => .str s.data.toList
  | .pointer none => .nilp
  | .slice none 0 0 => .nils
  | .nilIface => .nili
  | .func (.func f) a b => if a.size = 0 ∧ b.size = 0 then .fn f else .undef
  | .tuple a => if a.size = 0 then .tup [] else .undef
  | _ => .undef
def cv : Value → DV
  | .agg cs => .agg (cs.toList.map cv1)
  | v => cv1 v

theorem cv1_VI (w : World) (A : Nat → Prop) (v : Value) : VI w A (cv1 v) v := by
  cases v with
  | bool b => exact .bool _
  | int k n => exact .int _ _
  | string s =>
    have : (Value.string s) = .string ⟨s.data.toList.toArray⟩ := by cases s; simp
    rw [this]
    simpa [cv1] using VI.str (w := w) (A := A) s.data.toList
  | pointer a => cases a with
    | none => exact .nilp
    | some a => exact .undef _
  | slice a n c => cases a with
    | none => cases n with
      | zero => cases c with
        | zero => exact .nils
        | succ c => exact .undef _
      | succ n => exact .undef _
    | some a => exact .undef _
  | func f a b => cases f with
    | func f =>
      simp only [cv1]
      split
      · rename_i hc
        obtain ⟨h1, h2⟩ := hc
        have e1 : a = #[] := Array.eq_empty_of_size_eq_zero h1
        have e2 : b = #[] := Array.eq_empty_of_size_eq_zero h2
        subst e1; subst e2
        exact .fn f
      · exact .undef _
    | _ => exact .undef _
  | nilIface => exact .nili
  | tuple a =>
    simp only [cv1]
    split
    · rename_i hc
      have e1 : a = #[] := Array.eq_empty_of_size_eq_zero hc
      subst e1
      exact .tup rfl (fun k d v h => by simp at h)
    · exact .undef _
  | _ => exact .undef _
theorem cv_VI (w : World) (A : Nat → Prop) (v : Value) : VI w A (cv v) v := by
  cases v with
  | agg cs =>
    refine .agg (by simp) fun k d v h1 h2 => ?_
    simp only [List.getElem?_map, Array.getElem?_toList, h2, Option.map_some, Option.some.injEq] at h1
    rw [← h1]
    exact cv1_VI w A v
  | _ => simp only [cv]; exact cv1_VI w A _

/-! ### strip -/
section strip
variable (P : Program) (vs : List Nat)

def sOpd : Operand → Opd
  | .tmp k => if vs.contains k then .x k else .t k
  | .const v => .c (cv v)
  | .func f => .c (.fn f)
  | .global _ => .c .undef
def sDst : Option Nat → Dst
  | none => .no
  | some k => if vs.contains k then .x k else .t k

def tAgg (t : TypeId) : Bool := match P.underlying t with
  | some (.struct _) | some (.array ..) => true
  | _ => false
def tSize (t : TypeId) : Option Nat := (P.info? t).map (·.size)
def tZero (t : TypeId) : Option (List DV) := ((P.info? t).bind (·.zero)).map fun z => z.cells.toList.map cv1

def sParts (place : Nat → Option (Nat × Nat)) : List (Nat × Operand) → Option (List (Nat × Nat × Opd))
  | [] => some []
  | (i, x) :: r => (place i).bind fun p => (sParts place r).map ((p.1, p.2, sOpd vs x) :: ·)

def sOp (own : List Nat) (dst : Option Nat) (o : Op) : Option DOp :=
  let s := sOpd vs
  match o with
  | .move x | .assign x => some (.mv (s x))
  | .pick c a b => some (.pick (s c) (s a) (s b))
  | .alloc e => (tZero P e).map .alloc
  | .box _ x => some (.box (s x))
  | .build t ps => match P.underlying t with
    | some (.struct fs) => match fs.toList.mapM (fun f => (tSize P f.type).map fun n => (f.offset, n)) with
      | some places => (tZero P t).bind fun z => (sParts vs (places[·]?) ps.toList).map (.build z)
      | none => none
    | some (.array _ e) => (tSize P e).bind fun n => (tZero P t).bind fun z => (sParts vs (fun i => some (i * n, n)) ps.toList).map (.build z)
    | _ => none
  | .buildSlice t len ps => match P.underlying t with
    | some (.slice e) => (tSize P e).bind fun n => (tZero P e).bind fun z =>
      if n = 0 ∨ len * n > 4096 then none else
      (sParts vs (fun i => some (i * n, n)) ps.toList).map
        (if own.contains (dst.getD 0) then .bsl' n ((List.range (len * n)).map fun j => z.getD (j % z.length) .undef)
         else .bsl n ((List.range (len * n)).map fun j => z.getD (j % z.length) .undef))
    | _ => none
  | .load t a => if tAgg P t then (tSize P t).map (.ldn · (s a)) else if (P.underlying t).isSome then some (.ld (s a)) else none
  | .store t a x => (tSize P t).map fun n => if n = 1 then .st (s a) (s x) else .stn n (s a) (s x)
  | .nilCheck x => some (.nilc (s x))
  | .binOp op t x y _ => match op with
    | .eql | .neq => match P.underlying t with
      | some .bool => some (.beq (op == .neq) (s x) (s y))
      | some (.int _) | some .string => some (.bin op (s x) (s y))
      | _ => none
    | _ => some (.bin op (s x) (s y))
  | .unOp op _ x => some (.un op (s x))
  | .convert src dst x => match P.underlying src, P.underlying dst with
    | some (.int _), some (.int k) => some (.conv k (s x))
    | some .string, some .string => some (.s2s (s x))
    | some .string, some (.slice e) => if P.underlying e matches some (.int .u8) then some (.s2b (s x)) else none
    | some (.slice e), some .string => if P.underlying e matches some (.int .u8) then some (.b2s (s x)) else none
    | _, _ => none
  | .makeSlice t l c => match P.underlying t with
    | some (.slice e) => (P.info? e).bind fun i => (tZero P e).bind fun z => if i.size = 0 ∨ i.bytes = 0 ∨ z.length ≠ i.size then none else some (.mks i.size i.bytes z (s l) (s c))
    | _ => none
  | .slice t x lo hi mx => if mx.isSome then none else match P.underlying t with
    | some (.slice e) => (tSize P e).bind fun n => if n = 0 then none else some (.slc n (s x) (lo.map s) (hi.map s))
    | some .string => some (.slcS (s x) (lo.map s) (hi.map s))
    | _ => none
  | .fieldAddr t x f => match P.underlying t with
    | some (.struct fs) => (fs[f]?).bind fun g => (tSize P g.type).bind fun n => if n = 0 then none else some (.fad g.offset (s x))
    | _ => none
  | .field t x f => match P.underlying t with
    | some (.struct fs) => (fs[f]?).bind fun g => (tSize P g.type).bind fun n =>
      if tAgg P g.type then some (.fldn g.offset n (s x)) else if (P.underlying g.type).isSome then some (.fld g.offset (s x)) else none
    | _ => none
  | .indexAddr t x i => match P.underlying t with
    | some (.slice e) => (tSize P e).bind fun n => if n = 0 then none else some (.iad n (s x) (s i))
    | some (.array len e) => (tSize P e).bind fun n => if n = 0 then none else some (.iaa len n (s x) (s i))
    | _ => none
  | .index t x i => match P.underlying t with
    | some .string => some (.idx (s x) (s i))
    | _ => none
  | .extract t i => some (.ext (s t) i)
  | .makeInterface t x => match P.underlying t with
    | some (.interface _) | none => none
    | some _ => some (.mki t (s x))
  | .panic x => some (.pan (s x))
  | .call c => match c.callee with
    | .value (.func f) => match P.funcs[f]? with
      | some fn => if fn.body.isSome && fn.name != "runtime.NumGoroutine" then some (.call f (c.args.toList.map s)) else none
      | none => none
    | .builtin .len => match c.args.toList, c.argTypes.toList with
      | [x], [t] => match P.underlying t with
        | some .string => some (.lenS (s x))
        | some (.slice e) => (tSize P e).bind fun n => if n = 0 then none else some (.len n (s x))
        | _ => none
      | _, _ => none
    | .builtin .append => match c.args.toList, c.argTypes.toList with
      | [x, y], [t, u] => match P.underlying t, P.underlying u with
        | some (.slice e), some (.slice _) => if t = u then (P.info? e).bind fun i => if i.size = 0 ∨ i.zero.map (·.cells.size) ≠ some i.size then none else some (.app i.size i.bytes (s x) (s y)) else none
        | _, _ => none
      | _, _ => none
    | .builtin .min => match c.args.toList with
      | [x, y] => some (.min2 (s x) (s y))
      | _ => none
    | .builtin .max => match c.args.toList with
      | [x, y] => some (.max2 (s x) (s y))
      | _ => none
    | _ => none
  | _ => none

/-- Guards speak of the temporary of an operation of the same region. -/
def sGuard (ops : Array Oper) : Option (Nat × Bool) → Option (Option (Opd × Bool))
  | none => some none
  | some (j, b) => ((ops[j]?).bind (·.dst)).map fun k => some (sOpd vs (.tmp k), b)

def dOk (n : Nat) : Option Nat → Bool
  | some k => decide (k < n)
  | none => true

def sOper (own : List Nat) (n : Nat) (ops : Array Oper) (o : Oper) : Option DOper :=
  (sOp P vs own o.dst o.op).bind fun p => (sGuard vs ops o.guard).bind fun g =>
    if dOk n o.dst then some ⟨sDst vs o.dst, p, g⟩ else none

def sOpers (own : List Nat) (n : Nat) (ops : Array Oper) : List Oper → Option (List DOper)
  | [] => some []
  | o :: r => (sOper P vs own n ops o).bind fun d => (sOpers own n ops r).map (d :: ·)

end strip

/-! ### What an operation does to data -/

/-- A datum of one cell that is known. -/
def DV.one : DV → Bool
  | .undef | .agg _ | .tup _ => false
  | _ => true
def DV.cells? : DV → Option (List DV)
  | .agg cs => if cs.all DV.one then some cs else none
  | d => if d.one then some [d] else none

open Classical in
/-- A result under a condition. -/
noncomputable def gd {α : Type} (c : Prop) (x : Option α) : Option α := if c then x else none

inductive Eff where
  | no
  | set (o : Nat) (cells : List DV)
  | new (o : Nat) (cells : List DV)
  | app (o : Nat) (cells : List DV)

def Eff.onS : Eff → (Nat → DV) → (Nat → DV)
  | .app o _, σ => purgeS o σ
  | _, σ => σ
def Eff.onH : Eff → Heap → Heap
  | .no, h => h
  | .set o c, h => h.upd o (some c)
  | .new o c, h => h.upd o (some c)
  | .app o c, h => (h.purge o).upd o (some c)

/-- The bit operations on integers of one kind. -/
def bitE (op : BinOp) (k : IntKind) (a b : Int) : Int :=
  let x := BitVec.ofInt k.bits a
  let y := BitVec.ofInt k.bits b
  k.wrap (match op with
    | .and => ((x &&& y).toNat : Int)
    | .or => ((x ||| y).toNat : Int)
    | .xor => ((x ^^^ y).toNat : Int)
    | _ => ((x &&& ~~~y).toNat : Int))

noncomputable def binE (op : BinOp) : DV → DV → Option DV
  | .int k a, .int j b => match op with
    | .add => gd (k = j) (some (.int k (k.wrap (a + b))))
    | .sub => gd (k = j) (some (.int k (k.wrap (a - b))))
    | .mul => gd (k = j) (some (.int k (k.wrap (a * b))))
    | .quo => gd (k = j ∧ b ≠ 0) (some (.int k (k.wrap (a.tdiv b))))
    | .rem => gd (k = j ∧ b ≠ 0) (some (.int k (a.tmod b)))
    | .and => gd (k = j) (some (.int k (bitE .and k a b)))
    | .or => gd (k = j) (some (.int k (bitE .or k a b)))
    | .xor => gd (k = j) (some (.int k (bitE .xor k a b)))
    | .andNot => gd (k = j) (some (.int k (bitE .andNot k a b)))
    | .shl => gd (0 ≤ b) (some (.int k (k.wrap (a * 2 ^ (min b.toNat k.bits)))))
    | .shr => gd (0 ≤ b) (some (.int k (a.fdiv (2 ^ (min b.toNat k.bits)))))
    | .eql => gd (k = j) (some (.bool (decide (a = b))))
    | .neq => gd (k = j) (some (.bool (decide (¬ a = b))))
    | .lss => gd (k = j) (some (.bool (decide (a < b))))
    | .leq => gd (k = j) (some (.bool (decide (a ≤ b))))
    | .gtr => gd (k = j) (some (.bool (decide (b < a))))
    | .geq => gd (k = j) (some (.bool (decide (b ≤ a))))
  | .str a, .str b => match op with
    | .add => gd (a.length + b.length ≤ 9223372036854775807) (some (.str (a ++ b)))
    | .eql => some (.bool (decide (a = b)))
    | .neq => some (.bool (decide (¬ a = b)))
    | .lss => some (.bool (Op.bytesLess a b))
    | .leq => some (.bool (Op.bytesLess a b || decide (a = b)))
    | .gtr => some (.bool (!(Op.bytesLess a b || decide (a = b))))
    | .geq => some (.bool (!Op.bytesLess a b))
    | _ => none
  | _, _ => none

def unE (op : UnOp) : DV → Option DV
  | .int k a => match op with
    | .neg => some (.int k (k.wrap (0 - a)))
    | .xor => some (.int k (bitE .xor k (if k.signed then -1 else k.max) a))
    | _ => none
  | .bool b => match op with
    | .not => some (.bool (!b))
    | _ => none
  | _ => none

/-- How many elements of 'sz' cells. -/
def cnt (sz : Nat) (xs : List DV) : Nat := if sz = 1 then xs.length else xs.length / sz
def byteD (b : UInt8) : DV := .int .u8 b.toNat
def byteOf : DV → Option UInt8
  | .int .u8 n => some (UInt8.ofNat n.toNat)
  | _ => none
def bytesOf : List DV → Option (List UInt8)
  | [] => some []
  | d :: r => (byteOf d).bind fun b => (bytesOf r).map (b :: ·)
def rep (l : Nat) : List DV → List DV
  | [z] => List.replicate l z
  | z => (List.replicate l z).flatten

/-- Cells laid over others. -/
def spl (cells : List DV) (off n : Nat) : List DV → List DV
  | [c] => cells.set off c
  | cs => cells.take off ++ cs ++ cells.drop (off + n)
/-- The cells of a row into which parts are laid. -/
def laid (cells : List DV) : List (Nat × Nat × DV) → Option (List DV)
  | [] => some cells
  | (off, n, d) :: r => d.cells?.bind fun cs =>
    if cs.length = n ∧ off + n ≤ cells.length then laid (spl cells off n cs) r else none

section
variable (nb : Nat) (dst : Option Nat) (e : Opd → DV) (h : Heap)

def freshE : Option Nat := dst.bind fun k => if (h (nb + k)).isNone then some (nb + k) else none

noncomputable def boundE (n : Nat) : Option Opd → Nat → Option Nat
  | none, d => some d
  | some x, _ => match e x with
    | .int _ i => gd (0 ≤ i ∧ i ≤ n) (some i.toNat)
    | _ => none

/-- The cells that are appended. -/
noncomputable def newsE (sz : Nat) : DV → Option (List DV)
  | .sl s ys => gd (s = sz) (some ys)
  | .nils => some []
  | .osl s o off len => (h o).bind fun cs => gd (s = sz ∧ off + len * sz ≤ cs.length) (some ((cs.drop off).take (len * sz)))
  | _ => none

noncomputable def opE : DOp → Option (DV × Eff)
  | .mv x => some (e x, .no)
  | .pick c a b => match e c with
    | .bool t => some (if t then e a else e b, .no)
    | _ => none
  | .alloc z => (freshE nb dst h).map fun o => (.ptr o 0, .new o z)
  | .box x => (e x).cells?.bind fun cs => (freshE nb dst h).map fun o => (.ptr o 0, .new o cs)
  | .build z ps => (laid z (ps.map fun p => (p.1, p.2.1, e p.2.2))).map fun cs => (.agg cs, .no)
  | .bsl sz z ps => (laid z (ps.map fun p => (p.1, p.2.1, e p.2.2))).bind fun cs => gd (∀ d ∈ cs, d.rf = true) (some (.sl sz cs, .no))
  | .bsl' sz z ps => (laid z (ps.map fun p => (p.1, p.2.1, e p.2.2))).bind fun cs => (freshE nb dst h).map fun o => (.osl sz o 0 (cnt sz z), .new o cs)
  | .ld x => match e x with
    | .el xs i => gd (i < xs.length) (some (xs.getD i .undef, .no))
    | .ptr o off => (h o).bind fun cs => gd (off < cs.length) (some (cs.getD off .undef, .no))
    | _ => none
  | .ldn n x => match e x with
    | .el xs i => gd (i + n ≤ xs.length) (some (.agg ((xs.drop i).take n), .no))
    | .ptr o off => (h o).bind fun cs => gd (off + n ≤ cs.length) (some (.agg ((cs.drop off).take n), .no))
    | _ => none
  | .st x v => match e x with
    | .ptr o off => (h o).bind fun cs => gd ((e v).one = true ∧ off < cs.length) (some (.tup [], .set o (cs.set off (e v))))
    | _ => none
  | .stn n x v => match e x with
    | .ptr o off => (h o).bind fun cs => (e v).cells?.bind fun cv => gd (cv.length = n ∧ off + n ≤ cs.length) (some (.tup [], .set o (cs.take off ++ cv ++ cs.drop (off + n))))
    | _ => none
  | .nilc x => match e x with
    | .ptr o off => some (.ptr o off, .no)
    | .el xs i => some (.el xs i, .no)
    | _ => none
  | .bin op x y => (binE op (e x) (e y)).map fun d => (d, .no)
  | .beq neg x y => match e x, e y with
    | .bool a, .bool b => some (.bool (if neg then !(a == b) else a == b), .no)
    | _, _ => none
  | .un op x => (unE op (e x)).map fun d => (d, .no)
  | .conv k x => match e x with
    | .int _ n => some (.int k (k.wrap n), .no)
    | _ => none
  | .s2b x => match e x with
    | .str l => some (.sl 1 (l.map byteD), .no)
    | _ => none
  | .b2s x => match e x with
    | .nils => some (.str [], .no)
    | .sl sz xs => gd (sz = 1) ((bytesOf xs).map fun l => (.str l, .no))
    | .osl sz o off len => (h o).bind fun cs => gd (sz = 1 ∧ off + len ≤ cs.length) ((bytesOf ((cs.drop off).take len)).map fun l => (.str l, .no))
    | _ => none
  | .mks sz bytes z l c => match e l, e c with
    | .int _ a, .int _ b => gd (0 ≤ a ∧ a ≤ b ∧ b * bytes ≤ 281474976710656) ((freshE nb dst h).map fun o => (.osl sz o 0 a.toNat, .new o (rep a.toNat z)))
    | _, _ => none
  | .slc sz x lo hi => match e x with
    | .sl s xs => gd (s = sz) ((boundE e (cnt sz xs) hi (cnt sz xs)).bind fun b => (boundE e b lo 0).map fun a => (.sl sz ((xs.take (b * sz)).drop (a * sz)), .no))
    | .osl s o off len => gd (s = sz) ((boundE e len hi len).bind fun b => (boundE e b lo 0).bind fun a => gd (a < b) (some (.osl sz o (off + a * sz) (b - a), .no)))
    | .nils => (boundE e 0 hi 0).bind fun b => (boundE e b lo 0).map fun _ => (.nils, .no)
    | _ => none
  | .slcS x lo hi => match e x with
    | .str l => (boundE e l.length hi l.length).bind fun b => (boundE e b lo 0).map fun a => (.str ((l.take b).drop a), .no)
    | _ => none
  | .fad off x => match e x with
    | .ptr o k => some (.ptr o (k + off), .no)
    | .el xs i => some (.el xs (i + off), .no)
    | _ => none
  | .fld off x => match e x with
    | .agg cs => gd (off < cs.length) (some (cs.getD off .undef, .no))
    | _ => none
  | .fldn off n x => match e x with
    | .agg cs => gd (off + n ≤ cs.length) (some (.agg ((cs.drop off).take n), .no))
    | _ => none
  | .iad sz x i => match e x, e i with
    | .sl s xs, .int _ n => gd (s = sz ∧ 0 ≤ n ∧ (n.toNat + 1) * sz ≤ xs.length) (some (.el xs (n.toNat * sz), .no))
    | .osl s o off len, .int _ n => gd (s = sz ∧ 0 ≤ n ∧ n < len) (some (.ptr o (off + n.toNat * sz), .no))
    | _, _ => none
  | .iaa len sz x i => match e x, e i with
    | .ptr o k, .int _ n => gd (0 ≤ n ∧ n < len) (some (.ptr o (k + n.toNat * sz), .no))
    | .el xs k, .int _ n => gd (0 ≤ n ∧ n < len) (some (.el xs (k + n.toNat * sz), .no))
    | _, _ => none
  | .idx x i => match e x, e i with
    | .str l, .int _ n => gd (0 ≤ n ∧ n.toNat < l.length) (some (byteD (l.getD n.toNat 0), .no))
    | _, _ => none
  | .ext x i => match e x with
    | .tup ds => gd (i < ds.length) (some (ds.getD i .undef, .no))
    | _ => none
  | .s2s x => match e x with
    | .str l => some (.str l, .no)
    | _ => none
  | .lenS x => match e x with
    | .str l => some (.int .i64 l.length, .no)
    | _ => none
  | .len sz x => match e x with
    | .sl s xs => gd (s = sz) (some (.int .i64 (cnt sz xs), .no))
    | .osl _ _ _ n => some (.int .i64 n, .no)
    | .nils => some (.int .i64 0, .no)
    | _ => none
  | .app sz bytes s x => match e s with
    | .nils => (newsE h sz (e x)).bind fun ys => gd (ys.length * bytes ≤ 140737488355328 ∧ ys.length ≤ 9223372036854775807 ∧ ∀ d ∈ ys, d.one = true)
        ((freshE nb dst h).map fun o => (.osl sz o 0 (cnt sz ys), .app o (ys.map (purge o))))
    | .osl s' o off len => (h o).bind fun cs => (newsE h sz (e x)).bind fun ys =>
        gd (s' = sz ∧ off = 0 ∧ cs.length = len * sz ∧ (cs.length + ys.length) * bytes ≤ 140737488355328 ∧ cs.length + ys.length ≤ 9223372036854775807 ∧ ∀ d ∈ ys, d.one = true)
          (some (.osl sz o 0 (len + cnt sz ys), .app o ((cs ++ ys).map (purge o))))
    | _ => none
  | .mki t x => gd ((e x).rf = true) (some (.iface t (e x), .no))
  | .min2 x y => match e x, e y with
    | .int k a, .int _ b => some (.int k (if b < a then b else a), .no)
    | _, _ => none
  | .max2 x y => match e x, e y with
    | .int k a, .int _ b => some (.int k (if b > a then b else a), .no)
    | _, _ => none
  | .call _ _ => none
  | .pan _ => none
end
end Go.Dat
