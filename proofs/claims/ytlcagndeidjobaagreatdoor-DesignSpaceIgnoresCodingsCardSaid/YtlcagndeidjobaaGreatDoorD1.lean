/- Lemmas of the walk; no conditions beyond those that each states. -/
import Derived.WalkKit
import Derived.Laws.CopyRow
import Derived.Laws.MakeOwn
import Derived.Laws.StructEq
set_option linter.unusedSimpArgs false
set_option linter.unusedVariables false
set_option linter.unnecessarySimpa false
set_option maxHeartbeats 4000000
universe u v
theorem zT9 {p:Prop} [Decidable p] (h:p:=by omega):decide p=true:=decide_eq_true h
theorem zF9 {p:Prop} [Decidable p] (h:¬p:=by omega):decide p=false:=decide_eq_false h
theorem zO1:type_of% @List.getD_eq_getElem?_getD.{u}:=@List.getD_eq_getElem?_getD
theorem zO2:type_of% @Option.map_eq_some_iff.{u,v}:=@Option.map_eq_some_iff
theorem zO3:type_of% @Option.bind_eq_some_iff.{u,v}:=@Option.bind_eq_some_iff
theorem zO4:type_of% @List.getElem?_eq_getElem.{u}:=@List.getElem?_eq_getElem
namespace Go.Dat
open Go
inductive DV where
 | undef
 | int (k:IntKind) (n:Int)
 | bool (b:Bool)
 | str (l:List UInt8)
 | nilp
 | nils
 | nili
 | fn (f:Nat)
 | sl (sz:Nat) (xs:List DV)
 | el (xs:List DV) (i:Nat)
 | osl (sz o off len:Nat)
 | ptr (o off:Nat)
 | agg (cs:List DV)
 | tup (vs:List DV)
 | iface (t:Nat) (d:DV)
 | clo (f:Nat) (cs:List DV)
 | raw (v:Value)
 deriving Inhabited
theorem z5w (a:Addr) (n:Nat):(a.add n).block=a.block:=by unfold Addr.add;split<;>rfl
theorem add_add (a:Addr) (i j:Nat):(a.add i).add j=a.add (i+j):=by
 unfold Addr.add
 by_cases hi:i=0<;>by_cases hj:j=0<;>simp [hi,hj,Nat.add_assoc]
theorem add_lit (b off k:Nat):(⟨b,off,none⟩:Addr).add k=⟨b,off+k,none⟩:=by
 unfold Addr.add
 by_cases hk:k=0<;>simp [hk]
inductive VI (w:World) (A:Nat→Prop):DV→Value→Prop where
 | undef (v:Value):VI w A .undef v
 | int (k:IntKind) (n:Int):VI w A (.int k n) (.int k n)
 | bool (b:Bool):VI w A (.bool b) (.bool b)
 | str (l:List UInt8):VI w A (.str l) (.string ⟨l.toArray⟩)
 | nilp:VI w A .nilp (.pointer none)
 | nils:VI w A .nils (.slice none 0 0)
 | nili:VI w A .nili .nilIface
 | fn (f:Nat):VI w A (.fn f) (.func (.func f) #[] #[])
 | sl0 (sz:Nat) (a:Option Addr) (c:Nat):VI w A (.sl sz []) (.slice a 0 c)
 | sl {sz:Nat} {xs:List DV} {n c:Nat} {ad:Addr} (vs:Nat→Value) (hx:xs≠[]) (hn:xs.length=n*sz) (hc:n≤c) (hA:¬A ad.block)
   (hcell:∀k d,xs[k]? = some d→w.cell? (ad.add k)=some (vs k)) (hv:∀k d,xs[k]? = some d→VI w A d (vs k)):VI w A (.sl sz xs) (.slice (some ad) n c)
 | el {xs:List DV} {i:Nat} {ad:Addr} (vs:Nat→Value) (hx:xs≠[]) (hA:¬A ad.block)
   (hcell:∀k d,xs[k]? = some d→w.cell? (ad.add k)=some (vs k)) (hv:∀k d,xs[k]? = some d→VI w A d (vs k)):VI w A (.el xs i) (.pointer (some (ad.add i)))
 | agg {cs:List DV} {vs:Array Value} (hl:cs.length=vs.size) (h:∀(k:Nat) d v,cs[k]? = some d→vs[k]? = some v→VI w A d v):VI w A (.agg cs) (.agg vs)
 | tup {cs:List DV} {vs:Array Value} (hl:cs.length=vs.size) (h:∀(k:Nat) d v,cs[k]? = some d→vs[k]? = some v→VI w A d v):VI w A (.tup cs) (.tuple vs)
 | iface {t:Nat} {d:DV} {v:Value} (h:VI w A d v):VI w A (.iface t d) (.iface t v)
 | clo {f:Nat} {cs:List DV} {vs:Array Value} (hl:cs.length=vs.size) (h:∀(k:Nat) d v,cs[k]? = some d→vs[k]? = some v→VI w A d v):VI w A (.clo f cs) (.func (.func f) #[] vs)
 | raw (v:Value):VI w A (.raw v) v
theorem x6h {w:World} {a:Addr} {v:Value} (h:w.cell? a=some v):a.block<w.heap.size:=World.block_lt_of_cell? w a h
theorem VI.mono {w w':World} {A A':Nat→Prop} (h:∀b,b<w.heap.size→¬A b→w'.heap[b]? = w.heap[b]? ∧ ¬A' b) {d:DV} {v:Value}
  (hv:VI w A d v):VI w' A' d v:=by
 have row:∀{xs:List DV} {ad:Addr} {vs:Nat→Value},xs≠[]→¬A ad.block→(∀k d,xs[k]? = some d→w.cell? (ad.add k)=some (vs k)) →
   ¬ A' ad.block∧∀k d,xs[k]? = some d→w'.cell? (ad.add k)=some (vs k):=by
  intro xs ad vs hx hA hc
  obtain ⟨x,xs,rfl⟩:=List.exists_cons_of_ne_nil hx
  have hlt:ad.block<w.heap.size:=by
   have:=x6h (hc 0 x rfl)
   rwa [z5w] at this
  have hb:=h _ hlt hA
  refine ⟨hb.2,fun k d hk=>?_⟩
  rw [World.cell?_of_block (w:=w) (by rw [z5w];exact hb.1)]
  exact hc k d hk
 induction hv with
 | undef v=>exact .undef v
 | int k n=>exact .int k n
 | bool b=>exact .bool b
 | str l=>exact .str l
 | nilp=>exact .nilp
 | nils=>exact .nils
 | nili=>exact .nili
 | fn f=>exact .fn f
 | sl0 sz a c=>exact .sl0 sz a c
 | sl vs hx hn hc hA hcell _ ih=>exact .sl vs hx hn hc (row hx hA hcell).1 (row hx hA hcell).2 ih
 | el vs hx hA hcell _ ih=>exact .el vs hx (row hx hA hcell).1 (row hx hA hcell).2 ih
 | agg hl _ ih=>exact .agg hl ih
 | tup hl _ ih=>exact .tup hl ih
 | iface _ ih=>exact .iface ih
 | clo hl _ ih=>exact .clo hl ih
 | raw v=>exact .raw v
inductive V (w:World) (L:Nat→Option Nat) (A:Nat→Prop):DV→Value→Prop where
 | imm {d:DV} {v:Value} (h:VI w A d v):V w L A d v
 | ptr {o off b:Nat} (h:L o=some b):V w L A (.ptr o off) (.pointer (some ⟨b,off,none⟩))
 | osl {sz o off n c b m:Nat} {T:TypeId} (hL:L o=some b) (hc:n≤c) (hs:w.shape? b=some (T,m)) (hm:off+c*sz≤m) :
   V w L A (.osl sz o off n) (.slice (some ⟨b,off,none⟩) n c)
 | osl0 (sz o off:Nat):V w L A (.osl sz o off 0) (.slice none 0 0)
 | agg {cs:List DV} {vs:Array Value} (hl:cs.length=vs.size) (h:∀(k:Nat) d v,cs[k]? = some d→vs[k]? = some v→V w L A d v):V w L A (.agg cs) (.agg vs)
 | tup {cs:List DV} {vs:Array Value} (hl:cs.length=vs.size) (h:∀(k:Nat) d v,cs[k]? = some d→vs[k]? = some v→V w L A d v):V w L A (.tup cs) (.tuple vs)
mutual
def DV.has (o:Nat):DV→Bool
 | .ptr p _=>p == o
 | .osl _ p _ _=>p == o
 | .agg cs=>DV.hasL o cs
 | .tup cs=>DV.hasL o cs
 | _=>false
def DV.hasL (o:Nat):List DV→Bool
 | []=>false
 | d::r=>d.has o || DV.hasL o r
end
mutual
def DV.rf:DV→Bool
 | .ptr _ _=>false
 | .osl _ _ _ _=>false
 | .agg cs=>DV.rfL cs
 | .tup cs=>DV.rfL cs
 | _=>true
def DV.rfL:List DV→Bool
 | []=>true
 | d::r=>d.rf && DV.rfL r
end
theorem DV.hasL_any (o:Nat):∀cs:List DV,DV.hasL o cs=cs.any (·.has o)
 | []=>rfl
 | d::r=>by simp [DV.hasL,DV.hasL_any o r]
theorem DV.rfL_all:∀cs:List DV,DV.rfL cs=cs.all (·.rf)
 | []=>rfl
 | d::r=>by simp [DV.rfL,DV.rfL_all r]
theorem DV.has_agg (o:Nat) (cs:List DV):(DV.agg cs).has o=cs.any (·.has o):=by rw [DV.has,DV.hasL_any]
theorem DV.has_tup (o:Nat) (cs:List DV):(DV.tup cs).has o=cs.any (·.has o):=by rw [DV.has,DV.hasL_any]
theorem DV.rf_agg (cs:List DV):(DV.agg cs).rf=cs.all (·.rf):=by rw [DV.rf,DV.rfL_all]
theorem DV.rf_tup (cs:List DV):(DV.tup cs).rf=cs.all (·.rf):=by rw [DV.rf,DV.rfL_all]
theorem V.rf_imm {w:World} {L:Nat→Option Nat} {A:Nat→Prop} {d:DV} {v:Value} (h:V w L A d v) (hr:d.rf=true):VI w A d v:=by
 induction h with
 | imm h=>exact h
 | ptr h=>simp [DV.rf] at hr
 | osl=>simp [DV.rf] at hr
 | osl0=>simp [DV.rf] at hr
 | agg hl _ ih =>
  rw [DV.rf_agg,List.all_eq_true] at hr
  exact .agg hl fun k d v hd hv=>ih k d v hd hv (hr d (List.mem_of_getElem? hd))
 | tup hl _ ih =>
  rw [DV.rf_tup,List.all_eq_true] at hr
  exact .tup hl fun k d v hd hv=>ih k d v hd hv (hr d (List.mem_of_getElem? hd))
theorem V.mono {w w':World} {L L':Nat→Option Nat} {A A':Nat→Prop} {d:DV} {v:Value}
  (hA:∀b,b<w.heap.size→¬A b→w'.heap[b]? = w.heap[b]? ∧ ¬A' b)
  (h:V w L A d v) (hL:∀o b,d.has o=true→L o=some b→L' o=some b∧w'.shape? b=w.shape? b):V w' L' A' d v:=by
 induction h with
 | imm h=>exact .imm (h.mono hA)
 | ptr h=>exact .ptr (hL _ _ (by simp [DV.has]) h).1
 | osl h hc hs hm =>
  obtain ⟨h1,h2⟩:=hL _ _ (by simp [DV.has]) h
  exact .osl h1 hc (h2.trans hs) hm
 | osl0=>exact .osl0 _ _ _
 | agg hl _ ih=>exact .agg hl fun k d v hd hv=>ih k d v hd hv fun o b ho=>hL o b (by rw [DV.has_agg,List.any_eq_true];exact ⟨d,List.mem_of_getElem? hd,ho⟩)
 | tup hl _ ih=>exact .tup hl fun k d v hd hv=>ih k d v hd hv fun o b ho=>hL o b (by rw [DV.has_tup,List.any_eq_true];exact ⟨d,List.mem_of_getElem? hd,ho⟩)
abbrev Heap:=Nat→Option (List DV)
def Heap.upd (h:Heap) (o:Nat) (c:Option (List DV)):Heap:=fun p=>if p=o then c else h p
def z1O (L:Nat→Option Nat) (o:Nat) (c:Option Nat):Nat→Option Nat:=fun p=>if p=o then c else L p
def Av (S:Nat→Prop) (L:Nat→Option Nat) (b:Nat):Prop:=S b∨∃o,L o=some b
structure Ext (S:Nat→Prop) (w w':World):Prop where
 os:w'.os=w.os
 tape:w'.tape=w.tape
 output:w'.output=w.output
 size:w.heap.size≤w'.heap.size
 block:∀b,b<w.heap.size→¬S b→w'.heap[b]? = w.heap[b]?
theorem Ext.refl (S:Nat→Prop) (w:World):Ext S w w:=⟨rfl,rfl,rfl,Nat.le_refl _,fun _ _ _=>rfl⟩
theorem Ext.trans {S:Nat→Prop} {a b c:World} (h:Ext S a b) (k:Ext S b c):Ext S a c :=
 ⟨k.os.trans h.os,k.tape.trans h.tape,k.output.trans h.output,Nat.le_trans h.size k.size,
  fun i hi hS=>(k.block i (Nat.lt_of_lt_of_le hi h.size) hS).trans (h.block i hi hS)⟩
theorem Ext.mono {S T:Nat→Prop} {a b:World} (h:Ext S a b) (hT:∀k,k<a.heap.size→S k→T k):Ext T a b :=
 ⟨h.os,h.tape,h.output,h.size,fun i hi hn=>h.block i hi fun hs=>hn (hT i hi hs)⟩
theorem Ext.drew (S:Nat→Prop) (w:World):Ext S w w.drew:=⟨rfl,rfl,rfl,Nat.le_refl _,fun _ _ _=>rfl⟩
theorem Ext.alloc (S:Nat→Prop) (w:World) (o:Obj):Ext S w (w.alloc o) :=
 ⟨rfl,rfl,rfl,by simp,fun b hb _=>Go.RowKit.Below.heap_alloc w o b hb⟩
def TyC (o T m:Nat):Prop:=(2097152≤o→T=(o - 2097152) / 4096∧m=(o - 2097152) / 256 % 16)∧(786432≤o→o<851968→T=(o - 786432) / 16)
def x8x (w:World) (o b:Nat):Prop:=(2097152≤o∨(786432≤o∧o<851968))→∃T m,w.shape? b=some (T,m)∧TyC o T m
theorem x8x.imm_shape {w w':World} {o b:Nat} (h:x8x w o b) (e:w'.shape? b=w.shape? b):x8x w' o b:=fun hg=>by rw [e];exact h hg
def w2K (p q:Nat):Prop:=((2097152≤p∨(786432≤p∧p<851968))↔(2097152≤q∨(786432≤q∧q<851968)))∧∀T m,TyC p T m↔TyC q T m
theorem x8x.rn {w:World} {p q b:Nat} (h:x8x w p b) (e:w2K p q):x8x w q b:=fun hg=>by
 obtain ⟨T,m,h1,h2⟩:=h (e.1.2 hg)
 exact ⟨T,m,h1,(e.2 T m).1 h2⟩
theorem w2K.symm {p q:Nat} (h:w2K p q):w2K q p:=⟨h.1.symm,fun T m=>(h.2 T m).symm⟩
def y0x (o:Nat):Prop:=o<786432∨(851968≤o∧o<2097152)
instance (o:Nat):Decidable (y0x o):=by unfold y0x;infer_instance
theorem y0x.eq {p q:Nat} (h1:y0x p) (h2:y0x q):w2K p q:=by
 unfold y0x at h1 h2
 refine ⟨by omega,fun T m=>⟨fun _=>⟨by omega,by omega⟩,fun _=>⟨by omega,by omega⟩⟩⟩
theorem y0x.ok {o:Nat} (h:y0x o) (w:World) (b:Nat):x8x w o b:=fun hg=>by unfold y0x at h;omega
structure HOK (w:World) (S:Nat→Prop) (L:Nat→Option Nat) (h:Heap):Prop where
 dom:∀o b,L o=some b→∃cells,h o=some cells
 obj:∀o cells,h o=some cells→(L o=none∧cells=[])∨∃b cs T,L o=some b∧w.heap[b]? = some (.cells cs T (0,0))∧cells.length≤cs.size ∧
  ∀ (k:Nat) d v,cells[k]? = some d→cs[k]? = some v→V w L (Av S L) d v
 inj:∀o p b,L o=some b→L p=some b→o=p
 notS:∀o b,L o=some b→¬S b
 ty:∀o b,L o=some b→x8x w o b
theorem HOK.at_ {w:World} {S:Nat→Prop} {L:Nat→Option Nat} {h:Heap} (H:HOK w S L h) {o b:Nat} (ho:L o=some b) :
  ∃ cells cs T,h o=some cells∧w.heap[b]? = some (.cells cs T (0,0))∧cells.length≤cs.size ∧
   ∀ (k:Nat) d v,cells[k]? = some d→cs[k]? = some v→V w L (Av S L) d v:=by
 obtain ⟨cells,hc⟩:=H.dom o b ho
 rcases H.obj o cells hc with ⟨hn,_⟩|⟨b',cs,T,hL,rest⟩
 ·rw [ho] at hn;cases hn
 ·rw [ho] at hL;cases hL;exact ⟨cells,cs,T,hc,rest⟩
theorem HOK.lt {w:World} {S:Nat→Prop} {L:Nat→Option Nat} {h:Heap} (H:HOK w S L h) {o b:Nat} (ho:L o=some b):b<w.heap.size:=by
 obtain ⟨_,_,_,_,hb,_⟩:=H.at_ ho
 exact (Array.getElem?_eq_some_iff.1 hb).1
theorem z0A {w w':World} {b:Nat} (h:w'.heap[b]? = w.heap[b]?):w'.shape? b=w.shape? b:=by simp [World.shape?,h]
structure Cx where
 S:Nat→Prop
 w0:World
 P:Nat→Prop
 n:Nat
 K:Nat→Option Nat
 D:List Deferred:=[]
structure R (G:Cx) (L:Nat→Option Nat) (σ:Nat→DV) (h:Heap) (a:Act) (w:World):Prop where
 size:a.tmps.size=G.n
 defers:a.defers=G.D
 slots:∀s,V w L (Av G.S L) (σ s) (a.tmps.getD s undef)
 heap:HOK w G.S L h
 ext:Ext G.P G.w0 w
 sLt:∀b,G.S b→b<w.heap.size
 own:∀o b,L o=some b→G.P b∨G.w0.heap.size≤b
 keep:∀o b,G.K o=some b→L o=some b∧1048576≤o
 shp:∀b,b<G.w0.heap.size→w.shape? b=G.w0.shape? b
section
variable {G:Cx} {L:Nat→Option Nat} {σ:Nat→DV} {h:Heap} {a:Act} {w w':World}
theorem V.still {S:Nat→Prop} (H:HOK w S L h) (hx:Ext (fun _=>False) w w') {d:DV} {v:Value} (hv:V w L (Av S L) d v):V w' L (Av S L) d v :=
 hv.mono (fun b hb hA=>⟨hx.block b hb id,hA⟩) fun _ b _ ho=>⟨ho,z0A (hx.block b (H.lt ho) id)⟩
theorem HOK.still {S:Nat→Prop} (H:HOK w S L h) (hx:Ext (fun _=>False) w w'):HOK w' S L h where
 dom:=H.dom
 obj:=fun o cells hc=>by
  rcases H.obj o cells hc with hn|⟨b,cs,T,hL,hb,hl,hv⟩
  ·exact .inl hn
  ·exact .inr ⟨b,cs,T,hL,(hx.block b (H.lt hL) id).trans hb,hl,fun k d v h1 h2=>(hv k d v h1 h2).still H hx⟩
 inj:=H.inj
 notS:=H.notS
 ty:=fun o b hL=>(H.ty o b hL).imm_shape (z0A (hx.block b (H.lt hL) id))
theorem R.still (hR:R G L σ h a w) (hx:Ext (fun _=>False) w w'):R G L σ h a w' where
 size:=hR.size
 defers:=hR.defers
 slots:=fun s=>(hR.slots s).still hR.heap hx
 heap:=hR.heap.still hx
 ext:=hR.ext.trans (hx.mono (fun _ _ h=>h.elim))
 sLt:=fun b hb=>Nat.lt_of_lt_of_le (hR.sLt b hb) hx.size
 own:=hR.own
 keep:=hR.keep
 shp:=fun b hb=>(z0A (hx.block b (Nat.lt_of_lt_of_le hb hR.ext.size) id)).trans (hR.shp b hb)
theorem R.weak {σ':Nat→DV} (hR:R G L σ h a w) (hs:∀s,σ' s=σ s∨σ' s=.undef):R G L σ' h a w :=
 { hR with slots:=fun s=>by rcases hs s with e|e<;>rw [e];exact hR.slots s;exact .imm (.undef _) }
def z1u (σ:Nat→DV) (dst:Option Nat) (d:DV):Nat→DV:=match dst with
 | some k=>fun s=>if s=k then d else σ s
 | none=>σ
theorem R.put (hR:R G L σ h a w) {d:DV} {v:Value} (hv:V w L (Av G.S L) d v) {dst:Option Nat} (hd:∀k,dst=some k→k<G.n) :
  R G L (z1u σ dst d) h (a.put dst v) w:=by
 cases dst with
 | none=>exact hR
 | some k =>
  have hk:=hd k rfl
  refine { hR with size:=by simp [Act.put,hR.size],defers:=hR.defers,slots:=fun s=>?_ }
  simp only [z1u,Act.put]
  by_cases hs:s=k
  ·subst hs
   rw [if_pos rfl]
   have:(a.tmps.setIfInBounds s v).getD s undef=v:=by
    have hlt:s<a.tmps.size:=by rw [hR.size];exact hk
    simp [Array.getD_eq_getD_getElem?,hlt]
   rw [this];exact hv
  ·rw [if_neg hs]
   have:(a.tmps.setIfInBounds k v).getD s undef=a.tmps.getD s undef:=by
    simp [Array.getD_eq_getD_getElem?,Ne.symm hs]
   rw [this];exact hR.slots s
theorem R.lNone (hR:R G L σ h a w) {o:Nat} (ho:h o=none):L o=none:=by
 cases hL:L o with
 | none=>rfl
 | some b =>
  obtain ⟨cells,hc⟩:=hR.heap.dom o b hL
  rw [ho] at hc;cases hc
theorem R.new (hR:R G L σ h a w) {o:Nat} (ho:h o=none) {cells:List DV} {cs:Array Value} (T:TypeId) (hty:TyC o T cs.size) (hl:cells.length≤cs.size)
  (hv:∀(k:Nat) d v,cells[k]? = some d→cs[k]? = some v→V w L (Av G.S L) d v) :
  R G (z1O L o (some w.heap.size)) σ (h.upd o (some cells)) a (w.alloc (.cells cs T)) ∧
  (∀d v,V w L (Av G.S L) d v→V (w.alloc (.cells cs T)) (z1O L o (some w.heap.size)) (Av G.S (z1O L o (some w.heap.size))) d v):=by
 have hLo:=hR.lNone ho
 have hlt:∀p b,L p=some b→b<w.heap.size:=fun p b hp=>hR.heap.lt hp
 have hold:∀p b,L p=some b→z1O L o (some w.heap.size) p=some b:=fun p b hp=>by
  unfold z1O;by_cases e:p=o
  ·subst e;rw [hLo] at hp;cases hp
  ·rw [if_neg e];exact hp
 have hinv:∀p b,z1O L o (some w.heap.size) p=some b→(p=o∧b=w.heap.size)∨(p≠o∧L p=some b):=fun p b hp=>by
  unfold z1O at hp;by_cases e:p=o
  ·rw [if_pos e] at hp;cases hp;exact .inl ⟨e,rfl⟩
  ·rw [if_neg e] at hp;exact .inr ⟨e,hp⟩
 have hV:∀d v,V w L (Av G.S L) d v→V (w.alloc (.cells cs T)) (z1O L o (some w.heap.size)) (Av G.S (z1O L o (some w.heap.size))) d v:=by
  intro d v hd
  refine hd.mono (fun b hb hA=>⟨Go.RowKit.Below.heap_alloc w _ b hb,?_⟩) fun p b _ hp=>⟨hold p b hp,z0A (Go.RowKit.Below.heap_alloc w _ b (hlt p b hp))⟩
  rintro (hS|⟨p,hp⟩)
  ·exact hA (.inl hS)
  ·rcases hinv p b hp with ⟨_,e⟩|⟨_,e⟩
   ·omega
   ·exact hA (.inr ⟨p,e⟩)
 refine ⟨⟨hR.size,hR.defers,fun s=>hV _ _ (hR.slots s),⟨?_,?_,?_,?_,?_⟩,hR.ext.trans (Ext.alloc _ w _),fun b hb=>?_,?_,fun p b hp=>⟨hold p b (hR.keep p b hp).1,(hR.keep p b hp).2⟩,fun b hb=>(z0A (Go.RowKit.Below.heap_alloc w _ b (Nat.lt_of_lt_of_le hb hR.ext.size))).trans (hR.shp b hb)⟩,hV⟩
 ·intro p b hp
  rcases hinv p b hp with ⟨e,_⟩|⟨e,hp'⟩
  ·exact ⟨cells,by simp [Heap.upd,e]⟩
  ·obtain ⟨c,hc⟩:=hR.heap.dom p b hp'
   exact ⟨c,by simp [Heap.upd,e,hc]⟩
 ·intro p c hp
  unfold Heap.upd at hp
  by_cases e:p=o
  ·rw [if_pos e] at hp
   cases hp
   exact .inr ⟨w.heap.size,cs,T,by simp [z1O,e],heap_alloc_new w _,hl,fun k d v h1 h2=>hV _ _ (hv k d v h1 h2)⟩
  ·rw [if_neg e] at hp
   rcases hR.heap.obj p c hp with ⟨h1,h2⟩|⟨b,cs',T',hL,hb,hl',hv'⟩
   ·exact .inl ⟨by simp [z1O,e,h1],h2⟩
   ·exact .inr ⟨b,cs',T',hold p b hL,(Go.RowKit.Below.heap_alloc w _ b (hlt p b hL)).trans hb,hl',fun k d v h1 h2=>hV _ _ (hv' k d v h1 h2)⟩
 ·intro p q b hp hq
  rcases hinv p b hp with ⟨e1,e2⟩|⟨_,hp'⟩<;>rcases hinv q b hq with ⟨e3,e4⟩|⟨_,hq'⟩
  ·rw [e1,e3]
  ·have:=hlt q b hq';omega
  ·have:=hlt p b hp';omega
  ·exact hR.heap.inj p q b hp' hq'
 ·intro p b hp hS
  rcases hinv p b hp with ⟨_,e⟩|⟨_,hp'⟩
  ·have:=hR.sLt b hS;omega
  ·exact hR.heap.notS p b hp' hS
 ·intro p b hp
  rcases hinv p b hp with ⟨e1,e2⟩|⟨_,hp'⟩
  ·subst e1
   subst e2
   intro _
   refine ⟨T,cs.size,?_,hty⟩
   have h1:(w.alloc (.cells cs T)).heap[w.heap.size]? = some (.cells cs T):=heap_alloc_new w _
   simp only [World.shape?,h1]
  ·exact (hR.heap.ty p b hp').imm_shape (z0A (Go.RowKit.Below.heap_alloc w _ b (hlt p b hp')))
 ·have:=hR.sLt b hb;simp;omega
 ·intro p b hp
  rcases hinv p b hp with ⟨_,e⟩|⟨_,hp'⟩
  ·exact .inr (by rw [e];exact hR.ext.size)
  ·exact hR.own p b hp'
theorem R.write (hR:R G L σ h a w) {o b:Nat} (hL:L o=some b) {cells:List DV} {cs cs':Array Value} {T:TypeId} (hb:w.heap[b]? = some (.cells cs T (0,0)))
  (hsz:cs'.size=cs.size) (hl:cells.length≤cs'.size)
  (hv:∀(k:Nat) d v,cells[k]? = some d→cs'[k]? = some v→V w L (Av G.S L) d v)
  (hw:w'={ w with heap:=w.heap.setIfInBounds b (.cells cs' T (0,0)) }) :
  R G L σ (h.upd o (some cells)) a w':=by
 subst hw
 have hblt:=hR.heap.lt hL
 have hoth:∀k,k≠b→(w.heap.setIfInBounds b (.cells cs' T (0,0)))[k]? = w.heap[k]? := fun k hk=>by
  rw [Array.getElem?_setIfInBounds];rw [if_neg (Ne.symm hk)]
 have hsame:(w.heap.setIfInBounds b (.cells cs' T (0,0)))[b]? = some (.cells cs' T (0,0)):=by
  rw [Array.getElem?_setIfInBounds];simp [hblt]
 have hV:∀d v,V w L (Av G.S L) d v→V { w with heap:=w.heap.setIfInBounds b (.cells cs' T (0,0)) } L (Av G.S L) d v:=by
  intro d v hd
  refine hd.mono (fun k hk hA=>⟨hoth k ?_,hA⟩) fun p k _ hp=>⟨hp,?_⟩
  ·rintro rfl;exact hA (.inr ⟨o,hL⟩)
  ·by_cases e:k=b
   ·subst e
    simp [World.shape?,hsame,hb,hsz]
   ·exact z0A (hoth k e)
 refine ⟨hR.size,hR.defers,fun s=>hV _ _ (hR.slots s),⟨?_,?_,hR.heap.inj,hR.heap.notS,fun p k hp=>?_⟩,⟨hR.ext.os,hR.ext.tape,hR.ext.output,by simpa using hR.ext.size,fun k hk hS=>(hoth k ?_).trans (hR.ext.block k hk hS)⟩,fun k hk=>by simpa using hR.sLt k hk,hR.own,hR.keep,fun k hk=>Eq.trans (by
  by_cases e:k=b
  ·subst e
   simp [World.shape?,hsame,hb,hsz]
  ·exact z0A (hoth k e)) (hR.shp k hk)⟩
 ·intro p k hp
  by_cases e:p=o
  ·exact ⟨cells,by simp [Heap.upd,e]⟩
  ·obtain ⟨c,hc⟩:=hR.heap.dom p k hp
   exact ⟨c,by simp [Heap.upd,e,hc]⟩
 ·intro p c hp
  unfold Heap.upd at hp
  by_cases e:p=o
  ·subst e
   rw [if_pos rfl] at hp
   cases hp
   exact .inr ⟨b,cs',T,hL,hsame,hl,fun k d v h1 h2=>hV _ _ (hv k d v h1 h2)⟩
  ·rw [if_neg e] at hp
   rcases hR.heap.obj p c hp with h1|⟨k,cs2,T2,hk,hkb,hl',hv'⟩
   ·exact .inl h1
   ·have hne:k≠b:=fun e'=>e (hR.heap.inj p o k hk (by rw [e'];exact hL))
    exact .inr ⟨k,cs2,T2,hk,(hoth k hne).trans hkb,hl',fun j d v h1 h2=>hV _ _ (hv' j d v h1 h2)⟩
 ·refine (hR.heap.ty p k hp).imm_shape ?_
  by_cases e:k=b
  ·subst e
   simp [World.shape?,hsame,hb,hsz]
  ·exact z0A (hoth k e)
 ·rintro rfl
  rcases hR.own o k hL with h1|h1
  ·exact hS h1
  ·omega
def purge (o:Nat) (d:DV):DV:=if d.has o then .undef else d
def z1d (o:Nat) (σ:Nat→DV):Nat→DV:=fun s=>purge o (σ s)
def Heap.purge (o:Nat) (h:Heap):Heap:=fun p=>(h p).map (·.map (Dat.purge o))
theorem V.purge {L':Nat→Option Nat} {A A':Nat→Prop} (o:Nat) {d:DV} {v:Value} (hv:V w L A d v)
  (hA:∀b,b<w.heap.size→¬A b→w'.heap[b]? = w.heap[b]? ∧ ¬A' b)
  (hL:∀p b,p≠o→L p=some b→L' p=some b∧w'.shape? b=w.shape? b):V w' L' A' (purge o d) v:=by
 unfold Dat.purge
 by_cases hh:d.has o=true
 ·rw [if_pos hh];exact .imm (.undef _)
 ·rw [if_neg hh]
  refine hv.mono hA fun p b hp=>hL p b ?_
  rintro rfl;exact hh hp
theorem R.weakH (o:Nat) (hR:R G L σ h a w):R G L (z1d o σ) (h.purge o) a w:=by
 have hV:∀d v,V w L (Av G.S L) d v→V w L (Av G.S L) (Dat.purge o d) v:=fun d v hd=>by
  unfold Dat.purge;split
  ·exact .imm (.undef _)
  ·exact hd
 refine { hR with slots:=fun s=>hV _ _ (hR.slots s),heap:=⟨?_,?_,hR.heap.inj,hR.heap.notS,hR.heap.ty⟩ }
 ·intro p b hp
  obtain ⟨c,hc⟩:=hR.heap.dom p b hp
  exact ⟨_,by simp only [Heap.purge,hc,Option.map_some];rfl⟩
 ·intro p c hp
  simp only [Heap.purge,zO2] at hp
  obtain ⟨c0,hc0,rfl⟩:=hp
  rcases hR.heap.obj p c0 hc0 with ⟨h1,h2⟩|⟨b,cs,T,hL,hb,hl,hv⟩
  ·exact .inl ⟨h1,by simp [h2]⟩
  ·refine .inr ⟨b,cs,T,hL,hb,by simpa using hl,fun k d v h1 h2=>?_⟩
   simp only [List.getElem?_map,zO2] at h1
   obtain ⟨d0,hd0,rfl⟩:=h1
   exact hV _ _ (hv k d0 v hd0 h2)
theorem R.keep_none (hR:R G L σ h a w) {o:Nat} (ho:o<1048576):G.K o=none:=by
 cases hK:G.K o with
 | none=>rfl
 | some b=>have:=(hR.keep o b hK).2;omega
theorem R.drop (o:Nat) (hK:G.K o=none) (hR:R G L σ h a w):R G (z1O L o none) (z1d o σ) ((h.purge o).upd o none) a w:=by
 have hinv:∀p b,z1O L o none p=some b→p≠o∧L p=some b:=fun p b hp=>by
  unfold z1O at hp;by_cases e:p=o
  ·rw [if_pos e] at hp;cases hp
  ·rw [if_neg e] at hp;exact ⟨e,hp⟩
 have hAA:∀b,¬Av G.S L b→¬Av G.S (z1O L o none) b:=by
  rintro b hA (hS|⟨p,hp⟩)
  ·exact hA (.inl hS)
  ·exact hA (.inr ⟨p,(hinv p b hp).2⟩)
 have hV:∀d v,V w L (Av G.S L) d v→V w (z1O L o none) (Av G.S (z1O L o none)) (Dat.purge o d) v:=fun d v hd =>
  hd.purge o (fun b _ hA=>⟨rfl,hAA b hA⟩) fun p b hne hp=>⟨by simp [z1O,hne,hp],rfl⟩
 refine { hR with slots:=fun s=>hV _ _ (hR.slots s),heap:=⟨?_,?_,?_,?_,fun p b hp=>hR.heap.ty p b (hinv p b hp).2⟩,own:=fun p b hp=>hR.own p b (hinv p b hp).2,keep:=fun p b hp=>⟨by unfold z1O;rw [if_neg (by rintro rfl;rw [hK] at hp;cases hp)];exact (hR.keep p b hp).1,(hR.keep p b hp).2⟩ }
 ·intro p b hp
  obtain ⟨hne,hp'⟩:=hinv p b hp
  obtain ⟨c,hc⟩:=hR.heap.dom p b hp'
  exact ⟨_,by simp only [Heap.upd,hne,if_false,Heap.purge,hc,Option.map_some];rfl⟩
 ·intro p c hp
  unfold Heap.upd at hp
  by_cases e:p=o
  ·rw [if_pos e] at hp;cases hp
  ·rw [if_neg e] at hp
   simp only [Heap.purge,zO2] at hp
   obtain ⟨c0,hc0,rfl⟩:=hp
   rcases hR.heap.obj p c0 hc0 with ⟨h1,h2⟩|⟨b,cs,T,hL,hb,hl,hv⟩
   ·exact .inl ⟨by simp [z1O,e,h1],by simp [h2]⟩
   ·refine .inr ⟨b,cs,T,by simp [z1O,e,hL],hb,by simpa using hl,fun k d v h1 h2=>?_⟩
    simp only [List.getElem?_map,zO2] at h1
    obtain ⟨d0,hd0,rfl⟩:=h1
    exact hV _ _ (hv k d0 v hd0 h2)
 ·intro p q b hp hq
  exact hR.heap.inj p q b (hinv p b hp).2 (hinv q b hq).2
 ·intro p b hp
  exact hR.heap.notS p b (hinv p b hp).2
theorem R.virt {o:Nat} (hR:R G L σ h a w) (ho:h o=none):R G L σ (h.upd o (some [])) a w:=by
 have hLo:=hR.lNone ho
 refine { hR with heap:=⟨?_,?_,hR.heap.inj,hR.heap.notS,hR.heap.ty⟩ }
 ·intro p b hp
  by_cases e:p=o
  ·exact ⟨[],by simp [Heap.upd,e]⟩
  ·obtain ⟨c,hc⟩:=hR.heap.dom p b hp
   exact ⟨c,by simp [Heap.upd,e,hc]⟩
 ·intro p c hp
  unfold Heap.upd at hp
  by_cases e:p=o
  ·rw [if_pos e] at hp;cases hp
   exact .inl ⟨by rw [e];exact hLo,rfl⟩
  ·rw [if_neg e] at hp
   exact hR.heap.obj p c hp
end
end Go.Dat
namespace Go.Dat
open Go
inductive Opd where
 | x (k:Nat)
 | t (k:Nat)
 | c (d:DV)
 deriving Inhabited
inductive Dst where
 | no
 | x (k:Nat)
 | t (k:Nat)
 deriving Inhabited
def Dst.slot:Dst→Option Nat
 | .no=>none
 | .x k=>some k
 | .t k=>some k
inductive DOp where
 | mv (x:Opd)
 | pick (c a b:Opd)
 | alloc (z:List DV)
 | allocT (t:Nat) (z:List DV)
 | box (x:Opd)
 | build (z:List DV) (ps:List (Nat × Nat × Opd))
 | bsl (sz:Nat) (z:List DV) (ps:List (Nat × Nat × Opd))
 | bsl' (sz:Nat) (z:List DV) (ps:List (Nat × Nat × Opd))
 | ld (x:Opd)
 | ldn (n:Nat) (x:Opd)
 | st (x v:Opd)
 | stn (n:Nat) (x v:Opd)
 | nilc (x:Opd)
 | bin (op:BinOp) (x y:Opd)
 | beq (neg:Bool) (x y:Opd)
 | un (op:UnOp) (x:Opd)
 | conv (k:IntKind) (x:Opd)
 | s2b (x:Opd)
 | b2s (x:Opd)
 | mks (sz bytes:Nat) (z:List DV) (l c:Opd)
 | slc (sz:Nat) (x:Opd) (lo hi:Option Opd)
 | slcS (x:Opd) (lo hi:Option Opd)
 | fad (off:Nat) (x:Opd)
 | fld (off:Nat) (x:Opd)
 | fldn (off n:Nat) (x:Opd)
 | iad (sz:Nat) (x i:Opd)
 | iaa (len sz:Nat) (x i:Opd)
 | idx (x i:Opd)
 | ext (x:Opd) (i:Nat)
 | len (sz:Nat) (x:Opd)
 | lenS (x:Opd)
 | s2s (x:Opd)
 | app (e sz bytes:Nat) (s x:Opd)
 | call (f:Nat) (args:List Opd)
 | mki (t:Nat) (x:Opd)
 | min2 (x y:Opd)
 | max2 (x y:Opd)
 | apps (e:Nat) (s x:Opd)
 | pan (x:Opd)
 | mkf (f:Nat) (ps:List Opd)
 | callv (x:Opd) (args:List Opd)
 | boxi (x:Opd)
 | appi (sz bytes:Nat) (x:Opd)
 | lde (x:Opd)
 | ldne (n:Nat) (x:Opd)
 | slc3 (sz:Nat) (x:Opd) (lo:Option Opd) (hi mx:Opd)
 | clr (sz:Nat) (z:List DV) (x:Opd)
 | isnil (neg:Bool) (x:Opd)
 | ldr (x:Opd)
 | ldnr (n:Nat) (x:Opd)
 | eqs (neg:Bool) (l:List (Nat × Nat)) (x y:Opd)
 deriving Inhabited
structure DOper where
 dst:Dst
 op:DOp
 guard:Option (Opd × Bool)
 deriving Inhabited
inductive DT where
 | leaf
 | no
 | st (o:DOper) (t:DT)
 | fl (o:DOper) (t:DT)
 | alt (a b:DT)
 deriving Inhabited
inductive DC where
 | skip
 | reg (ops:List DOper)
 | regd (ops:List DOper)
 | regs (n:Nat) (ops:List DOper)
 | rego (t:DT)
 | seq (a b:DC)
 | cond (c:Opd) (a b:DC)
 | block (id:Nat) (b:DC)
 | loop (b:DC)
 | exit (id:Nat)
 | ret
 | bad
 deriving Inhabited
def cv1:Value→DV
 | .bool b=>.bool b
 | .int k n=>.int k n
 | .string s=>.str s.data.toList
 | .pointer none=>.nilp
 | .slice none 0 0=>.nils
 | .nilIface=>.nili
 | .func (.func f) a b=>if a.size=0∧b.size=0 then .fn f else .undef
 | .tuple a=>if a.size=0 then .tup [] else .undef
 | _=>.undef
def cv:Value→DV
 | .agg cs=>.agg (cs.toList.map cv1)
 | v=>cv1 v
theorem z5O (w:World) (A:Nat→Prop) (v:Value):VI w A (cv1 v) v:=by
 cases v with
 | bool b=>exact .bool _
 | int k n=>exact .int _ _
 | string s =>
  have:(Value.string s)=.string ⟨s.data.toList.toArray⟩:=by cases s;simp
  rw [this]
  simpa [cv1] using VI.str (w:=w) (A:=A) s.data.toList
 | pointer a=>cases a with
  | none=>exact .nilp
  | some a=>exact .undef _
 | slice a n c=>cases a with
  | none=>cases n with
   | zero=>cases c with
    | zero=>exact .nils
    | succ c=>exact .undef _
   | succ n=>exact .undef _
  | some a=>exact .undef _
 | func f a b=>cases f with
  | func f =>
   simp only [cv1]
   split
   ·rename_i hc
    obtain ⟨h1,h2⟩:=hc
    have e1:a=#[]:=Array.eq_empty_of_size_eq_zero h1
    have e2:b=#[]:=Array.eq_empty_of_size_eq_zero h2
    subst e1;subst e2
    exact .fn f
   ·exact .undef _
  | _=>exact .undef _
 | nilIface=>exact .nili
 | tuple a =>
  simp only [cv1]
  split
  ·rename_i hc
   have e1:a=#[]:=Array.eq_empty_of_size_eq_zero hc
   subst e1
   exact .tup rfl (fun k d v h=>by simp at h)
  ·exact .undef _
 | _=>exact .undef _
theorem w5W (w:World) (A:Nat→Prop) (v:Value):VI w A (cv v) v:=by
 cases v with
 | agg cs =>
  refine .agg (by simp) fun k d v h1 h2=>?_
  simp only [List.getElem?_map,Array.getElem?_toList,h2,Option.map_some,Option.some.injEq] at h1
  rw [←h1]
  exact z5O w A v
 | _=>simp only [cv];exact z5O w A _
section strip
variable (P:Program) (vs:List Nat)
def z0Y:Operand→Opd
 | .tmp k=>if vs.contains k then .x k else .t k
 | .const v=>.c (cv v)
 | .func f=>.c (.fn f)
 | .global _=>.c .undef
def y3c:Option Nat→Dst
 | none=>.no
 | some k=>if vs.contains k then .x k else .t k
def y1u:Operand→Bool
 | .const (.slice none 0 0)=>true
 | _=>false
def y5S (t:TypeId):Bool:=match P.underlying t with
 | some (.struct _)|some (.array ..)=>true
 | _=>false
def z1h (t:TypeId):Option Nat:=(P.info? t).map (·.size)
def z3B (t:TypeId):Option (List DV):=((P.info? t).bind (·.zero)).map fun z=>z.cells.toList.map cv1
def z4A (place:Nat→Option (Nat × Nat)):List (Nat × Operand)→Option (List (Nat × Nat × Opd))
 | []=>some []
 | (i,x)::r=>(place i).bind fun p=>(z4A place r).map ((p.1,p.2,z0Y vs x)::·)
def z4k:List Field→Option (List (Nat × Nat))
 | []=>some []
 | f :: r => if f.name = "_" then none else match P.underlying f.type with
  | some (.int _)=>(z4k r).map ((f.offset,0)::·)
  | some .bool=>(z4k r).map ((f.offset,1)::·)
  | some .string=>(z4k r).map ((f.offset,2)::·)
  | _=>none
def sOp (own:List Nat) (dst:Option Nat) (o:Op):Option DOp :=
 let s:=z0Y vs
 match o with
 | .move x | .assign x=>some (.mv (s x))
 | .pick c a b=>some (.pick (s c) (s a) (s b))
 | .alloc e=>(z3B P e).map fun z=>if own.contains (dst.getD 0) then .allocT e z else .alloc z
 | .box _ x=>some (if own.contains (2000000+dst.getD 0) then .boxi (s x) else .box (s x))
 | .build t ps=>match P.underlying t with
  | some (.struct fs)=>match fs.toList.mapM (fun f=>(z1h P f.type).map fun n=>(f.offset,n)) with
   | some places=>(z3B P t).bind fun z=>(z4A vs (places[·]?) ps.toList).map (.build z)
   | none=>none
  | some (.array _ e)=>(z1h P e).bind fun n=>(z3B P t).bind fun z=>(z4A vs (fun i=>some (i*n,n)) ps.toList).map (.build z)
  | _=>none
 | .buildSlice t len ps=>match P.underlying t with
  | some (.slice e)=>(z1h P e).bind fun n=>(z3B P e).bind fun z =>
   if n=0∨len*n > 4096 then none else
   (z4A vs (fun i=>some (i*n,n)) ps.toList).map
    (if own.contains (dst.getD 0) then .bsl' n ((List.range (len*n)).map fun j=>z.getD (j % z.length) .undef)
     else .bsl n ((List.range (len*n)).map fun j=>z.getD (j % z.length) .undef))
  | _=>none
 | .load t a=>if y5S P t then (z1h P t).map (fun n=>if own.contains (4000000+dst.getD 0) then .ldne n (s a) else if own.contains (6000000+dst.getD 0) then .ldnr n (s a) else .ldn n (s a)) else if (P.underlying t).isSome then some (if own.contains (4000000+dst.getD 0) then .lde (s a) else if own.contains (6000000+dst.getD 0) then .ldr (s a) else .ld (s a)) else none
 | .store t a x=>(z1h P t).map fun n=>if n=1 then .st (s a) (s x) else .stn n (s a) (s x)
 | .nilCheck x=>some (.nilc (s x))
 | .binOp op t x y _=>match op with
  | .eql | .neq=>match P.underlying t with
   | some .bool=>some (.beq (op == .neq) (s x) (s y))
   | some (.int _)|some .string=>some (.bin op (s x) (s y))
   | some (.slice _)=>if y1u y then some (.isnil (op == .neq) (s x)) else none
   | some (.struct fs)=>if P.stoodInHeld t || P.eqGuardType P.depth t then none else (z4k P fs.toList).map fun l=>.eqs (op == .neq) l (s x) (s y)
   | _=>none
  | _=>some (.bin op (s x) (s y))
 | .unOp op _ x=>some (.un op (s x))
 | .convert src dst x=>match P.underlying src,P.underlying dst with
  | some (.int _),some (.int k)=>some (.conv k (s x))
  | some .string,some .string=>some (.s2s (s x))
  | some (.int _),some .string=>some (.s2s (s x))
  | some .string,some (.slice e)=>if P.underlying e matches some (.int .u8) then some (.s2b (s x)) else none
  | some (.slice e),some .string=>if P.underlying e matches some (.int .u8) then some (.b2s (s x)) else none
  | _,_=>none
 | .makeSlice t l c=>match P.underlying t with
  | some (.slice e)=>(P.info? e).bind fun i=>(z3B P e).bind fun z=>if i.size=0∨i.bytes=0∨z.length≠i.size then none else some (.mks i.size i.bytes z (s l) (s c))
  | _=>none
 | .slice t x lo hi mx=>match P.underlying t with
  | some (.slice e)=>(z1h P e).bind fun n=>if n=0 then none else match mx with
   | none=>some (.slc n (s x) (lo.map s) (hi.map s))
   | some m=>hi.map fun hh=>.slc3 n (s x) (lo.map s) (s hh) (s m)
  | some .string=>if mx.isSome then none else some (.slcS (s x) (lo.map s) (hi.map s))
  | _=>none
 | .fieldAddr t x f=>match P.underlying t with
  | some (.struct fs)=>(fs[f]?).bind fun g=>(z1h P g.type).bind fun n=>if n=0 then none else some (.fad g.offset (s x))
  | _=>none
 | .field t x f=>match P.underlying t with
  | some (.struct fs)=>(fs[f]?).bind fun g=>(z1h P g.type).bind fun n =>
   if y5S P g.type then some (.fldn g.offset n (s x)) else if (P.underlying g.type).isSome then some (.fld g.offset (s x)) else none
  | _=>none
 | .indexAddr t x i=>match P.underlying t with
  | some (.slice e)=>(z1h P e).bind fun n=>if n=0 then none else some (.iad n (s x) (s i))
  | some (.array len e)=>(z1h P e).bind fun n=>if n=0 then none else some (.iaa len n (s x) (s i))
  | _=>none
 | .index t x i=>match P.underlying t with
  | some .string=>some (.idx (s x) (s i))
  | _=>none
 | .extract t i=>some (.ext (s t) i)
 | .makeInterface t x=>match P.underlying t with
  | some (.interface _)|none=>none
  | some _=>some (.mki t (s x))
 | .panic x=>some (.pan (s x))
 | .makeFunc (.func f) first caps=>if first.size=0 then some (.mkf f (caps.toList.map s)) else none
 | .call c=>match c.callee with
  | .value (.func f)=>match P.funcs[f]? with
   | some fn => if fn.body.isSome && fn.name != "runtime.NumGoroutine" then some (.call f (c.args.toList.map s)) else none
   | none=>none
  | .builtin .len=>match c.args.toList,c.argTypes.toList with
   | [x],[t]=>match P.underlying t with
    | some .string=>some (.lenS (s x))
    | some (.slice e)=>(z1h P e).bind fun n=>if n=0 then none else some (.len n (s x))
    | _=>none
   | _,_=>none
  | .value (.tmp k)=>some (.callv (s (.tmp k)) (c.args.toList.map s))
  | .builtin .clear=>match c.args.toList,c.argTypes.toList with
   | [x],[t]=>match P.underlying t with
    | some (.slice e)=>(P.info? e).bind fun i=>(z3B P e).bind fun z=>if i.size=0∨z.length≠i.size∨z.all (fun d=>match d with | .undef | .agg _ | .tup _ | .raw _=>false|_=>true)=false then none else some (.clr i.size z (s x))
    | _=>none
   | _,_=>none
  | .builtin .append=>match c.args.toList,c.argTypes.toList with
   | [x,y],[t,u]=>match P.underlying t,P.underlying u with
    | some (.slice e),some (.slice _)=>if t=u then (P.info? e).bind fun i=>if i.size=0∨i.zero.map (·.cells.size)≠some i.size then none else
     some (if own.contains (3000000+dst.getD 0) && y1u x then .appi i.size i.bytes (s y) else .app e i.size i.bytes (s x) (s y)) else none
    | some (.slice e),some .string=>(P.info? e).bind fun i=>if i.size=1∧i.bytes=1∧i.zero.map (·.cells.size)=some 1 then some (.apps e (s x) (s y)) else none
    | _,_=>none
   | _,_=>none
  | .builtin .min=>match c.args.toList with
   | [x,y]=>some (.min2 (s x) (s y))
   | _=>none
  | .builtin .max=>match c.args.toList with
   | [x,y]=>some (.max2 (s x) (s y))
   | _=>none
  | _=>none
 | _=>none
def z2z (ops:Array Oper):Option (Nat × Bool)→Option (Option (Opd × Bool))
 | none=>some none
 | some (j,b)=>((ops[j]?).bind (·.dst)).map fun k=>some (z0Y vs (.tmp k),b)
def dOk (n:Nat):Option Nat→Bool
 | some k=>decide (k<n)
 | none=>true
def z4U (own:List Nat) (n:Nat) (ops:Array Oper) (o:Oper):Option DOper :=
 (sOp P vs own o.dst o.op).bind fun p=>(z2z vs ops o.guard).bind fun g =>
  if dOk n o.dst then some ⟨y3c vs o.dst,p,g⟩ else none
def z1M (own:List Nat) (n:Nat) (ops:Array Oper):List Oper→Option (List DOper)
 | []=>some []
 | o::r=>(z4U P vs own n ops o).bind fun d=>(z1M own n ops r).map (d::·)
end strip
def DV.one:DV→Bool
 | .undef | .agg _ | .tup _ | .raw _=>false
 | _=>true
def DV.cells? : DV→Option (List DV)
 | .agg cs=>if cs.all DV.one then some cs else none
 | d=>if d.one then some [d] else none
open Classical in
noncomputable def gd {α:Type} (c:Prop) (x:Option α):Option α:=if c then x else none
def gdo {α:Type} (a b:Nat) (x y:Option α):Option α:=if a<b then x else if a=b then y else none
theorem x3D {α:Type} {a b:Nat} {x y:Option α} (h:a<b):gdo a b x y=x:=by unfold gdo;rw [if_pos h]
theorem x3C {α:Type} {a b:Nat} {x y:Option α} (h:a=b):gdo a b x y=y:=by unfold gdo;rw [if_neg (by omega),if_pos h]
inductive Eff where
 | no
 | set (o:Nat) (cells:List DV)
 | new (o:Nat) (cells:List DV)
 | app (o:Nat) (cells:List DV)
def Eff.onS:Eff→(Nat→DV)→(Nat→DV)
 | .app o _,σ=>z1d o σ
 | _,σ=>σ
def Eff.onH:Eff→Heap→Heap
 | .no,h=>h
 | .set o c,h=>h.upd o (some c)
 | .new o c,h=>h.upd o (some c)
 | .app o c,h=>(h.purge o).upd o (some c)
def z24 (op:BinOp) (k:IntKind) (a b:Int):Int :=
 let x:=BitVec.ofInt k.bits a
 let y:=BitVec.ofInt k.bits b
 k.wrap (match op with
  | .and=>((x &&& y).toNat:Int)
  | .or=>((x ||| y).toNat:Int)
  | .xor=>((x ^^^ y).toNat:Int)
  | _=>((x &&& ~~~y).toNat:Int))
noncomputable def z0V (op:BinOp):DV→DV→Option DV
 | .int k a,.int j b=>match op with
  | .add=>gd (k=j) (some (.int k (k.wrap (a+b))))
  | .sub=>gd (k=j) (some (.int k (k.wrap (a - b))))
  | .mul=>gd (k=j) (some (.int k (k.wrap (a*b))))
  | .quo=>gd (k=j∧b≠0) (some (.int k (k.wrap (a.tdiv b))))
  | .rem=>gd (k=j∧b≠0) (some (.int k (a.tmod b)))
  | .and=>gd (k=j) (some (.int k (z24 .and k a b)))
  | .or=>gd (k=j) (some (.int k (z24 .or k a b)))
  | .xor=>gd (k=j) (some (.int k (z24 .xor k a b)))
  | .andNot=>gd (k=j) (some (.int k (z24 .andNot k a b)))
  | .shl=>gd (0≤b) (some (.int k (k.wrap (a*2 ^ (min b.toNat k.bits)))))
  | .shr=>gd (0≤b) (some (.int k (a.fdiv (2 ^ (min b.toNat k.bits)))))
  | .eql=>gd (k=j) (some (.bool (decide (a=b))))
  | .neq=>gd (k=j) (some (.bool (decide (¬a=b))))
  | .lss=>gd (k=j) (some (.bool (decide (a<b))))
  | .leq=>gd (k=j) (some (.bool (decide (a≤b))))
  | .gtr=>gd (k=j) (some (.bool (decide (b<a))))
  | .geq=>gd (k=j) (some (.bool (decide (b≤a))))
 | .str a,.str b=>match op with
  | .add=>gd (a.length+b.length≤9223372036854775807) (some (.str (a++b)))
  | .eql=>some (.bool (decide (a=b)))
  | .neq=>some (.bool (decide (¬a=b)))
  | .lss=>some (.bool (Op.bytesLess a b))
  | .leq=>some (.bool (Op.bytesLess a b || decide (a=b)))
  | .gtr=>some (.bool (!(Op.bytesLess a b || decide (a=b))))
  | .geq=>some (.bool (!Op.bytesLess a b))
  | _=>none
 | _,_=>none
def unE (op:UnOp):DV→Option DV
 | .int k a=>match op with
  | .neg=>some (.int k (k.wrap (0 - a)))
  | .xor=>some (.int k (z24 .xor k (if k.signed then -1 else k.max) a))
  | _=>none
 | .bool b=>match op with
  | .not=>some (.bool (!b))
  | _=>none
 | _=>none
def cnt (sz:Nat) (xs:List DV):Nat:=if sz=1 then xs.length else xs.length / sz
def z4S (b:UInt8):DV:=.int .u8 b.toNat
def byteOf:DV→Option UInt8
 | .int .u8 n=>some (UInt8.ofNat n.toNat)
 | _=>none
def bytesOf:List DV→Option (List UInt8)
 | []=>some []
 | d::r=>(byteOf d).bind fun b=>(bytesOf r).map (b::·)
def rep (l:Nat):List DV→List DV
 | [z]=>List.replicate l z
 | z=>(List.replicate l z).flatten
def spl (cells:List DV) (off n:Nat):List DV→List DV
 | [c]=>cells.set off c
 | cs=>cells.take off++cs++cells.drop (off+n)
def laid (cells:List DV):List (Nat × Nat × DV)→Option (List DV)
 | []=>some cells
 | (off,n,d)::r=>d.cells?.bind fun cs =>
  if cs.length=n∧off+n≤cells.length then laid (spl cells off n cs) r else none
section
variable (nb:Nat) (dst:Option Nat) (e:Opd→DV) (h:Heap)
def z0m:Option Nat:=dst.bind fun k=>if (h (nb+k)).isNone then (if nb+k<786432 then some (nb+k) else none) else none
def z0o (t n:Nat):Option Nat:=dst.bind fun k=>if n<16 then (if (h (2097152+4096*t+256*n+k % 256)).isNone then some (2097152+4096*t+256*n+k % 256) else none) else none
noncomputable def z0j (n:Nat):Option Opd→Nat→Option Nat
 | none,d=>some d
 | some x,_=>match e x with
  | .int _ i=>gd (0≤i∧i≤n) (some i.toNat)
  | _=>none
noncomputable def z0t (sz:Nat):DV→Option (List DV)
 | .sl s ys=>gd (s=sz) (some ys)
 | .nils=>some []
 | .osl s o off len=>(h o).bind fun cs=>gd (s=sz∧off+len*sz≤cs.length) (some ((cs.drop off).take (len*sz)))
 | _=>none
def bys (l:List UInt8):List DV:=l.map z4S
def eqD:Nat→DV→DV→Option Bool
 | 0,.int k a,.int j b=>if k=j then some (decide (a=b)) else none
 | 1,.bool a,.bool b=>some (a == b)
 | 2,.str a,.str b=>some (decide (a=b))
 | _,_,_=>none
def x6B (cs ds:List DV):List (Nat × Nat)→Option Bool
 | []=>some true
 | (o,k)::r=>(eqD k (cs.getD o .undef) (ds.getD o .undef)).bind fun b=>if b then x6B cs ds r else some false
noncomputable def opE:DOp→Option (DV × Eff)
 | .mv x=>some (e x,.no)
 | .pick c a b=>match e c with
  | .bool t=>some (if t then e a else e b,.no)
  | _=>none
 | .alloc z=>(z0m nb dst h).map fun o=>(.ptr o 0,.new o z)
 | .allocT t z=>(z0o dst h t z.length).map fun o=>(.ptr o 0,.new o z)
 | .box x=>(e x).cells?.bind fun cs=>(z0m nb dst h).map fun o=>(.ptr o 0,.new o cs)
 | .build z ps=>(laid z (ps.map fun p=>(p.1,p.2.1,e p.2.2))).map fun cs=>(.agg cs,.no)
 | .bsl sz z ps=>(laid z (ps.map fun p=>(p.1,p.2.1,e p.2.2))).bind fun cs=>gd (∀d∈cs,d.rf=true) (some (.sl sz cs,.no))
 | .bsl' sz z ps=>(laid z (ps.map fun p=>(p.1,p.2.1,e p.2.2))).bind fun cs=>(z0m nb dst h).map fun o=>(.osl sz o 0 (cnt sz z),.new o cs)
 | .ld x=>match e x with
  | .el xs i=>gd (i<xs.length) (some (xs.getD i .undef,.no))
  | .ptr o off=>(h o).bind fun cs=>gd (off<cs.length) (some (cs.getD off .undef,.no))
  | _=>none
 | .ldn n x=>match e x with
  | .el xs i=>gd (i+n≤xs.length) (some (.agg ((xs.drop i).take n),.no))
  | .ptr o off=>(h o).bind fun cs=>gd (off+n≤cs.length) (some (.agg ((cs.drop off).take n),.no))
  | _=>none
 | .st x v=>match e x with
  | .ptr o off=>(h o).bind fun cs=>gd ((e v).one=true∧off<cs.length) (some (.tup [],.set o (cs.set off (e v))))
  | _=>none
 | .stn n x v=>match e x with
  | .ptr o off=>(h o).bind fun cs=>(e v).cells?.bind fun cv=>gd (cv.length=n∧off+n≤cs.length) (some (.tup [],.set o (cs.take off++cv++cs.drop (off+n))))
  | _=>none
 | .nilc x=>match e x with
  | .ptr o off=>some (.ptr o off,.no)
  | .el xs i=>some (.el xs i,.no)
  | _=>none
 | .bin op x y=>(z0V op (e x) (e y)).map fun d=>(d,.no)
 | .beq neg x y=>match e x,e y with
  | .bool a,.bool b=>some (.bool (if neg then !(a == b) else a == b),.no)
  | _,_=>none
 | .un op x=>(unE op (e x)).map fun d=>(d,.no)
 | .eqs neg l x y=>match e x,e y with
  | .agg cs,.agg ds=>(x6B cs ds l).map fun b=>(.bool (if neg then !b else b),.no)
  | _,_=>none
 | .conv k x=>match e x with
  | .int _ n=>some (.int k (k.wrap n),.no)
  | _=>none
 | .s2b x=>match e x with
  | .str l=>some (.sl 1 (l.map z4S),.no)
  | _=>none
 | .b2s x=>match e x with
  | .nils=>some (.str [],.no)
  | .sl sz xs=>gd (sz=1) ((bytesOf xs).map fun l=>(.str l,.no))
  | .osl sz o off len=>(h o).bind fun cs=>gd (sz=1∧off+len≤cs.length) ((bytesOf ((cs.drop off).take len)).map fun l=>(.str l,.no))
  | _=>none
 | .mks sz bytes z l c=>match e l,e c with
  | .int _ a,.int _ b=>gd (0≤a∧a≤b∧b*bytes≤281474976710656) ((z0m nb dst h).map fun o=>(.osl sz o 0 a.toNat,.new o (rep a.toNat z)))
  | _,_=>none
 | .slc sz x lo hi=>match e x with
  | .sl s xs=>gd (s=sz) ((z0j e (cnt sz xs) hi (cnt sz xs)).bind fun b=>(z0j e b lo 0).map fun a=>(.sl sz ((xs.take (b*sz)).drop (a*sz)),.no))
  | .osl s o off len=>gd (s=sz) ((z0j e len hi len).bind fun b=>(z0j e b lo 0).bind fun a=>gdo a b (some (.osl sz o (off+a*sz) (b - a),.no)) (some (.sl sz [],.no)))
  | .nils=>(z0j e 0 hi 0).bind fun b=>(z0j e b lo 0).map fun _=>(.nils,.no)
  | _=>none
 | .slcS x lo hi=>match e x with
  | .str l=>(z0j e l.length hi l.length).bind fun b=>(z0j e b lo 0).map fun a=>(.str ((l.take b).drop a),.no)
  | _=>none
 | .fad off x=>match e x with
  | .ptr o k=>some (.ptr o (k+off),.no)
  | .el xs i=>some (.el xs (i+off),.no)
  | _=>none
 | .fld off x=>match e x with
  | .agg cs=>gd (off<cs.length) (some (cs.getD off .undef,.no))
  | _=>none
 | .fldn off n x=>match e x with
  | .agg cs=>gd (off+n≤cs.length) (some (.agg ((cs.drop off).take n),.no))
  | _=>none
 | .iad sz x i=>match e x,e i with
  | .sl s xs,.int _ n=>gd (s=sz∧0≤n∧(n.toNat+1)*sz≤xs.length) (some (.el xs (n.toNat*sz),.no))
  | .osl s o off len,.int _ n=>gd (s=sz∧0≤n∧n<len) (some (.ptr o (off+n.toNat*sz),.no))
  | _,_=>none
 | .iaa len sz x i=>match e x,e i with
  | .ptr o k,.int _ n=>gd (0≤n∧n<len) (some (.ptr o (k+n.toNat*sz),.no))
  | .el xs k,.int _ n=>gd (0≤n∧n<len) (some (.el xs (k+n.toNat*sz),.no))
  | _,_=>none
 | .idx x i=>match e x,e i with
  | .str l,.int _ n=>gd (0≤n∧n.toNat<l.length) (some (z4S (l.getD n.toNat 0),.no))
  | _,_=>none
 | .ext x i=>match e x with
  | .tup ds=>gd (i<ds.length) (some (ds.getD i .undef,.no))
  | _=>none
 | .s2s x=>match e x with
  | .str l=>some (.str l,.no)
  | .int _ n=>gd (0≤n∧n<128) (some (.str [UInt8.ofNat n.toNat],.no))
  | _=>none
 | .lenS x=>match e x with
  | .str l=>some (.int .i64 l.length,.no)
  | _=>none
 | .len sz x=>match e x with
  | .sl s xs=>gd (s=sz) (some (.int .i64 (cnt sz xs),.no))
  | .osl _ _ _ n=>some (.int .i64 n,.no)
  | .nils=>some (.int .i64 0,.no)
  | _=>none
 | .app te sz bytes s x=>match e s with
  | .nils=>(z0t h sz (e x)).bind fun ys=>gd (ys.length*bytes≤140737488355328∧ys.length≤9223372036854775807∧∀d∈ys,d.one=true)
    ((z0m nb dst h).map fun o=>(.osl sz o 0 (cnt sz ys),.app o (ys.map (purge o))))
  | .osl s' o off len=>(h o).bind fun cs=>(z0t h sz (e x)).bind fun ys =>
    gd (s'=sz∧off=0∧cs.length=len*sz∧(cs.length+ys.length)*bytes≤140737488355328∧cs.length+ys.length≤9223372036854775807∧o<1048576∧(786432≤o∧o<851968→te=(o - 786432) / 16)∧∀d∈ys,d.one=true)
     (some (.osl sz o 0 (len+cnt sz ys),.app o ((cs++ys).map (purge o))))
  | _=>none
 | .mki t x=>gd ((e x).rf=true) (some (.iface t (e x),.no))
 | .min2 x y=>match e x,e y with
  | .int k a,.int _ b=>some (.int k (if b<a then b else a),.no)
  | _,_=>none
 | .max2 x y=>match e x,e y with
  | .int k a,.int _ b=>some (.int k (if b > a then b else a),.no)
  | _,_=>none
 | .apps te s x=>match e s,e x with
  | .nils,.str l=>gd (l.length≤140737488355328) ((z0m nb dst h).map fun o=>(.osl 1 o 0 l.length,.app o (bys l)))
  | .osl s' o off len,.str l=>(h o).bind fun cs =>
    gd (s'=1∧off=0∧cs.length=len∧cs.length+l.length≤140737488355328∧o<1048576∧(786432≤o∧o<851968→te=(o - 786432) / 16)) (some (.osl 1 o 0 (len+l.length),.app o ((cs++bys l).map (purge o))))
  | _,_=>none
 | .call _ _=>none
 | .pan _=>none
 | .callv _ _=>none
 | .mkf f ps=>gd (∀d∈ps.map e,d.rf=true) (some (.clo f (ps.map e),.no))
 | .boxi x=>(e x).cells?.bind fun cs=>gd (cs≠[]∧∀d∈cs,d.rf=true) (some (.el cs 0,.no))
 | .appi sz bytes x=>(z0t h sz (e x)).bind fun ys=>gd (ys.length*bytes≤140737488355328∧ys.length≤9223372036854775807∧∀d∈ys,d.rf=true) (some (.sl sz ys,.no))
 | .lde x=>match e x with
  | .el xs i=>gd (i<xs.length∧(xs.getD i .undef).rf=true) (some (xs.getD i .undef,.no))
  | _=>none
 | .ldne n x=>match e x with
  | .el xs i=>gd (i+n≤xs.length∧∀d∈(xs.drop i).take n,d.rf=true) (some (.agg ((xs.drop i).take n),.no))
  | _=>none
 | .slc3 sz x lo hi mx=>match e mx with
  | .int _ m=>match e x with
   | .sl s xs=>gd (s=sz∧0≤m∧m≤cnt sz xs) ((z0j e m.toNat (some hi) 0).bind fun b=>(z0j e b lo 0).map fun a=>(.sl sz ((xs.take (b*sz)).drop (a*sz)),.no))
   | .osl s o off len=>gd (s=sz∧0≤m∧m≤len) ((z0j e m.toNat (some hi) 0).bind fun b=>(z0j e b lo 0).bind fun a=>gd (a<b) (some (.osl sz o (off+a*sz) (b - a),.no)))
   | _=>none
  | _=>none
 | .clr sz z x=>match e x with
  | .osl s o off len=>(h o).bind fun cs=>gd (s=sz∧off+len*sz≤cs.length) (some (.tup [],.set o (cs.take off++rep len z++cs.drop (off+len*sz))))
  | _=>none
 | .ldr x=>match e x with
  | .ptr o off=>(h o).bind fun cs=>gd (off<cs.length∧(cs.getD off .undef).one=true∧(cs.getD off .undef).rf=true) (some (cs.getD off .undef,.no))
  | _=>none
 | .ldnr n x=>match e x with
  | .ptr o off=>(h o).bind fun cs=>gd (off+n≤cs.length∧∀d∈(cs.drop off).take n,d.one=true∧d.rf=true) (some (.agg ((cs.drop off).take n),.no))
  | _=>none
 | .isnil neg x=>match e x with
  | .nils=>some (.bool (!neg),.no)
  | .sl _ xs=>gd (xs≠[]) (some (.bool neg,.no))
  | .osl _ _ _ n=>gd (n≠0) (some (.bool neg,.no))
  | _=>none
end
end Go.Dat
namespace Go.Dat
open Go
def evS (σ:Nat→DV):Opd→DV
 | .x k=>σ k
 | .t k=>σ k
 | .c d=>d
section inv
variable {w:World} {L:Nat→Option Nat} {A:Nat→Prop} {v:Value}
theorem V.inv_int {k:IntKind} {n:Int} (h:V w L A (.int k n) v):v=.int k n:=by
 cases h with|imm h=>cases h with|int=>rfl
theorem V.inv_bool {b:Bool} (h:V w L A (.bool b) v):v=.bool b:=by
 cases h with|imm h=>cases h with|bool=>rfl
theorem V.inv_str {l:List UInt8} (h:V w L A (.str l) v):v=.string ⟨l.toArray⟩:=by
 cases h with|imm h=>cases h with|str=>rfl
theorem V.inv_nils (h:V w L A .nils v):v=.slice none 0 0:=by
 cases h with|imm h=>cases h with|nils=>rfl
theorem V.inv_tup {cs:List DV} (h:V w L A (.tup cs) v):∃vs:Array Value,v=.tuple vs∧cs.length=vs.size∧∀(k:Nat) d v,cs[k]? = some d→vs[k]? = some v→V w L A d v:=by
 cases h with
 | imm h=>cases h with
  | tup hl h=>exact ⟨_,rfl,hl,fun k d v h1 h2=>.imm (h k d v h1 h2)⟩
 | tup hl h=>exact ⟨_,rfl,hl,h⟩
theorem V.inv_agg {cs:List DV} (h:V w L A (.agg cs) v):∃vs:Array Value,v=.agg vs∧cs.length=vs.size∧∀(k:Nat) d v,cs[k]? = some d→vs[k]? = some v→V w L A d v:=by
 cases h with
 | imm h=>cases h with
  | agg hl h=>exact ⟨_,rfl,hl,fun k d v h1 h2=>.imm (h k d v h1 h2)⟩
 | agg hl h=>exact ⟨_,rfl,hl,h⟩
theorem V.inv_ptr {o off:Nat} (h:V w L A (.ptr o off) v):∃b,L o=some b∧v=.pointer (some ⟨b,off,none⟩):=by
 cases h with
 | imm h=>cases h
 | ptr h=>exact ⟨_,h,rfl⟩
theorem V.inv_osl {sz o off n:Nat} (h:V w L A (.osl sz o off n) v) :
  (∃b c T m,L o=some b∧v=.slice (some ⟨b,off,none⟩) n c∧n≤c∧w.shape? b=some (T,m)∧off+c*sz≤m)∨(n=0∧v=.slice none 0 0):=by
 cases h with
 | imm h=>cases h
 | osl hL hc hs hm=>exact .inl ⟨_,_,_,_,hL,rfl,hc,hs,hm⟩
 | osl0=>exact .inr ⟨rfl,rfl⟩
theorem V.inv_sl {sz:Nat} {xs:List DV} (h:V w L A (.sl sz xs) v) :
  (xs=[]∧∃a c,v=.slice a 0 c) ∨
  (xs≠[]∧∃(ad:Addr) (n c:Nat) (vs:Nat→Value),v=.slice (some ad) n c∧xs.length=n*sz∧n≤c∧¬A ad.block ∧
   (∀k d,xs[k]? = some d→w.cell? (ad.add k)=some (vs k))∧(∀k d,xs[k]? = some d→VI w A d (vs k))):=by
 cases h with
 | imm h=>cases h with
  | sl0=>exact .inl ⟨rfl,_,_,rfl⟩
  | sl vs hx hn hc hA hcell hv=>exact .inr ⟨hx,_,_,_,vs,rfl,hn,hc,hA,hcell,hv⟩
theorem V.inv_el {xs:List DV} {i:Nat} (h:V w L A (.el xs i) v) :
  ∃ (ad:Addr) (vs:Nat→Value),v=.pointer (some (ad.add i))∧xs≠[]∧¬A ad.block ∧
   (∀k d,xs[k]? = some d→w.cell? (ad.add k)=some (vs k))∧(∀k d,xs[k]? = some d→VI w A d (vs k)):=by
 cases h with
 | imm h=>cases h with
  | el vs hx hA hcell hv=>exact ⟨_,vs,rfl,hx,hA,hcell,hv⟩
theorem VI.int' {k:IntKind} {n m:Int} (h:n=m):VI w A (.int k n) (.int k m):=by subst h;exact .int _ _
theorem V.cells {d:DV} {cs:List DV} (hc:d.cells? = some cs) (h:V w L A d v) :
  v.cells.size=cs.length∧(∀(k:Nat) d v',cs[k]? = some d→v.cells[k]? = some v'→V w L A d v')∧∀d∈cs,d.one=true:=by
 have key:∀(d:DV),d.one=true→V w L A d v→v.cells=#[v]:=by
  intro d hd hv
  cases hv with
  | imm h=>cases h<;>first|rfl|simp [DV.one] at hd
  | ptr=>rfl
  | osl=>rfl
  | osl0=>rfl
  | agg=>simp [DV.one] at hd
  | tup=>simp [DV.one] at hd
 have one:∀(d:DV),d.one=true→V w L A d v→v.cells.size=[d].length∧(∀(k:Nat) e v',[d][k]? = some e→v.cells[k]? = some v'→V w L A e v')∧∀e∈[d],e.one=true:=by
  intro d hd hv
  rw [key d hd hv]
  refine ⟨rfl,fun k e v' h1 h2=>?_,fun e he=>by simp at he;subst he;exact hd⟩
  cases k with
  | zero=>simp at h1 h2;subst h1;subst h2;exact hv
  | succ k=>simp at h1
 cases d with
 | agg ds =>
  simp only [DV.cells?] at hc
  split at hc
  ·rename_i hall
   cases hc
   obtain ⟨vs,rfl,hl,hp⟩:=h.inv_agg
   exact ⟨hl.symm,hp,List.all_eq_true.1 hall⟩
  ·cases hc
 | undef=>simp [DV.cells?,DV.one] at hc
 | tup=>simp [DV.cells?,DV.one] at hc
 | raw=>simp [DV.cells?,DV.one] at hc
 | _ =>
  simp only [DV.cells?,DV.one,if_true,Option.some.injEq] at hc
  subst hc
  exact one _ rfl h
theorem V.oneCell {d:DV} (hd:d.one=true) (h:V w L A d v):v.oneCell'=true:=by
 cases h with
 | imm h=>cases h<;>first|rfl|simp [DV.one] at hd
 | ptr=>rfl
 | osl=>rfl
 | osl0=>rfl
 | agg=>simp [DV.one] at hd
 | tup=>simp [DV.one] at hd
end inv
section
variable {P:Program} {G:Cx} {L:Nat→Option Nat} {σ:Nat→DV} {h:Heap} {a:Act} {w:World} {vs own:List Nat} {ε:Opd→DV}
theorem x98 (hR:R G L σ h a w) (x:Operand):V w L (Av G.S L) (evS σ (z0Y vs x)) (a.eval x):=by
 cases x with
 | tmp k =>
  have:=hR.slots k
  by_cases hk:vs.contains k=true
  ·simp only [z0Y,hk,if_true,evS,Act.eval];exact this
  ·simp only [z0Y,hk,evS,Act.eval];exact this
 | const v=>exact .imm (w5W _ _ v)
 | global g=>exact .imm (.undef _)
 | func f=>exact .imm (.fn f)
def EV (vs:List Nat) (ε:Opd→DV) (w:World) (L:Nat→Option Nat) (A:Nat→Prop) (a:Act):Prop:=∀x:Operand,V w L A (ε (z0Y vs x)) (a.eval x)
def Snd (P:Program) (G:Cx) (σ:Nat→DV) (h:Heap) (a:Act) (w:World) (o:Oper) (d:DV) (ef:Eff):Prop :=
 ∃ v w' L',((execOp a.eval o).run P w=.ok (.value v) w'∨((execOp a.eval o).run P w=.ok .skip w'∧v=undef)) ∧
  R G L' (ef.onS σ) (ef.onH h) a w'∧V w' L' (Av G.S L') d v
theorem Snd.val {o:Oper} {d:DV} {v:Value} (hR:R G L σ h a w) (hr:(execOp a.eval o).run P w=.ok (.value v) w) (hv:V w L (Av G.S L) d v):Snd P G σ h a w o d .no :=
 ⟨v,w,L,.inl hr,hR,hv⟩
theorem Snd.val' {o:Oper} {d:DV} {v:Value} {w':World} (hR:R G L σ h a w) (hx:Ext (fun _=>False) w w') (hr:(execOp a.eval o).run P w=.ok (.value v) w') (hv:VI w' (Av G.S L) d v):Snd P G σ h a w o d .no :=
 ⟨v,w',L,.inl hr,hR.still hx,.imm hv⟩
theorem Snd.new {o:Oper} {id:Nat} {T:TypeId} {cells:List DV} {cs:Array Value} {d:DV} {v:Value} (hR:R G L σ h a w) (ho:h id=none) (hty:TyC id T cs.size) (hl:cells.length≤cs.size)
  (hv:∀(k:Nat) d v,cells[k]? = some d→cs[k]? = some v→V w L (Av G.S L) d v)
  (hr:(execOp a.eval o).run P w=.ok (.value v) (w.alloc (.cells cs T)))
  (hd:V (w.alloc (.cells cs T)) (z1O L id (some w.heap.size)) (Av G.S (z1O L id (some w.heap.size))) d v):Snd P G σ h a w o d (.new id cells) :=
 ⟨v,_,_,.inl hr,(hR.new ho T hty hl hv).1,hd⟩
theorem z0M {nb:Nat} {dst:Option Nat} {id:Nat} (h1:z0m nb dst h=some id):h id=none∧id<786432:=by
 unfold z0m at h1
 cases dst with
 | none=>cases h1
 | some k =>
  simp only [Option.bind_some] at h1
  split at h1
  ·rename_i hn
   split at h1
   ·rename_i hl;cases h1;exact ⟨by simpa using hn,hl⟩
   ·cases h1
  ·cases h1
theorem z3K {t n:Nat} {dst:Option Nat} {id:Nat} (h1:z0o dst h t n=some id):h id=none∧2097152≤id∧t=(id - 2097152) / 4096∧n=(id - 2097152) / 256 % 16:=by
 unfold z0o at h1
 cases dst with
 | none=>cases h1
 | some k =>
  simp only [Option.bind_some] at h1
  split at h1
  ·split at h1
   ·rename_i hl hn;cases h1;exact ⟨by simpa using hn,by omega,by omega,by omega⟩
   ·cases h1
  ·cases h1
variable (nb:Nat) {d:DV} {ef:Eff} {dst:Option Nat} {ty:TypeId} {pos:String} {after:Array Edge} {guard:Option (Nat × Bool)}
theorem z0r {α:Type} {c:Prop} {x:Option α} {y:α} (h:gd c x=some y):c∧x=some y:=by
 unfold gd at h
 split at h
 ·exact ⟨‹_›,h⟩
 ·cases h
theorem x9w (hE:EV vs ε w L (Av G.S L) a) (hR:R G L σ h a w) {op:Op} (x:Operand) (hop:op=.move x∨op=.assign x):Snd P G σ h a w ⟨dst,op,ty,pos,after,guard⟩ (ε (z0Y vs x)) .no :=
 Snd.val hR (by rcases hop with rfl|rfl<;>rfl) (hE x)
theorem x8f (hE:EV vs ε w L (Av G.S L) a) (hR:R G L σ h a w) (c x y:Operand) (he:opE nb dst (ε) h (.pick (z0Y vs c) (z0Y vs x) (z0Y vs y))=some (d,ef)) :
  Snd P G σ h a w ⟨dst,.pick c x y,ty,pos,after,guard⟩ d ef:=by
 simp only [opE] at he
 split at he
 ·rename_i t ht
  cases he
  have hc:=hE c
  rw [ht] at hc
  have hc:=hc.inv_bool
  refine Snd.val hR (v:=if t then a.eval x else a.eval y) (by simp [execOp,asBool,hc]) ?_
  cases t
  ·exact hE y
  ·exact hE x
 ·cases he
theorem x5A (hE:EV vs ε w L (Av G.S L) a) (hR:R G L σ h a w) (e:TypeId) {z:List DV} (hz:z3B P e=some z) (he:opE nb dst (ε) h (.alloc z)=some (d,ef)) :
  Snd P G σ h a w ⟨dst,.alloc e,ty,pos,after,guard⟩ d ef:=by
 simp only [opE,zO2] at he
 obtain ⟨id,hid,he⟩:=he
 cases he
 simp only [z3B,zO2,zO3] at hz
 obtain ⟨zv,⟨i,hi,hzi⟩,rfl⟩:=hz
 refine Snd.new (T:=e) (cs:=zv.cells) (v:=.pointer (some ⟨w.heap.size,0,none⟩)) hR (z0M hid).1 ⟨fun h=>absurd (z0M hid).2 (by omega),fun h=>absurd (z0M hid).2 (by omega)⟩ (by simp) (fun k d v h1 h2=>?_) ?_ (.ptr (by simp [z1O]))
 ·simp only [List.getElem?_map,Array.getElem?_toList,h2,Option.map_some,Option.some.injEq] at h1
  rw [←h1]
  exact .imm (z5O _ _ _)
 ·simp [execOp,Instr.alloc,zeroValue,typeInfo,hi,hzi,newVar,newRow]
theorem x1O (hE:EV vs ε w L (Av G.S L) a) (hR:R G L σ h a w) (e:TypeId) {z:List DV} (hz:z3B P e=some z) (he:opE nb dst (ε) h (.allocT e z)=some (d,ef)) :
  Snd P G σ h a w ⟨dst,.alloc e,ty,pos,after,guard⟩ d ef:=by
 simp only [opE,zO2] at he
 obtain ⟨id,hid,he⟩:=he
 cases he
 simp only [z3B,zO2,zO3] at hz
 obtain ⟨zv,⟨i,hi,hzi⟩,rfl⟩:=hz
 refine Snd.new (T:=e) (cs:=zv.cells) (v:=.pointer (some ⟨w.heap.size,0,none⟩)) hR (z3K hid).1 ⟨fun _=>⟨(z3K hid).2.2.1,by have:=(z3K hid).2.2.2;simpa using this⟩,fun _ h=>absurd h (by have:=(z3K hid).2.1;omega)⟩ (by simp) (fun k d v h1 h2=>?_) ?_ (.ptr (by simp [z1O]))
 ·simp only [List.getElem?_map,Array.getElem?_toList,h2,Option.map_some,Option.some.injEq] at h1
  rw [←h1]
  exact .imm (z5O _ _ _)
 ·simp [execOp,Instr.alloc,zeroValue,typeInfo,hi,hzi,newVar,newRow]
theorem w15 (hE:EV vs ε w L (Av G.S L) a) (hR:R G L σ h a w) (e:TypeId) (x:Operand) (he:opE nb dst (ε) h (.box (z0Y vs x))=some (d,ef)) :
  Snd P G σ h a w ⟨dst,.box e x,ty,pos,after,guard⟩ d ef:=by
 simp only [opE,zO3,zO2] at he
 obtain ⟨cs,hcs,id,hid,he⟩:=he
 cases he
 obtain ⟨h1,h2,_⟩:=(hE x).cells hcs
 refine Snd.new (T:=e) (cs:=(a.eval x).cells) (v:=.pointer (some ⟨w.heap.size,0,none⟩)) hR (z0M hid).1 ⟨fun h=>absurd (z0M hid).2 (by omega),fun h=>absurd (z0M hid).2 (by omega)⟩ (by omega) h2 ?_ (.ptr (by simp [z1O]))
 simp [execOp,Instr.box,newVar,newRow]
theorem z2Y (P:Program) (t:TypeId) (ad:Addr) (v:Value) (w:World) (hA:y5S P t=false) (hu:(P.underlying t).isSome=true) (hc:w.cell? ad=some v) :
  (loadVar t ad).run P w=.ok v w:=by
 obtain ⟨u,hu⟩:=Option.isSome_iff_exists.1 hu
 have hi:(isAgg t).run P w=.ok false w:=by
  unfold y5S at hA
  rw [hu] at hA
  simp only [isAgg,Sem.run_bind,run_underlying hu,Result.andThen_ok]
  cases u<;>first|rfl|simp at hA
 simp [loadVar,hi,hc]
theorem z2X (P:Program) (t:TypeId) (n:Nat) (ad:Addr) (cs:List Value) (w:World) (hA:y5S P t=true) (hn:z1h P t=some n) (hl:cs.length=n)
  (hc:∀j v,cs[j]? = some v→w.cell? (ad.add j)=some v):(loadVar t ad).run P w=.ok (.agg cs.toArray) w:=by
 have hi:(isAgg t).run P w=.ok true w:=by
  unfold y5S at hA
  split at hA
  ·rename_i hu;simp [isAgg,run_underlying hu]
  ·rename_i hu;simp [isAgg,run_underlying hu]
  ·cases hA
 simp only [z1h,zO2] at hn
 obtain ⟨i,hi',rfl⟩:=hn
 have hlc:=run_loadCells_list (P:=P) w ad cs hc
 rw [hl] at hlc
 simp [loadVar,hi,sizeOf,typeInfo,hi',hlc]
theorem z1Z {α:Type} {l:List α} {k:Nat} {x y:α} (h:l[k]? = some x):l.getD k y=x:=by simp [zO1,h]
theorem z0O {α:Type} {l:List α} {k:Nat} (h:k<l.length):∃x,l[k]? = some x:=⟨l[k],zO4 h⟩
theorem z0w {α:Type} {l:Array α} {k:Nat} (h:k<l.size):∃x,l[k]? = some x:=⟨l[k],Array.getElem?_eq_getElem h⟩
theorem x5C (hE:EV vs ε w L (Av G.S L) a) (hR:R G L σ h a w) (t:TypeId) (x:Operand) (hA:y5S P t=false) (hu:(P.underlying t).isSome=true) (he:opE nb dst (ε) h (.ld (z0Y vs x))=some (d,ef)) :
  Snd P G σ h a w ⟨dst,.load t x,ty,pos,after,guard⟩ d ef:=by
 simp only [opE] at he
 have hx:=hE x
 split at he
 ·rename_i xs i hxe
  obtain ⟨hlt,he⟩:=z0r he
  cases he
  rw [hxe] at hx
  obtain ⟨ad,vs',hv,_,hA',hcell,hvi⟩:=hx.inv_el
  obtain ⟨y,hy⟩:=z0O hlt
  refine Snd.val hR (v:=vs' i) ?_ (by rw [z1Z hy];exact .imm (hvi i y hy))
  simp only [execOp,hv,Sem.run_bind,Instr.loadAt,Instr.sureAddr,Sem.run_pure,Result.andThen_ok,z2Y P t _ _ w hA hu (hcell i y hy)]
 ·rename_i o off hxe
  simp only [zO3] at he
  obtain ⟨cs,hcs,he⟩:=he
  obtain ⟨hlt,he⟩:=z0r he
  cases he
  rw [hxe] at hx
  obtain ⟨b,hL,hv⟩:=hx.inv_ptr
  obtain ⟨cells,cur,T,hho,hb,hl,hp⟩:=hR.heap.at_ hL
  rw [hcs] at hho;cases hho
  obtain ⟨y,hy⟩:=z0O hlt
  obtain ⟨u,hu'⟩:=z0w (l:=cur) (k:=off) (by omega)
  refine Snd.val hR (v:=u) ?_ (by rw [z1Z hy];exact hp off y u hy hu')
  have hc:w.cell? ⟨b,off,none⟩=some u:=by rw [cell_of_row w b off cur T (0,0) hb];exact hu'
  simp only [execOp,hv,Sem.run_bind,Instr.loadAt,Instr.sureAddr,Sem.run_pure,Result.andThen_ok,z2Y P t _ _ w hA hu hc]
 ·cases he
theorem z15 {α:Type} {l:List α} {i n j:Nat} {x:α} (h:((l.drop i).take n)[j]? = some x):l[i+j]? = some x:=by
 rw [List.getElem?_take] at h
 split at h
 ·rw [List.getElem?_drop] at h;exact h
 ·cases h
theorem y7w (hE:EV vs ε w L (Av G.S L) a) (hR:R G L σ h a w) (t:TypeId) (x:Operand) (n:Nat) (hA:y5S P t=true) (hn:z1h P t=some n) (he:opE nb dst (ε) h (.ldn n (z0Y vs x))=some (d,ef)) :
  Snd P G σ h a w ⟨dst,.load t x,ty,pos,after,guard⟩ d ef:=by
 simp only [opE] at he
 have hx:=hE x
 split at he
 ·rename_i xs i hxe
  obtain ⟨hlt,he⟩:=z0r he
  cases he
  rw [hxe] at hx
  obtain ⟨ad,vs',hv,_,hA',hcell,hvi⟩:=hx.inv_el
  have hrow:∀j v,((List.range n).map fun j=>vs' (i+j))[j]? = some v→w.cell? ((ad.add i).add j)=some v:=by
   intro j v hj
   simp only [List.getElem?_map,zO2] at hj
   obtain ⟨j',hj',rfl⟩:=hj
   have hlt':j<n:=by have:=(List.getElem?_eq_some_iff.1 hj').1;simpa using this
   have:j'=j:=by simpa [hlt'] using hj'.symm
   subst this
   obtain ⟨y,hy⟩:=z0O (l:=xs) (k:=i+j') (by omega)
   rw [add_add];exact hcell _ y hy
  refine Snd.val hR (v:=.agg ((List.range n).map fun j=>vs' (i+j)).toArray) ?_ (.imm (.agg (by simp;omega) fun j y v h1 h2=>?_))
  ·simp only [execOp,hv,Sem.run_bind,Instr.loadAt,Instr.sureAddr,Sem.run_pure,Result.andThen_ok,z2X P t n _ _ w hA hn (by simp) hrow]
  ·have h1':=z15 h1
   simp only [List.getElem?_toArray,List.getElem?_map,zO2] at h2
   obtain ⟨j',hj',rfl⟩:=h2
   have hlt':j<n:=by have:=(List.getElem?_eq_some_iff.1 hj').1;simpa using this
   have:j'=j:=by simpa [hlt'] using hj'.symm
   subst this
   exact hvi _ y h1'
 ·rename_i o off hxe
  simp only [zO3] at he
  obtain ⟨cs,hcs,he⟩:=he
  obtain ⟨hlt,he⟩:=z0r he
  cases he
  rw [hxe] at hx
  obtain ⟨b,hL,hv⟩:=hx.inv_ptr
  obtain ⟨cells,cur,T,hho,hb,hl,hp⟩:=hR.heap.at_ hL
  rw [hcs] at hho;cases hho
  have hrow:∀j v,((cur.toList.drop off).take n)[j]? = some v→w.cell? ((⟨b,off,none⟩:Addr).add j)=some v:=by
   intro j v hj
   rw [add_lit,cell_of_row w b _ cur T (0,0) hb]
   simpa using z15 hj
  refine Snd.val hR (v:=.agg ((cur.toList.drop off).take n).toArray) ?_ (.agg (by simp;omega) fun j y v h1 h2=>?_)
  ·simp only [execOp,hv,Sem.run_bind,Instr.loadAt,Instr.sureAddr,Sem.run_pure,Result.andThen_ok,z2X P t n _ _ w hA hn (by simp;omega) hrow]
  ·have h2':=z15 (show ((cur.toList.drop off).take n)[j]? = some v by simpa using h2)
   exact hp _ y v (z15 h1) (by simpa using h2')
 ·cases he
end
end Go.Dat
namespace Go.Dat
open Go
section
variable {P:Program} {G:Cx} {L:Nat→Option Nat} {σ:Nat→DV} {h:Heap} {a:Act} {w:World} {vs own:List Nat} {ε:Opd→DV}
variable (nb:Nat) {d:DV} {ef:Eff} {dst:Option Nat} {ty:TypeId} {pos:String} {after:Array Edge} {guard:Option (Nat × Bool)}
theorem z3y {b:Nat} {cs cs':Array Value} {T:TypeId} (hb:w.heap[b]? = some (.cells cs T (0,0))) :
  w.setRow b cs'={ w with heap:=w.heap.setIfInBounds b (.cells cs' T (0,0)) }:=by
 unfold World.setRow
 congr 1
 apply Array.ext_getElem?
 intro k
 rw [Array.getElem?_modify,Array.getElem?_setIfInBounds]
 by_cases e:b=k
 ·subst e
  have hlt:=(Array.getElem?_eq_some_iff.1 hb).1
  rw [if_pos rfl,if_pos rfl,hb,if_pos hlt]
  rfl
 ·rw [if_neg e,if_neg e]
theorem z6X {α β:Type} {cs cv:List α} {cur us:List β} {off n k:Nat} {x:α} {y:β} (hc:off+n≤cs.length) (hl:cs.length≤cur.length) (h1:cv.length=n) (h2:us.length=n)
  (hx:(cs.take off++cv++cs.drop (off+n))[k]? = some x) (hy:(cur.take off++us++cur.drop (off+n))[k]? = some y) :
  (cs[k]? = some x∧cur[k]? = some y)∨(cv[k - off]? = some x∧us[k - off]? = some y):=by
 rw [List.getElem?_append,List.getElem?_append] at hx hy
 simp only [List.length_append,List.length_take] at hx hy
 rw [h1] at hx
 rw [h2] at hy
 have e1:min off cs.length=off:=by omega
 have e2:min off cur.length=off:=by omega
 rw [e1] at hx
 rw [e2] at hy
 by_cases hk:k<off+n
 ·rw [if_pos hk] at hx hy
  by_cases hk':k<off
  ·rw [if_pos hk'] at hx hy
   rw [List.getElem?_take,if_pos hk'] at hx hy
   exact .inl ⟨hx,hy⟩
  ·rw [if_neg hk'] at hx hy
   exact .inr ⟨hx,hy⟩
 ·rw [if_neg hk] at hx hy
  rw [List.getElem?_drop] at hx hy
  have e:off+n+(k - (off+n))=k:=by omega
  rw [e] at hx hy
  exact .inl ⟨hx,hy⟩
theorem z6d (hE:EV vs ε w L (Av G.S L) a) (hR:R G L σ h a w) (t:TypeId) (x y:Operand) {n:Nat} (hn:z1h P t=some n) {o off:Nat} {cs cv:List DV} (hx:ε (z0Y vs x)=.ptr o off)
  (hcs:h o=some cs) (hcv:(ε (z0Y vs y)).cells? = some cv) (hcn:cv.length=n) (hfit:off+n≤cs.length) :
  Snd P G σ h a w ⟨dst,.store t x y,ty,pos,after,guard⟩ (.tup []) (.set o (cs.take off++cv++cs.drop (off+n))):=by
 have hvx:=hE x
 rw [hx] at hvx
 obtain ⟨b,hL,hv⟩:=hvx.inv_ptr
 obtain ⟨cells,cur,T,hho,hb,hl,hp⟩:=hR.heap.at_ hL
 rw [hcs] at hho;cases hho
 obtain ⟨hsz,hpt,hone⟩:=(hE y).cells hcv
 have h1:∀u∈(a.eval y).cells.toList,u.oneCell'=true:=by
  intro u hu
  obtain ⟨k,hk⟩:=List.mem_iff_getElem?.1 hu
  have hk':(a.eval y).cells[k]? = some u:=by simpa using hk
  obtain ⟨dd,hdd⟩:=z0O (l:=cv) (k:=k) (by have:=(List.getElem?_eq_some_iff.1 hk).1;simp at this;omega)
  exact V.oneCell (hone dd (List.mem_of_getElem? hdd)) (hpt k dd u hdd hk')
 have hst:=run_storeCells_at P b off T (a.eval y).cells.toList 0 cur w hb (by simp;omega) h1
 simp only [Nat.add_zero] at hst
 have hs2:z1h P t=some n:=hn
 simp only [z1h,zO2] at hn
 obtain ⟨i,hi,hin⟩:=hn
 have hlen:(a.eval y).cells.toList.length=n:=by simp;omega
 refine ⟨undef,_,L,.inr ⟨?_,rfl⟩,hR.write (cells:=cs.take off++cv++cs.drop (off+n)) hL hb (cs':=(cur.toList.take off++(a.eval y).cells.toList++cur.toList.drop (off+n)).toArray) ?_ ?_ ?_ (z3y hb),?_⟩
 ·rw [hlen] at hst
  simp [execOp,Instr.storeAt,Instr.sureAddr,storeVar,hv,sizeOf,typeInfo,hi,hin,hsz,hcn,hst]
 ·simp;omega
 ·simp;omega
 ·intro k dd v hk1 hk2
  rcases z6X (cur:=cur.toList) (us:=(a.eval y).cells.toList) hfit (by simp;omega) hcn hlen hk1 (by simpa using hk2) with ⟨e1,e2⟩|⟨e1,e2⟩
  ·exact hp k dd v e1 (by simpa using e2)
  ·exact hpt _ dd v e1 (by simpa using e2)
 ·exact .imm (.tup (by simp) fun k d v hk=>by simp at hk)
theorem w2m (hE:EV vs ε w L (Av G.S L) a) (hR:R G L σ h a w) (t:TypeId) (x y:Operand) {n:Nat} (hn:z1h P t=some n) (he:opE nb dst (ε) h (.stn n (z0Y vs x) (z0Y vs y))=some (d,ef)) :
  Snd P G σ h a w ⟨dst,.store t x y,ty,pos,after,guard⟩ d ef:=by
 simp only [opE] at he
 split at he
 ·rename_i o off hxe
  simp only [zO3] at he
  obtain ⟨cs,hcs,cv,hcv,he⟩:=he
  obtain ⟨⟨h1,h2⟩,he⟩:=z0r he
  cases he
  exact z6d hE hR t x y hn hxe hcs hcv h1 h2
 ·cases he
theorem x2p {d:DV} (h:d.one=true):d.cells? = some [d]:=by
 cases d<;>simp_all [DV.one,DV.cells?]
theorem w5b (hE:EV vs ε w L (Av G.S L) a) (hR:R G L σ h a w) (t:TypeId) (x y:Operand) (hn:z1h P t=some 1) (he:opE nb dst (ε) h (.st (z0Y vs x) (z0Y vs y))=some (d,ef)) :
  Snd P G σ h a w ⟨dst,.store t x y,ty,pos,after,guard⟩ d ef:=by
 simp only [opE] at he
 split at he
 ·rename_i o off hxe
  simp only [zO3] at he
  obtain ⟨cs,hcs,he⟩:=he
  obtain ⟨⟨h1,h2⟩,he⟩:=z0r he
  cases he
  have:=z6d (ty:=ty) (pos:=pos) (after:=after) (guard:=guard) (dst:=dst) hE hR t x y hn hxe hcs (x2p h1) rfl (by omega)
  rw [List.set_eq_take_append_cons_drop,if_pos h2]
  simpa using this
 ·cases he
theorem x8e (hE:EV vs ε w L (Av G.S L) a) (hR:R G L σ h a w) (x:Operand) (he:opE nb dst (ε) h (.nilc (z0Y vs x))=some (d,ef)) :
  Snd P G σ h a w ⟨dst,.nilCheck x,ty,pos,after,guard⟩ d ef:=by
 simp only [opE] at he
 have hx:=hE x
 split at he
 ·rename_i o off hxe
  cases he
  rw [hxe] at hx
  obtain ⟨b,hL,hv⟩:=hx.inv_ptr
  exact Snd.val hR (v:=a.eval x) (by simp [execOp,hv]) hx
 ·rename_i xs i hxe
  cases he
  rw [hxe] at hx
  obtain ⟨ad,vs',hv,_⟩:=hx.inv_el
  exact Snd.val hR (v:=a.eval x) (by simp [execOp,hv]) hx
 ·cases he
theorem z9U (op:BinOp) (t:TypeId) (x y:Operand) (k j:IntKind) (m n:Int):(eqGuard op t x y (.int k m) (.int j n)).run P w=.ok () w:=by
 unfold eqGuard;cases op<;>simp
theorem z9V (op:BinOp) (t:TypeId) (x y:Operand) (s u:ByteArray):(eqGuard op t x y (.string s) (.string u)).run P w=.ok () w:=by
 unfold eqGuard;cases op<;>simp
theorem z38 (op:BinOp) (t:TypeId) (x y:Operand) (s u:Bool):(eqGuard op t x y (.bool s) (.bool u)).run P w=.ok () w:=by
 unfold eqGuard;cases op<;>simp
theorem x8C {α:Type} [BEq α] [LawfulBEq α] [DecidableEq α] (x y:α):(x == y)=decide (x=y):=by
 rw [Bool.eq_iff_iff];simp
theorem y7p (op:BinOp) (t:TypeId) (k j:IntKind) (m n:Int) {r:DV} (he:z0V op (.int k m) (.int j n)=some r) :
  ∃ v,(binOp op t (.int k m) (.int j n)).run P w=.ok v w∧∀A,VI w A r v:=by
 cases op<;>simp only [z0V] at he<;>obtain ⟨hc,he⟩:=z0r he<;>cases he
 case add=>subst hc;exact ⟨_,by simp [binOp,Op.intArith],fun _=>.int _ _⟩
 case sub=>subst hc;exact ⟨_,by simp [binOp,Op.intArith],fun _=>.int _ _⟩
 case mul=>subst hc;exact ⟨_,by simp [binOp,Op.intArith],fun _=>.int _ _⟩
 case quo=>obtain ⟨rfl,hc⟩:=hc;exact ⟨_,by simp [binOp,Op.intDiv,hc],fun _=>.int _ _⟩
 case rem=>obtain ⟨rfl,hc⟩:=hc;exact ⟨_,by simp [binOp,Op.intDiv,hc],fun _=>.int _ _⟩
 case and=>subst hc;exact ⟨.int k (z24 .and k m n),by simp [binOp,Op.intBits,z24],fun _=>.int _ _⟩
 case or=>subst hc;exact ⟨.int k (z24 .or k m n),by simp [binOp,Op.intBits,z24],fun _=>.int _ _⟩
 case xor=>subst hc;exact ⟨.int k (z24 .xor k m n),by simp [binOp,Op.intBits,z24],fun _=>.int _ _⟩
 case andNot=>subst hc;exact ⟨.int k (z24 .andNot k m n),by simp [binOp,Op.intBits,z24],fun _=>.int _ _⟩
 case shl =>
  have hc':¬n<0:=by omega
  exact ⟨_,by simp [binOp,Op.shift,hc'],fun _=>.int _ _⟩
 case shr =>
  have hc':¬n<0:=by omega
  exact ⟨_,by simp [binOp,Op.shift,hc'],fun _=>.int _ _⟩
 case eql=>subst hc;exact ⟨.bool (m == n),by simp [binOp,Op.intCmp],fun _=>by rw [x8C];exact .bool _⟩
 case neq=>subst hc;exact ⟨.bool (m != n),by simp [binOp,Op.intCmp],fun _=>by simp only [bne,x8C,decide_not];exact .bool _⟩
 case lss=>subst hc;exact ⟨_,by simp [binOp,Op.intCmp],fun _=>.bool _⟩
 case leq=>subst hc;exact ⟨_,by simp [binOp,Op.intCmp],fun _=>.bool _⟩
 case gtr=>subst hc;exact ⟨_,by simp [binOp,Op.intCmp],fun _=>.bool _⟩
 case geq=>subst hc;exact ⟨_,by simp [binOp,Op.intCmp],fun _=>.bool _⟩
theorem y7q (op:BinOp) (t:TypeId) (l m:List UInt8) {r:DV} (he:z0V op (.str l) (.str m)=some r) :
  ∃ v,(binOp op t (.string ⟨l.toArray⟩) (.string ⟨m.toArray⟩)).run P w=.ok v w∧∀A,VI w A r v:=by
 cases op<;>simp only [z0V] at he
 case add =>
  obtain ⟨hc,he⟩:=z0r he
  cases he
  refine ⟨.string ⟨(l++m).toArray⟩,?_,fun _=>.str _⟩
  simp only [binOp]
  rw [run_string_add_sum w _ _ (by simpa [ByteArray.size] using hc)]
  congr 2
 case eql=>cases he;exact ⟨.bool (l == m),by simp [binOp,Op.stringOp],fun _=>by rw [x8C];exact .bool _⟩
 case neq=>cases he;exact ⟨.bool (!(l == m)),by simp [binOp,Op.stringOp],fun _=>by simp only [x8C,decide_not];exact .bool _⟩
 case lss=>cases he;exact ⟨.bool (Op.bytesLess l m),by simp [binOp,Op.stringOp],fun _=>.bool _⟩
 case leq=>cases he;exact ⟨.bool (Op.bytesLess l m || l == m),by simp [binOp,Op.stringOp],fun _=>by rw [x8C];exact .bool _⟩
 case gtr=>cases he;exact ⟨.bool (!(Op.bytesLess l m || l == m)),by simp [binOp,Op.stringOp],fun _=>by rw [x8C];exact .bool _⟩
 case geq=>cases he;exact ⟨.bool (!Op.bytesLess l m),by simp [binOp,Op.stringOp],fun _=>.bool _⟩
 all_goals cases he
theorem w14 (hE:EV vs ε w L (Av G.S L) a) (hR:R G L σ h a w) (op:BinOp) (t u:TypeId) (x y:Operand) (he:opE nb dst (ε) h (.bin op (z0Y vs x) (z0Y vs y))=some (d,ef)) :
  Snd P G σ h a w ⟨dst,.binOp op t x y u,ty,pos,after,guard⟩ d ef:=by
 simp only [opE,zO2] at he
 obtain ⟨r,hr,he⟩:=he
 cases he
 have hx:=hE x
 have hy:=hE y
 generalize ε (z0Y vs x)=dx at *
 generalize ε (z0Y vs y)=dy at *
 cases dx<;>cases dy<;>first|(simp [z0V] at hr;done)|skip
 ·have e1:=hx.inv_int
  have e2:=hy.inv_int
  obtain ⟨v,hv,hV⟩:=y7p (P:=P) (w:=w) op t _ _ _ _ hr
  exact Snd.val hR (v:=v) (by simp [execOp,e1,e2,z9U,hv]) (.imm (hV _))
 ·have e1:=hx.inv_str
  have e2:=hy.inv_str
  obtain ⟨v,hv,hV⟩:=y7q (P:=P) (w:=w) op t _ _ hr
  exact Snd.val hR (v:=v) (by simp [execOp,e1,e2,z9V,hv]) (.imm (hV _))
theorem w13 (hE:EV vs ε w L (Av G.S L) a) (hR:R G L σ h a w) (op:BinOp) (hop:op=.eql∨op=.neq) (t u:TypeId) (ht:P.underlying t=some .bool) (x y:Operand)
  (he:opE nb dst (ε) h (.beq (op == .neq) (z0Y vs x) (z0Y vs y))=some (d,ef)) :
  Snd P G σ h a w ⟨dst,.binOp op t x y u,ty,pos,after,guard⟩ d ef:=by
 simp only [opE] at he
 have hx:=hE x
 have hy:=hE y
 split at he
 ·rename_i p q hp hq
  cases he
  rw [hp] at hx
  rw [hq] at hy
  have e1:=hx.inv_bool
  have e2:=hy.inv_bool
  rcases hop with rfl|rfl
  ·exact Snd.val hR (v:=.bool (p == q)) (by simp [execOp,e1,e2,z38,run_eql_bool _ _ _ _ ht]) (.imm (.bool _))
  ·exact Snd.val hR (v:=.bool (!(p == q))) (by simp [execOp,e1,e2,z38,run_neq_bool _ _ _ _ ht]) (.imm (.bool _))
 ·cases he
theorem x2J {A:Nat→Prop} {cs ds:List DV} {xs ys:Array Value} (hlx:cs.length=xs.size) (hx:∀(k:Nat) d v,cs[k]? = some d→xs[k]? = some v→V w L A d v)
  (hly:ds.length=ys.size) (hy:∀(k:Nat) d v,ds[k]? = some d→ys[k]? = some v→V w L A d v) (n:Nat):∀(fs:List Field) (l:List (Nat × Nat)) (b:Bool),z4k P fs=some l→x6B cs ds l=some b→(Op.eqFields (n+1) xs ys fs).run P w=.ok b w
 | [],l,b,h1,h2=>by
  simp only [z4k,Option.some.injEq] at h1
  subst h1
  simp only [x6B,Option.some.injEq] at h2
  subst h2
  simp [Op.eqFields]
 | f::fs,l,b,h1,h2=>by
  have get:∀{zs:List DV} {us:Array Value} {o:Nat} {d:DV},zs.length=us.size→(∀(k:Nat) d v,zs[k]? = some d→us[k]? = some v→V w L A d v)→zs.getD o .undef=d→d≠.undef→∃v,us[o]? = some v∧V w L A d v:=by
   intro zs us o d hl hz hd hne
   by_cases ho:o<zs.length
   ·obtain ⟨y,hy⟩:=z0O ho
    obtain ⟨u,hu⟩:=z0w (l:=us) (k:=o) (by omega)
    rw [z1Z hy] at hd
    subst hd
    exact ⟨u,hu,hz o y u hy hu⟩
   ·rw [zO1,List.getElem?_eq_none (by omega)] at hd
    exact absurd hd.symm hne
  have fin : ∀ {td : TypeDesc} {va vb : Value} {r : Bool} {l' : List (Nat × Nat)}, f.name ≠ "_" → P.underlying f.type = some td → (∀ fs, td ≠ .struct fs) → (∀ a e, td ≠ .array a e) → xs[f.offset]? = some va → ys[f.offset]? = some vb → (Op.equalIn (n + 1) f.type va vb).run P w = .ok r w →
    z4k P fs=some l'→(if r then x6B cs ds l' else some false)=some b→(Op.eqFields (n+1) xs ys (f::fs)).run P w=.ok b w:=by
   intro td va vb r l' hn ht hs ha h3 h4 h5 h6 h7
   have hi:(isAgg f.type).run P w=.ok false w:=by
    simp only [isAgg,Sem.run_bind,run_underlying ht,Result.andThen_ok]
    cases td<;>first|rfl|exact absurd rfl (hs _)|exact absurd rfl (ha _ _)
   cases r
   ·have hb:b=false:=by simpa using h7.symm
    subst hb
    simp [Op.eqFields,hn,part,hi,h3,h4,h5]
   ·have ih:=x2J hlx hx hly hy n fs l' b h6 (by simpa using h7)
    simp [Op.eqFields,hn,part,hi,h3,h4,h5,ih]
  simp only [z4k] at h1
  split at h1
  ·cases h1
  ·rename_i hn
   split at h1
   all_goals first|(cases h1;done)|skip
   all_goals
    rename_i ht
    rw [zO2] at h1
    obtain ⟨l',hl',rfl⟩:=h1
    simp only [x6B,zO3] at h2
    obtain ⟨r,hr,h2⟩:=h2
    unfold eqD at hr
    split at hr
    all_goals first|(cases hr;done)|skip
    all_goals first|(rename_i hk _ _;cases hk;done)|skip
   ·rename_i hc hd
    split at hr
    ·rename_i hk
     subst hk
     cases hr
     obtain ⟨u,hu,hv⟩:=get hlx hx hc (by simp)
     obtain ⟨u',hu',hv'⟩:=get hly hy hd (by simp)
     rw [hv.inv_int] at hu
     rw [hv'.inv_int] at hu'
     exact fin hn ht (by simp) (by simp) hu hu' (by rw [run_equalIn_int _ _ _ _ _ _ _ ht,x8C]) hl' h2
    ·cases hr
   ·rename_i hc hd
    cases hr
    obtain ⟨u,hu,hv⟩:=get hlx hx hc (by simp)
    obtain ⟨u',hu',hv'⟩:=get hly hy hd (by simp)
    rw [hv.inv_bool] at hu
    rw [hv'.inv_bool] at hu'
    exact fin hn ht (by simp) (by simp) hu hu' (by rw [run_equalIn_bool' _ _ _ _ _ ht]) hl' h2
   ·rename_i hc hd
    cases hr
    obtain ⟨u,hu,hv⟩:=get hlx hx hc (by simp)
    obtain ⟨u',hu',hv'⟩:=get hly hy hd (by simp)
    rw [hv.inv_str] at hu
    rw [hv'.inv_str] at hu'
    exact fin hn ht (by simp) (by simp) hu hu' (by rw [run_equalIn_string _ _ _ _ _ ht,x8C];simp) hl' h2
theorem w18 (hE:EV vs ε w L (Av G.S L) a) (hR:R G L σ h a w) (op:BinOp) (hop:op=.eql∨op=.neq) (t u:TypeId) {fs:Array Field} (ht:P.underlying t=some (.struct fs)) (h1:P.stoodInHeld t=false) (h2:P.eqGuardType P.depth t=false) {l:List (Nat × Nat)} (hl:z4k P fs.toList=some l) (x y:Operand)
  (he:opE nb dst (ε) h (.eqs (op == .neq) l (z0Y vs x) (z0Y vs y))=some (d,ef)) :
  Snd P G σ h a w ⟨dst,.binOp op t x y u,ty,pos,after,guard⟩ d ef:=by
 simp only [opE] at he
 have hx:=hE x
 have hy:=hE y
 split at he
 ·rename_i cs ds hp hq
  rw [zO2] at he
  obtain ⟨b,hb,he⟩:=he
  cases he
  rw [hp] at hx
  rw [hq] at hy
  obtain ⟨xs,e1,l1,v1⟩:=hx.inv_agg
  obtain ⟨ys,e2,l2,v2⟩:=hy.inv_agg
  have hfs:P.fieldsOf t=fs:=by unfold Program.fieldsOf;rw [ht]
  have key:(Op.equalIn 10000 t (.agg xs) (.agg ys)).run P w=.ok b w:=by
   rw [run_equalIn_struct w 9999 t xs ys (by rw [hfs];exact ht) h1,hfs]
   exact x2J l1 v1 l2 v2 9998 fs.toList l b hl hb
  rcases hop with rfl|rfl
  ·exact Snd.val hR (v:=.bool b) (by simp [execOp,e1,e2,run_eqGuard_agg w _ _ _ _ _ _ h2,run_eql_struct,key]) (.imm (.bool _))
  ·exact Snd.val hR (v:=.bool (!b)) (by simp [execOp,e1,e2,run_eqGuard_agg w _ _ _ _ _ _ h2,run_neq_struct,key]) (.imm (.bool _))
 ·cases he
theorem w5c (hE:EV vs ε w L (Av G.S L) a) (hR:R G L σ h a w) (op:UnOp) (t:TypeId) (x:Operand) (he:opE nb dst (ε) h (.un op (z0Y vs x))=some (d,ef)) :
  Snd P G σ h a w ⟨dst,.unOp op t x,ty,pos,after,guard⟩ d ef:=by
 simp only [opE,zO2] at he
 obtain ⟨r,hr,he⟩:=he
 cases he
 have hx:=hE x
 generalize ε (z0Y vs x)=dx at *
 cases dx<;>first|(simp [unE] at hr;done)|skip
 ·rename_i k n
  have e1:=hx.inv_int
  cases op<;>simp only [unE] at hr<;>cases hr
  ·exact Snd.val hR (v:=.int k (k.wrap (0 - n))) (by simp [execOp,e1,Op.unary,Op.intArith]) (.imm (.int _ _))
  ·exact Snd.val hR (v:=.int k (z24 .xor k (if k.signed then -1 else k.max) n)) (by simp [execOp,e1,Op.unary,Op.intBits,z24]) (.imm (.int _ _))
 ·rename_i b
  have e1:=hx.inv_bool
  cases op<;>simp only [unE] at hr<;>cases hr
  exact Snd.val hR (v:=.bool (!b)) (by simp [execOp,e1,Op.unary]) (.imm (.bool _))
theorem x78 (hE:EV vs ε w L (Av G.S L) a) (hR:R G L σ h a w) (src tgt:TypeId) (i k:IntKind) (hs:P.underlying src=some (.int i)) (ht:P.underlying tgt=some (.int k)) (x:Operand)
  (he:opE nb dst (ε) h (.conv k (z0Y vs x))=some (d,ef)):Snd P G σ h a w ⟨dst,.convert src tgt x,ty,pos,after,guard⟩ d ef:=by
 simp only [opE] at he
 have hx:=hE x
 split at he
 ·rename_i j n hp
  cases he
  rw [hp] at hx
  have e1:=hx.inv_int
  exact Snd.val hR (v:=.int k (k.wrap n)) (by simp [execOp,e1,convert,run_underlying hs,run_underlying ht,Conv.intToInt]) (.imm (.int _ _))
 ·cases he
theorem x2H (n:Int) (h0:0≤n) (h1:n<128):Utf8.encode n=⟨#[UInt8.ofNat n.toNat]⟩:=by
 have hv:Utf8.valid n=true:=by
  simp only [Utf8.valid,Bool.or_eq_true,Bool.and_eq_true,decide_eq_true_eq]
  omega
 unfold Utf8.encode
 simp only [hv,if_true]
 rw [if_pos (by omega)]
theorem x5D (hE:EV vs ε w L (Av G.S L) a) (hR:R G L σ h a w) (src tgt:TypeId) {u:TypeDesc} (hs:P.underlying src=some u) (ht:P.underlying tgt=some .string) (x:Operand)
  (he:opE nb dst (ε) h (.s2s (z0Y vs x))=some (d,ef)):Snd P G σ h a w ⟨dst,.convert src tgt x,ty,pos,after,guard⟩ d ef:=by
 simp only [opE] at he
 have hx:=hE x
 split at he
 ·rename_i l hp
  cases he
  rw [hp] at hx
  exact Snd.val hR (v:=a.eval x) (by simp [execOp,hx.inv_str,convert,run_underlying hs,run_underlying ht]) hx
 ·rename_i k n hp
  obtain ⟨⟨h0,h1⟩,he⟩:=z0r he
  cases he
  rw [hp] at hx
  have e1:=hx.inv_int
  exact Snd.val hR (v:=.string ⟨[UInt8.ofNat n.toNat].toArray⟩) (by simp [execOp,e1,convert,run_underlying hs,run_underlying ht,Conv.intToString,x2H n h0 h1]) (.imm (.str _))
 ·cases he
theorem w2i (hE:EV vs ε w L (Av G.S L) a) (hR:R G L σ h a w) (t:TypeId) {u:TypeDesc} (hu:P.underlying t=some u) (hn:∀ms,u≠.interface ms) (x:Operand)
  (he:opE nb dst (ε) h (.mki t (z0Y vs x))=some (d,ef)):Snd P G σ h a w ⟨dst,.makeInterface t x,ty,pos,after,guard⟩ d ef:=by
 simp only [opE] at he
 obtain ⟨hrf,he⟩:=z0r he
 cases he
 have hx:=(hE x).rf_imm hrf
 refine Snd.val hR (v:=.iface t (a.eval x)) ?_ (.imm (.iface hx))
 simp only [execOp,Instr.makeInterface,Sem.run_bind,run_underlying hu,Result.andThen_ok]
 cases u<;>first|rfl|exact absurd rfl (hn _)
theorem x8d (hE:EV vs ε w L (Av G.S L) a) (hR:R G L σ h a w) (x y:Operand) (ts:Array TypeId) (he:opE nb dst (ε) h (.min2 (z0Y vs x) (z0Y vs y))=some (d,ef)) :
  Snd P G σ h a w ⟨dst,.call { callee:=.builtin .min,args:=#[x,y],argTypes:=ts },ty,pos,after,guard⟩ d ef:=by
 simp only [opE] at he
 have hx:=hE x
 have hy:=hE y
 split at he
 ·rename_i k p j q hp hq
  cases he
  rw [hp] at hx
  rw [hq] at hy
  have e1:=hx.inv_int
  have e2:=hy.inv_int
  exact Snd.val hR (v:=.int k (if q<p then q else p)) (by simp [execOp,resolve,invoke,builtin,e1,e2,run_min_int2]) (.imm (.int _ _))
 ·cases he
theorem x8c (hE:EV vs ε w L (Av G.S L) a) (hR:R G L σ h a w) (x y:Operand) (ts:Array TypeId) (he:opE nb dst (ε) h (.max2 (z0Y vs x) (z0Y vs y))=some (d,ef)) :
  Snd P G σ h a w ⟨dst,.call { callee:=.builtin .max,args:=#[x,y],argTypes:=ts },ty,pos,after,guard⟩ d ef:=by
 simp only [opE] at he
 have hx:=hE x
 have hy:=hE y
 split at he
 ·rename_i k p j q hp hq
  cases he
  rw [hp] at hx
  rw [hq] at hy
  have e1:=hx.inv_int
  have e2:=hy.inv_int
  exact Snd.val hR (v:=.int k (if q > p then q else p)) (by simp [execOp,resolve,invoke,builtin,e1,e2,run_max_int2]) (.imm (.int _ _))
 ·cases he
theorem w19 (hE:EV vs ε w L (Av G.S L) a) (hR:R G L σ h a w) (x:Operand) (i:Nat) (he:opE nb dst (ε) h (.ext (z0Y vs x) i)=some (d,ef)) :
  Snd P G σ h a w ⟨dst,.extract x i,ty,pos,after,guard⟩ d ef:=by
 simp only [opE] at he
 have hx:=hE x
 split at he
 ·rename_i ds hp
  obtain ⟨hlt,he⟩:=z0r he
  cases he
  rw [hp] at hx
  obtain ⟨us,e1,hl,hv⟩:=hx.inv_tup
  obtain ⟨y,hy⟩:=z0O hlt
  obtain ⟨u,hu⟩:=z0w (l:=us) (k:=i) (by omega)
  exact Snd.val hR (v:=u) (by simp [execOp,e1,Instr.extract,hu]) (by rw [z1Z hy];exact hv i y u hy hu)
 ·cases he
theorem w2a (hE:EV vs ε w L (Av G.S L) a) (hR:R G L σ h a w) (t:TypeId) (x:Operand) (f:Nat) {fs:Array Field} {g:Field} {n:Nat} (ht:P.underlying t=some (.struct fs)) (hf:fs[f]? = some g)
  (hn:z1h P g.type=some n) (hn0:n≠0) (he:opE nb dst (ε) h (.fad g.offset (z0Y vs x))=some (d,ef)) :
  Snd P G σ h a w ⟨dst,.fieldAddr t x f,ty,pos,after,guard⟩ d ef:=by
 simp only [z1h,zO2] at hn
 obtain ⟨i,hi,rfl⟩:=hn
 simp only [opE] at he
 have hx:=hE x
 split at he
 ·rename_i o k hp
  cases he
  rw [hp] at hx
  obtain ⟨b,hL,e1⟩:=hx.inv_ptr
  exact Snd.val hR (v:=.pointer (some ⟨b,k+g.offset,none⟩)) (by simp [execOp,e1,Instr.fieldAt,run_underlying ht,hf,Instr.sureAddr,fieldPlace,sizeOf,typeInfo,hi,hn0,add_lit]) (.ptr hL)
 ·rename_i xs k hp
  cases he
  rw [hp] at hx
  obtain ⟨ad,us,e1,hx0,hA,hc,hv⟩:=hx.inv_el
  exact Snd.val hR (v:=.pointer (some (ad.add (k+g.offset)))) (by simp [execOp,e1,Instr.fieldAt,run_underlying ht,hf,Instr.sureAddr,fieldPlace,sizeOf,typeInfo,hi,hn0,add_add]) (.imm (.el us hx0 hA hc hv))
 ·cases he
theorem w2d (hE:EV vs ε w L (Av G.S L) a) (hR:R G L σ h a w) (t:TypeId) (x i:Operand) {e:TypeId} {n:Nat} (ht:P.underlying t=some (.slice e)) (hn:z1h P e=some n) (hn0:n≠0)
  (he:opE nb dst (ε) h (.iad n (z0Y vs x) (z0Y vs i))=some (d,ef)):Snd P G σ h a w ⟨dst,.indexAddr t x i,ty,pos,after,guard⟩ d ef:=by
 simp only [z1h,zO2] at hn
 obtain ⟨inf,hi,rfl⟩:=hn
 simp only [opE] at he
 have hx:=hE x
 have hy:=hE i
 split at he
 ·rename_i s xs k m hp hq
  obtain ⟨hgd,he'⟩:=z0r he
  clear he
  obtain ⟨rfl,h0,hlt⟩:=hgd
  cases he'
  rw [hp] at hx
  rw [hq] at hy
  have e2:=hy.inv_int
  rcases hx.inv_sl with ⟨rfl,_⟩|⟨hx0,ad,len,c,us,e1,hl,hc,hA,hcell,hv⟩
  ·simp at hlt
   have:=Nat.mul_pos (show 0<m.toNat+1 by omega) (show 0<inf.size by omega)
   omega
  ·rw [hl] at hlt
   have hlt':m.toNat+1≤len:=Nat.le_of_mul_le_mul_right hlt (by omega)
   have hm:m<len:=by omega
   exact Snd.val hR (v:=.pointer (some (ad.add (m.toNat*inf.size))))
    (by simp [execOp,e1,e2,Instr.indexAt,asIntOf,run_underlying ht,sizeOf,typeInfo,hi,h0,hm]) (.imm (.el us hx0 hA hcell hv))
 ·rename_i s o off len k m hp hq
  obtain ⟨hgd,he'⟩:=z0r he
  clear he
  obtain ⟨rfl,h0,hlt⟩:=hgd
  cases he'
  rw [hp] at hx
  rw [hq] at hy
  have e2:=hy.inv_int
  rcases hx.inv_osl with ⟨b,c,T,m',hL,e1,hc,hs,hm⟩|⟨rfl,_⟩
  ·exact Snd.val hR (v:=.pointer (some ⟨b,off+m.toNat*inf.size,none⟩))
    (by simp [execOp,e1,e2,Instr.indexAt,asIntOf,run_underlying ht,sizeOf,typeInfo,hi,h0,hlt,add_lit]) (.ptr hL)
  ·omega
 ·cases he
theorem w2c (hE:EV vs ε w L (Av G.S L) a) (hR:R G L σ h a w) (t:TypeId) (x i:Operand) {e:TypeId} {n len:Nat} (ht:P.underlying t=some (.array len e)) (hn:z1h P e=some n)
  (he:opE nb dst (ε) h (.iaa len n (z0Y vs x) (z0Y vs i))=some (d,ef)):Snd P G σ h a w ⟨dst,.indexAddr t x i,ty,pos,after,guard⟩ d ef:=by
 simp only [z1h,zO2] at hn
 obtain ⟨inf,hi,rfl⟩:=hn
 simp only [opE] at he
 have hx:=hE x
 have hy:=hE i
 split at he
 ·rename_i o k j m hp hq
  obtain ⟨⟨h0,hlt⟩,he⟩:=z0r he
  cases he
  rw [hp] at hx
  rw [hq] at hy
  have e2:=hy.inv_int
  obtain ⟨b,hL,e1⟩:=hx.inv_ptr
  exact Snd.val hR (v:=.pointer (some ⟨b,k+m.toNat*inf.size,none⟩))
   (by simp [execOp,e1,e2,Instr.indexAt,asIntOf,run_underlying ht,sizeOf,typeInfo,hi,h0,hlt,add_lit,Instr.sureAddr]) (.ptr hL)
 ·rename_i xs k j m hp hq
  obtain ⟨⟨h0,hlt⟩,he⟩:=z0r he
  cases he
  rw [hp] at hx
  rw [hq] at hy
  have e2:=hy.inv_int
  obtain ⟨ad,us,e1,hx0,hA,hc,hv⟩:=hx.inv_el
  exact Snd.val hR (v:=.pointer (some (ad.add (k+m.toNat*inf.size))))
   (by simp [execOp,e1,e2,Instr.indexAt,asIntOf,run_underlying ht,sizeOf,typeInfo,hi,h0,hlt,add_add,Instr.sureAddr]) (.imm (.el us hx0 hA hc hv))
 ·cases he
theorem w2e (hE:EV vs ε w L (Av G.S L) a) (hR:R G L σ h a w) (t:TypeId) (x i:Operand) (ht:P.underlying t=some .string)
  (he:opE nb dst (ε) h (.idx (z0Y vs x) (z0Y vs i))=some (d,ef)):Snd P G σ h a w ⟨dst,.index t x i,ty,pos,after,guard⟩ d ef:=by
 simp only [opE] at he
 have hx:=hE x
 have hy:=hE i
 split at he
 ·rename_i l j m hp hq
  obtain ⟨⟨h0,hlt⟩,he⟩:=z0r he
  cases he
  rw [hp] at hx
  rw [hq] at hy
  have e1:=hx.inv_str
  have e2:=hy.inv_int
  have hg:(⟨l.toArray⟩:ByteArray)[m.toNat]? = some (l.getD m.toNat 0):=by
   obtain ⟨y,hy⟩:=z0O hlt
   rw [z1Z hy]
   have hs:m.toNat<(⟨l.toArray⟩:ByteArray).size:=by simpa [ByteArray.size] using hlt
   rw [getElem?_pos (⟨l.toArray⟩:ByteArray) m.toNat hs]
   have:(⟨l.toArray⟩:ByteArray)[m.toNat]=l[m.toNat]:=rfl
   rw [this]
   rw [zO4 hlt] at hy
   exact hy
  exact Snd.val hR (v:=.int .u8 (l.getD m.toNat 0).toNat)
   (by simp [execOp,e1,e2,Instr.index,asIntOf,run_underlying ht,h0,hg]) (.imm (.int _ _))
 ·cases he
theorem y0F {sz n:Nat} {xs:List DV} (h:xs.length=n*sz) (h0:sz≠0):cnt sz xs=n:=by
 unfold cnt
 split
 ·rename_i e;subst e;simpa using h
 ·rw [h,Nat.mul_div_cancel _ (by omega)]
theorem y3l (hE:EV vs ε w L (Av G.S L) a) (hR:R G L σ h a w) (t:TypeId) (x:Operand) {e:TypeId} {n:Nat} (ht:P.underlying t=some (.slice e)) (hn0:n≠0)
  (he:opE nb dst (ε) h (.len n (z0Y vs x))=some (d,ef)) :
  Snd P G σ h a w ⟨dst,.call { callee:=.builtin .len,args:=#[x],argTypes:=#[t] },ty,pos,after,guard⟩ d ef:=by
 simp only [opE] at he
 have hx:=hE x
 split at he
 ·rename_i s xs hp
  obtain ⟨hgd,he'⟩:=z0r he
  clear he
  obtain rfl:=hgd
  cases he'
  rw [hp] at hx
  rcases hx.inv_sl with ⟨rfl,ad,c,e1⟩|⟨hx0,ad,len,c,us,e1,hl,hc,hA,hcell,hv⟩
  ·exact Snd.val hR (v:=.int .i64 (0:Nat)) (by simp [execOp,resolve,invoke,builtin,e1,Builtin.len_,run_underlying ht,goInt]) (.imm (VI.int' (by simp [cnt])))
  ·exact Snd.val hR (v:=.int .i64 len) (by simp [execOp,resolve,invoke,builtin,e1,Builtin.len_,run_underlying ht,goInt]) (.imm (VI.int' (by rw [y0F hl hn0])))
 ·rename_i s o off m hp
  cases he
  rw [hp] at hx
  rcases hx.inv_osl with ⟨b,c,T,m',hL,e1,hc,hs,hm⟩|⟨rfl,e1⟩
  ·exact Snd.val hR (v:=.int .i64 m) (by simp [execOp,resolve,invoke,builtin,e1,Builtin.len_,run_underlying ht,goInt]) (.imm (.int _ _))
  ·exact Snd.val hR (v:=.int .i64 (0:Nat)) (by simp [execOp,resolve,invoke,builtin,e1,Builtin.len_,run_underlying ht,goInt]) (.imm (.int _ _))
 ·rename_i hp
  cases he
  rw [hp] at hx
  have e1:=hx.inv_nils
  exact Snd.val hR (v:=.int .i64 0) (by simp [execOp,resolve,invoke,builtin,e1,Builtin.len_,run_underlying ht,goInt]) (.imm (.int _ _))
 ·cases he
theorem y7x (hE:EV vs ε w L (Av G.S L) a) (hR:R G L σ h a w) (t:TypeId) (x:Operand) (ht:P.underlying t=some .string)
  (he:opE nb dst (ε) h (.lenS (z0Y vs x))=some (d,ef)) :
  Snd P G σ h a w ⟨dst,.call { callee:=.builtin .len,args:=#[x],argTypes:=#[t] },ty,pos,after,guard⟩ d ef:=by
 simp only [opE] at he
 have hx:=hE x
 split at he
 ·rename_i l hp
  cases he
  rw [hp] at hx
  have e1:=hx.inv_str
  exact Snd.val hR (v:=.int .i64 ((⟨l.toArray⟩:ByteArray).size:Nat)) (by simp [execOp,resolve,invoke,builtin,e1,run_len_string _ _ _ _ ht,goInt]) (.imm (VI.int' rfl))
 ·cases he
theorem w2b (hE:EV vs ε w L (Av G.S L) a) (hR:R G L σ h a w) (t:TypeId) (x:Operand) (f:Nat) {fs:Array Field} {g:Field} (ht:P.underlying t=some (.struct fs)) (hf:fs[f]? = some g)
  (hA:y5S P g.type=false) (hu:(P.underlying g.type).isSome=true) (he:opE nb dst (ε) h (.fld g.offset (z0Y vs x))=some (d,ef)) :
  Snd P G σ h a w ⟨dst,.field t x f,ty,pos,after,guard⟩ d ef:=by
 simp only [opE] at he
 have hx:=hE x
 split at he
 ·rename_i cs hp
  obtain ⟨hlt,he⟩:=z0r he
  cases he
  rw [hp] at hx
  obtain ⟨us,e1,hl,hv⟩:=hx.inv_agg
  obtain ⟨y,hy⟩:=z0O hlt
  obtain ⟨u,hu'⟩:=z0w (l:=us) (k:=g.offset) (by omega)
  obtain ⟨td,htd⟩:=Option.isSome_iff_exists.1 hu
  have hi:(isAgg g.type).run P w=.ok false w:=by
   unfold y5S at hA
   rw [htd] at hA
   simp only [isAgg,Sem.run_bind,run_underlying htd,Result.andThen_ok]
   cases td<;>first|rfl|simp at hA
  refine Snd.val hR (v:=u) ?_ (by rw [z1Z hy];exact hv _ y u hy hu')
  simp [execOp,Instr.field,run_underlying ht,hf,e1,asAgg,part,hi,hu']
 ·cases he
theorem x79 (hE:EV vs ε w L (Av G.S L) a) (hR:R G L σ h a w) (t:TypeId) (x:Operand) (f n:Nat) {fs:Array Field} {g:Field} (ht:P.underlying t=some (.struct fs)) (hf:fs[f]? = some g)
  (hA:y5S P g.type=true) (hn:z1h P g.type=some n) (he:opE nb dst (ε) h (.fldn g.offset n (z0Y vs x))=some (d,ef)) :
  Snd P G σ h a w ⟨dst,.field t x f,ty,pos,after,guard⟩ d ef:=by
 simp only [opE] at he
 have hx:=hE x
 split at he
 ·rename_i cs hp
  obtain ⟨hlt,he⟩:=z0r he
  cases he
  rw [hp] at hx
  obtain ⟨us,e1,hl,hv⟩:=hx.inv_agg
  have hi:(isAgg g.type).run P w=.ok true w:=by
   unfold y5S at hA
   split at hA
   ·rename_i hu;simp [isAgg,run_underlying hu]
   ·rename_i hu;simp [isAgg,run_underlying hu]
   ·cases hA
  simp only [z1h,zO2] at hn
  obtain ⟨i,hi',rfl⟩:=hn
  refine Snd.val hR (v:=.agg (us.extract g.offset (g.offset+i.size))) ?_ (.agg (by simp;omega) fun k y v h1 h2=>?_)
  ·simp [execOp,Instr.field,run_underlying ht,hf,e1,asAgg,part,hi,sizeOf,typeInfo,hi']
  ·have h1':=z15 h1
   rw [Array.getElem?_extract] at h2
   split at h2
   ·exact hv _ y v h1' h2
   ·cases h2
 ·cases he
end
end Go.Dat
namespace Go.Dat
open Go
section
variable {P:Program} {G:Cx} {L:Nat→Option Nat} {σ:Nat→DV} {h:Heap} {a:Act} {w:World} {vs own:List Nat} {ε:Opd→DV}
variable (nb:Nat) {d:DV} {ef:Eff} {dst:Option Nat} {ty:TypeId} {pos:String} {after:Array Edge} {guard:Option (Nat × Bool)}
theorem z7w {α:Type} (z:List α) (hz:z≠[]):∀(l k:Nat) (x:α),(List.replicate l z).flatten[k]? = some x→z[k % z.length]? = some x
 | 0,k,x,hk=>by simp at hk
 | l+1,k,x,hk=>by
  rw [List.replicate_succ,List.flatten_cons,List.getElem?_append] at hk
  split at hk
  ·rename_i hlt;rwa [Nat.mod_eq_of_lt hlt]
  ·rename_i hge
   have:=z7w z hz l _ x hk
   rwa [←Nat.mod_eq_sub_mod (by omega)] at this
theorem x45 {z:List DV} (hz:z≠[]) {l k:Nat} {x:DV} (hk:(rep l z)[k]? = some x):z[k % z.length]? = some x:=by
 unfold rep at hk
 split at hk
 ·rename_i z0
  rw [List.getElem?_replicate] at hk
  split at hk
  ·cases hk;simp [Nat.mod_one]
  ·cases hk
 ·exact z7w z hz l k x hk
theorem z3x (l:Nat) (z:List DV):(rep l z).length=l*z.length:=by
 unfold rep
 split
 ·simp
 ·simp
theorem z9X (w:World) (cs:Array Value) (T:TypeId):(w.alloc (.cells cs T)).shape? w.heap.size=some (T,cs.size):=by
 simp only [World.shape?]
 rw [heap_alloc_new w (.cells cs T)]
theorem w2j (hE:EV vs ε w L (Av G.S L) a) (hR:R G L σ h a w) (t e:TypeId) (x y:Operand) {i:TypeInfo} {z:List DV} (ht:P.underlying t=some (.slice e)) (hi:P.info? e=some i) (hz:z3B P e=some z)
  (h0:i.size≠0) (hb0:i.bytes≠0) (hzl:z.length=i.size) (he:opE nb dst (ε) h (.mks i.size i.bytes z (z0Y vs x) (z0Y vs y))=some (d,ef)) :
  Snd P G σ h a w ⟨dst,.makeSlice t x y,ty,pos,after,guard⟩ d ef:=by
 simp only [opE] at he
 have hx:=hE x
 have hy:=hE y
 split at he
 ·rename_i k p j q hp hq
  obtain ⟨⟨g1,g2,g3⟩,he⟩:=z0r he
  rw [zO2] at he
  obtain ⟨id,hid,he⟩:=he
  cases he
  rw [hp] at hx
  rw [hq] at hy
  have e1:=hx.inv_int
  have e2:=hy.inv_int
  simp only [z3B,zO2,zO3] at hz
  obtain ⟨zv,⟨i',hi',hzi⟩,rfl⟩:=hz
  rw [hi] at hi';cases hi'
  have hq63:q≤9223372036854775807:=by
   have h1:q*1≤q*(i.bytes:Int):=Int.mul_le_mul_of_nonneg_left (by omega) (by omega)
   omega
  have hrun:=run_make (P:=P) w t e i zv ht hi hzi k j p q g1 g2 (by rw [Int.mul_comm];exact g3) hq63
  have hzs:zv.cells.size=i.size:=by simpa using hzl
  have hpq:p.toNat≤q.toNat:=by omega
  refine Snd.new (T:=e) (cs:=madeCells zv.cells (q.toNat*i.size)) (v:=.slice (some ⟨w.heap.size,0,none⟩) p.toNat q.toNat) hR (z0M hid).1 ⟨fun h=>absurd (z0M hid).2 (by omega),fun h=>absurd (z0M hid).2 (by omega)⟩ ?_ ?_ (by simp [execOp,e1,e2,hrun])
   (.osl (c:=q.toNat) (by simp [z1O]) hpq (z9X _ _ _) (by simp [size_madeCells]))
  ·rw [z3x,hzl,size_madeCells]
   exact Nat.mul_le_mul_right _ hpq
  ·intro k dd v h1 h2
   have h3:=x45 (by intro e0;rw [e0] at hzl;simp at hzl;omega) h1
   simp only [List.getElem?_map,zO2,List.length_map,Array.length_toList] at h3
   obtain ⟨u,hu,rfl⟩:=h3
   have:v=u:=by
    simp only [madeCells,Array.getElem?_map] at h2
    rw [zO2] at h2
    obtain ⟨k',hk',rfl⟩:=h2
    have hkk:k'=k:=by
     have:=Array.getElem?_eq_some_iff.1 hk'
     obtain ⟨h4,h5⟩:=this
     simpa using h5.symm
    subst hkk
    have hu':zv.cells[k' % zv.cells.size]? = some u:=by simpa using hu
    simp [getElem!_def,hu']
   subst this
   exact .imm (z5O _ _ _)
 ·cases he
theorem z3q (hE:EV vs ε w L (Av G.S L) a) (hR:R G L σ h a w) {n dflt b:Nat} (x:Option Operand) (he:z0j (ε) n (x.map (z0Y vs)) dflt=some b) :
  (x.map a.eval=none∧b=dflt)∨∃k i,x.map a.eval=some (.int k i)∧0≤i∧i≤(n:Int)∧b=i.toNat:=by
 cases x with
 | none=>simp only [Option.map_none,z0j,Option.some.injEq] at he;exact .inl ⟨rfl,he.symm⟩
 | some x =>
  simp only [Option.map_some,z0j] at he
  have hx:=hE x
  split at he
  ·rename_i k i hp
   obtain ⟨⟨g1,g2⟩,he⟩:=z0r he
   cases he
   rw [hp] at hx
   exact .inr ⟨k,i,by simp [hx.inv_int],g1,g2,rfl⟩
  ·cases he
theorem z2k (P:Program) (w:World) (isS:Bool) (len cap:Nat) (lo hi:Option Value) {l b:Nat}
  (hb:(hi=none∧b=len)∨∃k i,hi=some (.int k i)∧0≤i∧i≤(cap:Int)∧b=i.toNat)
  (hl:(lo=none∧l=0)∨∃k i,lo=some (.int k i)∧0≤i∧i≤(b:Int)∧l=i.toNat) :
  (Instr.sliceBounds isS len cap lo hi none).run P w=.ok (l,b,cap) w:=by
 rcases hb with ⟨rfl,rfl⟩|⟨k,i,rfl,h1,h2,rfl⟩<;>rcases hl with ⟨rfl,rfl⟩|⟨k',j,rfl,h3,h4,rfl⟩
 ·simp [Instr.sliceBounds]
 ·simp [Instr.sliceBounds,run_sliceBound w k' j _ _ h3 h4]
 ·simp [Instr.sliceBounds,run_sliceBound w k i _ _ h1 h2]
 ·simp [Instr.sliceBounds,run_sliceBound w k i _ _ h1 h2,run_sliceBound w k' j _ _ h3 h4]
theorem z2w {e:Opd→DV} {n dflt b:Nat} {x:Option Opd} (he:z0j e n x dflt=some b) (hd:dflt≤n):b≤n:=by
 unfold z0j at he
 split at he
 ·cases he;exact hd
 ·split at he
  ·obtain ⟨⟨g1,g2⟩,he⟩:=z0r he
   cases he;omega
  ·cases he
theorem w2l (hE:EV vs ε w L (Av G.S L) a) (hR:R G L σ h a w) (t e:TypeId) (x:Operand) (lo hi:Option Operand) {n:Nat} (ht:P.underlying t=some (.slice e)) (hn:z1h P e=some n) (hn0:n≠0)
  (he:opE nb dst (ε) h (.slc n (z0Y vs x) (lo.map (z0Y vs)) (hi.map (z0Y vs)))=some (d,ef)) :
  Snd P G σ h a w ⟨dst,.slice t x lo hi none,ty,pos,after,guard⟩ d ef:=by
 simp only [z1h,zO2] at hn
 obtain ⟨inf,hinf,rfl⟩:=hn
 simp only [opE] at he
 have hx:=hE x
 have hrun:∀(A:Option Addr) (len cap l b:Nat),a.eval x=.slice A len cap→(Instr.sliceBounds true len cap (lo.map a.eval) (hi.map a.eval) none).run P w=.ok (l,b,cap) w →
   (execOp a.eval ⟨dst,.slice t x lo hi none,ty,pos,after,guard⟩).run P w=.ok (.value (.slice (if cap=l then A else A.map (·.add (l*inf.size))) (b - l) (cap - l))) w:=by
  intro A len cap l b e1 hb
  simp [execOp,Instr.sliceAt,Instr.slice,run_underlying ht,e1,hb,sizeOf,typeInfo,hinf]
 split at he
 ·rename_i s xs hp
  obtain ⟨hgd,he'⟩:=z0r he
  clear he
  obtain rfl:=hgd
  simp only [zO3,zO2] at he'
  obtain ⟨b,hb,l,hl,he'⟩:=he'
  cases he'
  rw [hp] at hx
  have hbl:=z2w hb (Nat.le_refl _)
  have hll:=z2w hl (Nat.zero_le _)
  have hlV:=z3q (vs:=vs) hE hR lo hl
  rcases hx.inv_sl with ⟨rfl,A,c,e1⟩|⟨hx0,ad,len,c,us,e1,hlen,hc,hA,hcell,hv⟩
  ·have hb0:b=0:=by simpa [cnt] using hbl
   have hl0:l=0:=by omega
   have hbV:=z3q (vs:=vs) hE hR hi hb
   subst hb0;subst hl0
   refine Snd.val hR (hrun A 0 c 0 0 e1 (z2k P w true 0 c _ _ ?_ ?_)) ?_
   ·rcases hbV with ⟨h1,h2⟩|⟨k,i,h1,h2,h3,h4⟩
    ·exact .inl ⟨h1,rfl⟩
    ·exact .inr ⟨k,i,h1,h2,by omega,h4⟩
   ·exact hlV
   ·simpa using V.imm (L:=L) (VI.sl0 (w:=w) (A:=Av G.S L) inf.size _ _)
  ·have hcn:=y0F hlen hn0
   rw [hcn] at hb hbl
   have hbV:=z3q (vs:=vs) hE hR hi hb
   refine Snd.val hR (hrun (some ad) len c l b e1 (z2k P w true len c _ _ ?_ hlV)) ?_
   ·rcases hbV with ⟨h1,h2⟩|⟨k,i,h1,h2,h3,h4⟩
    ·exact .inl ⟨h1,h2⟩
    ·exact .inr ⟨k,i,h1,h2,by omega,h4⟩
   ·by_cases hlb:l=b
    ·subst hlb
     have:(xs.take (l*inf.size)).drop (l*inf.size)=[]:=List.drop_eq_nil_of_le (by simp;omega)
     rw [this,Nat.sub_self]
     exact .imm (.sl0 _ _ _)
    ·have hlt:l<b:=by omega
     rw [if_neg (by omega)]
     have hbs:b*inf.size≤xs.length:=by rw [hlen];exact Nat.mul_le_mul_right _ hbl
     have hget:∀k dd,((xs.take (b*inf.size)).drop (l*inf.size))[k]? = some dd→xs[l*inf.size+k]? = some dd:=by
      intro k dd hk
      rw [List.getElem?_drop,List.getElem?_take] at hk
      split at hk
      ·exact hk
      ·cases hk
     have hls:l*inf.size<b*inf.size:=Nat.mul_lt_mul_of_pos_right hlt (Nat.pos_of_ne_zero hn0)
     refine .imm (.sl (ad:=ad.add (l*inf.size)) (fun k=>us (l*inf.size+k)) ?_ ?_ (by omega) (by rw [z5w];exact hA) (fun k dd hk=>?_) (fun k dd hk=>hv _ dd (hget k dd hk)))
     ·intro e0
      have:=congrArg List.length e0
      simp at this
      omega
     ·simp only [List.length_drop,List.length_take,Nat.sub_mul]
      omega
     ·rw [add_add];exact hcell _ dd (hget k dd hk)
 ·rename_i s o off len hp
  obtain ⟨hgd,he'⟩:=z0r he
  clear he
  obtain rfl:=hgd
  simp only [zO3] at he'
  obtain ⟨b,hb,l,hl,he'⟩:=he'
  rw [hp] at hx
  have hbl:=z2w hb (Nat.le_refl _)
  have hlV:=z3q (vs:=vs) hE hR lo hl
  have hbV:=z3q (vs:=vs) hE hR hi hb
  rcases Nat.lt_trichotomy l b with hlt|heq|hgt
  case inr.inl =>
   rw [x3C heq] at he'
   cases he'
   subst heq
   rcases hx.inv_osl with ⟨bk,c,T,m,hL,e1,hc,hs,hm⟩|⟨rfl,e1⟩
   ·refine Snd.val hR (hrun (some ⟨bk,off,none⟩) len c l l e1 (z2k P w true len c _ _ ?_ hlV)) ?_
    ·rcases hbV with ⟨h1,h2⟩|⟨k,i,h1,h2,h3,h4⟩
     ·exact .inl ⟨h1,h2⟩
     ·exact .inr ⟨k,i,h1,h2,by omega,h4⟩
    ·rw [Nat.sub_self];exact .imm (.sl0 _ _ _)
   ·have hl0:l=0:=by omega
    subst hl0
    refine Snd.val hR (hrun none 0 0 0 0 e1 (z2k P w true 0 0 _ _ hbV hlV)) ?_
    exact .imm (.sl0 _ _ _)
  case inr.inr=>unfold gdo at he';rw [if_neg (by omega),if_neg (by omega)] at he';cases he'
  rw [x3D hlt] at he'
  cases he'
  rcases hx.inv_osl with ⟨bk,c,T,m,hL,e1,hc,hs,hm⟩|⟨rfl,_⟩
  ·refine Snd.val hR (hrun (some ⟨bk,off,none⟩) len c l b e1 (z2k P w true len c _ _ ?_ hlV)) ?_
   ·rcases hbV with ⟨h1,h2⟩|⟨k,i,h1,h2,h3,h4⟩
    ·exact .inl ⟨h1,h2⟩
    ·exact .inr ⟨k,i,h1,h2,by omega,h4⟩
   ·rw [if_neg (by omega)]
    simp only [Option.map_some,add_lit]
    refine .osl hL (by omega) hs ?_
    rw [Nat.sub_mul]
    have:l*inf.size≤c*inf.size:=Nat.mul_le_mul_right _ (by omega)
    omega
  ·omega
 ·rename_i hp
  simp only [zO3,zO2] at he
  obtain ⟨b,hb,l,hl,he⟩:=he
  cases he
  rw [hp] at hx
  have e1:=hx.inv_nils
  have hbl:=z2w hb (Nat.le_refl _)
  have hll:=z2w hl (Nat.zero_le _)
  have hlV:=z3q (vs:=vs) hE hR lo hl
  have hbV:=z3q (vs:=vs) hE hR hi hb
  have hb0:b=0:=by omega
  have hl0:l=0:=by omega
  subst hb0;subst hl0
  refine Snd.val hR (hrun none 0 0 0 0 e1 (z2k P w true 0 0 _ _ hbV hlV)) ?_
  simpa using V.imm (L:=L) (VI.nils (w:=w) (A:=Av G.S L))
 ·cases he
theorem y6l (l:List UInt8) (i j:Nat):(⟨l.toArray⟩:ByteArray).extract i j=⟨((l.take j).drop i).toArray⟩:=by
 apply ByteArray.ext
 rw [ByteArray.data_extract]
 apply Array.ext'
 simp [List.drop_take]
theorem x8h (hE:EV vs ε w L (Av G.S L) a) (hR:R G L σ h a w) (t:TypeId) (x:Operand) (lo hi:Option Operand) (ht:P.underlying t=some .string)
  (he:opE nb dst (ε) h (.slcS (z0Y vs x) (lo.map (z0Y vs)) (hi.map (z0Y vs)))=some (d,ef)) :
  Snd P G σ h a w ⟨dst,.slice t x lo hi none,ty,pos,after,guard⟩ d ef:=by
 simp only [opE] at he
 have hx:=hE x
 split at he
 ·rename_i s hp
  simp only [zO3,zO2] at he
  obtain ⟨b,hb,l,hl,he⟩:=he
  cases he
  rw [hp] at hx
  have e1:=hx.inv_str
  have hlV:=z3q (vs:=vs) hE hR lo hl
  have hbV:=z3q (vs:=vs) hE hR hi hb
  have hsz:(⟨s.toArray⟩:ByteArray).size=s.length:=rfl
  have hbd:=z2k P w false s.length s.length (lo.map a.eval) (hi.map a.eval) hbV hlV
  refine Snd.val hR (v:=.string ⟨((s.take b).drop l).toArray⟩) ?_ (.imm (.str _))
  simp [execOp,Instr.sliceAt,Instr.slice,run_underlying ht,e1,hsz,hbd,y6l]
 ·cases he
end
end Go.Dat
