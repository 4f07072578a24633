/- Lemmas of the walk; no conditions beyond those that each states. -/
import Derived.Laws.IdiomStrings
import Derived.Laws.BytesArg
import Derived.Lib.AppendStr
import Derived.Lib.LaidTab
import Derived.Lib.ItoaNum
import Derived.FnData
import Derived.Test.YtlcagndeidjobaaGreatDoorD1
set_option linter.unusedSimpArgs false
set_option linter.unusedVariables false
set_option linter.unnecessarySimpa false
set_option maxHeartbeats 4000000
namespace Go.Dat
open Go
theorem y4E (off:Nat):∀(l:List Value) (j:Nat) (cells:Array Value),off+j+l.length≤cells.size →
  ((l.zipIdx j).foldl (fun cs p=>cs.setIfInBounds (off+p.2) p.1) cells).size=cells.size ∧
  ∀ k,((l.zipIdx j).foldl (fun cs p=>cs.setIfInBounds (off+p.2) p.1) cells)[k]? = if off+j≤k∧k<off+j+l.length then l[k - (off+j)]? else cells[k]?
 | [],j,cells,_=>⟨rfl,fun k=>by rw [if_neg (by simp)];simp⟩
 | x::l,j,cells,hb=>by
  simp only [List.length_cons] at hb
  obtain ⟨h1,h2⟩:=y4E off l (j+1) (cells.setIfInBounds (off+j) x) (by simp;omega)
  simp only [List.zipIdx_cons,List.foldl_cons]
  refine ⟨by rw [h1];simp,fun k=>?_⟩
  rw [h2 k]
  simp only [List.length_cons]
  by_cases e:k=off+j
  ·subst e
   rw [if_neg (by omega),if_pos (by omega),Array.getElem?_setIfInBounds]
   simp
   omega
  ·by_cases hk:off+(j+1)≤k∧k<off+(j+1)+l.length
   ·rw [if_pos hk,if_pos (by omega)]
    have:k - (off+j)=(k - (off+(j+1)))+1:=by omega
    rw [this,List.getElem?_cons_succ]
   ·rw [if_neg hk,if_neg (by omega),Array.getElem?_setIfInBounds,if_neg (by omega)]
theorem z9t {cells cs:List DV} {off n:Nat} (hl:cs.length=n) (hb:off+n≤cells.length) :
  spl cells off n cs=cells.take off++cs++cells.drop (off+n):=by
 unfold spl
 split
 ·subst hl
  rw [List.set_eq_take_append_cons_drop,if_pos (by simp at hb;omega)]
  simp
 ·rfl
section
variable {P:Program} {G:Cx} {L:Nat→Option Nat} {σ:Nat→DV} {h:Heap} {a:Act} {w:World} {vs own:List Nat} {ε:Opd→DV}
variable (nb:Nat) {d:DV} {ef:Eff} {dst:Option Nat} {ty:TypeId} {pos:String} {after:Array Edge} {guard:Option (Nat × Bool)}
theorem z8Z (hE:EV vs ε w L (Av G.S L) a) (hR:R G L σ h a w) (place:Nat→Option (Nat × Nat)):∀(ps:List (Nat × Operand)) (qs:List (Nat × Nat × Opd)) (dc dr:List DV) (cells:Array Value),
  z4A vs place ps=some qs→laid dc (qs.map fun p=>(p.1,p.2.1,ε p.2.2))=some dr→cells.size=dc.length →
  (∀(k:Nat) d v,dc[k]? = some d→cells[k]? = some v→V w L (Av G.S L) d v) →
  ∃ res,Instr.fill place cells (ps.map fun p=>(p.1,a.eval p.2))=some res∧res.size=dr.length∧∀(k:Nat) d v,dr[k]? = some d→res[k]? = some v→V w L (Av G.S L) d v
 | [],qs,dc,dr,cells,hq,hl,hs,hV=>by
  simp only [z4A,Option.some.injEq] at hq
  subst hq
  simp only [List.map_nil,laid,Option.some.injEq] at hl
  subst hl
  exact ⟨cells,rfl,hs,hV⟩
 | (i,x)::ps,qs,dc,dr,cells,hq,hl,hs,hV=>by
  simp only [z4A,zO3,zO2] at hq
  obtain ⟨⟨off,n⟩,hp,qs',hq',rfl⟩:=hq
  simp only [List.map_cons,laid,zO3] at hl
  obtain ⟨cs,hcs,hl⟩:=hl
  split at hl
  ·rename_i hc
   obtain ⟨hcn,hfit⟩:=hc
   rw [z9t hcn hfit] at hl
   obtain ⟨v1,v2,v3⟩:=(hE x).cells hcs
   have hsz:(a.eval x).cells.toList.length=n:=by simp;omega
   obtain ⟨f1,f2⟩:=y4E off (a.eval x).cells.toList 0 cells (by rw [hsz];omega)
   obtain ⟨res,h1,h2,h3⟩:=z8Z hE hR place ps qs' _ dr (((a.eval x).cells.toList.zipIdx 0).foldl (fun cs p=>cs.setIfInBounds (off+p.2) p.1) cells) hq' hl
    (by rw [f1,hs];simp;omega) (fun k dd v hk1 hk2=>by
     rw [f2 k,hsz] at hk2
     rcases z6X (cur:=cells.toList) (us:=(a.eval x).cells.toList) (k:=k) (y:=v) hfit (by simp;omega) hcn hsz hk1 (by
      rw [List.getElem?_append,List.getElem?_append]
      simp only [List.length_append,List.length_take,Array.length_toList]
      rw [show min off cells.size=off by omega]
      simp only [Array.length_toList] at hsz
      rw [hsz]
      by_cases e1:k<off+n
      ·rw [if_pos e1]
       by_cases e2:k<off
       ·rw [if_pos e2,List.getElem?_take,if_pos e2]
        rw [if_neg (by omega)] at hk2
        simpa using hk2
       ·rw [if_neg e2]
        rw [if_pos (by omega)] at hk2
        simpa using hk2
      ·rw [if_neg e1,List.getElem?_drop,show off+n+(k - (off+n))=k by omega]
       rw [if_neg (by omega)] at hk2
       simpa using hk2) with ⟨e1,e2⟩|⟨e1,e2⟩
     ·exact hV k dd v e1 (by simpa using e2)
     ·exact v2 _ dd v e1 (by simpa using e2))
   refine ⟨res,?_,h2,h3⟩
   simp only [List.map_cons,Instr.fill,hp]
   rw [if_neg (by simp;omega)]
   rw [←Array.foldl_toList,Array.toList_zipIdx]
   exact h1
  ·cases hl
theorem y5J (hE:EV vs ε w L (Av G.S L) a) (hR:R G L σ h a w) (t:TypeId) (ps:Array (Nat × Operand)) {place:Nat→Option (Nat × Nat)} {z:List DV} {qs:List (Nat × Nat × Opd)}
  (hz:z3B P t=some z) (hq:z4A vs place ps.toList=some qs)
  (hb:∀(zv:Value) (i:TypeInfo) (parts:List (Nat × Value)),P.info? t=some i→i.zero=some zv→P.built t parts=Instr.fill place zv.cells parts)
  (he:opE nb dst (ε) h (.build z qs)=some (d,ef)):Snd P G σ h a w ⟨dst,.build t ps,ty,pos,after,guard⟩ d ef:=by
 simp only [opE,zO2] at he
 obtain ⟨cs,hcs,he⟩:=he
 cases he
 simp only [z3B,zO2,zO3] at hz
 obtain ⟨zv,⟨i,hi,hzi⟩,rfl⟩:=hz
 obtain ⟨res,h1,h2,h3⟩:=z8Z hE hR place ps.toList qs _ cs zv.cells hq hcs (by simp) (fun k dd v h1 h2=>by
  simp only [List.getElem?_map,Array.getElem?_toList,h2,Option.map_some,Option.some.injEq] at h1
  rw [←h1]
  exact .imm (z5O _ _ _))
 have hrun:=run_build (P:=P) w t (ps.map fun p=>(p.1,a.eval p.2)) res (by
  rw [hb zv i _ hi hzi];simpa using h1)
 exact Snd.val hR (v:=.agg res) (by
  have:(execOp a.eval ⟨dst,.build t ps,ty,pos,after,guard⟩)=(do pure (.value (←Instr.build t (ps.map fun p=>(p.1,a.eval p.2))))):=rfl
  rw [this]
  simp [hrun]) (.agg (by omega) h3)
theorem R.fresh_av (hR:R G L σ h a w):¬Av G.S L w.heap.size:=by
 rintro (hS|⟨o,ho⟩)
 ·have:=hR.sLt _ hS;omega
 ·have:=hR.heap.lt ho;omega
theorem VI.row (hR:R G L σ h a w) {cells:List DV} {cs:Array Value} (T:TypeId) {sz len c:Nat} (fz:Nat × Nat) (hsz:sz≠0) (hl:cells.length=len*sz) (hlc:len≤c) (hlen:cells.length≤cs.size)
  (hv:∀(k:Nat) d v,cells[k]? = some d→cs[k]? = some v→VI w (Av G.S L) d v) :
  VI (w.alloc (.cells cs T fz)) (Av G.S L) (.sl sz cells) (.slice (some ⟨w.heap.size,0,none⟩) len c):=by
 have hx:Ext (fun _=>False) w (w.alloc (.cells cs T fz)):=Ext.alloc _ _ _
 by_cases h0:cells=[]
 ·subst h0
  have:len=0:=by
   rcases Nat.eq_zero_or_pos len with e|e
   ·exact e
   ·have:=Nat.mul_pos e (Nat.pos_of_ne_zero hsz);simp at hl;omega
  subst this
  exact .sl0 _ _ _
 ·refine .sl (fun k=>(cs[k]?).getD Go.undef) h0 hl hlc hR.fresh_av (fun k dd hk=>?_) (fun k dd hk=>?_)
  ·obtain ⟨u,hu⟩:=z0w (l:=cs) (k:=k) (by have:=(List.getElem?_eq_some_iff.1 hk).1;omega)
   rw [add_lit,Nat.zero_add,cell_of_row _ w.heap.size k cs T fz (heap_alloc_new w _),hu]
   rfl
  ·obtain ⟨u,hu⟩:=z0w (l:=cs) (k:=k) (by have:=(List.getElem?_eq_some_iff.1 hk).1;omega)
   rw [hu]
   exact (hv k dd u hk hu).mono fun b hb hA=>⟨hx.block b hb id,hA⟩
theorem x8v (zv:Array Value) (n:Nat) (k:Nat) {dd:DV} {v:Value}
  (h1:((List.range n).map fun j=>(zv.toList.map cv1).getD (j % (zv.toList.map cv1).length) .undef)[k]? = some dd) (h2:((Array.range n).map fun j=>zv[j % zv.size]!)[k]? = some v) (w:World) (A:Nat→Prop):VI w A dd v:=by
 simp only [List.getElem?_map,zO2] at h1
 simp only [Array.getElem?_map,zO2] at h2
 obtain ⟨j,hj,rfl⟩:=h1
 obtain ⟨j',hj',rfl⟩:=h2
 have e1:j=k:=by have:=(List.getElem?_eq_some_iff.1 hj).2;simpa using this.symm
 have e2:j'=k:=by have:=(Array.getElem?_eq_some_iff.1 hj').2;simpa using this.symm
 subst e1;subst e2
 simp only [List.length_map,Array.length_toList]
 rw [zO1]
 cases hz:zv[j' % zv.size]? with
 | none =>
  have:(zv.toList.map cv1)[j' % zv.size]? = none:=by simp [hz]
  rw [this];exact .undef _
 | some u =>
  have e3:(zv.toList.map cv1)[j' % zv.size]? = some (cv1 u):=by simp [hz]
  have e4:zv[j' % zv.size]! = u:=by simp [getElem!_def,hz]
  rw [e3,e4]
  exact z5O _ _ _
theorem x2k (hE:EV vs ε w L (Av G.S L) a) (hR:R G L σ h a w) (t e:TypeId) (len:Nat) (ps:Array (Nat × Operand)) {n:Nat} {z:List DV} {qs:List (Nat × Nat × Opd)} {cs:List DV}
  (ht:P.underlying t=some (.slice e)) (hn:z1h P e=some n) (hz:z3B P e=some z) (hsmall:len*n≤4096) (hq:z4A vs (fun i=>some (i*n,n)) ps.toList=some qs)
  (hcs:laid ((List.range (len*n)).map fun j=>z.getD (j % z.length) .undef) (qs.map fun p=>(p.1,p.2.1,ε p.2.2))=some cs) :
  ∃ res:Array Value,cs.length=len*n∧res.size=cs.length∧(∀(k:Nat) d v,cs[k]? = some d→res[k]? = some v→V w L (Av G.S L) d v) ∧
   (execOp a.eval ⟨dst,.buildSlice t len ps,ty,pos,after,guard⟩).run P w=.ok (.value (.slice (some ⟨w.heap.size,0,none⟩) len len)) (w.alloc (.cells res e)):=by
 simp only [z1h,zO2] at hn
 obtain ⟨inf,hinf,rfl⟩:=hn
 simp only [z3B,zO2,zO3] at hz
 obtain ⟨zv,⟨i,hi,hzi⟩,rfl⟩:=hz
 rw [hinf] at hi;cases hi
 obtain ⟨res,h1,h2,h3⟩:=z8Z hE hR (fun i=>some (i*inf.size,inf.size)) ps.toList qs _ cs ((Array.range (len*inf.size)).map fun j=>zv.cells[j % zv.cells.size]!) hq hcs (by simp)
  (fun k dd v h1 h2=>.imm (x8v zv.cells _ k h1 h2 _ _))
 have hlaid:∀(qs:List (Nat × Nat × DV)) (dc dr:List DV),laid dc qs=some dr→dr.length=dc.length:=by
  intro qs
  induction qs with
  | nil=>intro dc dr hd;simp only [laid,Option.some.injEq] at hd;rw [hd]
  | cons q qs ih =>
   intro dc dr hd
   obtain ⟨o,m,x⟩:=q
   simp only [laid,zO3] at hd
   obtain ⟨cx,_,hd⟩:=hd
   split at hd
   ·rename_i hc
    rw [z9t hc.1 hc.2] at hd
    rw [ih _ _ hd]
    simp;omega
   ·cases hd
 have hcl:cs.length=len*inf.size:=by rw [hlaid _ _ _ hcs];simp
 refine ⟨res,hcl,h2,h3,?_⟩
 have hlt:¬(16777216<len*inf.size):=by omega
 have h1':Instr.fill (fun i=>some (i*inf.size,inf.size)) ((Array.range (len*inf.size)).map fun j=>zv.cells[j % zv.cells.size]!) (ps.map fun p=>(p.1,a.eval p.2)).toList=some res:=by simpa using h1
 have e0:(execOp a.eval ⟨dst,.buildSlice t len ps,ty,pos,after,guard⟩)=(do pure (.value (←Instr.buildSlice t len (ps.map fun p=>(p.1,a.eval p.2))))):=rfl
 rw [e0]
 have hsz:(sizeOf e).run P w=.ok inf.size w:=by simp [sizeOf,typeInfo,hinf]
 have hzv:(zeroValue e).run P w=.ok zv w:=by simp [zeroValue,typeInfo,hinf,hzi]
 by_cases hz0:len*inf.size=0
 ·rw [hz0] at h1
  simp only [Array.range_zero',Array.map_empty] at h1
  simp [Instr.buildSlice,run_underlying ht,hsz,hz0,newRow]
  rw [Array.range_zero',Array.map_empty,h1]
  simp
 ·simp [Instr.buildSlice,run_underlying ht,hsz,hz0,hlt,hzv]
  rw [h1]
  simp [newRow]
theorem w16 (hE:EV vs ε w L (Av G.S L) a) (hR:R G L σ h a w) (t e:TypeId) (len:Nat) (ps:Array (Nat × Operand)) {n:Nat} {z:List DV} {qs:List (Nat × Nat × Opd)}
  (ht:P.underlying t=some (.slice e)) (hn:z1h P e=some n) (hn0:n≠0) (hz:z3B P e=some z) (hsmall:len*n≤4096) (hq:z4A vs (fun i=>some (i*n,n)) ps.toList=some qs)
  (he:opE nb dst (ε) h (.bsl n ((List.range (len*n)).map fun j=>z.getD (j % z.length) .undef) qs)=some (d,ef)) :
  Snd P G σ h a w ⟨dst,.buildSlice t len ps,ty,pos,after,guard⟩ d ef:=by
 simp only [opE,zO3] at he
 obtain ⟨cs,hcs,he⟩:=he
 obtain ⟨hrf,he⟩:=z0r he
 cases he
 obtain ⟨res,h1,h2,h3,h4⟩:=x2k (dst:=dst) (ty:=ty) (pos:=pos) (after:=after) (guard:=guard) hE hR t e len ps ht hn hz hsmall hq hcs
 exact Snd.val' hR (Ext.alloc _ _ _) h4 (VI.row hR e (0,0) hn0 h1 (Nat.le_refl _) (by omega) fun k dd v e1 e2=>(h3 k dd v e1 e2).rf_imm (hrf dd (List.mem_of_getElem? e1)))
theorem x77 (hE:EV vs ε w L (Av G.S L) a) (hR:R G L σ h a w) (t e:TypeId) (len:Nat) (ps:Array (Nat × Operand)) {n:Nat} {z:List DV} {qs:List (Nat × Nat × Opd)}
  (ht:P.underlying t=some (.slice e)) (hn:z1h P e=some n) (hn0:n≠0) (hz:z3B P e=some z) (hsmall:len*n≤4096) (hq:z4A vs (fun i=>some (i*n,n)) ps.toList=some qs)
  (he:opE nb dst (ε) h (.bsl' n ((List.range (len*n)).map fun j=>z.getD (j % z.length) .undef) qs)=some (d,ef)) :
  Snd P G σ h a w ⟨dst,.buildSlice t len ps,ty,pos,after,guard⟩ d ef:=by
 simp only [opE,zO3,zO2] at he
 obtain ⟨cs,hcs,id,hid,he⟩:=he
 cases he
 obtain ⟨res,h1,h2,h3,h4⟩:=x2k (dst:=dst) (ty:=ty) (pos:=pos) (after:=after) (guard:=guard) hE hR t e len ps ht hn hz hsmall hq hcs
 have hcnt:cnt n ((List.range (len*n)).map fun j=>z.getD (j % z.length) .undef)=len:=y0F (by simp) hn0
 rw [hcnt]
 exact Snd.new hR (z0M hid).1 ⟨fun h=>absurd (z0M hid).2 (by omega),fun h=>absurd (z0M hid).2 (by omega)⟩ (by omega) h3 h4 (.osl (by simp [z1O]) (Nat.le_refl _) (z9X _ _ _) (by omega))
theorem w2k (hE:EV vs ε w L (Av G.S L) a) (hR:R G L σ h a w) (src tgt e:TypeId) (hs:P.underlying src=some .string) (ht:P.underlying tgt=some (.slice e)) (hee:P.underlying e=some (.int .u8)) (x:Operand)
  (he:opE nb dst (ε) h (.s2b (z0Y vs x))=some (d,ef)):Snd P G σ h a w ⟨dst,.convert src tgt x,ty,pos,after,guard⟩ d ef:=by
 simp only [opE] at he
 have hx:=hE x
 split at he
 ·rename_i l hp
  cases he
  rw [hp] at hx
  have e1:=hx.inv_str
  have hrun:=run_bytes_of_string (P:=P) w src tgt e ⟨l.toArray⟩ hs ht hee
  have hsz:(⟨l.toArray⟩:ByteArray).size=l.length:=rfl
  rw [hsz] at hrun
  have hge:=grownCap_ge w l.length 0 e
  refine Snd.val' hR (v:=.slice (some ⟨w.heap.size,0,none⟩) l.length (grownCap w l.length 0 e)) ((Ext.drew _ w).trans (Ext.alloc _ w.drew (.cells (bytesRow ⟨l.toArray⟩ (grownCap w l.length 0 e)) e ((bytesRow ⟨l.toArray⟩ (grownCap w l.length 0 e)).size,(bytesRow ⟨l.toArray⟩ (grownCap w l.length 0 e)).size+1)))) (by simp [execOp,e1,hrun]) ?_
  refine VI.row (sz:=1) (len:=l.length) (hR.still (Ext.drew _ w)) e _ (by decide) (by simp) hge (by simp [bytesRow]) fun k dd v h1 h2=>?_
  simp only [List.getElem?_map,zO2] at h1
  obtain ⟨b,hb,rfl⟩:=h1
  have hlt:=(List.getElem?_eq_some_iff.1 hb).1
  have:v=.int .u8 b.toNat:=by
   rw [bytesRow,Array.getElem?_append_left (by simpa using hlt)] at h2
   simp only [Array.getElem?_map,zO2] at h2
   obtain ⟨b',hb',rfl⟩:=h2
   have:l[k]? = some b':=by simpa using hb'
   rw [hb] at this;cases this;rfl
  subst this
  exact .int _ _
 ·cases he
theorem z4c:∀(xs:List DV) (l:List UInt8),bytesOf xs=some l→∃ns:List Int,xs=ns.map (DV.int .u8)∧l=ns.map (fun n=>UInt8.ofNat n.toNat)
 | [],l,h=>by simp only [bytesOf,Option.some.injEq] at h;exact ⟨[],rfl,h.symm⟩
 | x::xs,l,h=>by
  simp only [bytesOf,zO3,zO2] at h
  obtain ⟨b,hb,l',hl',rfl⟩:=h
  obtain ⟨ns,rfl,rfl⟩:=z4c xs l' hl'
  unfold byteOf at hb
  split at hb
  ·cases hb;exact ⟨_::ns,rfl,rfl⟩
  ·cases hb
theorem y7o (w:World) (src tgt e:TypeId) (hs:P.underlying src=some (.slice e)) (ht:P.underlying tgt=some .string) (hee:P.underlying e=some (.int .u8)) (ad:Addr) (len c:Nat) (ns:List Int)
  (hl:ns.length=len) (hc:∀j v,(ns.map (Value.int .u8))[j]? = some v→w.cell? (ad.add j)=some v) :
  (convert src tgt (.slice (some ad) len c)).run P w=.ok (.string ⟨(ns.map fun n=>UInt8.ofNat n.toNat).toArray⟩) w:=by
 have hlc:=run_loadCells_list (P:=P) w ad _ hc
 rw [List.length_map,hl] at hlc
 rw [run_convert_bytes_string w src tgt e _ len c hs hee ht,run_bytesToString w ad len c ns (by simpa using hlc),foldl_push_bytes]
 congr 2
 apply ByteArray.ext
 simp
theorem w12 (hE:EV vs ε w L (Av G.S L) a) (hR:R G L σ h a w) (src tgt e:TypeId) (hs:P.underlying src=some (.slice e)) (ht:P.underlying tgt=some .string) (hee:P.underlying e=some (.int .u8)) (x:Operand)
  (he:opE nb dst (ε) h (.b2s (z0Y vs x))=some (d,ef)):Snd P G σ h a w ⟨dst,.convert src tgt x,ty,pos,after,guard⟩ d ef:=by
 simp only [opE] at he
 have hx:=hE x
 have hnil:∀(l c:Nat),(convert src tgt (.slice none l c)).run P w=.ok (.string ⟨([]:List UInt8).toArray⟩) w:=fun l c=>by
  rw [run_convert_bytes_string w src tgt e _ l c hs hee ht]
  rfl
 split at he
 ·rename_i hp
  cases he
  rw [hp] at hx
  have e1:=hx.inv_nils
  exact Snd.val hR (v:=.string ⟨([]:List UInt8).toArray⟩) (by simp [execOp,e1,hnil]) (.imm (.str _))
 ·rename_i sz xs hp
  obtain ⟨hgd,he'⟩:=z0r he
  clear he
  obtain rfl:=hgd
  simp only [zO2] at he'
  obtain ⟨l,hl,he'⟩:=he'
  cases he'
  rw [hp] at hx
  obtain ⟨ns,rfl,rfl⟩:=z4c _ _ hl
  rcases hx.inv_sl with ⟨h0,ad,c,e1⟩|⟨hx0,ad,len,c,us,e1,hlen,hc,hA,hcell,hv⟩
  ·have:ns=[]:=by simpa using h0
   subst this
   cases ad with
   | none=>exact Snd.val hR (v:=.string ⟨([]:List UInt8).toArray⟩) (by simp [execOp,e1,hnil]) (.imm (.str _))
   | some ad=>exact Snd.val hR (v:=.string ⟨(([]:List Int).map fun n=>UInt8.ofNat n.toNat).toArray⟩) (by
     have:=y7o (P:=P) w src tgt e hs ht hee ad 0 c [] rfl (by simp)
     simp [execOp,e1,this]) (.imm (.str _))
  ·have hrun:=y7o (P:=P) w src tgt e hs ht hee ad len c ns (by simpa using hlen) (fun j v hj=>by
    simp only [List.getElem?_map,zO2] at hj
    obtain ⟨n,hn,rfl⟩:=hj
    have h1:(ns.map (DV.int .u8))[j]? = some (.int .u8 n):=by simp [hn]
    rw [hcell j _ h1,(V.imm (L:=L) (hv j _ h1)).inv_int])
   exact Snd.val hR (v:=.string ⟨(ns.map fun n=>UInt8.ofNat n.toNat).toArray⟩) (by simp [execOp,e1,hrun]) (.imm (.str _))
 ·rename_i sz o off len hp
  simp only [zO3] at he
  obtain ⟨cs,hcs,he⟩:=he
  obtain ⟨hgd,he'⟩:=z0r he
  clear he
  obtain ⟨rfl,hfit⟩:=hgd
  simp only [zO2] at he'
  obtain ⟨l,hl,he'⟩:=he'
  cases he'
  rw [hp] at hx
  obtain ⟨ns,hns,rfl⟩:=z4c _ _ hl
  rcases hx.inv_osl with ⟨b,c,T,m,hL,e1,hc,hs',hm⟩|⟨rfl,e1⟩
  ·obtain ⟨cells,cur,T',hho,hb,hl',hpp⟩:=hR.heap.at_ hL
   rw [hcs] at hho;cases hho
   have hnl:ns.length=len:=by
    have:=congrArg List.length hns
    simp at this;omega
   have hrun:=y7o (P:=P) w src tgt e hs ht hee ⟨b,off,none⟩ len c ns hnl (fun j v hj=>by
    simp only [List.getElem?_map,zO2] at hj
    obtain ⟨n,hn,rfl⟩:=hj
    have h1:((cs.drop off).take len)[j]? = some (.int .u8 n):=by rw [hns];simp [hn]
    have h2:=z15 h1
    obtain ⟨u,hu⟩:=z0w (l:=cur) (k:=off+j) (by have:=(List.getElem?_eq_some_iff.1 h2).1;omega)
    rw [add_lit,cell_of_row w b _ cur T' (0,0) hb,hu,(hpp _ _ u h2 hu).inv_int])
   exact Snd.val hR (v:=.string ⟨(ns.map fun n=>UInt8.ofNat n.toNat).toArray⟩) (by simp [execOp,e1,hrun]) (.imm (.str _))
  ·have:ns=[]:=by simpa using hns.symm
   subst this
   exact Snd.val hR (v:=.string ⟨([]:List UInt8).toArray⟩) (by simp [execOp,e1,hnil]) (.imm (.str _))
 ·cases he
theorem w09 (hR:R G L σ h a w) {sz:Nat} {dx:DV} {v:Value} {ys:List DV} (hsz:sz≠0) (hn:z0t h sz dx=some ys) (hv:V w L (Av G.S L) dx v) :
  ∃ (A:Option Addr) (m c:Nat),v=.slice A m c∧ys.length=m*sz ∧
   (ys=[]∨∃ad news,A=some ad∧(news:List Value).length=ys.length∧(∀(j:Nat) u,news[j]? = some u→w.cell? (ad.add j)=some u) ∧
    ∀ (j:Nat) d u,ys[j]? = some d→news[j]? = some u→V w L (Av G.S L) d u):=by
 unfold z0t at hn
 split at hn
 ·rename_i s ys'
  obtain ⟨hgd,hn'⟩:=z0r hn
  clear hn
  obtain rfl:=hgd
  cases hn'
  rcases hv.inv_sl with ⟨rfl,A,c,rfl⟩|⟨hx0,ad,n,c,us,rfl,hl,hc,hA,hcell,hvi⟩
  ·exact ⟨A,0,c,rfl,by simp,.inl rfl⟩
  ·refine ⟨some ad,n,c,rfl,hl,.inr ⟨ad,(List.range ys.length).map us,rfl,by simp,fun j u hj=>?_,fun j d u h1 h2=>?_⟩⟩
   ·simp only [List.getElem?_map,zO2] at hj
    obtain ⟨j',hj',rfl⟩:=hj
    have hlt:j<ys.length:=by have:=(List.getElem?_eq_some_iff.1 hj').1;simpa using this
    have:j'=j:=by simpa [hlt] using hj'.symm
    subst this
    obtain ⟨y,hy⟩:=z0O hlt
    exact hcell _ y hy
   ·simp only [List.getElem?_map,zO2] at h2
    obtain ⟨j',hj',rfl⟩:=h2
    have hlt:j<ys.length:=by have:=(List.getElem?_eq_some_iff.1 hj').1;simpa using this
    have:j'=j:=by simpa [hlt] using hj'.symm
    subst this
    exact .imm (hvi _ d h1)
 ·cases hn
  exact ⟨none,0,0,hv.inv_nils,by simp,.inl rfl⟩
 ·rename_i s o off len
  simp only [zO3] at hn
  obtain ⟨cs,hcs,hn⟩:=hn
  obtain ⟨hgd,hn'⟩:=z0r hn
  clear hn
  obtain ⟨rfl,hfit⟩:=hgd
  cases hn'
  rcases hv.inv_osl with ⟨b,c,T,m,hL,rfl,hc,hs',hm⟩|⟨rfl,rfl⟩
  ·obtain ⟨cells,cur,T',hho,hb,hl',hpp⟩:=hR.heap.at_ hL
   rw [hcs] at hho;cases hho
   refine ⟨_,len,c,rfl,by simp;omega,.inr ⟨_,(cur.toList.drop off).take (len*s),rfl,by simp;omega,fun j u hj=>?_,fun j d u h1 h2=>?_⟩⟩
   ·rw [add_lit,cell_of_row w b _ cur T' (0,0) hb]
    simpa using z15 hj
   ·exact hpp _ d u (z15 h1) (by simpa using z15 h2)
  ·exact ⟨none,0,0,rfl,by simp,.inl (by simp)⟩
 ·cases hn
end
end Go.Dat
namespace Go.Dat
open Go
section
variable {P:Program} {G:Cx} {L:Nat→Option Nat} {σ:Nat→DV} {h:Heap} {a:Act} {w:World} {vs own:List Nat} {ε:Opd→DV}
variable {dst:Option Nat} {ty:TypeId} {pos:String} {after:Array Edge} {guard:Option (Nat × Bool)} {d:DV} {ef:Eff}
variable (nb:Nat)
theorem z9p {x:Operand} (h:y1u x=true):x=.const (.slice none 0 0):=by
 unfold y1u at h
 split at h
 ·rfl
 ·cases h
theorem w2h (hE:EV vs ε w L (Av G.S L) a) (hR:R G L σ h a w) (f:Nat) (caps:Array Operand) (he:opE nb dst ε h (.mkf f (caps.toList.map (z0Y vs)))=some (d,ef)) :
  Snd P G σ h a w ⟨dst,.makeFunc (.func f) #[] caps,ty,pos,after,guard⟩ d ef:=by
 simp only [opE] at he
 obtain ⟨hrf,he⟩:=z0r he
 cases he
 refine Snd.val hR (v:=.func (.func f) #[] (caps.map a.eval)) (by simp [execOp,Instr.makeFunc]) (.imm (.clo (by simp) fun k d v h1 h2=>?_))
 simp only [List.getElem?_map,zO2] at h1
 simp only [Array.getElem?_map,zO2] at h2
 obtain ⟨y,⟨x,hx,rfl⟩,rfl⟩:=h1
 obtain ⟨x',hx',rfl⟩:=h2
 have:x=x':=by
  have h3:caps[k]? = some x:=by simpa using hx
  rw [h3] at hx';cases hx';rfl
 subst this
 exact (hE x).rf_imm (hrf _ (List.mem_map_of_mem (List.mem_map_of_mem (List.mem_of_getElem? hx))))
theorem VI.elrow (hR:R G L σ h a w) {cells:List DV} {cs:Array Value} (T:TypeId) (fz:Nat × Nat) (hne:cells≠[]) (hlen:cells.length≤cs.size)
  (hv:∀(k:Nat) d v,cells[k]? = some d→cs[k]? = some v→VI w (Av G.S L) d v) :
  VI (w.alloc (.cells cs T fz)) (Av G.S L) (.el cells 0) (.pointer (some ⟨w.heap.size,0,none⟩)):=by
 have hx:Ext (fun _=>False) w (w.alloc (.cells cs T fz)):=Ext.alloc _ _ _
 have:=VI.el (w:=w.alloc (.cells cs T fz)) (A:=Av G.S L) (xs:=cells) (i:=0) (ad:=⟨w.heap.size,0,none⟩) (fun k=>(cs[k]?).getD Go.undef) hne hR.fresh_av (fun k dd hk=>by
  obtain ⟨u,hu⟩:=z0w (l:=cs) (k:=k) (by have:=(List.getElem?_eq_some_iff.1 hk).1;omega)
  rw [add_lit,Nat.zero_add,cell_of_row _ w.heap.size k cs T fz (heap_alloc_new w _),hu]
  rfl) (fun k dd hk=>by
  obtain ⟨u,hu⟩:=z0w (l:=cs) (k:=k) (by have:=(List.getElem?_eq_some_iff.1 hk).1;omega)
  rw [hu]
  exact (hv k dd u hk hu).mono fun b hb hA=>⟨hx.block b hb id,hA⟩)
 rwa [add_lit,Nat.zero_add] at this
theorem x76 (hE:EV vs ε w L (Av G.S L) a) (hR:R G L σ h a w) (e:TypeId) (x:Operand) (he:opE nb dst (ε) h (.boxi (z0Y vs x))=some (d,ef)) :
  Snd P G σ h a w ⟨dst,.box e x,ty,pos,after,guard⟩ d ef:=by
 simp only [opE,zO3] at he
 obtain ⟨cs,hcs,he⟩:=he
 obtain ⟨⟨hne,hrf⟩,he⟩:=z0r he
 cases he
 obtain ⟨h1,h2,_⟩:=(hE x).cells hcs
 exact Snd.val' hR (Ext.alloc _ _ _) (v:=.pointer (some ⟨w.heap.size,0,none⟩)) (by simp [execOp,Instr.box,newVar,newRow])
  (VI.elrow hR e (0,0) hne (by omega) fun k dd v e1 e2=>(h2 k dd v e1 e2).rf_imm (hrf dd (List.mem_of_getElem? e1)))
theorem w2f (hE:EV vs ε w L (Av G.S L) a) (hR:R G L σ h a w) (t:TypeId) (x:Operand) (hA:y5S P t=false) (hu:(P.underlying t).isSome=true) (he:opE nb dst (ε) h (.lde (z0Y vs x))=some (d,ef)) :
  Snd P G σ h a w ⟨dst,.load t x,ty,pos,after,guard⟩ d ef:=by
 refine x5C nb hE hR t x hA hu ?_
 simp only [opE] at he ⊢
 split at he
 ·rename_i hx;rw [hx]
  obtain ⟨⟨h1,_⟩,h2⟩:=z0r he
  cases h2
  exact if_pos h1
 ·cases he
theorem x8a (hE:EV vs ε w L (Av G.S L) a) (hR:R G L σ h a w) (t:TypeId) (x:Operand) (n:Nat) (hA:y5S P t=true) (hn:z1h P t=some n) (he:opE nb dst (ε) h (.ldne n (z0Y vs x))=some (d,ef)) :
  Snd P G σ h a w ⟨dst,.load t x,ty,pos,after,guard⟩ d ef:=by
 refine y7w nb hE hR t x n hA hn ?_
 simp only [opE] at he ⊢
 split at he
 ·rename_i hx;rw [hx]
  obtain ⟨⟨h1,_⟩,h2⟩:=z0r he
  cases h2
  exact if_pos h1
 ·cases he
theorem w2g (hE:EV vs ε w L (Av G.S L) a) (hR:R G L σ h a w) (t:TypeId) (x:Operand) (hA:y5S P t=false) (hu:(P.underlying t).isSome=true) (he:opE nb dst (ε) h (.ldr (z0Y vs x))=some (d,ef)) :
  Snd P G σ h a w ⟨dst,.load t x,ty,pos,after,guard⟩ d ef:=by
 refine x5C nb hE hR t x hA hu ?_
 simp only [opE] at he ⊢
 split at he
 ·rename_i hx;rw [hx]
  simp only [zO3] at he ⊢
  obtain ⟨cs,hcs,he⟩:=he
  obtain ⟨⟨h1,_⟩,h2⟩:=z0r he
  cases h2
  exact ⟨cs,hcs,if_pos h1⟩
 ·cases he
theorem x8b (hE:EV vs ε w L (Av G.S L) a) (hR:R G L σ h a w) (t:TypeId) (x:Operand) (n:Nat) (hA:y5S P t=true) (hn:z1h P t=some n) (he:opE nb dst (ε) h (.ldnr n (z0Y vs x))=some (d,ef)) :
  Snd P G σ h a w ⟨dst,.load t x,ty,pos,after,guard⟩ d ef:=by
 refine y7w nb hE hR t x n hA hn ?_
 simp only [opE] at he ⊢
 split at he
 ·rename_i hx;rw [hx]
  simp only [zO3] at he ⊢
  obtain ⟨cs,hcs,he⟩:=he
  obtain ⟨⟨h1,_⟩,h2⟩:=z0r he
  cases h2
  exact ⟨cs,hcs,if_pos h1⟩
 ·cases he
theorem z5n (P:Program) (w:World) (isS:Bool) (len cap:Nat) (lo hi mx:Option Value) {l b m:Nat}
  (hm:∃k i,mx=some (.int k i)∧0≤i∧i≤(cap:Int)∧m=i.toNat)
  (hb:∃k i,hi=some (.int k i)∧0≤i∧i≤(m:Int)∧b=i.toNat)
  (hl:(lo=none∧l=0)∨∃k i,lo=some (.int k i)∧0≤i∧i≤(b:Int)∧l=i.toNat) :
  (Instr.sliceBounds isS len cap lo hi mx).run P w=.ok (l,b,m) w:=by
 obtain ⟨k1,i1,rfl,h1,h2,rfl⟩:=hm
 obtain ⟨k2,i2,rfl,h3,h4,rfl⟩:=hb
 rcases hl with ⟨rfl,rfl⟩|⟨k',j,rfl,h5,h6,rfl⟩
 ·simp [Instr.sliceBounds,run_sliceBound w k1 i1 _ _ h1 h2,run_sliceBound w k2 i2 _ _ h3 h4]
 ·simp [Instr.sliceBounds,run_sliceBound w k1 i1 _ _ h1 h2,run_sliceBound w k2 i2 _ _ h3 h4,run_sliceBound w k' j _ _ h5 h6]
theorem x8g (hE:EV vs ε w L (Av G.S L) a) (hR:R G L σ h a w) (t e:TypeId) (x:Operand) (lo:Option Operand) (hi mx:Operand) {n:Nat} (ht:P.underlying t=some (.slice e)) (hn:z1h P e=some n) (hn0:n≠0)
  (he:opE nb dst (ε) h (.slc3 n (z0Y vs x) (lo.map (z0Y vs)) (z0Y vs hi) (z0Y vs mx))=some (d,ef)) :
  Snd P G σ h a w ⟨dst,.slice t x lo (some hi) (some mx),ty,pos,after,guard⟩ d ef:=by
 simp only [z1h,zO2] at hn
 obtain ⟨inf,hinf,rfl⟩:=hn
 simp only [opE] at he
 have hx:=hE x
 have hrun:∀(A:Option Addr) (len cap l b m:Nat),a.eval x=.slice A len cap→(Instr.sliceBounds true len cap (lo.map a.eval) (some (a.eval hi)) (some (a.eval mx))).run P w=.ok (l,b,m) w →
   (execOp a.eval ⟨dst,.slice t x lo (some hi) (some mx),ty,pos,after,guard⟩).run P w=.ok (.value (.slice (if m=l then A else A.map (·.add (l*inf.size))) (b - l) (m - l))) w:=by
  intro A len cap l b m e1 hb
  simp [execOp,Instr.sliceAt,Instr.slice,run_underlying ht,e1,hb,sizeOf,typeInfo,hinf]
 split at he
 ·rename_i km mi hmx
  have hmv:a.eval mx=.int km mi:=by have:=hE mx;rw [hmx] at this;exact this.inv_int
  split at he
  ·rename_i s xs hp
   obtain ⟨⟨hs,hm0,hm1⟩,he'⟩:=z0r he
   clear he
   obtain rfl:=hs
   simp only [zO3,zO2] at he'
   obtain ⟨b,hb,l,hl,he'⟩:=he'
   cases he'
   rw [hp] at hx
   have hlV:=z3q (vs:=vs) hE hR lo hl
   have hbV:=z3q (vs:=vs) hE hR (some hi) hb
   have hll:=z2w hl (Nat.zero_le _)
   have hbl:=z2w hb (Nat.zero_le _)
   have hbV':∃k i,some (a.eval hi)=some (.int k i)∧0≤i∧i≤(mi.toNat:Int)∧b=i.toNat:=by
    rcases hbV with ⟨h1,_⟩|h
    ·cases h1
    ·exact h
   rcases hx.inv_sl with ⟨rfl,A,c,e1⟩|⟨hx0,ad,len,c,us,e1,hlen,hc,hA,hcell,hv⟩
   ·have hm2:mi.toNat=0:=by simp [cnt] at hm1;omega
    have hb0:b=0:=by omega
    have hl0:l=0:=by omega
    subst hb0;subst hl0
    refine Snd.val hR (hrun A 0 c 0 0 mi.toNat e1 (z5n P w true 0 c _ _ _ ⟨km,mi,by rw [hmv],hm0,by omega,rfl⟩ hbV' hlV)) ?_
    simpa using V.imm (L:=L) (VI.sl0 (w:=w) (A:=Av G.S L) inf.size _ _)
   ·have hcn:=y0F hlen hn0
    rw [hcn] at hm1
    refine Snd.val hR (hrun (some ad) len c l b mi.toNat e1 (z5n P w true len c _ _ _ ⟨km,mi,by rw [hmv],hm0,by omega,rfl⟩ hbV' hlV)) ?_
    by_cases hlb:l=b
    ·subst hlb
     have:(xs.take (l*inf.size)).drop (l*inf.size)=[]:=List.drop_eq_nil_of_le (by simp;omega)
     rw [this,Nat.sub_self]
     exact .imm (.sl0 _ _ _)
    ·have hlt:l<b:=by omega
     rw [if_neg (by omega)]
     have hbs:b*inf.size≤xs.length:=by rw [hlen];exact Nat.mul_le_mul_right _ (by omega)
     have hget:∀k dd,((xs.take (b*inf.size)).drop (l*inf.size))[k]? = some dd→xs[l*inf.size+k]? = some dd:=by
      intro k dd hk
      rw [List.getElem?_drop,List.getElem?_take] at hk
      split at hk
      ·exact hk
      ·cases hk
     have hls:l*inf.size<b*inf.size:=Nat.mul_lt_mul_of_pos_right hlt (Nat.pos_of_ne_zero hn0)
     refine .imm (.sl (ad:=ad.add (l*inf.size)) (fun k=>us (l*inf.size+k)) ?_ ?_ (by omega) (by rw [z5w];exact hA) (fun k dd hk=>?_) (fun k dd hk=>hv _ dd (hget k dd hk)))
     ·intro e0
      have:=congrArg List.length e0
      simp at this
      omega
     ·simp only [List.length_drop,List.length_take,Nat.sub_mul]
      omega
     ·rw [add_add];exact hcell _ dd (hget k dd hk)
  ·rename_i s o off len hp
   obtain ⟨⟨hs,hm0,hm1⟩,he'⟩:=z0r he
   clear he
   obtain rfl:=hs
   simp only [zO3] at he'
   obtain ⟨b,hb,l,hl,he'⟩:=he'
   obtain ⟨hlt,he'⟩:=z0r he'
   cases he'
   rw [hp] at hx
   have hbl:=z2w hb (Nat.zero_le _)
   have hlV:=z3q (vs:=vs) hE hR lo hl
   have hbV:=z3q (vs:=vs) hE hR (some hi) hb
   have hbV':∃k i,some (a.eval hi)=some (.int k i)∧0≤i∧i≤(mi.toNat:Int)∧b=i.toNat:=by
    rcases hbV with ⟨h1,_⟩|h
    ·cases h1
    ·exact h
   rcases hx.inv_osl with ⟨bk,c,T,m,hL,e1,hc,hs,hm⟩|⟨rfl,_⟩
   ·refine Snd.val hR (hrun (some ⟨bk,off,none⟩) len c l b mi.toNat e1 (z5n P w true len c _ _ _ ⟨km,mi,by rw [hmv],hm0,by omega,rfl⟩ hbV' hlV)) ?_
    rw [if_neg (by omega)]
    simp only [Option.map_some,add_lit]
    refine .osl hL (by omega) hs ?_
    rw [Nat.sub_mul]
    have h1:mi.toNat*inf.size≤c*inf.size:=Nat.mul_le_mul_right _ (by omega)
    have h2:l*inf.size≤mi.toNat*inf.size:=Nat.mul_le_mul_right _ (by omega)
    omega
   ·omega
  ·cases he
 ·cases he
theorem w17 (hE:EV vs ε w L (Av G.S L) a) (hR:R G L σ h a w) (t e:TypeId) (x:Operand) {i:TypeInfo} {z:List DV} (ht:P.underlying t=some (.slice e)) (hi:P.info? e=some i) (hz:z3B P e=some z) (h0:i.size≠0)
  (hzl:z.length=i.size) (hz1:∀d∈z,d.one=true) (he:opE nb dst (ε) h (.clr i.size z (z0Y vs x))=some (d,ef)) :
  Snd P G σ h a w ⟨dst,.call { callee:=.builtin .clear,args:=#[x],argTypes:=#[t] },ty,pos,after,guard⟩ d ef:=by
 simp only [opE] at he
 have hx:=hE x
 have hex:∀(v:Value) (w':World),(Builtin.clear_ #[t] ty #[a.eval x]).run P w=.ok v w' →
   (execOp a.eval ⟨dst,.call { callee:=.builtin .clear,args:=#[x],argTypes:=#[t] },ty,pos,after,guard⟩).run P w=.ok (.value v) w':=by
  intro v w' hr
  simp [execOp,resolve,invoke,builtin,hr]
 split at he
 ·rename_i s o off len hp
  simp only [zO3] at he
  obtain ⟨cs,hcs,he⟩:=he
  obtain ⟨⟨hs,hfit⟩,he'⟩:=z0r he
  clear he
  obtain rfl:=hs
  cases he'
  rw [hp] at hx
  have ztup:V w L (Av G.S L) (.tup []) (.tuple #[]):=.imm (.tup (by simp) fun k d v hk=>by simp at hk)
  rcases hx.inv_osl with ⟨b,c,T0,m,hL,e1,hc,hs,hm⟩|⟨rfl,e1⟩
  ·rcases Nat.eq_zero_or_pos len with hl0|hl0
   ·subst hl0
    refine ⟨.tuple #[],w,L,.inl (hex _ _ ?_),?_,ztup⟩
    ·rw [e1];simp [Builtin.clear_,run_underlying ht]
    ·have:cs.take off++rep 0 z++cs.drop (off+0*i.size)=cs:=by
      have:rep 0 z=[]:=List.eq_nil_of_length_eq_zero (by rw [z3x];simp)
      rw [this];simp
     rw [this]
     have hu:h.upd o (some cs)=h:=by funext p;unfold Heap.upd;split<;>first|(rename_i e;rw [e,hcs])|rfl
     simp only [Eff.onS,Eff.onH,hu]
     exact hR
   ·obtain ⟨cells,cur,T,hho,hb,hl,hpp⟩:=hR.heap.at_ hL
    rw [hcs] at hho;cases hho
    simp only [z3B,hi,Option.bind_some,zO2] at hz
    obtain ⟨zv,hzv,rfl⟩:=hz
    have hzs:zv.cells.size=i.size:=by simpa using hzl
    have hzc:(Builtin.zeroCells zv.cells len).size=len*i.size:=by simp [Builtin.zeroCells,hzs]
    have hget:∀k u,(Builtin.zeroCells zv.cells len)[k]? = some u→k<len*i.size∧zv.cells[k % zv.cells.size]? = some u:=by
     intro k u hk
     have hlt:k<len*i.size:=by have:=(Array.getElem?_eq_some_iff.1 hk).1;omega
     refine ⟨hlt,?_⟩
     simp only [Builtin.zeroCells,Array.getElem?_map,zO2] at hk
     obtain ⟨k',hk',rfl⟩:=hk
     have e2:k'=k:=by have:=(Array.getElem?_eq_some_iff.1 hk').2;simpa using this.symm
     subst e2
     obtain ⟨u,hu⟩:=z0w (l:=zv.cells) (k:=k' % zv.cells.size) (Nat.mod_lt _ (by omega))
     simp [getElem!_def,hu]
    have hz1':∀u∈zv.cells.toList,u.oneCell'=true:=by
     intro u hu
     have:=hz1 (cv1 u) (List.mem_map_of_mem hu)
     exact V.oneCell (w:=w) (L:=L) (A:=Av G.S L) this (.imm (z5O _ _ u))
    have h1:∀u∈(Builtin.zeroCells zv.cells len).toList,u.oneCell'=true:=by
     intro u hu
     obtain ⟨k,hk⟩:=List.mem_iff_getElem?.1 hu
     obtain ⟨_,h3⟩:=hget k u (by simpa using hk)
     exact hz1' u (Array.mem_toList_iff.2 (Array.mem_of_getElem? h3))
    have hst:=run_storeCells_at P b off T (Builtin.zeroCells zv.cells len).toList 0 cur w hb (by simp;omega) h1
    simp only [Nat.add_zero] at hst
    have hlen:(Builtin.zeroCells zv.cells len).toList.length=len*i.size:=by simp [hzc]
    refine ⟨.tuple #[],_,L,.inl (hex (.tuple #[]) _ ?_),hR.write (cells:=cs.take off++rep len (zv.cells.toList.map cv1)++cs.drop (off+len*i.size)) hL hb (cs':=(cur.toList.take off++(Builtin.zeroCells zv.cells len).toList++cur.toList.drop (off+len*i.size)).toArray) ?_ ?_ ?_ (z3y hb),?_⟩
    ·rw [hlen] at hst
     obtain ⟨n',rfl⟩:∃n',len=n'+1:=⟨len - 1,by omega⟩
     rw [e1]
     simp [Builtin.clear_,run_underlying ht,zeroValue,typeInfo,hi,hzv,hst]
    ·simp;omega
    ·have hrl:(rep len (zv.cells.toList.map cv1)).length=len*i.size:=by rw [z3x,hzl]
     simp only [List.length_append,List.length_take,List.length_drop,hrl,List.size_toArray,Array.length_toList,hlen];omega
    ·intro k dd v hk1 hk2
     rcases z6X (cur:=cur.toList) (us:=(Builtin.zeroCells zv.cells len).toList) hfit (by simp;omega) (by rw [z3x,hzl]) hlen hk1 (by simpa using hk2) with ⟨e3,e4⟩|⟨e3,e4⟩
     ·exact hpp k dd v e3 (by simpa using e4)
     ·have h3:=x45 (by intro e0;rw [e0] at hzl;simp at hzl;omega) e3
      obtain ⟨_,h5⟩:=hget (k - off) v (by simpa using e4)
      simp only [List.getElem?_map,zO2,List.length_map,Array.length_toList] at h3
      obtain ⟨u,hu,rfl⟩:=h3
      have:u=v:=by
       have hu':zv.cells[(k - off) % zv.cells.size]? = some u:=by simpa using hu
       rw [hu'] at h5;cases h5;rfl
      subst this
      exact .imm (z5O _ _ _)
    ·exact .imm (.tup (by simp) fun k d v hk=>by simp at hk)
  ·refine ⟨.tuple #[],w,L,.inl (hex _ _ ?_),?_,ztup⟩
   ·rw [e1];simp [Builtin.clear_,run_underlying ht]
   ·have:cs.take off++rep 0 z++cs.drop (off+0*i.size)=cs:=by
     have:rep 0 z=[]:=List.eq_nil_of_length_eq_zero (by rw [z3x];simp)
     rw [this];simp
    rw [this]
    have hu:h.upd o (some cs)=h:=by funext p;unfold Heap.upd;split<;>first|(rename_i e;rw [e,hcs])|rfl
    simp only [Eff.onS,Eff.onH,hu]
    exact hR
 ·cases he
theorem z8V (k:Nat) {t e:TypeId} (ht:P.underlying t=some (.slice e)) (A:Option Addr) (n c:Nat):(Op.equalIn (k+1) t (.slice A n c) (.slice none 0 0)).run P w=.ok A.isNone w:=by
 cases A<;>simp [Op.equalIn,run_underlying ht]
theorem x5B (hE:EV vs ε w L (Av G.S L) a) (hR:R G L σ h a w) (op:BinOp) (hop:op=.eql∨op=.neq) (t u:TypeId) {e:TypeId} (ht:P.underlying t=some (.slice e)) (x:Operand)
  (he:opE nb dst (ε) h (.isnil (op == .neq) (z0Y vs x))=some (d,ef)) :
  Snd P G σ h a w ⟨dst,.binOp op t x (.const (.slice none 0 0)) u,ty,pos,after,guard⟩ d ef:=by
 simp only [opE] at he
 have hx:=hE x
 have run:∀(A:Option Addr) (n c:Nat),a.eval x=.slice A n c →
   (execOp a.eval ⟨dst,.binOp op t x (.const (.slice none 0 0)) u,ty,pos,after,guard⟩).run P w=.ok (.value (.bool (if op == .neq then A.isSome else A.isNone))) w:=by
  intro A n c e1
  have eq:(Op.equal t (.slice A n c) (.slice none 0 0)).run P w=.ok A.isNone w:=z8V 9999 ht A n c
  have e2:a.eval (.const (.slice none 0 0))=.slice none 0 0:=rfl
  rcases hop with rfl|rfl<;>cases A <;>
   simp [execOp,e1,e2,eqGuard,binOp,eq]
 split at he
 ·rename_i hp
  cases he
  rw [hp] at hx
  refine Snd.val hR (run none 0 0 hx.inv_nils) ?_
  rcases hop with rfl|rfl<;>exact .imm (.bool _)
 ·rename_i s xs hp
  obtain ⟨hne,he⟩:=z0r he
  cases he
  rw [hp] at hx
  rcases hx.inv_sl with ⟨rfl,_⟩|⟨hx0,ad,len,c,us,e1,_⟩
  ·exact absurd rfl hne
  ·refine Snd.val hR (run (some ad) len c e1) ?_
   rcases hop with rfl|rfl<;>exact .imm (.bool _)
 ·rename_i s o off n hp
  obtain ⟨hne,he⟩:=z0r he
  cases he
  rw [hp] at hx
  rcases hx.inv_osl with ⟨b,c,T,m,hL,e1,_⟩|⟨e0,_⟩
  ·refine Snd.val hR (run _ _ _ e1) ?_
   rcases hop with rfl|rfl<;>exact .imm (.bool _)
  ·exact absurd e0 hne
 ·cases he
end
end Go.Dat
namespace Go.Dat
open Go
section
variable {P:Program} {G:Cx} {L:Nat→Option Nat} {σ:Nat→DV} {h:Heap} {a:Act} {w:World} {vs own:List Nat} {ε:Opd→DV}
variable (nb:Nat) {d:DV} {ef:Eff} {dst:Option Nat} {ty:TypeId} {pos:String} {after:Array Edge} {guard:Option (Nat × Bool)}
theorem z2c (t ty e:TypeId) (i:TypeInfo) (ht:P.underlying t=some (.slice e)) (hi:P.info? e=some i) (A B:Option Addr) (n c c':Nat) (hnc:n≤c) :
  (Builtin.append_ #[t,t] ty #[.slice A n c,.slice B 0 c']).run P w=.ok (.slice A n c) w:=by
 cases A<;>cases B<;>simp [Builtin.append_,run_underlying ht,sizeOf,typeInfo,hi,Builtin.lenOf,Builtin.firstCells,hnc,storeCells,loadCells,loadCellsFrom]
theorem z03 (x y:Operand) (t u:TypeId) :
  (execOp a.eval ⟨dst,.call { callee:=.builtin .append,args:=#[x,y],argTypes:=#[t,u] },ty,pos,after,guard⟩) =
   (do pure (.value (←Builtin.append_ #[t,u] ty #[a.eval x,a.eval y]))):=by
 simp [execOp,resolve,invoke,builtin]
theorem R.purged (o:Nat) (hR:R G L σ h a w):R G L (z1d o σ) (h.purge o) a w:=hR.weakH o
theorem x4U {A:Nat→Prop} (o:Nat) {d:DV} {v:Value} (hv:V w L A d v):V w L A (purge o d) v:=by
 unfold purge;split
 ·exact .imm (.undef _)
 ·exact hv
theorem y97 {h:Heap} {o:Nat} {c:List DV} (hc:h o=some c):h.upd o (some c)=h:=by
 funext p
 unfold Heap.upd
 split
 ·rename_i e;rw [e,hc]
 ·rfl
theorem z2m (hR:R G L σ h a w) {o:Nat} (hK:G.K o=none) (t u e:TypeId) (hlo:o<1048576∧(786432≤o∧o<851968→e=(o - 786432) / 16)) (x y:Operand) (i:TypeInfo) {z:Value} (hzs:z.cells.size=i.size) {cells:List DV} {vals:List Value} {n cap:Nat}
  (hl:cells.length=n*i.size) (hvl:vals.length=cells.length) (hcap:n≤cap)
  (hv:∀(k:Nat) d v,cells[k]? = some d→vals[k]? = some v→V w L (Av G.S L) d v)
  (hr:(Builtin.append_ #[t,u] ty #[a.eval x,a.eval y]).run P w=.ok (.slice (some ⟨w.heap.size,0,none⟩) n cap) (w.drew.alloc (.cells (vals.toArray++Builtin.zeroCells z.cells (cap - n)) e))) :
  Snd P G σ h a w ⟨dst,.call { callee:=.builtin .append,args:=#[x,y],argTypes:=#[t,u] },ty,pos,after,guard⟩ (.osl i.size o 0 n) (.app o (cells.map (purge o))):=by
 have hD:=(hR.drop o hK).still (Ext.drew _ w)
 have hsize:(vals.toArray++Builtin.zeroCells z.cells (cap - n)).size=cap*i.size:=by
  rw [Array.size_append,size_zeroCells,hzs,List.size_toArray,hvl,hl,←Nat.add_mul]
  congr 1
  omega
 have hN:=hD.new (o:=o) (cells:=cells.map (purge o)) (cs:=vals.toArray++Builtin.zeroCells z.cells (cap - n)) (by simp [Heap.upd]) e ⟨fun h=>absurd hlo.1 (by omega),fun h1 h2=>hlo.2 ⟨h1,h2⟩⟩ (by rw [hsize,List.length_map,hl];exact Nat.mul_le_mul_right _ hcap) (fun k d v h1 h2=>by
  simp only [List.getElem?_map,zO2] at h1
  obtain ⟨d0,hd0,rfl⟩:=h1
  have hlt:=(List.getElem?_eq_some_iff.1 hd0).1
  rw [Array.getElem?_append_left (by simp;omega)] at h2
  have hv0:=hv k d0 v hd0 (by simpa using h2)
  refine hv0.purge o (fun b hb hA=>⟨rfl,?_⟩) fun p b hne hp=>⟨by simp [z1O,hne,hp],rfl⟩
  rintro (hS|⟨p,hp⟩)
  ·exact hA (.inl hS)
  ·unfold z1O at hp
   split at hp
   ·cases hp
   ·exact hA (.inr ⟨p,hp⟩))
 refine ⟨.slice (some ⟨w.heap.size,0,none⟩) n cap,w.drew.alloc (.cells (vals.toArray++Builtin.zeroCells z.cells (cap - n)) e),z1O (z1O L o none) o (some w.drew.heap.size),.inl ?_,?_,?_⟩
 ·rw [z03]
  simp only [Sem.run_bind,hr,Result.andThen_ok,Sem.run_pure]
 ·have:=hN.1
  have e1:((h.purge o).upd o none).upd o (some (cells.map (purge o)))=(h.purge o).upd o (some (cells.map (purge o))):=by
   funext p;unfold Heap.upd;split<;>rfl
  rw [e1] at this
  exact this
 ·refine .osl (b:=w.heap.size) (by simp [z1O]) hcap (z9X w.drew _ _) ?_
  rw [hsize];omega
theorem w11 (hE:EV vs ε w L (Av G.S L) a) (hR:R G L σ h a w) (t e:TypeId) (x y:Operand) {i:TypeInfo} {z:Value} (ht:P.underlying t=some (.slice e)) (hi:P.info? e=some i) (hz:i.zero=some z)
  (hzs:z.cells.size=i.size) (h0:i.size≠0) (he:opE nb dst (ε) h (.app e i.size i.bytes (z0Y vs x) (z0Y vs y))=some (d,ef)) :
  Snd P G σ h a w ⟨dst,.call { callee:=.builtin .append,args:=#[x,y],argTypes:=#[t,t] },ty,pos,after,guard⟩ d ef:=by
 have hx:=hE x
 have hy:=hE y
 simp only [opE] at he
 split at he
 ·rename_i hp
  simp only [zO3] at he
  obtain ⟨ys,hys,he⟩:=he
  obtain ⟨⟨g1,g2,g3⟩,he⟩:=z0r he
  rw [zO2] at he
  obtain ⟨o,ho,he⟩:=he
  cases he
  rw [hp] at hx
  have e1:=hx.inv_nils
  have hno:=(z0M ho).1
  have hlo2:=(z0M ho).2
  have hK:G.K o=none:=by
   cases hKo:G.K o with
   | none=>rfl
   | some b=>have:=(hR.keep o b hKo).1;rw [hR.lNone hno] at this;cases this
  obtain ⟨B,m,c,e2,hyl,hB⟩:=w09 hR h0 hys hy
  have hcnt:=y0F hyl h0
  rw [hcnt]
  rcases hB with rfl|⟨ad,news,rfl,hnl,hcell,hvv⟩
  ·have hm:m=0:=by
    rcases Nat.eq_zero_or_pos m with e|e
    ·exact e
    ·have:=Nat.mul_pos e (Nat.pos_of_ne_zero h0);simp at hyl;omega
   subst hm
   have hrun:=z2c (P:=P) (w:=w) t ty e i ht hi none B 0 0 c (Nat.le_refl _)
   refine ⟨.slice none 0 0,w,L,.inl ?_,?_,.osl0 _ _ _⟩
   ·rw [z03,e1,e2];simp [hrun]
   ·exact (hR.purged o).virt (by simp [Heap.purge,hno])
  ·rcases Nat.eq_zero_or_pos m with hm|hm
   ·subst hm
    have:ys=[]:=List.eq_nil_of_length_eq_zero (by omega)
    subst this
    have hrun:=z2c (P:=P) (w:=w) t ty e i ht hi none (some ad) 0 0 c (Nat.le_refl _)
    refine ⟨.slice none 0 0,w,L,.inl ?_,?_,.osl0 _ _ _⟩
    ·rw [z03,e1,e2];simp [hrun]
    ·exact (hR.purged o).virt (by simp [Heap.purge,hno])
   ·have hmb:m*i.bytes≤ys.length*i.bytes:=Nat.mul_le_mul_right _ (by rw [hyl];exact Nat.le_mul_of_pos_right _ (Nat.pos_of_ne_zero h0))
    have hm2:m≤ys.length:=by rw [hyl];exact Nat.le_mul_of_pos_right _ (Nat.pos_of_ne_zero h0)
    have hr:=run_append_nil (P:=P) w t ty e i z ht hi hz ad m c news (by omega) hcell hm (by omega) (by omega)
    rw [←e1,←e2] at hr
    exact z2m hR hK t t e ⟨by omega,by omega⟩ x y i hzs hyl hnl (grownCap_ge w m 0 e) hvv hr
 ·rename_i s' o off len hp
  simp only [zO3] at he
  obtain ⟨cs,hcs,ys,hys,he⟩:=he
  obtain ⟨hgd,he'⟩:=z0r he
  clear he
  obtain ⟨rfl,rfl,g3,g4,g5,gk,gt,g6⟩:=hgd
  have hK:G.K o=none:=hR.keep_none gk
  cases he'
  rw [hp] at hx
  obtain ⟨B,m,c,e2,hyl,hB⟩:=w09 hR h0 hys hy
  have hcnt:=y0F hyl h0
  rw [hcnt]
  have hpos:=Nat.pos_of_ne_zero h0
  have hlenle:len≤cs.length:=by rw [g3];exact Nat.le_mul_of_pos_right _ hpos
  have hmle:m≤ys.length:=by rw [hyl];exact Nat.le_mul_of_pos_right _ hpos
  have hbytes:(len+m)*i.bytes≤140737488355328:=Nat.le_trans (Nat.mul_le_mul_right _ (by omega)) g4
  have hzero:∀B',a.eval y=.slice B' 0 c→ys=[]→∀A n c0,a.eval x=.slice A n c0→n≤c0→V w L (Av G.S L) (.osl i.size o 0 len) (.slice A n c0) →
    Snd P G σ h a w ⟨dst,.call { callee:=.builtin .append,args:=#[x,y],argTypes:=#[t,t] },ty,pos,after,guard⟩ (.osl i.size o 0 (len+0)) (.app o ((cs++ys).map (purge o))):=by
   intro B' e2' hy0 A n c0 e1 hnc hvv
   subst hy0
   have hrun:=z2c (P:=P) (w:=w) t ty e i ht hi A B' n c0 c hnc
   refine ⟨_,w,L,.inl ?_,?_,hvv⟩
   ·rw [z03,e1,e2'];simp [hrun]
   ·have:=hR.purged o
    rw [List.append_nil]
    show R G L (z1d o σ) ((h.purge o).upd o (some (cs.map (purge o)))) a w
    rw [y97 (by simp [Heap.purge,hcs])]
    exact this
  have hm0:m=0→ys=[]:=fun hm=>List.eq_nil_of_length_eq_zero (by rw [hyl,hm];simp)
  by_cases hm:m=0
  ·subst hm
   rcases hx.inv_osl with ⟨b,c0,T,mm,hL,e1,hc,hs,hmm⟩|⟨rfl,e1⟩
   ·exact hzero B e2 (hm0 rfl) _ _ _ e1 hc (e1 ▸ hx)
   ·exact hzero B e2 (hm0 rfl) _ _ _ e1 (Nat.le_refl _) (e1 ▸ hx)
  ·have hmp:0<m:=Nat.pos_of_ne_zero hm
   rcases hB with rfl|⟨ad,news,rfl,hnl,hcell,hvv⟩
   ·exact absurd (show m=0 from by
     rcases Nat.eq_zero_or_pos m with e|e
     ·exact e
     ·have:=Nat.mul_pos e hpos;simp at hyl;omega) hm
   ·have hone:∀u∈news,u.oneCell'=true:=by
     intro u hu
     obtain ⟨k,hk⟩:=List.mem_iff_getElem?.1 hu
     obtain ⟨dd,hdd⟩:=z0O (l:=ys) (k:=k) (by have:=(List.getElem?_eq_some_iff.1 hk).1;omega)
     exact V.oneCell (g6 dd (List.mem_of_getElem? hdd)) (hvv k dd u hdd hk)
    rcases hx.inv_osl with ⟨b,c0,T,mm,hL,e1,hc,hs,hmm⟩|⟨rfl,e1⟩
    ·obtain ⟨cells,cur,T',hho,hb,hl',hpp⟩:=hR.heap.at_ hL
     rw [hcs] at hho;cases hho
     have hcur:c0*i.size≤cur.size:=by
      simp [World.shape?,hb] at hs
      omega
     by_cases hroom:len+m≤c0
     ·-- there is room: the cells are written behind the old ones
      have hfit:len*i.size+news.length≤cur.size:=by
       rw [hnl,hyl,←Nat.add_mul]
       exact Nat.le_trans (Nat.mul_le_mul_right _ hroom) hcur
      have hf:=run_firstCells_some (P:=P) w i.size m ad m c news (by omega) hcell
      have hst:=run_storeCells_at P b (len*i.size) T' news 0 cur w hb (by simpa using hfit) hone
      simp only [Nat.add_zero] at hst
      have hrun:(Builtin.append_ #[t,t] ty #[a.eval x,a.eval y]).run P w =
        .ok (.slice (some ⟨b,0,none⟩) (len+m) c0) (w.setRow b (cur.toList.take (len*i.size)++news++cur.toList.drop (len*i.size+news.length)).toArray):=by
       rw [e1,e2]
       simp [Builtin.append_,run_underlying ht,sizeOf,typeInfo,hi,Builtin.lenOf,hroom,hf,Addr.add_lit,hst]
      have hcs':(cur.toList.take (len*i.size)++news++cur.toList.drop (len*i.size+news.length)).toArray.size=cur.size:=by simp;omega
      refine ⟨.slice (some ⟨b,0,none⟩) (len+m) c0,_,L,.inl (by rw [z03];simp only [Sem.run_bind,hrun,Result.andThen_ok,Sem.run_pure]),
       (hR.purged o).write (cells:=(cs++ys).map (purge o)) hL hb (cs':=(cur.toList.take (len*i.size)++news++cur.toList.drop (len*i.size+news.length)).toArray) hcs' (by simp;omega) (fun k dd v h1 h2=>?_) (z3y hb),?_⟩
      ·simp only [List.getElem?_map,zO2] at h1
       obtain ⟨d0,hd0,rfl⟩:=h1
       refine x4U o ?_
       have hlt:=(List.getElem?_eq_some_iff.1 hd0).1
       simp only [List.length_append] at hlt
       have h2':(cur.toList.take (len*i.size)++news++cur.toList.drop (len*i.size+news.length))[k]? = some v:=by simpa using h2
       rw [List.getElem?_append_left (by simp;omega)] at h2'
       rw [List.getElem?_append] at hd0 h2'
       have hlen2:(cur.toList.take (len*i.size)).length=cs.length:=by simp;omega
       rw [hlen2] at h2'
       by_cases hk:k<cs.length
       ·rw [if_pos hk] at hd0 h2'
        rw [List.getElem?_take,if_pos (by omega)] at h2'
        exact hpp k d0 v hd0 (by simpa using h2')
       ·rw [if_neg hk] at hd0 h2'
        exact hvv _ d0 v hd0 h2'
      ·refine .osl (T:=T') (m:=cur.size) hL hroom ?_ (by omega)
       rw [z3y hb]
       have hblt:=hR.heap.lt hL
       simp only [World.shape?]
       rw [Array.getElem?_setIfInBounds]
       simp only [if_true,hblt]
       simp only [hcs']
     ·have hr:=run_append_grow (P:=P) w t ty e i z ht hi hz ⟨b,0,none⟩ len c0 (cur.toList.take (len*i.size)) (by simp;omega) (fun j v hj=>by
       rw [add_lit,Nat.zero_add,cell_of_row w b j cur T' (0,0) hb]
       rw [List.getElem?_take] at hj
       split at hj
       ·simpa using hj
       ·cases hj) ad m c news (by omega) hcell (by omega) (by omega) (growslice_fits (by omega) hbytes)
      rw [←e1,←e2] at hr
      have hr':(Builtin.append_ #[t,t] ty #[a.eval x,a.eval y]).run P w=.ok (.slice (some ⟨w.heap.size,0,none⟩) (len+m) (grownCap w (len+m) c0 e))
        (w.drew.alloc (.cells ((cur.toList.take (len*i.size)++news).toArray++Builtin.zeroCells z.cells (grownCap w (len+m) c0 e - (len+m))) e)):=by
       rw [hr];simp
      refine z2m hR hK t t e ⟨gk,gt⟩ x y i hzs (cells:=cs++ys) (by rw [List.length_append,g3,hyl,Nat.add_mul]) (by simp;omega) (grownCap_ge w _ _ _) (fun k dd v h1 h2=>?_) hr'
      rw [List.getElem?_append] at h1 h2
      have hlen2:(cur.toList.take (len*i.size)).length=cs.length:=by simp;omega
      rw [hlen2] at h2
      by_cases hk:k<cs.length
      ·rw [if_pos hk] at h1 h2
       rw [List.getElem?_take,if_pos (by omega)] at h2
       exact hpp k dd v h1 (by simpa using h2)
      ·rw [if_neg hk] at h1 h2
       exact hvv _ dd v h1 h2
    ·have hcs0:cs=[]:=List.eq_nil_of_length_eq_zero (by omega)
     subst hcs0
     have hr:=run_append_nil (P:=P) w t ty e i z ht hi hz ad m c news (by omega) hcell hmp (by omega) (by
      have:m*i.bytes≤(0+m)*i.bytes:=Nat.mul_le_mul_right _ (by omega)
      omega)
     rw [←e1,←e2] at hr
     rw [Nat.zero_add,List.nil_append]
     exact z2m hR hK t t e ⟨gk,gt⟩ x y i hzs hyl hnl (grownCap_ge w m 0 e) hvv hr
 ·cases he
theorem x74 (hE:EV vs ε w L (Av G.S L) a) (hR:R G L σ h a w) (t e:TypeId) (y:Operand) {i:TypeInfo} {z:Value} (ht:P.underlying t=some (.slice e)) (hi:P.info? e=some i) (hz:i.zero=some z)
  (hzs:z.cells.size=i.size) (h0:i.size≠0) (he:opE nb dst (ε) h (.appi i.size i.bytes (z0Y vs y))=some (d,ef)) :
  Snd P G σ h a w ⟨dst,.call { callee:=.builtin .append,args:=#[.const (.slice none 0 0),y],argTypes:=#[t,t] },ty,pos,after,guard⟩ d ef:=by
 have hy:=hE y
 simp only [opE,zO3] at he
 obtain ⟨ys,hys,he⟩:=he
 obtain ⟨⟨g1,g2,g3⟩,he⟩:=z0r he
 cases he
 have e1:a.eval (.const (.slice none 0 0))=.slice none 0 0:=rfl
 obtain ⟨B,m,c,e2,hyl,hB⟩:=w09 hR h0 hys hy
 have nilr:∀B c,a.eval y=.slice B 0 c→Snd P G σ h a w ⟨dst,.call { callee:=.builtin .append,args:=#[.const (.slice none 0 0),y],argTypes:=#[t,t] },ty,pos,after,guard⟩ (.sl i.size []) .no:=by
  intro B c e2
  have hrun:=z2c (P:=P) (w:=w) t ty e i ht hi none B 0 0 c (Nat.le_refl _)
  exact Snd.val hR (v:=.slice none 0 0) (by rw [z03,e1,e2];simp [hrun]) (.imm (.sl0 _ _ _))
 rcases hB with rfl|⟨ad,news,rfl,hnl,hcell,hvv⟩
 ·have hm:m=0:=by
   rcases Nat.eq_zero_or_pos m with e|e
   ·exact e
   ·have:=Nat.mul_pos e (Nat.pos_of_ne_zero h0);simp at hyl;omega
  subst hm
  exact nilr B c e2
 ·rcases Nat.eq_zero_or_pos m with hm|hm
  ·subst hm
   have:ys=[]:=List.eq_nil_of_length_eq_zero (by omega)
   subst this
   exact nilr _ c e2
  ·have hmb:m*i.bytes≤ys.length*i.bytes:=Nat.mul_le_mul_right _ (by rw [hyl];exact Nat.le_mul_of_pos_right _ (Nat.pos_of_ne_zero h0))
   have hm2:m≤ys.length:=by rw [hyl];exact Nat.le_mul_of_pos_right _ (Nat.pos_of_ne_zero h0)
   have hr:=run_append_nil (P:=P) w t ty e i z ht hi hz ad m c news (by omega) hcell hm (by omega) (by omega)
   rw [←e1,←e2] at hr
   have hR':=hR.still (Ext.drew (fun _=>False) w)
   refine Snd.val' hR (v:=.slice (some ⟨w.heap.size,0,none⟩) m (grownCap w m 0 e)) (w':=w.drew.alloc (.cells (news.toArray++Builtin.zeroCells z.cells (grownCap w m 0 e - m)) e)) ((Ext.drew (fun _=>False) w).trans (Ext.alloc _ _ _)) (by rw [z03];simp only [Sem.run_bind,hr,Result.andThen_ok,Sem.run_pure]) ?_
   refine VI.row hR' e (0,0) h0 hyl (grownCap_ge w m 0 e) ?_ (fun k dd v h1 h2=>?_)
   ·rw [Array.size_append,List.size_toArray];omega
   ·have hlt:=(List.getElem?_eq_some_iff.1 h1).1
    rw [Array.getElem?_append_left (by simp;omega)] at h2
    exact VI.mono (w:=w) (w':=w.drew) (A:=Av G.S L) (A':=Av G.S L) (fun b hb hA=>⟨rfl,hA⟩) ((hvv k dd v h1 (by simpa using h2)).rf_imm (g3 dd (List.mem_of_getElem? h1)))
theorem z4b (l:List UInt8):(bys l).length=l.length:=List.length_map ..
theorem z3d (l:List UInt8) (k:Nat) (d:DV) (v:Value) {S:Nat→Prop} (h1:(bys l)[k]? = some d) (h2:(Lib.strCells ⟨l.toArray⟩)[k]? = some v):V w L S d v:=by
 unfold bys at h1
 unfold Lib.strCells at h2
 simp only [List.getElem?_map,zO2] at h1 h2
 obtain ⟨b,hb,rfl⟩:=h1
 obtain ⟨c,hc,rfl⟩:=h2
 rw [hb] at hc
 cases hc
 exact .imm (.int _ _)
theorem x4V (o:Nat) (l:List UInt8):(bys l).map (purge o)=bys l:=by
 unfold bys
 rw [List.map_map]
 exact List.map_congr_left fun b _=>by simp [purge,z4S,DV.has]
theorem z36 (t u ty e:TypeId) (i:TypeInfo) (ht:P.underlying t=some (.slice e)) (hu:P.underlying u=some .string) (hi:P.info? e=some i) (A:Option Addr) (n c:Nat) (hnc:n≤c) :
  (Builtin.append_ #[t,u] ty #[.slice A n c,.string ⟨#[]⟩]).run P w=.ok (.slice A n c) w:=by
 have hf:=Lib.run_firstCells_string (P:=P) w i.size ⟨#[]⟩
 have e0:(⟨#[]⟩:ByteArray).size=0:=rfl
 rw [e0] at hf
 have e1:(Lib.strCells ⟨#[]⟩)=[]:=rfl
 cases A<;>simp [Builtin.append_,run_underlying ht,run_underlying hu,sizeOf,typeInfo,hi,Builtin.lenOf,e0,hnc,hf,e1,storeCells]
theorem x75 (hE:EV vs ε w L (Av G.S L) a) (hR:R G L σ h a w) (t u e:TypeId) (x y:Operand) {i:TypeInfo} {z:Value} (ht:P.underlying t=some (.slice e)) (hu:P.underlying u=some .string) (hi:P.info? e=some i) (hz:i.zero=some z)
  (hzs:z.cells.size=1) (hs1:i.size=1) (hb1:i.bytes=1) (he:opE nb dst (ε) h (.apps e (z0Y vs x) (z0Y vs y))=some (d,ef)) :
  Snd P G σ h a w ⟨dst,.call { callee:=.builtin .append,args:=#[x,y],argTypes:=#[t,u] },ty,pos,after,guard⟩ d ef:=by
 have hx:=hE x
 have hy:=hE y
 have hzs':z.cells.size=i.size:=by rw [hzs,hs1]
 have hsz:∀l:List UInt8,(⟨l.toArray⟩:ByteArray).size=l.length:=fun l=>by show l.toArray.size=_;simp
 have hsl:∀l:List UInt8,(Lib.strCells ⟨l.toArray⟩).length=l.length:=fun l=>by rw [Lib.strCells_length,hsz]
 simp only [opE] at he
 split at he
 ·rename_i l hp hq
  obtain ⟨g1,he⟩:=z0r he
  rw [zO2] at he
  obtain ⟨o,ho,he⟩:=he
  cases he
  rw [hp] at hx
  rw [hq] at hy
  have e1:=hx.inv_nils
  have e2:=hy.inv_str
  have hno:=(z0M ho).1
  have hlo2:=(z0M ho).2
  have hK:G.K o=none:=by
   cases hKo:G.K o with
   | none=>rfl
   | some b=>have:=(hR.keep o b hKo).1;rw [hR.lNone hno] at this;cases this
  rcases Nat.eq_zero_or_pos l.length with hm|hm
  ·have hl0:l=[]:=List.eq_nil_of_length_eq_zero hm
   subst hl0
   have hrun:=z36 (P:=P) (w:=w) t u ty e i ht hu hi none 0 0 (Nat.le_refl _)
   refine ⟨.slice none 0 0,w,L,.inl ?_,?_,.osl0 _ _ _⟩
   ·rw [z03,e1,e2];simp [hrun]
   ·exact (hR.purged o).virt (by simp [Heap.purge,hno])
  ·have hr:=run_append_nil_string (P:=P) w t u ty e i z ht hu hi hz ⟨l.toArray⟩ (by rw [hsz];exact hm) (by rw [hsz];omega) (by rw [hsz,hb1];omega)
   rw [hsz] at hr
   have e3:(⟨l.toArray⟩:ByteArray).data.map (fun b=>Value.int .u8 b.toNat)=(Lib.strCells ⟨l.toArray⟩).toArray:=by simp [Lib.strCells]
   rw [e3,←e1,←e2] at hr
   have:=z2m (dst:=dst) (pos:=pos) (after:=after) (guard:=guard) hR hK t u e ⟨by omega,by omega⟩ x y i hzs' (cells:=bys l) (by rw [z4b,hs1,Nat.mul_one]) (by rw [hsl,z4b]) (grownCap_ge w l.length 0 e) (fun k d v h1 h2=>z3d l k d v h1 h2) hr
   rw [x4V,hs1] at this
   exact this
 ·rename_i s' o off len l hp hq
  simp only [zO3] at he
  obtain ⟨cs,hcs,he⟩:=he
  obtain ⟨hgd,he'⟩:=z0r he
  clear he
  obtain ⟨rfl,rfl,g3,g4,gk,gt⟩:=hgd
  have hK:G.K o=none:=hR.keep_none gk
  cases he'
  rw [hp] at hx
  rw [hq] at hy
  have e2:=hy.inv_str
  have hzero:l=[]→∀A n c0,a.eval x=.slice A n c0→n≤c0→V w L (Av G.S L) (.osl 1 o 0 len) (.slice A n c0) →
    Snd P G σ h a w ⟨dst,.call { callee:=.builtin .append,args:=#[x,y],argTypes:=#[t,u] },ty,pos,after,guard⟩ (.osl 1 o 0 (len+l.length)) (.app o ((cs++bys l).map (purge o))):=by
   intro hl0 A n c0 e1 hnc hvv
   subst hl0
   have hrun:=z36 (P:=P) (w:=w) t u ty e i ht hu hi A n c0 hnc
   refine ⟨_,w,L,.inl ?_,?_,hvv⟩
   ·rw [z03,e1,e2];simp [hrun]
   ·have:=hR.purged o
    rw [show bys []=[] from rfl,List.append_nil]
    show R G L (z1d o σ) ((h.purge o).upd o (some (cs.map (purge o)))) a w
    rw [y97 (by simp [Heap.purge,hcs])]
    exact this
  by_cases hm:l.length=0
  ·have hl0:=List.eq_nil_of_length_eq_zero hm
   rcases hx.inv_osl with ⟨b,c0,T,mm,hL,e1,hc,hs,hmm⟩|⟨rfl,e1⟩
   ·exact hzero hl0 _ _ _ e1 hc (e1 ▸ hx)
   ·exact hzero hl0 _ _ _ e1 (Nat.le_refl _) (e1 ▸ hx)
  ·have hmp:0<l.length:=Nat.pos_of_ne_zero hm
   rcases hx.inv_osl with ⟨b,c0,T,mm,hL,e1,hc,hs,hmm⟩|⟨rfl,e1⟩
   ·obtain ⟨cells,cur,T',hho,hb,hl',hpp⟩:=hR.heap.at_ hL
    rw [hcs] at hho;cases hho
    have hcur:c0≤cur.size:=by
     simp [World.shape?,hb] at hs
     omega
    by_cases hroom:len+l.length≤c0
    ·have hfit:len+(Lib.strCells ⟨l.toArray⟩).length≤cur.size:=by
      rw [hsl];omega
     have hf:=Lib.run_firstCells_string (P:=P) w 1 ⟨l.toArray⟩
     have hst:=run_storeCells_at P b len T' (Lib.strCells ⟨l.toArray⟩) 0 cur w hb (by simpa using hfit) (Lib.strCells_oneCell _)
     rw [hsz] at hf
     simp only [Nat.add_zero] at hst
     have hrun:(Builtin.append_ #[t,u] ty #[a.eval x,a.eval y]).run P w =
       .ok (.slice (some ⟨b,0,none⟩) (len+l.length) c0) (w.setRow b (cur.toList.take len++Lib.strCells ⟨l.toArray⟩++cur.toList.drop (len+(Lib.strCells ⟨l.toArray⟩).length)).toArray):=by
      rw [e1,e2]
      simp [Builtin.append_,run_underlying ht,run_underlying hu,sizeOf,typeInfo,hi,hs1,Builtin.lenOf,hsz,hroom,hf,Addr.add_lit,hst]
     have hcs':(cur.toList.take len++Lib.strCells ⟨l.toArray⟩++cur.toList.drop (len+(Lib.strCells ⟨l.toArray⟩).length)).toArray.size=cur.size:=by simp;omega
     refine ⟨.slice (some ⟨b,0,none⟩) (len+l.length) c0,_,L,.inl (by rw [z03];simp only [Sem.run_bind,hrun,Result.andThen_ok,Sem.run_pure]),
      (hR.purged o).write (cells:=(cs++bys l).map (purge o)) hL hb (cs':=(cur.toList.take len++Lib.strCells ⟨l.toArray⟩++cur.toList.drop (len+(Lib.strCells ⟨l.toArray⟩).length)).toArray) hcs' (by simp [z4b,hsl];omega) (fun k dd v h1 h2=>?_) (z3y hb),?_⟩
     ·simp only [List.getElem?_map,zO2] at h1
      obtain ⟨d0,hd0,rfl⟩:=h1
      refine x4U o ?_
      have hlt:=(List.getElem?_eq_some_iff.1 hd0).1
      simp only [List.length_append,z4b] at hlt
      have h2':(cur.toList.take len++Lib.strCells ⟨l.toArray⟩++cur.toList.drop (len+(Lib.strCells ⟨l.toArray⟩).length))[k]? = some v:=by simpa using h2
      rw [List.getElem?_append_left (by simp [hsl];omega)] at h2'
      rw [List.getElem?_append] at hd0 h2'
      have hlen2:(cur.toList.take len).length=cs.length:=by simp;omega
      rw [hlen2] at h2'
      by_cases hk:k<cs.length
      ·rw [if_pos hk] at hd0 h2'
       rw [List.getElem?_take,if_pos (by omega)] at h2'
       exact hpp k d0 v hd0 (by simpa using h2')
      ·rw [if_neg hk] at hd0 h2'
       exact z3d l _ d0 v hd0 h2'
     ·refine .osl (T:=T') (m:=cur.size) hL hroom ?_ (by omega)
      rw [z3y hb]
      have hblt:=hR.heap.lt hL
      simp only [World.shape?]
      rw [Array.getElem?_setIfInBounds]
      simp only [if_true,hblt]
      simp only [hcs']
    ·have hr:=Lib.run_append_grow_string (P:=P) w t u ty e i z ht hu hi hz ⟨b,0,none⟩ len c0 (cur.toList.take len) (by rw [hs1];simp;omega) (fun j v hj=>by
      rw [add_lit,Nat.zero_add,cell_of_row w b j cur T' (0,0) hb]
      rw [List.getElem?_take] at hj
      split at hj
      ·simpa using hj
      ·cases hj) ⟨l.toArray⟩ (by rw [hsz];omega) (by rw [hsz];omega) (by rw [hb1,hsz];exact growslice_fits (by omega) (by omega))
     rw [hsz,←e1,←e2] at hr
     have hr':(Builtin.append_ #[t,u] ty #[a.eval x,a.eval y]).run P w=.ok (.slice (some ⟨w.heap.size,0,none⟩) (len+l.length) (grownCap w (len+l.length) c0 e))
       (w.drew.alloc (.cells ((cur.toList.take len++Lib.strCells ⟨l.toArray⟩).toArray++Builtin.zeroCells z.cells (grownCap w (len+l.length) c0 e - (len+l.length))) e)):=by
      rw [hr];simp
     have:=z2m (dst:=dst) (pos:=pos) (after:=after) (guard:=guard) hR hK t u e ⟨gk,gt⟩ x y i hzs' (cells:=cs++bys l) (by rw [List.length_append,g3,z4b,hs1,Nat.mul_one]) (by simp [z4b,hsl];omega) (grownCap_ge w _ _ _) (fun k dd v h1 h2=>?_) hr'
     ·rw [hs1] at this
      exact this
     ·rw [List.getElem?_append] at h1 h2
      have hlen2:(cur.toList.take len).length=cs.length:=by simp;omega
      rw [hlen2] at h2
      by_cases hk:k<cs.length
      ·rw [if_pos hk] at h1 h2
       rw [List.getElem?_take,if_pos (by omega)] at h2
       exact hpp k dd v h1 (by simpa using h2)
      ·rw [if_neg hk] at h1 h2
       exact z3d l _ dd v h1 h2
   ·have hcs0:cs=[]:=List.eq_nil_of_length_eq_zero (by omega)
    subst hcs0
    have hr:=run_append_nil_string (P:=P) w t u ty e i z ht hu hi hz ⟨l.toArray⟩ (by rw [hsz];exact hmp) (by rw [hsz];omega) (by rw [hsz,hb1];omega)
    rw [hsz] at hr
    have e3:(⟨l.toArray⟩:ByteArray).data.map (fun b=>Value.int .u8 b.toNat)=(Lib.strCells ⟨l.toArray⟩).toArray:=by simp [Lib.strCells]
    rw [e3,←e1,←e2] at hr
    rw [Nat.zero_add,List.nil_append]
    have:=z2m (dst:=dst) (pos:=pos) (after:=after) (guard:=guard) hR hK t u e ⟨gk,gt⟩ x y i hzs' (cells:=bys l) (by rw [z4b,hs1,Nat.mul_one]) (by rw [hsl,z4b]) (grownCap_ge w l.length 0 e) (fun k d v h1 h2=>z3d l k d v h1 h2) hr
    rw [hs1] at this
    exact this
 ·cases he
theorem y3d {fs:Array Field} {t:TypeId} {places:List (Nat × Nat)} (ht:P.underlying t=some (.struct fs)) (hp:fs.toList.mapM (fun f=>(z1h P f.type).map fun n=>(f.offset,n))=some places)
  (zv:Value) (i:TypeInfo) (parts:List (Nat × Value)) (hi:P.info? t=some i) (hz:i.zero=some zv):P.built t parts=Instr.fill (places[·]?) zv.cells parts:=by
 have hp':fs.toList.mapM (fun f=>(P.info? f.type).map fun i=>(f.offset,i.size))=some places:=by
  rw [←hp]
  congr 1
  funext f
  simp only [z1h,Option.map_map]
  rfl
 simp [Program.built,hi,ht,hz,hp']
theorem y5G {len:Nat} {e t:TypeId} {n:Nat} (ht:P.underlying t=some (.array len e)) (hn:z1h P e=some n)
  (zv:Value) (i:TypeInfo) (parts:List (Nat × Value)) (hi:P.info? t=some i) (hz:i.zero=some zv):P.built t parts=Instr.fill (fun i=>some (i*n,n)) zv.cells parts:=by
 simp only [z1h,zO2] at hn
 obtain ⟨j,hj,rfl⟩:=hn
 simp [Program.built,hi,ht,hz,hj]
theorem y5b (hE:EV vs ε w L (Av G.S L) a) (hR:R G L σ h a w) (op:Op) {p:DOp} (hs:sOp P vs own dst op=some p) (he:opE nb dst (ε) h p=some (d,ef)) :
  Snd P G σ h a w ⟨dst,op,ty,pos,after,guard⟩ d ef:=by
 cases op with
 | move x=>simp only [sOp,Option.some.injEq] at hs;subst hs;simp only [opE,Option.some.injEq] at he;cases he;exact x9w hE hR x (.inl rfl)
 | assign x=>simp only [sOp,Option.some.injEq] at hs;subst hs;simp only [opE,Option.some.injEq] at he;cases he;exact x9w hE hR x (.inr rfl)
 | pick c x y=>simp only [sOp,Option.some.injEq] at hs;subst hs;exact x8f nb hE hR c x y he
 | alloc e =>
  simp only [sOp,zO2] at hs
  obtain ⟨z,hz,rfl⟩:=hs
  split at he
  ·exact x1O nb hE hR e hz he
  ·exact x5A nb hE hR e hz he
 | box e x =>
  simp only [sOp,Option.some.injEq] at hs
  split at hs
  ·subst hs;exact x76 nb hE hR e x he
  ·subst hs;exact w15 nb hE hR e x he
 | build t ps =>
  simp only [sOp] at hs
  split at hs
  ·rename_i fs ht
   split at hs
   ·rename_i places hp
    simp only [zO3,zO2] at hs
    obtain ⟨z,hz,qs,hq,rfl⟩:=hs
    exact y5J nb hE hR t ps hz hq (fun zv i parts=>y3d ht hp zv i parts) he
   ·cases hs
  ·rename_i len e ht
   simp only [zO3,zO2] at hs
   obtain ⟨n,hn,z,hz,qs,hq,rfl⟩:=hs
   exact y5J nb hE hR t ps hz hq (fun zv i parts=>y5G ht hn zv i parts) he
  ·cases hs
 | buildSlice t len ps =>
  simp only [sOp] at hs
  split at hs
  ·rename_i e ht
   simp only [zO3] at hs
   obtain ⟨n,hn,z,hz,hs⟩:=hs
   split at hs
   ·cases hs
   ·rename_i hc
    rw [zO2] at hs
    obtain ⟨qs,hq,hs⟩:=hs
    have hn0:n≠0:=fun e=>hc (.inl e)
    have hsm:len*n≤4096:=by
     rcases Nat.lt_or_ge 4096 (len*n) with e|e
     ·exact absurd (.inr e) hc
     ·exact e
    split at hs
    ·subst hs;exact x77 nb hE hR t e len ps ht hn hn0 hz hsm hq he
    ·subst hs;exact w16 nb hE hR t e len ps ht hn hn0 hz hsm hq he
  ·cases hs
 | load t x =>
  simp only [sOp] at hs
  split at hs
  ·rename_i hA
   rw [zO2] at hs
   obtain ⟨n,hn,hs⟩:=hs
   split at hs
   ·subst hs;exact x8a nb hE hR t x n hA hn he
   ·split at hs
    ·subst hs;exact x8b nb hE hR t x n hA hn he
    ·subst hs;exact y7w nb hE hR t x n hA hn he
  ·rename_i hA
   split at hs
   ·rename_i hu
    split at hs
    ·cases hs;exact w2f nb hE hR t x (by simpa using hA) hu he
    ·split at hs
     ·cases hs;exact w2g nb hE hR t x (by simpa using hA) hu he
     ·cases hs;exact x5C nb hE hR t x (by simpa using hA) hu he
   ·cases hs
 | store t x y =>
  simp only [sOp,zO2] at hs
  obtain ⟨n,hn,hs⟩:=hs
  split at hs
  ·rename_i e;subst e;subst hs;exact w5b nb hE hR t x y hn he
  ·subst hs;exact w2m nb hE hR t x y hn he
 | nilCheck x=>simp only [sOp,Option.some.injEq] at hs;subst hs;exact x8e nb hE hR x he
 | binOp op t x y u =>
  have gen:∀{q:DOp},some (DOp.bin op (z0Y vs x) (z0Y vs y))=some q→opE nb dst (ε) h q=some (d,ef)→Snd P G σ h a w ⟨dst,.binOp op t x y u,ty,pos,after,guard⟩ d ef:=by
   intro q hq hq2;cases hq;exact w14 nb hE hR op t u x y hq2
  have cmp:(op=.eql∨op=.neq)→(match P.underlying t with
    | some .bool=>some (DOp.beq (op == .neq) (z0Y vs x) (z0Y vs y))
    | some (.int _)|some .string=>some (.bin op (z0Y vs x) (z0Y vs y))
    | some (.slice _)=>if y1u y then some (.isnil (op == .neq) (z0Y vs x)) else none
    | some (.struct fs)=>if P.stoodInHeld t || P.eqGuardType P.depth t then none else (z4k P fs.toList).map fun l=>.eqs (op == .neq) l (z0Y vs x) (z0Y vs y)
    | _=>none)=some p→Snd P G σ h a w ⟨dst,.binOp op t x y u,ty,pos,after,guard⟩ d ef:=by
   clear hs
   intro hop hs
   split at hs
   ·rename_i ht;cases hs;exact w13 nb hE hR op hop t u ht x y he
   ·exact gen hs he
   ·exact gen hs he
   ·rename_i e ht
    split at hs
    ·rename_i hy;cases hs;obtain rfl:=z9p hy;exact x5B nb hE hR op hop t u ht x he
    ·cases hs
   ·rename_i fs ht
    split at hs
    ·cases hs
    ·rename_i hc
     rw [zO2] at hs
     obtain ⟨l,hl,rfl⟩:=hs
     simp only [Bool.or_eq_true,not_or,Bool.not_eq_true] at hc
     exact w18 nb hE hR op hop t u ht hc.1 hc.2 hl x y he
   ·cases hs
  cases op<;>first|exact gen hs he|exact cmp (.inl rfl) hs|exact cmp (.inr rfl) hs
 | unOp op t x=>simp only [sOp,Option.some.injEq] at hs;subst hs;exact w5c nb hE hR op t x he
 | convert src tgt x =>
  simp only [sOp] at hs
  split at hs
  ·rename_i h1 h2;cases hs;exact x78 nb hE hR src tgt _ _ h1 h2 x he
  ·rename_i h1 h2;cases hs;exact x5D nb hE hR src tgt h1 h2 x he
  ·rename_i h1 h2;cases hs;exact x5D nb hE hR src tgt h1 h2 x he
  ·rename_i e h1 h2
   split at hs
   ·rename_i h3
    cases hs
    have h3':P.underlying e=some (.int .u8):=by
     revert h3;cases hq:P.underlying e with
     | none=>simp
     | some q=>cases q<;>simp<;>(rename_i k;cases k<;>simp)
    exact w2k nb hE hR src tgt e h1 h2 h3' x he
   ·cases hs
  ·rename_i e h1 h2
   split at hs
   ·rename_i h3
    cases hs
    have h3':P.underlying e=some (.int .u8):=by
     revert h3;cases hq:P.underlying e with
     | none=>simp
     | some q=>cases q<;>simp<;>(rename_i k;cases k<;>simp)
    exact w12 nb hE hR src tgt e h1 h2 h3' x he
   ·cases hs
  ·cases hs
 | makeSlice t l c =>
  simp only [sOp] at hs
  split at hs
  ·rename_i e ht
   simp only [zO3] at hs
   obtain ⟨i,hi,z,hz,hs⟩:=hs
   split at hs
   ·cases hs
   ·rename_i hc
    cases hs
    exact w2j nb hE hR t e l c ht hi hz (fun e=>hc (.inl e)) (fun e=>hc (.inr (.inl e))) (by
     rcases Nat.decEq z.length i.size with e|e
     ·exact absurd (.inr (.inr e)) hc
     ·exact e) he
  ·cases hs
 | slice t x lo hi mx =>
  simp only [sOp] at hs
  split at hs
  ·rename_i e ht
   simp only [zO3] at hs
   obtain ⟨n,hn,hs⟩:=hs
   split at hs
   ·cases hs
   ·rename_i hn0
    split at hs
    ·cases hs;exact w2l nb hE hR t e x lo hi ht hn hn0 he
    ·cases hi with
     | some hi=>cases hs;exact x8g nb hE hR t e x lo hi _ ht hn hn0 he
     | none=>cases hs
  ·rename_i ht
   split at hs
   ·cases hs
   ·rename_i hmx
    have:mx=none:=by cases mx<;>simp_all
    subst this
    cases hs;exact x8h nb hE hR t x lo hi ht he
  ·cases hs
 | fieldAddr t x f =>
  simp only [sOp] at hs
  split at hs
  ·rename_i fs ht
   simp only [zO3] at hs
   obtain ⟨g,hg,n,hn,hs⟩:=hs
   split at hs
   ·cases hs
   ·rename_i hn0;cases hs;exact w2a nb hE hR t x f ht hg hn hn0 he
  ·cases hs
 | field t x f =>
  simp only [sOp] at hs
  split at hs
  ·rename_i fs ht
   simp only [zO3] at hs
   obtain ⟨g,hg,n,hn,hs⟩:=hs
   split at hs
   ·rename_i hA;cases hs;exact x79 nb hE hR t x f n ht hg hA hn he
   ·rename_i hA
    split at hs
    ·rename_i hu;cases hs;exact w2b nb hE hR t x f ht hg (by simpa using hA) hu he
    ·cases hs
  ·cases hs
 | indexAddr t x i =>
  simp only [sOp] at hs
  split at hs
  ·rename_i e ht
   simp only [zO3] at hs
   obtain ⟨n,hn,hs⟩:=hs
   split at hs
   ·cases hs
   ·rename_i hn0;cases hs;exact w2d nb hE hR t x i ht hn hn0 he
  ·rename_i len e ht
   simp only [zO3] at hs
   obtain ⟨n,hn,hs⟩:=hs
   split at hs
   ·cases hs
   ·cases hs;exact w2c nb hE hR t x i ht hn he
  ·cases hs
 | index t x i =>
  simp only [sOp] at hs
  split at hs
  ·rename_i ht;cases hs;exact w2e nb hE hR t x i ht he
  ·cases hs
 | extract x i=>simp only [sOp,Option.some.injEq] at hs;subst hs;exact w19 nb hE hR x i he
 | makeInterface t x =>
  simp only [sOp] at hs
  split at hs
  ·cases hs
  ·cases hs
  ·rename_i u hu1 hu2
   cases hs
   exact w2i nb hE hR t hu2 (fun ms e=>hu1 ms e) x he
 | panic x=>simp only [sOp,Option.some.injEq] at hs;subst hs;simp [opE] at he
 | makeFunc fn first caps =>
  cases fn with
  | func f =>
   simp only [sOp] at hs
   split at hs
   ·rename_i h0
    cases hs
    have:first=#[]:=Array.eq_empty_of_size_eq_zero h0
    subst this
    exact w2h nb hE hR f caps he
   ·cases hs
  | _=>simp [sOp] at hs
 | call c =>
  obtain ⟨callee,args,argTypes⟩:=c
  have one:∀{α:Type} {xs:Array α} {x:α},xs.toList=[x]→xs=#[x]:=fun e=>Array.ext' e
  have two:∀{α:Type} {xs:Array α} {x y:α},xs.toList=[x,y]→xs=#[x,y]:=fun e=>Array.ext' e
  cases callee with
  | value f =>
   cases f with
   | func f =>
    simp only [sOp] at hs
    split at hs
    ·split at hs
     ·cases hs;simp [opE] at he
     ·cases hs
    ·cases hs
   | tmp k=>simp only [sOp,Option.some.injEq] at hs;subst hs;simp [opE] at he
   | _=>simp [sOp] at hs
  | invoke r m=>simp [sOp] at hs
  | builtin b =>
   cases b with
   | len =>
    simp only [sOp] at hs
    split at hs
    ·rename_i x t hargs hts
     obtain rfl:=one hargs
     obtain rfl:=one hts
     split at hs
     ·rename_i ht;cases hs;exact y7x nb hE hR t x ht he
     ·rename_i e ht
      simp only [zO3] at hs
      obtain ⟨n,hn,hs⟩:=hs
      split at hs
      ·cases hs
      ·rename_i hn0;cases hs;exact y3l nb hE hR t x ht hn0 he
     ·cases hs
    ·cases hs
   | append =>
    simp only [sOp] at hs
    split at hs
    ·rename_i x y t u hargs hts
     obtain rfl:=two hargs
     obtain rfl:=two hts
     split at hs
     ·rename_i e e' ht hu
      split at hs
      ·rename_i htu
       subst htu
       simp only [zO3] at hs
       obtain ⟨i,hi,hs⟩:=hs
       split at hs
       ·cases hs
       ·rename_i hc
        cases hs
        have hz:i.zero.map (·.cells.size)=some i.size:=by
         by_cases e:i.zero.map (·.cells.size)=some i.size
         ·exact e
         ·exact absurd (.inr e) hc
        rw [zO2] at hz
        obtain ⟨z,hz,hzs⟩:=hz
        split at he
        ·rename_i hown
         rw [Bool.and_eq_true] at hown
         obtain rfl:=z9p hown.2
         exact x74 nb hE hR t e y ht hi hz hzs (fun e=>hc (.inl e)) he
        ·exact w11 nb hE hR t e x y ht hi hz hzs (fun e=>hc (.inl e)) he
      ·cases hs
     ·rename_i e ht hu
      simp only [zO3] at hs
      obtain ⟨i,hi,hs⟩:=hs
      split at hs
      ·rename_i hc
       cases hs
       obtain ⟨c1,c2,c3⟩:=hc
       rw [zO2] at c3
       obtain ⟨z,hz,hzs⟩:=c3
       exact x75 nb hE hR t u e x y ht hu hi hz hzs c1 c2 he
      ·cases hs
     ·cases hs
    ·cases hs
   | clear =>
    simp only [sOp] at hs
    split at hs
    ·rename_i x t hargs hts
     obtain rfl:=one hargs
     obtain rfl:=one hts
     split at hs
     ·rename_i e ht
      simp only [zO3] at hs
      obtain ⟨i,hi,z,hz,hs⟩:=hs
      split at hs
      ·cases hs
      ·rename_i hc
       cases hs
       refine w17 nb hE hR t e x ht hi hz (fun e=>hc (.inl e)) ?_ ?_ he
       ·rcases Nat.decEq z.length i.size with e|e
        ·exact absurd (.inr (.inl e)) hc
        ·exact e
       ·intro d hd
        have h3:z.all DV.one=true:=by
         cases hq:z.all DV.one with
         | true=>rfl
         | false=>exact absurd (.inr (.inr hq)) hc
        exact List.all_eq_true.1 h3 d hd
     ·cases hs
    ·cases hs
   | min =>
    simp only [sOp] at hs
    split at hs
    ·rename_i x y hargs
     obtain rfl:=two hargs
     cases hs
     exact x8d nb hE hR x y argTypes he
    ·cases hs
   | max =>
    simp only [sOp] at hs
    split at hs
    ·rename_i x y hargs
     obtain rfl:=two hargs
     cases hs
     exact x8c nb hE hR x y argTypes he
    ·cases hs
   | _=>simp [sOp] at hs
 | _=>simp [sOp] at hs
end
end Go.Dat
namespace Go.Dat
open Go
abbrev Fr:=List (Nat × DV)
abbrev Hp:=List (Nat × List DV)
def lk:Fr→Nat→DV
 | [],_=>.undef
 | (k,d)::r,s=>if k=s then d else lk r s
def lkH:Hp→Nat→Option (List DV)
 | [],_=>none
 | (k,d)::r,s=>if k=s then some d else lkH r s
def z0W:Fr→Nat→DV→Fr
 | [],k,d=>[(k,d)]
 | (j,e)::r,k,d=>if j=k then (k,d)::r else if k<j then (k,d)::(j,e)::r else (j,e)::z0W r k d
def z0N:Hp→Nat→List DV→Hp
 | [],k,d=>[(k,d)]
 | (j,e)::r,k,d=>if j=k then (k,d)::r else if k<j then (k,d)::(j,e)::r else (j,e)::z0N r k d
def z0J (f:DV→DV):Fr→Fr
 | []=>[]
 | (k,d)::r=>(k,f d)::z0J f r
def z0X (f:DV→DV):Hp→Hp
 | []=>[]
 | (k,d)::r=>(k,d.map f)::z0X f r
theorem z9v:∀(r:Fr) (k:Nat) (d:DV) (s:Nat),lk (z0W r k d) s=if s=k then d else lk r s
 | [],k,d,s=>by simp [z0W,lk,eq_comm]
 | (j,e)::r,k,d,s=>by
  simp only [z0W]
  by_cases h1:j=k
  ·subst h1;simp only [if_true,lk];by_cases h:j=s
   ·simp [h]
   ·simp [h,Ne.symm h]
  ·rw [if_neg h1]
   by_cases h2:k<j
   ·rw [if_pos h2];simp only [lk]
    by_cases h:k=s
    ·simp [h]
    ·simp [h,Ne.symm h]
   ·rw [if_neg h2];simp only [lk,z9v r k d s]
    by_cases h:j=s
    ·subst h;simp [h1]
    ·simp [h]
theorem z1f:∀(r:Hp) (k:Nat) (d:List DV) (s:Nat),lkH (z0N r k d) s=if s=k then some d else lkH r s
 | [],k,d,s=>by simp [z0N,lkH,eq_comm]
 | (j,e)::r,k,d,s=>by
  simp only [z0N]
  by_cases h1:j=k
  ·subst h1;simp only [if_true,lkH];by_cases h:j=s
   ·simp [h]
   ·simp [h,Ne.symm h]
  ·rw [if_neg h1]
   by_cases h2:k<j
   ·rw [if_pos h2];simp only [lkH]
    by_cases h:k=s
    ·simp [h]
    ·simp [h,Ne.symm h]
   ·rw [if_neg h2];simp only [lkH,z1f r k d s]
    by_cases h:j=s
    ·subst h;simp [h1]
    ·simp [h]
theorem z4p (f:DV→DV) (hf:f .undef=.undef):∀(r:Fr) (s:Nat),lk (z0J f r) s=f (lk r s)
 | [],s=>by simp [z0J,lk,hf]
 | (k,d)::r,s=>by
  simp only [z0J,lk,z4p f hf r s]
  split<;>rfl
theorem y9r (f:DV→DV):∀(r:Hp) (s:Nat),lkH (z0X f r) s=(lkH r s).map (·.map f)
 | [],s=>by simp [z0X,lkH]
 | (k,d)::r,s=>by
  simp only [z0X,lkH,y9r f r s]
  split<;>rfl
structure FnD where
 P:Program
 vs:List Nat
 own:List Nat
 n:Nat
 pure:Bool:=false
def FnD.nb (_:FnD):Nat:=0
def den (vs:List Nat) (te fr:Fr):Nat→DV:=fun s=>if vs.contains s then lk fr s else lk te s
def ev (te fr:Fr):Opd→DV
 | .x k=>lk fr k
 | .t k=>lk te k
 | .c d=>d
theorem y04 (vs:List Nat) (te fr:Fr) (x:Operand):ev te fr (z0Y vs x)=evS (den vs te fr) (z0Y vs x):=by
 cases x with
 | tmp k =>
  by_cases h:vs.contains k=true
  ·simp only [z0Y,h,if_true,ev,evS,den]
  ·have h':vs.contains k=false:=by simpa using h
   simp only [z0Y,h',Bool.false_eq_true,if_false,ev,evS,den]
 | _=>rfl
def Eff.onF:Eff→Fr→Fr
 | .app o _,r=>z0J (purge o) r
 | _,r=>r
def Eff.onL:Eff→Hp→Hp
 | .no,H=>H
 | .set o c,H=>z0N H o c
 | .new o c,H=>z0N H o c
 | .app o c,H=>z0N (z0X (purge o) H) o c
theorem z5l (o:Nat):purge o .undef=.undef:=by simp [purge]
theorem y6i (vs:List Nat) (ef:Eff) (te fr:Fr):den vs (ef.onF te) (ef.onF fr)=ef.onS (den vs te fr):=by
 cases ef with
 | app o c =>
  funext s
  simp only [den,Eff.onF,Eff.onS,z1d,z4p _ (z5l o)]
  split<;>rfl
 | _=>rfl
theorem y2L (ef:Eff) (H:Hp):lkH (ef.onL H)=ef.onH (lkH H):=by
 cases ef with
 | no=>rfl
 | set o c=>funext s;simp only [Eff.onL,Eff.onH,Heap.upd,z1f]
 | new o c=>funext s;simp only [Eff.onL,Eff.onH,Heap.upd,z1f]
 | app o c=>funext s;simp only [Eff.onL,Eff.onH,Heap.upd,z1f,y9r,Heap.purge]
def Dst.onT:Dst→Fr→DV→Fr
 | .t k,te,d=>(k,d)::te
 | _,te,_=>te
def Dst.onX:Dst→Fr→DV→Fr
 | .x k,fr,d=>z0W fr k d
 | _,fr,_=>fr
theorem z2B (vs:List Nat) (dst:Option Nat) (te fr:Fr) (d:DV):den vs ((y3c vs dst).onT te d) ((y3c vs dst).onX fr d)=z1u (den vs te fr) dst d:=by
 cases dst with
 | none=>rfl
 | some k =>
  funext s
  by_cases h:vs.contains k=true
  ·simp only [y3c,h,if_true,Dst.onT,Dst.onX,den,z1u,z9v]
   by_cases hs:s=k
   ·subst hs;simp only [h,if_true]
   ·simp only [hs,if_false]
  ·have h':vs.contains k=false:=by simpa using h
   simp only [y3c,h',Bool.false_eq_true,if_false,Dst.onT,Dst.onX,den,z1u,lk]
   by_cases hs:s=k
   ·subst hs;simp only [h',Bool.false_eq_true,if_false,if_true]
   ·simp only [hs,Ne.symm hs,if_false]
theorem z08 (vs:List Nat) (dst:Option Nat):(y3c vs dst).slot=dst:=by
 cases dst with
 | none=>rfl
 | some k=>simp only [y3c];split<;>rfl
def tabName : String := "internal/strconv.uint64pow10"
def y2O : String := "internal/bytealg.MaxLen"
def Tab (P:Program) (w:World):Prop:=(∀g,P.globalNamed tabName=some g→g<w.heap.size∧Lib.TabIs P w tabName .u64 Lib.pow10Tab) ∧
 ∀ g,P.globalNamed y2O=some g→g<w.heap.size∧∃m,w.cell? ⟨g,0,none⟩=some (.int .i64 m)
def y3C (P:Program) (b:Nat):Prop:=∀g,P.globalNamed tabName=some g∨P.globalNamed y2O=some g→b≠g
theorem Tab.ext {P:Program} {S:Nat→Prop} {w w':World} (h:Tab P w) (hx:Ext S w w') (hS:∀b,S b→y3C P b):Tab P w':=by
 refine ⟨fun g hg=>?_,fun g hg=>?_⟩
 ·obtain ⟨h1,h2⟩:=h.1 g hg
  refine ⟨Nat.lt_of_lt_of_le h1 hx.size,?_⟩
  unfold Lib.TabIs at h2 ⊢
  rw [←h2]
  simp only [World.var?,hg,Option.bind_some]
  rw [hx.block g h1 fun hs=>hS g hs g (.inl hg) rfl]
 ·obtain ⟨h1,m,h2⟩:=h.2 g hg
  refine ⟨Nat.lt_of_lt_of_le h1 hx.size,m,?_⟩
  rw [←h2]
  exact World.cell?_of_block (hx.block g h1 fun hs=>hS g hs g (.inr hg) rfl)
def Cx.ok (G:Cx) (P:Program):Prop:=Tab P G.w0∧∀b,G.P b→y3C P b
theorem Cx.ok.tab {G:Cx} {P:Program} (h:G.ok P) {L:Nat→Option Nat} {σ:Nat→DV} {hp:Heap} {a:Act} {w:World} (hR:R G L σ hp a w):Tab P w:=h.1.ext hR.ext h.2
theorem Cx.ok.own {G:Cx} {P:Program} (h:G.ok P) {L:Nat→Option Nat} {σ:Nat→DV} {hp:Heap} {a:Act} {w:World} (hR:R G L σ hp a w) {o b:Nat} (hL:L o=some b):y3C P b:=by
 rcases hR.own o b hL with h1|h1
 ·exact h.2 b h1
 ·rintro g (hg|hg) e
  ·have:=(h.1.1 g hg).1
   omega
  ·have:=(h.1.2 g hg).1
   omega
def z0c (P:Program) (f:Nat) (args:List DV) (r:DV):Prop :=
 ∀ (A:Nat→Prop) (w:World) (us:Array Value),Tab P w→(∀b,A b→b<w.heap.size)→us.size=args.length→(∀(k:Nat) d v,args[k]? = some d→us[k]? = some v→VI w A d v) →
  Calls P f us w fun e w'=>∃v,e=.returned v∧VI w' A r v∧Ext (fun _=>False) w w'
def DV.sim:DV→Bool
 | .int .. | .bool _ | .str _=>true
 | _=>false
def y3D (σ σ':Nat→DV):Prop:=∀s,(σ s).sim=true→σ' s=σ s
theorem y3D.refl (σ:Nat→DV):y3D σ σ:=fun _ _=>rfl
theorem y3D.trans {σ σ' σ'':Nat→DV} (h:y3D σ σ') (k:y3D σ' σ''):y3D σ σ'':=fun s hs=>by
 have h1:=h s hs
 rw [k s (by rw [h1];exact hs),h1]
theorem y3D.map {g:DV→DV} (hg:∀d:DV,d.sim=true→g d=d) (hu:g .undef=.undef) (vs:List Nat) (te fr:Fr):y3D (den vs te fr) (den vs (z0J g te) (z0J g fr)):=fun s hs=>by
 simp only [den,z4p g hu] at hs ⊢
 by_cases hc:vs.contains s=true
 ·rw [if_pos hc] at hs ⊢;rw [if_pos hc];exact hg _ hs
 ·rw [if_neg hc] at hs ⊢;rw [if_neg hc];exact hg _ hs
def x2m (P:Program) (vs:List Nat) (f:Nat) (ds:List DV) (te fr:Fr) (H:Hp) (K:DV→Fr→Fr→Hp→Prop):Prop :=
 ∀ (G:Cx) (L:Nat→Option Nat) (a:Act) (w:World) (us:Array Value),G.ok P→R G L (den vs te fr) (lkH H) a w→us.size=ds.length →
  (∀(k:Nat) d v,ds[k]? = some d→us[k]? = some v→V w L (Av G.S L) d v) →
  Calls P f us w fun e w'=>∃v L' d te' fr' H',e=.returned v∧R G L' (den vs te' fr') (lkH H') a w'∧V w' L' (Av G.S L') d v∧y3D (den vs te fr) (den vs te' fr')∧K d te' fr' H'
theorem z6o {P:Program} {vs:List Nat} {f:Nat} {ds:List DV} {te fr:Fr} {H:Hp} {K:DV→Fr→Fr→Hp→Prop} {r:DV} (hc:z0c P f ds r) (hrf:ds.all DV.rf=true) (hK:K r te fr H) :
  x2m P vs f ds te fr H K:=by
 intro G L a w us hG hR hs hv
 have hA:∀b,Av G.S L b→b<w.heap.size:=by
  rintro b (h|⟨o,h⟩)
  ·exact hR.sLt b h
  ·exact hR.heap.lt h
 refine (hc (Av G.S L) w us (hG.tab hR) hA hs fun k d v h1 h2=>(hv k d v h1 h2).rf_imm (List.all_eq_true.1 hrf d (List.mem_of_getElem? h1))).mono ?_
 rintro e w' ⟨v,rfl,hvi,hx⟩
 exact ⟨v,L,r,te,fr,H,rfl,hR.still hx,.imm hvi,y3D.refl _,hK⟩
def z3r (F:FnD) (f:Nat) (ds:List DV) (te fr:Fr) (H:Hp) (K:DV→Fr→Fr→Hp→Prop):Prop :=
 if F.pure then ∃r,z0c F.P f ds r∧ds.all DV.rf=true∧K r te fr H else x2m F.P F.vs f ds te fr H K
theorem z1G {F:FnD} {f:Nat} {ds:List DV} {te fr:Fr} {H:Hp} {K:DV→Fr→Fr→Hp→Prop} {r:DV} (hc:z0c F.P f ds r) (hrf:ds.all DV.rf=true) (hK:K r te fr H) :
  z3r F f ds te fr H K:=by
 unfold z3r
 split
 ·exact ⟨r,hc,hrf,hK⟩
 ·exact z6o hc hrf hK
theorem y7Z {F:FnD} {f:Nat} {ds:List DV} {te fr:Fr} {H:Hp} {K:DV→Fr→Fr→Hp→Prop} (hF:F.pure=false) (h:x2m F.P F.vs f ds te fr H K):z3r F f ds te fr H K:=by
 unfold z3r;rw [hF];exact h
theorem y6g {F:FnD} {f:Nat} {ds:List DV} {te fr:Fr} {H:Hp} {K:DV→Fr→Fr→Hp→Prop} (h:z3r F f ds te fr H K):x2m F.P F.vs f ds te fr H K:=by
 unfold z3r at h
 split at h
 ·obtain ⟨r,h1,h2,h3⟩:=h;exact z6o h1 h2 h3
 ·exact h
def OW {α:Type} (x:Option α) (K:α→Prop):Prop:=∃a,x=some a∧K a
theorem w5J {α:Type} (c:Prop) (x:Option α) (K:α→Prop):OW (gd c x) K↔c∧OW x K:=by
 unfold OW gd
 by_cases h:c<;>simp [h]
def z1l (F:FnD):List DOper→Fr→Fr→Hp→(Fr→Fr→Hp→Prop)→Prop
 | [],te,fr,H,K=>K te fr H
 | o::os,te,fr,H,K =>
  let skip:=z1l F os (o.dst.onT te (.tup [])) (o.dst.onX fr (.tup [])) H K
  let go:=match o.op with
   | .call f args=>z3r F f (args.map (ev te fr)) te fr H fun d te' fr' H'=>z1l F os (o.dst.onT te' d) (o.dst.onX fr' d) H' K
   | p=>OW (opE F.nb o.dst.slot (ev te fr) (lkH H) p) fun r=>z1l F os (o.dst.onT (r.2.onF te) r.1) (o.dst.onX (r.2.onF fr) r.1) (r.2.onL H) K
  match o.guard with
  | none=>go
  | some (g,want)=>match ev te fr g with
   | .bool b=>(b=want→go)∧(b=!want→skip)
   | .tup []=>skip
   | _=>False
section
variable {F:FnD} {G:Cx} {L:Nat→Option Nat} {a:Act} {w:World} {h:Heap}
theorem x3E {l:Array Value} {k:Nat} {v:Value} (h:l.getD k undef=v) (hv:v≠undef):l[k]? = some v:=by
 rw [Array.getD_eq_getD_getElem?] at h
 cases hk:l[k]? with
 | none=>rw [hk] at h;exact absurd h.symm hv
 | some u=>rw [hk] at h;exact congrArg some h
theorem z96 {ops:Array Oper} {o:Oper} {g:Opd} {want b:Bool} {te fr:Fr} (hR:R G L (den F.vs te fr) h a w) (hg:z2z F.vs ops o.guard=some (some (g,want))) (hb:ev te fr g=.bool b) :
  Region.wanted o (yielded ops a.tmps)=(b == want):=by
 cases hgd:o.guard with
 | none=>rw [hgd] at hg;simp [z2z] at hg
 | some p =>
  obtain ⟨j,w0⟩:=p
  rw [hgd] at hg
  simp only [z2z,zO2] at hg
  obtain ⟨k,hk,hg⟩:=hg
  cases hg
  rw [y04] at hb
  have hv:=hR.slots k
  have hs:den F.vs te fr k=.bool b:=by
   by_cases hc:F.vs.contains k=true
   ·simpa only [z0Y,hc,if_true,evS] using hb
   ·have hc':F.vs.contains k=false:=by simpa using hc
    simpa only [z0Y,hc',Bool.false_eq_true,if_false,evS] using hb
  rw [hs] at hv
  have h1:=x3E hv.inv_bool (by simp [undef])
  simp [Region.wanted,hgd,yielded,hk,h1]
end
end Go.Dat
namespace Go.Dat
open Go
section
variable {F:FnD} {G:Cx} {L:Nat→Option Nat} {a:Act} {w:World} {h:Heap}
theorem z97 {ops:Array Oper} {o:Oper} {g:Opd} {want:Bool} {te fr:Fr} (hR:R G L (den F.vs te fr) h a w) (hg:z2z F.vs ops o.guard=some (some (g,want))) (hb:ev te fr g=.tup []) :
  Region.wanted o (yielded ops a.tmps)=false:=by
 cases hgd:o.guard with
 | none=>rw [hgd] at hg;simp [z2z] at hg
 | some p =>
  obtain ⟨j,w0⟩:=p
  rw [hgd] at hg
  simp only [z2z,zO2] at hg
  obtain ⟨k,hk,hg⟩:=hg
  cases hg
  rw [y04] at hb
  have hv:=hR.slots k
  have hs:den F.vs te fr k=.tup []:=by
   by_cases hc:F.vs.contains k=true
   ·simpa only [z0Y,hc,if_true,evS] using hb
   ·have hc':F.vs.contains k=false:=by simpa using hc
    simpa only [z0Y,hc',Bool.false_eq_true,if_false,evS] using hb
  rw [hs] at hv
  obtain ⟨us,hu,hl,_⟩:=hv.inv_tup
  have:us=#[]:=Array.eq_empty_of_size_eq_zero (by simpa using hl.symm)
  subst this
  have hy:yielded ops a.tmps j=none:=by
   simp only [yielded,hk,Option.bind_some]
   rw [Array.getD_eq_getD_getElem?] at hu
   cases hq:a.tmps[k]? with
   | none=>rfl
   | some v=>rw [hq] at hu;simp only [Option.getD_some] at hu;rw [hu]
  simp [Region.wanted,hgd,hy]
theorem z30 {ops:Array Oper} {o:Oper} (tmps:Array Value) (hg:z2z F.vs ops o.guard=some none):Region.wanted o (yielded ops tmps)=true:=by
 cases hgd:o.guard with
 | none=>simp [Region.wanted,hgd]
 | some p =>
  obtain ⟨j,w0⟩:=p
  rw [hgd] at hg
  simp only [z2z,zO2] at hg
  obtain ⟨k,_,hk⟩:=hg
  cases hk
theorem z4j {n:Nat} {dst:Option Nat} (h:dOk n dst=true):∀k,dst=some k→k<n:=by
 rintro k rfl;simpa [dOk] using h
theorem z8k {A:Nat→Prop}:V w L A (.tup []) undef:=.imm (.tup rfl fun k d v h=>by simp at h)
theorem z6W {P:Program} {vs own:List Nat} {dst:Option Nat} {op:Op} {f:Nat} {args:List Opd} (hop:∀c,op≠.call c) (h:sOp P vs own dst op=some (.call f args)):False:=by
 cases op with
 | call c=>exact hop c rfl
 | binOp op t x y u=>cases op<;>simp only [sOp] at h<;>(repeat' split at h)<;>first|(cases h;done)|(rw [zO2] at h;obtain ⟨_,_,h⟩:=h;cases h)
 | build t ps =>
  simp only [sOp] at h
  repeat' split at h
  all_goals first|cases h|(simp only [zO3,zO2] at h;obtain ⟨_,_,_,_,h⟩:=h;cases h;done)|(simp only [zO3,zO2] at h;obtain ⟨_,_,_,_,_,_,h⟩:=h;cases h;done)
 | buildSlice t len ps =>
  simp only [sOp] at h
  split at h
  ·simp only [zO3] at h
   obtain ⟨n,_,z,_,h⟩:=h
   split at h
   ·cases h
   ·rw [zO2] at h
    obtain ⟨_,_,h⟩:=h
    split at h<;>cases h
  ·cases h
 | makeFunc fn first caps =>
  cases fn with
  | func f =>
   simp only [sOp] at h
   split at h<;>cases h
  | _=>simp [sOp] at h
 | slice t x lo hi mx =>
  simp only [sOp] at h
  split at h
  ·simp only [zO3] at h
   obtain ⟨n,_,h⟩:=h
   split at h
   ·cases h
   ·split at h
    ·cases h
    ·rw [zO2] at h;obtain ⟨_,_,h⟩:=h;cases h
  ·split at h<;>cases h
  ·cases h
 | load t x =>
  simp only [sOp] at h
  split at h
  ·simp only [zO2] at h
   obtain ⟨n,_,h⟩:=h
   (repeat' split at h)<;>cases h
  ·(repeat' split at h)<;>cases h
 | box e x =>
  simp only [sOp,Option.some.injEq] at h
  split at h<;>cases h
 | _ =>
  simp only [sOp] at h
  repeat' split at h
  all_goals first
   | cases h
   | (simp only [zO2] at h;obtain ⟨_,_,h⟩:=h;cases h)
   | (simp only [zO2] at h;obtain ⟨_,_,h⟩:=h;split at h<;>cases h)
   | (simp only [zO3] at h;obtain ⟨_,_,h⟩:=h;split at h<;>cases h;done)
   | (simp only [zO3] at h;obtain ⟨_,_,_,_,h⟩:=h;(repeat' split at h)<;>cases h;done)
   | (simp only [zO3] at h;obtain ⟨_,_,h⟩:=h;split at h<;>(simp only [zO3] at h;obtain ⟨_,_,h⟩:=h;(repeat' split at h)<;>cases h))
theorem y1F {o:Oper} {ops:Array Oper} {dp:DOper} {te fr:Fr} {H:Hp} {K:Act→World→Prop} {Q:Exit→Act→World→Prop} {Kd:Fr→Fr→Hp→Prop}
  (hs:z4U F.P F.vs F.own F.n ops o=some dp) (hn:G.n=F.n∧G.ok F.P) (hR:R G L (den F.vs te fr) (lkH H) a w)
  (hK:∀te fr H L a w,R G L (den F.vs te fr) (lkH H) a w→Kd te fr H→K a w)
  (hgo:match dp.op with
   | .call f args=>z3r F f (args.map (ev te fr)) te fr H fun d te' fr' H'=>Kd (dp.dst.onT te' d) (dp.dst.onX fr' d) H'
   | p=>OW (opE F.nb dp.dst.slot (ev te fr) (lkH H) p) fun r=>Kd (dp.dst.onT (r.2.onF te) r.1) (dp.dst.onX (r.2.onF fr) r.1) (r.2.onL H)):o.wp F.P a w K Q:=by
 obtain ⟨dst,op,ty,pos,after,guard⟩:=o
 simp only [z4U,zO3] at hs
 obtain ⟨p,hp,g,hg,hs⟩:=hs
 split at hs
 ·rename_i hd
  cases hs
  have hdl:=z4j hd
  have hE:EV F.vs (ev te fr) w L (Av G.S L) a:=fun x=>by rw [y04];exact x98 hR x
  have plain:OW (opE F.nb (y3c F.vs dst).slot (ev te fr) (lkH H) p) (fun r=>Kd ((y3c F.vs dst).onT (r.2.onF te) r.1) ((y3c F.vs dst).onX (r.2.onF fr) r.1) (r.2.onL H)) →
    Oper.wp F.P ⟨dst,op,ty,pos,after,guard⟩ a w K Q:=by
   rintro ⟨⟨d,ef⟩,he,hKd⟩
   rw [z08] at he
   obtain ⟨v,w',L',hr,hR',hv⟩:=y5b (P:=F.P) F.nb (ty:=ty) (pos:=pos) (after:=after) (guard:=guard) hE hR op hp he
   have hput:=hR'.put hv (by rw [hn.1];exact hdl)
   rw [←y6i,←z2B,←y2L] at hput
   have:=hK _ _ _ _ _ _ hput hKd
   unfold Oper.wp
   rcases hr with hr|⟨hr,rfl⟩
   ·rw [hr];exact this
   ·rw [hr];exact this
  cases p with
  | call f args =>
   simp only at hgo
   -- the operation is a call of a function that has a body
   have hc : ∃ c fn, op = .call c ∧ c.callee = .value (.func f) ∧ F.P.funcs[f]? = some fn ∧ fn.body.isSome = true ∧ (fn.name != "runtime.NumGoroutine") = true ∧ args = c.args.toList.map (z0Y F.vs) := by
    cases op with
    | call c =>
     obtain ⟨callee,cargs,argTypes⟩:=c
     cases callee with
     | value q =>
      cases q with
      | func f' =>
       simp only [sOp] at hp
       split at hp
       ·rename_i fn hfn
        split at hp
        ·rename_i hcond
         cases hp
         simp only [Bool.and_eq_true] at hcond
         exact ⟨_,fn,rfl,rfl,hfn,hcond.1,hcond.2,rfl⟩
        ·cases hp
       ·cases hp
      | _=>simp [sOp] at hp
     | invoke r m=>simp [sOp] at hp
     | builtin b =>
      exfalso
      cases b<;>simp only [sOp] at hp<;>(repeat' split at hp)<;>first|(cases hp;done)|(simp [zO3] at hp;done)|(simp only [zO3] at hp;obtain ⟨_,_,hp⟩:=hp;split at hp<;>cases hp) 
    | _ =>
     exfalso
     exact z6W (by intro c e;cases e) hp
   obtain ⟨c,fn,rfl,hcal,hfn,hbody,hname,rfl⟩:=hc
   obtain ⟨callee,cargs,argTypes⟩:=c
   simp only at hcal hgo
   subst hcal
   have hcall:=y6g hgo G L a w (cargs.map a.eval) hn.2 hR (by simp) (fun k d v h1 h2=>by
    simp only [List.map_map,List.getElem?_map,Array.getElem?_toList,zO2] at h1
    simp only [Array.getElem?_map,zO2] at h2
    obtain ⟨x,hx,rfl⟩:=h1
    obtain ⟨y,hy,rfl⟩:=h2
    rw [hx] at hy;cases hy
    exact hE x)
   have hr:(execOp a.eval ⟨dst,.call { callee:=.value (.func f),args:=cargs,argTypes:=argTypes },ty,pos,after,guard⟩).run F.P w=.ok (.enter f (cargs.map a.eval)) w:=by
    have hb:¬fn.body=none:=by intro e;rw [e] at hbody;cases hbody
    have hnm : ¬ fn.name = "runtime.NumGoroutine" := by simpa using hname
    simp [execOp,resolve,Act.eval,Deferred.ofValue,invoke,callFunc,hfn,hnm,hb]
   unfold Oper.wp
   rw [hr]
   refine hcall.mono ?_
   rintro e w' ⟨v,L',d,te',fr',H',rfl,hR',hv,_,hKd⟩
   have hput:=hR'.put hv (by rw [hn.1];exact hdl)
   rw [←z2B] at hput
   exact hK _ _ _ _ _ _ hput hKd
  | _=>exact plain hgo
 ·cases hs
theorem z6T {ops:Array Oper} {Q:Exit→Act→World→Prop} {Kd:Fr→Fr→Hp→Prop} (hn:G.n=F.n∧G.ok F.P)
  (hK:∀te fr H L a w,R G L (den F.vs te fr) (lkH H) a w→Kd te fr H→Q .normal a w) :
  ∀ (l:List Oper) (ds:List DOper),z1M F.P F.vs F.own F.n ops l=some ds→∀(te fr:Fr) (H:Hp) (L:Nat→Option Nat) (a:Act) (w:World),
   R G L (den F.vs te fr) (lkH H) a w→z1l F ds te fr H Kd→wpList F.P ops Q l a w
 | [],ds,hs,te,fr,H,L,a,w,hR,hW=>by
  simp only [z1M,Option.some.injEq] at hs
  subst hs
  exact hK _ _ _ _ _ _ hR hW
 | o::l,ds,hs,te,fr,H,L,a,w,hR,hW=>by
  simp only [z1M,zO3,zO2] at hs
  obtain ⟨dp,hdp,ds',hds',rfl⟩:=hs
  have ih:=z6T hn hK l ds' hds'
  have hgd:z2z F.vs ops o.guard=some dp.guard∧dp.dst=y3c F.vs o.dst∧∀k,o.dst=some k→k<F.n:=by
   simp only [z4U,zO3] at hdp
   obtain ⟨p,hp,g,hg,hs⟩:=hdp
   split at hs
   ·rename_i hd;cases hs;exact ⟨hg,rfl,z4j hd⟩
   ·cases hs
  obtain ⟨hg,hdst,hdl⟩:=hgd
  have hskip:Region.wanted o (yielded ops a.tmps)=false→z1l F ds' (dp.dst.onT te (.tup [])) (dp.dst.onX fr (.tup [])) H Kd→wpList F.P ops Q (o::l) a w:=by
   intro hw hW'
   have hput:=hR.put (z8k) (dst:=o.dst) (by rw [hn.1];exact hdl)
   rw [←z2B,←hdst] at hput
   simp only [wpList,hw]
   exact ih _ _ _ _ _ _ hput hW'
  have hgo:Region.wanted o (yielded ops a.tmps)=true→(match dp.op with
   | .call f args=>z3r F f (args.map (ev te fr)) te fr H fun d te' fr' H'=>z1l F ds' (dp.dst.onT te' d) (dp.dst.onX fr' d) H' Kd
   | p=>OW (opE F.nb dp.dst.slot (ev te fr) (lkH H) p) fun r=>z1l F ds' (dp.dst.onT (r.2.onF te) r.1) (dp.dst.onX (r.2.onF fr) r.1) (r.2.onL H) Kd)→wpList F.P ops Q (o::l) a w:=by
   intro hw hg'
   simp only [wpList,hw,if_true]
   exact .inl (y1F (Kd:=fun te fr H=>z1l F ds' te fr H Kd) hdp hn hR (fun te fr H L a w hR' hk=>ih te fr H L a w hR' hk) hg')
  simp only [z1l] at hW
  cases hgu:dp.guard with
  | none =>
   rw [hgu] at hg hW
   exact hgo (z30 _ hg) hW
  | some p =>
   obtain ⟨g,want⟩:=p
   rw [hgu] at hg hW
   simp only at hW
   split at hW
   ·rename_i b hb
    have hwn:=z96 hR hg hb
    by_cases hbw:b=want
    ·exact hgo (by rw [hwn];simp [hbw]) (hW.1 hbw)
    ·exact hskip (by rw [hwn];simp [hbw]) (hW.2 (by cases b<;>cases want<;>simp_all))
   ·rename_i hb
    exact hskip (z97 hR hg hb) hW
   ·exact hW.elim
end
end Go.Dat
namespace Go.Dat
open Go
def DOp.cls:DOp→Nat
 | .ld _ | .ldn .. | .b2s _ | .appi .. | .ldr _ | .ldnr ..=>1
 | .alloc _ | .box _ | .mks .. | .bsl' ..=>2
 | .st .. | .stn .. | .clr ..=>3
 | .app .. | .apps .. | .pan _ | .allocT .. | .callv ..=>4
 | _=>0
def DOp.isCall:DOp→Bool
 | .call ..=>true
 | _=>false
def Opd.isS:Opd→Bool
 | .c _=>false
 | _=>true
def DOp.isApp:DOp→Bool
 | .app .. | .apps ..=>true
 | _=>false
def DOp.isMv:DOp→Bool
 | .mv x=>x.isS
 | _=>false
def DOp.isSafe:DOp→Bool
 | .mv x | .fad _ x | .nilc x | .lde x | .ldne _ x | .ldr x | .ldnr _ x | .iad _ x _=>x.isS
 | .bsl ..=>true
 | _=>false
def x2q (i j:Nat):Bool:=(i == 0 && j != 4) || (j == 0 && i != 4) || (i == 1 && j == 1) || (i == 1 && j == 2) || (i == 2 && j == 2)
def z6s (p q:DOp):Bool:=x2q p.cls q.cls || (p.isApp && q.isSafe) || (p.isMv && q.isApp)
def DOp.opds:DOp→List Opd
 | .mv x | .box x | .ld x | .ldn _ x | .nilc x | .un _ x | .conv _ x | .s2b x | .b2s x | .fad _ x | .fld _ x | .fldn _ _ x | .ext x _ | .len _ x | .lenS x | .s2s x | .mki _ x | .pan x=>[x]
 | .pick c a b=>[c,a,b]
 | .alloc _ | .allocT ..=>[]
 | .build _ ps | .bsl _ _ ps | .bsl' _ _ ps=>ps.map (·.2.2)
 | .st x y | .stn _ x y | .bin _ x y | .beq _ x y | .eqs _ _ x y | .mks _ _ _ x y | .iad _ x y | .iaa _ _ x y | .idx x y | .app _ _ _ x y | .min2 x y | .max2 x y | .apps _ x y=>[x,y]
 | .slc _ x lo hi | .slcS x lo hi=>x::(lo.toList++hi.toList)
 | .call _ args=>args
 | .mkf _ ps=>ps
 | .callv x args=>x::args
 | .ldr x | .ldnr _ x | .boxi x | .appi _ _ x | .lde x | .ldne _ x | .clr _ _ x | .isnil _ x=>[x]
 | .slc3 _ x lo hi mx=>x::hi::mx::lo.toList
def Opd.slot:Opd→Option Nat
 | .x k | .t k=>some k
 | .c _=>none
def DOper.looks (d:DOper):List Nat:=d.op.opds.filterMap Opd.slot++(match d.guard with|some (g,_)=>g.slot.toList|none=>[])
def DOper.apart (x y:DOper):Bool :=
 (match x.dst.slot with
  | some d=>!y.looks.contains d && y.dst.slot != some d
  | none=>true) &&
 (match y.dst.slot with
  | some d=>!x.looks.contains d
  | none=>true)
def x5H (vs:List Nat):Opd→Bool
 | .x k=>vs.contains k
 | .t k=>!vs.contains k
 | .c _=>true
def w2I (vs:List Nat):Dst→Bool
 | .x k=>vs.contains k
 | .t k=>!vs.contains k
 | .no=>true
def DOper.tags (vs:List Nat) (d:DOper):Bool:=w2I vs d.dst && d.op.opds.all (x5H vs) && (match d.guard with|some (g,_)=>x5H vs g|none=>true)
def y4e (acc:List (List Nat)) (o:Oper):List Nat :=
 ((o.after.toList.filter (Region.binds .any)).flatMap fun e=>e.on::acc.getD e.on []).eraseDups
def z1W:List Oper→List (List Nat)→List (List Nat)
 | [],acc=>acc
 | o::r,acc=>z1W r (acc++[y4e acc o])
def z77 (ops:Array Oper) (ds:List DOper) (deps:List (List Nat)):Nat→Nat→Array Bool→Bool
 | 0,_,listed=>(Region.ready .any ops listed).isEmpty
 | fuel+1,k,listed =>
  (Region.ready .any ops listed).contains k &&
  (List.range ops.size).all (fun j=>j == k || listed.getD j true || (deps.getD j []).contains k ||
   (match ds[k]?,ds[j]? with
    | some x,some y=>x.apart y && z6s x.op y.op && !(x.op.isCall && y.op.isCall)
    | _,_=>true)) &&
  z77 ops ds deps fuel (k+1) (listed.setIfInBounds k true)
def cpN (n i:Nat) (d:DOper):Bool:=decide (i<n) || !d.op.isCall
def y4h (n:Nat) (ops:Array Oper) (ds:List DOper) (deps:List (List Nat)):Nat→Nat→Array Bool→Bool
 | 0,_,listed=>(Region.ready .any ops listed).isEmpty
 | fuel+1,k,listed =>
  (Region.ready .any ops listed).contains k &&
  (List.range ops.size).all (fun j=>j == k || listed.getD j true || (deps.getD j []).contains k ||
   (match ds[k]?,ds[j]? with
    | some x,some y=>x.apart y && z6s x.op y.op && (cpN n k x && cpN n j y)
    | _,_=>true)) &&
  y4h n ops ds deps fuel (k+1) (listed.setIfInBounds k true)
def x2D (vs:List Nat) (n:Nat) (ops:Array Oper) (ds:List DOper):Bool:=Region.noSelect ops && ds.all (·.tags vs) && y4h n ops ds (z1W ops.toList []) ops.size 0 (Array.replicate ops.size false)
def x8G (vs:List Nat) (ops:Array Oper) (ds:List DOper):Bool:=Region.noSelect ops && ds.all (·.tags vs) && z77 ops ds (z1W ops.toList []) ops.size 0 (Array.replicate ops.size false)
def DOp.flatK:DOp→Bool
 | .mv x=>x.isS
 | .bin .. | .un .. | .conv .. | .slcS .. | .lenS _ | .s2s _ | .idx ..=>true
 | _=>false
inductive IT where
 | leaf
 | st (k:Nat) (t:IT)
 | fl (k:Nat) (t:IT)
 | alt (a b:IT)
def IT.dt (ds:List DOper):IT→DT
 | .leaf=>.leaf
 | .st k t=>match ds[k]? with
  | some o=>.st o (t.dt ds)
  | none=>.no
 | .fl k t=>match ds[k]? with
  | some o=>.fl o (t.dt ds)
  | none=>.no
 | .alt a b=>.alt (a.dt ds) (b.dt ds)
def w5C (ops:Array Oper) (ds:List DOper) (deps:List (List Nat)) (k:Nat) (listed:Array Bool):Bool :=
 match ds[k]? with
 | some x=>!x.op.isCall && (List.range ops.size).all fun j=>j == k || listed.getD j true || (deps.getD j []).contains k || match ds[j]? with
  | some y=>x.apart y && z6s x.op y.op && !y.op.isCall
  | none=>true
 | none=>false
def w5B (n:Nat) (ops:Array Oper) (ds:List DOper) (deps:List (List Nat)) (k:Nat) (listed:Array Bool):Bool :=
 match ds[k]? with
 | some x=>x.op.flatK && x.guard.isNone && dOk n x.dst.slot && (match x.dst.slot with|some s=>!x.looks.contains s|none=>true) &&
  (List.range ops.size).all fun j=>j == k || listed.getD j true || (deps.getD j []).contains k || match ds[j]? with
  | some y=>x.apart y && (z6s x.op y.op || y.op.isCall)
  | none=>true
 | none=>false
def x4r (n:Nat) (own:List Nat) (ops:Array Oper) (ds:List DOper) (deps:List (List Nat)):Nat→Array Bool→IT
 | 0,_=>.leaf
 | f+1,listed =>
  let r:=Region.ready .any ops listed
  match r.find? fun k=>w5C ops ds deps k listed with
  | some k=>.st k (x4r n own ops ds deps f (listed.setIfInBounds k true))
  | none=>match r.find? fun k=>w5B n ops ds deps k listed && !own.contains (8000000+((ds[k]?).bind (·.dst.slot)).getD 0) with
   | some k=>.fl k (x4r n own ops ds deps f (listed.setIfInBounds k true))
   | none=>match r with
    | []=>.leaf
    | k::ks=>ks.foldl (fun a j=>.alt a (.st j (x4r n own ops ds deps f (listed.setIfInBounds j true)))) (.st k (x4r n own ops ds deps f (listed.setIfInBounds k true)))
def IT.heads:IT→List Nat
 | .leaf=>[]
 | .st k _ | .fl k _=>[k]
 | .alt a b=>a.heads++b.heads
def IT.ok (n:Nat) (ops:Array Oper) (ds:List DOper) (deps:List (List Nat)):IT→Bool→Nat→Array Bool→Bool
 | .leaf,top,_,listed=>top && (Region.ready .any ops listed).isEmpty
 | .st k t,top,fuel,listed=>match fuel with
  | 0=>false
  | f+1=>(Region.ready .any ops listed).contains k && (!top || w5C ops ds deps k listed || (Region.ready .any ops listed).all (· == k)) && t.ok n ops ds deps true f (listed.setIfInBounds k true)
 | .fl k t,top,fuel,listed=>match fuel with
  | 0=>false
  | f+1=>top && (Region.ready .any ops listed).contains k && w5B n ops ds deps k listed && t.ok n ops ds deps true f (listed.setIfInBounds k true)
 | .alt a b,top,fuel,listed=>(!top || (Region.ready .any ops listed).all fun i=>(a.heads++b.heads).contains i) && a.ok n ops ds deps false fuel listed && b.ok n ops ds deps false fuel listed
def w36 (n:Nat) (own:List Nat) (ops:Array Oper) (ds:List DOper):IT:=x4r n own ops ds (z1W ops.toList []) ops.size (Array.replicate ops.size false)
def w7f (vs:List Nat) (n:Nat) (ops:Array Oper) (ds:List DOper) (t:IT):Bool:=Region.noSelect ops && ds.all (·.tags vs) && t.ok n ops ds (z1W ops.toList []) true ops.size (Array.replicate ops.size false)
def z31:List DOper→List (List Nat)→DT
 | [],_=>.leaf
 | o::os,ls=>.alt (.st ⟨.no,.call 0 ((ls.headD []).map Opd.t),none⟩ .no) (.st o (z31 os ls.tail))
def DT.iops:DT→List DOper
 | .alt _ (.st o t)=>o::t.iops
 | _=>[]
def DT.ideps:DT→List (List Nat)
 | .alt (.st d _) (.st _ t)=>d.op.opds.filterMap Opd.slot::t.ideps
 | _=>[]
def w0e (ops:Array Oper) (ds:List DOper) (deps:List (List Nat)):Bool :=
 ((List.range ops.size).all fun i=>match ops[i]? with
  | some o=>o.after.all fun e=>decide (e.on<i)
  | none=>true) &&
 (List.range ds.length).all fun i=>match ds[i]? with
  | some x=>x.guard.isNone && (match x.dst.slot with
   | some s=>(List.range ds.length).all fun j=>j == i || (match ds[j]? with
    | some y=>y.dst.slot != some s
    | none=>true)
   | none=>true) && (x.op.opds.filterMap Opd.slot).all fun s=>(List.range ds.length).all fun j=>(deps.getD i []).contains j || (match ds[j]? with
    | some y=>y.dst.slot != some s
    | none=>true)
  | none=>true
def strip (P:Program) (vs own:List Nat) (n:Nat):Code→DC
 | .skip=>.skip
 | .region _ ops draw=>match z1M P vs own n ops ops.toList with
  | some ds=>if draw then (if own.contains 1000000 && x2D vs 0 ops ds && P.follows .mixedOrders then .regs 0 ds else if (!own.contains 1000001 && !(own.contains 1000003 && ds.any fun d=>d.op.isCall && own.contains (9000000+d.dst.slot.getD 0))) && x8G vs ops ds && P.follows .mixedOrders then .regd ds else if own.contains 1000001 && x2D vs (ds.findIdx (fun d=>d.op.isCall && own.contains (7000000+d.dst.slot.getD 0))) ops ds && P.follows .mixedOrders then .regs (ds.findIdx (fun d=>d.op.isCall && own.contains (7000000+d.dst.slot.getD 0))) ds else if own.contains 1000003 && w7f vs n ops ds (w36 n own ops ds) && P.follows .mixedOrders then .rego ((w36 n own ops ds).dt ds) else if own.contains 1000004 && Region.noSelect ops && ds.all (·.tags vs) && w0e ops ds (z1W ops.toList []) && P.follows .mixedOrders then .rego (.alt .no (z31 ds (z1W ops.toList []))) else .bad) else .reg ds
  | none=>.bad
 | .seq a b=>.seq (strip P vs own n a) (strip P vs own n b)
 | .cond c a b=>.cond (z0Y vs c) (strip P vs own n a) (strip P vs own n b)
 | .block id b=>.block id (strip P vs own n b)
 | .loop b=>.loop (strip P vs own n b)
 | .exit id=>.exit id
 | .ret=>.ret
 | _=>.bad
inductive Ex where
 | norm
 | exit (id:Nat)
 | ret
 | pan (ch:List PanicEntry)
def er:Exit→Option Ex
 | .normal=>some .norm
 | .exit id=>some (.exit id)
 | .ret=>some .ret
 | .panic ch=>some (.pan ch)
 | _=>none
def w63 (F:FnD) (G:Cx) (Q:Ex→Fr→Hp→Prop) (e:Exit) (a:Act) (w:World):Prop :=
 ∃ L fr H de,R G L (den F.vs [] fr) (lkH H) a w∧er e=some de∧Q de fr H
def W (F:FnD) (c:DC) (Q:Ex→Fr→Hp→Prop) (fr:Fr) (H:Hp):Prop :=
 ∀ code,strip F.P F.vs F.own F.n code=c→∀(G:Cx) (L:Nat→Option Nat) (a:Act) (w:World),(G.n=F.n∧G.ok F.P)→R G L (den F.vs [] fr) (lkH H) a w→code.wp F.P (w63 F G Q) a w
section
variable {F:FnD} {Q:Ex→Fr→Hp→Prop} {fr:Fr} {H:Hp}
theorem z0D (h:Q .norm fr H):W F .skip Q fr H:=by
 intro code hc G L a w hn hR
 cases code<;>simp only [strip] at hc<;>first|(cases hc;done)|(repeat' split at hc)<;>first|(cases hc;done)|skip
 all_goals first|exact wp_skip ⟨L,fr,H,.norm,hR,rfl,h⟩|contradiction
theorem z0q {id:Nat} (h:Q (.exit id) fr H):W F (.exit id) Q fr H:=by
 intro code hc G L a w hn hR
 cases code<;>simp only [strip] at hc<;>first|(cases hc;done)|(repeat' split at hc)<;>first|(cases hc;done)|skip
 all_goals first|(cases hc;exact wp_exit ⟨L,fr,H,.exit _,hR,rfl,h⟩)|contradiction
theorem z0i (h:Q .ret fr H):W F .ret Q fr H:=by
 intro code hc G L a w hn hR
 cases code<;>simp only [strip] at hc<;>first|(cases hc;done)|(repeat' split at hc)<;>first|(cases hc;done)|skip
 all_goals first|exact wp_ret ⟨L,fr,H,.ret,hR,rfl,h⟩|contradiction
def w5a (F:FnD) (b:DC) (Q:Ex→Fr→Hp→Prop):Ex→Fr→Hp→Prop
 | .norm,fr,H=>W F b Q fr H
 | e,fr,H=>Q e fr H
theorem z0d {b c:DC} (h:W F b (w5a F c Q) fr H):W F (.seq b c) Q fr H:=by
 intro code hc G L a w hn hR
 cases code<;>simp only [strip] at hc<;>first|(cases hc;done)|(repeat' split at hc)<;>first|(cases hc;done)|skip
 all_goals try contradiction
 rename_i x y
 cases hc
 refine wp_seq (wp_mono (h x rfl G L a w hn hR) fun e a' w'=>?_)
 rintro ⟨L',fr',H',de,hR',he,hq⟩
 cases e<;>simp only [er,Option.some.injEq,reduceCtorEq] at he
 ·subst he;exact hq y rfl G L' a' w' hn hR'
 ·subst he;exact ⟨L',fr',H',_,hR',rfl,hq⟩
 ·subst he;exact ⟨L',fr',H',_,hR',rfl,hq⟩
 ·subst he;exact ⟨L',fr',H',_,hR',rfl,hq⟩
theorem z0g {ds:List DOper} (h:z1l F ds [] fr H fun _ fr H=>Q .norm fr H):W F (.reg ds) Q fr H:=by
 intro code hc G L a w hn hR
 cases code<;>simp only [strip] at hc<;>first|(cases hc;done)|skip
 rename_i id ops draw
 split at hc
 ·rename_i ds' hds
  split at hc
  ·(repeat' split at hc)<;>cases hc
  ·rename_i hd
   cases hc
   have hd':draw=false:=by simpa using hd
   subst hd'
   refine wp_region_list (z6T hn (fun te fr H L a w hR' hk=>?_) ops.toList ds hds [] fr H L a w hR h)
   refine ⟨L,fr,H,.norm,hR'.weak fun s=>?_,rfl,hk⟩
   simp only [den,lk]
   split
   ·exact .inl rfl
   ·exact .inr rfl
 ·cases hc
theorem z0l {c:Opd} {x y:DC} {b:Bool} (hc:ev [] fr c=.bool b) (ht:b=true→W F x Q fr H) (hf:b=false→W F y Q fr H):W F (.cond c x y) Q fr H:=by
 intro code hs G L a w hn hR
 cases code<;>simp only [strip] at hs<;>first|(cases hs;done)|(repeat' split at hs)<;>first|(cases hs;done)|skip
 all_goals try contradiction
 rename_i c' x' y'
 cases hs
 rw [y04] at hc
 have hv:=x98 (vs:=F.vs) hR c'
 rw [hc] at hv
 refine wp_cond_split hv.inv_bool (fun hb=>ht hb x' rfl G L a w hn hR) (fun hb=>hf hb y' rfl G L a w hn hR)
def z02 (id:Nat) (Q:Ex→Fr→Hp→Prop):Ex→Fr→Hp→Prop
 | .exit j,fr,H=>if j=id then Q .norm fr H else Q (.exit j) fr H
 | e,fr,H=>Q e fr H
theorem z0f {id:Nat} {b:DC} (h:W F b (z02 id Q) fr H):W F (.block id b) Q fr H:=by
 intro code hc G L a w hn hR
 cases code<;>simp only [strip] at hc<;>first|(cases hc;done)|(repeat' split at hc)<;>first|(cases hc;done)|skip
 all_goals try contradiction
 cases hc
 refine wp_block (wp_mono (h _ rfl G L a w hn hR) fun e a' w'=>?_)
 rintro ⟨L',fr',H',de,hR',he,hq⟩
 cases e<;>simp only [er,Option.some.injEq,reduceCtorEq] at he
 ·subst he;exact ⟨L',fr',H',_,hR',rfl,hq⟩
 ·subst he
  simp only [z02] at hq
  simp only [Exit.inBlock]
  split at hq
  ·rename_i e;rw [if_pos e];exact ⟨L',fr',H',_,hR',rfl,hq⟩
  ·rename_i e;rw [if_neg e];exact ⟨L',fr',H',_,hR',rfl,hq⟩
 ·subst he;exact ⟨L',fr',H',_,hR',rfl,hq⟩
 ·subst he;exact ⟨L',fr',H',_,hR',rfl,hq⟩
def z0y (fr:Fr):Fr→Prop
 | []=>True
 | (k,d)::r=>lk fr k=d∧z0y fr r
theorem y7A {fr:Fr}:∀{r:Fr},z0y fr r→∀s,lk r s=lk fr s∨lk r s=.undef
 | [],_,s=>.inr rfl
 | (k,d)::r,h,s=>by
  simp only [lk]
  split
  ·rename_i e;subst e;exact .inl h.1.symm
  ·exact y7A h.2 s
theorem x19 {c:DC} {fr':Fr} (hs:z0y fr fr') (h:W F c Q fr' H):W F c Q fr H:=by
 intro code hc G L a w hn hR
 refine h code hc G L a w hn (hR.weak fun s=>?_)
 simp only [den]
 split
 ·exact y7A hs s
 ·exact .inl rfl
theorem z6y {p:Nat→Prop} (h:∃n,p n):∃n,p n∧∀m,p m→n≤m:=by
 obtain ⟨n,hn⟩:=h
 induction n using Nat.strongRecOn with
 | _ n ih =>
  by_cases hm:∃m,m<n∧p m
  ·obtain ⟨m,h1,h2⟩:=hm
   exact ih m h1 h2
  ·refine ⟨n,hn,fun m hp=>?_⟩
   rcases Nat.lt_or_ge m n with h1|h1
   ·exact absurd ⟨m,h1,hp⟩ hm
   ·exact h1
theorem z0v {σ:Type} {b:DC} (fr':σ→Fr) (H':σ→Hp) (I:σ→Prop) (μ:σ→Nat) (s0:σ) (h0:I s0) (hf:z0y fr (fr' s0)) (hH:H=H' s0)
  (round:∀s,I s→W F b (fun e fr1 H1=>match e with
   | .norm=>∃s',I s'∧μ s'<μ s∧z0y fr1 (fr' s')∧H1=H' s'
   | e=>Q e fr1 H1) (fr' s) (H' s)):W F (.loop b) Q fr H:=by
 intro code hc G L a w hn hR
 cases code<;>simp only [strip] at hc<;>first|(cases hc;done)|(repeat' split at hc)<;>first|(cases hc;done)|skip
 all_goals try contradiction
 rename_i body
 cases hc
 subst hH
 have weak:∀{fr1 fr2:Fr} {H1:Hp} {L a w},z0y fr1 fr2→R G L (den F.vs [] fr1) (lkH H1) a w→R G L (den F.vs [] fr2) (lkH H1) a w:=by
  intro fr1 fr2 H1 L a w hs hR
  refine hR.weak fun s=>?_
  simp only [den]
  split
  ·exact y7A hs s
  ·exact .inl rfl
 classical
 let inv:Act→World→Prop:=fun a w=>∃s L,I s∧R G L (den F.vs [] (fr' s)) (lkH (H' s)) a w
 let mes:Act→World→Nat:=fun a w=>if h:∃n,∃s L,I s∧R G L (den F.vs [] (fr' s)) (lkH (H' s)) a w∧μ s=n then Classical.choose (z6y h) else 0
 have hmes:∀a w,inv a w→∃s L,I s∧R G L (den F.vs [] (fr' s)) (lkH (H' s)) a w∧μ s=mes a w:=by
  rintro a w ⟨s,L,h1,h2⟩
  have hex:∃n,∃s L,I s∧R G L (den F.vs [] (fr' s)) (lkH (H' s)) a w∧μ s=n:=⟨_,s,L,h1,h2,rfl⟩
  have:=(Classical.choose_spec (z6y hex)).1
  simp only [mes,dif_pos hex]
  exact this
 have hmin:∀a w s L,I s→R G L (den F.vs [] (fr' s)) (lkH (H' s)) a w→mes a w≤μ s:=by
  intro a w s L h1 h2
  have hex:∃n,∃s L,I s∧R G L (den F.vs [] (fr' s)) (lkH (H' s)) a w∧μ s=n:=⟨_,s,L,h1,h2,rfl⟩
  simp only [mes,dif_pos hex]
  exact (Classical.choose_spec (z6y hex)).2 _ ⟨s,L,h1,h2,rfl⟩
 refine wp_loop inv mes ⟨s0,L,h0,weak hf hR⟩ fun a w hI=>?_
 obtain ⟨s,L,hs,hRs,hm⟩:=hmes a w hI
 refine wp_mono (round s hs body rfl G L a w hn hRs) fun e a' w'=>?_
 rintro ⟨L',fr1,H1,de,hR',he,hq⟩
 cases e<;>simp only [er,Option.some.injEq,reduceCtorEq] at he
 ·subst he
  obtain ⟨s',hs',hlt,hsub,rfl⟩:=hq
  have hR2:=weak hsub hR'
  exact ⟨⟨s',L',hs',hR2⟩,Nat.lt_of_le_of_lt (hmin a' w' s' L' hs' hR2) (by omega)⟩
 ·subst he;exact ⟨L',fr1,H1,_,hR',rfl,hq⟩
 ·subst he;exact ⟨L',fr1,H1,_,hR',rfl,hq⟩
 ·subst he;exact ⟨L',fr1,H1,_,hR',rfl,hq⟩
end
end Go.Dat
