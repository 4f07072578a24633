/- Lemmas of the walk; no conditions beyond those that each states. -/
import Derived.WalkKit
import Derived.Below
import Derived.Lib.SliceRun
import Derived.Lib.Walk
import Derived.Deep.Draws
import Derived.Sort.Row
import Derived.Sort.Grow
import Derived.Lib.Repeat
import Derived.Lib.Join
import Derived.Lib.RowBridge
import Derived.Sort.EncStr
import Derived.Deep.Upon
import Derived.Shelf.Spec.SlicesInsertGrow
import Derived.Deep.RegionLaw
import Derived.Deep.LoopGhost
import Derived.Lib.SlicesDelete
import Derived.Sort.WalkB12
import Derived.Test.YtlcagndeidjobaaGreatDoorD3
set_option linter.unusedSimpArgs false
set_option linter.unusedVariables false
set_option linter.unnecessarySimpa false
set_option maxHeartbeats 4000000
namespace Go.Dat
open Go Go.RowKit
theorem z5u {w':World} {A:Nat→Prop} {base n sz:Nat} {e:TypeId} {v':Value} {vs:List Value} {xs:List DV} (hsz:sz≠0) (hA:∀b,A b→b<base) (h:w'.ownsRow base e sz v' n vs) (hl:xs.length=n*sz)
  (hvi:∀(k:Nat) d u,xs[k]? = some d→vs[k]? = some u→VI w' A d u):VI w' A (.sl sz xs) v':=by
 obtain ⟨hvl,⟨rfl,rfl⟩|⟨g,cap,cur,rfl,hg,hb,hnc,hcm,hcs,htk⟩⟩:=h
 ·have:xs=[]:=List.eq_nil_of_length_eq_zero (by simpa using hl)
  subst this
  exact .sl0 _ _ _
 ·by_cases h0:xs=[]
  ·subst h0
   have hn:n=0:=by
    rcases Nat.eq_zero_or_pos n with e|e
    ·exact e
    ·have:=Nat.mul_pos e (Nat.pos_of_ne_zero hsz);simp at hl;omega
   subst hn
   exact .sl0 _ _ _
  ·have hle:n*sz≤cur.size:=by rw [hcs];exact Nat.mul_le_mul_right _ hnc
   have hget:∀(k:Nat) d,xs[k]? = some d→∃u,cur[k]? = some u∧VI w' A d u:=by
    intro k d hk
    have hlt:k<n*sz:=by have:=(List.getElem?_eq_some_iff.1 hk).1;omega
    obtain ⟨u,hu⟩:=z0w (l:=cur) (k:=k) (by omega)
    refine ⟨u,hu,hvi k d u hk ?_⟩
    rw [←htk,List.getElem?_take,if_pos hlt];simpa using hu
   refine .sl (ad:=⟨g,0,none⟩) (fun k=>(cur[k]?).getD Go.undef) h0 hl hnc (fun h=>absurd (hA g h) (by omega)) (fun k d hk=>?_) (fun k d hk=>?_)
   ·obtain ⟨u,hu,_⟩:=hget k d hk
    rw [add_lit,Nat.zero_add,cell_of_row w' g _ cur e (0,0) hb,hu];rfl
   ·obtain ⟨u,hu,hv⟩:=hget k d hk
    rw [hu];exact hv
theorem z64 {w w':World} (h:Below w.heap.size w w'):Ext (fun _=>False) w w':=⟨h.os,h.tape,h.output,h.size,fun k hk _=>h.block k hk⟩
end Go.Dat
namespace Go.Dat
open Go
theorem R.weaker {G:Cx} {L:Nat→Option Nat} {σ σ':Nat→DV} {h:Heap} {a:Act} {w:World} (hR:R G L σ h a w) (hs:∀s v,V w L (Av G.S L) (σ s) v→V w L (Av G.S L) (σ' s) v):R G L σ' h a w :=
 { hR with slots:=fun s=>hs s _ (hR.slots s) }
theorem w2X {F:FnD} {c:DC} {Q:Ex→Fr→Hp→Prop} {fr:Fr} {H:Hp} (k sz:Nat) (hk:lk fr k=.nils) (h:W F c Q (z0W fr k (.sl sz [])) H):W F c Q fr H:=by
 intro code hc G L a w hn hR
 refine h code hc G L a w hn (hR.weaker fun s v hv=>?_)
 simp only [den] at hv ⊢
 split
 ·rename_i hs
  rw [if_pos hs] at hv
  rw [z9v]
  split
  ·rename_i e
   rw [e,hk] at hv
   rw [hv.inv_nils]
   exact .imm (.sl0 _ _ _)
  ·exact hv
 ·rename_i hs
  rw [if_neg hs] at hv
  exact hv
def nz (sz:Nat):DV→DV
 | .nils=>.sl sz []
 | d=>d
theorem z6p (b:Bool):(DV.bool b).cells? = some [.bool b]:=rfl
theorem y17 (s:Nat) (xs:List DV):(DV.sl s xs).cells? = some [.sl s xs]:=rfl
theorem z6q:DV.nils.cells? = some [.nils]:=rfl
theorem z8r (l:List UInt8):(DV.str l).cells? = some [.str l]:=rfl
theorem y3L (cs:List DV):(DV.agg cs).cells? = if cs.all DV.one then some cs else none:=rfl
theorem all_nil:([]:List DV).all DV.one=true:=rfl
theorem all_cons (d:DV) (r:List DV):(d::r).all DV.one=(d.one && r.all DV.one):=rfl
theorem y9A (b:Bool):(DV.bool b).one=true:=rfl
theorem x9k (s:Nat) (xs:List DV):(DV.sl s xs).one=true:=rfl
theorem y9B:DV.nils.one=true:=rfl
theorem x4Q (l:List UInt8):(DV.str l).one=true:=rfl
theorem x4P (o f:Nat):(DV.ptr o f).one=true:=rfl
theorem x4O (s o f l:Nat):(DV.osl s o f l).one=true:=rfl
theorem y4X {cells:List DV} {off:Nat} (b:Bool) (r:List (Nat × Nat × DV)):laid cells ((off,1,.bool b)::r)=if off+1≤cells.length then laid (cells.set off (.bool b)) r else none:=by simp [laid,z6p,spl]
theorem x4v {cells:List DV} {off:Nat} (s:Nat) (xs:List DV) (r:List (Nat × Nat × DV)):laid cells ((off,1,.sl s xs)::r)=if off+1≤cells.length then laid (cells.set off (.sl s xs)) r else none:=by simp [laid,y17,spl]
theorem y4Y {cells:List DV} {off:Nat} (r:List (Nat × Nat × DV)):laid cells ((off,1,.nils)::r)=if off+1≤cells.length then laid (cells.set off .nils) r else none:=by simp [laid,z6q,spl]
theorem y9p {cells:List DV} {off:Nat} (l:List UInt8) (r:List (Nat × Nat × DV)):laid cells ((off,1,.str l)::r)=if off+1≤cells.length then laid (cells.set off (.str l)) r else none:=by simp [laid,z8r,spl]
theorem z5V {cells:List DV} {off:Nat} (a b:DV) (r:List (Nat × Nat × DV)) (ha:a.one=true) (hb:b.one=true):laid cells ((off,2,.agg [a,b])::r)=if off+2≤cells.length then laid (cells.take off++[a,b]++cells.drop (off+2)) r else none:=by simp [laid,DV.cells?,ha,hb,spl]
theorem y5U {α:Type} (n:Nat) (x:α) (l:List α):(x::l).take (n+1)=x::l.take n:=rfl
theorem y4i {α:Type} (n:Nat) (x:α) (l:List α):(x::l).drop (n+1)=l.drop n:=rfl
theorem cS:type_of% (And.intro @z6p (And.intro @y17 (And.intro @z6q (And.intro @z8r (And.intro @y3L (And.intro @all_nil (And.intro @all_cons (And.intro @y9A (And.intro @x9k (And.intro @y9B (And.intro @x4Q (And.intro @x4P (And.intro @x4O (And.intro @y4X (And.intro @x4v (And.intro @y4Y (And.intro @y9p (And.intro @z5V (And.intro (@y5U DV) (And.intro (@y4i DV) (And.intro @List.take_zero.{0} (And.intro @List.drop_zero.{0} (And.intro @List.take_nil.{0} (And.intro @List.drop_nil.{0} (And.intro @List.nil_append.{0} (And.intro @List.cons_append.{0} (And.intro @List.append_nil.{0} (And.intro @Bool.and_self @Bool.and_true)))))))))))))))))))))))))))) :=
 And.intro @z6p (And.intro @y17 (And.intro @z6q (And.intro @z8r (And.intro @y3L (And.intro @all_nil (And.intro @all_cons (And.intro @y9A (And.intro @x9k (And.intro @y9B (And.intro @x4Q (And.intro @x4P (And.intro @x4O (And.intro @y4X (And.intro @x4v (And.intro @y4Y (And.intro @y9p (And.intro @z5V (And.intro (@y5U DV) (And.intro (@y4i DV) (And.intro @List.take_zero.{0} (And.intro @List.drop_zero.{0} (And.intro @List.take_nil.{0} (And.intro @List.drop_nil.{0} (And.intro @List.nil_append.{0} (And.intro @List.cons_append.{0} (And.intro @List.append_nil.{0} (And.intro @Bool.and_self @Bool.and_true)))))))))))))))))))))))))))
theorem y7Q {h:Heap} (b:Bool) (sz:Nat):Exp h (.agg [.bool b,.nils]) (.agg [.bool b,.sl sz []]):=.agg rfl fun k d r h1 h2=>by
 match k with
 | 0=>simp at h1 h2;subst h1;subst h2;exact .imm rfl
 | 1=>simp at h1 h2;subst h1;subst h2;exact .nils sz
 | k+2=>simp at h1
theorem z76 {n m j k i o p:Nat} {r s t:DV} {fr:Fr} {H:Hp} {cs cs2:List DV} (h1:lk fr j=.ptr o 0) (h2:lkH H o=some cs) (h3:cs.length=n) (h4:lk fr k=.ptr p 0) (h5:lkH H p=some cs2) (h6:cs2.length=m)
  (e1:Exp (lkH H) (.agg cs) r) (e2:Exp (lkH H) (.agg cs2) s) (e3:Exp (lkH H) (lk fr i) t):y7T [.cn n j,.cn m k,.t i] (.tup [r,s,t]) .ret fr H:=by
 refine ⟨.inr rfl,[.agg cs,.agg cs2,lk fr i],?_,?_⟩
 ·simp [z4y,z9N,h1,h2,h3,h4,h5,h6,List.take_of_length_le (Nat.le_of_eq h3),List.take_of_length_le (Nat.le_of_eq h6)]
 ·exact .tup rfl fun q d x hd hx=>by
   match q with
   | 0=>simp at hd hx;subst hd;subst hx;exact e1
   | 1=>simp at hd hx;subst hd;subst hx;exact e2
   | 2=>simp at hd hx;subst hd;subst hx;exact e3
   | q+3=>simp at hd
end Go.Dat
namespace Go.Dat
open Go Go.RowKit
theorem x56 {w:World} {k:Nat} {os:Array Obj} {S:Nat→Prop}:Ext S w (Go.Sort.grow (w.drewN k) os) :=
 ⟨rfl,rfl,rfl,by simp [Go.Sort.grow,World.drewN],fun b hb _=>by simp [Go.Sort.grow,World.drewN,Array.getElem?_append_left hb]⟩
theorem y55 {P:Program} {f g:Nat} {n:Int} {l:List UInt8} (hg:P.globalNamed tabName=some g)
  (h:∀w,Lib.TabIs P w tabName .u64 Lib.pow10Tab→Calls P f #[.int .i64 n] w fun e w'=>e=.returned (.string ⟨l.toArray⟩)∧∃k os,w'=Go.Sort.grow (w.drewN k) os):z0c P f [.int .i64 n] (.str l):=by
 intro A w us hT hA hs hv
 obtain ⟨us⟩:=us
 match us,hs with
 | [v],_ =>
  have h0:=hv 0 _ v rfl rfl
  cases h0
  refine (h w (hT.1 g hg).2).mono ?_
  rintro e w' ⟨rfl,k,os,rfl⟩
  exact ⟨_,rfl,.str _,x56⟩
end Go.Dat
namespace Go.Dat
open Go
theorem z5a {h:Heap} (b:Bool) (sz s:Nat) (xs:List DV) (hx:(DV.sl s xs).rf=true):Exp h (.agg [.bool b,.sl s xs,.nils]) (.agg [.bool b,.sl s xs,.sl sz []]):=.agg rfl fun k d r h1 h2=>by
 match k with
 | 0=>simp at h1 h2;subst h1;subst h2;exact .imm rfl
 | 1=>simp at h1 h2;subst h1;subst h2;exact .imm hx
 | 2=>simp at h1 h2;subst h1;subst h2;exact .nils sz
 | k+3=>simp at h1
theorem x13 {h:Heap} (b:Bool) (sz s:Nat):Exp h (.agg [.bool b,.nils,.nils]) (.agg [.bool b,.sl sz [],.sl s []]):=.agg rfl fun k d r h1 h2=>by
 match k with
 | 0=>simp at h1 h2;subst h1;subst h2;exact .imm rfl
 | 1=>simp at h1 h2;subst h1;subst h2;exact .nils sz
 | 2=>simp at h1 h2;subst h1;subst h2;exact .nils s
 | k+3=>simp at h1
theorem y9m {cells:List DV} {off:Nat} (b:Bool) (s:Nat) (xs:List DV) (r:List (Nat × Nat × DV)):laid cells ((off,2,.agg [.bool b,.sl s xs])::r)=if off+2≤cells.length then laid (cells.take off++[.bool b,.sl s xs]++cells.drop (off+2)) r else none:=z5V _ _ _ rfl rfl
theorem y9l {cells:List DV} {off:Nat} (b:Bool) (r:List (Nat × Nat × DV)):laid cells ((off,2,.agg [.bool b,.nils])::r)=if off+2≤cells.length then laid (cells.take off++[.bool b,.nils]++cells.drop (off+2)) r else none:=z5V _ _ _ rfl rfl
theorem cT:type_of% (And.intro @y9m @y9l):=And.intro @y9m @y9l
theorem y57 {n j k o:Nat} {r s:DV} {fr:Fr} {H:Hp} {cs:List DV} (h1:lk fr j=.ptr o 0) (h2:lkH H o=some cs) (h3:cs.length=n)
  (e1:Exp (lkH H) (.agg cs) r) (e2:Exp (lkH H) (lk fr k) s):y7T [.cn n j,.t k] (.tup [r,s]) .ret fr H:=by
 refine ⟨.inr rfl,[.agg cs,lk fr k],?_,?_⟩
 ·simp [z4y,z9N,h1,h2,h3,List.take_of_length_le (Nat.le_of_eq h3)]
 ·exact .tup rfl fun q d x hd hx=>by
   match q with
   | 0=>simp at hd hx;subst hd;subst hx;exact e1
   | 1=>simp at hd hx;subst hd;subst hx;exact e2
   | q+2=>simp at hd
mutual
def rn (f:Nat→Option Nat):DV→DV
 | .ptr o off=>match f o with|some p=>.ptr p off|none=>.undef
 | .osl sz o off n=>match f o with|some p=>.osl sz p off n|none=>.undef
 | .agg cs=>.agg (rnL f cs)
 | .tup cs=>.tup (rnL f cs)
 | d=>d
def rnL (f:Nat→Option Nat):List DV→List DV
 | []=>[]
 | d::r=>rn f d::rnL f r
end
theorem w43 (f:Nat→Option Nat) (d:DV) (h:d.sim=true):rn f d=d:=by cases d<;>first|(cases h;done)|simp only [rn]
theorem y27 (f:Nat→Option Nat):∀cs:List DV,rnL f cs=cs.map (rn f)
 | []=>rfl
 | d::r=>by simp [rnL,y27 f r]
theorem y28 (f:Nat→Option Nat):rn f .undef=.undef:=by unfold rn;rfl
theorem VI.rf {w:World} {A:Nat→Prop} {d:DV} {v:Value} (h:VI w A d v):d.rf=true:=by
 induction h with
 | @agg cs vs hl _ ih =>
  rw [DV.rf_agg,List.all_eq_true]
  intro d hd
  obtain ⟨k,hk⟩:=List.mem_iff_getElem?.1 hd
  obtain ⟨v,hv⟩:=z0w (l:=vs) (k:=k) (by have:=(List.getElem?_eq_some_iff.1 hk).1;omega)
  exact ih k d v hk hv
 | @tup cs vs hl _ ih =>
  rw [DV.rf_tup,List.all_eq_true]
  intro d hd
  obtain ⟨k,hk⟩:=List.mem_iff_getElem?.1 hd
  obtain ⟨v,hv⟩:=z0w (l:=vs) (k:=k) (by have:=(List.getElem?_eq_some_iff.1 hk).1;omega)
  exact ih k d v hk hv
 | _=>rfl
mutual
theorem z5m (f:Nat→Option Nat):∀d:DV,d.rf=true→rn f d=d
 | .ptr o off,h=>by simp [DV.rf] at h
 | .osl sz o off n,h=>by simp [DV.rf] at h
 | .agg cs,h=>by rw [DV.rf] at h;rw [rn,x5o f cs h]
 | .tup cs,h=>by rw [DV.rf] at h;rw [rn,x5o f cs h]
 | .undef,_=>by rw [rn]<;>(intros;contradiction)
 | .int ..,_=>by rw [rn]<;>(intros;contradiction)
 | .bool _,_=>by rw [rn]<;>(intros;contradiction)
 | .str _,_=>by rw [rn]<;>(intros;contradiction)
 | .nilp,_=>by rw [rn]<;>(intros;contradiction)
 | .nils,_=>by rw [rn]<;>(intros;contradiction)
 | .nili,_=>by rw [rn]<;>(intros;contradiction)
 | .fn _,_=>by rw [rn]<;>(intros;contradiction)
 | .sl ..,_=>by rw [rn]<;>(intros;contradiction)
 | .el ..,_=>by rw [rn]<;>(intros;contradiction)
 | .iface ..,_=>by rw [rn]<;>(intros;contradiction)
 | .clo ..,_=>by rw [rn]<;>(intros;contradiction)
 | .raw ..,_=>by rw [rn]<;>(intros;contradiction)
theorem x5o (f:Nat→Option Nat):∀cs:List DV,DV.rfL cs=true→rnL f cs=cs
 | [],_=>rfl
 | d::r,h=>by
  rw [DV.rfL,Bool.and_eq_true] at h
  rw [rnL,z5m f d h.1,x5o f r h.2]
end
theorem V.rn {w:World} {L L':Nat→Option Nat} {A A':Nat→Prop} (f:Nat→Option Nat) {d:DV} {v:Value} (hA:∀b,A' b→A b) (hL:∀o p b,f o=some p→L o=some b→L' p=some b)
  (h:V w L A d v):V w L' A' (Dat.rn f d) v:=by
 induction h with
 | imm h =>
  rw [z5m f _ h.rf]
  exact .imm (h.mono fun b _ hb=>⟨rfl,fun h'=>hb (hA b h')⟩)
 | @ptr o off b h =>
  rw [Dat.rn]
  split
  ·rename_i p hp;exact .ptr (hL _ _ _ hp h)
  ·exact .imm (.undef _)
 | @osl sz o off n c b m T h hc hs hm =>
  rw [Dat.rn]
  split
  ·rename_i p hp;exact .osl (hL _ _ _ hp h) hc hs hm
  ·exact .imm (.undef _)
 | osl0 sz o off =>
  rw [Dat.rn]
  split
  ·exact .osl0 _ _ _
  ·exact .imm (.undef _)
 | agg hl _ ih =>
  rw [Dat.rn,y27]
  refine .agg (by simpa using hl) fun k d v h1 h2=>?_
  rw [List.getElem?_map,zO2] at h1
  obtain ⟨d0,hd0,rfl⟩:=h1
  exact ih k d0 v hd0 h2
 | tup hl _ ih =>
  rw [Dat.rn,y27]
  refine .tup (by simpa using hl) fun k d v h1 h2=>?_
  rw [List.getElem?_map,zO2] at h1
  obtain ⟨d0,hd0,rfl⟩:=h1
  exact ih k d0 v hd0 h2
def nmH (H:Hp) (o:Nat):Option Nat:=if (lkH H o).isSome then some o else none
theorem z4a {F:FnD} {c:DC} {Q:Ex→Fr→Hp→Prop} {fr:Fr} {H:Hp} (k sz o:Nat) (hk:lk fr k=.nils) (ho:lkH H o=none) (h:W F c Q (z0W fr k (.osl sz o 0 0)) (z0N H o []) ):W F c Q fr H:=by
 intro code hc G L a w hn hR
 have hLo:=hR.lNone ho
 have hR':R G L (den F.vs [] (z0W fr k (.osl sz o 0 0))) (lkH (z0N H o [])) a w:=by
  refine { hR with slots:=fun s=>?_,heap:=⟨fun p b hp=>?_,fun p c hc=>?_,hR.heap.inj,hR.heap.notS,hR.heap.ty⟩ }
  ·have hv:=hR.slots s
   simp only [den] at hv ⊢
   split
   ·rename_i hs
    rw [if_pos hs] at hv
    rw [z9v]
    split
    ·rename_i e
     subst e
     rw [hk] at hv
     rw [hv.inv_nils]
     exact .osl0 _ _ _
    ·exact hv
   ·rename_i hs
    rw [if_neg hs] at hv
    exact hv
  ·rw [z1f]
   split
   ·exact ⟨_,rfl⟩
   ·exact hR.heap.dom p b hp
  ·rw [z1f] at hc
   split at hc
   ·rename_i e;subst e;cases hc;exact .inl ⟨hLo,rfl⟩
   ·exact hR.heap.obj p c hc
 exact h code hc G L a w hn hR'
theorem z8l {F:FnD} {c:DC} {Q:Ex→Fr→Hp→Prop} {fr:Fr} {H:Hp} (p i sz o:Nat) {cells:List DV} (hp:lkH H p=some cells) (hi:cells[i]? = some .nils) (ho:lkH H o=none)
  (h:W F c Q fr (z0N (z0N H p (cells.set i (.osl sz o 0 0))) o [])):W F c Q fr H:=by
 intro code hc G L a w hn hR
 have hLo:=hR.lNone ho
 have hpo:p≠o:=by rintro rfl;rw [hp] at ho;cases ho
 have hR':R G L (den F.vs [] fr) (lkH (z0N (z0N H p (cells.set i (.osl sz o 0 0))) o [])) a w:=by
  refine { hR with heap:=⟨fun q b hq=>?_,fun q c hc=>?_,hR.heap.inj,hR.heap.notS,hR.heap.ty⟩ }
  ·rw [z1f,z1f]
   split
   ·exact ⟨_,rfl⟩
   ·split
    ·exact ⟨_,rfl⟩
    ·exact hR.heap.dom q b hq
  ·rw [z1f,z1f] at hc
   split at hc
   ·rename_i e;subst e;cases hc;exact .inl ⟨hLo,rfl⟩
   ·split at hc
    ·rename_i e
     subst e
     cases hc
     rcases hR.heap.obj q cells hp with ⟨h1,h2⟩|⟨b,cs,T,h1,h2,h3,h4⟩
     ·rw [h2] at hi;simp at hi
     ·refine .inr ⟨b,cs,T,h1,h2,by simpa using h3,fun j d v hd hv=>?_⟩
      rw [List.getElem?_set] at hd
      split at hd
      ·rename_i e
       subst e
       split at hd
       ·cases hd
        have:=h4 _ _ v hi hv
        rw [this.inv_nils]
        exact .osl0 _ _ _
       ·cases hd
      ·exact h4 j d v hd hv
    ·exact hR.heap.obj q c hc
 exact h code hc G L a w hn hR'
def WC (F:FnD) (code:Code) (Q:Ex→Fr→Hp→Prop) (fr:Fr) (H:Hp):Prop :=
 ∀ (G:Cx) (L:Nat→Option Nat) (a:Act) (w:World),(∀o,G.K o=none)→(G.n=F.n∧G.ok F.P)→R G L (den F.vs [] fr) (lkH H) a w→code.wp F.P (w63 F G Q) a w
theorem x9L {F:FnD} {code:Code} {c:DC} {Q:Ex→Fr→Hp→Prop} {fr:Fr} {H:Hp} (hc:strip F.P F.vs F.own F.n code=c) (h:W F c Q fr H):WC F code Q fr H :=
 fun G L a w _ hn hR=>h code hc G L a w hn hR
def w7C (F:FnD) (b:Code) (Q:Ex→Fr→Hp→Prop):Ex→Fr→Hp→Prop
 | .norm,fr,H=>WC F b Q fr H
 | e,fr,H=>Q e fr H
theorem x18 {F:FnD} {x y:Code} {Q:Ex→Fr→Hp→Prop} {fr:Fr} {H:Hp} (h:WC F x (w7C F y Q) fr H):WC F (.seq x y) Q fr H:=by
 intro G L a w hK hn hR
 refine wp_seq (wp_mono (h G L a w hK hn hR) fun e a' w'=>?_)
 rintro ⟨L',fr',H',de,hR',he,hq⟩
 cases e<;>simp only [er,Option.some.injEq,reduceCtorEq] at he
 ·subst he;exact hq G L' a' w' hK hn hR'
 ·subst he;exact ⟨L',fr',H',_,hR',rfl,hq⟩
 ·subst he;exact ⟨L',fr',H',_,hR',rfl,hq⟩
 ·subst he;exact ⟨L',fr',H',_,hR',rfl,hq⟩
theorem x0e {F:FnD} {f:Nat} {fn:Func} {code:Code} {rv:List RV} {args:List DV} {r:DV} (hfn:F.P.funcs[f]? = some fn) (hb:fn.body=some code) (hnt:fn.ntmps=F.n)
  (hrv:y0s F.P fn.results.toList=some rv) (hrs:z9O F.vs fn.results.toList=true) (hn:args.length≤F.n)
  (h:WC F code (y7T rv r) (z0u 0 args) []):z0c F.P f args r:=by
 intro A w us hT hA hs hv
 refine calls_of_wp hfn hb ?_
 have hR:R ⟨A,w,fun _=>False,F.n,fun _=>none,[]⟩ (fun _=>none) (den F.vs [] (z0u 0 args)) (lkH []) { tmps:=us++Array.replicate (fn.ntmps - us.size) undef,defers:=[] } w:=by
  refine ⟨by simp;omega,rfl,fun s=>?_,⟨(by intro o b h;cases h),(by intro o c h;cases h),(by intro o p b h;cases h),(by intro o b h;cases h),(by intro o b h;cases h)⟩,Ext.refl _ _,hA,(by intro o b h;cases h),(by intro o b h;cases h),fun _ _=>rfl⟩
  simp only [den,lk]
  split
  ·rw [z4K,if_pos (Nat.zero_le _),Nat.sub_zero]
   cases hk:args[s]? with
   | none=>rw [zO1,hk];exact .imm (.undef _)
   | some d =>
    have hlt:=(List.getElem?_eq_some_iff.1 hk).1
    obtain ⟨u,hu⟩:=z0w (l:=us) (k:=s) (by omega)
    rw [zO1,hk,Array.getD_eq_getD_getElem?,Array.getElem?_append_left (by omega),hu]
    refine .imm ((hv s d u hk hu).mono fun b _ hb=>⟨rfl,?_⟩)
    rintro (h1|⟨o,h1⟩)
    ·exact hb h1
    ·cases h1
  ·exact .imm (.undef _)
 refine wp_mono (h ⟨A,w,fun _=>False,F.n,fun _=>none,[]⟩ _ _ _ (fun _=>rfl) ⟨rfl,hT,fun _ h=>False.elim h⟩ hR) fun e a' w'=>?_
 rintro ⟨L,fr,H,de,hR',he,hde,ds,hds,hexp⟩
 obtain ⟨v,hrun,hV⟩:=z2W (P:=F.P) fn hR' hrv hds hrs
 have hvi:=hexp.VI hR'.heap hV
 have hfin:∃u,Ending.returned v=.returned u∧VI w' A r u∧Ext (fun _=>False) w w':=⟨v,rfl,hvi,hR'.ext⟩
 cases e<;>simp only [er,Option.some.injEq,reduceCtorEq] at he
 ·exact ⟨hR'.defers,v,hrun,hfin⟩
 ·subst he;rcases hde with e|e<;>cases e
 ·exact ⟨hR'.defers,v,hrun,hfin⟩
 ·subst he;rcases hde with e|e<;>cases e
def y7S (P:Program) (f:Nat) (args:List DV) (H:Hp) (Q:DV→Hp→Prop):Prop :=
 ∀ (S:Nat→Prop) (L:Nat→Option Nat) (w:World) (us:Array Value),Tab P w→(∀o b,L o=some b→y3C P b)→HOK w S L (lkH H)→(∀x,S x→x<w.heap.size)→us.size=args.length →
  (∀(k:Nat) d v,args[k]? = some d→us[k]? = some v→V w L (Av S L) d v) →
  Calls P f us w fun e w'=>∃v L' r H',Q r H'∧e=.returned v∧HOK w' S L' (lkH H')∧V w' L' (Av S L') r v∧Ext (fun x=>∃o,L o=some x) w w' ∧
   (∀o b,L o=some b→1048576≤o→L' o=some b)∧(∀o b,L' o=some b→(∃p,L p=some b)∨w.heap.size≤b)∧(∀b,b<w.heap.size→w'.shape? b=w.shape? b)
def x9J (rv:List RV) (H0:Hp) (Q:DV→Hp→Prop) (e:Ex) (fr:Fr) (H:Hp):Prop :=
 (e=.norm∨e=.ret)∧∃ds r H',Q r H'∧(∀o,1048576≤o→(lkH H0 o).isSome=true→(lkH H' o).isSome=true)∧z4y fr H rv=some ds∧rn (nmH H') (y5a ds)=r∧∀o c,lkH H' o=some c→∃c0,lkH H o=some c0∧c0.map (rn (nmH H'))=c
theorem z8i {F:FnD} {f:Nat} {c:DC} {rv:List RV} {args:List DV} {H:Hp} {Q:DV→Hp→Prop} (hf:IsFn F f c rv) (hn:args.length≤F.n)
  (h:W F c (x9J rv H Q) (z0u 0 args) H):y7S F.P f args H Q:=by
 obtain ⟨fn,code,hfn,hb,hnt,hst,hrv,hrs⟩:=hf.ex
 intro S L w us hT hTb hH hA hs hv
 refine calls_of_wp hfn hb ?_
 have hlt:∀o b,L o=some b→b<w.heap.size:=fun o b ho=>hH.lt ho
 have hR:R ⟨S,w,fun x=>∃o,L o=some x,F.n,fun o=>if 1048576≤o then L o else none,[]⟩ L (den F.vs [] (z0u 0 args)) (lkH H) { tmps:=us++Array.replicate (fn.ntmps - us.size) undef,defers:=[] } w:=by
  refine ⟨by simp;omega,rfl,fun s=>?_,hH,Ext.refl _ _,hA,fun o x ho=>.inl ⟨o,ho⟩,fun o x ho=>?_,fun _ _=>rfl⟩
  ·simp only [den,lk]
   split
   ·rw [z4K,if_pos (Nat.zero_le _),Nat.sub_zero]
    cases hk:args[s]? with
    | none=>rw [zO1,hk];exact .imm (.undef _)
    | some d =>
     have hlt:=(List.getElem?_eq_some_iff.1 hk).1
     obtain ⟨u,hu⟩:=z0w (l:=us) (k:=s) (by omega)
     rw [zO1,hk,Array.getD_eq_getD_getElem?,Array.getElem?_append_left (by omega),hu]
     exact hv s d u hk hu
   ·exact .imm (.undef _)
  ·simp only at ho
   split at ho
   ·rename_i h1;exact ⟨ho,h1⟩
   ·cases ho
 refine wp_mono (h code hst ⟨S,w,fun x=>∃o,L o=some x,F.n,fun o=>if 1048576≤o then L o else none,[]⟩ _ _ _ ⟨rfl,hT,fun x hx=>(show ∃o,L o=some x from hx).elim fun o ho=>hTb o x ho⟩ hR) fun e a' w'=>?_
 rintro ⟨L1,fr,H1,de,hR',he,hde,ds,r,H',hQ,hdom,hds,hr,hcells⟩
 obtain ⟨v,hrun,hV⟩:=z2W (P:=F.P) fn hR' hrv hds hrs
 have hsub:∀o b,(nmH H' o).bind L1=some b→lkH H' o≠none∧L1 o=some b:=fun o b ho=>by
  unfold nmH at ho
  split at ho
  ·rename_i h1;exact ⟨fun e=>(by rw [e] at h1;cases h1),ho⟩
  ·cases ho
 have hAv:∀b,Av S (fun o=>(nmH H' o).bind L1) b→Av S L1 b:=by
  rintro b (h1|⟨o,h1⟩)
  ·exact .inl h1
  ·exact .inr ⟨o,(hsub o b h1).2⟩
 have hVr:∀d v,V w' L1 (Av S L1) d v→V w' (fun o=>(nmH H' o).bind L1) (Av S (fun o=>(nmH H' o).bind L1)) (rn (nmH H') d) v:=fun d v hd =>
  hd.rn (nmH H') hAv fun o p b h1 h2=>by
   have e:o=p:=by
    unfold nmH at h1;split at h1
    ·simpa using h1
    ·cases h1
   subst e
   show (nmH H' o).bind L1=some b
   rw [h1];exact h2
 have hfin:∃u L' r H',Q r H'∧Ending.returned v=.returned u∧HOK w' S L' (lkH H')∧V w' L' (Av S L') r u∧Ext (fun x=>∃o,L o=some x) w w' ∧
   (∀o b,L o=some b→1048576≤o→L' o=some b)∧(∀o b,L' o=some b→(∃p,L p=some b)∨w.heap.size≤b)∧(∀b,b<w.heap.size→w'.shape? b=w.shape? b):=by
  refine ⟨v,fun o=>(nmH H' o).bind L1,r,H',hQ,rfl,⟨?_,?_,?_,?_,?_⟩,?_,hR'.ext,?_,?_,fun b hb=>hR'.shp b hb⟩
  ·intro o b ho
   have h1:=(hsub o b ho).1
   cases h2:lkH H' o with
   | none=>exact absurd h2 h1
   | some c=>exact ⟨c,rfl⟩
  ·intro o c hc
   obtain ⟨c0,h1,rfl⟩:=hcells o c hc
   have e1:nmH H' o=some o:=by unfold nmH;rw [hc];rfl
   rcases hR'.heap.obj o c0 h1 with ⟨h2,h3⟩|⟨b,cs,T,h2,h3,h4,h5⟩
   ·exact .inl ⟨by rw [e1];exact h2,by rw [h3];rfl⟩
   ·refine .inr ⟨b,cs,T,by rw [e1];exact h2,h3,by simpa using h4,fun k d u hk hu=>?_⟩
    rw [List.getElem?_map,zO2] at hk
    obtain ⟨d0,hd0,rfl⟩:=hk
    exact hVr _ _ (h5 k d0 u hd0 hu)
  ·intro o p b ho hp
   exact hR'.heap.inj o p b (hsub o b ho).2 (hsub p b hp).2
  ·intro o b ho
   exact hR'.heap.notS o b (hsub o b ho).2
  ·intro o b ho
   exact hR'.heap.ty o b (hsub o b ho).2
  ·rw [←hr];exact hVr _ _ hV
  ·intro o b ho h1
   have h2:=(hR'.keep o b (by simp only [if_pos h1];exact ho)).1
   have h3:(lkH H o).isSome=true:=by
    obtain ⟨c,hc⟩:=hH.dom o b ho
    rw [hc];rfl
   have e1:nmH H' o=some o:=by unfold nmH;rw [if_pos (hdom o h1 h3)]
   show (nmH H' o).bind L1=some b
   rw [e1];exact h2
  ·intro o b ho
   exact hR'.own o b (hsub o b ho).2
 cases e<;>simp only [er,Option.some.injEq,reduceCtorEq] at he
 ·exact ⟨hR'.defers,v,hrun,hfin⟩
 ·subst he;rcases hde with e|e<;>cases e
 ·exact ⟨hR'.defers,v,hrun,hfin⟩
 ·subst he;rcases hde with e|e<;>cases e
def pgN (H:Hp) (f:Nat→Option Nat) (o:Nat):Option Nat:=match f o with
 | some q=>if q<1048576∧(lkH H o).isSome=true then none else some o
 | none=>some o
theorem z5x {F:FnD} {os:List DOper} {dst:Dst} {f:Nat} {ds:List DV} {te fr:Fr} {H:Hp} {K:Fr→Fr→Hp→Prop} {Q:DV→Hp→Prop} (hp:F.pure=false) (fwd back:Nat→Option Nat)
  (hfb:∀p q,fwd p=some q↔back q=some p) (hkp:∀p q,fwd p=some q→1048576≤p→1048576≤q) (hty:∀p q,fwd p=some q→w2K p q) {Hc:Hp}
  (hH:∀q,lkH Hc q=(back q).bind fun p=>(lkH H p).map (List.map (rn fwd))) (hc:y7S F.P f (ds.map (rn fwd)) Hc Q)
  (hK:∀r Hc',Q r Hc'→∃H2,(∀p,lkH H2 p=match fwd p with|some q=>(lkH Hc' q).map (List.map (rn back))|none=>(lkH H p).map (List.map (rn (pgN H fwd)))) ∧
   z1l F os (dst.onT (z0J (rn (pgN H fwd)) te) (rn back r)) (dst.onX (z0J (rn (pgN H fwd)) fr) (rn back r)) H2 K):z4d F os dst f ds te fr H K:=by
 refine z6n hp ?_
 intro G L a w us hG hR hs hv
 obtain ⟨Lc,hLc⟩:∃Lc:Nat→Option Nat,Lc=fun q=>(back q).bind L:=⟨_,rfl⟩
 have hLc1:∀q b,Lc q=some b→∃p,back q=some p∧L p=some b:=fun q b h=>by
  rw [hLc] at h
  simp only [zO3] at h
  exact h
 have hLc2:∀p q b,fwd p=some q→L p=some b→Lc q=some b:=fun p q b h1 h2=>by
  rw [hLc]
  simp only [(hfb p q).1 h1,Option.bind_some,h2]
 obtain ⟨Sc,hSc⟩:∃Sc:Nat→Prop,Sc=fun x=>Av G.S L x∧¬∃q,Lc q=some x:=⟨_,rfl⟩
 have hAvc:∀x,Av Sc Lc x↔Av G.S L x:=fun x=>by
  unfold Av
  rw [hSc]
  constructor
  ·rintro (h|⟨q,h⟩)
   ·exact h.1
   ·obtain ⟨p,_,h2⟩:=hLc1 q x h
    exact .inr ⟨p,h2⟩
  ·intro h
   by_cases e:∃q,Lc q=some x
   ·exact .inr e
   ·exact .inl ⟨h,e⟩
 have hlt:∀x,Av G.S L x→x<w.heap.size:=by
  rintro x (h|⟨p,h⟩)
  ·exact hR.sLt x h
  ·exact hR.heap.lt h
 have hGS:∀x,G.S x→Sc x:=fun x hx=>by
  rw [hSc]
  refine ⟨.inl hx,?_⟩
  rintro ⟨q,hq⟩
  obtain ⟨p,_,h2⟩:=hLc1 q x hq
  exact hR.heap.notS p x h2 hx
 have hVf:∀d v,V w L (Av G.S L) d v→V w Lc (Av Sc Lc) (rn fwd d) v:=fun d v hd=>hd.rn fwd (fun b hb=>(hAvc b).1 hb) fun o p b h1 h2=>hLc2 o p b h1 h2
 have hHc:HOK w Sc Lc (lkH Hc):=by
  refine ⟨fun q b hq=>?_,fun q c hq=>?_,fun q q' b h1 h2=>?_,fun q b hq hs=>?_,fun q b hq=>?_⟩
  ·obtain ⟨p,h1,h2⟩:=hLc1 q b hq
   obtain ⟨c,h3⟩:=hR.heap.dom p b h2
   exact ⟨_,by rw [hH,h1,Option.bind_some,h3];rfl⟩
  ·rw [hH] at hq
   simp only [zO3,zO2] at hq
   obtain ⟨p,h1,c0,h2,rfl⟩:=hq
   have e:Lc q=L p:=by rw [hLc];simp only [h1,Option.bind_some]
   rcases hR.heap.obj p c0 h2 with ⟨h3,h4⟩|⟨b,cs,T,h3,h4,h5,h6⟩
   ·exact .inl ⟨by rw [e,h3],by rw [h4];rfl⟩
   ·refine .inr ⟨b,cs,T,by rw [e,h3],h4,by simpa using h5,fun k d v hk hu=>?_⟩
    rw [List.getElem?_map,zO2] at hk
    obtain ⟨d0,hd0,rfl⟩:=hk
    exact hVf _ _ (h6 k d0 v hd0 hu)
  ·obtain ⟨p,h3,h4⟩:=hLc1 q b h1
   obtain ⟨p',h5,h6⟩:=hLc1 q' b h2
   have e:=hR.heap.inj p p' b h4 h6
   subst e
   have h7:=(hfb p q).2 h3
   rw [(hfb p q').2 h5] at h7
   exact (Option.some.inj h7).symm
  ·rw [hSc] at hs
   exact hs.2 ⟨q,hq⟩
  ·obtain ⟨p,h1,h2⟩:=hLc1 q b hq
   exact (hR.heap.ty p b h2).rn (hty p q ((hfb p q).2 h1))
 have hown:∀q b,Lc q=some b→∃p,L p=some b:=fun q b h=>(hLc1 q b h).elim fun p h=>⟨p,h.2⟩
 refine (hc Sc Lc w us (hG.tab hR) (fun q b h=>(hown q b h).elim fun p h=>hG.own hR h) hHc (fun x hx=>hlt x (by rw [hSc] at hx;exact hx.1)) (by simpa using hs) fun k d v h1 h2=>?_).mono ?_
 ·rw [List.getElem?_map,zO2] at h1
  obtain ⟨d0,hd0,rfl⟩:=h1
  exact hVf _ _ (hv k d0 v hd0 h2)
 ·rintro e w' ⟨v,L',r,Hc',hQ,rfl,hH',hr,hx,hkeep,hnew,hshp⟩
  obtain ⟨H2,hH2,hK⟩:=hK r Hc' hQ
  obtain ⟨L2,hL2⟩:∃L2:Nat→Option Nat,L2=fun p=>match fwd p with|some q=>L' q|none=>L p:=⟨_,rfl⟩
  have hL2f:∀p q,fwd p=some q→L2 p=L' q:=fun p q h=>by rw [hL2];simp only [h]
  have hL2n:∀p,fwd p=none→L2 p=L p:=fun p h=>by rw [hL2];simp only [h]
  have hcase:∀p,(∃q,fwd p=some q)∨fwd p=none:=fun p=>by
   cases h:fwd p with
   | none=>exact .inr rfl
   | some q=>exact .inl ⟨q,rfl⟩
  have hlent:∀p,fwd p=none→∀b,L p=some b→¬∃q,Lc q=some b:=by
   rintro p hp b hb ⟨q,hq⟩
   obtain ⟨p',h1,h2⟩:=hLc1 q b hq
   have e:=hR.heap.inj p p' b hb h2
   subst e
   rw [(hfb p q).2 h1] at hp;cases hp
  have hL2o:∀p b,L2 p=some b→(∃o,L o=some b)∨w.heap.size≤b:=fun p b h=>by
   rcases hcase p with ⟨q,hq⟩|hq
   ·rw [hL2f p q hq] at h
    rcases hnew q b h with ⟨q',h1⟩|h1
    ·exact .inl (hown q' b h1)
    ·exact .inr h1
   ·rw [hL2n p hq] at h;exact .inl ⟨p,h⟩
  have hAv2:∀b,Av G.S L2 b→Av Sc L' b:=by
   rintro b (h|⟨p,h⟩)
   ·exact .inl (hGS b h)
   ·rcases hcase p with ⟨q,hq⟩|hq
    ·rw [hL2f p q hq] at h;exact .inr ⟨q,h⟩
    ·rw [hL2n p hq] at h
     refine .inl ?_
     rw [hSc];exact ⟨.inr ⟨p,h⟩,hlent p hq b h⟩
  have hblk:∀b,b<w.heap.size→¬(∃q,Lc q=some b)→w'.heap[b]? = w.heap[b]? := fun b hb h=>hx.block b hb h
  have hVb:∀d v,V w' L' (Av Sc L') d v→V w' L2 (Av G.S L2) (rn back d) v:=fun d v hd=>hd.rn back hAv2 fun q p b h1 h2=>by
   rw [hL2f p q ((hfb p q).2 h1)];exact h2
  have hVk:∀d v,V w L (Av G.S L) d v→V w' L2 (Av G.S L2) (rn (pgN H fwd) d) v:=fun d v hd=>by
   have h1:=hd.rn (L':=fun p=>(pgN H fwd p).bind L) (A':=Av G.S L) (pgN H fwd) (fun _ h=>h) (fun o p b h1 h2=>by
    have e:o=p:=by
     unfold pgN at h1;split at h1
     ·split at h1
      ·cases h1
      ·simpa using h1
     ·simpa using h1
    subst e
    show (pgN H fwd o).bind L=some b
    rw [h1];exact h2)
   refine h1.mono (fun b hb hA=>⟨hblk b hb fun h=>hA ((hown _ b h.choose_spec).elim fun p h=>.inr ⟨p,h⟩),?_⟩) fun o b _ ho=>?_
   ·rintro (h|⟨p,h⟩)
    ·exact hA (.inl h)
    ·rcases hL2o p b h with h2|h2
     ·exact hA (.inr h2)
     ·omega
   ·have ho':L o=some b∧(fwd o=none∨∃q,fwd o=some q∧1048576≤q):=by
     unfold pgN at ho
     cases hq:fwd o with
     | none=>rw [hq] at ho;exact ⟨ho,.inl rfl⟩
     | some q =>
      rw [hq] at ho
      simp only at ho
      split at ho
      ·cases ho
      ·rename_i hc
       have hLo:L o=some b:=ho
       refine ⟨hLo,.inr ⟨q,rfl,?_⟩⟩
       obtain ⟨c,hc2⟩:=hR.heap.dom o b hLo
       rcases Nat.lt_or_ge q 1048576 with h|h
       ·exact absurd ⟨h,by rw [hc2];rfl⟩ hc
       ·exact h
    refine ⟨?_,hshp b (hR.heap.lt ho'.1)⟩
    rcases ho'.2 with h|⟨q,h,hq⟩
    ·rw [hL2n o h];exact ho'.1
    ·rw [hL2f o q h];exact hkeep q b (hLc2 o q b h ho'.1) hq
  have hRn:R G L2 (den F.vs (z0J (rn (pgN H fwd)) te) (z0J (rn (pgN H fwd)) fr)) (lkH H2) a w':=by
   refine ⟨hR.size,hR.defers,fun s=>?_,⟨fun p b hb=>?_,fun p c hc=>?_,fun p p' b h1 h2=>?_,fun p b hb hs=>?_,fun p b hb=>?_⟩,⟨hx.os.trans hR.ext.os,hx.tape.trans hR.ext.tape,hx.output.trans hR.ext.output,Nat.le_trans hR.ext.size hx.size,fun k hk hS=>?_⟩,fun k hk=>Nat.lt_of_lt_of_le (hR.sLt k hk) hx.size,fun p b hb=>?_,fun p b hb=>?_,fun k hk=>?_⟩
   ·have:=hVk _ _ (hR.slots s)
    simp only [den,z4p _ (y28 _)] at this ⊢
    by_cases hc:F.vs.contains s=true
    ·simp only [hc,if_true] at this ⊢;exact this
    ·simp only [hc] at this ⊢;exact this
   ·rw [hH2]
    rcases hcase p with ⟨q,hq⟩|hq
    ·rw [hL2f p q hq] at hb
     obtain ⟨c,hc⟩:=hH'.dom q b hb
     exact ⟨_,by rw [hq];simp only [hc,Option.map_some];rfl⟩
    ·rw [hL2n p hq] at hb
     obtain ⟨c,hc⟩:=hR.heap.dom p b hb
     exact ⟨_,by rw [hq];simp only [hc,Option.map_some];rfl⟩
   ·rw [hH2] at hc
    rcases hcase p with ⟨q,hq⟩|hq
    ·rw [hq] at hc
     simp only [zO2] at hc
     obtain ⟨c0,h1,rfl⟩:=hc
     rcases hH'.obj q c0 h1 with ⟨h2,h3⟩|⟨b,cs,T,h2,h3,h4,h5⟩
     ·exact .inl ⟨by rw [hL2f p q hq,h2],by rw [h3];rfl⟩
     ·refine .inr ⟨b,cs,T,by rw [hL2f p q hq,h2],h3,by simpa using h4,fun k d u hk hu=>?_⟩
      rw [List.getElem?_map,zO2] at hk
      obtain ⟨d0,hd0,rfl⟩:=hk
      exact hVb _ _ (h5 k d0 u hd0 hu)
    ·rw [hq] at hc
     simp only [zO2] at hc
     obtain ⟨c0,h1,rfl⟩:=hc
     rcases hR.heap.obj p c0 h1 with ⟨h2,h3⟩|⟨b,cs,T,h2,h3,h4,h5⟩
     ·exact .inl ⟨by rw [hL2n p hq,h2],by rw [h3];rfl⟩
     ·refine .inr ⟨b,cs,T,by rw [hL2n p hq,h2],(hblk b (hR.heap.lt h2) (hlent p hq b h2)).trans h3,by simpa using h4,fun k d u hk hu=>?_⟩
      rw [List.getElem?_map,zO2] at hk
      obtain ⟨d0,hd0,rfl⟩:=hk
      exact hVk _ _ (h5 k d0 u hd0 hu)
   ·have mixed:∀p p' q,fwd p=some q→fwd p'=none→L2 p=some b→L2 p'=some b→False:=fun p p' q hq hn h1 h2=>by
     rw [hL2f p q hq] at h1
     rw [hL2n p' hn] at h2
     rcases hnew q b h1 with ⟨q',h3⟩|h3
     ·exact hlent p' hn b h2 ⟨q',h3⟩
     ·have:=hR.heap.lt h2;omega
    rcases hcase p with ⟨q,hq⟩|hq<;>rcases hcase p' with ⟨q',hq'⟩|hq'
    ·rw [hL2f p q hq] at h1
     rw [hL2f p' q' hq'] at h2
     have e:=hH'.inj q q' b h1 h2
     subst e
     have h3:=(hfb p q).1 hq
     rw [(hfb p' q).1 hq'] at h3
     exact (Option.some.inj h3).symm
    ·exact (mixed p p' q hq hq' h1 h2).elim
    ·exact (mixed p' p q' hq' hq h2 h1).elim
    ·rw [hL2n p hq] at h1
     rw [hL2n p' hq'] at h2
     exact hR.heap.inj p p' b h1 h2
   ·rcases hcase p with ⟨q,hq⟩|hq
    ·rw [hL2f p q hq] at hb
     exact hH'.notS q b hb (hGS b hs)
    ·rw [hL2n p hq] at hb
     exact hR.heap.notS p b hb hs
   ·rcases hcase p with ⟨q,hq⟩|hq
    ·rw [hL2f p q hq] at hb
     exact (hH'.ty q b hb).rn (hty p q hq).symm
    ·rw [hL2n p hq] at hb
     exact (hR.heap.ty p b hb).imm_shape (hshp b (hR.heap.lt hb))
   ·refine (hblk k (Nat.lt_of_lt_of_le hk hR.ext.size) ?_).trans (hR.ext.block k hk hS)
    rintro ⟨q,hq⟩
    obtain ⟨p,hp⟩:=hown q k hq
    rcases hR.own p k hp with h1|h1
    ·exact hS h1
    ·omega
   ·rcases hL2o p b hb with ⟨o,ho⟩|h1
    ·exact hR.own o b ho
    ·exact .inr (Nat.le_trans hR.ext.size h1)
   ·obtain ⟨h1,h2⟩:=hR.keep p b hb
    refine ⟨?_,h2⟩
    rcases hcase p with ⟨q,hq⟩|hq
    ·rw [hL2f p q hq];exact hkeep q b (hLc2 p q b hq h1) (hkp p q hq h2)
    ·rw [hL2n p hq];exact h1
   ·exact (hshp k (Nat.lt_of_lt_of_le hk hR.ext.size)).trans (hR.shp k hk)
  exact ⟨v,L2,rn back r,_,_,H2,rfl,hRn,hVb _ _ hr,y3D.map (w43 _) rfl _ _ _,hK⟩
mutual
theorem w1Q {f:Nat→Option Nat} (hf:∀o,f o=some o):∀d:DV,rn f d=d
 | .ptr o off=>by rw [rn,hf]
 | .osl sz o off n=>by rw [rn,hf]
 | .agg cs=>by rw [rn,y9M hf cs]
 | .tup cs=>by rw [rn,y9M hf cs]
 | .undef=>by rw [rn]<;>(intros;contradiction)
 | .int ..=>by rw [rn]<;>(intros;contradiction)
 | .bool _=>by rw [rn]<;>(intros;contradiction)
 | .str _=>by rw [rn]<;>(intros;contradiction)
 | .nilp=>by rw [rn]<;>(intros;contradiction)
 | .nils=>by rw [rn]<;>(intros;contradiction)
 | .nili=>by rw [rn]<;>(intros;contradiction)
 | .fn _=>by rw [rn]<;>(intros;contradiction)
 | .sl ..=>by rw [rn]<;>(intros;contradiction)
 | .el ..=>by rw [rn]<;>(intros;contradiction)
 | .iface ..=>by rw [rn]<;>(intros;contradiction)
 | .clo ..=>by rw [rn]<;>(intros;contradiction)
 | .raw ..=>by rw [rn]<;>(intros;contradiction)
theorem y9M {f:Nat→Option Nat} (hf:∀o,f o=some o):∀cs:List DV,rnL f cs=cs
 | []=>rfl
 | d::r=>by rw [rnL,w1Q hf d,y9M hf r]
end
theorem z9w {f:Nat→Option Nat} (hf:∀o,f o=some o) (fr:Fr):z0J (rn f) fr=fr:=by
 induction fr with
 | nil=>rfl
 | cons p r ih=>obtain ⟨k,d⟩:=p;rw [z0J,w1Q hf,ih]
theorem y41 (f:Nat→Option Nat) {cs:List DV} (h:∀d∈cs,d.rf=true):cs.map (rn f)=cs:=by
 conv=>rhs;rw [←List.map_id cs]
 exact List.map_congr_left fun d hd=>z5m f d (h d hd)
theorem z1s (o:Nat) {d:DV} (h:d.rf=true):purge o d=d:=by
 unfold purge
 rw [z3u o d h];rfl
theorem z0k (o:Nat) {cs:List DV} (h:∀d∈cs,d.rf=true):cs.map (purge o)=cs:=by
 conv=>rhs;rw [←List.map_id cs]
 exact List.map_congr_left fun d hd=>z1s o (h d hd)
theorem z1p (o:Nat) (xs:List DV) {cs:List DV} (h:∀d∈cs,d.rf=true):cs.map (frz o xs)=cs:=by
 conv=>rhs;rw [←List.map_id cs]
 refine List.map_congr_left fun d hd=>?_
 have h1:=h d hd
 cases d<;>first|(simp [DV.rf] at h1;done)|exact z1s o h1
theorem w55 {H:Hp} {f:Nat→Option Nat} (hf:∀o,f o=some o) (p:Nat):lkH H p=(lkH H p).map (List.map (rn f)):=by
 cases lkH H p with
 | none=>rfl
 | some c =>
  simp only [Option.map_some,Option.some.injEq]
  conv=>lhs;rw [←List.map_id c]
  exact List.map_congr_left fun d _=>(w1Q hf d).symm
def w2R (P:Program) (f:Nat) (args:List DV) (cells:List DV) (Q:DV→List DV→Prop):Prop :=
 y7S P f args [(1048576,cells)] fun r H'=>∃c',H'=[(1048576,c')]∧(∀d∈c',d.rf=true)∧r.rf=true∧Q r c'
def w7z (o p:Nat):Option Nat:=if p=o then some 1048576 else none
theorem x4A (a:Nat) (c:List DV) (q:Nat):lkH [(a,c)] q=if a=q then some c else none:=rfl
def x83 (m o p:Nat):Option Nat:=if p=o then some m else none
def x0n (m o q:Nat):Option Nat:=if q=m then some o else none
theorem fbn (m o p q:Nat):x83 m o p=some q↔x0n m o q=some p:=by
 unfold x83 x0n
 constructor
 ·intro e;split at e
  ·cases e;subst p;simp
  ·cases e
 ·intro e;split at e
  ·cases e;subst q;simp
  ·cases e
theorem pgn {H:Hp} {m o:Nat} (ho:lkH H o=none) (p:Nat):pgN H (x83 m o) p=some p:=by
 unfold pgN x83
 split
 ·rename_i q h
  split at h
  ·rename_i e
   subst e
   rw [ho,if_neg (fun h=>by cases h.2)]
  ·cases h
 ·rfl
abbrev SD:=DV→Eff→Prop
def w5R (F:FnD) (f:Nat) (ds:List DV) (h:Heap) (S:SD):Prop :=
 ∃ (o:Nat) (cells:List DV) (Q:DV→List DV→Prop),(h o=some cells∧y0x o)∧(∀d∈cells,d.rf=true)∧w2R F.P f (ds.map (rn (w7z o))) cells Q ∧
  (∃d c',d.rf=true∧(∀x∈c',x.rf=true)∧Q d c')∧∀d ef,S d ef↔∃c',ef=.set o c'∧d.rf=true∧(∀x∈c',x.rf=true)∧Q d c'
structure GivesT (F:FnD) (dp:DOper) (σ:Nat→DV) (h:Heap) (S:SD):Prop where
 out:(dp.op.isCall=false∧dp.op.cls≤1∧∃d,Gives F dp σ (fun _=>none) d .no∧∀d' ef,S d' ef↔d'=d∧ef=.no) ∨
  (dp.op.isCall=true∧((gS σ dp.guard=some true∧∃f args,dp.op=.call f args∧w5R F f (args.map (evS σ)) h S)∨(gS σ dp.guard=some false∧∀d' ef,S d' ef↔d'=.tup []∧ef=.no)))
section
variable {F:FnD}
end
section
variable {F:FnD}
end
section
variable {F:FnD} {G:Cx} {L:Nat→Option Nat} {a:Act} {w:World} {σ:Nat→DV} {h:Heap}
end
theorem x58 {F:FnD} {c:DC} {Q:Ex→Fr→Hp→Prop} {fr:Fr} {H:Hp} (p:Nat) {cells cells':List DV} (hp:lkH H p=some cells) (hl:cells'.length=cells.length)
  (hw:∀(k:Nat) d d',cells[k]? = some d→cells'[k]? = some d'→∀(w:World) (L:Nat→Option Nat) (A:Nat→Prop) (v:Value),V w L A d v→V w L A d' v) (h:W F c Q fr (z0N H p cells')):W F c Q fr H:=by
 intro code hc G L a w hn hR
 refine h code hc G L a w hn { hR with heap:=⟨fun q b hq=>?_,fun q cs hq=>?_,hR.heap.inj,hR.heap.notS,hR.heap.ty⟩ }
 ·rw [z1f]
  split
  ·exact ⟨_,rfl⟩
  ·exact hR.heap.dom q b hq
 ·rw [z1f] at hq
  split at hq
  ·rename_i e
   subst e
   cases hq
   rcases hR.heap.obj q cells hp with ⟨h1,h2⟩|⟨b,cs2,T,h1,h2,h3,h4⟩
   ·exact .inl ⟨h1,List.eq_nil_of_length_eq_zero (by rw [hl,h2];rfl)⟩
   ·refine .inr ⟨b,cs2,T,h1,h2,by rw [hl];exact h3,fun k d v hd hv=>?_⟩
    obtain ⟨d0,hd0⟩:=z0O (l:=cells) (k:=k) (by have:=(List.getElem?_eq_some_iff.1 hd).1;omega)
    exact hw k d0 d hd0 hd _ _ _ v (h4 k d0 v hd0 hv)
  ·exact hR.heap.obj q cs hq
end Go.Dat
namespace Go.Dat
open Go
section
variable {F:FnD} {G:Cx}
theorem z4z {P:Program} {vs own:List Nat} {n:Nat} {ops:Array Oper}:∀(d0 d1:List DOper) (l:List Oper),z1M P vs own n ops l=some (d0++d1) →
  ∃ l0 l1,l=l0++l1∧z1M P vs own n ops l0=some d0∧z1M P vs own n ops l1=some d1
 | [],d1,l,h=>⟨[],l,rfl,rfl,h⟩
 | x::d0,d1,[],h=>by simp [z1M] at h
 | x::d0,d1,o::l,h=>by
  simp only [z1M,zO3,zO2] at h
  obtain ⟨d,hd,ds,hds,e⟩:=h
  simp only [List.cons_append,List.cons.injEq] at e
  obtain ⟨rfl,rfl⟩:=e
  obtain ⟨l0,l1,rfl,h1,h2⟩:=z4z d0 d1 l hds
  exact ⟨o::l0,l1,rfl,by simp only [z1M,hd,Option.bind_some,h1,Option.map_some],h2⟩
theorem y21 {ops:Array Oper} {Q:Exit→Act→World→Prop} {Kd:Fr→Fr→Hp→Prop} {l1:List Oper} (hn:G.n=F.n∧G.ok F.P)
  (hK:∀te fr H L a w,R G L (den F.vs te fr) (lkH H) a w→Kd te fr H→wpList F.P ops Q l1 a w) :
  ∀ (l:List Oper) (ds:List DOper),z1M F.P F.vs F.own F.n ops l=some ds→∀(te fr:Fr) (H:Hp) (L:Nat→Option Nat) (a:Act) (w:World),
   R G L (den F.vs te fr) (lkH H) a w→z1l F ds te fr H Kd→wpList F.P ops Q (l++l1) a w
 | [],ds,hs,te,fr,H,L,a,w,hR,hW=>by
  simp only [z1M,Option.some.injEq] at hs
  subst hs
  exact hK _ _ _ _ _ _ hR hW
 | o::l,ds,hs,te,fr,H,L,a,w,hR,hW=>by
  show wpList F.P ops Q (o::(l++l1)) a w
  simp only [z1M,zO3,zO2] at hs
  obtain ⟨dp,hdp,ds',hds',rfl⟩:=hs
  have ih:=y21 hn hK l ds' hds'
  have hgd:z2z F.vs ops o.guard=some dp.guard∧dp.dst=y3c F.vs o.dst∧∀k,o.dst=some k→k<F.n:=by
   simp only [z4U,zO3] at hdp
   obtain ⟨p,hp,g,hg,hs⟩:=hdp
   split at hs
   ·rename_i hd;cases hs;exact ⟨hg,rfl,z4j hd⟩
   ·cases hs
  obtain ⟨hg,hdst,hdl⟩:=hgd
  have hskip:Region.wanted o (yielded ops a.tmps)=false→z1l F ds' (dp.dst.onT te (.tup [])) (dp.dst.onX fr (.tup [])) H Kd→wpList F.P ops Q (o::(l++l1)) a w:=by
   intro hw hW'
   have hput:=hR.put (z8k) (dst:=o.dst) (by rw [hn.1];exact hdl)
   rw [←z2B,←hdst] at hput
   simp only [wpList,hw]
   exact ih _ _ _ _ _ _ hput hW'
  have hgo:Region.wanted o (yielded ops a.tmps)=true→(match dp.op with
   | .call f args=>z3r F f (args.map (ev te fr)) te fr H fun d te' fr' H'=>z1l F ds' (dp.dst.onT te' d) (dp.dst.onX fr' d) H' Kd
   | p=>OW (opE F.nb dp.dst.slot (ev te fr) (lkH H) p) fun r=>z1l F ds' (dp.dst.onT (r.2.onF te) r.1) (dp.dst.onX (r.2.onF fr) r.1) (r.2.onL H) Kd)→wpList F.P ops Q (o::(l++l1)) a w:=by
   intro hw hg'
   simp only [wpList,hw,if_true]
   exact .inl (y1F (Kd:=fun te fr H=>z1l F ds' te fr H Kd) hdp hn hR (fun te fr H L a w hR' hk=>ih te fr H L a w hR' hk) hg')
  simp only [z1l] at hW
  cases hgu:dp.guard with
  | none =>
   rw [hgu] at hg hW
   exact hgo (z30 _ hg) hW
  | some p =>
   obtain ⟨g,want⟩:=p
   rw [hgu] at hg hW
   simp only at hW
   split at hW
   ·rename_i b hb
    have hwn:=z96 hR hg hb
    by_cases hbw:b=want
    ·exact hgo (by rw [hwn];simp [hbw]) (hW.1 hbw)
    ·exact hskip (by rw [hwn];simp [hbw]) (hW.2 (by cases b<;>cases want<;>simp_all))
   ·rename_i hb
    exact hskip (z97 hR hg hb) hW
   ·exact hW.elim
theorem x7X {P:Program} {vs own:List Nat} {dst:Option Nat} {op:Op} {f:Nat} {args:List Opd} (hp:sOp P vs own dst op=some (.call f args)) :
  ∃ c fn, op = .call c ∧ c.callee = .value (.func f) ∧ P.funcs[f]? = some fn ∧ fn.body.isSome = true ∧ (fn.name != "runtime.NumGoroutine") = true ∧ args = c.args.toList.map (z0Y vs) := by
 cases op with
 | call c =>
  obtain ⟨callee,cargs,argTypes⟩:=c
  cases callee with
  | value q =>
   cases q with
   | func f' =>
    simp only [sOp] at hp
    split at hp
    ·rename_i fn hfn
     split at hp
     ·rename_i hcond
      cases hp
      simp only [Bool.and_eq_true] at hcond
      exact ⟨_,fn,rfl,rfl,hfn,hcond.1,hcond.2,rfl⟩
     ·cases hp
    ·cases hp
   | _=>simp [sOp] at hp
  | invoke r m=>simp [sOp] at hp
  | builtin b =>
   exfalso
   cases b<;>simp only [sOp] at hp<;>(repeat' split at hp)<;>first|(cases hp;done)|(simp [zO3] at hp;done)|(simp only [zO3] at hp;obtain ⟨_,_,hp⟩:=hp;split at hp<;>cases hp) 
 | _ =>
  exfalso
  exact z6W (by intro c e;cases e) hp
end
inductive RX where
 | ret (d:DV)
 | pan (ch:List PanicEntry)
end Go.Dat
namespace Go.Dat
open Go
section
variable {F:FnD}
def w5Q (F:FnD) (dp:DOper) (f:Nat) (args:List Opd) (K:(Nat→DV)→Heap→Prop) (σ:Nat→DV) (h:Heap):Prop :=
 ∀ (G:Cx) (L:Nat→Option Nat) (a:Act) (w:World) (us:Array Value),G.n=F.n→G.ok F.P→R G L σ h a w→us.size=args.length →
  (∀(k:Nat) d v,(args.map (evS σ))[k]? = some d→us[k]? = some v→V w L (Av G.S L) d v) →
  Calls F.P f us w fun e w'=>∃v L' d σ' h',e=.returned v∧R G L' σ' h' a w'∧V w' L' (Av G.S L') d v∧y3D σ σ'∧K (z1u σ' dp.dst.slot d) h'
def z4C (F:FnD) (dp:DOper) (K:(Nat→DV)→Heap→Prop) (σ:Nat→DV) (h:Heap):Prop :=
 match dp.op with
 | .call f args=>(gS σ dp.guard=some true∧w5Q F dp f args K σ h)∨(gS σ dp.guard=some false∧K (z1u σ dp.dst.slot (.tup [])) h)
 | _=>y7z F dp K σ h
def z4B (F:FnD) (n i:Nat) (dp:DOper) (K:(Nat→DV)→Heap→Prop) (σ:Nat→DV) (h:Heap):Prop:=if i<n then y7z F dp K σ h else z4C F dp K σ h
def x2c (F:FnD) (n:Nat) (ops:Array Oper) (ds:List DOper) (K:(Nat→DV)→Heap→Prop):Nat→Array Bool→(Nat→DV)→Heap→Prop
 | 0,listed,σ,h=>Region.ready .any ops listed=[]∧K σ h
 | fuel+1,listed,σ,h=>(Region.ready .any ops listed=[]→K σ h) ∧
  ∀ i∈Region.ready .any ops listed,∃x,ds[i]? = some x∧z4B F n i x (x2c F n ops ds K fuel (listed.setIfInBounds i true)) σ h
def w0W (F:FnD) (n:Nat):Nat→List DOper→((Nat→DV)→Heap→Prop)→(Nat→DV)→Heap→Prop
 | _,[],K=>K
 | k,o::os,K=>z4B F n k o (w0W F n (k+1) os K)
theorem z6Y {dp:DOper} {K K':(Nat→DV)→Heap→Prop} (hk:∀σ h,K σ h→K' σ h) {σ:Nat→DV} {h:Heap} (hs:z4C F dp K σ h):z4C F dp K' σ h:=by
 unfold z4C at hs ⊢
 split at hs
 ·rcases hs with ⟨h1,h2⟩|⟨h1,h2⟩
  ·refine .inl ⟨h1,fun G L a w us hn hG hR hs hv=>(h2 G L a w us hn hG hR hs hv).mono ?_⟩
   rintro e w' ⟨v,L',d,σ',h',e1,e2,e3,e5,e4⟩
   exact ⟨v,L',d,σ',h',e1,e2,e3,e5,hk _ _ e4⟩
  ·exact .inr ⟨h1,hk _ _ h2⟩
 ·obtain ⟨d,ef,h1,h2⟩:=hs
  exact ⟨d,ef,h1,hk _ _ h2⟩
theorem z5o {dp:DOper} (hc:dp.op.isCall=false) (K:(Nat→DV)→Heap→Prop) (σ:Nat→DV) (h:Heap):z4C F dp K σ h=y7z F dp K σ h:=by
 unfold z4C
 split
 ·rename_i f args e;rw [e] at hc;cases hc
 ·rfl
theorem z2n {n i:Nat} {dp:DOper} (hc:cpN n i dp=true) (K:(Nat→DV)→Heap→Prop) (σ:Nat→DV) (h:Heap):z4B F n i dp K σ h=y7z F dp K σ h:=by
 unfold z4B
 split
 ·rfl
 ·rename_i hlt
  simp only [cpN,decide_eq_false hlt,Bool.false_or,Bool.not_eq_true'] at hc
  exact z5o hc K σ h
theorem x0l {n:Nat} {ops:Array Oper} {ds:List DOper} {K:(Nat→DV)→Heap→Prop} {i:Nat} {x:DOper} (hx:ds[i]? = some x) (hxc:cpN n i x=true):∀(fuel:Nat) (listed:Array Bool) (σ:Nat→DV) (h:Heap) (di:DV) (ei:Eff),
  z2L ops listed→i∈Region.ready .any ops listed →
  (∀j y,ds[j]? = some y→j≠i→listed.getD j true=false→Dep ops j i∨(x.apart y=true∧z6s x.op y.op=true∧cpN n j y=true)) →
  Gives F x σ h di ei→x2c F n ops ds K fuel (listed.setIfInBounds i true) (z1u (ei.onS σ) x.dst.slot di) (ei.onH h)→x2c F n ops ds K (fuel+1) listed σ h:=by
 intro fuel
 induction fuel with
 | zero =>
  intro listed σ h di ei hc hi hap hg H
  refine ⟨fun e=>(by rw [e] at hi;cases hi),fun j hj=>?_⟩
  by_cases hji:j=i
  ·subst hji;exact ⟨x,hx,by rw [z2n hxc];exact ⟨di,ei,hg,H⟩⟩
  ·have:=ready_mono hj hji
   rw [H.1] at this;cases this
 | succ fuel ih =>
  intro listed σ h di ei hc hi hap hg H
  refine ⟨fun e=>(by rw [e] at hi;cases hi),fun j hj=>?_⟩
  by_cases hji:j=i
  ·subst hji;exact ⟨x,hx,by rw [z2n hxc];exact ⟨di,ei,hg,H⟩⟩
  ·obtain ⟨y,hy,H'⟩:=H.2 j (ready_mono hj hji)
   obtain ⟨hjun,oj,hoj,hall⟩:=mem_ready.1 hj
   obtain ⟨hiun,_,_,_⟩:=mem_ready.1 hi
   have hnd:¬Dep ops j i:=by
    intro hd
    have h1:=z3s hc hd fun o ho e he hb=>by rw [hoj] at ho;cases ho;exact hall e he hb
    have h2:listed.getD i true=true:=by
     rw [Array.getD_eq_getD_getElem?] at h1 ⊢
     cases hq:listed[i]? with
     | none=>rfl
     | some b=>rw [hq] at h1;exact h1
    rw [hiun] at h2;cases h2
   obtain ⟨hap1,hap2,hyc⟩:=(hap j y hy hji hjun).resolve_left hnd
   rw [z2n hyc] at H'
   obtain ⟨dj,ej,hgj,H'⟩:=H'
   obtain ⟨dj',ej',di',ei',g1,g2,g3,g4⟩:=y6j hap1 hap2 hg hgj
   refine ⟨y,hy,?_⟩
   rw [z2n hyc]
   refine ⟨dj',ej',g1,ih _ _ _ di' ei' (hc.set hj) (ready_mono hi (Ne.symm hji)) (fun k z hz hki hun=>?_) g2 ?_⟩
   ·refine hap k z hz hki ?_
    by_cases hjk:j=k
    ·subst hjk;exact hjun
    ·rwa [getD_set_ne true hjk] at hun
   ·rw [g3,g4,Array.setIfInBounds_comm _ _ hji]
    exact H'
theorem y5h (hp:F.pure=false) {K:Fr→Fr→Hp→Prop} {n:Nat}:∀(ds:List DOper) (k:Nat),n≤k→ds.all (·.tags F.vs)=true→∀(te fr:Fr) (H:Hp),z1l F ds te fr H K →
  w0W F n k ds (fun σ h=>∃te fr H,σ=den F.vs te fr∧h=lkH H∧K te fr H) (den F.vs te fr) (lkH H)
 | [],_,_,_,te,fr,H,hw=>⟨te,fr,H,rfl,rfl,hw⟩
 | o::os,k,hkn,ht,te,fr,H,hw=>by
  simp only [List.all_cons,Bool.and_eq_true] at ht
  obtain ⟨ht,hts⟩:=ht
  simp only [DOper.tags,Bool.and_eq_true] at ht
  obtain ⟨⟨t1,t2⟩,t3⟩:=ht
  have ih:=y5h hp (K:=K) (n:=n) os (k+1) (by omega) hts
  have hd:=x2G t1
  have skip:gS (den F.vs te fr) o.guard=some false→z1l F os (o.dst.onT te (.tup [])) (o.dst.onX fr (.tup [])) H K→w0W F n k (o::os) (fun σ h=>∃te fr H,σ=den F.vs te fr∧h=lkH H∧K te fr H) (den F.vs te fr) (lkH H):=fun hg hw =>
   (show w0W F n k (o::os) (fun σ h=>∃te fr H,σ=den F.vs te fr∧h=lkH H∧K te fr H) (den F.vs te fr) (lkH H) from by
    have:=ih _ _ _ hw
    rw [hd,z2B] at this
    show z4B F n k o _ _ _
    unfold z4B
    rw [if_neg (by omega)]
    unfold z4C
    rw [hd,z08]
    split
    ·exact .inr ⟨hg,this⟩
    ·exact ⟨.tup [],.no,⟨.inr ⟨hg,rfl,rfl⟩⟩,by rw [hd,z08];exact this⟩)
  have hev:∀p∈o.op.opds,ev te fr p=evS (den F.vs te fr) p:=fun p hp=>z8X (List.all_eq_true.1 t2 p hp)
  have go:gS (den F.vs te fr) o.guard=some true→(match o.op with
   | .call f args=>z3r F f (args.map (ev te fr)) te fr H fun d te' fr' H'=>z1l F os (o.dst.onT te' d) (o.dst.onX fr' d) H' K
   | p=>OW (opE F.nb o.dst.slot (ev te fr) (lkH H) p) fun r=>z1l F os (o.dst.onT (r.2.onF te) r.1) (o.dst.onX (r.2.onF fr) r.1) (r.2.onL H) K)→w0W F n k (o::os) (fun σ h=>∃te fr H,σ=den F.vs te fr∧h=lkH H∧K te fr H) (den F.vs te fr) (lkH H):=fun hg hw =>
   (show w0W F n k (o::os) (fun σ h=>∃te fr H,σ=den F.vs te fr∧h=lkH H∧K te fr H) (den F.vs te fr) (lkH H) from by
    have plain:OW (opE F.nb o.dst.slot (ev te fr) (lkH H) o.op) (fun r=>z1l F os (o.dst.onT (r.2.onF te) r.1) (o.dst.onX (r.2.onF fr) r.1) (r.2.onL H) K) →
      ((∀f args,o.op≠.call f args))→w0W F n k (o::os) (fun σ h=>∃te fr H,σ=den F.vs te fr∧h=lkH H∧K te fr H) (den F.vs te fr) (lkH H):=by
     rintro ⟨⟨d,ef⟩,he,hk⟩ hnc
     show z4B F n k o _ _ _
     unfold z4B
     rw [if_neg (by omega)]
     unfold z4C
     split
     ·rename_i f args e;exact absurd e (hnc f args)
     refine ⟨d,ef,⟨.inl ⟨hg,?_⟩⟩,?_⟩
     ·rw [z3w hev] at he
      unfold goD
      cases hop:o.op with
      | call f args=>exact absurd hop (hnc f args)
      | _=>rw [hop] at he;exact he
     ·have:=ih _ _ _ hk
      rw [hd,z2B,y6i,y2L] at this
      rw [hd,z08]
      exact this
    cases hop:o.op with
    | call f args =>
     rw [hop] at hw
     simp only [z3r,hp,Bool.false_eq_true,if_false] at hw
     rw [hop] at hev
     have hm:args.map (ev te fr)=args.map (evS (den F.vs te fr)):=List.map_congr_left fun p hp=>hev p hp
     rw [hm] at hw
     show z4B F n k o _ _ _
     unfold z4B
     rw [if_neg (by omega)]
     unfold z4C
     rw [hop]
     refine .inl ⟨hg,fun G L a w us hn hG hR hs hv=>?_⟩
     refine (hw G L a w us hG hR (by simpa using hs) hv).mono ?_
     rintro e w' ⟨v,L',d,te',fr',H',rfl,hR',hV,hsm,hk⟩
     refine ⟨v,L',d,_,_,rfl,hR',hV,hsm,?_⟩
     have:=ih _ _ _ hk
     rw [hd,z2B] at this
     rw [hd,z08]
     exact this
    | _ =>
     rw [hop] at hw
     exact plain (by rw [hop];exact hw) (by rw [hop];intro f args e;cases e))
  simp only [z1l] at hw
  cases hgu:o.guard with
  | none =>
   rw [hgu] at hw
   exact go (by rw [hgu];rfl) hw
  | some p =>
   obtain ⟨g,want⟩:=p
   rw [hgu] at hw t3
   have hgv:=z8X (te:=te) (fr:=fr) t3
   simp only at hw
   split at hw
   ·rename_i b hb
    rw [hgv] at hb
    by_cases hbw:b=want
    ·exact go (by rw [hgu];simp only [gS,hb];simp [hbw]) (hw.1 hbw)
    ·exact skip (by rw [hgu];simp only [gS,hb];simp [hbw]) (hw.2 (by clear hw;cases b<;>cases want<;>first|rfl|exact absurd rfl hbw))
   ·rename_i hb
    rw [hgv] at hb
    exact skip (by rw [hgu];simp only [gS,hb]) hw
   ·exact hw.elim
end
section
variable {F:FnD} {G:Cx}
theorem x0m {n:Nat} {ops:Array Oper} {ds:List DOper} {Q:Exit→Act→World→Prop} {K:(Nat→DV)→Heap→Prop} (hn:G.n=F.n∧G.ok F.P) (hs:z1M F.P F.vs F.own F.n ops ops.toList=some ds)
  (hK:∀σ h L a w,R G L σ h a w→K σ h→Q .normal a w):∀(fuel:Nat) (listed:Array Bool) (σ:Nat→DV) (h:Heap) (L:Nat→Option Nat) (a:Act) (w:World),R G L σ h a w →
   x2c F n ops ds K fuel listed σ h→wpAny F.P .any ops Q fuel listed a w:=by
 intro fuel
 induction fuel with
 | zero=>intro listed σ h L a w hR hA;exact ⟨hA.1,hK _ _ _ _ _ hR hA.2⟩
 | succ fuel ih =>
  intro listed σ h L a w hR hA
  refine ⟨fun e=>hK _ _ _ _ _ hR (hA.1 e),fun i hi=>?_⟩
  obtain ⟨x,hx,hA'⟩:=hA.2 i hi
  obtain ⟨_,o,ho,_⟩:=mem_ready.1 hi
  obtain ⟨dp,hdp,hso⟩:=(z12 _ _ hs).2 i o (by simpa using ho)
  rw [hx] at hdp;cases hdp
  have hgd:z2z F.vs ops o.guard=some x.guard∧x.dst=y3c F.vs o.dst∧∀k,o.dst=some k→k<F.n:=by
   simp only [z4U,zO3] at hso
   obtain ⟨p,hp,g,hg',hs⟩:=hso
   split at hs
   ·rename_i hd;cases hs;exact ⟨hg',rfl,z4j hd⟩
   ·cases hs
  obtain ⟨hgu,hdst,hdl⟩:=hgd
  simp only [wpOp,ho]
  have hskip:x2c F n ops ds K fuel (listed.setIfInBounds i true) (z1u σ x.dst.slot (.tup [])) h→wpAny F.P .any ops Q fuel (listed.setIfInBounds i true) (a.put o.dst undef) w:=fun h2=>by
   rw [hdst,z08] at h2
   exact ih _ _ _ L _ w (hR.put z8k (by rw [hn.1];exact hdl)) h2
  unfold z4B at hA'
  split at hA'
  ·obtain ⟨d,ef,hg,hA'⟩:=hA'
   rcases hg.out with ⟨h1,h2⟩|⟨h1,rfl,rfl⟩
   ·rw [z23 hR hgu h1,if_pos rfl]
    exact .inl (z3O hso hn hR h2 fun L a w hR'=>ih _ _ _ L a w hR' hA')
   ·rw [z23 hR hgu h1,if_neg (by simp)]
    exact hskip hA'
  unfold z4C at hA'
  split at hA'
  ·rename_i f args hop
   rcases hA' with ⟨h1,h2⟩|⟨h1,h2⟩
   ·rw [z23 hR hgu h1,if_pos rfl]
    refine .inl ?_
    obtain ⟨odst,op,ty,pos,after,guard⟩:=o
    obtain ⟨xdst,xop,xguard⟩:=x
    simp only [z4U,zO3] at hso
    obtain ⟨p,hp,g,hg',hs2⟩:=hso
    split at hs2
    ·simp only [Option.some.injEq,DOper.mk.injEq] at hs2
     obtain ⟨_,rfl,_⟩:=hs2
     simp only at hop hdst
     subst hop
     subst hdst
     obtain ⟨c,fn,rfl,hcal,hfn,hbody,hname,rfl⟩:=x7X hp
     obtain ⟨callee,cargs,argTypes⟩:=c
     simp only at hcal h2
     subst hcal
     have hE:EV F.vs (evS σ) w L (Av G.S L) a:=fun x=>x98 hR x
     have hcall:=h2 G L a w (cargs.map a.eval) hn.1 hn.2 hR (by simp) (fun k d v h1 h2=>by
      simp only [List.map_map,List.getElem?_map,Array.getElem?_toList,zO2] at h1
      simp only [Array.getElem?_map,zO2] at h2
      obtain ⟨x,hx,rfl⟩:=h1
      obtain ⟨y,hy,rfl⟩:=h2
      rw [hx] at hy;cases hy
      exact hE x)
     have hr:(execOp a.eval ⟨odst,.call { callee:=.value (.func f),args:=cargs,argTypes:=argTypes },ty,pos,after,guard⟩).run F.P w=.ok (.enter f (cargs.map a.eval)) w:=by
      have hb:¬fn.body=none:=by intro e;rw [e] at hbody;cases hbody
      have hnm : ¬ fn.name = "runtime.NumGoroutine" := by simpa using hname
      simp [execOp,resolve,Act.eval,Deferred.ofValue,invoke,callFunc,hfn,hnm,hb]
     unfold Oper.wp
     rw [hr]
     refine hcall.mono ?_
     rintro e w' ⟨v,L',d,σ',h',rfl,hR2,hv,_,hk⟩
     have hput:=hR2.put hv (dst:=odst) (by rw [hn.1];exact hdl)
     rw [z08] at hk
     exact ih _ _ _ L' _ w' hput hk
    ·cases hs2
   ·rw [z23 hR hgu h1,if_neg (by simp)]
    exact hskip h2
  ·obtain ⟨d,ef,hg,hA'⟩:=hA'
   rcases hg.out with ⟨h1,h2⟩|⟨h1,rfl,rfl⟩
   ·rw [z23 hR hgu h1,if_pos rfl]
    exact .inl (z3O hso hn hR h2 fun L a w hR'=>ih _ _ _ L a w hR' hA')
   ·rw [z23 hR hgu h1,if_neg (by simp)]
    exact hskip hA'
end
end Go.Dat
namespace Go.Dat
open Go
section
variable {F:FnD}
theorem DV.sim_val {d:DV} (h:d.sim=true):∃v,∀(w:World) (A:Nat→Prop),VI w A d v:=by
 cases d<;>first|(cases h;done)|exact ⟨_,fun w A=>.int _ _⟩|exact ⟨_,fun w A=>.bool _⟩|exact ⟨_,fun w A=>.str _⟩
theorem w6R {w w':World} {L L':Nat→Option Nat} {A A':Nat→Prop} {d:DV} {v:Value} (h:d.sim=true) (hv:V w L A d v):V w' L' A' d v:=by
 cases d with
 | int k n=>rw [hv.inv_int];exact .imm (.int _ _)
 | bool b=>rw [hv.inv_bool];exact .imm (.bool _)
 | str l=>rw [hv.inv_str];exact .imm (.str _)
 | _=>cases h
theorem x6f {op:BinOp} {a b d:DV} (h:z0V op a b=some d):d.sim=true:=by
 cases a<;>cases b<;>simp only [z0V] at h<;>first|(cases h;done)|skip
 all_goals
  cases op<;>simp only [reduceCtorEq] at h<;>first|(obtain ⟨_,h⟩:=z0r h;cases h;rfl)|(cases h;rfl)
theorem w2r {op:UnOp} {a d:DV} (h:unE op a=some d):d.sim=true:=by
 cases a<;>simp only [unE,reduceCtorEq] at h
 all_goals
  cases op<;>simp only [reduceCtorEq] at h<;>(cases h;rfl)
theorem y4m {p:DOp} (h:p.flatK=true):p.cls=0:=by cases p<;>first|rfl|(cases h;done)
theorem z6A {p:DOp} (h:p.flatK=true):p.isCall=false:=by cases p<;>first|rfl|(cases h;done)
theorem z82 {x:DOper} {σ:Nat→DV} {h:Heap} {d:DV} {ef:Eff} (hf:x.op.flatK=true) (hgn:x.guard=none) (hs:∀p∈x.op.opds,(evS σ p).sim=true) (hg:Gives F x σ h d ef) :
  d.sim=true∧ef=.no:=by
 refine ⟨?_,hg.noEff (by rw [y4m hf];exact Nat.zero_le _)⟩
 rcases hg.out with ⟨_,h1⟩|⟨h1,_⟩
 ·obtain ⟨dst,op,guard⟩:=x
  simp only at hf hs
  cases op<;>first|(cases hf;done)|skip
  ·simp only [goD,opE,Option.some.injEq,Prod.mk.injEq] at h1
   rw [←h1.1];exact hs _ (by simp [DOp.opds])
  ·simp only [goD,opE,zO2,Prod.mk.injEq] at h1
   obtain ⟨d',h2,rfl,_⟩:=h1
   exact x6f h2
  ·simp only [goD,opE,zO2,Prod.mk.injEq] at h1
   obtain ⟨d',h2,rfl,_⟩:=h1
   exact w2r h2
  ·simp only [goD,opE] at h1
   split at h1
   ·simp only [Option.some.injEq,Prod.mk.injEq] at h1;rw [←h1.1];rfl
   ·cases h1
  ·simp only [goD,opE] at h1
   split at h1
   ·simp only [zO3,zO2,Prod.mk.injEq] at h1
    obtain ⟨_,_,_,_,h2,_⟩:=h1
    rw [←h2];rfl
   ·cases h1
  ·simp only [goD,opE] at h1
   split at h1
   ·obtain ⟨_,h1⟩:=z0r h1
    simp only [Option.some.injEq,Prod.mk.injEq] at h1;rw [←h1.1];rfl
   ·cases h1
  ·simp only [goD,opE] at h1
   split at h1
   ·simp only [Option.some.injEq,Prod.mk.injEq] at h1;rw [←h1.1];rfl
   ·cases h1
  ·simp only [goD,opE] at h1
   split at h1
   ·simp only [Option.some.injEq,Prod.mk.injEq] at h1;rw [←h1.1];rfl
   ·obtain ⟨_,h1⟩:=z0r h1
    simp only [Option.some.injEq,Prod.mk.injEq] at h1;rw [←h1.1];rfl
   ·cases h1
 ·rw [hgn] at h1;cases h1
theorem y8E {σ σ':Nat→DV} {o:Opd} (h:∀s,o.slot=some s→σ' s=σ s):evS σ' o=evS σ o:=by
 cases o with
 | c d=>rfl
 | x k=>exact h k rfl
 | t k=>exact h k rfl
theorem z52 {x:DOper} {p:Opd} (hp:p∈x.op.opds) {s:Nat} (hs:p.slot=some s):s∈x.looks:=by
 unfold DOper.looks;exact List.mem_append.2 (.inl (List.mem_filterMap.2 ⟨p,hp,hs⟩))
theorem Gives.flat {x:DOper} {σ σ':Nat→DV} {h h':Heap} {d:DV} {ef:Eff} (hf:x.op.flatK=true) (hgn:x.guard=none) (he:∀p∈x.op.opds,evS σ' p=evS σ p) (hg:Gives F x σ h d ef):Gives F x σ' h' d ef:=by
 have hg2:=hg.heap0 (h':=h') (y4m hf)
 rcases hg2.out with ⟨_,h1⟩|⟨h1,_⟩
 ·refine ⟨.inl ⟨by rw [hgn];rfl,?_⟩⟩
  unfold goD at h1 ⊢
  have hc:=z6A hf
  cases hop:x.op with
  | call f args=>rw [hop] at hc;cases hc
  | _ =>
   rw [hop] at h1 he
   simp only at h1 ⊢
   rw [z3w he];exact h1
 ·rw [hgn] at h1;cases h1
theorem w0j {σ σ':Nat→DV} {y:DOper} (h:∀s∈y.looks,σ' s=σ s):gS σ' y.guard=gS σ y.guard:=by
 cases hg:y.guard with
 | none=>rfl
 | some p =>
  obtain ⟨g,w⟩:=p
  have:evS σ' g=evS σ g:=y8E fun s hs=>h s (by unfold DOper.looks;rw [hg];exact List.mem_append.2 (.inr (by simp [hs])))
  simp only [gS,this]
theorem w10 {o:Nat} {σ:Nat→DV} {p:Opd} (h:(evS σ p).sim=true):evS (z1d o σ) p=evS σ p:=by
 cases p with
 | c d=>rfl
 | x k=>show purge o (σ k)=σ k;have h:(σ k).sim=true:=h;revert h;cases σ k<;>intro h<;>first|(cases h;done)|simp [purge,DV.has]
 | t k=>show purge o (σ k)=σ k;have h:(σ k).sim=true:=h;revert h;cases σ k<;>intro h<;>first|(cases h;done)|simp [purge,DV.has]
theorem w1c {ef:Eff} {σ:Nat→DV} {p:Opd} (h:(evS σ p).sim=true):evS (ef.onS σ) p=evS σ p:=by
 cases ef with
 | app o c=>exact w10 h
 | _=>rfl
theorem R.unput {G:Cx} {L:Nat→Option Nat} {σ σ':Nat→DV} {h:Heap} {a:Act} {w:World} {dst:Option Nat} {v:Value} (hsz:a.tmps.size=G.n) (hR:R G L σ' h (a.put dst v) w)
  (hs:∀s,dst≠some s→σ s=σ' s) (hd:∀s,dst=some s→V w L (Av G.S L) (σ s) (a.tmps.getD s undef)):R G L σ h a w:=by
 cases dst with
 | none =>
  have:σ=σ':=funext fun s=>hs s (by simp)
  rw [this];exact hR
 | some k =>
  refine { hR with size:=hsz,defers:=hR.defers,slots:=fun s=>?_ }
  by_cases e:k=s
  ·subst e;exact hd k rfl
  ·have h1:=hR.slots s
   simp only [Act.put] at h1
   have:(a.tmps.setIfInBounds k v).getD s undef=a.tmps.getD s undef:=by
    simp [Array.getD_eq_getD_getElem?,e]
   rw [this] at h1
   rw [hs s (by simp [e])];exact h1
theorem x2d {ops:Array Oper} {ds:List DOper} {K:(Nat→DV)→Heap→Prop} {i:Nat} {x:DOper} (hx:ds[i]? = some x) (hf:x.op.flatK=true) (hgn:x.guard=none) (hself:∀s,x.dst.slot=some s→s∉x.looks)
  (hdl:∀s,x.dst.slot=some s→s<F.n):∀(fuel:Nat) (listed:Array Bool) (σ:Nat→DV) (h:Heap) (di:DV),
  z2L ops listed→i∈Region.ready .any ops listed →
  (∀j y,ds[j]? = some y→j≠i→listed.getD j true=false→Dep ops j i∨(x.apart y=true∧(z6s x.op y.op=true∨y.op.isCall=true))) →
  (∀p∈x.op.opds,(evS σ p).sim=true)→Gives F x σ h di .no→x2c F 0 ops ds K fuel (listed.setIfInBounds i true) (z1u σ x.dst.slot di) h→x2c F 0 ops ds K (fuel+1) listed σ h:=by
 have hx0:∀(K:(Nat→DV)→Heap→Prop) (σ:Nat→DV) (h:Heap) (di:DV),Gives F x σ h di .no→K (z1u σ x.dst.slot di) h→z4B F 0 i x K σ h:=fun K σ h di hg hk=>by
  rw [z2n (by simp [cpN,z6A hf])]
  exact ⟨di,.no,hg,hk⟩
 intro fuel
 induction fuel with
 | zero =>
  intro listed σ h di hc hi hap hsm hg H
  refine ⟨fun e=>(by rw [e] at hi;cases hi),fun j hj=>?_⟩
  by_cases hji:j=i
  ·subst hji;exact ⟨x,hx,hx0 _ _ _ _ hg H⟩
  ·have:=ready_mono hj hji
   rw [H.1] at this;cases this
 | succ fuel ih =>
  intro listed σ h di hc hi hap hsm hg H
  refine ⟨fun e=>(by rw [e] at hi;cases hi),fun j hj=>?_⟩
  by_cases hji:j=i
  ·subst hji;exact ⟨x,hx,hx0 _ _ _ _ hg H⟩
  ·obtain ⟨y,hy,H'⟩:=H.2 j (ready_mono hj hji)
   obtain ⟨hjun,oj,hoj,hall⟩:=mem_ready.1 hj
   obtain ⟨hiun,_,_,_⟩:=mem_ready.1 hi
   have hnd:¬Dep ops j i:=by
    intro hd
    have h1:=z3s hc hd fun o ho e he hb=>by rw [hoj] at ho;cases ho;exact hall e he hb
    have h2:listed.getD i true=true:=by
     rw [Array.getD_eq_getD_getElem?] at h1 ⊢
     cases hq:listed[i]? with
     | none=>rfl
     | some b=>rw [hq] at h1;exact h1
    rw [hiun] at h2;cases h2
   obtain ⟨hap1,hap2⟩:=(hap j y hy hji hjun).resolve_left hnd
   obtain ⟨a1,a2,a3⟩:=y13 hap1
   have hdi:=(z82 hf hgn hsm hg).1
   have hrest:∀k z,ds[k]? = some z→k≠i→(listed.setIfInBounds j true).getD k true=false→Dep ops k i∨(x.apart z=true∧(z6s x.op z.op=true∨z.op.isCall=true)):=fun k z hz hki hun=>by
    refine hap k z hz hki ?_
    by_cases hjk:j=k
    ·subst hjk;exact hjun
    ·rwa [getD_set_ne true hjk] at hun
   -- what x looks at, y does not write
   have hev:∀(τ:Nat→DV) (d:DV),(∀s∈x.looks,τ s=σ s)→∀p∈x.op.opds,evS (z1u τ y.dst.slot d) p=evS σ p:=fun τ d hτ p hp=>y8E fun s hs=>by
    have hm:=z52 hp hs
    cases hyd:y.dst.slot with
    | none=>exact hτ s hm
    | some t =>
     have:s≠t:=fun e=>a2 t hyd (e ▸ hm)
     simp only [z1u,if_neg this]
     exact hτ s hm
   refine ⟨y,hy,?_⟩
   cases hyc:y.op.isCall with
   | false =>
    have hcm:z6s x.op y.op=true:=hap2.resolve_right (by rw [hyc];simp)
    rw [z2n (by simp [cpN,hyc])] at H' ⊢
    obtain ⟨dj,ej,hgj,H'⟩:=H'
    obtain ⟨dj',ej',di',ei',g1,g2,g3,g4⟩:=y6j (ei:=.no) hap1 hcm hg hgj
    have hsm2:∀p∈x.op.opds,evS (z1u (ej'.onS σ) y.dst.slot dj') p=evS σ p:=fun p hp=>by
     rw [y8E (σ:=ej'.onS σ) (fun s hs=>by
      have hm:=z52 hp hs
      cases hyd:y.dst.slot with
      | none=>rfl
      | some t=>simp only [z1u,if_neg (fun e:s=t=>a2 t hyd (e ▸ hm))])]
     exact w1c (hsm p hp)
    have hno:=(z82 hf hgn (fun p hp=>by rw [hsm2 p hp];exact hsm p hp) g2).2
    subst hno
    refine ⟨dj',ej',g1,ih _ _ _ di' (hc.set hj) (ready_mono hi (Ne.symm hji)) hrest (fun p hp=>by rw [hsm2 p hp];exact hsm p hp) g2 ?_⟩
    have e3:z1u (z1u (ej'.onS σ) y.dst.slot dj') x.dst.slot di'=z1u (ej.onS (z1u σ x.dst.slot di)) y.dst.slot dj:=g3
    have e4:ej'.onH h=ej.onH h:=g4
    rw [e3,e4,Array.setIfInBounds_comm _ _ hji]
    exact H'
   | true =>
    cases hyo:y.op with
    | call f args =>
     have hlk:∀s∈y.looks,z1u σ x.dst.slot di s=σ s:=fun s hs=>by
      cases hxd:x.dst.slot with
      | none=>rfl
      | some t=>simp only [z1u,if_neg (fun e:s=t=>a1 t hxd (e ▸ hs))]
     unfold z4B at H' ⊢
     rw [if_neg (by omega)] at H' ⊢
     unfold z4C at H' ⊢
     rw [hyo] at H' ⊢
     simp only at H' ⊢
     rw [w0j hlk] at H'
     rcases H' with ⟨h1,h2⟩|⟨h1,h2⟩
     ·refine .inl ⟨h1,fun G L a w us hn hG hR hs hv=>?_⟩
      obtain ⟨vi,hvi⟩:=DV.sim_val hdi
      have hR':=hR.put (dst:=x.dst.slot) (V.imm (hvi w (Av G.S L))) (fun k hk=>by rw [hn];exact hdl k hk)
      refine (h2 G L _ w us hn hG hR' hs fun k d v e1 e2=>?_).mono ?_
      ·refine hv k d v ?_ e2
       rw [←e1]
       congr 1
       refine List.map_congr_left fun p hp=>(y8E fun s hs=>?_).symm
       exact hlk s (z52 (by rw [hyo];exact hp) hs)
      ·rintro e w' ⟨v,L',d,σ',h',rfl,hR2,hV,hsk,hk⟩
       obtain ⟨σ2,hσ2⟩:∃σ2:Nat→DV,σ2=fun s=>if x.dst.slot=some s then (if (σ s).sim then σ s else .undef) else σ' s:=⟨_,rfl⟩
       have hne:∀s,x.dst.slot≠some s→σ2 s=σ' s:=fun s hs=>by rw [hσ2];simp only [if_neg hs]
       have hsm':∀s,x.dst.slot≠some s→(σ s).sim=true→σ' s=σ s:=fun s hs h0=>by
        have e:z1u σ x.dst.slot di s=σ s:=by
         cases hxd:x.dst.slot with
         | none=>rfl
         | some t=>simp only [z1u,if_neg (fun e:s=t=>hs (by rw [hxd,e]))]
        have:=hsk s (by rw [e];exact h0)
        rw [this,e]
       have hxs:∀s,x.dst.slot=some s→σ' s=di:=fun s hs=>by
        have e:z1u σ x.dst.slot di s=di:=by rw [hs];simp [z1u]
        have:=hsk s (by rw [e];exact hdi)
        rw [this,e]
       have hops:∀p∈x.op.opds,evS (z1u σ2 y.dst.slot d) p=evS σ p:=fun p hp=>by
        cases p with
        | c d=>rfl
        | x k|t k =>
         have hm:=z52 hp rfl
         have h0:(σ k).sim=true:=hsm _ hp
         have h1:x.dst.slot≠some k:=fun e=>hself k e hm
         show z1u σ2 y.dst.slot d k=σ k
         have h3:σ2 k=σ k:=by rw [hne k h1,hsm' k h1 h0]
         cases hyd:y.dst.slot with
         | none=>exact h3
         | some t =>
          simp only [z1u,if_neg (fun e:k=t=>a2 t hyd (e ▸ hm))]
          exact h3
       refine ⟨v,L',d,σ2,h',rfl,hR2.unput hR.size hne (fun s hs=>?_),hV,fun s h0=>?_,?_⟩
       ·rw [hσ2];simp only [if_pos hs]
        split
        ·rename_i h0;exact w6R h0 (hR.slots s)
        ·exact .imm (.undef _)
       ·by_cases e:x.dst.slot=some s
        ·rw [hσ2];simp only [if_pos e,h0,if_true]
        ·rw [hne s e,hsm' s e h0]
       ·refine ih _ _ _ di (hc.set hj) (ready_mono hi (Ne.symm hji)) hrest (fun p hp=>by rw [hops p hp];exact hsm p hp) (hg.flat hf hgn hops) ?_
        rw [Array.setIfInBounds_comm _ _ hji]
        have:z1u (z1u σ2 y.dst.slot d) x.dst.slot di=z1u σ' y.dst.slot d:=by
         rw [z21 a3]
         congr 1
         funext s
         cases hxd:x.dst.slot with
         | none=>exact hne s (by rw [hxd];simp)
         | some t =>
          simp only [z1u]
          split
          ·rename_i e;subst e;exact (hxs s hxd).symm
          ·rename_i e;exact hne s (by rw [hxd];simp [Ne.symm e])
        rw [this]
        exact hk
     ·refine .inr ⟨h1,ih _ _ _ di (hc.set hj) (ready_mono hi (Ne.symm hji)) hrest (fun p hp=>by rw [hev σ _ (fun _ _=>rfl) p hp];exact hsm p hp) (hg.flat hf hgn (hev σ _ fun _ _=>rfl)) ?_⟩
      rw [Array.setIfInBounds_comm _ _ hji,z21 a3]
      exact h2
    | _=>rw [hyo] at hyc;cases hyc
def y3r (F:FnD) (ds:List DOper) (K:(Nat→DV)→Heap→Prop):IT→(Nat→DV)→Heap→Prop
 | .leaf,σ,h=>K σ h
 | .st k t,σ,h=>∃x,ds[k]? = some x∧z4C F x (y3r F ds K t) σ h
 | .fl k t,σ,h=>∃x,ds[k]? = some x∧(∀p∈x.op.opds,(evS σ p).sim=true)∧z4C F x (y3r F ds K t) σ h
 | .alt a b,σ,h=>y3r F ds K a σ h∧y3r F ds K b σ h
theorem x5E {i:Nat} {dp:DOper} {K:(Nat→DV)→Heap→Prop} {σ:Nat→DV} {h:Heap} (hs:z4C F dp K σ h):z4B F 0 i dp K σ h:=by
 unfold z4B;rw [if_neg (by omega)];exact hs
theorem x4E {ops:Array Oper} {ds:List DOper} {deps:List (List Nat)} {k:Nat} {listed:Array Bool} (hlen:ds.length=ops.size) (hdeps:∀k x,x∈deps.getD k []→Dep ops k x) (h:w5C ops ds deps k listed=true) {x:DOper} (hx:ds[k]? = some x) :
  x.op.isCall=false∧∀j y,ds[j]? = some y→j≠k→listed.getD j true=false→Dep ops j k∨(x.apart y=true∧z6s x.op y.op=true∧y.op.isCall=false):=by
 unfold w5C at h
 rw [hx] at h
 simp only [Bool.and_eq_true,Bool.not_eq_true',List.all_eq_true,List.mem_range] at h
 refine ⟨h.1,fun j y hy hjk hun=>?_⟩
 have:=h.2 j (by have:=(List.getElem?_eq_some_iff.1 hy).1;omega)
 rw [hun,hy] at this
 simp only [Bool.or_eq_true,beq_iff_eq,Bool.false_eq_true,or_false,Bool.and_eq_true,List.contains_iff_mem,Bool.not_eq_true'] at this
 rcases this with (h1|h1)|h1
 ·exact absurd h1 hjk
 ·exact .inl (hdeps _ _ h1)
 ·exact .inr ⟨h1.1.1,h1.1.2,h1.2⟩
theorem x4D {n:Nat} {ops:Array Oper} {ds:List DOper} {deps:List (List Nat)} {k:Nat} {listed:Array Bool} (hlen:ds.length=ops.size) (hdeps:∀k x,x∈deps.getD k []→Dep ops k x) (h:w5B n ops ds deps k listed=true) {x:DOper} (hx:ds[k]? = some x) :
  x.op.flatK=true∧x.guard=none∧(∀s,x.dst.slot=some s→s<n)∧(∀s,x.dst.slot=some s→s∉x.looks) ∧
  ∀ j y,ds[j]? = some y→j≠k→listed.getD j true=false→Dep ops j k∨(x.apart y=true∧(z6s x.op y.op=true∨y.op.isCall=true)):=by
 unfold w5B at h
 rw [hx] at h
 simp only [Bool.and_eq_true,List.all_eq_true,List.mem_range,Option.isNone_iff_eq_none] at h
 obtain ⟨⟨⟨⟨h1,h2⟩,h3⟩,h4⟩,h5⟩:=h
 refine ⟨h1,h2,z4j h3,fun s hs hm=>?_,fun j y hy hjk hun=>?_⟩
 ·rw [hs] at h4
  simp only [Bool.not_eq_true',List.contains_eq_mem,decide_eq_false_iff_not] at h4
  exact h4 hm
 ·have:=h5 j (by have:=(List.getElem?_eq_some_iff.1 hy).1;omega)
  rw [hun,hy] at this
  simp only [Bool.or_eq_true,beq_iff_eq,Bool.false_eq_true,or_false,Bool.and_eq_true,List.contains_iff_mem] at this
  rcases this with (h1|h1)|h1
  ·exact absurd h1 hjk
  ·exact .inl (hdeps _ _ h1)
  ·exact .inr h1
theorem x2e {ops:Array Oper} {ds:List DOper} {K:(Nat→DV)→Heap→Prop} {deps:List (List Nat)} (hdeps:∀k x,x∈deps.getD k []→Dep ops k x) (hlen:ds.length=ops.size) :
  ∀ (t:IT) (fuel:Nat) (listed:Array Bool) (σ:Nat→DV) (h:Heap),z2L ops listed→y3r F ds K t σ h →
   (t.ok F.n ops ds deps true fuel listed=true→x2c F 0 ops ds K fuel listed σ h) ∧
   (t.ok F.n ops ds deps false fuel listed=true→∀i∈t.heads,∃f x,fuel=f+1∧ds[i]? = some x∧i∈Region.ready .any ops listed∧z4C F x (x2c F 0 ops ds K f (listed.setIfInBounds i true)) σ h):=by
 intro t
 induction t with
 | leaf =>
  intro fuel listed σ h hc ht
  refine ⟨fun hk=>?_,fun hk=>?_⟩
  ·simp only [IT.ok,Bool.true_and,List.isEmpty_iff] at hk
   cases fuel with
   | zero=>exact ⟨hk,ht⟩
   | succ f=>exact ⟨fun _=>ht,fun i hi=>by rw [hk] at hi;cases hi⟩
  ·simp [IT.ok] at hk
 | st k t ih =>
  intro fuel listed σ h hc ht
  obtain ⟨x,hx,ht⟩:=ht
  cases fuel with
  | zero=>refine ⟨fun hk=>?_,fun hk=>?_⟩<;>simp [IT.ok] at hk
  | succ f =>
   refine ⟨fun hk=>?_,fun hk i hi=>?_⟩
   ·simp only [IT.ok,Bool.not_true,Bool.false_or,Bool.and_eq_true,Bool.or_eq_true,List.contains_iff_mem,List.all_eq_true,beq_iff_eq] at hk
    obtain ⟨⟨hr,hm⟩,hok⟩:=hk
    have hnext:∀σ h,y3r F ds K t σ h→x2c F 0 ops ds K f (listed.setIfInBounds k true) σ h:=fun σ h ht=>(ih f _ σ h (hc.set hr) ht).1 hok
    rcases hm with hm|hm
    ·obtain ⟨hxc,hall⟩:=x4E hlen hdeps hm hx
     rw [z5o hxc] at ht
     obtain ⟨d,ef,hg,ht⟩:=ht
     refine x0l hx (by simp [cpN,hxc]) f listed σ h d ef hc hr (fun j y hy hjk hun=>?_) hg (hnext _ _ ht)
     rcases hall j y hy hjk hun with h1|⟨h1,h2,h3⟩
     ·exact .inl h1
     ·exact .inr ⟨h1,h2,by simp [cpN,h3]⟩
    ·refine ⟨fun e=>(by rw [e] at hr;cases hr),fun j hj=>?_⟩
     obtain rfl:=hm j hj
     exact ⟨x,hx,x5E (z6Y hnext ht)⟩
   ·simp only [IT.ok,Bool.not_false,Bool.true_or,Bool.and_true,Bool.and_eq_true,List.contains_iff_mem] at hk
    obtain ⟨hr,hok⟩:=hk
    simp only [IT.heads,List.mem_singleton] at hi
    subst hi
    exact ⟨f,x,rfl,hx,hr,z6Y (fun σ h ht=>(ih f _ σ h (hc.set hr) ht).1 hok) ht⟩
 | fl k t ih =>
  intro fuel listed σ h hc ht
  obtain ⟨x,hx,hsm,ht⟩:=ht
  cases fuel with
  | zero=>refine ⟨fun hk=>?_,fun hk=>?_⟩<;>simp [IT.ok] at hk
  | succ f =>
   refine ⟨fun hk=>?_,fun hk=>by simp [IT.ok] at hk⟩
   simp only [IT.ok,Bool.true_and,Bool.and_eq_true,List.contains_iff_mem] at hk
   obtain ⟨⟨hr,hm⟩,hok⟩:=hk
   obtain ⟨h1,h2,h3,h4,h5⟩:=x4D hlen hdeps hm hx
   rw [z5o (z6A h1)] at ht
   obtain ⟨d,ef,hg,ht⟩:=ht
   obtain rfl:=(z82 h1 h2 hsm hg).2
   exact x2d hx h1 h2 h4 h3 f listed σ h d hc hr h5 hsm hg ((ih f _ _ _ (hc.set hr) ht).1 hok)
 | alt a b iha ihb =>
  intro fuel listed σ h hc ht
  obtain ⟨hta,htb⟩:=ht
  have key:a.ok F.n ops ds deps false fuel listed=true→b.ok F.n ops ds deps false fuel listed=true→∀i∈a.heads++b.heads,∃f x,fuel=f+1∧ds[i]? = some x∧i∈Region.ready .any ops listed∧z4C F x (x2c F 0 ops ds K f (listed.setIfInBounds i true)) σ h:=by
   intro ha hb i hi
   rcases List.mem_append.1 hi with h1|h1
   ·exact (iha fuel listed σ h hc hta).2 ha i h1
   ·exact (ihb fuel listed σ h hc htb).2 hb i h1
  refine ⟨fun hk=>?_,fun hk i hi=>?_⟩
  ·simp only [IT.ok,Bool.not_true,Bool.false_or,Bool.and_eq_true,List.all_eq_true,List.contains_iff_mem] at hk
   obtain ⟨⟨hall,ha⟩,hb⟩:=hk
   have hne:∃i,i∈a.heads++b.heads:=by
    have:∀(t:IT) (fu:Nat) (li:Array Bool),t.ok F.n ops ds deps false fu li=true→∃i,i∈t.heads:=by
     intro t
     induction t with
     | leaf=>intro fu li h;simp [IT.ok] at h
     | st k t _=>intro _ _ _;exact ⟨k,by simp [IT.heads]⟩
     | fl k t _=>intro _ _ _;exact ⟨k,by simp [IT.heads]⟩
     | alt a b iha _ =>
      intro fu li h
      simp only [IT.ok,Bool.not_false,Bool.true_or,Bool.true_and,Bool.and_eq_true] at h
      obtain ⟨i,hi⟩:=iha fu li h.1
      exact ⟨i,by simp [IT.heads,hi]⟩
    obtain ⟨i,hi⟩:=this a fuel listed ha
    exact ⟨i,List.mem_append.2 (.inl hi)⟩
   obtain ⟨i0,hi0⟩:=hne
   obtain ⟨f,_,rfl,_,hr0,_⟩:=key ha hb i0 hi0
   refine ⟨fun e=>(by rw [e] at hr0;cases hr0),fun i hi=>?_⟩
   obtain ⟨f',x,hf,hx,_,hs⟩:=key ha hb i (hall i hi)
   cases hf
   exact ⟨x,hx,x5E hs⟩
  ·simp only [IT.ok,Bool.not_false,Bool.true_or,Bool.true_and,Bool.and_eq_true] at hk
   exact key hk.1 hk.2 i hi
def x1m (F:FnD):DT→Fr→Fr→Hp→(Fr→Fr→Hp→Prop)→Prop
 | .leaf,te,fr,H,K=>K te fr H
 | .no,_,_,_,_=>False
 | .st o t,te,fr,H,K=>z1l F [o] te fr H fun te fr H=>x1m F t te fr H K
 | .fl o t,te,fr,H,K=>(o.op.opds.all fun p=>(ev te fr p).sim)=true∧z1l F [o] te fr H fun te fr H=>x1m F t te fr H K
 | .alt a b,te,fr,H,K=>x1m F a te fr H K∧x1m F b te fr H K
theorem x1n (hp:F.pure=false) {ds:List DOper} (htags:ds.all (·.tags F.vs)=true) {K:Fr→Fr→Hp→Prop}:∀(t:IT) (te fr:Fr) (H:Hp),x1m F (t.dt ds) te fr H K →
  y3r F ds (fun σ h=>∃te fr H,σ=den F.vs te fr∧h=lkH H∧K te fr H) t (den F.vs te fr) (lkH H):=by
 have one:∀(o:DOper) (k:Nat) (t:IT),ds[k]? = some o→(∀te fr H,x1m F (t.dt ds) te fr H K→y3r F ds (fun σ h=>∃te fr H,σ=den F.vs te fr∧h=lkH H∧K te fr H) t (den F.vs te fr) (lkH H)) →
   ∀ te fr H,(z1l F [o] te fr H fun te fr H=>x1m F (t.dt ds) te fr H K)→z4C F o (y3r F ds (fun σ h=>∃te fr H,σ=den F.vs te fr∧h=lkH H∧K te fr H) t) (den F.vs te fr) (lkH H):=by
  intro o k t ho ih te fr H h
  have hm:=List.mem_of_getElem? ho
  have h1:=y5h hp (n:=0) [o] 0 (Nat.le_refl _) (by simp only [List.all_cons,List.all_nil,Bool.and_true];exact List.all_eq_true.1 htags o hm) te fr H h
  have h2:z4B F 0 0 o (fun σ h=>∃te fr H,σ=den F.vs te fr∧h=lkH H∧x1m F (t.dt ds) te fr H K) (den F.vs te fr) (lkH H):=h1
  unfold z4B at h2
  rw [if_neg (by omega)] at h2
  refine z6Y (fun σ h hk=>?_) h2
  obtain ⟨te,fr,H,rfl,rfl,hk⟩:=hk
  exact ih te fr H hk
 intro t
 induction t with
 | leaf=>intro te fr H h;exact ⟨te,fr,H,rfl,rfl,h⟩
 | st k t ih =>
  intro te fr H h
  simp only [IT.dt] at h
  cases hk:ds[k]? with
  | none=>rw [hk] at h;exact h.elim
  | some o =>
   rw [hk] at h
   exact ⟨o,hk,one o k t hk ih te fr H h⟩
 | fl k t ih =>
  intro te fr H h
  simp only [IT.dt] at h
  cases hk:ds[k]? with
  | none=>rw [hk] at h;exact h.elim
  | some o =>
   rw [hk] at h
   refine ⟨o,hk,fun p hp=>?_,one o k t hk ih te fr H h.2⟩
   have h1:=List.all_eq_true.1 h.1 p hp
   have ht:=List.all_eq_true.1 htags o (List.mem_of_getElem? hk)
   simp only [DOper.tags,Bool.and_eq_true] at ht
   rw [z8X (List.all_eq_true.1 ht.1.2 p hp)] at h1
   exact h1
 | alt a b iha ihb=>intro te fr H h;exact ⟨iha te fr H h.1,ihb te fr H h.2⟩
theorem x8z {Q:Ex→Fr→Hp→Prop} {fr:Fr} {H:Hp} {t:DT} (hw:x1m F t [] fr H fun _ fr H=>Q .norm fr H) (hp:F.pure=false:=by rfl):W F (.rego t) Q fr H:=by
 intro code hc G L a w hn hR
 cases code<;>simp only [strip] at hc<;>first|(cases hc;done)|skip
 rename_i id ops draw
 split at hc
 ·rename_i ds hds
  split at hc
  ·rename_i hd
   subst hd
   split at hc
   ·cases hc
   split at hc
   ·cases hc
   split at hc
   ·cases hc
   split at hc
   ·rename_i hok
    cases hc
    simp only [Bool.and_eq_true] at hok
    obtain ⟨⟨_,hok⟩,hm⟩:=hok
    simp only [w7f,Bool.and_eq_true] at hok
    obtain ⟨⟨_,htags⟩,hok⟩:=hok
    refine wp_region_any hm ?_
    have hlen:ds.length=ops.size:=by rw [(z12 _ _ hds).1];simp
    have htree:=x1n hp htags _ _ _ _ hw
    have hany:=(x2e (F:=F) (deps:=z1W ops.toList []) (fun k x hx=>z2F ops.toList [] (fun j=>by simp) (fun k x hx=>by simp at hx) k x hx) hlen _ ops.size (Array.replicate ops.size false) _ _ (by
     intro j o hj _ e _ _
     simp [Array.getD_eq_getD_getElem?,Array.getElem?_replicate] at hj
     split at hj<;>simp at hj) htree).1 hok
    refine x0m (F:=F) (G:=G) (K:=fun σ h=>∃te fr' H',σ=den F.vs te fr'∧h=lkH H'∧Q .norm fr' H') hn hds ?_ ops.size _ _ _ L a _ (hR.still (w':={ w with drawn:=w.drawn+1 }) ⟨rfl,rfl,rfl,Nat.le_refl _,fun _ _ _=>rfl⟩) hany
    rintro σ h L a w hR' ⟨te,fr',H',rfl,rfl,hk⟩
    refine ⟨L,fr',H',.norm,hR'.weak fun s=>?_,rfl,hk⟩
    simp only [den,lk]
    split
    ·exact .inl rfl
    ·exact .inr rfl
   ·split at hc
    ·cases hc
     exact hw.1.elim
    ·cases hc
  ·cases hc
 ·cases hc
end
end Go.Dat
namespace Go.Dat
open Go
theorem x43 {F:FnD} (o:DOper) (os:List DOper) (te fr:Fr) (H:Hp) (K:Fr→Fr→Hp→Prop):z1l F (o::os) te fr H K=z1l F [o] te fr H fun te fr H=>z1l F os te fr H K:=by
 obtain ⟨dst,op,guard⟩:=o
 cases guard with
 | none=>cases op<;>rfl
 | some p =>
  obtain ⟨g,w⟩:=p
  simp only [z1l]
def DT.pre:DT→List DOper × DT
 | .st o t=>(o::t.pre.1,t.pre.2)
 | t=>([],t)
theorem z4Q {F:FnD}:∀(t:DT) (te fr:Fr) (H:Hp) (K:Fr→Fr→Hp→Prop),x1m F t te fr H K=z1l F t.pre.1 te fr H fun te fr H=>x1m F t.pre.2 te fr H K
 | .st o t,te,fr,H,K=>by
  simp only [DT.pre]
  rw [x43]
  show z1l F [o] te fr H (fun te fr H=>x1m F t te fr H K)=_
  congr 1
  funext te fr H
  exact z4Q t te fr H K
 | .leaf,_,_,_,_=>rfl
 | .no,_,_,_,_=>rfl
 | .fl _ _,_,_,_,_=>rfl
 | .alt _ _,_,_,_,_=>rfl
def WkD (d d':DV):Prop:=∀(w:World) (A:Nat→Prop) (v:Value),VI w A d v→VI w A d' v
theorem WkD.refl (d:DV):WkD d d:=fun _ _ _ h=>h
theorem WkD.nils (sz:Nat):WkD .nils (.sl sz []):=fun _ _ _ h=>by cases h;exact .sl0 _ _ _
inductive WkL:List DV→List DV→Prop where
 | nil:WkL [] []
 | cons {d d':DV} {r r':List DV} (h:WkD d d') (hr:WkL r r'):WkL (d::r) (d'::r')
theorem WkL.len:∀{xs ys:List DV},WkL xs ys→xs.length=ys.length
 | _,_,.nil=>rfl
 | _,_,.cons _ hr=>by rw [List.length_cons,List.length_cons,hr.len]
theorem WkL.at:∀{xs ys:List DV},WkL xs ys→∀{k:Nat} {d':DV},ys[k]? = some d'→∃d,xs[k]? = some d∧WkD d d'
 | _,_,.nil,_,_,h=>by simp at h
 | _,_,.cons h hr,0,_,e=>by simp at e;subst e;exact ⟨_,rfl,h⟩
 | _,_,.cons h hr,k+1,_,e=>by
  obtain ⟨d,h1,h2⟩:=hr.at (k:=k) (by simpa using e)
  exact ⟨d,by simpa using h1,h2⟩
theorem WkD.agg {xs ys:List DV} (h:WkL xs ys):WkD (.agg xs) (.agg ys):=fun w A v hv=>by
 have hl:=h.len
 cases hv with
 | agg hs hv =>
  refine .agg (by rw [←hl];exact hs) fun k d' u hk hu=>?_
  obtain ⟨d,h1,h2⟩:=h.at hk
  exact h2 w A _ (hv k d u h1 hu)
theorem z5t {P:Program} {f:Nat} {ds ds':List DV} {r:DV} (h:WkL ds ds') (hc:z0c P f ds' r):z0c P f ds r:=by
 intro A w us hT hA hs hv
 refine hc A w us hT hA (by rw [←h.len];exact hs) fun k d' v h1 h2=>?_
 obtain ⟨d,e1,e2⟩:=h.at h1
 exact e2 w A v (hv k d v e1 h2)
def z2e (o:Nat) (cells:List DV):DV→DV
 | .ptr p k=>if p=o then (if cells≠[] then .el cells k else .undef) else .ptr p k
 | d=>frz o cells d
theorem y1n (o:Nat) (cells:List DV):z2e o cells .undef=.undef:=by simp [z2e,frz,purge]
theorem R.freezeP {G:Cx} {L:Nat→Option Nat} {σ:Nat→DV} {h:Heap} {a:Act} {w:World} (o:Nat) (hK:G.K o=none) {cells:List DV} (ho:h o=some cells) (hrf:cells.all DV.rf=true) (hR:R G L σ h a w) :
  R G (z1O L o none) (fun s=>z2e o cells (σ s)) (fun p=>if p=o then none else (h p).map (·.map (frz o cells))) a w:=by
 have hinv:∀p b,z1O L o none p=some b→p≠o∧L p=some b:=fun p b hp=>by
  unfold z1O at hp;by_cases e:p=o
  ·rw [if_pos e] at hp;cases hp
  ·rw [if_neg e] at hp;exact ⟨e,hp⟩
 have hAA:∀b,¬Av G.S L b→¬Av G.S (z1O L o none) b:=by
  rintro b hA (hS|⟨p,hp⟩)
  ·exact hA (.inl hS)
  ·exact hA (.inr ⟨p,(hinv p b hp).2⟩)
 have hF:=hR.freeze o hK ho hrf
 refine { hF with slots:=fun s=>?_ }
 have h0:=hR.slots s
 have h1:=hF.slots s
 cases hs:σ s with
 | ptr p k =>
  rw [hs] at h0 h1
  simp only [z2e]
  by_cases hp:p=o
  ·subst hp
   rw [if_pos rfl]
   split
   ·rename_i hne
    obtain ⟨b,hL,hv0⟩:=h0.inv_ptr
    rw [hv0]
    ·obtain ⟨cells',cur,T',hho,hb,hl',hpp⟩:=hR.heap.at_ hL
     rw [ho] at hho;cases hho
     have hnb:¬Av G.S (z1O L p none) b:=by
      rintro (h1|⟨q,h1⟩)
      ·exact hR.heap.notS p b hL h1
      ·obtain ⟨h2,h3⟩:=hinv q b h1
       exact h2 (hR.heap.inj q p b h3 hL)
     have hget:∀j d,cells[j]? = some d→∃u,cur[j]? = some u∧VI w (Av G.S (z1O L p none)) d u:=fun j d hj=>by
      obtain ⟨u,hu⟩:=z0w (l:=cur) (k:=j) (by have:=(List.getElem?_eq_some_iff.1 hj).1;omega)
      exact ⟨u,hu,((hpp j d u hj hu).rf_imm (List.all_eq_true.1 hrf d (List.mem_of_getElem? hj))).mono fun b _ hA=>⟨rfl,hAA b hA⟩⟩
     have hv:=VI.el (w:=w) (A:=Av G.S (z1O L p none)) (xs:=cells) (i:=k) (ad:=⟨b,0,none⟩) (fun j=>(cur[j]?).getD Go.undef) hne hnb (fun j d hj=>by
      obtain ⟨u,hu,_⟩:=hget j d hj
      rw [add_lit,cell_of_row w b _ cur T' (0,0) hb,Nat.zero_add,hu];rfl) (fun j d hj=>by
      obtain ⟨u,hu,hv'⟩:=hget j d hj
      rw [hu];exact hv')
     rw [add_lit,Nat.zero_add] at hv
     exact .imm hv
   ·exact .imm (.undef _)
  ·rw [if_neg hp]
   have:frz o cells (.ptr p k)=.ptr p k:=by simp [frz,purge,DV.has,hp]
   rw [this] at h1;exact h1
 | _=>rw [hs] at h1;exact h1
theorem z1P {F:FnD} {c:DC} {Q:Ex→Fr→Hp→Prop} {fr:Fr} {H:Hp} (o:Nat) {cells:List DV} (ho:lkH H o=some cells) (hrf:cells.all DV.rf=true)
  (hw:W F c Q (z0J (z2e o cells) fr) (rmH o cells H)) (hlt:o<1048576:=by decide):W F c Q fr H:=by
 intro code hc G L a w hn hR
 have h1:=hR.freezeP o (hR.keep_none hlt) ho hrf
 have e1:(fun s=>z2e o cells (den F.vs [] fr s))=den F.vs [] (z0J (z2e o cells) fr):=by
  funext s
  simp only [den,z4p _ (y1n o cells),lk]
  split
  ·rfl
  ·exact y1n o cells
 have e2:(fun p=>if p=o then none else (lkH H p).map (·.map (frz o cells)))=lkH (rmH o cells H):=by
  funext p;rw [y2M]
 rw [e1,e2] at h1
 exact hw code hc G _ a w hn h1
theorem y0D {F:FnD} {os:List DOper} {dst:Dst} {f:Nat} {ds:List DV} {te fr:Fr} {H:Hp} {K:Fr→Fr→Hp→Prop} (o:Nat) {m z n:Nat} {cs:List DV}
  (hc:y7S F.P f ds [] fun r H'=>r=.osl z m 0 n∧H'=[(m,cs)]) (hp:F.pure=false) (hcs:∀d∈cs,d.rf=true) (hmm:y0x m) (hto:y0x o) (hlt:o<1048576) (ho:lkH H o=none) (ha:∀d∈ds,d.rf=true)
  (hK:z1l F os (dst.onT te (.osl z o 0 n)) (dst.onX fr (.osl z o 0 n)) (z0N H o cs) K):z4d F os dst f ds te fr H K:=by
 refine z5x hp (x83 m o) (x0n m o) (fbn m o) (fun p q h1 h2=>?_) (fun p q h1=>(by unfold x83 at h1;split at h1<;>cases h1;subst p;exact hto.eq hmm)) (Hc:=[]) (fun q=>?_) (by rw [y41 _ ha];exact hc) ?_
 ·unfold x83 at h1;split at h1
  ·omega
  ·cases h1
 ·unfold x0n
  by_cases e:q=m
  ·rw [if_pos e,Option.bind_some,ho];rfl
  ·rw [if_neg e,Option.bind_none];rfl
 ·rintro r Hc' ⟨rfl,rfl⟩
  refine ⟨z0N H o cs,fun p=>?_,?_⟩
  ·rw [z1f]
   unfold x83
   by_cases e:p=o
   ·subst e
    simp only [if_true,x4A,Option.map_some,y41 _ hcs]
   ·rw [if_neg e]
    simp only [if_neg e]
    exact w55 (pgn ho) p
  ·rw [z9w (pgn ho),z9w (pgn ho),rn]
   have e:x0n m o m=some o:=by unfold x0n;rw [if_pos rfl]
   rw [e]
   exact hK
def x0u (o p:Nat):Option Nat:=if p=o then none else some p
def x3y (o p:Nat):Option Nat:=if p=o then some 1000 else none
def w5P (o p:Nat):Option Nat:=if p=1000 then some o else none
theorem x6k {F:FnD} {os:List DOper} {dst:Dst} {f:Nat} {ds:List DV} {te fr:Fr} {H:Hp} {K:Fr→Fr→Hp→Prop} (hp:F.pure=false) (o:Nat) (args:List DV) (R:DV) {c1:List DV} (ho:o<100000) (h1:lkH H o=some c1)
  (hr1:∀d∈c1,d.rf=true) (hR:R.rf=true) (ha:ds.map (rn (x3y o))=args)
  (hc:y7S F.P f args [(1000,c1)] fun r H'=>r=R∧H'=[]) (H2:Hp) (hH2:∀p,lkH H2 p=if p=o then none else (lkH H p).map (List.map (rn (x0u o))))
  (hK:z1l F os (dst.onT (z0J (rn (x0u o)) te) R) (dst.onX (z0J (rn (x0u o)) fr) R) H2 K):z4d F os dst f ds te fr H K:=by
 subst ha
 have fn:∀p,p≠o→x3y o p=none:=fun p h1=>by simp [x3y,h1]
 have hg:pgN H (x3y o)=x0u o:=funext fun p=>by
  unfold pgN x0u
  by_cases e:p=o
  ·subst e;simp [x3y,h1]
  ·rw [fn p e,if_neg e]
 refine z5x hp (x3y o) (w5P o) (fun p r=>?_) (fun p r h1 h2=>?_) (fun p r h1=>?_) (Hc:=[(1000,c1)]) (fun r=>?_) hc ?_
 ·unfold x3y w5P
  constructor
  ·intro h;split at h
   ·cases h;rename_i e;subst e;simp
   ·cases h
  ·intro h;split at h
   ·cases h;rename_i e;subst e;simp
   ·cases h
 ·unfold x3y at h1
  split at h1
  ·omega
  ·cases h1
 ·unfold x3y at h1
  split at h1
  ·cases h1;refine y0x.eq ?_ ?_<;>(unfold y0x;omega)
  ·cases h1
 ·simp only [lkH,w5P]
  by_cases e:r=1000
  ·subst e
   rw [if_pos rfl,if_pos rfl,Option.bind_some,h1,Option.map_some,y41 _ hr1]
  ·rw [if_neg (Ne.symm e),if_neg e];rfl
 ·rintro r Hc' ⟨rfl,rfl⟩
  refine ⟨H2,fun p=>?_,?_⟩
  ·rw [hH2]
   by_cases e:p=o
   ·subst e;rw [if_pos rfl];simp [x3y,lkH]
   ·rw [if_neg e,fn p e,hg]
  ·rw [hg,z5m _ _ hR];exact hK
theorem y1W {k o z n:Nat} {fr:Fr} {H:Hp} {cs:List DV} (h:lk fr k=.osl z o 0 n) (hH:lkH H o=some cs) (hr:∀d∈cs,d.rf=true):x9J [.t k] [] (fun r H'=>r=.osl z o 0 n∧H'=[(o,cs)]) .ret fr H:=by
 refine ⟨.inr rfl,[lk fr k],.osl z o 0 n,[(o,cs)],⟨rfl,rfl⟩,fun o h1 h2=>(by cases h2),rfl,?_,fun p c h=>?_⟩
 ·show rn _ (lk fr k)=_
  rw [h,rn]
  have:nmH [(o,cs)] o=some o:=by simp [nmH,lkH]
  rw [this]
 ·rw [x4A] at h
  split at h
  ·rename_i e;subst e;cases h
   exact ⟨cs,hH,y41 _ hr⟩
  ·cases h
def gdd {α:Type} (c:Prop) [Decidable c] (x:Option α):Option α:=if c then x else none
theorem x0t {α:Type} (c:Prop) [Decidable c] (x:Option α):gd c x=gdd c x:=by
 unfold gd gdd
 by_cases h:c<;>simp [h]
def w5N (op:BinOp):DV→DV→Option DV
 | .int k a,.int j b=>match op with
  | .add=>gdd (k=j) (some (.int k (k.wrap (a+b))))
  | .sub=>gdd (k=j) (some (.int k (k.wrap (a - b))))
  | .mul=>gdd (k=j) (some (.int k (k.wrap (a*b))))
  | .quo=>gdd (k=j∧b≠0) (some (.int k (k.wrap (a.tdiv b))))
  | .rem=>gdd (k=j∧b≠0) (some (.int k (a.tmod b)))
  | .and=>gdd (k=j) (some (.int k (z24 .and k a b)))
  | .or=>gdd (k=j) (some (.int k (z24 .or k a b)))
  | .xor=>gdd (k=j) (some (.int k (z24 .xor k a b)))
  | .andNot=>gdd (k=j) (some (.int k (z24 .andNot k a b)))
  | .shl=>gdd (0≤b) (some (.int k (k.wrap (a*2 ^ (min b.toNat k.bits)))))
  | .shr=>gdd (0≤b) (some (.int k (a.fdiv (2 ^ (min b.toNat k.bits)))))
  | .eql=>gdd (k=j) (some (.bool (decide (a=b))))
  | .neq=>gdd (k=j) (some (.bool (decide (¬a=b))))
  | .lss=>gdd (k=j) (some (.bool (decide (a<b))))
  | .leq=>gdd (k=j) (some (.bool (decide (a≤b))))
  | .gtr=>gdd (k=j) (some (.bool (decide (b<a))))
  | .geq=>gdd (k=j) (some (.bool (decide (b≤a))))
 | .str a,.str b=>match op with
  | .add=>gdd (a.length+b.length≤9223372036854775807) (some (.str (a++b)))
  | .eql=>some (.bool (decide (a=b)))
  | .neq=>some (.bool (decide (¬a=b)))
  | _=>none
 | _,_=>none
theorem x9P {op:BinOp} {a b r:DV} (h:w5N op a b=some r):z0V op a b=some r:=by
 unfold w5N at h
 unfold z0V
 split at h
 ·cases op<;>simpa only [x0t] using h
 ·cases op<;>first|simpa only [x0t] using h|(cases h;done)
 ·cases h
section
variable (nb:Nat) (dst:Option Nat) (e:Opd→DV) (h:Heap)
def z4V (n:Nat):Option Opd→Nat→Option Nat
 | none,d=>some d
 | some x,_=>match e x with
  | .int _ i=>gdd (0≤i∧i≤n) (some i.toNat)
  | _=>none
theorem x2j (n:Nat) (x:Option Opd) (d:Nat):z0j e n x d=z4V e n x d:=by
 cases x with
 | none=>rfl
 | some x =>
  simp only [z0j,z4V,x0t]
  rfl
def x7i (sz:Nat):DV→Option (List DV)
 | .sl s ys=>gdd (s=sz) (some ys)
 | .nils=>some []
 | .osl s o off len=>(h o).bind fun cs=>gdd (s=sz∧off+len*sz≤cs.length) (some ((cs.drop off).take (len*sz)))
 | _=>none
theorem x7j (sz:Nat) (d:DV):z0t h sz d=x7i h sz d:=by
 cases d<;>simp only [z0t,x7i,x0t]
def opC:DOp→Option (DV × Eff)
 | .mv x=>some (e x,.no)
 | .pick c a b=>match e c with
  | .bool t=>some (if t then e a else e b,.no)
  | _=>none
 | .alloc z=>(z0m nb dst h).map fun o=>(.ptr o 0,.new o z)
 | .box x=>(e x).cells?.bind fun cs=>(z0m nb dst h).map fun o=>(.ptr o 0,.new o cs)
 | .build z ps=>(laid z (ps.map fun p=>(p.1,p.2.1,e p.2.2))).map fun cs=>(.agg cs,.no)
 | .bsl sz z ps=>(laid z (ps.map fun p=>(p.1,p.2.1,e p.2.2))).bind fun cs=>gdd (∀d∈cs,d.rf=true) (some (.sl sz cs,.no))
 | .bsl' sz z ps=>(laid z (ps.map fun p=>(p.1,p.2.1,e p.2.2))).bind fun cs=>(z0m nb dst h).map fun o=>(.osl sz o 0 (cnt sz z),.new o cs)
 | .ld x=>match e x with
  | .el xs i=>gdd (i<xs.length) (some (xs.getD i .undef,.no))
  | .ptr o off=>(h o).bind fun cs=>gdd (off<cs.length) (some (cs.getD off .undef,.no))
  | _=>none
 | .ldn n x=>match e x with
  | .el xs i=>gdd (i+n≤xs.length) (some (.agg ((xs.drop i).take n),.no))
  | .ptr o off=>(h o).bind fun cs=>gdd (off+n≤cs.length) (some (.agg ((cs.drop off).take n),.no))
  | _=>none
 | .st x v=>match e x with
  | .ptr o off=>(h o).bind fun cs=>gdd ((e v).one=true∧off<cs.length) (some (.tup [],.set o (cs.set off (e v))))
  | _=>none
 | .stn n x v=>match e x with
  | .ptr o off=>(h o).bind fun cs=>(e v).cells?.bind fun cv=>gdd (cv.length=n∧off+n≤cs.length) (some (.tup [],.set o (cs.take off++cv++cs.drop (off+n))))
  | _=>none
 | .nilc x=>match e x with
  | .ptr o off=>some (.ptr o off,.no)
  | .el xs i=>some (.el xs i,.no)
  | _=>none
 | .bin op x y=>(w5N op (e x) (e y)).map fun d=>(d,.no)
 | .beq neg x y=>match e x,e y with
  | .bool a,.bool b=>some (.bool (if neg then !(a == b) else a == b),.no)
  | _,_=>none
 | .un op x=>(unE op (e x)).map fun d=>(d,.no)
 | .eqs neg l x y=>match e x,e y with
  | .agg cs,.agg ds=>(x6B cs ds l).map fun b=>(.bool (if neg then !b else b),.no)
  | _,_=>none
 | .conv k x=>match e x with
  | .int _ n=>some (.int k (k.wrap n),.no)
  | _=>none
 | .s2b x=>match e x with
  | .str l=>some (.sl 1 (l.map z4S),.no)
  | _=>none
 | .b2s x=>match e x with
  | .nils=>some (.str [],.no)
  | .sl sz xs=>gdd (sz=1) ((bytesOf xs).map fun l=>(.str l,.no))
  | .osl sz o off len=>(h o).bind fun cs=>gdd (sz=1∧off+len≤cs.length) ((bytesOf ((cs.drop off).take len)).map fun l=>(.str l,.no))
  | _=>none
 | .mks sz bytes z l c=>match e l,e c with
  | .int _ a,.int _ b=>gdd (0≤a∧a≤b∧b*bytes≤281474976710656) ((z0m nb dst h).map fun o=>(.osl sz o 0 a.toNat,.new o (rep a.toNat z)))
  | _,_=>none
 | .slc sz x lo hi=>match e x with
  | .sl s xs=>gdd (s=sz) ((z4V e (cnt sz xs) hi (cnt sz xs)).bind fun b=>(z4V e b lo 0).map fun a=>(.sl sz ((xs.take (b*sz)).drop (a*sz)),.no))
  | .osl s o off len=>gdd (s=sz) ((z4V e len hi len).bind fun b=>(z4V e b lo 0).bind fun a=>gdo a b (some (.osl sz o (off+a*sz) (b - a),.no)) (some (.sl sz [],.no)))
  | .nils=>(z4V e 0 hi 0).bind fun b=>(z4V e b lo 0).map fun _=>(.nils,.no)
  | _=>none
 | .slcS x lo hi=>match e x with
  | .str l=>(z4V e l.length hi l.length).bind fun b=>(z4V e b lo 0).map fun a=>(.str ((l.take b).drop a),.no)
  | _=>none
 | .fad off x=>match e x with
  | .ptr o k=>some (.ptr o (k+off),.no)
  | .el xs i=>some (.el xs (i+off),.no)
  | _=>none
 | .fld off x=>match e x with
  | .agg cs=>gdd (off<cs.length) (some (cs.getD off .undef,.no))
  | _=>none
 | .fldn off n x=>match e x with
  | .agg cs=>gdd (off+n≤cs.length) (some (.agg ((cs.drop off).take n),.no))
  | _=>none
 | .iad sz x i=>match e x,e i with
  | .sl s xs,.int _ n=>gdd (s=sz∧0≤n∧(n.toNat+1)*sz≤xs.length) (some (.el xs (n.toNat*sz),.no))
  | .osl s o off len,.int _ n=>gdd (s=sz∧0≤n∧n<len) (some (.ptr o (off+n.toNat*sz),.no))
  | _,_=>none
 | .idx x i=>match e x,e i with
  | .str l,.int _ n=>gdd (0≤n∧n.toNat<l.length) (some (z4S (l.getD n.toNat 0),.no))
  | _,_=>none
 | .ext x i=>match e x with
  | .tup ds=>gdd (i<ds.length) (some (ds.getD i .undef,.no))
  | _=>none
 | .s2s x=>match e x with
  | .str l=>some (.str l,.no)
  | .int _ n=>gdd (0≤n∧n<128) (some (.str [UInt8.ofNat n.toNat],.no))
  | _=>none
 | .clr sz z x=>match e x with
  | .osl s o off len=>(h o).bind fun cs=>gdd (s=sz∧off+len*sz≤cs.length) (some (.tup [],.set o (cs.take off++rep len z++cs.drop (off+len*sz))))
  | _=>none
 | .lenS x=>match e x with
  | .str l=>some (.int .i64 l.length,.no)
  | _=>none
 | .len sz x=>match e x with
  | .sl s xs=>gdd (s=sz) (some (.int .i64 (cnt sz xs),.no))
  | .osl _ _ _ n=>some (.int .i64 n,.no)
  | .nils=>some (.int .i64 0,.no)
  | _=>none
 | .app te sz bytes s x=>match e s with
  | .nils=>(x7i h sz (e x)).bind fun ys=>gdd (ys.length*bytes≤140737488355328∧ys.length≤9223372036854775807∧∀d∈ys,d.one=true)
    ((z0m nb dst h).map fun o=>(.osl sz o 0 (cnt sz ys),.app o (ys.map (purge o))))
  | .osl s' o off len=>(h o).bind fun cs=>(x7i h sz (e x)).bind fun ys =>
    gdd (s'=sz∧off=0∧cs.length=len*sz∧(cs.length+ys.length)*bytes≤140737488355328∧cs.length+ys.length≤9223372036854775807∧o<1048576∧(786432≤o∧o<851968→te=(o - 786432) / 16)∧∀d∈ys,d.one=true)
     (some (.osl sz o 0 (len+cnt sz ys),.app o ((cs++ys).map (purge o))))
  | _=>none
 | .min2 x y=>match e x,e y with
  | .int k a,.int _ b=>some (.int k (if b<a then b else a),.no)
  | _,_=>none
 | .max2 x y=>match e x,e y with
  | .int k a,.int _ b=>some (.int k (if b > a then b else a),.no)
  | _,_=>none
 | .isnil neg x=>match e x with
  | .nils=>some (.bool (!neg),.no)
  | .sl _ xs=>gdd (xs≠[]) (some (.bool neg,.no))
  | .osl _ _ _ n=>gdd (n≠0) (some (.bool neg,.no))
  | _=>none
 | .boxi x=>(e x).cells?.bind fun cs=>if !cs.isEmpty && cs.all DV.rf then some (.el cs 0,.no) else none
 | .mkf f ps=>gdd (∀d∈ps.map e,d.rf=true) (some (.clo f (ps.map e),.no))
 | _=>none
theorem x9l {p:DOp} {r:DV × Eff} (hr:opC nb dst e h p=some r):opE nb dst e h p=some r:=by
 cases p with
 | bin op x y =>
  simp only [opC,zO2] at hr
  obtain ⟨d,hd,rfl⟩:=hr
  simp only [opE,x9P hd,Option.map_some]
 | boxi x =>
  simp only [opC,zO3] at hr
  obtain ⟨cs,h1,h2⟩:=hr
  split at h2
  ·rename_i hc
   cases h2
   simp only [Bool.and_eq_true,Bool.not_eq_true',List.all_eq_true] at hc
   have hne:cs≠[]:=fun e=>by rw [e] at hc;cases hc.1
   simp only [opE,h1,Option.bind_some,x0t,gdd]
   rw [if_pos ⟨hne,hc.2⟩]
  ·cases h2
 | isnil neg x =>
  revert hr
  simp only [opC,opE]
  cases e x<;>simp only [gd,gdd]<;>intro h<;>first|exact h|(split at h<;>first|(cases h;done)|(rename_i hc;rw [if_pos hc];exact h))
 | _=>first|(cases hr;done)|(simp only [opC] at hr;simp only [opE,x0t,x2j,x7j];exact hr)
end
end Go.Dat
namespace Go.Dat
open Go
def look (ps:List (Nat × Nat)) (p:Nat):Option Nat:=match ps with
 | []=>none
 | (a,b)::r=>if a=p then some b else look r p
def z1N (ps:List (Nat × Nat)) (q:Nat):Option Nat:=match ps with
 | []=>none
 | (a,b)::r=>if b=q then some a else z1N r q
def z3f:List (Nat × Nat)→Bool
 | []=>true
 | (a,b)::r=>(look r a).isNone && (z1N r b).isNone && z3f r
theorem z95 {q:Nat}:∀{ps:List (Nat × Nat)},z1N ps q=none→∀p,look ps p≠some q
 | [],_,p,h=>by cases h
 | (a,b)::r,h,p,h2=>by
  simp only [z1N] at h
  split at h
  ·cases h
  ·simp only [look] at h2
   split at h2
   ·cases h2;contradiction
   ·exact z95 h p h2
theorem y40 {p:Nat}:∀{ps:List (Nat × Nat)},look ps p=none→∀q,z1N ps q≠some p
 | [],_,q,h=>by cases h
 | (a,b)::r,h,q,h2=>by
  simp only [look] at h
  split at h
  ·cases h
  ·simp only [z1N] at h2
   split at h2
   ·cases h2;contradiction
   ·exact y40 h q h2
theorem z2u {ps:List (Nat × Nat)} (h:z3f ps=true) (p q:Nat):look ps p=some q↔z1N ps q=some p:=by
 induction ps with
 | nil=>simp [look,z1N]
 | cons x r ih =>
  obtain ⟨a,b⟩:=x
  simp only [z3f,Bool.and_eq_true,Option.isNone_iff_eq_none] at h
  obtain ⟨⟨h1,h2⟩,h3⟩:=h
  simp only [look,z1N]
  by_cases e1:a=p<;>by_cases e2:b=q
  ·rw [if_pos e1,if_pos e2,e1,e2];simp
  ·rw [if_pos e1,if_neg e2]
   subst e1
   constructor
   ·intro h;cases h;contradiction
   ·intro h;exact absurd h (y40 h1 q)
  ·rw [if_neg e1,if_pos e2]
   subst e2
   constructor
   ·intro h;exact absurd h (z95 h2 p)
   ·intro h;cases h;contradiction
  ·rw [if_neg e1,if_neg e2];exact ih h3
def rnM (f:Nat→Option Nat) (cs:List DV):List DV:=cs.map (rn f)
def x44 (f:Nat→Option Nat):List (Nat × Nat)→Hp→Hp
 | [],_=>[]
 | (a,b)::r,H=>z0N (x44 f r H) b (rnM f ((lkH H a).getD []))
theorem z4J (f:Nat→Option Nat) (H:Hp):∀(ps:List (Nat × Nat)) (q:Nat),lkH (x44 f ps H) q=(z1N ps q).map fun p=>rnM f ((lkH H p).getD [])
 | [],q=>rfl
 | (a,b)::r,q=>by
  simp only [x44,z1f,z1N,eq_comm (a:=q)]
  split
  ·rfl
  ·exact z4J f H r q
def z3t:Hp→List Nat
 | []=>[]
 | (o,_)::r=>o::z3t r
theorem z2s {H:Hp} {o:Nat}:(lkH H o).isSome=true↔o∈z3t H:=by
 induction H with
 | nil=>simp [lkH,z3t]
 | cons x r ih =>
  obtain ⟨k,c⟩:=x
  simp only [lkH,z3t,List.mem_cons]
  by_cases e:k=o
  ·subst e;simp
  ·rw [if_neg e,ih]
   constructor
   ·exact .inr
   ·rintro (h|h)
    ·exact absurd h.symm e
    ·exact h
theorem z50 {g:Nat→Nat} {o:Nat}:∀{l:List Nat},o∈l→∃q,look (l.map fun o=>(o,g o)) o=some q∧q=g o
 | a::l,h=>by
  simp only [List.map_cons,look]
  by_cases e:a=o
  ·rw [if_pos e];exact ⟨_,rfl,by rw [e]⟩
  ·rw [if_neg e]
   refine z50 ?_
   rcases List.mem_cons.1 h with h|h
   ·exact absurd h.symm e
   ·exact h
theorem z19 {g:Nat→Nat} {o:Nat}:∀{l:List Nat},o∉l→look (l.map fun o=>(o,g o)) o=none
 | [],_=>rfl
 | a::l,h=>by
  simp only [List.map_cons,look]
  rw [if_neg (fun e=>h (by rw [e];exact List.mem_cons_self))]
  exact z19 fun h2=>h (List.mem_cons_of_mem _ h2)
def z7C (k:Nat):List Nat→List (Nat × Nat)
 | []=>[]
 | o::r=>if o<1000 then (o,k)::z7C (k+1) r else (o,o)::z7C k r
def w1f (ps:List (Nat × Nat)):Bool:=ps.all fun p=>decide (p.1=p.2) || (decide (p.1<786432) && decide (p.2<786432))
theorem y2N {p q:Nat}:∀{ps:List (Nat × Nat)},look ps p=some q→(p,q)∈ps
 | (a,b)::r,h=>by
  simp only [look] at h
  split at h
  ·rename_i e;subst e;cases h;exact List.mem_cons_self
  ·exact List.mem_cons_of_mem _ (y2N h)
theorem w2Y {F:FnD} {c:DC} {Q:Ex→Fr→Hp→Prop} {fr:Fr} {H:Hp} (ps:List (Nat × Nat)) (hp:z3f ps=true) (hb:w1f ps=true) (hd:∀o,(lkH H o).isSome=true→(look ps o).isSome=true) (hd2:∀o,(look ps o).isSome=true→(lkH H o).isSome=true)
  (h:W F c Q (z0J (rn (look ps)) fr) (x44 (look ps) ps H)):W F c Q fr H:=by
 intro code hc G L a w hn hR
 obtain ⟨L',hL'⟩:∃L':Nat→Option Nat,L'=fun q=>(z1N ps q).bind L:=⟨_,rfl⟩
 have e1:∀q b,L' q=some b→∃p,look ps p=some q∧L p=some b:=fun q b hq=>by
  rw [hL'] at hq
  simp only [zO3] at hq
  obtain ⟨p,hp1,hp2⟩:=hq
  exact ⟨p,(z2u hp p q).2 hp1,hp2⟩
 have e2:∀p q b,look ps p=some q→L p=some b→L' q=some b:=fun p q b h1 h2=>by
  rw [hL']
  simp only [(z2u hp p q).1 h1,Option.bind_some,h2]
 have hAv:∀b,Av G.S L' b→Av G.S L b:=by
  rintro b (hS|⟨q,hq⟩)
  ·exact .inl hS
  ·obtain ⟨p,_,h2⟩:=e1 q b hq
   exact .inr ⟨p,h2⟩
 have hV:∀d v,V w L (Av G.S L) d v→V w L' (Av G.S L') (rn (look ps) d) v:=fun d v hv=>hv.rn (look ps) hAv e2
 have hpq:∀p q,look ps p=some q→p=q∨(p<786432∧q<786432):=fun p q h=>by
  have:=List.all_eq_true.1 hb _ (y2N h)
  simpa using this
 refine h code hc G L' a w hn ⟨hR.size,hR.defers,fun s=>?_,⟨?_,?_,?_,?_,?_⟩,hR.ext,hR.sLt,?_,?_,hR.shp⟩
 ·have h1:=hV _ _ (hR.slots s)
  have e:den F.vs [] (z0J (rn (look ps)) fr) s=rn (look ps) (den F.vs [] fr s):=by
   simp only [den,z4p _ (y28 _)]
   split
   ·rfl
   ·simp only [lk,y28]
  rw [e];exact h1
 ·intro q b hq
  obtain ⟨p,h1,h2⟩:=e1 q b hq
  exact ⟨_,by rw [z4J,(z2u hp p q).1 h1];rfl⟩
 ·intro q cells hq
  rw [z4J,zO2] at hq
  obtain ⟨p,hp1,rfl⟩:=hq
  have hlp:=(z2u hp p q).2 hp1
  obtain ⟨cs,hcs⟩:=Option.isSome_iff_exists.1 (hd2 p (by rw [hlp];rfl))
  rw [hcs,Option.getD_some]
  rcases hR.heap.obj p cs hcs with ⟨h1,h2⟩|⟨b,us,T,h1,h2,h3,h4⟩
  ·refine .inl ⟨?_,by rw [h2];rfl⟩
   rw [hL']
   simp only [hp1,Option.bind_some,h1]
  ·refine .inr ⟨b,us,T,e2 p q b hlp h1,h2,by unfold rnM;simpa using h3,fun k d v g1 g2=>?_⟩
   unfold rnM at g1
   rw [List.getElem?_map,zO2] at g1
   obtain ⟨d0,hd0,rfl⟩:=g1
   exact hV _ _ (h4 k d0 v hd0 g2)
 ·intro q q' b hq hq'
  obtain ⟨p,h1,h2⟩:=e1 q b hq
  obtain ⟨p',h3,h4⟩:=e1 q' b hq'
  have:=hR.heap.inj p p' b h2 h4
  subst this
  rw [h1] at h3;exact Option.some.inj h3
 ·intro q b hq
  obtain ⟨p,_,h2⟩:=e1 q b hq
  exact hR.heap.notS p b h2
 ·intro q b hq
  obtain ⟨p,h1,h2⟩:=e1 q b hq
  have h3:=hR.heap.ty p b h2
  rcases hpq p q h1 with e|⟨g1,g2⟩
  ·rw [←e];exact h3
  ·exact (show y0x q from .inl g2).ok w b
 ·intro q b hq
  obtain ⟨p,_,h2⟩:=e1 q b hq
  exact hR.own p b h2
 ·intro o b ho
  obtain ⟨h1,h2⟩:=hR.keep o b ho
  obtain ⟨cells,hc1⟩:=hR.heap.dom o b h1
  obtain ⟨q,hq⟩:=Option.isSome_iff_exists.1 (hd o (by rw [hc1];rfl))
  rcases hpq o q hq with e|⟨g1,_⟩
  ·exact ⟨e2 o o b (by rw [hq,e]) h1,h2⟩
  ·omega
def DV.flat1:DV→Bool
 | .undef | .int .. | .bool _ | .str _ | .nilp | .nils | .nili | .fn _=>true
 | _=>false
theorem VI.flat1 {w w':World} {A A':Nat→Prop} {d:DV} {v:Value} (h:VI w A d v) (hf:d.flat1=true):VI w' A' d v:=by
 cases h<;>first|(simp [DV.flat1] at hf;done)|constructor
def slo (o:Nat) (xs:List DV):DV→DV
 | .osl sz p off n=>if p=o∧sz≠0∧off+n*sz≤xs.length then .sl sz ((xs.drop off).take (n*sz)) else .undef
 | d=>if d.rf then d else .undef
theorem y6f {F:FnD} {os:List DOper} {dst:Dst} {f:Nat} {ds:List DV} {te fr:Fr} {H:Hp} {K:Fr→Fr→Hp→Prop} (hp:F.pure=false) (o:Nat) {cells args:List DV} {r:DV} (hc:z0c F.P f args r)
  (ho:lkH H o=some cells) (hcr:∀d∈cells,d.rf=true) (ha:ds.map (slo o cells)=args) (hr:r.flat1=true) (hK:z1l F os (dst.onT te r) (dst.onX fr r) H K):z4d F os dst f ds te fr H K:=by
 subst ha
 refine z6n hp ?_
 intro G L a w us hG hR hs hv
 have hlt:∀x,Av G.S L x→x<w.heap.size:=by
  rintro x (h|⟨p,h⟩)
  ·exact hR.sLt x h
  ·exact hR.heap.lt h
 obtain ⟨A',hA',hA2,hV⟩:∃A':Nat→Prop,(∀x,A' x→x<w.heap.size)∧(∀x,A' x→Av G.S L x)∧∀d v,V w L (Av G.S L) d v→VI w A' (slo o cells d) v:=by
  rcases hR.heap.obj o cells ho with ⟨h1,h2⟩|⟨b,cs,T,hL,hb,hl,hcv⟩
  ·refine ⟨Av G.S L,hlt,fun _ h=>h,fun d v h=>?_⟩
   have hrf:VI w (Av G.S L) (if d.rf=true then d else .undef) v:=by
    split
    ·rename_i h3;exact h.rf_imm h3
    ·exact .undef _
   cases d with
   | osl sz p off n =>
    simp only [slo]
    split
    ·rename_i h3
     obtain ⟨rfl,h4,h5⟩:=h3
     cases h with
     | osl hL _ _ _=>rw [h1] at hL;cases hL
     | osl0=>rw [Nat.zero_mul,List.take_zero];exact .sl0 _ _ _
     | imm h=>cases h
    ·exact .undef _
   | _=>exact hrf
  ·refine ⟨fun x=>Av G.S L x∧x≠b,fun x h=>hlt x h.1,fun _ h=>h.1,fun d v h=>?_⟩
   have hmono:∀{d:DV} {v:Value},VI w (Av G.S L) d v→VI w (fun x=>Av G.S L x∧x≠b) d v:=fun h=>h.mono fun x _ hx=>⟨rfl,fun h2=>hx h2.1⟩
   have hrf:VI w (fun x=>Av G.S L x∧x≠b) (if d.rf=true then d else .undef) v:=by
    split
    ·rename_i h3;exact hmono (h.rf_imm h3)
    ·exact .undef _
   cases d with
   | osl sz p off n =>
    simp only [slo]
    split
    ·rename_i h3
     obtain ⟨rfl,h4,h5⟩:=h3
     cases h with
     | osl0=>rw [Nat.zero_mul,List.take_zero];exact .sl0 _ _ _
     | imm h=>cases h
     | osl hL2 hcc hsh hm =>
      rw [hL] at hL2;cases hL2
      have hlen:((cells.drop off).take (n*sz)).length=n*sz:=by rw [List.length_take,List.length_drop];omega
      by_cases hn:n=0
      ·subst hn;rw [Nat.zero_mul,List.take_zero];exact .sl0 _ _ _
      ·refine .sl (fun k=>(cs[off+k]?).getD Go.undef) (fun e=>?_) hlen hcc (fun h=>h.2 rfl) (fun k d hk=>?_) (fun k d hk=>?_)
       ·rw [e] at hlen
        have:=Nat.mul_pos (Nat.pos_of_ne_zero hn) (Nat.pos_of_ne_zero h4)
        simp at hlen;omega
       ·have h6:=(List.getElem?_eq_some_iff.1 hk).1
        rw [hlen] at h6
        obtain ⟨u,hu⟩:=z0w (l:=cs) (k:=off+k) (by omega)
        rw [add_lit,cell_of_row w b (off+k) cs T (0,0) hb,hu];rfl
       ·rw [List.getElem?_take] at hk
        split at hk
        ·rw [List.getElem?_drop] at hk
         obtain ⟨u,hu⟩:=z0w (l:=cs) (k:=off+k) (by have:=(List.getElem?_eq_some_iff.1 hk).1;omega)
         rw [hu]
         exact hmono ((hcv _ d u hk hu).rf_imm (hcr d (List.mem_of_getElem? hk)))
        ·cases hk
    ·exact .undef _
   | _=>exact hrf
 refine (hc A' w us (hG.tab hR) hA' (by simpa using hs) fun k d v h1 h2=>?_).mono ?_
 ·rw [List.getElem?_map,zO2] at h1
  obtain ⟨d0,hd0,rfl⟩:=h1
  exact hV d0 v (hv k d0 v hd0 h2)
 ·rintro e w' ⟨v,rfl,hvi,hx⟩
  exact ⟨v,L,r,te,fr,H,rfl,hR.still hx,.imm (hvi.flat1 hr),y3D.refl _,hK⟩
def rdo (H:Hp):Nat→DV→DV
 | n+1,.osl sz p off m=>match lkH H p with
  | some cells=>if sz≠0∧off+m*sz≤cells.length then .sl sz (((cells.drop off).take (m*sz)).map (rdo H n)) else .undef
  | none=>.undef
 | _,d=>if d.rf then d else .undef
theorem w4Z (H:Hp) (n:Nat) {d:DV} (h:d.rf=true):rdo H n d=d:=by
 cases n with
 | zero=>cases d<;>first|(cases h;done)|(simp only [rdo];rw [if_pos h])
 | succ n=>cases d<;>first|(cases h;done)|(simp only [rdo];rw [if_pos h])
theorem w6H {H:Hp} {w:World} {S:Nat→Prop} {L:Nat→Option Nat} (hH:HOK w S L (lkH H)):∀(n:Nat) (d:DV) (v:Value),V w L (Av S L) d v→VI w S (rdo H n d) v:=by
 have hmono:∀{d:DV} {v:Value},VI w (Av S L) d v→VI w S d v:=fun h=>h.mono fun x _ hx=>⟨rfl,fun h2=>hx (.inl h2)⟩
 have base:∀(d:DV) (v:Value),V w L (Av S L) d v→VI w S (if d.rf=true then d else .undef) v:=fun d v h=>by
  split
  ·rename_i h3;exact hmono (h.rf_imm h3)
  ·exact .undef _
 intro n
 induction n with
 | zero =>
  intro d v h
  have e:rdo H 0 d=if d.rf=true then d else .undef:=by cases d<;>rfl
  rw [e];exact base d v h
 | succ n ih =>
  intro d v h
  cases d with
  | osl sz p off m =>
   simp only [rdo]
   cases hp:lkH H p with
   | none=>exact .undef _
   | some cells =>
    simp only
    split
    ·rename_i h3
     obtain ⟨h4,h5⟩:=h3
     have hlen:(((cells.drop off).take (m*sz)).map (rdo H n)).length=m*sz:=by rw [List.length_map,List.length_take,List.length_drop];omega
     rcases hH.obj p cells hp with ⟨h1,h2⟩|⟨b,cs,T,hL,hb,hl,hcv⟩
     ·cases h with
      | osl hL _ _ _=>rw [h1] at hL;cases hL
      | osl0=>rw [Nat.zero_mul,List.take_zero];exact .sl0 _ _ _
      | imm h=>cases h
     ·cases h with
      | osl0=>rw [Nat.zero_mul,List.take_zero];exact .sl0 _ _ _
      | imm h=>cases h
      | osl hL2 hcc hsh hm =>
       rw [hL] at hL2;cases hL2
       by_cases hn:m=0
       ·subst hn;rw [Nat.zero_mul,List.take_zero];exact .sl0 _ _ _
       ·refine .sl (fun k=>(cs[off+k]?).getD Go.undef) (fun e=>?_) hlen hcc (fun h=>hH.notS p b hL h) (fun k d hk=>?_) (fun k d hk=>?_)
        ·rw [e] at hlen
         have:=Nat.mul_pos (Nat.pos_of_ne_zero hn) (Nat.pos_of_ne_zero h4)
         simp at hlen;omega
        ·have h6:=(List.getElem?_eq_some_iff.1 hk).1
         rw [hlen] at h6
         obtain ⟨u,hu⟩:=z0w (l:=cs) (k:=off+k) (by omega)
         rw [add_lit,cell_of_row w b (off+k) cs T (0,0) hb,hu];rfl
        ·rw [List.getElem?_map,zO2] at hk
         obtain ⟨d0,hk,rfl⟩:=hk
         rw [List.getElem?_take] at hk
         split at hk
         ·rw [List.getElem?_drop] at hk
          obtain ⟨u,hu⟩:=z0w (l:=cs) (k:=off+k) (by have:=(List.getElem?_eq_some_iff.1 hk).1;omega)
          rw [hu]
          exact ih _ _ (hcv _ d0 u hk hu)
         ·cases hk
    ·exact .undef _
  | _=>exact base _ v h
theorem y6e {F:FnD} {os:List DOper} {dst:Dst} {f:Nat} {ds:List DV} {te fr:Fr} {H:Hp} {K:Fr→Fr→Hp→Prop} (hp:F.pure=false) (n:Nat) {args:List DV} {r:DV} (hc:z0c F.P f args r)
  (ha:ds.map (rdo H n)=args) (hr:r.flat1=true) (hK:z1l F os (dst.onT te r) (dst.onX fr r) H K):z4d F os dst f ds te fr H K:=by
 subst ha
 refine z6n hp ?_
 intro G L a w us hG hR hs hv
 refine (hc G.S w us (hG.tab hR) hR.sLt (by simpa using hs) fun k d v h1 h2=>?_).mono ?_
 ·rw [List.getElem?_map,zO2] at h1
  obtain ⟨d0,hd0,rfl⟩:=h1
  exact w6H hR.heap n d0 v (hv k d0 v hd0 h2)
 ·rintro e w' ⟨v,rfl,hvi,hx⟩
  exact ⟨v,L,r,te,fr,H,rfl,hR.still hx,.imm (hvi.flat1 hr),y3D.refl _,hK⟩
def rmP (o:Nat):Hp→Hp
 | []=>[]
 | (k,d)::r=>if k=o then rmP o r else (k,d.map (purge o))::rmP o r
theorem x4B (o:Nat):∀(H:Hp) (s:Nat),lkH (rmP o H) s=if s=o then none else (lkH H s).map (·.map (purge o))
 | [],s=>by simp [rmP,lkH]
 | (k,d)::r,s=>by
  have ih:=x4B o r s
  simp only [rmP,lkH]
  by_cases h1:k=o
  ·subst h1
   rw [if_pos rfl,ih]
   by_cases h2:s=k
   ·rw [if_pos h2,if_pos h2]
   ·rw [if_neg h2,if_neg h2,if_neg (Ne.symm h2)]
  ·rw [if_neg h1]
   simp only [lkH]
   by_cases h2:k=s
   ·subst h2
    rw [if_pos rfl,if_neg h1,if_pos rfl];rfl
   ·rw [if_neg h2,if_neg h2,ih]
theorem z25 {F:FnD} {c:DC} {Q:Ex→Fr→Hp→Prop} {fr:Fr} {H:Hp} (o:Nat) (hw:W F c Q (z0J (purge o) fr) (rmP o H)) (hlt:o<1048576:=by decide):W F c Q fr H:=by
 intro code hc G L a w hn hR
 have h1:=hR.drop o (hR.keep_none hlt)
 have e1:z1d o (den F.vs [] fr)=den F.vs [] (z0J (purge o) fr):=by
  funext s
  simp only [den,z1d,z4p _ (z5l o),lk]
  split
  ·rfl
  ·exact z5l o
 have e2:((Heap.purge o (lkH H)).upd o none)=lkH (rmP o H):=by
  funext s
  rw [x4B]
  rfl
 rw [e1,e2] at h1
 exact hw code hc G _ a w hn h1
end Go.Dat
