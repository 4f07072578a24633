/- Lemmas of the walk; no conditions beyond those that each states. -/
import Derived.KernelRfl
import Derived.Test.YtlcagndeidjobaaGreatDoorD2
set_option linter.unusedSimpArgs false
set_option linter.unusedVariables false
set_option linter.unnecessarySimpa false
set_option maxHeartbeats 4000000
namespace Go.Dat
open Go
inductive Exp (h:Heap):DV→DV→Prop where
 | imm {d:DV} (hr:d.rf=true):Exp h d d
 | undef (d:DV):Exp h d .undef
 | nils (sz:Nat):Exp h .nils (.sl sz [])
 | osl {sz o off len:Nat} {cells rs:List DV} (ho:h o=some cells) (hsz:sz≠0) (hfit:off+len*sz≤cells.length) (hl:rs.length=len*sz)
   (hp:∀(k:Nat) d r,((cells.drop off).take (len*sz))[k]? = some d→rs[k]? = some r→Exp h d r):Exp h (.osl sz o off len) (.sl sz rs)
 | agg {cs rs:List DV} (hl:rs.length=cs.length) (hp:∀(k:Nat) d r,cs[k]? = some d→rs[k]? = some r→Exp h d r):Exp h (.agg cs) (.agg rs)
 | tup {cs rs:List DV} (hl:rs.length=cs.length) (hp:∀(k:Nat) d r,cs[k]? = some d→rs[k]? = some r→Exp h d r):Exp h (.tup cs) (.tup rs)
theorem Exp.VI {w:World} {S:Nat→Prop} {L:Nat→Option Nat} {h:Heap} (H:HOK w S L h) {d r:DV} (he:Exp h d r):∀{v:Value},V w L (Av S L) d v→VI w S r v:=by
 induction he with
 | imm hr =>
  intro v hv
  exact (hv.rf_imm hr).mono fun b _ hA=>⟨rfl,fun hS=>hA (.inl hS)⟩
 | undef d=>intro v _;exact .undef v
 | nils sz=>intro v hv;rw [hv.inv_nils];exact .sl0 _ _ _
 | @osl sz o off len cells rs ho hsz hfit hl hp ih =>
  intro v hv
  rcases hv.inv_osl with ⟨b,c,T,m,hL,rfl,hc,hs,hm⟩|⟨rfl,rfl⟩
  ·obtain ⟨cells',cur,T',hho,hb,hl',hpp⟩:=H.at_ hL
   rw [ho] at hho;cases hho
   by_cases h0:rs=[]
   ·subst h0
    have:len=0:=by
     rcases Nat.eq_zero_or_pos len with e|e
     ·exact e
     ·have:=Nat.mul_pos e (Nat.pos_of_ne_zero hsz);simp at hl;omega
    subst this
    exact .sl0 _ _ _
   ·have hget:∀k r,rs[k]? = some r→∃d u,((cells.drop off).take (len*sz))[k]? = some d∧cur[off+k]? = some u∧V w L (Av S L) d u:=by
     intro k r hk
     have hlt:k<len*sz:=by have:=(List.getElem?_eq_some_iff.1 hk).1;omega
     obtain ⟨d,hd⟩:=z0O (l:=(cells.drop off).take (len*sz)) (k:=k) (by simp;omega)
     obtain ⟨u,hu⟩:=z0w (l:=cur) (k:=off+k) (by omega)
     exact ⟨d,u,hd,hu,hpp _ d u (z15 hd) hu⟩
    refine .sl (ad:=⟨b,off,none⟩) (fun k=>(cur[off+k]?).getD Go.undef) h0 hl hc (H.notS o b hL) (fun k r hk=>?_) (fun k r hk=>?_)
    ·obtain ⟨d,u,hd,hu,hv'⟩:=hget k r hk
     rw [add_lit,cell_of_row w b _ cur T' (0,0) hb,hu];rfl
    ·obtain ⟨d,u,hd,hu,hv'⟩:=hget k r hk
     rw [hu]
     exact ih k d r hd hk hv'
  ·have:rs=[]:=List.eq_nil_of_length_eq_zero (by simpa using hl)
   subst this
   exact .sl0 _ _ _
 | agg hl hp ih =>
  intro v hv
  obtain ⟨us,rfl,hl',hv'⟩:=hv.inv_agg
  refine .agg (by omega) fun k r u hk hu=>?_
  obtain ⟨d,hd⟩:=z0O (show k<_ from by have:=(List.getElem?_eq_some_iff.1 hk).1;rw [hl] at this;exact this)
  exact ih k d r hd hk (hv' k d u hd hu)
 | tup hl hp ih =>
  intro v hv
  obtain ⟨us,rfl,hl',hv'⟩:=hv.inv_tup
  refine .tup (by omega) fun k r u hk hu=>?_
  obtain ⟨d,hd⟩:=z0O (show k<_ from by have:=(List.getElem?_eq_some_iff.1 hk).1;rw [hl] at this;exact this)
  exact ih k d r hd hk (hv' k d u hd hu)
mutual
def DV.sc:DV→Bool
 | .int .. | .bool _ | .str _ | .nilp | .nils | .nili | .fn _=>true
 | .sl _ xs=>xs.isEmpty
 | .tup cs=>DV.scL cs
 | _=>false
def DV.scL:List DV→Bool
 | []=>true
 | d::r=>d.sc && DV.scL r
end
theorem DV.scL_all:∀cs:List DV,DV.scL cs=cs.all (·.sc)
 | []=>rfl
 | d::r=>by simp [DV.scL,DV.scL_all r]
theorem DV.sc_tup (cs:List DV):(DV.tup cs).sc=cs.all (·.sc):=by rw [DV.sc,DV.scL_all]
theorem VI.sc {w:World} {A:Nat→Prop} {d:DV} {v:Value} (h:VI w A d v) (hs:d.sc=true) (w':World) (A':Nat→Prop):VI w' A' d v:=by
 induction h with
 | undef v=>exact .undef v
 | int k n=>exact .int k n
 | bool b=>exact .bool b
 | str l=>exact .str l
 | nilp=>exact .nilp
 | nils=>exact .nils
 | nili=>exact .nili
 | fn f=>exact .fn f
 | sl0 sz a c=>exact .sl0 sz a c
 | @sl sz xs n c ad vs hx=>simp [DV.sc,hx] at hs
 | el=>simp [DV.sc] at hs
 | agg=>simp [DV.sc] at hs
 | tup hl _ ih =>
  rw [DV.sc_tup,List.all_eq_true] at hs
  exact .tup hl fun k d v h1 h2=>ih k d v h1 h2 (hs d (List.mem_of_getElem? h1))
 | iface=>simp [DV.sc] at hs
 | clo=>simp [DV.sc] at hs
 | raw=>simp [DV.sc] at hs
inductive RV where
 | t (k:Nat)
 | c1 (k:Nat)
 | cn (n k:Nat)
def w5F (P:Program):ResultVar→Option RV
 | .tmp k=>some (.t k)
 | .cell k t=>if y5S P t then (z1h P t).map (.cn · k) else if (P.underlying t).isSome then some (.c1 k) else none
def y0s (P:Program):List ResultVar→Option (List RV)
 | []=>some []
 | x::r=>(w5F P x).bind fun y=>(y0s P r).map (y::·)
def z9N (fr:Fr) (H:Hp):RV→Option DV
 | .t k=>some (lk fr k)
 | .c1 k=>match lk fr k with
  | .ptr o off=>(lkH H o).bind fun cs=>cs[off]?
  | _=>none
 | .cn n k=>match lk fr k with
  | .ptr o off=>(lkH H o).bind fun cs=>if off+n≤cs.length then some (.agg ((cs.drop off).take n)) else none
  | _=>none
def z4y (fr:Fr) (H:Hp):List RV→Option (List DV)
 | []=>some []
 | x::r=>(z9N fr H x).bind fun d=>(z4y fr H r).map (d::·)
def y5a:List DV→DV
 | [d]=>d
 | ds=>.tup ds
section
variable {P:Program} {G:Cx} {L:Nat→Option Nat} {vs:List Nat} {fr:Fr} {H:Hp} {a:Act} {w:World}
def w5E (tmps:Array Value) (x:ResultVar):Sem Value:=match x with
 | .tmp t=>pure (tmps.getD t undef)
 | .cell c t=>do loadVar t (←asAddr (tmps.getD c undef))
theorem x1H (fn:Func) (tmps:Array Value):results fn tmps=(do let vs ←fn.results.mapM (w5E tmps);pure (if h:vs.size=1 then vs[0] else .tuple vs)):=rfl
theorem x7s (hR:R G L (den vs [] fr) (lkH H) a w) (x:ResultVar) {y:RV} (hx:w5F P x=some y) {d:DV} (hd:z9N fr H y=some d) (hvs:∀k,(x=.tmp k∨∃t,x=.cell k t)→vs.contains k=true) :
  ∃ v,(w5E a.tmps x).run P w=.ok v w∧V w L (Av G.S L) d v:=by
 unfold w5E
 cases x with
 | tmp k =>
  simp only [w5F,Option.some.injEq] at hx
  subst hx
  simp only [z9N,Option.some.injEq] at hd
  have:=hR.slots k
  simp only [den,hvs k (.inl rfl),if_true,hd] at this
  exact ⟨_,rfl,this⟩
 | cell k t =>
  have hk:=hvs k (.inr ⟨t,rfl⟩)
  have hs:=hR.slots k
  simp only [den,hk,if_true] at hs
  simp only [w5F] at hx
  split at hx
  ·rename_i hA
   rw [zO2] at hx
   obtain ⟨n,hn,rfl⟩:=hx
   simp only [z9N] at hd
   split at hd
   ·rename_i o off hp
    rw [hp] at hs
    obtain ⟨b,hL,hv⟩:=hs.inv_ptr
    obtain ⟨cells,cur,T,hho,hb,hl,hpp⟩:=hR.heap.at_ hL
    rw [hho] at hd
    simp only [Option.bind_some] at hd
    split at hd
    ·rename_i hfit
     cases hd
     have hrow:∀j v,((cur.toList.drop off).take n)[j]? = some v→w.cell? ((⟨b,off,none⟩:Addr).add j)=some v:=by
      intro j v hj
      rw [add_lit,cell_of_row w b _ cur T (0,0) hb]
      simpa using z15 hj
     refine ⟨.agg ((cur.toList.drop off).take n).toArray,?_,.agg (by simp;omega) fun j y v h1 h2=>?_⟩
     ·simp only [hv,Sem.run_bind,asAddr,Sem.run_pure,Result.andThen_ok,z2X P t n _ _ w hA hn (by simp;omega) hrow]
     ·have h2':=z15 (show ((cur.toList.drop off).take n)[j]? = some v by simpa using h2)
      exact hpp _ y v (z15 h1) (by simpa using h2')
    ·cases hd
   ·cases hd
  ·rename_i hA
   split at hx
   ·rename_i hu
    cases hx
    simp only [z9N] at hd
    split at hd
    ·rename_i o off hp
     rw [hp] at hs
     obtain ⟨b,hL,hv⟩:=hs.inv_ptr
     obtain ⟨cells,cur,T,hho,hb,hl,hpp⟩:=hR.heap.at_ hL
     rw [hho] at hd
     simp only [Option.bind_some] at hd
     obtain ⟨u,hu'⟩:=z0w (l:=cur) (k:=off) (by have:=(List.getElem?_eq_some_iff.1 hd).1;omega)
     refine ⟨u,?_,hpp off d u hd hu'⟩
     have hc:w.cell? ⟨b,off,none⟩=some u:=by rw [cell_of_row w b off cur T (0,0) hb];exact hu'
     simp only [hv,Sem.run_bind,asAddr,Sem.run_pure,Result.andThen_ok,z2Y P t _ _ w (by simpa using hA) hu hc]
    ·cases hd
   ·cases hx
def z9O (vs:List Nat):List ResultVar→Bool
 | []=>true
 | .tmp k::r=>vs.contains k && z9O vs r
 | .cell k _::r=>vs.contains k && z9O vs r
theorem y9J (hR:R G L (den vs [] fr) (lkH H) a w):∀(l:List ResultVar) (rv:List RV) (ds:List DV),y0s P l=some rv→z4y fr H rv=some ds→z9O vs l=true →
  ∃ us:List Value,(l.mapM (w5E a.tmps)).run P w=.ok us w∧us.length=ds.length∧∀(k:Nat) d v,ds[k]? = some d→us[k]? = some v→V w L (Av G.S L) d v
 | [],rv,ds,h1,h2,_=>by
  simp only [y0s,Option.some.injEq] at h1
  subst h1
  simp only [z4y,Option.some.injEq] at h2
  subst h2
  exact ⟨[],by simp,rfl,fun k d v h=>by simp at h⟩
 | x::l,rv,ds,h1,h2,h3=>by
  simp only [y0s,zO3,zO2] at h1
  obtain ⟨y,hy,rv',hrv,rfl⟩:=h1
  simp only [z4y,zO3,zO2] at h2
  obtain ⟨d,hd,ds',hds,rfl⟩:=h2
  have hx:(∀k,(x=.tmp k∨∃t,x=.cell k t)→vs.contains k=true)∧z9O vs l=true:=by
   cases x with
   | tmp k=>simp only [z9O,Bool.and_eq_true] at h3;exact ⟨by rintro k' (e|⟨t,e⟩)<;>cases e;exact h3.1,h3.2⟩
   | cell k t=>simp only [z9O,Bool.and_eq_true] at h3;exact ⟨by rintro k' (e|⟨t,e⟩)<;>cases e;exact h3.1,h3.2⟩
  obtain ⟨v,hv,hV⟩:=x7s (P:=P) hR x hy hd hx.1
  obtain ⟨us,hus,hl,hp⟩:=y9J hR l rv' ds' hrv hds hx.2
  refine ⟨v::us,?_,by simp [hl],fun k e u h1 h2=>?_⟩
  ·rw [List.mapM_cons]
   simp only [Sem.run_bind,hv,hus,Result.andThen_ok,Sem.run_pure]
  ·cases k with
   | zero=>simp at h1 h2;subst h1;subst h2;exact hV
   | succ k=>simp at h1 h2;exact hp k e u h1 h2
theorem z2W (fn:Func) (hR:R G L (den vs [] fr) (lkH H) a w) {rv:List RV} {ds:List DV} (h1:y0s P fn.results.toList=some rv) (h2:z4y fr H rv=some ds) (h3:z9O vs fn.results.toList=true) :
  ∃ v,(results fn a.tmps).run P w=.ok v w∧V w L (Av G.S L) (y5a ds) v:=by
 obtain ⟨us,hus,hl,hp⟩:=y9J (P:=P) hR fn.results.toList rv ds h1 h2 h3
 refine ⟨if h:us.length=1 then us[0] else .tuple us.toArray,?_,?_⟩
 ·rw [x1H,Array.mapM_eq_mapM_toList]
  simp only [Sem.run_bind,Sem.run_map,hus,Result.andThen_ok,Sem.run_pure,List.size_toArray,List.getElem_toArray]
 ·match ds,us,hl,hp with
  | [d],[u],_,hp=>exact hp 0 d u rfl rfl
  | [],[],_,_=>exact .imm (.tup rfl fun k d v h=>by simp at h)
  | d::d'::ds,u::u'::us,hl,hp =>
   simp only [y5a]
   rw [dif_neg (by simp)]
   exact .tup (by simpa using hl.symm) fun k d v h1 h2=>hp k d v h1 (by simpa using h2)
end
def z0u (k:Nat):List DV→Fr
 | []=>[]
 | d::r=>(k,d)::z0u (k+1) r
theorem z4K:∀(ds:List DV) (k s:Nat),lk (z0u k ds) s=if k≤s then ds.getD (s - k) .undef else .undef
 | [],k,s=>by simp [z0u,lk]
 | d::ds,k,s=>by
  simp only [z0u,lk,z4K ds (k+1) s]
  by_cases h1:k=s
  ·subst h1;simp
  ·rw [if_neg h1]
   by_cases h2:k+1≤s
   ·rw [if_pos h2,if_pos (by omega)]
    have:s - k=(s - (k+1))+1:=by omega
    rw [this];simp
   ·rw [if_neg h2,if_neg (by omega)]
structure IsFn (F:FnD) (f:Nat) (c:DC) (rv:List RV):Prop where
 ex:∃fn code,F.P.funcs[f]? = some fn∧fn.body=some code∧fn.ntmps=F.n∧strip F.P F.vs F.own F.n code=c∧y0s F.P fn.results.toList=some rv∧z9O F.vs fn.results.toList=true
def y7T (rv:List RV) (r:DV) (e:Ex) (fr:Fr) (H:Hp):Prop:=(e=.norm∨e=.ret)∧∃ds,z4y fr H rv=some ds∧Exp (lkH H) (y5a ds) r
theorem z0h {k:Nat} {r:DV} {fr:Fr} {H:Hp} (h:Exp (lkH H) (lk fr k) r):y7T [.t k] r .ret fr H:=⟨.inr rfl,_,rfl,h⟩
theorem z2f {j k:Nat} {r s:DV} {fr:Fr} {H:Hp} (h1:Exp (lkH H) (lk fr j) r) (h2:Exp (lkH H) (lk fr k) s):y7T [.t j,.t k] (.tup [r,s]) .ret fr H :=
 ⟨.inr rfl,_,rfl,.tup rfl fun i d x hd hx=>by
  match i with
  | 0=>simp at hd hx;subst hd;subst hx;exact h1
  | 1=>simp at hd hx;subst hd;subst hx;exact h2
  | i+2=>simp at hd⟩
theorem y0B {i j k:Nat} {r s t:DV} {fr:Fr} {H:Hp} (h1:Exp (lkH H) (lk fr i) r) (h2:Exp (lkH H) (lk fr j) s) (h3:Exp (lkH H) (lk fr k) t):y7T [.t i,.t j,.t k] (.tup [r,s,t]) .ret fr H :=
 ⟨.inr rfl,_,rfl,.tup rfl fun i d x hd hx=>by
  match i with
  | 0=>simp at hd hx;subst hd;subst hx;exact h1
  | 1=>simp at hd hx;subst hd;subst hx;exact h2
  | 2=>simp at hd hx;subst hd;subst hx;exact h3
  | i+3=>simp at hd⟩
theorem w2P {fr:Fr} {H:Hp} {e:Ex} (he:e=.norm∨e=.ret):y7T [] (.tup []) e fr H:=⟨he,_,rfl,.imm rfl⟩
theorem z07 {n k o:Nat} {r:DV} {fr:Fr} {H:Hp} {cs:List DV} (hk:lk fr k=.ptr o 0) (ho:lkH H o=some cs) (hn:cs.length=n) (h:Exp (lkH H) (.agg cs) r):y7T [.cn n k] r .ret fr H:=by
 refine ⟨.inr rfl,[.agg cs],?_,h⟩
 simp [z4y,z9N,hk,ho,hn,List.take_of_length_le (Nat.le_of_eq hn)]
theorem z0b {F:FnD} {f:Nat} {c:DC} {rv:List RV} {args:List DV} {r:DV} (hf:IsFn F f c rv) (hn:args.length≤F.n)
  (h:W F c (y7T rv r) (z0u 0 args) []):z0c F.P f args r:=by
 obtain ⟨fn,code,hfn,hb,hnt,hst,hrv,hrs⟩:=hf.ex
 intro A w us hT hA hs hv
 refine calls_of_wp hfn hb ?_
 have hR:R ⟨A,w,fun _=>False,F.n,fun _=>none,[]⟩ (fun _=>none) (den F.vs [] (z0u 0 args)) (lkH []) { tmps:=us++Array.replicate (fn.ntmps - us.size) undef,defers:=[] } w:=by
  refine ⟨by simp;omega,rfl,fun s=>?_,⟨(by intro o b h;cases h),(by intro o c h;cases h),(by intro o p b h;cases h),(by intro o b h;cases h),(by intro o b h;cases h)⟩,Ext.refl _ _,hA,(by intro o b h;cases h),(by intro o b h;cases h),fun _ _=>rfl⟩
  simp only [den,lk]
  split
  ·rw [z4K,if_pos (Nat.zero_le _),Nat.sub_zero]
   cases hk:args[s]? with
   | none=>rw [zO1,hk];exact .imm (.undef _)
   | some d =>
    have hlt:=(List.getElem?_eq_some_iff.1 hk).1
    obtain ⟨u,hu⟩:=z0w (l:=us) (k:=s) (by omega)
    rw [zO1,hk,Array.getD_eq_getD_getElem?,Array.getElem?_append_left (by omega),hu]
    refine .imm ((hv s d u hk hu).mono fun b _ hb=>⟨rfl,?_⟩)
    rintro (h1|⟨o,h1⟩)
    ·exact hb h1
    ·cases h1
  ·exact .imm (.undef _)
 refine wp_mono (h code hst ⟨A,w,fun _=>False,F.n,fun _=>none,[]⟩ _ _ _ ⟨rfl,hT,fun _ h=>False.elim h⟩ hR) fun e a' w'=>?_
 rintro ⟨L,fr,H,de,hR',he,hde,ds,hds,hexp⟩
 obtain ⟨v,hrun,hV⟩:=z2W (P:=F.P) fn hR' hrv hds hrs
 have hvi:=hexp.VI hR'.heap hV
 have hfin:∃u,Ending.returned v=.returned u∧VI w' A r u∧Ext (fun _=>False) w w':=⟨v,rfl,hvi,hR'.ext⟩
 cases e<;>simp only [er,Option.some.injEq,reduceCtorEq] at he
 ·exact ⟨hR'.defers,v,hrun,hfin⟩
 ·subst he;rcases hde with e|e<;>cases e
 ·exact ⟨hR'.defers,v,hrun,hfin⟩
 ·subst he;rcases hde with e|e<;>cases e
end Go.Dat
namespace Go.Dat
open Go
section
variable (F:FnD) (os:List DOper) (dst:Dst) (te fr:Fr) (H:Hp) (K:Fr→Fr→Hp→Prop)
def z0Q (x:Option (DV × Eff)):Prop:=OW x fun r=>z1l F os (dst.onT (r.2.onF te) r.1) (dst.onX (r.2.onF fr) r.1) (r.2.onL H) K
def goW:DOp→Prop
 | .call f args=>z3r F f (args.map (ev te fr)) te fr H fun d te' fr' H'=>z1l F os (dst.onT te' d) (dst.onX fr' d) H' K
 | p=>z0Q F os dst te fr H K (opE F.nb dst.slot (ev te fr) (lkH H) p)
def y6W (op:DOp) (want:Bool):DV→Prop
 | .bool b=>(b=want→goW F os dst te fr H K op)∧(b=!want→z1l F os (dst.onT te (.tup [])) (dst.onX fr (.tup [])) H K)
 | .tup []=>z1l F os (dst.onT te (.tup [])) (dst.onX fr (.tup [])) H K
 | _=>False
theorem y9I:z1l F [] te fr H K=K te fr H:=rfl
theorem y5i (op:DOp):z1l F (⟨dst,op,none⟩::os) te fr H K=goW F os dst te fr H K op:=by
 cases op<;>rfl
theorem y5j (op:DOp) (g:Opd) (want:Bool):z1l F (⟨dst,op,some (g,want)⟩::os) te fr H K=y6W F os dst te fr H K op want (ev te fr g):=by
 simp only [z1l,y6W]
 cases op<;>rfl
theorem y1R:z0Q F os dst te fr H K none=False:=by simp [z0Q,OW]
theorem y3n (d:DV):z0Q F os dst te fr H K (some (d,.no))=z1l F os (dst.onT te d) (dst.onX fr d) H K:=by simp [z0Q,OW,Eff.onF,Eff.onL]
theorem y5P (d:DV) (o:Nat) (c:List DV):z0Q F os dst te fr H K (some (d,.set o c))=z1l F os (dst.onT te d) (dst.onX fr d) (z0N H o c) K:=by simp [z0Q,OW,Eff.onF,Eff.onL]
theorem y5O (d:DV) (o:Nat) (c:List DV):z0Q F os dst te fr H K (some (d,.new o c))=z1l F os (dst.onT te d) (dst.onX fr d) (z0N H o c) K:=by simp [z0Q,OW,Eff.onF,Eff.onL]
theorem y5N (d:DV) (o:Nat) (c:List DV):z0Q F os dst te fr H K (some (d,.app o c)) =
  z1l F os (dst.onT (z0J (purge o) te) d) (dst.onX (z0J (purge o) fr) d) (z0N (z0X (purge o) H) o c) K:=by simp [z0Q,OW,Eff.onF,Eff.onL]
theorem y90 (c:Prop) (x:Option (DV × Eff)):z0Q F os dst te fr H K (gd c x)=(c∧z0Q F os dst te fr H K x):=by
 unfold z0Q;rw [propext (w5J c x _)]
theorem x42 (op:DOp):y6W F os dst te fr H K op true (.bool true)=goW F os dst te fr H K op:=by simp [y6W]
theorem x4Z (op:DOp):y6W F os dst te fr H K op false (.bool false)=goW F os dst te fr H K op:=by simp [y6W]
theorem x41 (op:DOp):y6W F os dst te fr H K op true (.bool false)=z1l F os (dst.onT te (.tup [])) (dst.onX fr (.tup [])) H K:=by simp [y6W]
theorem x40 (op:DOp):y6W F os dst te fr H K op false (.bool true)=z1l F os (dst.onT te (.tup [])) (dst.onX fr (.tup [])) H K:=by simp [y6W]
theorem x9q (op:DOp) (w:Bool):y6W F os dst te fr H K op w (.tup [])=z1l F os (dst.onT te (.tup [])) (dst.onX fr (.tup [])) H K:=by simp [y6W]
end
theorem y1P {F:FnD} {os:List DOper} {dst:Dst} {te fr:Fr} {H:Hp} {K:Fr→Fr→Hp→Prop} {op:DOp} {w b:Bool}
  (ht:b=true→y6W F os dst te fr H K op w (.bool true)) (hf:b=false→y6W F os dst te fr H K op w (.bool false)):y6W F os dst te fr H K op w (.bool b):=by
 cases b
 ·exact hf rfl
 ·exact ht rfl
theorem x84 {α β:Type} (c:Prop) (x:Option α) (f:α→β):(gd c x).map f=gd c (x.map f):=by unfold gd;split<;>rfl
theorem x3A {α β:Type} (c:Prop) (x:Option α) (f:α→Option β):(gd c x).bind f=gd c (x.bind f):=by unfold gd;split<;>rfl
theorem x3B {α:Type} (x:Option α):gd True x=x:=by unfold gd;simp
theorem w3v {α:Type} {c:Prop} (x:Option α) (h:c):gd c x=x:=by unfold gd;simp [h]
theorem y5I (F:FnD) (b:DC) (Q:Ex→Fr→Hp→Prop) (fr:Fr) (H:Hp):w5a F b Q .norm fr H=W F b Q fr H:=rfl
theorem y9Y (F:FnD) (b:DC) (Q:Ex→Fr→Hp→Prop) (fr:Fr) (H:Hp):w5a F b Q .ret fr H=Q .ret fr H:=rfl
theorem y5H (F:FnD) (b:DC) (Q:Ex→Fr→Hp→Prop) (fr:Fr) (H:Hp) (i:Nat):w5a F b Q (.exit i) fr H=Q (.exit i) fr H:=rfl
theorem y3I (i:Nat) (Q:Ex→Fr→Hp→Prop) (fr:Fr) (H:Hp):z02 i Q .norm fr H=Q .norm fr H:=rfl
theorem y7Y (i:Nat) (Q:Ex→Fr→Hp→Prop) (fr:Fr) (H:Hp):z02 i Q .ret fr H=Q .ret fr H:=rfl
theorem w64 {x:Int} (h1 : -9223372036854775808≤x) (h2:x≤9223372036854775807):IntKind.i64.wrap x=x:=by rw [IntKind.wrap_i64];omega
theorem x8s {x:Int} (h1:0≤x) (h2:x≤18446744073709551615):IntKind.u64.wrap x=x:=by rw [IntKind.wrap_u64];omega
theorem w60 {x:Int} (h1:0≤x) (h2:x≤4294967295):IntKind.u32.wrap x=x:=by rw [IntKind.wrap_u32];omega
theorem wu8 {x:Int} (h1:0≤x) (h2:x≤255):IntKind.u8.wrap x=x:=by rw [IntKind.wrap_u8];omega
theorem w2u (x:Int):IntKind.u64.wrap x=x % 18446744073709551616:=by rw [IntKind.wrap_u64]
theorem z5q (x:Int):IntKind.u32.wrap x=x % 4294967296:=by rw [IntKind.wrap_u32]
end Go.Dat
namespace Go.Dat
open Go
theorem z3w {nb:Nat} {dst:Option Nat} {e e':Opd→DV} {h:Heap} {p:DOp} (he:∀o∈p.opds,e o=e' o):opE nb dst e h p=opE nb dst e' h p:=by
 have hps:∀(ps:List (Nat × Nat × Opd)),(∀o∈ps.map (·.2.2),e o=e' o)→(ps.map fun p=>(p.1,p.2.1,e p.2.2))=ps.map fun p=>(p.1,p.2.1,e' p.2.2):=by
  intro ps hp
  refine List.map_congr_left fun p hm=>?_
  rw [hp _ (List.mem_map.2 ⟨p,hm,rfl⟩)]
 have hb:∀(n:Nat) (x:Option Opd) (d:Nat),(∀o∈x.toList,e o=e' o)→z0j e n x d=z0j e' n x d:=by
  intro n x d hx
  cases x with
  | none=>rfl
  | some x=>simp only [z0j];rw [hx x (by simp)]
 cases p with
 | build z ps=>simp only [opE];rw [hps ps he]
 | bsl sz z ps=>simp only [opE];rw [hps ps he]
 | bsl' sz z ps=>simp only [opE];rw [hps ps he]
 | slc sz x lo hi =>
  simp only [DOp.opds,List.mem_cons,List.mem_append] at he
  have hx:=he x (.inl rfl)
  have hlo:=fun n d=>hb n lo d fun o ho=>he o (.inr (.inl ho))
  have hhi:=fun n d=>hb n hi d fun o ho=>he o (.inr (.inr ho))
  simp only [opE,hx,hlo,hhi]
 | slcS x lo hi =>
  simp only [DOp.opds,List.mem_cons,List.mem_append] at he
  have hx:=he x (.inl rfl)
  have hlo:=fun n d=>hb n lo d fun o ho=>he o (.inr (.inl ho))
  have hhi:=fun n d=>hb n hi d fun o ho=>he o (.inr (.inr ho))
  simp only [opE,hx,hlo,hhi]
 | slc3 sz x lo hi mx =>
  simp only [DOp.opds,List.mem_cons] at he
  have hx:=he x (.inl rfl)
  have hhi:=fun n d=>hb n (some hi) d fun o ho=>he o (.inr (.inl (by simpa using ho)))
  have hmx:=he mx (.inr (.inr (.inl rfl)))
  have hlo:=fun n d=>hb n lo d fun o ho=>he o (.inr (.inr (.inr ho)))
  simp only [opE,hx,hlo,hhi,hmx]
 | mkf f ps =>
  have:ps.map e=ps.map e':=List.map_congr_left fun o ho=>he o ho
  simp only [opE,this]
 | callv x args=>rfl
 | call f args=>rfl
 | alloc z=>rfl
 | allocT t z=>rfl
 | pan x=>rfl
 | _=>simp only [DOp.opds,List.mem_cons,List.not_mem_nil,or_false,forall_eq_or_imp,forall_eq] at he;simp only [opE,he]
def z2M (x:Option (DV × Eff)):Prop:=∀d ef,x=some (d,ef)→ef=.no
theorem z2M.none:z2M none:=by intro d ef h;cases h
theorem z2M.some (d:DV):z2M (some (d,.no)):=by intro d' ef h;cases h;rfl
theorem z2M.gd {c:Prop} {x:Option (DV × Eff)} (h:z2M x):z2M (gd c x):=fun d ef e=>h d ef (z0r e).2
theorem z2M.gdo {a b:Nat} {x y:Option (DV × Eff)} (h:z2M x) (k:z2M y):z2M (gdo a b x y):=fun d ef e=>by
 unfold Dat.gdo at e
 split at e
 ·exact h d ef e
 ·split at e
  ·exact k d ef e
  ·cases e
theorem z2M.map {α:Type} (x:Option α) (f:α→DV):z2M (x.map fun a=>(f a,.no)):=by
 intro d ef h
 rw [zO2] at h
 obtain ⟨_,_,h⟩:=h
 cases h;rfl
theorem z2M.bind {α:Type} {x:Option α} {f:α→Option (DV × Eff)} (h:∀a,z2M (f a)):z2M (x.bind f):=by
 intro d ef e
 rw [zO3] at e
 obtain ⟨a,_,e⟩:=e
 exact h a d ef e
theorem x4R {nb:Nat} {dst:Option Nat} {e:Opd→DV} {h:Heap} {p:DOp} (hc:p.cls≤1):z2M (opE nb dst e h p):=by
 cases p<;>first|(simp [DOp.cls] at hc;done)|skip
 all_goals
  simp only [opE]
  repeat' split
  all_goals repeat' first|exact z2M.none|exact z2M.some _|exact z2M.map _ _|apply z2M.gd|apply z2M.gdo|(apply z2M.bind;intro _)
theorem x7l {nb:Nat} {dst:Option Nat} {e:Opd→DV} {h h':Heap} {p:DOp} (hc:p.cls=0):opE nb dst e h p=opE nb dst e h' p:=by
 cases p<;>first|(simp [DOp.cls] at hc;done)|rfl
def Heap.le (h h':Heap):Prop:=∀o c,h o=some c→h' o=some c
theorem x7m {nb:Nat} {dst:Option Nat} {e:Opd→DV} {h h':Heap} (hle:h.le h') {p:DOp} (hc:p.cls=1) {r:DV × Eff} (he:opE nb dst e h p=some r):opE nb dst e h' p=some r:=by
 cases p<;>first|(simp [DOp.cls] at hc;done)|skip
 case appi sz bytes x =>
  simp only [opE,zO3] at he ⊢
  obtain ⟨ys,h1,h2⟩:=he
  refine ⟨ys,?_,h2⟩
  unfold z0t at h1 ⊢
  split at h1
  ·exact h1
  ·exact h1
  ·simp only [zO3] at h1 ⊢
   obtain ⟨c,h3,h4⟩:=h1
   exact ⟨c,hle _ _ h3,h4⟩
  ·cases h1
 all_goals
  simp only [opE] at he ⊢
  split at he
  all_goals first
   | exact he
   | (simp only [zO3] at he ⊢;obtain ⟨c,h1,h2⟩:=he;exact ⟨c,hle _ _ h1,h2⟩)
theorem w1d {nb:Nat} {dst:Option Nat} {e:Opd→DV} {h:Heap} {p:DOp} (hc:p.cls=2) {d:DV} {ef:Eff} (he:opE nb dst e h p=some (d,ef)) :
  ∃ k cells,dst=some k∧ef=.new (nb+k) cells∧h (nb+k)=none∧∀h':Heap,h' (nb+k)=none→opE nb dst e h' p=some (d,ef):=by
 have fr:∀(h:Heap) o,z0m nb dst h=some o→∃k,dst=some k∧o=nb+k∧h (nb+k)=none∧nb+k<786432:=by
  intro h o ho
  unfold z0m at ho
  cases dst with
  | none=>cases ho
  | some k =>
   simp only [Option.bind_some] at ho
   split at ho
   ·rename_i hn
    split at ho
    ·rename_i hl;cases ho;exact ⟨k,rfl,rfl,by simpa using hn,hl⟩
    ·cases ho
   ·cases ho
 have fr':∀(h':Heap) k,dst=some k→(h (nb+k)=none∧nb+k<786432)→h' (nb+k)=none→z0m nb dst h'=some (nb+k):=by
  intro h' k hk hl hn
  subst hk
  simp [z0m,hn,hl.2]
 cases p<;>first|(simp [DOp.cls] at hc;done)|skip
 case alloc z =>
  simp only [opE,zO2] at he
  obtain ⟨o,ho,he⟩:=he
  cases he
  obtain ⟨k,hk,rfl,hn⟩:=fr h o ho
  exact ⟨k,z,hk,rfl,hn.1,fun h' hn'=>by simp only [opE,fr' h' k hk hn hn',Option.map_some]⟩
 case box x =>
  simp only [opE,zO3,zO2] at he
  obtain ⟨cs,hcs,o,ho,he⟩:=he
  cases he
  obtain ⟨k,hk,rfl,hn⟩:=fr h o ho
  exact ⟨k,cs,hk,rfl,hn.1,fun h' hn'=>by simp only [opE,hcs,fr' h' k hk hn hn',Option.map_some,Option.bind_some]⟩
 case bsl' sz z ps =>
  simp only [opE,zO3,zO2] at he
  obtain ⟨cs,hcs,o,ho,he⟩:=he
  cases he
  obtain ⟨k,hk,rfl,hn⟩:=fr h o ho
  exact ⟨k,cs,hk,rfl,hn.1,fun h' hn'=>by simp only [opE,hcs,fr' h' k hk hn hn',Option.map_some,Option.bind_some]⟩
 case mks sz bytes z l c =>
  simp only [opE] at he
  split at he
  ·rename_i k1 a1 k2 b1 e1 e2
   obtain ⟨hg,he'⟩:=z0r he
   rw [zO2] at he'
   obtain ⟨o,ho,he'⟩:=he'
   cases he'
   obtain ⟨k,hk,rfl,hn⟩:=fr h o ho
   exact ⟨k,_,hk,rfl,hn.1,fun h' hn'=>by simp only [opE,e1,e2,fr' h' k hk hn hn',Option.map_some];exact w3v _ hg⟩
  ·cases he
theorem w1e {nb:Nat} {dst:Option Nat} {e:Opd→DV} {h:Heap} {p:DOp} (hc:p.cls=3) {d:DV} {ef:Eff} (he:opE nb dst e h p=some (d,ef)):∃o cells,ef=.set o cells:=by
 cases p<;>first|(simp [DOp.cls] at hc;done)|skip
 all_goals
  simp only [opE] at he
  split at he
  ·simp only [zO3] at he
   first
    | (obtain ⟨cs,hcs,cv,hcv,he⟩:=he;obtain ⟨_,he⟩:=z0r he;cases he;exact ⟨_,_,rfl⟩)
    | (obtain ⟨cs,hcs,he⟩:=he;obtain ⟨_,he⟩:=z0r he;cases he;exact ⟨_,_,rfl⟩)
  ·cases he
def gS (σ:Nat→DV):Option (Opd × Bool)→Option Bool
 | none=>some true
 | some (g,w)=>match evS σ g with
  | .bool b=>some (b == w)
  | .tup []=>some false
  | _=>none
def goD (F:FnD) (dp:DOper) (σ:Nat→DV) (h:Heap) (d:DV) (ef:Eff):Prop :=
 match dp.op with
 | .call f args=>z0c F.P f (args.map (evS σ)) d∧(args.map (evS σ)).all DV.rf=true∧ef=.no
 | p=>opE F.nb dp.dst.slot (evS σ) h p=some (d,ef)
structure Gives (F:FnD) (dp:DOper) (σ:Nat→DV) (h:Heap) (d:DV) (ef:Eff):Prop where
 out:(gS σ dp.guard=some true∧goD F dp σ h d ef)∨(gS σ dp.guard=some false∧d=.tup []∧ef=.no)
theorem x2M {σ:Nat→DV} {k:Option Nat} {d:DV} {o:Opd} (h:∀s,k=some s→o.slot≠some s):evS (z1u σ k d) o=evS σ o:=by
 cases k with
 | none=>rfl
 | some s =>
  have hs:=h s rfl
  cases o with
  | c d=>rfl
  | x j=>simp only [Opd.slot] at hs;simp only [evS,z1u];rw [if_neg (fun e=>hs (by rw [e]))]
  | t j=>simp only [Opd.slot] at hs;simp only [evS,z1u];rw [if_neg (fun e=>hs (by rw [e]))]
theorem y13 {x y:DOper} (h:x.apart y=true):(∀s,x.dst.slot=some s→s∉y.looks)∧(∀s,y.dst.slot=some s→s∉x.looks)∧(∀s,x.dst.slot=some s→y.dst.slot≠some s):=by
 refine ⟨fun s hs=>?_,fun s hs=>?_,fun s hs=>?_⟩<;>simp [DOper.apart,hs] at h
 ·exact h.1.1
 ·exact h.2
 ·exact h.1.2
theorem Gives.upd {F:FnD} {dp:DOper} {σ:Nat→DV} {h:Heap} {d d':DV} {ef:Eff} {k:Option Nat} (hk:∀s,k=some s→s∉dp.looks) :
  Gives F dp (z1u σ k d') h d ef↔Gives F dp σ h d ef:=by
 have hop:∀o∈dp.op.opds,evS (z1u σ k d') o=evS σ o:=fun o ho=>x2M fun s hs e=>hk s hs (by
  unfold DOper.looks;exact List.mem_append.2 (.inl (List.mem_filterMap.2 ⟨o,ho,e⟩)))
 have hg:gS (z1u σ k d') dp.guard=gS σ dp.guard:=by
  cases hgu:dp.guard with
  | none=>rfl
  | some p =>
   obtain ⟨g,w⟩:=p
   have:evS (z1u σ k d') g=evS σ g:=x2M fun s hs e=>hk s hs (by
    unfold DOper.looks;rw [hgu];exact List.mem_append.2 (.inr (by simp [e])))
   simp only [gS,this]
 have hgo:goD F dp (z1u σ k d') h d ef↔goD F dp σ h d ef:=by
  unfold goD
  obtain ⟨dst,op,guard⟩:=dp
  cases op with
  | call f args =>
   simp only
   have:args.map (evS (z1u σ k d'))=args.map (evS σ):=List.map_congr_left fun o ho=>hop o ho
   rw [this]
  | _=>simp only;rw [z3w hop]
 constructor
 ·rintro ⟨h1⟩;exact ⟨by rw [hg,hgo] at h1;exact h1⟩
 ·rintro ⟨h1⟩;exact ⟨by rw [hg,hgo];exact h1⟩
section
variable {F:FnD}
theorem Gives.noEff {dp:DOper} {σ:Nat→DV} {h:Heap} {d:DV} {ef:Eff} (hc:dp.op.cls≤1) (hg:Gives F dp σ h d ef):ef=.no:=by
 rcases hg.out with ⟨_,h1⟩|⟨_,_,h1⟩
 ·obtain ⟨dst,op,guard⟩:=dp
  cases op with
  | call f args=>exact h1.2.2
  | _=>exact x4R hc _ _ h1
 ·exact h1
theorem Gives.heap0 {dp:DOper} {σ:Nat→DV} {h h':Heap} {d:DV} {ef:Eff} (hc:dp.op.cls=0) (hg:Gives F dp σ h d ef):Gives F dp σ h' d ef:=by
 rcases hg.out with ⟨h0,h1⟩|h1
 ·refine ⟨.inl ⟨h0,?_⟩⟩
  obtain ⟨dst,op,guard⟩:=dp
  cases op with
  | call f args=>exact h1
  | _=>exact (x7l (h':=h) hc).trans h1
 ·exact ⟨.inr h1⟩
theorem Gives.heap1 {dp:DOper} {σ:Nat→DV} {h h':Heap} (hle:h.le h') {d:DV} {ef:Eff} (hc:dp.op.cls=1) (hg:Gives F dp σ h d ef):Gives F dp σ h' d ef:=by
 rcases hg.out with ⟨h0,h1⟩|h1
 ·refine ⟨.inl ⟨h0,?_⟩⟩
  obtain ⟨dst,op,guard⟩:=dp
  cases op with
  | call f args=>exact h1
  | _=>exact x7m hle hc h1
 ·exact ⟨.inr h1⟩
theorem Gives.new2 {dp:DOper} {σ:Nat→DV} {h:Heap} {d:DV} {ef:Eff} (hc:dp.op.cls=2) (hg:Gives F dp σ h d ef) :
  (ef=.no∧∀h',Gives F dp σ h' d ef)∨∃k cells,dp.dst.slot=some k∧ef=.new (F.nb+k) cells∧h (F.nb+k)=none∧∀h':Heap,h' (F.nb+k)=none→Gives F dp σ h' d ef:=by
 rcases hg.out with ⟨h0,h1⟩|⟨h0,h1,h2⟩
 ·obtain ⟨dst,op,guard⟩:=dp
  cases op with
  | call f args=>simp [DOp.cls] at hc
  | _ =>
   obtain ⟨k,cells,e1,e2,e3,e4⟩:=w1d hc h1
   exact .inr ⟨k,cells,e1,e2,e3,fun h' hn=>⟨.inl ⟨h0,e4 h' hn⟩⟩⟩
 ·exact .inl ⟨h2,fun h'=>⟨.inr ⟨h0,h1,h2⟩⟩⟩
theorem Gives.onS {dp:DOper} {σ τ:Nat→DV} {h:Heap} {d:DV} {ef:Eff} (hc:dp.op.cls≠4) (hg:Gives F dp σ h d ef):ef.onS τ=τ:=by
 have hcls:dp.op.cls≤1∨dp.op.cls=2∨dp.op.cls=3:=by
  revert hc;cases dp.op<;>simp [DOp.cls]
 rcases hcls with h1|h1|h1
 ·rw [hg.noEff h1];rfl
 ·rcases hg.new2 h1 with ⟨e,_⟩|⟨k,c,_,e,_⟩<;>rw [e]<;>rfl
 ·rcases hg.out with ⟨_,h2⟩|⟨_,_,h2⟩
  ·obtain ⟨dst,op,guard⟩:=dp
   cases op with
   | call f args=>rw [h2.2.2];rfl
   | _ =>
    obtain ⟨o,c,e⟩:=w1e h1 h2
    rw [e];rfl
  ·rw [h2];rfl
theorem z21 {σ:Nat→DV} {x y:Option Nat} {d e:DV} (hne:∀s,x=some s→y≠some s):z1u (z1u σ y e) x d=z1u (z1u σ x d) y e:=by
 cases x with
 | none=>cases y<;>rfl
 | some s =>
  cases y with
  | none=>rfl
  | some t =>
   have:s≠t:=fun e=>hne s rfl (by rw [e])
   funext k
   simp only [z1u]
   by_cases h1:k=s
   ·subst h1;rw [if_pos rfl,if_neg this,if_pos rfl]
   ·rw [if_neg h1]
    by_cases h2:k=t
    ·rw [if_pos h2,if_pos h2]
    ·rw [if_neg h2,if_neg h2,if_neg h1]
theorem w4b {h:Heap} {o:Nat} {c:List DV} (hn:h o=none):h.le (h.upd o (some c)):=by
 intro p d hp
 unfold Heap.upd
 split
 ·rename_i e;subst e;rw [hn] at hp;cases hp
 ·exact hp
theorem x6v {x y:DOper} {σ:Nat→DV} {h:Heap} {di dj:DV} {ei ej:Eff} (hap:x.apart y=true) (hcl:x2q x.op.cls y.op.cls=true) (hi:Gives F x σ h di ei)
  (hj:Gives F y (z1u (ei.onS σ) x.dst.slot di) (ei.onH h) dj ej) :
  Gives F y σ h dj ej∧Gives F x (z1u (ej.onS σ) y.dst.slot dj) (ej.onH h) di ei ∧
   z1u (ei.onS (z1u (ej.onS σ) y.dst.slot dj)) x.dst.slot di=z1u (ej.onS (z1u (ei.onS σ) x.dst.slot di)) y.dst.slot dj∧ei.onH (ej.onH h)=ej.onH (ei.onH h):=by
 obtain ⟨a1,a2,a3⟩:=y13 hap
 have hx4:x.op.cls≠4:=by intro e;rw [e] at hcl;revert hcl;cases y.op<;>simp [x2q,DOp.cls]
 have hy4:y.op.cls≠4:=by intro e;rw [e] at hcl;revert hcl;cases x.op<;>simp [x2q,DOp.cls]
 rw [hi.onS hx4] at hj ⊢
 rw [hj.onS hy4,hi.onS hx4,hj.onS hy4]
 rw [Gives.upd a1] at hj
 rw [Gives.upd a2]
 refine ⟨?_,?_,z21 a3,?_⟩
 all_goals
  simp only [x2q,Bool.or_eq_true,Bool.and_eq_true,beq_iff_eq,bne_iff_ne] at hcl
 ·rcases hcl with (((⟨h1,_⟩|⟨h1,_⟩)|⟨h1,h2⟩)|⟨h1,h2⟩)|⟨h1,h2⟩
  ·rw [hi.noEff (by omega)] at hj;exact hj
  ·exact hj.heap0 h1
  ·rw [hi.noEff (by omega)] at hj;exact hj
  ·rw [hi.noEff (by omega)] at hj;exact hj
  ·rcases hj.new2 h2 with ⟨_,e⟩|⟨k,c,e1,e2,e3,e4⟩
   ·exact e h
   ·refine e4 h ?_
    rcases hi.new2 h1 with ⟨e5,_⟩|⟨k',c',e5,e6,e7,_⟩
    ·rw [e5] at e3;exact e3
    ·rw [e6] at e3
     simp only [Eff.onH,Heap.upd] at e3
     split at e3
     ·cases e3
     ·exact e3
 ·rcases hcl with (((⟨h1,_⟩|⟨h1,_⟩)|⟨h1,h2⟩)|⟨h1,h2⟩)|⟨h1,h2⟩
  ·exact hi.heap0 h1
  ·rw [hj.noEff (by omega)];exact hi
  ·rw [hj.noEff (by omega)];exact hi
  ·rcases hj.new2 h2 with ⟨e,_⟩|⟨k,c,e1,e2,e3,_⟩
   ·rw [e];exact hi
   ·rw [e2]
    rw [hi.noEff (by omega)] at e3
    exact hi.heap1 (w4b e3) h1
  ·rcases hi.new2 h1 with ⟨_,e⟩|⟨k,c,e1,e2,e3,e4⟩
   ·exact e _
   ·refine e4 _ ?_
    rcases hj.new2 h2 with ⟨e5,_⟩|⟨k',c',e5,e6,e7,_⟩
    ·rw [e5];exact e3
    ·rw [e6]
     simp only [Eff.onH,Heap.upd]
     rw [if_neg (fun e=>a3 k e1 (by rw [e5];congr 1;omega))]
     exact e3
 ·rcases hcl with (((⟨h1,_⟩|⟨h1,_⟩)|⟨h1,h2⟩)|⟨h1,h2⟩)|⟨h1,h2⟩
  ·rw [hi.noEff (by omega)];rfl
  ·rw [hj.noEff (by omega)];rfl
  ·rw [hi.noEff (by omega)];rfl
  ·rw [hi.noEff (by omega)];rfl
  ·rcases hi.new2 h1 with ⟨e,_⟩|⟨k,c,e1,e2,e3,e4⟩
   ·rw [e];rfl
   ·rcases hj.new2 h2 with ⟨e5,_⟩|⟨k',c',e5,e6,e7,_⟩
    ·rw [e5];rfl
    ·rw [e2,e6]
     have hne:F.nb+k≠F.nb+k':=fun e=>a3 k e1 (by rw [e5];congr 1;omega)
     simp only [Eff.onH]
     funext p
     simp only [Heap.upd]
     by_cases q1:p=F.nb+k
     ·rw [if_pos q1,if_neg (by omega),if_pos q1]
     ·rw [if_neg q1,if_neg q1]
end
mutual
theorem z3u (o:Nat):∀d:DV,d.rf=true→d.has o=false
 | .ptr _ _,h=>by simp [DV.rf] at h
 | .osl ..,h=>by simp [DV.rf] at h
 | .agg cs,h=>by rw [DV.rf] at h;rw [DV.has,z6L o cs h]
 | .tup cs,h=>by rw [DV.rf] at h;rw [DV.has,z6L o cs h]
 | .undef,_=>rfl
 | .int ..,_=>rfl
 | .bool _,_=>rfl
 | .str _,_=>rfl
 | .nilp,_=>rfl
 | .nils,_=>rfl
 | .nili,_=>rfl
 | .fn _,_=>rfl
 | .sl ..,_=>rfl
 | .el ..,_=>rfl
 | .iface ..,_=>rfl
 | .clo ..,_=>rfl
 | .raw ..,_=>rfl
theorem z6L (o:Nat):∀cs:List DV,DV.rfL cs=true→DV.hasL o cs=false
 | [],_=>rfl
 | d::r,h=>by
  rw [DV.rfL,Bool.and_eq_true] at h
  rw [DV.hasL,z3u o d h.1,z6L o r h.2];rfl
end
section
variable {F:FnD}
theorem z8c {q:Nat} {e:DV} (h:purge q e≠.undef):purge q e=e:=by
 unfold purge at h ⊢
 split
 ·rename_i hh;rw [if_pos hh] at h;exact absurd rfl h
 ·rfl
theorem y5f (q:Nat) (e:DV):(purge q e).has q=false:=by
 unfold purge
 split
 ·rfl
 ·rename_i hh;simpa using hh
theorem z3c {q:Nat} {e:DV} (h:e.has q=false):purge q e=e:=by unfold purge;rw [h];rfl
theorem y8F {q:Nat} {σ:Nat→DV} {o:Opd} (h:o.isS=true):evS (z1d q σ) o=purge q (evS σ o):=by
 cases o<;>first|rfl|cases h
theorem z8W {q:Nat} {σ:Nat→DV} {o:Opd} (h:evS (z1d q σ) o≠.undef):evS σ o=evS (z1d q σ) o:=by
 cases o with
 | c d=>rfl
 | x k=>exact (z8c h).symm
 | t k=>exact (z8c h).symm
theorem x3z {q:Nat} {σ:Nat→DV} {g:Option (Opd × Bool)} {b:Bool} (h:gS (z1d q σ) g=some b):gS σ g=some b:=by
 cases g with
 | none=>exact h
 | some p =>
  obtain ⟨o,w⟩:=p
  have hne:evS (z1d q σ) o≠.undef:=by
   intro e;simp only [gS,e] at h;cases h
  simp only [gS] at h ⊢
  rw [z8W hne];exact h
theorem w3u {q:Nat} {σ:Nat→DV} {g:Option (Opd × Bool)} {b:Bool} (h:gS σ g=some b):gS (z1d q σ) g=some b:=by
 cases g with
 | none=>exact h
 | some p =>
  obtain ⟨o,w⟩:=p
  simp only [gS] at h ⊢
  have:evS (z1d q σ) o=evS σ o:=by
   cases o with
   | c d=>rfl
   | x k =>
    refine z3c ?_
    simp only [evS] at h
    split at h
    ·rename_i e;rw [e];rfl
    ·rename_i e;rw [e];rfl
    ·cases h
   | t k =>
    refine z3c ?_
    simp only [evS] at h
    split at h
    ·rename_i e;rw [e];rfl
    ·rename_i e;rw [e];rfl
    ·cases h
  rw [this];exact h
theorem y4W {q:Nat} {σ:Nat→DV}:∀(ps:List (Nat × Nat × Opd)) (cells cs:List DV),laid cells (ps.map fun p=>(p.1,p.2.1,evS (z1d q σ) p.2.2))=some cs→laid cells (ps.map fun p=>(p.1,p.2.1,evS σ p.2.2))=some cs
 | [],_,_,h=>h
 | (off,n,o)::ps,cells,cs,h=>by
  simp only [List.map_cons,laid,zO3] at h ⊢
  obtain ⟨c,hc,h⟩:=h
  have hne:evS (z1d q σ) o≠.undef:=by
   intro e;rw [e] at hc;simp [DV.cells?,DV.one] at hc
  rw [z8W hne]
  refine ⟨c,hc,?_⟩
  split at h
  ·rename_i hg;rw [if_pos hg];exact y4W ps _ cs h
  ·cases h
theorem x5u {y:DOper} {σ:Nat→DV} {h:Heap} {q:Nat} {c:List DV} {dj:DV} {ej:Eff} (hs:y.op.isSafe=true)
  (hj:Gives F y (z1d q σ) ((h.purge q).upd q (some c)) dj ej):ej=.no∧∃dj',Gives F y σ h dj' .no∧purge q dj'=dj:=by
 obtain ⟨dst,op,guard⟩:=y
 simp only at hs
 rcases hj.out with ⟨hg,hgo⟩|⟨hg,rfl,rfl⟩
 ·have hg':=x3z hg
  have out:∀dj',goD F ⟨dst,op,guard⟩ σ h dj' .no→purge q dj'=dj→∃dj',Gives F ⟨dst,op,guard⟩ σ h dj' .no∧purge q dj'=dj:=fun dj' h1 h2=>⟨dj',⟨.inl ⟨hg',h1⟩⟩,h2⟩
  have hq:∀(p:Nat) (cs:List DV),p≠q→((h.purge q).upd q (some c)) p=some cs→∃c0,h p=some c0∧cs=c0.map (purge q):=by
   intro p cs hp he
   simp only [Heap.upd,if_neg hp,Heap.purge,zO2] at he
   obtain ⟨c0,h1,h2⟩:=he
   exact ⟨c0,h1,h2.symm⟩
  have pne:∀{o:Opd} {p off:Nat},o.isS=true→evS (z1d q σ) o=.ptr p off→p≠q∧evS σ o=.ptr p off:=by
   intro o p off ho e
   refine ⟨?_,by rw [z8W (by rw [e];simp),e]⟩
   rintro rfl
   have:=y5f p (evS σ o)
   rw [←y8F ho,e] at this
   simp [DV.has] at this
  cases op with
  | mv x =>
   simp only [DOp.isSafe] at hs
   simp only [goD,opE,Option.some.injEq,Prod.mk.injEq] at hgo
   obtain ⟨rfl,rfl⟩:=hgo
   exact ⟨rfl,out (evS σ x) rfl (y8F hs).symm⟩
  | bsl sz z ps =>
   simp only [goD,opE,zO3] at hgo
   obtain ⟨cs,hcs,hgo⟩:=hgo
   obtain ⟨hrf,hgo⟩:=z0r hgo
   cases hgo
   refine ⟨rfl,out (.sl sz cs) ?_ rfl⟩
   simp only [goD,opE,zO3]
   exact ⟨cs,y4W ps _ _ hcs,if_pos hrf⟩
  | fad off x =>
   simp only [DOp.isSafe] at hs
   simp only [goD,opE] at hgo
   split at hgo
   ·rename_i o k e
    cases hgo
    obtain ⟨h1,h2⟩:=pne hs e
    refine ⟨rfl,out (.ptr o (k+off)) (by simp only [goD,opE,h2]) (z3c (by simp [DV.has,h1]))⟩
   ·rename_i xs i e
    cases hgo
    have h2:=z8W (q:=q) (σ:=σ) (o:=x) (by rw [e];simp)
    rw [e] at h2
    exact ⟨rfl,out (.el xs (i+off)) (by simp only [goD,opE,h2]) rfl⟩
   ·cases hgo
  | nilc x =>
   simp only [DOp.isSafe] at hs
   simp only [goD,opE] at hgo
   split at hgo
   ·rename_i o k e
    cases hgo
    obtain ⟨h1,h2⟩:=pne hs e
    exact ⟨rfl,out (.ptr o k) (by simp only [goD,opE,h2]) (z3c (by simp [DV.has,h1]))⟩
   ·rename_i xs i e
    cases hgo
    have h2:=z8W (q:=q) (σ:=σ) (o:=x) (by rw [e];simp)
    rw [e] at h2
    exact ⟨rfl,out (.el xs i) (by simp only [goD,opE,h2]) rfl⟩
   ·cases hgo
  | iad sz x i =>
   simp only [DOp.isSafe] at hs
   simp only [goD,opE] at hgo
   split at hgo
   ·rename_i s xs k n e e2
    obtain ⟨h1,hgo⟩:=z0r hgo
    cases hgo
    have h2:=z8W (q:=q) (σ:=σ) (o:=x) (by rw [e];simp)
    have h3:=z8W (q:=q) (σ:=σ) (o:=i) (by rw [e2];simp)
    rw [e] at h2
    rw [e2] at h3
    exact ⟨rfl,out (.el xs (n.toNat*sz)) (by simp only [goD,opE,h2,h3];exact if_pos h1) rfl⟩
   ·rename_i s o off len k n e e2
    obtain ⟨h1,hgo⟩:=z0r hgo
    cases hgo
    have h2:=z8W (q:=q) (σ:=σ) (o:=x) (by rw [e];simp)
    have h3:=z8W (q:=q) (σ:=σ) (o:=i) (by rw [e2];simp)
    rw [e] at h2
    rw [e2] at h3
    have hoq:o≠q:=by
     rintro rfl
     have:=y5f o (evS σ x)
     rw [←y8F hs,e] at this
     simp [DV.has] at this
    exact ⟨rfl,out (.ptr o (off+n.toNat*sz)) (by simp only [goD,opE,h2,h3];exact if_pos h1) (z3c (by simp [DV.has,hoq]))⟩
   ·cases hgo
  | lde x =>
   simp only [DOp.isSafe] at hs
   simp only [goD,opE] at hgo
   split at hgo
   ·rename_i xs i e
    obtain ⟨h1,hgo⟩:=z0r hgo
    cases hgo
    have h2:=z8W (q:=q) (σ:=σ) (o:=x) (by rw [e];simp)
    rw [e] at h2
    exact ⟨rfl,out (xs.getD i .undef) (by simp only [goD,opE,h2];exact if_pos h1) (z3c (z3u q _ h1.2))⟩
   ·cases hgo
  | ldne n x =>
   simp only [DOp.isSafe] at hs
   simp only [goD,opE] at hgo
   split at hgo
   ·rename_i xs i e
    obtain ⟨h1,hgo⟩:=z0r hgo
    cases hgo
    have h2:=z8W (q:=q) (σ:=σ) (o:=x) (by rw [e];simp)
    rw [e] at h2
    exact ⟨rfl,out (.agg ((xs.drop i).take n)) (by simp only [goD,opE,h2];exact if_pos h1) (z3c (z3u q _ (by rw [DV.rf_agg,List.all_eq_true];exact h1.2)))⟩
   ·cases hgo
  | ldr x =>
   simp only [DOp.isSafe] at hs
   simp only [goD,opE] at hgo
   split at hgo
   ·rename_i o off e
    obtain ⟨h1,h2⟩:=pne hs e
    simp only [zO3] at hgo
    obtain ⟨cs,hcs,hgo⟩:=hgo
    obtain ⟨⟨k1,k2,k3⟩,hgo⟩:=z0r hgo
    cases hgo
    obtain ⟨c0,h4,rfl⟩:=hq o cs h1 hcs
    rw [List.length_map] at k1
    have e5:(c0.map (purge q)).getD off .undef=purge q (c0.getD off .undef):=by
     simp [zO1,List.getElem?_map,zO4 k1]
    have e6:purge q (c0.getD off .undef)=c0.getD off .undef:=z8c (by rw [←e5];intro e7;rw [e7] at k2;cases k2)
    rw [e5,e6] at k2 k3
    exact ⟨rfl,out (c0.getD off .undef) (by simp only [goD,opE,h2,h4,Option.bind_some];exact if_pos ⟨k1,k2,k3⟩) e5.symm⟩
   ·cases hgo
  | ldnr n x =>
   simp only [DOp.isSafe] at hs
   simp only [goD,opE] at hgo
   split at hgo
   ·rename_i o off e
    obtain ⟨h1,h2⟩:=pne hs e
    simp only [zO3] at hgo
    obtain ⟨cs,hcs,hgo⟩:=hgo
    obtain ⟨⟨k1,k2⟩,hgo⟩:=z0r hgo
    cases hgo
    obtain ⟨c0,h4,rfl⟩:=hq o cs h1 hcs
    rw [List.length_map] at k1
    have e5:((c0.map (purge q)).drop off).take n=(c0.drop off).take n:=by
     rw [←List.map_drop,←List.map_take]
     have:∀d∈(c0.drop off).take n,purge q d=d:=fun d hd=>z8c (by
      intro e7
      have:=(k2 (purge q d) (by rw [←List.map_drop,←List.map_take];exact List.mem_map_of_mem hd)).1
      rw [e7] at this;cases this)
     exact (List.map_congr_left this).trans (List.map_id _)
    rw [e5] at k2
    exact ⟨rfl,out (.agg ((c0.drop off).take n)) (by simp only [goD,opE,h2,h4,Option.bind_some];exact if_pos ⟨k1,k2⟩) ((z3c (z3u q _ (by rw [DV.rf_agg,List.all_eq_true];exact fun d hd=>(k2 d hd).2))).trans (by rw [e5]))⟩
   ·cases hgo
  | _=>cases hs
 ·exact ⟨rfl,.tup [],⟨.inr ⟨x3z hg,rfl,rfl⟩⟩,rfl⟩
theorem y4N {x:DOper} {σ:Nat→DV} {h:Heap} {d:DV} {ef:Eff} (hx:x.op.isApp=true) (hg:Gives F x σ h d ef):(∃q c,ef=.app q c)∨(ef=.no∧gS σ x.guard=some false∧d=.tup []):=by
 rcases hg.out with ⟨_,h1⟩|⟨h0,h1,h2⟩
 ·refine .inl ?_
  obtain ⟨dst,op,guard⟩:=x
  cases op with
  | app te sz bytes s x =>
   simp only [goD,opE] at h1
   split at h1
   ·simp only [zO3] at h1
    obtain ⟨ys,_,h1⟩:=h1
    have h1:=(z0r h1).2
    rw [zO2] at h1
    obtain ⟨o,_,h1⟩:=h1
    cases h1
    exact ⟨_,_,rfl⟩
   ·simp only [zO3] at h1
    obtain ⟨cs,_,ys,_,h1⟩:=h1
    have h1:=(z0r h1).2
    cases h1
    exact ⟨_,_,rfl⟩
   ·cases h1
  | apps te s x =>
   simp only [goD,opE] at h1
   split at h1
   ·have h1:=(z0r h1).2
    rw [zO2] at h1
    obtain ⟨o,_,h1⟩:=h1
    cases h1
    exact ⟨_,_,rfl⟩
   ·simp only [zO3] at h1
    obtain ⟨cs,_,h1⟩:=h1
    have h1:=(z0r h1).2
    cases h1
    exact ⟨_,_,rfl⟩
   ·cases h1
  | _=>cases hx
 ·exact .inr ⟨h2,h0,h1⟩
theorem y1G (q:Nat) (σ:Nat→DV) (k:Option Nat) (d:DV):z1d q (z1u σ k d)=z1u (z1d q σ) k (purge q d):=by
 cases k with
 | none=>rfl
 | some k =>
  funext s
  unfold z1d z1u
  simp only
  split<;>rfl
theorem y6j {x y:DOper} {σ:Nat→DV} {h:Heap} {di dj:DV} {ei ej:Eff} (hap:x.apart y=true) (hcl:z6s x.op y.op=true) (hi:Gives F x σ h di ei)
  (hj:Gives F y (z1u (ei.onS σ) x.dst.slot di) (ei.onH h) dj ej) :
  ∃ dj' ej' di' ei',Gives F y σ h dj' ej'∧Gives F x (z1u (ej'.onS σ) y.dst.slot dj') (ej'.onH h) di' ei' ∧
   z1u (ei'.onS (z1u (ej'.onS σ) y.dst.slot dj')) x.dst.slot di'=z1u (ej.onS (z1u (ei.onS σ) x.dst.slot di)) y.dst.slot dj∧ei'.onH (ej'.onH h)=ej.onH (ei.onH h):=by
 simp only [z6s,Bool.or_eq_true,Bool.and_eq_true] at hcl
 obtain ⟨a1,a2,a3⟩:=y13 hap
 rcases hcl with (hcl|⟨hx,hy⟩)|⟨hx,hy⟩
 ·exact ⟨dj,ej,di,ei,x6v hap hcl hi hj⟩
 ·rw [Gives.upd a1] at hj
  rcases y4N hx hi with ⟨q,c,rfl⟩|⟨rfl,hg,rfl⟩
  ·obtain ⟨rfl,dj',h1,h2⟩:=x5u hy hj
   refine ⟨dj',.no,di,.app q c,h1,by rw [Gives.upd a2];exact hi,?_,rfl⟩
   show z1u (z1d q (z1u σ y.dst.slot dj')) x.dst.slot di=z1u (z1u (z1d q σ) x.dst.slot di) y.dst.slot dj
   rw [y1G,h2]
   exact z21 a3
  ·have hno:ej=.no:=by
    have hc:y.op.cls≤1:=by revert hy;cases y.op<;>simp [DOp.isSafe,DOp.cls]
    exact hj.noEff hc
   subst hno
   exact ⟨dj,.no,.tup [],.no,hj,by rw [Gives.upd a2];exact hi,z21 a3,rfl⟩
 ·have hno:ei=.no:=by
   have hc:x.op.cls≤1:=by revert hx;cases x.op<;>simp [DOp.isMv,DOp.cls]
   exact hi.noEff hc
  subst hno
  have hj':Gives F y σ h dj ej:=by rw [←Gives.upd a1];exact hj
  rcases y4N hy hj' with ⟨q,c,rfl⟩|⟨rfl,hg,rfl⟩
  ·refine ⟨dj,.app q c,purge q di,.no,hj',?_,?_,rfl⟩
   ·rw [Gives.upd a2]
    obtain ⟨dst,op,guard⟩:=x
    simp only at hx
    cases op with
    | mv x =>
     rcases hi.out with ⟨h0,h1⟩|⟨h0,rfl,_⟩
     ·simp only [goD,opE,Option.some.injEq,Prod.mk.injEq] at h1
      obtain ⟨rfl,_⟩:=h1
      refine ⟨.inl ⟨w3u h0,?_⟩⟩
      simp only [goD,opE]
      rw [show Eff.onS (.app q c) σ=z1d q σ from rfl,y8F hx]
     ·exact ⟨.inr ⟨w3u h0,rfl,rfl⟩⟩
    | _=>cases hx
   ·show z1u (z1u (z1d q σ) y.dst.slot dj) x.dst.slot (purge q di)=z1u (z1d q (z1u σ x.dst.slot di)) y.dst.slot dj
    rw [y1G]
    exact z21 a3
  ·exact ⟨.tup [],.no,di,.no,hj',by rw [Gives.upd a2];exact hi,z21 a3,rfl⟩
end
inductive Dep (ops:Array Oper):Nat→Nat→Prop where
 | direct {j:Nat} {o:Oper} {e:Edge} (ho:ops[j]? = some o) (he:e∈o.after) (hb:Region.binds .any e=true):Dep ops j e.on
 | step {j i:Nat} {o:Oper} {e:Edge} (ho:ops[j]? = some o) (he:e∈o.after) (hb:Region.binds .any e=true) (h:Dep ops e.on i):Dep ops j i
def z2L (ops:Array Oper) (listed:Array Bool):Prop :=
 ∀ j o,listed.getD j false=true→ops[j]? = some o→∀e∈o.after,Region.binds .any e=true→listed.getD e.on false=true
theorem z3s {ops:Array Oper} {listed:Array Bool} (hc:z2L ops listed) {j i:Nat} (hd:Dep ops j i)
  (hj:∀o,ops[j]? = some o→∀e∈o.after,Region.binds .any e=true→listed.getD e.on false=true):listed.getD i false=true:=by
 induction hd with
 | direct ho he hb=>exact hj _ ho _ he hb
 | step ho he hb _ ih=>exact ih fun o' ho'=>hc _ o' (hj _ ho _ he hb) ho'
theorem y4f {ops:Array Oper} {acc:List (List Nat)} {j:Nat} {o:Oper} (ho:ops[j]? = some o) (ha:∀k x,x∈acc.getD k []→Dep ops k x):∀x∈y4e acc o,Dep ops j x:=by
 intro x hx
 unfold y4e at hx
 rw [List.mem_eraseDups] at hx
 simp only [List.mem_flatMap,List.mem_filter,Array.mem_toList_iff,List.mem_cons] at hx
 obtain ⟨e,⟨he,hb⟩,h|h⟩:=hx
 ·subst h;exact .direct ho he hb
 ·exact .step ho he hb (ha _ _ h)
theorem z2F {ops:Array Oper}:∀(l:List Oper) (acc:List (List Nat)),(∀j,l[j]? = ops[acc.length+j]?)→(∀k x,x∈acc.getD k []→Dep ops k x) →
  ∀ k x,x∈(z1W l acc).getD k []→Dep ops k x
 | [],acc,_,ha=>ha
 | o::l,acc,hl,ha=>by
  have h0:ops[acc.length]? = some o:=by simpa using (hl 0).symm
  refine z2F l (acc++[y4e acc o]) (fun j=>by have:=hl (j+1);simpa [Nat.add_assoc,Nat.add_comm 1 j] using this) fun k x hx=>?_
  rw [zO1,List.getElem?_append] at hx
  split at hx
  ·exact ha k x (by rw [zO1];exact hx)
  ·by_cases e:k=acc.length
   ·subst e
    simp at hx
    exact y4f h0 ha x hx
   ·have:[y4e acc o][k - acc.length]? = none:=by simp;omega
    rw [this] at hx;simp at hx
end Go.Dat
namespace Go.Dat
open Go
section
variable {F:FnD}
def y7z (F:FnD) (dp:DOper) (K:(Nat→DV)→Heap→Prop) (σ:Nat→DV) (h:Heap):Prop :=
 ∃ d ef,Gives F dp σ h d ef∧K (z1u (ef.onS σ) dp.dst.slot d) (ef.onH h)
def w2E (F:FnD) (ops:Array Oper) (ds:List DOper) (K:(Nat→DV)→Heap→Prop):Nat→Array Bool→(Nat→DV)→Heap→Prop
 | 0,listed,σ,h=>Region.ready .any ops listed=[]∧K σ h
 | fuel+1,listed,σ,h=>(Region.ready .any ops listed=[]→K σ h) ∧
  ∀ i∈Region.ready .any ops listed,∃x,ds[i]? = some x∧y7z F x (w2E F ops ds K fuel (listed.setIfInBounds i true)) σ h
def x9f (F:FnD):List DOper→((Nat→DV)→Heap→Prop)→(Nat→DV)→Heap→Prop
 | [],K=>K
 | o::os,K=>y7z F o (x9f F os K)
theorem z2L.set {ops:Array Oper} {listed:Array Bool} (hc:z2L ops listed) {i:Nat} (hi:i∈Region.ready .any ops listed):z2L ops (listed.setIfInBounds i true):=by
 obtain ⟨h0,o,ho,hall⟩:=mem_ready.1 hi
 intro j oj hj hoj e he hb
 by_cases hji:i=j
 ·subst hji
  rw [ho] at hoj;cases hoj
  exact getD_set_true (hall e he hb)
 ·rw [getD_set_ne false hji] at hj
  exact getD_set_true (hc j oj hj hoj e he hb)
theorem x0i {ops:Array Oper} {ds:List DOper} {K:(Nat→DV)→Heap→Prop} {i:Nat} {x:DOper} (hx:ds[i]? = some x):∀(fuel:Nat) (listed:Array Bool) (σ:Nat→DV) (h:Heap) (di:DV) (ei:Eff),
  z2L ops listed→i∈Region.ready .any ops listed →
  (∀j y,ds[j]? = some y→j≠i→listed.getD j true=false→Dep ops j i∨(x.apart y=true∧z6s x.op y.op=true)) →
  Gives F x σ h di ei→w2E F ops ds K fuel (listed.setIfInBounds i true) (z1u (ei.onS σ) x.dst.slot di) (ei.onH h)→w2E F ops ds K (fuel+1) listed σ h:=by
 intro fuel
 induction fuel with
 | zero =>
  intro listed σ h di ei hc hi hap hg H
  refine ⟨fun e=>(by rw [e] at hi;cases hi),fun j hj=>?_⟩
  by_cases hji:j=i
  ·subst hji;exact ⟨x,hx,di,ei,hg,H⟩
  ·have:=ready_mono hj hji
   rw [H.1] at this;cases this
 | succ fuel ih =>
  intro listed σ h di ei hc hi hap hg H
  refine ⟨fun e=>(by rw [e] at hi;cases hi),fun j hj=>?_⟩
  by_cases hji:j=i
  ·subst hji;exact ⟨x,hx,di,ei,hg,H⟩
  ·obtain ⟨y,hy,dj,ej,hgj,H'⟩:=H.2 j (ready_mono hj hji)
   obtain ⟨hjun,oj,hoj,hall⟩:=mem_ready.1 hj
   obtain ⟨hiun,_,_,_⟩:=mem_ready.1 hi
   have hnd:¬Dep ops j i:=by
    intro hd
    have h1:=z3s hc hd fun o ho e he hb=>by rw [hoj] at ho;cases ho;exact hall e he hb
    have h2:listed.getD i true=true:=by
     rw [Array.getD_eq_getD_getElem?] at h1 ⊢
     cases hq:listed[i]? with
     | none=>rfl
     | some b=>rw [hq] at h1;exact h1
    rw [hiun] at h2;cases h2
   obtain ⟨hap1,hap2⟩:=(hap j y hy hji hjun).resolve_left hnd
   obtain ⟨dj',ej',di',ei',g1,g2,g3,g4⟩:=y6j hap1 hap2 hg hgj
   refine ⟨y,hy,dj',ej',g1,ih _ _ _ di' ei' (hc.set hj) (ready_mono hi (Ne.symm hji)) (fun k z hz hki hun=>?_) g2 ?_⟩
   ·refine hap k z hz hki ?_
    by_cases hjk:j=k
    ·subst hjk;exact hjun
    ·rwa [getD_set_ne true hjk] at hun
   ·rw [g3,g4,Array.setIfInBounds_comm _ _ hji]
    exact H'
theorem x6c {ops:Array Oper} {ds:List DOper} {K:(Nat→DV)→Heap→Prop} {deps:List (List Nat)} (hdeps:∀k x,x∈deps.getD k []→Dep ops k x) (hlen:ds.length=ops.size) :
  ∀ (fuel k:Nat) (listed:Array Bool) (σ:Nat→DV) (h:Heap),k+fuel=ops.size→z2L ops listed→z77 ops ds deps fuel k listed=true→x9f F (ds.drop k) K σ h→w2E F ops ds K fuel listed σ h:=by
 intro fuel
 induction fuel with
 | zero =>
  intro k listed σ h hk hc hd hl
  rw [List.drop_eq_nil_of_le (by omega)] at hl
  exact ⟨List.isEmpty_iff.1 hd,hl⟩
 | succ fuel ih =>
  intro k listed σ h hk hc hd hl
  simp only [z77,Bool.and_eq_true,List.contains_iff_mem,List.all_eq_true,List.mem_range] at hd
  obtain ⟨⟨hr,hall⟩,hd⟩:=hd
  have hlt:k<ds.length:=by omega
  rw [List.drop_eq_getElem_cons hlt] at hl
  obtain ⟨d,ef,hg,hl⟩:=hl
  refine x0i (zO4 hlt) fuel listed σ h d ef hc hr (fun j y hy hjk hun=>?_) hg (ih (k+1) _ _ _ (by omega) (hc.set hr) hd hl)
  have hjl:j<ops.size:=by have:=(List.getElem?_eq_some_iff.1 hy).1;omega
  have:=hall j hjl
  rw [hun,zO4 hlt,hy] at this
  simp only [Bool.or_eq_true,beq_iff_eq,Bool.false_eq_true,or_false,Bool.and_eq_true,List.contains_iff_mem] at this
  rcases this with (h1|h1)|h1
  ·exact absurd h1 hjk
  ·exact .inl (hdeps _ _ h1)
  ·exact .inr h1.1
theorem z8X {vs:List Nat} {te fr:Fr} {o:Opd} (h:x5H vs o=true):ev te fr o=evS (den vs te fr) o:=by
 cases o with
 | c d=>rfl
 | x k=>simp only [x5H] at h;simp only [ev,evS,den,h,if_true]
 | t k=>simp only [x5H,Bool.not_eq_true'] at h;simp only [ev,evS,den,h,Bool.false_eq_true,if_false]
theorem x2G {vs:List Nat} {d:Dst} (h:w2I vs d=true):d=y3c vs d.slot:=by
 cases d with
 | no=>rfl
 | x k=>simp only [w2I] at h;simp [Dst.slot,y3c];simpa using h
 | t k=>simp only [w2I,Bool.not_eq_true'] at h;simp [Dst.slot,y3c];simpa using h
theorem y9H (hp:F.pure=true) {K:Fr→Fr→Hp→Prop}:∀(ds:List DOper),ds.all (·.tags F.vs)=true→∀(te fr:Fr) (H:Hp),z1l F ds te fr H K →
  x9f F ds (fun σ h=>∃te fr H,σ=den F.vs te fr∧h=lkH H∧K te fr H) (den F.vs te fr) (lkH H)
 | [],_,te,fr,H,hw=>⟨te,fr,H,rfl,rfl,hw⟩
 | o::os,ht,te,fr,H,hw=>by
  simp only [List.all_cons,Bool.and_eq_true] at ht
  obtain ⟨ht,hts⟩:=ht
  simp only [DOper.tags,Bool.and_eq_true] at ht
  obtain ⟨⟨t1,t2⟩,t3⟩:=ht
  have ih:=y9H hp (K:=K) os hts
  have hd:=x2G t1
  have skip:gS (den F.vs te fr) o.guard=some false→z1l F os (o.dst.onT te (.tup [])) (o.dst.onX fr (.tup [])) H K→x9f F (o::os) (fun σ h=>∃te fr H,σ=den F.vs te fr∧h=lkH H∧K te fr H) (den F.vs te fr) (lkH H):=fun hg hw =>
   (show x9f F (o::os) (fun σ h=>∃te fr H,σ=den F.vs te fr∧h=lkH H∧K te fr H) (den F.vs te fr) (lkH H) from by
    refine ⟨.tup [],.no,⟨.inr ⟨hg,rfl,rfl⟩⟩,?_⟩
    have:=ih _ _ _ hw
    rw [hd,z2B] at this
    rw [hd,z08]
    exact this)
  have hev:∀p∈o.op.opds,ev te fr p=evS (den F.vs te fr) p:=fun p hp=>z8X (List.all_eq_true.1 t2 p hp)
  have go:gS (den F.vs te fr) o.guard=some true→(match o.op with
   | .call f args=>z3r F f (args.map (ev te fr)) te fr H fun d te' fr' H'=>z1l F os (o.dst.onT te' d) (o.dst.onX fr' d) H' K
   | p=>OW (opE F.nb o.dst.slot (ev te fr) (lkH H) p) fun r=>z1l F os (o.dst.onT (r.2.onF te) r.1) (o.dst.onX (r.2.onF fr) r.1) (r.2.onL H) K)→x9f F (o::os) (fun σ h=>∃te fr H,σ=den F.vs te fr∧h=lkH H∧K te fr H) (den F.vs te fr) (lkH H):=fun hg hw =>
   (show x9f F (o::os) (fun σ h=>∃te fr H,σ=den F.vs te fr∧h=lkH H∧K te fr H) (den F.vs te fr) (lkH H) from by
    have plain:OW (opE F.nb o.dst.slot (ev te fr) (lkH H) o.op) (fun r=>z1l F os (o.dst.onT (r.2.onF te) r.1) (o.dst.onX (r.2.onF fr) r.1) (r.2.onL H) K) →
      ((∀f args,o.op≠.call f args))→x9f F (o::os) (fun σ h=>∃te fr H,σ=den F.vs te fr∧h=lkH H∧K te fr H) (den F.vs te fr) (lkH H):=by
     rintro ⟨⟨d,ef⟩,he,hk⟩ hnc
     refine ⟨d,ef,⟨.inl ⟨hg,?_⟩⟩,?_⟩
     ·rw [z3w hev] at he
      unfold goD
      cases hop:o.op with
      | call f args=>exact absurd hop (hnc f args)
      | _=>rw [hop] at he;exact he
     ·have:=ih _ _ _ hk
      rw [hd,z2B,y6i,y2L] at this
      rw [hd,z08]
      exact this
    cases hop:o.op with
    | call f args =>
     rw [hop] at hw
     simp only [z3r,hp,if_true] at hw
     obtain ⟨r,h1,h2,h3⟩:=hw
     rw [hop] at hev
     have hm:args.map (ev te fr)=args.map (evS (den F.vs te fr)):=List.map_congr_left fun p hp=>hev p hp
     rw [hm] at h1 h2
     refine ⟨r,.no,⟨.inl ⟨hg,?_⟩⟩,?_⟩
     ·unfold goD;rw [hop];exact ⟨h1,h2,rfl⟩
     ·have:=ih _ _ _ h3
      rw [hd,z2B] at this
      rw [hd,z08]
      exact this
    | _ =>
     rw [hop] at hw
     exact plain (by rw [hop];exact hw) (by rw [hop];intro f args e;cases e))
  simp only [z1l] at hw
  cases hgu:o.guard with
  | none =>
   rw [hgu] at hw
   exact go (by rw [hgu];rfl) hw
  | some p =>
   obtain ⟨g,want⟩:=p
   rw [hgu] at hw t3
   have hgv:=z8X (te:=te) (fr:=fr) t3
   simp only at hw
   split at hw
   ·rename_i b hb
    rw [hgv] at hb
    by_cases hbw:b=want
    ·exact go (by rw [hgu];simp only [gS,hb];simp [hbw]) (hw.1 hbw)
    ·exact skip (by rw [hgu];simp only [gS,hb];simp [hbw]) (hw.2 (by clear hw;cases b<;>cases want<;>first|rfl|exact absurd rfl hbw))
   ·rename_i hb
    rw [hgv] at hb
    exact skip (by rw [hgu];simp only [gS,hb]) hw
   ·exact hw.elim
end
section
variable {F:FnD} {G:Cx} {L:Nat→Option Nat} {a:Act} {w:World} {σ:Nat→DV} {h:Heap}
theorem z23 {ops:Array Oper} {o:Oper} {g:Option (Opd × Bool)} {b:Bool} (hR:R G L σ h a w) (hg:z2z F.vs ops o.guard=some g) (hb:gS σ g=some b) :
  Region.wanted o (yielded ops a.tmps)=b:=by
 cases hgd:o.guard with
 | none =>
  rw [hgd] at hg
  simp only [z2z,Option.some.injEq] at hg
  subst hg
  simp only [gS,Option.some.injEq] at hb
  subst hb
  simp [Region.wanted,hgd]
 | some p =>
  obtain ⟨j,w0⟩:=p
  rw [hgd] at hg
  simp only [z2z,zO2] at hg
  obtain ⟨k,hk,hg⟩:=hg
  subst hg
  have he:evS σ (z0Y F.vs (.tmp k))=σ k:=by simp only [z0Y];split<;>rfl
  simp only [gS,he] at hb
  have hv:=hR.slots k
  split at hb
  ·rename_i c hc
   rw [hc] at hv
   have h1:=x3E hv.inv_bool (by simp [undef])
   simp only [Option.some.injEq] at hb
   subst hb
   simp [Region.wanted,hgd,yielded,hk,h1]
  ·rename_i hc
   rw [hc] at hv
   obtain ⟨us,hu,hl,_⟩:=hv.inv_tup
   have:us=#[]:=Array.eq_empty_of_size_eq_zero (by simpa using hl.symm)
   subst this
   have hy:yielded ops a.tmps j=none:=by
    simp only [yielded,hk,Option.bind_some]
    rw [Array.getD_eq_getD_getElem?] at hu
    cases hq:a.tmps[k]? with
    | none=>rfl
    | some v=>rw [hq] at hu;simp only [Option.getD_some] at hu;rw [hu]
   simp only [Option.some.injEq] at hb
   subst hb
   simp [Region.wanted,hgd,hy]
  ·cases hb
theorem z3O {o:Oper} {ops:Array Oper} {dp:DOper} {d:DV} {ef:Eff} {K:Act→World→Prop} {Q:Exit→Act→World→Prop}
  (hs:z4U F.P F.vs F.own F.n ops o=some dp) (hn:G.n=F.n∧G.ok F.P) (hR:R G L σ h a w) (hgo:goD F dp σ h d ef)
  (hK:∀L a w,R G L (z1u (ef.onS σ) dp.dst.slot d) (ef.onH h) a w→K a w):o.wp F.P a w K Q:=by
 obtain ⟨dst,op,ty,pos,after,guard⟩:=o
 simp only [z4U,zO3] at hs
 obtain ⟨p,hp,g,hg,hs⟩:=hs
 split at hs
 ·rename_i hd
  cases hs
  rw [z08] at hK
  have hdl:=z4j hd
  have hE:EV F.vs (evS σ) w L (Av G.S L) a:=fun x=>x98 hR x
  have plain:opE F.nb (y3c F.vs dst).slot (evS σ) h p=some (d,ef)→Oper.wp F.P ⟨dst,op,ty,pos,after,guard⟩ a w K Q:=by
   intro he
   rw [z08] at he
   obtain ⟨v,w',L',hr,hR',hv⟩:=y5b (P:=F.P) F.nb (ty:=ty) (pos:=pos) (after:=after) (guard:=guard) hE hR op hp he
   have hput:=hR'.put hv (by rw [hn.1];exact hdl)
   have:=hK _ _ _ hput
   unfold Oper.wp
   rcases hr with hr|⟨hr,rfl⟩
   ·rw [hr];exact this
   ·rw [hr];exact this
  cases p with
  | call f args =>
   simp only [goD] at hgo
   have hc : ∃ c fn, op = .call c ∧ c.callee = .value (.func f) ∧ F.P.funcs[f]? = some fn ∧ fn.body.isSome = true ∧ (fn.name != "runtime.NumGoroutine") = true ∧ args = c.args.toList.map (z0Y F.vs) := by
    cases op with
    | call c =>
     obtain ⟨callee,cargs,argTypes⟩:=c
     cases callee with
     | value q =>
      cases q with
      | func f' =>
       simp only [sOp] at hp
       split at hp
       ·rename_i fn hfn
        split at hp
        ·rename_i hcond
         cases hp
         simp only [Bool.and_eq_true] at hcond
         exact ⟨_,fn,rfl,rfl,hfn,hcond.1,hcond.2,rfl⟩
        ·cases hp
       ·cases hp
      | _=>simp [sOp] at hp
     | invoke r m=>simp [sOp] at hp
     | builtin b =>
      exfalso
      cases b<;>simp only [sOp] at hp<;>(repeat' split at hp)<;>first|(cases hp;done)|(simp [zO3] at hp;done)|(simp only [zO3] at hp;obtain ⟨_,_,hp⟩:=hp;split at hp<;>cases hp)
    | _ =>
     exfalso
     exact z6W (by intro c e;cases e) hp
   obtain ⟨c,fn,rfl,hcal,hfn,hbody,hname,rfl⟩:=hc
   obtain ⟨callee,cargs,argTypes⟩:=c
   simp only at hcal hgo
   subst hcal
   obtain ⟨hpc,hrf,rfl⟩:=hgo
   have hA:∀b,Av G.S L b→b<w.heap.size:=by
    rintro b (h|⟨o,h⟩)
    ·exact hR.sLt b h
    ·exact hR.heap.lt h
   have hcall:=hpc (Av G.S L) w (cargs.map a.eval) (hn.2.tab hR) hA (by simp) (fun k d v h1 h2=>by
    have hrfd:=List.all_eq_true.1 hrf d (List.mem_of_getElem? h1)
    simp only [List.map_map,List.getElem?_map,Array.getElem?_toList,zO2] at h1
    simp only [Array.getElem?_map,zO2] at h2
    obtain ⟨x,hx,rfl⟩:=h1
    obtain ⟨y,hy,rfl⟩:=h2
    rw [hx] at hy;cases hy
    exact (hE x).rf_imm hrfd)
   have hr:(execOp a.eval ⟨dst,.call { callee:=.value (.func f),args:=cargs,argTypes:=argTypes },ty,pos,after,guard⟩).run F.P w=.ok (.enter f (cargs.map a.eval)) w:=by
    have hb:¬fn.body=none:=by intro e;rw [e] at hbody;cases hbody
    have hnm : ¬ fn.name = "runtime.NumGoroutine" := by simpa using hname
    simp [execOp,resolve,Act.eval,Deferred.ofValue,invoke,callFunc,hfn,hnm,hb]
   unfold Oper.wp
   rw [hr]
   refine hcall.mono ?_
   rintro e w' ⟨v,rfl,hvi,hx⟩
   exact hK _ _ _ ((hR.still hx).put (.imm hvi) (by rw [hn.1];exact hdl))
  | _=>exact plain hgo
 ·cases hs
theorem z12 {ops:Array Oper}:∀(l:List Oper) (ds:List DOper),z1M F.P F.vs F.own F.n ops l=some ds→ds.length=l.length∧∀(i:Nat) (o:Oper),l[i]? = some o→∃dp,ds[i]? = some dp∧z4U F.P F.vs F.own F.n ops o=some dp
 | [],ds,hs=>by simp only [z1M,Option.some.injEq] at hs;subst hs;exact ⟨rfl,fun i o h=>by simp at h⟩
 | o::l,ds,hs=>by
  simp only [z1M,zO3,zO2] at hs
  obtain ⟨dp,hdp,ds',hds',rfl⟩:=hs
  obtain ⟨h1,h2⟩:=z12 l ds' hds'
  refine ⟨by simp [h1],fun i p hp=>?_⟩
  cases i with
  | zero=>simp at hp;subst hp;exact ⟨dp,rfl,hdp⟩
  | succ i=>simp at hp;simpa using h2 i p hp
theorem x0j {ops:Array Oper} {ds:List DOper} {Q:Exit→Act→World→Prop} {K:(Nat→DV)→Heap→Prop} (hn:G.n=F.n∧G.ok F.P) (hs:z1M F.P F.vs F.own F.n ops ops.toList=some ds)
  (hK:∀σ h L a w,R G L σ h a w→K σ h→Q .normal a w):∀(fuel:Nat) (listed:Array Bool) (σ:Nat→DV) (h:Heap) (L:Nat→Option Nat) (a:Act) (w:World),R G L σ h a w →
   w2E F ops ds K fuel listed σ h→wpAny F.P .any ops Q fuel listed a w:=by
 intro fuel
 induction fuel with
 | zero=>intro listed σ h L a w hR hA;exact ⟨hA.1,hK _ _ _ _ _ hR hA.2⟩
 | succ fuel ih =>
  intro listed σ h L a w hR hA
  refine ⟨fun e=>hK _ _ _ _ _ hR (hA.1 e),fun i hi=>?_⟩
  obtain ⟨x,hx,d,ef,hg,hA'⟩:=hA.2 i hi
  obtain ⟨_,o,ho,_⟩:=mem_ready.1 hi
  obtain ⟨dp,hdp,hso⟩:=(z12 _ _ hs).2 i o (by simpa using ho)
  rw [hx] at hdp;cases hdp
  have hgd:z2z F.vs ops o.guard=some x.guard∧x.dst=y3c F.vs o.dst∧∀k,o.dst=some k→k<F.n:=by
   simp only [z4U,zO3] at hso
   obtain ⟨p,hp,g,hg',hs⟩:=hso
   split at hs
   ·rename_i hd;cases hs;exact ⟨hg',rfl,z4j hd⟩
   ·cases hs
  obtain ⟨hgu,hdst,hdl⟩:=hgd
  simp only [wpOp,ho]
  rcases hg.out with ⟨h1,h2⟩|⟨h1,rfl,rfl⟩
  ·rw [z23 hR hgu h1,if_pos rfl]
   exact .inl (z3O hso hn hR h2 fun L a w hR'=>ih _ _ _ L a w hR' hA')
  ·rw [z23 hR hgu h1,if_neg (by simp)]
   rw [hdst,z08] at hA'
   exact ih _ _ _ L _ w (hR.put z8k (by rw [hn.1];exact hdl)) hA'
theorem z0p {Q:Ex→Fr→Hp→Prop} {fr:Fr} {H:Hp} {ds:List DOper} (hw:z1l { F with pure:=true } ds [] fr H fun _ fr H=>Q .norm fr H):W F (.regd ds) Q fr H:=by
 intro code hc G L a w hn hR
 cases code<;>simp only [strip] at hc<;>first|(cases hc;done)|skip
 rename_i id ops draw
 split at hc
 ·rename_i ds' hds
  split at hc
  ·rename_i hd
   subst hd
   split at hc
   ·cases hc
   split at hc
   ·rename_i hok
    cases hc
    simp only [x8G,Bool.and_eq_true] at hok
    obtain ⟨⟨_,⟨⟨_,htags⟩,hdf⟩⟩,hm⟩:=hok
    refine wp_region_any hm ?_
    have hlen:ds.length=ops.size:=by rw [(z12 _ _ hds).1];simp
    have hlex:=y9H (F:={ F with pure:=true }) rfl ds htags [] fr H hw
    have hany:w2E { F with pure:=true } ops ds (fun σ h=>∃te fr' H',σ=den F.vs te fr'∧h=lkH H'∧Q .norm fr' H') ops.size (Array.replicate ops.size false) (den F.vs [] fr) (lkH H):=by
     refine x6c (deps:=z1W ops.toList []) (fun k x hx=>?_) hlen ops.size 0 _ _ _ (by omega) ?_ hdf hlex
     ·exact z2F ops.toList [] (fun j=>by simp) (fun k x hx=>by simp at hx) k x hx
     ·intro j o hj _ e _ _
      simp [Array.getD_eq_getD_getElem?,Array.getElem?_replicate] at hj
      split at hj<;>simp at hj
    refine x0j (F:={ F with pure:=true }) (G:=G) (K:=fun σ h=>∃te fr' H',σ=den F.vs te fr'∧h=lkH H'∧Q .norm fr' H') hn hds ?_ ops.size _ _ _ L a _ (hR.still (w':={ w with drawn:=w.drawn+1 }) ⟨rfl,rfl,rfl,Nat.le_refl _,fun _ _ _=>rfl⟩) hany
    rintro σ h L a w hR' ⟨te,fr',H',rfl,rfl,hk⟩
    refine ⟨L,fr',H',.norm,hR'.weak fun s=>?_,rfl,hk⟩
    simp only [den,lk]
    split
    ·exact .inl rfl
    ·exact .inr rfl
   ·(repeat' split at hc)<;>cases hc
  ·cases hc
 ·cases hc
end
end Go.Dat
namespace Go.Dat
open Go
def frz (o:Nat) (cells:List DV):DV→DV
 | .osl sz p off len=>if p=o then (if sz≠0∧off+len*sz≤cells.length then .sl sz ((cells.drop off).take (len*sz)) else .undef) else .osl sz p off len
 | d=>purge o d
def rmH (o:Nat) (cells:List DV):Hp→Hp
 | []=>[]
 | (k,d)::r=>if k=o then rmH o cells r else (k,d.map (frz o cells))::rmH o cells r
theorem y4G (o:Nat) (cells:List DV):frz o cells .undef=.undef:=by simp [frz,purge]
theorem w0g (o:Nat) (cells:List DV) (d:DV) (h:d.sim=true):frz o cells d=d:=by cases d<;>first|(cases h;done)|simp [frz,purge,DV.has]
theorem y2M (o:Nat) (cells:List DV):∀(H:Hp) (s:Nat),lkH (rmH o cells H) s=if s=o then none else (lkH H s).map (·.map (frz o cells))
 | [],s=>by simp [rmH,lkH]
 | (k,d)::r,s=>by
  simp only [rmH,lkH]
  by_cases h1:k=o
  ·rw [if_pos h1,y2M o cells r s]
   by_cases h2:s=o
   ·simp [h2]
   ·rw [if_neg h2,if_neg h2,if_neg (by omega)]
  ·rw [if_neg h1]
   simp only [lkH,y2M o cells r s]
   by_cases h2:k=s
   ·subst h2;simp [h1]
   ·simp [h2]
section
variable {G:Cx} {L:Nat→Option Nat} {σ:Nat→DV} {h:Heap} {a:Act} {w:World}
theorem R.freeze (o:Nat) (hK:G.K o=none) {cells:List DV} (ho:h o=some cells) (hrf:cells.all DV.rf=true) (hR:R G L σ h a w) :
  R G (z1O L o none) (fun s=>frz o cells (σ s)) (fun p=>if p=o then none else (h p).map (·.map (frz o cells))) a w:=by
 have hinv:∀p b,z1O L o none p=some b→p≠o∧L p=some b:=fun p b hp=>by
  unfold z1O at hp;by_cases e:p=o
  ·rw [if_pos e] at hp;cases hp
  ·rw [if_neg e] at hp;exact ⟨e,hp⟩
 have hAA:∀b,¬Av G.S L b→¬Av G.S (z1O L o none) b:=by
  rintro b hA (hS|⟨p,hp⟩)
  ·exact hA (.inl hS)
  ·exact hA (.inr ⟨p,(hinv p b hp).2⟩)
 have hPV:∀d v,V w L (Av G.S L) d v→V w (z1O L o none) (Av G.S (z1O L o none)) (Dat.purge o d) v:=fun d v hd =>
  hd.purge o (fun b _ hA=>⟨rfl,hAA b hA⟩) fun p b hne hp=>⟨by simp [z1O,hne,hp],rfl⟩
 have hV:∀d v,V w L (Av G.S L) d v→V w (z1O L o none) (Av G.S (z1O L o none)) (frz o cells d) v:=fun d v hd=>by
  cases d with
  | osl sz p off len =>
   simp only [frz]
   by_cases hp:p=o
   ·subst hp
    rw [if_pos rfl]
    split
    ·rename_i hfit
     rcases hd.inv_osl with ⟨b,c,T,m,hL,rfl,hc,hs,hm⟩|⟨rfl,rfl⟩
     ·obtain ⟨cells',cur,T',hho,hb,hl',hpp⟩:=hR.heap.at_ hL
      rw [ho] at hho;cases hho
      by_cases h0:(cells.drop off).take (len*sz)=[]
      ·rw [h0]
       have:len=0:=by
        rcases Nat.eq_zero_or_pos len with e|e
        ·exact e
        ·have h1:=Nat.mul_pos e (Nat.pos_of_ne_zero hfit.1)
         have h2:=congrArg List.length h0
         simp at h2;omega
       subst this
       exact .imm (.sl0 _ _ _)
      ·have hlen:((cells.drop off).take (len*sz)).length=len*sz:=by simp;omega
       have hget:∀k r,((cells.drop off).take (len*sz))[k]? = some r→∃u,cur[off+k]? = some u∧VI w (Av G.S (z1O L p none)) r u:=by
        intro k r hk
        have hlt:k<len*sz:=by have:=(List.getElem?_eq_some_iff.1 hk).1;omega
        obtain ⟨u,hu⟩:=z0w (l:=cur) (k:=off+k) (by omega)
        have hc:=z15 hk
        refine ⟨u,hu,((hpp _ r u hc hu).rf_imm (List.all_eq_true.1 hrf r (List.mem_of_getElem? hc))).mono fun b _ hA=>⟨rfl,hAA b hA⟩⟩
       have hnb:¬Av G.S (z1O L p none) b:=by
        rintro (h1|⟨q,h1⟩)
        ·exact hR.heap.notS p b hL h1
        ·obtain ⟨h2,h3⟩:=hinv q b h1
         exact h2 (hR.heap.inj q p b h3 hL)
       refine .imm (.sl (ad:=⟨b,off,none⟩) (fun k=>(cur[off+k]?).getD Go.undef) h0 hlen hc hnb (fun k r hk=>?_) (fun k r hk=>?_))
       ·obtain ⟨u,hu,_⟩:=hget k r hk
        rw [add_lit,cell_of_row w b _ cur T' (0,0) hb,hu];rfl
       ·obtain ⟨u,hu,hv'⟩:=hget k r hk
        rw [hu];exact hv'
     ·simp only [Nat.zero_mul,List.take_zero]
      exact .imm (.sl0 _ _ _)
    ·exact .imm (.undef _)
   ·rw [if_neg hp]
    have:=hPV _ _ hd
    unfold Dat.purge at this
    rwa [if_neg (by simpa [DV.has] using hp)] at this
  | _=>exact hPV _ _ hd
 refine { hR with slots:=fun s=>hV _ _ (hR.slots s),heap:=⟨?_,?_,?_,?_,fun p b hp=>hR.heap.ty p b (hinv p b hp).2⟩,own:=fun p b hp=>hR.own p b (hinv p b hp).2,keep:=fun p b hp=>⟨by unfold z1O;rw [if_neg (by rintro rfl;rw [hK] at hp;cases hp)];exact (hR.keep p b hp).1,(hR.keep p b hp).2⟩ }
 ·intro p b hp
  obtain ⟨hne,hp'⟩:=hinv p b hp
  obtain ⟨c,hc⟩:=hR.heap.dom p b hp'
  exact ⟨_,by simp only [hne,if_false,hc,Option.map_some];rfl⟩
 ·intro p c hp
  by_cases e:p=o
  ·simp only [e,if_true] at hp;cases hp
  ·simp only [e,if_false,zO2] at hp
   obtain ⟨c0,hc0,rfl⟩:=hp
   rcases hR.heap.obj p c0 hc0 with ⟨h1,h2⟩|⟨b,cs,T,hL,hb,hl,hv⟩
   ·exact .inl ⟨by simp [z1O,e,h1],by simp [h2]⟩
   ·refine .inr ⟨b,cs,T,by simp [z1O,e,hL],hb,by simpa using hl,fun k d v h1 h2=>?_⟩
    simp only [List.getElem?_map,zO2] at h1
    obtain ⟨d0,hd0,rfl⟩:=h1
    exact hV _ _ (hv k d0 v hd0 h2)
 ·intro p q b hp hq
  exact hR.heap.inj p q b (hinv p b hp).2 (hinv q b hq).2
 ·intro p b hp
  exact hR.heap.notS p b (hinv p b hp).2
end
theorem R.freezeL {G:Cx} {L:Nat→Option Nat} {a:Act} {w:World} {vs:List Nat} {te fr:Fr} {H:Hp} (o:Nat) (hK:G.K o=none) {cells:List DV} (ho:lkH H o=some cells) (hrf:cells.all DV.rf=true) (hR:R G L (den vs te fr) (lkH H) a w) :
  R G (z1O L o none) (den vs (z0J (frz o cells) te) (z0J (frz o cells) fr)) (lkH (rmH o cells H)) a w:=by
 have:=hR.freeze o hK ho hrf
 have e1:(fun s=>frz o cells (den vs te fr s))=den vs (z0J (frz o cells) te) (z0J (frz o cells) fr):=by
  funext s
  simp only [den,z4p _ (y4G o cells)]
  split<;>rfl
 have e2:(fun p=>if p=o then none else (lkH H p).map (·.map (frz o cells)))=lkH (rmH o cells H):=by
  funext p;rw [y2M]
 rw [e1,e2] at this
 exact this
theorem z0I {F:FnD} {c:DC} {Q:Ex→Fr→Hp→Prop} {fr:Fr} {H:Hp} (o:Nat) {cells:List DV} (ho:lkH H o=some cells) (hrf:cells.all DV.rf=true)
  (hw:W F c Q (z0J (frz o cells) fr) (rmH o cells H)) (hlt:o<1048576:=by decide):W F c Q fr H:=by
 intro code hc G L a w hn hR
 exact hw code hc G _ a w hn (hR.freezeL (te:=[]) o (hR.keep_none hlt) ho hrf)
theorem y3K {F:FnD} {f:Nat} {ds:List DV} {te fr:Fr} {H:Hp} {K:DV→Fr→Fr→Hp→Prop} (hp:F.pure=false) (o:Nat) {cells:List DV} (ho:lkH H o=some cells) (hrf:cells.all DV.rf=true)
  (hc:z3r F f (ds.map (frz o cells)) (z0J (frz o cells) te) (z0J (frz o cells) fr) (rmH o cells H) K) (hlt:o<1048576:=by decide):z3r F f ds te fr H K:=by
 refine y7Z hp ?_
 have hc':=y6g hc
 intro G L a w us hG hR hs hv
 refine Calls.mono (hc' G _ a w us hG (hR.freezeL o (hR.keep_none hlt) ho hrf) (by simpa using hs) fun k d v h1 h2=>?_) fun e w' hq=>?_
 rotate_left
 ·obtain ⟨v,L',d,te',fr',H',e1,e2,e3,e4,e5⟩:=hq
  exact ⟨v,L',d,te',fr',H',e1,e2,e3,(y3D.map (w0g o cells) (y4G o cells) _ _ _).trans e4,e5⟩
 rw [List.getElem?_map,zO2] at h1
 obtain ⟨d0,hd0,rfl⟩:=h1
 -- by the slots' own argument, on a frame of one slot
 have hv0:=hv k d0 v hd0 h2
 have hR1:R ⟨G.S,w,fun _=>True,1,fun _=>none,[]⟩ L (fun s=>if s=0 then d0 else .undef) (lkH H) { tmps:=#[v],defers:=[] } w:=by
  refine ⟨rfl,rfl,fun s=>?_,hR.heap,Ext.refl _ _,hR.sLt,fun o b ho=>.inl trivial,fun o b ho=>(by cases ho),fun _ _=>rfl⟩
  ·by_cases e:s=0
   ·subst e;simpa using hv0
   ·simp only [e,if_false];exact .imm (.undef _)
 have:=(hR1.freeze o rfl ho hrf).slots 0
 simpa using this
end Go.Dat
namespace Go.Dat
open Go
section
variable (o:Nat)
theorem z9J (k:IntKind) (n:Int):purge o (.int k n)=.int k n:=rfl
theorem y1H (b:Bool):purge o (.bool b)=.bool b:=rfl
theorem y5g (b:List UInt8):purge o (.str b)=.str b:=rfl
theorem y9G (s:Nat) (xs:List DV):purge o (.sl s xs)=.sl s xs:=rfl
theorem y9F (i:Nat) (xs:List DV):purge o (.el xs i)=.el xs i:=rfl
theorem y1K:purge o .nils=.nils:=rfl
theorem y1J:purge o .nilp=.nilp:=rfl
theorem y1I:purge o .nili=.nili:=rfl
theorem z9I (t:Nat) (d:DV):purge o (.iface t d)=.iface t d:=rfl
theorem z7Q (s off l:Nat):purge o (.osl s o off l)=.undef:=by simp [purge,DV.has]
theorem z7R {p:Nat} (s off l:Nat) (h:p≠o):purge o (.osl s p off l)=.osl s p off l:=by simp [purge,DV.has,h]
variable (cells:List DV)
theorem y6z (k:IntKind) (n:Int):frz o cells (.int k n)=.int k n:=rfl
theorem y8V (b:Bool):frz o cells (.bool b)=.bool b:=rfl
theorem x3x (b:List UInt8):frz o cells (.str b)=.str b:=rfl
theorem x82 (s:Nat) (xs:List DV):frz o cells (.sl s xs)=.sl s xs:=rfl
theorem x81 (i:Nat) (xs:List DV):frz o cells (.el xs i)=.el xs i:=rfl
theorem y8Y:frz o cells .nils=.nils:=rfl
theorem y8X:frz o cells .nilp=.nilp:=rfl
theorem y8W:frz o cells .nili=.nili:=rfl
theorem y4F (t:Nat) (d:DV):frz o cells (.iface t d)=.iface t d:=rfl
theorem y8Z:frz o cells (.tup [])=.tup []:=rfl
theorem z6J {s:Nat} (off len:Nat) (h0:s≠0) (h:off+len*s≤cells.length):frz o cells (.osl s o off len)=.sl s ((cells.drop off).take (len*s)):=by simp [frz,h0,h]
theorem z1H {p:Nat} (s off len:Nat) (h:p≠o):frz o cells (.osl s p off len)=.osl s p off len:=by simp [frz,h]
end
theorem x2o (k:IntKind) (n:Int):(DV.int k n).cells? = some [.int k n]:=rfl
theorem x4N (k:IntKind) (n:Int):(DV.int k n).one=true:=rfl
theorem y9o (cells:List DV):laid cells []=some cells:=rfl
theorem y9n {cells:List DV} {off:Nat} (k:IntKind) (n:Int) (r:List (Nat × Nat × DV)):laid cells ((off,1,.int k n)::r)=if off+1≤cells.length then laid (cells.set off (.int k n)) r else none:=by
 simp [laid,x2o,spl]
theorem z4H (a b:Nat):((a:Int)).fdiv (b:Int)=((a / b:Nat):Int):=by
 rw [Int.fdiv_eq_ediv_of_nonneg _ (by omega)];rfl
theorem z2d (a:Nat):((a:Int)).fdiv (2 ^ min (Int.toNat 32) IntKind.u64.bits)=((a / 4294967296:Nat):Int):=by
 have:(2 ^ min (Int.toNat 32) IntKind.u64.bits:Int)=((4294967296:Nat):Int):=by decide
 rw [this,z4H]
theorem z5h (a:Nat):((a:Int)) % 4294967296=((a % 4294967296:Nat):Int):=by omega
theorem z8o (a b:Nat):(a:Int)+(b:Int)=((a+b:Nat):Int):=by omega
theorem x4F (a b:Nat):(a:Int)*(b:Int)=((a*b:Nat):Int):=by simp
theorem Exp.osl1 {h:Heap} {o off len:Nat} {cells rs:List DV} (ho:h o=some cells) (hfit:off+len≤cells.length) (hr:(cells.drop off).take len=rs) (hrf:rs.all DV.rf=true):Exp h (.osl 1 o off len) (.sl 1 rs):=by
 subst hr
 refine .osl ho (by decide) (by omega) (by simp;omega) fun k d r hd hr=>?_
 rw [Nat.mul_one] at hd
 rw [hd] at hr;cases hr
 exact .imm (List.all_eq_true.1 hrf d (List.mem_of_getElem? hd))
end Go.Dat
namespace Go.Dat
open Go
theorem w2W {F:FnD} {c:DC} {Q Q':Ex→Fr→Hp→Prop} {fr:Fr} {H:Hp} (h:W F c Q fr H) (hq:∀e fr H,Q e fr H→Q' e fr H):W F c Q' fr H:=by
 intro code hc G L a w hn hR
 refine wp_mono (h code hc G L a w hn hR) fun e a' w'=>?_
 rintro ⟨L',fr',H',de,h1,h2,h3⟩
 exact ⟨L',fr',H',de,h1,h2,hq _ _ _ h3⟩
theorem z5v {F:FnD} {c rest:DC} {Q:Ex→Fr→Hp→Prop} {fr:Fr} {H:Hp} {ι:Type} (I:ι→Prop) (fr':ι→Fr) (H':ι→Hp)
  (h1:W F c (fun e fr1 H1=>match e with
   | .norm=>∃i,I i∧z0y fr1 (fr' i)∧H1=H' i
   | e=>Q e fr1 H1) fr H) (h2:∀i,I i→W F rest Q (fr' i) (H' i)):W F c (w5a F rest Q) fr H:=by
 refine w2W h1 fun e fr1 H1 h=>?_
 cases e with
 | norm =>
  obtain ⟨i,hi,hs,rfl⟩:=h
  exact x19 hs (h2 i hi)
 | exit j=>exact h
 | ret=>exact h
 | pan ch=>exact h
theorem w7d (te fr:Fr) (k:Nat):ev te fr (.x k)=lk fr k:=rfl
theorem w7c (te fr:Fr) (k:Nat):ev te fr (.t k)=lk te k:=rfl
theorem w7b (te fr:Fr) (d:DV):ev te fr (.c d)=d:=rfl
def z4d (F:FnD) (os:List DOper) (dst:Dst) (f:Nat) (ds:List DV) (te fr:Fr) (H:Hp) (K:Fr→Fr→Hp→Prop):Prop :=
 z3r F f ds te fr H fun d te' fr' H'=>z1l F os (dst.onT te' d) (dst.onX fr' d) H' K
theorem z0E {F:FnD} {os:List DOper} {dst:Dst} {f:Nat} {ds:List DV} {te fr:Fr} {H:Hp} {K:Fr→Fr→Hp→Prop} {r:DV} (hc:z0c F.P f ds r) (hrf:ds.all DV.rf=true)
  (hK:z1l F os (dst.onT te r) (dst.onX fr r) H K):z4d F os dst f ds te fr H K:=z1G hc hrf hK
theorem z1e {F:FnD} {os:List DOper} {dst:Dst} {f:Nat} {ds:List DV} {te fr:Fr} {H:Hp} {K:Fr→Fr→Hp→Prop} (hp:F.pure=false) (o:Nat) {cells:List DV} (ho:lkH H o=some cells) (hrf:cells.all DV.rf=true)
  (hc:z4d F os dst f (ds.map (frz o cells)) (z0J (frz o cells) te) (z0J (frz o cells) fr) (rmH o cells H) K) (hlt:o<1048576:=by decide):z4d F os dst f ds te fr H K:=y3K hp o ho hrf hc hlt
theorem z6n {F:FnD} {os:List DOper} {dst:Dst} {f:Nat} {ds:List DV} {te fr:Fr} {H:Hp} {K:Fr→Fr→Hp→Prop} (hp:F.pure=false)
  (h:x2m F.P F.vs f ds te fr H fun d te' fr' H'=>z1l F os (dst.onT te' d) (dst.onX fr' d) H' K):z4d F os dst f ds te fr H K:=y7Z hp h
section
variable (F:FnD) (os:List DOper) (dst:Dst) (te fr:Fr) (H:Hp) (K:Fr→Fr→Hp→Prop)
theorem y84 (f:Nat) (args:List Opd):goW F os dst te fr H K (.call f args)=z4d F os dst f (args.map (ev te fr)) te fr H K:=rfl
theorem x86 (x:Opd):goW F os dst te fr H K (.mv x)=z1l F os (dst.onT te (ev te fr x)) (dst.onX fr (ev te fr x)) H K:=by simp [goW,opE,y3n]
theorem y9d (c a b:Opd):goW F os dst te fr H K (.pick c a b)=z0Q F os dst te fr H K (opE F.nb dst.slot (ev te fr) (lkH H) (.pick c a b)):=rfl
theorem y4H (z:List DV):goW F os dst te fr H K (.alloc z)=z0Q F os dst te fr H K (opE F.nb dst.slot (ev te fr) (lkH H) (.alloc z)):=rfl
theorem y1q (t:Nat) (z:List DV):goW F os dst te fr H K (.allocT t z)=z0Q F os dst te fr H K (opE F.nb dst.slot (ev te fr) (lkH H) (.allocT t z)):=rfl
theorem x3L (x:Opd):goW F os dst te fr H K (.box x)=z0Q F os dst te fr H K (opE F.nb dst.slot (ev te fr) (lkH H) (.box x)):=rfl
theorem y4I (z:List DV) (ps:List (Nat × Nat × Opd)):goW F os dst te fr H K (.build z ps)=z0Q F os dst te fr H K (opE F.nb dst.slot (ev te fr) (lkH H) (.build z ps)):=rfl
theorem x3M (sz:Nat) (z:List DV) (ps:List (Nat × Nat × Opd)):goW F os dst te fr H K (.bsl sz z ps)=z0Q F os dst te fr H K (opE F.nb dst.slot (ev te fr) (lkH H) (.bsl sz z ps)):=rfl
theorem y83 (sz:Nat) (z:List DV) (ps:List (Nat × Nat × Opd)):goW F os dst te fr H K (.bsl' sz z ps)=z0Q F os dst te fr H K (opE F.nb dst.slot (ev te fr) (lkH H) (.bsl' sz z ps)):=rfl
theorem x85 (x:Opd):goW F os dst te fr H K (.ld x)=z0Q F os dst te fr H K (opE F.nb dst.slot (ev te fr) (lkH H) (.ld x)):=rfl
theorem x3U (n:Nat) (x:Opd):goW F os dst te fr H K (.ldn n x)=z0Q F os dst te fr H K (opE F.nb dst.slot (ev te fr) (lkH H) (.ldn n x)):=rfl
theorem x87 (x v:Opd):goW F os dst te fr H K (.st x v)=z0Q F os dst te fr H K (opE F.nb dst.slot (ev te fr) (lkH H) (.st x v)):=rfl
theorem x33 (n:Nat) (x v:Opd):goW F os dst te fr H K (.stn n x v)=z0Q F os dst te fr H K (opE F.nb dst.slot (ev te fr) (lkH H) (.stn n x v)):=rfl
theorem y9c (x:Opd):goW F os dst te fr H K (.nilc x)=z0Q F os dst te fr H K (opE F.nb dst.slot (ev te fr) (lkH H) (.nilc x)):=rfl
theorem x3K (op:BinOp) (x y:Opd):goW F os dst te fr H K (.bin op x y)=z0Q F os dst te fr H K (opE F.nb dst.slot (ev te fr) (lkH H) (.bin op x y)):=rfl
theorem x3J (neg:Bool) (x y:Opd):goW F os dst te fr H K (.beq neg x y)=z0Q F os dst te fr H K (opE F.nb dst.slot (ev te fr) (lkH H) (.beq neg x y)):=rfl
theorem x88 (op:UnOp) (x:Opd):goW F os dst te fr H K (.un op x)=z0Q F os dst te fr H K (opE F.nb dst.slot (ev te fr) (lkH H) (.un op x)):=rfl
theorem y85 (k:IntKind) (x:Opd):goW F os dst te fr H K (.conv k x)=z0Q F os dst te fr H K (opE F.nb dst.slot (ev te fr) (lkH H) (.conv k x)):=rfl
theorem x30 (x:Opd):goW F os dst te fr H K (.s2b x)=z0Q F os dst te fr H K (opE F.nb dst.slot (ev te fr) (lkH H) (.s2b x)):=rfl
theorem x3I (x:Opd):goW F os dst te fr H K (.b2s x)=z0Q F os dst te fr H K (opE F.nb dst.slot (ev te fr) (lkH H) (.b2s x)):=rfl
theorem x3Y (sz bytes:Nat) (z:List DV) (l c:Opd):goW F os dst te fr H K (.mks sz bytes z l c)=z0Q F os dst te fr H K (opE F.nb dst.slot (ev te fr) (lkH H) (.mks sz bytes z l c)):=rfl
theorem x32 (sz:Nat) (x:Opd) (lo hi:Option Opd):goW F os dst te fr H K (.slc sz x lo hi)=z0Q F os dst te fr H K (opE F.nb dst.slot (ev te fr) (lkH H) (.slc sz x lo hi)):=rfl
theorem y9f (x:Opd) (lo hi:Option Opd):goW F os dst te fr H K (.slcS x lo hi)=z0Q F os dst te fr H K (opE F.nb dst.slot (ev te fr) (lkH H) (.slcS x lo hi)):=rfl
theorem x3O (off:Nat) (x:Opd):goW F os dst te fr H K (.fad off x)=z0Q F os dst te fr H K (opE F.nb dst.slot (ev te fr) (lkH H) (.fad off x)):=rfl
theorem x3P (off:Nat) (x:Opd):goW F os dst te fr H K (.fld off x)=z0Q F os dst te fr H K (opE F.nb dst.slot (ev te fr) (lkH H) (.fld off x)):=rfl
theorem y86 (off n:Nat) (x:Opd):goW F os dst te fr H K (.fldn off n x)=z0Q F os dst te fr H K (opE F.nb dst.slot (ev te fr) (lkH H) (.fldn off n x)):=rfl
theorem x3R (sz:Nat) (x i:Opd):goW F os dst te fr H K (.iad sz x i)=z0Q F os dst te fr H K (opE F.nb dst.slot (ev te fr) (lkH H) (.iad sz x i)):=rfl
theorem x3Q (len sz:Nat) (x i:Opd):goW F os dst te fr H K (.iaa len sz x i)=z0Q F os dst te fr H K (opE F.nb dst.slot (ev te fr) (lkH H) (.iaa len sz x i)):=rfl
theorem x3S (x i:Opd):goW F os dst te fr H K (.idx x i)=z0Q F os dst te fr H K (opE F.nb dst.slot (ev te fr) (lkH H) (.idx x i)):=rfl
theorem x3N (x:Opd) (i:Nat):goW F os dst te fr H K (.ext x i)=z0Q F os dst te fr H K (opE F.nb dst.slot (ev te fr) (lkH H) (.ext x i)):=rfl
theorem x3W (sz:Nat) (x:Opd):goW F os dst te fr H K (.len sz x)=z0Q F os dst te fr H K (opE F.nb dst.slot (ev te fr) (lkH H) (.len sz x)):=rfl
theorem y89 (x:Opd):goW F os dst te fr H K (.lenS x)=z0Q F os dst te fr H K (opE F.nb dst.slot (ev te fr) (lkH H) (.lenS x)):=rfl
theorem x31 (x:Opd):goW F os dst te fr H K (.s2s x)=z0Q F os dst te fr H K (opE F.nb dst.slot (ev te fr) (lkH H) (.s2s x)):=rfl
theorem x3H (ty sz bytes:Nat) (s x:Opd):goW F os dst te fr H K (.app ty sz bytes s x)=z0Q F os dst te fr H K (opE F.nb dst.slot (ev te fr) (lkH H) (.app ty sz bytes s x)):=rfl
theorem y81 (ty:Nat) (s x:Opd):goW F os dst te fr H K (.apps ty s x)=z0Q F os dst te fr H K (opE F.nb dst.slot (ev te fr) (lkH H) (.apps ty s x)):=rfl
theorem x3X (t:Nat) (x:Opd):goW F os dst te fr H K (.mki t x)=z0Q F os dst te fr H K (opE F.nb dst.slot (ev te fr) (lkH H) (.mki t x)):=rfl
theorem y9b (x y:Opd):goW F os dst te fr H K (.min2 x y)=z0Q F os dst te fr H K (opE F.nb dst.slot (ev te fr) (lkH H) (.min2 x y)):=rfl
theorem y9a (x y:Opd):goW F os dst te fr H K (.max2 x y)=z0Q F os dst te fr H K (opE F.nb dst.slot (ev te fr) (lkH H) (.max2 x y)):=rfl
theorem x3Z (x:Opd):goW F os dst te fr H K (.pan x)=z0Q F os dst te fr H K (opE F.nb dst.slot (ev te fr) (lkH H) (.pan x)):=rfl
end
end Go.Dat
namespace Go.Dat
open Go
inductive Nil2:DV→DV→Prop where
 | same (d:DV):Nil2 d d
 | nil (sz:Nat):Nil2 .nils (.sl sz [])
theorem Nil2.V {w:World} {L:Nat→Option Nat} {A:Nat→Prop} {d r:DV} {v:Value} (h:Nil2 d r) (hv:V w L A d v):V w L A r v:=by
 cases h with
 | same=>exact hv
 | nil sz=>rw [hv.inv_nils];exact .imm (.sl0 _ _ _)
theorem y3J {F:FnD} {os:List DOper} {dst:Dst} {f:Nat} {ds rs:List DV} {te fr:Fr} {H:Hp} {K:Fr→Fr→Hp→Prop} {r:DV} (hp:F.pure=false) (hl:rs.length=ds.length)
  (he:∀(k:Nat) d r,ds[k]? = some d→rs[k]? = some r→Nil2 d r) (hc:z0c F.P f rs r) (hrf:rs.all DV.rf=true) (hK:z1l F os (dst.onT te r) (dst.onX fr r) H K):z4d F os dst f ds te fr H K:=by
 refine z6n hp ?_
 have hw:=z6o (vs:=F.vs) (te:=te) (fr:=fr) (H:=H) (K:=fun d te' fr' H'=>z1l F os (dst.onT te' d) (dst.onX fr' d) H' K) hc hrf hK
 intro G L a w us hG hR hs hv
 refine hw G L a w us hG hR (by omega) fun k r v h1 h2=>?_
 obtain ⟨d,hd⟩:=z0O (l:=ds) (k:=k) (by have:=(List.getElem?_eq_some_iff.1 h1).1;omega)
 exact (he k d r hd h1).V (hv k d v hd h2)
theorem x0o {F:FnD} {os:List DOper} {dst:Dst} {f:Nat} (sz:Nat) {te fr:Fr} {H:Hp} {K:Fr→Fr→Hp→Prop} {r:DV} (hp:F.pure=false) (hc:z0c F.P f [.sl sz []] r) (hK:z1l F os (dst.onT te r) (dst.onX fr r) H K) :
  z4d F os dst f [.nils] te fr H K :=
 y3J (rs:=[.sl sz []]) hp rfl (fun k d r h1 h2=>by
  cases k with
  | zero=>simp at h1 h2;subst h1;subst h2;exact .nil sz
  | succ k=>simp at h1) hc rfl hK
universe u v
theorem cA:type_of% (And.intro (And.intro (And.intro (And.intro (And.intro (And.intro (And.intro @w64 @x8s) (And.intro @w60 (And.intro @wu8 @y9I))) (And.intro (And.intro @y5i (And.intro @y5j @y84)) (And.intro @x86 (And.intro @y9d (And.intro @y4H @y1q))))) (And.intro (And.intro (And.intro @x3L @y4I) (And.intro @x3M (And.intro @y83 @x85))) (And.intro (And.intro @x3U (And.intro @x87 @x33)) (And.intro @y9c (And.intro @x3K @x3J))))) (And.intro (And.intro (And.intro (And.intro @x88 @y85) (And.intro @x30 (And.intro @x3I @x3Y))) (And.intro (And.intro @x32 (And.intro @y9f @x3O)) (And.intro @x3P (And.intro @y86 @x3R)))) (And.intro (And.intro (And.intro @x3Q (And.intro @x3S @x3N)) (And.intro @x3W (And.intro @y89 @x31))) (And.intro (And.intro (And.intro @x3H @y81) (And.intro @x3X @y9b)) (And.intro @y9a (And.intro @x3Z @y1R)))))) (And.intro (And.intro (And.intro (And.intro (And.intro @y3n @y5P) (And.intro @y5O (And.intro @y5N @y90))) (And.intro (And.intro @x42 (And.intro @x4Z @x41)) (And.intro @x40 (And.intro @x9q @w7d)))) (And.intro (And.intro (And.intro @w7c @w7b) (And.intro @x84 (And.intro @x3A @x3B))) (And.intro (And.intro @y5I (And.intro @y9Y @y5H)) (And.intro @y3I (And.intro @y7Y @z9J))))) (And.intro (And.intro (And.intro (And.intro @y1H @y5g) (And.intro @y9G (And.intro @y1K @y1J))) (And.intro (And.intro @y1I (And.intro @z9I @y6z)) (And.intro @y8V (And.intro @x3x @x82)))) (And.intro (And.intro (And.intro @y8Y (And.intro @y8X @y8W)) (And.intro @y4F (And.intro @y8Z @z6J))) (And.intro (And.intro @z1H (And.intro @z7R @z7Q)) (And.intro @y9o (And.intro @y9n @x4N))))))) (And.intro @x3D @x3C)):=(And.intro (And.intro (And.intro (And.intro (And.intro (And.intro (And.intro @w64 @x8s) (And.intro @w60 (And.intro @wu8 @y9I))) (And.intro (And.intro @y5i (And.intro @y5j @y84)) (And.intro @x86 (And.intro @y9d (And.intro @y4H @y1q))))) (And.intro (And.intro (And.intro @x3L @y4I) (And.intro @x3M (And.intro @y83 @x85))) (And.intro (And.intro @x3U (And.intro @x87 @x33)) (And.intro @y9c (And.intro @x3K @x3J))))) (And.intro (And.intro (And.intro (And.intro @x88 @y85) (And.intro @x30 (And.intro @x3I @x3Y))) (And.intro (And.intro @x32 (And.intro @y9f @x3O)) (And.intro @x3P (And.intro @y86 @x3R)))) (And.intro (And.intro (And.intro @x3Q (And.intro @x3S @x3N)) (And.intro @x3W (And.intro @y89 @x31))) (And.intro (And.intro (And.intro @x3H @y81) (And.intro @x3X @y9b)) (And.intro @y9a (And.intro @x3Z @y1R)))))) (And.intro (And.intro (And.intro (And.intro (And.intro @y3n @y5P) (And.intro @y5O (And.intro @y5N @y90))) (And.intro (And.intro @x42 (And.intro @x4Z @x41)) (And.intro @x40 (And.intro @x9q @w7d)))) (And.intro (And.intro (And.intro @w7c @w7b) (And.intro @x84 (And.intro @x3A @x3B))) (And.intro (And.intro @y5I (And.intro @y9Y @y5H)) (And.intro @y3I (And.intro @y7Y @z9J))))) (And.intro (And.intro (And.intro (And.intro @y1H @y5g) (And.intro @y9G (And.intro @y1K @y1J))) (And.intro (And.intro @y1I (And.intro @z9I @y6z)) (And.intro @y8V (And.intro @x3x @x82)))) (And.intro (And.intro (And.intro @y8Y (And.intro @y8X @y8W)) (And.intro @y4F (And.intro @y8Z @z6J))) (And.intro (And.intro @z1H (And.intro @z7R @z7Q)) (And.intro @y9o (And.intro @y9n @x4N))))))) (And.intro @x3D @x3C))
theorem cB:type_of% (And.intro (And.intro (And.intro (And.intro @Option.map_some.{0,0} (And.intro @Option.map_none.{0,0} @Option.bind_some.{0,0})) (And.intro @Option.bind_none.{0,0} (And.intro @Option.isNone_none.{0} @Option.isSome_none.{0}))) (And.intro (And.intro @List.map_cons.{0,0} (And.intro @List.map_nil.{0,0} @List.getD_cons_zero.{0})) (And.intro (And.intro @List.getD_cons_succ.{0} @List.length_cons.{0}) (And.intro @List.length_nil.{0} @List.set_cons_zero.{0})))) (And.intro (And.intro (And.intro @List.set_cons_succ.{0} (And.intro @ne_eq.{1} @Nat.zero_add)) (And.intro (And.intro @Nat.add_zero @Nat.mul_one) (And.intro @Nat.one_mul @true_and))) (And.intro (And.intro @and_true (And.intro @Bool.false_eq_true @not_false_eq_true)) (And.intro (And.intro @Int.toNat_natCast @Bool.not_true) (And.intro @Bool.not_false @and_self))))):=(And.intro (And.intro (And.intro (And.intro @Option.map_some.{0,0} (And.intro @Option.map_none.{0,0} @Option.bind_some.{0,0})) (And.intro @Option.bind_none.{0,0} (And.intro @Option.isNone_none.{0} @Option.isSome_none.{0}))) (And.intro (And.intro @List.map_cons.{0,0} (And.intro @List.map_nil.{0,0} @List.getD_cons_zero.{0})) (And.intro (And.intro @List.getD_cons_succ.{0} @List.length_cons.{0}) (And.intro @List.length_nil.{0} @List.set_cons_zero.{0})))) (And.intro (And.intro (And.intro @List.set_cons_succ.{0} (And.intro @ne_eq.{1} @Nat.zero_add)) (And.intro (And.intro @Nat.add_zero @Nat.mul_one) (And.intro @Nat.one_mul @true_and))) (And.intro (And.intro @and_true (And.intro @Bool.false_eq_true @not_false_eq_true)) (And.intro (And.intro @Int.toNat_natCast @Bool.not_true) (And.intro @Bool.not_false @and_self)))))
end Go.Dat
namespace Go.Dat
open Go
def y3A (w:World) (S:Nat→Prop) (b:Nat) (cells:List DV):Prop :=
 ∃ cs T,w.heap[b]? = some (.cells cs T (0,0))∧cells.length≤cs.size∧∀(k:Nat) d v,cells[k]? = some d→cs[k]? = some v→VI w (fun x=>S x∨x=b) d v
def z5Y (b:Nat):Nat→Option Nat:=fun o=>if o=1048576 then some b else none
def y7V (P:Program) (f:Nat) (args:List DV) (cells:List DV) (r:DV) (cells':List DV):Prop :=
 ∀ (S:Nat→Prop) (b:Nat) (w:World) (us:Array Value),Tab P w→y3C P b→y3A w S b cells→¬S b→(∀x,S x→x<w.heap.size)→us.size=args.length →
  (∀(k:Nat) d v,args[k]? = some d→us[k]? = some v→V w (z5Y b) (fun x=>S x∨x=b) d v) →
  Calls P f us w fun e w'=>∃v,e=.returned v∧y3A w' S b cells'∧VI w' (fun x=>S x∨x=b) r v∧Ext (fun x=>x=b) w w'∧w'.shape? b=w.shape? b
def w5L (rv:List RV) (r:DV) (cells':List DV) (e:Ex) (fr:Fr) (H:Hp):Prop:=y7T rv r e fr H∧lkH H 1048576=some cells'∧cells'.all DV.rf=true
theorem x6e (S:Nat→Prop) (b x:Nat):Av S (z5Y b) x↔(S x∨x=b):=by
 unfold Av z5Y
 constructor
 ·rintro (h|⟨o,h⟩)
  ·exact .inl h
  ·split at h
   ·cases h;exact .inr rfl
   ·cases h
 ·rintro (h|rfl)
  ·exact .inl h
  ·exact .inr ⟨1048576,by simp⟩
theorem y3E {F:FnD} {f:Nat} {c:DC} {rv:List RV} {args cells cells':List DV} {r:DV} (hf:IsFn F f c rv) (hn:args.length≤F.n) (hsc:r.sc=true)
  (h:W F c (w5L rv r cells') (z0u 0 args) [(1048576,cells)]):y7V F.P f args cells r cells':=by
 obtain ⟨fn,code,hfn,hb,hnt,hst,hrv,hrs⟩:=hf.ex
 intro S b w us hT hTb hH hSb hA hs hv
 have hav:Av S (z5Y b)=fun x=>S x∨x=b:=funext fun x=>propext (x6e S b x)
 obtain ⟨cs0,T0,hb0,hl0,hp0⟩:=hH
 have hblt:b<w.heap.size:=(Array.getElem?_eq_some_iff.1 hb0).1
 refine calls_of_wp hfn hb ?_
 have hL:∀o x,z5Y b o=some x→o=1048576∧x=b:=fun o x h=>by
  unfold z5Y at h
  split at h
  ·cases h;exact ⟨by assumption,rfl⟩
  ·cases h
 have hR:R ⟨S,w,fun x=>x=b,F.n,z5Y b,[]⟩ (z5Y b) (den F.vs [] (z0u 0 args)) (lkH [(1048576,cells)]) { tmps:=us++Array.replicate (fn.ntmps - us.size) undef,defers:=[] } w:=by
  refine ⟨by simp;omega,rfl,fun s=>?_,⟨?_,?_,?_,?_,fun o x ho=>y0x.ok (by rw [(hL o x ho).1];decide) w x⟩,Ext.refl _ _,hA,fun o x ho=>.inl (hL o x ho).2,fun o x ho=>⟨ho,Nat.le_of_eq (hL o x ho).1.symm⟩,fun _ _=>rfl⟩
  ·simp only [den,lk]
   rw [hav]
   split
   ·rw [z4K,if_pos (Nat.zero_le _),Nat.sub_zero]
    cases hk:args[s]? with
    | none=>rw [zO1,hk];exact .imm (.undef _)
    | some d =>
     have hlt:=(List.getElem?_eq_some_iff.1 hk).1
     obtain ⟨u,hu⟩:=z0w (l:=us) (k:=s) (by omega)
     rw [zO1,hk,Array.getD_eq_getD_getElem?,Array.getElem?_append_left (by omega),hu]
     exact hv s d u hk hu
   ·exact .imm (.undef _)
  ·intro o x ho
   rw [(hL o x ho).1]
   exact ⟨cells,by simp [lkH]⟩
  ·intro o c hc
   simp only [lkH] at hc
   split at hc
   ·rename_i e
    cases hc
    subst e
    refine .inr ⟨b,cs0,T0,by simp [z5Y],hb0,hl0,fun k d v h1 h2=>?_⟩
    rw [hav];exact .imm (hp0 k d v h1 h2)
   ·cases hc
  ·intro o p x ho hp
   rw [(hL o x ho).1,(hL p x hp).1]
  ·intro o x ho
   rw [(hL o x ho).2];exact hSb
 refine wp_mono (h code hst ⟨S,w,fun x=>x=b,F.n,z5Y b,[]⟩ _ _ _ ⟨rfl,hT,fun x h=>(show x=b from h) ▸ hTb⟩ hR) fun e a' w'=>?_
 rintro ⟨L,fr,H,de,hR',he,⟨hde,ds,hds,hexp⟩,hcell,hrf⟩
 obtain ⟨v,hrun,hV⟩:=z2W (P:=F.P) fn hR' hrv hds hrs
 have hLb:L 1048576=some b:=(hR'.keep 1048576 b (by simp [z5Y])).1
 have hsub:∀x,¬Av S L x→¬(S x∨x=b):=by
  rintro x hx (h1|rfl)
  ·exact hx (.inl h1)
  ·exact hx (.inr ⟨_,hLb⟩)
 have hwk:∀{d:DV} {v:Value},VI w' (Av S L) d v→VI w' (fun x=>S x∨x=b) d v:=fun hd=>hd.mono fun x _ hx=>⟨rfl,hsub x hx⟩
 have hH':y3A w' S b cells':=by
  obtain ⟨c,cs,T,hc,hbb,hl,hp⟩:=hR'.heap.at_ hLb
  rw [hcell] at hc;cases hc
  exact ⟨cs,T,hbb,hl,fun k d v h1 h2=>hwk ((hp k d v h1 h2).rf_imm (List.all_eq_true.1 hrf d (List.mem_of_getElem? h1)))⟩
 have hvi:VI w' (fun x=>S x∨x=b) r v:=(hexp.VI hR'.heap hV).sc hsc _ _
 have hfin:∃u,Ending.returned v=.returned u∧y3A w' S b cells'∧VI w' (fun x=>S x∨x=b) r u∧Ext (fun x=>x=b) w w'∧w'.shape? b=w.shape? b:=⟨v,rfl,hH',hvi,hR'.ext,hR'.shp b hblt⟩
 cases e<;>simp only [er,Option.some.injEq,reduceCtorEq] at he
 ·exact ⟨hR'.defers,v,hrun,hfin⟩
 ·subst he;rcases hde with e|e<;>cases e
 ·exact ⟨hR'.defers,v,hrun,hfin⟩
 ·subst he;rcases hde with e|e<;>cases e
def ren (o:Nat):DV→DV
 | .osl sz p off len=>if p=o then .osl sz 1048576 off len else .undef
 | .ptr p off=>if p=o then .ptr 1048576 off else .undef
 | d=>if d.rf then d else .undef
theorem R.lent {G:Cx} {L:Nat→Option Nat} {σ:Nat→DV} {h:Heap} {a:Act} {w w':World} (hR:R G L σ h a w) {o b:Nat} (hL:L o=some b) {cells':List DV}
  (hH:∃cs T,w'.heap[b]? = some (.cells cs T (0,0))∧cells'.length≤cs.size∧∀(k:Nat) d v,cells'[k]? = some d→cs[k]? = some v→VI w' (Av G.S L) d v)
  (hx:Ext (fun x=>x=b) w w') (hsh:w'.shape? b=w.shape? b):R G L σ (h.upd o (some cells')) a w':=by
 have hblt:=hR.heap.lt hL
 have hAv:Av G.S L b:=.inr ⟨o,hL⟩
 have hV:∀d v,V w L (Av G.S L) d v→V w' L (Av G.S L) d v:=by
  intro d v hd
  refine hd.mono (fun k hk hA=>⟨hx.block k hk fun e=>hA (e ▸ hAv),hA⟩) fun p k _ hp=>⟨hp,?_⟩
  by_cases e:k=b
  ·subst e;exact hsh
  ·exact z0A (hx.block k (hR.heap.lt hp) e)
 refine ⟨hR.size,hR.defers,fun s=>hV _ _ (hR.slots s),⟨?_,?_,hR.heap.inj,hR.heap.notS,fun p k hp=>(hR.heap.ty p k hp).imm_shape (by
  by_cases e:k=b
  ·subst e;exact hsh
  ·exact z0A (hx.block k (hR.heap.lt hp) e))⟩,⟨hx.os.trans hR.ext.os,hx.tape.trans hR.ext.tape,hx.output.trans hR.ext.output,Nat.le_trans hR.ext.size hx.size,fun k hk hS=>?_⟩,fun k hk=>Nat.lt_of_lt_of_le (hR.sLt k hk) hx.size,hR.own,hR.keep,fun k hk=>?_⟩
 ·intro p k hp
  by_cases e:p=o
  ·exact ⟨cells',by simp [Heap.upd,e]⟩
  ·obtain ⟨c,hc⟩:=hR.heap.dom p k hp
   exact ⟨c,by simp [Heap.upd,e,hc]⟩
 ·intro p c hp
  unfold Heap.upd at hp
  by_cases e:p=o
  ·subst e
   rw [if_pos rfl] at hp
   cases hp
   obtain ⟨cs,T,h1,h2,h3⟩:=hH
   exact .inr ⟨b,cs,T,hL,h1,h2,fun k d v h4 h5=>.imm (h3 k d v h4 h5)⟩
  ·rw [if_neg e] at hp
   rcases hR.heap.obj p c hp with h1|⟨k,cs2,T2,hk,hkb,hl',hv'⟩
   ·exact .inl h1
   ·have hne:k≠b:=fun e'=>e (hR.heap.inj p o k hk (by rw [e'];exact hL))
    exact .inr ⟨k,cs2,T2,hk,(hx.block k (hR.heap.lt hk) hne).trans hkb,hl',fun j d v h1 h2=>hV _ _ (hv' j d v h1 h2)⟩
 ·have hkb:k≠b:=by
   rintro rfl
   rcases hR.own o k hL with h1|h1
   ·exact hS h1
   ·omega
  exact (hx.block k (Nat.lt_of_lt_of_le hk hR.ext.size) hkb).trans (hR.ext.block k hk hS)
 ·refine Eq.trans ?_ (hR.shp k hk)
  by_cases e:k=b
  ·subst e;exact hsh
  ·exact z0A (hx.block k (Nat.lt_of_lt_of_le hk hR.ext.size) e)
theorem y0C {F:FnD} {os:List DOper} {dst:Dst} {f:Nat} {ds:List DV} {te fr:Fr} {H:Hp} {K:Fr→Fr→Hp→Prop} {r:DV} (hp:F.pure=false) (o:Nat) {cells cells':List DV}
  (ho:lkH H o=some cells) (hrf:cells.all DV.rf=true) (hne:cells≠[]) (hc:y7V F.P f (ds.map (ren o)) cells r cells')
  (hK:z1l F os (dst.onT te r) (dst.onX fr r) (z0N H o cells') K):z4d F os dst f ds te fr H K:=by
 refine z6n hp ?_
 intro G L a w us hG hR hs hv
 rcases hR.heap.obj o cells ho with ⟨_,h0⟩|⟨b,cs,T,hL,hb,hl,hpp⟩
 ·exact absurd h0 hne
 have hAv:Av G.S L b:=.inr ⟨o,hL⟩
 have hS:(fun x=>(Av G.S L x∧x≠b)∨x=b)=Av G.S L:=funext fun x=>propext ⟨fun h=>h.elim And.left fun e=>e ▸ hAv,fun h=>by
  by_cases e:x=b
  ·exact .inr e
  ·exact .inl ⟨h,e⟩⟩
 have hlt:∀x,Av G.S L x→x<w.heap.size:=by
  rintro x (h|⟨p,h⟩)
  ·exact hR.sLt x h
  ·exact hR.heap.lt h
 have hc':=hc (fun x=>Av G.S L x∧x≠b) b w us
 rw [hS] at hc'
 refine (hc' (hG.tab hR) (hG.own hR hL) ⟨cs,T,hb,hl,fun k d v h1 h2=>?_⟩ (fun h=>h.2 rfl) (fun x h=>hlt x h.1) (by simpa using hs) fun k d v h1 h2=>?_).mono ?_
 ·rw [hS];exact (hpp k d v h1 h2).rf_imm (List.all_eq_true.1 hrf d (List.mem_of_getElem? h1))
 ·rw [List.getElem?_map,zO2] at h1
  obtain ⟨d0,hd0,rfl⟩:=h1
  have hv0:=hv k d0 v hd0 h2
  have hdef:∀d:DV,V w L (Av G.S L) d v→V w (z5Y b) (Av G.S L) (if d.rf then d else .undef) v:=fun d hd=>by
   by_cases e:d.rf=true
   ·rw [if_pos e];exact .imm (hd.rf_imm e)
   ·rw [if_neg e];exact .imm (.undef _)
  cases d0 with
  | osl sz p off len =>
   simp only [ren]
   split
   ·rename_i e
    subst e
    rcases hv0.inv_osl with ⟨b',c,T',m,hL',rfl,hc,hs',hm⟩|⟨rfl,rfl⟩
    ·rw [hL] at hL';cases hL'
     exact .osl (by simp [z5Y]) hc hs' hm
    ·exact .osl0 _ _ _
   ·exact .imm (.undef _)
  | ptr p off =>
   simp only [ren]
   split
   ·rename_i e
    subst e
    obtain ⟨b',hL',rfl⟩:=hv0.inv_ptr
    rw [hL] at hL';cases hL'
    exact .ptr (by simp [z5Y])
   ·exact .imm (.undef _)
  | _=>exact hdef _ hv0
 ·rintro e w' ⟨v,rfl,hH',hvi,hx,hsh⟩
  refine ⟨v,L,r,te,fr,z0N H o cells',rfl,?_,.imm hvi,y3D.refl _,hK⟩
  unfold y3A at hH'
  rw [hS] at hH'
  have:=hR.lent hL hH' hx hsh
  rw [show lkH (z0N H o cells')=Heap.upd (lkH H) o (some cells') from funext fun p=>by rw [z1f];rfl]
  exact this
structure Hid (p:Prop):Prop where
 out:p
def y0A (P:Program) (f:Nat) (args:List DV) (sz n:Nat) (xs:List DV):Prop :=
 ∀ (A:Nat→Prop) (w:World) (us:Array Value),Tab P w→(∀b,A b→b<w.heap.size)→us.size=args.length→(∀(k:Nat) d v,args[k]? = some d→us[k]? = some v→VI w A d v) →
  Calls P f us w fun e w'=>∃b c cs T,e=.returned (.slice (some ⟨b,0,none⟩) n c)∧w.heap.size≤b∧n≤c∧c*sz≤cs.size∧w'.heap[b]? = some (.cells cs T (0,0))∧xs.length≤cs.size ∧
   (∀(k:Nat) d v,xs[k]? = some d→cs[k]? = some v→VI w' (fun x=>A x∨x=b) d v)∧Ext (fun _=>False) w w'
def w2O (rv:List RV) (sz n:Nat) (xs:List DV) (e:Ex) (fr:Fr) (H:Hp):Prop :=
 (e=.norm∨e=.ret)∧∃o,z4y fr H rv=some [.osl sz o 0 n]∧lkH H o=some xs∧xs.all DV.rf=true∧0<n
theorem x9I {k o sz n:Nat} {xs:List DV} {fr:Fr} {H:Hp} (h1:lk fr k=.osl sz o 0 n) (h2:lkH H o=some xs) (h3:xs.all DV.rf=true) (h4:0<n):w2O [.t k] sz n xs .ret fr H :=
 ⟨.inr rfl,o,by simp [z4y,z9N,h1],h2,h3,h4⟩
theorem x14 {F:FnD} {f:Nat} {c:DC} {rv:List RV} {args:List DV} {sz n:Nat} {xs:List DV} (hf:IsFn F f c rv) (hn:args.length≤F.n)
  (h:W F c (w2O rv sz n xs) (z0u 0 args) []):y0A F.P f args sz n xs:=by
 obtain ⟨fn,code,hfn,hb,hnt,hst,hrv,hrs⟩:=hf.ex
 intro A w us hT hA hs hv
 refine calls_of_wp hfn hb ?_
 have hR:R ⟨A,w,fun _=>False,F.n,fun _=>none,[]⟩ (fun _=>none) (den F.vs [] (z0u 0 args)) (lkH []) { tmps:=us++Array.replicate (fn.ntmps - us.size) undef,defers:=[] } w:=by
  refine ⟨by simp;omega,rfl,fun s=>?_,⟨(by intro o b h;cases h),(by intro o c h;cases h),(by intro o p b h;cases h),(by intro o b h;cases h),(by intro o b h;cases h)⟩,Ext.refl _ _,hA,(by intro o b h;cases h),(by intro o b h;cases h),fun _ _=>rfl⟩
  simp only [den,lk]
  split
  ·rw [z4K,if_pos (Nat.zero_le _),Nat.sub_zero]
   cases hk:args[s]? with
   | none=>rw [zO1,hk];exact .imm (.undef _)
   | some d =>
    have hlt:=(List.getElem?_eq_some_iff.1 hk).1
    obtain ⟨u,hu⟩:=z0w (l:=us) (k:=s) (by omega)
    rw [zO1,hk,Array.getD_eq_getD_getElem?,Array.getElem?_append_left (by omega),hu]
    refine .imm ((hv s d u hk hu).mono fun b _ hb=>⟨rfl,?_⟩)
    rintro (h1|⟨o,h1⟩)
    ·exact hb h1
    ·cases h1
  ·exact .imm (.undef _)
 refine wp_mono (h code hst ⟨A,w,fun _=>False,F.n,fun _=>none,[]⟩ _ _ _ ⟨rfl,hT,fun _ h=>False.elim h⟩ hR) fun e a' w'=>?_
 rintro ⟨L,fr,H,de,hR',he,hde,o,hds,ho,hrf,hpos⟩
 obtain ⟨v,hrun,hV⟩:=z2W (P:=F.P) fn hR' hrv hds hrs
 have hfin:∃b c cs T,Ending.returned v=.returned (.slice (some ⟨b,0,none⟩) n c)∧w.heap.size≤b∧n≤c∧c*sz≤cs.size∧w'.heap[b]? = some (.cells cs T (0,0))∧xs.length≤cs.size ∧
   (∀(k:Nat) d v,xs[k]? = some d→cs[k]? = some v→VI w' (fun x=>A x∨x=b) d v)∧Ext (fun _=>False) w w':=by
  have hV':V w' L (Av A L) (.osl sz o 0 n) v:=hV
  rcases hV'.inv_osl with ⟨b,c,T,m,hL,rfl,hc,hsh,hm⟩|⟨rfl,_⟩
  ·obtain ⟨cells,cs,T',hc',hbb,hl,hp⟩:=hR'.heap.at_ hL
   rw [ho] at hc';cases hc'
   have hsz:m=cs.size:=by simp [World.shape?,hbb] at hsh;omega
   refine ⟨b,c,cs,T',rfl,(hR'.own o b hL).resolve_left id,hc,by omega,hbb,hl,fun k d v h1 h2=>?_,hR'.ext⟩
   refine ((hp k d v h1 h2).rf_imm (List.all_eq_true.1 hrf d (List.mem_of_getElem? h1))).mono fun x _ hx=>⟨rfl,?_⟩
   rintro (h3|rfl)
   ·exact hx (.inl h3)
   ·exact hx (.inr ⟨o,hL⟩)
  ·omega
 cases e<;>simp only [er,Option.some.injEq,reduceCtorEq] at he
 ·exact ⟨hR'.defers,v,hrun,hfin⟩
 ·subst he;rcases hde with e|e<;>cases e
 ·exact ⟨hR'.defers,v,hrun,hfin⟩
 ·subst he;rcases hde with e|e<;>cases e
theorem y0A.pure {P:Program} {f:Nat} {args:List DV} {sz n:Nat} {xs:List DV} (h:y0A P f args sz n xs) (hl:xs.length=n*sz) (hne:xs≠[]):z0c P f args (.sl sz xs):=by
 intro A w us hT hA hs hv
 refine (h A w us hT hA hs hv).mono ?_
 rintro e w' ⟨b,c,cs,T,rfl,hbn,hnc,hcs,hb,hlen,hvi,hx⟩
 refine ⟨_,rfl,.sl (fun k=>(cs[k]?).getD Go.undef) hne hl hnc (fun h=>absurd (hA b h) (by omega)) (fun k d hk=>?_) (fun k d hk=>?_),hx⟩
 ·obtain ⟨u,hu⟩:=z0w (l:=cs) (k:=k) (by have:=(List.getElem?_eq_some_iff.1 hk).1;omega)
  rw [add_lit,cell_of_row w' b _ cs T (0,0) hb,Nat.zero_add,hu];rfl
 ·obtain ⟨u,hu⟩:=z0w (l:=cs) (k:=k) (by have:=(List.getElem?_eq_some_iff.1 hk).1;omega)
  rw [hu]
  exact (hvi k d u hk hu).mono fun x _ hx'=>⟨rfl,fun h3=>hx' (.inl h3)⟩
theorem R.fresh {G:Cx} {L:Nat→Option Nat} {σ:Nat→DV} {h:Heap} {a:Act} {w w':World} (hR:R G L σ h a w) {o b:Nat} (hlo:y0x o) (ho:h o=none) (hbn:w.heap.size≤b) {cells:List DV} {cs:Array Value} {T:TypeId}
  (hb:w'.heap[b]? = some (.cells cs T (0,0))) (hl:cells.length≤cs.size) (hx:Ext (fun _=>False) w w')
  (hv:∀(k:Nat) d v,cells[k]? = some d→cs[k]? = some v→VI w' (fun x=>Av G.S L x∨x=b) d v) :
  R G (z1O L o (some b)) σ (h.upd o (some cells)) a w':=by
 have hLo:=hR.lNone ho
 have hlt:∀p x,L p=some x→x<w.heap.size:=fun p x hp=>hR.heap.lt hp
 have hold:∀p x,L p=some x→z1O L o (some b) p=some x:=fun p x hp=>by
  unfold z1O;by_cases e:p=o
  ·subst e;rw [hLo] at hp;cases hp
  ·rw [if_neg e];exact hp
 have hinv:∀p x,z1O L o (some b) p=some x→(p=o∧x=b)∨(p≠o∧L p=some x):=fun p x hp=>by
  unfold z1O at hp;by_cases e:p=o
  ·rw [if_pos e] at hp;cases hp;exact .inl ⟨e,rfl⟩
  ·rw [if_neg e] at hp;exact .inr ⟨e,hp⟩
 have hAv:∀x,Av G.S (z1O L o (some b)) x→(Av G.S L x∨x=b):=by
  rintro x (h1|⟨p,hp⟩)
  ·exact .inl (.inl h1)
  ·rcases hinv p x hp with ⟨_,e⟩|⟨_,e⟩
   ·exact .inr e
   ·exact .inl (.inr ⟨p,e⟩)
 have hV:∀d v,V w L (Av G.S L) d v→V w' (z1O L o (some b)) (Av G.S (z1O L o (some b))) d v:=by
  intro d v hd
  refine hd.mono (fun x hx' hA=>⟨hx.block x hx' id,fun h1=>?_⟩) fun p x _ hp=>⟨hold p x hp,z0A (hx.block x (hlt p x hp) id)⟩
  rcases hAv x h1 with h2|h2
  ·exact hA h2
  ·omega
 refine ⟨hR.size,hR.defers,fun s=>hV _ _ (hR.slots s),⟨?_,?_,?_,?_,fun p x hp=>?_⟩,hR.ext.trans (hx.mono fun _ _ h=>h.elim),fun x hx'=>Nat.lt_of_lt_of_le (hR.sLt x hx') hx.size,?_,
  fun p x hp=>⟨hold p x (hR.keep p x hp).1,(hR.keep p x hp).2⟩,fun x hx'=>(z0A (hx.block x (Nat.lt_of_lt_of_le hx' hR.ext.size) id)).trans (hR.shp x hx')⟩
 ·intro p x hp
  rcases hinv p x hp with ⟨e,_⟩|⟨e,hp'⟩
  ·exact ⟨cells,by simp [Heap.upd,e]⟩
  ·obtain ⟨c,hc⟩:=hR.heap.dom p x hp'
   exact ⟨c,by simp [Heap.upd,e,hc]⟩
 ·intro p c hp
  unfold Heap.upd at hp
  by_cases e:p=o
  ·rw [if_pos e] at hp
   cases hp
   exact .inr ⟨b,cs,T,by simp [z1O,e],hb,hl,fun k d v h1 h2=>.imm ((hv k d v h1 h2).mono fun x _ hx'=>⟨rfl,fun h3=>hx' (hAv x h3)⟩)⟩
  ·rw [if_neg e] at hp
   rcases hR.heap.obj p c hp with ⟨h1,h2⟩|⟨x,cs',T',hL,hb',hl',hv'⟩
   ·exact .inl ⟨by simp [z1O,e,h1],h2⟩
   ·exact .inr ⟨x,cs',T',hold p x hL,(hx.block x (hlt p x hL) id).trans hb',hl',fun k d v h1 h2=>hV _ _ (hv' k d v h1 h2)⟩
 ·intro p q x hp hq
  rcases hinv p x hp with ⟨e1,e2⟩|⟨_,hp'⟩<;>rcases hinv q x hq with ⟨e3,e4⟩|⟨_,hq'⟩
  ·rw [e1,e3]
  ·have:=hlt q x hq';omega
  ·have:=hlt p x hp';omega
  ·exact hR.heap.inj p q x hp' hq'
 ·intro p x hp hS
  rcases hinv p x hp with ⟨_,e⟩|⟨_,hp'⟩
  ·have:=hR.sLt x hS;omega
  ·exact hR.heap.notS p x hp' hS
 ·rcases hinv p x hp with ⟨e,_⟩|⟨_,hp'⟩
  ·subst e;exact hlo.ok w' x
  ·exact (hR.heap.ty p x hp').imm_shape (z0A (hx.block x (hlt p x hp') id))
 ·intro p x hp
  rcases hinv p x hp with ⟨_,e⟩|⟨_,hp'⟩
  ·exact .inr (by have:=hR.ext.size;omega)
  ·exact hR.own p x hp'
theorem y6d {F:FnD} {os:List DOper} {dst:Dst} {f:Nat} {ds:List DV} {te fr:Fr} {H:Hp} {K:Fr→Fr→Hp→Prop} (hp:F.pure=false) (o:Nat) {sz n:Nat} {xs:List DV}
  (ho:lkH H o=none) (hrf:ds.all DV.rf=true) (hc:y0A F.P f ds sz n xs)
  (hK:z1l F os (dst.onT te (.osl sz o 0 n)) (dst.onX fr (.osl sz o 0 n)) (z0N H o xs) K) (hlo:y0x o:=by decide):z4d F os dst f ds te fr H K:=by
 refine z6n hp ?_
 intro G L a w us hG hR hs hv
 have hA:∀b,Av G.S L b→b<w.heap.size:=by
  rintro b (h|⟨o,h⟩)
  ·exact hR.sLt b h
  ·exact hR.heap.lt h
 refine (hc (Av G.S L) w us (hG.tab hR) hA hs fun k d v h1 h2=>(hv k d v h1 h2).rf_imm (List.all_eq_true.1 hrf d (List.mem_of_getElem? h1))).mono ?_
 rintro e w' ⟨b,c,cs,T,rfl,hbn,hnc,hcs,hb,hl,hvi,hx⟩
 refine ⟨_,z1O L o (some b),.osl sz o 0 n,te,fr,z0N H o xs,rfl,?_,.osl (T:=T) (m:=cs.size) (by simp [z1O]) hnc (by simp [World.shape?,hb]) (by omega),y3D.refl _,hK⟩
 have:=hR.fresh hlo ho hbn hb hl hx hvi
 rw [show lkH (z0N H o xs)=Heap.upd (lkH H) o (some xs) from funext fun p=>by rw [z1f];rfl]
 exact this
section
variable {F:FnD} {os:List DOper} {dst:Dst} {te fr:Fr} {H:Hp} {K:Fr→Fr→Hp→Prop}
theorem z3L (f:Nat) (ps:List Opd):goW F os dst te fr H K (.mkf f ps)=z0Q F os dst te fr H K (opE F.nb dst.slot (ev te fr) (lkH H) (.mkf f ps)):=rfl
theorem y82 (x:Opd):goW F os dst te fr H K (.boxi x)=z0Q F os dst te fr H K (opE F.nb dst.slot (ev te fr) (lkH H) (.boxi x)):=rfl
theorem y80 (sz bytes:Nat) (x:Opd):goW F os dst te fr H K (.appi sz bytes x)=z0Q F os dst te fr H K (opE F.nb dst.slot (ev te fr) (lkH H) (.appi sz bytes x)):=rfl
theorem x3T (x:Opd):goW F os dst te fr H K (.lde x)=z0Q F os dst te fr H K (opE F.nb dst.slot (ev te fr) (lkH H) (.lde x)):=rfl
theorem y87 (n:Nat) (x:Opd):goW F os dst te fr H K (.ldne n x)=z0Q F os dst te fr H K (opE F.nb dst.slot (ev te fr) (lkH H) (.ldne n x)):=rfl
theorem y9e (sz:Nat) (x:Opd) (lo:Option Opd) (hi mx:Opd):goW F os dst te fr H K (.slc3 sz x lo hi mx)=z0Q F os dst te fr H K (opE F.nb dst.slot (ev te fr) (lkH H) (.slc3 sz x lo hi mx)):=rfl
theorem y6A (sz:Nat) (z:List DV) (x:Opd):goW F os dst te fr H K (.clr sz z x)=z0Q F os dst te fr H K (opE F.nb dst.slot (ev te fr) (lkH H) (.clr sz z x)):=rfl
theorem y4J (neg:Bool) (x:Opd):goW F os dst te fr H K (.isnil neg x)=z0Q F os dst te fr H K (opE F.nb dst.slot (ev te fr) (lkH H) (.isnil neg x)):=rfl
theorem x3V (x:Opd):goW F os dst te fr H K (.ldr x)=z0Q F os dst te fr H K (opE F.nb dst.slot (ev te fr) (lkH H) (.ldr x)):=rfl
theorem y88 (n:Nat) (x:Opd):goW F os dst te fr H K (.ldnr n x)=z0Q F os dst te fr H K (opE F.nb dst.slot (ev te fr) (lkH H) (.ldnr n x)):=rfl
end
theorem y5e {o:Nat} (f:Nat) (cs:List DV):purge o (.clo f cs)=.clo f cs:=rfl
theorem x3w {o:Nat} {cells:List DV} (f:Nat) (cs:List DV):frz o cells (.clo f cs)=.clo f cs:=rfl
theorem cN:type_of% (And.intro @z3L (And.intro @y82 (And.intro @y80 (And.intro @x3T (And.intro @y87 (And.intro @y9e (And.intro @y6A (And.intro @y4J (And.intro @x3V (And.intro @y88 (And.intro @y5e (And.intro @x3w (And.intro @x81 (And.intro @y9F (And.intro (@List.take_succ_cons.{0} DOper) (And.intro (@List.drop_succ_cons.{0} DOper) (And.intro (@List.take_zero.{0} DOper) (@List.drop_zero.{0} DOper)))))))))))))))))) :=
 And.intro @z3L (And.intro @y82 (And.intro @y80 (And.intro @x3T (And.intro @y87 (And.intro @y9e (And.intro @y6A (And.intro @y4J (And.intro @x3V (And.intro @y88 (And.intro @y5e (And.intro @x3w (And.intro @x81 (And.intro @y9F (And.intro (@List.take_succ_cons.{0} DOper) (And.intro (@List.drop_succ_cons.{0} DOper) (And.intro (@List.take_zero.{0} DOper) (@List.drop_zero.{0} DOper)))))))))))))))))
end Go.Dat
namespace Go.Dat
theorem zD {p q:Prop} (h:q) (e:Hid q→p:=by (intro hq;simp (maxSteps:=1000000) (disch:=omega) only [cA,cB,cN,FnD.nb,lk,lkH,Dst.onT,Dst.onX,Dst.slot,z0W,z0N,z0J,z0X,z0u,z0V,unE,cnt,z0j,z0t,z0m,z0o,opE,rmH,z02,z0n,Nat.reduceEqDiff,Nat.reduceLT,Nat.reduceAdd,Nat.reduceMul,Nat.reduceMod,↓reduceIte,reduceCtorEq,Nat.reduceLeDiff];exact hq.out)):p:=e ⟨h⟩
theorem zE {X p q:Prop} (x:X) (h:q) (e:Hid X→Hid q→p:=by (intro zx hq;simp (maxSteps:=1000000) (disch:=omega) only [cA,cB,cN,FnD.nb,lk,lkH,Dst.onT,Dst.onX,Dst.slot,z0W,z0N,z0J,z0X,z0u,z0V,unE,cnt,z0j,z0t,z0m,z0o,opE,rmH,z02,z0n,Nat.reduceEqDiff,Nat.reduceLT,Nat.reduceAdd,Nat.reduceMul,Nat.reduceMod,↓reduceIte,reduceCtorEq,Nat.reduceLeDiff,zx.out];exact hq.out)):p:=e ⟨x⟩ ⟨h⟩
theorem zR {p q:Prop} (h:q) (e:Hid q→p:=by (intro hq;(repeat (first|refine z0d ?_|refine z0g ?_|refine z0p ?_|refine z0f ?_|refine And.intro (by omega) ?_|simp (maxSteps:=1000000) (disch:=omega) only [cA,cB,cN,FnD.nb,lk,lkH,Dst.onT,Dst.onX,Dst.slot,z0W,z0N,z0J,z0X,z0u,z0V,unE,cnt,z0j,z0t,z0m,z0o,opE,rmH,z02,z0n,Nat.reduceEqDiff,Nat.reduceLT,Nat.reduceAdd,Nat.reduceMul,Nat.reduceMod,↓reduceIte,reduceCtorEq,Nat.reduceLeDiff]));exact hq.out)):p:=e ⟨h⟩
theorem zS {X p q:Prop} (x:X) (h:q) (e:Hid X→Hid q→p:=by (intro zx hq;(repeat (first|refine z0d ?_|refine z0g ?_|refine z0p ?_|refine z0f ?_|refine And.intro (by omega) ?_|simp (maxSteps:=1000000) (disch:=omega) only [cA,cB,cN,FnD.nb,lk,lkH,Dst.onT,Dst.onX,Dst.slot,z0W,z0N,z0J,z0X,z0u,z0V,unE,cnt,z0j,z0t,z0m,z0o,opE,rmH,z02,z0n,Nat.reduceEqDiff,Nat.reduceLT,Nat.reduceAdd,Nat.reduceMul,Nat.reduceMod,↓reduceIte,reduceCtorEq,Nat.reduceLeDiff,zx.out]));exact hq.out)):p:=e ⟨x⟩ ⟨h⟩
theorem zP {p q:Prop} (h:q) (e:Hid q→p:=by (intro hq;(first|refine z0d ?_|refine z0g ?_|refine z0p ?_|refine z0f ?_|refine And.intro (by omega) ?_|simp (maxSteps:=1000000) (disch:=omega) only [cA,cB,cN,FnD.nb,lk,lkH,Dst.onT,Dst.onX,Dst.slot,z0W,z0N,z0J,z0X,z0u,z0V,unE,cnt,z0j,z0t,z0m,z0o,opE,rmH,z02,z0n,Nat.reduceEqDiff,Nat.reduceLT,Nat.reduceAdd,Nat.reduceMul,Nat.reduceMod,↓reduceIte,reduceCtorEq,Nat.reduceLeDiff]);(repeat (first|refine z0d ?_|refine z0g ?_|refine z0p ?_|refine z0f ?_|refine And.intro (by omega) ?_|simp (maxSteps:=1000000) (disch:=omega) only [cA,cB,cN,FnD.nb,lk,lkH,Dst.onT,Dst.onX,Dst.slot,z0W,z0N,z0J,z0X,z0u,z0V,unE,cnt,z0j,z0t,z0m,z0o,opE,rmH,z02,z0n,Nat.reduceEqDiff,Nat.reduceLT,Nat.reduceAdd,Nat.reduceMul,Nat.reduceMod,↓reduceIte,reduceCtorEq,Nat.reduceLeDiff]));exact hq.out)):p:=e ⟨h⟩
theorem zQ {X p q:Prop} (x:X) (h:q) (e:Hid X→Hid q→p:=by (intro zx hq;(first|refine z0d ?_|refine z0g ?_|refine z0p ?_|refine z0f ?_|refine And.intro (by omega) ?_|simp (maxSteps:=1000000) (disch:=omega) only [cA,cB,cN,FnD.nb,lk,lkH,Dst.onT,Dst.onX,Dst.slot,z0W,z0N,z0J,z0X,z0u,z0V,unE,cnt,z0j,z0t,z0m,z0o,opE,rmH,z02,z0n,Nat.reduceEqDiff,Nat.reduceLT,Nat.reduceAdd,Nat.reduceMul,Nat.reduceMod,↓reduceIte,reduceCtorEq,Nat.reduceLeDiff,zx.out]);(repeat (first|refine z0d ?_|refine z0g ?_|refine z0p ?_|refine z0f ?_|refine And.intro (by omega) ?_|simp (maxSteps:=1000000) (disch:=omega) only [cA,cB,cN,FnD.nb,lk,lkH,Dst.onT,Dst.onX,Dst.slot,z0W,z0N,z0J,z0X,z0u,z0V,unE,cnt,z0j,z0t,z0m,z0o,opE,rmH,z02,z0n,Nat.reduceEqDiff,Nat.reduceLT,Nat.reduceAdd,Nat.reduceMul,Nat.reduceMod,↓reduceIte,reduceCtorEq,Nat.reduceLeDiff,zx.out]));exact hq.out)):p:=e ⟨x⟩ ⟨h⟩
theorem zT {p:Prop} (e:p:=by (first|exact z0i (z0h (.imm rfl))|exact z0i (z07 rfl rfl rfl (.imm rfl)))):p:=e
theorem cI:(False→False)=True:=eq_true id
theorem zA {a b:Prop} (x:a) (y:b):a∧b:=⟨x,y⟩
theorem wT {F:FnD} {Q:Ex→Fr→Hp→Prop} {fr:Fr} {H:Hp} {c:Opd} {x y:DC} (h:W F x Q fr H) (hc:ev [] fr c=.bool true:=by rfl):W F (.cond c x y) Q fr H:=z0l hc (fun _=>h) (fun e=>by cases e)
theorem wF {F:FnD} {Q:Ex→Fr→Hp→Prop} {fr:Fr} {H:Hp} {c:Opd} {x y:DC} (h:W F y Q fr H) (hc:ev [] fr c=.bool false:=by rfl):W F (.cond c x y) Q fr H:=z0l hc (fun e=>by cases e) (fun _=>h)
theorem wTs {F:FnD} {Q:Ex→Fr→Hp→Prop} {fr:Fr} {H:Hp} {c:Opd} {y:DC} (h:Q .norm fr H) (hc:ev [] fr c=.bool true:=by rfl):W F (.cond c .skip y) Q fr H:=wT (z0D h) hc
theorem wFs {F:FnD} {Q:Ex→Fr→Hp→Prop} {fr:Fr} {H:Hp} {c:Opd} {x:DC} (h:Q .norm fr H) (hc:ev [] fr c=.bool false:=by rfl):W F (.cond c x .skip) Q fr H:=wF (z0D h) hc
theorem cP {F:FnD} {os:List DOper} {dst:Dst} {f:Nat} {ds:List DV} {te fr:Fr} {H:Hp} {K:Fr→Fr→Hp→Prop} {r:DV} (hc:z0c F.P f ds r) (hK:z1l F os (dst.onT te r) (dst.onX fr r) H K) (hrf:ds.all DV.rf=true:=by rfl):z4d F os dst f ds te fr H K:=z0E hc hrf hK
end Go.Dat
namespace Go.Dat
open Go
abbrev om (k j:Nat):DOper:=⟨.t k,.mv (.x j),none⟩
abbrev ow (k j:Nat):DOper:=⟨.x k,.mv (.t j),none⟩
abbrev ot (k:Nat) (p:DOp):DOper:=⟨.t k,p,none⟩
abbrev ox (k:Nat) (p:DOp):DOper:=⟨.x k,p,none⟩
abbrev on (p:DOp):DOper:=⟨.no,p,none⟩
abbrev oi (n:Int):Opd:=.c (.int .i64 n)
abbrev og (k:Nat) (p:DOp) (j:Nat) (b:Bool):DOper:=⟨.t k,p,some (.t j,b)⟩
theorem IsFn.k {F:FnD} {f:Nat} {c:DC} {rv:List RV} {fn:Func} {code:Code} (h:F.P.funcs[f]? = some fn) (hb:fn.body=some code)
  (e:(fn.ntmps,strip F.P F.vs F.own F.n code,y0s F.P fn.results.toList,z9O F.vs fn.results.toList)=(F.n,c,some rv,true)):IsFn F f c rv:=by
 simp only [Prod.mk.injEq] at e
 exact ⟨fn,code,h,hb,e.1,e.2.1,e.2.2.1,e.2.2.2⟩
end Go.Dat
