/- Lemmas of the walk; no conditions beyond those that each states. -/
import Derived.Test.YtlcagndeidjobaaGreatDoorD3
import Derived.Test.YtlcagndeidjobaaGreatDoorT4
import Derived.Test.YtlcagndeidjobaaGreatDoorN2
import Derived.Test.YtlcagndeidjobaaGreatDoorD5
import Derived.Test.YtlcagndeidjobaaGreatDoorC2
set_option linter.unusedSimpArgs false
set_option linter.unusedVariables false
set_option linter.unnecessarySimpa false
set_option maxHeartbeats 4000000
namespace Go.Proofs.YtlcagndeidjobaaGreatDoor
open Tryz
open Go Go.Dat Go.Proofs Go.RowKit Go.Lib Nat32
theorem z7W (r:Int):z0c prog 79 [.int .i64 r] (.sl 3 (nums [1])):=by
 have c1:z0c prog 80 [.int .i64 1] (.agg (z0V 1)):=z3p 1 (by decide) (by decide)
 have hld:∀x:Rat,laid [DV.bool false,.nils,.nils] [(0,3,.agg (z0V x))]=some (z0V x):=fun _=>rfl
 refine z0b y4l (by simp [z7r]) ?_
 unfold z49
 refine zR ?_
 refine cP c1 ?_
 refine zS hld ?_
 refine ⟨z1W _,?_⟩
 refine zR ?_
 exact z0j (z0i (.imm rfl))
theorem x60:z0X prog 79:=⟨_,func79,by kernel_rfl,by kernel_rfl⟩
def icG:Grp:=⟨[[40,73,110,116,101,114,99,101,112,116,41]],.fn 79,rfl,rfl⟩
theorem w4f (r:Nat):GV prog icG r [1]:=⟨_,_,.inr ⟨rfl,rfl⟩,x60,rfl,z7W r⟩
def y9K (S:List Kx) (m:Mdl) (cod:Int) (t fs:List Fac) (f:Fac) (k:Nat):Grp:=(fs.take k).foldl (fun g h=>w1v g (y4g S m cod t h)) (y4g S m cod t f)
theorem y4I {S:List Kx} {m:Mdl} {cod:Int} (t:List Fac) {fs:List Fac} (f:Fac) {k:Nat} (hk:k<fs.length):y9K S m cod t fs f (k+1)=w1v (y9K S m cod t fs f k) (y4g S m cod t (fs.getD k default)):=by
 unfold y9K;rw [z0r default hk,List.foldl_append];rfl
theorem w39:∀k,k<7→3 ^ k≤729:=by decide
theorem y62 {n:Nat} {S:List Kx} {m:Mdl} {cod:Nat} (h:DKt n S m cod) {t fs:List Fac} {f:Fac} (ht:t∈m.tm) (hf:f∈t) (hfs:∀f∈fs,f∈t) (hl:fs.length≤5):∀{k:Nat},k≤fs.length →
  (y9K S m cod t fs f k).nm=y9v S m cod t fs f k∧∀r,w0I n S m r→GV prog (y9K S m cod t fs f k) r (x0o S m cod t fs f k r)
 | 0,_=>⟨(z1p h ht hf).1,(z1p h ht hf).2.1⟩
 | k+1,hk=>by
  obtain ⟨i1,i2⟩:=y62 h ht hf hfs hl (show k≤fs.length by omega)
  obtain ⟨j1,j2,_⟩:=z1p h ht (hfs _ (z4a hk))
  rw [y4I t f hk,z4p t f hk]
  refine ⟨?_,fun r hr=>?_⟩
  ·unfold w1v
   show z3P _ _=_
   rw [i1,j1]
  ·rw [z59 t f r hk]
   have l1:=y2r (S:=S) (m:=m) (cod:=cod) t f r (show k≤fs.length by omega)
   have l2:=(z92 h ht hf hfs (show k≤fs.length by omega)).1
   have l3:=z4S S m cod t (fs.getD k default) r
   have l4:=(z5g h ht (hfs _ (z4a hk))).1
   have l5:=w39 (k+1+1) (by omega)
   have hm:(y1U S m cod t (fs.getD k default) r).length*(x0o S m cod t fs f k r).length≤3*3 ^ (k+1):=Nat.mul_le_mul (by omega) (by omega)
   have e3:3*3 ^ (k+1)=3 ^ (k+1+1):=by rw [Nat.pow_succ 3 (k+1),Nat.mul_comm]
   refine w19 (w:=6000) (i2 r hr) (j2 r hr) (fun x hx=>(y21 h ht hf hfs hr.1 (show k≤fs.length by omega) x hx).mono ?_) (fun x hx=>(y2s h ht (hfs _ (z4a hk)) hr.1 x hx).mono (by decide)) (by decide) (by omega) (by omega)
   have:(k+1)*900≤6*900:=Nat.mul_le_mul_right _ (by omega)
   omega
theorem w3R {T:List (List Fac)} {i:Nat} (h:i<T.length):T.getD i []∈T:=by rw [zO1,zO4 h];exact List.getElem_mem h
def w5t (S:List Kx) (m:Mdl) (cod:Int) (t:List Fac):Grp:=y9K S m cod t t.tail (t.getD 0 default) t.tail.length
def z3s (S:List Kx) (m:Mdl) (cod:Int) (i:Nat):List Grp:=(if m.ic then [icG] else [])++((m.tm.take i).filter (y0n S m cod)).map (w5t S m cod)
theorem y8e {S:List Kx} {m:Mdl} {cod:Int} {i:Nat} (hi:i<m.tm.length) (h:y0n S m cod (m.tm.getD i [])=true):z3s S m cod (i+1)=z3s S m cod i++[w5t S m cod (m.tm.getD i [])]:=by
 unfold z3s
 rw [z0r [] hi,List.filter_append,List.map_append,List.filter_cons,if_pos h,List.append_assoc];rfl
theorem x4L {S:List Kx} {m:Mdl} {cod:Int} {i:Nat} (hi:i<m.tm.length) (h:y0n S m cod (m.tm.getD i [])=false):z3s S m cod (i+1)=z3s S m cod i:=by
 unfold z3s
 rw [z0r [] hi,List.filter_append,List.filter_cons,if_neg (show ¬y0n S m cod (m.tm.getD i [])=true by rw [h];decide)];simp
theorem y2l {t:List Fac} (h:1≤t.length):t=t.getD 0 default::t.tail:=by
 cases t with
 | nil=>cases h
 | cons f fs=>rfl
theorem x3p {n:Nat} {S:List Kx} {m:Mdl} {cod:Nat} (h:DKt n S m cod):∀{i:Nat},i≤m.tm.length→x5g prog (w0I n S m) (z3s S m cod i) (z3t S m cod i)
 | 0,_=>by
  have e1:z3s S m cod 0=if m.ic then [icG] else []:=by unfold z3s;simp
  have e2:z3t S m cod 0=icL m:=by unfold z3t;simp
  rw [e1,e2]
  unfold icL
  split
  ·exact (x5g.nil _ _).snoc rfl fun r _=>w4f r
  ·exact x5g.nil _ _
 | i+1,hi=>by
  have ih:=x3p h (show i≤m.tm.length by omega)
  cases hk:y0n S m cod (m.tm.getD i [])
  ·rw [x4L hi hk,x8Y hi hk];exact ih
  ·rw [y8e hi hk,x6r hi hk]
   have ht:m.tm.getD i []∈m.tm:=w3R hi
   generalize m.tm.getD i []=t at *
   have htl:=h.tl.2 t ht
   have hc:=y2l htl.1
   have h0:t.getD 0 default∈t:=z4a (by omega)
   have hts:∀f∈t.tail,f∈t:=fun f hf=>List.mem_of_mem_tail hf
   obtain ⟨a1,a2⟩:=y62 h ht h0 hts (by rw [List.length_tail];omega) (Nat.le_refl t.tail.length)
   obtain ⟨b1,b2⟩:=y2K (S:=S) (m:=m) (cod:=cod) hc
   refine ih.snoc ?_ fun r hr=>?_
   ·exact a1.trans b1
   ·have:=a2 r hr
    rw [b2] at this
    exact this
theorem z9E {n:Nat} {S:List Kx} {m:Mdl} {cod:Nat} (h:DKt n S m cod) (hw:z72 S m cod m.tm.length≤12) :
  z0c prog 36 [.el (z3k n S m cod) 0] (.tup [.sl 2 (gps (z3s S m cod m.tm.length)),.int .i64 0]):=by
 have hT:=y1Y m.tm
 have hB2:∀x,(z3k n S m cod).getD 3 x=.bool m.ic:=fun _=>rfl
 have hB4:∀x,(z3k n S m cod).getD 4 x=.sl 1 (tmD m.tm):=fun _=>rfl
 have hB6:(z3k n S m cod).length=6:=rfl
 refine z0b y65 (by simp [z8u]) ?_
 unfold z5U
 generalize hB:z3k n S m cod=B at *
 refine z0d ?_
 refine z0g ?_
 refine zD ?_
 refine z0d ?_
 refine z0g ?_
 refine zD ?_
 refine z5Z 4 2 200 rfl rfl ?_
 refine zS (zA hB2 hB6) ?_
 have hg0l:∀i,i≤m.tm.length→(z3s S m cod i).length≤40:=fun i hi=>by
  have h1:=List.length_filter_le (y0n S m cod) (m.tm.take i)
  rw [List.length_take] at h1
  have h2:=h.tl.1
  unfold z3s
  rw [List.length_append,List.length_map]
  split
  ·simp;omega
  ·simp;omega
 have hga:=z5j
 have hg2:=z1A
 have hgt:∀g,(gpC g).take 2=gpC g:=fun _=>rfl
 have hgl:∀g,laid [DV.nils,.undef] [(0,2,.agg (gpC g))]=some (gpC g):=fun g=>by simp [laid,z5j,z1A,spl];rfl
 have h22:2 / 2=1:=rfl
 have hsg:∀(A:Grp) (C:List DV),List.take 0 (gpC A)++C++List.drop 2 (gpC A)=C:=fun A C=>by rw [List.drop_of_length_le (by rw [z1A];omega)];simp
 have hlg:∀l:List Grp,(gps l).length=l.length*2:=z2z
 refine z4c (ι:=Unit) (fun _=>True) (fun _=>[(0,.el B 0),(4,.osl 2 200 0 (z3s S m cod 0).length),(5,.int .i64 (z72 S m cod 0))]) (fun _=>[(200,gps (z3s S m cod 0))]) ?_ ?_
 ·have e1:z3s S m cod 0=if m.ic then [icG] else []:=by unfold z3s;simp
  have e2:z72 S m cod 0=if m.ic then 1 else 0:=by unfold z72;simp
  rw [e1,e2]
  cases hic:m.ic
  ·refine wFs ?_
   exact ⟨(),trivial,by simp [z0v,lk],rfl⟩
  ·have hl1:∀x,laid [DV.str []] [(0,1,.str x)]=some [.str x]:=fun _=>rfl
   have hl2:∀x,laid [DV.nils,.undef] [(0,1,.sl 1 [.str x]),(1,1,.fn 79)]=some [.sl 1 [.str x],.fn 79]:=fun _=>rfl
   have hl3:∀x,laid [DV.nils,.undef] [(0,2,.agg [.sl 1 [.str x],.fn 79])]=some [.sl 1 [.str x],.fn 79]:=fun _=>rfl
   refine wT ?_
   refine zS (zA hl1 (zA hl2 hl3)) ?_
   refine ⟨List.all_eq_true.1 rfl,?_⟩
   refine zS (zA hl1 (zA hl2 hl3)) ?_
   exact ⟨List.all_eq_true.1 rfl,⟨fun h=>h,List.all_eq_true.1 rfl⟩,(),by simp [z0v,lk],rfl⟩
 rintro ⟨⟩ -
 refine zS (zA hB4 (zA hB6 hT)) ?_
 refine z0s (σ:=Nat) (fun i=>[(0,.el B 0),(4,.osl 2 200 0 (z3s S m cod i).length),(5,.int .i64 (z72 S m cod i)),(31,.sl 1 (tmD m.tm)),(32,.int .i64 m.tm.length),(33,.int .i64 i)]) (fun i=>[(200,gps (z3s S m cod i))]) (fun i=>i≤m.tm.length) (fun i=>m.tm.length - i) 0 (Nat.zero_le _) ?_ rfl ?_
 ·simp [z0v,lk]
 ·intro i hi
  try simp only at hi ⊢
  have htl32:=h.tl.1
  by_cases hlt:i<m.tm.length
  ·have dl:decide ((i:Int)<(m.tm.length:Int))=true:=zT9
   have ei:(i:Int).toNat=i:=Int.toNat_natCast i
   have e1:((i:Int)+1)=((i+1:Nat):Int):=by omega
   have hgT:=y3m hlt .undef
   have hyes:=fun hk=>y8e (S:=S) (m:=m) (cod:=cod) hlt hk
   have hno:=fun hk=>x4L (S:=S) (m:=m) (cod:=cod) hlt hk
   have cyes:=fun hk=>y2L (S:=S) (m:=m) (cod:=cod) hlt hk
   have cno:=fun hk=>x1V (S:=S) (m:=m) (cod:=cod) hlt hk
   have cmo:=z6e (S:=S) (m:=m) (cod:=cod) (i:=i+1) (Nat.le_refl _) hlt
   have cmo0:=z6e (S:=S) (m:=m) (cod:=cod) (i:=i) (Nat.le_refl _) hi
   have hgl1:=hg0l i hi
   have ht:m.tm.getD i []∈m.tm:=w3R hlt
   generalize m.tm.getD i []=t at *
   obtain ⟨ht1,ht6⟩:=h.tl.2 t ht
   obtain ⟨G,hG⟩:∃G,G=t.map (y4g S m cod t):=⟨_,rfl⟩
   have hGl:G.length=t.length:=by rw [hG,List.length_map]
   have hGg:∀j,j<t.length→G.getD j default=y4g S m cod t (t.getD j default):=fun j hj=>by
    rw [hG,zO1,List.getElem?_map,zO4 hj,zO1,zO4 hj];rfl
   have hfcl:=z3j t
   have htl2:t.length*2 / 2=t.length:=by omega
   have etl:(t.length:Int).toNat=t.length:=Int.toNat_natCast _
   have hcf:∀f,(DV.agg (fcC f)).cells? = some (fcC f):=fun _=>rfl
   have hf2:=z1H
   have hft:∀f,(fcC f).take 2=fcC f:=fun _=>rfl
   have hs2:∀(a b:DV) (C:List DV),List.take 0 [a,b]++C++List.drop 2 [a,b]=C:=fun _ _ _=>by simp
   refine zS dl ?_
   refine wTs ?_
   refine z0d ?_
   refine z0e ?_
   refine zS (zA ei (zA hT (zA hgT (zA hfcl (zA htl2 etl))))) ?_
   rw [w2w G]
   refine z0s (σ:=Nat) (fun j=>[(0,.el B 0),(4,.osl 2 200 0 (z3s S m cod i).length),(5,.int .i64 (z72 S m cod i)),(7,.sl 2 (fcs t)),(8,.osl 2 39 0 t.length),(9,.int .i64 (z6j S m cod t j)),(31,.sl 1 (tmD m.tm)),(32,.int .i64 m.tm.length),(33,.int .i64 i),(40,.sl 2 (fcs t)),(41,.int .i64 t.length),(42,.int .i64 j)]) (fun j=>[(39,y6O G t.length j),(200,gps (z3s S m cod i))]) (fun j=>j≤t.length) (fun j=>t.length - j) 0 (Nat.zero_le _) ?_ rfl ?_
   ·simp [z0v,lk,z6j]
   ·intro j hj
    try simp only at hj ⊢
    by_cases hlj:j<t.length
    ·have dj:decide ((j:Int)<(t.length:Int))=true:=zT9
     have ej:(j:Int).toNat=j:=Int.toNat_natCast j
     have ej1:((j:Int)+1)=((j+1:Nat):Int):=by omega
     have hft2:=z1a (j:=0) (k:=2) z1H default hlj (Nat.le_refl _)
     have hftw:((fcs t).drop (j*2)).take 2=fcC (t.getD j default):=hft2
     have hfm:t.getD j default∈t:=z4a hlj
     obtain ⟨fn1,_,cf⟩:=z1p h ht hfm
     rw [hB] at cf
     have hgj:=hGg j hlj
     have hw1:=z2K (S:=S) (m:=m) (cod:=cod) hlj
     have hw2:=y7m h ht (show j+1≤t.length by omega)
     have hw3:=w39 (j+1) (by omega)
     have hfl:=y8w hGl hj
     have hfs:=x7k hGl hlj
     have hfa:=x9d hGl hlj
     have hfl2:=y8w hGl (show j+1≤t.length by omega)
     rw [hgj,fn1] at hfa
     rw [hgj] at hfs
     have hfN:=z0z (z3r S m cod t (t.getD j default))
     generalize z3r S m cod t (t.getD j default)=N at *
     have hmx:(if (1:Int)<(N.length:Int) then (N.length:Int) else 1)=((max 1 N.length:Nat):Int):=by split<;>omega
     have hmu:((z6j S m cod t j:Nat):Int)*((max 1 N.length:Nat):Int)=((z6j S m cod t (j+1):Nat):Int):=by rw [hw1];exact (Int.natCast_mul _ _).symm
     have hrf:[DV.el B 0,.sl 2 (fcs t),.agg (fcC (t.getD j default))].all DV.rf=true:=rfl
     generalize t.getD j default=f at *
     generalize y4g S m cod t f=g at *
     refine zS dj ?_
     refine wTs ?_
     refine z0d ?_
     refine z0e ?_
     refine zS (zA ej (zA hfcl (zA hftw (zA hcf (zA hf2 (zA hft (zA hs2 @List.drop_zero.{0}))))))) ?_
     refine cP cf ?_
     refine zE (zA ej (zA hga (zA hg2 (zA hgt hfl)))) ?_
     refine ⟨⟨by omega,by omega⟩,by omega,?_⟩
     rw [hfs]
     have q1:=z0h 11 (w0v G t.length (j+1))
     have q2:=z0h 11 (z7g (z3s S m cod i))
     have q3:∀o k n,o≠11→purge 11 (.osl 2 o k n)=.osl 2 o k n:=fun o k n h=>by simp [purge,DV.has,h]
     have q4:∀n,purge 11 (.int .i64 n)=.int .i64 n:=fun n=>by simp [purge,DV.has]
     refine z2v 11 ?_
     repeat (first|refine z0d ?_|refine z0g ?_|refine z0p ?_|refine z0e ?_|refine And.intro (by omega) ?_|simp (maxSteps:=1000000) (disch:=omega) only [cA,cB,cN,FnD.nb,lk,lkH,Dst.onT,Dst.onX,Dst.slot,z03,z0K,z0M,z00,z0x,z02,unE,cnt,z0l,z0w,z0m,z0o,opE,rmH,z05,z0n,Nat.reduceEqDiff,Nat.reduceLT,Nat.reduceAdd,Nat.reduceMul,Nat.reduceMod,↓reduceIte,reduceCtorEq,Nat.reduceLeDiff,ej,hfl2,hfa,hfN,hmx,hmu,rmP,q1,q2,q3,q4])
     exact ⟨j+1,by omega,by omega,by simp [z0v,lk,purge,DV.has],rfl⟩
    ·have dj:decide ((j:Int)<(t.length:Int))=false:=zF9
     obtain rfl:j=t.length:=by omega
     have hwt:=y7m h ht (Nat.le_refl t.length)
     have hw3:=w39 t.length (by omega)
     generalize hwd:z6j S m cod t t.length=wd at *
     rw [x6a hGl]
     have hGr:=z7g G
     have hGn:=z2z G
     refine z0E 39 (cells:=gps G) rfl (List.all_eq_true.2 hGr) ?_
     have hfz:frz 39 (gps G) (.osl 2 39 0 t.length)=.sl 2 (gps G):=by
      simp [frz,hGn,hGl]
      rw [List.take_of_length_le (by omega)]
     have z1:∀k n,frz 39 (gps G) (.osl 2 200 k n)=.osl 2 200 k n:=fun k n=>z1q _ _ _ _ _ (by decide)
     have z2:=z0N 39 (gps G) (z7g (z3s S m cod i))
     have cCF:=y2y G (by omega)
     have hany:G.any emG=!y0n S m cod t:=by
      unfold y0n
      rw [←y17]
      rw [hG,List.any_map]
      have:∀l:List Fac,(∀f∈l,f∈t)→l.any (emG ∘ y4g S m cod t)=l.any fun f=>!!(z3r S m cod t f).isEmpty:=by
       intro l
       induction l with
       | nil=>intro _;rfl
       | cons f l ih =>
        intro hl
        rw [List.any_cons,List.any_cons,ih fun f' h'=>hl f' (List.mem_cons_of_mem _ h')]
        congr 1
        show emG (y4g S m cod t f)=_
        unfold emG
        rw [(z1p h ht (hl f List.mem_cons_self)).1]
        cases z3r S m cod t f with
        | nil=>rfl
        | cons a b=>simp;omega
      exact this t fun f hf=>hf
     rw [hany] at cCF
     refine zS (zA dj (zA hfz (zA z1 z2))) ?_
     refine z0k rfl (fun h=>by cases h) (fun _=>z0q ?_)
     refine zR ?_
     refine cP cCF ?_
     cases hk:y0n S m cod t
     ·refine zR ?_
      refine z0k rfl (fun _=>z0q ?_) (fun h=>by cases h)
      refine zS e1 ?_
      exact ⟨i+1,by omega,by omega,by simp [z0v,lk,hno hk,cno hk],by rw [hno hk]⟩
     ·have cy:=cyes hk
      have hcnt:((z72 S m cod i:Nat):Int)+(wd:Int)=((z72 S m cod (i+1):Nat):Int):=by omega
      have d12:decide ((12:Int)<((z72 S m cod (i+1):Nat):Int))=false:=zF9
      have hw0:(gps G).take 2=gpC (G.getD 0 default):=z1a (l:=G) (i:=0) (j:=0) z1A default (by omega) (Nat.le_refl _)
      have hG0:G.getD 0 default=y9K S m cod t t.tail (t.getD 0 default) 0:=hGg 0 (by omega)
      rw [hG0] at hw0
      have hd1:(gps G).drop 2=gps (G.drop 1):=y2k z1A G 1
      have hG1:(G.drop 1).length=t.tail.length:=by rw [List.length_drop,List.length_tail,hGl]
      have hdl:=z2z (G.drop 1)
      rw [hG1] at hdl
      have hdl2:t.tail.length*2 / 2=t.tail.length:=by omega
      refine zR ?_
      refine wFs ?_
      refine zS (zA hcnt d12) ?_
      refine wFs ?_
      have htkG:(gps G).take (t.length*2)=gps G:=List.take_of_length_le (by omega)
      have ez:(0:Int).toNat=0:=rfl
      have eo:(1:Int).toNat=1:=rfl
      refine zS (zA ez (zA eo (zA htkG (zA hGn (zA hGl (zA hw0 (zA hga (zA hg2 (zA hgt (zA hs2 (zA hd1 (zA hdl (zA hdl2 @List.drop_zero.{0}))))))))))))) ?_
      have htc:=y2l ht1
      have h0:t.getD 0 default∈t:=z4a (by omega)
      have hts:∀f∈t.tail,f∈t:=fun f hf=>List.mem_of_mem_tail hf
      have htll:t.tail.length+1=t.length:=by rw [List.length_tail];omega
      have hGk:∀k,k<t.tail.length→(G.drop 1).getD k default=y4g S m cod t (t.tail.getD k default):=fun k hk=>by
       have e1:(G.drop 1).getD k default=G.getD (1+k) default:=by rw [zO1,List.getElem?_drop,zO1]
       have e2:t.tail.getD k default=t.getD (k+1) default:=by
        rw [zO1,List.getElem?_tail,zO1]
       rw [e1,hGg _ (by omega),e2,Nat.add_comm]
      refine z0s (σ:=Nat) (fun k=>[(0,.el B 0),(4,.osl 2 200 0 (z3s S m cod i).length),(5,.int .i64 (z72 S m cod (i+1))),(12,.ptr 12 0),(31,.sl 1 (tmD m.tm)),(32,.int .i64 m.tm.length),(33,.int .i64 i),(75,.sl 2 (gps (G.drop 1))),(76,.int .i64 t.tail.length),(77,.int .i64 k)]) (fun k=>[(12,gpC (y9K S m cod t t.tail (t.getD 0 default) k)),(200,gps (z3s S m cod i))]) (fun k=>k≤t.tail.length) (fun k=>t.tail.length - k) 0 (Nat.zero_le _) ?_ rfl ?_
      ·have x1:List.drop 2 (List.take (t.length*2) (gps G))=gps G.tail:=by rw [htkG,hd1,List.drop_one]
       have x2:((min (t.length*2) (gps G).length - 2:Nat):Int) / 2=((t.length - 1:Nat):Int):=by rw [hGn,hGl];omega
       have x3:((gps G.tail).length:Int) / 2=((t.length - 1:Nat):Int):=by rw [z2z,List.length_tail,hGl];omega
       simp [z0v,lk,x1,x2,x3]
      ·intro k hk2
       try simp only at hk2 ⊢
       by_cases hlk:k<t.tail.length
       ·have dk:decide ((k:Int)<(t.tail.length:Int))=true:=zT9
        have ek:(k:Int).toNat=k:=Int.toNat_natCast k
        have ek1:((k:Int)+1)=((k+1:Nat):Int):=by omega
        have hwk:((gps (G.drop 1)).drop (k*2)).take 2=gpC ((G.drop 1).getD k default):=z1a (l:=G.drop 1) (j:=0) z1A default (by omega) (Nat.le_refl _)
        rw [hGk k hlk] at hwk
        have hsu:=y4I (S:=S) (m:=m) (cod:=cod) t (t.getD 0 default) hlk
        obtain ⟨a1,_⟩:=y62 h ht h0 hts (by omega) hk2
        obtain ⟨a2,a3⟩:=z92 h ht h0 hts hk2
        obtain ⟨b1,_,_⟩:=z1p h ht (hts _ (z4a hlk))
        obtain ⟨b2,b3⟩:=z5g h ht (hts _ (z4a hlk))
        have p3:=w39 (k+1+1) (by omega)
        have e3:3*3 ^ (k+1)=3 ^ (k+1+1):=by rw [Nat.pow_succ 3 (k+1),Nat.mul_comm]
        rw [←a1] at a2 a3
        rw [←b1] at b2 b3
        generalize y9K S m cod t t.tail (t.getD 0 default) k=A at *
        generalize y4g S m cod t (t.tail.getD k default)=F at *
        have hmm:F.nm.length*A.nm.length≤3*3 ^ (k+1):=Nat.mul_le_mul b2 a2
        have ct:=y0t A F (by omega) (by omega) (fun s hs=>by
         have:=a3 s hs
         have:(k+1)*2000020≤6*2000020:=Nat.mul_le_mul_right _ (by omega)
         omega) (fun s hs=>by have:=b3 s hs;omega)
        rw [←hsu] at ct
        have q1:=z0h 14 (z35 (y9K S m cod t t.tail (t.getD 0 default) (k+1)))
        have q2:=z0h 14 (z7g (z3s S m cod i))
        have q3:∀o k n,o≠14→purge 14 (.osl 2 o k n)=.osl 2 o k n:=fun o k n h=>by simp [purge,DV.has,h]
        have q4:∀n,purge 14 (.int .i64 n)=.int .i64 n:=fun n=>by simp [purge,DV.has]
        have q5:purge 14 (.ptr 12 0)=.ptr 12 0:=by simp [purge,DV.has]
        generalize hA':y9K S m cod t t.tail (t.getD 0 default) (k+1)=A' at *
        have hrf2:[DV.agg (gpC A),.agg (gpC F)].all DV.rf=true:=by
         simp only [List.all_cons,DV.rf_agg,List.all_eq_true.2 (z35 A),List.all_eq_true.2 (z35 F),List.all_nil];rfl
        refine zS dk ?_
        refine wTs ?_
        refine z0d ?_
        refine z0e ?_
        refine zS (zA ek (zA hdl (zA hwk (zA hga (zA hg2 (zA hgt (zA hs2 @List.drop_zero.{0}))))))) ?_
        refine z0C ct hrf2 ?_
        refine zE (zA hga (zA hg2 (zA hgt hsg))) ?_
        refine z2v 14 ?_
        repeat (first|refine z0d ?_|refine z0g ?_|refine z0p ?_|refine z0e ?_|refine And.intro (by omega) ?_|simp (maxSteps:=1000000) (disch:=omega) only [cA,cB,cN,FnD.nb,lk,lkH,Dst.onT,Dst.onX,Dst.slot,z03,z0K,z0M,z00,z0x,z02,unE,cnt,z0l,z0w,z0m,z0o,opE,rmH,z05,z0n,Nat.reduceEqDiff,Nat.reduceLT,Nat.reduceAdd,Nat.reduceMul,Nat.reduceMod,↓reduceIte,reduceCtorEq,Nat.reduceLeDiff,rmP,q1,q2,q3,q4,q5])
        exact ⟨k+1,by omega,by omega,by simp [z0v,lk,purge,DV.has],by rw [hA']⟩
       ·have dk:decide ((k:Int)<(t.tail.length:Int))=false:=zF9
        obtain rfl:k=t.tail.length:=by omega
        have hsn:gps (z3s S m cod i)++gpC (y9K S m cod t t.tail (t.getD 0 default) t.tail.length)=gps (z3s S m cod (i+1)):=by
         rw [hyes hk];exact y28 _ _
        have hgn:=z2z (z3s S m cod i)
        have hgl2:(z3s S m cod (i+1)).length=(z3s S m cod i).length+1:=by rw [hyes hk,List.length_append];rfl
        generalize y9K S m cod t t.tail (t.getD 0 default) t.tail.length=A at *
        have r1:=w0n A
        have r2:=z35 A
        have q1:=z0h 200 (z35 A)
        have q2:=z0h 200 (z7g (z3s S m cod (i+1)))
        have q3:=z0h 12 (z7g (z3s S m cod (i+1)))
        refine zS dk ?_
        refine z0k rfl (fun h=>by cases h) (fun _=>z0q ?_)
        refine zS (zA hga (zA hg2 (zA hgt (zA hgl (zA h22 (zA hgn @List.drop_zero.{0})))))) ?_
        refine ⟨⟨by omega,by omega,fun h=>h,r1⟩,?_⟩
        rw [hsn,q2]
        refine z2v 12 ?_
        have q4:∀o k n,o≠12→purge 12 (.osl 2 o k n)=.osl 2 o k n:=fun o k n h=>by simp [purge,DV.has,h]
        have q5:∀n,purge 12 (.int .i64 n)=.int .i64 n:=fun n=>by simp [purge,DV.has]
        repeat (first|refine z0d ?_|refine z0g ?_|refine z0p ?_|refine z0e ?_|refine And.intro (by omega) ?_|simp (maxSteps:=1000000) (disch:=omega) only [cA,cB,cN,FnD.nb,lk,lkH,Dst.onT,Dst.onX,Dst.slot,z03,z0K,z0M,z00,z0x,z02,unE,cnt,z0l,z0w,z0m,z0o,opE,rmH,z05,z0n,Nat.reduceEqDiff,Nat.reduceLT,Nat.reduceAdd,Nat.reduceMul,Nat.reduceMod,↓reduceIte,reduceCtorEq,Nat.reduceLeDiff,rmP,q3,q4,q5,e1])
        exact ⟨i+1,by omega,by omega,by simp [z0v,lk,purge,DV.has,hgl2],rfl⟩
  ·have dl:decide ((i:Int)<(m.tm.length:Int))=false:=zF9
   obtain rfl:i=m.tm.length:=by omega
   have hGr:=z7g (z3s S m cod m.tm.length)
   have hGn:=z2z (z3s S m cod m.tm.length)
   refine z0E 200 (cells:=gps (z3s S m cod m.tm.length)) rfl (List.all_eq_true.2 hGr) ?_
   have hfz:frz 200 (gps (z3s S m cod m.tm.length)) (.osl 2 200 0 (z3s S m cod m.tm.length).length)=.sl 2 (gps (z3s S m cod m.tm.length)):=by
    simp [frz,hGn]
    rw [List.take_of_length_le (by omega)]
   refine zS (zA dl hfz) ?_
   refine z0k rfl (fun h=>by cases h) (fun _=>z0q ?_)
   refine zR ?_
   exact z0j (z13 (.imm rfl) (.imm rfl))
structure DX (n:Nat) (S:List Kx) (m:Mdl):Prop where
 mv:z0c prog 76 [.agg (z0U m)] (.bool true)
 va:z0c prog 78 [.agg (z0U m)] (.sl 1 (z0D (z1U m)))
 vl:(z1U m).length≤1000
 rk:(z2u S m.rs).kd=1
 pk:∀t∈m.tm,∀f∈t,f.pw≠1→(z2u S f.nm).kd=1
 n64:n≤64
theorem y0a {n:Nat} {S:List Kx} {m:Mdl} {cod:Nat} (h:DKt n S m cod) (hx:DX n S m) :
  z0c prog 35 [.el (z3k n S m cod) 0] (.tup [.sl 1 (ints (z1z n S m)),.int .i64 0]):=by
 have c1:=z4Q n S h.ok
 rw [h.tv] at c1
 have c2:=hx.mv
 have c3:=hx.va
 have c4:=z8w n S (z1U m) h.ok h.tv (by have:=hx.vl;omega) h.vs (fun k hk=>(z4F h.tv hk).2.1) (by have:=hx.n64;omega)
 have hvr:m.rs∈z1U m:=List.mem_cons_self
 have c5:=z16 n S m cod m.rs h.ok h.tv (h.vs _ hvr)
 have hT:=y1Y m.tm
 have hl32:=h.tl.1
 have hk1:=hx.rk
 have hck:∀k,(DV.agg (kxC k)).cells? = some (kxC k):=fun _=>rfl
 have hk4:=z0L
 have hkg:∀k x,(kxC k).getD 1 x=.int .i64 k.kd:=fun _ _=>rfl
 have d1:decide ((cod:Int)<1)=false:=decide_eq_false (by have:=h.c4;omega)
 have d2:decide ((4:Int)<(cod:Int))=false:=decide_eq_false (by have:=h.c4;omega)
 refine z0b y03 (by simp [z6U]) ?_
 unfold z4l
 have hrm:ints (z1f (z2I S (z1U m)) n)=ints (z1z n S m):=rfl
 rw [hrm] at c4
 have hb:∀x,(z3k n S m cod).getD 5 x=.int .i64 cod:=fun _=>rfl
 have hb2:∀x,(z3k n S m cod).getD 2 x=.str m.rs:=fun _=>rfl
 have hb4:∀x,(z3k n S m cod).getD 4 x=.sl 1 (tmD m.tm):=fun _=>rfl
 have hb6:(z3k n S m cod).length=6:=rfl
 have ht2:(z3k n S m cod).take 2=[.int .i64 n,.sl 4 (kxs S)]:=rfl
 have ht3:((z3k n S m cod).drop 2).take 3=z0U m:=rfl
 generalize hB:z3k n S m cod=B at *
 refine zS (zA ht2 (zA ht3 (zA hb6 @List.drop_zero.{0}))) ?_
 refine cP c1 ?_
 refine zS (zA ht2 (zA ht3 (zA hb6 @List.drop_zero.{0}))) ?_
 refine cP c2 ?_
 refine zR ?_
 refine wFs ?_
 refine zS (zA hb (zA hb6 (zA d1 d2))) ?_
 refine wFs ?_
 refine zS (zA ht2 (zA ht3 (zA hb6 @List.drop_zero.{0}))) ?_
 refine cP c3 ?_
 refine zR ?_
 refine cP c4 ?_
 refine zR ?_
 refine wFs ?_
 refine zS (zA hb2 hb6) ?_
 refine cP c5 ?_
 refine zS (zA hck (zA hk4 (zA hkg hk1))) ?_
 refine wFs ?_
 refine zS (zA hb4 (zA hb6 hT)) ?_
 refine z0s (σ:=Nat) (fun i=>[(0,.el B 0),(4,.sl 1 (ints (z1z n S m))),(64,.sl 1 (tmD m.tm)),(65,.int .i64 m.tm.length),(66,.int .i64 i)]) (fun _=>[]) (fun i=>i≤m.tm.length) (fun i=>m.tm.length - i) 0 (Nat.zero_le _) ?_ rfl ?_
 ·simp [z0v,lk]
 ·intro i hi
  try simp only at hi ⊢
  by_cases hlt:i<m.tm.length
  ·have dl:decide ((i:Int)<(m.tm.length:Int))=true:=zT9
   have ei:(i:Int).toNat=i:=Int.toNat_natCast i
   have e1:((i:Int)+1)=((i+1:Nat):Int):=by omega
   have hgT:=y3m hlt .undef
   have ht:m.tm.getD i []∈m.tm:=w3R hlt
   generalize m.tm.getD i []=t at *
   obtain ⟨ht1,ht6⟩:=h.tl.2 t ht
   have hfcl:=z3j t
   have htl2:t.length*2 / 2=t.length:=by omega
   refine zS dl ?_
   refine wTs ?_
   refine z0d ?_
   refine z0e ?_
   refine zS (zA ei (zA hT (zA hgT (zA hfcl htl2)))) ?_
   refine z0s (σ:=Nat) (fun j=>[(0,.el B 0),(4,.sl 1 (ints (z1z n S m))),(64,.sl 1 (tmD m.tm)),(65,.int .i64 m.tm.length),(66,.int .i64 i),(70,.sl 2 (fcs t)),(71,.int .i64 t.length),(72,.int .i64 j)]) (fun _=>[]) (fun j=>j≤t.length) (fun j=>t.length - j) 0 (Nat.zero_le _) ?_ rfl ?_
   ·simp [z0v,lk]
   ·intro j hj
    try simp only at hj ⊢
    by_cases hlj:j<t.length
    ·have dj:decide ((j:Int)<(t.length:Int))=true:=zT9
     have ej:(j:Int).toNat=j:=Int.toNat_natCast j
     have ej1:((j:Int)+1)=((j+1:Nat):Int):=by omega
     have hftw:((fcs t).drop (j*2)).take 2=fcC (t.getD j default):=z1a (j:=0) z1H default hlj (Nat.le_refl _)
     have hfm:t.getD j default∈t:=z4a hlj
     generalize t.getD j default=f at *
     have hcf:(DV.agg (fcC f)).cells? = some (fcC f):=rfl
     have hf2:=z1H f
     have hs2:∀(a b:DV) (C:List DV),List.take 0 [a,b]++C++List.drop 2 [a,b]=C:=fun _ _ _=>by simp
     have hfg:∀x,(fcC f).getD 0 x=.str f.nm:=fun _=>rfl
     have hfg1:∀x,(fcC f).getD 1 x=.int .i64 f.pw:=fun _=>rfl
     refine zS dj ?_
     refine wTs ?_
     refine z0d ?_
     refine z0e ?_
     by_cases hp:f.pw=1
     ·have dp:decide (¬f.pw=1)=false:=zF9
      refine zS (zA ej (zA hfcl (zA hftw (zA hcf (zA hf2 (zA hs2 (zA hfg1 (zA dp @List.drop_zero.{0})))))))) ?_
      refine wFs ?_
      refine z2v 9 ?_
      repeat (first|refine z0d ?_|refine z0g ?_|refine z0p ?_|refine z0e ?_|refine And.intro (by omega) ?_|simp (maxSteps:=1000000) (disch:=omega) only [cA,cB,cN,FnD.nb,lk,lkH,Dst.onT,Dst.onX,Dst.slot,z03,z0K,z0M,z00,z0x,z02,unE,cnt,z0l,z0w,z0m,z0o,opE,rmH,z05,z0n,Nat.reduceEqDiff,Nat.reduceLT,Nat.reduceAdd,Nat.reduceMul,Nat.reduceMod,↓reduceIte,reduceCtorEq,Nat.reduceLeDiff,rmP])
      exact ⟨j+1,by omega,by omega,by simp [z0v,lk,purge,DV.has]⟩
     ·have dp:decide (¬f.pw=1)=true:=decide_eq_true hp
      have c6:=z16 n S m cod f.nm h.ok h.tv (h.vs _ (z48 ht hfm))
      rw [hB] at c6
      have hk:=hx.pk t ht f hfm hp
      refine zS (zA ej (zA hfcl (zA hftw (zA hcf (zA hf2 (zA hs2 (zA hfg1 (zA hfg (zA dp @List.drop_zero.{0}))))))))) ?_
      refine cP c6 ?_
      refine zS (zA hck (zA hk4 (zA hkg hk))) ?_
      refine wFs ?_
      refine z2v 9 ?_
      repeat (first|refine z0d ?_|refine z0g ?_|refine z0p ?_|refine z0e ?_|refine And.intro (by omega) ?_|simp (maxSteps:=1000000) (disch:=omega) only [cA,cB,cN,FnD.nb,lk,lkH,Dst.onT,Dst.onX,Dst.slot,z03,z0K,z0M,z00,z0x,z02,unE,cnt,z0l,z0w,z0m,z0o,opE,rmH,z05,z0n,Nat.reduceEqDiff,Nat.reduceLT,Nat.reduceAdd,Nat.reduceMul,Nat.reduceMod,↓reduceIte,reduceCtorEq,Nat.reduceLeDiff,rmP])
      exact ⟨j+1,by omega,by omega,by simp [z0v,lk,purge,DV.has]⟩
    ·have dj:decide ((j:Int)<(t.length:Int))=false:=zF9
     refine zS dj ?_
     refine z0k rfl (fun h=>by cases h) (fun _=>z0q ?_)
     refine zS e1 ?_
     exact ⟨i+1,by omega,by omega,by simp [z0v,lk]⟩
  ·have dl:decide ((i:Int)<(m.tm.length:Int))=false:=zF9
   refine zS dl ?_
   refine z0k rfl (fun h=>by cases h) (fun _=>z0q ?_)
   refine zR ?_
   exact z0j (z13 (.imm rfl) (.imm rfl))
theorem y5K {n:Nat} {S:List Kx} {m:Mdl} {cod:Int} (hok:okT S) (htv:y9D n S=true) (hmv:z0c prog 76 [.agg (z0U m)] (.bool true)) (hc:cod<1∨4<cod) :
  z0c prog 35 [.el (z3k n S m cod) 0] (.tup [.nils,.int .i64 1]):=by
 have c1:=z4Q n S hok
 rw [htv] at c1
 refine z0b y03 (by simp [z6U]) ?_
 unfold z4l
 have hb:∀x,(z3k n S m cod).getD 5 x=.int .i64 cod:=fun _=>rfl
 have hb6:(z3k n S m cod).length=6:=rfl
 have ht2:(z3k n S m cod).take 2=[.int .i64 n,.sl 4 (kxs S)]:=rfl
 have ht3:((z3k n S m cod).drop 2).take 3=z0U m:=rfl
 generalize hB:z3k n S m cod=B at *
 refine zS (zA ht2 (zA ht3 (zA hb6 @List.drop_zero.{0}))) ?_
 refine cP c1 ?_
 refine zS (zA ht2 (zA ht3 (zA hb6 @List.drop_zero.{0}))) ?_
 refine cP hmv ?_
 refine zR ?_
 refine wFs ?_
 by_cases h1:cod<1
 ·have d1:decide (cod<1)=true:=decide_eq_true h1
  refine zS (zA hb (zA hb6 d1)) ?_
  refine wT ?_
  refine zR ?_
  exact z0j (z13 (.imm rfl) (.imm rfl))
 ·have d1:decide (cod<1)=false:=decide_eq_false h1
  have d2:decide (4<cod)=true:=zT9
  refine zS (zA hb (zA hb6 (zA d1 d2))) ?_
  refine wT ?_
  refine zR ?_
  exact z0j (z13 (.imm rfl) (.imm rfl))
structure DE (n:Nat) (S:List Kx) (m:Mdl):Prop where
 tu:x2C n S=true
 wo:∀t∈m.tm,∀j:Nat,j<t.length→z0c prog 99 [.sl 2 (fcs t),.int .i64 j] (.sl 2 (fcs (t.eraseIdx j)))
 pe:∀t∈m.tm,∀j:Nat,j<t.length→z0c prog 98 [.agg (z0U m),.sl 2 (fcs (t.eraseIdx j))] (.bool (z99 m (t.filter fun x=>!decide (x=t.getD j default))))
 wv:z0c prog 93 [.agg (z0U m)] (.bool true)
 wa:z0c prog 41 [.agg (z0U m)] (.sl 1 (z0D (z1U m)))
 l2:∀k∈S,k.kd≠1→k.le.length=2∨k.le.length=3
theorem z9U {S:List Kx} {m:Mdl} {cod:Nat} {t:List Fac} {i:Nat}:∀{j:Nat},j≤t.length→i≤j→z6j S m cod t i≤z6j S m cod t j
 | 0,_,h=>by rw [Nat.le_zero.1 h];exact Nat.le_refl _
 | j+1,hj,h=>by
  by_cases e:i=j+1
  ·rw [e];exact Nat.le_refl _
  ·rw [z2K hj]
   have ih:=z9U (S:=S) (m:=m) (cod:=cod) (i:=i) (show j≤t.length by omega) (by omega)
   exact Nat.le_trans ih (Nat.le_mul_of_pos_right _ (by omega))
theorem y0g {n:Nat} {S:List Kx} {m:Mdl} {cod:Nat} (h:DKt n S m cod) (he:DE n S m) {t:List Fac} (ht:t∈m.tm) (hw:z6j S m cod t t.length≤12) :
  z0c prog 45 [.agg [.int .i64 n,.sl 4 (kxs S)],.agg (z0U m),.sl 2 (fcs t),.int .i64 cod] (.int .i64 (z6j S m cod t t.length)):=by
 have hca:(DV.agg [.int .i64 n,.sl 4 (kxs S)]).cells? = some [.int .i64 n,.sl 4 (kxs S)]:=rfl
 have hcm:(DV.agg (z0U m)).cells? = some (z0U m):=rfl
 have hm3:(z0U m).length=3:=rfl
 have hmt:(z0U m).take 3=z0U m:=rfl
 have hmr:∀d∈z0U m,d.rf=true:=List.all_eq_true.1 rfl
 have hlen:=z1B S
 have hfcl:=z3j t
 have htl2:t.length*2 / 2=t.length:=by omega
 have ht6:=(h.tl.2 t ht).2
 have hck:∀k,(DV.agg (kxC k)).cells? = some (kxC k):=fun _=>rfl
 have hk4:=z0L
 have hkg:∀k x,(kxC k).getD 1 x=.int .i64 k.kd:=fun _ _=>rfl
 have hkg2:∀k x,(kxC k).getD 2 x=.sl 1 (z0D k.le):=fun _ _=>rfl
 have hs4:∀(a b c d:DV) (C:List DV),List.take 0 [a,b,c,d]++C++List.drop 4 [a,b,c,d]=C:=fun _ _ _ _ _=>by simp
 have prw:∀o p k,p≠o→purge o (.ptr p k)=.ptr p k:=fun o p k h1=>by simp [purge,DV.has,h1]
 have psl:∀o z x,purge o (.sl z x)=.sl z x:=fun o z x=>by simp [purge,DV.has]
 have pin:∀o (z:Int),purge o (.int .i64 z)=.int .i64 z:=fun o z=>by simp [purge,DV.has]
 have pbo:∀o (z:Bool),purge o (.bool z)=.bool z:=fun o z=>by simp [purge,DV.has]
 have mpm:(z0U m).map (purge 12)=z0U m:=z0h 12 hmr
 refine z0b x0u (by simp [y1g]) ?_
 unfold z7J
 generalize hMM:z0U m=MM at *
 refine zS (zA hca (zA hcm @cS)) ?_
 refine z0s (σ:=Nat) (fun i=>[(2,.sl 2 (fcs t)),(3,.int .i64 cod),(4,.ptr 4 0),(5,.ptr 5 0),(9,.int .i64 (z6j S m cod t i)),(10,.bool false),(11,.int .i64 i)]) (fun _=>[(4,[.int .i64 n,.sl 4 (kxs S)]),(5,MM)]) (fun i=>i≤t.length) (fun i=>t.length - i) 0 (Nat.zero_le _) ?_ rfl ?_
 ·simp [z0v,lk,z6j]
 ·intro i hi
  try simp only at hi ⊢
  by_cases hlt:i<t.length
  ·have dl:decide ((i:Int)<(t.length:Int))=true:=zT9
   have ei:(i:Int).toNat=i:=Int.toNat_natCast i
   have e1:((i:Int)+1)=((i+1:Nat):Int):=by omega
   have hf0:(fcs t).getD (i*2) .undef=.str (t.getD i default).nm:=z8n (j:=0) z1H default hlt (by decide) .undef
   have hfm:t.getD i default∈t:=z4a hlt
   have cw:=he.wo t ht i hlt
   have cp:=he.pe t ht i hlt
   rw [hMM] at cp
   have hws:=z2K (S:=S) (m:=m) (cod:=cod) hlt
   have hwm:=z9U (S:=S) (m:=m) (cod:=cod) (t:=t) (i:=i+1) (Nat.le_refl _) hlt
   have hwm0:=z9U (S:=S) (m:=m) (cod:=cod) (t:=t) (i:=i) (Nat.le_refl _) hi
   have hvs:=h.vs _ (z48 ht hfm)
   have cf:=z1X n S (t.getD i default).nm h.ok he.tu
   have hbd:=z36 (t.getD i default).nm (z1g S)
   rw [z0Y] at hbd
   have hkm:=z3Y hvs
   obtain ⟨hkd,_,_,h32,_⟩:=z4F h.tv hkm
   have hl2:=he.l2 _ hkm
   have hlvk:=h.lv _ hkm
   have hfl:(z3r S m cod t (t.getD i default)).length=if (z2u S (t.getD i default).nm).kd=1 then 1 else ctC (x4i m cod t (t.getD i default)).toNat (z2u S (t.getD i default).nm).le.length:=by
    unfold z3r
    split
    ·rfl
    ·rw [List.length_map,z4G]
   rw [hfl] at hws
   clear hfl
   have hcod:x4i m cod t (t.getD i default)=if z99 m (t.filter fun x=>!decide (x=t.getD i default)) then (cod:Int) else 4:=rfl
   rw [hcod] at hws
   clear hcod
   generalize z99 m (t.filter fun x=>!decide (x=t.getD i default))=pr at *
   generalize t.getD i default=f at *
   obtain ⟨j,hj⟩:∃j:Nat,ixS (z1g S) f.nm=j:=⟨(ixS (z1g S) f.nm).toNat,by omega⟩
   rw [hj] at cf
   have ej:(j:Int).toNat=j:=Int.toNat_natCast j
   have hkw:((kxs S).drop (j*4)).take 4=kxC (z2u S f.nm):=by
    have h1:((kxs S).drop (j*4)).take 4=kxC (S.getD j default):=z1a (j:=0) z0L default (by omega) (Nat.le_refl _)
    rw [h1]
    unfold z2u
    rw [hj,Int.toNat_natCast]
   generalize z2u S f.nm=k at *
   have hkr:=z0h 12 (z12 k)
   have hll:=z0z k.le
   have hc4:=h.c4
   refine zS (zA hfcl (zA htl2 dl)) ?_
   refine wTs ?_
   refine z0d ?_
   refine z0e ?_
   refine z0d ?_
   refine z0p ?_
   refine zE (zA ei (zA hfcl (zA htl2 (zA hf0 @cS)))) ?_
   repeat refine ⟨by omega,?_⟩
   refine cP cf ?_
   refine zE (zA ej (zA hlen (zA hkw (zA hck (zA hk4 hs4))))) ?_
   repeat refine ⟨by omega,?_⟩
   refine zS (zA hkg hk4) ?_
   obtain ⟨nc,hnc⟩:∃nc:Nat,nc=if k.kd=1 then 1 else ctC (if pr=true then (cod:Int) else 4).toNat k.le.length:=⟨_,rfl⟩
   rw [←hnc] at hws
   have hcB:∀c n,n=2∨n=3→1≤ctC c n∧ctC c n≤3:=by
    intro c n h
    unfold ctC
    split<;>omega
   have hnc1:1≤nc∧nc≤3:=by
    rw [hnc]
    split
    ·omega
    ·rename_i h1
     exact hcB _ _ (hl2 h1)
   have hmu:((z6j S m cod t i:Nat):Int)*(nc:Int)=((z6j S m cod t (i+1):Nat):Int):=by
    rw [hws,show max 1 nc=nc by omega];exact (Int.natCast_mul _ _).symm
   have hmn:(if (13:Int)<((z6j S m cod t (i+1):Nat):Int) then (13:Int) else ((z6j S m cod t (i+1):Nat):Int))=((z6j S m cod t (i+1):Nat):Int):=by
    split<;>omega
   have dn0:decide ((nc:Int)=0)=false:=zF9
   refine z4c (ι:=Unit) (fun _=>True) (fun _=>[(2,.sl 2 (fcs t)),(3,.int .i64 cod),(4,.ptr 4 0),(5,.ptr 5 0),(9,.int .i64 (z6j S m cod t i)),(10,.bool false),(11,.int .i64 i),(13,.int .i64 nc)]) (fun _=>[(4,[.int .i64 n,.sl 4 (kxs S)]),(5,MM),(12,kxC k)]) ?_ ?_
   ·by_cases h1:k.kd=1
    ·have dk:decide (k.kd=2)=false:=zF9
     rw [if_pos h1] at hnc
     rw [dk,hnc]
     refine wFs ?_
     exact ⟨(),trivial,by simp [z0v,lk],rfl⟩
    ·have dk:decide (k.kd=2)=true:=zT9
     have hl23:=hl2 h1
     rw [if_neg h1] at hnc
     rw [dk]
     refine wT ?_
     by_cases h4:cod=4
     ·have d4:decide (¬(cod:Int)=4)=false:=zF9
      have hn4:(nc:Int)=(k.le.length:Int):=by
       rw [hnc,h4]
       have:(if pr=true then ((4:Nat):Int) else 4).toNat=4:=by split<;>rfl
       rw [this];rfl
      refine zS (zA hkg2 (zA hk4 (zA hll d4))) ?_
      refine wFs ?_
      exact ⟨(),by simp [z0v,lk,hn4]⟩
     ·have d4:decide (¬(cod:Int)=4)=true:=zT9
      have hmtk:MM.take 3=MM:=by rw [←hMM];rfl
      have hcm3:MM.length=3:=by rw [←hMM];rfl
      refine zS (zA hkg2 (zA hk4 (zA hll (zA d4 (zA ei (zA hcm3 (zA hmtk @List.drop_zero.{0}))))))) ?_
      refine cP cw ?_
      refine zR ?_
      refine z0C cp (by simp only [List.all_cons,DV.rf_agg,List.all_eq_true.2 hmr];rfl) ?_
      cases pr
      ·have hn4:(nc:Int)=(k.le.length:Int):=by rw [hnc];rfl
       refine zR ?_
       refine wFs ?_
       exact ⟨(),by simp [z0v,lk,hn4]⟩
      ·have hn4:(k.le.length:Int) - 1=(nc:Int):=by
        rw [hnc]
        have:(if true=true then (cod:Int) else 4).toNat=cod:=by rw [if_pos rfl,Int.toNat_natCast]
        rw [this]
        unfold ctC
        rw [if_neg h4];omega
       refine zR ?_
       refine wT ?_
       refine zS hn4 ?_
       exact ⟨(),by simp [z0v,lk]⟩
   rintro ⟨⟩ -
   refine z2v 12 ?_
   repeat (first|refine z0d ?_|refine z0g ?_|refine z0p ?_|refine z0e ?_|refine And.intro (by omega) ?_|simp (maxSteps:=1000000) (disch:=omega) only [cA,cB,cN,FnD.nb,lk,lkH,Dst.onT,Dst.onX,Dst.slot,z03,z0K,z0M,z00,z0x,z02,unE,cnt,z0l,z0w,z0m,z0o,opE,rmH,z05,z0n,Nat.reduceEqDiff,Nat.reduceLT,Nat.reduceAdd,Nat.reduceMul,Nat.reduceMod,↓reduceIte,reduceCtorEq,Nat.reduceLeDiff,dn0,hmu,hmn,rmP,prw,psl,pin,pbo,mpm,e1])
   exact ⟨i+1,by omega,by omega,by simp [z0v,lk]⟩
  ·have dl:decide ((i:Int)<(t.length:Int))=false:=zF9
   obtain rfl:i=t.length:=by omega
   refine zS (zA hfcl (zA htl2 dl)) ?_
   refine z0k rfl (fun h=>by cases h) (fun _=>z0q ?_)
   refine zR ?_
   refine wFs ?_
   refine zR ?_
   exact z0j (z0i (.imm rfl))
def acR (S:List Kx) (m:Mdl) (cod:Int) (t:List Fac) (R:List Nat) (k:Nat):List DV:=z25 (y9v S m cod t t.tail (t.getD 0 default) k) (R.map fun r=>x0o S m cod t t.tail (t.getD 0 default) k r)
theorem x1K {s:Bs}:∀{l:List Bs} {j:Nat},ixS l s=j→l.getD j []=s
 | [],j,h=>by simp only [ixS] at h;omega
 | x::l,j,h=>by
  simp only [ixS] at h
  split at h
  ·rename_i hx
   obtain rfl:j=0:=by omega
   exact hx
  ·split at h
   ·omega
   ·have hb:=z36 s l
    obtain ⟨i,hi⟩:∃i:Nat,ixS l s=i:=⟨(ixS l s).toNat,by omega⟩
    obtain rfl:j=i+1:=by omega
    show l.getD i []=s
    exact x1K hi
theorem w1j (R:List Nat) (f g:Nat→List Rat):prR (R.map f) (R.map g) R.length=R.map fun r=>z3x (f r) (g r):=by
 unfold prR
 refine List.ext_getElem? fun i=>?_
 rw [List.getElem?_map,List.getElem?_map]
 by_cases h:i<R.length
 ·rw [List.getElem?_range h,zO4 h]
  show some (z3x ((R.map f).getD i []) ((R.map g).getD i []))=some _
  rw [zO1,List.getElem?_map,zO4 h,zO1,List.getElem?_map,zO4 h];rfl
 ·rw [List.getElem?_eq_none (by simp;omega),List.getElem?_eq_none (by omega)];rfl
theorem y2j {R:List Nat} (f:Nat→List Rat) {i:Nat} (h:i<R.length):(R.map f).getD i []=f (R.getD i 0):=by
 rw [zO1,List.getElem?_map,zO4 h,zO1,zO4 h];rfl
theorem w1c {S:List Kx} {s:Bs} (h:0≤ixS (z1g S) s):(z2u S s).nm=s:=by
 have hbd:=z36 s (z1g S)
 rw [z0Y] at hbd
 obtain ⟨j,hj⟩:∃j:Nat,ixS (z1g S) s=j:=⟨(ixS (z1g S) s).toNat,by omega⟩
 have hg:=x1K (s:=s) (l:=z1g S) hj
 unfold z2u
 rw [hj,Int.toNat_natCast,←hg]
 rw [zO1,zO1]
 unfold z1g
 rw [List.getElem?_map]
 cases S[j]? <;> rfl
theorem w16 {R:List Nat} {j:Nat} (h:j<R.length):R.getD j 0∈R:=z5R h
theorem x44 {F:FnD} {c rest:DC} {Q:Ex→Fr→Hp→Prop} {fr:Fr} {H:Hp} {id:Nat} (fr':Fr) (H':Hp)
  (h1:W F c (fun e fr1 H1=>e=.norm∧z0v fr1 fr'∧H1=H') fr H) (h2:W F rest Q fr' H'):W F c (z05 id (w1w F rest Q)) fr H :=
 x7T h1 (by rintro e fr1 H1 ⟨rfl,hs,rfl⟩;exact x1g hs h2)
theorem y2q {n:Nat} {S:List Kx} {m:Mdl} {cod:Nat} (h:DKt n S m cod) (he:DE n S m) {t:List Fac} (ht:t∈m.tm) {R:List Nat} (hR:∀r∈R,w0I n S m r) (hRl:R.length≤64) (hn:n≤64) :
  z0c prog 46 [.agg [.int .i64 n,.sl 4 (kxs S)],.agg (z0U m),.sl 2 (fcs t),.int .i64 cod,.sl 1 (ints R)] (.agg (acR S m cod t R t.tail.length)):=by
 have hca:(DV.agg [.int .i64 n,.sl 4 (kxs S)]).cells? = some [.int .i64 n,.sl 4 (kxs S)]:=rfl
 have hcm:(DV.agg (z0U m)).cells? = some (z0U m):=rfl
 have hm3:(z0U m).length=3:=rfl
 have hmt:(z0U m).take 3=z0U m:=rfl
 have hmr:∀d∈z0U m,d.rf=true:=List.all_eq_true.1 rfl
 have hlen:=z1B S
 have hfcl:=z3j t
 have htl2:t.length*2 / 2=t.length:=by omega
 obtain ⟨ht1,ht6⟩:=h.tl.2 t ht
 have htc:=y2l ht1
 have h0m:t.getD 0 default∈t:=z4a (by omega)
 have hts:∀f∈t.tail,f∈t:=fun f hf=>List.mem_of_mem_tail hf
 have htll:t.tail.length+1=t.length:=by rw [List.length_tail];omega
 have hck:∀k,(DV.agg (kxC k)).cells? = some (kxC k):=fun _=>rfl
 have hk4:=z0L
 have hkt:∀k,(kxC k).take 4=kxC k:=fun _=>rfl
 have hkg:∀k x,(kxC k).getD 1 x=.int .i64 k.kd:=fun _ _=>rfl
 have hcf:∀f,(DV.agg (fcC f)).cells? = some (fcC f):=fun _=>rfl
 have hcb:∀x y,(DV.agg (z25 x y)).cells? = some (z25 x y):=fun _ _=>rfl
 have hb2:∀x y,(z25 x y).length=2:=fun _ _=>rfl
 have hbt:∀x y,(z25 x y).take 2=z25 x y:=fun _ _=>rfl
 have hbr:∀x y,∀d∈z25 x y,d.rf=true:=fun _ _=>List.all_eq_true.1 rfl
 have hl0:laid [DV.nils,.nils] []=some [.nils,.nils]:=rfl
 have hz2:∀(a b:DV) (C:List DV),List.take 0 [a,b]++C++List.drop 2 [a,b]=C:=fun _ _ _=>by simp
 have hs4:∀(a b c d:DV) (C:List DV),List.take 0 [a,b,c,d]++C++List.drop 4 [a,b,c,d]=C:=fun _ _ _ _ _=>by simp
 have hsb:∀x y (C:List DV),List.take 0 (z25 x y)++C++List.drop 2 (z25 x y)=C:=fun x y C=>by rw [List.drop_of_length_le (by rw [hb2];omega)];simp
 have prw:∀o p k,p≠o→purge o (.ptr p k)=.ptr p k:=fun o p k h1=>by simp [purge,DV.has,h1]
 have psl:∀o z x,purge o (.sl z x)=.sl z x:=fun o z x=>by simp [purge,DV.has]
 have pin:∀o (z:Int),purge o (.int .i64 z)=.int .i64 z:=fun o z=>by simp [purge,DV.has]
 have pbo:∀o (z:Bool),purge o (.bool z)=.bool z:=fun o z=>by simp [purge,DV.has]
 have pnl:∀o,purge o .nils=.nils:=fun o=>by simp [purge,DV.has]
 have mpm:∀o,(z0U m).map (purge o)=z0U m:=fun o=>z0h o hmr
 have mpb:∀o x y,(z25 x y).map (purge o)=z25 x y:=fun o x y=>z0h o (hbr x y)
 have mpk:∀o k,(kxC k).map (purge o)=kxC k:=fun o k=>z0h o (z12 k)
 obtain ⟨st,hst⟩:∃st:Nat→List DV,st=fun i=>if i=0 then [.nils,.nils] else acR S m cod t R (i - 1):=⟨_,rfl⟩
 have hst0:st 0=[.nils,.nils]:=by rw [hst];rfl
 have hstS:∀i,st (i+1)=acR S m cod t R i:=fun i=>by rw [hst];rfl
 have hst2:∀i (C:List DV),List.take 0 (st i)++C++List.drop 2 (st i)=C:=fun i C=>by
  cases i with
  | zero=>rw [hst0];simp
  | succ i=>rw [hstS];exact hsb _ _ _
 have hstl:∀i,(st i).length=2:=fun i=>by
  cases i with
  | zero=>rw [hst0];rfl
  | succ i=>rw [hstS];rfl
 have hstp:∀o i,(st i).map (purge o)=st i:=fun o i=>by
  cases i with
  | zero=>rw [hst0];simp [purge,DV.has]
  | succ i=>rw [hstS];exact mpb _ _ _
 refine z0b x1x (by simp [y49]) ?_
 unfold z9e
 generalize hMM:z0U m=MM at *
 refine zS (zA hca (zA hcm (zA hl0 (zA hz2 @cS)))) ?_
 refine z0s (σ:=Nat) (fun i=>[(2,.sl 2 (fcs t)),(3,.int .i64 cod),(4,.sl 1 (ints R)),(5,.ptr 5 0),(6,.ptr 6 0),(10,.ptr 10 0),(11,.ptr 11 0),(12,.int .i64 i)]) (fun i=>[(5,[.int .i64 n,.sl 4 (kxs S)]),(6,MM),(10,[.nils,.nils]),(11,st i)]) (fun i=>i≤t.length) (fun i=>t.length - i) 0 (Nat.zero_le _) ?_ ?_ ?_
 ·simp [z0v,lk]
 ·rw [hst0]
 ·intro i hi
  try simp only at hi ⊢
  by_cases hlt:i<t.length
  ·have dl:decide ((i:Int)<(t.length:Int))=true:=zT9
   have ei:(i:Int).toNat=i:=Int.toNat_natCast i
   have e1:((i:Int)+1)=((i+1:Nat):Int):=by omega
   have hf0:(fcs t).getD (i*2) .undef=.str (t.getD i default).nm:=z8n (j:=0) z1H default hlt (by decide) .undef
   have hftw:((fcs t).drop (i*2)).take 2=fcC (t.getD i default):=z1a (j:=0) z1H default hlt (Nat.le_refl _)
   have hfm:t.getD i default∈t:=z4a hlt
   have cw:=he.wo t ht i hlt
   have cp:=he.pe t ht i hlt
   rw [hMM] at cp
   have hvs:=h.vs _ (z48 ht hfm)
   have cf:=z1X n S (t.getD i default).nm h.ok he.tu
   have hbd:=z36 (t.getD i default).nm (z1g S)
   rw [z0Y] at hbd
   have hkm:=z3Y hvs
   have hknm:=w1c hvs
   obtain ⟨hkd,hkcl,hkfit,h32,_⟩:=z4F h.tv hkm
   have hl2:=he.l2 _ hkm
   have hnl:=h.nl _ hkm
   have hnu:=h.nu _ hkm
   have hpw:=h.pw t ht _ hfm
   have hRr:∀r∈R,r<(z2u S (t.getD i default).nm).ce.length:=fun r hr=>by rw [hkcl];exact (hR r hr).1
   have hRm:∀r∈R,y72 r (z2u S (t.getD i default).nm)=false:=fun r hr=>(hR r hr).2 _ (z48 ht hfm)
   have hRl2:R.length≤1000:=by omega
   have hkl:(z2u S (t.getD i default).nm).ce.length≤1000000:=by rw [hkcl];omega
   have htl3:∀k,k+1=i→t.tail.getD k default=t.getD i default:=by
    intro k hk
    rw [←hk,zO1,zO1,List.getElem?_tail]
   -- what the factor's block is
   obtain ⟨B,hB⟩:∃B,B=z25 (z3r S m cod t (t.getD i default)) (R.map fun r=>y1U S m cod t (t.getD i default) r):=⟨_,rfl⟩
   have hBl:B.length=2:=by rw [hB];exact hb2 _ _
   have hBt:B.take 2=B:=by rw [hB];exact hbt _ _
   have hBrf:∀d∈B,d.rf=true:=by rw [hB];exact hbr _ _
   have hBp:∀o,B.map (purge o)=B:=fun o=>z0h o hBrf
   have hBc:(DV.agg B).cells? = some B:=by rw [hB];rfl
   have hBz:∀C:List DV,List.take 0 B++C++List.drop 2 B=C:=by rw [hB];exact hsb _ _
   have cnum:(z2u S (t.getD i default).nm).kd=1→z0c prog 100 [.agg (kxC (z2u S (t.getD i default).nm)),.agg (fcC (t.getD i default)),.sl 1 (ints R)] (.agg B):=by
    intro h1
    have:=z9x (z2u S (t.getD i default).nm) (t.getD i default) R (fun r=>xnV ((z2u S (t.getD i default).nm).ce.getD r default).va) hpw (by have:=hnl.1;rw [hknm] at this;exact this) hRl2 (fun r hr=>⟨hRr r hr,hnu _ (z4a (hRr r hr))⟩) hkl
    rw [hB]
    unfold z3r y1U
    rw [if_pos h1,hknm]
    simp only [if_pos h1]
    exact this
   have ccat:(z2u S (t.getD i default).nm).kd≠1→∀c:Nat,x4i m cod t (t.getD i default)=c→z0c prog 101 [.agg (kxC (z2u S (t.getD i default).nm)),.int .i64 c,.sl 1 (ints R)] (.agg B):=by
    intro h1 c hc
    obtain ⟨c',hc',hc4⟩:=x2A (m:=m) h.c4 t (t.getD i default)
    obtain rfl:c'=c:=by omega
    have:=z60 (z2u S (t.getD i default).nm) c' R hc4 (hl2 h1) hnl.2 hnl.1 hRl2 (fun r hr=>⟨hRr r hr,x8d (hkfit _ (z4a (hRr r hr))) (hRm r hr) h1⟩) hkl
    rw [hB]
    unfold z3r y1U
    rw [if_neg h1,hc]
    simp only [if_neg h1,Int.toNat_natCast]
    exact this
   -- what the step leaves
   have hlast:(i=0→B=st (i+1))∧(i≠0→z0c prog 102 [.agg (st i),.agg B] (.agg (st (i+1)))):=by
    rw [hstS]
    refine ⟨fun h0=>?_,fun h0=>?_⟩
    ·subst h0;rw [hB];rfl
    ·obtain ⟨k,rfl⟩:∃k,i=k+1:=⟨i - 1,by omega⟩
     have hk1:k<t.tail.length:=by omega
     have hgk:=htl3 k rfl
     obtain ⟨a1,a2⟩:=z92 h ht h0m hts (k:=k) (by omega)
     obtain ⟨b1,b2⟩:=z5g h ht hfm
     have h3:∀k,k<5→3 ^ (k+1)≤243:=by decide
     have h3':=h3 k (by omega)
     have hnb:(z3r S m cod t (t.getD (k+1) default)).length*(y9v S m cod t t.tail (t.getD 0 default) k).length≤3*243:=Nat.mul_le_mul b1 (by omega)
     have cp:=z70 (y9v S m cod t t.tail (t.getD 0 default) k) (z3r S m cod t (t.getD (k+1) default)) (R.map fun r=>x0o S m cod t t.tail (t.getD 0 default) k r) (R.map fun r=>y1U S m cod t (t.getD (k+1) default) r) (w:=6000)
      (by rw [List.length_map,List.length_map]) (by rw [List.length_map];exact hRl2)
      (fun j hj=>by rw [List.length_map] at hj;rw [y2j _ hj];exact y2r t _ _ (by omega))
      (fun j hj=>by rw [List.length_map] at hj;rw [y2j _ hj];exact z4S S m cod t _ _)
      (by omega) (by omega)
      (fun s hs=>Nat.le_trans (a2 s hs) (by have:(k+1)*2000020≤6*2000020:=Nat.mul_le_mul_right _ (by omega);omega))
      (fun s hs=>Nat.le_trans (b2 s hs) (by decide))
      (fun j hj=>by rw [List.length_map] at hj;rw [y2j _ hj];intro x hx;exact (y21 h ht h0m hts (hR _ (w16 hj)).1 (by omega) x hx).mono (by have:(k+1)*900≤6*900:=Nat.mul_le_mul_right _ (by omega);omega))
      (fun j hj=>by rw [List.length_map] at hj;rw [y2j _ hj];intro x hx;exact (y2s h ht hfm (hR _ (w16 hj)).1 x hx).mono (by decide))
      (by decide)
     rw [List.length_map,w1j] at cp
     rw [hstS,hB]
     unfold acR
     rw [z4p _ _ hk1,hgk]
     have he:(R.map fun r=>x0o S m cod t t.tail (t.getD 0 default) (k+1) r)=R.map fun r=>z3x (x0o S m cod t t.tail (t.getD 0 default) k r) (y1U S m cod t (t.getD (k+1) default) r):=List.map_congr_left fun r _=>by rw [z59 _ _ _ hk1,hgk]
     rw [he]
     exact cp
   have hstt:∀i,(st i).take 2=st i:=fun i=>List.take_of_length_le (by rw [hstl];exact Nat.le_refl _)
   have hstc:∀i,(DV.agg (st i)).cells? = some (st i):=fun i=>by
    cases i with
    | zero=>rw [hst0];rfl
    | succ i=>rw [hstS];rfl
   have hstr:∀i,∀d∈st i,d.rf=true:=fun i=>by
    cases i with
    | zero=>rw [hst0];exact List.all_eq_true.1 rfl
    | succ i=>rw [hstS];exact hbr _ _
   have hcod:x4i m cod t (t.getD i default)=if z99 m (t.filter fun x=>!decide (x=t.getD i default)) then (cod:Int) else 4:=rfl
   rw [hcod] at ccat
   clear hcod hB hst0 hstS hst hpw hnu hnl hkfit hRm hRr htl3 hkl
   generalize z99 m (t.filter fun x=>!decide (x=t.getD i default))=pr at *
   generalize t.getD i default=f at *
   obtain ⟨j,hj⟩:∃j:Nat,ixS (z1g S) f.nm=j:=⟨(ixS (z1g S) f.nm).toNat,by omega⟩
   rw [hj] at cf
   have ej:(j:Int).toNat=j:=Int.toNat_natCast j
   have hkw:((kxs S).drop (j*4)).take 4=kxC (z2u S f.nm):=by
    have h1:((kxs S).drop (j*4)).take 4=kxC (S.getD j default):=z1a (j:=0) z0L default (by omega) (Nat.le_refl _)
    rw [h1]
    unfold z2u
    rw [hj,Int.toNat_natCast]
   generalize z2u S f.nm=k at *
   have hkr:=z0h 12 (z12 k)
   have hcm3:MM.length=3:=by rw [←hMM];rfl
   have hmtk:MM.take 3=MM:=by rw [←hMM];rfl
   refine zS (zA hfcl (zA htl2 dl)) ?_
   refine wTs ?_
   refine z0d ?_
   refine z0e ?_
   refine z0d ?_
   refine z0p ?_
   refine zE (zA ei (zA hfcl (zA htl2 (zA hf0 @cS)))) ?_
   repeat refine ⟨by omega,?_⟩
   refine cP cf ?_
   refine zE (zA ej (zA hlen (zA hkw (zA hck (zA hk4 hs4))))) ?_
   repeat refine ⟨by omega,?_⟩
   refine zS (zA hkg (zA hk4 (zA hl0 (zA hz2 @cS)))) ?_
   refine x44 ([(2,.sl 2 (fcs t)),(3,.int .i64 cod),(4,.sl 1 (ints R)),(5,.ptr 5 0),(6,.ptr 6 0),(10,.ptr 10 0),(11,.ptr 11 0),(12,.int .i64 i),(13,.ptr 13 0),(14,.ptr 14 0)]) ([(5,[.int .i64 n,.sl 4 (kxs S)]),(6,MM),(10,[.nils,.nils]),(11,st i),(13,kxC k),(14,B)]) ?_ ?_
   ·by_cases h1:k.kd=1
    ·have dk:decide (k.kd=1)=true:=decide_eq_true h1
     rw [dk]
     refine wT ?_
     refine zS (zA hk4 (zA hkt (zA hck (zA ei (zA hfcl (zA htl2 (zA hftw (zA hcf @List.drop_zero.{0})))))))) ?_
     refine cP (cnum h1) ?_
     refine zS (zA hBl (zA hBt (zA hBc hz2))) ?_
     simp [z0v,lk]
    ·have dk:decide (k.kd=1)=false:=decide_eq_false h1
     rw [dk]
     refine wF ?_
     refine zS (zA hcm3 (zA hmtk (zA @List.drop_zero.{0} ei))) ?_
     refine cP cw ?_
     refine zR ?_
     refine z0C cp (by simp only [List.all_cons,DV.rf_agg,List.all_eq_true.2 hmr];rfl) ?_
     cases pr
     ·refine zR ?_
      refine wF ?_
      refine zS (zA hk4 (zA hkt (zA hck @List.drop_zero.{0}))) ?_
      refine cP (ccat h1 4 rfl) ?_
      refine zS (zA hBl (zA hBt (zA hBc hz2))) ?_
      simp [z0v,lk]
     ·refine zR ?_
      refine wT ?_
      refine zS (zA hk4 (zA hkt (zA hck @List.drop_zero.{0}))) ?_
      refine cP (ccat h1 cod rfl) ?_
      refine zS (zA hBl (zA hBt (zA hBc hz2))) ?_
      simp [z0v,lk]
   ·have hrp:[DV.agg (st i),DV.agg B].all DV.rf=true:=by
     simp only [List.all_cons,List.all_nil,DV.rf_agg,List.all_eq_true.2 hBrf,List.all_eq_true.2 (hstr i)];rfl
    refine x44 ([(2,.sl 2 (fcs t)),(3,.int .i64 cod),(4,.sl 1 (ints R)),(5,.ptr 5 0),(6,.ptr 6 0),(10,.ptr 10 0),(11,.ptr 11 0),(12,.int .i64 i)]) ([(5,[.int .i64 n,.sl 4 (kxs S)]),(6,MM),(10,[.nils,.nils]),(11,st (i+1)),(13,kxC k),(14,B)]) ?_ ?_
    ·by_cases h0:i=0
     ·have d0:decide ((i:Int)=0)=true:=zT9
      have hB1:=hlast.1 h0
      refine zS d0 ?_
      refine wT ?_
      refine zS (zA hBl (zA hBt (zA hBc (zA hst2 (zA @List.drop_zero.{0} hstl))))) ?_
      simp [z0v,lk,hB1]
     ·have d0:decide ((i:Int)=0)=false:=zF9
      have cpr:=hlast.2 h0
      refine zS d0 ?_
      refine wF ?_
      refine zS (zA hBl (zA hBt (zA @List.drop_zero.{0} (zA hstl hstt)))) ?_
      refine z0C cpr hrp ?_
      refine zS (zA hstl (zA hstc hst2)) ?_
      simp [z0v,lk]
    ·refine z2v 13 ?_
     refine z2v 14 ?_
     repeat (first|refine z0d ?_|refine z0g ?_|refine z0p ?_|refine z0e ?_|refine And.intro (by omega) ?_|simp (maxSteps:=1000000) (disch:=omega) only [cA,cB,cN,FnD.nb,lk,lkH,Dst.onT,Dst.onX,Dst.slot,z03,z0K,z0M,z00,z0x,z02,unE,cnt,z0l,z0w,z0m,z0o,opE,rmH,z05,z0n,Nat.reduceEqDiff,Nat.reduceLT,Nat.reduceAdd,Nat.reduceMul,Nat.reduceMod,↓reduceIte,reduceCtorEq,Nat.reduceLeDiff,rmP,prw,psl,pin,pbo,mpm,e1,hstp,hBp,mpk])
     exact ⟨i+1,by omega,by omega,by simp [z0v,lk],rfl⟩
  ·have dl:decide ((i:Int)<(t.length:Int))=false:=zF9
   obtain rfl:i=t.length:=by omega
   have hend:st t.length=acR S m cod t R t.tail.length:=by rw [←htll];exact hstS _
   have hstc:∀i,(DV.agg (st i)).cells? = some (st i):=fun i=>by
    cases i with
    | zero=>rw [hst0];rfl
    | succ i=>rw [hstS];rfl
   have hstt:∀i,(st i).take 2=st i:=fun i=>List.take_of_length_le (by rw [hstl];exact Nat.le_refl _)
   rw [←hend]
   refine zS (zA hfcl (zA htl2 dl)) ?_
   refine z0k rfl (fun h=>by cases h) (fun _=>z0q ?_)
   refine zS (zA hstl (zA hstt (zA hstc (zA hz2 @List.drop_zero.{0})))) ?_
   exact z0j (z0Z rfl rfl (hstl _) (.imm (by rw [hend];rfl)))
theorem y0r {n:Nat} {S:List Kx} {m:Mdl} {cod:Nat} (h:DKt n S m cod) (hx:DX n S m) (he:DE n S m) :
  z0c prog 39 [.agg [.int .i64 n,.sl 4 (kxs S)],.agg (z0U m),.int .i64 cod] (.int .i64 0):=by
 have c1:=z28 n S h.ok
 rw [he.tu] at c1
 have c2:=he.wv
 have c3:=he.wa
 have hvl:=hx.vl
 have hll:=z0z (z1U m)
 have hca:(DV.agg [.int .i64 n,.sl 4 (kxs S)]).cells? = some [.int .i64 n,.sl 4 (kxs S)]:=rfl
 have hcm:(DV.agg (z0U m)).cells? = some (z0U m):=rfl
 have hm3:(z0U m).length=3:=rfl
 have hmt:(z0U m).take 3=z0U m:=rfl
 have hm0:∀x,(z0U m).getD 0 x=.str m.rs:=fun _=>rfl
 have hm2:∀x,(z0U m).getD 2 x=.sl 1 (tmD m.tm):=fun _=>rfl
 have hmr:∀d∈z0U m,d.rf=true:=List.all_eq_true.1 rfl
 have hlen:=z1B S
 have hT:=y1Y m.tm
 have hl32:=h.tl.1
 have hvr:m.rs∈z1U m:=List.mem_cons_self
 have c5:=z1X n S m.rs h.ok he.tu
 have hrs:=h.vs _ hvr
 have hk1:=hx.rk
 have hck:∀k,(DV.agg (kxC k)).cells? = some (kxC k):=fun _=>rfl
 have hk4:=z0L
 have hkg:∀k x,(kxC k).getD 1 x=.int .i64 k.kd:=fun _ _=>rfl
 have hkat:∀s,0≤ixS (z1g S) s→∃j:Nat,ixS (z1g S) s=j∧j<S.length∧(kxs S).getD (j*4+1) .undef=.int .i64 (z2u S s).kd:=by
  intro s hs
  have hbd:=z36 s (z1g S)
  rw [z0Y] at hbd
  obtain ⟨j,hj⟩:∃j:Nat,ixS (z1g S) s=j:=⟨(ixS (z1g S) s).toNat,by omega⟩
  refine ⟨j,hj,by omega,?_⟩
  have h1:(kxs S).getD (j*4+1) .undef=(kxC (S.getD j default)).getD 1 .undef:=z8n (j:=1) z0L default (by omega) (by decide) .undef
  rw [h1,hkg]
  unfold z2u
  rw [hj,Int.toNat_natCast]
 have d1:decide ((cod:Int)<1)=false:=decide_eq_false (by have:=h.c4;omega)
 have d2:decide ((4:Int)<(cod:Int))=false:=decide_eq_false (by have:=h.c4;omega)
 have mpm:∀o,(z0U m).map (purge o)=z0U m:=fun o=>z0h o hmr
 have prw:∀o p k,p≠o→purge o (.ptr p k)=.ptr p k:=fun o p k h1=>by simp [purge,DV.has,h1]
 have psl:∀o z x,purge o (.sl z x)=.sl z x:=fun o z x=>by simp [purge,DV.has]
 have pin:∀o (z:Int),purge o (.int .i64 z)=.int .i64 z:=fun o z=>by simp [purge,DV.has]
 have pbo:∀o (z:Bool),purge o (.bool z)=.bool z:=fun o z=>by simp [purge,DV.has]
 refine z0b y1j (by simp [z6F]) ?_
 unfold z4t
 generalize hMM:z0U m=MM at *
 refine zS (zA hca (zA hcm @cS)) ?_
 refine cP c1 ?_
 refine zS (zA hm3 (zA hmt @List.drop_zero.{0})) ?_
 refine z0C c2 (by simp only [List.all_cons,DV.rf_agg,List.all_eq_true.2 hmr];rfl) ?_
 refine zR ?_
 refine wFs ?_
 refine zS (zA d1 d2) ?_
 refine wFs ?_
 refine zS (zA hm3 (zA hmt @List.drop_zero.{0})) ?_
 refine z0C c3 (by simp only [List.all_cons,DV.rf_agg,List.all_eq_true.2 hmr];rfl) ?_
 refine zR ?_
 refine z0s (σ:=Nat) (fun i=>[(2,.int .i64 cod),(3,.ptr 3 0),(4,.ptr 4 0),(7,.sl 1 (z0D (z1U m))),(8,.int .i64 i)]) (fun _=>[(3,[.int .i64 n,.sl 4 (kxs S)]),(4,MM)]) (fun i=>i≤(z1U m).length) (fun i=>(z1U m).length - i) 0 (Nat.zero_le _) ?_ rfl ?_
 ·simp [z0v,lk]
 ·intro i hi
  try simp only at hi ⊢
  by_cases hlt:i<(z1U m).length
  ·have dl:decide ((i:Int)<((z1U m).length:Int))=true:=zT9
   have ei:(i:Int).toNat=i:=Int.toNat_natCast i
   have e1:((i:Int)+1)=((i+1:Nat):Int):=by omega
   have hg:=z0Q hlt
   have hs0:=h.vs _ (z1e hlt)
   have cf:=z1X n S ((z1U m).getD i []) h.ok he.tu
   generalize (z1U m).getD i []=s at *
   have d0:decide (ixS (z1g S) s<0)=false:=zF9
   refine zS (zA hll dl) ?_
   refine wTs ?_
   refine z0d ?_
   refine z0e ?_
   refine z0d ?_
   refine z0p ?_
   refine zE (zA ei (zA hll hg)) ?_
   repeat refine ⟨by omega,?_⟩
   refine cP cf ?_
   refine zS d0 ?_
   refine wFs ?_
   refine zS e1 ?_
   exact ⟨i+1,by omega,by omega,by simp [z0v,lk]⟩
  ·have dl:decide ((i:Int)<((z1U m).length:Int))=false:=zF9
   refine zS (zA hll dl) ?_
   refine z0k rfl (fun h=>by cases h) (fun _=>z0q ?_)
   obtain ⟨j,hj,hjl,hjk⟩:=hkat _ hrs
   rw [hj] at c5
   have ej:(j:Int).toNat=j:=Int.toNat_natCast j
   refine z0d ?_
   refine z0d ?_
   refine z0p ?_
   refine zE (zA hm3 hm0) ?_
   repeat refine ⟨by omega,?_⟩
   refine cP c5 ?_
   refine zS (zA ej (zA hlen (zA hjk hk1))) ?_
   refine wFs ?_
   refine zR ?_
   refine z0s (σ:=Nat) (fun i=>[(3,.ptr 3 0),(4,.ptr 4 0),(9,.int .i64 i)]) (fun _=>[(3,[.int .i64 n,.sl 4 (kxs S)]),(4,MM)]) (fun i=>i≤m.tm.length) (fun i=>m.tm.length - i) 0 (Nat.zero_le _) ?_ rfl ?_
   ·simp [z0v,lk]
   ·intro i hi
    try simp only at hi ⊢
    by_cases hlt:i<m.tm.length
    ·have dl:decide ((i:Int)<(m.tm.length:Int))=true:=zT9
     have ei:(i:Int).toNat=i:=Int.toNat_natCast i
     have e1:((i:Int)+1)=((i+1:Nat):Int):=by omega
     have hgT:=y3m hlt .undef
     have ht:m.tm.getD i []∈m.tm:=w3R hlt
     generalize m.tm.getD i []=t at *
     obtain ⟨ht1,ht6⟩:=h.tl.2 t ht
     have hfcl:=z3j t
     have htl2:t.length*2 / 2=t.length:=by omega
     refine zS (zA hm3 (zA hm2 (zA hT dl))) ?_
     refine wTs ?_
     refine z0d ?_
     refine z0e ?_
     refine zR ?_
     refine z0s (σ:=Nat) (fun j=>[(3,.ptr 3 0),(4,.ptr 4 0),(9,.int .i64 i),(10,.int .i64 j)]) (fun _=>[(3,[.int .i64 n,.sl 4 (kxs S)]),(4,MM)]) (fun j=>j≤t.length) (fun j=>t.length - j) 0 (Nat.zero_le _) ?_ rfl ?_
     ·simp [z0v,lk]
     ·intro j hj
      try simp only at hj ⊢
      by_cases hlj:j<t.length
      ·have dj:decide ((j:Int)<(t.length:Int))=true:=zT9
       have ej:(j:Int).toNat=j:=Int.toNat_natCast j
       have ej1:((j:Int)+1)=((j+1:Nat):Int):=by omega
       have hftw:((fcs t).drop (j*2)).take 2=fcC (t.getD j default):=z1a (j:=0) z1H default hlj (Nat.le_refl _)
       have hfm:t.getD j default∈t:=z4a hlj
       generalize t.getD j default=f at *
       have hcf:(DV.agg (fcC f)).cells? = some (fcC f):=rfl
       have hf2:=z1H f
       have hs2:∀(a b:DV) (C:List DV),List.take 0 [a,b]++C++List.drop 2 [a,b]=C:=fun _ _ _=>by simp
       have hfg:∀x,(fcC f).getD 0 x=.str f.nm:=fun _=>rfl
       have hfg1:∀x,(fcC f).getD 1 x=.int .i64 f.pw:=fun _=>rfl
       have hfr:=z0h 11 (y80 f)
       refine zS (zA hm3 (zA hm2 (zA hT (zA ei (zA hgT (zA hfcl (zA htl2 dj))))))) ?_
       refine wTs ?_
       refine z0d ?_
       refine z0e ?_
       by_cases hp:f.pw=1
       ·have dp:decide (¬f.pw=1)=false:=zF9
        refine zS (zA hm3 (zA hm2 (zA hT (zA ei (zA hgT (zA ej (zA hfcl (zA htl2 (zA hftw (zA hcf (zA hf2 (zA hs2 (zA hfg1 (zA dp (zA @List.drop_zero.{0} @cS))))))))))))))) ?_
        refine wFs ?_
        refine z2v 11 ?_
        repeat (first|refine z0d ?_|refine z0g ?_|refine z0p ?_|refine z0e ?_|refine And.intro (by omega) ?_|simp (maxSteps:=1000000) (disch:=omega) only [cA,cB,cN,FnD.nb,lk,lkH,Dst.onT,Dst.onX,Dst.slot,z03,z0K,z0M,z00,z0x,z02,unE,cnt,z0l,z0w,z0m,z0o,opE,rmH,z05,z0n,Nat.reduceEqDiff,Nat.reduceLT,Nat.reduceAdd,Nat.reduceMul,Nat.reduceMod,↓reduceIte,reduceCtorEq,Nat.reduceLeDiff,rmP,prw,psl,pin,pbo,mpm,ej1])
        exact ⟨j+1,by omega,by omega,by simp [z0v,lk]⟩
       ·have dp:decide (¬f.pw=1)=true:=decide_eq_true hp
        have c6:=z1X n S f.nm h.ok he.tu
        obtain ⟨p,hpj,hpl,hpk⟩:=hkat _ (h.vs _ (z48 ht hfm))
        rw [hpj] at c6
        have ep:(p:Int).toNat=p:=Int.toNat_natCast p
        have hk:=hx.pk t ht f hfm hp
        rw [hk] at hpk
        refine zS (zA hm3 (zA hm2 (zA hT (zA ei (zA hgT (zA ej (zA hfcl (zA htl2 (zA hftw (zA hcf (zA hf2 (zA hs2 (zA hfg1 (zA hfg (zA dp (zA @List.drop_zero.{0} @cS)))))))))))))))) ?_
        refine cP c6 ?_
        refine zS (zA ep (zA hlen hpk)) ?_
        refine wFs ?_
        refine z2v 11 ?_
        repeat (first|refine z0d ?_|refine z0g ?_|refine z0p ?_|refine z0e ?_|refine And.intro (by omega) ?_|simp (maxSteps:=1000000) (disch:=omega) only [cA,cB,cN,FnD.nb,lk,lkH,Dst.onT,Dst.onX,Dst.slot,z03,z0K,z0M,z00,z0x,z02,unE,cnt,z0l,z0w,z0m,z0o,opE,rmH,z05,z0n,Nat.reduceEqDiff,Nat.reduceLT,Nat.reduceAdd,Nat.reduceMul,Nat.reduceMod,↓reduceIte,reduceCtorEq,Nat.reduceLeDiff,rmP,prw,psl,pin,pbo,mpm,ej1])
        exact ⟨j+1,by omega,by omega,by simp [z0v,lk]⟩
      ·have dj:decide ((j:Int)<(t.length:Int))=false:=zF9
       refine zS (zA hm3 (zA hm2 (zA hT (zA ei (zA hgT (zA hfcl (zA htl2 dj))))))) ?_
       refine z0k rfl (fun h=>by cases h) (fun _=>z0q ?_)
       refine zS e1 ?_
       exact ⟨i+1,by omega,by omega,by simp [z0v,lk]⟩
    ·have dl:decide ((i:Int)<(m.tm.length:Int))=false:=zF9
     refine zS (zA hm3 (zA hm2 (zA hT dl))) ?_
     refine z0k rfl (fun h=>by cases h) (fun _=>z0q ?_)
     refine zR ?_
     exact z0j (z0i (.imm rfl))
theorem y5N {n:Nat} {S:List Kx} {m:Mdl} {cod:Int} (hok:okT S) (htu:x2C n S=true) (hmv:z0c prog 93 [.agg (z0U m)] (.bool true)) (hc:cod<1∨4<cod) :
  z0c prog 39 [.agg [.int .i64 n,.sl 4 (kxs S)],.agg (z0U m),.int .i64 cod] (.int .i64 1):=by
 have c1:=z28 n S hok
 rw [htu] at c1
 have hca:(DV.agg [.int .i64 n,.sl 4 (kxs S)]).cells? = some [.int .i64 n,.sl 4 (kxs S)]:=rfl
 have hcm:(DV.agg (z0U m)).cells? = some (z0U m):=rfl
 have hm3:(z0U m).length=3:=rfl
 have hmt:(z0U m).take 3=z0U m:=rfl
 have hmr:∀d∈z0U m,d.rf=true:=List.all_eq_true.1 rfl
 refine z0b y1j (by simp [z6F]) ?_
 unfold z4t
 generalize hMM:z0U m=MM at *
 refine zS (zA hca (zA hcm @cS)) ?_
 refine cP c1 ?_
 refine zS (zA hm3 (zA hmt @List.drop_zero.{0})) ?_
 refine z0C hmv (by simp only [List.all_cons,DV.rf_agg,List.all_eq_true.2 hmr];rfl) ?_
 refine zR ?_
 refine wFs ?_
 by_cases h1:cod<1
 ·have d1:decide (cod<1)=true:=decide_eq_true h1
  refine zS d1 ?_
  refine wT ?_
  refine zR ?_
  exact z0j (z0i (.imm rfl))
 ·have d1:decide (cod<1)=false:=decide_eq_false h1
  have d2:decide (4<cod)=true:=zT9
  refine zS (zA d1 d2) ?_
  refine wT ?_
  refine zR ?_
  exact z0j (z0i (.imm rfl))
noncomputable def w5P:DC:=match z26 with
 | .seq _ (.seq _ (.seq _ (.seq _ (.seq _ (.seq _ (.seq _ (.seq _ (.seq _ (.seq c _)))))))))=>c
 | _=>.skip
noncomputable def x5W:DT:=match w5P with
 | .seq _ (.block _ (.loop (.seq _ (.seq _ (.seq (.block _ (.seq _ (.seq _ (.seq _ (.rego (.alt .no t)))))) _)))))=>t
 | _=>.no
def hlR (N RW:DV) (Z C X Y:List DV) (D V:List DV) (i:Nat) (B:List Nat):Hp :=
 [(6,Z),(12,[N,if 18∈B then .osl 1 202 0 (i+1) else if 4∈B then .undef else .osl 1 202 0 i,if 20∈B then .osl 3 203 0 (i+1) else if 16∈B then .undef else .osl 3 203 0 i,RW]),(15,C),(202,if 4∈B then X++[.sl 3 D] else X),(203,if 16∈B then Y++V else Y)]
theorem x2U:∃ty1 ty2,x5W.iops=[ot 105 (.fad 1 (.x 12)),ot 106 (.ld (.t 105)),om 107 18,ot 108 (.bsl 1 [.nils] [(0,1,.t 107)]),ot 109 (.app ty1 1 24 (.t 106) (.t 108)),ot 110 (.fad 2 (.x 12)),ot 111 (.ld (.t 110)),ot 112 (.fad 3 (.x 15)),ot 113 (.ld (.t 112)),om 114 17,ot 115 (.iad 5 (.t 113) (.t 114)),ot 116 (.fad 1 (.t 115)),ot 117 (.ldn 3 (.t 116)),ot 118 (.build [.bool false,.nils,.nils] []),ot 119 (.call 38 [.t 117,.t 118]),ot 120 (.bsl 3 [.bool false,.nils,.nils] [(0,3,.t 119)]),ot 121 (.app ty2 3 56 (.t 111) (.t 120)),ot 122 (.fad 1 (.x 12)),on (.st (.t 122) (.t 109)),ot 123 (.fad 2 (.x 12)),on (.st (.t 123) (.t 121))]:=⟨_,_,rfl⟩
noncomputable def okR (B:List Nat) (i:Nat):Bool:=okI x5W.ideps [4,16,18,20] B i
theorem w26:∀B∈z9I [4,16,18,20],(okR B 1=true→4∉B∧18∉B)∧(okR B 4=true→B=[])∧(okR B 6=true→16∉B∧20∉B)∧(okR B 16=true→B=[4])∧(okR B 18=true→B=[4,16])∧(okR B 20=true→B=[4,16,18]):=by
 decide +kernel
theorem w21:∀B∈z9I [4,16,18,20],∀i,i<21→i∉[4,16,18,20]→y8u [4,16,18,20] B i=B:=by decide +kernel
theorem w3U:∀s,s∈[105,106,107,108,109,110,111,112,113,114,115,116,117,118,119,120,121,122,123]→∃(k:Nat) (z:DOper),x5W.iops[k]? = some z∧z.dst.slot=some s:=by
 obtain ⟨ty1,ty2,h⟩:=x2U
 rw [h]
 intro s hs
 simp only [List.mem_cons,List.not_mem_nil,or_false] at hs
 rcases hs with rfl|rfl|rfl|rfl|rfl|rfl|rfl|rfl|rfl|rfl|rfl|rfl|rfl|rfl|rfl|rfl|rfl|rfl|rfl
 ·exact ⟨0,_,rfl,rfl⟩
 ·exact ⟨1,_,rfl,rfl⟩
 ·exact ⟨2,_,rfl,rfl⟩
 ·exact ⟨3,_,rfl,rfl⟩
 ·exact ⟨4,_,rfl,rfl⟩
 ·exact ⟨5,_,rfl,rfl⟩
 ·exact ⟨6,_,rfl,rfl⟩
 ·exact ⟨7,_,rfl,rfl⟩
 ·exact ⟨8,_,rfl,rfl⟩
 ·exact ⟨9,_,rfl,rfl⟩
 ·exact ⟨10,_,rfl,rfl⟩
 ·exact ⟨11,_,rfl,rfl⟩
 ·exact ⟨12,_,rfl,rfl⟩
 ·exact ⟨13,_,rfl,rfl⟩
 ·exact ⟨14,_,rfl,rfl⟩
 ·exact ⟨15,_,rfl,rfl⟩
 ·exact ⟨16,_,rfl,rfl⟩
 ·exact ⟨17,_,rfl,rfl⟩
 ·exact ⟨19,_,rfl,rfl⟩
theorem x39:(∀q,y6s x5W.iops 106 q→q=4)∧∀q,y6s x5W.iops 111 q→q=16:=by
 obtain ⟨ty1,ty2,h⟩:=x2U
 rw [h]
 refine ⟨?_,?_⟩<;>rintro q ⟨y,hy,hs⟩<;>have hq:=(List.getElem?_eq_some_iff.1 hy).1<;>simp only [List.length_cons,List.length_nil] at hq <;>
  obtain rfl|rfl|rfl|rfl|rfl|rfl|rfl|rfl|rfl|rfl|rfl|rfl|rfl|rfl|rfl|rfl|rfl|rfl|rfl|rfl|rfl:q=0∨q=1∨q=2∨q=3∨q=4∨q=5∨q=6∨q=7∨q=8∨q=9∨q=10∨q=11∨q=12∨q=13∨q=14∨q=15∨q=16∨q=17∨q=18∨q=19∨q=20:=(by omega)<;>first
  | rfl
  | (exfalso;cases hy;revert hs;simp [DOp.opds,Opd.slot];done)
theorem x62:∀(l:Fr) (s:Nat),lk l s=.undef∨(s,lk l s)∈l
 | [],s=>.inl rfl
 | (k,d)::l,s=>by
  simp only [lk]
  split
  ·rename_i h;subst h;exact .inr List.mem_cons_self
  ·rcases x62 l s with h|h
   ·exact .inl h
   ·exact .inr (List.mem_cons_of_mem _ h)
theorem x4P {fr:Fr} {o:Nat} (h:∀e∈fr,e.2.has o=false) (s:Nat):(lk fr s).has o=false:=by
 rcases x62 fr s with e|e
 ·rw [e];rfl
 ·exact h _ e
set_option maxRecDepth 100000 in
theorem w10 {i r:Nat} {v:Rat} {D X Y C ce Z:List DV} {N RW:DV} {fr:Fr} {Q:Ex→Fr→Hp→Prop}
  (h12:lk fr 12=.ptr 12 0) (h15:lk fr 15=.ptr 15 0) (h17:lk fr 17=.int .i64 r) (h18:lk fr 18=.sl 3 D)
  (hC:C.length=4) (hC3:∀x,C.getD 3 x=.sl 5 ce) (hce:(ce.drop (r*5+1)).take 3=z0V v) (hrl:r*5+5≤ce.length) (hX:X.length=i) (hY:Y.length=i*3) (hi:i≤1000)
  (hXr:∀d∈X,d.rf=true) (hYr:∀d∈Y,d.rf=true) (hCr:∀d∈C,d.rf=true) (hZr:∀d∈Z,d.rf=true) (hN:N.rf=true) (hRW:RW.rf=true)
  (hadd:z0c prog 38 [.agg (z0V v),.agg [.bool false,.nils,.nils]] (.agg (z0V v)))
  (hfr:∀s,z1L.vs.contains s=true→(lk fr s).has 202=false∧(lk fr s).has 203=false)
  (hQ:Q .norm fr (hlR N RW Z C X Y D (z0V v) i [4,16,18,20])) :
  W z1L (.rego (.alt .no x5W)) Q fr (hlR N RW Z C X Y D (z0V v) i []):=by
 have ht0:x5W.iops.length=21:=by kernel_rfl
 refine x2O [(105,.ptr 12 1),(106,.osl 1 202 0 i),(107,.sl 3 D),(108,.sl 1 [.sl 3 D]),(109,.osl 1 202 0 (i+1)),(110,.ptr 12 2),(111,.osl 3 203 0 i),(112,.ptr 15 3),(113,.sl 5 ce),(114,.int .i64 r),(115,.el ce (r*5)),(116,.el ce (r*5+1)),(117,.agg (z0V v)),(118,.agg [.bool false,.nils,.nils]),(119,.agg (z0V v)),(120,.sl 3 (z0V v)),(121,.osl 3 203 0 (i+1)),(122,.ptr 12 1),(123,.ptr 12 2)]
  fr [4,16,18,20] (hlR N RW Z C X Y D (z0V v) i) (by rw [ht0];decide) rfl ?_ ?_ hQ (by decide)
 ·intro s hs
  have key:∀k,k∈[105,106,107,108,109,110,111,112,113,114,115,116,117,118,119,120,121,122,123]→s≠k:=by
   intro k hk e
   subst e
   obtain ⟨j,z,h1,h2⟩:=w3U s hk
   exact hs j ⟨z,h1,h2⟩
  simp only [den]
  split
  ·rfl
  ·simp only [lk]
   simp only [List.mem_cons,List.not_mem_nil,or_false,forall_eq_or_imp,forall_eq] at key
   obtain ⟨k1,k2,k3,k4,k5,k6,k7,k8,k9,k10,k11,k12,k13,k14,k15,k16,k17,k18,k19⟩:=key
   rw [if_neg (Ne.symm k1),if_neg (Ne.symm k2),if_neg (Ne.symm k3),if_neg (Ne.symm k4),if_neg (Ne.symm k5),if_neg (Ne.symm k6),if_neg (Ne.symm k7),if_neg (Ne.symm k8),if_neg (Ne.symm k9),if_neg (Ne.symm k10),if_neg (Ne.symm k11),if_neg (Ne.symm k12),if_neg (Ne.symm k13),if_neg (Ne.symm k14),if_neg (Ne.symm k15),if_neg (Ne.symm k16),if_neg (Ne.symm k17),if_neg (Ne.symm k18),if_neg (Ne.symm k19)]
 ·intro B hB j x hx ht hk
  obtain ⟨ty1,ty2,hops⟩:=x2U
  have hj:j<21:=by
   have:=(List.getElem?_eq_some_iff.1 hx).1
   rw [ht0] at this;exact this
  obtain ⟨d1,d4,d6,d16,d18,d20⟩:=w26 B hB
  have hadI:=w21 B hB j hj
  generalize hT:den z1L.vs _ fr=T
  have t12:T 12=.ptr 12 0:=by rw [←hT];exact h12
  have t15:T 15=.ptr 15 0:=by rw [←hT];exact h15
  have t17:T 17=.int .i64 r:=by rw [←hT];exact h17
  have t18:T 18=.sl 3 D:=by rw [←hT];exact h18
  have t105:T 105=.ptr 12 1:=by rw [←hT];rfl
  have t106:T 106=.osl 1 202 0 i:=by rw [←hT];rfl
  have t107:T 107=.sl 3 D:=by rw [←hT];rfl
  have t108:T 108=.sl 1 [.sl 3 D]:=by rw [←hT];rfl
  have t109:T 109=.osl 1 202 0 (i+1):=by rw [←hT];rfl
  have t110:T 110=.ptr 12 2:=by rw [←hT];rfl
  have t111:T 111=.osl 3 203 0 i:=by rw [←hT];rfl
  have t112:T 112=.ptr 15 3:=by rw [←hT];rfl
  have t113:T 113=.sl 5 ce:=by rw [←hT];rfl
  have t114:T 114=.int .i64 r:=by rw [←hT];rfl
  have t115:T 115=.el ce (r*5):=by rw [←hT];rfl
  have t116:T 116=.el ce (r*5+1):=by rw [←hT];rfl
  have t117:T 117=.agg (z0V v):=by rw [←hT];rfl
  have t118:T 118=.agg [.bool false,.nils,.nils]:=by rw [←hT];rfl
  have t119:T 119=.agg (z0V v):=by rw [←hT];rfl
  have t120:T 120=.sl 3 (z0V v):=by rw [←hT];rfl
  have t121:T 121=.osl 3 203 0 (i+1):=by rw [←hT];rfl
  have t122:T 122=.ptr 12 1:=by rw [←hT];rfl
  have t123:T 123=.ptr 12 2:=by rw [←hT];rfl
  have nq:∀{x:DOper} {d:DV},goD z1L x T (lkH (hlR N RW Z C X Y D (z0V v) i B)) d .no→(∀s,x.dst.slot=some s→d=T s)→j∉[4,16,18,20] →
    x4F z1L x5W.iops x5W.ideps (fun s=>z1L.vs.contains s=true) T (lkH (hlR N RW Z C X Y D (z0V v) i B)) (lkH (hlR N RW Z C X Y D (z0V v) i (y8u [4,16,18,20] B j))) j x :=
   fun h1 h2 h3=>⟨_,.no,.inl h1,h2,by rw [hadI h3];rfl,fun o c h=>by cases h⟩
  have l12:∀p,(lkH (hlR N RW Z C X Y D (z0V v) i B) 12)=some p↔[N,if 18∈B then DV.osl 1 202 0 (i+1) else if 4∈B then .undef else .osl 1 202 0 i,if 20∈B then .osl 3 203 0 (i+1) else if 16∈B then .undef else .osl 3 203 0 i,RW]=p:=fun p=>by simp [hlR,lkH]
  have e12:lkH (hlR N RW Z C X Y D (z0V v) i B) 12=some [N,if 18∈B then DV.osl 1 202 0 (i+1) else if 4∈B then .undef else .osl 1 202 0 i,if 20∈B then .osl 3 203 0 (i+1) else if 16∈B then .undef else .osl 3 203 0 i,RW]:=rfl
  have e15:lkH (hlR N RW Z C X Y D (z0V v) i B) 15=some C:=rfl
  have er:(r:Int).toNat=r:=Int.toNat_natCast r
  have e3:C[3]'(by omega)=DV.sl 5 ce:=by
   have:=hC3 .undef
   rw [zO1,zO4 (by omega)] at this
   exact this
  have tT:∀s o,(T s).has o=true→(o=202∨o=203)→(o=202∧(s=106∨s=109))∨(o=203∧(s=111∨s=121)):=by
   intro s o h1 h2
   rw [←hT] at h1
   simp only [den] at h1
   split at h1
   ·rename_i hv
    obtain ⟨g1,g2⟩:=hfr s hv
    rcases h2 with rfl|rfl
    ·rw [g1] at h1;cases h1
    ·rw [g2] at h1;cases h1
   ·rcases x62 _ s with e|hm
    ·rw [e] at h1;cases h1
    ·have hn:=z21 o (.agg (z0V v)) (by rw [DV.rf_agg];exact List.all_eq_true.2 (z1W v))
     have hp:∀p k,(DV.ptr p k).has o=true→p=o:=fun p k h=>by simpa [DV.has] using h
     have hq:∀z p k q,(DV.osl z p k q).has o=true→p=o:=fun z p k q h=>by simpa [DV.has] using h
     simp only [List.mem_cons,Prod.mk.injEq,List.not_mem_nil,or_false] at hm
     rcases hm with ⟨rfl,e⟩|⟨rfl,e⟩|⟨rfl,e⟩|⟨rfl,e⟩|⟨rfl,e⟩|⟨rfl,e⟩|⟨rfl,e⟩|⟨rfl,e⟩|⟨rfl,e⟩|⟨rfl,e⟩|⟨rfl,e⟩|⟨rfl,e⟩|⟨rfl,e⟩|⟨rfl,e⟩|⟨rfl,e⟩|⟨rfl,e⟩|⟨rfl,e⟩|⟨rfl,e⟩|⟨rfl,e⟩<;>rw [e] at h1 <;>
      first
      | (rw [hn] at h1;cases h1;done)
      | (have:=hp _ _ h1;omega)
      | (have:=hq _ _ _ _ h1;omega)
      | (cases h1;done)
      | (simp [DV.has,DV.hasL] at h1;done)
  rw [hops] at hx
  clear l12
  obtain rfl|rfl|rfl|rfl|rfl|rfl|rfl|rfl|rfl|rfl|rfl|rfl|rfl|rfl|rfl|rfl|rfl|rfl|rfl|rfl|rfl:j=0∨j=1∨j=2∨j=3∨j=4∨j=5∨j=6∨j=7∨j=8∨j=9∨j=10∨j=11∨j=12∨j=13∨j=14∨j=15∨j=16∨j=17∨j=18∨j=19∨j=20:=by omega
  ·cases hx
   refine nq (d:=T 105) ?_ (fun s hs=>by cases hs;rfl) (by decide)
   simp [goD,opE,evS,t12,t105,e12]
  ·cases hx
   refine nq (d:=T 106) ?_ (fun s hs=>by cases hs;rfl) (by decide)
   obtain ⟨g1,g2⟩:=d1 hk
   simp [goD,opE,evS,t105,t106,e12,g1,g2,gd]
  ·cases hx
   refine nq (d:=T 107) ?_ (fun s hs=>by cases hs;rfl) (by decide)
   simp [goD,opE,evS,t18,t107]
  ·cases hx
   refine nq (d:=T 108) ?_ (fun s hs=>by cases hs;rfl) (by decide)
   simp [goD,opE,evS,t107,t108,laid,DV.cells?,DV.one,spl,gd,DV.rf]
  ·cases hx
   have hb:=d4 hk
   subst hb
   refine ⟨.osl 1 202 0 (i+1),.app 202 ((X++[DV.sl 3 D]).map (purge 202)),.inl ?_,fun s hs=>by cases hs;exact t109.symm,?_,?_⟩
   ·simp [goD,opE,evS,t106,t108,hlR,lkH,z0w,gd,hX]
    exact ⟨⟨by omega,by omega,rfl⟩,rfl⟩
   ·have m1:=z0h 202 hXr
    have m2:=z0h 202 hYr
    have m3:=z0h 202 hZr
    have m4:=z0h 202 hCr
    have m5:=z1S 202 hN
    have m6:=z1S 202 hRW
    have m7:(X++[DV.sl 3 D]).map (purge 202)=X++[DV.sl 3 D]:=by rw [List.map_append,m1];simp [purge,DV.has]
    have e4:y8u [4,16,18,20] [] 4=[4]:=rfl
    rw [e4,m7]
    funext p
    by_cases h1:p=202
    ·subst h1;rfl
    ·by_cases h2:p=12
     ·subst h2
      show some [purge 202 N,.undef,.osl 3 203 0 i,purge 202 RW]=some [N,.undef,.osl 3 203 0 i,RW]
      rw [m5,m6]
     ·by_cases h3:p=6
      ·subst h3;show some (Z.map (purge 202))=some Z;rw [m3]
      ·by_cases h4:p=15
       ·subst h4;show some (C.map (purge 202))=some C;rw [m4]
       ·by_cases h5:p=203
        ·subst h5;show some (Y.map (purge 202))=some Y;rw [m2]
        ·simp only [Eff.onH,Heap.upd,Heap.purge,hlR,lkH,if_neg h1,if_neg (Ne.symm h1),if_neg (Ne.symm h2),if_neg (Ne.symm h3),if_neg (Ne.symm h4),if_neg (Ne.symm h5)];rfl
   ·intro o c he s hs hk2 hs2
    cases he
    cases hh:(T s).has 202 with
    | false=>rfl
    | true =>
     rcases tT s 202 hh (.inl rfl) with ⟨_,rfl|rfl⟩|⟨h,_⟩
     ·exfalso
      rcases hs2 with h|⟨q,q1,q2,y,hy,hys⟩
      ·revert h;decide
      ·exact q1 (x39.1 q ⟨y,hy,hys⟩)
     ·exact absurd rfl hs
     ·cases h
  ·cases hx
   refine nq (d:=T 110) ?_ (fun s hs=>by cases hs;rfl) (by decide)
   simp [goD,opE,evS,t12,t110,e12]
  ·cases hx
   refine nq (d:=T 111) ?_ (fun s hs=>by cases hs;rfl) (by decide)
   obtain ⟨g1,g2⟩:=d6 hk
   simp [goD,opE,evS,t110,t111,e12,g1,g2,gd]
  ·cases hx
   refine nq (d:=T 112) ?_ (fun s hs=>by cases hs;rfl) (by decide)
   simp [goD,opE,evS,t15,t112,e15,hC]
  ·cases hx
   refine nq (d:=T 113) ?_ (fun s hs=>by cases hs;rfl) (by decide)
   simp [goD,opE,evS,t112,t113,e15,gd,hC]
   exact e3
  ·cases hx
   refine nq (d:=T 114) ?_ (fun s hs=>by cases hs;rfl) (by decide)
   simp [goD,opE,evS,t17,t114]
  ·cases hx
   refine nq (d:=T 115) ?_ (fun s hs=>by cases hs;rfl) (by decide)
   simp [goD,opE,evS,t113,t114,t115,gd,er];omega
  ·cases hx
   refine nq (d:=T 116) ?_ (fun s hs=>by cases hs;rfl) (by decide)
   simp [goD,opE,evS,t115,t116]
  ·cases hx
   refine nq (d:=T 117) ?_ (fun s hs=>by cases hs;rfl) (by decide)
   simp [goD,opE,evS,t116,t117,gd,hce];omega
  ·cases hx
   refine nq (d:=T 118) ?_ (fun s hs=>by cases hs;rfl) (by decide)
   simp [goD,opE,evS,t118,laid]
  ·cases hx
   refine nq (d:=T 119) ?_ (fun s hs=>by cases hs;rfl) (by decide)
   simp only [goD,List.map_cons,List.map_nil,evS,t117,t118,t119]
   exact ⟨hadd,rfl,trivial⟩
  ·cases hx
   refine nq (d:=T 120) ?_ (fun s hs=>by cases hs;rfl) (by decide)
   have hl:laid [DV.bool false,.nils,.nils] [(0,3,.agg (z0V v))]=some (z0V v):=rfl
   simp [goD,opE,evS,t119,t120,gd,hl]
   exact z1W v
  ·cases hx
   have hb:=d16 hk
   subst hb
   refine ⟨.osl 3 203 0 (i+1),.app 203 ((Y++z0V v).map (purge 203)),.inl ?_,fun s hs=>by cases hs;exact t121.symm,?_,?_⟩
   ·have hn3:=z1o v
    simp [goD,opE,evS,t111,t120,hlR,lkH,z0w,gd,hY,hn3]
    exact ⟨⟨by omega,by omega,z4K v⟩,by simp [cnt,hn3]⟩
   ·have m0:(X++[DV.sl 3 D]).map (purge 203)=X++[DV.sl 3 D]:=by rw [List.map_append,z0h 203 hXr];simp [purge,DV.has]
    have m3:=z0h 203 hZr
    have m4:=z0h 203 hCr
    have m5:=z1S 203 hN
    have m6:=z1S 203 hRW
    have m7:(Y++z0V v).map (purge 203)=Y++z0V v:=by rw [List.map_append,z0h 203 hYr,z0h 203 (z1W v)]
    have e4:y8u [4,16,18,20] [4] 16=[4,16]:=rfl
    rw [e4,m7]
    funext p
    by_cases h1:p=203
    ·subst h1;rfl
    ·by_cases h2:p=12
     ·subst h2
      show some [purge 203 N,.undef,.undef,purge 203 RW]=some [N,.undef,.undef,RW]
      rw [m5,m6]
     ·by_cases h3:p=6
      ·subst h3;show some (Z.map (purge 203))=some Z;rw [m3]
      ·by_cases h4:p=15
       ·subst h4;show some (C.map (purge 203))=some C;rw [m4]
       ·by_cases h5:p=202
        ·subst h5;show some ((X++[DV.sl 3 D]).map (purge 203))=some (X++[DV.sl 3 D]);rw [m0]
        ·simp only [Eff.onH,Heap.upd,Heap.purge,hlR,lkH,if_neg h1,if_neg (Ne.symm h1),if_neg (Ne.symm h2),if_neg (Ne.symm h3),if_neg (Ne.symm h4),if_neg (Ne.symm h5)];rfl
   ·intro o c he s hs hk2 hs2
    cases he
    cases hh:(T s).has 203 with
    | false=>rfl
    | true =>
     rcases tT s 203 hh (.inr rfl) with ⟨h,_⟩|⟨_,rfl|rfl⟩
     ·cases h
     ·exfalso
      rcases hs2 with h|⟨q,q1,q2,y,hy,hys⟩
      ·revert h;decide
      ·exact q1 (x39.2 q ⟨y,hy,hys⟩)
     ·exact absurd rfl hs
  ·cases hx
   refine nq (d:=T 122) ?_ (fun s hs=>by cases hs;rfl) (by decide)
   simp [goD,opE,evS,t12,t122,e12]
  ·cases hx
   have hb:=d18 hk
   subst hb
   refine ⟨.tup [],.set 12 [N,.osl 1 202 0 (i+1),.undef,RW],.inl ?_,fun s hs=>(by cases hs),?_,fun o c h=>(by cases h)⟩
   ·simp [goD,opE,evS,t122,t109,hlR,lkH,gd,DV.one]
   ·have e4:y8u [4,16,18,20] [4,16] 18=[4,16,18]:=rfl
    rw [e4]
    funext p
    by_cases h1:p=12
    ·subst h1;rfl
    ·by_cases h2:p=6
     ·subst h2;rfl
     ·by_cases h3:p=15
      ·subst h3;rfl
      ·by_cases h4:p=202
       ·subst h4;rfl
       ·by_cases h5:p=203
        ·subst h5;rfl
        ·simp only [Eff.onH,Heap.upd,hlR,lkH,if_neg h1,if_neg (Ne.symm h1),if_neg (Ne.symm h2),if_neg (Ne.symm h3),if_neg (Ne.symm h4),if_neg (Ne.symm h5)]
  ·cases hx
   refine nq (d:=T 123) ?_ (fun s hs=>by cases hs;rfl) (by decide)
   simp [goD,opE,evS,t12,t123,e12]
  ·cases hx
   have hb:=d20 hk
   subst hb
   refine ⟨.tup [],.set 12 [N,.osl 1 202 0 (i+1),.osl 3 203 0 (i+1),RW],.inl ?_,fun s hs=>(by cases hs),?_,fun o c h=>(by cases h)⟩
   ·simp [goD,opE,evS,t123,t121,hlR,lkH,gd,DV.one]
   ·have e4:y8u [4,16,18,20] [4,16,18] 20=[4,16,18,20]:=rfl
    rw [e4]
    funext p
    by_cases h1:p=12
    ·subst h1;rfl
    ·by_cases h2:p=6
     ·subst h2;rfl
     ·by_cases h3:p=15
      ·subst h3;rfl
      ·by_cases h4:p=202
       ·subst h4;rfl
       ·by_cases h5:p=203
        ·subst h5;rfl
        ·simp only [Eff.onH,Heap.upd,hlR,lkH,if_neg h1,if_neg (Ne.symm h1),if_neg (Ne.symm h2),if_neg (Ne.symm h3),if_neg (Ne.symm h4),if_neg (Ne.symm h5)]
noncomputable def w5Q:DC:=match z3c with
 | .seq _ (.seq _ (.seq _ (.seq _ (.seq _ (.seq _ (.seq _ (.seq _ (.seq _ (.seq c _)))))))))=>c
 | _=>.skip
noncomputable def x6K:DT:=match w5Q with
 | .seq _ (.block _ (.loop (.seq _ (.seq (.block _ (.seq _ (.seq _ (.seq _ (.seq _ (.seq _ (.seq _ (.block _ (.loop (.seq _ (.seq (.block _ (.rego (.alt .no t))) _))))))))))) _))))=>t
 | _=>.no
theorem x1I:∃ty,x6K.iops=[ot 134 (.fad 1 (.x 11)),ot 135 (.ld (.t 134)),om 136 17,ot 137 (.fad 1 (.x 11)),ot 138 (.ld (.t 137)),om 139 17,ot 140 (.iad 1 (.t 138) (.t 139)),ot 141 (.ld (.t 140)),ot 142 (.fad 1 (.x 16)),ot 143 (.ld (.t 142)),om 144 17,ot 145 (.iad 1 (.t 143) (.t 144)),ot 146 (.ld (.t 145)),ot 147 (.app ty 3 56 (.t 141) (.t 146)),ot 148 (.iad 1 (.t 135) (.t 136)),on (.st (.t 148) (.t 147))]:=⟨_,rfl⟩
noncomputable def okE (B:List Nat) (i:Nat):Bool:=okI x6K.ideps [13,15] B i
theorem w3y:∀B∈z9I [13,15],(okE B 7=true→13∉B∧15∉B)∧(okE B 13=true→B=[])∧(okE B 15=true→B=[13]):=by
 decide +kernel
theorem w1E:∀B∈z9I [13,15],∀i,i<16→i∉[13,15]→y8u [13,15] B i=B:=by decide +kernel
theorem w2m:∀s,s∈[134,135,136,137,138,139,140,141,142,143,144,145,146,147,148]→∃(k:Nat) (z:DOper),x6K.iops[k]? = some z∧z.dst.slot=some s:=by
 obtain ⟨ty,h⟩:=x1I
 rw [h]
 intro s hs
 simp only [List.mem_cons,List.not_mem_nil,or_false] at hs
 rcases hs with rfl|rfl|rfl|rfl|rfl|rfl|rfl|rfl|rfl|rfl|rfl|rfl|rfl|rfl|rfl
 ·exact ⟨0,_,rfl,rfl⟩
 ·exact ⟨1,_,rfl,rfl⟩
 ·exact ⟨2,_,rfl,rfl⟩
 ·exact ⟨3,_,rfl,rfl⟩
 ·exact ⟨4,_,rfl,rfl⟩
 ·exact ⟨5,_,rfl,rfl⟩
 ·exact ⟨6,_,rfl,rfl⟩
 ·exact ⟨7,_,rfl,rfl⟩
 ·exact ⟨8,_,rfl,rfl⟩
 ·exact ⟨9,_,rfl,rfl⟩
 ·exact ⟨10,_,rfl,rfl⟩
 ·exact ⟨11,_,rfl,rfl⟩
 ·exact ⟨12,_,rfl,rfl⟩
 ·exact ⟨13,_,rfl,rfl⟩
 ·exact ⟨14,_,rfl,rfl⟩
theorem w1k:∀q,y6s x6K.iops 141 q→q=13:=by
 obtain ⟨ty,h⟩:=x1I
 rw [h]
 rintro q ⟨y,hy,hs⟩
 have hq:=(List.getElem?_eq_some_iff.1 hy).1
 simp only [List.length_cons,List.length_nil] at hq
 obtain rfl|rfl|rfl|rfl|rfl|rfl|rfl|rfl|rfl|rfl|rfl|rfl|rfl|rfl|rfl|rfl:q=0∨q=1∨q=2∨q=3∨q=4∨q=5∨q=6∨q=7∨q=8∨q=9∨q=10∨q=11∨q=12∨q=13∨q=14∨q=15:=(by omega)<;>first
  | rfl
  | (exfalso;cases hy;revert hs;simp [DOp.opds,Opd.slot];done)
def hlE (H0:Hp) (i l k:Nat) (row new X:List DV) (B:List Nat):Hp :=
 z0K (z0K H0 (1000+i) (if 13∈B then row++new else row)) 44 (X.set i (if 15∈B then .osl 3 (1000+i) 0 (l+k) else if 13∈B then .undef else .osl 3 (1000+i) 0 l))
set_option maxRecDepth 100000 in
theorem x98 {i l k:Nat} {row new X br:List DV} {N Yv RW nm:DV} {fr:Fr} {H0:Hp} {Q:Ex→Fr→Hp→Prop}
  (h11:lk fr 11=.ptr 11 0) (h16:lk fr 16=.ptr 16 0) (h17:lk fr 17=.int .i64 i)
  (g11:lkH H0 11=some [N,.osl 1 44 0 X.length,Yv,RW]) (g16:lkH H0 16=some [nm,.sl 1 br]) (g44:lkH H0 44=some X) (grow:lkH H0 (1000+i)=some row)
  (hib:i<br.length) (hbr:br.getD i .undef=.sl 3 new) (hiX:i<X.length) (hi:i<1000) (hXi:X.getD i .undef=.osl 3 (1000+i) 0 l)
  (hrl:row.length=l*3) (hnl:new.length=k*3) (hl:l≤1000000) (hk:k≤1000000) (hone:∀d∈new,d.one=true) (hnr:∀d∈new,d.rf=true) (hrr:∀d∈row,d.rf=true)
  (hp:∀q cs,q≠44→lkH H0 q=some cs→cs.map (purge (1000+i))=cs) (hpX:∀j,j≠i→purge (1000+i) (X.getD j .undef)=X.getD j .undef)
  (hfr:∀s,z1i.vs.contains s=true→(lk fr s).has (1000+i)=false)
  (hQ:Q .norm fr (hlE H0 i l k row new X [13,15])) :
  W z1i (.rego (.alt .no x6K)) Q fr H0:=by
 have ht0:x6K.iops.length=16:=by kernel_rfl
 have hset:X.set i (.osl 3 (1000+i) 0 l)=X:=by
  refine List.ext_getElem? fun j=>?_
  rw [List.getElem?_set]
  split
  ·rename_i e
   subst e
   rw [←hXi,zO1,zO4 hiX];rfl
  ·rfl
 have hlk:∀B q,lkH (hlE H0 i l k row new X B) q=if q=44 then some (X.set i (if 15∈B then .osl 3 (1000+i) 0 (l+k) else if 13∈B then .undef else .osl 3 (1000+i) 0 l)) else if q=1000+i then some (if 13∈B then row++new else row) else lkH H0 q:=by
  intro B q
  unfold hlE
  rw [z08,z08]
 refine x2O [(134,.ptr 11 1),(135,.osl 1 44 0 X.length),(136,.int .i64 i),(137,.ptr 11 1),(138,.osl 1 44 0 X.length),(139,.int .i64 i),(140,.ptr 44 i),(141,.osl 3 (1000+i) 0 l),(142,.ptr 16 1),(143,.sl 1 br),(144,.int .i64 i),(145,.el br i),(146,.sl 3 new),(147,.osl 3 (1000+i) 0 (l+k)),(148,.ptr 44 i)]
  fr [13,15] (hlE H0 i l k row new X) (by rw [ht0];decide) ?_ ?_ ?_ hQ (by decide)
 ·funext q
  rw [hlk]
  simp only [List.not_mem_nil,if_false]
  rw [hset]
  split
  ·rename_i e;rw [e,g44]
  ·split
   ·rename_i e;rw [e,grow]
   ·rfl
 ·intro s hs
  have key:∀k,k∈[134,135,136,137,138,139,140,141,142,143,144,145,146,147,148]→s≠k:=by
   intro k hk e
   subst e
   obtain ⟨j,z,h1,h2⟩:=w2m s hk
   exact hs j ⟨z,h1,h2⟩
  simp only [den]
  split
  ·rfl
  ·simp only [lk]
   simp only [List.mem_cons,List.not_mem_nil,or_false,forall_eq_or_imp,forall_eq] at key
   obtain ⟨k1,k2,k3,k4,k5,k6,k7,k8,k9,k10,k11,k12,k13,k14,k15⟩:=key
   rw [if_neg (Ne.symm k1),if_neg (Ne.symm k2),if_neg (Ne.symm k3),if_neg (Ne.symm k4),if_neg (Ne.symm k5),if_neg (Ne.symm k6),if_neg (Ne.symm k7),if_neg (Ne.symm k8),if_neg (Ne.symm k9),if_neg (Ne.symm k10),if_neg (Ne.symm k11),if_neg (Ne.symm k12),if_neg (Ne.symm k13),if_neg (Ne.symm k14),if_neg (Ne.symm k15)]
 ·intro B hB j x hx ht hk2
  obtain ⟨ty,hops⟩:=x1I
  have hj:j<16:=by
   have:=(List.getElem?_eq_some_iff.1 hx).1
   rw [ht0] at this;exact this
  obtain ⟨d7,d13,d15⟩:=w3y B hB
  have hadI:=w1E B hB j hj
  generalize hT:den z1i.vs _ fr=T
  have t11:T 11=.ptr 11 0:=by rw [←hT];exact h11
  have t16:T 16=.ptr 16 0:=by rw [←hT];exact h16
  have t17:T 17=.int .i64 i:=by rw [←hT];exact h17
  have t134:T 134=.ptr 11 1:=by rw [←hT];rfl
  have t135:T 135=.osl 1 44 0 X.length:=by rw [←hT];rfl
  have t136:T 136=.int .i64 i:=by rw [←hT];rfl
  have t137:T 137=.ptr 11 1:=by rw [←hT];rfl
  have t138:T 138=.osl 1 44 0 X.length:=by rw [←hT];rfl
  have t139:T 139=.int .i64 i:=by rw [←hT];rfl
  have t140:T 140=.ptr 44 i:=by rw [←hT];rfl
  have t141:T 141=.osl 3 (1000+i) 0 l:=by rw [←hT];rfl
  have t142:T 142=.ptr 16 1:=by rw [←hT];rfl
  have t143:T 143=.sl 1 br:=by rw [←hT];rfl
  have t144:T 144=.int .i64 i:=by rw [←hT];rfl
  have t145:T 145=.el br i:=by rw [←hT];rfl
  have t146:T 146=.sl 3 new:=by rw [←hT];rfl
  have t147:T 147=.osl 3 (1000+i) 0 (l+k):=by rw [←hT];rfl
  have t148:T 148=.ptr 44 i:=by rw [←hT];rfl
  have nq:∀{x:DOper} {d:DV},goD z1i x T (lkH (hlE H0 i l k row new X B)) d .no→(∀s,x.dst.slot=some s→d=T s)→j∉[13,15] →
    x4F z1i x6K.iops x6K.ideps (fun s=>z1i.vs.contains s=true) T (lkH (hlE H0 i l k row new X B)) (lkH (hlE H0 i l k row new X (y8u [13,15] B j))) j x :=
   fun h1 h2 h3=>⟨_,.no,.inl h1,h2,by rw [hadI h3];rfl,fun o c h=>by cases h⟩
  have ei:(i:Int).toNat=i:=Int.toNat_natCast i
  have e11:∀B,lkH (hlE H0 i l k row new X B) 11=some [N,.osl 1 44 0 X.length,Yv,RW]:=fun B=>by rw [hlk,if_neg (by decide),if_neg (by omega),g11]
  have e16:∀B,lkH (hlE H0 i l k row new X B) 16=some [nm,.sl 1 br]:=fun B=>by rw [hlk,if_neg (by decide),if_neg (by omega),g16]
  have e44:∀B,lkH (hlE H0 i l k row new X B) 44=some (X.set i (if 15∈B then .osl 3 (1000+i) 0 (l+k) else if 13∈B then .undef else .osl 3 (1000+i) 0 l)):=fun B=>by rw [hlk,if_pos rfl]
  have er:∀B,lkH (hlE H0 i l k row new X B) (1000+i)=some (if 13∈B then row++new else row):=fun B=>by rw [hlk,if_neg (by omega),if_pos rfl]
  rw [hops] at hx
  obtain rfl|rfl|rfl|rfl|rfl|rfl|rfl|rfl|rfl|rfl|rfl|rfl|rfl|rfl|rfl|rfl:j=0∨j=1∨j=2∨j=3∨j=4∨j=5∨j=6∨j=7∨j=8∨j=9∨j=10∨j=11∨j=12∨j=13∨j=14∨j=15:=by omega
  ·cases hx
   refine nq (d:=T 134) ?_ (fun s hs=>by cases hs;rfl) (by decide)
   simp [goD,opE,evS,t11,t134,e11]
  ·cases hx
   refine nq (d:=T 135) ?_ (fun s hs=>by cases hs;rfl) (by decide)
   simp [goD,opE,evS,t134,t135,e11,gd]
  ·cases hx
   refine nq (d:=T 136) ?_ (fun s hs=>by cases hs;rfl) (by decide)
   simp [goD,opE,evS,t17,t136]
  ·cases hx
   refine nq (d:=T 137) ?_ (fun s hs=>by cases hs;rfl) (by decide)
   simp [goD,opE,evS,t11,t137,e11]
  ·cases hx
   refine nq (d:=T 138) ?_ (fun s hs=>by cases hs;rfl) (by decide)
   simp [goD,opE,evS,t137,t138,e11,gd]
  ·cases hx
   refine nq (d:=T 139) ?_ (fun s hs=>by cases hs;rfl) (by decide)
   simp [goD,opE,evS,t17,t139]
  ·cases hx
   refine nq (d:=T 140) ?_ (fun s hs=>by cases hs;rfl) (by decide)
   simp [goD,opE,evS,t138,t139,t140,gd,ei,hiX]
  ·cases hx
   refine nq (d:=T 141) ?_ (fun s hs=>by cases hs;rfl) (by decide)
   obtain ⟨g1,g2⟩:=d7 hk2
   simp [goD,opE,evS,t140,t141,e44,g1,g2,gd,hset,hiX]
   rw [←hXi,zO1,zO4 hiX];rfl
  ·cases hx
   refine nq (d:=T 142) ?_ (fun s hs=>by cases hs;rfl) (by decide)
   simp [goD,opE,evS,t16,t142,e16]
  ·cases hx
   refine nq (d:=T 143) ?_ (fun s hs=>by cases hs;rfl) (by decide)
   simp [goD,opE,evS,t142,t143,e16,gd]
  ·cases hx
   refine nq (d:=T 144) ?_ (fun s hs=>by cases hs;rfl) (by decide)
   simp [goD,opE,evS,t17,t144]
  ·cases hx
   refine nq (d:=T 145) ?_ (fun s hs=>by cases hs;rfl) (by decide)
   simp [goD,opE,evS,t143,t144,t145,gd,ei];omega
  ·cases hx
   refine nq (d:=T 146) ?_ (fun s hs=>by cases hs;rfl) (by decide)
   simp [goD,opE,evS,t145,t146,gd,hib]
   rw [←hbr,zO1,zO4 hib];rfl
  ·cases hx
   have hb:=d13 hk2
   subst hb
   have e4:y8u [13,15] [] 13=[13]:=rfl
   refine ⟨.osl 3 (1000+i) 0 (l+k),.app (1000+i) ((row++new).map (purge (1000+i))),.inl ?_,fun s hs=>by cases hs;exact t147.symm,?_,?_⟩
   ·have h1:=er []
    simp only [List.not_mem_nil,if_false] at h1
    have hnil:new=[]→k=0:=fun e=>by rw [e] at hnl;simp at hnl;omega
    simp [goD,opE,evS,t141,t146,h1,z0w,gd]
    exact ⟨⟨hrl,by omega,by omega,by omega,fun h=>by omega,hone⟩,by simp [cnt,hnl]⟩
   ·rw [e4]
    have m7:(row++new).map (purge (1000+i))=row++new:=z0h _ fun d hd=>by
     rcases List.mem_append.1 hd with h|h
     ·exact hrr d h
     ·exact hnr d h
    rw [m7]
    funext q
    have g0:=hlk [] q
    have g1:=hlk [13] q
    simp only [List.not_mem_nil,if_false,List.mem_singleton,if_true,Nat.reduceEqDiff] at g0 g1
    rw [g1]
    rw [hset] at g0
    show Heap.upd (Heap.purge (1000+i) (lkH (hlE H0 i l k row new X []))) (1000+i) (some (row++new)) q=_
    unfold Heap.upd Heap.purge
    by_cases h1:q=1000+i
    ·subst h1
     rw [if_pos rfl,if_neg (by omega),if_pos rfl]
    ·rw [if_neg h1,g0,if_neg h1,if_neg h1]
     by_cases h2:q=44
     ·subst h2
      rw [if_pos rfl,if_pos rfl,Option.map_some]
      refine congrArg some (List.ext_getElem? fun j=>?_)
      rw [List.getElem?_map,List.getElem?_set]
      by_cases h3:i=j
      ·subst h3
       rw [if_pos rfl,if_pos hiX]
       have:=hXi
       rw [zO1,zO4 hiX,Option.getD_some] at this
       rw [zO4 hiX,this]
       simp [purge,DV.has]
      ·rw [if_neg h3]
       have:=hpX j (Ne.symm h3)
       rw [zO1] at this
       cases hx:X[j]? with
       | none=>rfl
       | some d=>rw [hx] at this;exact congrArg some this
     ·rw [if_neg h2,if_neg h2]
      cases hq:lkH H0 q with
      | none=>rfl
      | some cs=>exact congrArg some (hp q cs h2 hq)
   ·intro o c he s hs hk3 hs2
    cases he
    cases hh:(T s).has (1000+i) with
    | false=>rfl
    | true =>
     rw [←hT] at hh
     simp only [den] at hh
     split at hh
     ·rename_i hv
      rw [hfr s hv] at hh;cases hh
     ·rcases x62 _ s with e|hm
      ·rw [e] at hh;cases hh
      ·have hn:=z21 (1000+i) (.sl 3 new) rfl
       have hpp:∀p k,(DV.ptr p k).has (1000+i)=true→p=1000+i:=fun p k h=>by simpa [DV.has] using h
       have hqq:∀z p k q,(DV.osl z p k q).has (1000+i)=true→p=1000+i:=fun z p k q h=>by simpa [DV.has] using h
       simp only [List.mem_cons,Prod.mk.injEq,List.not_mem_nil,or_false] at hm
       rcases hm with ⟨rfl,e⟩|⟨rfl,e⟩|⟨rfl,e⟩|⟨rfl,e⟩|⟨rfl,e⟩|⟨rfl,e⟩|⟨rfl,e⟩|⟨rfl,e⟩|⟨rfl,e⟩|⟨rfl,e⟩|⟨rfl,e⟩|⟨rfl,e⟩|⟨rfl,e⟩|⟨rfl,e⟩|⟨rfl,e⟩<;>rw [e] at hh<;>first
        | (exfalso;have:=hpp _ _ hh;omega)
        | (exfalso;have:=hqq _ _ _ _ hh;omega)
        | (simp [DV.has] at hh;done)
        | skip
       ·exfalso
        rcases hs2 with h|⟨q,q1,q2,y,hy,hys⟩
        ·revert h;decide
        ·exact q1 (w1k q ⟨y,hy,hys⟩)
       ·exact absurd rfl hs
  ·cases hx
   refine nq (d:=T 148) ?_ (fun s hs=>by cases hs;rfl) (by decide)
   simp [goD,opE,evS,t135,t136,t148,gd,ei,hiX]
  ·cases hx
   have hb:=d15 hk2
   subst hb
   have e4:y8u [13,15] [13] 15=[13,15]:=rfl
   have h0:=e44 [13]
   simp only [List.mem_singleton,if_true,Nat.reduceEqDiff,if_false] at h0
   refine ⟨.tup [],.set 44 (X.set i (.osl 3 (1000+i) 0 (l+k))),.inl ?_,fun s hs=>(by cases hs),?_,fun o c h=>(by cases h)⟩
   ·simp [goD,opE,evS,t148,t147,h0,gd,DV.one,hiX]
   ·rw [e4]
    funext q
    have g0:=hlk [13] q
    have g1:=hlk [13,15] q
    simp only [List.mem_cons,List.not_mem_nil,or_false,Nat.reduceEqDiff,or_true,true_or,false_or,if_true,if_false] at g0 g1
    rw [g1]
    show Heap.upd (lkH (hlE H0 i l k row new X [13])) 44 (some _) q=_
    unfold Heap.upd
    by_cases h1:q=44
    ·subst h1;rw [if_pos rfl,if_pos rfl]
    ·rw [if_neg h1,g0,if_neg h1,if_neg h1]
theorem x79 {n:Nat} {S:List Kx} {m:Mdl} {cod:Nat} (h:DKt n S m cod) (he:DE n S m):∀t∈m.tm,∀f∈t,1≤(z3r S m cod t f).length:=fun t ht f hf=>by
 have hkm:=z3Y (h.vs _ (z48 ht hf))
 unfold z3r
 split
 ·exact Nat.le_refl 1
 ·rename_i h1
  have hl2:=he.l2 _ hkm h1
  rw [List.length_map,z4G]
  unfold ctC
  split<;>omega
theorem x7t {S:List Kx} {m:Mdl} {cod:Nat} (j r:Nat):(z6G S m cod j r).length=(z45 S m cod j).length:=by
 unfold z6G z45
 rw [List.length_append,List.length_append,y2a fun t=>z8g S m cod t r]
 unfold icV icN
 split<;>rfl
theorem x5G {S:List Kx} {m:Mdl} {cod j i:Nat} {R:List Nat} {t:List Fac} {a b c e g Y:List DV} {N Yv RW:DV} {T T':Hp} {fr:Fr} {Q:Ex→Fr→Hp→Prop}
  (hT:T=z1d 1000 (rwT S m cod R j i)) (hT':T'=z1d 1000 (rwT S m cod R j (i+1))) (hj:j<m.tm.length) (ht:m.tm.getD j []=t) (hi:i<R.length) (hR:R.length≤64)
  (h11:lk fr 11=.ptr 11 0) (h16:lk fr 16=.ptr 16 0) (h17:lk fr 17=.int .i64 i)
  (hl:∀r,(z6G S m cod j r).length≤1000000) (hk:∀r,(z8j S m cod t r).length≤1000000)
  (ra:∀x∈a,x.rf=true) (rb:∀x∈b,x.rf=true) (rc:∀x∈c,x.rf=true) (re:∀x∈e,x.rf=true) (rg:∀x∈g,x.rf=true) (rY:∀x∈Y,x.rf=true)
  (hN:∀o,1000≤o→purge o N=N) (hYv:∀o,1000≤o→purge o Yv=Yv) (hRW:∀o,purge o RW=RW)
  (hfr:∀s,z1i.vs.contains s=true→(lk fr s).has (1000+i)=false)
  (hQ:Q .norm fr ((3,a)::(4,b)::(6,c)::(11,[N,.osl 1 44 0 R.length,Yv,RW])::(12,e)::(16,z25 (z8c S m cod t) (R.map fun r=>z8j S m cod t r))::(44,clT S m cod R j (i+1))::(85,g)::(203,Y)::T')) :
  W z1i (.rego (.alt .no x6K)) Q fr ((3,a)::(4,b)::(6,c)::(11,[N,.osl 1 44 0 R.length,Yv,RW])::(12,e)::(16,z25 (z8c S m cod t) (R.map fun r=>z8j S m cod t r))::(44,clT S m cod R j i)::(85,g)::(203,Y)::T):=by
 subst hT hT'
 have hLl:=y6Y S m cod R j i
 have hXl:=x3d S m cod R j i
 have hrr:=y8F S m cod R j i
 have hrow:(rwT S m cod R j i).getD i []=nums (z6G S m cod j (R.getD i 0)):=by rw [w2z hi,if_neg (Nat.lt_irrefl i)]
 have hcl:(clT S m cod R j i).getD i .undef=.osl 3 (1000+i) 0 (z6G S m cod j (R.getD i 0)).length:=by rw [x7D hi,if_neg (Nat.lt_irrefl i)]
 have hml:i<(R.map fun r=>z8j S m cod t r).length:=by rw [List.length_map];exact hi
 refine x98 (i:=i) (l:=(z6G S m cod j (R.getD i 0)).length) (k:=(z8j S m cod t (R.getD i 0)).length) (row:=nums (z6G S m cod j (R.getD i 0))) (new:=nums (z8j S m cod t (R.getD i 0))) (X:=clT S m cod R j i) (br:=z39 (R.map fun r=>z8j S m cod t r)) (N:=N) (Yv:=Yv) (RW:=RW) (nm:=.sl 1 (z0D (z8c S m cod t)))
  h11 h16 h17 ?_ rfl rfl ?_ (by rw [z3E];exact hml) ?_ (by rw [hXl];exact hi) (by omega) hcl (z1l _) (z1l _) (hl _) (hk _) (x5F _) (z07 _) (z07 _) ?_ ?_ hfr ?_
 ·rw [hXl];rfl
 ·exact (w0T (by rw [hLl];exact hi)).trans (by rw [hrow])
 ·rw [z8b hml,zO1,List.getElem?_map,zO4 hi,zO1,zO4 hi]
  rfl
 ·intro q cs hq hcs
  simp only [lkH] at hcs
  split at hcs
  ·cases hcs;exact z0h _ ra
  split at hcs
  ·cases hcs;exact z0h _ rb
  split at hcs
  ·cases hcs;exact z0h _ rc
  split at hcs
  ·cases hcs
   simp only [List.map_cons,List.map_nil,hN (1000+i) (by omega),hYv (1000+i) (by omega),hRW]
   simp [purge,DV.has,show 44≠1000+i by omega]
  split at hcs
  ·cases hcs;exact z0h _ re
  split at hcs
  ·cases hcs;exact z0h _ (List.all_eq_true.1 rfl)
  split at hcs
  ·omega
  split at hcs
  ·cases hcs;exact z0h _ rg
  split at hcs
  ·cases hcs;exact z0h _ rY
  rw [y3g] at hcs
  split at hcs
  ·cases hcs
   refine z0h _ (hrr _ ?_)
   rw [zO1,zO4 (by omega)]
   exact List.getElem_mem _
  ·cases hcs
 ·intro k hk
  by_cases hkR:k<R.length
  ·rw [x7D hkR]
   have hne:1000+k≠1000+i:=by omega
   have:(DV.osl 3 (1000+k) 0 (z6G S m cod (if k<i then j+1 else j) (R.getD k 0)).length).has (1000+i)=false:=by simp only [DV.has];exact decide_eq_false hne
   simp only [purge,this]
   rfl
  ·rw [zO1,List.getElem?_eq_none (by omega)]
   exact z3N _
 ·have he:hlE ((3,a)::(4,b)::(6,c)::(11,[N,.osl 1 44 0 R.length,Yv,RW])::(12,e)::(16,z25 (z8c S m cod t) (R.map fun r=>z8j S m cod t r))::(44,clT S m cod R j i)::(85,g)::(203,Y)::z1d 1000 (rwT S m cod R j i)) i (z6G S m cod j (R.getD i 0)).length (z8j S m cod t (R.getD i 0)).length (nums (z6G S m cod j (R.getD i 0))) (nums (z8j S m cod t (R.getD i 0))) (clT S m cod R j i) [13,15]=((3,a)::(4,b)::(6,c)::(11,[N,.osl 1 44 0 R.length,Yv,RW])::(12,e)::(16,z25 (z8c S m cod t) (R.map fun r=>z8j S m cod t r))::(44,clT S m cod R j (i+1))::(85,g)::(203,Y)::z1d 1000 (rwT S m cod R j (i+1))):=by
   unfold hlE
   rw [if_pos (by decide),if_pos (by decide),x33 (by rw [hLl];exact hi)]
   have hn:nums (z6G S m cod j (R.getD i 0))++nums (z8j S m cod t (R.getD i 0))=nums (z6G S m cod (j+1) (R.getD i 0)):=by
    rw [z8E hj,ht];unfold nums;rw [List.flatMap_append]
   have hlen:(z6G S m cod j (R.getD i 0)).length+(z8j S m cod t (R.getD i 0)).length=(z6G S m cod (j+1) (R.getD i 0)).length:=by rw [z8E hj,ht,List.length_append]
   rw [hn,hlen,w1m hi,x89 hi]
  rw [he]
  exact hQ
end Go.Proofs.YtlcagndeidjobaaGreatDoor
