/- Lemmas of the walk; no conditions beyond those that each states. -/
import Derived.Test.YtlcagndeidjobaaGreatDoorD3
import Derived.Test.YtlcagndeidjobaaGreatDoorT4
import Derived.Test.YtlcagndeidjobaaGreatDoorN2
import Derived.Test.YtlcagndeidjobaaGreatDoorD5
import Derived.Test.YtlcagndeidjobaaGreatDoorC2
import Derived.Test.YtlcagndeidjobaaGreatDoorT2
import Derived.Test.YtlcagndeidjobaaGreatDoorD4
set_option linter.unusedSimpArgs false
set_option linter.unusedVariables false
set_option linter.unnecessarySimpa false
set_option maxHeartbeats 4000000
namespace Go.Proofs.YtlcagndeidjobaaGreatDoor
open Tryz
open Go Go.Dat Go.Proofs Go.RowKit Go.Lib Nat32
structure DX (n:Nat) (S:List Kx) (m:Mdl):Prop where
 mv:z0c prog 76 [.agg (z1F m)] (.bool true)
 va:z0c prog 78 [.agg (z1F m)] (.sl 1 (z0L (z13 m)))
 vl:(z13 m).length≤1000
 rk:(z4T S m.rs).kd=1
 pk:∀t∈m.tm,∀f∈t,f.pw≠1→(z4T S f.nm).kd=1
 n64:n≤64
theorem y0d {n:Nat} {S:List Kx} {m:Mdl} {cod:Nat} (h:DKt n S m cod) (hx:DX n S m) :
  z0c prog 35 [.el (z5c n S m cod) 0] (.tup [.sl 1 (ints (z1R n S m)),.int .i64 0]):=by
 have c1:=z6Z n S h.ok
 rw [h.tv] at c1
 have c2:=hx.mv
 have c3:=hx.va
 have c4:=z90 n S (z13 m) h.ok h.tv (by have:=hx.vl;omega) h.vs (fun k hk=>(z91 h.tv hk).2.1) (by have:=hx.n64;omega)
 have hvr:m.rs∈z13 m:=List.mem_cons_self
 have c5:=z16 n S m cod m.rs h.ok h.tv (h.vs _ hvr)
 have hT:=y7I m.tm
 have hl32:=h.tl.1
 have hk1:=hx.rk
 have hck:∀k,(DV.agg (kxC k)).cells? = some (kxC k):=fun _=>rfl
 have hk4:=z00
 have hkg:∀k x,(kxC k).getD 1 x=.int .i64 k.kd:=fun _ _=>rfl
 have d1:decide ((cod:Int)<1)=false:=decide_eq_false (by have:=h.c4;omega)
 have d2:decide ((4:Int)<(cod:Int))=false:=decide_eq_false (by have:=h.c4;omega)
 refine z0b x0A (by simp [y07]) ?_
 unfold z67
 have hrm:ints (z1c (z22 S (z13 m)) n)=ints (z1R n S m):=rfl
 rw [hrm] at c4
 have hb:∀x,(z5c n S m cod).getD 5 x=.int .i64 cod:=fun _=>rfl
 have hb2:∀x,(z5c n S m cod).getD 2 x=.str m.rs:=fun _=>rfl
 have hb4:∀x,(z5c n S m cod).getD 4 x=.sl 1 (tmD m.tm):=fun _=>rfl
 have hb6:(z5c n S m cod).length=6:=rfl
 have ht2:(z5c n S m cod).take 2=[.int .i64 n,.sl 4 (kxs S)]:=rfl
 have ht3:((z5c n S m cod).drop 2).take 3=z1F m:=rfl
 generalize hB:z5c n S m cod=B at *
 refine zS (zA ht2 (zA ht3 (zA hb6 @List.drop_zero.{0}))) ?_
 refine cP c1 ?_
 refine zS (zA ht2 (zA ht3 (zA hb6 @List.drop_zero.{0}))) ?_
 refine cP c2 ?_
 refine zR ?_
 refine wFs ?_
 refine zS (zA hb (zA hb6 (zA d1 d2))) ?_
 refine wFs ?_
 refine zS (zA ht2 (zA ht3 (zA hb6 @List.drop_zero.{0}))) ?_
 refine cP c3 ?_
 refine zR ?_
 refine cP c4 ?_
 refine zR ?_
 refine wFs ?_
 refine zS (zA hb2 hb6) ?_
 refine cP c5 ?_
 refine zS (zA hck (zA hk4 (zA hkg hk1))) ?_
 refine wFs ?_
 refine zS (zA hb4 (zA hb6 hT)) ?_
 refine z0v (σ:=Nat) (fun i=>[(0,.el B 0),(4,.sl 1 (ints (z1R n S m))),(64,.sl 1 (tmD m.tm)),(65,.int .i64 m.tm.length),(66,.int .i64 i)]) (fun _=>[]) (fun i=>i≤m.tm.length) (fun i=>m.tm.length - i) 0 (Nat.zero_le _) ?_ rfl ?_
 ·simp [z0y,lk]
 ·intro i hi
  try simp only at hi ⊢
  by_cases hlt:i<m.tm.length
  ·have dl:decide ((i:Int)<(m.tm.length:Int))=true:=zT9
   have ei:(i:Int).toNat=i:=Int.toNat_natCast i
   have e1:((i:Int)+1)=((i+1:Nat):Int):=by omega
   have hgT:=y7H hlt .undef
   have ht:m.tm.getD i []∈m.tm:=w5A hlt
   generalize m.tm.getD i []=t at *
   obtain ⟨ht1,ht6⟩:=h.tl.2 t ht
   have hfcl:=z4m t
   have htl2:t.length*2 / 2=t.length:=by omega
   refine zS dl ?_
   refine wTs ?_
   refine z0d ?_
   refine z0f ?_
   refine zS (zA ei (zA hT (zA hgT (zA hfcl htl2)))) ?_
   refine z0v (σ:=Nat) (fun j=>[(0,.el B 0),(4,.sl 1 (ints (z1R n S m))),(64,.sl 1 (tmD m.tm)),(65,.int .i64 m.tm.length),(66,.int .i64 i),(70,.sl 2 (fcs t)),(71,.int .i64 t.length),(72,.int .i64 j)]) (fun _=>[]) (fun j=>j≤t.length) (fun j=>t.length - j) 0 (Nat.zero_le _) ?_ rfl ?_
   ·simp [z0y,lk]
   ·intro j hj
    try simp only at hj ⊢
    by_cases hlj:j<t.length
    ·have dj:decide ((j:Int)<(t.length:Int))=true:=zT9
     have ej:(j:Int).toNat=j:=Int.toNat_natCast j
     have ej1:((j:Int)+1)=((j+1:Nat):Int):=by omega
     have hftw:((fcs t).drop (j*2)).take 2=fcC (t.getD j default):=z1m (j:=0) z2i default hlj (Nat.le_refl _)
     have hfm:t.getD j default∈t:=z6j hlj
     generalize t.getD j default=f at *
     have hcf:(DV.agg (fcC f)).cells? = some (fcC f):=rfl
     have hf2:=z2i f
     have hs2:∀(a b:DV) (C:List DV),List.take 0 [a,b]++C++List.drop 2 [a,b]=C:=fun _ _ _=>by simp
     have hfg:∀x,(fcC f).getD 0 x=.str f.nm:=fun _=>rfl
     have hfg1:∀x,(fcC f).getD 1 x=.int .i64 f.pw:=fun _=>rfl
     refine zS dj ?_
     refine wTs ?_
     refine z0d ?_
     refine z0f ?_
     by_cases hp:f.pw=1
     ·have dp:decide (¬f.pw=1)=false:=zF9
      refine zS (zA ej (zA hfcl (zA hftw (zA hcf (zA hf2 (zA hs2 (zA hfg1 (zA dp @List.drop_zero.{0})))))))) ?_
      refine wFs ?_
      refine z25 9 ?_
      repeat (first|refine z0d ?_|refine z0g ?_|refine z0p ?_|refine z0f ?_|refine And.intro (by omega) ?_|simp (maxSteps:=1000000) (disch:=omega) only [cA,cB,cN,FnD.nb,lk,lkH,Dst.onT,Dst.onX,Dst.slot,z0W,z0N,z0J,z0X,z0u,z0V,unE,cnt,z0j,z0t,z0m,z0o,opE,rmH,z02,z0n,Nat.reduceEqDiff,Nat.reduceLT,Nat.reduceAdd,Nat.reduceMul,Nat.reduceMod,↓reduceIte,reduceCtorEq,Nat.reduceLeDiff,rmP])
      exact ⟨j+1,by omega,by omega,by simp [z0y,lk,purge,DV.has]⟩
     ·have dp:decide (¬f.pw=1)=true:=decide_eq_true hp
      have c6:=z16 n S m cod f.nm h.ok h.tv (h.vs _ (y1T ht hfm))
      rw [hB] at c6
      have hk:=hx.pk t ht f hfm hp
      refine zS (zA ej (zA hfcl (zA hftw (zA hcf (zA hf2 (zA hs2 (zA hfg1 (zA hfg (zA dp @List.drop_zero.{0}))))))))) ?_
      refine cP c6 ?_
      refine zS (zA hck (zA hk4 (zA hkg hk))) ?_
      refine wFs ?_
      refine z25 9 ?_
      repeat (first|refine z0d ?_|refine z0g ?_|refine z0p ?_|refine z0f ?_|refine And.intro (by omega) ?_|simp (maxSteps:=1000000) (disch:=omega) only [cA,cB,cN,FnD.nb,lk,lkH,Dst.onT,Dst.onX,Dst.slot,z0W,z0N,z0J,z0X,z0u,z0V,unE,cnt,z0j,z0t,z0m,z0o,opE,rmH,z02,z0n,Nat.reduceEqDiff,Nat.reduceLT,Nat.reduceAdd,Nat.reduceMul,Nat.reduceMod,↓reduceIte,reduceCtorEq,Nat.reduceLeDiff,rmP])
      exact ⟨j+1,by omega,by omega,by simp [z0y,lk,purge,DV.has]⟩
    ·have dj:decide ((j:Int)<(t.length:Int))=false:=zF9
     refine zS dj ?_
     refine z0l rfl (fun h=>by cases h) (fun _=>z0q ?_)
     refine zS e1 ?_
     exact ⟨i+1,by omega,by omega,by simp [z0y,lk]⟩
  ·have dl:decide ((i:Int)<(m.tm.length:Int))=false:=zF9
   refine zS dl ?_
   refine z0l rfl (fun h=>by cases h) (fun _=>z0q ?_)
   refine zR ?_
   exact z0i (z2f (.imm rfl) (.imm rfl))
structure DE (n:Nat) (S:List Kx) (m:Mdl):Prop where
 tu:x8l n S=true
 wo:∀t∈m.tm,∀j:Nat,j<t.length→z0c prog 99 [.sl 2 (fcs t),.int .i64 j] (.sl 2 (fcs (t.eraseIdx j)))
 pe:∀t∈m.tm,∀j:Nat,j<t.length→z0c prog 98 [.agg (z1F m),.sl 2 (fcs (t.eraseIdx j))] (.bool (x1i m (t.filter fun x=>!decide (x=t.getD j default))))
 wv:z0c prog 93 [.agg (z1F m)] (.bool true)
 wa:z0c prog 41 [.agg (z1F m)] (.sl 1 (z0L (z13 m)))
 l2:∀k∈S,k.kd≠1→k.le.length=2∨k.le.length=3
theorem y0c {n:Nat} {S:List Kx} {m:Mdl} {cod:Nat} (h:DKt n S m cod) (hx:DX n S m) (he:DE n S m) :
  z0c prog 39 [.agg [.int .i64 n,.sl 4 (kxs S)],.agg (z1F m),.int .i64 cod] (.int .i64 0):=by
 have c1:=z4D n S h.ok
 rw [he.tu] at c1
 have c2:=he.wv
 have c3:=he.wa
 have hvl:=hx.vl
 have hll:=z0K (z13 m)
 have hca:(DV.agg [.int .i64 n,.sl 4 (kxs S)]).cells? = some [.int .i64 n,.sl 4 (kxs S)]:=rfl
 have hcm:(DV.agg (z1F m)).cells? = some (z1F m):=rfl
 have hm3:(z1F m).length=3:=rfl
 have hmt:(z1F m).take 3=z1F m:=rfl
 have hm0:∀x,(z1F m).getD 0 x=.str m.rs:=fun _=>rfl
 have hm2:∀x,(z1F m).getD 2 x=.sl 1 (tmD m.tm):=fun _=>rfl
 have hmr:∀d∈z1F m,d.rf=true:=List.all_eq_true.1 rfl
 have hlen:=z1X S
 have hT:=y7I m.tm
 have hl32:=h.tl.1
 have hvr:m.rs∈z13 m:=List.mem_cons_self
 have c5:=z3Z n S m.rs h.ok he.tu
 have hrs:=h.vs _ hvr
 have hk1:=hx.rk
 have hck:∀k,(DV.agg (kxC k)).cells? = some (kxC k):=fun _=>rfl
 have hk4:=z00
 have hkg:∀k x,(kxC k).getD 1 x=.int .i64 k.kd:=fun _ _=>rfl
 have hkat:∀s,0≤ixS (z1t S) s→∃j:Nat,ixS (z1t S) s=j∧j<S.length∧(kxs S).getD (j*4+1) .undef=.int .i64 (z4T S s).kd:=by
  intro s hs
  have hbd:=z9r s (z1t S)
  rw [z1b] at hbd
  obtain ⟨j,hj⟩:∃j:Nat,ixS (z1t S) s=j:=⟨(ixS (z1t S) s).toNat,by omega⟩
  refine ⟨j,hj,by omega,?_⟩
  have h1:(kxs S).getD (j*4+1) .undef=(kxC (S.getD j default)).getD 1 .undef:=y4o (j:=1) z00 default (by omega) (by decide) .undef
  rw [h1,hkg]
  unfold z4T
  rw [hj,Int.toNat_natCast]
 have d1:decide ((cod:Int)<1)=false:=decide_eq_false (by have:=h.c4;omega)
 have d2:decide ((4:Int)<(cod:Int))=false:=decide_eq_false (by have:=h.c4;omega)
 have mpm:∀o,(z1F m).map (purge o)=z1F m:=fun o=>z0k o hmr
 have prw:∀o p k,p≠o→purge o (.ptr p k)=.ptr p k:=fun o p k h1=>by simp [purge,DV.has,h1]
 have psl:∀o z x,purge o (.sl z x)=.sl z x:=fun o z x=>by simp [purge,DV.has]
 have pin:∀o (z:Int),purge o (.int .i64 z)=.int .i64 z:=fun o z=>by simp [purge,DV.has]
 have pbo:∀o (z:Bool),purge o (.bool z)=.bool z:=fun o z=>by simp [purge,DV.has]
 refine z0b x0y (by simp [y06]) ?_
 unfold z66
 generalize hMM:z1F m=MM at *
 refine zS (zA hca (zA hcm @cS)) ?_
 refine cP c1 ?_
 refine zS (zA hm3 (zA hmt @List.drop_zero.{0})) ?_
 refine z0E c2 (by simp only [List.all_cons,DV.rf_agg,List.all_eq_true.2 hmr];rfl) ?_
 refine zR ?_
 refine wFs ?_
 refine zS (zA d1 d2) ?_
 refine wFs ?_
 refine zS (zA hm3 (zA hmt @List.drop_zero.{0})) ?_
 refine z0E c3 (by simp only [List.all_cons,DV.rf_agg,List.all_eq_true.2 hmr];rfl) ?_
 refine zR ?_
 refine z0v (σ:=Nat) (fun i=>[(2,.int .i64 cod),(3,.ptr 3 0),(4,.ptr 4 0),(7,.sl 1 (z0L (z13 m))),(8,.int .i64 i)]) (fun _=>[(3,[.int .i64 n,.sl 4 (kxs S)]),(4,MM)]) (fun i=>i≤(z13 m).length) (fun i=>(z13 m).length - i) 0 (Nat.zero_le _) ?_ rfl ?_
 ·simp [z0y,lk]
 ·intro i hi
  try simp only at hi ⊢
  by_cases hlt:i<(z13 m).length
  ·have dl:decide ((i:Int)<((z13 m).length:Int))=true:=zT9
   have ei:(i:Int).toNat=i:=Int.toNat_natCast i
   have e1:((i:Int)+1)=((i+1:Nat):Int):=by omega
   have hg:=z1a hlt
   have hs0:=h.vs _ (z1J hlt)
   have cf:=z3Z n S ((z13 m).getD i []) h.ok he.tu
   generalize (z13 m).getD i []=s at *
   have d0:decide (ixS (z1t S) s<0)=false:=zF9
   refine zS (zA hll dl) ?_
   refine wTs ?_
   refine z0d ?_
   refine z0f ?_
   refine z0d ?_
   refine z0p ?_
   refine zE (zA ei (zA hll hg)) ?_
   repeat refine ⟨by omega,?_⟩
   refine cP cf ?_
   refine zS d0 ?_
   refine wFs ?_
   refine zS e1 ?_
   exact ⟨i+1,by omega,by omega,by simp [z0y,lk]⟩
  ·have dl:decide ((i:Int)<((z13 m).length:Int))=false:=zF9
   refine zS (zA hll dl) ?_
   refine z0l rfl (fun h=>by cases h) (fun _=>z0q ?_)
   obtain ⟨j,hj,hjl,hjk⟩:=hkat _ hrs
   rw [hj] at c5
   have ej:(j:Int).toNat=j:=Int.toNat_natCast j
   refine z0d ?_
   refine z0d ?_
   refine z0p ?_
   refine zE (zA hm3 hm0) ?_
   repeat refine ⟨by omega,?_⟩
   refine cP c5 ?_
   refine zS (zA ej (zA hlen (zA hjk hk1))) ?_
   refine wFs ?_
   refine zR ?_
   refine z0v (σ:=Nat) (fun i=>[(3,.ptr 3 0),(4,.ptr 4 0),(9,.int .i64 i)]) (fun _=>[(3,[.int .i64 n,.sl 4 (kxs S)]),(4,MM)]) (fun i=>i≤m.tm.length) (fun i=>m.tm.length - i) 0 (Nat.zero_le _) ?_ rfl ?_
   ·simp [z0y,lk]
   ·intro i hi
    try simp only at hi ⊢
    by_cases hlt:i<m.tm.length
    ·have dl:decide ((i:Int)<(m.tm.length:Int))=true:=zT9
     have ei:(i:Int).toNat=i:=Int.toNat_natCast i
     have e1:((i:Int)+1)=((i+1:Nat):Int):=by omega
     have hgT:=y7H hlt .undef
     have ht:m.tm.getD i []∈m.tm:=w5A hlt
     generalize m.tm.getD i []=t at *
     obtain ⟨ht1,ht6⟩:=h.tl.2 t ht
     have hfcl:=z4m t
     have htl2:t.length*2 / 2=t.length:=by omega
     refine zS (zA hm3 (zA hm2 (zA hT dl))) ?_
     refine wTs ?_
     refine z0d ?_
     refine z0f ?_
     refine zR ?_
     refine z0v (σ:=Nat) (fun j=>[(3,.ptr 3 0),(4,.ptr 4 0),(9,.int .i64 i),(10,.int .i64 j)]) (fun _=>[(3,[.int .i64 n,.sl 4 (kxs S)]),(4,MM)]) (fun j=>j≤t.length) (fun j=>t.length - j) 0 (Nat.zero_le _) ?_ rfl ?_
     ·simp [z0y,lk]
     ·intro j hj
      try simp only at hj ⊢
      by_cases hlj:j<t.length
      ·have dj:decide ((j:Int)<(t.length:Int))=true:=zT9
       have ej:(j:Int).toNat=j:=Int.toNat_natCast j
       have ej1:((j:Int)+1)=((j+1:Nat):Int):=by omega
       have hftw:((fcs t).drop (j*2)).take 2=fcC (t.getD j default):=z1m (j:=0) z2i default hlj (Nat.le_refl _)
       have hfm:t.getD j default∈t:=z6j hlj
       generalize t.getD j default=f at *
       have hcf:(DV.agg (fcC f)).cells? = some (fcC f):=rfl
       have hf2:=z2i f
       have hs2:∀(a b:DV) (C:List DV),List.take 0 [a,b]++C++List.drop 2 [a,b]=C:=fun _ _ _=>by simp
       have hfg:∀x,(fcC f).getD 0 x=.str f.nm:=fun _=>rfl
       have hfg1:∀x,(fcC f).getD 1 x=.int .i64 f.pw:=fun _=>rfl
       have hfr:=z0k 11 (x2O f)
       refine zS (zA hm3 (zA hm2 (zA hT (zA ei (zA hgT (zA hfcl (zA htl2 dj))))))) ?_
       refine wTs ?_
       refine z0d ?_
       refine z0f ?_
       by_cases hp:f.pw=1
       ·have dp:decide (¬f.pw=1)=false:=zF9
        refine zS (zA hm3 (zA hm2 (zA hT (zA ei (zA hgT (zA ej (zA hfcl (zA htl2 (zA hftw (zA hcf (zA hf2 (zA hs2 (zA hfg1 (zA dp (zA @List.drop_zero.{0} @cS))))))))))))))) ?_
        refine wFs ?_
        refine z25 11 ?_
        repeat (first|refine z0d ?_|refine z0g ?_|refine z0p ?_|refine z0f ?_|refine And.intro (by omega) ?_|simp (maxSteps:=1000000) (disch:=omega) only [cA,cB,cN,FnD.nb,lk,lkH,Dst.onT,Dst.onX,Dst.slot,z0W,z0N,z0J,z0X,z0u,z0V,unE,cnt,z0j,z0t,z0m,z0o,opE,rmH,z02,z0n,Nat.reduceEqDiff,Nat.reduceLT,Nat.reduceAdd,Nat.reduceMul,Nat.reduceMod,↓reduceIte,reduceCtorEq,Nat.reduceLeDiff,rmP,prw,psl,pin,pbo,mpm,ej1])
        exact ⟨j+1,by omega,by omega,by simp [z0y,lk]⟩
       ·have dp:decide (¬f.pw=1)=true:=decide_eq_true hp
        have c6:=z3Z n S f.nm h.ok he.tu
        obtain ⟨p,hpj,hpl,hpk⟩:=hkat _ (h.vs _ (y1T ht hfm))
        rw [hpj] at c6
        have ep:(p:Int).toNat=p:=Int.toNat_natCast p
        have hk:=hx.pk t ht f hfm hp
        rw [hk] at hpk
        refine zS (zA hm3 (zA hm2 (zA hT (zA ei (zA hgT (zA ej (zA hfcl (zA htl2 (zA hftw (zA hcf (zA hf2 (zA hs2 (zA hfg1 (zA hfg (zA dp (zA @List.drop_zero.{0} @cS)))))))))))))))) ?_
        refine cP c6 ?_
        refine zS (zA ep (zA hlen hpk)) ?_
        refine wFs ?_
        refine z25 11 ?_
        repeat (first|refine z0d ?_|refine z0g ?_|refine z0p ?_|refine z0f ?_|refine And.intro (by omega) ?_|simp (maxSteps:=1000000) (disch:=omega) only [cA,cB,cN,FnD.nb,lk,lkH,Dst.onT,Dst.onX,Dst.slot,z0W,z0N,z0J,z0X,z0u,z0V,unE,cnt,z0j,z0t,z0m,z0o,opE,rmH,z02,z0n,Nat.reduceEqDiff,Nat.reduceLT,Nat.reduceAdd,Nat.reduceMul,Nat.reduceMod,↓reduceIte,reduceCtorEq,Nat.reduceLeDiff,rmP,prw,psl,pin,pbo,mpm,ej1])
        exact ⟨j+1,by omega,by omega,by simp [z0y,lk]⟩
      ·have dj:decide ((j:Int)<(t.length:Int))=false:=zF9
       refine zS (zA hm3 (zA hm2 (zA hT (zA ei (zA hgT (zA hfcl (zA htl2 dj))))))) ?_
       refine z0l rfl (fun h=>by cases h) (fun _=>z0q ?_)
       refine zS e1 ?_
       exact ⟨i+1,by omega,by omega,by simp [z0y,lk]⟩
    ·have dl:decide ((i:Int)<(m.tm.length:Int))=false:=zF9
     refine zS (zA hm3 (zA hm2 (zA hT dl))) ?_
     refine z0l rfl (fun h=>by cases h) (fun _=>z0q ?_)
     refine zR ?_
     exact z0i (z0h (.imm rfl))
noncomputable def w7w:DC:=match z4e with
 | .seq _ (.seq _ (.seq _ (.seq _ (.seq _ (.seq _ (.seq _ (.seq _ (.seq _ (.seq c _)))))))))=>c
 | _=>.skip
noncomputable def x6u:DT:=match w7w with
 | .seq _ (.block _ (.loop (.seq _ (.seq _ (.seq (.block _ (.seq _ (.seq _ (.seq _ (.rego (.alt .no t)))))) _)))))=>t
 | _=>.no
def hlR (N RW:DV) (Z C X Y:List DV) (D V:List DV) (i:Nat) (B:List Nat):Hp :=
 [(6,Z),(12,[N,if 18∈B then .osl 1 202 0 (i+1) else if 4∈B then .undef else .osl 1 202 0 i,if 20∈B then .osl 3 203 0 (i+1) else if 16∈B then .undef else .osl 3 203 0 i,RW]),(15,C),(202,if 4∈B then X++[.sl 3 D] else X),(203,if 16∈B then Y++V else Y)]
theorem x2z:∃ty1 ty2,x6u.iops=[ot 105 (.fad 1 (.x 12)),ot 106 (.ld (.t 105)),om 107 18,ot 108 (.bsl 1 [.nils] [(0,1,.t 107)]),ot 109 (.app ty1 1 24 (.t 106) (.t 108)),ot 110 (.fad 2 (.x 12)),ot 111 (.ld (.t 110)),ot 112 (.fad 3 (.x 15)),ot 113 (.ld (.t 112)),om 114 17,ot 115 (.iad 5 (.t 113) (.t 114)),ot 116 (.fad 1 (.t 115)),ot 117 (.ldn 3 (.t 116)),ot 118 (.build [.bool false,.nils,.nils] []),ot 119 (.call 38 [.t 117,.t 118]),ot 120 (.bsl 3 [.bool false,.nils,.nils] [(0,3,.t 119)]),ot 121 (.app ty2 3 56 (.t 111) (.t 120)),ot 122 (.fad 1 (.x 12)),on (.st (.t 122) (.t 109)),ot 123 (.fad 2 (.x 12)),on (.st (.t 123) (.t 121))]:=⟨_,_,rfl⟩
noncomputable def okR (B:List Nat) (i:Nat):Bool:=okI x6u.ideps [4,16,18,20] B i
theorem w3g:∀B∈y3o [4,16,18,20],(okR B 1=true→4∉B∧18∉B)∧(okR B 4=true→B=[])∧(okR B 6=true→16∉B∧20∉B)∧(okR B 16=true→B=[4])∧(okR B 18=true→B=[4,16])∧(okR B 20=true→B=[4,16,18]):=by
 decide +kernel
theorem w3f:∀B∈y3o [4,16,18,20],∀i,i<21→i∉[4,16,18,20]→x53 [4,16,18,20] B i=B:=by decide +kernel
theorem w3h:∀s,s∈[105,106,107,108,109,110,111,112,113,114,115,116,117,118,119,120,121,122,123]→∃(k:Nat) (z:DOper),x6u.iops[k]? = some z∧z.dst.slot=some s:=by
 obtain ⟨ty1,ty2,h⟩:=x2z
 rw [h]
 intro s hs
 simp only [List.mem_cons,List.not_mem_nil,or_false] at hs
 rcases hs with rfl|rfl|rfl|rfl|rfl|rfl|rfl|rfl|rfl|rfl|rfl|rfl|rfl|rfl|rfl|rfl|rfl|rfl|rfl
 ·exact ⟨0,_,rfl,rfl⟩
 ·exact ⟨1,_,rfl,rfl⟩
 ·exact ⟨2,_,rfl,rfl⟩
 ·exact ⟨3,_,rfl,rfl⟩
 ·exact ⟨4,_,rfl,rfl⟩
 ·exact ⟨5,_,rfl,rfl⟩
 ·exact ⟨6,_,rfl,rfl⟩
 ·exact ⟨7,_,rfl,rfl⟩
 ·exact ⟨8,_,rfl,rfl⟩
 ·exact ⟨9,_,rfl,rfl⟩
 ·exact ⟨10,_,rfl,rfl⟩
 ·exact ⟨11,_,rfl,rfl⟩
 ·exact ⟨12,_,rfl,rfl⟩
 ·exact ⟨13,_,rfl,rfl⟩
 ·exact ⟨14,_,rfl,rfl⟩
 ·exact ⟨15,_,rfl,rfl⟩
 ·exact ⟨16,_,rfl,rfl⟩
 ·exact ⟨17,_,rfl,rfl⟩
 ·exact ⟨19,_,rfl,rfl⟩
theorem x2y:(∀q,x01 x6u.iops 106 q→q=4)∧∀q,x01 x6u.iops 111 q→q=16:=by
 obtain ⟨ty1,ty2,h⟩:=x2z
 rw [h]
 refine ⟨?_,?_⟩<;>rintro q ⟨y,hy,hs⟩<;>have hq:=(List.getElem?_eq_some_iff.1 hy).1<;>simp only [List.length_cons,List.length_nil] at hq <;>
  obtain rfl|rfl|rfl|rfl|rfl|rfl|rfl|rfl|rfl|rfl|rfl|rfl|rfl|rfl|rfl|rfl|rfl|rfl|rfl|rfl|rfl:q=0∨q=1∨q=2∨q=3∨q=4∨q=5∨q=6∨q=7∨q=8∨q=9∨q=10∨q=11∨q=12∨q=13∨q=14∨q=15∨q=16∨q=17∨q=18∨q=19∨q=20:=(by omega)<;>first
  | rfl
  | (exfalso;cases hy;revert hs;simp [DOp.opds,Opd.slot];done)
theorem w0Z:∀(l:Fr) (s:Nat),lk l s=.undef∨(s,lk l s)∈l
 | [],s=>.inl rfl
 | (k,d)::l,s=>by
  simp only [lk]
  split
  ·rename_i h;subst h;exact .inr List.mem_cons_self
  ·rcases w0Z l s with h|h
   ·exact .inl h
   ·exact .inr (List.mem_cons_of_mem _ h)
theorem x89 {fr:Fr} {o:Nat} (h:∀e∈fr,e.2.has o=false) (s:Nat):(lk fr s).has o=false:=by
 rcases w0Z fr s with e|e
 ·rw [e];rfl
 ·exact h _ e
set_option maxRecDepth 100000 in
theorem w3i {i r:Nat} {v:Rat} {D X Y C ce Z:List DV} {N RW:DV} {fr:Fr} {Q:Ex→Fr→Hp→Prop}
  (h12:lk fr 12=.ptr 12 0) (h15:lk fr 15=.ptr 15 0) (h17:lk fr 17=.int .i64 r) (h18:lk fr 18=.sl 3 D)
  (hC:C.length=4) (hC3:∀x,C.getD 3 x=.sl 5 ce) (hce:(ce.drop (r*5+1)).take 3=z0T v) (hrl:r*5+5≤ce.length) (hX:X.length=i) (hY:Y.length=i*3) (hi:i≤1000)
  (hXr:∀d∈X,d.rf=true) (hYr:∀d∈Y,d.rf=true) (hCr:∀d∈C,d.rf=true) (hZr:∀d∈Z,d.rf=true) (hN:N.rf=true) (hRW:RW.rf=true)
  (hadd:z0c prog 38 [.agg (z0T v),.agg [.bool false,.nils,.nils]] (.agg (z0T v)))
  (hfr:∀s,z1Y.vs.contains s=true→(lk fr s).has 202=false∧(lk fr s).has 203=false)
  (hQ:Q .norm fr (hlR N RW Z C X Y D (z0T v) i [4,16,18,20])) :
  W z1Y (.rego (.alt .no x6u)) Q fr (hlR N RW Z C X Y D (z0T v) i []):=by
 have ht0:x6u.iops.length=21:=by kernel_rfl
 refine x8y [(105,.ptr 12 1),(106,.osl 1 202 0 i),(107,.sl 3 D),(108,.sl 1 [.sl 3 D]),(109,.osl 1 202 0 (i+1)),(110,.ptr 12 2),(111,.osl 3 203 0 i),(112,.ptr 15 3),(113,.sl 5 ce),(114,.int .i64 r),(115,.el ce (r*5)),(116,.el ce (r*5+1)),(117,.agg (z0T v)),(118,.agg [.bool false,.nils,.nils]),(119,.agg (z0T v)),(120,.sl 3 (z0T v)),(121,.osl 3 203 0 (i+1)),(122,.ptr 12 1),(123,.ptr 12 2)]
  fr [4,16,18,20] (hlR N RW Z C X Y D (z0T v) i) (by rw [ht0];decide) rfl ?_ ?_ hQ (by decide)
 ·intro s hs
  have key:∀k,k∈[105,106,107,108,109,110,111,112,113,114,115,116,117,118,119,120,121,122,123]→s≠k:=by
   intro k hk e
   subst e
   obtain ⟨j,z,h1,h2⟩:=w3h s hk
   exact hs j ⟨z,h1,h2⟩
  simp only [den]
  split
  ·rfl
  ·simp only [lk]
   simp only [List.mem_cons,List.not_mem_nil,or_false,forall_eq_or_imp,forall_eq] at key
   obtain ⟨k1,k2,k3,k4,k5,k6,k7,k8,k9,k10,k11,k12,k13,k14,k15,k16,k17,k18,k19⟩:=key
   rw [if_neg (Ne.symm k1),if_neg (Ne.symm k2),if_neg (Ne.symm k3),if_neg (Ne.symm k4),if_neg (Ne.symm k5),if_neg (Ne.symm k6),if_neg (Ne.symm k7),if_neg (Ne.symm k8),if_neg (Ne.symm k9),if_neg (Ne.symm k10),if_neg (Ne.symm k11),if_neg (Ne.symm k12),if_neg (Ne.symm k13),if_neg (Ne.symm k14),if_neg (Ne.symm k15),if_neg (Ne.symm k16),if_neg (Ne.symm k17),if_neg (Ne.symm k18),if_neg (Ne.symm k19)]
 ·intro B hB j x hx ht hk
  obtain ⟨ty1,ty2,hops⟩:=x2z
  have hj:j<21:=by
   have:=(List.getElem?_eq_some_iff.1 hx).1
   rw [ht0] at this;exact this
  obtain ⟨d1,d4,d6,d16,d18,d20⟩:=w3g B hB
  have hadI:=w3f B hB j hj
  generalize hT:den z1Y.vs _ fr=T
  have t12:T 12=.ptr 12 0:=by rw [←hT];exact h12
  have t15:T 15=.ptr 15 0:=by rw [←hT];exact h15
  have t17:T 17=.int .i64 r:=by rw [←hT];exact h17
  have t18:T 18=.sl 3 D:=by rw [←hT];exact h18
  have t105:T 105=.ptr 12 1:=by rw [←hT];rfl
  have t106:T 106=.osl 1 202 0 i:=by rw [←hT];rfl
  have t107:T 107=.sl 3 D:=by rw [←hT];rfl
  have t108:T 108=.sl 1 [.sl 3 D]:=by rw [←hT];rfl
  have t109:T 109=.osl 1 202 0 (i+1):=by rw [←hT];rfl
  have t110:T 110=.ptr 12 2:=by rw [←hT];rfl
  have t111:T 111=.osl 3 203 0 i:=by rw [←hT];rfl
  have t112:T 112=.ptr 15 3:=by rw [←hT];rfl
  have t113:T 113=.sl 5 ce:=by rw [←hT];rfl
  have t114:T 114=.int .i64 r:=by rw [←hT];rfl
  have t115:T 115=.el ce (r*5):=by rw [←hT];rfl
  have t116:T 116=.el ce (r*5+1):=by rw [←hT];rfl
  have t117:T 117=.agg (z0T v):=by rw [←hT];rfl
  have t118:T 118=.agg [.bool false,.nils,.nils]:=by rw [←hT];rfl
  have t119:T 119=.agg (z0T v):=by rw [←hT];rfl
  have t120:T 120=.sl 3 (z0T v):=by rw [←hT];rfl
  have t121:T 121=.osl 3 203 0 (i+1):=by rw [←hT];rfl
  have t122:T 122=.ptr 12 1:=by rw [←hT];rfl
  have t123:T 123=.ptr 12 2:=by rw [←hT];rfl
  have nq:∀{x:DOper} {d:DV},goD z1Y x T (lkH (hlR N RW Z C X Y D (z0T v) i B)) d .no→(∀s,x.dst.slot=some s→d=T s)→j∉[4,16,18,20] →
    x57 z1Y x6u.iops x6u.ideps (fun s=>z1Y.vs.contains s=true) T (lkH (hlR N RW Z C X Y D (z0T v) i B)) (lkH (hlR N RW Z C X Y D (z0T v) i (x53 [4,16,18,20] B j))) j x :=
   fun h1 h2 h3=>⟨_,.no,.inl h1,h2,by rw [hadI h3];rfl,fun o c h=>by cases h⟩
  have l12:∀p,(lkH (hlR N RW Z C X Y D (z0T v) i B) 12)=some p↔[N,if 18∈B then DV.osl 1 202 0 (i+1) else if 4∈B then .undef else .osl 1 202 0 i,if 20∈B then .osl 3 203 0 (i+1) else if 16∈B then .undef else .osl 3 203 0 i,RW]=p:=fun p=>by simp [hlR,lkH]
  have e12:lkH (hlR N RW Z C X Y D (z0T v) i B) 12=some [N,if 18∈B then DV.osl 1 202 0 (i+1) else if 4∈B then .undef else .osl 1 202 0 i,if 20∈B then .osl 3 203 0 (i+1) else if 16∈B then .undef else .osl 3 203 0 i,RW]:=rfl
  have e15:lkH (hlR N RW Z C X Y D (z0T v) i B) 15=some C:=rfl
  have er:(r:Int).toNat=r:=Int.toNat_natCast r
  have e3:C[3]'(by omega)=DV.sl 5 ce:=by
   have:=hC3 .undef
   rw [zO1,zO4 (by omega)] at this
   exact this
  have tT:∀s o,(T s).has o=true→(o=202∨o=203)→(o=202∧(s=106∨s=109))∨(o=203∧(s=111∨s=121)):=by
   intro s o h1 h2
   rw [←hT] at h1
   simp only [den] at h1
   split at h1
   ·rename_i hv
    obtain ⟨g1,g2⟩:=hfr s hv
    rcases h2 with rfl|rfl
    ·rw [g1] at h1;cases h1
    ·rw [g2] at h1;cases h1
   ·rcases w0Z _ s with e|hm
    ·rw [e] at h1;cases h1
    ·have hn:=z3u o (.agg (z0T v)) (by rw [DV.rf_agg];exact List.all_eq_true.2 (z1z v))
     have hp:∀p k,(DV.ptr p k).has o=true→p=o:=fun p k h=>by simpa [DV.has] using h
     have hq:∀z p k q,(DV.osl z p k q).has o=true→p=o:=fun z p k q h=>by simpa [DV.has] using h
     simp only [List.mem_cons,Prod.mk.injEq,List.not_mem_nil,or_false] at hm
     rcases hm with ⟨rfl,e⟩|⟨rfl,e⟩|⟨rfl,e⟩|⟨rfl,e⟩|⟨rfl,e⟩|⟨rfl,e⟩|⟨rfl,e⟩|⟨rfl,e⟩|⟨rfl,e⟩|⟨rfl,e⟩|⟨rfl,e⟩|⟨rfl,e⟩|⟨rfl,e⟩|⟨rfl,e⟩|⟨rfl,e⟩|⟨rfl,e⟩|⟨rfl,e⟩|⟨rfl,e⟩|⟨rfl,e⟩<;>rw [e] at h1 <;>
      first
      | (rw [hn] at h1;cases h1;done)
      | (have:=hp _ _ h1;omega)
      | (have:=hq _ _ _ _ h1;omega)
      | (cases h1;done)
      | (simp [DV.has,DV.hasL] at h1;done)
  rw [hops] at hx
  clear l12
  obtain rfl|rfl|rfl|rfl|rfl|rfl|rfl|rfl|rfl|rfl|rfl|rfl|rfl|rfl|rfl|rfl|rfl|rfl|rfl|rfl|rfl:j=0∨j=1∨j=2∨j=3∨j=4∨j=5∨j=6∨j=7∨j=8∨j=9∨j=10∨j=11∨j=12∨j=13∨j=14∨j=15∨j=16∨j=17∨j=18∨j=19∨j=20:=by omega
  ·cases hx
   refine nq (d:=T 105) ?_ (fun s hs=>by cases hs;rfl) (by decide)
   simp [goD,opE,evS,t12,t105,e12]
  ·cases hx
   refine nq (d:=T 106) ?_ (fun s hs=>by cases hs;rfl) (by decide)
   obtain ⟨g1,g2⟩:=d1 hk
   simp [goD,opE,evS,t105,t106,e12,g1,g2,gd]
  ·cases hx
   refine nq (d:=T 107) ?_ (fun s hs=>by cases hs;rfl) (by decide)
   simp [goD,opE,evS,t18,t107]
  ·cases hx
   refine nq (d:=T 108) ?_ (fun s hs=>by cases hs;rfl) (by decide)
   simp [goD,opE,evS,t107,t108,laid,DV.cells?,DV.one,spl,gd,DV.rf]
  ·cases hx
   have hb:=d4 hk
   subst hb
   refine ⟨.osl 1 202 0 (i+1),.app 202 ((X++[DV.sl 3 D]).map (purge 202)),.inl ?_,fun s hs=>by cases hs;exact t109.symm,?_,?_⟩
   ·simp [goD,opE,evS,t106,t108,hlR,lkH,z0t,gd,hX]
    exact ⟨⟨by omega,by omega,rfl⟩,rfl⟩
   ·have m1:=z0k 202 hXr
    have m2:=z0k 202 hYr
    have m3:=z0k 202 hZr
    have m4:=z0k 202 hCr
    have m5:=z1s 202 hN
    have m6:=z1s 202 hRW
    have m7:(X++[DV.sl 3 D]).map (purge 202)=X++[DV.sl 3 D]:=by rw [List.map_append,m1];simp [purge,DV.has]
    have e4:x53 [4,16,18,20] [] 4=[4]:=rfl
    rw [e4,m7]
    funext p
    by_cases h1:p=202
    ·subst h1;rfl
    ·by_cases h2:p=12
     ·subst h2
      show some [purge 202 N,.undef,.osl 3 203 0 i,purge 202 RW]=some [N,.undef,.osl 3 203 0 i,RW]
      rw [m5,m6]
     ·by_cases h3:p=6
      ·subst h3;show some (Z.map (purge 202))=some Z;rw [m3]
      ·by_cases h4:p=15
       ·subst h4;show some (C.map (purge 202))=some C;rw [m4]
       ·by_cases h5:p=203
        ·subst h5;show some (Y.map (purge 202))=some Y;rw [m2]
        ·simp only [Eff.onH,Heap.upd,Heap.purge,hlR,lkH,if_neg h1,if_neg (Ne.symm h1),if_neg (Ne.symm h2),if_neg (Ne.symm h3),if_neg (Ne.symm h4),if_neg (Ne.symm h5)];rfl
   ·intro o c he s hs hk2 hs2
    cases he
    cases hh:(T s).has 202 with
    | false=>rfl
    | true =>
     rcases tT s 202 hh (.inl rfl) with ⟨_,rfl|rfl⟩|⟨h,_⟩
     ·exfalso
      rcases hs2 with h|⟨q,q1,q2,y,hy,hys⟩
      ·revert h;decide
      ·exact q1 (x2y.1 q ⟨y,hy,hys⟩)
     ·exact absurd rfl hs
     ·cases h
  ·cases hx
   refine nq (d:=T 110) ?_ (fun s hs=>by cases hs;rfl) (by decide)
   simp [goD,opE,evS,t12,t110,e12]
  ·cases hx
   refine nq (d:=T 111) ?_ (fun s hs=>by cases hs;rfl) (by decide)
   obtain ⟨g1,g2⟩:=d6 hk
   simp [goD,opE,evS,t110,t111,e12,g1,g2,gd]
  ·cases hx
   refine nq (d:=T 112) ?_ (fun s hs=>by cases hs;rfl) (by decide)
   simp [goD,opE,evS,t15,t112,e15,hC]
  ·cases hx
   refine nq (d:=T 113) ?_ (fun s hs=>by cases hs;rfl) (by decide)
   simp [goD,opE,evS,t112,t113,e15,gd,hC]
   exact e3
  ·cases hx
   refine nq (d:=T 114) ?_ (fun s hs=>by cases hs;rfl) (by decide)
   simp [goD,opE,evS,t17,t114]
  ·cases hx
   refine nq (d:=T 115) ?_ (fun s hs=>by cases hs;rfl) (by decide)
   simp [goD,opE,evS,t113,t114,t115,gd,er];omega
  ·cases hx
   refine nq (d:=T 116) ?_ (fun s hs=>by cases hs;rfl) (by decide)
   simp [goD,opE,evS,t115,t116]
  ·cases hx
   refine nq (d:=T 117) ?_ (fun s hs=>by cases hs;rfl) (by decide)
   simp [goD,opE,evS,t116,t117,gd,hce];omega
  ·cases hx
   refine nq (d:=T 118) ?_ (fun s hs=>by cases hs;rfl) (by decide)
   simp [goD,opE,evS,t118,laid]
  ·cases hx
   refine nq (d:=T 119) ?_ (fun s hs=>by cases hs;rfl) (by decide)
   simp only [goD,List.map_cons,List.map_nil,evS,t117,t118,t119]
   exact ⟨hadd,rfl,trivial⟩
  ·cases hx
   refine nq (d:=T 120) ?_ (fun s hs=>by cases hs;rfl) (by decide)
   have hl:laid [DV.bool false,.nils,.nils] [(0,3,.agg (z0T v))]=some (z0T v):=rfl
   simp [goD,opE,evS,t119,t120,gd,hl]
   exact z1z v
  ·cases hx
   have hb:=d16 hk
   subst hb
   refine ⟨.osl 3 203 0 (i+1),.app 203 ((Y++z0T v).map (purge 203)),.inl ?_,fun s hs=>by cases hs;exact t121.symm,?_,?_⟩
   ·have hn3:=z1i v
    simp [goD,opE,evS,t111,t120,hlR,lkH,z0t,gd,hY,hn3]
    exact ⟨⟨by omega,by omega,z3N v⟩,by simp [cnt,hn3]⟩
   ·have m0:(X++[DV.sl 3 D]).map (purge 203)=X++[DV.sl 3 D]:=by rw [List.map_append,z0k 203 hXr];simp [purge,DV.has]
    have m3:=z0k 203 hZr
    have m4:=z0k 203 hCr
    have m5:=z1s 203 hN
    have m6:=z1s 203 hRW
    have m7:(Y++z0T v).map (purge 203)=Y++z0T v:=by rw [List.map_append,z0k 203 hYr,z0k 203 (z1z v)]
    have e4:x53 [4,16,18,20] [4] 16=[4,16]:=rfl
    rw [e4,m7]
    funext p
    by_cases h1:p=203
    ·subst h1;rfl
    ·by_cases h2:p=12
     ·subst h2
      show some [purge 203 N,.undef,.undef,purge 203 RW]=some [N,.undef,.undef,RW]
      rw [m5,m6]
     ·by_cases h3:p=6
      ·subst h3;show some (Z.map (purge 203))=some Z;rw [m3]
      ·by_cases h4:p=15
       ·subst h4;show some (C.map (purge 203))=some C;rw [m4]
       ·by_cases h5:p=202
        ·subst h5;show some ((X++[DV.sl 3 D]).map (purge 203))=some (X++[DV.sl 3 D]);rw [m0]
        ·simp only [Eff.onH,Heap.upd,Heap.purge,hlR,lkH,if_neg h1,if_neg (Ne.symm h1),if_neg (Ne.symm h2),if_neg (Ne.symm h3),if_neg (Ne.symm h4),if_neg (Ne.symm h5)];rfl
   ·intro o c he s hs hk2 hs2
    cases he
    cases hh:(T s).has 203 with
    | false=>rfl
    | true =>
     rcases tT s 203 hh (.inr rfl) with ⟨h,_⟩|⟨_,rfl|rfl⟩
     ·cases h
     ·exfalso
      rcases hs2 with h|⟨q,q1,q2,y,hy,hys⟩
      ·revert h;decide
      ·exact q1 (x2y.2 q ⟨y,hy,hys⟩)
     ·exact absurd rfl hs
  ·cases hx
   refine nq (d:=T 122) ?_ (fun s hs=>by cases hs;rfl) (by decide)
   simp [goD,opE,evS,t12,t122,e12]
  ·cases hx
   have hb:=d18 hk
   subst hb
   refine ⟨.tup [],.set 12 [N,.osl 1 202 0 (i+1),.undef,RW],.inl ?_,fun s hs=>(by cases hs),?_,fun o c h=>(by cases h)⟩
   ·simp [goD,opE,evS,t122,t109,hlR,lkH,gd,DV.one]
   ·have e4:x53 [4,16,18,20] [4,16] 18=[4,16,18]:=rfl
    rw [e4]
    funext p
    by_cases h1:p=12
    ·subst h1;rfl
    ·by_cases h2:p=6
     ·subst h2;rfl
     ·by_cases h3:p=15
      ·subst h3;rfl
      ·by_cases h4:p=202
       ·subst h4;rfl
       ·by_cases h5:p=203
        ·subst h5;rfl
        ·simp only [Eff.onH,Heap.upd,hlR,lkH,if_neg h1,if_neg (Ne.symm h1),if_neg (Ne.symm h2),if_neg (Ne.symm h3),if_neg (Ne.symm h4),if_neg (Ne.symm h5)]
  ·cases hx
   refine nq (d:=T 123) ?_ (fun s hs=>by cases hs;rfl) (by decide)
   simp [goD,opE,evS,t12,t123,e12]
  ·cases hx
   have hb:=d20 hk
   subst hb
   refine ⟨.tup [],.set 12 [N,.osl 1 202 0 (i+1),.osl 3 203 0 (i+1),RW],.inl ?_,fun s hs=>(by cases hs),?_,fun o c h=>(by cases h)⟩
   ·simp [goD,opE,evS,t123,t121,hlR,lkH,gd,DV.one]
   ·have e4:x53 [4,16,18,20] [4,16,18] 20=[4,16,18,20]:=rfl
    rw [e4]
    funext p
    by_cases h1:p=12
    ·subst h1;rfl
    ·by_cases h2:p=6
     ·subst h2;rfl
     ·by_cases h3:p=15
      ·subst h3;rfl
      ·by_cases h4:p=202
       ·subst h4;rfl
       ·by_cases h5:p=203
        ·subst h5;rfl
        ·simp only [Eff.onH,Heap.upd,hlR,lkH,if_neg h1,if_neg (Ne.symm h1),if_neg (Ne.symm h2),if_neg (Ne.symm h3),if_neg (Ne.symm h4),if_neg (Ne.symm h5)]
end Go.Proofs.YtlcagndeidjobaaGreatDoor
namespace Go.Proofs.YtlcagndeidjobaaGreatDoor
open Tryz
open Go Go.Dat Go.Proofs Go.RowKit Nat32
theorem w57:z0c prog 9 [.str [121,32,126,32,120]] (.agg (z1F (kM 0))):=z1Q z2g (n:=4000) (by kernel_rfl)
theorem w58:z0c prog 9 [.str [121,32,126,32,103]] (.agg (z1F (kM 1))):=z1Q z2g (n:=4000) (by kernel_rfl)
theorem w59:z0c prog 9 [.str [121,32,126,32,48,32,43,32,103]] (.agg (z1F (kM 2))):=z1Q z2g (n:=4000) (by kernel_rfl)
theorem w6a:z0c prog 9 [.str [121,32,126,32,120,32,42,32,103]] (.agg (z1F (kM 3))):=z1Q z2g (n:=4000) (by kernel_rfl)
theorem w6b:z0c prog 9 [.str [121,32,126,32,103,32,42,32,104]] (.agg (z1F (kM 4))):=z1Q z2g (n:=4000) (by kernel_rfl)
theorem w6c:z0c prog 9 [.str [121,32,126,32,103,32,47,32,104]] (.agg (z1F (kM 5))):=z1Q z2g (n:=4000) (by kernel_rfl)
theorem w6d:z0c prog 9 [.str [121,32,126,32,103,58,104]] (.agg (z1F (kM 6))):=z1Q z2g (n:=4000) (by kernel_rfl)
theorem w6e:z0c prog 9 [.str [121,32,126,32,120,32,43,32,104,32,45,32,49]] (.agg (z1F (kM 7))):=z1Q z2g (n:=4000) (by kernel_rfl)
theorem w6f:z0c prog 9 [.str [121,32,126,32,112,111,119,101,114,40,120,44,32,50,41,32,43,32,120]] (.agg (z1F (kM 8))):=z1Q z2g (n:=4000) (by kernel_rfl)
theorem w6g:z0c prog 9 [.str [121,32,126,32,120,58,103,32,43,32,120]] (.agg (z1F (kM 9))):=z1Q z2g (n:=4000) (by kernel_rfl)
theorem w4i:z0c prog 9 [.str [121,32,126,32,49]] (.agg [.str [121],.bool true,.nils]):=z1Q z2g (n:=4000) (by kernel_rfl)
theorem w4j:z0c prog 9 [.str [121,32,126,32,103,32,43,32,104,32,43,32,120]] (.agg (z1F (kM 11))):=z1Q z2g (n:=4000) (by kernel_rfl)
end Go.Proofs.YtlcagndeidjobaaGreatDoor
namespace Go.Proofs.YtlcagndeidjobaaGreatDoor
open Tryz
open Go Go.Dat Go.Proofs Go.RowKit Go.Lib Nat32
theorem x9p {v:Rat} {w:Nat} (h:BS v w) (hw:w≤140800):z0c prog 38 [.agg (z0T v),.agg [.bool false,.nils,.nils]] (.agg (z0T v)):=by
 have h1:=y56 (l:=4400) h (by omega)
 have:=w4Y (x:=qX v) (z0e _) (z2U _) h1.1 (Nat.le_trans (y8A _) h1.2)
 rw [x1V] at this
 exact this
theorem z41 {n:Nat} {S:List Kx} {m:Mdl} {cod:Nat} (h:DKt n S m cod) (hx:DX n S m) (hw:y0b S m cod m.tm.length≤12) :
  z0c prog 12 [.agg [.int .i64 n,.sl 4 (kxs S)],.agg (z1F m),.int .i64 cod] (if (z1R n S m).length=0 then .tup [.agg [.nils,.nils,.nils,.nils],.int .i64 10] else .tup [w3c n S m cod,.int .i64 0]):=by
 have c1:=y0d h hx
 have c2:=z8R h hw
 have hvr:m.rs∈z13 m:=List.mem_cons_self
 have c3:=z16 n S m cod m.rs h.ok h.tv (h.vs _ hvr)
 have hca:(DV.agg [.int .i64 n,.sl 4 (kxs S)]).cells? = some [.int .i64 n,.sl 4 (kxs S)]:=rfl
 have hcm:(DV.agg (z1F m)).cells? = some (z1F m):=rfl
 have hm3:(z1F m).length=3:=rfl
 have hm0:∀x,(z1F m).getD 0 x=.str m.rs:=fun _=>rfl
 have hmr:(z1F m).all DV.rf=true:=rfl
 have hmt:(z1F m).take 3=z1F m:=rfl
 have hbl:laid [DV.int .i64 0,.nils,.str [],.bool false,.nils,.int .i64 0] [(0,2,.agg [.int .i64 n,.sl 4 (kxs S)]),(2,3,.agg (z1F m)),(5,1,.int .i64 cod)]=some (z5c n S m cod):=rfl
 have hcb:(DV.agg (z5c n S m cod)).cells? = some (z5c n S m cod):=rfl
 have hrb:∀d∈z5c n S m cod,d.rf=true:=List.all_eq_true.1 rfl
 have hnb:z5c n S m cod≠[]:=fun e=>by cases e
 have hl0:laid [DV.nils,.nils,.nils,.nils] []=some [.nils,.nils,.nils,.nils]:=rfl
 have hs4:∀(a b c d:DV) (C:List DV),List.take 0 [a,b,c,d]++C++List.drop 4 [a,b,c,d]=C:=fun _ _ _ _ _=>by simp
 have hs2:∀(a b:DV) (C:List DV),List.take 0 [a,b]++C++List.drop 2 [a,b]=C:=fun _ _ _=>by simp
 have hGok:=x35 h (Nat.le_refl m.tm.length)
 have hrl:=z28 (z1R n S m)
 have hrn:(z1R n S m).length≤n:=z8d _ _
 have hn64:=hx.n64
 have hRok:∀i,i<(z1R n S m).length→w4P n S m ((z1R n S m).getD i 0):=fun i hi=>x5p (x7T hi)
 refine z0b x0z (by simp [z1Y]) ?_
 unfold z4e
 have hdes:w3c n S m cod=.agg [.sl 1 (z0L (y00 S m cod)),.sl 1 (rwU S m cod (z1R n S m) (z1R n S m).length),.sl 3 (nums (yU S m (z1R n S m) (z1R n S m).length)),.sl 1 (ints (z1R n S m))]:=by
  unfold w3c rwU yU;rw [List.take_length]
 rw [hdes]
 generalize z1R n S m=R at *
 generalize hB:z5c n S m cod=B at *
 refine zS (zA hca (zA hcm (zA hm3 (zA hmt (zA hbl (zA hcb (zA @List.drop_zero.{0} @cS))))))) ?_
 refine ⟨⟨hnb,hrb⟩,?_⟩
 refine zR ?_
 refine cP c1 ?_
 refine zR ?_
 refine wF ?_
 by_cases hR0:R.length=0
 ·have d0:decide ((R.length:Int)=0)=true:=zT9
  rw [if_pos hR0]
  refine zS (zA hrl d0) ?_
  refine wT ?_
  refine zS (zA hl0 (zA hs4 @cS)) ?_
  exact z0i (y57 rfl rfl rfl (.imm rfl) (.imm rfl))
 have d0:decide ((R.length:Int)=0)=false:=zF9
 have d64:decide ((64:Int)<(R.length:Int))=false:=zF9
 rw [if_neg hR0]
 refine zS (zA hrl d0) ?_
 refine wF ?_
 refine zS (zA hrl d64) ?_
 refine wFs ?_
 refine zR ?_
 refine cP c2 ?_
 refine zR ?_
 refine wFs ?_
 have hlr:∀x,laid [DV.nils,.nils,.nils,.nils] [(3,1,.sl 1 x)]=some [.nils,.nils,.nils,.sl 1 x]:=fun _=>rfl
 have hll:=z2C (z3o S m cod m.tm.length)
 have hll2:(z3o S m cod m.tm.length).length*2 / 2=(z3o S m cod m.tm.length).length:=by omega
 generalize hGG:z3o S m cod m.tm.length=G at *
 have hGl:G.length=(z3n S m cod m.tm.length).length:=hGok.1
 have hDl:(z3n S m cod m.tm.length).length≤40:=by
  have h1:=List.length_filter_le (y1E S m cod) (m.tm.take m.tm.length)
  rw [List.length_take] at h1
  have h2:=h.tl.1
  unfold z3n icL
  rw [List.length_append,List.length_map]
  split
  ·simp only [List.length_cons,List.length_nil];omega
  ·simp only [List.length_nil];omega
 have hnmG:∀i,i<G.length→(G.getD i default).nm.length≤729:=fun i hi=>by
  rw [(hGok.2 i hi).1];exact (z6t h (by omega)).1
 have hnmL:∀i,i≤G.length→(nmU G i).length≤i*729:=fun i=>by
  induction i with
  | zero=>intro _;simp [nmU]
  | succ i ih =>
   intro hi
   rw [y9x hi,List.length_append,Nat.succ_mul]
   have:=hnmG i hi
   have:=ih (by omega)
   omega
 have hnmE:nmU G G.length=y00 S m cod:=by
  unfold nmU
  rw [List.take_length,←w3d]
  have e1:G.flatMap Grp.nm=(G.map Grp.nm).flatten:=by rw [List.flatMap_def]
  have e2:(z3n S m cod m.tm.length).flatMap Prod.fst=((z3n S m cod m.tm.length).map Prod.fst).flatten:=by rw [List.flatMap_def]
  rw [e1,e2,hGok.names]
 refine z1P 4 (cells:=z1F m) rfl hmr ?_
 refine z25 3 ?_
 have f4:purge 3 (z2e 4 (z1F m) (.ptr 4 0))=.el (z1F m) 0:=rfl
 have f6:purge 3 (z2e 4 (z1F m) (.ptr 6 0))=.ptr 6 0:=rfl
 have f8:purge 3 (z2e 4 (z1F m) (.el B 0))=.el B 0:=rfl
 have fs:∀z x,purge 3 (z2e 4 (z1F m) (.sl z x))=.sl z x:=fun _ _=>rfl
 have fi:∀z:Int,purge 3 (z2e 4 (z1F m) (.int .i64 z))=.int .i64 z:=fun _=>rfl
 have fn:purge 3 (frz 4 (z1F m) .nils)=.nils:=rfl
 have hn6:rmP 3 (rmH 4 (z1F m) [(3,[.int .i64 n,.sl 4 (kxs S)]),(4,z1F m),(6,[.nils,.nils,.nils,.nils])])=[(6,[.nils,.nils,.nils,.nils])]:=rfl
 rw [hn6]
 repeat (first|refine z0d ?_|refine z0g ?_|refine z0p ?_|refine z0f ?_|refine And.intro (by omega) ?_|simp (maxSteps:=1000000) (disch:=omega) only [cA,cB,cN,FnD.nb,lk,lkH,Dst.onT,Dst.onX,Dst.slot,z0W,z0N,z0J,z0X,z0u,z0V,unE,cnt,z0j,z0t,z0m,z0o,opE,rmH,z02,z0n,Nat.reduceEqDiff,Nat.reduceLT,Nat.reduceAdd,Nat.reduceMul,Nat.reduceMod,↓reduceIte,reduceCtorEq,Nat.reduceLeDiff,f4,f6,f8,fs,fi,hlr,hs4,hll,hll2,cS])
 have hga:=z5f
 have hg2:=z1y
 have hgt:∀g,(gpC g).take 2=gpC g:=fun _=>rfl
 have hg0:∀g x,(gpC g).getD 0 x=.sl 1 (z0L g.nm):=fun _ _=>rfl
 have hg1:∀g x,(gpC g).getD 1 x=g.cl:=fun _ _=>rfl
 have pu:∀o p k,p<100→199<o→purge o (.ptr p k)=.ptr p k:=fun o p k h1 h2=>by simp [purge,DV.has,show p≠o by omega]
 have pw:∀o p k,p≠o→purge o (.ptr p k)=.ptr p k:=fun o p k h1=>by simp [purge,DV.has,h1]
 have po:∀o p s k n,p≠o→purge o (.osl s p k n)=.osl s p k n:=fun o p s k n h=>by simp [purge,DV.has,h]
 have pn:∀o,purge o .nils=.nils:=fun o=>by simp [purge,DV.has]
 have ps:∀o z x,purge o (.sl z x)=.sl z x:=fun o z x=>by simp [purge,DV.has]
 have pi:∀o (z:Int),purge o (.int .i64 z)=.int .i64 z:=fun o z=>by simp [purge,DV.has]
 refine z8l 12 0 1 200 (cells:=[.nils,.nils,.nils,.sl 1 (ints R)]) rfl rfl rfl ?_
 refine z0v (σ:=Nat) (fun i=>[(4,.el (z1F m) 0),(6,.ptr 6 0),(7,.int .i64 0),(8,.el B 0),(9,.sl 1 (ints R)),(11,.sl 2 (gps G)),(12,.ptr 12 0),(59,.sl 2 (gps G)),(60,.int .i64 G.length),(61,.int .i64 i)])
  (fun i=>[(6,[.nils,.nils,.nils,.nils]),(12,[.osl 1 200 0 (nmU G i).length,.nils,.nils,.sl 1 (ints R)]),(200,z0L (nmU G i))]) (fun i=>i≤G.length) (fun i=>G.length - i) 0 (Nat.zero_le _) ?_ rfl ?_
 ·simp [z0y,lk]
 ·intro i hi
  try simp only at hi ⊢
  by_cases hlt:i<G.length
  ·have dl:decide ((i:Int)<(G.length:Int))=true:=zT9
   have ei:(i:Int).toNat=i:=Int.toNat_natCast i
   have e1:((i:Int)+1)=((i+1:Nat):Int):=by omega
   have hw2:((gps G).drop (i*2)).take 2=gpC (G.getD i default):=z1m (j:=0) z1y default hlt (Nat.le_refl _)
   have hsu:=y9x hlt
   have hgl:=hnmG i hlt
   have hnl:=hnmL i hi
   have hi33:i*729≤40*729:=Nat.mul_le_mul_right _ (by omega)
   generalize G.getD i default=g at *
   have hsl:=z0K g.nm
   have hsl2:=z0K (nmU G i)
   have hsn:z0L (nmU G i)++z0L g.nm=z0L (nmU G (i+1)):=by rw [hsu];unfold z0L;rw [List.map_append]
   have hsr:=z2H g.nm
   have hso:∀d∈z0L g.nm,d.one=true:=fun d hd=>by
    unfold z0L at hd
    obtain ⟨_,_,rfl⟩:=List.mem_map.1 hd
    rfl
   have hlen2:(nmU G (i+1)).length=(nmU G i).length+g.nm.length:=by rw [hsu,List.length_append]
   have q1:=z0k 200 (z2H (nmU G (i+1)))
   have q2:=z0k 200 (z35 g)
   have q3:=z0k 14 (z2H (nmU G (i+1)))
   refine zS dl ?_
   refine wTs ?_
   refine z0d ?_
   refine z0f ?_
   refine zS (zA ei (zA hll (zA hw2 (zA hga (zA hg2 (zA hgt (zA hg0 (zA hs2 (zA hsl (zA hsl2 (zA @List.drop_zero.{0} @cS))))))))))) ?_
   refine ⟨⟨by omega,by omega,fun h=>h,hso⟩,?_⟩
   rw [hsn,q1]
   refine zE pu ?_
   refine ⟨rfl,?_⟩
   refine z25 14 ?_
   repeat (first|refine z0d ?_|refine z0g ?_|refine z0p ?_|refine z0f ?_|refine And.intro (by omega) ?_|simp (maxSteps:=1000000) (disch:=omega) only [cA,cB,cN,FnD.nb,lk,lkH,Dst.onT,Dst.onX,Dst.slot,z0W,z0N,z0J,z0X,z0u,z0V,unE,cnt,z0j,z0t,z0m,z0o,opE,rmH,z02,z0n,Nat.reduceEqDiff,Nat.reduceLT,Nat.reduceAdd,Nat.reduceMul,Nat.reduceMod,↓reduceIte,reduceCtorEq,Nat.reduceLeDiff,rmP,pw,po,pn,ps,pi,q3,e1,hlen2])
   exact ⟨i+1,by omega,by omega,by simp [z0y,lk],by rw [hlen2]⟩
  ·have dl:decide ((i:Int)<(G.length:Int))=false:=zF9
   obtain rfl:i=G.length:=by omega
   rw [hnmE]
   have hNl:=z0K (y00 S m cod)
   have hNr:=z2H (y00 S m cod)
   refine z0I 200 (cells:=z0L (y00 S m cod)) rfl (List.all_eq_true.2 hNr) ?_
   have hfz:frz 200 (z0L (y00 S m cod)) (.osl 1 200 0 (y00 S m cod).length)=.sl 1 (z0L (y00 S m cod)):=by
    simp [frz,hNl]
    rw [List.take_of_length_le (by omega)]
   have fp:∀o cs p k,p≠o→frz o cs (.ptr p k)=.ptr p k:=fun o cs p k h=>by simp [frz,purge,DV.has,h]
   have fsl:∀o cs z x,frz o cs (.sl z x)=.sl z x:=fun o cs z x=>by simp [frz,purge,DV.has]
   have fin:∀o cs (z:Int),frz o cs (.int .i64 z)=.int .i64 z:=fun o cs z=>by simp [frz,purge,DV.has]
   have fel:∀o cs x k,frz o cs (.el x k)=.el x k:=fun o cs x k=>by simp [frz,purge,DV.has]
   have fnl:∀o cs,frz o cs .nils=.nils:=fun o cs=>by simp [frz,purge,DV.has]
   have hck:∀k,(DV.agg (kxC k)).cells? = some (kxC k):=fun _=>rfl
   have hk4:=z00
   refine zS (zA dl (zA hfz (zA fp (zA fsl (zA fin (zA fel fnl)))))) ?_
   refine z0l rfl (fun h=>by cases h) (fun _=>z0q ?_)
   refine zS (zA hm0 (zA hm3 @cS)) ?_
   refine cP c3 ?_
   refine zS (zA hck (zA hk4 (zA hs4 (zA hrl @cS)))) ?_
   have hKm:=z8P (h.vs _ hvr)
   obtain ⟨_,hKl,_,_,_⟩:=z91 h.tv hKm
   have hdy:∀r,x1X S m r=xnV ((z4T S m.rs).ce.getD r default).va:=fun _=>rfl
   have hKn:=h.nu _ hKm
   generalize hKe:z4T S m.rs=K at *
   have hk3:∀x,(kxC K).getD 3 x=.sl 5 (cxs K.ce):=fun _=>rfl
   have hkl:=z00 K
   have hkr:=z29 K
   have hcx:=z2A K.ce
   have hcc:∀x:Rat,(DV.agg (z0T x)).cells? = some (z0T x):=fun _=>rfl
   have hn3:=z1i
   have ht3:∀x:Rat,(z0T x).take 3=z0T x:=fun _=>rfl
   have hs3:∀(a b c:DV) (C:List DV),List.take 0 [a,b,c]++C++List.drop 3 [a,b,c]=C:=fun _ _ _ _=>by simp
   have hld:∀x:Rat,laid [DV.bool false,.nils,.nils] [(0,3,.agg (z0T x))]=some (z0T x):=fun _=>rfl
   have hlz:laid [DV.bool false,.nils,.nils] []=some [.bool false,.nils,.nils]:=rfl
   have hlx:∀x,laid [DV.nils] [(0,1,.sl 3 x)]=some [.sl 3 x]:=fun _=>rfl
   have h33:3 / 3=1:=rfl
   have mf:∀o cs,(kxC K).map (frz o cs)=kxC K:=fun o cs=>z1p o cs hkr
   have mp:∀o,(kxC K).map (purge o)=kxC K:=fun o=>z0k o hkr
   generalize hkx:kxC K=C15 at *
   refine z8l 12 1 1 202 (cells:=[.sl 1 (z0L (y00 S m cod)),.nils,.nils,.sl 1 (ints R)]) rfl rfl rfl ?_
   refine z8l 12 2 3 203 (cells:=[.sl 1 (z0L (y00 S m cod)),.osl 1 202 0 0,.nils,.sl 1 (ints R)]) rfl rfl rfl ?_
   refine z0v (σ:=Nat) (fun i=>[(6,.ptr 6 0),(11,.sl 2 (gps G)),(12,.ptr 12 0),(15,.ptr 15 0),(76,.sl 1 (ints R)),(77,.int .i64 R.length),(78,.int .i64 i)])
    (fun i=>[(6,[.nils,.nils,.nils,.nils]),(12,[.sl 1 (z0L (y00 S m cod)),.osl 1 202 0 i,.osl 3 203 0 i,.sl 1 (ints R)]),(15,C15),(202,rwU S m cod R i),(203,nums (yU S m R i))]) (fun i=>i≤R.length) (fun i=>R.length - i) 0 (Nat.zero_le _) ?_ rfl ?_
   ·simp [z0y,lk]
   ·intro i hi
    try simp only at hi ⊢
    by_cases hlt:i<R.length
    ·have dl:decide ((i:Int)<(R.length:Int))=true:=zT9
     have ei:(i:Int).toNat=i:=Int.toNat_natCast i
     have e1:((i:Int)+1)=((i+1:Nat):Int):=by omega
     have hgr:=y9R hlt .undef
     have hok:=hRok i hlt
     have hxs:=x7V (S:=S) (m:=m) (cod:=cod) hlt
     have hys:=w2B (S:=S) (m:=m) hlt
     have hxl:=x5s (S:=S) (m:=m) (cod:=cod) hi
     have hyl:=x9F (S:=S) (m:=m) hi
     generalize R.getD i 0=r at *
     have hrn2:r<n:=hok.1
     have hvl:=fun j (hj:j≤(z3n S m cod m.tm.length).length)=>x5S h hrn2 hj
     refine zS dl ?_
     refine wTs ?_
     refine z0d ?_
     refine z0f ?_
     refine z0d ?_
     refine z0g ?_
     refine zE (zA ei (zA hrl hgr)) ?_
     refine ⟨⟨by omega,by omega⟩,by omega,?_⟩
     refine z0d ?_
     refine z0g ?_
     refine zD ?_
     refine z4a 18 3 204 rfl rfl ?_
     refine zS (zA hll hll2) ?_
     refine z0v (σ:=Nat) (fun j=>[(6,.ptr 6 0),(11,.sl 2 (gps G)),(12,.ptr 12 0),(15,.ptr 15 0),(17,.int .i64 r),(18,.osl 3 204 0 (vlU (z3n S m cod m.tm.length) r j).length),(76,.sl 1 (ints R)),(77,.int .i64 R.length),(78,.int .i64 i),(82,.sl 2 (gps G)),(83,.int .i64 G.length),(84,.int .i64 j)])
      (fun j=>[(6,[.nils,.nils,.nils,.nils]),(12,[.sl 1 (z0L (y00 S m cod)),.osl 1 202 0 i,.osl 3 203 0 i,.sl 1 (ints R)]),(15,C15),(202,rwU S m cod R i),(203,nums (yU S m R i)),(204,nums (vlU (z3n S m cod m.tm.length) r j))]) (fun j=>j≤G.length) (fun j=>G.length - j) 0 (Nat.zero_le _) ?_ ?_ ?_
     ·simp [z0y,lk,vlU]
     ·rfl
     ·intro j hj
      try simp only at hj ⊢
      by_cases hlj:j<G.length
      ·have dj:decide ((j:Int)<(G.length:Int))=true:=zT9
       have ej:(j:Int).toNat=j:=Int.toNat_natCast j
       have ej1:((j:Int)+1)=((j+1:Nat):Int):=by omega
       have hw2:((gps G).drop (j*2)).take 2=gpC (G.getD j default):=z1m (j:=0) z1y default hlj (Nat.le_refl _)
       obtain ⟨_,hGV⟩:=hGok.2 j hlj
       obtain ⟨fg,cg,vg,kg,rg,pg⟩:=hGV r hok
       have hsu:=y99 (r:=r) (show j<(z3n S m cod m.tm.length).length by omega)
       obtain ⟨_,hfl⟩:=z6t h (show j<(z3n S m cod m.tm.length).length by omega)
       obtain ⟨hf1,hf2⟩:=hfl r hrn2
       have hvj:=hvl j (by omega)
       have hj40:j*729≤40*729:=Nat.mul_le_mul_right _ (by omega)
       generalize ((z3n S m cod m.tm.length).getD j default).2 r=lv at *
       generalize G.getD j default=g at *
       generalize hV:vlU (z3n S m cod m.tm.length) r j=V at *
       have hlvl:=z1A lv
       have hlv3:lv.length*3 / 3=lv.length:=by omega
       refine zS dj ?_
       refine wTs ?_
       refine z0d ?_
       refine z0f ?_
       refine z0d ?_
       refine z0g ?_
       refine zE (zA ej (zA hll (zA hw2 (zA hga (zA hg2 (zA hgt hs2)))))) ?_
       refine ⟨⟨by omega,by omega⟩,by omega,?_⟩
       refine z0d ?_
       refine z3D [ot 88 (.fad 1 (.x 20)),ot 89 (.ld (.t 88)),om 90 17] [ox 92 (.len 3 (.x 91)),ox 93 (.mv (oi 0))] (.x 91) (.t 89) [.t 90] rfl ?_
       refine zE (zA hg1 hg2) ?_
       refine ⟨fg,cg,vg,kg,z1G pg (by rw [List.all_append,rg];rfl) ?_⟩
       refine zE (zA hlvl hlv3) ?_
       refine z0f ?_
       have u1:=z0k 20 (y1Q S m cod R i)
       have u2:=z0k 20 (z1q (yU S m R i))
       have u3:=z0k 20 (z1q V)
       have pb:∀o (z:Bool),purge o (.bool z)=.bool z:=fun o z=>by simp [purge,DV.has]
       refine z25 20 ?_
       simp (maxSteps:=1000000) (disch:=omega) only [cA,cB,cN,FnD.nb,lk,lkH,Dst.onT,Dst.onX,Dst.slot,z0W,z0N,z0J,z0X,z0u,z0V,unE,cnt,z0j,z0t,z0m,z0o,opE,rmH,z02,z0n,Nat.reduceEqDiff,Nat.reduceLT,Nat.reduceAdd,Nat.reduceMul,Nat.reduceMod,↓reduceIte,reduceCtorEq,Nat.reduceLeDiff,rmP,pw,po,pn,ps,pi,pb,mp,u1,u2,u3]
       refine z0v (σ:=Nat) (fun k=>[(6,.ptr 6 0),(11,.sl 2 (gps G)),(12,.ptr 12 0),(15,.ptr 15 0),(17,.int .i64 r),(18,.osl 3 204 0 (V.length+k)),(76,.sl 1 (ints R)),(77,.int .i64 R.length),(78,.int .i64 i),(82,.sl 2 (gps G)),(83,.int .i64 G.length),(84,.int .i64 j),(91,.sl 3 (nums lv)),(92,.int .i64 lv.length),(93,.int .i64 k)])
        (fun k=>[(6,[.nils,.nils,.nils,.nils]),(12,[.sl 1 (z0L (y00 S m cod)),.osl 1 202 0 i,.osl 3 203 0 i,.sl 1 (ints R)]),(15,C15),(202,rwU S m cod R i),(203,nums (yU S m R i)),(204,nums (V++lv.take k))]) (fun k=>k≤lv.length) (fun k=>lv.length - k) 0 (Nat.zero_le _) ?_ ?_ ?_
       ·simp [z0y,lk,purge,DV.has]
       ·simp
       ·intro k hk
        try simp only at hk ⊢
        by_cases hlk:k<lv.length
        ·have dk:decide ((k:Int)<(lv.length:Int))=true:=zT9
         have ek:(k:Int).toNat=k:=Int.toNat_natCast k
         have ek1:((k:Int)+1)=((k+1:Nat):Int):=by omega
         have hwk:((nums lv).drop (k*3)).take 3=z0T (lv.getD k 0):=z1m (j:=0) z1i 0 hlk (Nat.le_refl _)
         have hxb:=hf2 (lv.getD k 0) (by rw [zO1,zO4 hlk];exact List.getElem_mem hlk)
         have hsn:nums (V++lv.take k)++z0T (lv.getD k 0)=nums (V++lv.take (k+1)):=by rw [z4s,z0z 0 hlk,List.append_assoc]
         have ct:=x9p hxb (by decide)
         have hnl:(nums (V++lv.take k)).length=(V.length+k)*3:=by rw [z1A,List.length_append,List.length_take,show min k lv.length=k by omega]
         generalize lv.getD k 0=x at *
         have w1:=z0k 204 (z1q (V++lv.take (k+1)))
         have w2:=z0k 204 (y1Q S m cod R i)
         have w3:=z0k 204 (z1q (yU S m R i))
         have w4:=z0k 204 (z1z x)
         have z1:=z0k 22 (z1q (V++lv.take (k+1)))
         have z2:=z0k 22 (y1Q S m cod R i)
         have z3:=z0k 22 (z1q (yU S m R i))
         have y1:=z3N x
         have y2:=z1z x
         refine zS dk ?_
         refine wTs ?_
         refine z0d ?_
         refine z0f ?_
         refine zS (zA ek (zA hlvl (zA hwk (zA hcc (zA hn3 (zA ht3 (zA hs3 (zA hlz (zA @List.drop_zero.{0} @cS))))))))) ?_
         refine cP ct ?_
         refine zS (zA hcc (zA hn3 (zA ht3 (zA hld (zA hnl h33))))) ?_
         refine ⟨⟨by omega,by omega,fun h=>h,y1⟩,?_⟩
         rw [hsn,w1]
         refine z25 22 ?_
         repeat (first|refine z0d ?_|refine z0g ?_|refine z0p ?_|refine z0f ?_|refine And.intro (by omega) ?_|simp (maxSteps:=1000000) (disch:=omega) only [cA,cB,cN,FnD.nb,lk,lkH,Dst.onT,Dst.onX,Dst.slot,z0W,z0N,z0J,z0X,z0u,z0V,unE,cnt,z0j,z0t,z0m,z0o,opE,rmH,z02,z0n,Nat.reduceEqDiff,Nat.reduceLT,Nat.reduceAdd,Nat.reduceMul,Nat.reduceMod,↓reduceIte,reduceCtorEq,Nat.reduceLeDiff,rmP,pw,po,pn,ps,pi,pb,mp,pu,w2,w3,z1,z2,z3])
         exact ⟨k+1,by omega,by omega,by simp [z0y,lk,purge,DV.has,Nat.add_assoc],rfl⟩
        ·have dk:decide ((k:Int)<(lv.length:Int))=false:=zF9
         obtain rfl:k=lv.length:=by omega
         have htk:lv.take lv.length=lv:=List.take_length
         have hl2:(vlU (z3n S m cod m.tm.length) r (j+1)).length=V.length+lv.length:=by rw [hsu,List.length_append]
         rw [htk,←hsu]
         refine zS dk ?_
         refine z0l rfl (fun h=>by cases h) (fun _=>z0q ?_)
         refine zS ej1 ?_
         exact ⟨j+1,by omega,by omega,by simp [z0y,lk,hl2],rfl⟩
      ·have dj:decide ((j:Int)<(G.length:Int))=false:=zF9
       obtain rfl:j=G.length:=by omega
       have hve:vlU (z3n S m cod m.tm.length) r G.length=z98 S m cod r:=by rw [hGl];exact w2s r
       have hvj:=hvl G.length (by omega)
       have hj40:G.length*729≤40*729:=Nat.mul_le_mul_right _ (by omega)
       rw [hve] at hvj ⊢
       generalize z98 S m cod r=D at *
       have hDr:=z1q D
       have hDn:=z1A D
       refine z0I 204 (cells:=nums D) rfl (List.all_eq_true.2 hDr) ?_
       have hfz:frz 204 (nums D) (.osl 3 204 0 D.length)=.sl 3 (nums D):=by
        simp [frz,hDn]
        rw [List.take_of_length_le (by omega)]
       have fo:∀o cs z p k m,p≠o→frz o cs (.osl z p k m)=.osl z p k m:=fun o cs z p k m h=>z1H _ _ _ _ _ h
       have v1:=z1p 204 (nums D) (y1Q S m cod R i)
       have v2:=z1p 204 (nums D) (z1q (yU S m R i))
       refine zS (zA dj (zA hfz (zA fp (zA fsl (zA fin (zA fel (zA fnl (zA fo (zA mf (zA v1 v2)))))))))) ?_
       refine z0l rfl (fun h=>by cases h) (fun _=>z0q ?_)
       refine zR ?_
       have hrc:r<K.ce.length:=by omega
       have hkv:((cxs K.ce).drop (r*5+1)).take 3=z0T (x1X S m r):=by
        have h1:((cxs K.ce).drop (r*5+1)).take 3=((cxC (K.ce.getD r default)).drop 1).take 3:=z1m z1V default hrc (by decide)
        rw [h1,hdy]
        show xnC (K.ce.getD r default).va=xnC (qX (xnV (K.ce.getD r default).va))
        rw [←(hKn _ (z6j hrc)).1]
       have hyb:BS (x1X S m r) 100:=by rw [hdy];exact (hKn _ (z6j hrc)).2
       refine w3i (i:=i) (r:=r) (v:=x1X S m r) (D:=nums D) (X:=rwU S m cod R i) (Y:=nums (yU S m R i)) (C:=C15) (ce:=cxs K.ce) (Z:=[.nils,.nils,.nils,.nils]) (N:=.sl 1 (z0L (y00 S m cod))) (RW:=.sl 1 (ints R)) rfl rfl rfl rfl hkl hk3 hkv (by omega) hxl hyl (by omega) (y1Q _ _ _ _ _) (z1q _) hkr (List.all_eq_true.1 rfl) rfl rfl (x9p hyb (by decide)) ?_ ?_
       ·exact fun s _=>⟨x89 (by simp [DV.has]) s,x89 (by simp [DV.has]) s⟩
       ·have hq:hlR (.sl 1 (z0L (y00 S m cod))) (.sl 1 (ints R)) [.nils,.nils,.nils,.nils] C15 (rwU S m cod R i) (nums (yU S m R i)) (nums D) (z0T (x1X S m r)) i [4,16,18,20]=[(6,[DV.nils,.nils,.nils,.nils]),(12,[.sl 1 (z0L (y00 S m cod)),.osl 1 202 0 (i+1),.osl 3 203 0 (i+1),.sl 1 (ints R)]),(15,C15),(202,rwU S m cod R i++[.sl 3 (nums D)]),(203,nums (yU S m R i)++z0T (x1X S m r))]:=rfl
        rw [hq,hxs,hys]
        refine zS e1 ?_
        exact ⟨i+1,by omega,by omega,by simp [z0y,lk],rfl⟩
    ·have dl:decide ((i:Int)<(R.length:Int))=false:=zF9
     obtain rfl:i=R.length:=by omega
     have hx1:=y1Q S m cod R R.length
     have hx2:=x5s (S:=S) (m:=m) (cod:=cod) (Nat.le_refl R.length)
     have hy1:=z1q (yU S m R R.length)
     have hy2:=x9F (S:=S) (m:=m) (Nat.le_refl R.length)
     have v1:=z1p 202 (rwU S m cod R R.length) hy1
     have fo:∀o cs z p k m,p≠o→frz o cs (.osl z p k m)=.osl z p k m:=fun o cs z p k m h=>z1H _ _ _ _ _ h
     generalize rwU S m cod R R.length=X at *
     generalize nums (yU S m R R.length)=Y at *
     have hfx:frz 202 X (.osl 1 202 0 R.length)=.sl 1 X:=by
      simp [frz,hx2]
      rw [List.take_of_length_le (by omega)]
     have hfy:frz 203 Y (.osl 3 203 0 R.length)=.sl 3 Y:=by
      simp [frz,hy2]
      rw [List.take_of_length_le (by omega)]
     refine z0I 202 (cells:=X) rfl (List.all_eq_true.2 hx1) ?_
     refine z0I 203 (cells:=Y) (by simp [rmH,lkH,v1]) (List.all_eq_true.2 hy1) ?_
     refine zS (zA dl (zA hfx (zA hfy (zA fp (zA fsl (zA fin (zA fel (zA fnl (zA fo mf))))))))) ?_
     refine z0l rfl (fun h=>by cases h) (fun _=>z0q ?_)
     refine zS (zA hs4 @cS) ?_
     exact z0i (y57 rfl rfl rfl (.imm (by simp [DV.rf,DV.rfL])) (.imm rfl))
end Go.Proofs.YtlcagndeidjobaaGreatDoor
namespace Go.Proofs.YtlcagndeidjobaaGreatDoor
open Tryz
open Go Go.Dat Go.Proofs Go.RowKit Nat32
theorem w6k (n:Int) (K:List DV) (cod:Int):(List.range 19).all (fun i=>(kM i).tm.all fun t=>t.all fun f=>evB mdT 1000 217 [.el [.int .i64 n,.sl 4 K,.str (kM i).rs,.bool (kM i).ic,.sl 1 (tmD (kM i).tm),.int .i64 cod] 0,.sl 2 (fcs (t.filter fun x=>!decide (x=f)))] (.bool (x1i (kM i) (t.filter fun x=>!decide (x=f)))))=true:=by kernel_rfl
theorem w4n:(List.range 10).all (fun i=>evB mdT 2000 76 [.agg (z1F (kM i))] (.bool true))=true:=by kernel_rfl
theorem w4o:([10,11,12,13,14,15,16,17,18].all fun i=>evB mdT 2000 76 [.agg (z1F (kM i))] (.bool true))=true:=by kernel_rfl
theorem w6l:(List.range 19).all (fun i=>evB mdT 2000 78 [.agg (z1F (kM i))] (.sl 1 (z0L (z13 (kM i)))))=true:=by kernel_rfl
theorem w6o:(List.range 12).all (fun i=>evB mdT 2000 93 [.agg (z1F (kM i))] (.bool true))=true:=by kernel_rfl
theorem w6m:(List.range 12).all (fun i=>evB mdT 2000 41 [.agg (z1F (kM i))] (.sl 1 (z0L (z13 (kM i)))))=true:=by kernel_rfl
noncomputable def woT:Tb:=([(99,efF prog Tryz.f99 [0,1,4] [1000004]),(98,efF prog Tryz.f98 [0,1,2,4,5,8,15,24] []),(172,efF prog Tryz.f172 [0,1,4,5,10,14,23] []),(130,efF prog Tryz.f130 [0,1,3,4,5,9,17] [])],[])
theorem x9C:TOK prog woT:=by
 have h:=TOK.nil (P:=prog)
 replace h:=h.f func130 [0,1,3,4,5,9,17] [] (by kernel_rfl)
 replace h:=h.f func172 [0,1,4,5,10,14,23] [] (by kernel_rfl)
 replace h:=h.f func98 [0,1,2,4,5,8,15,24] [] (by kernel_rfl)
 replace h:=h.f func99 [0,1,4] [1000004] (by kernel_rfl)
 exact h
theorem w6n:(List.range 12).all (fun i=>(kM i).tm.all fun t=>(List.range t.length).all fun j=>evB woT 400 99 [.sl 2 (fcs t),.int .i64 j] (.sl 2 (fcs (t.eraseIdx j))))=true:=by kernel_rfl
theorem w6j:(List.range 12).all (fun i=>(kM i).tm.all fun t=>(List.range t.length).all fun j=>evB woT 1000 98 [.agg (z1F (kM i)),.sl 2 (fcs (t.eraseIdx j))] (.bool (x1i (kM i) (t.filter fun x=>!decide (x=t.getD j default)))))=true:=by kernel_rfl
section
variable {Y X G H:List Int} {n:Nat}
theorem w2p (hn:n=min Y.length 10):okT (z2o Y X G H):=by
 refine ⟨(by decide:4≤1000000),fun k hk=>?_⟩
 have hc:∀c∈k.ce,y9z c.va:=y5V (p:=fun c=>y9z c.va) w1b w4O k hk
 have h1:k.nm.length≤9223372036854775807∧k.le.length≤1000000∧k.ce.length≤1000000:=by
  refine z3X (p:=fun k=>k.nm.length≤9223372036854775807∧k.le.length≤1000000∧k.ce.length≤1000000) hn ?_ ?_ ?_ ?_ k hk
  ·exact ⟨Nat.le_of_ble_eq_true rfl,Nat.le_of_ble_eq_true rfl,by rw [z61];omega⟩
  ·exact ⟨Nat.le_of_ble_eq_true rfl,Nat.le_of_ble_eq_true rfl,by rw [z61];omega⟩
  ·exact ⟨Nat.le_of_ble_eq_true rfl,Nat.le_of_ble_eq_true rfl,by rw [z60];omega⟩
  ·exact ⟨Nat.le_of_ble_eq_true rfl,Nat.le_of_ble_eq_true rfl,by rw [z60];omega⟩
 exact ⟨h1.1,h1.2.1,h1.2.2,hc⟩
theorem x2W (z:Int) {k:Kx} (h:k.kd=1):x0q k (y0a z)=true:=by
 unfold x0q
 rw [if_neg (show ¬(y0a z).mi=true from Bool.false_ne_true),if_pos h]
 have:z5p (y0a z).va.1 (y0a z).va.2.1 (y0a z).va.2.2=true:=x5T _
 rw [this]
 rfl
theorem x2V (z m:Int) {k:Kx} (h:k.kd=2) (hm:(k.le.length:Int)=m) (h0:0<m):x0q k (lvT z m)=true:=by
 have hz0:x9H (false,[],[])=true:=rfl
 unfold x0q lvT
 by_cases hz:z<0
 ·rw [if_pos hz,if_pos rfl,hz0];rfl
 ·rw [if_neg hz,if_neg Bool.false_ne_true,if_neg (by omega),hz0]
  have h1:=Int.tmod_nonneg m (show 0≤z by omega)
  have h2:=Int.tmod_lt_of_pos z h0
  simp only [Bool.true_and,Bool.and_eq_true,decide_eq_true_eq]
  omega
theorem x5K (hn:n=min Y.length 10):x8l n (z2o Y X G H)=true:=by
 have hc:∀k∈z2o Y X G H,y51 k n=true:=by
  refine z3X hn ?_ ?_ ?_ ?_
  ·unfold y51;rw [y3g,y11 fun z=>x2W z rfl];rfl
  ·unfold y51;rw [y3g,y11 fun z=>x2W z rfl];rfl
  ·unfold y51;rw [y3f _ _ _ _ _ (by decide),x2F,y10 fun z=>x2V z 3 rfl rfl (by decide)];rfl
  ·unfold y51;rw [y3f _ _ _ _ _ (by decide),x8I,y10 fun z=>x2V z 2 rfl rfl (by decide)];rfl
 unfold x8l
 rw [y7G,y5W,List.all_eq_true.2 hc]
 simp only [Bool.and_true,Bool.and_eq_true,decide_eq_true_eq]
 refine ⟨⟨by omega,by omega⟩,?_⟩
 show 4≤32
 decide
def mdB (m:Mdl):Bool:=decide (m.rs=[121]) && decide (m.tm.length≤32) && decide ((z13 m).length≤1000) && (z13 m).all (fun s=>decide (0≤ixS [[121],[120],[103],[104]] s)) && m.tm.all (fun t=>decide (1≤t.length) && decide (t.length≤6) && t.all fun f=>decide (1≤f.pw) && decide (f.pw≤8) && (decide (f.pw=1) || decide (f.nm=[120])))
theorem w4g:(List.range 19).all (fun i=>mdB (kM i))=true:=by decide +kernel
theorem y9u {i:Nat} (hi:i<19):(kM i).rs=[121]∧(kM i).tm.length≤32∧(z13 (kM i)).length≤1000∧(∀s∈z13 (kM i),0≤ixS [[121],[120],[103],[104]] s)∧∀t∈(kM i).tm,(1≤t.length∧t.length≤6)∧∀f∈t,(1≤f.pw∧f.pw≤8)∧(f.pw=1∨f.nm=[120]):=by
 have h:=List.all_eq_true.1 w4g i (List.mem_range.2 hi)
 unfold mdB at h
 simp only [Bool.and_eq_true,Bool.or_eq_true,decide_eq_true_eq,List.all_eq_true] at h
 obtain ⟨⟨⟨⟨h1,h2⟩,h3⟩,h4⟩,h5⟩:=h
 exact ⟨h1,h2,h3,h4,h5⟩
theorem w01 (hn:n=min Y.length 10) {i cod:Nat} (hi:i<19) (hc:1≤cod∧cod≤4):DKt n (z2o Y X G H) (kM i) cod:=by
 obtain ⟨h1,h2,h3,h4,h5⟩:=y9u hi
 refine ⟨w2p hn,x8n hn,fun s hs=>by rw [y7G];exact h4 s hs,hc,fun t ht f hf=>((h5 t ht).2 f hf).1,⟨h2,fun t ht=>(h5 t ht).1⟩,?_,?_,?_,?_,?_⟩
 ·refine z3X hn ?_ ?_ ?_ ?_
  ·exact ⟨Nat.le_of_ble_eq_true rfl,fun s hs=>absurd hs List.not_mem_nil⟩
  ·exact ⟨Nat.le_of_ble_eq_true rfl,fun s hs=>absurd hs List.not_mem_nil⟩
  ·exact ⟨Nat.le_of_ble_eq_true rfl,fun s hs=>by simp only [List.mem_cons,List.not_mem_nil,or_false] at hs;rcases hs with rfl|rfl|rfl<;>decide⟩
  ·exact ⟨Nat.le_of_ble_eq_true rfl,fun s hs=>by simp only [List.mem_cons,List.not_mem_nil,or_false] at hs;rcases hs with rfl|rfl<;>decide⟩
 ·exact y5V (p:=fun c=>c.va=qX (xnV c.va)∧BS (xnV c.va) 100) w4I w6r
 ·refine z3X hn ?_ ?_ ?_ ?_
  ·exact fun h=>absurd rfl h
  ·exact fun h=>absurd rfl h
  ·exact fun _=>⟨Nat.le_of_ble_eq_true rfl,Nat.le_of_ble_eq_true rfl⟩
  ·exact fun _=>⟨Nat.le_of_ble_eq_true rfl,Nat.le_of_ble_eq_true rfl⟩
 ·intro t ht f hf
  have h:=List.all_eq_true.1 (w6k n (kxs (z2o Y X G H)) cod) i (List.mem_range.2 hi)
  exact z1Q z2g (List.all_eq_true.1 (List.all_eq_true.1 h t ht) f hf)
 ·refine z3X hn ?_ ?_ ?_ ?_
  ·exact fun h=>absurd rfl h
  ·exact fun h=>absurd rfl h
  ·intro _ c c1 c2
   have hk:ctK [.int .i64 (c:Int),.int .i64 ((3:Nat):Int)]=some (ctD c 3):=by
    unfold ctK;simp only;rw [if_pos (by omega),Int.toNat_natCast];rfl
   exact z62 _ _ hk
  ·intro _ c c1 c2
   have hk:ctK [.int .i64 (c:Int),.int .i64 ((2:Nat):Int)]=some (ctD c 2):=by
    unfold ctK;simp only;rw [if_pos (by omega),Int.toNat_natCast];rfl
   exact z62 _ _ hk
theorem w6i (hn:n=min Y.length 10) {i:Nat} (hi:i<19):DX n (z2o Y X G H) (kM i):=by
 obtain ⟨h1,h2,h3,h4,h5⟩:=y9u hi
 refine ⟨?_,z1Q z2g (List.all_eq_true.1 w6l i (List.mem_range.2 hi)),h3,by rw [h1];rfl,fun t ht f hf h=>?_,by omega⟩
 ·by_cases h10:i<10
  ·exact z1Q z2g (List.all_eq_true.1 w4n i (List.mem_range.2 h10))
  ·refine z1Q z2g (List.all_eq_true.1 w4o i ?_)
   simp only [List.mem_cons,List.not_mem_nil,or_false]
   omega
 ·rcases ((h5 t ht).2 f hf).2 with e|e
  ·exact absurd e h
  ·rw [e];rfl
theorem w6h (hn:n=min Y.length 10) {i:Nat} (hi:i<12):DE n (z2o Y X G H) (kM i):=by
 refine ⟨x5K hn,fun t ht j hj=>?_,fun t ht j hj=>?_,z1Q z2g (List.all_eq_true.1 w6o i (List.mem_range.2 hi)),z1Q z2g (List.all_eq_true.1 w6m i (List.mem_range.2 hi)),?_⟩
 ·have h:=List.all_eq_true.1 w6n i (List.mem_range.2 hi)
  exact z1Q x9C (List.all_eq_true.1 (List.all_eq_true.1 h t ht) j (List.mem_range.2 hj))
 ·have h:=List.all_eq_true.1 w6j i (List.mem_range.2 hi)
  exact z1Q x9C (List.all_eq_true.1 (List.all_eq_true.1 h t ht) j (List.mem_range.2 hj))
 ·refine z3X hn ?_ ?_ ?_ ?_
  ·exact fun h=>absurd rfl h
  ·exact fun h=>absurd rfl h
  ·exact fun _=>.inr rfl
  ·exact fun _=>.inl rfl
theorem w4l (Y X G H:List Int):(List.range 19).all (fun i=>[1,2,3,4].all fun c:Nat=>decide (y0b (z2o Y X G H) (kM i) c (kM i).tm.length≤12))=true:=by kernel_rfl
theorem w4m {i cod:Nat} (hi:i<19) (hc:1≤cod∧cod≤4):y0b (z2o Y X G H) (kM i) cod (kM i).tm.length≤12:=by
 have h:=List.all_eq_true.1 (List.all_eq_true.1 (w4l Y X G H) i (List.mem_range.2 hi)) cod (by simp only [List.mem_cons,List.not_mem_nil,or_false];omega)
 exact of_decide_eq_true h
end
end Go.Proofs.YtlcagndeidjobaaGreatDoor
namespace Go.Proofs.YtlcagndeidjobaaGreatDoor
open Tryz
open Go Go.Dat Go.Proofs Go.RowKit Nat32
theorem x7k {l:List Rat} {i:Nat} (h:i<l.length):((nums l).drop (i*3)).take 3=z0T (l.getD i 0):=by
 exact z1m (j:=0) (k:=3) z1i (0:Rat) h (by decide)
theorem y5d (l:List Rat) (m:Nat) (hk:l.length≤1000) (hf:∀x∈l,BS x m) (hm:m≤288000):z0c prog 17 [.sl 3 (nums l),.sl 3 (nums l)] (.bool true):=by
 have hlen:=z1A l
 have hln:l.length*3 / 3=l.length:=by omega
 have d0:decide (¬(l.length:Int)=(l.length:Int))=false:=zF9
 refine z0b y6L (by simp [z9e]) ?_
 unfold z5I
 refine zS (zA hlen (zA hln d0)) ?_
 refine wFs ?_
 refine zR ?_
 refine z0v (σ:=Nat) (fun i=>[(0,.sl 3 (nums l)),(1,.sl 3 (nums l)),(5,.int .i64 i)]) (fun _=>[]) (fun i=>i≤l.length) (fun i=>l.length - i) 0 (Nat.zero_le _) ?_ rfl ?_
 ·simp [z0y,lk]
 ·intro i hi
  try simp only at hi ⊢
  by_cases hlt:i<l.length
  ·have dl:decide ((i:Int)<(l.length:Int))=true:=zT9
   have ei:(i:Int).toNat=i:=Int.toNat_natCast i
   have e1:((i:Int)+1)=((i+1:Nat):Int):=by omega
   have hw:=x7k hlt
   have hmem:l.getD i 0∈l:=by rw [zO1,zO4 hlt];exact List.getElem_mem _
   have hb:RB (l.getD i 0) 9000:=y56 (hf _ hmem) (by omega)
   have cs:z0c prog 29 [.agg (z0T (l.getD i 0)),.agg (z0T (l.getD i 0))] (.bool true):=by
    have:=x9n (l.getD i 0) (l.getD i 0) hb hb
    rwa [decide_eq_true rfl] at this
   refine zS (zA dl (zA hlen hln)) ?_
   refine wTs ?_
   refine zS (zA ei (zA hlen (zA hw @List.drop_zero.{0}))) ?_
   refine cP cs ?_
   refine zR ?_
   refine wFs ?_
   refine zS e1 ?_
   exact ⟨i+1,by omega,by omega,by simp [z0y,lk]⟩
  ·have dl:decide ((i:Int)<(l.length:Int))=false:=zF9
   refine zS (zA dl (zA hlen hln)) ?_
   refine z0l rfl (fun h=>by cases h) (fun _=>z0q ?_)
   refine zR ?_
   exact z0i (z0h (.imm rfl))
theorem y2Q (R:List Nat) (hn:R.length≤1000):z0c prog 18 [.sl 1 (ints R),.sl 1 (ints R)] (.bool true):=by
 have hln:=z28 R
 have d0:decide (¬(R.length:Int)=(R.length:Int))=false:=zF9
 refine z0b y4R (by simp [z7A]) ?_
 unfold z4Z
 refine zS (zA hln d0) ?_
 refine wFs ?_
 refine zR ?_
 refine z0v (σ:=Nat) (fun i=>[(0,.sl 1 (ints R)),(1,.sl 1 (ints R)),(5,.int .i64 i)]) (fun _=>[]) (fun i=>i≤R.length) (fun i=>R.length - i) 0 (Nat.zero_le _) ?_ rfl ?_
 ·simp [z0y,lk]
 ·intro i hi
  try simp only at hi ⊢
  by_cases hlt:i<R.length
  ·have dl:decide ((i:Int)<(R.length:Int))=true:=zT9
   have ei:(i:Int).toNat=i:=Int.toNat_natCast i
   have e1:((i:Int)+1)=((i+1:Nat):Int):=by omega
   have hg:=y9R hlt .undef
   generalize R.getD i 0=r at *
   have dn:decide (¬(r:Int)=(r:Int))=false:=zF9
   refine zS (zA dl hln) ?_
   refine wTs ?_
   refine zS (zA ei (zA hln (zA hg dn))) ?_
   refine wFs ?_
   refine zS e1 ?_
   exact ⟨i+1,by omega,by omega,by simp [z0y,lk]⟩
  ·have dl:decide ((i:Int)<(R.length:Int))=false:=zF9
   refine zS (zA dl hln) ?_
   refine z0l rfl (fun h=>by cases h) (fun _=>z0q ?_)
   refine zR ?_
   exact z0i (z0h (.imm rfl))
def dsD (N:List Bs) (x:List (List Rat)) (y:List Rat) (R:List Nat):List DV:=[.sl 1 (z0L N),.sl 1 (z6V x),.sl 3 (nums y),.sl 1 (ints R)]
def x8o:List Bs:=[[121,32,126,32,120],[121,32,126,32,103],[121,32,126,32,48,32,43,32,103],[121,32,126,32,120,32,42,32,103],[121,32,126,32,103,32,42,32,104],[121,32,126,32,103,32,47,32,104],[121,32,126,32,103,58,104],[121,32,126,32,120,32,43,32,104,32,45,32,49],
 [121,32,126,32,112,111,119,101,114,40,120,44,32,50,41,32,43,32,120],[121,32,126,32,120,58,103,32,43,32,120],[121,32,126,32,49],[121,32,126,32,103,32,43,32,104,32,43,32,120]]
noncomputable def txT:Tb:=([(10,efF prog Tryz.f10 [0] [])],[])
theorem w5l:TOK prog txT:=by
 have h:=TOK.nil (P:=prog)
 replace h:=h.f func10 [0] [] (by kernel_rfl)
 exact h
theorem y0k:z0c prog 10 [] (.sl 1 (z0L x8o)):=z1Q w5l (n:=200) (by kernel_rfl)
theorem x0f {P:Program} {f:Nat} {ds:List DV} {r r':DV} (h:WkD r r') (hc:z0c P f ds r):z0c P f ds r':=by
 intro A w us hT hA hs hv
 refine (hc A w us hT hA hs hv).mono ?_
 rintro e w' ⟨v,h1,h2,h3⟩
 exact ⟨v,h1,h w' A v h2,h3⟩
theorem w4k {i:Nat} (hi:i<12):z0c prog 9 [.str (x8o.getD i [])] (.agg (z1F (kM i))):=by
 obtain rfl|rfl|rfl|rfl|rfl|rfl|rfl|rfl|rfl|rfl|rfl|rfl:i=0∨i=1∨i=2∨i=3∨i=4∨i=5∨i=6∨i=7∨i=8∨i=9∨i=10∨i=11:=by omega
 ·exact w57
 ·exact w58
 ·exact w59
 ·exact w6a
 ·exact w6b
 ·exact w6c
 ·exact w6d
 ·exact w6e
 ·exact w6f
 ·exact w6g
 ·exact x0f (WkD.agg (.cons (WkD.refl _) (.cons (WkD.refl _) (.cons (WkD.nils 1) .nil)))) w4i
 ·exact w4j
theorem x91 (n:Nat) (S:List Kx) (m:Mdl) (cod:Int):w3c n S m cod=.agg (dsD (y00 S m cod) ((z1R n S m).map (z98 S m cod)) ((z1R n S m).map (x1X S m)) (z1R n S m)):=by
 unfold w3c dsD z6V
 rw [List.map_map]
 rfl
end Go.Proofs.YtlcagndeidjobaaGreatDoor
namespace Go.Proofs.YtlcagndeidjobaaGreatDoor
open Tryz
open Go Go.Dat Go.Proofs Go.RowKit Go.Lib Nat32
set_option maxHeartbeats 8000000 in
theorem y0m {x:List (List XN)} {n k b:Nat} (h:mtOK x n k b) (hG:∀t,t<(rrP n k (mtX x)).length→3*gB b t+2≤140800) (hG2:∀t,t≤(rrP n k (mtX x)).length→gB b t≤140800) :
  y7S prog 111 [.sl 1 (xrs x)] [] (fun r H'=>w7B n k (mtX x) r∧H'=[]):=by
 have hT:=x7b h
 have h1:=h.n1
 have h2:=h.k1
 obtain ⟨M0,hM0⟩:∃M0,M0=mtX x:=⟨_,rfl⟩
 have hsz:=h.sz
 have hz:=h.z
 rw [←hM0] at hT hsz hG hG2 ⊢
 have c1:z0c prog 44 [.int .i64 1] (.agg (z0T 1)):=z47 1 (by decide) (by decide)
 have hcc:∀x:Rat,(DV.agg (z0T x)).cells? = some (z0T x):=fun _=>rfl
 have hn3:=z1i
 have ht3:∀x:Rat,(z0T x).take 3=z0T x:=fun _=>rfl
 have hxr:[DV.sl 1 (xrs x)].all DV.rf=true:=rfl
 refine z8i y6I (by simp [z9a]) ?_
 unfold z5F
 refine zR ?_
 refine y0D 12 hT rfl (y1w _ _ _) (by decide) (by decide) (by decide) rfl (by simp [DV.rf]) ?_
 refine zD ?_
 refine z0d ?_
 refine z0g ?_
 refine zD ?_
 refine z4a 5 1 200 rfl rfl ?_
 refine zR ?_
 refine cP c1 ?_
 refine zS (zA hcc (zA hn3 ht3)) ?_
 refine z0v (σ:=Mt × List Nat × Rat × Nat) (fun s=>[(0,.osl 1 12 0 n),(4,.ptr 4 0),(5,.osl 1 200 0 s.2.1.length),(6,.ptr 6 0),(7,.int .i64 s.2.2.2)]) (fun s=>[(4,[.bool false,.nils,.nils]),(6,z0T s.2.2.1),(12,mtD n k s.1),(200,z3M s.2.1)])
  (fun s=>s.2.2.2≤k∧IsRp n k s.2.2.2 s.1 s.2.1∧z14 n k M0 s.1∧MS n k s.1 (gB b s.2.1.length)∧BS s.2.2.1 (gB b s.2.1.length+1)) (fun s=>k - s.2.2.2) (M0,[],1,0) ⟨Nat.zero_le _,IsRp.nil n k M0,z14.refl _ _ _,hsz,x8w.mono (by show 1≤b+1;omega)⟩ ?_ rfl ?_
 ·simp [z0y,lk]
 ·rintro ⟨M,ps,q,j⟩ ⟨hj,hE,hK,hS,hq⟩
  try simp only at hj hE hK hS hq ⊢
  have ccol:=w6p n k M (by omega) (by omega) hz
  have hml:=z9A n k M
  have hrc:[DV.osl 1 12 0 n].map (rdo [(4,[.bool false,.nils,.nils]),(6,z0T q),(12,mtD n k M),(200,z3M ps)] 1)=[.sl 1 (mtD n k M)]:=by
   rw [List.map_cons,List.map_nil,x7q (cells:=mtD n k M) rfl (by decide) (by omega) (y1w _ _ _)]
  refine zR ?_
  refine y6e rfl 1 ccol hrc rfl ?_
  by_cases hlt:j<k
  ·have dl:decide ((j:Int)<(k:Int))=true:=zT9
   refine zS dl ?_
   refine wTs ?_
   have hil:=z9o ps
   have hpl:=hE.len
   have ej:(j:Int).toNat=j:=Int.toNat_natCast j
   have e1:((j:Int)+1)=((j+1:Nat):Int):=by omega
   have hrl:=fun i=>z2l k (M i)
   refine z0d ?_
   refine z0f ?_
   refine zS hil ?_
   refine z0v (σ:=Nat) (fun a=>[(0,.osl 1 12 0 n),(4,.ptr 4 0),(5,.osl 1 200 0 ps.length),(6,.ptr 6 0),(7,.int .i64 j),(8,.int .i64 ps.length),(9,.int .i64 a)]) (fun _=>[(4,[.bool false,.nils,.nils]),(6,z0T q),(12,mtD n k M),(200,z3M ps)])
    (fun a=>w7y M n j ps.length a) (fun a=>n - a) ps.length ⟨Nat.le_refl _,hpl,fun r h1 h2=>by omega⟩ ?_ rfl ?_
   ·simp [z0y,lk]
   ·rintro a ⟨ha1,ha2,hfst⟩
    try simp only at ha1 ha2 hfst ⊢
    have ea:(a:Int).toNat=a:=Int.toNat_natCast a
    by_cases hla:a<n
    ·have da:decide ((a:Int)<(n:Int))=true:=zT9
     have hga:=z9z (k:=k) hla M .undef
     have hwa:=z6U hlt (M a)
     have hrla:=hrl a
     have cs:=w4W (hS a hla j hlt) (by have:=hG2 _ (hE.le_rank (by omega) hK);omega)
     have hz:=w6Q (M a j)
     by_cases hzero:M a j=0
     ·have dz:decide (M a j=0)=true:=decide_eq_true hzero
      refine zS (zA da (zA ea (zA hml (zA hga (zA ej (zA hrla (zA hwa @List.drop_zero.{0}))))))) ?_
      refine cP cs ?_
      have e2:((a:Int)+1)=((a+1:Nat):Int):=by omega
      refine zS (zA hz dz) ?_
      refine wTs ?_
      refine zS e2 ?_
      refine ⟨a+1,⟨by omega,by omega,fun r g1 g2=>?_⟩,by omega,by simp [z0y,lk]⟩
      by_cases e:r=a
      ·rw [e];exact hzero
      ·exact hfst r g1 (by omega)
     ·have dz:decide (M a j=0)=false:=decide_eq_false hzero
      refine zS (zA da (zA ea (zA hml (zA hga (zA ej (zA hrla (zA hwa @List.drop_zero.{0}))))))) ?_
      refine cP cs ?_
      refine zS (zA hz dz) ?_
      refine z0l rfl (fun h=>by cases h) (fun _=>z0q ?_)
      have dan:decide ((a:Int)=(n:Int))=false:=zF9
      refine zS dan ?_
      refine wFs ?_
      have hpn:ps.length<n:=by omega
      obtain ⟨S,hSd⟩:∃S,S=z3W ps.length a M:=⟨_,rfl⟩
      have hpiv:=w3w hE hlt ha1 hla hzero
      have hszS:MS n k S (gB b ps.length):=by rw [hSd];exact hS.swap hpn hla
      have hSt:S ps.length j≠0:=by rw [hSd];unfold z3W;rw [if_pos rfl];exact hzero
      have hszE:=hszS.elimM hpn hlt hSt
      rw [←hSd] at hpiv
      have hG3:=hG ps.length (by
       have:=hpiv.1.le_rank (show j+1≤k by omega) (hK.trans hpiv.2)
       rw [List.length_append] at this
       exact this)
      refine z0d ?_
      refine z5v (ι:=Rat) (fun q'=>BS q' (gB b ps.length+1)) (fun _=>[(0,.osl 1 12 0 n),(4,.ptr 4 0),(5,.osl 1 200 0 ps.length),(6,.ptr 6 0),(7,.int .i64 j),(8,.int .i64 ps.length)]) (fun q'=>[(4,[.bool false,.nils,.nils]),(6,z0T q'),(12,mtD n k S),(200,z3M ps)]) ?_ ?_
      ·by_cases hat:a=ps.length
       ·have dat:decide (¬(a:Int)=(ps.length:Int))=false:=zF9
        refine zS dat ?_
        refine wFs ?_
        refine ⟨q,hq,by simp [z0y,lk],?_⟩
        have:S=M:=by
         rw [hSd,hat];funext r c;unfold z3W
         by_cases e:r=ps.length
         ·rw [if_pos e,e]
         ·rw [if_neg e,if_neg e]
        rw [this]
       ·have dat:decide (¬(a:Int)=(ps.length:Int))=true:=zT9
        have ept:(ps.length:Int).toNat=ps.length:=Int.toNat_natCast _
        have hgt:=z9z (k:=k) hpn M .undef
        have hsw:=x7d (k:=k) M hpn hla
        have cn:=w4T hq (by omega)
        refine zS dat ?_
        refine wT ?_
        refine zS (zA ea (zA ept (zA hml (zA hga hgt)))) ?_
        refine ⟨⟨rfl,hla⟩,⟨by omega,by omega⟩,⟨rfl,by rw [List.length_set,hml];exact hpn⟩,?_⟩
        rw [hsw,←hSd]
        refine zS (zA hn3 ht3) ?_
        refine cP cn ?_
        refine zS (zA hcc (zA hn3 ht3)) ?_
        exact ⟨-q,y7P hq,by simp [z0y,lk],rfl⟩
      ·rintro q' hq'
       have ept:(ps.length:Int).toNat=ps.length:=Int.toNat_natCast _
       have hmlS:=z9A n k S
       have hgt:=z9z (k:=k) hpn S .undef
       have hrt:=z2l k (S ps.length)
       have hwt:=z6U hlt (S ps.length)
       have cm:=w4S hq' (hszS _ hpn j hlt) (by omega) (by omega)
       have cq:=w6A hSt x8w (hszS _ hpn j hlt) (by omega) (by omega)
       have ct:=z54 (k:=k) (by omega) (fun c hc=>hszS _ hpn c hc) (x11 hSt x8w (hszS _ hpn j hlt)) (by omega) (by omega)
       have hset:=y2R (k:=k) S (fun c=>S ps.length c*(1 / S ps.length j)) hpn
       rw [w5Y] at hset
       refine zS (zA ept (zA ej (zA hmlS (zA hgt (zA hrt (zA hwt (zA hn3 (zA ht3 @List.drop_zero.{0})))))))) ?_
       refine cP cm ?_
       refine zS (zA ept (zA ej (zA hmlS (zA hgt (zA hrt (zA hwt (zA hcc (zA hn3 (zA ht3 @List.drop_zero.{0}))))))))) ?_
       refine cP c1 ?_
       refine zS (zA ept (zA ej (zA hmlS (zA hgt (zA hrt (zA hwt (zA hcc (zA hn3 (zA ht3 @List.drop_zero.{0}))))))))) ?_
       refine cP cq ?_
       refine zR ?_
       refine cP ct ?_
       refine zS (zA ept hmlS) ?_
       refine ⟨⟨rfl,hpn⟩,?_⟩
       have h6:∀a b:Rat,List.take 0 (z0T a)++z0T b++List.drop 3 (z0T a)=z0T b:=fun _ _=>rfl
       rw [h6,hset]
       have hq2:BS (q'*S ps.length j) (gB b (ps.length+1)+1):=(z5r hq' (hszS _ hpn j hlt)).mono (by simp only [gB];omega)
       generalize q'*S ps.length j=q2 at *
       have hbt:∀c,c<k→BS (S ps.length c*(1 / S ps.length j)) (2*gB b ps.length+1):=fun c hc=>(z5r (hszS _ hpn c hc) (x11 hSt x8w (hszS _ hpn j hlt))).mono (by omega)
       refine zR ?_
       refine z0v (σ:=Nat) (fun i=>[(0,.osl 1 12 0 n),(4,.ptr 4 0),(5,.osl 1 200 0 ps.length),(6,.ptr 6 0),(7,.int .i64 j),(8,.int .i64 ps.length),(10,.int .i64 i)]) (fun i=>[(4,[.bool false,.nils,.nils]),(6,z0T q2),(12,mtD n k (elP ps.length j i S)),(200,z3M ps)])
        (fun i=>i≤n) (fun i=>n - i) 0 (Nat.zero_le _) ?_ rfl ?_
       ·simp [z0y,lk]
       ·intro i hi
        try simp only at hi ⊢
        obtain ⟨E,hEd⟩:∃E,E=elP ps.length j i S:=⟨_,rfl⟩
        have hmlE:=z9A n k E
        rw [←hEd]
        by_cases hli:i<n
        ·have di:decide ((i:Int)<(n:Int))=true:=zT9
         have ei:(i:Int).toNat=i:=Int.toNat_natCast i
         have ei1:((i:Int)+1)=((i+1:Nat):Int):=by omega
         refine zS (zA di hmlE) ?_
         refine wTs ?_
         by_cases hit:i=ps.length
         ·have dit:decide (¬(i:Int)=(ps.length:Int))=false:=zF9
          refine zS dit ?_
          refine wFs ?_
          refine zS ei1 ?_
          refine ⟨i+1,by omega,by omega,by simp [z0y,lk],?_⟩
          rw [hEd,hit,x6A]
         ·have dit:decide (¬(i:Int)=(ps.length:Int))=true:=zT9
          have hgi:=z9z (k:=k) hli E .undef
          have hgT:=z9z (k:=k) hpn E .undef
          have eEi:E i=S i:=by rw [hEd];exact w5Z hit
          have eEt:E ps.length=fun c=>S ps.length c*(1 / S ps.length j):=by rw [hEd];funext c;exact w3k _ _ _ _ _
          rw [eEi] at hgi
          have hri:=z2l k (S i)
          have hwi:=z6U hlt (S i)
          have cn:=w4T (hszS i hli j hlt) (by omega)
          have ct2:=z54 (k:=k) (f:=E ps.length) (c:=-(S i j)) (by omega) (fun c hc=>by rw [eEt];exact hbt c hc) (y7P (hszS i hli j hlt)) (by omega) (by omega)
          have cpl:=y43 (k:=k) (f:=S i) (g:=fun c=>E ps.length c*(-(S i j))) (p:=3*gB b ps.length+1) (by omega) (fun c hc=>hszS i hli c hc) (fun c hc=>by rw [eEt];exact (z5r (hbt c hc) (y7P (hszS i hli j hlt))).mono (by omega)) (by omega) (by omega)
          have hset2:=y2R (k:=k) E (fun c=>S i c+E ps.length c*(-(S i j))) hli
          have hnx:=x6z (j:=j) (S:=S) hit
          rw [←hEd] at hnx
          rw [hnx] at hset2
          refine zS dit ?_
          refine wT ?_
          refine zS (zA ei (zA ej (zA ept (zA hmlE (zA hgi (zA hgT (zA hri (zA hwi @List.drop_zero.{0})))))))) ?_
          refine cP cn ?_
          refine zR ?_
          refine cP ct2 ?_
          refine zR ?_
          refine cP cpl ?_
          refine zS (zA ei hmlE) ?_
          refine ⟨⟨rfl,hli⟩,?_⟩
          rw [hset2]
          refine zS ei1 ?_
          exact ⟨i+1,by omega,by omega,by simp [z0y,lk],rfl⟩
        ·have di:decide ((i:Int)<(n:Int))=false:=zF9
         have hin:i=n:=by omega
         have hfin:mtD n k E=mtD n k (elimM ps.length j S):=y44 fun r hr c _=>by rw [hEd,hin];exact x94 r hr c
         have hpX:(z3M ps++[DV.int .i64 j]).map (purge 200)=z3M (ps++[j]):=by rw [x0w];exact z0k 200 (y2x _)
         have hpM:=z0k 200 (y1w n k (elimM ps.length j S))
         have hpq:=z0k 200 (z1z q2)
         have hpb:[DV.bool false,.nils,.nils].map (purge 200)=[.bool false,.nils,.nils]:=rfl
         have pp:∀o,purge 200 (.ptr (o) 0)=if o=200 then .undef else .ptr o 0:=fun o=>by
          by_cases e:o=200
          ·rw [if_pos e,e];simp [purge,DV.has]
          ·rw [if_neg e];simp [purge,DV.has,e]
         have pp4:=pp 4
         have pp6:=pp 6
         rw [if_neg (by decide)] at pp4 pp6
         have pm:purge 200 (.osl 1 12 0 n)=.osl 1 12 0 n:=by simp [purge,DV.has]
         have hl1:laid [DV.int .i64 0] [(0,1,.int .i64 (j:Int))]=some [.int .i64 j]:=rfl
         have hpl2:(ps++[j]).length=ps.length+1:=by simp
         rw [hfin]
         refine zS (zA di (zA hmlE @z9A)) ?_
         refine z0l rfl (fun h=>by cases h) (fun _=>z0q ?_)
         refine zS (zA hil hl1) ?_
         refine ⟨by simp [DV.rf],⟨by omega,by omega,fun h=>h,by simp [DV.one]⟩,?_⟩
         rw [hpX,hpM,hpq]
         refine zS (zA e1 (zA pp4 (zA @pp6 pm))) ?_
         refine ⟨(elimM ps.length j S,ps++[j],q2,j+1),⟨by show j+1≤k;omega,hpiv.1,hK.trans hpiv.2,by rw [hpl2];exact hszE,by rw [hpl2];exact hq2⟩,by show k - (j+1)<k - j;omega,by simp [z0y,lk,hpl2],?_⟩
         first|rfl|simp [DV.rf,purge,DV.has]
    ·have han:a=n:=by omega
     have da:decide ((a:Int)<(n:Int))=false:=zF9
     have dan:decide ((a:Int)=(n:Int))=true:=zT9
     refine zS (zA da (zA ea hml)) ?_
     refine z0l rfl (fun h=>by cases h) (fun _=>z0q ?_)
     refine zS (zA dan hml) ?_
     refine z0l rfl (fun _=>z0q ?_) (fun h=>by cases h)
     refine zS e1 ?_
     exact ⟨(M,ps,q,j+1),⟨by show j+1≤k;omega,hE.skip fun r g1 g2=>hfst r g1 (by omega),hK,hS,hq⟩,by show k - (j+1)<k - j;omega,by simp [z0y,lk],rfl⟩
  ·have hjk:j=k:=by omega
   have dl:decide ((j:Int)<(k:Int))=false:=zF9
   rw [hjk] at hE
   obtain ⟨r1,r2⟩:=w6L hE hK
   refine zS dl ?_
   refine z0l rfl (fun h=>by cases h) (fun _=>z0q ?_)
   show W _ _ _ _ _
   have hil:=z9o ps
   have g1:frz 12 (mtD n k M) (.osl 1 12 0 n)=.sl 1 (mtD n k M):=by
    simp [frz,hml];rw [List.take_of_length_le (by omega)]
   have g2:frz 200 (z3M ps) (.osl 1 200 0 ps.length)=.sl 1 (z3M ps):=by
    simp [frz,hil];rw [List.take_of_length_le (by omega)]
   have g3:frz 12 (mtD n k M) (.osl 1 200 0 ps.length)=.osl 1 200 0 ps.length:=by simp [frz]
   have g4:∀cs,frz 12 cs (.ptr 4 0)=.ptr 4 0:=fun cs=>by simp [frz,purge,DV.has]
   have g5:∀cs,frz 12 cs (.ptr 6 0)=.ptr 6 0:=fun cs=>by simp [frz,purge,DV.has]
   have g6:∀cs,frz 200 cs (.ptr 4 0)=.ptr 4 0:=fun cs=>by simp [frz,purge,DV.has]
   have g7:∀cs,frz 200 cs (.ptr 6 0)=.ptr 6 0:=fun cs=>by simp [frz,purge,DV.has]
   have g8:=z1p 12 (mtD n k M) (y2x ps)
   have g9:=z1p 12 (mtD n k M) (z1z q)
   have g10:=z1p 200 (z3M ps) (z1z q)
   refine z0I 12 (cells:=mtD n k M) rfl (List.all_eq_true.2 (y1w _ _ _)) ?_
   refine zE (zA g1 (zA g3 (zA g4 (zA g5 (zA g8 g9))))) ?_
   refine z0I 200 (cells:=z3M ps) rfl (List.all_eq_true.2 (y2x _)) ?_
   refine zE (zA g2 (zA g6 (zA g7 g10))) ?_
   refine zS (zA hcc (zA hn3 (zA ht3 @List.drop_zero.{0}))) ?_
   have hq0:List.take 0 [DV.bool false,.nils,.nils]++z0T q++List.drop 3 [DV.bool false,.nils,.nils]=z0T q:=rfl
   have hR:mtD n k M=mtD n k (rrM n k M0):=y44 fun i hi c hc=>r2 i hi c hc
   try rw [hq0]
   rw [hR,r1]
   refine z0i ⟨.inr rfl,[.sl 1 (mtD n k (rrM n k M0)),.sl 1 (z3M (rrP n k M0)),.agg (z0T q)],_,[],⟨⟨q,rfl⟩,rfl⟩,fun _ _ h=>(by cases h),?_,?_,fun _ _ h=>(by cases h)⟩
   ·simp [z4y,z9N,lk,lkH,z7T]
    rw [if_pos (by rw [hn3];exact Nat.le_refl 3)];rfl
   ·exact z5m _ _ rfl
theorem z9y {x:List (List XN)} {n k b:Nat} (h:mtOK x n k b) (hG:∀t,t<(rrP n k (mtX x)).length→3*gB b t+2≤140800) (hG2:∀t,t≤(rrP n k (mtX x)).length→gB b t≤140800) :
  z0c prog 53 [.sl 1 (xrs x)] (.tup [.sl 1 (mtD n k (rrM n k (mtX x))),.sl 1 (z3M (rrP n k (mtX x))),.int .i64 0]):=by
 have cf:=h.formedR
 have cr:=y0m h hG hG2
 have hcc:∀x:Rat,(DV.agg (z0T x)).cells? = some (z0T x):=fun _=>rfl
 have hn3:=z1i
 refine z0b x0J (by simp [y1e]) ?_
 unfold z7g
 refine zR ?_
 refine cP cf ?_
 refine zR ?_
 refine wFs ?_
 refine zR ?_
 refine x2l rfl rfl cr ?_ ?_
 ·rintro r ⟨q,rfl⟩;rfl
 rintro r ⟨q,rfl⟩
 refine zS (zA hcc hn3) ?_
 exact z0i (x9K (.imm rfl) (.imm rfl) (.imm rfl))
theorem y2P {x:List (List XN)} {n k b:Nat} (h:mtOK x n k b) (hG:∀t,t<(rrP n k (mtX x)).length→3*gB b t+2≤140800) (hG2:∀t,t≤(rrP n k (mtX x)).length→gB b t≤140800) :
  z0c prog 25 [.sl 1 (xrs x)] (.tup [.int .i64 (rrP n k (mtX x)).length,.int .i64 0]):=by
 have cr:=z9y h hG hG2
 have hil:=z9o (rrP n k (mtX x))
 have hpn:=w1R n k (mtX x)
 have h1:=h.n1
 refine z0b x6U (by simp [y8J]) ?_
 unfold y0I
 refine zR ?_
 refine cP cr ?_
 refine zS hil ?_
 exact z0i (z2f (.imm rfl) (.imm rfl))
def y3w (A B:List (List Rat)) (i:Nat):List (List Rat):=(List.range i).map fun a=>A.getD a []++B.getD a []
theorem x51 (A B:List (List Rat)) (i:Nat):y3w A B (i+1)=y3w A B i++[A.getD i []++B.getD i []]:=by
 unfold y3w;rw [List.range_succ,List.map_append];rfl
theorem y3x (A B:List (List Rat)) (i:Nat):(y3w A B i).length=i:=by unfold y3w;rw [List.length_map,List.length_range]
theorem y2I (A B:List (List Rat)) (hA:A.length≤90) (hl:B.length=A.length) (ha:∀l∈A,l.length≤90) (hb:∀l∈B,l.length≤90) :
  z0c prog 48 [.sl 1 (z6V A),.sl 1 (z6V B)] (.sl 1 (z6V (y3w A B A.length))):=by
 have hAl:=z6b A
 have hBl:=z6b B
 rw [hl] at hBl
 refine z0b x0F (by simp [y1a]) ?_
 unfold z7c
 refine zR ?_
 refine z4a 5 1 200 rfl rfl ?_
 refine zR ?_
 obtain ⟨RL,hRL⟩:∃RL:Nat→List (List DV),RL=fun i=>(y3w A B i).map nums:=⟨_,rfl⟩
 have hRl:∀i,(RL i).length=i:=fun i=>by rw [hRL];simp only [List.length_map,y3x]
 have hRr:∀i,∀l∈RL i,∀d∈l,d.rf=true:=fun i l hl=>by
  rw [hRL] at hl
  obtain ⟨_,_,rfl⟩:=List.mem_map.1 hl
  exact z1q _
 obtain ⟨TL,hTL⟩:∃TL:Nat→Hp,TL=fun i=>z06 1000 (RL i):=⟨_,rfl⟩
 have hTlt:∀i s,s<1000→lkH (TL i) s=none:=fun i s hs=>by rw [hTL];exact y3a hs
 have hTset:∀i s c,s<1000→z0N (TL i) s c=(s,c)::TL i:=fun i s c hs=>by rw [hTL];exact y7n hs
 have hTm:∀i o,z0X (purge o) (TL i)=TL i:=fun i o=>by rw [hTL];exact y5B fun l hl=>z0k o (hRr i l hl)
 have hTr:∀i o,o<1000→rmP o (TL i)=TL i:=fun i o ho=>by rw [hTL];exact z9T ho fun l hl=>z0k o (hRr i l hl)
 refine z0v (σ:=Nat) (fun i=>[(0,.sl 1 (z6V A)),(1,.sl 1 (z6V B)),(5,.osl 1 200 0 i),(6,.int .i64 i)]) (fun i=>(200,z3p 3 1000 (RL i))::TL i) (fun i=>i≤A.length) (fun i=>A.length - i) 0 (Nat.zero_le _) ?_ ?_ ?_
 ·simp [z0y,lk]
 ·rw [hTL,hRL];rfl
 ·intro i hi
  try simp only at hi ⊢
  by_cases hlt:i<A.length
  ·have dl:decide ((i:Int)<(A.length:Int))=true:=zT9
   have ei:(i:Int).toNat=i:=Int.toNat_natCast i
   have e1:((i:Int)+1)=((i+1:Nat):Int):=by omega
   have hga:=y9X hlt .undef
   have hgb:=y9X (rows:=B) (show i<B.length by omega) .undef
   refine zS (zA hAl (zA hBl dl)) ?_
   refine wTs ?_
   have hna:=z1A (A.getD i [])
   have hnb:=z1A (B.getD i [])
   have hoa:=y9y (A.getD i [])
   have hob:=y9y (B.getD i [])
   have hra:=z1q (A.getD i [])
   have hrb:=z1q (B.getD i [])
   have hka:(A.getD i []).length≤90:=ha _ (by rw [zO1,zO4 hlt];exact List.getElem_mem _)
   have hkb:(B.getD i []).length≤90:=hb _ (by rw [zO1,zO4 (show i<B.length by omega)];exact List.getElem_mem _)
   refine z0d ?_
   refine z0f ?_
   refine x8z ?_
   rw [z4Q]
   dsimp only [DT.pre]
   refine zE (zA hAl (zA hBl (zA ei (zA hga hgb)))) ?_
   have h33a:∀k,k*3 / 3=k:=fun k=>by omega
   have mpa:∀o,(nums (A.getD i [])).map (purge o)=nums (A.getD i []):=fun o=>z0k o hra
   have mpb:∀o,(nums (B.getD i [])).map (purge o)=nums (B.getD i []):=fun o=>z0k o hrb
   have mpO:∀o,o<1000→(z3p 3 1000 (RL i)).map (purge o)=z3p 3 1000 (RL i):=fun o ho=>x4S ho
   have hOl:(z3p 3 1000 (RL i)).length=i:=by rw [y9E,hRl]
   have hl1:∀k,laid [DV.nils] [(0,1,.osl 3 24 0 k)]=some [.osl 3 24 0 k]:=fun _=>rfl
   have hn1:nums (A.getD i [])++nums (B.getD i [])=nums (A.getD i []++B.getD i []):=by unfold nums;rw [List.flatMap_append]
   have p24:∀k,purge 200 (.osl 3 24 0 k)=.osl 3 24 0 k:=fun k=>by simp [purge,DV.has]
   have hRs:RL i++[nums (A.getD i []++B.getD i [])]=RL (i+1):=by rw [hRL];simp only;rw [x51,List.map_append];rfl
   have hT0:TL i=z06 1000 (RL i):=by rw [hTL]
   have hT1:TL (i+1)=z06 1000 (RL (i+1)):=by rw [hTL]
   have hkk:(A.getD i []).length+(B.getD i []).length=(nums (A.getD i []++B.getD i [])).length / 3:=by rw [z1A,List.length_append];omega
   have hxr:=z1q (A.getD i []++B.getD i [])
   have h1o:∀k,∀d∈[DV.osl 3 24 0 k],d.one=true:=fun k d hd=>by rw [List.mem_singleton.1 hd];rfl
   refine ⟨⟨by omega,by omega⟩,hlt,?_,?_⟩
   ·rw [z4Q]
    dsimp only [DT.pre]
    simp (maxSteps:=1000000) (disch:=omega) only [cA,cB,cN,FnD.nb,lk,lkH,Dst.onT,Dst.onX,Dst.slot,z0W,z0N,z0J,z0X,z0u,z0V,unE,cnt,z0j,z0t,z0m,z0o,opE,rmH,z02,z0n,Nat.reduceEqDiff,Nat.reduceLT,Nat.reduceAdd,Nat.reduceMul,Nat.reduceMod,↓reduceIte,reduceCtorEq,Nat.reduceLeDiff,hAl,hBl,ei,hga,hgb,hna,hnb,hTlt,hTset,hTm,mpa,mpb,mpO,hOl,hl1,h33a,List.map_append,p24,cS]
    refine ⟨⟨by omega,by omega,hoa⟩,⟨by omega,by omega⟩,hlt,⟨by omega,by omega,fun h=>h,hob⟩,⟨by omega,by omega,fun h=>h,h1o _⟩,?_⟩
    show W _ _ _ _ _
    rw [hn1,hT0]
    refine y15 rfl rfl hxr (hRr i) (by rw [hRl];omega) hkk ?_
    rw [hRs,←hT1]
    refine zS e1 ?_
    exact ⟨i+1,by omega,by omega,by simp [z0y,lk],rfl⟩
   ·rw [z4Q]
    dsimp only [DT.pre]
    simp (maxSteps:=1000000) (disch:=omega) only [cA,cB,cN,FnD.nb,lk,lkH,Dst.onT,Dst.onX,Dst.slot,z0W,z0N,z0J,z0X,z0u,z0V,unE,cnt,z0j,z0t,z0m,z0o,opE,rmH,z02,z0n,Nat.reduceEqDiff,Nat.reduceLT,Nat.reduceAdd,Nat.reduceMul,Nat.reduceMod,↓reduceIte,reduceCtorEq,Nat.reduceLeDiff,hAl,hBl,ei,hga,hgb,hna,hnb,hTlt,hTset,hTm,mpa,mpb,mpO,hOl,hl1,h33a,List.map_append,p24,cS]
    refine ⟨⟨by omega,by omega⟩,?_,?_⟩
    ·rw [z4Q]
     dsimp only [DT.pre]
     simp (maxSteps:=1000000) (disch:=omega) only [cA,cB,cN,FnD.nb,lk,lkH,Dst.onT,Dst.onX,Dst.slot,z0W,z0N,z0J,z0X,z0u,z0V,unE,cnt,z0j,z0t,z0m,z0o,opE,rmH,z02,z0n,Nat.reduceEqDiff,Nat.reduceLT,Nat.reduceAdd,Nat.reduceMul,Nat.reduceMod,↓reduceIte,reduceCtorEq,Nat.reduceLeDiff,hAl,hBl,ei,hga,hgb,hna,hnb,hTlt,hTset,hTm,mpa,mpb,mpO,hOl,hl1,h33a,List.map_append,p24,cS]
     refine ⟨⟨by omega,by omega,hoa⟩,hlt,⟨by omega,by omega,fun h=>h,hob⟩,⟨by omega,by omega,fun h=>h,h1o _⟩,?_⟩
     show W _ _ _ _ _
     rw [hn1,hT0]
     refine y15 rfl rfl hxr (hRr i) (by rw [hRl];omega) hkk ?_
     rw [hRs,←hT1]
     refine zS e1 ?_
     exact ⟨i+1,by omega,by omega,by simp [z0y,lk],rfl⟩
    ·rw [z4Q]
     dsimp only [DT.pre]
     simp (maxSteps:=1000000) (disch:=omega) only [cA,cB,cN,FnD.nb,lk,lkH,Dst.onT,Dst.onX,Dst.slot,z0W,z0N,z0J,z0X,z0u,z0V,unE,cnt,z0j,z0t,z0m,z0o,opE,rmH,z02,z0n,Nat.reduceEqDiff,Nat.reduceLT,Nat.reduceAdd,Nat.reduceMul,Nat.reduceMod,↓reduceIte,reduceCtorEq,Nat.reduceLeDiff,hAl,hBl,ei,hga,hgb,hna,hnb,hTlt,hTset,hTm,mpa,mpb,mpO,hOl,hl1,h33a,List.map_append,p24,cS]
     refine ⟨hlt,⟨by omega,by omega,hoa⟩,⟨by omega,by omega,fun h=>h,hob⟩,⟨by omega,by omega,fun h=>h,h1o _⟩,?_⟩
     show W _ _ _ _ _
     rw [hn1,hT0]
     refine y15 rfl rfl hxr (hRr i) (by rw [hRl];omega) hkk ?_
     rw [hRs,←hT1]
     refine zS e1 ?_
     exact ⟨i+1,by omega,by omega,by simp [z0y,lk],rfl⟩
  ·have dl:decide ((i:Int)<(A.length:Int))=false:=zF9
   obtain rfl:i=A.length:=by omega
   have hres:(RL A.length).map (.sl 3)=z6V (y3w A B A.length):=by rw [hRL];simp only;rw [List.map_map];rfl
   rw [hTL]
   simp only
   refine w2U (z:=3) (by decide) ?_ (RL A.length) 1000 [] (Nat.le_refl _) (by rw [hRl];omega) (hRr _) ?_ (fun _ h=>absurd h List.not_mem_nil) ?_
   ·exact fun o cs ho=>by simp [z0J,frz,purge,DV.has,show 200≠o by omega]
   ·intro l hl
    rw [hRL] at hl
    obtain ⟨y,_,rfl⟩:=List.mem_map.1 hl
    rw [z1A,Nat.mul_div_cancel _ (by decide)]
   rw [List.nil_append,hres]
   have hrl:=z6b (y3w A B A.length)
   rw [y3x] at hrl
   have hrr:=w1T (y3w A B A.length)
   generalize z6V (y3w A B A.length)=X at *
   have hfx:frz 200 X (.osl 1 200 0 A.length)=.sl 1 X:=by
    simp [frz,hrl]
    rw [List.take_of_length_le (by omega)]
   have fsl:∀o cs z x,frz o cs (.sl z x)=.sl z x:=fun o cs z x=>by simp [frz,purge,DV.has]
   have fin:∀o cs (z:Int),frz o cs (.int .i64 z)=.int .i64 z:=fun o cs z=>by simp [frz,purge,DV.has]
   refine z0I 200 (cells:=X) rfl (List.all_eq_true.2 hrr) ?_
   refine zS (zA hAl (zA hBl (zA dl (zA hfx (zA fsl fin))))) ?_
   refine z0l rfl (fun h=>by cases h) (fun _=>z0q ?_)
   refine zR ?_
   exact z0i (z0h (.imm rfl))
theorem z5W {A B:List (List Rat)} {p:Nat} (hA:A.length≤90) (hl:B.length=A.length) (ha:∀l∈A,l.length≤90) (hb:∀l∈B,l.length≤90)
  (c1:z0c prog 25 [.sl 1 (z6V A)] (.tup [.int .i64 p,.int .i64 0])) (c2:z0c prog 25 [.sl 1 (z6V B)] (.tup [.int .i64 p,.int .i64 0])) (c3:z0c prog 25 [.sl 1 (z6V (y3w A B A.length))] (.tup [.int .i64 p,.int .i64 0])) :
  z0c prog 16 [.sl 1 (z6V A),.sl 1 (z6V B)] (.bool true):=by
 have cb:=y2I A B hA hl ha hb
 have hAl:=z6b A
 have hBl:=z6b B
 rw [hl] at hBl
 have d00:decide ((0:Int)=0)=true:=rfl
 have dtt:∀[h:Decidable True],@decide True h=true:=by intro h;exact decide_eq_true trivial
 refine z0b y0i (by simp [z43]) ?_
 unfold z33
 refine zR ?_
 refine cP c1 ?_
 refine zR ?_
 refine cP c2 ?_
 refine zR ?_
 refine cP cb ?_
 refine zR ?_
 refine cP c3 ?_
 refine zS (zA d00 (zA dtt (zA hAl hBl))) ?_
 exact z0i (z0h (.imm rfl))
theorem z9L {A:List (List Rat)} {n k b:Nat} (hl:A.length=n) (hn:n≤90) (h0:n≠0) (hk:∀l∈A,l.length=k) (hk1:1≤k∧k≤90) (hb:b≤140800) (hM:∀l∈A,∀x∈l,BS x b)
  (hG:∀t,t<(rrP n k (mtX (xOf n k (y3y A)))).length→3*gB b t+2≤140800) (hG2:∀t,t≤(rrP n k (mtX (xOf n k (y3y A)))).length→gB b t≤140800) :
  z0c prog 25 [.sl 1 (z6V A)] (.tup [.int .i64 (rrP n k (mtX (xOf n k (y3y A)))).length,.int .i64 0]):=by
 have hM0:MS n k (y3y A) b:=fun i hi j hj=>by
  have hm:A.getD i []∈A:=y1p (by omega) _
  have hl:=hk _ hm
  exact hM _ hm _ (y1p (by omega) _)
 have hok:mtOK (xOf n k (y3y A)) n k b:=⟨w2v _ _ _,hn,hk1.2,fun e=>absurd e h0,fun i hi=>x8t hi _,fun _=>hk1.1,w5s hM0 hb,fun i hi j hj=>by rw [x5V _ i hi j hj];exact hM0 i hi j hj⟩
 have cr:=y2P hok hG hG2
 have hr:=x7W hk
 rw [hl] at hr
 rw [w61,←hr] at cr
 exact cr
theorem y7y {Y X G H:List Int} {i i' c c' ka kb:Nat} {T T':List (List Rat)} {R:List Nat} (hi:i<19) (hi':i'<19) (hc:1≤c∧c≤3) (hc':1≤c'∧c'≤3)
  (hs:y0v (y4g (kM i) c) (y4g (kM i') c') ka kb T=true) (hs':y0v (y4g (kM i') c') (y4g (kM i) c) kb ka T'=true) (hR:∀r∈R,r<min Y.length 10) (hR0:R.length≠0) (hR1:R.length≤10)
  (hka:1≤ka∧ka≤40) (hkb:1≤kb∧kb≤40) (hw:(mdW i=7∧mdW i'=7∧(ka≤7∨kb≤7))∨(ka≤3∨kb≤3)) :
  z0c prog 16 [.sl 1 (z6V (R.map (z98 (z2o Y X G H) (kM i) c))),.sl 1 (z6V (R.map (z98 (z2o Y X G H) (kM i') c')))] (.bool true):=by
 have mem:∀{j:Nat},j<19→x5X (kM j)=true:=fun {j} hj=>by
  refine List.all_eq_true.1 x5Y _ ?_
  unfold kM
  rw [zO1,zO4 (show j<w4h.length from hj)]
  exact List.getElem_mem _
 have hx:=mem hi
 have hx':=mem hi'
 obtain ⟨A,hA⟩:∃A,A=R.map (z98 (z2o Y X G H) (kM i) c):=⟨_,rfl⟩
 obtain ⟨B,hB⟩:∃B,B=R.map (z98 (z2o Y X G H) (kM i') c'):=⟨_,rfl⟩
 have hAl:A.length=R.length:=by rw [hA,List.length_map]
 have hBl:B.length=R.length:=by rw [hB,List.length_map]
 have hAk:∀l∈A,l.length=ka:=fun l hl=>by
  rw [hA] at hl
  obtain ⟨r,hr,rfl⟩:=List.mem_map.1 hl
  exact x2x hx hs (hR r hr)
 have hBk:∀l∈B,l.length=kb:=fun l hl=>by
  rw [hB] at hl
  obtain ⟨r,hr,rfl⟩:=List.mem_map.1 hl
  exact x2x hx' hs' (hR r hr)
 have hw7:∀j,mdW j=7∨mdW j=10:=fun j=>by unfold mdW;split<;>omega
 obtain ⟨b,hb,hb1,hb2⟩:∃b,((b=7∧(ka≤7∨kb≤7))∨(b=10∧(ka≤3∨kb≤3)))∧mdW i≤b∧mdW i'≤b:=by
  have w1:=hw7 i
  have w2:=hw7 i'
  rcases hw with ⟨e1,e2,e3⟩|e3
  ·exact ⟨7,.inl ⟨rfl,e3⟩,by omega,by omega⟩
  ·exact ⟨10,.inr ⟨rfl,e3⟩,by omega,by omega⟩
 have hAb:∀l∈A,∀x∈l,BS x b:=fun l hl x hx=>by
  rw [hA] at hl
  obtain ⟨r,hr,rfl⟩:=List.mem_map.1 hl
  exact (y8z hi hc (hR r hr) x hx).mono hb1
 have hBb:∀l∈B,∀x∈l,BS x b:=fun l hl x hx=>by
  rw [hB] at hl
  obtain ⟨r,hr,rfl⟩:=List.mem_map.1 hl
  exact (y8z hi' hc' (hR r hr) x hx).mono hb2
 have hCm:∀l∈y3w A B R.length,∃a∈A,∃d∈B,l=a++d:=fun l hl=>by
  unfold y3w at hl
  obtain ⟨j,hj,rfl⟩:=List.mem_map.1 hl
  rw [List.mem_range] at hj
  exact ⟨A.getD j [],y1p (by omega) _,B.getD j [],y1p (by omega) _,rfl⟩
 have hCk:∀l∈y3w A B R.length,l.length=ka+kb:=fun l hl=>by
  obtain ⟨a,h1,d,h2,rfl⟩:=hCm l hl
  rw [List.length_append,hAk a h1,hBk d h2]
 have hCb:∀l∈y3w A B R.length,∀x∈l,BS x b:=fun l hl x hx=>by
  obtain ⟨a,h1,d,h2,rfl⟩:=hCm l hl
  rcases List.mem_append.1 hx with hx|hx
  ·exact hAb a h1 x hx
  ·exact hBb d h2 x hx
 have hCl:=y3x A B R.length
 have eA:∀j,j<R.length→A.getD j []=z98 (z2o Y X G H) (kM i) c (R.getD j 0):=fun j hj=>by rw [hA];exact y9t _ hj
 have eB:∀j,j<R.length→B.getD j []=z98 (z2o Y X G H) (kM i') c' (R.getD j 0):=fun j hj=>by rw [hB];exact y9t _ hj
 have eC:∀j,j<R.length→(y3w A B R.length).getD j []=A.getD j []++B.getD j []:=fun j hj=>by
  unfold y3w
  rw [zO1,List.getElem?_map,List.getElem?_range (by omega)];rfl
 obtain ⟨r1,r2⟩:=x5M (Y:=Y) (X:=X) (G:=G) (H:=H) (A:=mtX (xOf R.length ka (y3y A))) (B:=mtX (xOf R.length kb (y3y B))) (C:=mtX (xOf R.length (ka+kb) (y3y (y3w A B R.length)))) hx hx' hs hs' hR
  (fun j hj l hl=>by rw [x5V _ j (by omega) l hl];unfold y3y z71;rw [eA j hj])
  (fun j hj l hl=>by rw [x5V _ j (by omega) l hl];unfold y3y z71;rw [eB j hj])
  (fun j hj l hl=>by
   have h1:=hAk (A.getD j []) (y1p (by omega) _)
   rw [x5V _ j (by omega) l (by omega)];unfold y3y z71
   rw [eC j hj,←eA j hj,w0i (by omega)])
  (fun j hj l hl=>by
   have h1:=hAk (A.getD j []) (y1p (by omega) _)
   rw [x5V _ j (by omega) (ka+l) (by omega)];unfold y3y z71
   rw [eC j hj,←eB j hj,x6L h1])
 have q1:=y9T R.length ka (mtX (xOf R.length ka (y3y A)))
 have q2:=y9T R.length kb (mtX (xOf R.length kb (y3y B)))
 have hGG:∀p,p≤ka→p≤kb→(∀t,t<p→3*gB b t+2≤140800)∧∀t,t≤p→gB b t≤140800:=fun p h1 h2=>by
  rcases hb with ⟨rfl,e⟩|⟨rfl,e⟩
  ·exact ⟨fun t ht=>w7e.1 t (by omega),fun t ht=>w7e.2 t (by omega)⟩
  ·exact ⟨fun t ht=>w3t.1 t (by omega),fun t ht=>w3t.2 t (by omega)⟩
 obtain ⟨g1,g2⟩:=hGG (rrP R.length ka (mtX (xOf R.length ka (y3y A)))).length q1 (by rw [←r1];exact q2)
 have hb8:b≤140800:=by omega
 have k1:=z9L hAl (by omega) hR0 hAk (by omega) hb8 hAb g1 g2
 have k2:=z9L hBl (by omega) hR0 hBk (by omega) hb8 hBb (by rw [r1];exact g1) (by rw [r1];exact g2)
 have k3:=z9L hCl (by omega) hR0 hCk (by omega) hb8 hCb (by rw [r2];exact g1) (by rw [r2];exact g2)
 rw [r1] at k2
 rw [r2] at k3
 rw [←hA,←hB]
 refine z5W (by omega) (by omega) (fun l hl=>by rw [hAk l hl];omega) (fun l hl=>by rw [hBk l hl];omega) k1 k2 ?_
 rw [hAl]
 exact k3
theorem y2b {n:Nat} {S:List Kx} {m:Mdl} {cod:Nat} (h:DKt n S m cod) (hx:DX n S m) (he:DE n S m) (hR0:(z1R n S m).length=0) :
  z0c prog 13 [.agg [.int .i64 n,.sl 4 (kxs S)],.agg (z1F m),.int .i64 cod] (.tup [.agg [.nils,.nils,.nils,.nils],.int .i64 10]):=by
 have c1:=y0c h hx he
 have c2:=z94 n S (z13 m) h.ok he.tu (by have:=hx.vl;omega) h.vs
 have c3:=he.wa
 have hca:(DV.agg [.int .i64 n,.sl 4 (kxs S)]).cells? = some [.int .i64 n,.sl 4 (kxs S)]:=rfl
 have hcm:(DV.agg (z1F m)).cells? = some (z1F m):=rfl
 have hm3:(z1F m).length=3:=rfl
 have hmt:(z1F m).take 3=z1F m:=rfl
 have hmr:∀d∈z1F m,d.rf=true:=List.all_eq_true.1 rfl
 have hl0:laid [DV.nils,.nils,.nils,.nils] []=some [.nils,.nils,.nils,.nils]:=rfl
 have hs4:∀(a b c d:DV) (C:List DV),List.take 0 [a,b,c,d]++C++List.drop 4 [a,b,c,d]=C:=fun _ _ _ _ _=>by simp
 have hrl:=z28 (z1R n S m)
 have hrm:ints (z1c (z22 S (z13 m)) n)=ints (z1R n S m):=rfl
 rw [hrm] at c2
 refine z0b x0x (by simp [y05]) ?_
 unfold z65
 generalize z1R n S m=R at *
 generalize hMM:z1F m=MM at *
 refine zS (zA hca (zA hcm (zA hm3 (zA hmt (zA @List.drop_zero.{0} @cS))))) ?_
 refine z0E c1 (by simp only [List.all_cons,DV.rf_agg,List.all_eq_true.2 hmr];rfl) ?_
 refine zR ?_
 refine wFs ?_
 refine zS (zA hm3 (zA hmt (zA @List.drop_zero.{0} @cS))) ?_
 refine z0E c3 (by simp only [List.all_cons,DV.rf_agg,List.all_eq_true.2 hmr];rfl) ?_
 refine zR ?_
 refine cP c2 ?_
 refine zR ?_
 have d0:decide ((R.length:Int)=0)=true:=zT9
 refine zS (zA hrl d0) ?_
 refine wT ?_
 refine zS (zA hl0 (zA hs4 @cS)) ?_
 exact z0i (y57 rfl rfl rfl (.imm rfl) (.imm rfl))
end Go.Proofs.YtlcagndeidjobaaGreatDoor
namespace Go.Proofs.YtlcagndeidjobaaGreatDoor
open Tryz
open Go Go.Dat Go.Proofs Go.RowKit Nat32
theorem w5V:((List.range 12).all fun i=>decide (1≤w24 i) && decide (w24 i≤7) && (decide (mdW i=7) || decide (w24 i≤3)))=true:=by decide +kernel
theorem x2u {Y X G H:List Int} {i p q:Nat} {R:List Nat} (hi:i<12) (hp:1≤p∧p≤3) (hq:1≤q∧q≤3) (hR:∀r∈R,r<min Y.length 10) (hR0:R.length≠0) (hR1:R.length≤10) :
  z0c prog 16 [.sl 1 (z6V (R.map (z98 (z2o Y X G H) (kM i) p))),.sl 1 (z6V (R.map (z98 (z2o Y X G H) (kM i) q)))] (.bool true):=by
 have hw:=List.all_eq_true.1 w5V i (List.mem_range.2 hi)
 simp only [Bool.and_eq_true,Bool.or_eq_true,decide_eq_true_eq] at hw
 have m3:∀{c:Nat},1≤c∧c≤3→c∈[1,2,3]:=fun {c} h=>by simp only [List.mem_cons,List.not_mem_nil,or_false];omega
 have h1:=List.all_eq_true.1 (List.all_eq_true.1 (List.all_eq_true.1 x2t i (List.mem_range.2 hi)) p (m3 hp)) q (m3 hq)
 have h2:=List.all_eq_true.1 (List.all_eq_true.1 (List.all_eq_true.1 x2t i (List.mem_range.2 hi)) q (m3 hq)) p (m3 hp)
 exact y7y (by omega) (by omega) hp hq h1 h2 hR hR0 hR1 (by omega) (by omega) (by omega)
theorem w49 {Y X G H:List Int} {n i:Nat} (hn:n=min Y.length 10) (hi:i<19) {R:List Nat} (hR:∀r∈R,r<n) (hR1:R.length≤10):z0c prog 17 [.sl 3 (nums (R.map (x1X (z2o Y X G H) (kM i)))),.sl 3 (nums (R.map (x1X (z2o Y X G H) (kM i))))] (.bool true):=by
 have h:=w01 (X:=X) (G:=G) (H:=H) hn hi (cod:=1) (by decide)
 refine y5d _ 100 (by rw [List.length_map];omega) (fun v hv=>?_) (by decide)
 obtain ⟨r,hr,rfl⟩:=List.mem_map.1 hv
 have hkm:=z8P (h.vs (kM i).rs List.mem_cons_self)
 have hl:=(z91 h.tv hkm).2.1
 have hrn:=hR r hr
 exact (h.nu _ hkm _ (z6j (by omega))).2
theorem x0Y (Y X G H:List Int) (wh a b:Int) (hY:Y.length≤9223372036854775807) (hX:X.length≤9223372036854775807) (hG:G.length≤9223372036854775807) (hH:H.length≤9223372036854775807)
  (bY:∀z∈Y,-9223372036854775808≤z∧z≤9223372036854775807) (bX:∀z∈X,-9223372036854775808≤z∧z≤9223372036854775807) (bG:∀z∈G,-9223372036854775808≤z∧z≤9223372036854775807) (bH:∀z∈H,-9223372036854775808≤z∧z≤9223372036854775807) :
  z0c prog 4 [.agg [.sl 1 (Y.map (.int .i64)),.sl 1 (X.map (.int .i64)),.sl 1 (G.map (.int .i64)),.sl 1 (H.map (.int .i64))],.int .i64 wh,.int .i64 a,.int .i64 b] (.bool true):=by
 have hA:=y0j
 have cT:=y2H Y X G H hY hX hG hH bY bX bG bH
 have cx:=y0k
 have cm:=y42 wh 12 (by decide) (by decide)
 have ca:=y42 a 3 (by decide) (by decide)
 have cb:=y42 b 3 (by decide) (by decide)
 obtain ⟨i,hi⟩:∃i:Nat,wh % ((12:Nat):Int)=i:=⟨(wh % ((12:Nat):Int)).toNat,by omega⟩
 obtain ⟨p,hp⟩:∃p:Nat,1+a % ((3:Nat):Int)=p:=⟨(1+a % ((3:Nat):Int)).toNat,by omega⟩
 obtain ⟨q,hq⟩:∃q:Nat,1+b % ((3:Nat):Int)=q:=⟨(1+b % ((3:Nat):Int)).toNat,by omega⟩
 have hi12:i<12:=by omega
 have hp3:1≤p∧p≤3:=by omega
 have hq3:1≤q∧q≤3:=by omega
 have bp:a % ((3:Nat):Int)=((p - 1:Nat):Int):=by omega
 have bq:b % ((3:Nat):Int)=((q - 1:Nat):Int):=by omega
 rw [hi] at cm
 rw [bp] at ca
 rw [bq] at cb
 have ep:(1:Int)+((p - 1:Nat):Int)=(p:Int):=by omega
 have eq:(1:Int)+((q - 1:Nat):Int)=(q:Int):=by omega
 have cmd:=w4k hi12
 obtain ⟨n,hn⟩:∃n,n=min Y.length 10:=⟨_,rfl⟩
 have hlt:(z0L x8o).length=12:=rfl
 have hg:(z0L x8o).getD i .undef=.str (x8o.getD i []):=z1a (by exact hi12)
 have hcm:(DV.agg (z1F (kM i))).cells? = some (z1F (kM i)):=rfl
 have hm3:(z1F (kM i)).length=3:=rfl
 have hmr:∀d∈z1F (kM i),d.rf=true:=List.all_eq_true.1 rfl
 have hDX:=w6i (X:=X) (G:=G) (H:=H) hn (show i<19 by omega)
 have hDE:=w6h (X:=X) (G:=G) (H:=H) hn hi12
 have hK1:=w01 (X:=X) (G:=G) (H:=H) hn (show i<19 by omega) (cod:=p) (by omega)
 have hK2:=w01 (X:=X) (G:=G) (H:=H) hn (show i<19 by omega) (cod:=q) (by omega)
 have hw1:=w4m (Y:=Y) (X:=X) (G:=G) (H:=H) (i:=i) (cod:=p) (by omega) (by omega)
 have hw2:=w4m (Y:=Y) (X:=X) (G:=G) (H:=H) (i:=i) (cod:=q) (by omega) (by omega)
 have c1:=z41 hK1 hDX hw1
 have c2:=z41 hK2 hDX hw2
 have hRn:(z1R n (z2o Y X G H) (kM i)).length≤n:=z8d _ _
 have hRm:∀r∈z1R n (z2o Y X G H) (kM i),r<n:=fun r hr=>(x5p hr).1
 have hRc:(DV.agg [.sl 1 (Y.map (.int .i64)),.sl 1 (X.map (.int .i64)),.sl 1 (G.map (.int .i64)),.sl 1 (H.map (.int .i64))]).cells? = some [.sl 1 (Y.map (.int .i64)),.sl 1 (X.map (.int .i64)),.sl 1 (G.map (.int .i64)),.sl 1 (H.map (.int .i64))]:=rfl
 have hRr:([.sl 1 (Y.map (.int .i64)),.sl 1 (X.map (.int .i64)),.sl 1 (G.map (.int .i64)),.sl 1 (H.map (.int .i64))]:List DV).all DV.rf=true:=rfl
 have hR4:([.sl 1 (Y.map (.int .i64)),.sl 1 (X.map (.int .i64)),.sl 1 (G.map (.int .i64)),.sl 1 (H.map (.int .i64))]:List DV).length=4:=rfl
 have hTc:∀T,(DV.agg [.int .i64 n,.sl 4 T]).cells? = some [.int .i64 n,.sl 4 T]:=fun _=>rfl
 have hz2:∀(a b:DV) (C:List DV),List.take 0 [a,b]++C++List.drop 2 [a,b]=C:=fun _ _ _=>by simp
 have hz3:∀(a b c:DV) (C:List DV),List.take 0 [a,b,c]++C++List.drop 3 [a,b,c]=C:=fun _ _ _ _=>by simp
 have hs4:∀(a b c d:DV) (C:List DV),List.take 0 [a,b,c,d]++C++List.drop 4 [a,b,c,d]=C:=fun _ _ _ _ _=>by simp
 have d10:decide (¬(10:Int)=0)=true:=rfl
 have d00:decide (¬(0:Int)=0)=false:=rfl
 have d11:decide ((10:Int)=10)=true:=rfl
 have dtt:∀[h:Decidable True],@decide True h=true:=by intro h;exact decide_eq_true trivial
 have dnt:∀[h:Decidable (¬True)],@decide (¬True) h=false:=by intro h;exact decide_eq_false (fun g=>g trivial)
 have ei:(i:Int).toNat=i:=Int.toNat_natCast i
 rw [←hn] at cT
 by_cases hR0:(z1R n (z2o Y X G H) (kM i)).length=0
 ·rw [if_pos hR0] at c1 c2
  have c3:=y2b hK1 hDX hDE hR0
  have hLc:(DV.agg [.nils,.nils,.nils,.nils]).cells? = some [.nils,.nils,.nils,.nils]:=rfl
  generalize ([.sl 1 (Y.map (.int .i64)),.sl 1 (X.map (.int .i64)),.sl 1 (G.map (.int .i64)),.sl 1 (H.map (.int .i64))]:List DV)=RR at *
  have hRt:RR.take 4=RR:=List.take_of_length_le (by omega)
  generalize kxs (z2o Y X G H)=T at *
  generalize z1F (kM i)=M at *
  generalize x8o.getD i []=s at *
  generalize z0L x8o=tx at *
  have hMt:M.take 3=M:=List.take_of_length_le (by omega)
  have hrf:∀c:Int,[DV.agg [.int .i64 n,.sl 4 T],.agg M,.int .i64 c].all DV.rf=true:=fun c=>by
   simp only [List.all_cons,DV.rf_agg,List.all_eq_true.2 hmr];rfl
  refine z0b z1v (by simp [z04]) ?_
  unfold z0Z
  refine zS (zA hRc (zA hR4 (zA hRt (zA @List.drop_zero.{0} @cS)))) ?_
  refine z0E cT (by simp only [List.all_cons,DV.rf_agg,hRr];rfl) ?_
  refine zR ?_
  refine cP cx ?_
  refine zR ?_
  refine cP cx ?_
  refine zS hlt ?_
  refine cP cm ?_
  refine zS (zA hlt (zA ei hg)) ?_
  refine cP cmd ?_
  refine zS (zA hTc (zA hcm (zA hm3 (zA hMt (zA hz2 (zA hz3 (zA @List.drop_zero.{0} @cS))))))) ?_
  refine cP ca ?_
  refine zS ep ?_
  refine cP cb ?_
  refine zS (zA @eq (zA ep (zA hm3 (zA hMt @List.drop_zero.{0})))) ?_
  refine z0E c1 (hrf _) ?_
  refine zS (zA hLc (zA hs4 (zA hm3 (zA hMt (zA @List.drop_zero.{0} @cS))))) ?_
  refine z0E c2 (hrf _) ?_
  refine zS (zA hLc (zA hs4 (zA hm3 (zA hMt (zA d10 (zA @List.drop_zero.{0} @cS)))))) ?_
  refine wT ?_
  refine zS (zA hm3 (zA hMt @List.drop_zero.{0})) ?_
  refine z0E c3 (hrf _) ?_
  refine zS (zA hLc (zA hs4 (zA d11 (zA dtt (zA @List.drop_zero.{0} @cS))))) ?_
  refine cP hA ?_
  refine zS (zA d11 dtt) ?_
  exact z0i (z0h (.imm rfl))
 ·rw [if_neg hR0,x91] at c1 c2
  have cs:=x2u (Y:=Y) (X:=X) (G:=G) (H:=H) hi12 hp3 hq3 (R:=z1R n (z2o Y X G H) (kM i)) (by rw [←hn];exact hRm) hR0 (by omega)
  have cy:=w49 (X:=X) (G:=G) (H:=H) hn (show i<19 by omega) hRm (by omega)
  have ci:=y2Q (z1R n (z2o Y X G H) (kM i)) (by omega)
  have hDc:∀N x y R,(DV.agg (dsD N x y R)).cells? = some (dsD N x y R):=fun _ _ _ _=>rfl
  have hD4:∀N x y R,(dsD N x y R).length=4:=fun _ _ _ _=>rfl
  have hDt:∀N x y R,(dsD N x y R).take 4=dsD N x y R:=fun _ _ _ _=>rfl
  have hd1:∀N x y R z,(dsD N x y R).getD 1 z=.sl 1 (z6V x):=fun _ _ _ _ _=>rfl
  have hd2:∀N x y R z,(dsD N x y R).getD 2 z=.sl 3 (nums y):=fun _ _ _ _ _=>rfl
  have hd3:∀N x y R z,(dsD N x y R).getD 3 z=.sl 1 (ints R):=fun _ _ _ _ _=>rfl
  generalize ([.sl 1 (Y.map (.int .i64)),.sl 1 (X.map (.int .i64)),.sl 1 (G.map (.int .i64)),.sl 1 (H.map (.int .i64))]:List DV)=RR at *
  have hRt:RR.take 4=RR:=List.take_of_length_le (by omega)
  generalize kxs (z2o Y X G H)=T at *
  generalize z1F (kM i)=M at *
  generalize x8o.getD i []=s at *
  generalize z0L x8o=tx at *
  have hMt:M.take 3=M:=List.take_of_length_le (by omega)
  have hrf:∀c:Int,[DV.agg [.int .i64 n,.sl 4 T],.agg M,.int .i64 c].all DV.rf=true:=fun c=>by
   simp only [List.all_cons,DV.rf_agg,List.all_eq_true.2 hmr];rfl
  refine z0b z1v (by simp [z04]) ?_
  unfold z0Z
  refine zS (zA hRc (zA hR4 (zA hRt (zA @List.drop_zero.{0} @cS)))) ?_
  refine z0E cT (by simp only [List.all_cons,DV.rf_agg,hRr];rfl) ?_
  refine zR ?_
  refine cP cx ?_
  refine zR ?_
  refine cP cx ?_
  refine zS hlt ?_
  refine cP cm ?_
  refine zS (zA hlt (zA ei hg)) ?_
  refine cP cmd ?_
  refine zS (zA hTc (zA hcm (zA hm3 (zA hMt (zA hz2 (zA hz3 (zA @List.drop_zero.{0} @cS))))))) ?_
  refine cP ca ?_
  refine zS ep ?_
  refine cP cb ?_
  refine zS (zA @eq (zA ep (zA hm3 (zA hMt @List.drop_zero.{0})))) ?_
  refine z0E c1 (hrf _) ?_
  refine zS (zA hDc (zA hD4 (zA hs4 (zA hm3 (zA hMt (zA @List.drop_zero.{0} @cS)))))) ?_
  refine z0E c2 (hrf _) ?_
  refine zS (zA hDc (zA hD4 (zA hs4 (zA hm3 (zA hMt (zA d00 (zA dnt (zA @List.drop_zero.{0} @cS)))))))) ?_
  refine wFs ?_
  refine zR ?_
  refine cP hA ?_
  refine zS (zA hD4 hd1) ?_
  refine cP cs ?_
  refine zS (zA hD4 hd2) ?_
  refine cP cy ?_
  refine zS (zA hD4 hd3) ?_
  refine cP ci ?_
  refine zR ?_
  exact z0i (z0h (.imm rfl))
def frB (j:Nat):Nat:=(w7x.getD j (0,0)).2
end Go.Proofs.YtlcagndeidjobaaGreatDoor
