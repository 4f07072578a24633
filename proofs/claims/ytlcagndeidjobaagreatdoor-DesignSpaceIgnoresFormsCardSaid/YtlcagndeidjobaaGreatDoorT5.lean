/- Lemmas of the walk; no conditions beyond those that each states. -/
import Derived.Test.YtlcagndeidjobaaGreatDoorProg
import Derived.OpenShut
import Derived.Below
import Derived.Lib.SmallJoins
import Derived.Lib.Bytealg
import Derived.Lib.IndexAny
import Derived.Lib.TrimByte
import Derived.Lib.Strings
import Derived.HandedShaped
import Derived.Handed
import Derived.Test.YtlcagndeidjobaaGreatDoorD3
import Derived.Test.YtlcagndeidjobaaGreatDoorT4
import Derived.Test.YtlcagndeidjobaaGreatDoorN2
import Derived.Test.YtlcagndeidjobaaGreatDoorD5
import Derived.Test.YtlcagndeidjobaaGreatDoorT2
import Derived.Test.YtlcagndeidjobaaGreatDoorC2
import Derived.Test.YtlcagndeidjobaaGreatDoorD4
import Derived.Test.YtlcagndeidjobaaGreatDoorT3
import Derived.Test.YtlcagndeidjobaaGreatDoorT1
import Derived.Test.YtlcagndeidjobaaGreatDoorC1
import Derived.Test.YtlcagndeidjobaaGreatDoorN1
set_option linter.unusedSimpArgs false
set_option linter.unusedVariables false
set_option linter.unnecessarySimpa false
set_option maxHeartbeats 4000000
namespace Go.Proofs.YtlcagndeidjobaaGreatDoor
open Tryz
open Go Go.Dat Go.Proofs Go.RowKit Go.Lib Nat32
structure DX (n:Nat) (S:List Kx) (m:Mdl):Prop where
 mv:z0c prog 76 [.agg (z2w m)] (.bool true)
 va:z0c prog 78 [.agg (z2w m)] (.sl 1 (z0K (z2A m)))
 vl:(z2A m).length≤1000
 rk:(z4C S m.rs).kd=1
 pk:∀t∈m.tm,∀f∈t,f.pw≠1→(z4C S f.nm).kd=1
 n64:n≤64
theorem z96 {n:Nat} {S:List Kx} {m:Mdl} {cod:Nat} (h:DKt n S m cod) (hx:DX n S m) :
  z0c prog 35 [.el (z49 n S m cod) 0] (.tup [.sl 1 (ints (z2b n S m)),.int .i64 0]):=by
 have c1:=z6W n S h.ok
 rw [h.tv] at c1
 have c2:=hx.mv
 have c3:=hx.va
 have c4:=z9V n S (z2A m) h.ok h.tv (by have:=hx.vl;omega) h.vs (fun k hk=>(y3e h.tv hk).2.1) (by have:=hx.n64;omega)
 have hvr:m.rs∈z2A m:=List.mem_cons_self
 have c5:=z14 n S m cod m.rs h.ok h.tv (h.vs _ hvr)
 have hT:=x5x m.tm
 have hl32:=h.tl.1
 have hk1:=hx.rk
 have hck:∀k,(DV.agg (kxC k)).cells? = some (kxC k):=fun _=>rfl
 have hk4:=z04
 have hkg:∀k x,(kxC k).getD 1 x=.int .i64 k.kd:=fun _ _=>rfl
 have d1:decide ((cod:Int)<1)=false:=decide_eq_false (by have:=h.c4;omega)
 have d2:decide ((4:Int)<(cod:Int))=false:=decide_eq_false (by have:=h.c4;omega)
 refine z0b x0l (by simp [y0W]) ?_
 unfold z62
 have hrm:ints (z00 (z1W S (z2A m)) n)=ints (z2b n S m):=rfl
 rw [hrm] at c4
 have hb:∀x,(z49 n S m cod).getD 5 x=.int .i64 cod:=fun _=>rfl
 have hb2:∀x,(z49 n S m cod).getD 2 x=.str m.rs:=fun _=>rfl
 have hb4:∀x,(z49 n S m cod).getD 4 x=.sl 1 (tmD m.tm):=fun _=>rfl
 have hb6:(z49 n S m cod).length=6:=rfl
 have ht2:(z49 n S m cod).take 2=[.int .i64 n,.sl 4 (kxs S)]:=rfl
 have ht3:((z49 n S m cod).drop 2).take 3=z2w m:=rfl
 generalize hB:z49 n S m cod=B at *
 refine zS (zA ht2 (zA ht3 (zA hb6 @List.drop_zero.{0}))) ?_
 refine cP c1 ?_
 refine zS (zA ht2 (zA ht3 (zA hb6 @List.drop_zero.{0}))) ?_
 refine cP c2 ?_
 refine zR ?_
 refine wFs ?_
 refine zS (zA hb (zA hb6 (zA d1 d2))) ?_
 refine wFs ?_
 refine zS (zA ht2 (zA ht3 (zA hb6 @List.drop_zero.{0}))) ?_
 refine cP c3 ?_
 refine zR ?_
 refine cP c4 ?_
 refine zR ?_
 refine wFs ?_
 refine zS (zA hb2 hb6) ?_
 refine cP c5 ?_
 refine zS (zA hck (zA hk4 (zA hkg hk1))) ?_
 refine wFs ?_
 refine zS (zA hb4 (zA hb6 hT)) ?_
 refine z0x (σ:=Nat) (fun i=>[(0,.el B 0),(4,.sl 1 (ints (z2b n S m))),(64,.sl 1 (tmD m.tm)),(65,.int .i64 m.tm.length),(66,.int .i64 i)]) (fun _=>[]) (fun i=>i≤m.tm.length) (fun i=>m.tm.length - i) 0 (Nat.zero_le _) ?_ rfl ?_
 ·simp [z0y,lk]
 ·intro i hi
  try simp only at hi ⊢
  by_cases hlt:i<m.tm.length
  ·have dl:decide ((i:Int)<(m.tm.length:Int))=true:=zT9
   have ei:(i:Int).toNat=i:=Int.toNat_natCast i
   have e1:((i:Int)+1)=((i+1:Nat):Int):=by omega
   have hgT:=x5w hlt .undef
   have ht:m.tm.getD i []∈m.tm:=w51 hlt
   generalize m.tm.getD i []=t at *
   obtain ⟨ht1,ht6⟩:=h.tl.2 t ht
   have hfcl:=z5a t
   have htl2:t.length*2 / 2=t.length:=by omega
   refine zS dl ?_
   refine wTs ?_
   refine z0d ?_
   refine z0f ?_
   refine zS (zA ei (zA hT (zA hgT (zA hfcl htl2)))) ?_
   refine z0x (σ:=Nat) (fun j=>[(0,.el B 0),(4,.sl 1 (ints (z2b n S m))),(64,.sl 1 (tmD m.tm)),(65,.int .i64 m.tm.length),(66,.int .i64 i),(70,.sl 2 (fcs t)),(71,.int .i64 t.length),(72,.int .i64 j)]) (fun _=>[]) (fun j=>j≤t.length) (fun j=>t.length - j) 0 (Nat.zero_le _) ?_ rfl ?_
   ·simp [z0y,lk]
   ·intro j hj
    try simp only at hj ⊢
    by_cases hlj:j<t.length
    ·have dj:decide ((j:Int)<(t.length:Int))=true:=zT9
     have ej:(j:Int).toNat=j:=Int.toNat_natCast j
     have ej1:((j:Int)+1)=((j+1:Nat):Int):=by omega
     have hftw:((fcs t).drop (j*2)).take 2=fcC (t.getD j default):=z1x (j:=0) z2S default hlj (Nat.le_refl _)
     have hfm:t.getD j default∈t:=z7E hlj
     generalize t.getD j default=f at *
     have hcf:(DV.agg (fcC f)).cells? = some (fcC f):=rfl
     have hf2:=z2S f
     have hs2:∀(a b:DV) (C:List DV),List.take 0 [a,b]++C++List.drop 2 [a,b]=C:=fun _ _ _=>by simp
     have hfg:∀x,(fcC f).getD 0 x=.str f.nm:=fun _=>rfl
     have hfg1:∀x,(fcC f).getD 1 x=.int .i64 f.pw:=fun _=>rfl
     refine zS dj ?_
     refine wTs ?_
     refine z0d ?_
     refine z0f ?_
     by_cases hp:f.pw=1
     ·have dp:decide (¬f.pw=1)=false:=zF9
      refine zS (zA ej (zA hfcl (zA hftw (zA hcf (zA hf2 (zA hs2 (zA hfg1 (zA dp @List.drop_zero.{0})))))))) ?_
      refine wFs ?_
      refine z3X 9 ?_
      repeat (first|refine z0d ?_|refine z0g ?_|refine z0p ?_|refine z0f ?_|refine And.intro (by omega) ?_|simp (maxSteps:=1000000) (disch:=omega) only [cA,cB,cN,FnD.nb,lk,lkH,Dst.onT,Dst.onX,Dst.slot,z0W,z0N,z0I,z0X,z0u,z0V,unE,cnt,z0j,z0t,z0l,z0o,opE,rmH,z02,z0n,Nat.reduceEqDiff,Nat.reduceLT,Nat.reduceAdd,Nat.reduceMul,Nat.reduceMod,↓reduceIte,reduceCtorEq,Nat.reduceLeDiff,rmP])
      exact ⟨j+1,by omega,by omega,by simp [z0y,lk,purge,DV.has]⟩
     ·have dp:decide (¬f.pw=1)=true:=decide_eq_true hp
      have c6:=z14 n S m cod f.nm h.ok h.tv (h.vs _ (y5N ht hfm))
      rw [hB] at c6
      have hk:=hx.pk t ht f hfm hp
      refine zS (zA ej (zA hfcl (zA hftw (zA hcf (zA hf2 (zA hs2 (zA hfg1 (zA hfg (zA dp @List.drop_zero.{0}))))))))) ?_
      refine cP c6 ?_
      refine zS (zA hck (zA hk4 (zA hkg hk))) ?_
      refine wFs ?_
      refine z3X 9 ?_
      repeat (first|refine z0d ?_|refine z0g ?_|refine z0p ?_|refine z0f ?_|refine And.intro (by omega) ?_|simp (maxSteps:=1000000) (disch:=omega) only [cA,cB,cN,FnD.nb,lk,lkH,Dst.onT,Dst.onX,Dst.slot,z0W,z0N,z0I,z0X,z0u,z0V,unE,cnt,z0j,z0t,z0l,z0o,opE,rmH,z02,z0n,Nat.reduceEqDiff,Nat.reduceLT,Nat.reduceAdd,Nat.reduceMul,Nat.reduceMod,↓reduceIte,reduceCtorEq,Nat.reduceLeDiff,rmP])
      exact ⟨j+1,by omega,by omega,by simp [z0y,lk,purge,DV.has]⟩
    ·have dj:decide ((j:Int)<(t.length:Int))=false:=zF9
     refine zS dj ?_
     refine z0m rfl (fun h=>by cases h) (fun _=>z0s ?_)
     refine zS e1 ?_
     exact ⟨i+1,by omega,by omega,by simp [z0y,lk]⟩
  ·have dl:decide ((i:Int)<(m.tm.length:Int))=false:=zF9
   refine zS dl ?_
   refine z0m rfl (fun h=>by cases h) (fun _=>z0s ?_)
   refine zR ?_
   exact z0i (z2f (.imm rfl) (.imm rfl))
structure DE (n:Nat) (S:List Kx) (m:Mdl):Prop where
 tu:x8b n S=true
 wo:∀t∈m.tm,∀j:Nat,j<t.length→z0c prog 99 [.sl 2 (fcs t),.int .i64 j] (.sl 2 (fcs (t.eraseIdx j)))
 pe:∀t∈m.tm,∀j:Nat,j<t.length→z0c prog 98 [.agg (z2w m),.sl 2 (fcs (t.eraseIdx j))] (.bool (x4D m (t.filter fun x=>!decide (x=t.getD j default))))
 wv:z0c prog 93 [.agg (z2w m)] (.bool true)
 wa:z0c prog 41 [.agg (z2w m)] (.sl 1 (z0K (z2A m)))
 l2:∀k∈S,k.kd≠1→k.le.length=2∨k.le.length=3
noncomputable def w7a:DC:=match z4b with
 | .seq _ (.seq _ (.seq _ (.seq _ (.seq _ (.seq _ (.seq _ (.seq _ (.seq _ (.seq c _)))))))))=>c
 | _=>.skip
noncomputable def x6i:DT:=match w7a with
 | .seq _ (.block _ (.loop (.seq _ (.seq _ (.seq (.block _ (.seq _ (.seq _ (.seq _ (.rego (.alt .no t)))))) _)))))=>t
 | _=>.no
def hlR (N RW:DV) (Z C X Y:List DV) (D V:List DV) (i:Nat) (B:List Nat):Hp :=
 [(6,Z),(12,[N,if 18∈B then .osl 1 202 0 (i+1) else if 4∈B then .undef else .osl 1 202 0 i,if 20∈B then .osl 3 203 0 (i+1) else if 16∈B then .undef else .osl 3 203 0 i,RW]),(15,C),(202,if 4∈B then X++[.sl 3 D] else X),(203,if 16∈B then Y++V else Y)]
theorem x2h:∃ty1 ty2,x6i.iops=[ot 105 (.fad 1 (.x 12)),ot 106 (.ld (.t 105)),om 107 18,ot 108 (.bsl 1 [.nils] [(0,1,.t 107)]),ot 109 (.app ty1 1 24 (.t 106) (.t 108)),ot 110 (.fad 2 (.x 12)),ot 111 (.ld (.t 110)),ot 112 (.fad 3 (.x 15)),ot 113 (.ld (.t 112)),om 114 17,ot 115 (.iad 5 (.t 113) (.t 114)),ot 116 (.fad 1 (.t 115)),ot 117 (.ldn 3 (.t 116)),ot 118 (.build [.bool false,.nils,.nils] []),ot 119 (.call 38 [.t 117,.t 118]),ot 120 (.bsl 3 [.bool false,.nils,.nils] [(0,3,.t 119)]),ot 121 (.app ty2 3 56 (.t 111) (.t 120)),ot 122 (.fad 1 (.x 12)),on (.st (.t 122) (.t 109)),ot 123 (.fad 2 (.x 12)),on (.st (.t 123) (.t 121))]:=⟨_,_,rfl⟩
noncomputable def okR (B:List Nat) (i:Nat):Bool:=okI x6i.ideps [4,16,18,20] B i
theorem w22:∀B∈y3c [4,16,18,20],(okR B 1=true→4∉B∧18∉B)∧(okR B 4=true→B=[])∧(okR B 6=true→16∉B∧20∉B)∧(okR B 16=true→B=[4])∧(okR B 18=true→B=[4,16])∧(okR B 20=true→B=[4,16,18]):=by
 decide +kernel
theorem w21:∀B∈y3c [4,16,18,20],∀i,i<21→i∉[4,16,18,20]→x5Q [4,16,18,20] B i=B:=by decide +kernel
theorem w23:∀s,s∈[105,106,107,108,109,110,111,112,113,114,115,116,117,118,119,120,121,122,123]→∃(k:Nat) (z:DOper),x6i.iops[k]? = some z∧z.dst.slot=some s:=by
 obtain ⟨ty1,ty2,h⟩:=x2h
 rw [h]
 intro s hs
 simp only [List.mem_cons,List.not_mem_nil,or_false] at hs
 rcases hs with rfl|rfl|rfl|rfl|rfl|rfl|rfl|rfl|rfl|rfl|rfl|rfl|rfl|rfl|rfl|rfl|rfl|rfl|rfl
 ·exact ⟨0,_,rfl,rfl⟩
 ·exact ⟨1,_,rfl,rfl⟩
 ·exact ⟨2,_,rfl,rfl⟩
 ·exact ⟨3,_,rfl,rfl⟩
 ·exact ⟨4,_,rfl,rfl⟩
 ·exact ⟨5,_,rfl,rfl⟩
 ·exact ⟨6,_,rfl,rfl⟩
 ·exact ⟨7,_,rfl,rfl⟩
 ·exact ⟨8,_,rfl,rfl⟩
 ·exact ⟨9,_,rfl,rfl⟩
 ·exact ⟨10,_,rfl,rfl⟩
 ·exact ⟨11,_,rfl,rfl⟩
 ·exact ⟨12,_,rfl,rfl⟩
 ·exact ⟨13,_,rfl,rfl⟩
 ·exact ⟨14,_,rfl,rfl⟩
 ·exact ⟨15,_,rfl,rfl⟩
 ·exact ⟨16,_,rfl,rfl⟩
 ·exact ⟨17,_,rfl,rfl⟩
 ·exact ⟨19,_,rfl,rfl⟩
theorem x2g:(∀q,x0M x6i.iops 106 q→q=4)∧∀q,x0M x6i.iops 111 q→q=16:=by
 obtain ⟨ty1,ty2,h⟩:=x2h
 rw [h]
 refine ⟨?_,?_⟩<;>rintro q ⟨y,hy,hs⟩<;>have hq:=(List.getElem?_eq_some_iff.1 hy).1<;>simp only [List.length_cons,List.length_nil] at hq <;>
  obtain rfl|rfl|rfl|rfl|rfl|rfl|rfl|rfl|rfl|rfl|rfl|rfl|rfl|rfl|rfl|rfl|rfl|rfl|rfl|rfl|rfl:q=0∨q=1∨q=2∨q=3∨q=4∨q=5∨q=6∨q=7∨q=8∨q=9∨q=10∨q=11∨q=12∨q=13∨q=14∨q=15∨q=16∨q=17∨q=18∨q=19∨q=20:=(by omega)<;>first
  | rfl
  | (exfalso;cases hy;revert hs;simp [DOp.opds,Opd.slot];done)
theorem w0P:∀(l:Fr) (s:Nat),lk l s=.undef∨(s,lk l s)∈l
 | [],s=>.inl rfl
 | (k,d)::l,s=>by
  simp only [lk]
  split
  ·rename_i h;subst h;exact .inr List.mem_cons_self
  ·rcases w0P l s with h|h
   ·exact .inl h
   ·exact .inr (List.mem_cons_of_mem _ h)
theorem x8Z {fr:Fr} {o:Nat} (h:∀e∈fr,e.2.has o=false) (s:Nat):(lk fr s).has o=false:=by
 rcases w0P fr s with e|e
 ·rw [e];rfl
 ·exact h _ e
set_option maxRecDepth 100000 in
theorem w24 {i r:Nat} {v:Rat} {D X Y C ce Z:List DV} {N RW:DV} {fr:Fr} {Q:Ex→Fr→Hp→Prop}
  (h12:lk fr 12=.ptr 12 0) (h15:lk fr 15=.ptr 15 0) (h17:lk fr 17=.int .i64 r) (h18:lk fr 18=.sl 3 D)
  (hC:C.length=4) (hC3:∀x,C.getD 3 x=.sl 5 ce) (hce:(ce.drop (r*5+1)).take 3=z0T v) (hrl:r*5+5≤ce.length) (hX:X.length=i) (hY:Y.length=i*3) (hi:i≤1000)
  (hXr:∀d∈X,d.rf=true) (hYr:∀d∈Y,d.rf=true) (hCr:∀d∈C,d.rf=true) (hZr:∀d∈Z,d.rf=true) (hN:N.rf=true) (hRW:RW.rf=true)
  (hadd:z0c prog 38 [.agg (z0T v),.agg [.bool false,.nils,.nils]] (.agg (z0T v)))
  (hfr:∀s,z1X.vs.contains s=true→(lk fr s).has 202=false∧(lk fr s).has 203=false)
  (hQ:Q .norm fr (hlR N RW Z C X Y D (z0T v) i [4,16,18,20])) :
  W z1X (.rego (.alt .no x6i)) Q fr (hlR N RW Z C X Y D (z0T v) i []):=by
 have ht0:x6i.iops.length=21:=by kernel_rfl
 refine x8n [(105,.ptr 12 1),(106,.osl 1 202 0 i),(107,.sl 3 D),(108,.sl 1 [.sl 3 D]),(109,.osl 1 202 0 (i+1)),(110,.ptr 12 2),(111,.osl 3 203 0 i),(112,.ptr 15 3),(113,.sl 5 ce),(114,.int .i64 r),(115,.el ce (r*5)),(116,.el ce (r*5+1)),(117,.agg (z0T v)),(118,.agg [.bool false,.nils,.nils]),(119,.agg (z0T v)),(120,.sl 3 (z0T v)),(121,.osl 3 203 0 (i+1)),(122,.ptr 12 1),(123,.ptr 12 2)]
  fr [4,16,18,20] (hlR N RW Z C X Y D (z0T v) i) (by rw [ht0];decide) rfl ?_ ?_ hQ (by decide)
 ·intro s hs
  have key:∀k,k∈[105,106,107,108,109,110,111,112,113,114,115,116,117,118,119,120,121,122,123]→s≠k:=by
   intro k hk e
   subst e
   obtain ⟨j,z,h1,h2⟩:=w23 s hk
   exact hs j ⟨z,h1,h2⟩
  simp only [den]
  split
  ·rfl
  ·simp only [lk]
   simp only [List.mem_cons,List.not_mem_nil,or_false,forall_eq_or_imp,forall_eq] at key
   obtain ⟨k1,k2,k3,k4,k5,k6,k7,k8,k9,k10,k11,k12,k13,k14,k15,k16,k17,k18,k19⟩:=key
   rw [if_neg (Ne.symm k1),if_neg (Ne.symm k2),if_neg (Ne.symm k3),if_neg (Ne.symm k4),if_neg (Ne.symm k5),if_neg (Ne.symm k6),if_neg (Ne.symm k7),if_neg (Ne.symm k8),if_neg (Ne.symm k9),if_neg (Ne.symm k10),if_neg (Ne.symm k11),if_neg (Ne.symm k12),if_neg (Ne.symm k13),if_neg (Ne.symm k14),if_neg (Ne.symm k15),if_neg (Ne.symm k16),if_neg (Ne.symm k17),if_neg (Ne.symm k18),if_neg (Ne.symm k19)]
 ·intro B hB j x hx ht hk
  obtain ⟨ty1,ty2,hops⟩:=x2h
  have hj:j<21:=by
   have:=(List.getElem?_eq_some_iff.1 hx).1
   rw [ht0] at this;exact this
  obtain ⟨d1,d4,d6,d16,d18,d20⟩:=w22 B hB
  have hadI:=w21 B hB j hj
  generalize hT:den z1X.vs _ fr=T
  have t12:T 12=.ptr 12 0:=by rw [←hT];exact h12
  have t15:T 15=.ptr 15 0:=by rw [←hT];exact h15
  have t17:T 17=.int .i64 r:=by rw [←hT];exact h17
  have t18:T 18=.sl 3 D:=by rw [←hT];exact h18
  have t105:T 105=.ptr 12 1:=by rw [←hT];rfl
  have t106:T 106=.osl 1 202 0 i:=by rw [←hT];rfl
  have t107:T 107=.sl 3 D:=by rw [←hT];rfl
  have t108:T 108=.sl 1 [.sl 3 D]:=by rw [←hT];rfl
  have t109:T 109=.osl 1 202 0 (i+1):=by rw [←hT];rfl
  have t110:T 110=.ptr 12 2:=by rw [←hT];rfl
  have t111:T 111=.osl 3 203 0 i:=by rw [←hT];rfl
  have t112:T 112=.ptr 15 3:=by rw [←hT];rfl
  have t113:T 113=.sl 5 ce:=by rw [←hT];rfl
  have t114:T 114=.int .i64 r:=by rw [←hT];rfl
  have t115:T 115=.el ce (r*5):=by rw [←hT];rfl
  have t116:T 116=.el ce (r*5+1):=by rw [←hT];rfl
  have t117:T 117=.agg (z0T v):=by rw [←hT];rfl
  have t118:T 118=.agg [.bool false,.nils,.nils]:=by rw [←hT];rfl
  have t119:T 119=.agg (z0T v):=by rw [←hT];rfl
  have t120:T 120=.sl 3 (z0T v):=by rw [←hT];rfl
  have t121:T 121=.osl 3 203 0 (i+1):=by rw [←hT];rfl
  have t122:T 122=.ptr 12 1:=by rw [←hT];rfl
  have t123:T 123=.ptr 12 2:=by rw [←hT];rfl
  have nq:∀{x:DOper} {d:DV},goD z1X x T (lkH (hlR N RW Z C X Y D (z0T v) i B)) d .no→(∀s,x.dst.slot=some s→d=T s)→j∉[4,16,18,20] →
    x5V z1X x6i.iops x6i.ideps (fun s=>z1X.vs.contains s=true) T (lkH (hlR N RW Z C X Y D (z0T v) i B)) (lkH (hlR N RW Z C X Y D (z0T v) i (x5Q [4,16,18,20] B j))) j x :=
   fun h1 h2 h3=>⟨_,.no,.inl h1,h2,by rw [hadI h3];rfl,fun o c h=>by cases h⟩
  have l12:∀p,(lkH (hlR N RW Z C X Y D (z0T v) i B) 12)=some p↔[N,if 18∈B then DV.osl 1 202 0 (i+1) else if 4∈B then .undef else .osl 1 202 0 i,if 20∈B then .osl 3 203 0 (i+1) else if 16∈B then .undef else .osl 3 203 0 i,RW]=p:=fun p=>by simp [hlR,lkH]
  have e12:lkH (hlR N RW Z C X Y D (z0T v) i B) 12=some [N,if 18∈B then DV.osl 1 202 0 (i+1) else if 4∈B then .undef else .osl 1 202 0 i,if 20∈B then .osl 3 203 0 (i+1) else if 16∈B then .undef else .osl 3 203 0 i,RW]:=rfl
  have e15:lkH (hlR N RW Z C X Y D (z0T v) i B) 15=some C:=rfl
  have er:(r:Int).toNat=r:=Int.toNat_natCast r
  have e3:C[3]'(by omega)=DV.sl 5 ce:=by
   have:=hC3 .undef
   rw [zO1,zO4 (by omega)] at this
   exact this
  have tT:∀s o,(T s).has o=true→(o=202∨o=203)→(o=202∧(s=106∨s=109))∨(o=203∧(s=111∨s=121)):=by
   intro s o h1 h2
   rw [←hT] at h1
   simp only [den] at h1
   split at h1
   ·rename_i hv
    obtain ⟨g1,g2⟩:=hfr s hv
    rcases h2 with rfl|rfl
    ·rw [g1] at h1;cases h1
    ·rw [g2] at h1;cases h1
   ·rcases w0P _ s with e|hm
    ·rw [e] at h1;cases h1
    ·have hn:=z3s o (.agg (z0T v)) (by rw [DV.rf_agg];exact List.all_eq_true.2 (z1w v))
     have hp:∀p k,(DV.ptr p k).has o=true→p=o:=fun p k h=>by simpa [DV.has] using h
     have hq:∀z p k q,(DV.osl z p k q).has o=true→p=o:=fun z p k q h=>by simpa [DV.has] using h
     simp only [List.mem_cons,Prod.mk.injEq,List.not_mem_nil,or_false] at hm
     rcases hm with ⟨rfl,e⟩|⟨rfl,e⟩|⟨rfl,e⟩|⟨rfl,e⟩|⟨rfl,e⟩|⟨rfl,e⟩|⟨rfl,e⟩|⟨rfl,e⟩|⟨rfl,e⟩|⟨rfl,e⟩|⟨rfl,e⟩|⟨rfl,e⟩|⟨rfl,e⟩|⟨rfl,e⟩|⟨rfl,e⟩|⟨rfl,e⟩|⟨rfl,e⟩|⟨rfl,e⟩|⟨rfl,e⟩<;>rw [e] at h1 <;>
      first
      | (rw [hn] at h1;cases h1;done)
      | (have:=hp _ _ h1;omega)
      | (have:=hq _ _ _ _ h1;omega)
      | (cases h1;done)
      | (simp [DV.has,DV.hasL] at h1;done)
  rw [hops] at hx
  clear l12
  obtain rfl|rfl|rfl|rfl|rfl|rfl|rfl|rfl|rfl|rfl|rfl|rfl|rfl|rfl|rfl|rfl|rfl|rfl|rfl|rfl|rfl:j=0∨j=1∨j=2∨j=3∨j=4∨j=5∨j=6∨j=7∨j=8∨j=9∨j=10∨j=11∨j=12∨j=13∨j=14∨j=15∨j=16∨j=17∨j=18∨j=19∨j=20:=by omega
  ·cases hx
   refine nq (d:=T 105) ?_ (fun s hs=>by cases hs;rfl) (by decide)
   simp [goD,opE,evS,t12,t105,e12]
  ·cases hx
   refine nq (d:=T 106) ?_ (fun s hs=>by cases hs;rfl) (by decide)
   obtain ⟨g1,g2⟩:=d1 hk
   simp [goD,opE,evS,t105,t106,e12,g1,g2,gd]
  ·cases hx
   refine nq (d:=T 107) ?_ (fun s hs=>by cases hs;rfl) (by decide)
   simp [goD,opE,evS,t18,t107]
  ·cases hx
   refine nq (d:=T 108) ?_ (fun s hs=>by cases hs;rfl) (by decide)
   simp [goD,opE,evS,t107,t108,laid,DV.cells?,DV.one,spl,gd,DV.rf]
  ·cases hx
   have hb:=d4 hk
   subst hb
   refine ⟨.osl 1 202 0 (i+1),.app 202 ((X++[DV.sl 3 D]).map (purge 202)),.inl ?_,fun s hs=>by cases hs;exact t109.symm,?_,?_⟩
   ·simp [goD,opE,evS,t106,t108,hlR,lkH,z0t,gd,hX]
    exact ⟨⟨by omega,by omega,rfl⟩,rfl⟩
   ·have m1:=z0k 202 hXr
    have m2:=z0k 202 hYr
    have m3:=z0k 202 hZr
    have m4:=z0k 202 hCr
    have m5:=z1r 202 hN
    have m6:=z1r 202 hRW
    have m7:(X++[DV.sl 3 D]).map (purge 202)=X++[DV.sl 3 D]:=by rw [List.map_append,m1];simp [purge,DV.has]
    have e4:x5Q [4,16,18,20] [] 4=[4]:=rfl
    rw [e4,m7]
    funext p
    by_cases h1:p=202
    ·subst h1;rfl
    ·by_cases h2:p=12
     ·subst h2
      show some [purge 202 N,.undef,.osl 3 203 0 i,purge 202 RW]=some [N,.undef,.osl 3 203 0 i,RW]
      rw [m5,m6]
     ·by_cases h3:p=6
      ·subst h3;show some (Z.map (purge 202))=some Z;rw [m3]
      ·by_cases h4:p=15
       ·subst h4;show some (C.map (purge 202))=some C;rw [m4]
       ·by_cases h5:p=203
        ·subst h5;show some (Y.map (purge 202))=some Y;rw [m2]
        ·simp only [Eff.onH,Heap.upd,Heap.purge,hlR,lkH,if_neg h1,if_neg (Ne.symm h1),if_neg (Ne.symm h2),if_neg (Ne.symm h3),if_neg (Ne.symm h4),if_neg (Ne.symm h5)];rfl
   ·intro o c he s hs hk2 hs2
    cases he
    cases hh:(T s).has 202 with
    | false=>rfl
    | true =>
     rcases tT s 202 hh (.inl rfl) with ⟨_,rfl|rfl⟩|⟨h,_⟩
     ·exfalso
      rcases hs2 with h|⟨q,q1,q2,y,hy,hys⟩
      ·revert h;decide
      ·exact q1 (x2g.1 q ⟨y,hy,hys⟩)
     ·exact absurd rfl hs
     ·cases h
  ·cases hx
   refine nq (d:=T 110) ?_ (fun s hs=>by cases hs;rfl) (by decide)
   simp [goD,opE,evS,t12,t110,e12]
  ·cases hx
   refine nq (d:=T 111) ?_ (fun s hs=>by cases hs;rfl) (by decide)
   obtain ⟨g1,g2⟩:=d6 hk
   simp [goD,opE,evS,t110,t111,e12,g1,g2,gd]
  ·cases hx
   refine nq (d:=T 112) ?_ (fun s hs=>by cases hs;rfl) (by decide)
   simp [goD,opE,evS,t15,t112,e15,hC]
  ·cases hx
   refine nq (d:=T 113) ?_ (fun s hs=>by cases hs;rfl) (by decide)
   simp [goD,opE,evS,t112,t113,e15,gd,hC]
   exact e3
  ·cases hx
   refine nq (d:=T 114) ?_ (fun s hs=>by cases hs;rfl) (by decide)
   simp [goD,opE,evS,t17,t114]
  ·cases hx
   refine nq (d:=T 115) ?_ (fun s hs=>by cases hs;rfl) (by decide)
   simp [goD,opE,evS,t113,t114,t115,gd,er];omega
  ·cases hx
   refine nq (d:=T 116) ?_ (fun s hs=>by cases hs;rfl) (by decide)
   simp [goD,opE,evS,t115,t116]
  ·cases hx
   refine nq (d:=T 117) ?_ (fun s hs=>by cases hs;rfl) (by decide)
   simp [goD,opE,evS,t116,t117,gd,hce];omega
  ·cases hx
   refine nq (d:=T 118) ?_ (fun s hs=>by cases hs;rfl) (by decide)
   simp [goD,opE,evS,t118,laid]
  ·cases hx
   refine nq (d:=T 119) ?_ (fun s hs=>by cases hs;rfl) (by decide)
   simp only [goD,List.map_cons,List.map_nil,evS,t117,t118,t119]
   exact ⟨hadd,rfl,trivial⟩
  ·cases hx
   refine nq (d:=T 120) ?_ (fun s hs=>by cases hs;rfl) (by decide)
   have hl:laid [DV.bool false,.nils,.nils] [(0,3,.agg (z0T v))]=some (z0T v):=rfl
   simp [goD,opE,evS,t119,t120,gd,hl]
   exact z1w v
  ·cases hx
   have hb:=d16 hk
   subst hb
   refine ⟨.osl 3 203 0 (i+1),.app 203 ((Y++z0T v).map (purge 203)),.inl ?_,fun s hs=>by cases hs;exact t121.symm,?_,?_⟩
   ·have hn3:=z1o v
    simp [goD,opE,evS,t111,t120,hlR,lkH,z0t,gd,hY,hn3]
    exact ⟨⟨by omega,by omega,z3L v⟩,by simp [cnt,hn3]⟩
   ·have m0:(X++[DV.sl 3 D]).map (purge 203)=X++[DV.sl 3 D]:=by rw [List.map_append,z0k 203 hXr];simp [purge,DV.has]
    have m3:=z0k 203 hZr
    have m4:=z0k 203 hCr
    have m5:=z1r 203 hN
    have m6:=z1r 203 hRW
    have m7:(Y++z0T v).map (purge 203)=Y++z0T v:=by rw [List.map_append,z0k 203 hYr,z0k 203 (z1w v)]
    have e4:x5Q [4,16,18,20] [4] 16=[4,16]:=rfl
    rw [e4,m7]
    funext p
    by_cases h1:p=203
    ·subst h1;rfl
    ·by_cases h2:p=12
     ·subst h2
      show some [purge 203 N,.undef,.undef,purge 203 RW]=some [N,.undef,.undef,RW]
      rw [m5,m6]
     ·by_cases h3:p=6
      ·subst h3;show some (Z.map (purge 203))=some Z;rw [m3]
      ·by_cases h4:p=15
       ·subst h4;show some (C.map (purge 203))=some C;rw [m4]
       ·by_cases h5:p=202
        ·subst h5;show some ((X++[DV.sl 3 D]).map (purge 203))=some (X++[DV.sl 3 D]);rw [m0]
        ·simp only [Eff.onH,Heap.upd,Heap.purge,hlR,lkH,if_neg h1,if_neg (Ne.symm h1),if_neg (Ne.symm h2),if_neg (Ne.symm h3),if_neg (Ne.symm h4),if_neg (Ne.symm h5)];rfl
   ·intro o c he s hs hk2 hs2
    cases he
    cases hh:(T s).has 203 with
    | false=>rfl
    | true =>
     rcases tT s 203 hh (.inr rfl) with ⟨h,_⟩|⟨_,rfl|rfl⟩
     ·cases h
     ·exfalso
      rcases hs2 with h|⟨q,q1,q2,y,hy,hys⟩
      ·revert h;decide
      ·exact q1 (x2g.2 q ⟨y,hy,hys⟩)
     ·exact absurd rfl hs
  ·cases hx
   refine nq (d:=T 122) ?_ (fun s hs=>by cases hs;rfl) (by decide)
   simp [goD,opE,evS,t12,t122,e12]
  ·cases hx
   have hb:=d18 hk
   subst hb
   refine ⟨.tup [],.set 12 [N,.osl 1 202 0 (i+1),.undef,RW],.inl ?_,fun s hs=>(by cases hs),?_,fun o c h=>(by cases h)⟩
   ·simp [goD,opE,evS,t122,t109,hlR,lkH,gd,DV.one]
   ·have e4:x5Q [4,16,18,20] [4,16] 18=[4,16,18]:=rfl
    rw [e4]
    funext p
    by_cases h1:p=12
    ·subst h1;rfl
    ·by_cases h2:p=6
     ·subst h2;rfl
     ·by_cases h3:p=15
      ·subst h3;rfl
      ·by_cases h4:p=202
       ·subst h4;rfl
       ·by_cases h5:p=203
        ·subst h5;rfl
        ·simp only [Eff.onH,Heap.upd,hlR,lkH,if_neg h1,if_neg (Ne.symm h1),if_neg (Ne.symm h2),if_neg (Ne.symm h3),if_neg (Ne.symm h4),if_neg (Ne.symm h5)]
  ·cases hx
   refine nq (d:=T 123) ?_ (fun s hs=>by cases hs;rfl) (by decide)
   simp [goD,opE,evS,t12,t123,e12]
  ·cases hx
   have hb:=d20 hk
   subst hb
   refine ⟨.tup [],.set 12 [N,.osl 1 202 0 (i+1),.osl 3 203 0 (i+1),RW],.inl ?_,fun s hs=>(by cases hs),?_,fun o c h=>(by cases h)⟩
   ·simp [goD,opE,evS,t123,t121,hlR,lkH,gd,DV.one]
   ·have e4:x5Q [4,16,18,20] [4,16,18] 20=[4,16,18,20]:=rfl
    rw [e4]
    funext p
    by_cases h1:p=12
    ·subst h1;rfl
    ·by_cases h2:p=6
     ·subst h2;rfl
     ·by_cases h3:p=15
      ·subst h3;rfl
      ·by_cases h4:p=202
       ·subst h4;rfl
       ·by_cases h5:p=203
        ·subst h5;rfl
        ·simp only [Eff.onH,Heap.upd,hlR,lkH,if_neg h1,if_neg (Ne.symm h1),if_neg (Ne.symm h2),if_neg (Ne.symm h3),if_neg (Ne.symm h4),if_neg (Ne.symm h5)]
end Go.Proofs.YtlcagndeidjobaaGreatDoor
namespace Go.Proofs.YtlcagndeidjobaaGreatDoor
open Tryz
open Go Go.Dat Go.Proofs Go.RowKit Nat32
theorem w4b:z0c prog 9 [.str [121,32,126,32,103,32,42,32,104]] (.agg (z2w (kM 4))):=z2Q z2V (n:=4000) (by kernel_rfl)
theorem w5Y:z0c prog 9 [.str [121,32,126,32,103,32,47,32,104]] (.agg (z2w (kM 5))):=z2Q z2V (n:=4000) (by kernel_rfl)
theorem w5Z:z0c prog 9 [.str [121,32,126,32,103,58,104]] (.agg (z2w (kM 6))):=z2Q z2V (n:=4000) (by kernel_rfl)
theorem w50:z0c prog 9 [.str [121,32,126,32,120,58,103,32,43,32,120]] (.agg (z2w (kM 9))):=z2Q z2V (n:=4000) (by kernel_rfl)
theorem w34:z0c prog 9 [.str [121,32,126,32,103,32,43,32,103,58,104]] (.agg (z2w (kM 12))):=z2Q z2V (n:=4000) (by kernel_rfl)
theorem w35:z0c prog 9 [.str [121,32,126,32,104,32,42,32,103]] (.agg (z2w (kM 13))):=z2Q z2V (n:=4000) (by kernel_rfl)
theorem w36:z0c prog 9 [.str [121,32,126,32,103,58,104,32,43,32,120]] (.agg (z2w (kM 14))):=z2Q z2V (n:=4000) (by kernel_rfl)
theorem w37:z0c prog 9 [.str [121,32,126,32,48,32,43,32,103,58,104,32,43,32,120]] (.agg (z2w (kM 15))):=z2Q z2V (n:=4000) (by kernel_rfl)
theorem w38:z0c prog 9 [.str [121,32,126,32,120,58,103]] (.agg (z2w (kM 16))):=z2Q z2V (n:=4000) (by kernel_rfl)
theorem w39:z0c prog 9 [.str [121,32,126,32,103,32,43,32,104]] (.agg (z2w (kM 17))):=z2Q z2V (n:=4000) (by kernel_rfl)
theorem w4a:z0c prog 9 [.str [121,32,126,32,48,32,43,32,103,32,43,32,104]] (.agg (z2w (kM 18))):=z2Q z2V (n:=4000) (by kernel_rfl)
end Go.Proofs.YtlcagndeidjobaaGreatDoor
namespace Go.Proofs.YtlcagndeidjobaaGreatDoor
open Tryz
open Go Go.Dat Go.Proofs Go.RowKit Go.Lib Nat32
theorem x9e {v:Rat} {w:Nat} (h:BS v w) (hw:w≤140800):z0c prog 38 [.agg (z0T v),.agg [.bool false,.nils,.nils]] (.agg (z0T v)):=by
 have h1:=y91 (l:=4400) h (by omega)
 have:=w4S (x:=qX v) (z0e _) (z2U _) h1.1 (Nat.le_trans (y8m _) h1.2)
 rw [x1F] at this
 exact this
theorem z4Y {n:Nat} {S:List Kx} {m:Mdl} {cod:Nat} (h:DKt n S m cod) (hx:DX n S m) (hw:z95 S m cod m.tm.length≤12) :
  z0c prog 12 [.agg [.int .i64 n,.sl 4 (kxs S)],.agg (z2w m),.int .i64 cod] (if (z2b n S m).length=0 then .tup [.agg [.nils,.nils,.nils,.nils],.int .i64 10] else .tup [w2Y n S m cod,.int .i64 0]):=by
 have c1:=z96 h hx
 have c2:=z8N h hw
 have hvr:m.rs∈z2A m:=List.mem_cons_self
 have c3:=z14 n S m cod m.rs h.ok h.tv (h.vs _ hvr)
 have hca:(DV.agg [.int .i64 n,.sl 4 (kxs S)]).cells? = some [.int .i64 n,.sl 4 (kxs S)]:=rfl
 have hcm:(DV.agg (z2w m)).cells? = some (z2w m):=rfl
 have hm3:(z2w m).length=3:=rfl
 have hm0:∀x,(z2w m).getD 0 x=.str m.rs:=fun _=>rfl
 have hmr:(z2w m).all DV.rf=true:=rfl
 have hmt:(z2w m).take 3=z2w m:=rfl
 have hbl:laid [DV.int .i64 0,.nils,.str [],.bool false,.nils,.int .i64 0] [(0,2,.agg [.int .i64 n,.sl 4 (kxs S)]),(2,3,.agg (z2w m)),(5,1,.int .i64 cod)]=some (z49 n S m cod):=rfl
 have hcb:(DV.agg (z49 n S m cod)).cells? = some (z49 n S m cod):=rfl
 have hrb:∀d∈z49 n S m cod,d.rf=true:=List.all_eq_true.1 rfl
 have hnb:z49 n S m cod≠[]:=fun e=>by cases e
 have hl0:laid [DV.nils,.nils,.nils,.nils] []=some [.nils,.nils,.nils,.nils]:=rfl
 have hs4:∀(a b c d:DV) (C:List DV),List.take 0 [a,b,c,d]++C++List.drop 4 [a,b,c,d]=C:=fun _ _ _ _ _=>by simp
 have hs2:∀(a b:DV) (C:List DV),List.take 0 [a,b]++C++List.drop 2 [a,b]=C:=fun _ _ _=>by simp
 have hGok:=x3N h (Nat.le_refl m.tm.length)
 have hrl:=z4F (z2b n S m)
 have hrn:(z2b n S m).length≤n:=z79 _ _
 have hn64:=hx.n64
 have hRok:∀i,i<(z2b n S m).length→w4I n S m ((z2b n S m).getD i 0):=fun i hi=>x5a (x7J hi)
 refine z0b x0k (by simp [z1X]) ?_
 unfold z4b
 have hdes:w2Y n S m cod=.agg [.sl 1 (z0K (y0R S m cod)),.sl 1 (rwU S m cod (z2b n S m) (z2b n S m).length),.sl 3 (nums (yU S m (z2b n S m) (z2b n S m).length)),.sl 1 (ints (z2b n S m))]:=by
  unfold w2Y rwU yU;rw [List.take_length]
 rw [hdes]
 generalize z2b n S m=R at *
 generalize hB:z49 n S m cod=B at *
 refine zS (zA hca (zA hcm (zA hm3 (zA hmt (zA hbl (zA hcb (zA @List.drop_zero.{0} @cS))))))) ?_
 refine ⟨⟨hnb,hrb⟩,?_⟩
 refine zR ?_
 refine cP c1 ?_
 refine zR ?_
 refine wF ?_
 by_cases hR0:R.length=0
 ·have d0:decide ((R.length:Int)=0)=true:=zT9
  rw [if_pos hR0]
  refine zS (zA hrl d0) ?_
  refine wT ?_
  refine zS (zA hl0 (zA hs4 @cS)) ?_
  exact z0i (x1R rfl rfl rfl (.imm rfl) (.imm rfl))
 have d0:decide ((R.length:Int)=0)=false:=zF9
 have d64:decide ((64:Int)<(R.length:Int))=false:=zF9
 rw [if_neg hR0]
 refine zS (zA hrl d0) ?_
 refine wF ?_
 refine zS (zA hrl d64) ?_
 refine wFs ?_
 refine zR ?_
 refine cP c2 ?_
 refine zR ?_
 refine wFs ?_
 have hlr:∀x,laid [DV.nils,.nils,.nils,.nils] [(3,1,.sl 1 x)]=some [.nils,.nils,.nils,.sl 1 x]:=fun _=>rfl
 have hll:=z2z (z3m S m cod m.tm.length)
 have hll2:(z3m S m cod m.tm.length).length*2 / 2=(z3m S m cod m.tm.length).length:=by omega
 generalize hGG:z3m S m cod m.tm.length=G at *
 have hGl:G.length=(z3l S m cod m.tm.length).length:=hGok.1
 have hDl:(z3l S m cod m.tm.length).length≤40:=by
  have h1:=List.length_filter_le (y1u S m cod) (m.tm.take m.tm.length)
  rw [List.length_take] at h1
  have h2:=h.tl.1
  unfold z3l icL
  rw [List.length_append,List.length_map]
  split
  ·simp only [List.length_cons,List.length_nil];omega
  ·simp only [List.length_nil];omega
 have hnmG:∀i,i<G.length→(G.getD i default).nm.length≤729:=fun i hi=>by
  rw [(hGok.2 i hi).1];exact (z6q h (by omega)).1
 have hnmL:∀i,i≤G.length→(nmU G i).length≤i*729:=fun i=>by
  induction i with
  | zero=>intro _;simp [nmU]
  | succ i ih =>
   intro hi
   rw [y9k hi,List.length_append,Nat.succ_mul]
   have:=hnmG i hi
   have:=ih (by omega)
   omega
 have hnmE:nmU G G.length=y0R S m cod:=by
  unfold nmU
  rw [List.take_length,←w2Z]
  have e1:G.flatMap Grp.nm=(G.map Grp.nm).flatten:=by rw [List.flatMap_def]
  have e2:(z3l S m cod m.tm.length).flatMap Prod.fst=((z3l S m cod m.tm.length).map Prod.fst).flatten:=by rw [List.flatMap_def]
  rw [e1,e2,hGok.names]
 refine z1N 4 (cells:=z2w m) rfl hmr ?_
 refine z3X 3 ?_
 have f4:purge 3 (z2e 4 (z2w m) (.ptr 4 0))=.el (z2w m) 0:=rfl
 have f6:purge 3 (z2e 4 (z2w m) (.ptr 6 0))=.ptr 6 0:=rfl
 have f8:purge 3 (z2e 4 (z2w m) (.el B 0))=.el B 0:=rfl
 have fs:∀z x,purge 3 (z2e 4 (z2w m) (.sl z x))=.sl z x:=fun _ _=>rfl
 have fi:∀z:Int,purge 3 (z2e 4 (z2w m) (.int .i64 z))=.int .i64 z:=fun _=>rfl
 have fn:purge 3 (frz 4 (z2w m) .nils)=.nils:=rfl
 have hn6:rmP 3 (rmH 4 (z2w m) [(3,[.int .i64 n,.sl 4 (kxs S)]),(4,z2w m),(6,[.nils,.nils,.nils,.nils])])=[(6,[.nils,.nils,.nils,.nils])]:=rfl
 rw [hn6]
 repeat (first|refine z0d ?_|refine z0g ?_|refine z0p ?_|refine z0f ?_|refine And.intro (by omega) ?_|simp (maxSteps:=1000000) (disch:=omega) only [cA,cB,cN,FnD.nb,lk,lkH,Dst.onT,Dst.onX,Dst.slot,z0W,z0N,z0I,z0X,z0u,z0V,unE,cnt,z0j,z0t,z0l,z0o,opE,rmH,z02,z0n,Nat.reduceEqDiff,Nat.reduceLT,Nat.reduceAdd,Nat.reduceMul,Nat.reduceMod,↓reduceIte,reduceCtorEq,Nat.reduceLeDiff,f4,f6,f8,fs,fi,hlr,hs4,hll,hll2,cS])
 have hga:=z5d
 have hg2:=z1v
 have hgt:∀g,(gpC g).take 2=gpC g:=fun _=>rfl
 have hg0:∀g x,(gpC g).getD 0 x=.sl 1 (z0K g.nm):=fun _ _=>rfl
 have hg1:∀g x,(gpC g).getD 1 x=g.cl:=fun _ _=>rfl
 have pu:∀o p k,p<100→199<o→purge o (.ptr p k)=.ptr p k:=fun o p k h1 h2=>by simp [purge,DV.has,show p≠o by omega]
 have pw:∀o p k,p≠o→purge o (.ptr p k)=.ptr p k:=fun o p k h1=>by simp [purge,DV.has,h1]
 have po:∀o p s k n,p≠o→purge o (.osl s p k n)=.osl s p k n:=fun o p s k n h=>by simp [purge,DV.has,h]
 have pn:∀o,purge o .nils=.nils:=fun o=>by simp [purge,DV.has]
 have ps:∀o z x,purge o (.sl z x)=.sl z x:=fun o z x=>by simp [purge,DV.has]
 have pi:∀o (z:Int),purge o (.int .i64 z)=.int .i64 z:=fun o z=>by simp [purge,DV.has]
 refine z8h 12 0 1 200 (cells:=[.nils,.nils,.nils,.sl 1 (ints R)]) rfl rfl rfl ?_
 refine z0x (σ:=Nat) (fun i=>[(4,.el (z2w m) 0),(6,.ptr 6 0),(7,.int .i64 0),(8,.el B 0),(9,.sl 1 (ints R)),(11,.sl 2 (gps G)),(12,.ptr 12 0),(59,.sl 2 (gps G)),(60,.int .i64 G.length),(61,.int .i64 i)])
  (fun i=>[(6,[.nils,.nils,.nils,.nils]),(12,[.osl 1 200 0 (nmU G i).length,.nils,.nils,.sl 1 (ints R)]),(200,z0K (nmU G i))]) (fun i=>i≤G.length) (fun i=>G.length - i) 0 (Nat.zero_le _) ?_ rfl ?_
 ·simp [z0y,lk]
 ·intro i hi
  try simp only at hi ⊢
  by_cases hlt:i<G.length
  ·have dl:decide ((i:Int)<(G.length:Int))=true:=zT9
   have ei:(i:Int).toNat=i:=Int.toNat_natCast i
   have e1:((i:Int)+1)=((i+1:Nat):Int):=by omega
   have hw2:((gps G).drop (i*2)).take 2=gpC (G.getD i default):=z1x (j:=0) z1v default hlt (Nat.le_refl _)
   have hsu:=y9k hlt
   have hgl:=hnmG i hlt
   have hnl:=hnmL i hi
   have hi33:i*729≤40*729:=Nat.mul_le_mul_right _ (by omega)
   generalize G.getD i default=g at *
   have hsl:=z0J g.nm
   have hsl2:=z0J (nmU G i)
   have hsn:z0K (nmU G i)++z0K g.nm=z0K (nmU G (i+1)):=by rw [hsu];unfold z0K;rw [List.map_append]
   have hsr:=z1R g.nm
   have hso:∀d∈z0K g.nm,d.one=true:=fun d hd=>by
    unfold z0K at hd
    obtain ⟨_,_,rfl⟩:=List.mem_map.1 hd
    rfl
   have hlen2:(nmU G (i+1)).length=(nmU G i).length+g.nm.length:=by rw [hsu,List.length_append]
   have q1:=z0k 200 (z1R (nmU G (i+1)))
   have q2:=z0k 200 (z32 g)
   have q3:=z0k 14 (z1R (nmU G (i+1)))
   refine zS dl ?_
   refine wTs ?_
   refine z0d ?_
   refine z0f ?_
   refine zS (zA ei (zA hll (zA hw2 (zA hga (zA hg2 (zA hgt (zA hg0 (zA hs2 (zA hsl (zA hsl2 (zA @List.drop_zero.{0} @cS))))))))))) ?_
   refine ⟨⟨by omega,by omega,fun h=>h,hso⟩,?_⟩
   rw [hsn,q1]
   refine zE pu ?_
   refine ⟨rfl,?_⟩
   refine z3X 14 ?_
   repeat (first|refine z0d ?_|refine z0g ?_|refine z0p ?_|refine z0f ?_|refine And.intro (by omega) ?_|simp (maxSteps:=1000000) (disch:=omega) only [cA,cB,cN,FnD.nb,lk,lkH,Dst.onT,Dst.onX,Dst.slot,z0W,z0N,z0I,z0X,z0u,z0V,unE,cnt,z0j,z0t,z0l,z0o,opE,rmH,z02,z0n,Nat.reduceEqDiff,Nat.reduceLT,Nat.reduceAdd,Nat.reduceMul,Nat.reduceMod,↓reduceIte,reduceCtorEq,Nat.reduceLeDiff,rmP,pw,po,pn,ps,pi,q3,e1,hlen2])
   exact ⟨i+1,by omega,by omega,by simp [z0y,lk],by rw [hlen2]⟩
  ·have dl:decide ((i:Int)<(G.length:Int))=false:=zF9
   obtain rfl:i=G.length:=by omega
   rw [hnmE]
   have hNl:=z0J (y0R S m cod)
   have hNr:=z1R (y0R S m cod)
   refine z0H 200 (cells:=z0K (y0R S m cod)) rfl (List.all_eq_true.2 hNr) ?_
   have hfz:frz 200 (z0K (y0R S m cod)) (.osl 1 200 0 (y0R S m cod).length)=.sl 1 (z0K (y0R S m cod)):=by
    simp [frz,hNl]
    rw [List.take_of_length_le (by omega)]
   have fp:∀o cs p k,p≠o→frz o cs (.ptr p k)=.ptr p k:=fun o cs p k h=>by simp [frz,purge,DV.has,h]
   have fsl:∀o cs z x,frz o cs (.sl z x)=.sl z x:=fun o cs z x=>by simp [frz,purge,DV.has]
   have fin:∀o cs (z:Int),frz o cs (.int .i64 z)=.int .i64 z:=fun o cs z=>by simp [frz,purge,DV.has]
   have fel:∀o cs x k,frz o cs (.el x k)=.el x k:=fun o cs x k=>by simp [frz,purge,DV.has]
   have fnl:∀o cs,frz o cs .nils=.nils:=fun o cs=>by simp [frz,purge,DV.has]
   have hck:∀k,(DV.agg (kxC k)).cells? = some (kxC k):=fun _=>rfl
   have hk4:=z04
   refine zS (zA dl (zA hfz (zA fp (zA fsl (zA fin (zA fel fnl)))))) ?_
   refine z0m rfl (fun h=>by cases h) (fun _=>z0s ?_)
   refine zS (zA hm0 (zA hm3 @cS)) ?_
   refine cP c3 ?_
   refine zS (zA hck (zA hk4 (zA hs4 (zA hrl @cS)))) ?_
   have hKm:=y1X (h.vs _ hvr)
   obtain ⟨_,hKl,_,_,_⟩:=y3e h.tv hKm
   have hdy:∀r,x5R S m r=xnV ((z4C S m.rs).ce.getD r default).va:=fun _=>rfl
   have hKn:=h.nu _ hKm
   generalize hKe:z4C S m.rs=K at *
   have hk3:∀x,(kxC K).getD 3 x=.sl 5 (cxs K.ce):=fun _=>rfl
   have hkl:=z04 K
   have hkr:=z27 K
   have hcx:=z2x K.ce
   have hcc:∀x:Rat,(DV.agg (z0T x)).cells? = some (z0T x):=fun _=>rfl
   have hn3:=z1o
   have ht3:∀x:Rat,(z0T x).take 3=z0T x:=fun _=>rfl
   have hs3:∀(a b c:DV) (C:List DV),List.take 0 [a,b,c]++C++List.drop 3 [a,b,c]=C:=fun _ _ _ _=>by simp
   have hld:∀x:Rat,laid [DV.bool false,.nils,.nils] [(0,3,.agg (z0T x))]=some (z0T x):=fun _=>rfl
   have hlz:laid [DV.bool false,.nils,.nils] []=some [.bool false,.nils,.nils]:=rfl
   have hlx:∀x,laid [DV.nils] [(0,1,.sl 3 x)]=some [.sl 3 x]:=fun _=>rfl
   have h33:3 / 3=1:=rfl
   have mf:∀o cs,(kxC K).map (frz o cs)=kxC K:=fun o cs=>z1n o cs hkr
   have mp:∀o,(kxC K).map (purge o)=kxC K:=fun o=>z0k o hkr
   generalize hkx:kxC K=C15 at *
   refine z8h 12 1 1 202 (cells:=[.sl 1 (z0K (y0R S m cod)),.nils,.nils,.sl 1 (ints R)]) rfl rfl rfl ?_
   refine z8h 12 2 3 203 (cells:=[.sl 1 (z0K (y0R S m cod)),.osl 1 202 0 0,.nils,.sl 1 (ints R)]) rfl rfl rfl ?_
   refine z0x (σ:=Nat) (fun i=>[(6,.ptr 6 0),(11,.sl 2 (gps G)),(12,.ptr 12 0),(15,.ptr 15 0),(76,.sl 1 (ints R)),(77,.int .i64 R.length),(78,.int .i64 i)])
    (fun i=>[(6,[.nils,.nils,.nils,.nils]),(12,[.sl 1 (z0K (y0R S m cod)),.osl 1 202 0 i,.osl 3 203 0 i,.sl 1 (ints R)]),(15,C15),(202,rwU S m cod R i),(203,nums (yU S m R i))]) (fun i=>i≤R.length) (fun i=>R.length - i) 0 (Nat.zero_le _) ?_ rfl ?_
   ·simp [z0y,lk]
   ·intro i hi
    try simp only at hi ⊢
    by_cases hlt:i<R.length
    ·have dl:decide ((i:Int)<(R.length:Int))=true:=zT9
     have ei:(i:Int).toNat=i:=Int.toNat_natCast i
     have e1:((i:Int)+1)=((i+1:Nat):Int):=by omega
     have hgr:=x7I hlt .undef
     have hok:=hRok i hlt
     have hxs:=x7L (S:=S) (m:=m) (cod:=cod) hlt
     have hys:=w2o (S:=S) (m:=m) hlt
     have hxl:=x5d (S:=S) (m:=m) (cod:=cod) hi
     have hyl:=x9t (S:=S) (m:=m) hi
     generalize R.getD i 0=r at *
     have hrn2:r<n:=hok.1
     have hvl:=fun j (hj:j≤(z3l S m cod m.tm.length).length)=>x5F h hrn2 hj
     refine zS dl ?_
     refine wTs ?_
     refine z0d ?_
     refine z0f ?_
     refine z0d ?_
     refine z0g ?_
     refine zE (zA ei (zA hrl hgr)) ?_
     refine ⟨⟨by omega,by omega⟩,by omega,?_⟩
     refine z0d ?_
     refine z0g ?_
     refine zD ?_
     refine z36 18 3 204 rfl rfl ?_
     refine zS (zA hll hll2) ?_
     refine z0x (σ:=Nat) (fun j=>[(6,.ptr 6 0),(11,.sl 2 (gps G)),(12,.ptr 12 0),(15,.ptr 15 0),(17,.int .i64 r),(18,.osl 3 204 0 (vlU (z3l S m cod m.tm.length) r j).length),(76,.sl 1 (ints R)),(77,.int .i64 R.length),(78,.int .i64 i),(82,.sl 2 (gps G)),(83,.int .i64 G.length),(84,.int .i64 j)])
      (fun j=>[(6,[.nils,.nils,.nils,.nils]),(12,[.sl 1 (z0K (y0R S m cod)),.osl 1 202 0 i,.osl 3 203 0 i,.sl 1 (ints R)]),(15,C15),(202,rwU S m cod R i),(203,nums (yU S m R i)),(204,nums (vlU (z3l S m cod m.tm.length) r j))]) (fun j=>j≤G.length) (fun j=>G.length - j) 0 (Nat.zero_le _) ?_ ?_ ?_
     ·simp [z0y,lk,vlU]
     ·rfl
     ·intro j hj
      try simp only at hj ⊢
      by_cases hlj:j<G.length
      ·have dj:decide ((j:Int)<(G.length:Int))=true:=zT9
       have ej:(j:Int).toNat=j:=Int.toNat_natCast j
       have ej1:((j:Int)+1)=((j+1:Nat):Int):=by omega
       have hw2:((gps G).drop (j*2)).take 2=gpC (G.getD j default):=z1x (j:=0) z1v default hlj (Nat.le_refl _)
       obtain ⟨_,hGV⟩:=hGok.2 j hlj
       obtain ⟨fg,cg,vg,kg,rg,pg⟩:=hGV r hok
       have hsu:=y9V (r:=r) (show j<(z3l S m cod m.tm.length).length by omega)
       obtain ⟨_,hfl⟩:=z6q h (show j<(z3l S m cod m.tm.length).length by omega)
       obtain ⟨hf1,hf2⟩:=hfl r hrn2
       have hvj:=hvl j (by omega)
       have hj40:j*729≤40*729:=Nat.mul_le_mul_right _ (by omega)
       generalize ((z3l S m cod m.tm.length).getD j default).2 r=lv at *
       generalize G.getD j default=g at *
       generalize hV:vlU (z3l S m cod m.tm.length) r j=V at *
       have hlvl:=z1H lv
       have hlv3:lv.length*3 / 3=lv.length:=by omega
       refine zS dj ?_
       refine wTs ?_
       refine z0d ?_
       refine z0f ?_
       refine z0d ?_
       refine z0g ?_
       refine zE (zA ej (zA hll (zA hw2 (zA hga (zA hg2 (zA hgt hs2)))))) ?_
       refine ⟨⟨by omega,by omega⟩,by omega,?_⟩
       refine z0d ?_
       refine z3B [ot 88 (.fad 1 (.x 20)),ot 89 (.ld (.t 88)),om 90 17] [ox 92 (.len 3 (.x 91)),ox 93 (.mv (oi 0))] (.x 91) (.t 89) [.t 90] rfl ?_
       refine zE (zA hg1 hg2) ?_
       refine ⟨fg,cg,vg,kg,z1E pg (by rw [List.all_append,rg];rfl) ?_⟩
       refine zE (zA hlvl hlv3) ?_
       refine z0f ?_
       have u1:=z0k 20 (y1G S m cod R i)
       have u2:=z0k 20 (z1p (yU S m R i))
       have u3:=z0k 20 (z1p V)
       have pb:∀o (z:Bool),purge o (.bool z)=.bool z:=fun o z=>by simp [purge,DV.has]
       refine z3X 20 ?_
       simp (maxSteps:=1000000) (disch:=omega) only [cA,cB,cN,FnD.nb,lk,lkH,Dst.onT,Dst.onX,Dst.slot,z0W,z0N,z0I,z0X,z0u,z0V,unE,cnt,z0j,z0t,z0l,z0o,opE,rmH,z02,z0n,Nat.reduceEqDiff,Nat.reduceLT,Nat.reduceAdd,Nat.reduceMul,Nat.reduceMod,↓reduceIte,reduceCtorEq,Nat.reduceLeDiff,rmP,pw,po,pn,ps,pi,pb,mp,u1,u2,u3]
       refine z0x (σ:=Nat) (fun k=>[(6,.ptr 6 0),(11,.sl 2 (gps G)),(12,.ptr 12 0),(15,.ptr 15 0),(17,.int .i64 r),(18,.osl 3 204 0 (V.length+k)),(76,.sl 1 (ints R)),(77,.int .i64 R.length),(78,.int .i64 i),(82,.sl 2 (gps G)),(83,.int .i64 G.length),(84,.int .i64 j),(91,.sl 3 (nums lv)),(92,.int .i64 lv.length),(93,.int .i64 k)])
        (fun k=>[(6,[.nils,.nils,.nils,.nils]),(12,[.sl 1 (z0K (y0R S m cod)),.osl 1 202 0 i,.osl 3 203 0 i,.sl 1 (ints R)]),(15,C15),(202,rwU S m cod R i),(203,nums (yU S m R i)),(204,nums (V++lv.take k))]) (fun k=>k≤lv.length) (fun k=>lv.length - k) 0 (Nat.zero_le _) ?_ ?_ ?_
       ·simp [z0y,lk,purge,DV.has]
       ·simp
       ·intro k hk
        try simp only at hk ⊢
        by_cases hlk:k<lv.length
        ·have dk:decide ((k:Int)<(lv.length:Int))=true:=zT9
         have ek:(k:Int).toNat=k:=Int.toNat_natCast k
         have ek1:((k:Int)+1)=((k+1:Nat):Int):=by omega
         have hwk:((nums lv).drop (k*3)).take 3=z0T (lv.getD k 0):=z1x (j:=0) z1o 0 hlk (Nat.le_refl _)
         have hxb:=hf2 (lv.getD k 0) (by rw [zO1,zO4 hlk];exact List.getElem_mem hlk)
         have hsn:nums (V++lv.take k)++z0T (lv.getD k 0)=nums (V++lv.take (k+1)):=by rw [z4o,z0z 0 hlk,List.append_assoc]
         have ct:=x9e hxb (by decide)
         have hnl:(nums (V++lv.take k)).length=(V.length+k)*3:=by rw [z1H,List.length_append,List.length_take,show min k lv.length=k by omega]
         generalize lv.getD k 0=x at *
         have w1:=z0k 204 (z1p (V++lv.take (k+1)))
         have w2:=z0k 204 (y1G S m cod R i)
         have w3:=z0k 204 (z1p (yU S m R i))
         have w4:=z0k 204 (z1w x)
         have z1:=z0k 22 (z1p (V++lv.take (k+1)))
         have z2:=z0k 22 (y1G S m cod R i)
         have z3:=z0k 22 (z1p (yU S m R i))
         have y1:=z3L x
         have y2:=z1w x
         refine zS dk ?_
         refine wTs ?_
         refine z0d ?_
         refine z0f ?_
         refine zS (zA ek (zA hlvl (zA hwk (zA hcc (zA hn3 (zA ht3 (zA hs3 (zA hlz (zA @List.drop_zero.{0} @cS))))))))) ?_
         refine cP ct ?_
         refine zS (zA hcc (zA hn3 (zA ht3 (zA hld (zA hnl h33))))) ?_
         refine ⟨⟨by omega,by omega,fun h=>h,y1⟩,?_⟩
         rw [hsn,w1]
         refine z3X 22 ?_
         repeat (first|refine z0d ?_|refine z0g ?_|refine z0p ?_|refine z0f ?_|refine And.intro (by omega) ?_|simp (maxSteps:=1000000) (disch:=omega) only [cA,cB,cN,FnD.nb,lk,lkH,Dst.onT,Dst.onX,Dst.slot,z0W,z0N,z0I,z0X,z0u,z0V,unE,cnt,z0j,z0t,z0l,z0o,opE,rmH,z02,z0n,Nat.reduceEqDiff,Nat.reduceLT,Nat.reduceAdd,Nat.reduceMul,Nat.reduceMod,↓reduceIte,reduceCtorEq,Nat.reduceLeDiff,rmP,pw,po,pn,ps,pi,pb,mp,pu,w2,w3,z1,z2,z3])
         exact ⟨k+1,by omega,by omega,by simp [z0y,lk,purge,DV.has,Nat.add_assoc],rfl⟩
        ·have dk:decide ((k:Int)<(lv.length:Int))=false:=zF9
         obtain rfl:k=lv.length:=by omega
         have htk:lv.take lv.length=lv:=List.take_length
         have hl2:(vlU (z3l S m cod m.tm.length) r (j+1)).length=V.length+lv.length:=by rw [hsu,List.length_append]
         rw [htk,←hsu]
         refine zS dk ?_
         refine z0m rfl (fun h=>by cases h) (fun _=>z0s ?_)
         refine zS ej1 ?_
         exact ⟨j+1,by omega,by omega,by simp [z0y,lk,hl2],rfl⟩
      ·have dj:decide ((j:Int)<(G.length:Int))=false:=zF9
       obtain rfl:j=G.length:=by omega
       have hve:vlU (z3l S m cod m.tm.length) r G.length=z92 S m cod r:=by rw [hGl];exact w2f r
       have hvj:=hvl G.length (by omega)
       have hj40:G.length*729≤40*729:=Nat.mul_le_mul_right _ (by omega)
       rw [hve] at hvj ⊢
       generalize z92 S m cod r=D at *
       have hDr:=z1p D
       have hDn:=z1H D
       refine z0H 204 (cells:=nums D) rfl (List.all_eq_true.2 hDr) ?_
       have hfz:frz 204 (nums D) (.osl 3 204 0 D.length)=.sl 3 (nums D):=by
        simp [frz,hDn]
        rw [List.take_of_length_le (by omega)]
       have fo:∀o cs z p k m,p≠o→frz o cs (.osl z p k m)=.osl z p k m:=fun o cs z p k m h=>z1F _ _ _ _ _ h
       have v1:=z1n 204 (nums D) (y1G S m cod R i)
       have v2:=z1n 204 (nums D) (z1p (yU S m R i))
       refine zS (zA dj (zA hfz (zA fp (zA fsl (zA fin (zA fel (zA fnl (zA fo (zA mf (zA v1 v2)))))))))) ?_
       refine z0m rfl (fun h=>by cases h) (fun _=>z0s ?_)
       refine zR ?_
       have hrc:r<K.ce.length:=by omega
       have hkv:((cxs K.ce).drop (r*5+1)).take 3=z0T (x5R S m r):=by
        have h1:((cxs K.ce).drop (r*5+1)).take 3=((cxC (K.ce.getD r default)).drop 1).take 3:=z1x z1T default hrc (by decide)
        rw [h1,hdy]
        show xnC (K.ce.getD r default).va=xnC (qX (xnV (K.ce.getD r default).va))
        rw [←(hKn _ (z7E hrc)).1]
       have hyb:BS (x5R S m r) 100:=by rw [hdy];exact (hKn _ (z7E hrc)).2
       refine w24 (i:=i) (r:=r) (v:=x5R S m r) (D:=nums D) (X:=rwU S m cod R i) (Y:=nums (yU S m R i)) (C:=C15) (ce:=cxs K.ce) (Z:=[.nils,.nils,.nils,.nils]) (N:=.sl 1 (z0K (y0R S m cod))) (RW:=.sl 1 (ints R)) rfl rfl rfl rfl hkl hk3 hkv (by omega) hxl hyl (by omega) (y1G _ _ _ _ _) (z1p _) hkr (List.all_eq_true.1 rfl) rfl rfl (x9e hyb (by decide)) ?_ ?_
       ·exact fun s _=>⟨x8Z (by simp [DV.has]) s,x8Z (by simp [DV.has]) s⟩
       ·have hq:hlR (.sl 1 (z0K (y0R S m cod))) (.sl 1 (ints R)) [.nils,.nils,.nils,.nils] C15 (rwU S m cod R i) (nums (yU S m R i)) (nums D) (z0T (x5R S m r)) i [4,16,18,20]=[(6,[DV.nils,.nils,.nils,.nils]),(12,[.sl 1 (z0K (y0R S m cod)),.osl 1 202 0 (i+1),.osl 3 203 0 (i+1),.sl 1 (ints R)]),(15,C15),(202,rwU S m cod R i++[.sl 3 (nums D)]),(203,nums (yU S m R i)++z0T (x5R S m r))]:=rfl
        rw [hq,hxs,hys]
        refine zS e1 ?_
        exact ⟨i+1,by omega,by omega,by simp [z0y,lk],rfl⟩
    ·have dl:decide ((i:Int)<(R.length:Int))=false:=zF9
     obtain rfl:i=R.length:=by omega
     have hx1:=y1G S m cod R R.length
     have hx2:=x5d (S:=S) (m:=m) (cod:=cod) (Nat.le_refl R.length)
     have hy1:=z1p (yU S m R R.length)
     have hy2:=x9t (S:=S) (m:=m) (Nat.le_refl R.length)
     have v1:=z1n 202 (rwU S m cod R R.length) hy1
     have fo:∀o cs z p k m,p≠o→frz o cs (.osl z p k m)=.osl z p k m:=fun o cs z p k m h=>z1F _ _ _ _ _ h
     generalize rwU S m cod R R.length=X at *
     generalize nums (yU S m R R.length)=Y at *
     have hfx:frz 202 X (.osl 1 202 0 R.length)=.sl 1 X:=by
      simp [frz,hx2]
      rw [List.take_of_length_le (by omega)]
     have hfy:frz 203 Y (.osl 3 203 0 R.length)=.sl 3 Y:=by
      simp [frz,hy2]
      rw [List.take_of_length_le (by omega)]
     refine z0H 202 (cells:=X) rfl (List.all_eq_true.2 hx1) ?_
     refine z0H 203 (cells:=Y) (by simp [rmH,lkH,v1]) (List.all_eq_true.2 hy1) ?_
     refine zS (zA dl (zA hfx (zA hfy (zA fp (zA fsl (zA fin (zA fel (zA fnl (zA fo mf))))))))) ?_
     refine z0m rfl (fun h=>by cases h) (fun _=>z0s ?_)
     refine zS (zA hs4 @cS) ?_
     exact z0i (x1R rfl rfl rfl (.imm (by simp [DV.rf,DV.rfL])) (.imm rfl))
end Go.Proofs.YtlcagndeidjobaaGreatDoor
namespace Go.Proofs.YtlcagndeidjobaaGreatDoor
open Tryz
open Go Go.Dat Go.Proofs Go.RowKit Nat32
theorem w52 (n:Int) (K:List DV) (cod:Int):(List.range 19).all (fun i=>(kM i).tm.all fun t=>t.all fun f=>evB mdT 1000 217 [.el [.int .i64 n,.sl 4 K,.str (kM i).rs,.bool (kM i).ic,.sl 1 (tmD (kM i).tm),.int .i64 cod] 0,.sl 2 (fcs (t.filter fun x=>!decide (x=f)))] (.bool (x4D (kM i) (t.filter fun x=>!decide (x=f)))))=true:=by kernel_rfl
theorem w4g:(List.range 10).all (fun i=>evB mdT 2000 76 [.agg (z2w (kM i))] (.bool true))=true:=by kernel_rfl
theorem w4h:([10,11,12,13,14,15,16,17,18].all fun i=>evB mdT 2000 76 [.agg (z2w (kM i))] (.bool true))=true:=by kernel_rfl
theorem w53:(List.range 19).all (fun i=>evB mdT 2000 78 [.agg (z2w (kM i))] (.sl 1 (z0K (z2A (kM i)))))=true:=by kernel_rfl
section
variable {Y X G H:List Int} {n:Nat}
theorem y7t (hn:n=min Y.length 10):okT (z1V Y X G H):=by
 refine ⟨(by decide:4≤1000000),fun k hk=>?_⟩
 have hc:∀c∈k.ce,y9m c.va:=y5J (p:=fun c=>y9m c.va) w00 w4H k hk
 have h1:k.nm.length≤9223372036854775807∧k.le.length≤1000000∧k.ce.length≤1000000:=by
  refine z4P (p:=fun k=>k.nm.length≤9223372036854775807∧k.le.length≤1000000∧k.ce.length≤1000000) hn ?_ ?_ ?_ ?_ k hk
  ·exact ⟨Nat.le_of_ble_eq_true rfl,Nat.le_of_ble_eq_true rfl,by rw [z6Y];omega⟩
  ·exact ⟨Nat.le_of_ble_eq_true rfl,Nat.le_of_ble_eq_true rfl,by rw [z6Y];omega⟩
  ·exact ⟨Nat.le_of_ble_eq_true rfl,Nat.le_of_ble_eq_true rfl,by rw [z6X];omega⟩
  ·exact ⟨Nat.le_of_ble_eq_true rfl,Nat.le_of_ble_eq_true rfl,by rw [z6X];omega⟩
 exact ⟨h1.1,h1.2.1,h1.2.2,hc⟩
theorem x2D (z:Int) {k:Kx} (h:k.kd=1):x0c k (z94 z)=true:=by
 unfold x0c
 rw [if_neg (show ¬(z94 z).mi=true from Bool.false_ne_true),if_pos h]
 have:z5n (z94 z).va.1 (z94 z).va.2.1 (z94 z).va.2.2=true:=x5G _
 rw [this]
 rfl
theorem x2C (z m:Int) {k:Kx} (h:k.kd=2) (hm:(k.le.length:Int)=m) (h0:0<m):x0c k (lvT z m)=true:=by
 have hz0:x9v (false,[],[])=true:=rfl
 unfold x0c lvT
 by_cases hz:z<0
 ·rw [if_pos hz,if_pos rfl,hz0];rfl
 ·rw [if_neg hz,if_neg Bool.false_ne_true,if_neg (by omega),hz0]
  have h1:=Int.tmod_nonneg m (show 0≤z by omega)
  have h2:=Int.tmod_lt_of_pos z h0
  simp only [Bool.true_and,Bool.and_eq_true,decide_eq_true_eq]
  omega
theorem y5I (hn:n=min Y.length 10):x8b n (z1V Y X G H)=true:=by
 have hc:∀k∈z1V Y X G H,y5Q k n=true:=by
  refine z4P hn ?_ ?_ ?_ ?_
  ·unfold y5Q;rw [y24,y1Q fun z=>x2D z rfl];rfl
  ·unfold y5Q;rw [y24,y1Q fun z=>x2D z rfl];rfl
  ·unfold y5Q;rw [y23 _ _ _ _ _ (by decide),x2n,y1P fun z=>x2C z 3 rfl rfl (by decide)];rfl
  ·unfold y5Q;rw [y23 _ _ _ _ _ (by decide),x8x,y1P fun z=>x2C z 2 rfl rfl (by decide)];rfl
 unfold x8b
 rw [z9W,y5K,List.all_eq_true.2 hc]
 simp only [Bool.and_true,Bool.and_eq_true,decide_eq_true_eq]
 refine ⟨⟨by omega,by omega⟩,?_⟩
 show 4≤32
 decide
def mdB (m:Mdl):Bool:=decide (m.rs=[121]) && decide (m.tm.length≤32) && decide ((z2A m).length≤1000) && (z2A m).all (fun s=>decide (0≤ixS [[121],[120],[103],[104]] s)) && m.tm.all (fun t=>decide (1≤t.length) && decide (t.length≤6) && t.all fun f=>decide (1≤f.pw) && decide (f.pw≤8) && (decide (f.pw=1) || decide (f.nm=[120])))
theorem w32:(List.range 19).all (fun i=>mdB (kM i))=true:=by decide +kernel
theorem y9h {i:Nat} (hi:i<19):(kM i).rs=[121]∧(kM i).tm.length≤32∧(z2A (kM i)).length≤1000∧(∀s∈z2A (kM i),0≤ixS [[121],[120],[103],[104]] s)∧∀t∈(kM i).tm,(1≤t.length∧t.length≤6)∧∀f∈t,(1≤f.pw∧f.pw≤8)∧(f.pw=1∨f.nm=[120]):=by
 have h:=List.all_eq_true.1 w32 i (List.mem_range.2 hi)
 unfold mdB at h
 simp only [Bool.and_eq_true,Bool.or_eq_true,decide_eq_true_eq,List.all_eq_true] at h
 obtain ⟨⟨⟨⟨h1,h2⟩,h3⟩,h4⟩,h5⟩:=h
 exact ⟨h1,h2,h3,h4,h5⟩
theorem w4c (hn:n=min Y.length 10) {i cod:Nat} (hi:i<19) (hc:1≤cod∧cod≤4):DKt n (z1V Y X G H) (kM i) cod:=by
 obtain ⟨h1,h2,h3,h4,h5⟩:=y9h hi
 refine ⟨y7t hn,x8d hn,fun s hs=>by rw [z9W];exact h4 s hs,hc,fun t ht f hf=>((h5 t ht).2 f hf).1,⟨h2,fun t ht=>(h5 t ht).1⟩,?_,?_,?_,?_,?_⟩
 ·refine z4P hn ?_ ?_ ?_ ?_
  ·exact ⟨Nat.le_of_ble_eq_true rfl,fun s hs=>absurd hs List.not_mem_nil⟩
  ·exact ⟨Nat.le_of_ble_eq_true rfl,fun s hs=>absurd hs List.not_mem_nil⟩
  ·exact ⟨Nat.le_of_ble_eq_true rfl,fun s hs=>by simp only [List.mem_cons,List.not_mem_nil,or_false] at hs;rcases hs with rfl|rfl|rfl<;>decide⟩
  ·exact ⟨Nat.le_of_ble_eq_true rfl,fun s hs=>by simp only [List.mem_cons,List.not_mem_nil,or_false] at hs;rcases hs with rfl|rfl<;>decide⟩
 ·exact y5J (p:=fun c=>c.va=qX (xnV c.va)∧BS (xnV c.va) 100) w4B w56
 ·refine z4P hn ?_ ?_ ?_ ?_
  ·exact fun h=>absurd rfl h
  ·exact fun h=>absurd rfl h
  ·exact fun _=>⟨Nat.le_of_ble_eq_true rfl,Nat.le_of_ble_eq_true rfl⟩
  ·exact fun _=>⟨Nat.le_of_ble_eq_true rfl,Nat.le_of_ble_eq_true rfl⟩
 ·intro t ht f hf
  have h:=List.all_eq_true.1 (w52 n (kxs (z1V Y X G H)) cod) i (List.mem_range.2 hi)
  exact z2Q z2V (List.all_eq_true.1 (List.all_eq_true.1 h t ht) f hf)
 ·refine z4P hn ?_ ?_ ?_ ?_
  ·exact fun h=>absurd rfl h
  ·exact fun h=>absurd rfl h
  ·intro _ c c1 c2
   have hk:ctK [.int .i64 (c:Int),.int .i64 ((3:Nat):Int)]=some (ctD c 3):=by
    unfold ctK;simp only;rw [if_pos (by omega),Int.toNat_natCast];rfl
   exact z6Z _ _ hk
  ·intro _ c c1 c2
   have hk:ctK [.int .i64 (c:Int),.int .i64 ((2:Nat):Int)]=some (ctD c 2):=by
    unfold ctK;simp only;rw [if_pos (by omega),Int.toNat_natCast];rfl
   exact z6Z _ _ hk
theorem w4d (hn:n=min Y.length 10) {i:Nat} (hi:i<19):DX n (z1V Y X G H) (kM i):=by
 obtain ⟨h1,h2,h3,h4,h5⟩:=y9h hi
 refine ⟨?_,z2Q z2V (List.all_eq_true.1 w53 i (List.mem_range.2 hi)),h3,by rw [h1];rfl,fun t ht f hf h=>?_,by omega⟩
 ·by_cases h10:i<10
  ·exact z2Q z2V (List.all_eq_true.1 w4g i (List.mem_range.2 h10))
  ·refine z2Q z2V (List.all_eq_true.1 w4h i ?_)
   simp only [List.mem_cons,List.not_mem_nil,or_false]
   omega
 ·rcases ((h5 t ht).2 f hf).2 with e|e
  ·exact absurd e h
  ·rw [e];rfl
theorem w4e (Y X G H:List Int):(List.range 19).all (fun i=>[1,2,3,4].all fun c:Nat=>decide (z95 (z1V Y X G H) (kM i) c (kM i).tm.length≤12))=true:=by kernel_rfl
theorem w4f {i cod:Nat} (hi:i<19) (hc:1≤cod∧cod≤4):z95 (z1V Y X G H) (kM i) cod (kM i).tm.length≤12:=by
 have h:=List.all_eq_true.1 (List.all_eq_true.1 (w4e Y X G H) i (List.mem_range.2 hi)) cod (by simp only [List.mem_cons,List.not_mem_nil,or_false];omega)
 exact of_decide_eq_true h
end
end Go.Proofs.YtlcagndeidjobaaGreatDoor
namespace Go.Proofs.YtlcagndeidjobaaGreatDoor
open Tryz
open Go Go.Dat Go.Proofs Go.RowKit Nat32
def dsD (N:List Bs) (x:List (List Rat)) (y:List Rat) (R:List Nat):List DV:=[.sl 1 (z0K N),.sl 1 (z6S x),.sl 3 (nums y),.sl 1 (ints R)]
theorem x9Q (n:Nat) (S:List Kx) (m:Mdl) (cod:Int):w2Y n S m cod=.agg (dsD (y0R S m cod) ((z2b n S m).map (z92 S m cod)) ((z2b n S m).map (x5R S m)) (z2b n S m)):=by
 unfold w2Y dsD z6S
 rw [List.map_map]
 rfl
end Go.Proofs.YtlcagndeidjobaaGreatDoor
namespace Go.Proofs.YtlcagndeidjobaaGreatDoor
open Tryz
open Go Go.Dat Go.Proofs Go.RowKit Go.Lib Nat32
set_option maxHeartbeats 8000000 in
theorem y0e {x:List (List XN)} {n k b:Nat} (h:mtOK x n k b) (hG:∀t,t<(rrP n k (mtX x)).length→3*gB b t+2≤140800) (hG2:∀t,t≤(rrP n k (mtX x)).length→gB b t≤140800) :
  y7E prog 111 [.sl 1 (xrs x)] [] (fun r H'=>w7e n k (mtX x) r∧H'=[]):=by
 have hT:=x61 h
 have h1:=h.n1
 have h2:=h.k1
 obtain ⟨M0,hM0⟩:∃M0,M0=mtX x:=⟨_,rfl⟩
 have hsz:=h.sz
 have hz:=h.z
 rw [←hM0] at hT hsz hG hG2 ⊢
 have c1:z0c prog 44 [.int .i64 1] (.agg (z0T 1)):=z43 1 (by decide) (by decide)
 have hcc:∀x:Rat,(DV.agg (z0T x)).cells? = some (z0T x):=fun _=>rfl
 have hn3:=z1o
 have ht3:∀x:Rat,(z0T x).take 3=z0T x:=fun _=>rfl
 have hxr:[DV.sl 1 (xrs x)].all DV.rf=true:=rfl
 refine z8e y6x (by simp [z86]) ?_
 unfold z5D
 refine zR ?_
 refine y0u 12 hT rfl (y1m _ _ _) (by decide) (by decide) (by decide) rfl (by simp [DV.rf]) ?_
 refine zD ?_
 refine z0d ?_
 refine z0g ?_
 refine zD ?_
 refine z36 5 1 200 rfl rfl ?_
 refine zR ?_
 refine cP c1 ?_
 refine zS (zA hcc (zA hn3 ht3)) ?_
 refine z0x (σ:=Mt × List Nat × Rat × Nat) (fun s=>[(0,.osl 1 12 0 n),(4,.ptr 4 0),(5,.osl 1 200 0 s.2.1.length),(6,.ptr 6 0),(7,.int .i64 s.2.2.2)]) (fun s=>[(4,[.bool false,.nils,.nils]),(6,z0T s.2.2.1),(12,mtD n k s.1),(200,z3K s.2.1)])
  (fun s=>s.2.2.2≤k∧IsRp n k s.2.2.2 s.1 s.2.1∧z12 n k M0 s.1∧MS n k s.1 (gB b s.2.1.length)∧BS s.2.2.1 (gB b s.2.1.length+1)) (fun s=>k - s.2.2.2) (M0,[],1,0) ⟨Nat.zero_le _,IsRp.nil n k M0,z12.refl _ _ _,hsz,x8l.mono (by show 1≤b+1;omega)⟩ ?_ rfl ?_
 ·simp [z0y,lk]
 ·rintro ⟨M,ps,q,j⟩ ⟨hj,hE,hK,hS,hq⟩
  try simp only at hj hE hK hS hq ⊢
  have ccol:=w54 n k M (by omega) (by omega) hz
  have hml:=z9u n k M
  have hrc:[DV.osl 1 12 0 n].map (rdo [(4,[.bool false,.nils,.nils]),(6,z0T q),(12,mtD n k M),(200,z3K ps)] 1)=[.sl 1 (mtD n k M)]:=by
   rw [List.map_cons,List.map_nil,x7f (cells:=mtD n k M) rfl (by decide) (by omega) (y1m _ _ _)]
  refine zR ?_
  refine y52 rfl 1 ccol hrc rfl ?_
  by_cases hlt:j<k
  ·have dl:decide ((j:Int)<(k:Int))=true:=zT9
   refine zS dl ?_
   refine wTs ?_
   have hil:=z9j ps
   have hpl:=hE.len
   have ej:(j:Int).toNat=j:=Int.toNat_natCast j
   have e1:((j:Int)+1)=((j+1:Nat):Int):=by omega
   have hrl:=fun i=>z2j k (M i)
   refine z0d ?_
   refine z0f ?_
   refine zS hil ?_
   refine z0x (σ:=Nat) (fun a=>[(0,.osl 1 12 0 n),(4,.ptr 4 0),(5,.osl 1 200 0 ps.length),(6,.ptr 6 0),(7,.int .i64 j),(8,.int .i64 ps.length),(9,.int .i64 a)]) (fun _=>[(4,[.bool false,.nils,.nils]),(6,z0T q),(12,mtD n k M),(200,z3K ps)])
    (fun a=>w7b M n j ps.length a) (fun a=>n - a) ps.length ⟨Nat.le_refl _,hpl,fun r h1 h2=>by omega⟩ ?_ rfl ?_
   ·simp [z0y,lk]
   ·rintro a ⟨ha1,ha2,hfst⟩
    try simp only at ha1 ha2 hfst ⊢
    have ea:(a:Int).toNat=a:=Int.toNat_natCast a
    by_cases hla:a<n
    ·have da:decide ((a:Int)<(n:Int))=true:=zT9
     have hga:=z9t (k:=k) hla M .undef
     have hwa:=z6R hlt (M a)
     have hrla:=hrl a
     have cs:=w4Q (hS a hla j hlt) (by have:=hG2 _ (hE.le_rank (by omega) hK);omega)
     have hz:=w6v (M a j)
     by_cases hzero:M a j=0
     ·have dz:decide (M a j=0)=true:=decide_eq_true hzero
      refine zS (zA da (zA ea (zA hml (zA hga (zA ej (zA hrla (zA hwa @List.drop_zero.{0}))))))) ?_
      refine cP cs ?_
      have e2:((a:Int)+1)=((a+1:Nat):Int):=by omega
      refine zS (zA hz dz) ?_
      refine wTs ?_
      refine zS e2 ?_
      refine ⟨a+1,⟨by omega,by omega,fun r g1 g2=>?_⟩,by omega,by simp [z0y,lk]⟩
      by_cases e:r=a
      ·rw [e];exact hzero
      ·exact hfst r g1 (by omega)
     ·have dz:decide (M a j=0)=false:=decide_eq_false hzero
      refine zS (zA da (zA ea (zA hml (zA hga (zA ej (zA hrla (zA hwa @List.drop_zero.{0}))))))) ?_
      refine cP cs ?_
      refine zS (zA hz dz) ?_
      refine z0m rfl (fun h=>by cases h) (fun _=>z0s ?_)
      have dan:decide ((a:Int)=(n:Int))=false:=zF9
      refine zS dan ?_
      refine wFs ?_
      have hpn:ps.length<n:=by omega
      obtain ⟨S,hSd⟩:∃S,S=z3U ps.length a M:=⟨_,rfl⟩
      have hpiv:=w3i hE hlt ha1 hla hzero
      have hszS:MS n k S (gB b ps.length):=by rw [hSd];exact hS.swap hpn hla
      have hSt:S ps.length j≠0:=by rw [hSd];unfold z3U;rw [if_pos rfl];exact hzero
      have hszE:=hszS.elimM hpn hlt hSt
      rw [←hSd] at hpiv
      have hG3:=hG ps.length (by
       have:=hpiv.1.le_rank (show j+1≤k by omega) (hK.trans hpiv.2)
       rw [List.length_append] at this
       exact this)
      refine z0d ?_
      refine z5t (ι:=Rat) (fun q'=>BS q' (gB b ps.length+1)) (fun _=>[(0,.osl 1 12 0 n),(4,.ptr 4 0),(5,.osl 1 200 0 ps.length),(6,.ptr 6 0),(7,.int .i64 j),(8,.int .i64 ps.length)]) (fun q'=>[(4,[.bool false,.nils,.nils]),(6,z0T q'),(12,mtD n k S),(200,z3K ps)]) ?_ ?_
      ·by_cases hat:a=ps.length
       ·have dat:decide (¬(a:Int)=(ps.length:Int))=false:=zF9
        refine zS dat ?_
        refine wFs ?_
        refine ⟨q,hq,by simp [z0y,lk],?_⟩
        have:S=M:=by
         rw [hSd,hat];funext r c;unfold z3U
         by_cases e:r=ps.length
         ·rw [if_pos e,e]
         ·rw [if_neg e,if_neg e]
        rw [this]
       ·have dat:decide (¬(a:Int)=(ps.length:Int))=true:=zT9
        have ept:(ps.length:Int).toNat=ps.length:=Int.toNat_natCast _
        have hgt:=z9t (k:=k) hpn M .undef
        have hsw:=x63 (k:=k) M hpn hla
        have cn:=w4M hq (by omega)
        refine zS dat ?_
        refine wT ?_
        refine zS (zA ea (zA ept (zA hml (zA hga hgt)))) ?_
        refine ⟨⟨rfl,hla⟩,⟨by omega,by omega⟩,⟨rfl,by rw [List.length_set,hml];exact hpn⟩,?_⟩
        rw [hsw,←hSd]
        refine zS (zA hn3 ht3) ?_
        refine cP cn ?_
        refine zS (zA hcc (zA hn3 ht3)) ?_
        exact ⟨-q,y7B hq,by simp [z0y,lk],rfl⟩
      ·rintro q' hq'
       have ept:(ps.length:Int).toNat=ps.length:=Int.toNat_natCast _
       have hmlS:=z9u n k S
       have hgt:=z9t (k:=k) hpn S .undef
       have hrt:=z2j k (S ps.length)
       have hwt:=z6R hlt (S ps.length)
       have cm:=w4L hq' (hszS _ hpn j hlt) (by omega) (by omega)
       have cq:=w6f hSt x8l (hszS _ hpn j hlt) (by omega) (by omega)
       have ct:=z5Z (k:=k) (by omega) (fun c hc=>hszS _ hpn c hc) (x1K hSt x8l (hszS _ hpn j hlt)) (by omega) (by omega)
       have hset:=y2G (k:=k) S (fun c=>S ps.length c*(1 / S ps.length j)) hpn
       rw [w5O] at hset
       refine zS (zA ept (zA ej (zA hmlS (zA hgt (zA hrt (zA hwt (zA hn3 (zA ht3 @List.drop_zero.{0})))))))) ?_
       refine cP cm ?_
       refine zS (zA ept (zA ej (zA hmlS (zA hgt (zA hrt (zA hwt (zA hcc (zA hn3 (zA ht3 @List.drop_zero.{0}))))))))) ?_
       refine cP c1 ?_
       refine zS (zA ept (zA ej (zA hmlS (zA hgt (zA hrt (zA hwt (zA hcc (zA hn3 (zA ht3 @List.drop_zero.{0}))))))))) ?_
       refine cP cq ?_
       refine zR ?_
       refine cP ct ?_
       refine zS (zA ept hmlS) ?_
       refine ⟨⟨rfl,hpn⟩,?_⟩
       have h6:∀a b:Rat,List.take 0 (z0T a)++z0T b++List.drop 3 (z0T a)=z0T b:=fun _ _=>rfl
       rw [h6,hset]
       have hq2:BS (q'*S ps.length j) (gB b (ps.length+1)+1):=(z5p hq' (hszS _ hpn j hlt)).mono (by simp only [gB];omega)
       generalize q'*S ps.length j=q2 at *
       have hbt:∀c,c<k→BS (S ps.length c*(1 / S ps.length j)) (2*gB b ps.length+1):=fun c hc=>(z5p (hszS _ hpn c hc) (x1K hSt x8l (hszS _ hpn j hlt))).mono (by omega)
       refine zR ?_
       refine z0x (σ:=Nat) (fun i=>[(0,.osl 1 12 0 n),(4,.ptr 4 0),(5,.osl 1 200 0 ps.length),(6,.ptr 6 0),(7,.int .i64 j),(8,.int .i64 ps.length),(10,.int .i64 i)]) (fun i=>[(4,[.bool false,.nils,.nils]),(6,z0T q2),(12,mtD n k (elP ps.length j i S)),(200,z3K ps)])
        (fun i=>i≤n) (fun i=>n - i) 0 (Nat.zero_le _) ?_ rfl ?_
       ·simp [z0y,lk]
       ·intro i hi
        try simp only at hi ⊢
        obtain ⟨E,hEd⟩:∃E,E=elP ps.length j i S:=⟨_,rfl⟩
        have hmlE:=z9u n k E
        rw [←hEd]
        by_cases hli:i<n
        ·have di:decide ((i:Int)<(n:Int))=true:=zT9
         have ei:(i:Int).toNat=i:=Int.toNat_natCast i
         have ei1:((i:Int)+1)=((i+1:Nat):Int):=by omega
         refine zS (zA di hmlE) ?_
         refine wTs ?_
         by_cases hit:i=ps.length
         ·have dit:decide (¬(i:Int)=(ps.length:Int))=false:=zF9
          refine zS dit ?_
          refine wFs ?_
          refine zS ei1 ?_
          refine ⟨i+1,by omega,by omega,by simp [z0y,lk],?_⟩
          rw [hEd,hit,x6o]
         ·have dit:decide (¬(i:Int)=(ps.length:Int))=true:=zT9
          have hgi:=z9t (k:=k) hli E .undef
          have hgT:=z9t (k:=k) hpn E .undef
          have eEi:E i=S i:=by rw [hEd];exact w5P hit
          have eEt:E ps.length=fun c=>S ps.length c*(1 / S ps.length j):=by rw [hEd];funext c;exact w26 _ _ _ _ _
          rw [eEi] at hgi
          have hri:=z2j k (S i)
          have hwi:=z6R hlt (S i)
          have cn:=w4M (hszS i hli j hlt) (by omega)
          have ct2:=z5Z (k:=k) (f:=E ps.length) (c:=-(S i j)) (by omega) (fun c hc=>by rw [eEt];exact hbt c hc) (y7B (hszS i hli j hlt)) (by omega) (by omega)
          have cpl:=y4R (k:=k) (f:=S i) (g:=fun c=>E ps.length c*(-(S i j))) (p:=3*gB b ps.length+1) (by omega) (fun c hc=>hszS i hli c hc) (fun c hc=>by rw [eEt];exact (z5p (hbt c hc) (y7B (hszS i hli j hlt))).mono (by omega)) (by omega) (by omega)
          have hset2:=y2G (k:=k) E (fun c=>S i c+E ps.length c*(-(S i j))) hli
          have hnx:=x6n (j:=j) (S:=S) hit
          rw [←hEd] at hnx
          rw [hnx] at hset2
          refine zS dit ?_
          refine wT ?_
          refine zS (zA ei (zA ej (zA ept (zA hmlE (zA hgi (zA hgT (zA hri (zA hwi @List.drop_zero.{0})))))))) ?_
          refine cP cn ?_
          refine zR ?_
          refine cP ct2 ?_
          refine zR ?_
          refine cP cpl ?_
          refine zS (zA ei hmlE) ?_
          refine ⟨⟨rfl,hli⟩,?_⟩
          rw [hset2]
          refine zS ei1 ?_
          exact ⟨i+1,by omega,by omega,by simp [z0y,lk],rfl⟩
        ·have di:decide ((i:Int)<(n:Int))=false:=zF9
         have hin:i=n:=by omega
         have hfin:mtD n k E=mtD n k (elimM ps.length j S):=y4S fun r hr c _=>by rw [hEd,hin];exact x9T r hr c
         have hpX:(z3K ps++[DV.int .i64 j]).map (purge 200)=z3K (ps++[j]):=by rw [x0j];exact z0k 200 (y2n _)
         have hpM:=z0k 200 (y1m n k (elimM ps.length j S))
         have hpq:=z0k 200 (z1w q2)
         have hpb:[DV.bool false,.nils,.nils].map (purge 200)=[.bool false,.nils,.nils]:=rfl
         have pp:∀o,purge 200 (.ptr (o) 0)=if o=200 then .undef else .ptr o 0:=fun o=>by
          by_cases e:o=200
          ·rw [if_pos e,e];simp [purge,DV.has]
          ·rw [if_neg e];simp [purge,DV.has,e]
         have pp4:=pp 4
         have pp6:=pp 6
         rw [if_neg (by decide)] at pp4 pp6
         have pm:purge 200 (.osl 1 12 0 n)=.osl 1 12 0 n:=by simp [purge,DV.has]
         have hl1:laid [DV.int .i64 0] [(0,1,.int .i64 (j:Int))]=some [.int .i64 j]:=rfl
         have hpl2:(ps++[j]).length=ps.length+1:=by simp
         rw [hfin]
         refine zS (zA di (zA hmlE @z9u)) ?_
         refine z0m rfl (fun h=>by cases h) (fun _=>z0s ?_)
         refine zS (zA hil hl1) ?_
         refine ⟨by simp [DV.rf],⟨by omega,by omega,fun h=>h,by simp [DV.one]⟩,?_⟩
         rw [hpX,hpM,hpq]
         refine zS (zA e1 (zA pp4 (zA @pp6 pm))) ?_
         refine ⟨(elimM ps.length j S,ps++[j],q2,j+1),⟨by show j+1≤k;omega,hpiv.1,hK.trans hpiv.2,by rw [hpl2];exact hszE,by rw [hpl2];exact hq2⟩,by show k - (j+1)<k - j;omega,by simp [z0y,lk,hpl2],?_⟩
         first|rfl|simp [DV.rf,purge,DV.has]
    ·have han:a=n:=by omega
     have da:decide ((a:Int)<(n:Int))=false:=zF9
     have dan:decide ((a:Int)=(n:Int))=true:=zT9
     refine zS (zA da (zA ea hml)) ?_
     refine z0m rfl (fun h=>by cases h) (fun _=>z0s ?_)
     refine zS (zA dan hml) ?_
     refine z0m rfl (fun _=>z0s ?_) (fun h=>by cases h)
     refine zS e1 ?_
     exact ⟨(M,ps,q,j+1),⟨by show j+1≤k;omega,hE.skip fun r g1 g2=>hfst r g1 (by omega),hK,hS,hq⟩,by show k - (j+1)<k - j;omega,by simp [z0y,lk],rfl⟩
  ·have hjk:j=k:=by omega
   have dl:decide ((j:Int)<(k:Int))=false:=zF9
   rw [hjk] at hE
   obtain ⟨r1,r2⟩:=w6q hE hK
   refine zS dl ?_
   refine z0m rfl (fun h=>by cases h) (fun _=>z0s ?_)
   show W _ _ _ _ _
   have hil:=z9j ps
   have g1:frz 12 (mtD n k M) (.osl 1 12 0 n)=.sl 1 (mtD n k M):=by
    simp [frz,hml];rw [List.take_of_length_le (by omega)]
   have g2:frz 200 (z3K ps) (.osl 1 200 0 ps.length)=.sl 1 (z3K ps):=by
    simp [frz,hil];rw [List.take_of_length_le (by omega)]
   have g3:frz 12 (mtD n k M) (.osl 1 200 0 ps.length)=.osl 1 200 0 ps.length:=by simp [frz]
   have g4:∀cs,frz 12 cs (.ptr 4 0)=.ptr 4 0:=fun cs=>by simp [frz,purge,DV.has]
   have g5:∀cs,frz 12 cs (.ptr 6 0)=.ptr 6 0:=fun cs=>by simp [frz,purge,DV.has]
   have g6:∀cs,frz 200 cs (.ptr 4 0)=.ptr 4 0:=fun cs=>by simp [frz,purge,DV.has]
   have g7:∀cs,frz 200 cs (.ptr 6 0)=.ptr 6 0:=fun cs=>by simp [frz,purge,DV.has]
   have g8:=z1n 12 (mtD n k M) (y2n ps)
   have g9:=z1n 12 (mtD n k M) (z1w q)
   have g10:=z1n 200 (z3K ps) (z1w q)
   refine z0H 12 (cells:=mtD n k M) rfl (List.all_eq_true.2 (y1m _ _ _)) ?_
   refine zE (zA g1 (zA g3 (zA g4 (zA g5 (zA g8 g9))))) ?_
   refine z0H 200 (cells:=z3K ps) rfl (List.all_eq_true.2 (y2n _)) ?_
   refine zE (zA g2 (zA g6 (zA g7 g10))) ?_
   refine zS (zA hcc (zA hn3 (zA ht3 @List.drop_zero.{0}))) ?_
   have hq0:List.take 0 [DV.bool false,.nils,.nils]++z0T q++List.drop 3 [DV.bool false,.nils,.nils]=z0T q:=rfl
   have hR:mtD n k M=mtD n k (rrM n k M0):=y4S fun i hi c hc=>r2 i hi c hc
   try rw [hq0]
   rw [hR,r1]
   refine z0i ⟨.inr rfl,[.sl 1 (mtD n k (rrM n k M0)),.sl 1 (z3K (rrP n k M0)),.agg (z0T q)],_,[],⟨⟨q,rfl⟩,rfl⟩,fun _ _ h=>(by cases h),?_,?_,fun _ _ h=>(by cases h)⟩
   ·simp [z4u,z9H,lk,lkH,z7O]
    rw [if_pos (by rw [hn3];exact Nat.le_refl 3)];rfl
   ·exact z5k _ _ rfl
theorem z9s {x:List (List XN)} {n k b:Nat} (h:mtOK x n k b) (hG:∀t,t<(rrP n k (mtX x)).length→3*gB b t+2≤140800) (hG2:∀t,t≤(rrP n k (mtX x)).length→gB b t≤140800) :
  z0c prog 53 [.sl 1 (xrs x)] (.tup [.sl 1 (mtD n k (rrM n k (mtX x))),.sl 1 (z3K (rrP n k (mtX x))),.int .i64 0]):=by
 have cf:=h.formedR
 have cr:=y0e h hG hG2
 have hcc:∀x:Rat,(DV.agg (z0T x)).cells? = some (z0T x):=fun _=>rfl
 have hn3:=z1o
 refine z0b x0u (by simp [y03]) ?_
 unfold z7b
 refine zR ?_
 refine cP cf ?_
 refine zR ?_
 refine wFs ?_
 refine zR ?_
 refine x15 rfl rfl cr ?_ ?_
 ·rintro r ⟨q,rfl⟩;rfl
 rintro r ⟨q,rfl⟩
 refine zS (zA hcc hn3) ?_
 exact z0i (x9y (.imm rfl) (.imm rfl) (.imm rfl))
theorem y2F {x:List (List XN)} {n k b:Nat} (h:mtOK x n k b) (hG:∀t,t<(rrP n k (mtX x)).length→3*gB b t+2≤140800) (hG2:∀t,t≤(rrP n k (mtX x)).length→gB b t≤140800) :
  z0c prog 25 [.sl 1 (xrs x)] (.tup [.int .i64 (rrP n k (mtX x)).length,.int .i64 0]):=by
 have cr:=z9s h hG hG2
 have hil:=z9j (rrP n k (mtX x))
 have hpn:=w1G n k (mtX x)
 have h1:=h.n1
 refine z0b x6K (by simp [y8v]) ?_
 unfold y0z
 refine zR ?_
 refine cP cr ?_
 refine zS hil ?_
 exact z0i (z2f (.imm rfl) (.imm rfl))
def y3l (A B:List (List Rat)) (i:Nat):List (List Rat):=(List.range i).map fun a=>A.getD a []++B.getD a []
theorem x5O (A B:List (List Rat)) (i:Nat):y3l A B (i+1)=y3l A B i++[A.getD i []++B.getD i []]:=by
 unfold y3l;rw [List.range_succ,List.map_append];rfl
theorem y3m (A B:List (List Rat)) (i:Nat):(y3l A B i).length=i:=by unfold y3l;rw [List.length_map,List.length_range]
theorem y2y (A B:List (List Rat)) (hA:A.length≤90) (hl:B.length=A.length) (ha:∀l∈A,l.length≤90) (hb:∀l∈B,l.length≤90) :
  z0c prog 48 [.sl 1 (z6S A),.sl 1 (z6S B)] (.sl 1 (z6S (y3l A B A.length))):=by
 have hAl:=z58 A
 have hBl:=z58 B
 rw [hl] at hBl
 refine z0b x0q (by simp [y0Z]) ?_
 unfold z67
 refine zR ?_
 refine z36 5 1 200 rfl rfl ?_
 refine zR ?_
 obtain ⟨RL,hRL⟩:∃RL:Nat→List (List DV),RL=fun i=>(y3l A B i).map nums:=⟨_,rfl⟩
 have hRl:∀i,(RL i).length=i:=fun i=>by rw [hRL];simp only [List.length_map,y3m]
 have hRr:∀i,∀l∈RL i,∀d∈l,d.rf=true:=fun i l hl=>by
  rw [hRL] at hl
  obtain ⟨_,_,rfl⟩:=List.mem_map.1 hl
  exact z1p _
 obtain ⟨TL,hTL⟩:∃TL:Nat→Hp,TL=fun i=>z06 1000 (RL i):=⟨_,rfl⟩
 have hTlt:∀i s,s<1000→lkH (TL i) s=none:=fun i s hs=>by rw [hTL];exact y2Y hs
 have hTset:∀i s c,s<1000→z0N (TL i) s c=(s,c)::TL i:=fun i s c hs=>by rw [hTL];exact y69 hs
 have hTm:∀i o,z0X (purge o) (TL i)=TL i:=fun i o=>by rw [hTL];exact y5n fun l hl=>z0k o (hRr i l hl)
 have hTr:∀i o,o<1000→rmP o (TL i)=TL i:=fun i o ho=>by rw [hTL];exact z9N ho fun l hl=>z0k o (hRr i l hl)
 refine z0x (σ:=Nat) (fun i=>[(0,.sl 1 (z6S A)),(1,.sl 1 (z6S B)),(5,.osl 1 200 0 i),(6,.int .i64 i)]) (fun i=>(200,z3n 3 1000 (RL i))::TL i) (fun i=>i≤A.length) (fun i=>A.length - i) 0 (Nat.zero_le _) ?_ ?_ ?_
 ·simp [z0y,lk]
 ·rw [hTL,hRL];rfl
 ·intro i hi
  try simp only at hi ⊢
  by_cases hlt:i<A.length
  ·have dl:decide ((i:Int)<(A.length:Int))=true:=zT9
   have ei:(i:Int).toNat=i:=Int.toNat_natCast i
   have e1:((i:Int)+1)=((i+1:Nat):Int):=by omega
   have hga:=y9J hlt .undef
   have hgb:=y9J (rows:=B) (show i<B.length by omega) .undef
   refine zS (zA hAl (zA hBl dl)) ?_
   refine wTs ?_
   have hna:=z1H (A.getD i [])
   have hnb:=z1H (B.getD i [])
   have hoa:=y9l (A.getD i [])
   have hob:=y9l (B.getD i [])
   have hra:=z1p (A.getD i [])
   have hrb:=z1p (B.getD i [])
   have hka:(A.getD i []).length≤90:=ha _ (by rw [zO1,zO4 hlt];exact List.getElem_mem _)
   have hkb:(B.getD i []).length≤90:=hb _ (by rw [zO1,zO4 (show i<B.length by omega)];exact List.getElem_mem _)
   refine z0d ?_
   refine z0f ?_
   refine x8o ?_
   rw [z4O]
   dsimp only [DT.pre]
   refine zE (zA hAl (zA hBl (zA ei (zA hga hgb)))) ?_
   have h33a:∀k,k*3 / 3=k:=fun k=>by omega
   have mpa:∀o,(nums (A.getD i [])).map (purge o)=nums (A.getD i []):=fun o=>z0k o hra
   have mpb:∀o,(nums (B.getD i [])).map (purge o)=nums (B.getD i []):=fun o=>z0k o hrb
   have mpO:∀o,o<1000→(z3n 3 1000 (RL i)).map (purge o)=z3n 3 1000 (RL i):=fun o ho=>x4B ho
   have hOl:(z3n 3 1000 (RL i)).length=i:=by rw [y9r,hRl]
   have hl1:∀k,laid [DV.nils] [(0,1,.osl 3 24 0 k)]=some [.osl 3 24 0 k]:=fun _=>rfl
   have hn1:nums (A.getD i [])++nums (B.getD i [])=nums (A.getD i []++B.getD i []):=by unfold nums;rw [List.flatMap_append]
   have p24:∀k,purge 200 (.osl 3 24 0 k)=.osl 3 24 0 k:=fun k=>by simp [purge,DV.has]
   have hRs:RL i++[nums (A.getD i []++B.getD i [])]=RL (i+1):=by rw [hRL];simp only;rw [x5O,List.map_append];rfl
   have hT0:TL i=z06 1000 (RL i):=by rw [hTL]
   have hT1:TL (i+1)=z06 1000 (RL (i+1)):=by rw [hTL]
   have hkk:(A.getD i []).length+(B.getD i []).length=(nums (A.getD i []++B.getD i [])).length / 3:=by rw [z1H,List.length_append];omega
   have hxr:=z1p (A.getD i []++B.getD i [])
   have h1o:∀k,∀d∈[DV.osl 3 24 0 k],d.one=true:=fun k d hd=>by rw [List.mem_singleton.1 hd];rfl
   refine ⟨⟨by omega,by omega⟩,hlt,?_,?_⟩
   ·rw [z4O]
    dsimp only [DT.pre]
    simp (maxSteps:=1000000) (disch:=omega) only [cA,cB,cN,FnD.nb,lk,lkH,Dst.onT,Dst.onX,Dst.slot,z0W,z0N,z0I,z0X,z0u,z0V,unE,cnt,z0j,z0t,z0l,z0o,opE,rmH,z02,z0n,Nat.reduceEqDiff,Nat.reduceLT,Nat.reduceAdd,Nat.reduceMul,Nat.reduceMod,↓reduceIte,reduceCtorEq,Nat.reduceLeDiff,hAl,hBl,ei,hga,hgb,hna,hnb,hTlt,hTset,hTm,mpa,mpb,mpO,hOl,hl1,h33a,List.map_append,p24,cS]
    refine ⟨⟨by omega,by omega,hoa⟩,⟨by omega,by omega⟩,hlt,⟨by omega,by omega,fun h=>h,hob⟩,⟨by omega,by omega,fun h=>h,h1o _⟩,?_⟩
    show W _ _ _ _ _
    rw [hn1,hT0]
    refine y1U rfl rfl hxr (hRr i) (by rw [hRl];omega) hkk ?_
    rw [hRs,←hT1]
    refine zS e1 ?_
    exact ⟨i+1,by omega,by omega,by simp [z0y,lk],rfl⟩
   ·rw [z4O]
    dsimp only [DT.pre]
    simp (maxSteps:=1000000) (disch:=omega) only [cA,cB,cN,FnD.nb,lk,lkH,Dst.onT,Dst.onX,Dst.slot,z0W,z0N,z0I,z0X,z0u,z0V,unE,cnt,z0j,z0t,z0l,z0o,opE,rmH,z02,z0n,Nat.reduceEqDiff,Nat.reduceLT,Nat.reduceAdd,Nat.reduceMul,Nat.reduceMod,↓reduceIte,reduceCtorEq,Nat.reduceLeDiff,hAl,hBl,ei,hga,hgb,hna,hnb,hTlt,hTset,hTm,mpa,mpb,mpO,hOl,hl1,h33a,List.map_append,p24,cS]
    refine ⟨⟨by omega,by omega⟩,?_,?_⟩
    ·rw [z4O]
     dsimp only [DT.pre]
     simp (maxSteps:=1000000) (disch:=omega) only [cA,cB,cN,FnD.nb,lk,lkH,Dst.onT,Dst.onX,Dst.slot,z0W,z0N,z0I,z0X,z0u,z0V,unE,cnt,z0j,z0t,z0l,z0o,opE,rmH,z02,z0n,Nat.reduceEqDiff,Nat.reduceLT,Nat.reduceAdd,Nat.reduceMul,Nat.reduceMod,↓reduceIte,reduceCtorEq,Nat.reduceLeDiff,hAl,hBl,ei,hga,hgb,hna,hnb,hTlt,hTset,hTm,mpa,mpb,mpO,hOl,hl1,h33a,List.map_append,p24,cS]
     refine ⟨⟨by omega,by omega,hoa⟩,hlt,⟨by omega,by omega,fun h=>h,hob⟩,⟨by omega,by omega,fun h=>h,h1o _⟩,?_⟩
     show W _ _ _ _ _
     rw [hn1,hT0]
     refine y1U rfl rfl hxr (hRr i) (by rw [hRl];omega) hkk ?_
     rw [hRs,←hT1]
     refine zS e1 ?_
     exact ⟨i+1,by omega,by omega,by simp [z0y,lk],rfl⟩
    ·rw [z4O]
     dsimp only [DT.pre]
     simp (maxSteps:=1000000) (disch:=omega) only [cA,cB,cN,FnD.nb,lk,lkH,Dst.onT,Dst.onX,Dst.slot,z0W,z0N,z0I,z0X,z0u,z0V,unE,cnt,z0j,z0t,z0l,z0o,opE,rmH,z02,z0n,Nat.reduceEqDiff,Nat.reduceLT,Nat.reduceAdd,Nat.reduceMul,Nat.reduceMod,↓reduceIte,reduceCtorEq,Nat.reduceLeDiff,hAl,hBl,ei,hga,hgb,hna,hnb,hTlt,hTset,hTm,mpa,mpb,mpO,hOl,hl1,h33a,List.map_append,p24,cS]
     refine ⟨hlt,⟨by omega,by omega,hoa⟩,⟨by omega,by omega,fun h=>h,hob⟩,⟨by omega,by omega,fun h=>h,h1o _⟩,?_⟩
     show W _ _ _ _ _
     rw [hn1,hT0]
     refine y1U rfl rfl hxr (hRr i) (by rw [hRl];omega) hkk ?_
     rw [hRs,←hT1]
     refine zS e1 ?_
     exact ⟨i+1,by omega,by omega,by simp [z0y,lk],rfl⟩
  ·have dl:decide ((i:Int)<(A.length:Int))=false:=zF9
   obtain rfl:i=A.length:=by omega
   have hres:(RL A.length).map (.sl 3)=z6S (y3l A B A.length):=by rw [hRL];simp only;rw [List.map_map];rfl
   rw [hTL]
   simp only
   refine w2I (z:=3) (by decide) ?_ (RL A.length) 1000 [] (Nat.le_refl _) (by rw [hRl];omega) (hRr _) ?_ (fun _ h=>absurd h List.not_mem_nil) ?_
   ·exact fun o cs ho=>by simp [z0I,frz,purge,DV.has,show 200≠o by omega]
   ·intro l hl
    rw [hRL] at hl
    obtain ⟨y,_,rfl⟩:=List.mem_map.1 hl
    rw [z1H,Nat.mul_div_cancel _ (by decide)]
   rw [List.nil_append,hres]
   have hrl:=z58 (y3l A B A.length)
   rw [y3m] at hrl
   have hrr:=w1I (y3l A B A.length)
   generalize z6S (y3l A B A.length)=X at *
   have hfx:frz 200 X (.osl 1 200 0 A.length)=.sl 1 X:=by
    simp [frz,hrl]
    rw [List.take_of_length_le (by omega)]
   have fsl:∀o cs z x,frz o cs (.sl z x)=.sl z x:=fun o cs z x=>by simp [frz,purge,DV.has]
   have fin:∀o cs (z:Int),frz o cs (.int .i64 z)=.int .i64 z:=fun o cs z=>by simp [frz,purge,DV.has]
   refine z0H 200 (cells:=X) rfl (List.all_eq_true.2 hrr) ?_
   refine zS (zA hAl (zA hBl (zA dl (zA hfx (zA fsl fin))))) ?_
   refine z0m rfl (fun h=>by cases h) (fun _=>z0s ?_)
   refine zR ?_
   exact z0i (z0h (.imm rfl))
theorem z5T {A B:List (List Rat)} {p:Nat} (hA:A.length≤90) (hl:B.length=A.length) (ha:∀l∈A,l.length≤90) (hb:∀l∈B,l.length≤90)
  (c1:z0c prog 25 [.sl 1 (z6S A)] (.tup [.int .i64 p,.int .i64 0])) (c2:z0c prog 25 [.sl 1 (z6S B)] (.tup [.int .i64 p,.int .i64 0])) (c3:z0c prog 25 [.sl 1 (z6S (y3l A B A.length))] (.tup [.int .i64 p,.int .i64 0])) :
  z0c prog 16 [.sl 1 (z6S A),.sl 1 (z6S B)] (.bool true):=by
 have cb:=y2y A B hA hl ha hb
 have hAl:=z58 A
 have hBl:=z58 B
 rw [hl] at hBl
 have d00:decide ((0:Int)=0)=true:=rfl
 have dtt:∀[h:Decidable True],@decide True h=true:=by intro h;exact decide_eq_true trivial
 refine z0b y0b (by simp [z40]) ?_
 unfold z30
 refine zR ?_
 refine cP c1 ?_
 refine zR ?_
 refine cP c2 ?_
 refine zR ?_
 refine cP cb ?_
 refine zR ?_
 refine cP c3 ?_
 refine zS (zA d00 (zA dtt (zA hAl hBl))) ?_
 exact z0i (z0h (.imm rfl))
theorem z9F {A:List (List Rat)} {n k b:Nat} (hl:A.length=n) (hn:n≤90) (h0:n≠0) (hk:∀l∈A,l.length=k) (hk1:1≤k∧k≤90) (hb:b≤140800) (hM:∀l∈A,∀x∈l,BS x b)
  (hG:∀t,t<(rrP n k (mtX (xOf n k (y3n A)))).length→3*gB b t+2≤140800) (hG2:∀t,t≤(rrP n k (mtX (xOf n k (y3n A)))).length→gB b t≤140800) :
  z0c prog 25 [.sl 1 (z6S A)] (.tup [.int .i64 (rrP n k (mtX (xOf n k (y3n A)))).length,.int .i64 0]):=by
 have hM0:MS n k (y3n A) b:=fun i hi j hj=>by
  have hm:A.getD i []∈A:=y1e (by omega) _
  have hl:=hk _ hm
  exact hM _ hm _ (y1e (by omega) _)
 have hok:mtOK (xOf n k (y3n A)) n k b:=⟨w2i _ _ _,hn,hk1.2,fun e=>absurd e h0,fun i hi=>x8i hi _,fun _=>hk1.1,w5k hM0 hb,fun i hi j hj=>by rw [x5I _ i hi j hj];exact hM0 i hi j hj⟩
 have cr:=y2F hok hG hG2
 have hr:=x7M hk
 rw [hl] at hr
 rw [w6G,←hr] at cr
 exact cr
theorem y7l {Y X G H:List Int} {i i' c c' ka kb:Nat} {T T':List (List Rat)} {R:List Nat} (hi:i<19) (hi':i'<19) (hc:1≤c∧c≤3) (hc':1≤c'∧c'≤3)
  (hs:z9S (y11 (kM i) c) (y11 (kM i') c') ka kb T=true) (hs':z9S (y11 (kM i') c') (y11 (kM i) c) kb ka T'=true) (hR:∀r∈R,r<min Y.length 10) (hR0:R.length≠0) (hR1:R.length≤10)
  (hka:1≤ka∧ka≤40) (hkb:1≤kb∧kb≤40) (hw:(mdW i=7∧mdW i'=7∧(ka≤7∨kb≤7))∨(ka≤3∨kb≤3)) :
  z0c prog 16 [.sl 1 (z6S (R.map (z92 (z1V Y X G H) (kM i) c))),.sl 1 (z6S (R.map (z92 (z1V Y X G H) (kM i') c')))] (.bool true):=by
 have mem:∀{j:Nat},j<19→x5K (kM j)=true:=fun {j} hj=>by
  refine List.all_eq_true.1 x5L _ ?_
  unfold kM
  rw [zO1,zO4 (show j<w33.length from hj)]
  exact List.getElem_mem _
 have hx:=mem hi
 have hx':=mem hi'
 obtain ⟨A,hA⟩:∃A,A=R.map (z92 (z1V Y X G H) (kM i) c):=⟨_,rfl⟩
 obtain ⟨B,hB⟩:∃B,B=R.map (z92 (z1V Y X G H) (kM i') c'):=⟨_,rfl⟩
 have hAl:A.length=R.length:=by rw [hA,List.length_map]
 have hBl:B.length=R.length:=by rw [hB,List.length_map]
 have hAk:∀l∈A,l.length=ka:=fun l hl=>by
  rw [hA] at hl
  obtain ⟨r,hr,rfl⟩:=List.mem_map.1 hl
  exact x2f hx hs (hR r hr)
 have hBk:∀l∈B,l.length=kb:=fun l hl=>by
  rw [hB] at hl
  obtain ⟨r,hr,rfl⟩:=List.mem_map.1 hl
  exact x2f hx' hs' (hR r hr)
 have hw7:∀j,mdW j=7∨mdW j=10:=fun j=>by unfold mdW;split<;>omega
 obtain ⟨b,hb,hb1,hb2⟩:∃b,((b=7∧(ka≤7∨kb≤7))∨(b=10∧(ka≤3∨kb≤3)))∧mdW i≤b∧mdW i'≤b:=by
  have w1:=hw7 i
  have w2:=hw7 i'
  rcases hw with ⟨e1,e2,e3⟩|e3
  ·exact ⟨7,.inl ⟨rfl,e3⟩,by omega,by omega⟩
  ·exact ⟨10,.inr ⟨rfl,e3⟩,by omega,by omega⟩
 have hAb:∀l∈A,∀x∈l,BS x b:=fun l hl x hx=>by
  rw [hA] at hl
  obtain ⟨r,hr,rfl⟩:=List.mem_map.1 hl
  exact (y8l hi hc (hR r hr) x hx).mono hb1
 have hBb:∀l∈B,∀x∈l,BS x b:=fun l hl x hx=>by
  rw [hB] at hl
  obtain ⟨r,hr,rfl⟩:=List.mem_map.1 hl
  exact (y8l hi' hc' (hR r hr) x hx).mono hb2
 have hCm:∀l∈y3l A B R.length,∃a∈A,∃d∈B,l=a++d:=fun l hl=>by
  unfold y3l at hl
  obtain ⟨j,hj,rfl⟩:=List.mem_map.1 hl
  rw [List.mem_range] at hj
  exact ⟨A.getD j [],y1e (by omega) _,B.getD j [],y1e (by omega) _,rfl⟩
 have hCk:∀l∈y3l A B R.length,l.length=ka+kb:=fun l hl=>by
  obtain ⟨a,h1,d,h2,rfl⟩:=hCm l hl
  rw [List.length_append,hAk a h1,hBk d h2]
 have hCb:∀l∈y3l A B R.length,∀x∈l,BS x b:=fun l hl x hx=>by
  obtain ⟨a,h1,d,h2,rfl⟩:=hCm l hl
  rcases List.mem_append.1 hx with hx|hx
  ·exact hAb a h1 x hx
  ·exact hBb d h2 x hx
 have hCl:=y3m A B R.length
 have eA:∀j,j<R.length→A.getD j []=z92 (z1V Y X G H) (kM i) c (R.getD j 0):=fun j hj=>by rw [hA];exact y9f _ hj
 have eB:∀j,j<R.length→B.getD j []=z92 (z1V Y X G H) (kM i') c' (R.getD j 0):=fun j hj=>by rw [hB];exact y9f _ hj
 have eC:∀j,j<R.length→(y3l A B R.length).getD j []=A.getD j []++B.getD j []:=fun j hj=>by
  unfold y3l
  rw [zO1,List.getElem?_map,List.getElem?_range (by omega)];rfl
 obtain ⟨r1,r2⟩:=x5z (Y:=Y) (X:=X) (G:=G) (H:=H) (A:=mtX (xOf R.length ka (y3n A))) (B:=mtX (xOf R.length kb (y3n B))) (C:=mtX (xOf R.length (ka+kb) (y3n (y3l A B R.length)))) hx hx' hs hs' hR
  (fun j hj l hl=>by rw [x5I _ j (by omega) l hl];unfold y3n z7X;rw [eA j hj])
  (fun j hj l hl=>by rw [x5I _ j (by omega) l hl];unfold y3n z7X;rw [eB j hj])
  (fun j hj l hl=>by
   have h1:=hAk (A.getD j []) (y1e (by omega) _)
   rw [x5I _ j (by omega) l (by omega)];unfold y3n z7X
   rw [eC j hj,←eA j hj,x98 (by omega)])
  (fun j hj l hl=>by
   have h1:=hAk (A.getD j []) (y1e (by omega) _)
   rw [x5I _ j (by omega) (ka+l) (by omega)];unfold y3n z7X
   rw [eC j hj,←eB j hj,x6B h1])
 have q1:=y9F R.length ka (mtX (xOf R.length ka (y3n A)))
 have q2:=y9F R.length kb (mtX (xOf R.length kb (y3n B)))
 have hGG:∀p,p≤ka→p≤kb→(∀t,t<p→3*gB b t+2≤140800)∧∀t,t≤p→gB b t≤140800:=fun p h1 h2=>by
  rcases hb with ⟨rfl,e⟩|⟨rfl,e⟩
  ·exact ⟨fun t ht=>w6S.1 t (by omega),fun t ht=>w6S.2 t (by omega)⟩
  ·exact ⟨fun t ht=>w3f.1 t (by omega),fun t ht=>w3f.2 t (by omega)⟩
 obtain ⟨g1,g2⟩:=hGG (rrP R.length ka (mtX (xOf R.length ka (y3n A)))).length q1 (by rw [←r1];exact q2)
 have hb8:b≤140800:=by omega
 have k1:=z9F hAl (by omega) hR0 hAk (by omega) hb8 hAb g1 g2
 have k2:=z9F hBl (by omega) hR0 hBk (by omega) hb8 hBb (by rw [r1];exact g1) (by rw [r1];exact g2)
 have k3:=z9F hCl (by omega) hR0 hCk (by omega) hb8 hCb (by rw [r2];exact g1) (by rw [r2];exact g2)
 rw [r1] at k2
 rw [r2] at k3
 rw [←hA,←hB]
 refine z5T (by omega) (by omega) (fun l hl=>by rw [hAk l hl];omega) (fun l hl=>by rw [hBk l hl];omega) k1 k2 ?_
 rw [hAl]
 exact k3
end Go.Proofs.YtlcagndeidjobaaGreatDoor
namespace Go.Proofs.YtlcagndeidjobaaGreatDoor
open Tryz
open Go Go.Dat Go.Proofs Go.RowKit Nat32
def w2u:List Bs:=[[121,32,126,32,103,32,43,32,103,58,104],[121,32,126,32,103,32,47,32,104],[121,32,126,32,103,32,42,32,104],[121,32,126,32,104,32,42,32,103],[121,32,126,32,103,58,104,32,43,32,120],[121,32,126,32,48,32,43,32,103,58,104,32,43,32,120],[121,32,126,32,120,58,103,32,43,32,120],[121,32,126,32,120,58,103],[121,32,126,32,103,32,43,32,104],[121,32,126,32,48,32,43,32,103,32,43,32,104],[121,32,126,32,103,32,42,32,104],[121,32,126,32,103,58,104]]
def frA (j:Nat):Nat:=(w5Q.getD j (0,0)).1
def frB (j:Nat):Nat:=(w5Q.getD j (0,0)).2
theorem x6A {j:Nat} (hj:j<6):∃s t:Bs,((z0K w2u).drop (j*2)).take 2=[.str s,.str t]∧z0c prog 9 [.str s] (.agg (z2w (kM (frA j))))∧z0c prog 9 [.str t] (.agg (z2w (kM (frB j)))):=by
 obtain rfl|rfl|rfl|rfl|rfl|rfl:j=0∨j=1∨j=2∨j=3∨j=4∨j=5:=by omega
 ·exact ⟨_,_,rfl,w34,w5Y⟩
 ·exact ⟨_,_,rfl,w4b,w35⟩
 ·exact ⟨_,_,rfl,w36,w37⟩
 ·exact ⟨_,_,rfl,w50,w38⟩
 ·exact ⟨_,_,rfl,w39,w4a⟩
 ·exact ⟨_,_,rfl,w4b,w5Z⟩
def w6R (j:Nat):Bool:=decide (frA j<19) && decide (frB j<19) && (z2A (kM (frA j))).all (fun s=>(z2A (kM (frB j))).contains s) && (z2A (kM (frB j))).all (fun s=>(z2A (kM (frA j))).contains s) && (z2A (kM (frA j))).all (fun s=>decide (s=[121]) || decide (s=[120]) || decide (s=[103]) || decide (s=[104])) &&
 decide (mdW (frA j)=7) && decide (mdW (frB j)=7) && decide (1≤(x0f.getD j (0,0,[])).1) && decide ((x0f.getD j (0,0,[])).1≤40) && decide (1≤(x0f.getD j (0,0,[])).2.1) && decide ((x0f.getD j (0,0,[])).2.1≤40) && (decide ((x0f.getD j (0,0,[])).1≤7) || decide ((x0f.getD j (0,0,[])).2.1≤7))
theorem x6y:(List.range 6).all w6R=true:=by decide +kernel
theorem y4t {j:Nat} (hj:j<6):frA j<19∧frB j<19∧(∀s,s∈z2A (kM (frA j))↔s∈z2A (kM (frB j)))∧(∀s∈z2A (kM (frA j)),s=[121]∨s=[120]∨s=[103]∨s=[104])∧mdW (frA j)=7∧mdW (frB j)=7 ∧
  (1≤(x0f.getD j (0,0,[])).1∧(x0f.getD j (0,0,[])).1≤40)∧(1≤(x0f.getD j (0,0,[])).2.1∧(x0f.getD j (0,0,[])).2.1≤40)∧((x0f.getD j (0,0,[])).1≤7∨(x0f.getD j (0,0,[])).2.1≤7):=by
 have h:=List.all_eq_true.1 x6y j (List.mem_range.2 hj)
 unfold w6R at h
 simp only [Bool.and_eq_true,Bool.or_eq_true,decide_eq_true_eq,List.all_eq_true,List.contains_iff_mem] at h
 obtain ⟨⟨⟨⟨⟨⟨⟨⟨⟨⟨⟨h1,h2⟩,h3⟩,h4⟩,h5⟩,h6⟩,h7⟩,h8⟩,h9⟩,h10⟩,h11⟩,h12⟩:=h
 exact ⟨h1,h2,fun s=>⟨h3 s,h4 s⟩,fun s hs=>by have:=h5 s hs;rcases this with ((h|h)|h)|h<;>simp [h],h6,h7,⟨h8,h9⟩,⟨h10,h11⟩,h12⟩
theorem x3d {Y X G H:List Int} {j c:Nat} {R:List Nat} (hj:j<6) (hc:1≤c∧c≤3) (hR:∀r∈R,r<min Y.length 10) (hR0:R.length≠0) (hR1:R.length≤10) :
  z0c prog 16 [.sl 1 (z6S (R.map (z92 (z1V Y X G H) (kM (frA j)) c))),.sl 1 (z6S (R.map (z92 (z1V Y X G H) (kM (frB j)) c)))] (.bool true):=by
 obtain ⟨h1,h2,_,_,h6,h7,h8,h9,h10⟩:=y4t hj
 have m3:c∈[1,2,3]:=by simp only [List.mem_cons,List.not_mem_nil,or_false];omega
 have h:=List.all_eq_true.1 (List.all_eq_true.1 x95 j (List.mem_range.2 hj)) c m3
 simp only [Bool.and_eq_true] at h
 exact y7l h1 h2 hc hc h.1 h.2 hR hR0 hR1 h8 h9 (.inl ⟨h6,h7,h10⟩)
theorem y4N {Y X G H:List Int} {n:Nat} (hn:n=min Y.length 10) (h:z00 (z1W (z1V Y X G H) [[121],[103],[104]]) n=[]) :
  z0c prog 19 [.agg [.int .i64 n,.sl 4 (kxs (z1V Y X G H))]] (.sl 1 (ints [])):=by
 have c1:=z4z n (z1V Y X G H) [[121],[103]] (y7t hn) (y5I hn) (by decide) (fun s hs=>by
  rw [z9W]
  simp only [List.mem_cons,List.not_mem_nil,or_false] at hs
  rcases hs with rfl|rfl<;>decide)
 have c2:=z4z n (z1V Y X G H) [[121],[103],[104]] (y7t hn) (y5I hn) (by decide) (fun s hs=>by
  rw [z9W]
  simp only [List.mem_cons,List.not_mem_nil,or_false] at hs
  rcases hs with rfl|rfl|rfl<;>decide)
 rw [h] at c2
 have hca:∀T,(DV.agg [.int .i64 n,.sl 4 T]).cells? = some [.int .i64 n,.sl 4 T]:=fun _=>rfl
 have hl2:laid [DV.str [],.str []] [(0,1,.str [121]),(1,1,.str [103])]=some (z0K [[121],[103]]):=rfl
 have hl3:laid [DV.str [],.str [],.str []] [(0,1,.str [121]),(1,1,.str [103]),(2,1,.str [104])]=some (z0K [[121],[103],[104]]):=rfl
 have h0:(ints []).length=0:=rfl
 have d0:decide (((0:Nat):Int)=0)=true:=rfl
 have dtt:∀[h:Decidable True],@decide True h=true:=by intro h;exact decide_eq_true trivial
 generalize kxs (z1V Y X G H)=T at *
 generalize z00 (z1W (z1V Y X G H) [[121],[103]]) n=R1 at *
 have hs2:=z1R [[121],[103]]
 have hs3:=z1R [[121],[103],[104]]
 generalize z0K [[121],[103]]=s2 at *
 generalize z0K [[121],[103],[104]]=s3 at *
 generalize hI:ints []=I at *
 refine z0b x3R (by simp [y4e]) ?_
 unfold z8t
 refine zS (zA hca (zA hl2 (zA @cS @List.drop_zero.{0}))) ?_
 refine cP c1 ?_
 refine zS (zA hca (zA hl3 (zA @cS @List.drop_zero.{0}))) ?_
 refine cP c2 ?_
 refine zS (zA h0 (zA d0 dtt)) ?_
 refine wT ?_
 refine zR ?_
 exact z0i (z0h (.imm rfl))
theorem x0J (Y X G H:List Int) (wh cod:Int) (hY:Y.length≤9223372036854775807) (hX:X.length≤9223372036854775807) (hG:G.length≤9223372036854775807) (hH:H.length≤9223372036854775807)
  (bY:∀z∈Y,-9223372036854775808≤z∧z≤9223372036854775807) (bX:∀z∈X,-9223372036854775808≤z∧z≤9223372036854775807) (bG:∀z∈G,-9223372036854775808≤z∧z≤9223372036854775807) (bH:∀z∈H,-9223372036854775808≤z∧z≤9223372036854775807) :
  z0c prog 5 [.agg [.sl 1 (Y.map (.int .i64)),.sl 1 (X.map (.int .i64)),.sl 1 (G.map (.int .i64)),.sl 1 (H.map (.int .i64))],.int .i64 wh,.int .i64 cod] (.bool true):=by
 have hA:=y0c
 have cT:=y2x Y X G H hY hX hG hH bY bX bG bH
 have cm:=y9g wh 6 (by decide) (by decide)
 have ca:=y9g cod 3 (by decide) (by decide)
 obtain ⟨j,hj⟩:∃j:Nat,wh % ((6:Nat):Int)=j:=⟨(wh % ((6:Nat):Int)).toNat,by omega⟩
 obtain ⟨c,hc⟩:∃c:Nat,1+cod % ((3:Nat):Int)=c:=⟨(1+cod % ((3:Nat):Int)).toNat,by omega⟩
 have hj6:j<6:=by omega
 have hc3:1≤c∧c≤3:=by omega
 have bc:cod % ((3:Nat):Int)=((c - 1:Nat):Int):=by omega
 rw [hj] at cm
 rw [bc] at ca
 have ec:(1:Int)+((c - 1:Nat):Int)=(c:Int):=by omega
 obtain ⟨s,t,hpr,cm1,cm2⟩:=x6A hj6
 obtain ⟨f1,f2,f3,f4,_⟩:=y4t hj6
 obtain ⟨n,hn⟩:∃n,n=min Y.length 10:=⟨_,rfl⟩
 have hft:(z0K w2u).length=12:=rfl
 have hlf:laid [DV.str [],.str [],.str [],.str [],.str [],.str [],.str [],.str [],.str [],.str [],.str [],.str []] [(0,2,.agg [.str [121,32,126,32,103,32,43,32,103,58,104],.str [121,32,126,32,103,32,47,32,104]]),(2,2,.agg [.str [121,32,126,32,103,32,42,32,104],.str [121,32,126,32,104,32,42,32,103]]),(4,2,.agg [.str [121,32,126,32,103,58,104,32,43,32,120],.str [121,32,126,32,48,32,43,32,103,58,104,32,43,32,120]]),(6,2,.agg [.str [121,32,126,32,120,58,103,32,43,32,120],.str [121,32,126,32,120,58,103]]),(8,2,.agg [.str [121,32,126,32,103,32,43,32,104],.str [121,32,126,32,48,32,43,32,103,32,43,32,104]]),(10,2,.agg [.str [121,32,126,32,103,32,42,32,104],.str [121,32,126,32,103,58,104]])]=some (z0K w2u):=rfl
 have hbd:∀a b,laid [DV.str [],.str []] [(0,1,.str a),(1,1,.str b)]=some [.str a,.str b]:=fun _ _=>rfl
 have hfr:=z1R w2u
 have h1m:(DV.agg (z2w (kM (frA j)))).cells? = some (z2w (kM (frA j))):=rfl
 have h2m:(DV.agg (z2w (kM (frB j)))).cells? = some (z2w (kM (frB j))):=rfl
 have h1r:∀d∈z2w (kM (frA j)),d.rf=true:=List.all_eq_true.1 rfl
 have h2r:∀d∈z2w (kM (frB j)),d.rf=true:=List.all_eq_true.1 rfl
 have hDX1:=w4d (X:=X) (G:=G) (H:=H) hn f1
 have hDX2:=w4d (X:=X) (G:=G) (H:=H) hn f2
 have hK1:=w4c (X:=X) (G:=G) (H:=H) hn f1 (cod:=c) (by omega)
 have hK2:=w4c (X:=X) (G:=G) (H:=H) hn f2 (cod:=c) (by omega)
 have hw1:=w4f (Y:=Y) (X:=X) (G:=G) (H:=H) (cod:=c) f1 (by omega)
 have hw2:=w4f (Y:=Y) (X:=X) (G:=G) (H:=H) (cod:=c) f2 (by omega)
 have c1:=z4Y hK1 hDX1 hw1
 have c2:=z4Y hK2 hDX2 hw2
 have hRR:z2b n (z1V Y X G H) (kM (frB j))=z2b n (z1V Y X G H) (kM (frA j)):=y7a fun s=>(f3 s).symm
 rw [x9Q] at c1 c2
 rw [hRR] at c2
 have hRn:(z2b n (z1V Y X G H) (kM (frA j))).length≤n:=z79 _ _
 have hRm:∀r∈z2b n (z1V Y X G H) (kM (frA j)),r<n:=fun r hr=>(x5a hr).1
 have hRc:(DV.agg [.sl 1 (Y.map (.int .i64)),.sl 1 (X.map (.int .i64)),.sl 1 (G.map (.int .i64)),.sl 1 (H.map (.int .i64))]).cells? = some [.sl 1 (Y.map (.int .i64)),.sl 1 (X.map (.int .i64)),.sl 1 (G.map (.int .i64)),.sl 1 (H.map (.int .i64))]:=rfl
 have hRr:([.sl 1 (Y.map (.int .i64)),.sl 1 (X.map (.int .i64)),.sl 1 (G.map (.int .i64)),.sl 1 (H.map (.int .i64))]:List DV).all DV.rf=true:=rfl
 have hR4:([.sl 1 (Y.map (.int .i64)),.sl 1 (X.map (.int .i64)),.sl 1 (G.map (.int .i64)),.sl 1 (H.map (.int .i64))]:List DV).length=4:=rfl
 have hTc:∀T,(DV.agg [.int .i64 n,.sl 4 T]).cells? = some [.int .i64 n,.sl 4 T]:=fun _=>rfl
 have hz2:∀(a b:DV) (C:List DV),List.take 0 [a,b]++C++List.drop 2 [a,b]=C:=fun _ _ _=>by simp
 have hs4:∀(a b c d:DV) (C:List DV),List.take 0 [a,b,c,d]++C++List.drop 4 [a,b,c,d]=C:=fun _ _ _ _ _=>by simp
 have h2c:∀a b:Bs,(DV.agg [.str a,.str b]).cells? = some [.str a,.str b]:=fun _ _=>rfl
 have d10:decide (¬(10:Int)=0)=true:=rfl
 have d00:decide (¬(0:Int)=0)=false:=rfl
 have d11:decide ((10:Int)=10)=true:=rfl
 have dtt:∀[h:Decidable True],@decide True h=true:=by intro h;exact decide_eq_true trivial
 have dnt:∀[h:Decidable (¬True)],@decide (¬True) h=false:=by intro h;exact decide_eq_false (fun g=>g trivial)
 have ej:(j:Int).toNat=j:=Int.toNat_natCast j
 have h122:12 / 2=6:=rfl
 rw [←hn] at cT
 by_cases hR0:(z2b n (z1V Y X G H) (kM (frA j))).length=0
 ·rw [if_pos hR0] at c1 c2
  have cr:=y4N (Y:=Y) (X:=X) (G:=G) (H:=H) hn (x49 hn f4 (List.eq_nil_of_length_eq_zero hR0))
  have h00:(ints []).length=0:=rfl
  generalize hI:ints []=I at *
  have hLc:(DV.agg [.nils,.nils,.nils,.nils]).cells? = some [.nils,.nils,.nils,.nils]:=rfl
  generalize ([.sl 1 (Y.map (.int .i64)),.sl 1 (X.map (.int .i64)),.sl 1 (G.map (.int .i64)),.sl 1 (H.map (.int .i64))]:List DV)=RR at *
  have hRt:RR.take 4=RR:=List.take_of_length_le (by omega)
  generalize kxs (z1V Y X G H)=T at *
  generalize z2w (kM (frA j))=M1 at *
  generalize z2w (kM (frB j))=M2 at *
  generalize z0K w2u=F at *
  have hrf1:[DV.agg [.int .i64 n,.sl 4 T],.agg M1,.int .i64 (c:Int)].all DV.rf=true:=by
   simp only [List.all_cons,DV.rf_agg,List.all_eq_true.2 h1r];rfl
  have hrf2:[DV.agg [.int .i64 n,.sl 4 T],.agg M2,.int .i64 (c:Int)].all DV.rf=true:=by
   simp only [List.all_cons,DV.rf_agg,List.all_eq_true.2 h2r];rfl
  refine z0b z1B (by simp [z08]) ?_
  unfold z03
  refine zS (zA hRc (zA hR4 (zA hRt (zA @List.drop_zero.{0} @cS)))) ?_
  refine z0L cT (by simp only [List.all_cons,DV.rf_agg,hRr];rfl) ?_
  refine zR ?_
  refine cP ca ?_
  refine zS (zA hTc (zA ec (zA hz2 (zA hbd (zA hlf (zA hft (zA h122 @cS))))))) ?_
  refine cP cm ?_
  refine zS (zA hft (zA h122 (zA ej (zA hpr (zA h2c (zA hz2 (zA @cS @List.drop_zero.{0}))))))) ?_
  refine cP cm1 ?_
  refine zR ?_
  refine z0L c1 hrf1 ?_
  refine zS (zA hLc (zA hs4 (zA h2c (zA @cS @List.drop_zero.{0})))) ?_
  refine cP cm2 ?_
  refine zR ?_
  refine z0L c2 hrf2 ?_
  refine zS (zA hLc (zA hs4 (zA d10 (zA @cS @List.drop_zero.{0})))) ?_
  refine wT ?_
  refine zR ?_
  refine cP hA ?_
  refine zS (zA d11 (zA dtt @List.drop_zero.{0})) ?_
  refine cP cr ?_
  refine zS (zA h00 dtt) ?_
  exact z0i (z0h (.imm rfl))
 ·rw [if_neg hR0] at c1 c2
  have cs:=x3d (Y:=Y) (X:=X) (G:=G) (H:=H) hj6 hc3 (R:=z2b n (z1V Y X G H) (kM (frA j))) (by rw [←hn];exact hRm) hR0 (by omega)
  have hDc:∀N x y R,(DV.agg (dsD N x y R)).cells? = some (dsD N x y R):=fun _ _ _ _=>rfl
  have hD4:∀N x y R,(dsD N x y R).length=4:=fun _ _ _ _=>rfl
  have hd1:∀N x y R z,(dsD N x y R).getD 1 z=.sl 1 (z6S x):=fun _ _ _ _ _=>rfl
  generalize ([.sl 1 (Y.map (.int .i64)),.sl 1 (X.map (.int .i64)),.sl 1 (G.map (.int .i64)),.sl 1 (H.map (.int .i64))]:List DV)=RR at *
  have hRt:RR.take 4=RR:=List.take_of_length_le (by omega)
  generalize kxs (z1V Y X G H)=T at *
  generalize z2w (kM (frA j))=M1 at *
  generalize z2w (kM (frB j))=M2 at *
  generalize z0K w2u=F at *
  have hrf1:[DV.agg [.int .i64 n,.sl 4 T],.agg M1,.int .i64 (c:Int)].all DV.rf=true:=by
   simp only [List.all_cons,DV.rf_agg,List.all_eq_true.2 h1r];rfl
  have hrf2:[DV.agg [.int .i64 n,.sl 4 T],.agg M2,.int .i64 (c:Int)].all DV.rf=true:=by
   simp only [List.all_cons,DV.rf_agg,List.all_eq_true.2 h2r];rfl
  refine z0b z1B (by simp [z08]) ?_
  unfold z03
  refine zS (zA hRc (zA hR4 (zA hRt (zA @List.drop_zero.{0} @cS)))) ?_
  refine z0L cT (by simp only [List.all_cons,DV.rf_agg,hRr];rfl) ?_
  refine zR ?_
  refine cP ca ?_
  refine zS (zA hTc (zA ec (zA hz2 (zA hbd (zA hlf (zA hft (zA h122 @cS))))))) ?_
  refine cP cm ?_
  refine zS (zA hft (zA h122 (zA ej (zA hpr (zA h2c (zA hz2 (zA @cS @List.drop_zero.{0}))))))) ?_
  refine cP cm1 ?_
  refine zR ?_
  refine z0L c1 hrf1 ?_
  refine zS (zA hDc (zA hD4 (zA hs4 (zA h2c (zA @cS @List.drop_zero.{0}))))) ?_
  refine cP cm2 ?_
  refine zR ?_
  refine z0L c2 hrf2 ?_
  refine zS (zA hDc (zA hD4 (zA hs4 (zA d00 (zA dnt (zA @cS @List.drop_zero.{0})))))) ?_
  refine wFs ?_
  refine zR ?_
  refine cP hA ?_
  refine zS (zA hD4 hd1) ?_
  refine cP cs ?_
  refine zR ?_
  exact z0i (z0h (.imm rfl))
theorem w3W {f:Nat} {ds:List DV} {vs:Array Value} {w:World} (hc:z0c prog f ds (.bool true)) (hT:Tab prog w) (hs:vs.size=ds.length) (hv:∀(k:Nat) d v,ds[k]? = some d→vs[k]? = some v→VI w (fun _=>False) d v) :
  Calls prog f vs w fun e w'=>e=.returned (.bool true)∧Below w.heap.size w w':=by
 refine (hc (fun _=>False) w vs hT (fun b h=>h.elim) hs hv).mono ?_
 rintro e w' ⟨v,rfl,hvi,hx⟩
 refine ⟨?_,hx.os,hx.tape,hx.output,hx.size,fun k hk=>hx.block k hk id⟩
 cases hvi;rfl
theorem x0N {w:World} (h:w.ShapedOpen prog):∀g,prog.globalNamed y2E=some g→g<w.heap.size∧∃m,w.cell? ⟨g,0,none⟩=some (.int .i64 m):=by
 intro g hg
 rw [show prog.globalNamed y2E=none by kernel_rfl] at hg
 cases hg
theorem z6H {H:Type} {enc:TypeId × Value→H} {a:Assume} {C:Checked} {os:Os} {f:FuncId} {fn:Func} {s:ChangeSpec} {conds:List PathCond} {apart fresh handsOn again:Bool} {X:World→Array Value→Prop}
  (hX:∀(w w':World) (args:Array Value),w.heap=w'.heap→X w args→X w' args)
  (own:ownKnob C.prog.godebug=none) (started:os.Started) (noInit:C.prog.inits.idxOf? f=none) (hfn:C.prog.funcs[f]? = some fn)
  (witness:∃(w:World) (tape:Tape) (i:Input),w.os=os∧(w.forCall tape i).Shaped C.prog∧i.vars=[]∧Input.okWide C.prog (w.forCall tape i) .any w.heap.size f i ∧
   ((s.pre enc C.prog fn conds apart (w.forCall tape i).memory i.args∧X (w.forCall tape i).memory i.args)∧sizedMet enc C.prog fn (OpenSpec.ofChange s) apart (w.forCall tape i).memory i.args)∧a.holds C.prog (lone (Frame.enter C.prog f i.args .normal) [] (w.forCall tape i)))
  (contract:∀(W:World) (base:Nat) (args:Array Value) (ds gs:List (DataW H)) (before:List MemPlace),
   (∀(j:Nat) t v,fn.params[j]? = some t→args[j]? = some v→Value.okWide C.prog W .any base t v) →
   DataW.Whole enc C.prog fn.params.toList s.vars apart W args.toList ds gs before→X W args→W.ShapedOpen C.prog →
   Calls C.prog f args W fun e W'=>∃v,e=.returned v∧s.post enc C.prog fn apart fresh handsOn again W args v W') :
  ReturnsInHanded a C os f .any (fun w args=>(s.pre enc C.prog fn conds apart w args∧X w args)∧sizedMet enc C.prog fn (OpenSpec.ofChange s) apart w args) (s.post enc C.prog fn apart fresh handsOn again):=by
 refine returnsInHanded_of_calls own started noInit witness ?_
 intro w tape i _ hsh _ hok hpre _
 obtain ⟨_,_,_,fn',hfn',_,_,_,_,hval⟩:=hok
 obtain rfl:fn'=fn:=Option.some.inj (hfn'.symm.trans hfn)
 obtain ⟨⟨⟨ds,gs,before,hw,_⟩,hx⟩,_⟩:=hpre
 refine (contract (w.forCall tape i) w.heap.size i.args ds gs before hval (DataW.Whole.of_heap (w':=w.forCall tape i) (by rfl) hw) (hX _ _ _ (by rfl) hx) hsh).mono ?_
 rintro e W' ⟨v,rfl,hp⟩
 exact ChangeSpec.post_blind hp
theorem w31 {α:Type} {t:Ty} {f:α→List DV} {p:α→Prop} (hf:∀z,IsD t z→∃a,p a∧z=f a):∀{zs:List (List DV)},(∀z∈zs,IsD t z)→∃l:List α,l.length=zs.length∧zs.flatten=l.flatMap f∧∀a∈l,p a
 | [],_=>⟨[],rfl,rfl,fun a h=>by cases h⟩
 | z::zs,h=>by
  obtain ⟨l,h1,h2,h3⟩:=w31 hf (zs:=zs) fun y hy=>h y (List.mem_cons_of_mem _ hy)
  obtain ⟨a,g1,g2⟩:=hf z (h z List.mem_cons_self)
  refine ⟨a::l,by simp [h1],by rw [List.flatten_cons,h2,g2];rfl,fun x hx=>?_⟩
  rcases List.mem_cons.1 hx with rfl|hx
  ·exact g1
  ·exact h3 x hx
theorem y83 {ds:List DV} (h:IsD (.sl (.int .i64)) ds):∃l:List Int,l.length≤9223372036854775807∧(∀z∈l,-9223372036854775808≤z∧z≤9223372036854775807)∧ds=[.sl 1 (l.map (.int .i64))]:=by
 obtain ⟨zs,h1,h2,rfl⟩:=h
 obtain ⟨l,g1,g2,g3⟩:=w31 (f:=fun z:Int=>[DV.int .i64 z]) (p:=fun z=>-9223372036854775808≤z∧z≤9223372036854775807) (t:=.int .i64) (fun z hz=>by
  obtain ⟨n,hw,rfl⟩:=hz
  refine ⟨n,?_,rfl⟩
  unfold Lit.wf at hw
  simp only [Bool.and_eq_true,decide_eq_true_eq] at hw
  exact hw) h1
 refine ⟨l,by omega,g3,?_⟩
 rw [g2]
 show [DV.sl 1 _]=_
 congr 2
 clear g1 g2 g3
 induction l with
 | nil=>rfl
 | cons a l ih=>rw [List.flatMap_cons,List.map_cons,ih];rfl
def x89 (l:List Int):Prop:=l.length≤9223372036854775807∧∀z∈l,-9223372036854775808≤z∧z≤9223372036854775807
abbrev isT:Ty:=.sl (.int .i64)
abbrev w6p:Ty:=.pair isT (.pair isT (.pair isT (.pair isT .unit)))
theorem w4Y {ds:List DV} (h:IsD w6p ds):∃Y X G H:List Int,x89 Y∧x89 X∧x89 G∧x89 H∧ds=[.sl 1 (Y.map (.int .i64)),.sl 1 (X.map (.int .i64)),.sl 1 (G.map (.int .i64)),.sl 1 (H.map (.int .i64))]:=by
 obtain ⟨a,r1,ha,⟨b,r2,hb,⟨c,r3,hc,⟨d,r4,hd,hu,rfl⟩,rfl⟩,rfl⟩,rfl⟩:=h
 obtain ⟨Y,y1,y2,rfl⟩:=y83 ha
 obtain ⟨X,x1,x2,rfl⟩:=y83 hb
 obtain ⟨G,g1,g2,rfl⟩:=y83 hc
 obtain ⟨H,h1,h2,rfl⟩:=y83 hd
 rw [show r4=[] from hu]
 exact ⟨Y,X,G,H,⟨y1,y2⟩,⟨x1,x2⟩,⟨g1,g2⟩,⟨h1,h2⟩,rfl⟩
theorem x0I {Y X G H:List Int} (wh cod:Int) (hY:x89 Y) (hX:x89 X) (hG:x89 G) (hH:x89 H):z0c prog 5 [.agg [.sl 1 (Y.map (.int .i64)),.sl 1 (X.map (.int .i64)),.sl 1 (G.map (.int .i64)),.sl 1 (H.map (.int .i64))],.int .i64 wh,.int .i64 cod] (.bool true) :=
 x0J Y X G H wh cod hY.1 hX.1 hG.1 hH.1 hY.2 hX.2 hG.2 hH.2
end Go.Proofs.YtlcagndeidjobaaGreatDoor
