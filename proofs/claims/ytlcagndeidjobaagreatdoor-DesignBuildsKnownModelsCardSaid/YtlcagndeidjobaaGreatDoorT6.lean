/- Lemmas of the walk; no conditions beyond those that each states. -/
import Derived.OpenShut
import Derived.Below
import Derived.Lib.SmallJoins
import Derived.Lib.Bytealg
import Derived.Lib.IndexAny
import Derived.Lib.TrimByte
import Derived.Lib.Strings
import Derived.HandedShaped
import Derived.Handed
import Derived.Test.YtlcagndeidjobaaGreatDoorD3
import Derived.Test.YtlcagndeidjobaaGreatDoorT5
import Derived.Test.YtlcagndeidjobaaGreatDoorN2
import Derived.Test.YtlcagndeidjobaaGreatDoorT4
import Derived.Test.YtlcagndeidjobaaGreatDoorT3
import Derived.Test.YtlcagndeidjobaaGreatDoorT2
import Derived.Test.YtlcagndeidjobaaGreatDoorN1
import Derived.Test.YtlcagndeidjobaaGreatDoorD4
import Derived.Test.YtlcagndeidjobaaGreatDoorT1
import Derived.Test.YtlcagndeidjobaaGreatDoorC1
import Derived.Test.YtlcagndeidjobaaGreatDoorC2
set_option linter.unusedSimpArgs false
set_option linter.unusedVariables false
set_option linter.unnecessarySimpa false
set_option maxHeartbeats 4000000
namespace Go.Proofs.YtlcagndeidjobaaGreatDoor
open Tryz
open Go Go.Dat Go.Proofs Go.RowKit Go.Lib Nat32
theorem y5f {n:Nat} {S:List Kx} {m:Mdl} {cod:Int} (hok:okT S) (htu:x2C n S=true) (hmv:z0c prog 93 [.agg (z0U m)] (.bool true)) (hc:cod<1∨4<cod) :
  z0c prog 13 [.agg [.int .i64 n,.sl 4 (kxs S)],.agg (z0U m),.int .i64 cod] (.tup [.agg [.nils,.nils,.nils,.nils],.int .i64 1]):=by
 have c1:=y5N hok htu hmv hc
 have hca:(DV.agg [.int .i64 n,.sl 4 (kxs S)]).cells? = some [.int .i64 n,.sl 4 (kxs S)]:=rfl
 have hcm:(DV.agg (z0U m)).cells? = some (z0U m):=rfl
 have hm3:(z0U m).length=3:=rfl
 have hmt:(z0U m).take 3=z0U m:=rfl
 have hmr:∀d∈z0U m,d.rf=true:=List.all_eq_true.1 rfl
 have hl0:laid [DV.nils,.nils,.nils,.nils] []=some [.nils,.nils,.nils,.nils]:=rfl
 have hs4:∀(a b c d:DV) (C:List DV),List.take 0 [a,b,c,d]++C++List.drop 4 [a,b,c,d]=C:=fun _ _ _ _ _=>by simp
 refine z0b y0E (by simp [z1i]) ?_
 unfold z3c
 generalize hMM:z0U m=MM at *
 refine zS (zA hca (zA hcm (zA hm3 (zA hmt (zA @List.drop_zero.{0} @cS))))) ?_
 refine z0C c1 (by simp only [List.all_cons,DV.rf_agg,List.all_eq_true.2 hmr];rfl) ?_
 refine zR ?_
 refine wT ?_
 refine zS (zA hl0 (zA hs4 @cS)) ?_
 exact z0j (z6M rfl rfl rfl (.imm rfl) (.imm rfl))
theorem y0b {n:Nat} {S:List Kx} {m:Mdl} {cod:Nat} (h:DKt n S m cod) (hx:DX n S m) (he:DE n S m) (hw:z72 S m cod m.tm.length≤12) :
  z0c prog 13 [.agg [.int .i64 n,.sl 4 (kxs S)],.agg (z0U m),.int .i64 cod] (if (z1z n S m).length=0 then .tup [.agg [.nils,.nils,.nils,.nils],.int .i64 10] else .tup [x5f n S m cod,.int .i64 0]):=by
 have c1:=y0r h hx he
 have c2:=z9M n S (z1U m) h.ok he.tu (by have:=hx.vl;omega) h.vs
 have c3:=he.wa
 have c4:=z1X n S m.rs h.ok he.tu
 have hca:(DV.agg [.int .i64 n,.sl 4 (kxs S)]).cells? = some [.int .i64 n,.sl 4 (kxs S)]:=rfl
 have hcm:(DV.agg (z0U m)).cells? = some (z0U m):=rfl
 have hm3:(z0U m).length=3:=rfl
 have hmt:(z0U m).take 3=z0U m:=rfl
 have hm0:∀x,(z0U m).getD 0 x=.str m.rs:=fun _=>rfl
 have hm1:∀x,(z0U m).getD 1 x=.bool m.ic:=fun _=>rfl
 have hm2:∀x,(z0U m).getD 2 x=.sl 1 (tmD m.tm):=fun _=>rfl
 have hmr:∀d∈z0U m,d.rf=true:=List.all_eq_true.1 rfl
 have hl0:laid [DV.nils,.nils,.nils,.nils] []=some [.nils,.nils,.nils,.nils]:=rfl
 have hs4:∀(a b c d:DV) (C:List DV),List.take 0 [a,b,c,d]++C++List.drop 4 [a,b,c,d]=C:=fun _ _ _ _ _=>by simp
 have hrl:=z2p (z1z n S m)
 have hrn:(z1z n S m).length≤n:=z5N _ _
 have hn64:=hx.n64
 have hRok:∀i,i<(z1z n S m).length→w0I n S m ((z1z n S m).getD i 0):=fun i hi=>y2x (z5R hi)
 have hrm:ints (z1f (z2I S (z1U m)) n)=ints (z1z n S m):=rfl
 rw [hrm] at c2
 have hlen:=z1B S
 have hvr:m.rs∈z1U m:=List.mem_cons_self
 have hrs:=h.vs _ hvr
 have hbd:=z36 m.rs (z1g S)
 rw [z0Y] at hbd
 obtain ⟨p,hpj⟩:∃p:Nat,ixS (z1g S) m.rs=p:=⟨(ixS (z1g S) m.rs).toNat,by omega⟩
 rw [hpj] at c4 hbd
 have ep:(p:Int).toNat=p:=Int.toNat_natCast p
 have hkw:((kxs S).drop (p*4)).take 4=kxC (z2u S m.rs):=by
  have h1:((kxs S).drop (p*4)).take 4=kxC (S.getD p default):=z1a (j:=0) z0L default (by omega) (Nat.le_refl _)
  rw [h1]
  unfold z2u
  rw [hpj,Int.toNat_natCast]
 have hck:∀k,(DV.agg (kxC k)).cells? = some (kxC k):=fun _=>rfl
 have hk4:=z0L
 refine z0b y0E (by simp [z1i]) ?_
 unfold z3c
 have hdes:x5f n S m cod=.agg [.sl 1 (z0D (z5t S m cod)),.sl 1 (rwU S m cod (z1z n S m) (z1z n S m).length),.sl 3 (nums (yU S m (z1z n S m) (z1z n S m).length)),.sl 1 (ints (z1z n S m))]:=by
  unfold x5f rwU yU;rw [List.take_length]
 rw [hdes]
 generalize z1z n S m=R at *
 generalize hMM:z0U m=MM at *
 refine zS (zA hca (zA hcm (zA hm3 (zA hmt (zA @List.drop_zero.{0} @cS))))) ?_
 refine z0C c1 (by simp only [List.all_cons,DV.rf_agg,List.all_eq_true.2 hmr];rfl) ?_
 refine zR ?_
 refine wFs ?_
 refine zS (zA hm3 (zA hmt (zA @List.drop_zero.{0} @cS))) ?_
 refine z0C c3 (by simp only [List.all_cons,DV.rf_agg,List.all_eq_true.2 hmr];rfl) ?_
 refine zR ?_
 refine cP c2 ?_
 refine zR ?_
 by_cases hR0:R.length=0
 ·have d0:decide ((R.length:Int)=0)=true:=zT9
  rw [if_pos hR0]
  refine zS (zA hrl d0) ?_
  refine wT ?_
  refine zS (zA hl0 (zA hs4 @cS)) ?_
  exact z0j (z6M rfl rfl rfl (.imm rfl) (.imm rfl))
 have d0:decide ((R.length:Int)=0)=false:=zF9
 have d64:decide ((64:Int)<(R.length:Int))=false:=zF9
 rw [if_neg hR0]
 refine zS (zA hrl d0) ?_
 refine wFs ?_
 refine zS (zA hrl d64) ?_
 refine wFs ?_
 have hlx:∀x y,laid [DV.nils,.nils,.nils,.nils] [(3,1,.sl 1 x),(1,1,.osl 1 44 0 y)]=some [.nils,.osl 1 44 0 y,.nils,.sl 1 x]:=fun _ _=>rfl
 have eR:(R.length:Int).toNat=R.length:=Int.toNat_natCast _
 refine zS (zA hrl (zA hlx (zA hs4 (zA eR @cS)))) ?_
 refine z0C (by rw [hm0];exact c4) (by simp only [hm0];rfl) ?_
 refine zS (zA ep (zA hlen (zA hkw (zA hck (zA hk4 hs4))))) ?_
 have hKm:=z3Y hrs
 obtain ⟨_,hKl,_,_,_⟩:=z4F h.tv hKm
 have hdy:∀r,y5B S m r=xnV ((z2u S m.rs).ce.getD r default).va:=fun _=>rfl
 have hKn:=h.nu _ hKm
 generalize hKe:z2u S m.rs=K at *
 have hk3:∀x,(kxC K).getD 3 x=.sl 5 (cxs K.ce):=fun _=>rfl
 have hkl:=z0L K
 have hkr:=z12 K
 have hcx:=z1V K.ce
 have mp:∀o,(kxC K).map (purge o)=kxC K:=fun o=>z0h o hkr
 generalize hkx:kxC K=C12 at *
 have hmm:∀o,MM.map (purge o)=MM:=fun o=>z0h o (by rw [←hMM] at hmr ⊢;exact hmr)
 have hX0:=w5F R.length (icV m).length
 rw [hX0]
 obtain ⟨TL,hTL⟩:∃TL:Nat→Hp,TL=fun i=>z1d 1000 (List.replicate i (nums (icV m))):=⟨_,rfl⟩
 have hT0:[]=TL 0:=by rw [hTL];rfl
 have hTlt:∀i s,s<1000→lkH (TL i) s=none:=fun i s hs=>by rw [hTL];exact z78 hs
 have hTset:∀i s c,s<1000→z0K (TL i) s c=(s,c)::TL i:=fun i s c hs=>by rw [hTL];exact z9J hs
 have hrr:∀i,∀l∈List.replicate i (nums (icV m)),∀d∈l,d.rf=true:=fun i l hl=>by rw [(List.mem_replicate.1 hl).2];exact z07 _
 have hTm:∀i o,z00 (purge o) (TL i)=TL i:=fun i o=>by rw [hTL];exact z8X fun l hl=>z0h o (hrr i l hl)
 have hTs:∀i,z0K (TL i) (1000+i) (nums (icV m))=TL (i+1):=fun i=>by
  rw [hTL]
  have:=y1I (c:=nums (icV m)) (L:=List.replicate i (nums (icV m))) (k:=1000)
  rw [List.length_replicate] at this
  simp only
  rw [this,List.replicate_succ']
 refine z2J 11 2 3 203 (cells:=[.nils,.osl 1 44 0 R.length,.nils,.sl 1 (ints R)]) rfl rfl rfl ?_
 refine zR ?_
 refine z0s (σ:=Nat) (fun i=>[(2,.int .i64 cod),(3,.ptr 3 0),(4,.ptr 4 0),(6,.ptr 6 0),(9,.sl 1 (ints R)),(11,.ptr 11 0),(12,.ptr 12 0),(13,.int .i64 i)])
  (fun i=>(3,[.int .i64 n,.sl 4 (kxs S)])::(4,MM)::(6,[.nils,.nils,.nils,.nils])::(11,[.nils,.osl 1 44 0 R.length,.osl 3 203 0 i,.sl 1 (ints R)])::(12,C12)::(44,xI R.length (icV m).length i)::(203,nums (yU S m R i))::TL i) (fun i=>i≤R.length) (fun i=>R.length - i) 0 (Nat.zero_le _) ?_ ?_ ?_
 ·simp [z0v,lk]
 ·rw [←hT0];rfl
 ·intro i hi
  try simp only at hi ⊢
  by_cases hlt:i<R.length
  ·have dl:decide ((i:Int)<(R.length:Int))=true:=zT9
   have ei:(i:Int).toNat=i:=Int.toNat_natCast i
   have e1:((i:Int)+1)=((i+1:Nat):Int):=by omega
   have hgr:=z55 hlt .undef
   have hok:=hRok i hlt
   have hys:=x3X (S:=S) (m:=m) hlt
   have hyl:=y75 (S:=S) (m:=m) hi
   generalize R.getD i 0=r at *
   refine zS (zA hrl dl) ?_
   refine wTs ?_
   refine z0d ?_
   refine z0e ?_
   have hrc:r<K.ce.length:=by have:=hok.1;omega
   have er:(r:Int).toNat=r:=Int.toNat_natCast r
   have hkv:((cxs K.ce).drop (r*5+1)).take 3=z0V (y5B S m r):=by
    have h1:((cxs K.ce).drop (r*5+1)).take 3=((cxC (K.ce.getD r default)).drop 1).take 3:=z1a z1C default hrc (by decide)
    rw [h1,hdy]
    show xnC (K.ce.getD r default).va=xnC (qX (xnV (K.ce.getD r default).va))
    rw [←(hKn _ (z4a hrc)).1]
   have hyb:BS (y5B S m r) 100:=by rw [hdy];exact (hKn _ (z4a hrc)).2
   have cpt:z0c prog 43 [.agg (z0V (y5B S m r))] (.agg (z0V (y5B S m r))):=w2Z _ (x1X (l:=9000) hyb (by omega))
   have hcc:∀x:Rat,(DV.agg (z0V x)).cells? = some (z0V x):=fun _=>rfl
   have hn3:=z1o
   have ht3:∀x:Rat,(z0V x).take 3=z0V x:=fun _=>rfl
   have hld:∀x:Rat,laid [DV.bool false,.nils,.nils] [(0,3,.agg (z0V x))]=some (z0V x):=fun _=>rfl
   have h33:3 / 3=1:=rfl
   have y1:=z4K (y5B S m r)
   have y2:=z1W (y5B S m r)
   have xp:∀o,o<1000→(xI R.length (icV m).length i).map (purge o)=xI R.length (icV m).length i:=fun o ho=>w5J ho
   have w1:=z0h 203 (z07 (yU S m R (i+1)))
   have hY0:=z07 (yU S m R (i+1))
   refine z0d ?_
   refine z0p ?_
   simp (maxSteps:=1000000) (disch:=omega) only [cA,cB,cN,FnD.nb,lk,lkH,Dst.onT,Dst.onX,Dst.slot,z03,z0K,z0M,z00,z0x,z02,unE,cnt,z0l,z0w,z0m,z0o,opE,rmH,z05,z0n,Nat.reduceEqDiff,Nat.reduceLT,Nat.reduceAdd,Nat.reduceMul,Nat.reduceMod,↓reduceIte,reduceCtorEq,Nat.reduceLeDiff,hrl,ei,hgr,hkl,hk3,er,hcx,hkv]
   repeat refine ⟨by omega,?_⟩
   refine cP cpt ?_
   refine zE (zA hld (zA hyl (zA h33 hn3))) ?_
   repeat refine ⟨by omega,?_⟩
   refine ⟨⟨by omega,by omega,fun h=>h,y1⟩,?_⟩
   rw [hys,w1,xp 203 (by decide),hTm,hmm,mp]
   have prw:∀o p k,p≠o→purge o (.ptr p k)=.ptr p k:=fun o p k h1=>by simp [purge,DV.has,h1]
   have psl:∀o z x,purge o (.sl z x)=.sl z x:=fun o z x=>by simp [purge,DV.has]
   have pin:∀o (z:Int),purge o (.int .i64 z)=.int .i64 z:=fun o z=>by simp [purge,DV.has]
   have pbo:∀o (z:Bool),purge o (.bool z)=.bool z:=fun o z=>by simp [purge,DV.has]
   refine zE (zA prw (zA psl (zA pin pbo))) ?_
   refine ⟨rfl,?_⟩
   refine zS (zA hm3 hm1) ?_
   have hXn:=x37 R.length (icV m).length i
   have hxs:=w3J (l:=(icV m).length) hlt
   have hxa:=w4c (l:=(icV m).length) hlt
   have hts:=hTs i
   have n1:∀k:Nat,k<1000→(k=1000+i)=False:=fun k hk=>eq_false (by omega)
   have n2:∀k:Nat,k<1000→(1000+i<k)=False:=fun k hk=>eq_false (by omega)
   have hTge:lkH (TL i) (1000+i)=none:=by rw [hTL];exact y24 (by rw [List.length_replicate];omega)
   cases hic:m.ic with
   | false =>
    have hv:icV m=[]:=by unfold icV;rw [hic];rfl
    rw [hv] at hxs hxa hts ⊢
    refine wFs ?_
    refine z2J 44 i 3 (1000+i) (cells:=xI R.length ([]:List Rat).length i) rfl hxa ?_ ?_
    ·simp (disch:=omega) only [lkH,n1,if_false,hTge]
    ·have hH2:z0K (z0K ((3,[DV.int .i64 n,.sl 4 (kxs S)])::(4,MM)::(6,[.nils,.nils,.nils,.nils])::(11,[.nils,.osl 1 44 0 R.length,.osl 3 203 0 (i+1),.sl 1 (ints R)])::(12,C12)::(44,xI R.length ([]:List Rat).length i)::(203,nums (yU S m R (i+1)))::TL i) 44 ((xI R.length ([]:List Rat).length i).set i (.osl 3 (1000+i) 0 0))) (1000+i) []=(3,[DV.int .i64 n,.sl 4 (kxs S)])::(4,MM)::(6,[.nils,.nils,.nils,.nils])::(11,[.nils,.osl 1 44 0 R.length,.osl 3 203 0 (i+1),.sl 1 (ints R)])::(12,C12)::(44,xI R.length ([]:List Rat).length (i+1))::(203,nums (yU S m R (i+1)))::TL (i+1):=by
      rw [←hts,←hxs]
      simp (disch:=omega) only [z0K,n1,n2,if_false,if_true,Nat.reduceEqDiff,Nat.reduceLT]
      rfl
     rw [hH2]
     refine zS e1 ?_
     exact ⟨i+1,by omega,by omega,by simp [z0v,lk,prw],rfl⟩
   | true =>
    have hv:icV m=[1]:=by unfold icV;rw [hic];rfl
    rw [hv] at hxs hxa hts xp ⊢
    have cf1:z0c prog 44 [.int .i64 1] (.agg (z0V 1)):=z3n 1 (by decide) (by decide)
    refine wT ?_
    refine zR ?_
    refine cP cf1 ?_
    have h31:cnt 3 [DV.bool false,.nils,.nils]=1:=rfl
    have t81:=hTlt i 81 (by decide)
    refine zE (zA hld (zA t81 (zA hTset (zA ei h31)))) ?_
    repeat refine ⟨by omega,?_⟩
    refine ⟨⟨rfl,by rw [x37];exact hlt⟩,?_⟩
    have hTd:∀j,z3q (TL j)=List.range' 1000 j:=fun j=>by rw [hTL];simp only;rw [y4c,List.length_replicate]
    generalize hHH:((3,[DV.int .i64 n,.sl 4 (kxs S)])::(4,MM)::(6,[.nils,.nils,.nils,.nils])::(11,[.nils,.osl 1 44 0 R.length,.osl 3 203 0 (i+1),.sl 1 (ints R)])::(12,C12)::(44,(xI R.length 1 i).set i (.osl 3 81 0 (3 / 3)))::(81,z0V 1)::(203,nums (yU S m R (i+1)))::TL i:Hp)=HH
    have hdom:z3q HH=3::4::6::11::12::44::81::203::List.range' 1000 i:=by rw [←hHH];simp only [z3q,hTd]
    have hmv:∀p,(p∈[3,4,6,11,12,44,203]∨(1000≤p∧p<1000+i))→mvF HH 81 (1000+i) p=some p:=fun p hp=>by
     unfold mvF mvN
     rw [hdom,if_pos,if_neg]
     ·rcases hp with hp|hp
      ·rintro rfl;revert hp;decide
      ·omega
     ·simp only [List.mem_cons,List.mem_range'_1]
      simp only [List.mem_cons,List.not_mem_nil,or_false] at hp
      omega
    have hm81:mvF HH 81 (1000+i) 81=some (1000+i):=by
     unfold mvF mvN
     rw [hdom,if_pos (by simp),if_pos rfl]
    refine w5E 81 (1000+i) ((3,[DV.int .i64 n,.sl 4 (kxs S)])::(4,MM)::(6,[.nils,.nils,.nils,.nils])::(11,[.nils,.osl 1 44 0 R.length,.osl 3 203 0 (i+1),.sl 1 (ints R)])::(12,C12)::(44,xI R.length 1 (i+1))::(203,nums (yU S m R (i+1)))::TL (i+1)) ?_ ?_ ⟨by decide,by omega⟩ ?_ ?_ ?_
    ·rw [hdom]
     simp [List.nodup_range',List.mem_range'_1]
    ·rw [hdom]
     simp [List.mem_range'_1]
     omega
    ·rw [hdom];simp
    ·generalize mvF HH 81 (1000+i)=f at *
     have rr:∀cs:List DV,(∀d∈cs,d.rf=true)→rnM f cs=cs:=fun cs hc=>by
      unfold rnM
      exact (List.map_congr_left fun d hd=>z8P f d (hc d hd)).trans (List.map_id' cs)
     have rM:rnM f MM=MM:=rr _ (by rw [←hMM] at hmr ⊢;exact hmr)
     have rX:rnM f ((xI R.length 1 i).set i (.osl 3 81 0 (3 / 3)))=xI R.length 1 (i+1):=by
      unfold rnM
      rw [List.map_set,w5a fun a ha=>hmv (1000+a) (.inr ⟨by omega,by omega⟩)]
      have:rn f (.osl 3 81 0 (3 / 3))=.osl 3 (1000+i) 0 1:=by simp [rn,hm81]
      rw [this];exact hxs
     have r44:rn f (.osl 1 44 0 R.length)=.osl 1 44 0 R.length:=by simp [rn,hmv 44 (.inl (by decide))]
     have r203:rn f (.osl 3 203 0 (i+1))=.osl 3 203 0 (i+1):=by simp [rn,hmv 203 (.inl (by decide))]
     have r11:rnM f [.nils,.osl 1 44 0 R.length,.osl 3 203 0 (i+1),.sl 1 (ints R)]=[.nils,.osl 1 44 0 R.length,.osl 3 203 0 (i+1),.sl 1 (ints R)]:=by
      show [rn f .nils,rn f (.osl 1 44 0 R.length),rn f (.osl 3 203 0 (i+1)),rn f (.sl 1 (ints R))]=_
      rw [r44,r203];rfl
     have hTat:lkH (TL (i+1)) (1000+i)=some (z0V 1):=by
      have:=z8h (L:=List.replicate (i+1) (nums (icV m))) (k:=1000) (i:=i) (by rw [List.length_replicate];omega)
      rw [hTL]
      simp only
      rw [this,zO1,List.getElem?_replicate,if_pos (by omega),hv];rfl
     have hTq:∀q,q≠1000+i→lkH (TL (i+1)) q=(lkH (TL i) q).map (rnM f):=fun q hq=>by
      rw [hTL]
      simp only
      rw [y3g,y3g,List.length_replicate,List.length_replicate]
      by_cases h1:1000≤q∧q<1000+i
      ·rw [if_pos (by omega),if_pos h1,zO1,List.getElem?_replicate,if_pos (by omega),zO1,List.getElem?_replicate,if_pos (by omega),Option.map_some]
       exact congrArg some (rr _ (z07 _)).symm
      ·rw [if_neg (by omega),if_neg h1];rfl
     intro q
     by_cases q81:q=81
     ·subst q81
      rw [if_pos rfl]
      exact hTlt (i+1) 81 (by decide)
     rw [if_neg q81]
     by_cases qb:q=1000+i
     ·subst qb
      rw [if_pos rfl]
      have hl:lkH HH 81=some (z0V 1):=by rw [←hHH];rfl
      rw [hl,Option.map_some,rr _ (z1W 1),←hTat]
      simp (disch:=omega) only [lkH,n1,if_false]
     rw [if_neg qb]
     by_cases q3:q=3
     ·subst q3;rw [←hHH];rfl
     by_cases q4:q=4
     ·subst q4;rw [←hHH];exact congrArg some rM.symm
     by_cases q6:q=6
     ·subst q6;rw [←hHH];rfl
     by_cases q11:q=11
     ·subst q11;rw [←hHH];exact congrArg some r11.symm
     by_cases q12:q=12
     ·subst q12;rw [←hHH];exact congrArg some (rr _ hkr).symm
     by_cases q44:q=44
     ·subst q44;rw [←hHH];exact congrArg some rX.symm
     by_cases q203:q=203
     ·subst q203;rw [←hHH];exact congrArg some (rr _ (z07 _)).symm
     have hq1:lkH HH q=lkH (TL i) q:=by
      rw [←hHH]
      simp only [lkH]
      rw [if_neg (Ne.symm q3),if_neg (Ne.symm q4),if_neg (Ne.symm q6),if_neg (Ne.symm q11),if_neg (Ne.symm q12),if_neg (Ne.symm q44),if_neg (Ne.symm q81),if_neg (Ne.symm q203)]
     rw [hq1,←hTq q qb]
     simp only [lkH]
     rw [if_neg (Ne.symm q3),if_neg (Ne.symm q4),if_neg (Ne.symm q6),if_neg (Ne.symm q11),if_neg (Ne.symm q12),if_neg (Ne.symm q44),if_neg (Ne.symm q203)]
    ·generalize mvF HH 81 (1000+i)=f at *
     have rp:∀p k,p∈[3,4,6,11,12,44,203]→rn f (.ptr p k)=.ptr p k:=fun p k hp=>by simp [rn,hmv p (.inl hp)]
     have r3:=rp 3 0 (by decide)
     have r4:=rp 4 0 (by decide)
     have r6:=rp 6 0 (by decide)
     have r11:=rp 11 0 (by decide)
     have r12:=rp 12 0 (by decide)
     have rsl:∀z x,rn f (.sl z x)=.sl z x:=fun z x=>by simp [rn]
     have rin:∀z:Int,rn f (.int .i64 z)=.int .i64 z:=fun z=>by simp [rn]
     have rbo:∀z:Bool,rn f (.bool z)=.bool z:=fun z=>by simp [rn]
     refine zS (zA e1 (zA r3 (zA r4 (zA r6 (zA r11 (zA r12 (zA rsl (zA rin rbo)))))))) ?_
     exact ⟨i+1,by omega,by omega,by simp [z0v,lk],rfl⟩
  ·have dl:decide ((i:Int)<(R.length:Int))=false:=zF9
   obtain rfl:i=R.length:=by omega
   have hxe:=w1A (S:=S) (m:=m) (cod:=cod) R
   have hte:TL R.length=z1d 1000 (rwT S m cod R 0 0):=by rw [hTL,←x9S]
   have hylen:=y75 (S:=S) (m:=m) (Nat.le_refl R.length)
   have hyr:=z07 (yU S m R R.length)
   refine zS (zA hrl dl) ?_
   refine z0k rfl (fun h=>by cases h) (fun _=>z0q ?_)
   refine zS (zA hm3 hm1) ?_
   rw [hxe,hte]
   clear hte hxe hT0 hTlt hTset hrr hTm hTs hTL hX0 TL
   generalize nums (yU S m R R.length)=Y at *
   obtain ⟨TL,hTL⟩:∃TL:Nat→Nat→Hp,TL=fun j i=>z1d 1000 (rwT S m cod R j i):=⟨_,rfl⟩
   have hTE:z1d 1000 (rwT S m cod R 0 0)=TL 0 0:=by rw [hTL]
   rw [hTE]
   have hTlt:∀j i s,s<1000→lkH (TL j i) s=none:=fun j i s hs=>by rw [hTL];exact z78 hs
   have hTset:∀j i s c,s<1000→z0K (TL j i) s c=(s,c)::TL j i:=fun j i s c hs=>by rw [hTL];exact z9J hs
   have hTm:∀j i o,z00 (purge o) (TL j i)=TL j i:=fun j i o=>by rw [hTL];exact z8X fun l hl=>z0h o (y8F S m cod R j i l hl)
   have hTr:∀j i o,o<1000→rmP o (TL j i)=TL j i:=fun j i o ho=>by rw [hTL];exact y3V ho fun l hl=>z0h o (y8F S m cod R j i l hl)
   refine z4c (ι:=Unit) (fun _=>True) (fun _=>[(2,.int .i64 cod),(3,.ptr 3 0),(4,.ptr 4 0),(6,.ptr 6 0),(9,.sl 1 (ints R)),(11,.ptr 11 0)])
    (fun _=>(3,[.int .i64 n,.sl 4 (kxs S)])::(4,MM)::(6,[.nils,.nils,.nils,.nils])::(11,[.osl 1 85 0 (z45 S m cod 0).length,.osl 1 44 0 R.length,.osl 3 203 0 R.length,.sl 1 (ints R)])::(12,C12)::(44,clT S m cod R 0 0)::(85,z0D (z45 S m cod 0))::(203,Y)::TL 0 0) ?_ ?_
   ·rw [x7L]
    cases hic:m.ic with
    | false =>
     have hv:icN m=[]:=by unfold icN;rw [hic];rfl
     rw [hv]
     refine wF ?_
     refine z2J 11 0 1 85 (cells:=[.nils,.osl 1 44 0 R.length,.osl 3 203 0 R.length,.sl 1 (ints R)]) rfl rfl (by simp only [lkH];exact hTlt 0 0 85 (by decide)) ?_
     refine z0G ?_
     exact ⟨(),trivial,by simp [z0v,lk],rfl⟩
    | true =>
     have hv:icN m=[[40,73,110,116,101,114,99,101,112,116,41]]:=by unfold icN;rw [hic];rfl
     have t85:=hTlt 0 0 85 (by decide)
     rw [hv]
     refine wT ?_
     refine zS (zA t85 (zA hTset @cS)) ?_
     exact ⟨(),by simp [z0v,lk],rfl⟩
   rintro ⟨⟩ -
   have hp1:=x79 h he
   have hT:=y1Y m.tm
   refine zR ?_
   refine z0s (σ:=Nat) (fun j=>[(2,.int .i64 cod),(3,.ptr 3 0),(4,.ptr 4 0),(6,.ptr 6 0),(9,.sl 1 (ints R)),(11,.ptr 11 0),(14,.int .i64 j)])
    (fun j=>(3,[.int .i64 n,.sl 4 (kxs S)])::(4,MM)::(6,[.nils,.nils,.nils,.nils])::(11,[.osl 1 85 0 (z45 S m cod j).length,.osl 1 44 0 R.length,.osl 3 203 0 R.length,.sl 1 (ints R)])::(12,C12)::(44,clT S m cod R j 0)::(85,z0D (z45 S m cod j))::(203,Y)::TL j 0) (fun j=>j≤m.tm.length) (fun j=>m.tm.length - j) 0 (Nat.zero_le _) ?_ rfl ?_
   ·simp [z0v,lk]
   intro j hj
   try simp only at hj ⊢
   by_cases hlt:j<m.tm.length
   ·have dl:decide ((j:Int)<(m.tm.length:Int))=true:=zT9
    have ej:(j:Int).toNat=j:=Int.toNat_natCast j
    have ej1:((j:Int)+1)=((j+1:Nat):Int):=by omega
    have hgT:=y3m hlt .undef
    have ht:m.tm.getD j []∈m.tm:=w3R hlt
    have hns:=y41 (S:=S) (m:=m) (cod:=cod) hlt
    have hrs2:=z8E (S:=S) (m:=m) (cod:=cod) hlt
    have hcnt:=z8f (cod:=cod) hp1 (fun t ht=>(h.tl.2 t ht).1) hj
    have hcnt1:=z8f (cod:=cod) hp1 (fun t ht=>(h.tl.2 t ht).1) (show j+1≤m.tm.length by omega)
    have cmo:=z6e (S:=S) (m:=m) (cod:=cod) (i:=j+1) (Nat.le_refl m.tm.length) hlt
    have hwt:=x2I (S:=S) (m:=m) (cod:=cod) (h.tl.2 _ ht).1 (hp1 _ ht)
    have hl1:(z45 S m cod (j+1)).length=(z45 S m cod j).length+(z8c S m cod (m.tm.getD j [])).length:=by rw [hns,List.length_append]
    have hw12:z6j S m cod (m.tm.getD j []) (m.tm.getD j []).length≤12:=by omega
    have cwd:=y0g h he ht hw12
    have ctm:=y2q h he ht (R:=R) (fun r hr=>by
     obtain ⟨i,hi,rfl⟩:=List.mem_iff_getElem.1 hr
     have:=hRok i hi
     rw [zO1,zO4 hi] at this
     exact this) (by omega) hn64
    rw [hMM] at cwd ctm
    rw [hwt] at cwd hw12
    generalize hte:m.tm.getD j []=t at *
    have hNl:=z0z (z45 S m cod j)
    refine zS (zA hm3 (zA hm2 (zA hT dl))) ?_
    refine wTs ?_
    refine z0d ?_
    refine z0e ?_
    have hrfa:[DV.agg [.int .i64 n,.sl 4 (kxs S)],.agg MM,.sl 2 (fcs t),.int .i64 cod].all DV.rf=true:=by
     simp only [List.all_cons,DV.rf_agg,List.all_eq_true.2 hmr];rfl
    have hrfb:[DV.agg [.int .i64 n,.sl 4 (kxs S)],.agg MM,.sl 2 (fcs t),.int .i64 cod,.sl 1 (ints R)].all DV.rf=true:=by
     simp only [List.all_cons,DV.rf_agg,List.all_eq_true.2 hmr];rfl
    have dsum:(((z45 S m cod j).length:Nat):Int)+(((z8c S m cod t).length:Nat):Int)=(((z45 S m cod (j+1)).length:Nat):Int):=by omega
    have d12:decide ((12:Int)<(((z45 S m cod (j+1)).length:Nat):Int))=false:=zF9
    have hwp:1≤(z8c S m cod t).length:=by
     rw [←hwt]
     have:∀k,k≤t.length→1≤z6j S m cod t k:=by
      intro k
      induction k with
      | zero=>intro _;exact Nat.le_refl 1
      | succ k ih =>
       intro hk
       rw [z2K (by omega)]
       exact Nat.mul_le_mul (ih (by omega)) (show 1≤max 1 _ by omega)
     exact this _ (Nat.le_refl _)
    have dw0:decide ((((z8c S m cod t).length:Nat):Int)=0)=false:=zF9
    refine zS (zA hm3 (zA hmt (zA hm2 (zA hT (zA ej (zA hgT @List.drop_zero.{0})))))) ?_
    refine z0C cwd hrfa ?_
    refine zS (zA dsum d12) ?_
    refine wFs ?_
    refine zS dw0 ?_
    refine wFs ?_
    refine zS (zA hm3 (zA hmt (zA hm2 (zA hT (zA ej (zA hgT @List.drop_zero.{0})))))) ?_
    refine z0C ctm hrfb ?_
    have hac:acR S m cod t R t.tail.length=z25 (z8c S m cod t) (R.map fun r=>z8j S m cod t r):=by
     have htc:=y2l (h.tl.2 t ht).1
     obtain ⟨a1,a2⟩:=y2K (S:=S) (m:=m) (cod:=cod) (t:=t) (f:=t.getD 0 default) (fs:=t.tail) htc
     unfold acR
     rw [a1]
     exact congrArg (z25 _) (List.map_congr_left fun r _=>a2 r)
    rw [hac]
    have hb0:∀x y z,(z25 x y).getD 0 z=.sl 1 (z0D x):=fun _ _ _=>rfl
    have hb2:∀x y,(z25 x y).length=2:=fun _ _=>rfl
    have hbt:∀x y,(z25 x y).take 2=z25 x y:=fun _ _=>rfl
    have hbc:∀x y,(DV.agg (z25 x y)).cells? = some (z25 x y):=fun _ _=>rfl
    have hbr:∀x y,∀d∈z25 x y,d.rf=true:=fun _ _=>List.all_eq_true.1 rfl
    have hz2:∀(a b:DV) (C:List DV),List.take 0 [a,b]++C++List.drop 2 [a,b]=C:=fun _ _ _=>by simp
    have hsl:=z0z (z8c S m cod t)
    have hsr:=z06 (z8c S m cod t)
    have hso:∀d∈z0D (z8c S m cod t),d.one=true:=fun d hd=>by
     unfold z0D at hd
     obtain ⟨_,_,rfl⟩:=List.mem_map.1 hd
     rfl
    have hsn:z0D (z45 S m cod j)++z0D (z8c S m cod t)=z0D (z45 S m cod (j+1)):=by rw [hns];unfold z0D;rw [List.map_append]
    have q1:=z0h 85 (z06 (z45 S m cod (j+1)))
    refine zE (zA hb2 (zA hbt (zA hbc (zA hz2 (zA hTlt (zA hTset @cS)))))) ?_
    repeat refine ⟨by omega,?_⟩
    refine z0d ?_
    refine z0g ?_
    refine zE (zA hb0 (zA hb2 (zA hNl hsl))) ?_
    refine ⟨⟨by omega,by omega,fun h=>h,hso⟩,?_⟩
    have prw:∀o p k,p≠o→purge o (.ptr p k)=.ptr p k:=fun o p k h1=>by simp [purge,DV.has,h1]
    have psl:∀o z x,purge o (.sl z x)=.sl z x:=fun o z x=>by simp [purge,DV.has]
    have pin:∀o (z:Int),purge o (.int .i64 z)=.int .i64 z:=fun o z=>by simp [purge,DV.has]
    have pbo:∀o (z:Bool),purge o (.bool z)=.bool z:=fun o z=>by simp [purge,DV.has]
    have mpb:∀o x y,(z25 x y).map (purge o)=z25 x y:=fun o x y=>z0h o (hbr x y)
    have mcl:∀o i,o<1000→(clT S m cod R j i).map (purge o)=clT S m cod R j i:=fun o i ho=>by
     unfold clT
     rw [List.map_map]
     refine List.map_congr_left fun a _=>?_
     simp [purge,DV.has,show 1000+a≠o by omega]
    have mY:=z0h 85 hyr
    rw [hsn,q1,hmm,mcl 85 0 (by decide),hTm,mp,mpb,mY,←hl1]
    refine zE (zA prw (zA psl (zA pin pbo))) ?_
    refine ⟨rfl,?_⟩
    refine zR ?_
    have hTe:TL j R.length=TL (j+1) 0:=by rw [hTL];simp only;rw [x9E]
    have hce:=w0x (S:=S) (m:=m) (cod:=cod) R j
    refine z0s (σ:=Nat) (fun i=>[(2,.int .i64 cod),(3,.ptr 3 0),(4,.ptr 4 0),(6,.ptr 6 0),(9,.sl 1 (ints R)),(11,.ptr 11 0),(14,.int .i64 j),(16,.ptr 16 0),(17,.int .i64 i)])
     (fun i=>(3,[.int .i64 n,.sl 4 (kxs S)])::(4,MM)::(6,[.nils,.nils,.nils,.nils])::(11,[.osl 1 85 0 (z45 S m cod (j+1)).length,.osl 1 44 0 R.length,.osl 3 203 0 R.length,.sl 1 (ints R)])::(12,C12)::(16,z25 (z8c S m cod t) (R.map fun r=>z8j S m cod t r))::(44,clT S m cod R j i)::(85,z0D (z45 S m cod (j+1)))::(203,Y)::TL j i) (fun i=>i≤R.length) (fun i=>R.length - i) 0 (Nat.zero_le _) ?_ rfl ?_
    ·simp [z0v,lk]
    intro i hi
    try simp only at hi ⊢
    by_cases hlt2:i<R.length
    ·have dl2:decide ((i:Int)<(R.length:Int))=true:=zT9
     have ei1:((i:Int)+1)=((i+1:Nat):Int):=by omega
     have hrj:=x7t (S:=S) (m:=m) (cod:=cod) j
     have htj:=z8g S m cod t
     refine zS (zA hrl dl2) ?_
     refine wTs ?_
     refine z0d ?_
     refine z0e ?_
     refine x5G (S:=S) (m:=m) (cod:=cod) (j:=j) (i:=i) (R:=R) (t:=t) (T:=TL j i) (T':=TL j (i+1)) (by rw [hTL]) (by rw [hTL]) hlt hte hlt2 (by omega) rfl rfl rfl (fun r=>by rw [hrj];omega) (fun r=>by rw [htj];omega)
      (List.all_eq_true.1 rfl) hmr (List.all_eq_true.1 rfl) hkr (z06 _) hyr ?_ ?_ (fun o=>psl o _ _) ?_ ?_
     ·exact fun o ho=>by simp [purge,DV.has,show 85≠o by omega]
     ·exact fun o ho=>by simp [purge,DV.has,show 203≠o by omega]
     ·exact fun s _=>x4P (by simp [DV.has]<;>omega) s
     ·refine zS ei1 ?_
      exact ⟨i+1,by omega,by omega,by simp [z0v,lk],rfl⟩
    ·have dl2:decide ((i:Int)<(R.length:Int))=false:=zF9
     obtain rfl:i=R.length:=by omega
     rw [hTe,hce]
     refine z2v 16 ?_
     have pol:∀o z p k q,p≠o→purge o (.osl z p k q)=.osl z p k q:=fun o z p k q h1=>by simp [purge,DV.has,h1]
     have pnl:∀o,purge o .nils=.nils:=fun o=>by simp [purge,DV.has]
     have p16:purge 16 (.ptr 16 0)=.undef:=by simp [purge,DV.has]
     have mkN:=z0h 16 (z06 (z45 S m cod (j+1)))
     have mY16:=z0h 16 hyr
     have mc16:(clT S m cod R (j+1) 0).map (purge 16)=clT S m cod R (j+1) 0:=by rw [←hce];exact mcl 16 R.length (by decide)
     have hl32:=h.tl.1
     have hT16:=hTr (j+1) 0 16 (by decide)
     have mp3:[DV.int .i64 n,.sl 4 (kxs S)].map (purge 16)=[DV.int .i64 n,.sl 4 (kxs S)]:=z0h 16 (List.all_eq_true.1 rfl)
     have mp6:[DV.nils,.nils,.nils,.nils].map (purge 16)=[DV.nils,.nils,.nils,.nils]:=z0h 16 (List.all_eq_true.1 rfl)
     have mp11:[DV.osl 1 85 0 (z45 S m cod (j+1)).length,.osl 1 44 0 R.length,.osl 3 203 0 R.length,.sl 1 (ints R)].map (purge 16)=[DV.osl 1 85 0 (z45 S m cod (j+1)).length,.osl 1 44 0 R.length,.osl 3 203 0 R.length,.sl 1 (ints R)]:=by simp [purge,DV.has]
     have hrm:rmP 16 ((3,[DV.int .i64 n,.sl 4 (kxs S)])::(4,MM)::(6,[.nils,.nils,.nils,.nils])::(11,[.osl 1 85 0 (z45 S m cod (j+1)).length,.osl 1 44 0 R.length,.osl 3 203 0 R.length,.sl 1 (ints R)])::(12,C12)::(16,z25 (z8c S m cod t) (R.map fun r=>z8j S m cod t r))::(44,clT S m cod R (j+1) 0)::(85,z0D (z45 S m cod (j+1)))::(203,Y)::TL (j+1) 0) =
       ((3,[DV.int .i64 n,.sl 4 (kxs S)])::(4,MM)::(6,[.nils,.nils,.nils,.nils])::(11,[.osl 1 85 0 (z45 S m cod (j+1)).length,.osl 1 44 0 R.length,.osl 3 203 0 R.length,.sl 1 (ints R)])::(12,C12)::(44,clT S m cod R (j+1) 0)::(85,z0D (z45 S m cod (j+1)))::(203,Y)::TL (j+1) 0):=by
      simp only [rmP,Nat.reduceEqDiff,if_false,if_true,hT16,mc16,mY16,mkN,mp3,mp6,mp11,hmm,mp]
     rw [hrm]
     refine zS (zA prw (zA psl (zA pin (zA p16 (zA hrl dl2))))) ?_
     refine z0k rfl (fun h=>by cases h) (fun _=>z0q ?_)
     refine zS ej1 ?_
     exact ⟨j+1,by omega,by omega,by simp [z0v,lk],rfl⟩
   ·have dl:decide ((j:Int)<(m.tm.length:Int))=false:=zF9
    obtain rfl:j=m.tm.length:=by omega
    have hNl:=z0z (z5t S m cod)
    have hX2:=y6f (S:=S) (m:=m) (cod:=cod) (Nat.le_refl R.length)
    have hX1:=z9H S m cod R R.length
    have hN1:=z06 (z5t S m cod)
    rw [x9r,show TL m.tm.length 0=z1d 1000 (rwT S m cod R m.tm.length 0) by rw [hTL],y8m hp1]
    refine w1z (F:=z1i) (z:=3) (by decide) (List.all_eq_true.1 rfl) hmr (List.all_eq_true.1 rfl) hkr hN1 hyr ?_ ?_ (rwT S m cod R m.tm.length 0) 1000 [] (Nat.le_refl _) (by rw [y6Y];omega) (y8F S m cod R m.tm.length 0) (x9P R m.tm.length 0) (fun _ h=>absurd h List.not_mem_nil) ?_
    ·exact fun o cs ho=>by simp [frz,purge,DV.has,show 85≠o by omega,show 44≠o by omega,show 203≠o by omega]
    ·exact fun o cs ho=>by simp [z0M,frz,purge,DV.has,show 3≠o by omega,show 4≠o by omega,show 6≠o by omega,show 11≠o by omega]
    rw [List.nil_append,w4x hp1]
    generalize rwU S m cod R R.length=X at *
    generalize hND:z0D (z5t S m cod)=ND at *
    have fp:∀o cs p k,p≠o→frz o cs (.ptr p k)=.ptr p k:=fun o cs p k h=>by simp [frz,purge,DV.has,h]
    have fsl:∀o cs z x,frz o cs (.sl z x)=.sl z x:=fun o cs z x=>by simp [frz,purge,DV.has]
    have fin:∀o cs (z:Int),frz o cs (.int .i64 z)=.int .i64 z:=fun o cs z=>by simp [frz,purge,DV.has]
    have fnl:∀o cs,frz o cs .nils=.nils:=fun o cs=>by simp [frz,purge,DV.has]
    have fo:∀o cs z p k m,p≠o→frz o cs (.osl z p k m)=.osl z p k m:=fun o cs z p k m h=>z1q _ _ _ _ _ h
    have mC:∀o cs,C12.map (frz o cs)=C12:=fun o cs=>z0N o cs hkr
    have mM:∀o cs,MM.map (frz o cs)=MM:=fun o cs=>z0N o cs hmr
    have mX:∀o cs,X.map (frz o cs)=X:=fun o cs=>z0N o cs hX1
    have mN:∀o cs,ND.map (frz o cs)=ND:=fun o cs=>z0N o cs hN1
    have mYf:∀o cs,Y.map (frz o cs)=Y:=fun o cs=>z0N o cs hyr
    have hfx:frz 44 X (.osl 1 44 0 R.length)=.sl 1 X:=by
     simp [frz,hX2]
     rw [List.take_of_length_le (by omega)]
    have hfn:frz 85 ND (.osl 1 85 0 (z5t S m cod).length)=.sl 1 ND:=by
     simp [frz,hNl]
     rw [List.take_of_length_le (by omega)]
    have hfy:frz 203 Y (.osl 3 203 0 R.length)=.sl 3 Y:=by
     simp [frz,hylen]
     rw [List.take_of_length_le (by omega)]
    refine z0E 44 (cells:=X) rfl (List.all_eq_true.2 hX1) ?_
    refine z0E 85 (cells:=ND) (by simp [rmH,lkH,mN]) (List.all_eq_true.2 hN1) ?_
    refine z0E 203 (cells:=Y) (by simp [rmH,lkH,mYf]) (List.all_eq_true.2 hyr) ?_
    refine zS (zA hm3 (zA hm2 (zA hT (zA dl (zA hfx (zA hfn (zA hfy (zA fp (zA fsl (zA fin (zA fnl (zA fo (zA mC (zA mM (zA mX (zA mN mYf)))))))))))))))) ?_
    refine z0k rfl (fun h=>by cases h) (fun _=>z0q ?_)
    refine zS (zA hs4 @cS) ?_
    exact z0j (z6M rfl rfl rfl (.imm (by simp [DV.rf,DV.rfL])) (.imm rfl))
end Go.Proofs.YtlcagndeidjobaaGreatDoor
namespace Go.Proofs.YtlcagndeidjobaaGreatDoor
open Tryz
open Go Go.Dat Go.Proofs Go.RowKit Nat32
theorem w5d:z0c prog 9 [.str [121,32,126,32,120]] (.agg (z0U (kM 0))):=z1j z2f (n:=4000) (by kernel_rfl)
theorem w4n:z0c prog 9 [.str [121,32,126,32,103]] (.agg (z0U (kM 1))):=z1j z2f (n:=4000) (by kernel_rfl)
theorem w4Q:z0c prog 9 [.str [121,32,126,32,48,32,43,32,103]] (.agg (z0U (kM 2))):=z1j z2f (n:=4000) (by kernel_rfl)
theorem w46:z0c prog 9 [.str [121,32,126,32,120,32,42,32,103]] (.agg (z0U (kM 3))):=z1j z2f (n:=4000) (by kernel_rfl)
theorem w4z:z0c prog 9 [.str [121,32,126,32,103,32,42,32,104]] (.agg (z0U (kM 4))):=z1j z2f (n:=4000) (by kernel_rfl)
theorem w4K:z0c prog 9 [.str [121,32,126,32,103,32,47,32,104]] (.agg (z0U (kM 5))):=z1j z2f (n:=4000) (by kernel_rfl)
theorem w4m:z0c prog 9 [.str [121,32,126,32,103,58,104]] (.agg (z0U (kM 6))):=z1j z2f (n:=4000) (by kernel_rfl)
theorem w4I:z0c prog 9 [.str [121,32,126,32,120,32,43,32,104,32,45,32,49]] (.agg (z0U (kM 7))):=z1j z2f (n:=4000) (by kernel_rfl)
theorem w4t:z0c prog 9 [.str [121,32,126,32,112,111,119,101,114,40,120,44,32,50,41,32,43,32,120]] (.agg (z0U (kM 8))):=z1j z2f (n:=4000) (by kernel_rfl)
theorem w4L:z0c prog 9 [.str [121,32,126,32,120,58,103,32,43,32,120]] (.agg (z0U (kM 9))):=z1j z2f (n:=4000) (by kernel_rfl)
theorem w3Z:z0c prog 9 [.str [121,32,126,32,49]] (.agg [.str [121],.bool true,.nils]):=z1j z2f (n:=4000) (by kernel_rfl)
theorem w1O:z0c prog 9 [.str [121,32,126,32,103,32,43,32,104,32,43,32,120]] (.agg (z0U (kM 11))):=z1j z2f (n:=4000) (by kernel_rfl)
end Go.Proofs.YtlcagndeidjobaaGreatDoor
namespace Go.Proofs.YtlcagndeidjobaaGreatDoor
open Tryz
open Go Go.Dat Go.Proofs Go.RowKit Go.Lib Nat32
theorem y3B {n:Nat} {S:List Kx} {m:Mdl} {cod:Int} (hok:okT S) (htv:y9D n S=true) (hmv:z0c prog 76 [.agg (z0U m)] (.bool true)) (hc:cod<1∨4<cod) :
  z0c prog 12 [.agg [.int .i64 n,.sl 4 (kxs S)],.agg (z0U m),.int .i64 cod] (.tup [.agg [.nils,.nils,.nils,.nils],.int .i64 1]):=by
 have c1:=y5K hok htv hmv hc
 have hca:(DV.agg [.int .i64 n,.sl 4 (kxs S)]).cells? = some [.int .i64 n,.sl 4 (kxs S)]:=rfl
 have hcm:(DV.agg (z0U m)).cells? = some (z0U m):=rfl
 have hm3:(z0U m).length=3:=rfl
 have hmt:(z0U m).take 3=z0U m:=rfl
 have hbl:laid [DV.int .i64 0,.nils,.str [],.bool false,.nils,.int .i64 0] [(0,2,.agg [.int .i64 n,.sl 4 (kxs S)]),(2,3,.agg (z0U m)),(5,1,.int .i64 cod)]=some (z3k n S m cod):=rfl
 have hcb:(DV.agg (z3k n S m cod)).cells? = some (z3k n S m cod):=rfl
 have hrb:∀d∈z3k n S m cod,d.rf=true:=List.all_eq_true.1 rfl
 have hnb:z3k n S m cod≠[]:=fun e=>by cases e
 refine z0b y1B (by simp [z1L]) ?_
 unfold z26
 generalize z3k n S m cod=B at *
 refine zS (zA hca (zA hcm (zA hm3 (zA hmt (zA hbl (zA hcb (zA @List.drop_zero.{0} @cS))))))) ?_
 refine ⟨⟨hnb,hrb⟩,?_⟩
 refine zR ?_
 refine cP c1 ?_
 refine zR ?_
 refine wT ?_
 have hl0:laid [DV.nils,.nils,.nils,.nils] []=some [.nils,.nils,.nils,.nils]:=rfl
 have hs4:∀(a b c d:DV) (C:List DV),List.take 0 [a,b,c,d]++C++List.drop 4 [a,b,c,d]=C:=fun _ _ _ _ _=>by simp
 refine zS (zA hl0 (zA hs4 @cS)) ?_
 exact z0j (z6M rfl rfl rfl (.imm rfl) (.imm rfl))
theorem x7K {v:Rat} {w:Nat} (h:BS v w) (hw:w≤140800):z0c prog 38 [.agg (z0V v),.agg [.bool false,.nils,.nils]] (.agg (z0V v)):=by
 have h1:=x1X (l:=4400) h (by omega)
 have:=w25 (x:=qX v) (z0f _) (z5V _) h1.1 (Nat.le_trans (x1C _) h1.2)
 rw [x6L] at this
 exact this
theorem y0f {n:Nat} {S:List Kx} {m:Mdl} {cod:Nat} (h:DKt n S m cod) (hx:DX n S m) (hw:z72 S m cod m.tm.length≤12) :
  z0c prog 12 [.agg [.int .i64 n,.sl 4 (kxs S)],.agg (z0U m),.int .i64 cod] (if (z1z n S m).length=0 then .tup [.agg [.nils,.nils,.nils,.nils],.int .i64 10] else .tup [x5f n S m cod,.int .i64 0]):=by
 have c1:=y0a h hx
 have c2:=z9E h hw
 have hvr:m.rs∈z1U m:=List.mem_cons_self
 have c3:=z16 n S m cod m.rs h.ok h.tv (h.vs _ hvr)
 have hca:(DV.agg [.int .i64 n,.sl 4 (kxs S)]).cells? = some [.int .i64 n,.sl 4 (kxs S)]:=rfl
 have hcm:(DV.agg (z0U m)).cells? = some (z0U m):=rfl
 have hm3:(z0U m).length=3:=rfl
 have hm0:∀x,(z0U m).getD 0 x=.str m.rs:=fun _=>rfl
 have hmr:(z0U m).all DV.rf=true:=rfl
 have hmt:(z0U m).take 3=z0U m:=rfl
 have hbl:laid [DV.int .i64 0,.nils,.str [],.bool false,.nils,.int .i64 0] [(0,2,.agg [.int .i64 n,.sl 4 (kxs S)]),(2,3,.agg (z0U m)),(5,1,.int .i64 cod)]=some (z3k n S m cod):=rfl
 have hcb:(DV.agg (z3k n S m cod)).cells? = some (z3k n S m cod):=rfl
 have hrb:∀d∈z3k n S m cod,d.rf=true:=List.all_eq_true.1 rfl
 have hnb:z3k n S m cod≠[]:=fun e=>by cases e
 have hl0:laid [DV.nils,.nils,.nils,.nils] []=some [.nils,.nils,.nils,.nils]:=rfl
 have hs4:∀(a b c d:DV) (C:List DV),List.take 0 [a,b,c,d]++C++List.drop 4 [a,b,c,d]=C:=fun _ _ _ _ _=>by simp
 have hs2:∀(a b:DV) (C:List DV),List.take 0 [a,b]++C++List.drop 2 [a,b]=C:=fun _ _ _=>by simp
 have hGok:=x3p h (Nat.le_refl m.tm.length)
 have hrl:=z2p (z1z n S m)
 have hrn:(z1z n S m).length≤n:=z5N _ _
 have hn64:=hx.n64
 have hRok:∀i,i<(z1z n S m).length→w0I n S m ((z1z n S m).getD i 0):=fun i hi=>y2x (z5R hi)
 refine z0b y1B (by simp [z1L]) ?_
 unfold z26
 have hdes:x5f n S m cod=.agg [.sl 1 (z0D (z5t S m cod)),.sl 1 (rwU S m cod (z1z n S m) (z1z n S m).length),.sl 3 (nums (yU S m (z1z n S m) (z1z n S m).length)),.sl 1 (ints (z1z n S m))]:=by
  unfold x5f rwU yU;rw [List.take_length]
 rw [hdes]
 generalize z1z n S m=R at *
 generalize hB:z3k n S m cod=B at *
 refine zS (zA hca (zA hcm (zA hm3 (zA hmt (zA hbl (zA hcb (zA @List.drop_zero.{0} @cS))))))) ?_
 refine ⟨⟨hnb,hrb⟩,?_⟩
 refine zR ?_
 refine cP c1 ?_
 refine zR ?_
 refine wF ?_
 by_cases hR0:R.length=0
 ·have d0:decide ((R.length:Int)=0)=true:=zT9
  rw [if_pos hR0]
  refine zS (zA hrl d0) ?_
  refine wT ?_
  refine zS (zA hl0 (zA hs4 @cS)) ?_
  exact z0j (z6M rfl rfl rfl (.imm rfl) (.imm rfl))
 have d0:decide ((R.length:Int)=0)=false:=zF9
 have d64:decide ((64:Int)<(R.length:Int))=false:=zF9
 rw [if_neg hR0]
 refine zS (zA hrl d0) ?_
 refine wF ?_
 refine zS (zA hrl d64) ?_
 refine wFs ?_
 refine zR ?_
 refine cP c2 ?_
 refine zR ?_
 refine wFs ?_
 have hlr:∀x,laid [DV.nils,.nils,.nils,.nils] [(3,1,.sl 1 x)]=some [.nils,.nils,.nils,.sl 1 x]:=fun _=>rfl
 have hll:=z2z (z3s S m cod m.tm.length)
 have hll2:(z3s S m cod m.tm.length).length*2 / 2=(z3s S m cod m.tm.length).length:=by omega
 generalize hGG:z3s S m cod m.tm.length=G at *
 have hGl:G.length=(z3t S m cod m.tm.length).length:=hGok.1
 have hDl:(z3t S m cod m.tm.length).length≤40:=by
  have h1:=List.length_filter_le (y0n S m cod) (m.tm.take m.tm.length)
  rw [List.length_take] at h1
  have h2:=h.tl.1
  unfold z3t icL
  rw [List.length_append,List.length_map]
  split
  ·simp only [List.length_cons,List.length_nil];omega
  ·simp only [List.length_nil];omega
 have hnmG:∀i,i<G.length→(G.getD i default).nm.length≤729:=fun i hi=>by
  rw [(hGok.2 i hi).1];exact (z6Z h (by omega)).1
 have hnmL:∀i,i≤G.length→(nmU G i).length≤i*729:=fun i=>by
  induction i with
  | zero=>intro _;simp [nmU]
  | succ i ih =>
   intro hi
   rw [y8U hi,List.length_append,Nat.succ_mul]
   have:=hnmG i hi
   have:=ih (by omega)
   omega
 have hnmE:nmU G G.length=z5t S m cod:=by
  unfold nmU
  rw [List.take_length,←w1C]
  have e1:G.flatMap Grp.nm=(G.map Grp.nm).flatten:=by rw [List.flatMap_def]
  have e2:(z3t S m cod m.tm.length).flatMap Prod.fst=((z3t S m cod m.tm.length).map Prod.fst).flatten:=by rw [List.flatMap_def]
  rw [e1,e2,hGok.names]
 refine z1P 4 (cells:=z0U m) rfl hmr ?_
 refine z2v 3 ?_
 have f4:purge 3 (z2e 4 (z0U m) (.ptr 4 0))=.el (z0U m) 0:=rfl
 have f6:purge 3 (z2e 4 (z0U m) (.ptr 6 0))=.ptr 6 0:=rfl
 have f8:purge 3 (z2e 4 (z0U m) (.el B 0))=.el B 0:=rfl
 have fs:∀z x,purge 3 (z2e 4 (z0U m) (.sl z x))=.sl z x:=fun _ _=>rfl
 have fi:∀z:Int,purge 3 (z2e 4 (z0U m) (.int .i64 z))=.int .i64 z:=fun _=>rfl
 have fn:purge 3 (frz 4 (z0U m) .nils)=.nils:=rfl
 have hn6:rmP 3 (rmH 4 (z0U m) [(3,[.int .i64 n,.sl 4 (kxs S)]),(4,z0U m),(6,[.nils,.nils,.nils,.nils])])=[(6,[.nils,.nils,.nils,.nils])]:=rfl
 rw [hn6]
 repeat (first|refine z0d ?_|refine z0g ?_|refine z0p ?_|refine z0e ?_|refine And.intro (by omega) ?_|simp (maxSteps:=1000000) (disch:=omega) only [cA,cB,cN,FnD.nb,lk,lkH,Dst.onT,Dst.onX,Dst.slot,z03,z0K,z0M,z00,z0x,z02,unE,cnt,z0l,z0w,z0m,z0o,opE,rmH,z05,z0n,Nat.reduceEqDiff,Nat.reduceLT,Nat.reduceAdd,Nat.reduceMul,Nat.reduceMod,↓reduceIte,reduceCtorEq,Nat.reduceLeDiff,f4,f6,f8,fs,fi,hlr,hs4,hll,hll2,cS])
 have hga:=z5j
 have hg2:=z1A
 have hgt:∀g,(gpC g).take 2=gpC g:=fun _=>rfl
 have hg0:∀g x,(gpC g).getD 0 x=.sl 1 (z0D g.nm):=fun _ _=>rfl
 have hg1:∀g x,(gpC g).getD 1 x=g.cl:=fun _ _=>rfl
 have pu:∀o p k,p<100→199<o→purge o (.ptr p k)=.ptr p k:=fun o p k h1 h2=>by simp [purge,DV.has,show p≠o by omega]
 have pw:∀o p k,p≠o→purge o (.ptr p k)=.ptr p k:=fun o p k h1=>by simp [purge,DV.has,h1]
 have po:∀o p s k n,p≠o→purge o (.osl s p k n)=.osl s p k n:=fun o p s k n h=>by simp [purge,DV.has,h]
 have pn:∀o,purge o .nils=.nils:=fun o=>by simp [purge,DV.has]
 have ps:∀o z x,purge o (.sl z x)=.sl z x:=fun o z x=>by simp [purge,DV.has]
 have pi:∀o (z:Int),purge o (.int .i64 z)=.int .i64 z:=fun o z=>by simp [purge,DV.has]
 refine z2J 12 0 1 200 (cells:=[.nils,.nils,.nils,.sl 1 (ints R)]) rfl rfl rfl ?_
 refine z0s (σ:=Nat) (fun i=>[(4,.el (z0U m) 0),(6,.ptr 6 0),(7,.int .i64 0),(8,.el B 0),(9,.sl 1 (ints R)),(11,.sl 2 (gps G)),(12,.ptr 12 0),(59,.sl 2 (gps G)),(60,.int .i64 G.length),(61,.int .i64 i)])
  (fun i=>[(6,[.nils,.nils,.nils,.nils]),(12,[.osl 1 200 0 (nmU G i).length,.nils,.nils,.sl 1 (ints R)]),(200,z0D (nmU G i))]) (fun i=>i≤G.length) (fun i=>G.length - i) 0 (Nat.zero_le _) ?_ rfl ?_
 ·simp [z0v,lk]
 ·intro i hi
  try simp only at hi ⊢
  by_cases hlt:i<G.length
  ·have dl:decide ((i:Int)<(G.length:Int))=true:=zT9
   have ei:(i:Int).toNat=i:=Int.toNat_natCast i
   have e1:((i:Int)+1)=((i+1:Nat):Int):=by omega
   have hw2:((gps G).drop (i*2)).take 2=gpC (G.getD i default):=z1a (j:=0) z1A default hlt (Nat.le_refl _)
   have hsu:=y8U hlt
   have hgl:=hnmG i hlt
   have hnl:=hnmL i hi
   have hi33:i*729≤40*729:=Nat.mul_le_mul_right _ (by omega)
   generalize G.getD i default=g at *
   have hsl:=z0z g.nm
   have hsl2:=z0z (nmU G i)
   have hsn:z0D (nmU G i)++z0D g.nm=z0D (nmU G (i+1)):=by rw [hsu];unfold z0D;rw [List.map_append]
   have hsr:=z06 g.nm
   have hso:∀d∈z0D g.nm,d.one=true:=fun d hd=>by
    unfold z0D at hd
    obtain ⟨_,_,rfl⟩:=List.mem_map.1 hd
    rfl
   have hlen2:(nmU G (i+1)).length=(nmU G i).length+g.nm.length:=by rw [hsu,List.length_append]
   have q1:=z0h 200 (z06 (nmU G (i+1)))
   have q2:=z0h 200 (z35 g)
   have q3:=z0h 14 (z06 (nmU G (i+1)))
   refine zS dl ?_
   refine wTs ?_
   refine z0d ?_
   refine z0e ?_
   refine zS (zA ei (zA hll (zA hw2 (zA hga (zA hg2 (zA hgt (zA hg0 (zA hs2 (zA hsl (zA hsl2 (zA @List.drop_zero.{0} @cS))))))))))) ?_
   refine ⟨⟨by omega,by omega,fun h=>h,hso⟩,?_⟩
   rw [hsn,q1]
   refine zE pu ?_
   refine ⟨rfl,?_⟩
   refine z2v 14 ?_
   repeat (first|refine z0d ?_|refine z0g ?_|refine z0p ?_|refine z0e ?_|refine And.intro (by omega) ?_|simp (maxSteps:=1000000) (disch:=omega) only [cA,cB,cN,FnD.nb,lk,lkH,Dst.onT,Dst.onX,Dst.slot,z03,z0K,z0M,z00,z0x,z02,unE,cnt,z0l,z0w,z0m,z0o,opE,rmH,z05,z0n,Nat.reduceEqDiff,Nat.reduceLT,Nat.reduceAdd,Nat.reduceMul,Nat.reduceMod,↓reduceIte,reduceCtorEq,Nat.reduceLeDiff,rmP,pw,po,pn,ps,pi,q3,e1,hlen2])
   exact ⟨i+1,by omega,by omega,by simp [z0v,lk],by rw [hlen2]⟩
  ·have dl:decide ((i:Int)<(G.length:Int))=false:=zF9
   obtain rfl:i=G.length:=by omega
   rw [hnmE]
   have hNl:=z0z (z5t S m cod)
   have hNr:=z06 (z5t S m cod)
   refine z0E 200 (cells:=z0D (z5t S m cod)) rfl (List.all_eq_true.2 hNr) ?_
   have hfz:frz 200 (z0D (z5t S m cod)) (.osl 1 200 0 (z5t S m cod).length)=.sl 1 (z0D (z5t S m cod)):=by
    simp [frz,hNl]
    rw [List.take_of_length_le (by omega)]
   have fp:∀o cs p k,p≠o→frz o cs (.ptr p k)=.ptr p k:=fun o cs p k h=>by simp [frz,purge,DV.has,h]
   have fsl:∀o cs z x,frz o cs (.sl z x)=.sl z x:=fun o cs z x=>by simp [frz,purge,DV.has]
   have fin:∀o cs (z:Int),frz o cs (.int .i64 z)=.int .i64 z:=fun o cs z=>by simp [frz,purge,DV.has]
   have fel:∀o cs x k,frz o cs (.el x k)=.el x k:=fun o cs x k=>by simp [frz,purge,DV.has]
   have fnl:∀o cs,frz o cs .nils=.nils:=fun o cs=>by simp [frz,purge,DV.has]
   have hck:∀k,(DV.agg (kxC k)).cells? = some (kxC k):=fun _=>rfl
   have hk4:=z0L
   refine zS (zA dl (zA hfz (zA fp (zA fsl (zA fin (zA fel fnl)))))) ?_
   refine z0k rfl (fun h=>by cases h) (fun _=>z0q ?_)
   refine zS (zA hm0 (zA hm3 @cS)) ?_
   refine cP c3 ?_
   refine zS (zA hck (zA hk4 (zA hs4 (zA hrl @cS)))) ?_
   have hKm:=z3Y (h.vs _ hvr)
   obtain ⟨_,hKl,_,_,_⟩:=z4F h.tv hKm
   have hdy:∀r,y5B S m r=xnV ((z2u S m.rs).ce.getD r default).va:=fun _=>rfl
   have hKn:=h.nu _ hKm
   generalize hKe:z2u S m.rs=K at *
   have hk3:∀x,(kxC K).getD 3 x=.sl 5 (cxs K.ce):=fun _=>rfl
   have hkl:=z0L K
   have hkr:=z12 K
   have hcx:=z1V K.ce
   have hcc:∀x:Rat,(DV.agg (z0V x)).cells? = some (z0V x):=fun _=>rfl
   have hn3:=z1o
   have ht3:∀x:Rat,(z0V x).take 3=z0V x:=fun _=>rfl
   have hs3:∀(a b c:DV) (C:List DV),List.take 0 [a,b,c]++C++List.drop 3 [a,b,c]=C:=fun _ _ _ _=>by simp
   have hld:∀x:Rat,laid [DV.bool false,.nils,.nils] [(0,3,.agg (z0V x))]=some (z0V x):=fun _=>rfl
   have hlz:laid [DV.bool false,.nils,.nils] []=some [.bool false,.nils,.nils]:=rfl
   have hlx:∀x,laid [DV.nils] [(0,1,.sl 3 x)]=some [.sl 3 x]:=fun _=>rfl
   have h33:3 / 3=1:=rfl
   have mf:∀o cs,(kxC K).map (frz o cs)=kxC K:=fun o cs=>z0N o cs hkr
   have mp:∀o,(kxC K).map (purge o)=kxC K:=fun o=>z0h o hkr
   generalize hkx:kxC K=C15 at *
   refine z2J 12 1 1 202 (cells:=[.sl 1 (z0D (z5t S m cod)),.nils,.nils,.sl 1 (ints R)]) rfl rfl rfl ?_
   refine z2J 12 2 3 203 (cells:=[.sl 1 (z0D (z5t S m cod)),.osl 1 202 0 0,.nils,.sl 1 (ints R)]) rfl rfl rfl ?_
   refine z0s (σ:=Nat) (fun i=>[(6,.ptr 6 0),(11,.sl 2 (gps G)),(12,.ptr 12 0),(15,.ptr 15 0),(76,.sl 1 (ints R)),(77,.int .i64 R.length),(78,.int .i64 i)])
    (fun i=>[(6,[.nils,.nils,.nils,.nils]),(12,[.sl 1 (z0D (z5t S m cod)),.osl 1 202 0 i,.osl 3 203 0 i,.sl 1 (ints R)]),(15,C15),(202,rwU S m cod R i),(203,nums (yU S m R i))]) (fun i=>i≤R.length) (fun i=>R.length - i) 0 (Nat.zero_le _) ?_ rfl ?_
   ·simp [z0v,lk]
   ·intro i hi
    try simp only at hi ⊢
    by_cases hlt:i<R.length
    ·have dl:decide ((i:Int)<(R.length:Int))=true:=zT9
     have ei:(i:Int).toNat=i:=Int.toNat_natCast i
     have e1:((i:Int)+1)=((i+1:Nat):Int):=by omega
     have hgr:=z55 hlt .undef
     have hok:=hRok i hlt
     have hxs:=x5q (S:=S) (m:=m) (cod:=cod) hlt
     have hys:=x3X (S:=S) (m:=m) hlt
     have hxl:=y6f (S:=S) (m:=m) (cod:=cod) hi
     have hyl:=y75 (S:=S) (m:=m) hi
     generalize R.getD i 0=r at *
     have hrn2:r<n:=hok.1
     have hvl:=fun j (hj:j≤(z3t S m cod m.tm.length).length)=>x15 h hrn2 hj
     refine zS dl ?_
     refine wTs ?_
     refine z0d ?_
     refine z0e ?_
     refine z0d ?_
     refine z0g ?_
     refine zE (zA ei (zA hrl hgr)) ?_
     refine ⟨⟨by omega,by omega⟩,by omega,?_⟩
     refine z0d ?_
     refine z0g ?_
     refine zD ?_
     refine z5Z 18 3 204 rfl rfl ?_
     refine zS (zA hll hll2) ?_
     refine z0s (σ:=Nat) (fun j=>[(6,.ptr 6 0),(11,.sl 2 (gps G)),(12,.ptr 12 0),(15,.ptr 15 0),(17,.int .i64 r),(18,.osl 3 204 0 (vlU (z3t S m cod m.tm.length) r j).length),(76,.sl 1 (ints R)),(77,.int .i64 R.length),(78,.int .i64 i),(82,.sl 2 (gps G)),(83,.int .i64 G.length),(84,.int .i64 j)])
      (fun j=>[(6,[.nils,.nils,.nils,.nils]),(12,[.sl 1 (z0D (z5t S m cod)),.osl 1 202 0 i,.osl 3 203 0 i,.sl 1 (ints R)]),(15,C15),(202,rwU S m cod R i),(203,nums (yU S m R i)),(204,nums (vlU (z3t S m cod m.tm.length) r j))]) (fun j=>j≤G.length) (fun j=>G.length - j) 0 (Nat.zero_le _) ?_ ?_ ?_
     ·simp [z0v,lk,vlU]
     ·rfl
     ·intro j hj
      try simp only at hj ⊢
      by_cases hlj:j<G.length
      ·have dj:decide ((j:Int)<(G.length:Int))=true:=zT9
       have ej:(j:Int).toNat=j:=Int.toNat_natCast j
       have ej1:((j:Int)+1)=((j+1:Nat):Int):=by omega
       have hw2:((gps G).drop (j*2)).take 2=gpC (G.getD j default):=z1a (j:=0) z1A default hlj (Nat.le_refl _)
       obtain ⟨_,hGV⟩:=hGok.2 j hlj
       obtain ⟨fg,cg,vg,kg,rg,pg⟩:=hGV r hok
       have hsu:=y8T (r:=r) (show j<(z3t S m cod m.tm.length).length by omega)
       obtain ⟨_,hfl⟩:=z6Z h (show j<(z3t S m cod m.tm.length).length by omega)
       obtain ⟨hf1,hf2⟩:=hfl r hrn2
       have hvj:=hvl j (by omega)
       have hj40:j*729≤40*729:=Nat.mul_le_mul_right _ (by omega)
       generalize ((z3t S m cod m.tm.length).getD j default).2 r=lv at *
       generalize G.getD j default=g at *
       generalize hV:vlU (z3t S m cod m.tm.length) r j=V at *
       have hlvl:=z1l lv
       have hlv3:lv.length*3 / 3=lv.length:=by omega
       refine zS dj ?_
       refine wTs ?_
       refine z0d ?_
       refine z0e ?_
       refine z0d ?_
       refine z0g ?_
       refine zE (zA ej (zA hll (zA hw2 (zA hga (zA hg2 (zA hgt hs2)))))) ?_
       refine ⟨⟨by omega,by omega⟩,by omega,?_⟩
       refine z0d ?_
       refine z3J [ot 88 (.fad 1 (.x 20)),ot 89 (.ld (.t 88)),om 90 17] [ox 92 (.len 3 (.x 91)),ox 93 (.mv (oi 0))] (.x 91) (.t 89) [.t 90] rfl ?_
       refine zE (zA hg1 hg2) ?_
       refine ⟨fg,cg,vg,kg,z1K pg (by rw [List.all_append,rg];rfl) ?_⟩
       refine zE (zA hlvl hlv3) ?_
       refine z0e ?_
       have u1:=z0h 20 (z9H S m cod R i)
       have u2:=z0h 20 (z07 (yU S m R i))
       have u3:=z0h 20 (z07 V)
       have pb:∀o (z:Bool),purge o (.bool z)=.bool z:=fun o z=>by simp [purge,DV.has]
       refine z2v 20 ?_
       simp (maxSteps:=1000000) (disch:=omega) only [cA,cB,cN,FnD.nb,lk,lkH,Dst.onT,Dst.onX,Dst.slot,z03,z0K,z0M,z00,z0x,z02,unE,cnt,z0l,z0w,z0m,z0o,opE,rmH,z05,z0n,Nat.reduceEqDiff,Nat.reduceLT,Nat.reduceAdd,Nat.reduceMul,Nat.reduceMod,↓reduceIte,reduceCtorEq,Nat.reduceLeDiff,rmP,pw,po,pn,ps,pi,pb,mp,u1,u2,u3]
       refine z0s (σ:=Nat) (fun k=>[(6,.ptr 6 0),(11,.sl 2 (gps G)),(12,.ptr 12 0),(15,.ptr 15 0),(17,.int .i64 r),(18,.osl 3 204 0 (V.length+k)),(76,.sl 1 (ints R)),(77,.int .i64 R.length),(78,.int .i64 i),(82,.sl 2 (gps G)),(83,.int .i64 G.length),(84,.int .i64 j),(91,.sl 3 (nums lv)),(92,.int .i64 lv.length),(93,.int .i64 k)])
        (fun k=>[(6,[.nils,.nils,.nils,.nils]),(12,[.sl 1 (z0D (z5t S m cod)),.osl 1 202 0 i,.osl 3 203 0 i,.sl 1 (ints R)]),(15,C15),(202,rwU S m cod R i),(203,nums (yU S m R i)),(204,nums (V++lv.take k))]) (fun k=>k≤lv.length) (fun k=>lv.length - k) 0 (Nat.zero_le _) ?_ ?_ ?_
       ·simp [z0v,lk,purge,DV.has]
       ·simp
       ·intro k hk
        try simp only at hk ⊢
        by_cases hlk:k<lv.length
        ·have dk:decide ((k:Int)<(lv.length:Int))=true:=zT9
         have ek:(k:Int).toNat=k:=Int.toNat_natCast k
         have ek1:((k:Int)+1)=((k+1:Nat):Int):=by omega
         have hwk:((nums lv).drop (k*3)).take 3=z0V (lv.getD k 0):=z1a (j:=0) z1o 0 hlk (Nat.le_refl _)
         have hxb:=hf2 (lv.getD k 0) (by rw [zO1,zO4 hlk];exact List.getElem_mem hlk)
         have hsn:nums (V++lv.take k)++z0V (lv.getD k 0)=nums (V++lv.take (k+1)):=by rw [z52,z0r 0 hlk,List.append_assoc]
         have ct:=x7K hxb (by decide)
         have hnl:(nums (V++lv.take k)).length=(V.length+k)*3:=by rw [z1l,List.length_append,List.length_take,show min k lv.length=k by omega]
         generalize lv.getD k 0=x at *
         have w1:=z0h 204 (z07 (V++lv.take (k+1)))
         have w2:=z0h 204 (z9H S m cod R i)
         have w3:=z0h 204 (z07 (yU S m R i))
         have w4:=z0h 204 (z1W x)
         have z1:=z0h 22 (z07 (V++lv.take (k+1)))
         have z2:=z0h 22 (z9H S m cod R i)
         have z3:=z0h 22 (z07 (yU S m R i))
         have y1:=z4K x
         have y2:=z1W x
         refine zS dk ?_
         refine wTs ?_
         refine z0d ?_
         refine z0e ?_
         refine zS (zA ek (zA hlvl (zA hwk (zA hcc (zA hn3 (zA ht3 (zA hs3 (zA hlz (zA @List.drop_zero.{0} @cS))))))))) ?_
         refine cP ct ?_
         refine zS (zA hcc (zA hn3 (zA ht3 (zA hld (zA hnl h33))))) ?_
         refine ⟨⟨by omega,by omega,fun h=>h,y1⟩,?_⟩
         rw [hsn,w1]
         refine z2v 22 ?_
         repeat (first|refine z0d ?_|refine z0g ?_|refine z0p ?_|refine z0e ?_|refine And.intro (by omega) ?_|simp (maxSteps:=1000000) (disch:=omega) only [cA,cB,cN,FnD.nb,lk,lkH,Dst.onT,Dst.onX,Dst.slot,z03,z0K,z0M,z00,z0x,z02,unE,cnt,z0l,z0w,z0m,z0o,opE,rmH,z05,z0n,Nat.reduceEqDiff,Nat.reduceLT,Nat.reduceAdd,Nat.reduceMul,Nat.reduceMod,↓reduceIte,reduceCtorEq,Nat.reduceLeDiff,rmP,pw,po,pn,ps,pi,pb,mp,pu,w2,w3,z1,z2,z3])
         exact ⟨k+1,by omega,by omega,by simp [z0v,lk,purge,DV.has,Nat.add_assoc],rfl⟩
        ·have dk:decide ((k:Int)<(lv.length:Int))=false:=zF9
         obtain rfl:k=lv.length:=by omega
         have htk:lv.take lv.length=lv:=List.take_length
         have hl2:(vlU (z3t S m cod m.tm.length) r (j+1)).length=V.length+lv.length:=by rw [hsu,List.length_append]
         rw [htk,←hsu]
         refine zS dk ?_
         refine z0k rfl (fun h=>by cases h) (fun _=>z0q ?_)
         refine zS ej1 ?_
         exact ⟨j+1,by omega,by omega,by simp [z0v,lk,hl2],rfl⟩
      ·have dj:decide ((j:Int)<(G.length:Int))=false:=zF9
       obtain rfl:j=G.length:=by omega
       have hve:vlU (z3t S m cod m.tm.length) r G.length=y61 S m cod r:=by rw [hGl];exact x9j r
       have hvj:=hvl G.length (by omega)
       have hj40:G.length*729≤40*729:=Nat.mul_le_mul_right _ (by omega)
       rw [hve] at hvj ⊢
       generalize y61 S m cod r=D at *
       have hDr:=z07 D
       have hDn:=z1l D
       refine z0E 204 (cells:=nums D) rfl (List.all_eq_true.2 hDr) ?_
       have hfz:frz 204 (nums D) (.osl 3 204 0 D.length)=.sl 3 (nums D):=by
        simp [frz,hDn]
        rw [List.take_of_length_le (by omega)]
       have fo:∀o cs z p k m,p≠o→frz o cs (.osl z p k m)=.osl z p k m:=fun o cs z p k m h=>z1q _ _ _ _ _ h
       have v1:=z0N 204 (nums D) (z9H S m cod R i)
       have v2:=z0N 204 (nums D) (z07 (yU S m R i))
       refine zS (zA dj (zA hfz (zA fp (zA fsl (zA fin (zA fel (zA fnl (zA fo (zA mf (zA v1 v2)))))))))) ?_
       refine z0k rfl (fun h=>by cases h) (fun _=>z0q ?_)
       refine zR ?_
       have hrc:r<K.ce.length:=by omega
       have hkv:((cxs K.ce).drop (r*5+1)).take 3=z0V (y5B S m r):=by
        have h1:((cxs K.ce).drop (r*5+1)).take 3=((cxC (K.ce.getD r default)).drop 1).take 3:=z1a z1C default hrc (by decide)
        rw [h1,hdy]
        show xnC (K.ce.getD r default).va=xnC (qX (xnV (K.ce.getD r default).va))
        rw [←(hKn _ (z4a hrc)).1]
       have hyb:BS (y5B S m r) 100:=by rw [hdy];exact (hKn _ (z4a hrc)).2
       refine w10 (i:=i) (r:=r) (v:=y5B S m r) (D:=nums D) (X:=rwU S m cod R i) (Y:=nums (yU S m R i)) (C:=C15) (ce:=cxs K.ce) (Z:=[.nils,.nils,.nils,.nils]) (N:=.sl 1 (z0D (z5t S m cod))) (RW:=.sl 1 (ints R)) rfl rfl rfl rfl hkl hk3 hkv (by omega) hxl hyl (by omega) (z9H _ _ _ _ _) (z07 _) hkr (List.all_eq_true.1 rfl) rfl rfl (x7K hyb (by decide)) ?_ ?_
       ·exact fun s _=>⟨x4P (by simp [DV.has]) s,x4P (by simp [DV.has]) s⟩
       ·have hq:hlR (.sl 1 (z0D (z5t S m cod))) (.sl 1 (ints R)) [.nils,.nils,.nils,.nils] C15 (rwU S m cod R i) (nums (yU S m R i)) (nums D) (z0V (y5B S m r)) i [4,16,18,20]=[(6,[DV.nils,.nils,.nils,.nils]),(12,[.sl 1 (z0D (z5t S m cod)),.osl 1 202 0 (i+1),.osl 3 203 0 (i+1),.sl 1 (ints R)]),(15,C15),(202,rwU S m cod R i++[.sl 3 (nums D)]),(203,nums (yU S m R i)++z0V (y5B S m r))]:=rfl
        rw [hq,hxs,hys]
        refine zS e1 ?_
        exact ⟨i+1,by omega,by omega,by simp [z0v,lk],rfl⟩
    ·have dl:decide ((i:Int)<(R.length:Int))=false:=zF9
     obtain rfl:i=R.length:=by omega
     have hx1:=z9H S m cod R R.length
     have hx2:=y6f (S:=S) (m:=m) (cod:=cod) (Nat.le_refl R.length)
     have hy1:=z07 (yU S m R R.length)
     have hy2:=y75 (S:=S) (m:=m) (Nat.le_refl R.length)
     have v1:=z0N 202 (rwU S m cod R R.length) hy1
     have fo:∀o cs z p k m,p≠o→frz o cs (.osl z p k m)=.osl z p k m:=fun o cs z p k m h=>z1q _ _ _ _ _ h
     generalize rwU S m cod R R.length=X at *
     generalize nums (yU S m R R.length)=Y at *
     have hfx:frz 202 X (.osl 1 202 0 R.length)=.sl 1 X:=by
      simp [frz,hx2]
      rw [List.take_of_length_le (by omega)]
     have hfy:frz 203 Y (.osl 3 203 0 R.length)=.sl 3 Y:=by
      simp [frz,hy2]
      rw [List.take_of_length_le (by omega)]
     refine z0E 202 (cells:=X) rfl (List.all_eq_true.2 hx1) ?_
     refine z0E 203 (cells:=Y) (by simp [rmH,lkH,v1]) (List.all_eq_true.2 hy1) ?_
     refine zS (zA dl (zA hfx (zA hfy (zA fp (zA fsl (zA fin (zA fel (zA fnl (zA fo mf))))))))) ?_
     refine z0k rfl (fun h=>by cases h) (fun _=>z0q ?_)
     refine zS (zA hs4 @cS) ?_
     exact z0j (z6M rfl rfl rfl (.imm (by simp [DV.rf,DV.rfL])) (.imm rfl))
end Go.Proofs.YtlcagndeidjobaaGreatDoor
namespace Go.Proofs.YtlcagndeidjobaaGreatDoor
open Tryz
open Go Go.Dat Go.Proofs Go.RowKit Nat32
theorem w4b (n:Int) (K:List DV) (cod:Int):(List.range 19).all (fun i=>(kM i).tm.all fun t=>t.all fun f=>evB mdT 1000 217 [.el [.int .i64 n,.sl 4 K,.str (kM i).rs,.bool (kM i).ic,.sl 1 (tmD (kM i).tm),.int .i64 cod] 0,.sl 2 (fcs (t.filter fun x=>!decide (x=f)))] (.bool (z99 (kM i) (t.filter fun x=>!decide (x=f)))))=true:=by kernel_rfl
theorem w1Q:(List.range 10).all (fun i=>evB mdT 2000 76 [.agg (z0U (kM i))] (.bool true))=true:=by kernel_rfl
theorem w2h:([10,11,12,13,14,15,16,17,18].all fun i=>evB mdT 2000 76 [.agg (z0U (kM i))] (.bool true))=true:=by kernel_rfl
theorem w4Z:(List.range 19).all (fun i=>evB mdT 2000 78 [.agg (z0U (kM i))] (.sl 1 (z0D (z1U (kM i)))))=true:=by kernel_rfl
theorem w4V:(List.range 12).all (fun i=>evB mdT 2000 93 [.agg (z0U (kM i))] (.bool true))=true:=by kernel_rfl
theorem w4X:(List.range 12).all (fun i=>evB mdT 2000 41 [.agg (z0U (kM i))] (.sl 1 (z0D (z1U (kM i)))))=true:=by kernel_rfl
noncomputable def woT:Tb:=([(99,efF prog Tryz.f99 [0,1,4] [1000004]),(98,efF prog Tryz.f98 [0,1,2,4,5,8,15,24] []),(172,efF prog Tryz.f172 [0,1,4,5,10,14,23] []),(130,efF prog Tryz.f130 [0,1,3,4,5,9,17] [])],[])
theorem x8C:TOK prog woT:=by
 have h:=TOK.nil (P:=prog)
 replace h:=h.f func130 [0,1,3,4,5,9,17] [] (by kernel_rfl)
 replace h:=h.f func172 [0,1,4,5,10,14,23] [] (by kernel_rfl)
 replace h:=h.f func98 [0,1,2,4,5,8,15,24] [] (by kernel_rfl)
 replace h:=h.f func99 [0,1,4] [1000004] (by kernel_rfl)
 exact h
theorem w4w:(List.range 12).all (fun i=>(kM i).tm.all fun t=>(List.range t.length).all fun j=>evB woT 400 99 [.sl 2 (fcs t),.int .i64 j] (.sl 2 (fcs (t.eraseIdx j))))=true:=by kernel_rfl
theorem w5g:(List.range 12).all (fun i=>(kM i).tm.all fun t=>(List.range t.length).all fun j=>evB woT 1000 98 [.agg (z0U (kM i)),.sl 2 (fcs (t.eraseIdx j))] (.bool (z99 (kM i) (t.filter fun x=>!decide (x=t.getD j default)))))=true:=by kernel_rfl
section
variable {Y X G H:List Int} {n:Nat}
theorem y6t (hn:n=min Y.length 10):okT (z95 Y X G H):=by
 refine ⟨(by decide:4≤1000000),fun k hk=>?_⟩
 have hc:∀c∈k.ce,y8q c.va:=y3U (p:=fun c=>y8q c.va) x93 w2F k hk
 have h1:k.nm.length≤9223372036854775807∧k.le.length≤1000000∧k.ce.length≤1000000:=by
  refine z3Q (p:=fun k=>k.nm.length≤9223372036854775807∧k.le.length≤1000000∧k.ce.length≤1000000) hn ?_ ?_ ?_ ?_ k hk
  ·exact ⟨Nat.le_of_ble_eq_true rfl,Nat.le_of_ble_eq_true rfl,by rw [z6Q];omega⟩
  ·exact ⟨Nat.le_of_ble_eq_true rfl,Nat.le_of_ble_eq_true rfl,by rw [z6Q];omega⟩
  ·exact ⟨Nat.le_of_ble_eq_true rfl,Nat.le_of_ble_eq_true rfl,by rw [z6n];omega⟩
  ·exact ⟨Nat.le_of_ble_eq_true rfl,Nat.le_of_ble_eq_true rfl,by rw [z6n];omega⟩
 exact ⟨h1.1,h1.2.1,h1.2.2,hc⟩
theorem x31 (z:Int) {k:Kx} (h:k.kd=1):x0Z k (y0i z)=true:=by
 unfold x0Z
 rw [if_neg (show ¬(y0i z).mi=true from Bool.false_ne_true),if_pos h]
 have:z5p (y0i z).va.1 (y0i z).va.2.1 (y0i z).va.2.2=true:=x4J _
 rw [this]
 rfl
theorem x3O (z m:Int) {k:Kx} (h:k.kd=2) (hm:(k.le.length:Int)=m) (h0:0<m):x0Z k (lvT z m)=true:=by
 have hz0:x8B (false,[],[])=true:=rfl
 unfold x0Z lvT
 by_cases hz:z<0
 ·rw [if_pos hz,if_pos rfl,hz0];rfl
 ·rw [if_neg hz,if_neg Bool.false_ne_true,if_neg (by omega),hz0]
  have h1:=Int.tmod_nonneg m (show 0≤z by omega)
  have h2:=Int.tmod_lt_of_pos z h0
  simp only [Bool.true_and,Bool.and_eq_true,decide_eq_true_eq]
  omega
theorem y5A (hn:n=min Y.length 10):x2C n (z95 Y X G H)=true:=by
 have hc:∀k∈z95 Y X G H,y5X k n=true:=by
  refine z3Q hn ?_ ?_ ?_ ?_
  ·unfold y5X;rw [y3h,y2A fun z=>x31 z rfl];rfl
  ·unfold y5X;rw [y3h,y2A fun z=>x31 z rfl];rfl
  ·unfold y5X;rw [y2g _ _ _ _ _ (by decide),x4h,y2O fun z=>x3O z 3 rfl rfl (by decide)];rfl
  ·unfold y5X;rw [y2g _ _ _ _ _ (by decide),x7N,y2O fun z=>x3O z 2 rfl rfl (by decide)];rfl
 unfold x2C
 rw [y6P,y42,List.all_eq_true.2 hc]
 simp only [Bool.and_true,Bool.and_eq_true,decide_eq_true_eq]
 refine ⟨⟨by omega,by omega⟩,?_⟩
 show 4≤32
 decide
def mdB (m:Mdl):Bool:=decide (m.rs=[121]) && decide (m.tm.length≤32) && decide ((z1U m).length≤1000) && (z1U m).all (fun s=>decide (0≤ixS [[121],[120],[103],[104]] s)) && m.tm.all (fun t=>decide (1≤t.length) && decide (t.length≤6) && t.all fun f=>decide (1≤f.pw) && decide (f.pw≤8) && (decide (f.pw=1) || decide (f.nm=[120])))
theorem w2E:(List.range 19).all (fun i=>mdB (kM i))=true:=by decide +kernel
theorem y7V {i:Nat} (hi:i<19):(kM i).rs=[121]∧(kM i).tm.length≤32∧(z1U (kM i)).length≤1000∧(∀s∈z1U (kM i),0≤ixS [[121],[120],[103],[104]] s)∧∀t∈(kM i).tm,(1≤t.length∧t.length≤6)∧∀f∈t,(1≤f.pw∧f.pw≤8)∧(f.pw=1∨f.nm=[120]):=by
 have h:=List.all_eq_true.1 w2E i (List.mem_range.2 hi)
 unfold mdB at h
 simp only [Bool.and_eq_true,Bool.or_eq_true,decide_eq_true_eq,List.all_eq_true] at h
 obtain ⟨⟨⟨⟨h1,h2⟩,h3⟩,h4⟩,h5⟩:=h
 exact ⟨h1,h2,h3,h4,h5⟩
theorem w4E (hn:n=min Y.length 10) {i cod:Nat} (hi:i<19) (hc:1≤cod∧cod≤4):DKt n (z95 Y X G H) (kM i) cod:=by
 obtain ⟨h1,h2,h3,h4,h5⟩:=y7V hi
 refine ⟨y6t hn,y71 hn,fun s hs=>by rw [y6P];exact h4 s hs,hc,fun t ht f hf=>((h5 t ht).2 f hf).1,⟨h2,fun t ht=>(h5 t ht).1⟩,?_,?_,?_,?_,?_⟩
 ·refine z3Q hn ?_ ?_ ?_ ?_
  ·exact ⟨Nat.le_of_ble_eq_true rfl,fun s hs=>absurd hs List.not_mem_nil⟩
  ·exact ⟨Nat.le_of_ble_eq_true rfl,fun s hs=>absurd hs List.not_mem_nil⟩
  ·exact ⟨Nat.le_of_ble_eq_true rfl,fun s hs=>by simp only [List.mem_cons,List.not_mem_nil,or_false] at hs;rcases hs with rfl|rfl|rfl<;>decide⟩
  ·exact ⟨Nat.le_of_ble_eq_true rfl,fun s hs=>by simp only [List.mem_cons,List.not_mem_nil,or_false] at hs;rcases hs with rfl|rfl<;>decide⟩
 ·exact y3U (p:=fun c=>c.va=qX (xnV c.va)∧BS (xnV c.va) 100) w1K w4S
 ·refine z3Q hn ?_ ?_ ?_ ?_
  ·exact fun h=>absurd rfl h
  ·exact fun h=>absurd rfl h
  ·exact fun _=>⟨Nat.le_of_ble_eq_true rfl,Nat.le_of_ble_eq_true rfl⟩
  ·exact fun _=>⟨Nat.le_of_ble_eq_true rfl,Nat.le_of_ble_eq_true rfl⟩
 ·intro t ht f hf
  have h:=List.all_eq_true.1 (w4b n (kxs (z95 Y X G H)) cod) i (List.mem_range.2 hi)
  exact z1j z2f (List.all_eq_true.1 (List.all_eq_true.1 h t ht) f hf)
 ·refine z3Q hn ?_ ?_ ?_ ?_
  ·exact fun h=>absurd rfl h
  ·exact fun h=>absurd rfl h
  ·intro _ c c1 c2
   have hk:ctK [.int .i64 (c:Int),.int .i64 ((3:Nat):Int)]=some (ctD c 3):=by
    unfold ctK;simp only;rw [if_pos (by omega),Int.toNat_natCast];rfl
   exact z6S _ _ hk
  ·intro _ c c1 c2
   have hk:ctK [.int .i64 (c:Int),.int .i64 ((2:Nat):Int)]=some (ctD c 2):=by
    unfold ctK;simp only;rw [if_pos (by omega),Int.toNat_natCast];rfl
   exact z6S _ _ hk
theorem w4A (hn:n=min Y.length 10) {i:Nat} (hi:i<19):DX n (z95 Y X G H) (kM i):=by
 obtain ⟨h1,h2,h3,h4,h5⟩:=y7V hi
 refine ⟨?_,z1j z2f (List.all_eq_true.1 w4Z i (List.mem_range.2 hi)),h3,by rw [h1];rfl,fun t ht f hf h=>?_,by omega⟩
 ·by_cases h10:i<10
  ·exact z1j z2f (List.all_eq_true.1 w1Q i (List.mem_range.2 h10))
  ·refine z1j z2f (List.all_eq_true.1 w2h i ?_)
   simp only [List.mem_cons,List.not_mem_nil,or_false]
   omega
 ·rcases ((h5 t ht).2 f hf).2 with e|e
  ·exact absurd e h
  ·rw [e];rfl
theorem w4h (hn:n=min Y.length 10) {i:Nat} (hi:i<12):DE n (z95 Y X G H) (kM i):=by
 refine ⟨y5A hn,fun t ht j hj=>?_,fun t ht j hj=>?_,z1j z2f (List.all_eq_true.1 w4V i (List.mem_range.2 hi)),z1j z2f (List.all_eq_true.1 w4X i (List.mem_range.2 hi)),?_⟩
 ·have h:=List.all_eq_true.1 w4w i (List.mem_range.2 hi)
  exact z1j x8C (List.all_eq_true.1 (List.all_eq_true.1 h t ht) j (List.mem_range.2 hj))
 ·have h:=List.all_eq_true.1 w5g i (List.mem_range.2 hi)
  exact z1j x8C (List.all_eq_true.1 (List.all_eq_true.1 h t ht) j (List.mem_range.2 hj))
 ·refine z3Q hn ?_ ?_ ?_ ?_
  ·exact fun h=>absurd rfl h
  ·exact fun h=>absurd rfl h
  ·exact fun _=>.inr rfl
  ·exact fun _=>.inl rfl
theorem w2u (Y X G H:List Int):(List.range 19).all (fun i=>[1,2,3,4].all fun c:Nat=>decide (z72 (z95 Y X G H) (kM i) c (kM i).tm.length≤12))=true:=by kernel_rfl
theorem w44 {i cod:Nat} (hi:i<19) (hc:1≤cod∧cod≤4):z72 (z95 Y X G H) (kM i) cod (kM i).tm.length≤12:=by
 have h:=List.all_eq_true.1 (List.all_eq_true.1 (w2u Y X G H) i (List.mem_range.2 hi)) cod (by simp only [List.mem_cons,List.not_mem_nil,or_false];omega)
 exact of_decide_eq_true h
end
end Go.Proofs.YtlcagndeidjobaaGreatDoor
namespace Go.Proofs.YtlcagndeidjobaaGreatDoor
open Tryz
open Go Go.Dat Go.Proofs Go.RowKit Nat32
theorem x5D {l:List Rat} {i:Nat} (h:i<l.length):((nums l).drop (i*3)).take 3=z0V (l.getD i 0):=by
 exact z1a (j:=0) (k:=3) z1o (0:Rat) h (by decide)
theorem z7I (l:List Rat) (m:Nat) (hk:l.length≤1000) (hf:∀x∈l,BS x m) (hm:m≤288000):z0c prog 17 [.sl 3 (nums l),.sl 3 (nums l)] (.bool true):=by
 have hlen:=z1l l
 have hln:l.length*3 / 3=l.length:=by omega
 have d0:decide (¬(l.length:Int)=(l.length:Int))=false:=zF9
 refine z0b y7y (by simp [z9G]) ?_
 unfold z5S
 refine zS (zA hlen (zA hln d0)) ?_
 refine wFs ?_
 refine zR ?_
 refine z0s (σ:=Nat) (fun i=>[(0,.sl 3 (nums l)),(1,.sl 3 (nums l)),(5,.int .i64 i)]) (fun _=>[]) (fun i=>i≤l.length) (fun i=>l.length - i) 0 (Nat.zero_le _) ?_ rfl ?_
 ·simp [z0v,lk]
 ·intro i hi
  try simp only at hi ⊢
  by_cases hlt:i<l.length
  ·have dl:decide ((i:Int)<(l.length:Int))=true:=zT9
   have ei:(i:Int).toNat=i:=Int.toNat_natCast i
   have e1:((i:Int)+1)=((i+1:Nat):Int):=by omega
   have hw:=x5D hlt
   have hmem:l.getD i 0∈l:=by rw [zO1,zO4 hlt];exact List.getElem_mem _
   have hb:RB (l.getD i 0) 9000:=x1X (hf _ hmem) (by omega)
   have cs:z0c prog 29 [.agg (z0V (l.getD i 0)),.agg (z0V (l.getD i 0))] (.bool true):=by
    have:=x7C (l.getD i 0) (l.getD i 0) hb hb
    rwa [decide_eq_true rfl] at this
   refine zS (zA dl (zA hlen hln)) ?_
   refine wTs ?_
   refine zS (zA ei (zA hlen (zA hw @List.drop_zero.{0}))) ?_
   refine cP cs ?_
   refine zR ?_
   refine wFs ?_
   refine zS e1 ?_
   exact ⟨i+1,by omega,by omega,by simp [z0v,lk]⟩
  ·have dl:decide ((i:Int)<(l.length:Int))=false:=zF9
   refine zS (zA dl (zA hlen hln)) ?_
   refine z0k rfl (fun h=>by cases h) (fun _=>z0q ?_)
   refine zR ?_
   exact z0j (z0i (.imm rfl))
theorem y2z (x:List (List Rat)) (m:Nat) (hn:x.length≤1000) (hk:∀l∈x,l.length≤1000∧∀v∈l,BS v m) (hm:m≤288000):z0c prog 23 [.sl 1 (z39 x),.sl 1 (z39 x)] (.bool true):=by
 have hln:=z3E x
 have d0:decide (¬(x.length:Int)=(x.length:Int))=false:=zF9
 refine z0b y5d (by simp [z7e]) ?_
 unfold z4X
 refine zS (zA hln d0) ?_
 refine wFs ?_
 refine zR ?_
 refine z0s (σ:=Nat) (fun i=>[(0,.sl 1 (z39 x)),(1,.sl 1 (z39 x)),(5,.int .i64 i)]) (fun _=>[]) (fun i=>i≤x.length) (fun i=>x.length - i) 0 (Nat.zero_le _) ?_ rfl ?_
 ·simp [z0v,lk]
 ·intro i hi
  try simp only at hi ⊢
  by_cases hlt:i<x.length
  ·have dl:decide ((i:Int)<(x.length:Int))=true:=zT9
   have ei:(i:Int).toNat=i:=Int.toNat_natCast i
   have e1:((i:Int)+1)=((i+1:Nat):Int):=by omega
   have hg:=z8b hlt .undef
   have hmem:x.getD i []∈x:=by rw [zO1,zO4 hlt];exact List.getElem_mem _
   have cs:=z7I (x.getD i []) m (hk _ hmem).1 (hk _ hmem).2 hm
   refine zS (zA dl hln) ?_
   refine wTs ?_
   refine zS (zA ei (zA hln hg)) ?_
   refine cP cs ?_
   refine zR ?_
   refine wFs ?_
   refine zS e1 ?_
   exact ⟨i+1,by omega,by omega,by simp [z0v,lk]⟩
  ·have dl:decide ((i:Int)<(x.length:Int))=false:=zF9
   refine zS (zA dl hln) ?_
   refine z0k rfl (fun h=>by cases h) (fun _=>z0q ?_)
   refine zR ?_
   exact z0j (z0i (.imm rfl))
theorem y1Q (R:List Nat) (hn:R.length≤1000):z0c prog 18 [.sl 1 (ints R),.sl 1 (ints R)] (.bool true):=by
 have hln:=z2p R
 have d0:decide (¬(R.length:Int)=(R.length:Int))=false:=zF9
 refine z0b y4s (by simp [z7f]) ?_
 unfold z4Y
 refine zS (zA hln d0) ?_
 refine wFs ?_
 refine zR ?_
 refine z0s (σ:=Nat) (fun i=>[(0,.sl 1 (ints R)),(1,.sl 1 (ints R)),(5,.int .i64 i)]) (fun _=>[]) (fun i=>i≤R.length) (fun i=>R.length - i) 0 (Nat.zero_le _) ?_ rfl ?_
 ·simp [z0v,lk]
 ·intro i hi
  try simp only at hi ⊢
  by_cases hlt:i<R.length
  ·have dl:decide ((i:Int)<(R.length:Int))=true:=zT9
   have ei:(i:Int).toNat=i:=Int.toNat_natCast i
   have e1:((i:Int)+1)=((i+1:Nat):Int):=by omega
   have hg:=z55 hlt .undef
   generalize R.getD i 0=r at *
   have dn:decide (¬(r:Int)=(r:Int))=false:=zF9
   refine zS (zA dl hln) ?_
   refine wTs ?_
   refine zS (zA ei (zA hln (zA hg dn))) ?_
   refine wFs ?_
   refine zS e1 ?_
   exact ⟨i+1,by omega,by omega,by simp [z0v,lk]⟩
  ·have dl:decide ((i:Int)<(R.length:Int))=false:=zF9
   refine zS (zA dl hln) ?_
   refine z0k rfl (fun h=>by cases h) (fun _=>z0q ?_)
   refine zR ?_
   exact z0j (z0i (.imm rfl))
def dsD (N:List Bs) (x:List (List Rat)) (y:List Rat) (R:List Nat):List DV:=[.sl 1 (z0D N),.sl 1 (z39 x),.sl 3 (nums y),.sl 1 (ints R)]
theorem y5Q (N:List Bs) (x:List (List Rat)) (y:List Rat) (R:List Nat) (m:Nat) (hN:N.length≤1000) (hn:x.length≤1000) (hk:∀l∈x,l.length≤1000∧∀v∈l,BS v m) (hm:m≤288000) (hy:y.length≤1000) (hyv:∀v∈y,BS v m) (hR:R.length≤1000) :
  z0c prog 15 [.agg (dsD N x y R),.agg (dsD N x y R)] (.bool true):=by
 have c1:=y2z x m hn hk hm
 have c2:=z7I y m hy hyv hm
 have c3:=y1Q R hR
 have hl:=z0z N
 have hcd:(DV.agg (dsD N x y R)).cells? = some (dsD N x y R):=rfl
 have hd4:(dsD N x y R).length=4:=rfl
 have ht4:(dsD N x y R).take 4=dsD N x y R:=rfl
 have hd0:∀z,(dsD N x y R).getD 0 z=.sl 1 (z0D N):=fun _=>rfl
 have hd1:∀z,(dsD N x y R).getD 1 z=.sl 1 (z39 x):=fun _=>rfl
 have hd2:∀z,(dsD N x y R).getD 2 z=.sl 3 (nums y):=fun _=>rfl
 have hd3:∀z,(dsD N x y R).getD 3 z=.sl 1 (ints R):=fun _=>rfl
 have hs4:∀(a b c d:DV) (C:List DV),List.take 0 [a,b,c,d]++C++List.drop 4 [a,b,c,d]=C:=fun _ _ _ _ _=>by simp
 generalize dsD N x y R=D at *
 refine z0b x5k (by simp [y8y]) ?_
 unfold y1m
 have d0:decide (¬(N.length:Int)=(N.length:Int))=false:=by simp
 have dnt:∀[h:Decidable (¬True)],@decide (¬True) h=false:=by intro h;exact decide_eq_false (fun g=>g trivial)
 refine zS (zA hcd (zA hd4 (zA ht4 (zA hd0 (zA hs4 (zA hl (zA dnt (zA @cS @List.drop_zero.{0})))))))) ?_
 refine wFs ?_
 refine zR ?_
 refine z0s (σ:=Nat) (fun i=>[(2,.ptr 2 0),(3,.ptr 3 0),(5,.int .i64 i)]) (fun _=>[(2,D),(3,D)]) (fun i=>i≤N.length) (fun i=>N.length - i) 0 (Nat.zero_le _) ?_ rfl ?_
 ·simp [z0v,lk]
 ·intro i hi
  try simp only at hi ⊢
  by_cases hlt:i<N.length
  ·have dl:decide ((i:Int)<(N.length:Int))=true:=zT9
   have ei:(i:Int).toNat=i:=Int.toNat_natCast i
   have e1:((i:Int)+1)=((i+1:Nat):Int):=by omega
   have hg:=z0Q hlt
   have dn0:decide (¬N.getD i []=N.getD i [])=false:=by simp
   generalize N.getD i []=z at *
   refine zS (zA hd4 (zA hd0 (zA hl dl))) ?_
   refine wTs ?_
   refine zS (zA hd4 (zA hd0 (zA hl (zA hg (zA ei (zA dn0 dnt)))))) ?_
   refine z0k (b:=false) (by simp [ev,lk]) (fun h=>by cases h) (fun _=>z0G ?_)
   refine zS e1 ?_
   exact ⟨i+1,by omega,by omega,by simp [z0v,lk]⟩
  ·have dl:decide ((i:Int)<(N.length:Int))=false:=zF9
   refine zS (zA hd4 (zA hd0 (zA hl dl))) ?_
   refine z0k rfl (fun h=>by cases h) (fun _=>z0q ?_)
   refine zS (zA hd4 hd1) ?_
   refine cP c1 ?_
   refine zS (zA hd4 hd2) ?_
   refine cP c2 ?_
   refine zS (zA hd4 hd3) ?_
   refine cP c3 ?_
   refine zR ?_
   exact z0j (z0i (.imm rfl))
def x8Q:List Bs:=[[121,32,126,32,120],[121,32,126,32,103],[121,32,126,32,48,32,43,32,103],[121,32,126,32,120,32,42,32,103],[121,32,126,32,103,32,42,32,104],[121,32,126,32,103,32,47,32,104],[121,32,126,32,103,58,104],[121,32,126,32,120,32,43,32,104,32,45,32,49],
 [121,32,126,32,112,111,119,101,114,40,120,44,32,50,41,32,43,32,120],[121,32,126,32,120,58,103,32,43,32,120],[121,32,126,32,49],[121,32,126,32,103,32,43,32,104,32,43,32,120]]
noncomputable def txT:Tb:=([(10,efF prog Tryz.f10 [0] [])],[])
theorem w3q:TOK prog txT:=by
 have h:=TOK.nil (P:=prog)
 replace h:=h.f func10 [0] [] (by kernel_rfl)
 exact h
theorem y0w:z0c prog 10 [] (.sl 1 (z0D x8Q)):=z1j w3q (n:=200) (by kernel_rfl)
theorem x0k {P:Program} {f:Nat} {ds:List DV} {r r':DV} (h:WkD r r') (hc:z0c P f ds r):z0c P f ds r':=by
 intro A w us hT hA hs hv
 refine (hc A w us hT hA hs hv).mono ?_
 rintro e w' ⟨v,h1,h2,h3⟩
 exact ⟨v,h1,h w' A v h2,h3⟩
theorem w3M {i:Nat} (hi:i<12):z0c prog 9 [.str (x8Q.getD i [])] (.agg (z0U (kM i))):=by
 obtain rfl|rfl|rfl|rfl|rfl|rfl|rfl|rfl|rfl|rfl|rfl|rfl:i=0∨i=1∨i=2∨i=3∨i=4∨i=5∨i=6∨i=7∨i=8∨i=9∨i=10∨i=11:=by omega
 ·exact w5d
 ·exact w4n
 ·exact w4Q
 ·exact w46
 ·exact w4z
 ·exact w4K
 ·exact w4m
 ·exact w4I
 ·exact w4t
 ·exact w4L
 ·exact x0k (WkD.agg (.cons (WkD.refl _) (.cons (WkD.refl _) (.cons (WkD.nils 1) .nil)))) w3Z
 ·exact w1O
theorem y8s:z0c prog 15 [.agg [.nils,.nils,.nils,.nils],.agg [.nils,.nils,.nils,.nils]] (.bool true):=by
 have h:WkD (.agg [.nils,.nils,.nils,.nils]) (.agg (dsD [] [] [] [])):=WkD.agg (.cons (WkD.nils 1) (.cons (WkD.nils 1) (.cons (WkD.nils 3) (.cons (WkD.nils 1) .nil))))
 exact z4r (.cons h (.cons h .nil)) (y5Q [] [] [] [] 0 (by decide) (by decide) (fun l h=>absurd h List.not_mem_nil) (by decide) (by decide) (fun l h=>absurd h List.not_mem_nil) (by decide))
theorem x4S (n:Nat) (S:List Kx) (m:Mdl) (cod:Int):x5f n S m cod=.agg (dsD (z5t S m cod) ((z1z n S m).map (y61 S m cod)) ((z1z n S m).map (y5B S m)) (z1z n S m)):=by
 unfold x5f dsD z39
 rw [List.map_map]
 rfl
theorem w3d {n:Nat} {S:List Kx} {m:Mdl} {cod:Nat} (h:DKt n S m cod) {r:Nat} (hr:r<n):∀x∈y61 S m cod r,BS x 6000:=by
 intro x hx
 unfold y61 at hx
 rcases List.mem_append.1 hx with hx|hx
 ·unfold icV at hx
  split at hx
  ·rw [List.mem_singleton.1 hx];exact BS.mono (x7R (z:=1) (by decide)) (by decide)
  ·exact absurd hx List.not_mem_nil
 ·obtain ⟨t,ht,hx⟩:=List.mem_flatMap.1 hx
  exact (x7W h (List.mem_filter.1 ht).1).2 r hr x hx
theorem x5r {n:Nat} {S:List Kx} {m:Mdl} {cod:Nat} (h:DKt n S m cod) (he:DE n S m) (hn:n≤64) (hw:z72 S m cod m.tm.length≤12) :
  z0c prog 15 [x5f n S m cod,x5f n S m cod] (.bool true):=by
 have hp:=x79 h he
 have hl:(z5t S m cod).length≤12:=by
  rw [←y8m hp,z8f hp (fun t ht=>(h.tl.2 t ht).1) (Nat.le_refl _)];exact hw
 have hRn:(z1z n S m).length≤n:=z5N _ _
 rw [x4S]
 refine y5Q _ _ _ _ 6000 (by omega) (by rw [List.length_map];omega) (fun l hl2=>?_) (by decide) (by rw [List.length_map];omega) (fun v hv=>?_) (by omega)
 ·obtain ⟨r,hr,rfl⟩:=List.mem_map.1 hl2
  refine ⟨by rw [x5U];omega,w3d h (y2x hr).1⟩
 ·obtain ⟨r,hr,rfl⟩:=List.mem_map.1 hv
  have hkm:=z3Y (h.vs m.rs List.mem_cons_self)
  have hl:=(z4F h.tv hkm).2.1
  have hrn:=(y2x hr).1
  exact BS.mono (h.nu _ hkm _ (z4a (by omega))).2 (by decide)
theorem x0z {Y X G H:List Int} {n i:Nat} (hn:n=min Y.length 10) (hi:i<12) (cod:Int):∃(L:List DV) (e:Int),(DV.agg L).cells? = some L∧L.length=4∧(∀d∈L,d.rf=true) ∧
  z0c prog 12 [.agg [.int .i64 n,.sl 4 (kxs (z95 Y X G H))],.agg (z0U (kM i)),.int .i64 cod] (.tup [.agg L,.int .i64 e]) ∧
  z0c prog 13 [.agg [.int .i64 n,.sl 4 (kxs (z95 Y X G H))],.agg (z0U (kM i)),.int .i64 cod] (.tup [.agg L,.int .i64 e])∧z0c prog 15 [.agg L,.agg L] (.bool true):=by
 have hX:=w4A (X:=X) (G:=G) (H:=H) hn (show i<19 by omega)
 have hE:=w4h (X:=X) (G:=G) (H:=H) hn hi
 by_cases hc:cod<1∨4<cod
 ·exact ⟨[.nils,.nils,.nils,.nils],1,rfl,rfl,List.all_eq_true.1 rfl,y3B (y6t hn) (y71 hn) hX.mv hc,y5f (y6t hn) (y5A hn) hE.wv hc,y8s⟩
 obtain ⟨c,rfl⟩:∃c:Nat,cod=c:=⟨cod.toNat,by omega⟩
 have hc4:1≤c∧c≤4:=by omega
 have hK:=w4E (X:=X) (G:=G) (H:=H) hn (show i<19 by omega) hc4
 have hw:=w44 (Y:=Y) (X:=X) (G:=G) (H:=H) (show i<19 by omega) hc4
 have a:=y0f hK hX hw
 have b:=y0b hK hX hE hw
 by_cases hR:(z1z n (z95 Y X G H) (kM i)).length=0
 ·rw [if_pos hR] at a b
  exact ⟨[.nils,.nils,.nils,.nils],10,rfl,rfl,List.all_eq_true.1 rfl,a,b,y8s⟩
 ·rw [if_neg hR] at a b
  have s:=x5r hK hE (by omega) hw
  rw [x4S] at a b s
  exact ⟨_,0,rfl,rfl,List.all_eq_true.1 rfl,a,b,s⟩
theorem y4E (Y X G H:List Int) (wh cod:Int) (hY:Y.length≤9223372036854775807) (hX:X.length≤9223372036854775807) (hG:G.length≤9223372036854775807) (hH:H.length≤9223372036854775807)
  (bY:∀z∈Y,-9223372036854775808≤z∧z≤9223372036854775807) (bX:∀z∈X,-9223372036854775808≤z∧z≤9223372036854775807) (bG:∀z∈G,-9223372036854775808≤z∧z≤9223372036854775807) (bH:∀z∈H,-9223372036854775808≤z∧z≤9223372036854775807) :
  z0c prog 3 [.agg [.sl 1 (Y.map (.int .i64)),.sl 1 (X.map (.int .i64)),.sl 1 (G.map (.int .i64)),.sl 1 (H.map (.int .i64))],.int .i64 wh,.int .i64 cod] (.bool true):=by
 have hA:=y0l
 have cT:=y2E Y X G H hY hX hG hH bY bX bG bH
 have cx:=y0w
 have cm:=x1M wh 12 (by decide) (by decide)
 obtain ⟨i,hi⟩:∃i:Nat,wh % ((12:Nat):Int)=i:=⟨(wh % ((12:Nat):Int)).toNat,by omega⟩
 have hi12:i<12:=by omega
 rw [hi] at cm
 have cmd:=w3M hi12
 obtain ⟨L,e,hLc,hL4,hLr,cb,cd,cs⟩:=x0z (Y:=Y) (X:=X) (G:=G) (H:=H) rfl hi12 cod
 have hlt:(z0D x8Q).length=12:=rfl
 have hg:(z0D x8Q).getD i .undef=.str (x8Q.getD i []):=z0Q (by exact hi12)
 have hcm:(DV.agg (z0U (kM i))).cells? = some (z0U (kM i)):=rfl
 have hm3:(z0U (kM i)).length=3:=rfl
 have hmr:∀d∈z0U (kM i),d.rf=true:=List.all_eq_true.1 rfl
 generalize min Y.length 10=n at *
 generalize kxs (z95 Y X G H)=T at *
 generalize z0U (kM i)=M at *
 generalize x8Q.getD i []=s at *
 generalize z0D x8Q=tx at *
 have ei:(i:Int).toNat=i:=Int.toNat_natCast i
 have hRc:(DV.agg [.sl 1 (Y.map (.int .i64)),.sl 1 (X.map (.int .i64)),.sl 1 (G.map (.int .i64)),.sl 1 (H.map (.int .i64))]).cells? = some [.sl 1 (Y.map (.int .i64)),.sl 1 (X.map (.int .i64)),.sl 1 (G.map (.int .i64)),.sl 1 (H.map (.int .i64))]:=rfl
 have hRr:([.sl 1 (Y.map (.int .i64)),.sl 1 (X.map (.int .i64)),.sl 1 (G.map (.int .i64)),.sl 1 (H.map (.int .i64))]:List DV).all DV.rf=true:=rfl
 have hR4:([.sl 1 (Y.map (.int .i64)),.sl 1 (X.map (.int .i64)),.sl 1 (G.map (.int .i64)),.sl 1 (H.map (.int .i64))]:List DV).length=4:=rfl
 generalize ([.sl 1 (Y.map (.int .i64)),.sl 1 (X.map (.int .i64)),.sl 1 (G.map (.int .i64)),.sl 1 (H.map (.int .i64))]:List DV)=RR at *
 have hRt:RR.take 4=RR:=List.take_of_length_le (by omega)
 have hLt:L.take 4=L:=List.take_of_length_le (by omega)
 have hMt:M.take 3=M:=List.take_of_length_le (by omega)
 have hTc:(DV.agg [.int .i64 n,.sl 4 T]).cells? = some [.int .i64 n,.sl 4 T]:=rfl
 have hz2:∀(a b:DV) (C:List DV),List.take 0 [a,b]++C++List.drop 2 [a,b]=C:=fun _ _ _=>by simp
 have hz3:∀(a b c:DV) (C:List DV),List.take 0 [a,b,c]++C++List.drop 3 [a,b,c]=C:=fun _ _ _ _=>by simp
 have hs4:∀(a b c d:DV) (C:List DV),List.take 0 [a,b,c,d]++C++List.drop 4 [a,b,c,d]=C:=fun _ _ _ _ _=>by simp
 have hrf:[DV.agg [.int .i64 n,.sl 4 T],.agg M,.int .i64 cod].all DV.rf=true:=by
  simp only [List.all_cons,DV.rf_agg,List.all_eq_true.2 hmr];rfl
 have hrf2:[DV.agg L,.agg L].all DV.rf=true:=by
  simp only [List.all_cons,DV.rf_agg,List.all_eq_true.2 hLr];rfl
 refine z0b z2V (by simp [z1F]) ?_
 unfold z1x
 refine zS (zA hRc (zA hR4 (zA hRt (zA @List.drop_zero.{0} @cS)))) ?_
 refine z0C cT (by simp only [List.all_cons,DV.rf_agg,hRr];rfl) ?_
 refine zR ?_
 refine cP cx ?_
 refine zR ?_
 refine cP cx ?_
 refine zS hlt ?_
 refine cP cm ?_
 refine zS (zA hlt (zA ei hg)) ?_
 refine cP cmd ?_
 refine zS (zA hTc (zA hcm (zA hm3 (zA hMt (zA hz2 (zA hz3 (zA @List.drop_zero.{0} @cS))))))) ?_
 refine z0C cb hrf ?_
 refine zS (zA hLc (zA hL4 (zA hLt (zA hs4 (zA hm3 (zA hMt (zA @List.drop_zero.{0} @cS))))))) ?_
 refine z0C cd hrf ?_
 refine zS (zA hLc (zA hL4 (zA hLt (zA hs4 (zA @List.drop_zero.{0} @cS))))) ?_
 refine cP hA ?_
 refine zS (zA hL4 (zA hLt @List.drop_zero.{0})) ?_
 refine z0C cs hrf2 ?_
 refine zR ?_
 exact z0j (z0i (.imm rfl))
theorem w1U {f:Nat} {ds:List DV} {vs:Array Value} {w:World} (hc:z0c prog f ds (.bool true)) (hT:Tab prog w) (hs:vs.size=ds.length) (hv:∀(k:Nat) d v,ds[k]? = some d→vs[k]? = some v→VI w (fun _=>False) d v) :
  Calls prog f vs w fun e w'=>e=.returned (.bool true)∧Below w.heap.size w w':=by
 refine (hc (fun _=>False) w vs hT (fun b h=>h.elim) hs hv).mono ?_
 rintro e w' ⟨v,rfl,hvi,hx⟩
 refine ⟨?_,hx.os,hx.tape,hx.output,hx.size,fun k hk=>hx.block k hk id⟩
 cases hvi;rfl
theorem y9W {w:World} (h:w.ShapedOpen prog):∀g,prog.globalNamed y1Z=some g→g<w.heap.size∧∃m,w.cell? ⟨g,0,none⟩=some (.int .i64 m):=by
 intro g hg
 rw [show prog.globalNamed y1Z=none by kernel_rfl] at hg
 cases hg
theorem z6E {H:Type} {enc:TypeId × Value→H} {a:Assume} {C:Checked} {os:Os} {f:FuncId} {fn:Func} {s:ChangeSpec} {conds:List PathCond} {apart fresh handsOn again:Bool} {X:World→Array Value→Prop}
  (hX:∀(w w':World) (args:Array Value),w.heap=w'.heap→X w args→X w' args)
  (own:ownKnob C.prog.godebug=none) (started:os.Started) (noInit:C.prog.inits.idxOf? f=none) (hfn:C.prog.funcs[f]? = some fn)
  (witness:∃(w:World) (tape:Tape) (i:Input),w.os=os∧(w.forCall tape i).Shaped C.prog∧i.vars=[]∧Input.okWide C.prog (w.forCall tape i) .any w.heap.size f i ∧
   ((s.pre enc C.prog fn conds apart (w.forCall tape i).memory i.args∧X (w.forCall tape i).memory i.args)∧sizedMet enc C.prog fn (OpenSpec.ofChange s) apart (w.forCall tape i).memory i.args)∧a.holds C.prog (lone (Frame.enter C.prog f i.args .normal) [] (w.forCall tape i)))
  (contract:∀(W:World) (base:Nat) (args:Array Value) (ds gs:List (DataW H)) (before:List MemPlace),
   (∀(j:Nat) t v,fn.params[j]? = some t→args[j]? = some v→Value.okWide C.prog W .any base t v) →
   DataW.Whole enc C.prog fn.params.toList s.vars apart W args.toList ds gs before→X W args→W.ShapedOpen C.prog →
   Calls C.prog f args W fun e W'=>∃v,e=.returned v∧s.post enc C.prog fn apart fresh handsOn again W args v W') :
  ReturnsInHanded a C os f .any (fun w args=>(s.pre enc C.prog fn conds apart w args∧X w args)∧sizedMet enc C.prog fn (OpenSpec.ofChange s) apart w args) (s.post enc C.prog fn apart fresh handsOn again):=by
 refine returnsInHanded_of_calls own started noInit witness ?_
 intro w tape i _ hsh _ hok hpre _
 obtain ⟨_,_,_,fn',hfn',_,_,_,_,hval⟩:=hok
 obtain rfl:fn'=fn:=Option.some.inj (hfn'.symm.trans hfn)
 obtain ⟨⟨⟨ds,gs,before,hw,_⟩,hx⟩,_⟩:=hpre
 refine (contract (w.forCall tape i) w.heap.size i.args ds gs before hval (DataW.Whole.of_heap (w':=w.forCall tape i) (by rfl) hw) (hX _ _ _ (by rfl) hx) hsh).mono ?_
 rintro e W' ⟨v,rfl,hp⟩
 exact ChangeSpec.post_blind hp
theorem w1G {α:Type} {t:Ty} {f:α→List DV} {p:α→Prop} (hf:∀z,IsD t z→∃a,p a∧z=f a):∀{zs:List (List DV)},(∀z∈zs,IsD t z)→∃l:List α,l.length=zs.length∧zs.flatten=l.flatMap f∧∀a∈l,p a
 | [],_=>⟨[],rfl,rfl,fun a h=>by cases h⟩
 | z::zs,h=>by
  obtain ⟨l,h1,h2,h3⟩:=w1G hf (zs:=zs) fun y hy=>h y (List.mem_cons_of_mem _ hy)
  obtain ⟨a,g1,g2⟩:=hf z (h z List.mem_cons_self)
  refine ⟨a::l,by simp [h1],by rw [List.flatten_cons,h2,g2];rfl,fun x hx=>?_⟩
  rcases List.mem_cons.1 hx with rfl|hx
  ·exact g1
  ·exact h3 x hx
theorem y7M {ds:List DV} (h:IsD (.sl (.int .i64)) ds):∃l:List Int,l.length≤9223372036854775807∧(∀z∈l,-9223372036854775808≤z∧z≤9223372036854775807)∧ds=[.sl 1 (l.map (.int .i64))]:=by
 obtain ⟨zs,h1,h2,rfl⟩:=h
 obtain ⟨l,g1,g2,g3⟩:=w1G (f:=fun z:Int=>[DV.int .i64 z]) (p:=fun z=>-9223372036854775808≤z∧z≤9223372036854775807) (t:=.int .i64) (fun z hz=>by
  obtain ⟨n,hw,rfl⟩:=hz
  refine ⟨n,?_,rfl⟩
  unfold Lit.wf at hw
  simp only [Bool.and_eq_true,decide_eq_true_eq] at hw
  exact hw) h1
 refine ⟨l,by omega,g3,?_⟩
 rw [g2]
 show [DV.sl 1 _]=_
 congr 2
 clear g1 g2 g3
 induction l with
 | nil=>rfl
 | cons a l ih=>rw [List.flatMap_cons,List.map_cons,ih];rfl
def x8o (l:List Int):Prop:=l.length≤9223372036854775807∧∀z∈l,-9223372036854775808≤z∧z≤9223372036854775807
abbrev isT:Ty:=.sl (.int .i64)
abbrev w2b:Ty:=.pair isT (.pair isT (.pair isT (.pair isT .unit)))
theorem w1B {ds:List DV} (h:IsD w2b ds):∃Y X G H:List Int,x8o Y∧x8o X∧x8o G∧x8o H∧ds=[.sl 1 (Y.map (.int .i64)),.sl 1 (X.map (.int .i64)),.sl 1 (G.map (.int .i64)),.sl 1 (H.map (.int .i64))]:=by
 obtain ⟨a,r1,ha,⟨b,r2,hb,⟨c,r3,hc,⟨d,r4,hd,hu,rfl⟩,rfl⟩,rfl⟩,rfl⟩:=h
 obtain ⟨Y,y1,y2,rfl⟩:=y7M ha
 obtain ⟨X,x1,x2,rfl⟩:=y7M hb
 obtain ⟨G,g1,g2,rfl⟩:=y7M hc
 obtain ⟨H,h1,h2,rfl⟩:=y7M hd
 rw [show r4=[] from hu]
 exact ⟨Y,X,G,H,⟨y1,y2⟩,⟨x1,x2⟩,⟨g1,g2⟩,⟨h1,h2⟩,rfl⟩
theorem y3M {Y X G H:List Int} (wh cod:Int) (hY:x8o Y) (hX:x8o X) (hG:x8o G) (hH:x8o H):z0c prog 3 [.agg [.sl 1 (Y.map (.int .i64)),.sl 1 (X.map (.int .i64)),.sl 1 (G.map (.int .i64)),.sl 1 (H.map (.int .i64))],.int .i64 wh,.int .i64 cod] (.bool true) :=
 y4E Y X G H wh cod hY.1 hX.1 hG.1 hH.1 hY.2 hX.2 hG.2 hH.2
end Go.Proofs.YtlcagndeidjobaaGreatDoor
