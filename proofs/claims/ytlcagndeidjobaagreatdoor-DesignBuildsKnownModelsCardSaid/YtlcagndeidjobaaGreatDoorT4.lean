/- Lemmas of the walk; no conditions beyond those that each states. -/
import Derived.Test.YtlcagndeidjobaaGreatDoorD3
import Derived.Test.YtlcagndeidjobaaGreatDoorT3
import Derived.Test.YtlcagndeidjobaaGreatDoorN1
import Derived.Test.YtlcagndeidjobaaGreatDoorN2
set_option linter.unusedSimpArgs false
set_option linter.unusedVariables false
set_option linter.unnecessarySimpa false
set_option maxHeartbeats 4000000
namespace Go.Proofs.YtlcagndeidjobaaGreatDoor
open Tryz
open Go Go.Dat Go.Proofs Go.RowKit Go.Lib Nat32
theorem y6x (n:Int) (S:List Kx) (s:Bs) (h:okT S) (hv:y9D n S=true):z0c prog 85 [.agg [.int .i64 n,.sl 4 (kxs S)],.str s] (.int .i64 (ixS (z1g S) s)):=by
 have c1:=z4Q n S h
 rw [hv] at c1
 have c2:=z2S n S h.1
 have c3:=z3l (z1g S) s (by rw [z0Y];have:=h.1;omega)
 have hca:(DV.agg [.int .i64 n,.sl 4 (kxs S)]).cells? = some [.int .i64 n,.sl 4 (kxs S)]:=rfl
 refine z0b w0q (by simp [x2D]) ?_
 unfold y3Y
 refine zS (zA hca @cS) ?_
 refine cP c1 ?_
 refine zR ?_
 refine wFs ?_
 refine zS (zA hca @cS) ?_
 refine cP c2 ?_
 refine zR ?_
 refine cP c3 ?_
 refine zR ?_
 exact z0j (z0i (.imm rfl))
theorem z16 (n:Int) (S:List Kx) (m:Mdl) (cod:Int) (s:Bs) (h:okT S) (hv:y9D n S=true) (hs:0≤ixS (z1g S) s):z0c prog 37 [.el (z3k n S m cod) 0,.str s] (.agg (kxC (z2u S s))):=by
 have c1:=y6x n S s h hv
 have hlen:=z1B S
 have hbd:=z36 s (z1g S)
 rw [z0Y] at hbd
 unfold z2u
 obtain ⟨j,hj⟩:∃j:Nat,ixS (z1g S) s=j:=⟨(ixS (z1g S) s).toNat,by omega⟩
 rw [hj] at c1 hbd ⊢
 have ej:(j:Int).toNat=j:=Int.toNat_natCast j
 rw [ej]
 have hw:((kxs S).drop (j*4)).take 4=kxC (S.getD j default):=z1a (j:=0) z0L default (by omega) (Nat.le_refl _)
 have hk4:=z0L (S.getD j default)
 have hcc:(DV.agg (kxC (S.getD j default))).cells? = some (kxC (S.getD j default)):=rfl
 have htk:(kxC (S.getD j default)).take 4=kxC (S.getD j default):=rfl
 have hrf:=List.all_eq_true.2 (z12 (S.getD j default))
 refine z0b y63 (by simp [z9k]) ?_
 unfold z5H z3k
 generalize kxC (S.getD j default)=C at *
 repeat (first|refine z0d ?_|refine z0g ?_|refine z0p ?_|refine z0e ?_|refine And.intro (by omega) ?_|simp (maxSteps:=1000000) (disch:=omega) only [cA,cB,cN,FnD.nb,lk,lkH,Dst.onT,Dst.onX,Dst.slot,z03,z0K,z0M,z00,z0x,z02,unE,cnt,z0l,z0w,z0m,z0o,opE,rmH,z05,z0n,Nat.reduceEqDiff,Nat.reduceLT,Nat.reduceAdd,Nat.reduceMul,Nat.reduceMod,↓reduceIte,reduceCtorEq,Nat.reduceLeDiff,cS])
 refine cP c1 ?_
 repeat (first|refine z0d ?_|refine z0g ?_|refine z0p ?_|refine z0e ?_|refine And.intro (by omega) ?_|simp (maxSteps:=1000000) (disch:=omega) only [cA,cB,cN,FnD.nb,lk,lkH,Dst.onT,Dst.onX,Dst.slot,z03,z0K,z0M,z00,z0x,z02,unE,cnt,z0l,z0w,z0m,z0o,opE,rmH,z05,z0n,Nat.reduceEqDiff,Nat.reduceLT,Nat.reduceAdd,Nat.reduceMul,Nat.reduceMod,↓reduceIte,reduceCtorEq,Nat.reduceLeDiff,ej,hlen,hw,hk4,hcc,htk,cS])
 exact z0j (z0Z rfl rfl hk4 (.imm (by rw [DV.rf_agg];exact hrf)))
theorem z7Y (k:Kx) (p r:Nat) {q:Rat} {b:Nat} (hr:r<k.ce.length) (hc:(k.ce.getD r default).va=qX q) (hq:BS q b) (hp:p≤1000) (hb:b≤100) :
  z0c prog 210 [.int .i64 r,.el [.int .i64 p] 0,.el (kxC k) 0] (.sl 3 (nums [q ^ p])):=by
 have c1:z0c prog 80 [.int .i64 1] (.agg (z0V 1)):=z3p 1 (by decide) (by decide)
 have hcc:∀x:Rat,(DV.agg (z0V x)).cells? = some (z0V x):=fun _=>rfl
 have hn3:=z1o
 have ht3:∀x:Rat,(z0V x).take 3=z0V x:=fun _=>rfl
 have er:(r:Int).toNat=r:=Int.toNat_natCast r
 have hcx:=z1V k.ce
 have hg:((cxs k.ce).drop (r*5+1)).take 3=z0V q:=by
  have h1:((cxs k.ce).drop (r*5+1)).take 3=((cxC (k.ce.getD r default)).drop 1).take 3:=z1a z1C default hr (by decide)
  rw [h1]
  show xnC (k.ce.getD r default).va=_
  rw [hc];rfl
 refine z0b y4U (by simp [z7K]) ?_
 unfold z5c kxC
 repeat (first|refine z0d ?_|refine z0g ?_|refine z0p ?_|refine z0e ?_|refine And.intro (by omega) ?_|simp (maxSteps:=1000000) (disch:=omega) only [cA,cB,cN,FnD.nb,lk,lkH,Dst.onT,Dst.onX,Dst.slot,z03,z0K,z0M,z00,z0x,z02,unE,cnt,z0l,z0w,z0m,z0o,opE,rmH,z05,z0n,Nat.reduceEqDiff,Nat.reduceLT,Nat.reduceAdd,Nat.reduceMul,Nat.reduceMod,↓reduceIte,reduceCtorEq,Nat.reduceLeDiff])
 refine cP c1 ?_
 repeat (first|refine z0d ?_|refine z0g ?_|refine z0p ?_|refine z0e ?_|refine And.intro (by omega) ?_|simp (maxSteps:=1000000) (disch:=omega) only [cA,cB,cN,FnD.nb,lk,lkH,Dst.onT,Dst.onX,Dst.slot,z03,z0K,z0M,z00,z0x,z02,unE,cnt,z0l,z0w,z0m,z0o,opE,rmH,z05,z0n,Nat.reduceEqDiff,Nat.reduceLT,Nat.reduceAdd,Nat.reduceMul,Nat.reduceMod,↓reduceIte,reduceCtorEq,Nat.reduceLeDiff,hcc,hn3,ht3])
 refine z0s (σ:=Nat) (fun i=>[(0,.int .i64 r),(1,.el [.int .i64 p] 0),(2,.el [.str k.nm,.int .i64 k.kd,.sl 1 (z0D k.le),.sl 5 (cxs k.ce)] 0),(5,.ptr 5 0),(7,.int .i64 p),(8,.int .i64 i)]) (fun i=>[(5,z0V (q ^ i))]) (fun i=>i≤p) (fun i=>p - i) 0 (Nat.zero_le _) ?_ ?_ ?_
 ·simp [z0v,lk]
 ·rw [Rat.pow_zero];simp
 ·intro i hi
  try simp only at hi ⊢
  by_cases hlt:i<p
  ·have dl:decide ((i:Int)<(p:Int))=true:=zT9
   have e1:((i:Int)+1)=((i+1:Nat):Int):=by omega
   have hib:i*b≤100000:=Nat.le_trans (Nat.mul_le_mul (show i≤1000 by omega) hb) (by decide)
   have cm:=w3h (y8g hq i) hq (by omega) (by omega)
   rw [←Rat.pow_succ] at cm
   refine zS dl ?_
   refine wTs ?_
   refine z0d ?_
   refine z0e ?_
   refine z0p ?_
   simp (maxSteps:=1000000) (disch:=omega) only [cA,cB,cN,FnD.nb,lk,lkH,Dst.onT,Dst.onX,Dst.slot,z03,z0K,z0M,z00,z0x,z02,unE,cnt,z0l,z0w,z0m,z0o,opE,rmH,z05,z0n,Nat.reduceEqDiff,Nat.reduceLT,Nat.reduceAdd,Nat.reduceMul,Nat.reduceMod,↓reduceIte,reduceCtorEq,Nat.reduceLeDiff,hcc,hn3,ht3,er,hcx,hg,cS,List.drop_zero]
   repeat refine ⟨by omega,?_⟩
   refine cP cm ?_
   refine zE (zA hcc (zA hn3 ht3)) ?_
   repeat refine ⟨by omega,?_⟩
   refine zS e1 ?_
   exact ⟨i+1,by omega,by omega,by simp [z0v,lk],rfl⟩
  ·have dl:decide ((i:Int)<(p:Int))=false:=zF9
   obtain rfl:i=p:=by omega
   have hld:∀x:Rat,laid [DV.bool false,.nils,.nils] [(0,3,.agg (z0V x))]=some (z0V x):=fun _=>rfl
   have hns:nums [q ^ i]=z0V (q ^ i):=by unfold nums;simp
   rw [hns]
   repeat (first|refine z0d ?_|refine z0g ?_|refine z0p ?_|refine z0e ?_|refine And.intro (by omega) ?_|simp (maxSteps:=1000000) (disch:=omega) only [cA,cB,cN,FnD.nb,lk,lkH,Dst.onT,Dst.onX,Dst.slot,z03,z0K,z0M,z00,z0x,z02,unE,cnt,z0l,z0w,z0m,z0o,opE,rmH,z05,z0n,Nat.reduceEqDiff,Nat.reduceLT,Nat.reduceAdd,Nat.reduceMul,Nat.reduceMod,↓reduceIte,reduceCtorEq,Nat.reduceLeDiff,dl])
   refine z0k rfl (fun h=>by cases h) (fun _=>z0q ?_)
   repeat (first|refine z0d ?_|refine z0g ?_|refine z0p ?_|refine z0e ?_|refine And.intro (by omega) ?_|simp (maxSteps:=1000000) (disch:=omega) only [cA,cB,cN,FnD.nb,lk,lkH,Dst.onT,Dst.onX,Dst.slot,z03,z0K,z0M,z00,z0x,z02,unE,cnt,z0l,z0w,z0m,z0o,opE,rmH,z05,z0n,Nat.reduceEqDiff,Nat.reduceLT,Nat.reduceAdd,Nat.reduceMul,Nat.reduceMod,↓reduceIte,reduceCtorEq,Nat.reduceLeDiff,hcc,hn3,ht3,hld,List.drop_zero])
   refine ⟨z1W _,?_⟩
   repeat (first|refine z0d ?_|refine z0g ?_|refine z0p ?_|refine z0e ?_|refine And.intro (by omega) ?_|simp (maxSteps:=1000000) (disch:=omega) only [cA,cB,cN,FnD.nb,lk,lkH,Dst.onT,Dst.onX,Dst.slot,z03,z0K,z0M,z00,z0x,z02,unE,cnt,z0l,z0w,z0m,z0o,opE,rmH,z05,z0n,Nat.reduceEqDiff,Nat.reduceLT,Nat.reduceAdd,Nat.reduceMul,Nat.reduceMod,↓reduceIte,reduceCtorEq,Nat.reduceLeDiff])
   exact z0j (z0i (.imm rfl))
theorem x8X:z0X prog 210:=⟨_,func210,by kernel_rfl,by kernel_rfl⟩
def w1s (k:Kx) (p:Nat):Grp:=⟨[if p=1 then k.nm else k.nm++94::decDigits p],.clo 210 [.el [.int .i64 p] 0,.el (kxC k) 0],rfl,rfl⟩
theorem dd8:∀p,p<9→(decDigits p).length=1:=by decide +kernel
theorem z88 (B:List DV) (k:Kx) (p:Nat) (hp:p≤8) (hnl:k.nm.length≤1000000):z0c prog 152 [.el B 0,.agg (kxC k),.int .i64 p] (.agg (gpC (w1s k p))):=by
 have ci:=x1H p (by omega)
 have hkc:(DV.agg (kxC k)).cells? = some (kxC k):=rfl
 have hg0:∀x,(kxC k).getD 0 x=.str k.nm:=fun _=>rfl
 have hk4:=z0L k
 have hkr:=List.all_eq_true.2 (z12 k)
 have hbd:∀x y,laid [DV.nils,.undef] [(0,1,.sl 1 x),(1,1,.clo 210 y)]=some [.sl 1 x,.clo 210 y]:=fun _ _=>rfl
 have hbs:∀x,laid [DV.str []] [(0,1,.str x)]=some [.str x]:=fun _=>rfl
 have hoc:∀x y,(DV.agg [.sl 1 x,.clo 210 y]).cells? = some [.sl 1 x,.clo 210 y]:=fun _ _=>rfl
 refine z0b y7v (by simp [z9R]) ?_
 unfold z6h w1s gpC z0D
 generalize kxC k=C at *
 have hpC:∀z,z2e 4 C (.ptr 4 z)=if C≠[] then .el C z else .undef:=fun z=>by simp [z2e]
 have hne:C≠[]:=fun e=>by rw [e] at hk4;cases hk4
 refine z0d ?_
 refine z0g ?_
 have hic:(DV.int .i64 p).cells? = some [.int .i64 p]:=rfl
 simp (maxSteps:=1000000) (disch:=omega) only [cA,cB,cN,FnD.nb,lk,lkH,Dst.onT,Dst.onX,Dst.slot,z03,z0K,z0M,z00,z0x,z02,unE,cnt,z0l,z0w,z0m,z0o,opE,rmH,z05,z0n,Nat.reduceEqDiff,Nat.reduceLT,Nat.reduceAdd,Nat.reduceMul,Nat.reduceMod,↓reduceIte,reduceCtorEq,Nat.reduceLeDiff,hkc,hic]
 refine z1P 4 (cells:=C) rfl hkr ?_
 refine z1P 5 (cells:=[.int .i64 p]) rfl rfl ?_
 have f1:z2e 5 [.int .i64 p] (z2e 4 C (.ptr 4 0))=.el C 0:=by rw [hpC,if_pos hne];rfl
 have f2:z2e 5 [.int .i64 p] (z2e 4 C (.ptr 5 0))=.el [.int .i64 p] 0:=rfl
 have f3:z2e 5 [.int .i64 p] (z2e 4 C (.ptr 6 0))=.ptr 6 0:=rfl
 by_cases h:p=1
 ·have d1:decide (¬(p:Int)=1)=false:=zF9
  rw [if_pos h]
  refine zS (zA f1 (zA f2 (zA f3 (zA hg0 d1)))) ?_
  refine wFs ?_
  refine zS (zA hbd (zA hbs (zA @z3U hoc))) ?_
  refine ⟨List.all_eq_true.1 rfl,List.all_eq_true.1 rfl,?_⟩
  refine zS hoc ?_
  exact z0j (z0Z rfl rfl rfl (.imm (by simp [DV.rf,DV.rfL])))
 ·have d1:decide (¬(p:Int)=1)=true:=zT9
  rw [if_neg h]
  refine zS (zA f1 (zA f2 (zA f3 (zA hg0 d1)))) ?_
  refine wT ?_
  refine zR ?_
  refine cP ci ?_
  have h8:=dd8 p (by omega)
  have ha8:([94]++decDigits p).length=2:=by rw [List.length_append,h8];rfl
  refine zS (zA hbd (zA hbs (zA @z3U hoc))) ?_
  refine ⟨List.all_eq_true.1 rfl,List.all_eq_true.1 rfl,?_⟩
  refine zS hoc ?_
  exact z0j (z0Z rfl rfl rfl (.imm (by simp [DV.rf,DV.rfL])))
theorem w11 (k:Kx) (p r:Nat) {q:Rat} {b:Nat} (hr:r<k.ce.length) (hc:(k.ce.getD r default).va=qX q) (hq:BS q b) (hp:p≤1000) (hb:b≤100):GV prog (w1s k p) r [q ^ p] :=
 ⟨_,_,.inl rfl,x8X,rfl,z7Y k p r hr hc hq hp hb⟩
theorem z71 (k n:Int) (h:1≤k∧k≤4∧1≤n∧n≤32):z0c prog 244 [.int .i64 k,.int .i64 n] (.bool true):=by
 have d1:decide (1≤k)=true:=decide_eq_true h.1
 have d2:decide (k≤4)=true:=decide_eq_true h.2.1
 have d3:decide (1≤n)=true:=decide_eq_true h.2.2.1
 have d4:decide (n≤32)=true:=decide_eq_true h.2.2.2
 refine z0b z7b (by simp [z29]) ?_
 unfold z2s
 refine zS (zA d1 (zA d2 (zA d3 d4))) ?_
 exact z0j (z0i (.imm rfl))
theorem z73 (k n:Nat) (h:1≤n∧n≤32):z0c prog 246 [.int .i64 k,.int .i64 n] (.int .i64 (ctC k n)):=by
 refine z0b z7k (by simp [z27]) ?_
 unfold z2n ctC
 by_cases h:k=4
 ·have d1:decide ((k:Int)=4)=true:=zT9
  rw [if_pos h]
  refine zS d1 ?_
  refine wT ?_
  refine zR ?_
  exact z0j (z0i (.imm rfl))
 ·have d1:decide ((k:Int)=4)=false:=zF9
  have e1:(n:Int) - 1=((n - 1:Nat):Int):=by omega
  rw [if_neg h]
  refine zS (zA d1 e1) ?_
  refine wFs ?_
  refine zS e1 ?_
  exact z0j (z0i (.imm rfl))
theorem w4r:∀p,p<40→(decDigits p).length≤2:=by decide +kernel
theorem y2M (k:Nat) (le:List Bs) (hk:1≤k∧k≤4) (hn:1≤le.length∧le.length≤32) (hs:∀s∈le,s.length≤1000000):z0c prog 212 [.int .i64 k,.sl 1 (z0D le)] (.tup [.sl 1 (z0D (ctN k le)),.int .i64 0]):=by
 have hll:=z0z le
 have c1:=z71 k le.length (by omega)
 have c2:=z73 k le.length hn
 obtain ⟨N,hN⟩:∃N,N=ctN k le:=⟨_,rfl⟩
 have hNl:N.length=ctC k le.length:=by rw [hN,z4G,Int.toNat_natCast]
 have hcb:ctC k le.length≤le.length:=by unfold ctC;split<;>omega
 have hNg:∀j,j<ctC k le.length→N.getD j []=if (k:Int)=4 then [61]++le.getD j [] else if (k:Int)=1 then [61]++le.getD (j+1) [] else [46]++decDigits (j+1):=fun j hj=>by
  rw [hN]
  unfold ctN
  rw [Int.toNat_natCast,zO1,List.getElem?_map,List.getElem?_range hj];rfl
 have hct:k≠4→ctC k le.length=le.length - 1:=fun h=>by unfold ctC;rw [if_neg h]
 rw [←hN]
 generalize ctC k le.length=c at *
 refine z0b x22 (by simp [y4B]) ?_
 unfold z8K
 refine zS hll ?_
 refine cP c1 ?_
 refine zR ?_
 refine wFs ?_
 refine z0d ?_
 refine z0g ?_
 refine zD ?_
 refine z5Z 6 1 200 rfl rfl ?_
 refine zS hll ?_
 refine cP c2 ?_
 refine zR ?_
 refine z0s (σ:=Nat) (fun j=>[(0,.int .i64 k),(1,.sl 1 (z0D le)),(6,.osl 1 200 0 j),(16,.int .i64 c),(17,.int .i64 j)]) (fun j=>[(200,z0D (N.take j))]) (fun j=>j≤c) (fun j=>c - j) 0 (Nat.zero_le _) ?_ rfl ?_
 ·simp [z0v,lk]
 ·intro j hj
  try simp only at hj ⊢
  have htl:(z0D (N.take j)).length=j:=by rw [z0z,List.length_take];omega
  by_cases hlt:j<c
  ·have dl:decide ((j:Int)<(c:Int))=true:=zT9
   have ej:(j:Int).toNat=j:=Int.toNat_natCast j
   have e1:((j:Int)+1)=((j+1:Nat):Int):=by omega
   have ej1:(((j+1:Nat):Int)).toNat=j+1:=Int.toNat_natCast _
   have hg:=hNg j hlt
   have hsn:z0D (N.take j)++[.str (N.getD j [])]=z0D (N.take (j+1)):=by
    rw [z0r [] (show j<N.length by omega)]
    unfold z0D
    rw [List.map_append];rfl
   have hpg:=z0h 200 (z06 (N.take (j+1)))
   have hld:∀x,laid [DV.str []] [(0,1,.str x)]=some [.str x]:=fun _=>rfl
   refine zS dl ?_
   refine wTs ?_
   by_cases h4:k=4
   ·have d4:decide ((k:Int)=4)=true:=zT9
    have hst:=z0Q (r:=le) (show j<le.length by omega)
    have hsl:=hs _ (z1e (show j<le.length by omega))
    rw [if_pos (by omega)] at hg
    refine z0d ?_
    refine z0e ?_
    refine zS d4 ?_
    refine wT ?_
    refine zS (zA ej (zA hll (zA hst (zA hld htl)))) ?_
    rw [←hg,hsn]
    refine ⟨by simp [DV.rf],⟨by omega,by omega,fun h=>h,by simp [DV.one]⟩,?_⟩
    rw [hpg]
    refine zS e1 ?_
    exact ⟨j+1,by omega,by omega,by simp [z0v,lk],rfl⟩
   ·have d4:decide ((k:Int)=4)=false:=zF9
    have hcl:=hct h4
    rw [if_neg (by omega)] at hg
    by_cases h1:k=1
    ·have d1:decide ((k:Int)=1)=true:=zT9
     have hst:=z0Q (r:=le) (show j+1<le.length by omega)
     have hsl:=hs _ (z1e (show j+1<le.length by omega))
     rw [if_pos (by omega)] at hg
     refine z0d ?_
     refine z0e ?_
     refine zS d4 ?_
     refine wF ?_
     refine zS d1 ?_
     refine wT ?_
     refine zS (zA e1 (zA ej1 (zA hll (zA hst (zA hld htl))))) ?_
     rw [←hg,hsn]
     refine ⟨by simp [DV.rf],⟨by omega,by omega,fun h=>h,by simp [DV.one]⟩,?_⟩
     rw [hpg]
     refine zS e1 ?_
     exact ⟨j+1,by omega,by omega,by simp [z0v,lk],rfl⟩
    ·have d1:decide ((k:Int)=1)=false:=zF9
     have ci:=x1H (j+1) (by omega)
     have hdl:=w4r (j+1) (by omega)
     rw [if_neg (by omega)] at hg
     refine z0d ?_
     refine z0e ?_
     refine zS d4 ?_
     refine wF ?_
     refine zS d1 ?_
     refine wF ?_
     refine zS e1 ?_
     refine cP ci ?_
     refine zS (zA hld htl) ?_
     rw [←hg,hsn]
     refine ⟨by simp [DV.rf],⟨by omega,by omega,fun h=>h,by simp [DV.one]⟩,?_⟩
     rw [hpg]
     refine zS e1 ?_
     exact ⟨j+1,by omega,by omega,by simp [z0v,lk],rfl⟩
  ·have dl:decide ((j:Int)<(c:Int))=false:=zF9
   obtain rfl:j=c:=by omega
   have htk:N.take j=N:=List.take_of_length_le (by omega)
   rw [htk] at htl ⊢
   have hNr:=z06 N
   refine z0E 200 (cells:=z0D N) rfl (List.all_eq_true.2 hNr) ?_
   have hfz:frz 200 (z0D N) (.osl 1 200 0 j)=.sl 1 (z0D N):=by
    simp [frz,htl]
    rw [List.take_of_length_le (by omega)]
   refine zS (zA dl hfz) ?_
   refine z0k rfl (fun h=>by cases h) (fun _=>z0q ?_)
   refine zR ?_
   exact z0j (z13 (.imm rfl) (.imm rfl))
theorem z54 (k:Kx) (r c l:Nat) (hr:r<k.ce.length) (hl:(k.ce.getD r default).lv=l) (hln:l<k.le.length) :
  z0c prog 213 [.int .i64 r,.el [.sl 1 (ctL c k.le.length)] 0,.el (kxC k) 0] (.sl 3 (nums (ctR c k.le.length l))):=by
 have er:(r:Int).toNat=r:=Int.toNat_natCast r
 have el:(l:Int).toNat=l:=Int.toNat_natCast l
 have hcx:=z1V k.ce
 have hg:(cxs k.ce).getD (r*5+4) .undef=.int .i64 l:=by
  have h1:(cxs k.ce).getD (r*5+4) .undef=(cxC (k.ce.getD r default)).getD 4 .undef:=z8n z1C default hr (by decide) .undef
  rw [h1]
  show DV.int .i64 (k.ce.getD r default).lv=_
  rw [hl]
 have hm:=x4a c k.le.length
 have hmg:=x2j (k:=c) hln .undef
 refine z0b y0q (by simp [z47]) ?_
 unfold z34 kxC
 repeat (first|refine z0d ?_|refine z0g ?_|refine z0p ?_|refine z0e ?_|refine And.intro (by omega) ?_|simp (maxSteps:=1000000) (disch:=omega) only [cA,cB,cN,FnD.nb,lk,lkH,Dst.onT,Dst.onX,Dst.slot,z03,z0K,z0M,z00,z0x,z02,unE,cnt,z0l,z0w,z0m,z0o,opE,rmH,z05,z0n,Nat.reduceEqDiff,Nat.reduceLT,Nat.reduceAdd,Nat.reduceMul,Nat.reduceMod,↓reduceIte,reduceCtorEq,Nat.reduceLeDiff,er,el,hcx,hg,hm,hmg,List.drop_zero,cS])
 exact z0j (z0i (.imm rfl))
theorem x7v:z0X prog 213:=⟨_,func213,by kernel_rfl,by kernel_rfl⟩
def w1t (k:Kx) (c:Nat):Grp:=⟨(ctN c k.le).map (k.nm++·),.clo 213 [.el [.sl 1 (ctL c k.le.length)] 0,.el (kxC k) 0],rfl,rfl⟩
theorem w2U (k:Kx) (r c l:Nat) (hr:r<k.ce.length) (hl:(k.ce.getD r default).lv=l) (hln:l<k.le.length):GV prog (w1t k c) r (ctR c k.le.length l) :=
 ⟨_,_,.inl rfl,x7v,rfl,z54 k r c l hr hl hln⟩
theorem x7I (k:Int) (le:List Bs) (hn:le.length≤32) (hs:∀s∈le,s.length≤1000000):∀s∈ctN k le,s.length≤1000001:=by
 intro s h
 unfold ctN at h
 obtain ⟨j,hj,rfl⟩:=List.mem_map.1 h
 rw [List.mem_range] at hj
 have hcb:ctC k.toNat le.length≤le.length:=by unfold ctC;split<;>omega
 have hg:∀i,(le.getD i []).length≤1000000:=fun i=>by
  by_cases hi:i<le.length
  ·exact hs _ (z1e hi)
  ·rw [zO1,List.getElem?_eq_none (by omega)];decide
 have h1:=hg j
 have h2:=hg (j+1)
 have h3:=w4r (j+1) (by omega)
 split
 ·rw [List.length_cons];omega
 ·split
  ·rw [List.length_cons];omega
  ·rw [List.length_cons];omega
theorem z6A (B:List DV) (k:Kx) (c:Nat) (hk:1≤c∧c≤4) (hn:1≤k.le.length∧k.le.length≤32) (hs:∀s∈k.le,s.length≤1000000) (hnl:k.nm.length≤1000000) (hM:z0c prog 211 [.int .i64 c,.int .i64 k.le.length] (ctD c k.le.length)) :
  z0c prog 153 [.el B 0,.agg (kxC k),.int .i64 c] (.agg (gpC (w1t k c))):=by
 have cn:=y2M c k.le hk hn hs
 have hNb:=x7I c k.le hn.2 hs
 have hkc:(DV.agg (kxC k)).cells? = some (kxC k):=rfl
 have hg0:∀x,(kxC k).getD 0 x=.str k.nm:=fun _=>rfl
 have hg2:∀x,(kxC k).getD 2 x=.sl 1 (z0D k.le):=fun _=>rfl
 have hk4:=z0L k
 have hkr:=List.all_eq_true.2 (z12 k)
 have hll:=z0z k.le
 have hL:=z4G c k.le
 rw [Int.toNat_natCast] at hL
 have hcb:ctC c k.le.length≤k.le.length:=by unfold ctC;split<;>omega
 rw [x8c] at hM
 have hMl:(List.range k.le.length).map (fun i=>DV.sl 3 (nums (ctR c k.le.length i)))=ctL c k.le.length:=rfl
 rw [hMl] at hM
 have hbd:∀x y,laid [DV.nils,.undef] [(0,1,.sl 1 x),(1,1,.clo 213 y)]=some [.sl 1 x,.clo 213 y]:=fun _ _=>rfl
 refine z0b y23 (by simp [z5W]) ?_
 unfold z4u w1t gpC
 generalize ctL c k.le.length=M at *
 generalize ctN c k.le=N at *
 generalize ctC c k.le.length=n at *
 obtain ⟨L,hLd⟩:∃L,L=N.map (k.nm++·):=⟨_,rfl⟩
 have hLl:L.length=n:=by rw [hLd,List.length_map,hL]
 have hLg:∀i,i<n→L.getD i []=k.nm++N.getD i []:=fun i hi=>by
  rw [hLd,zO1,List.getElem?_map,zO4 (by omega),zO1,zO4 (by omega)];rfl
 rw [←hLd]
 generalize kxC k=C at *
 have hne:C≠[]:=fun e=>by rw [e] at hk4;cases hk4
 have hNl:=z0z N
 have en:(n:Int).toNat=n:=Int.toNat_natCast n
 refine zS hkc ?_
 refine zS (zA hg2 (zA hk4 hll)) ?_
 refine cP hM ?_
 refine zS @cS ?_
 refine zS (zA hg2 hk4) ?_
 refine cP cn ?_
 refine zS (zA hNl (zA hL en)) ?_
 rw [w2g L]
 refine z0s (σ:=Nat) (fun i=>[(4,.ptr 4 0),(6,.ptr 6 0),(7,.ptr 7 0),(11,.osl 1 31 0 n),(32,.sl 1 (z0D N)),(33,.int .i64 n),(34,.int .i64 i)]) (fun i=>[(4,C),(6,[DV.nils,DV.undef]),(7,[DV.sl 1 M]),(31,x5i L n i)]) (fun i=>i≤n) (fun i=>n - i) 0 (Nat.zero_le _) ?_ rfl ?_
 ·simp [z0v,lk]
 ·intro i hi
  try simp only at hi ⊢
  by_cases hlt:i<n
  ·have dl:decide ((i:Int)<(n:Int))=true:=zT9
   have ei:(i:Int).toNat=i:=Int.toNat_natCast i
   have e1:((i:Int)+1)=((i+1:Nat):Int):=by omega
   have hst:=z0Q (r:=N) (show i<N.length by omega)
   have hsl:=hNb _ (z1e (show i<N.length by omega))
   have hfl:=x6R hLl hi
   have hfs:=x6y hLl hlt
   rw [hLg i hlt] at hfs
   refine zS dl ?_
   refine wTs ?_
   refine z0d ?_
   refine z0e ?_
   refine zS (zA ei (zA hNl (zA hst (zA hg0 (zA hk4 (zA hfl hfs)))))) ?_
   refine ⟨⟨rfl,hlt⟩,?_⟩
   refine zS e1 ?_
   exact ⟨i+1,by omega,by omega,by simp [z0v,lk],rfl⟩
  ·have dl:decide ((i:Int)<(n:Int))=false:=zF9
   obtain rfl:i=n:=by omega
   rw [x6M hLl]
   have hLr:=z06 L
   have hLn:=z0z L
   refine z0E 31 (cells:=z0D L) rfl (List.all_eq_true.2 hLr) ?_
   have hoc:∀x y,(DV.agg [.sl 1 x,.clo 213 y]).cells? = some [.sl 1 x,.clo 213 y]:=fun _ _=>rfl
   have m4:=z0N 31 (z0D L) (List.all_eq_true.1 hkr)
   have hfz:frz 31 (z0D L) (.osl 1 31 0 i)=.sl 1 (z0D L):=by
    simp [frz,hLn,hLl]
    rw [List.take_of_length_le (by omega)]
   have f4:z2e 7 [.sl 1 M] (z2e 4 C (frz 31 (z0D L) (.ptr 4 0)))=.el C 0:=by
    have:z2e 4 C (.ptr 4 0)=.el C 0:=by simp [z2e,hne]
    show z2e 7 _ (z2e 4 C (.ptr 4 0))=_
    rw [this];rfl
   have f7:z2e 7 [.sl 1 M] (z2e 4 C (frz 31 (z0D L) (.ptr 7 0)))=.el [.sl 1 M] 0:=rfl
   have f6:z2e 7 [.sl 1 M] (z2e 4 C (frz 31 (z0D L) (.ptr 6 0)))=.ptr 6 0:=rfl
   have fn1:∀z:Nat,z2e 7 [.sl 1 M] (z2e 4 C (.int .i64 z))=.int .i64 z:=fun _=>rfl
   have fs1:∀z,z2e 7 [.sl 1 M] (z2e 4 C (.sl 1 z))=.sl 1 z:=fun _=>rfl
   refine z1P 4 (cells:=C) (by simp [rmH,lkH,m4]) hkr ?_
   refine z1P 7 (cells:=[.sl 1 M]) rfl rfl ?_
   refine zS (zA dl (zA hfz (zA f4 (zA f7 (zA f6 (zA fn1 fs1)))))) ?_
   refine z0k rfl (fun h=>by cases h) (fun _=>z0q ?_)
   refine zS (zA hbd (zA @z3U hoc)) ?_
   refine ⟨List.all_eq_true.1 rfl,?_⟩
   exact z0j (z0Z rfl rfl rfl (.imm (by simp [DV.rf,DV.rfL])))
theorem y0o (g:Grp):z0c prog 83 [.agg (gpC g)] (.bool (decide ((g.nm.length:Int)=0))):=by
 have hkc:=z5j g
 have hll:=z0z g.nm
 have hg0:∀x,(gpC g).getD 0 x=.sl 1 (z0D g.nm):=fun _=>rfl
 have h2:=z1A g
 have hrf:(DV.agg (gpC g)).rf=true:=by rw [DV.rf_agg];exact List.all_eq_true.2 (z35 g)
 refine z0b x1b (by simp [y0M]) ?_
 unfold z7F
 generalize gpC g=C at *
 refine zS (zA hkc (zA hg0 (zA h2 hll))) ?_
 exact z0j (z0i (.imm rfl))
theorem x8O:z0X prog 83:=⟨_,func83,by kernel_rfl,by kernel_rfl⟩
def emG (g:Grp):Bool:=decide ((g.nm.length:Int)=0)
theorem y2G (l:List Grp) (hl:l.length≤1000000):z0c prog 155 [.sl 2 (gps l),.fn 83] (.int .i64 (ixP emG l)):=by
 have hln:(gps l).length / 2=l.length:=by rw [z2z];omega
 have hlen:=z2z l
 refine z0b x38 (by simp [y4L]) ?_
 unfold z82
 refine zS hln ?_
 refine z0s (σ:=Nat) (fun i=>[(0,.sl 2 (gps l)),(1,.fn 83),(7,.int .i64 l.length),(8,.int .i64 i)]) (fun _=>[]) (fun i=>i≤l.length∧∀j,j<i→emG (l.getD j default)=false) (fun i=>l.length - i) 0 ⟨Nat.zero_le _,by simp⟩ ?_ rfl ?_
 ·simp [z0v,lk]
 ·rintro i ⟨hi,hall⟩
  try simp only at hi hall ⊢
  by_cases hlt:i<l.length
  ·have dl:decide ((i:Int)<(l.length:Int))=true:=zT9
   have ei:(i:Int).toNat=i:=Int.toNat_natCast i
   have e1:((i:Int)+1)=((i+1:Nat):Int):=by omega
   have hw:((gps l).drop (i*2)).take 2=gpC (l.getD i default):=z1a (j:=0) z1A default hlt (Nat.le_refl _)
   have cf:=y0o (l.getD i default)
   have hb6:i*2+2≤(gps l).length:=by omega
   have hrf:(DV.agg (gpC (l.getD i default))).rf=true:=by rw [DV.rf_agg];exact List.all_eq_true.2 (z35 _)
   refine zS dl ?_
   refine wTs ?_
   refine z0d ?_
   refine z0e ?_
   refine z0d ?_
   refine z0g ?_
   refine zD ?_
   refine z0d ?_
   refine z3J [om 11 1,om 12 0,om 13 5,ot 14 (.iad 2 (.t 12) (.t 13)),ot 15 (.ldn 2 (.t 14))] [] (.x 16) (.t 11) [.t 15] rfl ?_
   refine zE (zA ei (zA hlen hw)) ?_
   refine ⟨⟨by omega,by omega⟩,by omega,83,[],.inr ⟨rfl,rfl⟩,x8O,z1K cf (by rw [List.append_nil,List.all_cons,hrf];rfl) ?_⟩
   cases hp:emG (l.getD i default)
   ·have hnx:∀j,j<i+1→emG (l.getD j default)=false:=fun j hj=>by
     rcases Nat.lt_or_ge j i with h|h
     ·exact hall j h
     ·obtain rfl:j=i:=by omega
      exact hp
    unfold emG at hp
    rw [hp]
    refine zR ?_
    refine wFs ?_
    refine zS e1 ?_
    exact ⟨i+1,⟨by omega,hnx⟩,by omega,by simp [z0v,lk]⟩
   ·have hx:=y4h default hlt hp hall
    rw [hx]
    unfold emG at hp
    rw [hp]
    refine zR ?_
    refine wT ?_
    refine zR ?_
    exact z0j (z0i (.imm rfl))
  ·have dl:decide ((i:Int)<(l.length:Int))=false:=zF9
   rw [y3P default fun j hj=>hall j (by omega)]
   refine zS dl ?_
   refine z0k rfl (fun h=>by cases h) (fun _=>z0q ?_)
   refine zR ?_
   exact z0j (z0i (.imm rfl))
theorem y2y (l:List Grp) (hl:l.length≤1000000):z0c prog 82 [.sl 2 (gps l),.fn 83] (.bool (l.any emG)):=by
 have ci:=y2G l hl
 have hx:=y3p emG l
 refine z0b x1S (by simp [y4Q]) ?_
 unfold z9T
 refine zR ?_
 refine cP ci ?_
 refine zS hx ?_
 exact z0j (z0i (.imm rfl))
theorem z9z (a b:Grp) (r:Nat) (la lb:List Rat) {w:Nat} (ha:GV prog a r la) (hb:GV prog b r lb) (hwa:∀x∈la,BS x w) (hwb:∀x∈lb,BS x w) (hw:w≤140800) (hl:lb.length*la.length≤1000) (hl2:lb.length≤1000) :
  z0c prog 156 [.int .i64 r,.el (gpC a) 0,.el (gpC b) 0] (.sl 3 (nums (z3x la lb))):=by
 obtain ⟨fa,ca,va,ga,rfa,pa⟩:=ha
 obtain ⟨fb,cb,vb,gb,rfb,pb⟩:=hb
 have ga1:∀x,(gpC a).getD 1 x=a.cl:=fun _=>rfl
 have gb1:∀x,(gpC b).getD 1 x=b.cl:=fun _=>rfl
 have a2:=z1A a
 have b2:=z1A b
 have hla:=z1l la
 have hlb:=z1l lb
 have hla3:la.length*3 / 3=la.length:=by omega
 have hlb3:lb.length*3 / 3=lb.length:=by omega
 have hcc:∀x:Rat,(DV.agg (z0V x)).cells? = some (z0V x):=fun _=>rfl
 have hn3:=z1o
 have ht3:∀x:Rat,(z0V x).take 3=z0V x:=fun _=>rfl
 have hld:∀x:Rat,laid [DV.bool false,.nils,.nils] [(0,3,.agg (z0V x))]=some (z0V x):=fun _=>rfl
 have h33:3 / 3=1:=rfl
 refine z0b y6S (by simp [z9q]) ?_
 unfold z5C
 generalize gpC a=A at *
 generalize gpC b=B at *
 refine z0d ?_
 refine z0g ?_
 refine zD ?_
 refine z0d ?_
 refine z0g ?_
 refine zD ?_
 refine z5Z 5 3 200 rfl rfl ?_
 refine z0d ?_
 refine z3J [ot 11 (.fad 1 (.x 1)),ot 12 (.ld (.t 11)),om 13 0] [ow 6 14] (.t 14) (.t 12) [.t 13] rfl ?_
 refine zE (zA ga1 a2) ?_
 refine ⟨fa,ca,va,ga,z1K pa (by rw [List.all_append,rfa];rfl) ?_⟩
 refine zD ?_
 refine z0d ?_
 refine z0d ?_
 refine z3J [ot 15 (.fad 1 (.x 2)),ot 16 (.ld (.t 15)),om 17 0] [ox 19 (.len 3 (.x 18)),ox 20 (.mv (oi 0))] (.x 18) (.t 16) [.t 17] rfl ?_
 refine zE (zA gb1 b2) ?_
 refine ⟨fb,cb,vb,gb,z1K pb (by rw [List.all_append,rfb];rfl) ?_⟩
 refine zE (zA hlb hlb3) ?_
 refine z0e ?_
 refine z0s (σ:=Nat) (fun j=>[(0,.int .i64 r),(1,.el A 0),(2,.el B 0),(5,.osl 3 200 0 (j*la.length)),(6,.sl 3 (nums la)),(18,.sl 3 (nums lb)),(19,.int .i64 lb.length),(20,.int .i64 j)]) (fun j=>[(200,nums (z3x la (lb.take j)))]) (fun j=>j≤lb.length) (fun j=>lb.length - j) 0 (Nat.zero_le _) ?_ ?_ ?_
 ·simp [z0v,lk]
 ·rfl
 ·intro j hj
  try simp only at hj ⊢
  by_cases hlt:j<lb.length
  ·have dl:decide ((j:Int)<(lb.length:Int))=true:=zT9
   have ej:(j:Int).toNat=j:=Int.toNat_natCast j
   have ej1:((j:Int)+1)=((j+1:Nat):Int):=by omega
   have hwj:((nums lb).drop (j*3)).take 3=z0V (lb.getD j 0):=z1a (j:=0) z1o 0 hlt (Nat.le_refl _)
   obtain ⟨y,hy⟩:∃y,y=lb.getD j 0:=⟨_,rfl⟩
   have hyb:BS y w:=by rw [hy];exact hwb _ (by rw [zO1,zO4 hlt];exact List.getElem_mem hlt)
   rw [←hy] at hwj
   have hjs:z3x la (lb.take (j+1))=z3x la (lb.take j)++la.map (·*y):=by
    rw [z0r 0 hlt,←hy]
    unfold z3x
    rw [List.flatMap_append];simp
   have htl:(z3x la (lb.take j)).length=j*la.length:=by rw [z3R,List.length_take];congr 1;omega
   have hjl:j*la.length+la.length≤1000:=by
    have:=Nat.mul_le_mul_right la.length (show j+1≤lb.length by omega)
    rw [Nat.succ_mul] at this;omega
   generalize z3x la (lb.take j)=T at *
   refine zS dl ?_
   refine wTs ?_
   refine z0d ?_
   refine z0e ?_
   refine zS (zA ej (zA hlb (zA hwj (zA hcc (zA hn3 (zA ht3 (zA @cS (zA hla hla3)))))))) ?_
   refine z0s (σ:=Nat) (fun i=>[(0,.int .i64 r),(1,.el A 0),(2,.el B 0),(5,.osl 3 200 0 (j*la.length+i)),(6,.sl 3 (nums la)),(8,.ptr 8 0),(18,.sl 3 (nums lb)),(19,.int .i64 lb.length),(20,.int .i64 j),(24,.sl 3 (nums la)),(25,.int .i64 la.length),(26,.int .i64 i)]) (fun i=>[(8,z0V y),(200,nums (T++(la.take i).map (·*y)))]) (fun i=>i≤la.length) (fun i=>la.length - i) 0 (Nat.zero_le _) ?_ ?_ ?_
   ·simp [z0v,lk]
   ·simp
   ·intro i hi
    try simp only at hi ⊢
    by_cases hli:i<la.length
    ·have di:decide ((i:Int)<(la.length:Int))=true:=zT9
     have ei:(i:Int).toNat=i:=Int.toNat_natCast i
     have ei1:((i:Int)+1)=((i+1:Nat):Int):=by omega
     have hwi:((nums la).drop (i*3)).take 3=z0V (la.getD i 0):=z1a (j:=0) z1o 0 hli (Nat.le_refl _)
     obtain ⟨x,hx⟩:∃x,x=la.getD i 0:=⟨_,rfl⟩
     have hxb:BS x w:=by rw [hx];exact hwa _ (by rw [zO1,zO4 hli];exact List.getElem_mem hli)
     rw [←hx] at hwi
     have cm:=w3h hxb hyb hw hw
     have hsn:nums (T++(la.take i).map (·*y))++z0V (x*y)=nums (T++(la.take (i+1)).map (·*y)):=by
      rw [z52,z0r 0 hli,←hx,List.map_append,List.append_assoc];rfl
     have hnl:(nums (T++(la.take i).map (·*y))).length=(j*la.length+i)*3:=by
      rw [z1l,List.length_append,htl,List.length_map,List.length_take,show min i la.length=i by omega]
     have hpg:=z0h 200 (z07 (T++(la.take (i+1)).map (·*y)))
     have hp8:=z0h 200 (z1W y)
     have hz1:=z4K (x*y)
     have hz2:=z1W (x*y)
     refine zS di ?_
     refine wTs ?_
     refine z0d ?_
     refine z0e ?_
     refine zS (zA ei (zA hla (zA hwi (zA hcc (zA hn3 (zA ht3 @cS)))))) ?_
     refine cP cm ?_
     refine zS (zA hcc (zA hn3 (zA ht3 (zA hld (zA hnl h33))))) ?_
     refine ⟨⟨by omega,by omega,fun h=>h,hz1⟩,?_⟩
     rw [hsn,hpg]
     refine z2v 10 ?_
     have p10:=z0h 10 (z07 (T++(la.take (i+1)).map (·*y)))
     have p11:=z0h 10 (z1W y)
     repeat (first|refine z0d ?_|refine z0g ?_|refine z0p ?_|refine z0e ?_|refine And.intro (by omega) ?_|simp (maxSteps:=1000000) (disch:=omega) only [cA,cB,cN,FnD.nb,lk,lkH,Dst.onT,Dst.onX,Dst.slot,z03,z0K,z0M,z00,z0x,z02,unE,cnt,z0l,z0w,z0m,z0o,opE,rmH,z05,z0n,Nat.reduceEqDiff,Nat.reduceLT,Nat.reduceAdd,Nat.reduceMul,Nat.reduceMod,↓reduceIte,reduceCtorEq,Nat.reduceLeDiff,ei1,rmP,hp8,p10,p11])
     exact ⟨i+1,by omega,by omega,by simp [z0v,lk,purge,DV.has,Nat.add_assoc],rfl⟩
    ·have di:decide ((i:Int)<(la.length:Int))=false:=zF9
     obtain rfl:i=la.length:=by omega
     have htk:la.take la.length=la:=List.take_length
     rw [htk,←hjs]
     have p8:=z0h 8 (z07 (z3x la (lb.take (j+1))))
     have hjm:(j+1)*la.length=j*la.length+la.length:=Nat.succ_mul _ _
     refine zS di ?_
     refine z0k rfl (fun h=>by cases h) (fun _=>z0q ?_)
     refine zD ?_
     refine z2v 8 ?_
     repeat (first|refine z0d ?_|refine z0g ?_|refine z0p ?_|refine z0e ?_|refine And.intro (by omega) ?_|simp (maxSteps:=1000000) (disch:=omega) only [cA,cB,cN,FnD.nb,lk,lkH,Dst.onT,Dst.onX,Dst.slot,z03,z0K,z0M,z00,z0x,z02,unE,cnt,z0l,z0w,z0m,z0o,opE,rmH,z05,z0n,Nat.reduceEqDiff,Nat.reduceLT,Nat.reduceAdd,Nat.reduceMul,Nat.reduceMod,↓reduceIte,reduceCtorEq,Nat.reduceLeDiff,ej1,rmP,p8])
     exact ⟨j+1,by omega,by omega,by simp [z0v,lk,purge,DV.has,hjm],rfl⟩
  ·have dl:decide ((j:Int)<(lb.length:Int))=false:=zF9
   obtain rfl:j=lb.length:=by omega
   have htk:lb.take lb.length=lb:=List.take_length
   have htl:=z1l (z3x la lb)
   rw [z3R] at htl
   rw [htk]
   have hnr:=z07 (z3x la lb)
   have hfz:frz 200 (nums (z3x la lb)) (.osl 3 200 0 (lb.length*la.length))=.sl 3 (nums (z3x la lb)):=by
    simp [frz,htl]
    rw [List.take_of_length_le (by omega)]
   refine z0E 200 (cells:=nums (z3x la lb)) rfl (List.all_eq_true.2 hnr) ?_
   refine zS (zA dl hfz) ?_
   refine z0k rfl (fun h=>by cases h) (fun _=>z0q ?_)
   refine zR ?_
   exact z0j (z0i (.imm rfl))
theorem x5V:z0X prog 156:=⟨_,func156,by kernel_rfl,by kernel_rfl⟩
def w1v (a b:Grp):Grp:=⟨z3P a.nm b.nm,.clo 156 [.el (gpC a) 0,.el (gpC b) 0],rfl,rfl⟩
theorem w19 {a b:Grp} {r:Nat} {la lb:List Rat} {w:Nat} (ha:GV prog a r la) (hb:GV prog b r lb) (hwa:∀x∈la,BS x w) (hwb:∀x∈lb,BS x w) (hw:w≤140800) (hl:lb.length*la.length≤1000) (hl2:lb.length≤1000) :
  GV prog (w1v a b) r (z3x la lb):=⟨_,_,.inl rfl,x5V,rfl,z9z a b r la lb ha hb hwa hwb hw hl hl2⟩
theorem y0t (a b:Grp) (hl:b.nm.length*a.nm.length≤1000) (hl2:b.nm.length≤1000) (hsa:∀s∈a.nm,s.length≤1000000000) (hsb:∀s∈b.nm,s.length≤1000000000):z0c prog 84 [.agg (gpC a),.agg (gpC b)] (.agg (gpC (w1v a b))):=by
 have ga0:∀x,(gpC a).getD 0 x=.sl 1 (z0D a.nm):=fun _=>rfl
 have gb0:∀x,(gpC b).getD 0 x=.sl 1 (z0D b.nm):=fun _=>rfl
 have a2:=z1A a
 have b2:=z1A b
 have hca:=z5j a
 have hcb:=z5j b
 have hrA:=List.all_eq_true.2 (z35 a)
 have hrB:=List.all_eq_true.2 (z35 b)
 have hla:=z0z a.nm
 have hlb:=z0z b.nm
 have hoc:∀x y,(DV.agg [.sl 1 x,.clo 156 y]).cells? = some [.sl 1 x,.clo 156 y]:=fun _ _=>rfl
 have hbd:∀x y,laid [DV.nils,.undef] [(0,1,.sl 1 x),(1,1,.clo 156 y)]=some [.sl 1 x,.clo 156 y]:=fun _ _=>rfl
 have hld:∀x,laid [DV.str []] [(0,1,.str x)]=some [.str x]:=fun _=>rfl
 refine z0b x0c (by simp [y1a]) ?_
 unfold z7i w1v
 have hgp:gpC ⟨z3P a.nm b.nm,.clo 156 [.el (gpC a) 0,.el (gpC b) 0],rfl,rfl⟩=[.sl 1 (z0D (z3P a.nm b.nm)),.clo 156 [.el (gpC a) 0,.el (gpC b) 0]]:=rfl
 rw [hgp]
 clear hgp
 generalize a.nm=na at *
 generalize b.nm=nb at *
 generalize gpC a=A at *
 generalize gpC b=B at *
 have hneA:A≠[]:=fun e=>by rw [e] at a2;cases a2
 have hneB:B≠[]:=fun e=>by rw [e] at b2;cases b2
 refine z0d ?_
 refine z0g ?_
 refine zE (zA hca hcb) ?_
 have mB:=z0N 2 A (List.all_eq_true.1 hrB)
 refine z1P 2 (cells:=A) rfl hrA ?_
 refine z1P 3 (cells:=B) (by simp [rmH,lkH,mB]) hrB ?_
 have f2:z2e 3 B (z2e 2 A (.ptr 2 0))=.el A 0:=by
  have:z2e 2 A (.ptr 2 0)=.el A 0:=by simp [z2e,hneA]
  rw [this];rfl
 have f3:z2e 3 B (z2e 2 A (.ptr 3 0))=.el B 0:=by
  have:z2e 2 A (.ptr 3 0)=.ptr 3 0:=rfl
  rw [this];simp [z2e,hneB]
 have f4:z2e 3 B (z2e 2 A (.ptr 4 0))=.ptr 4 0:=rfl
 have fu:frz 3 B (frz 2 A .undef)=.undef:=rfl
 refine z0d ?_
 refine z0g ?_
 refine zE (zA f2 (zA f3 f4)) ?_
 refine z5Z 5 1 200 rfl rfl ?_
 refine zS (zA gb0 (zA b2 hlb)) ?_
 refine z0s (σ:=Nat) (fun j=>[(2,.el A 0),(3,.el B 0),(4,.ptr 4 0),(5,.osl 1 200 0 (j*na.length)),(11,.sl 1 (z0D nb)),(12,.int .i64 nb.length),(13,.int .i64 j)]) (fun j=>[(4,[.nils,.undef]),(200,z0D (z3P na (nb.take j)))]) (fun j=>j≤nb.length) (fun j=>nb.length - j) 0 (Nat.zero_le _) ?_ ?_ ?_
 ·simp [z0v,lk]
 ·rw [fu];rfl
 ·intro j hj
  try simp only at hj ⊢
  by_cases hlt:j<nb.length
  ·have dl:decide ((j:Int)<(nb.length:Int))=true:=zT9
   have ej:(j:Int).toNat=j:=Int.toNat_natCast j
   have ej1:((j:Int)+1)=((j+1:Nat):Int):=by omega
   have hwj:=z0Q (r:=nb) hlt
   obtain ⟨y,hy⟩:∃y,y=nb.getD j []:=⟨_,rfl⟩
   have hyb:y.length≤1000000000:=by rw [hy];exact hsb _ (z1e hlt)
   rw [←hy] at hwj
   have hjs:z3P na (nb.take (j+1))=z3P na (nb.take j)++na.map fun r=>r++58::y:=by
    rw [z0r [] hlt,←hy]
    unfold z3P
    rw [List.flatMap_append];simp
   have htl:(z3P na (nb.take j)).length=j*na.length:=by rw [z2C,List.length_take];congr 1;omega
   have hjl:j*na.length+na.length≤1000:=by
    have:=Nat.mul_le_mul_right na.length (show j+1≤nb.length by omega)
    rw [Nat.succ_mul] at this;omega
   generalize z3P na (nb.take j)=T at *
   refine zS dl ?_
   refine wTs ?_
   refine z0d ?_
   refine z0e ?_
   refine zS (zA ej (zA hlb (zA hwj (zA ga0 (zA a2 hla))))) ?_
   refine z0s (σ:=Nat) (fun i=>[(2,.el A 0),(3,.el B 0),(4,.ptr 4 0),(5,.osl 1 200 0 (j*na.length+i)),(7,.str y),(11,.sl 1 (z0D nb)),(12,.int .i64 nb.length),(13,.int .i64 j),(18,.sl 1 (z0D na)),(19,.int .i64 na.length),(20,.int .i64 i)]) (fun i=>[(4,[.nils,.undef]),(200,z0D (T++(na.take i).map fun r=>r++58::y))]) (fun i=>i≤na.length) (fun i=>na.length - i) 0 (Nat.zero_le _) ?_ ?_ ?_
   ·simp [z0v,lk]
   ·simp
   ·intro i hi
    try simp only at hi ⊢
    by_cases hli:i<na.length
    ·have di:decide ((i:Int)<(na.length:Int))=true:=zT9
     have ei:(i:Int).toNat=i:=Int.toNat_natCast i
     have ei1:((i:Int)+1)=((i+1:Nat):Int):=by omega
     have hwi:=z0Q (r:=na) hli
     obtain ⟨x,hx⟩:∃x,x=na.getD i []:=⟨_,rfl⟩
     have hxb:x.length≤1000000000:=by rw [hx];exact hsa _ (z1e hli)
     rw [←hx] at hwi
     have hx1:(x++[58]).length≤1000000001:=by rw [List.length_append];simp;omega
     have hsn:z0D (T++(na.take i).map fun r=>r++58::y)++[.str (x++[58]++y)]=z0D (T++(na.take (i+1)).map fun r=>r++58::y):=by
      rw [z0r [] hli,←hx]
      unfold z0D
      simp
     have hnl:(z0D (T++(na.take i).map fun r=>r++58::y)).length=j*na.length+i:=by
      rw [z0z,List.length_append,htl,List.length_map,List.length_take,show min i na.length=i by omega]
     have hpg:=z0h 200 (z06 (T++(na.take (i+1)).map fun r=>r++58::y))
     refine zS di ?_
     refine wTs ?_
     refine z0d ?_
     refine z0e ?_
     refine zS (zA ei (zA hla (zA hwi (zA hld hnl)))) ?_
     refine ⟨by simp [DV.rf],⟨by omega,by omega,fun h=>h,by simp [DV.one]⟩,?_⟩
     rw [hsn,hpg]
     refine zS ei1 ?_
     exact ⟨i+1,by omega,by omega,by simp [z0v,lk,purge,DV.has,Nat.add_assoc],rfl⟩
    ·have di:decide ((i:Int)<(na.length:Int))=false:=zF9
     obtain rfl:i=na.length:=by omega
     have htk:na.take na.length=na:=List.take_length
     rw [htk,←hjs]
     have hjm:(j+1)*na.length=j*na.length+na.length:=Nat.succ_mul _ _
     refine zS di ?_
     refine z0k rfl (fun h=>by cases h) (fun _=>z0q ?_)
     refine zS ej1 ?_
     exact ⟨j+1,by omega,by omega,by simp [z0v,lk,hjm],rfl⟩
  ·have dl:decide ((j:Int)<(nb.length:Int))=false:=zF9
   obtain rfl:j=nb.length:=by omega
   have htk:nb.take nb.length=nb:=List.take_length
   have htl:=z0z (z3P na nb)
   rw [z2C] at htl
   rw [htk]
   have hnr:=z06 (z3P na nb)
   have hfz:frz 200 (z0D (z3P na nb)) (.osl 1 200 0 (nb.length*na.length))=.sl 1 (z0D (z3P na nb)):=by
    simp [frz,htl]
    rw [List.take_of_length_le (by omega)]
   refine z0E 200 (cells:=z0D (z3P na nb)) rfl (List.all_eq_true.2 hnr) ?_
   have f44:∀cs,frz 200 cs (.ptr 4 0)=.ptr 4 0:=fun _=>rfl
   refine zS (zA dl (zA hfz f44)) ?_
   refine z0k rfl (fun h=>by cases h) (fun _=>z0q ?_)
   refine zS (zA hbd (zA @z3U hoc)) ?_
   refine ⟨List.all_eq_true.1 rfl,?_⟩
   exact z0j (z0Z rfl rfl rfl (.imm (by simp [DV.rf,DV.rfL])))
abbrev DKt:=DK prog 217 211
theorem x2A {m:Mdl} {cod:Nat} (h:1≤cod∧cod≤4) (t:List Fac) (f:Fac):∃c:Nat,x4i m cod t f=c∧1≤c∧c≤4:=by
 unfold x4i
 split
 ·exact ⟨cod,rfl,h⟩
 ·exact ⟨4,rfl,by decide,by decide⟩
def y4g (S:List Kx) (m:Mdl) (cod:Int) (t:List Fac) (f:Fac):Grp:=if (z2u S f.nm).kd=1 then w1s (z2u S f.nm) f.pw.toNat else w1t (z2u S f.nm) (x4i m cod t f).toNat
theorem z1p {n:Nat} {S:List Kx} {m:Mdl} {cod:Nat} (h:DKt n S m cod) {t:List Fac} {f:Fac} (ht:t∈m.tm) (hf:f∈t) :
  (y4g S m cod t f).nm=z3r S m cod t f∧(∀r,w0I n S m r→GV prog (y4g S m cod t f) r (y1U S m cod t f r))∧z0c prog 81 [.el (z3k n S m cod) 0,.sl 2 (fcs t),.agg (fcC f)] (.agg (gpC (y4g S m cod t f))):=by
 have hvs:=h.vs _ (z48 ht hf)
 have hkm:=z3Y hvs
 have ccol:=z16 n S m cod f.nm h.ok h.tv hvs
 obtain ⟨hkd,hcl,hfit,h32,hk1⟩:=z4F h.tv hkm
 have hpw:=h.pw t ht f hf
 have hnl:=h.nl _ hkm
 obtain ⟨p,hp⟩:∃p:Nat,f.pw=p:=⟨f.pw.toNat,by omega⟩
 have hB6:(z3k n S m cod).length=6:=rfl
 have hBr:(z3k n S m cod).all DV.rf=true:=rfl
 have hB5:(z3k n S m cod).getD 5 .undef=.int .i64 cod:=rfl
 have hck:∀k,(DV.agg (kxC k)).cells? = some (kxC k):=fun _=>rfl
 have hk4:=z0L
 have hkt:∀k,(kxC k).take 4=kxC k:=fun _=>rfl
 have hkg:∀k x,(kxC k).getD 1 x=.int .i64 k.kd:=fun _ _=>rfl
 have hcf:∀f,(DV.agg (fcC f)).cells? = some (fcC f):=fun _=>rfl
 have hf2:=z1H
 have hft:∀f,(fcC f).take 2=fcC f:=fun _=>rfl
 have hfg:∀f x,(fcC f).getD 0 x=.str f.nm:=fun _ _=>rfl
 have hfg1:∀f x,(fcC f).getD 1 x=.int .i64 f.pw:=fun _ _=>rfl
 have hs4:∀(a b c d:DV) (C:List DV),List.take 0 [a,b,c,d]++C++List.drop 4 [a,b,c,d]=C:=fun _ _ _ _ _=>by simp
 have hs2:∀(a b:DV) (C:List DV),List.take 0 [a,b]++C++List.drop 2 [a,b]=C:=fun _ _ _=>by simp
 have hga:=z5j
 have hg2:=z1A
 have hgt:∀g,(gpC g).take 2=gpC g:=fun _=>rfl
 have hgr:∀g,(DV.agg (gpC g)).rf=true:=fun g=>by rw [DV.rf_agg];exact List.all_eq_true.2 (z35 g)
 generalize hK:z2u S f.nm=k at *
 by_cases h1:k.kd=1
 ·have hG:y4g S m cod t f=w1s k p:=by unfold y4g;rw [hK,if_pos h1,hp,Int.toNat_natCast]
  rw [hG]
  refine ⟨?_,fun r hr=>?_,?_⟩
  ·unfold z3r w1s
   rw [hK,if_pos h1,hp]
   by_cases e:p=1
   ·rw [if_pos e,if_pos (by omega)]
   ·rw [if_neg e,if_neg (by omega)];rfl
  ·unfold y1U
   rw [hK,if_pos h1,hp]
   obtain ⟨q1,q2⟩:=h.nu k hkm (k.ce.getD r default) (z4a (by rw [hcl];exact hr.1))
   exact w11 k p r (by rw [hcl];exact hr.1) q1 q2 (by omega) (by decide)
  ·have cn:=z88 (z3k n S m cod) k p (by omega) hnl.1
   have d1:decide (k.kd=1)=true:=decide_eq_true h1
   rw [←hp] at cn
   refine z0b z9i (by simp [z5k]) ?_
   unfold z3S
   generalize z3k n S m cod=B at *
   refine zS (zA hcf (zA hf2 (zA hfg @cS))) ?_
   refine cP ccol ?_
   refine zS (zA hck (zA hk4 (zA hs4 (zA hkg d1)))) ?_
   refine wT ?_
   refine zS (zA hck (zA hk4 (zA hkt (zA hcf (zA hf2 (zA hfg1 @List.drop_zero.{0})))))) ?_
   refine cP cn ?_
   refine zS (zA hga (zA hg2 (zA hgt hs2))) ?_
   exact z0j (z0Z rfl rfl (hg2 _) (.imm (hgr _)))
 ·obtain ⟨c,hc,hc4⟩:=x2A (m:=m) h.c4 t f
  have hG:y4g S m cod t f=w1t k c:=by unfold y4g;rw [hK,if_neg h1,hc,Int.toNat_natCast]
  rw [hG]
  refine ⟨?_,fun r hr=>?_,?_⟩
  ·unfold z3r w1t
   rw [hK,if_neg h1,hc]
  ·unfold y1U
   rw [hK,if_neg h1,hc,Int.toNat_natCast]
   have hrl:r<k.ce.length:=by rw [hcl];exact hr.1
   have hmi:=hr.2 _ (z48 ht hf)
   rw [hK] at hmi
   have:=x8d (hfit _ (z4a hrl)) hmi h1
   exact w2U k r c _ hrl (by omega) (by omega)
  ·have ccd:=z4o (z3k n S m cod) t f _ _ hBr hB6 hB5 rfl (by have:=(h.tl.2 t ht).2;omega) (h.pr t ht f hf)
   have hcc:(if z99 m (t.filter fun x=>!decide (x=f))=true then DV.int .i64 cod else .int .i64 4)=.int .i64 c:=by
    rw [←hc]
    unfold x4i
    split<;>rfl
   rw [hcc] at ccd
   have hl3:=h.lv k hkm h1
   have ccat:=z6A (z3k n S m cod) k c hc4 (by omega) hnl.2 hnl.1 (h.mx k hkm h1 c hc4.1 hc4.2)
   have d1:decide (k.kd=1)=false:=decide_eq_false h1
   refine z0b z9i (by simp [z5k]) ?_
   unfold z3S
   generalize z3k n S m cod=B at *
   refine zS (zA hcf (zA hf2 (zA hfg @cS))) ?_
   refine cP ccol ?_
   refine zS (zA hck (zA hk4 (zA hs4 (zA hkg d1)))) ?_
   refine wFs ?_
   refine zS (zA hck (zA hk4 (zA hkt (zA hcf (zA hf2 (zA hft @List.drop_zero.{0})))))) ?_
   refine cP ccd ?_
   refine zR ?_
   refine cP ccat ?_
   refine zS (zA hga (zA hg2 (zA hgt hs2))) ?_
   exact z0j (z0Z rfl rfl (hg2 _) (.imm (hgr _)))
end Go.Proofs.YtlcagndeidjobaaGreatDoor
namespace Go.Proofs.YtlcagndeidjobaaGreatDoor
open Tryz
open Go Go.Dat Go.Proofs Go.RowKit Go.Shelf Nat32
def atL (S:List Kx) (names:List Bs):List Nat:=names.map fun s=>(ixS (z1g S) s).toNat
theorem y6e (S:List Kx) {names:List Bs} {i:Nat} (h:i<names.length):(atL S names).getD i 0=(ixS (z1g S) (names.getD i [])).toNat:=by
 unfold atL
 rw [zO1,List.getElem?_map,zO4 h,zO1,zO4 h];rfl
theorem x6b {R:List Nat} {i:Nat} (h:i<R.length) (d:DV):(ints R).getD i d=.int .i64 (R.getD i 0:Nat):=by
 unfold ints
 rw [zO1,List.getElem?_map,zO4 h,zO1,zO4 h];rfl
theorem z9M (n:Nat) (S:List Kx) (names:List Bs) (h:okT S) (hv:x2C n S=true) (hnl:names.length≤1000000) (hn:∀s∈names,0≤ixS (z1g S) s) :
  z0c prog 40 [.agg [.int .i64 n,.sl 4 (kxs S)],.sl 1 (z0D names)] (.tup [.sl 1 (ints (z1f (z2I S names) n)),.int .i64 0]):=by
 have hll:=z0z names
 have hlen:=z1B S
 have hca:(DV.agg [.int .i64 n,.sl 4 (kxs S)]).cells? = some [.int .i64 n,.sl 4 (kxs S)]:=rfl
 have cv:=z28 n S h
 rw [hv] at cv
 obtain ⟨_,hn0,hn1,hS32,hce⟩:=x5x hv
 have hl1:∀x,laid [DV.int .i64 0] [(0,1,.int .i64 x)]=some [.int .i64 x]:=fun _=>rfl
 refine z0b y6B (by simp [z85]) ?_
 unfold z5u
 refine zS (zA hca @cS) ?_
 refine cP cv ?_
 refine zR ?_
 refine wFs ?_
 refine z0d ?_
 refine z0g ?_
 refine zD ?_
 refine z5Z 6 1 200 rfl (by simp [lkH]) ?_
 refine zR ?_
 refine z0s (σ:=Nat) (fun i=>[(1,.sl 1 (z0D names)),(2,.ptr 2 0),(6,.osl 1 200 0 i),(7,.int .i64 i)]) (fun i=>[(2,[.int .i64 n,.sl 4 (kxs S)]),(200,ints ((atL S names).take i))]) (fun i=>i≤names.length) (fun i=>names.length - i) 0 (Nat.zero_le _) ?_ rfl ?_
 ·simp [z0v,lk]
 ·intro i hi
  try simp only at hi ⊢
  have hAl:(atL S names).length=names.length:=by unfold atL;rw [List.length_map]
  by_cases hlt:i<names.length
  ·have dl:decide ((i:Int)<(names.length:Int))=true:=zT9
   have ei:(i:Int).toNat=i:=Int.toNat_natCast i
   have e1:((i:Int)+1)=((i+1:Nat):Int):=by omega
   have hg:=z0Q hlt
   have hga:=y6e S hlt
   have hs0:=hn _ (z1e hlt)
   have cf:=z1X n S (names.getD i []) h hv
   obtain ⟨j,hj⟩:∃j:Nat,ixS (z1g S) (names.getD i [])=j:=⟨(ixS (z1g S) (names.getD i [])).toNat,by omega⟩
   rw [hj,Int.toNat_natCast] at hga
   rw [hj] at cf
   generalize names.getD i []=s at *
   have hsn:ints ((atL S names).take i)++[.int .i64 j]=ints ((atL S names).take (i+1)):=by
    rw [z0r 0 (show i<(atL S names).length by omega),hga]
    unfold ints;rw [List.map_append];rfl
   have hil:(ints ((atL S names).take i)).length=i:=by rw [z2p,List.length_take];omega
   have hil1:(ints ((atL S names).take (i+1))).length=i+1:=by rw [z2p,List.length_take];omega
   have hlast:(ints ((atL S names).take (i+1))).getD i .undef=.int .i64 j:=by
    rw [←hsn,zO1,List.getElem?_append_right (by omega),hil,Nat.sub_self];rfl
   have hpg:=z0h 200 (z5q ((atL S names).take (i+1)))
   have dj:decide ((j:Int)<0)=false:=zF9
   have p2:∀z,purge 200 (.ptr 2 z)=.ptr 2 z:=fun z=>by simp [purge,DV.has]
   refine zS (zA dl hll) ?_
   refine wTs ?_
   refine z0d ?_
   refine z0e ?_
   refine z0d ?_
   refine z0p ?_
   refine zE (zA ei (zA hll (zA hg @cS))) ?_
   repeat refine ⟨by omega,?_⟩
   refine cP cf ?_
   refine zE (zA hl1 hil) ?_
   repeat refine ⟨by omega,?_⟩
   refine ⟨List.all_eq_true.1 rfl,⟨by omega,by omega,fun h=>h,List.all_eq_true.1 rfl⟩,?_⟩
   rw [hsn,hpg]
   refine zS (zA ei (zA p2 (zA hil1 (zA hlast (zA dj @cS))))) ?_
   refine wFs ?_
   refine zS e1 ?_
   exact ⟨i+1,by omega,by omega,by simp [z0v,lk],rfl⟩
  ·have dl:decide ((i:Int)<(names.length:Int))=false:=zF9
   obtain rfl:i=names.length:=by omega
   rw [List.take_of_length_le (show (atL S names).length≤names.length by omega)]
   have hAr:=z5q (atL S names)
   have hAi:=z2p (atL S names)
   have hAg:=fun k (hk:k<names.length)=>x6b (R:=atL S names) (show k<(atL S names).length by omega) .undef
   have hAU:=fun k (hk:k<names.length)=>x2K S (a:=names) hk
   have hUl:=x3T S names
   refine z0E 200 (cells:=ints (atL S names)) rfl (List.all_eq_true.2 hAr) ?_
   have hfz:frz 200 (ints (atL S names)) (.osl 1 200 0 names.length)=.sl 1 (ints (atL S names)):=by
    simp [frz,hAi,hAl]
    rw [List.take_of_length_le (by omega)]
   have f2:frz 200 (ints (atL S names)) (.ptr 2 0)=.ptr 2 0:=by simp [frz,purge,DV.has]
   refine zS (zA dl (zA hll (zA hfz (zA f2 @cS)))) ?_
   refine z0k rfl (fun h=>by cases h) (fun _=>z0q ?_)
   refine z0d ?_
   refine z0g ?_
   refine zD ?_
   refine z5Z 8 1 201 rfl (by simp [lkH]) ?_
   refine zR ?_
   generalize hAA:atL S names=A at *
   generalize hUU:z2I S names=U at *
   refine z0s (σ:=Nat) (fun r=>[(2,.ptr 2 0),(6,.sl 1 (ints A)),(8,.osl 1 201 0 (z1f U r).length),(9,.int .i64 r)]) (fun r=>[(2,[.int .i64 n,.sl 4 (kxs S)]),(201,ints (z1f U r))]) (fun r=>r≤n) (fun r=>n - r) 0 (Nat.zero_le _) ?_ rfl ?_
   ·simp [z0v,lk,z1f]
   ·intro r hr
    try simp only at hr ⊢
    have hRl:=z2p (z1f U r)
    have hRb:=z5N U r
    by_cases hlr:r<n
    ·have dr:decide ((r:Int)<(n:Int))=true:=zT9
     have er:(r:Int).toNat=r:=Int.toNat_natCast r
     have er1:((r:Int)+1)=((r+1:Nat):Int):=by omega
     refine zS (zA dr @cS) ?_
     refine wTs ?_
     refine z0d ?_
     refine z0e ?_
     refine zR ?_
     refine z0s (σ:=Nat) (fun i=>[(2,.ptr 2 0),(6,.sl 1 (ints A)),(8,.osl 1 201 0 (z1f U r).length),(9,.int .i64 r),(10,.bool (!(U.take i).any (y72 r))),(11,.int .i64 i)]) (fun i=>[(2,[.int .i64 n,.sl 4 (kxs S)]),(201,ints (z1f U r))]) (fun i=>i≤names.length) (fun i=>names.length - i) 0 (Nat.zero_le _) ?_ rfl ?_
     ·simp [z0v,lk]
     ·intro i hi
      try simp only at hi ⊢
      by_cases hli:i<names.length
      ·have di:decide ((i:Int)<(names.length:Int))=true:=zT9
       have ei:(i:Int).toNat=i:=Int.toNat_natCast i
       have ei1:((i:Int)+1)=((i+1:Nat):Int):=by omega
       have hUi:i<U.length:=by omega
       have htk:=x18 (y72 r) hUi
       cases hw:(U.take i).any (y72 r)
       ·have hag:=hAg i hli
        have hbd:=z36 (names.getD i []) (z1g S)
        rw [z0Y] at hbd
        have hs0:=hn _ (z1e hli)
        have hjl:A.getD i 0<S.length:=by rw [←hAA,y6e S hli];omega
        have hku:U.getD i default=S.getD (A.getD i 0) default:=by rw [hAU i hli,←hAA,y6e S hli]
        have hkm:S.getD (A.getD i 0) default∈S:=z4a hjl
        have hkc:=hce _ hkm
        have hg3:(kxs S).getD (A.getD i 0*4+3) .undef=.sl 5 (cxs (S.getD (A.getD i 0) default).ce):=z8n (l:=S) (j:=3) z0L default hjl (by decide) .undef
        rw [hku] at htk
        generalize S.getD (A.getD i 0) default=k at *
        generalize A.getD i 0=j at *
        have ej:(j:Int).toNat=j:=Int.toNat_natCast j
        have hcx:=z1V k.ce
        have hmg:(cxs k.ce).getD (r*5) .undef=.bool (k.ce.getD r default).mi:=z8n (l:=k.ce) (j:=0) z1C default (by omega) (by decide) .undef
        have hmb:y72 r k=(k.ce.getD r default).mi:=rfl
        rw [hmb,hw,Bool.false_or] at htk
        generalize (k.ce.getD r default).mi=b at *
        have dtt:(!false)=true:=rfl
        refine zS (zA hAi (zA hAl (zA di dtt))) ?_
        refine wTs ?_
        refine z0d ?_
        refine z0e ?_
        refine z0p ?_
        simp (maxSteps:=1000000) (disch:=omega) only [cA,cB,cN,FnD.nb,lk,lkH,Dst.onT,Dst.onX,Dst.slot,z03,z0K,z0M,z00,z0x,z02,unE,cnt,z0l,z0w,z0m,z0o,opE,rmH,z05,z0n,Nat.reduceEqDiff,Nat.reduceLT,Nat.reduceAdd,Nat.reduceMul,Nat.reduceMod,↓reduceIte,reduceCtorEq,Nat.reduceLeDiff,ei,ej,er,hAi,hAl,hag,hlen,hg3,hcx,hmg,cS]
        repeat refine ⟨by omega,?_⟩
        refine zS ei1 ?_
        exact ⟨i+1,by omega,by omega,by simp [z0v,lk,htk]⟩
       ·have dtt:(!true)=false:=rfl
        rw [hw,Bool.true_or] at htk
        refine zS (zA hAi (zA hAl (zA di dtt))) ?_
        refine wTs ?_
        refine z0d ?_
        refine z0e ?_
        refine z0p ?_
        refine zD ?_
        repeat refine ⟨by omega,?_⟩
        refine zS ei1 ?_
        exact ⟨i+1,by omega,by omega,by simp [z0v,lk,htk]⟩
      ·have di:decide ((i:Int)<(names.length:Int))=false:=zF9
       obtain rfl:i=names.length:=by omega
       have hut:U.take names.length=U:=List.take_of_length_le (by omega)
       rw [hut]
       cases hm:U.any (y72 r)
       ·have hy:=y4q hm
        have hsn:ints (z1f U r)++[.int .i64 r]=ints (z1f U (r+1)):=by rw [hy];unfold ints;rw [List.map_append];rfl
        have hpg:=z0h 201 (z5q (z1f U (r+1)))
        have hyl:(z1f U (r+1)).length=(z1f U r).length+1:=by rw [hy,List.length_append];rfl
        have p2:∀z,purge 201 (.ptr 2 z)=.ptr 2 z:=fun z=>by simp [purge,DV.has]
        refine zS (zA hAi (zA hAl di)) ?_
        refine z0k rfl (fun h=>by cases h) (fun _=>z0q ?_)
        refine zR ?_
        refine wT ?_
        refine zS (zA hl1 hRl) ?_
        refine ⟨List.all_eq_true.1 rfl,⟨by omega,by omega,fun h=>h,List.all_eq_true.1 rfl⟩,?_⟩
        rw [hsn,hpg]
        refine zS (zA er1 p2) ?_
        exact ⟨r+1,by omega,by omega,by simp [z0v,lk,hyl],rfl⟩
       ·have hy:=y7U hm
        refine zS (zA hAi (zA hAl di)) ?_
        refine z0k rfl (fun h=>by cases h) (fun _=>z0q ?_)
        refine zR ?_
        refine wFs ?_
        refine zS er1 ?_
        exact ⟨r+1,by omega,by omega,by simp [z0v,lk,hy],by rw [hy]⟩
    ·have dr:decide ((r:Int)<(n:Int))=false:=zF9
     obtain rfl:r=n:=by omega
     have hRr:=z5q (z1f U r)
     refine z0E 201 (cells:=ints (z1f U r)) rfl (List.all_eq_true.2 hRr) ?_
     have hfz2:frz 201 (ints (z1f U r)) (.osl 1 201 0 (z1f U r).length)=.sl 1 (ints (z1f U r)):=by
      simp [frz,hRl]
      rw [List.take_of_length_le (by omega)]
     have f3:frz 201 (ints (z1f U r)) (.ptr 2 0)=.ptr 2 0:=by simp [frz,purge,DV.has]
     refine zS (zA dr (zA hfz2 (zA f3 @cS))) ?_
     refine z0k rfl (fun h=>by cases h) (fun _=>z0q ?_)
     refine zR ?_
     exact z0j (z13 (.imm rfl) (.imm rfl))
end Go.Proofs.YtlcagndeidjobaaGreatDoor
namespace Go.Proofs.YtlcagndeidjobaaGreatDoor
open Tryz
open Go Go.Dat Go.Proofs Go.RowKit Go.Lib Nat32
theorem y0x (p:Nat) {q:Rat} {b:Nat} (hq:BS q b) (hp:p≤1000) (hb:b≤100):z0c prog 178 [.agg (z0V q),.int .i64 p] (.agg (z0V (q ^ p))):=by
 have c1:z0c prog 44 [.int .i64 1] (.agg (z0V 1)):=z3n 1 (by decide) (by decide)
 have hcc:∀x:Rat,(DV.agg (z0V x)).cells? = some (z0V x):=fun _=>rfl
 have hn3:=z1o
 have ht3:∀x:Rat,(z0V x).take 3=z0V x:=fun _=>rfl
 have hs3:∀(x:Rat) (C:List DV),List.take 0 (z0V x)++C++List.drop 3 (z0V x)=C:=fun _ _=>by rw [List.drop_of_length_le (by rw [z1o];omega)];simp
 have hz3:∀(a b c:DV) (C:List DV),List.take 0 [a,b,c]++C++List.drop 3 [a,b,c]=C:=fun _ _ _ _=>by simp
 refine z0b y9O (by simp [y0D]) ?_
 unfold z7B
 refine zS (zA hcc (zA hn3 ht3)) ?_
 refine cP c1 ?_
 refine zS (zA hcc (zA hn3 (zA ht3 hz3))) ?_
 refine z0s (σ:=Nat) (fun i=>[(1,.int .i64 p),(2,.ptr 2 0),(4,.ptr 4 0),(5,.ptr 5 0),(6,.int .i64 i)]) (fun i=>[(2,z0V q),(4,[.bool false,.nils,.nils]),(5,z0V (q ^ i))]) (fun i=>i≤p) (fun i=>p - i) 0 (Nat.zero_le _) ?_ ?_ ?_
 ·simp [z0v,lk]
 ·rw [Rat.pow_zero]
 ·intro i hi
  try simp only at hi ⊢
  by_cases hlt:i<p
  ·have dl:decide ((i:Int)<(p:Int))=true:=zT9
   have e1:((i:Int)+1)=((i+1:Nat):Int):=by omega
   have hib:i*b≤100000:=Nat.le_trans (Nat.mul_le_mul (show i≤1000 by omega) hb) (by decide)
   have cm:=w2P (y8g hq i) hq (by omega) (by omega)
   rw [←Rat.pow_succ] at cm
   refine zS dl ?_
   refine wTs ?_
   refine zS (zA hcc (zA hn3 (zA ht3 @List.drop_zero.{0}))) ?_
   refine cP cm ?_
   refine zS (zA hcc (zA hn3 (zA ht3 (zA hs3 e1)))) ?_
   exact ⟨i+1,by omega,by omega,by simp [z0v,lk],rfl⟩
  ·have dl:decide ((i:Int)<(p:Int))=false:=zF9
   obtain rfl:i=p:=by omega
   refine zS dl ?_
   refine z0k rfl (fun h=>by cases h) (fun _=>z0q ?_)
   refine zS (zA hcc (zA hn3 (zA ht3 (zA hz3 @List.drop_zero.{0})))) ?_
   exact z0j (z0Z rfl rfl rfl (.imm rfl))
def nmV (f:Fac):Bs:=if f.pw=1 then f.nm else f.nm++94::decDigits f.pw.toNat
theorem z9x (k:Kx) (f:Fac) (R:List Nat) (v:Nat→Rat) (hf:1≤f.pw∧f.pw≤8) (hnl:f.nm.length≤1000000) (hR:R.length≤1000) (hr:∀r∈R,r<k.ce.length∧(k.ce.getD r default).va=qX (v r)∧BS (v r) 100) (hkl:k.ce.length≤1000000) :
  z0c prog 100 [.agg (kxC k),.agg (fcC f),.sl 1 (ints R)] (.agg (z25 [nmV f] (R.map fun r=>[v r ^ f.pw.toNat]))):=by
 obtain ⟨p,hp⟩:∃p:Nat,f.pw=p:=⟨f.pw.toNat,by omega⟩
 have hkc:(DV.agg (kxC k)).cells? = some (kxC k):=rfl
 have hk3:∀x,(kxC k).getD 3 x=.sl 5 (cxs k.ce):=fun _=>rfl
 have hk4:=z0L k
 have hkr:=z12 k
 have hfc:(DV.agg (fcC f)).cells? = some (fcC f):=rfl
 have hf0:∀x,(fcC f).getD 0 x=.str f.nm:=fun _=>rfl
 have hf1:∀x,(fcC f).getD 1 x=.int .i64 p:=fun _=>by rw [←hp];rfl
 have hf2:=z1H f
 have hfr:=y80 f
 have hrl:=z2p R
 have hcx:=z1V k.ce
 have hcc:∀x:Rat,(DV.agg (z0V x)).cells? = some (z0V x):=fun _=>rfl
 have hn3:=z1o
 have ht3:∀x:Rat,(z0V x).take 3=z0V x:=fun _=>rfl
 have hld:∀x:Rat,laid [DV.bool false,.nils,.nils] [(0,3,.agg (z0V x))]=some (z0V x):=fun _=>rfl
 have hlx:∀x,laid [DV.nils] [(0,1,.sl 3 x)]=some [.sl 3 x]:=fun _=>rfl
 have hls:∀x,laid [DV.str []] [(0,1,.str x)]=some [.str x]:=fun _=>rfl
 have hlb:∀x,laid [DV.nils,.nils] [(0,1,.sl 1 x)]=some [.sl 1 x,.nils]:=fun _=>rfl
 have hz2:∀(a b:DV) (C:List DV),List.take 0 [a,b]++C++List.drop 2 [a,b]=C:=fun _ _ _=>by simp
 refine z0b y6o (by simp [z8o]) ?_
 unfold z6f
 have hN:nmV f=if p=1 then f.nm else f.nm++94::decDigits p:=by
  unfold nmV
  rw [hp,Int.toNat_natCast]
  by_cases e:p=1
  ·rw [if_pos e,if_pos (by omega)]
  ·rw [if_neg e,if_neg (by omega)]
 rw [hp,Int.toNat_natCast]
 generalize kxC k=K at *
 generalize fcC f=C at *
 refine zS (zA hkc (zA hfc (zA hf0 (zA hf1 hf2)))) ?_
 refine z4c (ι:=Unit) (fun _=>True) (fun _=>[(2,.sl 1 (ints R)),(3,.ptr 3 0),(4,.ptr 4 0),(6,.ptr 6 0),(7,.str (nmV f))]) (fun _=>[(3,K),(4,C),(6,[.nils,.nils])]) ?_ ?_
 ·by_cases h1:p=1
  ·have d1:decide (¬(p:Int)=1)=false:=zF9
   rw [hN,if_pos h1,d1]
   refine wFs ?_
   exact ⟨(),trivial,by simp [z0v,lk],rfl⟩
  ·have d1:decide (¬(p:Int)=1)=true:=zT9
   have c1:=z2d p (by omega)
   have c2:=z5G (limbs p) (Nat.le_trans (z0A.2 (show p<4294967296 ^ 1 by omega)) (by decide)) (z0f p)
   rw [z0y] at c2
   have h8:=dd8 p (by omega)
   have ha8:([94]++decDigits p).length=2:=by rw [List.length_append,h8];rfl
   rw [hN,if_neg h1,d1]
   refine wT ?_
   refine zS (zA hf1 hf2) ?_
   refine cP c1 ?_
   refine zR ?_
   refine cP c2 ?_
   refine zR ?_
   exact ⟨(),by simp [z0v,lk]⟩
 rintro ⟨⟩ -
 generalize nmV f=N at *
 have hbk:z25 [N] (R.map fun r=>[v r ^ p])=[.sl 1 [.str N],.sl 1 (z39 (R.map fun r=>[v r ^ p]))]:=rfl
 rw [hbk]
 have prw:∀o p k,p≠o→purge o (.ptr p k)=.ptr p k:=fun o p k h1=>by simp [purge,DV.has,h1]
 have fp:∀o cs p k,p≠o→frz o cs (.ptr p k)=.ptr p k:=fun o cs p k h=>by simp [frz,purge,DV.has,h]
 have pn:∀o,purge o .nils=.nils:=fun o=>by simp [purge,DV.has]
 have ps:∀o z x,purge o (.sl z x)=.sl z x:=fun o z x=>by simp [purge,DV.has]
 refine zS (zA hls (zA hlb hz2)) ?_
 refine ⟨List.all_eq_true.1 rfl,?_⟩
 refine zS (zA hls (zA hlb (zA hz2 @cS))) ?_
 refine z2J 8 1 1 200 (cells:=[.sl 1 [.str N],.nils]) rfl rfl rfl ?_
 have hvL:∀i,((R.map fun r=>[v r ^ p]).take i).length=min i R.length:=fun i=>by rw [List.length_take,List.length_map]
 refine z0s (σ:=Nat) (fun i=>[(2,.sl 1 (ints R)),(3,.ptr 3 0),(4,.ptr 4 0),(6,.ptr 6 0),(8,.ptr 8 0),(9,.int .i64 i)]) (fun i=>[(3,K),(4,C),(6,[.nils,.nils]),(8,[.sl 1 [.str N],.osl 1 200 0 i]),(200,z39 ((R.take i).map fun r=>[v r ^ p]))]) (fun i=>i≤R.length) (fun i=>R.length - i) 0 (Nat.zero_le _) ?_ ?_ ?_
 ·simp [z0v,lk]
 ·rfl
 ·intro i hi
  try simp only at hi ⊢
  have hwl:(z39 ((R.take i).map fun r=>[v r ^ p])).length=i:=by rw [z3E,List.length_map,List.length_take];omega
  by_cases hlt:i<R.length
  ·have dl:decide ((i:Int)<(R.length:Int))=true:=zT9
   have ei:(i:Int).toNat=i:=Int.toNat_natCast i
   have e1:((i:Int)+1)=((i+1:Nat):Int):=by omega
   have hgr:=z55 hlt .undef
   obtain ⟨q1,q2,q3⟩:=hr _ (z5R hlt)
   have htm:=y74 (fun r=>[v r ^ p]) 0 hlt
   generalize R.getD i 0=r at *
   have er:(r:Int).toNat=r:=Int.toNat_natCast r
   have hg:((cxs k.ce).drop (r*5+1)).take 3=z0V (v r):=by
    have h1:((cxs k.ce).drop (r*5+1)).take 3=((cxC (k.ce.getD r default)).drop 1).take 3:=z1a z1C default q1 (by decide)
    rw [h1]
    show xnC (k.ce.getD r default).va=_
    rw [q2];rfl
   have cp:=y0x p q3 (by omega) (by decide)
   have hns:z0V (v r ^ p)=nums [v r ^ p]:=by unfold nums;simp
   have hsn:z39 ((R.take i).map fun r=>[v r ^ p])++[.sl 3 (z0V (v r ^ p))]=z39 ((R.take (i+1)).map fun r=>[v r ^ p]):=by rw [hns,z8V,htm]
   have hy1:=z1W (v r ^ p)
   have m1:=z0h 200 (z4x ((R.take (i+1)).map fun r=>[v r ^ p]))
   have m2:=z0h 200 hkr
   have m3:=z0h 200 hfr
   refine zS (zA dl hrl) ?_
   refine wTs ?_
   refine z0d ?_
   refine z0e ?_
   refine z0p ?_
   simp (maxSteps:=1000000) (disch:=omega) only [cA,cB,cN,FnD.nb,lk,lkH,Dst.onT,Dst.onX,Dst.slot,z03,z0K,z0M,z00,z0x,z02,unE,cnt,z0l,z0w,z0m,z0o,opE,rmH,z05,z0n,Nat.reduceEqDiff,Nat.reduceLT,Nat.reduceAdd,Nat.reduceMul,Nat.reduceMod,↓reduceIte,reduceCtorEq,Nat.reduceLeDiff,ei,er,hrl,hgr,hk3,hk4,hcx,hg,hf1,hf2,cS]
   repeat refine ⟨by omega,?_⟩
   refine cP cp ?_
   refine zE (zA hld (zA hlx hwl)) ?_
   repeat refine ⟨by omega,?_⟩
   refine ⟨List.all_eq_true.1 rfl,⟨by omega,by omega,fun h=>h,List.all_eq_true.1 rfl⟩,?_⟩
   rw [hsn,m1,m2,m3]
   refine zS prw ?_
   refine ⟨rfl,?_⟩
   refine zS (zA prw e1) ?_
   exact ⟨i+1,by omega,by omega,by simp [z0v,lk],rfl⟩
  ·have dl:decide ((i:Int)<(R.length:Int))=false:=zF9
   obtain rfl:i=R.length:=by omega
   rw [List.take_length] at hwl ⊢
   have hXr:=z4x (R.map fun r=>[v r ^ p])
   generalize z39 (R.map fun r=>[v r ^ p])=X at *
   refine z0E 200 (cells:=X) rfl (List.all_eq_true.2 hXr) ?_
   have hfz:frz 200 X (.osl 1 200 0 R.length)=.sl 1 X:=by
    simp [frz,hwl]
    rw [List.take_of_length_le (by omega)]
   have m4:=z0N 200 X hkr
   have m5:=z0N 200 X hfr
   have fsl:∀o cs z x,frz o cs (.sl z x)=.sl z x:=fun o cs z x=>by simp [frz,purge,DV.has]
   have fnl:∀o cs,frz o cs .nils=.nils:=fun o cs=>by simp [frz,purge,DV.has]
   refine zS (zA dl (zA hrl (zA hfz (zA m4 (zA m5 (zA fp (zA fsl fnl))))))) ?_
   refine z0k rfl (fun h=>by cases h) (fun _=>z0q ?_)
   refine zS (zA hz2 @cS) ?_
   exact z0j (z0Z rfl rfl rfl (.imm (by simp [DV.rf,DV.rfL])))
end Go.Proofs.YtlcagndeidjobaaGreatDoor
namespace Go.Proofs.YtlcagndeidjobaaGreatDoor
open Tryz
open Go Go.Dat Go.Proofs Go.RowKit Nat32
noncomputable def evB (t:Tb) (n f:Nat) (ds:List DV) (r:DV):Bool:=match w0t t (evN t n) 1000 f ds [] with
 | some (q,[])=>dvB q r && r.rf
 | _=>false
theorem z1j {P:Program} {t:Tb} (ht:TOK P t) {n f:Nat} {ds:List DV} {r:DV} (h:evB t n f ds r=true):z0c P f ds r:=by
 unfold evB at h
 split at h
 ·rename_i q hq
  rw [Bool.and_eq_true] at h
  rw [z7w h.1] at hq
  exact z2R ht n hq h.2
 ·cases h
noncomputable def mdT:Tb:=([(9,efF prog Tryz.f9 [0,2,3,6] []),(33,efF prog Tryz.f33 [0,2,3,4,5,6,9,33,40,53] []),(34,efF prog Tryz.f34 [0,1,2,3,4,5,6,8,9,10,11,14,38,46,52,61] []),(63,efF prog Tryz.f63 [0,2,3,8] []),(64,efF prog Tryz.f64 [0,1,7] []),(65,efF prog Tryz.f65 [0,1,4,5,6,8,20] []),(66,efF prog Tryz.f66 [0,2,21] []),(68,efF prog Tryz.f68 [0,1,2,3,28,33,42] []),(69,efF prog Tryz.f69 [0,2,3,4,5,9,25] []),(70,efF prog Tryz.f70 [0,1,2,6,7,8,9,10,11,12,13,14,15,16,30,40,54,63,67] []),(71,efF prog Tryz.f71 [0,1,2,6,7,8,9,10,11,12,13,14,22,24,25,28,46,49,54,62,75,77,81,86,91,96] []),(72,efF prog Tryz.f72 [0,1,4,5,9,17] []),(73,efF prog Tryz.f73 [0,2,3,5] []),(74,efF prog Tryz.f74 [0,1,4,5,6,10,18] []),(120,efF prog Tryz.f120 [0,2,3,7,27] []),(121,efF prog Tryz.f121 [0,2,3,21,25,32] []),(122,efF prog Tryz.f122 [0,1,4,8] []),(123,efF prog Tryz.f123 [0,2,3,7] []),(124,efF prog Tryz.f124 [0,1,4,5,12,19,26,33] []),(125,efF prog Tryz.f125 [0,1,2,4,5,6,12] [8]),(126,efF prog Tryz.f126 [0,23] []),(127,efF prog Tryz.f127 [0,1,4,5,6,7,16,26,32] []),(128,efF prog Tryz.f128 [0,1,2,4,5,15,30] []),(129,efF prog Tryz.f129 [0,1,2,4,5,10] []),(130,efF prog Tryz.f130 [0,1,3,4,5,9,17] []),(131,efF prog Tryz.f131 [0,1,4,5,6,10,19] []),(132,efF prog Tryz.f132 [0,1,4,5,6,12,21] []),(133,efF prog Tryz.f133 [0,2,3,7,15] []),(134,efF prog Tryz.f134 [0,2,3,10,13] []),(135,efF prog Tryz.f135 [0,1,4] []),(136,efF prog Tryz.f136 [0,1,4,5,6,7,11,17] []),(137,efF prog Tryz.f137 [0,1,4,5,6,10] []),(194,efF prog Tryz.f194 [0,2] []),(195,efF prog Tryz.f195 [0,2] []),(196,efF prog Tryz.f196 [0,2,3,4,5,6,8,21,35] []),(197,efF prog Tryz.f197 [0,1,2,6,7,10,15] []),(240,efF prog Tryz.f240 [0,2,3,50] []),(76,efF prog Tryz.f76 [0,1,2,3,4,5,6,16,18,19,20,21,48,49,50,51,52,65,72] []),(147,efF prog Tryz.f147 [0,1,3] []),(144,efF prog Tryz.f144 [0,1,2] []),(148,efF prog Tryz.f148 [0,1,3,4] []),(207,efF prog Tryz.f207 [0,1,2,3] []),(143,efF prog Tryz.f143 [0,2,4,21,23,24,25,26,48] []),(93,efF prog Tryz.f93 [0,1,2,3,4,5,6,16,21,52,56,92,95,104] []),(78,efF prog Tryz.f78 [0,1,2,3,5,7,12,13,14,15,18,19,20,21] [10]),(41,efF prog Tryz.f41 [0,1,2,3,4,5,13,23] [8]),(217,efF prog Tryz.f217 [0,1,3,4,7] [2000003]),(247,efF prog Tryz.f247 [0,1,2,3] [2000002]),(248,efF prog Tryz.f248 [0,1,2,3] [2000002]),(145,efF prog Tryz.f145 [0,1,3,4] []),(204,efF prog Tryz.f204 [0,1,3,4,5,7,8,9,16] []),(146,efF prog Tryz.f146 [0,1,4] []),(205,efF prog Tryz.f205 [0,1,4,5,7,8,9,16] []),(206,efF prog Tryz.f206 [0,1,4] []),(242,efF prog Tryz.f242 [0,1,4,5,7,8,9,16] []),(172,efF prog Tryz.f172 [0,1,4,5,10,14,23] []),(203,efF prog Tryz.f203 [0,2] [])],awK)
theorem z2f:TOK prog mdT:=by
 have h:=x9T
 replace h:=h.f func203 [0,2] [] (by kernel_rfl)
 replace h:=h.f func172 [0,1,4,5,10,14,23] [] (by kernel_rfl)
 replace h:=h.f func242 [0,1,4,5,7,8,9,16] [] (by kernel_rfl)
 replace h:=h.f func206 [0,1,4] [] (by kernel_rfl)
 replace h:=h.f func205 [0,1,4,5,7,8,9,16] [] (by kernel_rfl)
 replace h:=h.f func146 [0,1,4] [] (by kernel_rfl)
 replace h:=h.f func204 [0,1,3,4,5,7,8,9,16] [] (by kernel_rfl)
 replace h:=h.f func145 [0,1,3,4] [] (by kernel_rfl)
 replace h:=h.f func248 [0,1,2,3] [2000002] (by kernel_rfl)
 replace h:=h.f func247 [0,1,2,3] [2000002] (by kernel_rfl)
 replace h:=h.f func217 [0,1,3,4,7] [2000003] (by kernel_rfl)
 replace h:=h.f func41 [0,1,2,3,4,5,13,23] [8] (by kernel_rfl)
 replace h:=h.f func78 [0,1,2,3,5,7,12,13,14,15,18,19,20,21] [10] (by kernel_rfl)
 replace h:=h.f func93 [0,1,2,3,4,5,6,16,21,52,56,92,95,104] [] (by kernel_rfl)
 replace h:=h.f func143 [0,2,4,21,23,24,25,26,48] [] (by kernel_rfl)
 replace h:=h.f func207 [0,1,2,3] [] (by kernel_rfl)
 replace h:=h.f func148 [0,1,3,4] [] (by kernel_rfl)
 replace h:=h.f func144 [0,1,2] [] (by kernel_rfl)
 replace h:=h.f func147 [0,1,3] [] (by kernel_rfl)
 replace h:=h.f func76 [0,1,2,3,4,5,6,16,18,19,20,21,48,49,50,51,52,65,72] [] (by kernel_rfl)
 replace h:=h.f func240 [0,2,3,50] [] (by kernel_rfl)
 replace h:=h.f func197 [0,1,2,6,7,10,15] [] (by kernel_rfl)
 replace h:=h.f func196 [0,2,3,4,5,6,8,21,35] [] (by kernel_rfl)
 replace h:=h.f func195 [0,2] [] (by kernel_rfl)
 replace h:=h.f func194 [0,2] [] (by kernel_rfl)
 replace h:=h.f func137 [0,1,4,5,6,10] [] (by kernel_rfl)
 replace h:=h.f func136 [0,1,4,5,6,7,11,17] [] (by kernel_rfl)
 replace h:=h.f func135 [0,1,4] [] (by kernel_rfl)
 replace h:=h.f func134 [0,2,3,10,13] [] (by kernel_rfl)
 replace h:=h.f func133 [0,2,3,7,15] [] (by kernel_rfl)
 replace h:=h.f func132 [0,1,4,5,6,12,21] [] (by kernel_rfl)
 replace h:=h.f func131 [0,1,4,5,6,10,19] [] (by kernel_rfl)
 replace h:=h.f func130 [0,1,3,4,5,9,17] [] (by kernel_rfl)
 replace h:=h.f func129 [0,1,2,4,5,10] [] (by kernel_rfl)
 replace h:=h.f func128 [0,1,2,4,5,15,30] [] (by kernel_rfl)
 replace h:=h.f func127 [0,1,4,5,6,7,16,26,32] [] (by kernel_rfl)
 replace h:=h.f func126 [0,23] [] (by kernel_rfl)
 replace h:=h.f func125 [0,1,2,4,5,6,12] [8] (by kernel_rfl)
 replace h:=h.f func124 [0,1,4,5,12,19,26,33] [] (by kernel_rfl)
 replace h:=h.f func123 [0,2,3,7] [] (by kernel_rfl)
 replace h:=h.f func122 [0,1,4,8] [] (by kernel_rfl)
 replace h:=h.f func121 [0,2,3,21,25,32] [] (by kernel_rfl)
 replace h:=h.f func120 [0,2,3,7,27] [] (by kernel_rfl)
 replace h:=h.f func74 [0,1,4,5,6,10,18] [] (by kernel_rfl)
 replace h:=h.f func73 [0,2,3,5] [] (by kernel_rfl)
 replace h:=h.f func72 [0,1,4,5,9,17] [] (by kernel_rfl)
 replace h:=h.f func71 [0,1,2,6,7,8,9,10,11,12,13,14,22,24,25,28,46,49,54,62,75,77,81,86,91,96] [] (by kernel_rfl)
 replace h:=h.f func70 [0,1,2,6,7,8,9,10,11,12,13,14,15,16,30,40,54,63,67] [] (by kernel_rfl)
 replace h:=h.f func69 [0,2,3,4,5,9,25] [] (by kernel_rfl)
 replace h:=h.f func68 [0,1,2,3,28,33,42] [] (by kernel_rfl)
 replace h:=h.f func66 [0,2,21] [] (by kernel_rfl)
 replace h:=h.f func65 [0,1,4,5,6,8,20] [] (by kernel_rfl)
 replace h:=h.f func64 [0,1,7] [] (by kernel_rfl)
 replace h:=h.f func63 [0,2,3,8] [] (by kernel_rfl)
 replace h:=h.f func34 [0,1,2,3,4,5,6,8,9,10,11,14,38,46,52,61] [] (by kernel_rfl)
 replace h:=h.f func33 [0,2,3,4,5,6,9,33,40,53] [] (by kernel_rfl)
 replace h:=h.f func9 [0,2,3,6] [] (by kernel_rfl)
 exact h
end Go.Proofs.YtlcagndeidjobaaGreatDoor
namespace Go.Proofs.YtlcagndeidjobaaGreatDoor
open Tryz
open Go Go.Dat Go.Proofs Go.RowKit Go.Lib Nat32
theorem z75 (k n:Int) (h:1≤k∧k≤4∧1≤n∧n≤32):z0c prog 229 [.int .i64 k,.int .i64 n] (.bool true):=by
 have d1:decide (1≤k)=true:=decide_eq_true h.1
 have d2:decide (k≤4)=true:=decide_eq_true h.2.1
 have d3:decide (1≤n)=true:=decide_eq_true h.2.2.1
 have d4:decide (n≤32)=true:=decide_eq_true h.2.2.2
 refine z0b y3F (by simp [z7U]) ?_
 unfold z44
 refine zS (zA d1 (zA d2 (zA d3 d4))) ?_
 exact z0j (z0i (.imm rfl))
theorem z7Z (k n:Nat) (h:1≤n∧n≤32):z0c prog 230 [.int .i64 k,.int .i64 n] (.int .i64 (ctC k n)):=by
 refine z0b y4z (by simp [z7a]) ?_
 unfold z5b ctC
 by_cases h:k=4
 ·have d1:decide ((k:Int)=4)=true:=zT9
  rw [if_pos h]
  refine zS d1 ?_
  refine wT ?_
  refine zR ?_
  exact z0j (z0i (.imm rfl))
 ·have d1:decide ((k:Int)=4)=false:=zF9
  have e1:(n:Int) - 1=((n - 1:Nat):Int):=by omega
  rw [if_neg h]
  refine zS (zA d1 e1) ?_
  refine wFs ?_
  refine zS e1 ?_
  exact z0j (z0i (.imm rfl))
theorem y2d (k:Nat) (le:List Bs) (hk:1≤k∧k≤4) (hn:1≤le.length∧le.length≤32) (hs:∀s∈le,s.length≤1000000):z0c prog 180 [.int .i64 k,.sl 1 (z0D le)] (.tup [.sl 1 (z0D (ctN k le)),.int .i64 0]):=by
 have hll:=z0z le
 have c1:=z75 k le.length (by omega)
 have c2:=z7Z k le.length hn
 obtain ⟨N,hN⟩:∃N,N=ctN k le:=⟨_,rfl⟩
 have hNl:N.length=ctC k le.length:=by rw [hN,z4G,Int.toNat_natCast]
 have hcb:ctC k le.length≤le.length:=by unfold ctC;split<;>omega
 have hNg:∀j,j<ctC k le.length→N.getD j []=if (k:Int)=4 then [61]++le.getD j [] else if (k:Int)=1 then [61]++le.getD (j+1) [] else [46]++decDigits (j+1):=fun j hj=>by
  rw [hN]
  unfold ctN
  rw [Int.toNat_natCast,zO1,List.getElem?_map,List.getElem?_range hj];rfl
 have hct:k≠4→ctC k le.length=le.length - 1:=fun h=>by unfold ctC;rw [if_neg h]
 rw [←hN]
 generalize ctC k le.length=c at *
 refine z0b x4Q (by simp [y5a]) ?_
 unfold z9o
 refine zS hll ?_
 refine cP c1 ?_
 refine zR ?_
 refine wFs ?_
 refine z0d ?_
 refine z0g ?_
 refine zD ?_
 refine z5Z 6 1 200 rfl rfl ?_
 refine zR ?_
 refine z0s (σ:=Nat) (fun j=>[(0,.int .i64 k),(1,.sl 1 (z0D le)),(6,.osl 1 200 0 j),(7,.int .i64 j)]) (fun j=>[(200,z0D (N.take j))]) (fun j=>j≤c) (fun j=>c - j) 0 (Nat.zero_le _) ?_ rfl ?_
 ·simp [z0v,lk]
 ·intro j hj
  try simp only at hj ⊢
  have htl:(z0D (N.take j)).length=j:=by rw [z0z,List.length_take];omega
  by_cases hlt:j<c
  ·have dl:decide ((j:Int)<(c:Int))=true:=zT9
   have ej:(j:Int).toNat=j:=Int.toNat_natCast j
   have e1:((j:Int)+1)=((j+1:Nat):Int):=by omega
   have ej1:(((j+1:Nat):Int)).toNat=j+1:=Int.toNat_natCast _
   have hg:=hNg j hlt
   have hsn:z0D (N.take j)++[.str (N.getD j [])]=z0D (N.take (j+1)):=by
    rw [z0r [] (show j<N.length by omega)]
    unfold z0D
    rw [List.map_append];rfl
   have hpg:=z0h 200 (z06 (N.take (j+1)))
   have hld:∀x,laid [DV.str []] [(0,1,.str x)]=some [.str x]:=fun _=>rfl
   refine zS hll ?_
   refine cP c2 ?_
   refine zS dl ?_
   refine wTs ?_
   by_cases h4:k=4
   ·have d4:decide ((k:Int)=4)=true:=zT9
    have hst:=z0Q (r:=le) (show j<le.length by omega)
    have hsl:=hs _ (z1e (show j<le.length by omega))
    rw [if_pos (by omega)] at hg
    refine z0d ?_
    refine z0e ?_
    refine zS d4 ?_
    refine wT ?_
    refine zS (zA ej (zA hll (zA hst (zA hld htl)))) ?_
    rw [←hg,hsn]
    refine ⟨by simp [DV.rf],⟨by omega,by omega,fun h=>h,by simp [DV.one]⟩,?_⟩
    rw [hpg]
    refine zS e1 ?_
    exact ⟨j+1,by omega,by omega,by simp [z0v,lk],rfl⟩
   ·have d4:decide ((k:Int)=4)=false:=zF9
    have hcl:=hct h4
    rw [if_neg (by omega)] at hg
    by_cases h1:k=1
    ·have d1:decide ((k:Int)=1)=true:=zT9
     have hst:=z0Q (r:=le) (show j+1<le.length by omega)
     have hsl:=hs _ (z1e (show j+1<le.length by omega))
     rw [if_pos (by omega)] at hg
     refine z0d ?_
     refine z0e ?_
     refine zS d4 ?_
     refine wF ?_
     refine zS d1 ?_
     refine wT ?_
     refine zS (zA e1 (zA ej1 (zA hll (zA hst (zA hld htl))))) ?_
     rw [←hg,hsn]
     refine ⟨by simp [DV.rf],⟨by omega,by omega,fun h=>h,by simp [DV.one]⟩,?_⟩
     rw [hpg]
     refine zS e1 ?_
     exact ⟨j+1,by omega,by omega,by simp [z0v,lk],rfl⟩
    ·have d1:decide ((k:Int)=1)=false:=zF9
     have ci:=z5G (limbs (j+1)) (Nat.le_trans (z0A.2 (show j+1<4294967296 ^ 1 by omega)) (by decide)) (z0f _)
     rw [z0y] at ci
     have cu:=z2d (j+1) (by omega)
     have hdl:=w4r (j+1) (by omega)
     rw [if_neg (by omega)] at hg
     refine z0d ?_
     refine z0e ?_
     refine zS d4 ?_
     refine wF ?_
     refine zS d1 ?_
     refine wF ?_
     refine zS e1 ?_
     refine cP cu ?_
     refine zR ?_
     refine cP ci ?_
     refine zS (zA hld htl) ?_
     rw [←hg,hsn]
     refine ⟨by simp [DV.rf],⟨by omega,by omega,fun h=>h,by simp [DV.one]⟩,?_⟩
     rw [hpg]
     refine zS e1 ?_
     exact ⟨j+1,by omega,by omega,by simp [z0v,lk],rfl⟩
  ·have dl:decide ((j:Int)<(c:Int))=false:=zF9
   obtain rfl:j=c:=by omega
   have htk:N.take j=N:=List.take_of_length_le (by omega)
   rw [htk] at htl ⊢
   have hNr:=z06 N
   refine z0E 200 (cells:=z0D N) rfl (List.all_eq_true.2 hNr) ?_
   have hfz:frz 200 (z0D N) (.osl 1 200 0 j)=.sl 1 (z0D N):=by
    simp [frz,htl]
    rw [List.take_of_length_le (by omega)]
   refine zS (zA hll hfz) ?_
   refine cP c2 ?_
   refine zS dl ?_
   refine z0k rfl (fun h=>by cases h) (fun _=>z0q ?_)
   refine zR ?_
   exact z0j (z13 (.imm rfl) (.imm rfl))
theorem z64:TOK prog ([(179,efF prog Tryz.f179 [0,1,4,5,6,7,8,9,13,16,23] []),(229,efF prog Tryz.f229 [0,1,4] []),(230,efF prog Tryz.f230 [0,1,4,6] []),(231,efF prog Tryz.f231 [0,1,2,3,8,9,10,16,23,28,35] []),(255,efF prog Tryz.f255 [0,2,3] [])],[(44,kI (fun z=>some (Q (z:Rat))))]):=by
 have h:=TOK.ext y0z (TOK.nil (P:=prog))
 replace h:=h.f func255 [0,2,3] [] (by kernel_rfl)
 replace h:=h.f func231 [0,1,2,3,8,9,10,16,23,28,35] [] (by kernel_rfl)
 replace h:=h.f func230 [0,1,4,6] [] (by kernel_rfl)
 replace h:=h.f func229 [0,1,4] [] (by kernel_rfl)
 replace h:=h.f func179 [0,1,4,5,6,7,8,9,13,16,23] [] (by kernel_rfl)
 exact h
theorem y0k (k n:Nat) (hk:1≤k∧k≤4) (hn:n=2∨n=3):z0c prog 179 [.int .i64 k,.int .i64 n] (ctD k n):=by
 have h4:k=1∨k=2∨k=3∨k=4:=by omega
 rcases h4 with rfl|rfl|rfl|rfl<;>rcases hn with rfl|rfl
 ·exact z1j z64 (n:=400) (by kernel_rfl)
 ·exact z1j z64 (n:=400) (by kernel_rfl)
 ·exact z1j z64 (n:=400) (by kernel_rfl)
 ·exact z1j z64 (n:=400) (by kernel_rfl)
 ·exact z1j z64 (n:=400) (by kernel_rfl)
 ·exact z1j z64 (n:=400) (by kernel_rfl)
 ·exact z1j z64 (n:=400) (by kernel_rfl)
 ·exact z1j z64 (n:=400) (by kernel_rfl)
theorem z60 (k:Kx) (c:Nat) (R:List Nat) (hk:1≤c∧c≤4) (hn:k.le.length=2∨k.le.length=3) (hs:∀s∈k.le,s.length≤1000000) (hnl:k.nm.length≤1000000) (hR:R.length≤1000)
  (hr:∀r∈R,r<k.ce.length∧0≤(k.ce.getD r default).lv∧(k.ce.getD r default).lv<k.le.length) (hkl:k.ce.length≤1000000) :
  z0c prog 101 [.agg (kxC k),.int .i64 c,.sl 1 (ints R)] (.agg (z25 ((ctN c k.le).map (k.nm++·)) (R.map fun r=>ctR c k.le.length (k.ce.getD r default).lv.toNat))):=by
 have cM:=y0k c k.le.length hk hn
 rw [x8c] at cM
 have hMl:(List.range k.le.length).map (fun i=>DV.sl 3 (nums (ctR c k.le.length i)))=ctL c k.le.length:=rfl
 rw [hMl] at cM
 have cn:=y2d c k.le hk (by omega) hs
 have hNb:=x7I c k.le (by omega) hs
 have hkc:(DV.agg (kxC k)).cells? = some (kxC k):=rfl
 have hk0:∀x,(kxC k).getD 0 x=.str k.nm:=fun _=>rfl
 have hk2:∀x,(kxC k).getD 2 x=.sl 1 (z0D k.le):=fun _=>rfl
 have hk3:∀x,(kxC k).getD 3 x=.sl 5 (cxs k.ce):=fun _=>rfl
 have hk4:=z0L k
 have hkr:=z12 k
 have hrl:=z2p R
 have hll:=z0z k.le
 have hcx:=z1V k.ce
 have hL:=z4G c k.le
 rw [Int.toNat_natCast] at hL
 have hcb:ctC c k.le.length≤k.le.length:=by unfold ctC;split<;>omega
 have hML:=x4a c k.le.length
 have hMg:=fun i (hi:i<k.le.length)=>x2j (k:=c) hi .undef
 have hl0:laid [DV.nils,.nils] []=some [.nils,.nils]:=rfl
 have hls:∀x,laid [DV.str []] [(0,1,.str x)]=some [.str x]:=fun _=>rfl
 have hlx:∀x,laid [DV.nils] [(0,1,.sl 3 x)]=some [.sl 3 x]:=fun _=>rfl
 have hz2:∀(a b:DV) (C:List DV),List.take 0 [a,b]++C++List.drop 2 [a,b]=C:=fun _ _ _=>by simp
 have hbk:z25 ((ctN c k.le).map (k.nm++·)) (R.map fun r=>ctR c k.le.length (k.ce.getD r default).lv.toNat)=[.sl 1 (z0D ((ctN c k.le).map (k.nm++·))),.sl 1 (z39 (R.map fun r=>ctR c k.le.length (k.ce.getD r default).lv.toNat))]:=rfl
 rw [hbk]
 refine z0b y2R (by simp [z5M]) ?_
 unfold z4z
 generalize ctN c k.le=N at *
 generalize ctC c k.le.length=n at *
 generalize hMM:ctL c k.le.length=M at *
 obtain ⟨L,hLd⟩:∃L,L=N.map (k.nm++·):=⟨_,rfl⟩
 have hLl:L.length=n:=by rw [hLd,List.length_map,hL]
 have hLg:∀i,i<n→L.getD i []=k.nm++N.getD i []:=fun i hi=>by
  rw [hLd,zO1,List.getElem?_map,zO4 (by omega),zO1,zO4 (by omega)];rfl
 rw [←hLd]
 generalize kxC k=K at *
 have hNl:=z0z N
 have prw:∀o p k,p≠o→purge o (.ptr p k)=.ptr p k:=fun o p k h1=>by simp [purge,DV.has,h1]
 have fp:∀o cs p k,p≠o→frz o cs (.ptr p k)=.ptr p k:=fun o cs p k h=>by simp [frz,purge,DV.has,h]
 have fsl:∀o cs z x,frz o cs (.sl z x)=.sl z x:=fun o cs z x=>by simp [frz,purge,DV.has]
 have fnl:∀o cs,frz o cs .nils=.nils:=fun o cs=>by simp [frz,purge,DV.has]
 have fin:∀o cs (z:Int),frz o cs (.int .i64 z)=.int .i64 z:=fun o cs z=>by simp [frz,purge,DV.has]
 refine zS hkc ?_
 refine zS (zA hk2 (zA hk4 hll)) ?_
 refine cP cM ?_
 refine zS @cS ?_
 refine zS (zA hk2 hk4) ?_
 refine cP cn ?_
 refine zS (zA hl0 (zA hz2 @cS)) ?_
 refine z2J 11 0 1 200 (cells:=[.nils,.nils]) rfl rfl rfl ?_
 refine z0s (σ:=Nat) (fun i=>[(2,.sl 1 (ints R)),(3,.ptr 3 0),(6,.ptr 6 0),(7,.sl 1 M),(9,.sl 1 (z0D N)),(11,.ptr 11 0),(12,.int .i64 i)]) (fun i=>[(3,K),(6,[.nils,.nils]),(11,[.osl 1 200 0 i,.nils]),(200,z0D (L.take i))]) (fun i=>i≤n) (fun i=>n - i) 0 (Nat.zero_le _) ?_ rfl ?_
 ·simp [z0v,lk]
 ·intro i hi
  try simp only at hi ⊢
  have hTl:(z0D (L.take i)).length=i:=by rw [z0z,List.length_take];omega
  by_cases hlt:i<n
  ·have dl:decide ((i:Int)<(n:Int))=true:=zT9
   have ei:(i:Int).toNat=i:=Int.toNat_natCast i
   have e1:((i:Int)+1)=((i+1:Nat):Int):=by omega
   have hst:=z0Q (r:=N) (show i<N.length by omega)
   have hsl:=hNb _ (z1e (show i<N.length by omega))
   have hsn:z0D (L.take i)++[.str (k.nm++N.getD i [])]=z0D (L.take (i+1)):=by
    rw [z0r [] (show i<L.length by omega),hLg i hlt]
    unfold z0D;rw [List.map_append];rfl
   have m1:=z0h 200 (z06 (L.take (i+1)))
   have m2:=z0h 200 hkr
   refine zS (zA hNl (zA hL dl)) ?_
   refine wTs ?_
   refine z0d ?_
   refine z0e ?_
   refine z0p ?_
   refine zE (zA ei (zA hNl (zA hL (zA hst (zA hk0 (zA hk4 (zA hls (zA hTl @cS)))))))) ?_
   repeat refine ⟨by omega,?_⟩
   refine ⟨List.all_eq_true.1 rfl,⟨by omega,by omega,fun h=>h,List.all_eq_true.1 rfl⟩,?_⟩
   rw [hsn,m1,m2]
   refine zS prw ?_
   refine ⟨rfl,?_⟩
   refine zS (zA prw e1) ?_
   exact ⟨i+1,by omega,by omega,by simp [z0v,lk],rfl⟩
  ·have dl:decide ((i:Int)<(n:Int))=false:=zF9
   obtain rfl:i=n:=by omega
   rw [show L.take i=L from List.take_of_length_le (by omega)] at hTl ⊢
   have hLr:=z06 L
   refine z0E 200 (cells:=z0D L) rfl (List.all_eq_true.2 hLr) ?_
   have hfz:frz 200 (z0D L) (.osl 1 200 0 i)=.sl 1 (z0D L):=by
    simp [frz,hTl]
    rw [List.take_of_length_le (by omega)]
   have m2:=z0N 200 (z0D L) hkr
   refine zS (zA hNl (zA hL (zA dl (zA hfz (zA m2 (zA fp (zA fsl (zA fnl fin)))))))) ?_
   refine z0k rfl (fun h=>by cases h) (fun _=>z0q ?_)
   refine zR ?_
   refine z2J 11 1 1 201 (cells:=[.sl 1 (z0D L),.nils]) rfl rfl rfl ?_
   obtain ⟨lv,hlv⟩:∃lv:Nat→Nat,lv=fun r=>(k.ce.getD r default).lv.toNat:=⟨_,rfl⟩
   have hlf:(fun r=>ctR c k.le.length (k.ce.getD r default).lv.toNat)=fun r=>ctR c k.le.length (lv r):=by rw [hlv]
   rw [hlf]
   clear hlf
   refine z0s (σ:=Nat) (fun i=>[(2,.sl 1 (ints R)),(3,.ptr 3 0),(6,.ptr 6 0),(7,.sl 1 M),(11,.ptr 11 0),(13,.int .i64 i)]) (fun i=>[(3,K),(6,[.nils,.nils]),(11,[.sl 1 (z0D L),.osl 1 201 0 i]),(201,z39 ((R.take i).map fun r=>ctR c k.le.length (lv r)))]) (fun i=>i≤R.length) (fun i=>R.length - i) 0 (Nat.zero_le _) ?_ rfl ?_
   ·simp [z0v,lk]
   ·intro i hi
    try simp only at hi ⊢
    have hwl:(z39 ((R.take i).map fun r=>ctR c k.le.length (lv r))).length=i:=by rw [z3E,List.length_map,List.length_take];omega
    by_cases hlt:i<R.length
    ·have dl:decide ((i:Int)<(R.length:Int))=true:=zT9
     have ei:(i:Int).toNat=i:=Int.toNat_natCast i
     have e1:((i:Int)+1)=((i+1:Nat):Int):=by omega
     have hgr:=z55 hlt .undef
     obtain ⟨q1,q2,q3⟩:=hr _ (z5R hlt)
     have htm:=y74 (fun r=>ctR c k.le.length (lv r)) 0 hlt
     generalize R.getD i 0=r at *
     have er:(r:Int).toNat=r:=Int.toNat_natCast r
     have hlr:((k.ce.getD r default).lv:Int)=((lv r:Nat):Int):=by rw [hlv];show _=(((k.ce.getD r default).lv.toNat:Nat):Int);omega
     have el:((lv r:Nat):Int).toNat=lv r:=Int.toNat_natCast _
     have hlb:lv r<k.le.length:=by omega
     have hg:(cxs k.ce).getD (r*5+4) .undef=.int .i64 (lv r):=by
      have h1:(cxs k.ce).getD (r*5+4) .undef=(cxC (k.ce.getD r default)).getD 4 .undef:=z8n z1C default q1 (by decide) .undef
      rw [h1]
      show DV.int .i64 (k.ce.getD r default).lv=_
      rw [hlr]
     have hmg:=hMg _ hlb
     have hsn:=z8V ((R.take i).map fun r=>ctR c k.le.length (lv r)) (ctR c k.le.length (lv r))
     rw [←htm] at hsn
     have m1:=z0h 201 (z4x ((R.take (i+1)).map fun r=>ctR c k.le.length (lv r)))
     have m2:=z0h 201 hkr
     have psl:∀o z x,purge o (.sl z x)=.sl z x:=fun o z x=>by simp [purge,DV.has]
     refine zS (zA hrl dl) ?_
     refine wTs ?_
     refine z0d ?_
     refine z0e ?_
     refine z0p ?_
     simp (maxSteps:=1000000) (disch:=omega) only [cA,cB,cN,FnD.nb,lk,lkH,Dst.onT,Dst.onX,Dst.slot,z03,z0K,z0M,z00,z0x,z02,unE,cnt,z0l,z0w,z0m,z0o,opE,rmH,z05,z0n,Nat.reduceEqDiff,Nat.reduceLT,Nat.reduceAdd,Nat.reduceMul,Nat.reduceMod,↓reduceIte,reduceCtorEq,Nat.reduceLeDiff,ei,er,el,hrl,hgr,hk3,hk4,hcx,hg,hML,hmg,hlx,hwl,cS]
     repeat refine ⟨by omega,?_⟩
     refine ⟨List.all_eq_true.1 rfl,⟨by omega,by omega,fun h=>h,List.all_eq_true.1 rfl⟩,?_⟩
     rw [hsn,m1,m2]
     refine zS (zA prw psl) ?_
     refine ⟨rfl,?_⟩
     refine zS (zA prw e1) ?_
     exact ⟨i+1,by omega,by omega,by simp [z0v,lk],rfl⟩
    ·have dl:decide ((i:Int)<(R.length:Int))=false:=zF9
     obtain rfl:i=R.length:=by omega
     rw [List.take_length] at hwl ⊢
     have hXr:=z4x (R.map fun r=>ctR c k.le.length (lv r))
     generalize z39 (R.map fun r=>ctR c k.le.length (lv r))=X at *
     refine z0E 201 (cells:=X) rfl (List.all_eq_true.2 hXr) ?_
     have hfz2:frz 201 X (.osl 1 201 0 R.length)=.sl 1 X:=by
      simp [frz,hwl]
      rw [List.take_of_length_le (by omega)]
     have m4:=z0N 201 X hkr
     refine zS (zA dl (zA hrl (zA hfz2 (zA m4 (zA fp (zA fsl (zA fnl fin))))))) ?_
     refine z0k rfl (fun h=>by cases h) (fun _=>z0q ?_)
     refine zS (zA hz2 @cS) ?_
     exact z0j (z0Z rfl rfl rfl (.imm (by simp [DV.rf,DV.rfL])))
def prR (A B:List (List Rat)) (n:Nat):List (List Rat):=(List.range n).map fun i=>z3x (A.getD i []) (B.getD i [])
theorem w0R (A B:List (List Rat)) (n:Nat):(prR A B n).length=n:=by unfold prR;rw [List.length_map,List.length_range]
theorem x5u (A B:List (List Rat)) (n:Nat):prR A B (n+1)=prR A B n++[z3x (A.getD n []) (B.getD n [])]:=by unfold prR;rw [List.range_succ,List.map_append];rfl
theorem z70 (na nb:List Bs) (A B:List (List Rat)) {w:Nat} (hAB:B.length=A.length) (hA1:A.length≤1000) (hAr:∀i,i<A.length→(A.getD i []).length=na.length) (hBr:∀i,i<A.length→(B.getD i []).length=nb.length)
  (hl:nb.length*na.length≤1000) (hl2:nb.length≤1000) (hsa:∀s∈na,s.length≤1000000000) (hsb:∀s∈nb,s.length≤1000000000) (hwA:∀i,i<A.length→∀x∈A.getD i [],BS x w) (hwB:∀i,i<A.length→∀x∈B.getD i [],BS x w) (hw:w≤140800) :
  z0c prog 102 [.agg (z25 na A),.agg (z25 nb B)] (.agg (z25 (z3P na nb) (prR A B A.length))):=by
 have hla:=z0z na
 have hlb:=z0z nb
 have hAl:=z3E A
 have hBl:=z3E B
 have hca:∀x y,(DV.agg (z25 x y)).cells? = some (z25 x y):=fun _ _=>rfl
 have hb0:∀x y z,(z25 x y).getD 0 z=.sl 1 (z0D x):=fun _ _ _=>rfl
 have hb1:∀x y z,(z25 x y).getD 1 z=.sl 1 (z39 y):=fun _ _ _=>rfl
 have hb2:∀x y,(z25 x y).length=2:=fun _ _=>rfl
 have hbr:∀x y,∀d∈z25 x y,d.rf=true:=fun _ _=>List.all_eq_true.1 rfl
 have hl0:laid [DV.nils,.nils] []=some [.nils,.nils]:=rfl
 have hls:∀x,laid [DV.str []] [(0,1,.str x)]=some [.str x]:=fun _=>rfl
 have hlx:∀x,laid [DV.nils] [(0,1,.sl 3 x)]=some [.sl 3 x]:=fun _=>rfl
 have hz2:∀(a b:DV) (C:List DV),List.take 0 [a,b]++C++List.drop 2 [a,b]=C:=fun _ _ _=>by simp
 have hcc:∀x:Rat,(DV.agg (z0V x)).cells? = some (z0V x):=fun _=>rfl
 have hn3:=z1o
 have ht3:∀x:Rat,(z0V x).take 3=z0V x:=fun _=>rfl
 have hld:∀x:Rat,laid [DV.bool false,.nils,.nils] [(0,3,.agg (z0V x))]=some (z0V x):=fun _=>rfl
 have h33:3 / 3=1:=rfl
 have prw:∀o p k,p≠o→purge o (.ptr p k)=.ptr p k:=fun o p k h1=>by simp [purge,DV.has,h1]
 have psl:∀o z x,purge o (.sl z x)=.sl z x:=fun o z x=>by simp [purge,DV.has]
 have pol:∀o p s k n,p≠o→purge o (.osl s p k n)=.osl s p k n:=fun o p s k n h=>by simp [purge,DV.has,h]
 have fp:∀o cs p k,p≠o→frz o cs (.ptr p k)=.ptr p k:=fun o cs p k h=>by simp [frz,purge,DV.has,h]
 have fsl:∀o cs z x,frz o cs (.sl z x)=.sl z x:=fun o cs z x=>by simp [frz,purge,DV.has]
 have fnl:∀o cs,frz o cs .nils=.nils:=fun o cs=>by simp [frz,purge,DV.has]
 have fin:∀o cs (z:Int),frz o cs (.int .i64 z)=.int .i64 z:=fun o cs z=>by simp [frz,purge,DV.has]
 have fol:∀o cs z p k m,p≠o→frz o cs (.osl z p k m)=.osl z p k m:=fun o cs z p k m h=>z1q _ _ _ _ _ h
 refine z0b y5M (by simp [z7t]) ?_
 unfold z40
 have hres:z25 (z3P na nb) (prR A B A.length)=[.sl 1 (z0D (z3P na nb)),.sl 1 (z39 (prR A B A.length))]:=rfl
 rw [hres]
 clear hres
 generalize hP:z25 na A=P at *
 generalize hQ:z25 nb B=Q at *
 have a0:∀z,P.getD 0 z=.sl 1 (z0D na):=fun z=>by rw [←hP];exact hb0 _ _ _
 have a1:∀z,P.getD 1 z=.sl 1 (z39 A):=fun z=>by rw [←hP];exact hb1 _ _ _
 have a2:P.length=2:=by rw [←hP];exact hb2 _ _
 have a3:(DV.agg P).cells? = some P:=by rw [←hP];exact hca _ _
 have a4:∀d∈P,d.rf=true:=by rw [←hP];exact hbr _ _
 have b0:∀z,Q.getD 0 z=.sl 1 (z0D nb):=fun z=>by rw [←hQ];exact hb0 _ _ _
 have b1:∀z,Q.getD 1 z=.sl 1 (z39 B):=fun z=>by rw [←hQ];exact hb1 _ _ _
 have b2:Q.length=2:=by rw [←hQ];exact hb2 _ _
 have b3:(DV.agg Q).cells? = some Q:=by rw [←hQ];exact hca _ _
 have b4:∀d∈Q,d.rf=true:=by rw [←hQ];exact hbr _ _
 have mp1:∀o,P.map (purge o)=P:=fun o=>z0h o a4
 have mp2:∀o,Q.map (purge o)=Q:=fun o=>z0h o b4
 have mf1:∀o cs,P.map (frz o cs)=P:=fun o cs=>z0N o cs a4
 have mf2:∀o cs,Q.map (frz o cs)=Q:=fun o cs=>z0N o cs b4
 clear hb0 hb1 hb2 hca hbr hP hQ
 refine zS (zA a3 (zA b3 (zA hl0 (zA hz2 @cS)))) ?_
 refine z2J 5 0 1 200 (cells:=[.nils,.nils]) rfl rfl rfl ?_
 refine z0s (σ:=Nat) (fun j=>[(2,.ptr 2 0),(3,.ptr 3 0),(4,.ptr 4 0),(5,.ptr 5 0),(6,.int .i64 j)]) (fun j=>[(2,P),(3,Q),(4,[.nils,.nils]),(5,[.osl 1 200 0 (j*na.length),.nils]),(200,z0D (z3P na (nb.take j)))]) (fun j=>j≤nb.length) (fun j=>nb.length - j) 0 (Nat.zero_le _) ?_ ?_ ?_
 ·simp [z0v,lk]
 ·simp [z3P]
  rfl
 ·intro j hj
  try simp only at hj ⊢
  by_cases hlt:j<nb.length
  ·have dl:decide ((j:Int)<(nb.length:Int))=true:=zT9
   have ej:(j:Int).toNat=j:=Int.toNat_natCast j
   have ej1:((j:Int)+1)=((j+1:Nat):Int):=by omega
   have hwj:=z0Q (r:=nb) hlt
   obtain ⟨y,hy⟩:∃y,y=nb.getD j []:=⟨_,rfl⟩
   have hyb:y.length≤1000000000:=by rw [hy];exact hsb _ (z1e hlt)
   rw [←hy] at hwj
   have hjs:z3P na (nb.take (j+1))=z3P na (nb.take j)++na.map fun r=>r++58::y:=by
    rw [z0r [] hlt,←hy]
    unfold z3P
    rw [List.flatMap_append];simp
   have htl:(z3P na (nb.take j)).length=j*na.length:=by rw [z2C,List.length_take];congr 1;omega
   have hjl:j*na.length+na.length≤1000:=by
    have:=Nat.mul_le_mul_right na.length (show j+1≤nb.length by omega)
    rw [Nat.succ_mul] at this;omega
   generalize z3P na (nb.take j)=T at *
   refine zS (zA b0 (zA b2 (zA hlb dl))) ?_
   refine wTs ?_
   refine z0d ?_
   refine z0e ?_
   refine zR ?_
   refine z0s (σ:=Nat) (fun i=>[(2,.ptr 2 0),(3,.ptr 3 0),(4,.ptr 4 0),(5,.ptr 5 0),(6,.int .i64 j),(7,.int .i64 i)]) (fun i=>[(2,P),(3,Q),(4,[.nils,.nils]),(5,[.osl 1 200 0 (j*na.length+i),.nils]),(200,z0D (T++(na.take i).map fun r=>r++58::y))]) (fun i=>i≤na.length) (fun i=>na.length - i) 0 (Nat.zero_le _) ?_ ?_ ?_
   ·simp [z0v,lk]
   ·simp
   ·intro i hi
    try simp only at hi ⊢
    by_cases hli:i<na.length
    ·have di:decide ((i:Int)<(na.length:Int))=true:=zT9
     have ei:(i:Int).toNat=i:=Int.toNat_natCast i
     have ei1:((i:Int)+1)=((i+1:Nat):Int):=by omega
     have hwi:=z0Q (r:=na) hli
     obtain ⟨x,hx⟩:∃x,x=na.getD i []:=⟨_,rfl⟩
     have hxb:x.length≤1000000000:=by rw [hx];exact hsa _ (z1e hli)
     rw [←hx] at hwi
     have hx1:(x++[58]).length≤1000000001:=by rw [List.length_append];simp;omega
     have hsn:z0D (T++(na.take i).map fun r=>r++58::y)++[.str (x++[58]++y)]=z0D (T++(na.take (i+1)).map fun r=>r++58::y):=by
      rw [z0r [] hli,←hx]
      unfold z0D
      simp
     have hnl:(z0D (T++(na.take i).map fun r=>r++58::y)).length=j*na.length+i:=by
      rw [z0z,List.length_append,htl,List.length_map,List.length_take,show min i na.length=i by omega]
     have hpg:=z0h 200 (z06 (T++(na.take (i+1)).map fun r=>r++58::y))
     refine zS (zA a0 (zA a2 (zA hla di))) ?_
     refine wTs ?_
     refine z0d ?_
     refine z0e ?_
     refine z0p ?_
     refine zE (zA ei (zA ej (zA a0 (zA a2 (zA b0 (zA b2 (zA hla (zA hlb (zA hwi (zA hwj (zA hls (zA hnl @cS)))))))))))) ?_
     repeat refine ⟨by omega,?_⟩
     refine ⟨List.all_eq_true.1 rfl,⟨by omega,by omega,fun h=>h,List.all_eq_true.1 rfl⟩,?_⟩
     rw [hsn,hpg,mp1,mp2]
     refine zS prw ?_
     refine ⟨rfl,?_⟩
     refine zS (zA prw ei1) ?_
     exact ⟨i+1,by omega,by omega,by simp [z0v,lk],by simp [Nat.add_assoc]⟩
    ·have di:decide ((i:Int)<(na.length:Int))=false:=zF9
     obtain rfl:i=na.length:=by omega
     have htk:na.take na.length=na:=List.take_length
     have hjm:(j+1)*na.length=j*na.length+na.length:=Nat.succ_mul _ _
     rw [htk,←hjs,←hjm]
     refine zS (zA a0 (zA a2 (zA hla di))) ?_
     refine z0k rfl (fun h=>by cases h) (fun _=>z0q ?_)
     refine zS ej1 ?_
     exact ⟨j+1,by omega,by omega,by simp [z0v,lk],rfl⟩
  ·have dl:decide ((j:Int)<(nb.length:Int))=false:=zF9
   obtain rfl:j=nb.length:=by omega
   have htk:nb.take nb.length=nb:=List.take_length
   have htl:=z0z (z3P na nb)
   rw [z2C] at htl
   rw [htk]
   have hnr:=z06 (z3P na nb)
   have hfz:frz 200 (z0D (z3P na nb)) (.osl 1 200 0 (nb.length*na.length))=.sl 1 (z0D (z3P na nb)):=by
    simp [frz,htl]
    rw [List.take_of_length_le (by omega)]
   refine z0E 200 (cells:=z0D (z3P na nb)) rfl (List.all_eq_true.2 hnr) ?_
   generalize z0D (z3P na nb)=NN at *
   refine zS (zA b0 (zA b2 (zA hlb (zA dl (zA hfz (zA fp (zA fsl (zA fnl (zA fin (zA mf1 mf2)))))))))) ?_
   refine z0k rfl (fun h=>by cases h) (fun _=>z0q ?_)
   refine zR ?_
   refine z2J 5 1 1 201 (cells:=[.sl 1 NN,.nils]) rfl rfl rfl ?_
   refine z0s (σ:=Nat) (fun i=>[(2,.ptr 2 0),(3,.ptr 3 0),(4,.ptr 4 0),(5,.ptr 5 0),(8,.int .i64 i)]) (fun i=>[(2,P),(3,Q),(4,[.nils,.nils]),(5,[.sl 1 NN,.osl 1 201 0 i]),(201,z39 (prR A B i))]) (fun i=>i≤A.length) (fun i=>A.length - i) 0 (Nat.zero_le _) ?_ rfl ?_
   ·simp [z0v,lk]
   ·intro i hi
    try simp only at hi ⊢
    have hwl:(z39 (prR A B i)).length=i:=by rw [z3E,w0R]
    by_cases hlt:i<A.length
    ·have dl2:decide ((i:Int)<(A.length:Int))=true:=zT9
     have ei:(i:Int).toNat=i:=Int.toNat_natCast i
     have e1:((i:Int)+1)=((i+1:Nat):Int):=by omega
     have hgA:=z8b (rows:=A) hlt .undef
     have hgB:=z8b (rows:=B) (i:=i) (show i<B.length by omega) .undef
     have hps:=x5u A B i
     have hra:=hAr i hlt
     have hrb:=hBr i hlt
     have hwa:=hwA i hlt
     have hwb:=hwB i hlt
     generalize A.getD i []=la at *
     generalize B.getD i []=lb at *
     have hlaL:=z1l la
     have hlbL:=z1l lb
     have hcl:=z8V (prR A B i) (z3x la lb)
     rw [←hps] at hcl
     have u1:=z0h 202 (z4x (prR A B i))
     refine zS (zA a1 (zA a2 (zA hAl dl2))) ?_
     refine wTs ?_
     refine z0d ?_
     refine z0e ?_
     refine z0d ?_
     refine z0g ?_
     refine zD ?_
     refine z5Z 9 3 202 rfl rfl ?_
     refine zR ?_
     refine z0s (σ:=Nat) (fun j=>[(2,.ptr 2 0),(3,.ptr 3 0),(4,.ptr 4 0),(5,.ptr 5 0),(8,.int .i64 i),(9,.osl 3 202 0 (j*na.length)),(10,.int .i64 j)]) (fun j=>[(2,P),(3,Q),(4,[.nils,.nils]),(5,[.sl 1 NN,.osl 1 201 0 i]),(201,z39 (prR A B i)),(202,nums (z3x la (lb.take j)))]) (fun j=>j≤nb.length) (fun j=>nb.length - j) 0 (Nat.zero_le _) ?_ ?_ ?_
     ·simp [z0v,lk]
     ·rfl
     ·intro j hj
      try simp only at hj ⊢
      by_cases hlj:j<nb.length
      ·have dj:decide ((j:Int)<(nb.length:Int))=true:=zT9
       have ej:(j:Int).toNat=j:=Int.toNat_natCast j
       have ej1:((j:Int)+1)=((j+1:Nat):Int):=by omega
       have hjb:j<lb.length:=by omega
       have hwj:((nums lb).drop (j*3)).take 3=z0V (lb.getD j 0):=z1a (j:=0) z1o 0 hjb (Nat.le_refl _)
       obtain ⟨y,hy⟩:∃y,y=lb.getD j 0:=⟨_,rfl⟩
       have hyb:BS y w:=by rw [hy];exact hwb _ (by rw [zO1,zO4 hjb];exact List.getElem_mem hjb)
       rw [←hy] at hwj
       have hjs:z3x la (lb.take (j+1))=z3x la (lb.take j)++la.map (·*y):=by
        rw [z0r 0 hjb,←hy]
        unfold z3x
        rw [List.flatMap_append];simp
       have htl2:(z3x la (lb.take j)).length=j*na.length:=by rw [z3R,List.length_take,hra];congr 1;omega
       have hjl:j*na.length+na.length≤1000:=by
        have:=Nat.mul_le_mul_right na.length (show j+1≤nb.length by omega)
        rw [Nat.succ_mul] at this;omega
       generalize z3x la (lb.take j)=T at *
       refine zS (zA b0 (zA b2 (zA hlb dj))) ?_
       refine wTs ?_
       refine z0d ?_
       refine z0e ?_
       refine zR ?_
       refine z0s (σ:=Nat) (fun k=>[(2,.ptr 2 0),(3,.ptr 3 0),(4,.ptr 4 0),(5,.ptr 5 0),(8,.int .i64 i),(9,.osl 3 202 0 (j*na.length+k)),(10,.int .i64 j),(11,.int .i64 k)]) (fun k=>[(2,P),(3,Q),(4,[.nils,.nils]),(5,[.sl 1 NN,.osl 1 201 0 i]),(201,z39 (prR A B i)),(202,nums (T++(la.take k).map (·*y)))]) (fun k=>k≤na.length) (fun k=>na.length - k) 0 (Nat.zero_le _) ?_ ?_ ?_
       ·simp [z0v,lk]
       ·simp
       ·intro k hk
        try simp only at hk ⊢
        by_cases hlk:k<na.length
        ·have dk:decide ((k:Int)<(na.length:Int))=true:=zT9
         have ek:(k:Int).toNat=k:=Int.toNat_natCast k
         have ek1:((k:Int)+1)=((k+1:Nat):Int):=by omega
         have hka:k<la.length:=by omega
         have hwk:((nums la).drop (k*3)).take 3=z0V (la.getD k 0):=z1a (j:=0) z1o 0 hka (Nat.le_refl _)
         obtain ⟨x,hx⟩:∃x,x=la.getD k 0:=⟨_,rfl⟩
         have hxb:BS x w:=by rw [hx];exact hwa _ (by rw [zO1,zO4 hka];exact List.getElem_mem hka)
         rw [←hx] at hwk
         have cm:=w2P hxb hyb hw hw
         have hsn:nums (T++(la.take k).map (·*y))++z0V (x*y)=nums (T++(la.take (k+1)).map (·*y)):=by
          rw [z52,z0r 0 hka,←hx,List.map_append,List.append_assoc];rfl
         have hnl:(nums (T++(la.take k).map (·*y))).length=(j*na.length+k)*3:=by
          rw [z1l,List.length_append,htl2,List.length_map,List.length_take,show min k la.length=k by omega]
         have m1:=z0h 202 (z07 (T++(la.take (k+1)).map (·*y)))
         have z1:=z4K (x*y)
         have z2:=z1W (x*y)
         refine zS (zA a0 (zA a2 (zA hla dk))) ?_
         refine wTs ?_
         refine z0d ?_
         refine z0e ?_
         refine z0p ?_
         refine zE (zA ei (zA ej (zA ek (zA a1 (zA a2 (zA b1 (zA b2 (zA hAl (zA hBl (zA hAB (zA hgA (zA hgB (zA hlaL (zA hlbL (zA hwj (zA hwk @cS)))))))))))))))) ?_
         repeat refine ⟨by omega,?_⟩
         refine cP cm ?_
         refine zE (zA hcc (zA hn3 (zA ht3 (zA hld (zA hnl h33))))) ?_
         repeat refine ⟨by omega,?_⟩
         refine ⟨⟨by omega,by omega,fun h=>h,z1⟩,?_⟩
         rw [hsn,m1,u1,mp1,mp2]
         refine zS (zA prw (zA psl (zA pol ek1))) ?_
         exact ⟨k+1,by omega,by omega,by simp [z0v,lk,Nat.add_assoc],rfl⟩
        ·have dk:decide ((k:Int)<(na.length:Int))=false:=zF9
         obtain rfl:k=na.length:=by omega
         have htk2:la.take na.length=la:=List.take_of_length_le (by omega)
         have hjm:(j+1)*na.length=j*na.length+na.length:=Nat.succ_mul _ _
         rw [htk2,←hjs,←hjm]
         refine zS (zA a0 (zA a2 (zA hla dk))) ?_
         refine z0k rfl (fun h=>by cases h) (fun _=>z0q ?_)
         refine zS ej1 ?_
         exact ⟨j+1,by omega,by omega,by simp [z0v,lk],rfl⟩
      ·have dj:decide ((j:Int)<(nb.length:Int))=false:=zF9
       obtain rfl:j=nb.length:=by omega
       have htk2:lb.take nb.length=lb:=List.take_of_length_le (by omega)
       have hT1:=z1l (z3x la lb)
       rw [z3R,hra,hrb] at hT1
       rw [htk2]
       have hTr:=z07 (z3x la lb)
       refine z0E 202 (cells:=nums (z3x la lb)) rfl (List.all_eq_true.2 hTr) ?_
       have hfz2:frz 202 (nums (z3x la lb)) (.osl 3 202 0 (nb.length*na.length))=.sl 3 (nums (z3x la lb)):=by
        simp [frz,hT1]
        rw [List.take_of_length_le (by omega)]
       have v1:=z0N 202 (nums (z3x la lb)) (z4x (prR A B i))
       have m1:=z0h 201 (z4x (prR A B (i+1)))
       generalize nums (z3x la lb)=TT at *
       refine zS (zA b0 (zA b2 (zA hlb (zA dj (zA hfz2 (zA fp (zA fsl (zA fnl (zA fin (zA fol (zA mf1 (zA mf2 v1)))))))))))) ?_
       refine z0k rfl (fun h=>by cases h) (fun _=>z0q ?_)
       refine zS (zA hlx (zA hwl @cS)) ?_
       refine ⟨List.all_eq_true.1 rfl,⟨by omega,by omega,fun h=>h,List.all_eq_true.1 rfl⟩,?_⟩
       rw [hcl,m1,mp1,mp2]
       refine zS (zA prw psl) ?_
       refine ⟨rfl,?_⟩
       refine zS (zA prw e1) ?_
       exact ⟨i+1,by omega,by omega,by simp [z0v,lk],rfl⟩
    ·have dl2:decide ((i:Int)<(A.length:Int))=false:=zF9
     obtain rfl:i=A.length:=by omega
     have hXr:=z4x (prR A B A.length)
     generalize z39 (prR A B A.length)=X at *
     refine z0E 201 (cells:=X) rfl (List.all_eq_true.2 hXr) ?_
     have hfz2:frz 201 X (.osl 1 201 0 A.length)=.sl 1 X:=by
      simp [frz,hwl]
      rw [List.take_of_length_le (by omega)]
     refine zS (zA a1 (zA a2 (zA hAl (zA dl2 (zA hfz2 (zA fp (zA fsl (zA fnl (zA fin (zA mf1 mf2)))))))))) ?_
     refine z0k rfl (fun h=>by cases h) (fun _=>z0q ?_)
     refine zS (zA hz2 @cS) ?_
     exact z0j (z0Z rfl rfl rfl (.imm (by simp [DV.rf,DV.rfL])))
end Go.Proofs.YtlcagndeidjobaaGreatDoor
