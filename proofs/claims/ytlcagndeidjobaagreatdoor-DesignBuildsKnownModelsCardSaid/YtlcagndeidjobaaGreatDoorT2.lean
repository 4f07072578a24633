/- Lemmas of the walk; no conditions beyond those that each states. -/
import Derived.OpenShut
import Derived.Below
import Derived.Lib.SmallJoins
import Derived.Test.YtlcagndeidjobaaGreatDoorProg
import Derived.Lib.Bytealg
import Derived.Lib.IndexAny
import Derived.Lib.TrimByte
import Derived.Lib.Strings
import Derived.Laws.RangeAny
import Derived.Lib.DecodeN
import Derived.WalkMore
import Derived.Shelf.RegionOpenPlain
import Derived.Laws.Runes
import Derived.Lib.OthersKept
import Derived.Test.YtlcagndeidjobaaGreatDoorD3
import Derived.Test.YtlcagndeidjobaaGreatDoorT1
import Derived.Test.YtlcagndeidjobaaGreatDoorN1
import Derived.Test.YtlcagndeidjobaaGreatDoorD4
import Derived.Test.YtlcagndeidjobaaGreatDoorC1
import Derived.Test.YtlcagndeidjobaaGreatDoorC2
import Derived.Test.YtlcagndeidjobaaGreatDoorD5
set_option linter.unusedSimpArgs false
set_option linter.unusedVariables false
set_option linter.unnecessarySimpa false
set_option maxHeartbeats 4000000
namespace Go.Proofs.YtlcagndeidjobaaGreatDoor
open Tryz
open Go Go.Dat Go.Proofs Nat32
theorem y3e (x y:Nat):Nat.gcd y (x % y)=Nat.gcd x y:=by
 rw [Nat.gcd_comm y,←Nat.gcd_rec,Nat.gcd_comm]
theorem y9Y (a b:Nat) (ha:a<18446744073709551616) (hb:b<18446744073709551616):z0c prog 223 [.int .u64 a,.int .u64 b] (.int .u64 (Nat.gcd a b:Nat)):=by
 refine z0b w3g (by simp [x7J]) ?_
 unfold y88
 refine zS cI ?_
 refine z0s (σ:=Nat × Nat) (fun z=>[(0,.int .u64 z.1),(1,.int .u64 z.2)]) (fun _=>[]) (fun z=>Nat.gcd z.1 z.2=Nat.gcd a b∧z.1<18446744073709551616∧z.2<18446744073709551616) (fun z=>z.2) (a,b) ⟨rfl,ha,hb⟩ ?_ rfl ?_
 ·simp [z0v,lk]
 ·rintro ⟨x,y⟩ ⟨hg,hx,hy⟩
  simp only at hg hx hy ⊢
  refine zS cI ?_
  refine z0k rfl (fun h=>z0G ?_) (fun h=>z0q ?_)
  ·have h:=of_decide_eq_true h
   have hm:=Nat.mod_lt x (show 0<y by omega)
   refine zS (zA @z8i cI) ?_
   refine ⟨(y,x % y),⟨by rw [←hg];exact y3e x y,hy,by simp only;omega⟩,hm,by simp [z0v,lk]⟩
  ·have h:=of_decide_eq_false h
   have:y=0:=by omega
   subst this
   rw [Nat.gcd_zero_right] at hg
   subst hg
   refine zS cI ?_
   exact z0j (z0i (.imm rfl))
theorem y1C (a b:List Nat) (ha:a.length≤100000) (hb:b.length≤100000) (la:lim a) (lb:lim b):z0c prog 163 [.sl 1 (us a),.sl 1 (us b)] (.sl 1 (us (limbs (Nat.gcd (vn a) (vn b))))):=by
 have l1:=z1s la
 have l2:=z1s lb
 have c1:=z0T a (by omega) la
 have c2:=z0T b (by omega) lb
 refine z0b w2B (by simp [x7F]) ?_
 unfold y8I
 generalize vn a=x0 at *
 generalize vn b=y0 at *
 refine zS cI ?_
 refine cP c1 ?_
 refine zS cI ?_
 refine cP c2 ?_
 refine zS cI ?_
 refine z0s (σ:=Nat × Nat) (fun z=>[(0,.sl 1 (us (limbs z.1))),(1,.sl 1 (us (limbs z.2)))]) (fun _=>[]) (fun z=>Nat.gcd z.1 z.2=Nat.gcd x0 y0∧(limbs z.1).length≤100000∧(limbs z.2).length≤100000) (fun z=>z.2) (x0,y0) ⟨rfl,by simp only;omega,by simp only;omega⟩ ?_ rfl ?_
 ·simp [z0v,lk]
 ·rintro ⟨x,y⟩ ⟨hg,hx,hy⟩
  simp only at hg hx hy ⊢
  refine zS (zA @z0a cI) ?_
  refine z0k rfl (fun h=>z0G ?_) (fun h=>z0q ?_)
  ·have h:=of_decide_eq_true h
   have hy0:0<y:=by
    rcases Nat.eq_zero_or_pos y with e|e
    ·subst e;rw [z0t] at h;simp at h
    ·exact e
   have hm:=Nat.mod_lt x hy0
   have u1:=z9Y (limbs x) (by omega) (z0f x)
   have u2:=z9Y (limbs y) (by omega) (z0f y)
   have cd:=y0X (limbs x) (limbs y) hx hy (z0f x) (z0f y)
   rw [z0y,z0y,z5y hy0,decide_eq_true hy0] at cd
   rw [z0y] at u1 u2
   have lm:=z1D (Nat.le_of_lt hm)
   have fin:∃s',(Nat.gcd s'.1 s'.2=Nat.gcd x0 y0∧(limbs s'.1).length≤100000∧(limbs s'.2).length≤100000)∧s'.2<y∧s'=(y,x % y):=⟨(y,x % y),⟨by rw [←hg];exact y3e x y,hy,by simp only;omega⟩,hm,rfl⟩
   by_cases hs1:(limbs x).length > 2
   ·rw [y2w,if_pos hs1] at u1
    obtain ⟨p,s,e⟩:∃p s,y2w y=.tup [.int .u64 p,.bool s]:=by unfold y2w;split<;>exact ⟨_,_,rfl⟩
    rw [e] at u2
    refine zS cI ?_
    refine cP u1 ?_
    refine zS cI ?_
    refine cP u2 ?_
    refine zS cI ?_
    refine wFs ?_
    refine zS cI ?_
    refine cP cd ?_
    refine zS cI ?_
    obtain ⟨s',i1,i2,rfl⟩:=fin
    exact ⟨_,i1,i2,by simp [z0v,lk]⟩
   ·rw [y2w,if_neg hs1] at u1
    have hx64:=z9V (show (limbs x).length≤2 by omega)
    by_cases hs2:(limbs y).length > 2
    ·rw [y2w,if_pos hs2] at u2
     refine zS cI ?_
     refine cP u1 ?_
     refine zS cI ?_
     refine cP u2 ?_
     refine zS cI ?_
     refine wFs ?_
     refine zS cI ?_
     refine cP cd ?_
     refine zS cI ?_
     obtain ⟨s',i1,i2,rfl⟩:=fin
     exact ⟨_,i1,i2,by simp [z0v,lk]⟩
    ·rw [y2w,if_neg hs2] at u2
     have hy64:=z9V (show (limbs y).length≤2 by omega)
     have cg:=y9Y x y hx64 hy64
     have hgl:Nat.gcd x y≤y:=Nat.gcd_le_right x hy0
     have cf:=z2c (Nat.gcd x y) (by omega)
     refine zS cI ?_
     refine cP u1 ?_
     refine zS cI ?_
     refine cP u2 ?_
     refine zS cI ?_
     refine wT ?_
     refine zS cI ?_
     refine cP cg ?_
     refine zS cI ?_
     refine cP cf ?_
     refine zS cI ?_
     rw [←hg]
     exact z0j (z0i (.imm rfl))
  ·have h:=of_decide_eq_false h
   have hy0:y=0:=z1t.1 (List.eq_nil_of_length_eq_zero (by omega))
   subst hy0
   rw [Nat.gcd_zero_right] at hg
   rw [←hg]
   have cc:=z8T (limbs x) (by omega)
   refine zS cI ?_
   refine cP cc ?_
   refine zS cI ?_
   exact z0j (z0i (.imm rfl))
theorem y1A (a b:List Nat) (ha:a.length≤10000) (hb:b.length≤10000) (la:lim a) (lb:lim b):z0c prog 175 [.sl 1 (us a),.sl 1 (us b)] (.sl 1 (us (limbs (Nat.gcd (vn a) (vn b))))):=by
 have l1:=z1s la
 have l2:=z1s lb
 have c1:=z0W a (by omega) la
 have c2:=z0W b (by omega) lb
 refine z0b w12 (by simp [x7B]) ?_
 unfold y78
 generalize vn a=x0 at *
 generalize vn b=y0 at *
 refine zS cI ?_
 refine cP c1 ?_
 refine zS cI ?_
 refine cP c2 ?_
 refine zS cI ?_
 refine z0s (σ:=Nat × Nat) (fun z=>[(0,.sl 1 (us (limbs z.1))),(1,.sl 1 (us (limbs z.2)))]) (fun _=>[]) (fun z=>Nat.gcd z.1 z.2=Nat.gcd x0 y0∧(limbs z.1).length≤10000∧(limbs z.2).length≤10000) (fun z=>z.2) (x0,y0) ⟨rfl,by simp only;omega,by simp only;omega⟩ ?_ rfl ?_
 ·simp [z0v,lk]
 ·rintro ⟨x,y⟩ ⟨hg,hx,hy⟩
  simp only at hg hx hy ⊢
  refine zS (zA @z0a cI) ?_
  refine z0k rfl (fun h=>z0G ?_) (fun h=>z0q ?_)
  ·have h:=of_decide_eq_true h
   have hy0:0<y:=by
    rcases Nat.eq_zero_or_pos y with e|e
    ·subst e;rw [z0t] at h;simp at h
    ·exact e
   have hm:=Nat.mod_lt x hy0
   have cd:=y0V (limbs x) (limbs y) hx hy (z0f x) (z0f y)
   rw [z0y,z0y,z5y hy0,decide_eq_true hy0] at cd
   have lm:=z1D (Nat.le_of_lt hm)
   refine zS cI ?_
   refine cP cd ?_
   refine zS cI ?_
   refine ⟨(y,x % y),⟨by rw [←hg];exact y3e x y,hy,by simp only;omega⟩,hm,by simp [z0v,lk]⟩
  ·have h:=of_decide_eq_false h
   have hy0:y=0:=z1t.1 (List.eq_nil_of_length_eq_zero (by omega))
   subst hy0
   rw [Nat.gcd_zero_right] at hg
   rw [←hg]
   refine zS cI ?_
   exact z0j (z0i (.imm rfl))
theorem y95 (a b:List Nat) (ha:a.length≤10000) (hb:b.length≤10000) (la:lim a) (lb:lim b):z0c prog 91 [.sl 1 (us a),.sl 1 (us b)] (.sl 1 (us (limbs (vn a*vn b)))):=by
 have h1:=z1s la
 have h2:=z1s lb
 have c1:=z0T a (by omega) la
 have c2:=z0T b (by omega) lb
 refine z0b w3s (by simp [x2E]) ?_
 unfold y8j
 generalize vn a=x at h1 c1 ⊢
 generalize vn b=y at h2 c2 ⊢
 have laX:=z0f x
 have laY:=z0f y
 refine z0d (z0g ?_)
 refine zE cI ?_
 repeat refine ⟨by omega,?_⟩
 refine z0d (z0g ?_)
 refine zE cI ?_
 repeat refine ⟨by omega,?_⟩
 refine cP c1 ?_
 refine zE cI ?_
 repeat refine ⟨by omega,?_⟩
 refine cP c2 ?_
 refine zE cI ?_
 repeat refine ⟨by omega,?_⟩
 refine z0d (z0g ?_)
 refine zE (zA @z0a (zA @z65 (zA @w3W (zA @z9s cI)))) ?_
 repeat refine ⟨by omega,?_⟩
 refine z0d (z0d (z0g ?_))
 refine zE (zA @z0a cI) ?_
 repeat refine ⟨by omega,?_⟩
 obtain ⟨N,hN⟩:∃N,N=(limbs x).length+(limbs y).length:=⟨_,rfl⟩
 rw [←hN]
 refine z0e (z0s (σ:=Nat × List Nat) (fun s=>[(0,.sl 1 (us (limbs x))),(1,.sl 1 (us (limbs y))),(5,.osl 1 20 0 N),(21,.sl 1 (us (limbs x))),(22,.int .i64 (limbs x).length),(23,.int .i64 s.1)])
  (fun s=>[(20,us s.2)])
  (fun s=>s.1≤(limbs x).length∧s.2.length=N∧lim s.2∧nv s.2=nv ((limbs x).take s.1)*y∧∀k,s.1+(limbs y).length≤k→s.2.getD k 0=0)
  (fun s=>(limbs x).length - s.1) (0,List.replicate N 0) ⟨Nat.zero_le _,by simp,?_,by simp [nv,x8s],?_⟩ ?_ ?_ ?_)
 ·intro z hz;rw [List.eq_of_mem_replicate hz];decide
 ·intro k _;simp [zO1,List.getElem?_replicate];split<;>rfl
 ·simp [z0v,lk]
 ·rfl
 ·rintro ⟨i,out⟩ ⟨hi,ho,hlo,hno,hzo⟩
  simp only at hi ho hlo hno hzo ⊢
  refine z0d (z0g ?_)
  refine zE cI ?_
  repeat refine ⟨by omega,?_⟩
  refine z0d (z0k rfl (fun hcd=>z0G ?_) (fun hcd=>z0q ?_))
  ·have hlt:=of_decide_eq_true hcd
   have hlt:i<(limbs x).length:=by omega
   have hxi:=z0J laX i
   refine zE cI ?_
   repeat refine ⟨by omega,?_⟩
   refine z0d (z0e (z0d (z0g ?_)))
   refine zE (zA @z0a (zA @z0S cI)) ?_
   repeat refine ⟨by omega,?_⟩
   refine z0d (z0g ?_)
   refine zE cI ?_
   repeat refine ⟨by omega,?_⟩
   have hts:=z0H (a:=limbs x) i
   generalize hxe:(limbs x).getD i 0=xi at hxi hts ⊢
   refine z0d (z4c (ι:=Nat × List Nat) (fun s=>s.1<4294967296∧s.2.length=N∧lim s.2∧nv s.2+4294967296 ^ (i+(limbs y).length)*s.1=nv out+4294967296 ^ i*(xi*y)∧∀k,i+(limbs y).length≤k→s.2.getD k 0=0)
    (fun s=>[(0,.sl 1 (us (limbs x))),(1,.sl 1 (us (limbs y))),(5,.osl 1 20 0 N),(6,.int .i64 i),(8,.int .u64 s.1),(21,.sl 1 (us (limbs x))),(22,.int .i64 (limbs x).length),(23,.int .i64 i)]) (fun s=>[(20,us s.2)]) (z0d (z0g ?_)) ?_)
   ·refine zE (zA @z0a cI) ?_
    repeat refine ⟨by omega,?_⟩
    refine z0e (z0s (σ:=Nat × List Nat × Nat) (fun s=>[(0,.sl 1 (us (limbs x))),(1,.sl 1 (us (limbs y))),(5,.osl 1 20 0 N),(6,.int .i64 i),(7,.int .u32 xi),(8,.int .u64 s.2.2),(21,.sl 1 (us (limbs x))),(22,.int .i64 (limbs x).length),(23,.int .i64 i),(28,.sl 1 (us (limbs y))),(29,.int .i64 (limbs y).length),(30,.int .i64 s.1)])
     (fun s=>[(20,us s.2.1)])
     (fun s=>s.1≤(limbs y).length∧s.2.1.length=N∧lim s.2.1∧s.2.2<4294967296∧nv s.2.1+4294967296 ^ (i+s.1)*s.2.2=nv out+4294967296 ^ i*(xi*nv ((limbs y).take s.1))∧∀k,i+(limbs y).length≤k→s.2.1.getD k 0=0)
     (fun s=>(limbs y).length - s.1) (0,out,0) ⟨Nat.zero_le _,ho,hlo,by simp only;omega,by simp [nv],hzo⟩ ?_ rfl ?_)
    ·simp [z0v,lk]
    ·rintro ⟨j,q,c⟩ ⟨hj,hq,hlq,hc,hnv,hzq⟩
     simp only at hj hq hlq hc hnv hzq ⊢
     refine z0d (z0g ?_)
     refine zE cI ?_
     repeat refine ⟨by omega,?_⟩
     refine z0d (z0k rfl (fun hcd2=>z0G ?_) (fun hcd2=>z0q ?_))
     ·have hlt2:=of_decide_eq_true hcd2
      have hlt2:j<(limbs y).length:=by omega
      have hyj:=z0J laY j
      have htj:=z0H (a:=limbs y) j
      have hoj:=z0J hlq (i+j)
      have hidx:(((i:Int)+(j:Int))).toNat=i+j:=by omega
      refine zE cI ?_
      repeat refine ⟨by omega,?_⟩
      refine z0d (z0e (z0d (z0g ?_)))
      refine zE (zA @z0a (zA @z0S cI)) ?_
      repeat refine ⟨by omega,?_⟩
      generalize (limbs y).getD j 0=yj at hyj htj ⊢
      refine z0d (z0g ?_)
      refine zE (zA @z0a (zA @z0S (zA hidx (zA hq cI)))) ?_
      repeat refine ⟨by omega,?_⟩
      obtain ⟨m1,m2⟩:=w4p hxi hyj hc hoj
      have hw:IntKind.u64.wrap ((c:Int)+IntKind.u64.wrap (IntKind.u64.wrap ((xi:Int)*(yj:Int))+((q.getD (i+j) 0:Nat):Int)))=((xi*yj+q.getD (i+j) 0+c:Nat):Int):=by
       rw [x7j hxi hyj]
       generalize xi*yj=p at m1 ⊢
       generalize q.getD (i+j) 0=o at m1 ⊢
       rw [x59 (x:=(p:Int)+(o:Int)) (by omega) (by omega),x59 (by omega) (by omega)]
       omega
      rw [hw]
      have hset:=x8a (l:=q) (k:=i+j) (v:=(xi*yj+q.getD (i+j) 0+c) % 4294967296) (by omega)
      have hstep:=x5S hnv hset rfl
      generalize xi*yj+q.getD (i+j) 0+c=t at m1 m2 hset hstep ⊢
      have halg:4294967296 ^ (i+j)*(xi*yj)=4294967296 ^ i*(xi*(4294967296 ^ j*yj)):=by
       rw [Nat.pow_add,Nat.mul_assoc,←Nat.mul_assoc (4294967296 ^ j) xi yj,Nat.mul_comm (4294967296 ^ j) xi,Nat.mul_assoc xi]
      have hfin:nv (q.set (i+j) (t % 4294967296))+4294967296 ^ (i+(j+1))*(t / 4294967296)=nv out+4294967296 ^ i*(xi*nv ((limbs y).take (j+1))):=by
       rw [htj,Nat.mul_add,Nat.mul_add,←halg,←Nat.add_assoc (nv out),←hstep,show i+(j+1)=i+j+1 from rfl,Nat.pow_succ]
      refine z0d (z0g ?_)
      refine zE (zA @z0a (zA hidx (zA hq (zA @z38 (zA @z5n (zA @z5s cI)))))) ?_
      repeat refine ⟨by omega,?_⟩
      refine z0g ?_
      refine zE (zA @z2b cI) ?_
      repeat refine ⟨by omega,?_⟩
      refine z0g ?_
      refine zE cI ?_
      refine ⟨(j+1,q.set (i+j) (t % 4294967296),t / 4294967296),⟨by simp only;omega,by simp [hq],x1t hlq (by omega),m2,hfin,?_⟩,by simp only;omega,by simp [z0v,lk],rfl⟩
      intro k hk
      simp only
      rw [z7c (by omega)]
      exact hzq k hk
     ·have hge2:=of_decide_eq_false hcd2
      have hjl:j=(limbs y).length:=by omega
      subst hjl
      rw [List.take_of_length_le (Nat.le_refl _),z0I] at hnv
      refine zE cI ?_
      exact ⟨(c,q),⟨hc,hq,hlq,hnv,hzq⟩,by simp [z0v,lk],rfl⟩
   ·rintro ⟨c,q⟩ ⟨hc,hq,hlq,hnv,hzq⟩
    simp only at hc hq hlq hnv hzq ⊢
    have hidx:((((i:Int)+((limbs y).length:Int)))).toNat=i+(limbs y).length:=by omega
    have hset:=x8a (l:=q) (k:=i+(limbs y).length) (v:=c) (by omega)
    rw [hzq _ (Nat.le_refl _),Nat.mul_zero,Nat.add_zero] at hset
    have hcm:c % 4294967296=c:=Nat.mod_eq_of_lt hc
    refine z0g ?_
    refine zE (zA @z0a (zA hidx (zA hq (zA @z38 (zA @z5n (zA @z5s (zA hcm cI))))))) ?_
    repeat refine ⟨by omega,?_⟩
    refine z0g ?_
    refine zE cI ?_
    refine ⟨(i+1,q.set (i+(limbs y).length) c),⟨by simp only;omega,by simp [hq],x1t hlq hc,?_,?_⟩,by simp only;omega,by simp [z0v,lk],rfl⟩
    ·simp only
     rw [hset,hnv,hno,hts,Nat.add_mul,Nat.mul_assoc]
    ·intro k hk
     simp only at hk ⊢
     rw [z7c (by omega)]
     exact hzq k (by omega)
  ·have hge:=of_decide_eq_false hcd
   have hil:i=(limbs x).length:=by omega
   subst hil
   rw [List.take_of_length_le (Nat.le_refl _),z0I] at hno
   have ct:=z1G out (by omega) hlo
   rw [hno] at ct
   refine zE cI ?_
   repeat refine ⟨by omega,?_⟩
   refine z0d (z0g ?_)
   refine zE cI ?_
   repeat refine ⟨by omega,?_⟩
   refine z1k rfl 20 (cells:=us out) (by simp [lkH]) (z4i _) ?_
   simp (maxSteps:=1000000) (disch:=omega) only [cA,cB,cN,FnD.nb,lk,lkH,Dst.onT,Dst.onX,Dst.slot,z03,z0K,z0M,z00,z0x,z02,unE,cnt,z0l,z0w,z0m,z0o,opE,rmH,z05,z0n,Nat.reduceEqDiff,Nat.reduceLT,Nat.reduceAdd,Nat.reduceMul,Nat.reduceMod,↓reduceIte,reduceCtorEq,Nat.reduceLeDiff,z0n ho.symm,cI]
   refine cP ct ?_
   refine zE cI ?_
   exact z0j (z0i (.imm rfl))
theorem w3I {a:List Nat} (la:lim a) (h:vld a=true):limbs (vn a)=a:=by
 rw [vn,val,h,if_pos rfl,z77 la h]
theorem w0z {p q m:Nat} (h1:(limbs p).length≤m) (h2:(limbs q).length≤m):(limbs (p+q)).length≤m+1:=by
 rw [z0A] at h1 h2 ⊢
 rw [Nat.pow_succ];omega
theorem w48 (p q:Nat) (h1:(limbs p).length≤100000) (h2:(limbs q).length≤100000):z0c prog 161 [.sl 1 (us (limbs p)),.sl 1 (us (limbs q))] (.sl 1 (us (limbs (p+q)))):=by
 have:=x0U (limbs p) (limbs q) h1 h2 (z0f _) (z0f _)
 rwa [z0y,z0y] at this
theorem w0c (p q:Nat) (h1:(limbs p).length≤10000) (h2:(limbs q).length≤10000):z0c prog 91 [.sl 1 (us (limbs p)),.sl 1 (us (limbs q))] (.sl 1 (us (limbs (p*q)))):=by
 have:=y95 (limbs p) (limbs q) h1 h2 (z0f _) (z0f _)
 rwa [z0y,z0y] at this
theorem w3P (p q:Nat) (h1:(limbs p).length≤100000) (h2:(limbs q).length≤100000):z0c prog 164 [.sl 1 (us (limbs p)),.sl 1 (us (limbs q))] (.tup [.sl 1 (us (limbs (p / q))),.sl 1 (us (limbs (x5e p q))),.bool (decide (0<q))]):=by
 have:=y0X (limbs p) (limbs q) h1 h2 (z0f _) (z0f _)
 rwa [z0y,z0y] at this
theorem y8i:limbs 1=[1]:=z22 (by decide) (by decide)
theorem w34:[DV.int .u32 1]=us (limbs 1):=by rw [y8i];rfl
theorem y1H (xs:List Nat):(∀d∈us xs,d.rf=true)=True:=by simp [us,u32,DV.rf]
theorem w3L (p q:Nat) (h1:(limbs p).length≤100000) (h2:(limbs q).length≤100000):z0c prog 117 [.sl 1 (us (limbs p)),.sl 1 (us (limbs q))] (.sl 1 (us (limbs (p+q)))):=by
 have:=z6k (limbs p) (limbs q) h1 h2 (z0f _) (z0f _)
 rwa [z0y,z0y] at this
theorem w5b (p q:Nat) (h1:(limbs p).length≤10000) (h2:(limbs q).length≤10000):z0c prog 119 [.sl 1 (us (limbs p)),.sl 1 (us (limbs q))] (.sl 1 (us (limbs (p*q)))):=by
 have:=x05 (limbs p) (limbs q) h1 h2 (z0f _) (z0f _)
 rwa [z0y,z0y] at this
theorem w14 (p q:Nat) (h1:(limbs p).length≤10000) (h2:(limbs q).length≤10000):z0c prog 189 [.sl 1 (us (limbs p)),.sl 1 (us (limbs q))] (.tup [.sl 1 (us (limbs (p / q))),.sl 1 (us (limbs (x5e p q))),.bool (decide (0<q))]):=by
 have:=y0V (limbs p) (limbs q) h1 h2 (z0f _) (z0f _)
 rwa [z0y,z0y] at this
theorem z5K (n:Nat):decide ((0:Int)<((limbs n).length:Int))=decide (0<n):=by
 rw [decide_eq_decide,←z4J];omega
theorem z62 (neg:Bool) (a:List Nat) (ha:a.length≤1000000):z0c prog 218 [X neg a] (.bool (y2B neg a)):=by
 refine z0b x5m (by simp [y15]) ?_
 unfold y05
 have cv:=z4C a ha
 unfold y2B
 have hd:decide ((0:Int)<a.length)=decide (0<a.length):=by rw [decide_eq_decide];omega
 generalize decide (0<a.length)=p at *
 generalize vld a=v at *
 repeat (first|refine zQ (zA @X.eq_1 (zA @cS (zA @z8d (zA @z0a (zA hd cI))))) ?_|refine cP cv ?_|exact zT)
 cases v
 ·repeat (first|refine zQ (zA @X.eq_1 (zA @cS (zA @z8d (zA @z0a (zA hd cI))))) ?_|refine cP cv ?_|exact zT)
 ·cases p
  ·repeat (first|refine zQ (zA @X.eq_1 (zA @cS (zA @z8d (zA @z0a (zA hd cI))))) ?_|refine cP cv ?_|exact zT)
  ·repeat (first|refine zQ (zA @X.eq_1 (zA @cS (zA @z8d (zA @z0a (zA hd cI))))) ?_|refine cP cv ?_|exact zT)
theorem z2a (neg:Bool) (a:List Nat) (ha:a.length≤1000000) (la:lim a):z0c prog 159 [X neg a] (I (iv neg a)):=by
 have cv:=z62 neg a ha
 refine z0b x3w (by simp [z8Q]) ?_
 unfold z8r
 by_cases hv:y2B neg a=true
 ·rw [hv] at cv
  rw [←X_I la hv]
  repeat (first|refine zQ (zA @X.eq_1 (zA @cS (zA @z6a cI))) ?_|refine cP cv ?_|exact zT)
  refine wT ?_
  repeat (first|refine zQ (zA @X.eq_1 (zA @cS (zA @z6a cI))) ?_|refine cP cv ?_|exact zT)
 ·have hv:y2B neg a=false:=by simpa using hv
  rw [hv] at cv
  rw [x74 hv]
  repeat (first|refine zQ (zA @X.eq_1 (zA @cS (zA @z6a cI))) ?_|refine cP cv ?_|exact zT)
  refine wFs ?_
  refine zS (zA @X.eq_1 (zA @cS (zA @z6a cI))) ?_
  refine z0j (z0Z rfl rfl rfl ?_)
  rw [show I 0=.agg [.bool false,.sl 1 []] by unfold I;rw [show (0:Int).natAbs=0 from rfl,z0t];rfl]
  exact y9e _ _
theorem z1y (neg:Bool) (n:Nat):z0c prog 160 [.bool neg,.sl 1 (us (limbs n))] (I (sgn neg n)):=by
 refine z0b x0l (by simp [z6t]) ?_
 unfold z7o I
 rw [x8p,x3k]
 cases neg
 ·refine zS (zA @cS (zA @y1k (zA @z0a (zA @z5K cI)))) ?_
  exact z0j (z0Z rfl rfl rfl (.imm rfl))
 ·simp only [Bool.true_and]
  refine zS (zA @cS (zA @y1k (zA @z0a (zA @z5K cI)))) ?_
  exact z0j (z0Z rfl rfl rfl (.imm rfl))
theorem y0y (v:Int) (h1 : -9223372036854775808≤v) (h2:v≤9223372036854775807):z0c prog 151 [.int .i64 v] (I v):=by
 refine z0b x1e (by simp [z6x]) ?_
 unfold z7n
 by_cases hv:v<0
 ·have d1:decide (v<0)=true:=decide_eq_true hv
  obtain ⟨n,hn⟩:∃n:Nat,v = -(n:Int):=⟨v.natAbs,by omega⟩
  have cf:=z2c n (by omega)
  have cs:=z1y true n
  rw [show sgn true n=v by unfold sgn;rw [if_pos rfl,hn]] at cs
  have e1:IntKind.u64.wrap (0 - IntKind.u64.wrap v)=(n:Int):=by rw [IntKind.wrap_u64,IntKind.wrap_u64];omega
  repeat (first|refine zQ (zA @I.eq_1 (zA @cS (zA @z4N (zA d1 cI)))) ?_|refine cP cf ?_|refine cP cs ?_|exact zT)
  refine wT ?_
  repeat (first|refine zQ (zA @I.eq_1 (zA @cS (zA @z4N (zA d1 (zA e1 cI))))) ?_|refine cP cf ?_|refine cP cs ?_|exact zT)
 ·have d1:decide (v<0)=false:=decide_eq_false hv
  obtain ⟨n,hn⟩:∃n:Nat,v=(n:Int):=⟨v.natAbs,by omega⟩
  have cf:=z2c n (by omega)
  have cs:=z1y false n
  rw [show sgn false n=v by unfold sgn;rw [if_neg (by simp),hn]] at cs
  have e1:IntKind.u64.wrap v=(n:Int):=by rw [IntKind.wrap_u64];omega
  repeat (first|refine zQ (zA @I.eq_1 (zA @cS (zA @z4N (zA d1 cI)))) ?_|refine cP cf ?_|refine cP cs ?_|exact zT)
  refine wFs ?_
  repeat (first|refine zQ (zA @I.eq_1 (zA @cS (zA @z4N (zA d1 (zA e1 cI))))) ?_|refine cP cf ?_|refine cP cs ?_|exact zT)
theorem y5Z (neg:Bool) (a:List Nat) (ha:a.length≤1000000) (la:lim a):z0c prog 256 [X neg a] (.int .i64 (iv neg a).sign):=by
 have cv:=z2a neg a ha la
 refine z0b w0u (by simp [y55]) ?_
 unfold y4k
 generalize iv neg a=z at *
 have dz:decide (((limbs z.natAbs).length:Int)=0)=decide (z=0):=by rw [decide_eq_decide,←x6x (z:=z)];omega
 repeat (first|refine zQ (zA @X.eq_1 (zA @I.eq_1 (zA @cS (zA @x9O (zA @z0a (zA dz cI)))))) ?_|refine cP cv ?_|exact zT)
 refine z0k rfl (fun h=>?_) (fun h=>?_)
 ·have h:=of_decide_eq_true h
  subst h
  repeat (first|refine zQ (zA @cS cI) ?_|refine cP cv ?_|exact zT)
 ·have h:=of_decide_eq_false h
  repeat (first|refine zQ (zA @cS cI) ?_|refine cP cv ?_|exact zT)
  refine z0k rfl (fun h3=>?_) (fun h3=>z0G ?_)
  ·rw [Int.sign_eq_neg_one_of_neg (of_decide_eq_true h3)]
   repeat (first|refine zQ (zA @cS cI) ?_|refine cP cv ?_|exact zT)
  ·have h3:=of_decide_eq_false h3
   rw [Int.sign_eq_one_of_pos (by omega)]
   repeat (first|refine zQ (zA @cS cI) ?_|refine cP cv ?_|exact zT)
theorem y0C (n1:Bool) (a:List Nat) (n2:Bool) (b:List Nat) (ha:a.length≤10000) (hb:b.length≤10000) (la:lim a) (lb:lim b):z0c prog 167 [X n1 a,X n2 b] (I (iv n1 a*iv n2 b)):=by
 have cv:=z2a n1 a (by omega) la
 have cw:=z2a n2 b (by omega) lb
 have l1:=z4d la n1
 have l2:=z4d lb n2
 generalize iv n1 a=x at *
 generalize iv n2 b=y at *
 have cm:=w0c x.natAbs y.natAbs (by omega) (by omega)
 have cs:=z1y (!(decide (x<0) == decide (y<0))) (x.natAbs*y.natAbs)
 rw [x1Z] at cs
 refine z0b w2f (by simp [x1m]) ?_
 unfold y7C
 repeat (first|refine zQ (zA @X.eq_1 (zA @I.eq_1 (zA @cS (zA @w1J cI)))) ?_|refine cP cv ?_|refine cP cw ?_|refine cP cm ?_|refine cP cs ?_|exact zT)
theorem y9M (n1:Bool) (a:List Nat) (n2:Bool) (b:List Nat) (ha:a.length≤10000) (hb:b.length≤10000) (la:lim a) (lb:lim b):z0c prog 87 [X n1 a,X n2 b] (I (iv n1 a+iv n2 b)):=by
 have cv:=z2a n1 a (by omega) la
 have cw:=z2a n2 b (by omega) lb
 have l1:=z4d la n1
 have l2:=z4d lb n2
 generalize iv n1 a=x at *
 generalize iv n2 b=y at *
 have ca:=w48 x.natAbs y.natAbs (by omega) (by omega)
 have cd:=y08 (limbs x.natAbs) (limbs y.natAbs) (by omega) (by omega) (z0f _) (z0f _)
 have ce:=y08 (limbs y.natAbs) (limbs x.natAbs) (by omega) (by omega) (z0f _) (z0f _)
 rw [z0y,z0y] at cd ce
 have s1:=z1y (decide (x<0)) (x.natAbs+y.natAbs)
 have s2:=z1y (decide (x<0)) (x.natAbs - y.natAbs)
 have s3:=z1y (decide (y<0)) (y.natAbs - x.natAbs)
 refine z0b w2l (by simp [x2m]) ?_
 unfold y8K
 by_cases h:decide (x<0)=decide (y<0)
 ·rw [x5N h] at s1
  have hb:(decide (x<0) == decide (y<0))=true:=by rw [h];simp
  repeat (first|refine zQ (zA @X.eq_1 (zA @I.eq_1 (zA @cS (zA @z7R (zA hb cI))))) ?_|refine cP cv ?_|refine cP cw ?_|exact zT)
  refine wT ?_
  repeat (first|refine zQ (zA @X.eq_1 (zA @I.eq_1 (zA @cS (zA @z7R (zA hb cI))))) ?_|refine cP ca ?_|refine cP s1 ?_|exact zT)
 ·have hb:(decide (x<0) == decide (y<0))=false:=by simpa using h
  by_cases hle:y.natAbs≤x.natAbs
  ·rw [y7I h hle] at s2
   rw [decide_eq_true hle] at cd
   repeat (first|refine zQ (zA @X.eq_1 (zA @I.eq_1 (zA @cS (zA @z7R (zA hb cI))))) ?_|refine cP cv ?_|refine cP cw ?_|exact zT)
   refine wFs ?_
   repeat (first|refine zQ (zA @X.eq_1 (zA @I.eq_1 (zA @cS (zA @z7R cI)))) ?_|refine cP cd ?_|exact zT)
   refine wT ?_
   repeat (first|refine zQ (zA @X.eq_1 (zA @I.eq_1 (zA @cS (zA @z7R cI)))) ?_|refine cP s2 ?_|exact zT)
  ·rw [x2T h hle] at s3
   rw [decide_eq_false hle] at cd
   repeat (first|refine zQ (zA @X.eq_1 (zA @I.eq_1 (zA @cS (zA @z7R (zA hb cI))))) ?_|refine cP cv ?_|refine cP cw ?_|exact zT)
   refine wFs ?_
   repeat (first|refine zQ (zA @X.eq_1 (zA @I.eq_1 (zA @cS (zA @z7R cI)))) ?_|refine cP cd ?_|exact zT)
   refine wFs ?_
   repeat (first|refine zQ (zA @X.eq_1 (zA @I.eq_1 (zA @cS (zA @z7R cI)))) ?_|refine cP ce ?_|refine cP s3 ?_|exact zT)
theorem I0:I 0=.agg [.bool false,.sl 1 []]:=by unfold I;rw [show (0:Int).natAbs=0 from rfl,z0t];rfl
theorem w5c (p q:Nat) (h1:(limbs p).length≤10000) (h2:(limbs q).length≤10000):z0c prog 175 [.sl 1 (us (limbs p)),.sl 1 (us (limbs q))] (.sl 1 (us (limbs (Nat.gcd p q)))):=by
 have:=y1A (limbs p) (limbs q) h1 h2 (z0f _) (z0f _)
 rwa [z0y,z0y] at this
theorem z7M (neg:Bool) (a:List Nat) (ha:a.length≤1000000):z0c prog 173 [X neg a] (.bool (y2B neg a)):=by
 refine z0b x6f (by simp [y3o]) ?_
 unfold y0B
 have cv:=z4E a ha
 unfold y2B
 have hd:decide ((a.length:Int)=0)=!decide (0<a.length):=by
  by_cases h:0<a.length
  ·rw [decide_eq_true h,zF9];rfl
  ·rw [decide_eq_false h,zT9];rfl
 generalize decide (0<a.length)=p at *
 generalize vld a=v at *
 repeat (first|refine zQ (zA @X.eq_1 (zA @cS (zA @z79 (zA @z0a (zA hd cI))))) ?_|refine cP cv ?_|exact zT)
 cases v
 ·repeat (first|refine zQ (zA @X.eq_1 (zA @cS (zA @z79 (zA @z0a (zA hd cI))))) ?_|refine cP cv ?_|exact zT)
 ·cases neg
  ·simp only [Bool.not_false,Bool.or_true,Bool.and_true]
   repeat (first|refine zQ (zA @X.eq_1 (zA @cS (zA @z79 (zA @z0a (zA hd cI))))) ?_|refine cP cv ?_|exact zT)
  ·simp only [Bool.not_true,Bool.or_false,Bool.true_and]
   repeat (first|refine zQ (zA @X.eq_1 (zA @cS (zA @z79 (zA @z0a (zA hd (zA @Bool.not_not cI)))))) ?_|refine cP cv ?_|exact zT)
theorem z1u (neg:Bool) (a:List Nat) (ha:a.length≤1000000) (la:lim a):z0c prog 95 [X neg a] (I (iv neg a)):=by
 have cv:=z7M neg a ha
 have ct:=z0W a ha la
 refine z0b x9X (by simp [y7b]) ?_
 unfold y3O
 by_cases hv:y2B neg a=true
 ·rw [hv] at cv
  rw [←X_I la hv]
  have hva:limbs (vn a)=a:=by
   have:vld a=true:=by unfold y2B at hv;rw [Bool.and_eq_true] at hv;exact hv.1
   exact w3I la this
  rw [hva] at ct
  repeat (first|refine zQ (zA @X.eq_1 (zA @cS (zA @y3k cI))) ?_|refine cP cv ?_|exact zT)
  refine wFs ?_
  repeat (first|refine zQ (zA @X.eq_1 (zA @cS (zA @y3k cI))) ?_|refine cP ct ?_|exact zT)
 ·have hv:y2B neg a=false:=by simpa using hv
  rw [hv] at cv
  rw [x74 hv]
  repeat (first|refine zQ (zA @X.eq_1 (zA @cS (zA @y3k cI))) ?_|refine cP cv ?_|exact zT)
  refine wT ?_
  refine zS (zA @X.eq_1 (zA @cS (zA @y3k cI))) ?_
  refine z0j (z0Z rfl rfl rfl ?_)
  rw [I0]
  exact y9e _ _
theorem z1b (neg:Bool) (n:Nat):z0c prog 116 [.bool neg,.sl 1 (us (limbs n))] (I (sgn neg n)):=by
 refine z0b x0M (by simp [z6r]) ?_
 unfold z7s I
 rw [x8p,x3k]
 cases neg
 ·refine zS (zA @cS (zA @y1L (zA @z0a (zA @z5K cI)))) ?_
  exact z0j (z0Z rfl rfl rfl (.imm rfl))
 ·simp only [Bool.true_and]
  refine zS (zA @cS (zA @y1L (zA @z0a (zA @z5K cI)))) ?_
  exact z0j (z0Z rfl rfl rfl (.imm rfl))
theorem y6J (neg:Bool) (a:List Nat) (ha:a.length≤1000000) (la:lim a):z0c prog 59 [X neg a] (.int .i64 (iv neg a).sign):=by
 have cv:=z1u neg a ha la
 refine z0b w0U (by simp [y6p]) ?_
 unfold y5r
 generalize iv neg a=z at *
 repeat (first|refine zQ (zA @X.eq_1 (zA @I.eq_1 (zA @cS (zA @w1o (zA @z0a (zA @z5K cI)))))) ?_|refine cP cv ?_|exact zT)
 refine z0k rfl (fun h=>?_) (fun h=>?_)
 ·rw [Int.sign_eq_neg_one_of_neg (of_decide_eq_true h)]
  repeat (first|refine zQ (zA @cS cI) ?_|refine cP cv ?_|exact zT)
 ·have h:=of_decide_eq_false h
  repeat (first|refine zQ (zA @I.eq_1 (zA @cS (zA @z0a (zA @z5K cI)))) ?_|refine cP cv ?_|exact zT)
  refine z0k rfl (fun h3=>?_) (fun h3=>z0G ?_)
  ·have h3:=of_decide_eq_true h3
   rw [Int.sign_eq_one_of_pos (by omega)]
   repeat (first|refine zQ (zA @cS cI) ?_|refine cP cv ?_|exact zT)
  ·have h3:=of_decide_eq_false h3
   rw [show z=0 by omega]
   repeat (first|refine zQ (zA @cS cI) ?_|refine cP cv ?_|exact zT)
theorem y9R (neg:Bool) (a:List Nat) (ha:a.length≤9000) (la:lim a):z0c prog 112 [X neg a] (I (-(iv neg a))):=by
 have cv:=z1u neg a (by omega) la
 have cs:=z1b (!decide (iv neg a<0)) (iv neg a).natAbs
 rw [w1b] at cs
 refine z0b w3a (by simp [x5d]) ?_
 unfold y8n
 repeat (first|refine zQ (zA @X.eq_1 (zA @I.eq_1 (zA @cS (zA @w3b cI)))) ?_|refine cP cv ?_|refine cP cs ?_|exact zT)
theorem y9P (n1:Bool) (a:List Nat) (n2:Bool) (b:List Nat) (ha:a.length≤9000) (hb:b.length≤9000) (la:lim a) (lb:lim b):z0c prog 57 [X n1 a,X n2 b] (I (iv n1 a*iv n2 b)):=by
 have cv:=z1u n1 a (by omega) la
 have cw:=z1u n2 b (by omega) lb
 have l1:=z4d la n1
 have l2:=z4d lb n2
 generalize iv n1 a=x at *
 generalize iv n2 b=y at *
 have cm:=w5b x.natAbs y.natAbs (by omega) (by omega)
 have cs:=z1b (!(decide (x<0) == decide (y<0))) (x.natAbs*y.natAbs)
 rw [x1Z] at cs
 refine z0b w3K (by simp [x4N]) ?_
 unfold y9d
 repeat (first|refine zQ (zA @X.eq_1 (zA @I.eq_1 (zA @cS (zA @w3V cI)))) ?_|refine cP cv ?_|refine cP cw ?_|refine cP cm ?_|refine cP cs ?_|exact zT)
theorem x0d (n1:Bool) (a:List Nat) (n2:Bool) (b:List Nat) (ha:a.length≤9000) (hb:b.length≤9000) (la:lim a) (lb:lim b) :
  z0c prog 114 [X n1 a,X n2 b] (.tup [I (iv n1 a / iv n2 b),I (w4i (iv n1 a) (iv n2 b)),.bool (decide (¬iv n2 b=0))]):=by
 have cv:=z1u n1 a (by omega) la
 have cw:=z1u n2 b (by omega) lb
 have l1:=z4d la n1
 have l2:=z4d lb n2
 generalize iv n1 a=x at *
 generalize iv n2 b=y at *
 have cd:=w14 x.natAbs y.natAbs (by omega) (by omega)
 have lq:=z1D (Nat.div_le_self x.natAbs y.natAbs)
 refine z0b w1Z (by simp [x4z]) ?_
 unfold y73 w4i
 by_cases hy:y=0
 ·subst hy
  rw [decide_eq_false (show ¬0<(0:Int).natAbs by decide)] at cd
  repeat (first|refine zQ (zA @X.eq_1 (zA @I.eq_1 (zA @cS (zA @z7l cI)))) ?_|refine cP cv ?_|refine cP cw ?_|refine cP cd ?_|exact zT)
  refine wT ?_
  refine zS (zA @cS cI) ?_
  refine z0j (z76 rfl rfl rfl rfl rfl rfl ?_ ?_ (.imm rfl))
  ·rw [Int.ediv_zero]
   have:=y9e (h:=lkH [(2,[DV.bool (decide (x<0)),DV.sl 1 (us (limbs x.natAbs))]),(3,[DV.bool (decide ((0:Int)<0)),DV.sl 1 (us (limbs (0:Int).natAbs))]),(4,[DV.bool false,DV.nils]),(5,[DV.bool false,DV.nils])]) false 1
   rw [←I0] at this
   exact this
  ·have:=y9e (h:=lkH [(2,[DV.bool (decide (x<0)),DV.sl 1 (us (limbs x.natAbs))]),(3,[DV.bool (decide ((0:Int)<0)),DV.sl 1 (us (limbs (0:Int).natAbs))]),(4,[DV.bool false,DV.nils]),(5,[DV.bool false,DV.nils])]) false 1
   rw [←I0] at this
   exact this
 ·have hy0:0<y.natAbs:=by omega
  rw [decide_eq_true hy0,z5y hy0] at cd
  rw [decide_eq_true hy,if_neg hy]
  have lr:=z1D (Nat.mod_le x.natAbs y.natAbs)
  have hm:=Nat.mod_lt x.natAbs hy0
  repeat (first|refine zQ (zA @X.eq_1 (zA @I.eq_1 (zA @cS (zA @z7l cI)))) ?_|refine cP cv ?_|refine cP cw ?_|refine cP cd ?_|exact zT)
  refine wFs ?_
  by_cases hf:x<0∧0<x.natAbs % y.natAbs
  ·obtain ⟨f1,f2⟩:=x8U x y hy hf.1 hf.2
   have dx:decide (x<0)=true:=decide_eq_true hf.1
   have dr:decide (0<x.natAbs % y.natAbs)=true:=decide_eq_true hf.2
   have o1:(limbs 1).length≤10000:=by rw [y8i];simp
   have ca:=w3L (x.natAbs / y.natAbs) 1 (by omega) (by omega)
   have cb:=y1f (limbs y.natAbs) (limbs (x.natAbs % y.natAbs)) (by omega) (by omega) (z0f _) (z0f _)
   rw [z0y,z0y] at cb
   have s1:=z1b (!(decide (x<0) == decide (y<0))) (x.natAbs / y.natAbs+1)
   have s2:=z1b false (y.natAbs - x.natAbs % y.natAbs)
   rw [f1,dx] at s1
   rw [f2] at s2
   clear hf f1 f2 hm o1
   repeat (first|refine zQ (zA @X.eq_1 (zA @I.eq_1 (zA @cS (zA @z7l (zA @z0a (zA @z5K (zA dx (zA dr cI)))))))) ?_|refine cP cv ?_|exact zT)
   refine wT ?_
   repeat (first|refine zQ (zA @I.eq_1 (zA @cS (zA @z7l (zA @y1H (zA @w34 cI))))) ?_|refine cP ca ?_|refine cP cb ?_|refine cP s1 ?_|refine cP s2 ?_|exact zT)
   exact z0j (z76 rfl rfl rfl rfl rfl rfl (.imm rfl) (.imm rfl) (.imm rfl))
  ·obtain ⟨f1,f2⟩:=x3Z x y hy hf
   have s1:=z1b (!(decide (x<0) == decide (y<0))) (x.natAbs / y.natAbs)
   have s2:=z1b false (x.natAbs % y.natAbs)
   rw [f1] at s1
   rw [f2] at s2
   by_cases hx:x<0
   ·have dx:decide (x<0)=true:=decide_eq_true hx
    have dr:decide (0<x.natAbs % y.natAbs)=false:=decide_eq_false (fun h=>hf ⟨hx,h⟩)
    rw [dx] at s1
    clear hf f1 f2 hm
    repeat (first|refine zQ (zA @X.eq_1 (zA @I.eq_1 (zA @cS (zA @z7l (zA @z0a (zA @z5K (zA dx (zA dr cI)))))))) ?_|refine cP cv ?_|exact zT)
    refine wFs ?_
    repeat (first|refine zQ (zA @I.eq_1 (zA @cS (zA @z7l cI))) ?_|refine cP s1 ?_|refine cP s2 ?_|exact zT)
    exact z0j (z76 rfl rfl rfl rfl rfl rfl (.imm rfl) (.imm rfl) (.imm rfl))
   ·have dx:decide (x<0)=false:=decide_eq_false hx
    rw [dx] at s1
    clear hf f1 f2 hm
    repeat (first|refine zQ (zA @X.eq_1 (zA @I.eq_1 (zA @cS (zA @z7l (zA @z0a (zA @z5K (zA dx cI))))))) ?_|refine cP cv ?_|exact zT)
    refine wFs ?_
    repeat (first|refine zQ (zA @I.eq_1 (zA @cS (zA @z7l cI))) ?_|refine cP s1 ?_|refine cP s2 ?_|exact zT)
    exact z0j (z76 rfl rfl rfl rfl rfl rfl (.imm rfl) (.imm rfl) (.imm rfl))
theorem x0D (n1:Bool) (a:List Nat) (n2:Bool) (b:List Nat) (ha:a.length≤9000) (hb:b.length≤9000) (la:lim a) (lb:lim b) :
  z0c prog 113 [X n1 a,X n2 b] (.sl 1 (us (limbs (Nat.gcd (iv n1 a).natAbs (iv n2 b).natAbs)))):=by
 have cv:=z1u n1 a (by omega) la
 have cw:=z1u n2 b (by omega) lb
 have l1:=z4d la n1
 have l2:=z4d lb n2
 generalize iv n1 a=x at *
 generalize iv n2 b=y at *
 have cg:=w5c x.natAbs y.natAbs (by omega) (by omega)
 refine z0b w2q (by simp [x20]) ?_
 unfold y9t
 repeat (first|refine zQ (zA @X.eq_1 (zA @I.eq_1 (zA @cS (zA @w1Y cI)))) ?_|refine cP cv ?_|refine cP cw ?_|refine cP cg ?_|exact zT)
theorem z3o (v:Int) (h1 : -9223372036854775808≤v) (h2:v≤9223372036854775807):z0c prog 97 [.int .i64 v] (I v):=by
 refine z0b x0Q (by simp [z6T]) ?_
 unfold z7d
 by_cases hv:v<0
 ·have d1:decide (v<0)=true:=decide_eq_true hv
  obtain ⟨n,hn⟩:∃n:Nat,v = -((n+1:Nat):Int):=⟨v.natAbs - 1,by omega⟩
  have cf:=z2d n (by omega)
  have hll:(limbs n).length≤2:=z0A.2 (by omega)
  have ca:=w3L n 1 (by omega) (by rw [y8i];simp)
  have cs:=z1b true (n+1)
  rw [show sgn true (n+1)=v by unfold sgn;rw [if_pos rfl,hn]] at cs
  have e1:IntKind.u64.wrap (IntKind.i64.wrap (0 - IntKind.i64.wrap (v+1)))=(n:Int):=by rw [IntKind.wrap_u64,IntKind.wrap_i64,IntKind.wrap_i64];omega
  repeat (first|refine zQ (zA @I.eq_1 (zA @cS (zA @z4I (zA d1 cI)))) ?_|refine cP cf ?_|refine cP cs ?_|exact zT)
  refine wT ?_
  have e2:IntKind.i64.wrap (v+1)=v+1:=by rw [IntKind.wrap_i64];omega
  have e3:IntKind.i64.wrap (0 - (v+1))=0 - (v+1):=by rw [IntKind.wrap_i64];omega
  have e4:IntKind.u64.wrap (0 - (v+1))=(n:Int):=by rw [IntKind.wrap_u64];omega
  have e5:(0 - (v+1))=(n:Int):=by omega
  clear hll
  repeat (first|refine zQ (zA @I.eq_1 (zA @cS (zA @z4I (zA d1 (zA e5 (zA @y1H (zA @w34 cI))))))) ?_|refine cP cf ?_|refine cP ca ?_|refine cP cs ?_|exact zT)
 ·have d1:decide (v<0)=false:=decide_eq_false hv
  obtain ⟨n,hn⟩:∃n:Nat,v=(n:Int):=⟨v.natAbs,by omega⟩
  have cf:=z2d n (by omega)
  have cs:=z1b false n
  rw [show sgn false n=v by unfold sgn;rw [if_neg (by simp),hn]] at cs
  have e1:IntKind.u64.wrap v=(n:Int):=by rw [IntKind.wrap_u64];omega
  repeat (first|refine zQ (zA @I.eq_1 (zA @cS (zA @z4I (zA d1 cI)))) ?_|refine cP cf ?_|refine cP cs ?_|exact zT)
  refine wFs ?_
  repeat (first|refine zQ (zA @I.eq_1 (zA @cS (zA @z4I (zA d1 (zA e1 cI))))) ?_|refine cP cf ?_|refine cP cs ?_|exact zT)
def il (z:Int):Nat:=(limbs z.natAbs).length
theorem w2X {x y:Int} {m:Nat} (h1:il x≤m) (h2:il y≤m):il (x+y)≤m+1:=Nat.le_trans (z1D (show _≤x.natAbs+y.natAbs by omega)) (w0z h1 h2)
theorem w2v (x:Int):il (-x)=il x:=by unfold il;rw [Int.natAbs_neg]
theorem y39 {x y:Int} {m n:Nat} (h1:il x≤m) (h2:il y≤n):il (x*y)≤m+n:=by unfold il;rw [Int.natAbs_mul];exact z6V h1 h2
theorem w3A (x y:Int) (h1:il x≤9000) (h2:il y≤9000):z0c prog 87 [I x,I y] (I (x+y)):=by
 have:=y9M (decide (x<0)) (limbs x.natAbs) (decide (y<0)) (limbs y.natAbs) (Nat.le_trans h1 (by decide)) (Nat.le_trans h2 (by decide)) (z0f _) (z0f _)
 rwa [y6E,y6E] at this
theorem w5h (x y:Int) (h1:il x≤9000) (h2:il y≤9000):z0c prog 167 [I x,I y] (I (x*y)):=by
 have:=y0C (decide (x<0)) (limbs x.natAbs) (decide (y<0)) (limbs y.natAbs) (Nat.le_trans h1 (by decide)) (Nat.le_trans h2 (by decide)) (z0f _) (z0f _)
 rwa [y6E,y6E] at this
theorem w2T (x:Int) (h1:il x≤9000):z0c prog 256 [I x] (.int .i64 x.sign):=by
 have:=y5Z (decide (x<0)) (limbs x.natAbs) (Nat.le_trans h1 (by decide)) (z0f _)
 rwa [y6E] at this
end Go.Proofs.YtlcagndeidjobaaGreatDoor
namespace Go.Proofs.YtlcagndeidjobaaGreatDoor
open Tryz
open Go Go.Dat Go.Proofs Nat32
open Go.Lib (decDigits)
theorem x10 {m:Nat} (h:1≤m):(limbs 1).length≤m:=by rw [y8i];exact h
theorem z1m:z0c prog 166 [] (.sl 1 (us (limbs 1))):=by
 refine z0b x8M (by simp [x3V]) ?_
 unfold y3I
 refine zS (zA @y1H (zA @w34 cI)) ?_
 exact z0j (z0i (.imm rfl))
theorem x4O (n:Nat):decide (z9t n 1=0)=decide (n=1):=by
 rw [decide_eq_decide];unfold z9t;(repeat' split)<;>omega
theorem x5P (n:Nat):decide (z9t n 1=0)=decide (1=n):=by
 rw [decide_eq_decide];unfold z9t;(repeat' split)<;>omega
theorem x9R (d:List Nat) (hd:d.length≤9000) (ld:lim d):z0c prog 165 [.sl 1 (us d),.sl 1 (us (limbs 1))] (.int .i64 (z9t (vn d) 1)):=by
 have:=z6m d (limbs 1) (by omega) (x10 (by decide)) ld (z0f _)
 rwa [z0y] at this
theorem z4y (neg:Bool) (a d:List Nat) (ha:a.length≤9000) (hd:d.length≤9000) (la:lim a) (ld:lim d):z0c prog 158 [XQ neg a d] (.bool (z5p neg a d)):=by
 have c1:=z62 neg a (by omega)
 have c2:=z4C d (by omega)
 have c3:=x9R d hd ld
 have c4:=y1C a d (by omega) (by omega) la ld
 have hg:(limbs (Nat.gcd (vn a) (vn d))).length≤9000:=by
  by_cases h:vn a=0
  ·rw [h,Nat.gcd_zero_left];exact Nat.le_trans (z1s ld) hd
  ·exact Nat.le_trans (z1D (Nat.gcd_le_left _ (Nat.pos_of_ne_zero h))) (Nat.le_trans (z1s la) ha)
 have c5:=x9R (limbs (Nat.gcd (vn a) (vn d))) hg (z0f _)
 rw [z0y] at c5
 have e3:=x4O (vn d)
 have e5:=x5P (Nat.gcd (vn a) (vn d))
 refine z0b x5X (by simp [y10]) ?_
 unfold y0K z5p
 generalize y2B neg a=p1 at *
 generalize vld d=p2 at *
 generalize Nat.gcd (vn a) (vn d)=G at *
 generalize vn d=D at *
 clear hg
 have k1:decide ((a.length:Int)=0)=!decide (0<a.length):=by
  by_cases h:0<a.length
  ·rw [decide_eq_true h,zF9];rfl
  ·rw [decide_eq_false h,zT9];rfl
 have k2:decide ((d.length:Int)=0)=decide (d.length=0):=by rw [decide_eq_decide];omega
 cases p1
 ·simp only [Bool.false_and]
  repeat (first|refine zQ (zA @XQ.eq_1 (zA @X.eq_1 (zA @cS (zA @cT (zA @z09 (zA @z0a cI)))))) ?_|refine cP c1 ?_|refine cP c2 ?_|exact zT)
  refine wT ?_
  refine zS (zA @cS (zA @cT (zA @z09 cI))) ?_
  exact z0j (z0i (.imm rfl))
 ·cases p2
  ·simp only [Bool.true_and,Bool.false_and]
   repeat (first|refine zQ (zA @XQ.eq_1 (zA @X.eq_1 (zA @cS (zA @cT (zA @z09 (zA @z0a cI)))))) ?_|refine cP c1 ?_|refine cP c2 ?_|exact zT)
   refine wT ?_
   refine zS (zA @cS (zA @cT (zA @z09 cI))) ?_
   exact z0j (z0i (.imm rfl))
  ·simp only [Bool.true_and]
   by_cases h0:d.length=0
   ·rw [decide_eq_true h0] at k2 ⊢
    simp only [Bool.true_or]
    repeat (first|refine z0d ?_|refine z0g ?_|refine z0p ?_|refine z0e ?_|refine And.intro (by omega) ?_|simp (maxSteps:=1000000) (disch:=omega) only [cA,cB,cN,FnD.nb,lk,lkH,Dst.onT,Dst.onX,Dst.slot,z03,z0K,z0M,z00,z0x,z02,unE,cnt,z0l,z0w,z0m,z0o,opE,rmH,z05,z0n,Nat.reduceEqDiff,Nat.reduceLT,Nat.reduceAdd,Nat.reduceMul,Nat.reduceMod,↓reduceIte,reduceCtorEq,Nat.reduceLeDiff,XQ,X,cS,cT,z09,z0a,k2,cI]|refine cP c1 ?_|refine cP c2 ?_|exact zT)
    refine wF ?_
    repeat (first|refine z0d ?_|refine z0g ?_|refine z0p ?_|refine z0e ?_|refine And.intro (by omega) ?_|simp (maxSteps:=1000000) (disch:=omega) only [cA,cB,cN,FnD.nb,lk,lkH,Dst.onT,Dst.onX,Dst.slot,z03,z0K,z0M,z00,z0x,z02,unE,cnt,z0l,z0w,z0m,z0o,opE,rmH,z05,z0n,Nat.reduceEqDiff,Nat.reduceLT,Nat.reduceAdd,Nat.reduceMul,Nat.reduceMod,↓reduceIte,reduceCtorEq,Nat.reduceLeDiff,XQ,X,cS,cT,z09,z0a,k2,cI]|refine cP c1 ?_|refine cP c2 ?_|exact zT)
    refine wT ?_
    refine zS (zA @cS (zA @cT (zA @z09 cI))) ?_
    exact z0j (z0i (.imm rfl))
   ·rw [decide_eq_false h0] at k2 ⊢
    simp only [Bool.false_or]
    by_cases ha0:0<a.length
    ·rw [decide_eq_true ha0] at k1 ⊢
     simp only [Bool.true_and]
     by_cases hD:D=1
     ·rw [decide_eq_true hD] at e3
      rw [decide_eq_false (show ¬¬D=1 from fun h=>h hD)]
      simp only [Bool.false_and]
      repeat (first|refine z0d ?_|refine z0g ?_|refine z0p ?_|refine z0e ?_|refine And.intro (by omega) ?_|simp (maxSteps:=1000000) (disch:=omega) only [cA,cB,cN,FnD.nb,lk,lkH,Dst.onT,Dst.onX,Dst.slot,z03,z0K,z0M,z00,z0x,z02,unE,cnt,z0l,z0w,z0m,z0o,opE,rmH,z05,z0n,Nat.reduceEqDiff,Nat.reduceLT,Nat.reduceAdd,Nat.reduceMul,Nat.reduceMod,↓reduceIte,reduceCtorEq,Nat.reduceLeDiff,XQ,X,cS,cT,z09,z0a,k1,k2,e3,cI]|refine cP c1 ?_|refine cP c2 ?_|exact zT)
      refine wF ?_
      repeat (first|refine z0d ?_|refine z0g ?_|refine z0p ?_|refine z0e ?_|refine And.intro (by omega) ?_|simp (maxSteps:=1000000) (disch:=omega) only [cA,cB,cN,FnD.nb,lk,lkH,Dst.onT,Dst.onX,Dst.slot,z03,z0K,z0M,z00,z0x,z02,unE,cnt,z0l,z0w,z0m,z0o,opE,rmH,z05,z0n,Nat.reduceEqDiff,Nat.reduceLT,Nat.reduceAdd,Nat.reduceMul,Nat.reduceMod,↓reduceIte,reduceCtorEq,Nat.reduceLeDiff,XQ,X,cS,cT,z09,z0a,k1,k2,e3,cI]|refine cP c1 ?_|refine cP c2 ?_|exact zT)
      refine wF ?_
      repeat (first|refine z0d ?_|refine z0g ?_|refine z0p ?_|refine z0e ?_|refine And.intro (by omega) ?_|simp (maxSteps:=1000000) (disch:=omega) only [cA,cB,cN,FnD.nb,lk,lkH,Dst.onT,Dst.onX,Dst.slot,z03,z0K,z0M,z00,z0x,z02,unE,cnt,z0l,z0w,z0m,z0o,opE,rmH,z05,z0n,Nat.reduceEqDiff,Nat.reduceLT,Nat.reduceAdd,Nat.reduceMul,Nat.reduceMod,↓reduceIte,reduceCtorEq,Nat.reduceLeDiff,XQ,X,cS,cT,z09,z0a,k1,k2,e3,cI]|refine cP z1m ?_|refine cP c3 ?_|exact zT)
      refine wT ?_
      refine zS (zA @cS (zA @cT (zA @z09 cI))) ?_
      exact z0j (z0i (.imm rfl))
     ·rw [decide_eq_false hD] at e3
      rw [decide_eq_true hD]
      simp only [Bool.true_and]
      repeat (first|refine z0d ?_|refine z0g ?_|refine z0p ?_|refine z0e ?_|refine And.intro (by omega) ?_|simp (maxSteps:=1000000) (disch:=omega) only [cA,cB,cN,FnD.nb,lk,lkH,Dst.onT,Dst.onX,Dst.slot,z03,z0K,z0M,z00,z0x,z02,unE,cnt,z0l,z0w,z0m,z0o,opE,rmH,z05,z0n,Nat.reduceEqDiff,Nat.reduceLT,Nat.reduceAdd,Nat.reduceMul,Nat.reduceMod,↓reduceIte,reduceCtorEq,Nat.reduceLeDiff,XQ,X,cS,cT,z09,z0a,k1,k2,e3,cI]|refine cP c1 ?_|refine cP c2 ?_|exact zT)
      refine wF ?_
      repeat (first|refine z0d ?_|refine z0g ?_|refine z0p ?_|refine z0e ?_|refine And.intro (by omega) ?_|simp (maxSteps:=1000000) (disch:=omega) only [cA,cB,cN,FnD.nb,lk,lkH,Dst.onT,Dst.onX,Dst.slot,z03,z0K,z0M,z00,z0x,z02,unE,cnt,z0l,z0w,z0m,z0o,opE,rmH,z05,z0n,Nat.reduceEqDiff,Nat.reduceLT,Nat.reduceAdd,Nat.reduceMul,Nat.reduceMod,↓reduceIte,reduceCtorEq,Nat.reduceLeDiff,XQ,X,cS,cT,z09,z0a,k1,k2,e3,cI]|refine cP c1 ?_|refine cP c2 ?_|exact zT)
      refine wF ?_
      repeat (first|refine z0d ?_|refine z0g ?_|refine z0p ?_|refine z0e ?_|refine And.intro (by omega) ?_|simp (maxSteps:=1000000) (disch:=omega) only [cA,cB,cN,FnD.nb,lk,lkH,Dst.onT,Dst.onX,Dst.slot,z03,z0K,z0M,z00,z0x,z02,unE,cnt,z0l,z0w,z0m,z0o,opE,rmH,z05,z0n,Nat.reduceEqDiff,Nat.reduceLT,Nat.reduceAdd,Nat.reduceMul,Nat.reduceMod,↓reduceIte,reduceCtorEq,Nat.reduceLeDiff,XQ,X,cS,cT,z09,z0a,k1,k2,e3,cI]|refine cP z1m ?_|refine cP c3 ?_|exact zT)
      refine wFs ?_
      repeat (first|refine z0d ?_|refine z0g ?_|refine z0p ?_|refine z0e ?_|refine And.intro (by omega) ?_|simp (maxSteps:=1000000) (disch:=omega) only [cA,cB,cN,FnD.nb,lk,lkH,Dst.onT,Dst.onX,Dst.slot,z03,z0K,z0M,z00,z0x,z02,unE,cnt,z0l,z0w,z0m,z0o,opE,rmH,z05,z0n,Nat.reduceEqDiff,Nat.reduceLT,Nat.reduceAdd,Nat.reduceMul,Nat.reduceMod,↓reduceIte,reduceCtorEq,Nat.reduceLeDiff,XQ,X,cS,cT,z09,z0a,k1,k2,e3,e5,cI]|refine cP c4 ?_|refine cP z1m ?_|refine cP c5 ?_|exact zT)
    ·rw [decide_eq_false ha0] at k1 ⊢
     simp only [Bool.false_and]
     repeat (first|refine z0d ?_|refine z0g ?_|refine z0p ?_|refine z0e ?_|refine And.intro (by omega) ?_|simp (maxSteps:=1000000) (disch:=omega) only [cA,cB,cN,FnD.nb,lk,lkH,Dst.onT,Dst.onX,Dst.slot,z03,z0K,z0M,z00,z0x,z02,unE,cnt,z0l,z0w,z0m,z0o,opE,rmH,z05,z0n,Nat.reduceEqDiff,Nat.reduceLT,Nat.reduceAdd,Nat.reduceMul,Nat.reduceMod,↓reduceIte,reduceCtorEq,Nat.reduceLeDiff,XQ,X,cS,cT,z09,z0a,k1,k2,e3,cI]|refine cP c1 ?_|refine cP c2 ?_|exact zT)
     refine wF ?_
     repeat (first|refine z0d ?_|refine z0g ?_|refine z0p ?_|refine z0e ?_|refine And.intro (by omega) ?_|simp (maxSteps:=1000000) (disch:=omega) only [cA,cB,cN,FnD.nb,lk,lkH,Dst.onT,Dst.onX,Dst.slot,z03,z0K,z0M,z00,z0x,z02,unE,cnt,z0l,z0w,z0m,z0o,opE,rmH,z05,z0n,Nat.reduceEqDiff,Nat.reduceLT,Nat.reduceAdd,Nat.reduceMul,Nat.reduceMod,↓reduceIte,reduceCtorEq,Nat.reduceLeDiff,XQ,X,cS,cT,z09,z0a,k1,k2,e3,cI]|refine cP c1 ?_|refine cP c2 ?_|exact zT)
     refine wF ?_
     repeat (first|refine z0d ?_|refine z0g ?_|refine z0p ?_|refine z0e ?_|refine And.intro (by omega) ?_|simp (maxSteps:=1000000) (disch:=omega) only [cA,cB,cN,FnD.nb,lk,lkH,Dst.onT,Dst.onX,Dst.slot,z03,z0K,z0M,z00,z0x,z02,unE,cnt,z0l,z0w,z0m,z0o,opE,rmH,z05,z0n,Nat.reduceEqDiff,Nat.reduceLT,Nat.reduceAdd,Nat.reduceMul,Nat.reduceMod,↓reduceIte,reduceCtorEq,Nat.reduceLeDiff,XQ,X,cS,cT,z09,z0a,k1,k2,e3,cI]|refine cP z1m ?_|refine cP c3 ?_|exact zT)
     refine wT ?_
     refine zS (zA @cS (zA @cT (zA @z09 cI))) ?_
     exact z0j (z0i (.imm rfl))
theorem z17 (neg:Bool) (a d:List Nat) (ha:a.length≤9000) (hd:d.length≤9000) (la:lim a) (ld:lim d):z0c prog 86 [XQ neg a d] (Q (rv neg a d)):=by
 have cv:=z4y neg a d ha hd la ld
 refine z0b x4m (by simp [z8Y]) ?_
 unfold z81
 by_cases hv:z5p neg a d=true
 ·rw [hv] at cv
  rw [←w5n la ld hv]
  repeat (first|refine zQ (zA @XQ.eq_1 (zA @cS (zA @cT (zA @z5P cI)))) ?_|refine cP cv ?_|exact zT)
  refine wT ?_
  repeat (first|refine zQ (zA @XQ.eq_1 (zA @cS (zA @cT (zA @z5P cI)))) ?_|refine cP cv ?_|exact zT)
 ·have hv:z5p neg a d=false:=by simpa using hv
  rw [hv] at cv
  rw [y9C hv,Q0]
  repeat (first|refine zQ (zA @XQ.eq_1 (zA @cS (zA @cT (zA @z5P cI)))) ?_|refine cP cv ?_|exact zT)
  refine wFs ?_
  refine zS (zA @cS (zA @cT (zA @z5P cI))) ?_
  exact z0j (z0Z rfl rfl rfl (x4y _ _ _))
theorem z3K (r:Rat):z0c prog 90 [Q r] (.sl 1 (us (limbs r.den))):=by
 refine z0b w0L (by simp [y6C]) ?_
 unfold y3N
 by_cases h:r.den=1
 ·have k:decide (((dn r.den).length:Int)=0)=true:=decide_eq_true (by have:=(z6L r.den_nz).2 h;omega)
  rw [h]
  rw [h] at k
  repeat (first|refine zQ (zA @Q.eq_1 (zA h (zA @cS (zA @cT (zA @y2i (zA @z0a (zA @k cI))))))) ?_|refine cP z1m ?_|exact zT)
  refine wT ?_
  repeat (first|refine zQ (zA @cS (zA @cT (zA @y2i cI))) ?_|refine cP z1m ?_|exact zT)
 ·have k:decide (((dn r.den).length:Int)=0)=false:=decide_eq_false (fun e=>h ((z6L r.den_nz).1 (by omega)))
  have e:limbs r.den=dn r.den:=by unfold dn;rw [if_neg h]
  rw [e]
  repeat (first|refine zQ (zA @Q.eq_1 (zA @cS (zA @cT (zA @y2i (zA @z0a (zA @k cI)))))) ?_|refine cP z1m ?_|exact zT)
  refine wFs ?_
  repeat (first|refine zQ (zA @cS (zA @cT (zA @y2i cI))) ?_|refine cP z1m ?_|exact zT)
theorem z5a (z:Int) (d:Nat) (h:d≠0) (h1:il z≤9000) (h2:(limbs d).length≤9000):z0c prog 88 [I z,.sl 1 (us (limbs d))] (Q (mkRat z d)):=by
 have hg:0<Nat.gcd z.natAbs d:=Nat.gcd_pos_of_pos_right _ (Nat.pos_of_ne_zero h)
 have hgl:(limbs (Nat.gcd z.natAbs d)).length≤9000:=Nat.le_trans (z1D (Nat.gcd_le_right _ (Nat.pos_of_ne_zero h))) h2
 rw [w4H z d h]
 unfold il at h1
 have c1:=y1C (limbs z.natAbs) (limbs d) (by omega) (by omega) (z0f _) (z0f _)
 rw [z0y,z0y] at c1
 have c2:=w3P z.natAbs (Nat.gcd z.natAbs d) (by omega) (by omega)
 have c3:=w3P d (Nat.gcd z.natAbs d) (by omega) (by omega)
 have c4:=x9R (limbs (d / Nat.gcd z.natAbs d)) (Nat.le_trans (z1D (Nat.div_le_self _ _)) h2) (z0f _)
 rw [z0y] at c4
 have e4:=x4O (d / Nat.gcd z.natAbs d)
 have hne:d / Nat.gcd z.natAbs d≠0:=fun e=>by
  have:=Nat.div_pos (Nat.gcd_le_right z.natAbs (Nat.pos_of_ne_zero h)) hg
  omega
 generalize Nat.gcd z.natAbs d=G at *
 generalize d / G=E at *
 generalize z.natAbs / G=Z at *
 refine z0b y9Q (by simp [z6J]) ?_
 unfold z7G
 by_cases hE:E=1
 ·rw [decide_eq_true hE] at e4
  rw [hE,y1h]
  repeat (first|refine zQ (zA @I.eq_1 (zA @cS (zA @cT (zA @z4L (zA e4 cI))))) ?_|refine cP c1 ?_|refine cP c2 ?_|refine cP c3 ?_|refine cP z1m ?_|refine cP c4 ?_|exact zT)
  refine wT ?_
  refine zS (zA @cS (zA @cT (zA @z4L cI))) ?_
  exact z0j (z0Z rfl rfl rfl (z5o _ _ _ _ rfl))
 ·rw [decide_eq_false hE] at e4
  have e:dn E=limbs E:=by unfold dn;rw [if_neg hE]
  rw [e]
  repeat (first|refine zQ (zA @I.eq_1 (zA @cS (zA @cT (zA @z4L (zA e4 cI))))) ?_|refine cP c1 ?_|refine cP c2 ?_|refine cP c3 ?_|refine cP z1m ?_|refine cP c4 ?_|exact zT)
  refine wFs ?_
  refine zS (zA @cS (zA @cT (zA @z4L cI))) ?_
  exact z0j (z0Z rfl rfl rfl (.imm rfl))
theorem y30 {r:Rat} {m:Nat} (h:RB r m):(dn r.den).length≤m:=Nat.le_trans (x1C _) h.2
theorem w1S (n:Nat):iv false (limbs n)=(n:Int):=by unfold iv;simp [z0y]
theorem z6c (z:Int) (n:Nat) (h1:il z≤9000) (h2:(limbs n).length≤9000):z0c prog 89 [I z,.sl 1 (us (limbs n))] (I (z*n)):=by
 have cm:=y0C (decide (z<0)) (limbs z.natAbs) false (limbs n) (Nat.le_trans h1 (by decide)) (by omega) (z0f _) (z0f _)
 rw [y6E,w1S] at cm
 refine z0b x3I (by simp [z84]) ?_
 unfold z9c
 repeat (first|refine zQ (zA @I.eq_1 (zA @X.eq_1 (zA @cS (zA @cT (zA @x16 cI))))) ?_|refine cP cm ?_|exact zT)
theorem dk1 (r:Rat):decide (((dn r.den).length:Int)=0)=decide (r.den=1):=by
 rw [decide_eq_decide,←z6L r.den_nz];omega
theorem z42 {n m:Nat} (h:(limbs n).length≤m):il (n:Int)≤m:=by unfold il;rw [Int.natAbs_natCast];exact h
theorem y1M (n1:Bool) (a d:List Nat) (n2:Bool) (b e:List Nat) (ha:a.length≤4400) (hd:d.length≤4400) (hb:b.length≤4400) (he:e.length≤4400) (la:lim a) (ld:lim d) (lb:lim b) (le:lim e) :
  z0c prog 38 [XQ n1 a d,XQ n2 b e] (Q (rv n1 a d+rv n2 b e)):=by
 have v1:=z17 n1 a d (by omega) (by omega) la ld
 have v2:=z17 n2 b e (by omega) (by omega) lb le
 have k1:RB (rv n1 a d) 4400:=y2p la ld ha hd (by decide)
 have k2:RB (rv n2 b e) 4400:=y2p lb le hb he (by decide)
 generalize rv n1 a d=x at *
 generalize rv n2 b e=y at *
 have kx:=dk1 x
 have ky:=dk1 y
 refine z0b w30 (by simp [x3G]) ?_
 unfold y7F
 by_cases hx:x.den=1∧y.den=1
 ·rw [x6I hx.1 hx.2,x1W]
  rw [decide_eq_true hx.1] at kx
  rw [decide_eq_true hx.2] at ky
  have ca:=w3A x.num y.num (Nat.le_trans k1.1 (by decide)) (Nat.le_trans k2.1 (by decide))
  clear k1 k2
  repeat (first|refine zQ (zA @XQ.eq_1 (zA @Q.eq_1 (zA @cS (zA @cT (zA @y0G (zA @z0a (zA kx (zA ky cI)))))))) ?_|refine cP v1 ?_|refine cP v2 ?_|exact zT)
  refine wT ?_
  repeat (first|refine zQ (zA @I.eq_1 (zA @cS (zA @cT (zA @y0G cI)))) ?_|refine cP ca ?_|exact zT)
  exact z0j (z0Z rfl rfl rfl (z5o _ _ _ _ rfl))
 ·rw [Rat.add_def']
  have t1:=z6c x.num y.den (Nat.le_trans k1.1 (by decide)) (Nat.le_trans k2.2 (by decide))
  have t2:=z6c y.num x.den (Nat.le_trans k2.1 (by decide)) (Nat.le_trans k1.2 (by decide))
  have b1:=y39 k1.1 (z42 k2.2)
  have b2:=y39 k2.1 (z42 k1.2)
  have b3:=w2X b1 b2
  have ca:=w3A (x.num*y.den) (y.num*x.den) (Nat.le_trans b1 (by decide)) (Nat.le_trans b2 (by decide))
  have cm:=w0c x.den y.den (Nat.le_trans k1.2 (by decide)) (Nat.le_trans k2.2 (by decide))
  have cl:=z5a (x.num*y.den+y.num*x.den) (x.den*y.den) (Nat.mul_ne_zero x.den_nz y.den_nz) (Nat.le_trans b3 (by decide)) (Nat.le_trans (z6V k1.2 k2.2) (by decide))
  have c1:=z3K x
  have c2:=z3K y
  clear k1 k2 b1 b2 b3
  by_cases h1:x.den=1
  ·rw [decide_eq_true h1] at kx
   rw [decide_eq_false (fun h2=>hx ⟨h1,h2⟩)] at ky
   clear hx h1
   repeat (first|refine zQ (zA @XQ.eq_1 (zA @Q.eq_1 (zA @cS (zA @cT (zA @y0G (zA @z0a (zA kx (zA ky cI)))))))) ?_|refine cP v1 ?_|refine cP v2 ?_|exact zT)
   refine wFs ?_
   repeat (first|refine zQ (zA @I.eq_1 (zA @Q.eq_1 (zA @cS (zA @cT (zA @y0G cI))))) ?_|refine cP c1 ?_|refine cP c2 ?_|refine cP t1 ?_|refine cP t2 ?_|refine cP ca ?_|refine cP cm ?_|refine cP cl ?_|exact zT)
  ·rw [decide_eq_false h1] at kx
   clear hx h1
   repeat (first|refine zQ (zA @XQ.eq_1 (zA @Q.eq_1 (zA @cS (zA @cT (zA @y0G (zA @z0a (zA kx (zA ky cI)))))))) ?_|refine cP v1 ?_|refine cP v2 ?_|exact zT)
   refine wFs ?_
   repeat (first|refine zQ (zA @I.eq_1 (zA @Q.eq_1 (zA @cS (zA @cT (zA @y0G cI))))) ?_|refine cP c1 ?_|refine cP c2 ?_|refine cP t1 ?_|refine cP t2 ?_|refine cP ca ?_|refine cP cm ?_|refine cP cl ?_|exact zT)
theorem y1J (n1:Bool) (a d:List Nat) (n2:Bool) (b e:List Nat) (ha:a.length≤4400) (hd:d.length≤4400) (hb:b.length≤4400) (he:e.length≤4400) (la:lim a) (ld:lim d) (lb:lim b) (le:lim e) :
  z0c prog 157 [XQ n1 a d,XQ n2 b e] (Q (rv n1 a d*rv n2 b e)):=by
 have v1:=z17 n1 a d (by omega) (by omega) la ld
 have v2:=z17 n2 b e (by omega) (by omega) lb le
 have k1:RB (rv n1 a d) 4400:=y2p la ld ha hd (by decide)
 have k2:RB (rv n2 b e) 4400:=y2p lb le hb he (by decide)
 generalize rv n1 a d=x at *
 generalize rv n2 b e=y at *
 have kx:=dk1 x
 have ky:=dk1 y
 have ca:=w5h x.num y.num (Nat.le_trans k1.1 (by decide)) (Nat.le_trans k2.1 (by decide))
 refine z0b w3n (by simp [x1E]) ?_
 unfold y7Z
 by_cases hx:x.den=1∧y.den=1
 ·rw [x6Y hx.1 hx.2,x1W]
  rw [decide_eq_true hx.1] at kx
  rw [decide_eq_true hx.2] at ky
  clear k1 k2
  repeat (first|refine zQ (zA @XQ.eq_1 (zA @Q.eq_1 (zA @cS (zA @cT (zA @y1i (zA @z0a (zA kx (zA ky cI)))))))) ?_|refine cP v1 ?_|refine cP v2 ?_|exact zT)
  refine wT ?_
  repeat (first|refine zQ (zA @I.eq_1 (zA @cS (zA @cT (zA @y1i cI)))) ?_|refine cP ca ?_|exact zT)
  exact z0j (z0Z rfl rfl rfl (z5o _ _ _ _ rfl))
 ·rw [Rat.mul_def']
  have b1:=y39 k1.1 k2.1
  have cm:=w0c x.den y.den (Nat.le_trans k1.2 (by decide)) (Nat.le_trans k2.2 (by decide))
  have cl:=z5a (x.num*y.num) (x.den*y.den) (Nat.mul_ne_zero x.den_nz y.den_nz) (Nat.le_trans b1 (by decide)) (Nat.le_trans (z6V k1.2 k2.2) (by decide))
  have c1:=z3K x
  have c2:=z3K y
  clear k1 k2 b1
  by_cases h1:x.den=1
  ·rw [decide_eq_true h1] at kx
   rw [decide_eq_false (fun h2=>hx ⟨h1,h2⟩)] at ky
   clear hx h1
   repeat (first|refine zQ (zA @XQ.eq_1 (zA @Q.eq_1 (zA @cS (zA @cT (zA @y1i (zA @z0a (zA kx (zA ky cI)))))))) ?_|refine cP v1 ?_|refine cP v2 ?_|exact zT)
   refine wFs ?_
   repeat (first|refine zQ (zA @I.eq_1 (zA @Q.eq_1 (zA @cS (zA @cT (zA @y1i cI))))) ?_|refine cP c1 ?_|refine cP c2 ?_|refine cP ca ?_|refine cP cm ?_|refine cP cl ?_|exact zT)
  ·rw [decide_eq_false h1] at kx
   clear hx h1
   repeat (first|refine zQ (zA @XQ.eq_1 (zA @Q.eq_1 (zA @cS (zA @cT (zA @y1i (zA @z0a (zA kx (zA ky cI)))))))) ?_|refine cP v1 ?_|refine cP v2 ?_|exact zT)
   refine wFs ?_
   repeat (first|refine zQ (zA @I.eq_1 (zA @Q.eq_1 (zA @cS (zA @cT (zA @y1i cI))))) ?_|refine cP c1 ?_|refine cP c2 ?_|refine cP ca ?_|refine cP cm ?_|refine cP cl ?_|exact zT)
theorem w5f (x y:Rat) (h1:RB x 4400) (h2:RB y 4400):z0c prog 157 [Q x,Q y] (Q (x*y)):=by
 have:=y1J (decide (x.num<0)) (limbs x.num.natAbs) (dn x.den) (decide (y.num<0)) (limbs y.num.natAbs) (dn y.den) h1.1 (y30 h1) h2.1 (y30 h2) (z0f _) (z5V _) (z0f _) (z5V _)
 rwa [w1p,w1p] at this
theorem z9j (neg:Bool) (a d:List Nat) (ha:a.length≤9000) (hd:d.length≤9000) (la:lim a) (ld:lim d):z0c prog 234 [XQ neg a d] (.int .i64 (rv neg a d).num.sign):=by
 have v1:=z17 neg a d ha hd la ld
 have k1:RB (rv neg a d) 9000:=y2p la ld ha hd (by decide)
 generalize rv neg a d=x at *
 have cs:=w2T x.num (Nat.le_trans k1.1 (by decide))
 refine z0b w1l (by simp [y6X]) ?_
 unfold y3D
 repeat (first|refine zQ (zA @XQ.eq_1 (zA @Q.eq_1 (zA @cS (zA @cT (zA @w1e cI))))) ?_|refine cP v1 ?_|refine cP cs ?_|exact zT)
theorem w4o (d:Nat):limbs (vn (dn d))=dn d:=z1J (z5V d) (x8F d)
theorem x7s (z:Int):decide (z.sign<0)=decide (z<0):=by rw [decide_eq_decide];exact ⟨fun h=>Int.sign_neg_iff.1 h,fun h=>Int.sign_neg_iff.2 h⟩
theorem z3p (v:Int) (h1 : -9223372036854775808≤v) (h2:v≤9223372036854775807):z0c prog 80 [.int .i64 v] (Q (v:Rat)):=by
 have ci:=y0y v h1 h2
 rw [x1W]
 refine z0b x0L (by simp [z6v]) ?_
 unfold z7z
 repeat (first|refine zQ (zA @I.eq_1 (zA @cS (zA @cT (zA @y92 cI)))) ?_|refine cP ci ?_|exact zT)
 exact z0j (z0Z rfl rfl rfl (z5o _ _ _ _ rfl))
theorem w2D (x:Int) (h1:il x≤9000):z0c prog 59 [I x] (.int .i64 x.sign):=by
 have:=y6J (decide (x<0)) (limbs x.natAbs) (Nat.le_trans h1 (by decide)) (z0f _)
 rwa [y6E] at this
theorem w2K (x:Int) (h1:il x≤9000):z0c prog 112 [I x] (I (-x)):=by
 have:=y9R (decide (x<0)) (limbs x.natAbs) h1 (z0f _)
 rwa [y6E] at this
theorem w2A (x y:Int) (h1:il x≤9000) (h2:il y≤9000):z0c prog 57 [I x,I y] (I (x*y)):=by
 have:=y9P (decide (x<0)) (limbs x.natAbs) (decide (y<0)) (limbs y.natAbs) h1 h2 (z0f _) (z0f _)
 rwa [y6E,y6E] at this
theorem w3G (x y:Int) (h1:il x≤9000) (h2:il y≤9000):z0c prog 114 [I x,I y] (.tup [I (x / y),I (w4i x y),.bool (decide (¬y=0))]):=by
 have:=x0d (decide (x<0)) (limbs x.natAbs) (decide (y<0)) (limbs y.natAbs) h1 h2 (z0f _) (z0f _)
 rwa [y6E,y6E] at this
theorem w4D (x y:Int) (h1:il x≤9000) (h2:il y≤9000):z0c prog 113 [I x,I y] (.sl 1 (us (limbs (Nat.gcd x.natAbs y.natAbs)))):=by
 have:=x0D (decide (x<0)) (limbs x.natAbs) (decide (y<0)) (limbs y.natAbs) h1 h2 (z0f _) (z0f _)
 rwa [y6E,y6E] at this
theorem y5D (n:Nat):I (n:Int)=.agg [.bool false,.sl 1 (us (limbs n))]:=by
 unfold I;rw [zF9,Int.natAbs_natCast]
theorem z5h (n:Nat):z0c prog 115 [.sl 1 (us (limbs n))] (.bool (decide (n=1))):=by
 refine z0b w0y (by simp [x2Q]) ?_
 unfold y5g
 have e0:(Int.toNat 0)=0:=rfl
 by_cases h0:n=0
 ·subst h0
  have k:decide (((limbs 0).length:Int)=1)=false:=by rw [z0t];rfl
  rw [decide_eq_false (show ¬(0:Nat)=1 by decide)]
  refine zS (zA @z0a (zA @k cI)) ?_
  exact z0j (z0i (.imm rfl))
 ·by_cases h1:n<4294967296
  ·have e:us (limbs n)=[.int .u32 (n:Int)]:=by rw [z22 h0 h1];rfl
   have k:decide (((n:Nat):Int)=1)=decide (n=1):=by rw [decide_eq_decide];omega
   have k1:decide (((1:Nat):Int)=1)=true:=rfl
   rw [e]
   repeat (first|refine z0d ?_|refine z0g ?_|refine z0p ?_|refine z0e ?_|refine And.intro (by omega) ?_|simp (maxSteps:=1000000) (disch:=omega) only [cA,cB,cN,FnD.nb,lk,lkH,Dst.onT,Dst.onX,Dst.slot,z03,z0K,z0M,z00,z0x,z02,unE,cnt,z0l,z0w,z0m,z0o,opE,rmH,z05,z0n,Nat.reduceEqDiff,Nat.reduceLT,Nat.reduceAdd,Nat.reduceMul,Nat.reduceMod,↓reduceIte,reduceCtorEq,Nat.reduceLeDiff,e0,k,k1,List.length_singleton,cI])
   exact z0j (z0i (.imm rfl))
  ·have hl:1<(limbs n).length:=by
    rcases Nat.lt_or_ge 1 (limbs n).length with h|h
    ·exact h
    ·have:=z0A.1 h
     rw [Nat.pow_one] at this
     omega
   have k:decide (((limbs n).length:Int)=1)=false:=zF9
   rw [decide_eq_false (show ¬n=1 by omega)]
   refine zS (zA @z0a (zA @k cI)) ?_
   exact z0j (z0i (.imm rfl))
theorem z7x (neg:Bool) (a d:List Nat) (ha:a.length≤9000) (hd:d.length≤9000) (la:lim a) (ld:lim d):z0c prog 94 [XQ neg a d] (.bool (z5p neg a d)):=by
 have c1:=z7M neg a (by omega)
 have c2:=z4E d (by omega)
 have c4:=y1A a d (by omega) (by omega) la ld
 have c5:=z5h (Nat.gcd (vn a) (vn d))
 have e5:∀n:Nat,decide (n=1)=decide (1=n):=fun n=>by rw [decide_eq_decide];exact eq_comm
 rw [e5] at c5
 have c3:=z5h (vn d)
 have ed:=z1J ld
 refine z0b x7l (by simp [y3a]) ?_
 unfold y0P z5p
 generalize hV:y2B neg a=p1 at *
 generalize vld d=p2 at *
 generalize Nat.gcd (vn a) (vn d)=G at *
 clear e5
 have k1:decide ((0:Int)<a.length)=decide (0<a.length):=by rw [decide_eq_decide];omega
 have k2:decide ((d.length:Int)=0)=decide (d.length=0):=by rw [decide_eq_decide];omega
 cases p1
 ·simp only [Bool.false_and]
  repeat (first|refine zQ (zA @XQ.eq_1 (zA @X.eq_1 (zA @cS (zA @cT (zA @z1R (zA @z0a cI)))))) ?_|refine cP c1 ?_|refine cP c2 ?_|exact zT)
  refine wT ?_
  refine zS (zA @cS (zA @z1R cI)) ?_
  exact z0j (z0i (.imm rfl))
 ·cases p2
  ·simp only [Bool.true_and,Bool.false_and]
   repeat (first|refine zQ (zA @XQ.eq_1 (zA @X.eq_1 (zA @cS (zA @cT (zA @z1R (zA @z0a cI)))))) ?_|refine cP c1 ?_|refine cP c2 ?_|exact zT)
   refine wT ?_
   refine zS (zA @cS (zA @z1R cI)) ?_
   exact z0j (z0i (.imm rfl))
  ·simp only [Bool.true_and]
   rw [ed rfl] at c3
   by_cases h0:d.length=0
   ·have hD:¬vn d=1:=by rw [List.eq_nil_of_length_eq_zero h0];decide
    rw [decide_eq_false hD] at c3
    rw [decide_eq_true h0] at k2 ⊢
    simp only [Bool.true_or]
    repeat (first|refine z0d ?_|refine z0g ?_|refine z0p ?_|refine z0e ?_|refine And.intro (by omega) ?_|simp (maxSteps:=1000000) (disch:=omega) only [cA,cB,cN,FnD.nb,lk,lkH,Dst.onT,Dst.onX,Dst.slot,z03,z0K,z0M,z00,z0x,z02,unE,cnt,z0l,z0w,z0m,z0o,opE,rmH,z05,z0n,Nat.reduceEqDiff,Nat.reduceLT,Nat.reduceAdd,Nat.reduceMul,Nat.reduceMod,↓reduceIte,reduceCtorEq,Nat.reduceLeDiff,XQ,X,cS,cT,z1R,z0a,k2,cI]|refine cP c1 ?_|refine cP c2 ?_|refine cP c3 ?_|exact zT)
    refine wFs ?_
    repeat (first|refine z0d ?_|refine z0g ?_|refine z0p ?_|refine z0e ?_|refine And.intro (by omega) ?_|simp (maxSteps:=1000000) (disch:=omega) only [cA,cB,cN,FnD.nb,lk,lkH,Dst.onT,Dst.onX,Dst.slot,z03,z0K,z0M,z00,z0x,z02,unE,cnt,z0l,z0w,z0m,z0o,opE,rmH,z05,z0n,Nat.reduceEqDiff,Nat.reduceLT,Nat.reduceAdd,Nat.reduceMul,Nat.reduceMod,↓reduceIte,reduceCtorEq,Nat.reduceLeDiff,XQ,X,cS,cT,z1R,z0a,k2,cI]|refine cP c1 ?_|refine cP c2 ?_|exact zT)
   ·rw [decide_eq_false h0] at k2 ⊢
    simp only [Bool.false_or]
    by_cases hD:vn d=1
    ·rw [decide_eq_true hD] at c3
     rw [decide_eq_false (show ¬¬vn d=1 from fun h=>h hD)]
     simp only [Bool.false_and,Bool.and_false]
     repeat (first|refine z0d ?_|refine z0g ?_|refine z0p ?_|refine z0e ?_|refine And.intro (by omega) ?_|simp (maxSteps:=1000000) (disch:=omega) only [cA,cB,cN,FnD.nb,lk,lkH,Dst.onT,Dst.onX,Dst.slot,z03,z0K,z0M,z00,z0x,z02,unE,cnt,z0l,z0w,z0m,z0o,opE,rmH,z05,z0n,Nat.reduceEqDiff,Nat.reduceLT,Nat.reduceAdd,Nat.reduceMul,Nat.reduceMod,↓reduceIte,reduceCtorEq,Nat.reduceLeDiff,XQ,X,cS,cT,z1R,z0a,k2,cI]|refine cP c1 ?_|refine cP c2 ?_|refine cP c3 ?_|exact zT)
     refine wT ?_
     refine zS (zA @cS (zA @z1R cI)) ?_
     exact z0j (z0i (.imm rfl))
    ·rw [decide_eq_false hD] at c3
     rw [decide_eq_true (show ¬vn d=1 from hD)]
     simp only [Bool.and_true]
     by_cases ha0:0<a.length
     ·rw [decide_eq_true ha0] at k1 ⊢
      simp only [Bool.true_and]
      repeat (first|refine z0d ?_|refine z0g ?_|refine z0p ?_|refine z0e ?_|refine And.intro (by omega) ?_|simp (maxSteps:=1000000) (disch:=omega) only [cA,cB,cN,FnD.nb,lk,lkH,Dst.onT,Dst.onX,Dst.slot,z03,z0K,z0M,z00,z0x,z02,unE,cnt,z0l,z0w,z0m,z0o,opE,rmH,z05,z0n,Nat.reduceEqDiff,Nat.reduceLT,Nat.reduceAdd,Nat.reduceMul,Nat.reduceMod,↓reduceIte,reduceCtorEq,Nat.reduceLeDiff,XQ,X,cS,cT,z1R,z0a,k1,k2,cI]|refine cP c1 ?_|refine cP c2 ?_|refine cP c3 ?_|exact zT)
      refine wFs ?_
      repeat (first|refine z0d ?_|refine z0g ?_|refine z0p ?_|refine z0e ?_|refine And.intro (by omega) ?_|simp (maxSteps:=1000000) (disch:=omega) only [cA,cB,cN,FnD.nb,lk,lkH,Dst.onT,Dst.onX,Dst.slot,z03,z0K,z0M,z00,z0x,z02,unE,cnt,z0l,z0w,z0m,z0o,opE,rmH,z05,z0n,Nat.reduceEqDiff,Nat.reduceLT,Nat.reduceAdd,Nat.reduceMul,Nat.reduceMod,↓reduceIte,reduceCtorEq,Nat.reduceLeDiff,XQ,X,cS,cT,z1R,z0a,k1,k2,cI]|refine cP c4 ?_|refine cP c5 ?_|exact zT)
     ·rw [decide_eq_false ha0] at k1 ⊢
      simp only [Bool.false_and]
      repeat (first|refine z0d ?_|refine z0g ?_|refine z0p ?_|refine z0e ?_|refine And.intro (by omega) ?_|simp (maxSteps:=1000000) (disch:=omega) only [cA,cB,cN,FnD.nb,lk,lkH,Dst.onT,Dst.onX,Dst.slot,z03,z0K,z0M,z00,z0x,z02,unE,cnt,z0l,z0w,z0m,z0o,opE,rmH,z05,z0n,Nat.reduceEqDiff,Nat.reduceLT,Nat.reduceAdd,Nat.reduceMul,Nat.reduceMod,↓reduceIte,reduceCtorEq,Nat.reduceLeDiff,XQ,X,cS,cT,z1R,z0a,k1,k2,cI]|refine cP c1 ?_|refine cP c2 ?_|refine cP c3 ?_|exact zT)
      refine wFs ?_
      repeat (first|refine z0d ?_|refine z0g ?_|refine z0p ?_|refine z0e ?_|refine And.intro (by omega) ?_|simp (maxSteps:=1000000) (disch:=omega) only [cA,cB,cN,FnD.nb,lk,lkH,Dst.onT,Dst.onX,Dst.slot,z03,z0K,z0M,z00,z0x,z02,unE,cnt,z0l,z0w,z0m,z0o,opE,rmH,z05,z0n,Nat.reduceEqDiff,Nat.reduceLT,Nat.reduceAdd,Nat.reduceMul,Nat.reduceMod,↓reduceIte,reduceCtorEq,Nat.reduceLeDiff,XQ,X,cS,cT,z1R,z0a,k1,k2,cI]|refine cP c4 ?_|refine cP c5 ?_|exact zT)
theorem x03 {neg:Bool} {a d:List Nat} (h:z5p neg a d=true):y2B neg a=true∧vld d=true:=by
 unfold z5p at h
 simp only [Bool.and_eq_true] at h
 exact h.1
theorem z5e (neg:Bool) (a d:List Nat) (ha:a.length≤9000) (hd:d.length≤9000) (la:lim a) (ld:lim d):z0c prog 43 [XQ neg a d] (Q (rv neg a d)):=by
 have cv:=z7x neg a d ha hd la ld
 have c1:=z1u neg a (by omega) la
 have c2:=z0W d (by omega) ld
 refine z0b x8J (by simp [y6D]) ?_
 unfold y3u
 by_cases hv:z5p neg a d=true
 ·rw [hv] at cv
  obtain ⟨v1,v2⟩:=x03 hv
  rw [←X_I la v1] at c1
  rw [z1J ld v2] at c2
  rw [←w5n la ld hv]
  repeat (first|refine zQ (zA @XQ.eq_1 (zA @X.eq_1 (zA @cS (zA @cT (zA @y2V cI))))) ?_|refine cP cv ?_|exact zT)
  refine wFs ?_
  repeat (first|refine zQ (zA @XQ.eq_1 (zA @X.eq_1 (zA @cS (zA @cT (zA @y2V cI))))) ?_|refine cP c1 ?_|refine cP c2 ?_|exact zT)
 ·have hv:z5p neg a d=false:=by simpa using hv
  rw [hv] at cv
  rw [y9C hv,Q0]
  repeat (first|refine zQ (zA @XQ.eq_1 (zA @cS (zA @y2V cI))) ?_|refine cP cv ?_|exact zT)
  refine wT ?_
  refine zS (zA @cS (zA @y2V cI)) ?_
  exact z0j (z0Z rfl rfl rfl (x4y _ _ _))
theorem w2Z (r:Rat) (h:RB r 9000):z0c prog 43 [Q r] (Q r):=by
 have:=z5e (decide (r.num<0)) (limbs r.num.natAbs) (dn r.den) h.1 (y30 h) (z0f _) (z5V _)
 rwa [w1p] at this
theorem y1n (r:Rat) (h:RB r 10000):z0c prog 58 [Q r] (I (r.den:Int)):=by
 have c2:=z0W (dn r.den) (Nat.le_trans (y30 h) (by decide)) (z5V _)
 rw [w4o] at c2
 refine z0b w3Q (by simp [x1k]) ?_
 unfold y8A
 rw [y5D]
 have k:=dk1 r
 by_cases h:r.den=1
 ·rw [decide_eq_true h] at k
  have e:limbs r.den=limbs 1:=by rw [h]
  rw [e]
  repeat (first|refine zQ (zA @Q.eq_1 (zA @cS (zA @cT (zA @y8Q (zA @z0a (zA @k cI)))))) ?_|refine cP c2 ?_|exact zT)
  refine wT ?_
  refine zS (zA @cS (zA @cT (zA @y8Q (zA @w34 (zA @y1H cI))))) ?_
  exact z0j (z0Z rfl rfl rfl (.imm rfl))
 ·rw [decide_eq_false h] at k
  have e:limbs r.den=dn r.den:=by unfold dn;rw [if_neg h]
  rw [e]
  repeat (first|refine zQ (zA @Q.eq_1 (zA @cS (zA @cT (zA @y8Q (zA @z0a (zA @k cI)))))) ?_|refine cP c2 ?_|exact zT)
  refine wFs ?_
  repeat (first|refine zQ (zA @cS (zA @cT (zA @y8Q cI))) ?_|refine cP c2 ?_|exact zT)
theorem w5B (z:Int) (d:Nat) (h:d≠0):Q (mkRat z d)=.agg [.bool (decide (z / ((Nat.gcd z.natAbs d:Nat):Int)<0)),.sl 1 (us (limbs (z / ((Nat.gcd z.natAbs d:Nat):Int)).natAbs)),.sl 1 (us (dn (d / Nat.gcd z.natAbs d)))]:=by
 unfold Q
 rw [Rat.num_mkRat,Rat.den_mkRat,if_neg h,if_neg h,Nat.gcd_comm d]
theorem z7v (x y:Int) (hy:y≠0) (h1:il x≤9000) (h2:il y≤9000):z0c prog 55 [I x,I y] (Q (Rat.divInt x y)):=by
 have cs:=w2D y h2
 have e1:=x7s y
 refine z0b x61 (by simp [y2n]) ?_
 unfold y0Q
 have key:∃(z:Int) (d:Nat),d≠0∧Rat.divInt x y=mkRat z d∧il z≤9000∧(limbs d).length≤9000∧(y<0→-x=z∧-y=(d:Int))∧(¬y<0→x=z∧y=(d:Int)):=by
  by_cases hn:y<0
  ·exact ⟨-x,y.natAbs,by omega,y1s x hn,by rw [w2v];exact h1,h2,fun _=>⟨rfl,by omega⟩,fun h=>absurd hn h⟩
  ·exact ⟨x,y.natAbs,by omega,z6w x (by omega),h1,h2,fun h=>absurd h hn,fun _=>⟨rfl,by omega⟩⟩
 obtain ⟨z,d,hd,hq,lz,ld,kn,kp⟩:=key
 rw [hq,w5B z d hd]
 have hgl:(limbs (Nat.gcd z.natAbs d)).length≤9000:=Nat.le_trans (z1D (Nat.gcd_le_right _ (Nat.pos_of_ne_zero hd))) ld
 have cg:=w4D z (d:Int) lz (z42 ld)
 rw [Int.natAbs_natCast] at cg
 have c1:=w3G z ((Nat.gcd z.natAbs d:Nat):Int) lz (z42 hgl)
 have c2:=w3G (d:Int) ((Nat.gcd z.natAbs d:Nat):Int) (z42 ld) (z42 hgl)
 rw [show ((d:Int) / ((Nat.gcd z.natAbs d:Nat):Int))=((d / Nat.gcd z.natAbs d:Nat):Int) from rfl,y5D (Nat.gcd z.natAbs d),y5D (d / Nat.gcd z.natAbs d)] at c2
 rw [y5D (Nat.gcd z.natAbs d)] at c1
 have c3:=z5h (d / Nat.gcd z.natAbs d)
 rw [y5D d] at c2 cg
 have hdn:¬d / Nat.gcd z.natAbs d=1→dn (d / Nat.gcd z.natAbs d)=limbs (d / Nat.gcd z.natAbs d):=fun h=>by unfold dn;rw [if_neg h]
 have hdn1:d / Nat.gcd z.natAbs d=1→dn (d / Nat.gcd z.natAbs d)=[]:=fun h=>by rw [h,y1h]
 generalize hG:((Nat.gcd z.natAbs d:Nat):Int)=GI at *
 generalize Nat.gcd z.natAbs d=G at *
 generalize d / G=E at *
 generalize z / GI=Z at *
 by_cases hn:y<0
 ·rw [decide_eq_true hn] at e1
  obtain ⟨k1,k2⟩:=kn hn
  have cn1:=w2K x h1
  have cn2:=w2K y h2
  rw [k1] at cn1
  rw [k2,y5D] at cn2
  by_cases hE:E=1
  ·rw [hdn1 hE]
   rw [decide_eq_true hE] at c3
   clear hdn hdn1 kn kp
   repeat (first|refine zQ (zA @I.eq_1 (zA @cS (zA @cT (zA @z1Q (zA e1 cI))))) ?_|refine cP cs ?_|exact zT)
   refine wT ?_
   repeat (first|refine zQ (zA @I.eq_1 (zA @cS (zA @cT (zA @z1Q cI)))) ?_|refine cP cn1 ?_|refine cP cn2 ?_|refine cP cg ?_|refine cP c1 ?_|refine cP c2 ?_|refine cP c3 ?_|exact zT)
   refine wT ?_
   refine zS (zA @I.eq_1 (zA @cS (zA @cT (zA @z1Q cI)))) ?_
   exact z0j (z0Z rfl rfl rfl (z5o _ _ _ _ rfl))
  ·rw [hdn hE]
   rw [decide_eq_false hE] at c3
   clear hdn hdn1 kn kp
   repeat (first|refine zQ (zA @I.eq_1 (zA @cS (zA @cT (zA @z1Q (zA e1 cI))))) ?_|refine cP cs ?_|exact zT)
   refine wT ?_
   repeat (first|refine zQ (zA @I.eq_1 (zA @cS (zA @cT (zA @z1Q cI)))) ?_|refine cP cn1 ?_|refine cP cn2 ?_|refine cP cg ?_|refine cP c1 ?_|refine cP c2 ?_|refine cP c3 ?_|exact zT)
   refine wFs ?_
   refine zS (zA @I.eq_1 (zA @cS (zA @cT (zA @z1Q cI)))) ?_
   exact z0j (z0Z rfl rfl rfl (.imm rfl))
 ·rw [decide_eq_false hn] at e1
  obtain ⟨k1,k2⟩:=kp hn
  subst k1
  rw [k2,y5D]
  rw [k2,y5D] at cs
  rw [k2] at e1
  by_cases hE:E=1
  ·rw [hdn1 hE]
   rw [decide_eq_true hE] at c3
   clear hdn hdn1 kn kp
   repeat (first|refine zQ (zA @I.eq_1 (zA @cS (zA @cT (zA @z1Q (zA e1 cI))))) ?_|refine cP cs ?_|exact zT)
   refine wFs ?_
   repeat (first|refine zQ (zA @I.eq_1 (zA @cS (zA @cT (zA @z1Q cI)))) ?_|refine cP cg ?_|refine cP c1 ?_|refine cP c2 ?_|refine cP c3 ?_|exact zT)
   refine wT ?_
   refine zS (zA @I.eq_1 (zA @cS (zA @cT (zA @z1Q cI)))) ?_
   exact z0j (z0Z rfl rfl rfl (z5o _ _ _ _ rfl))
  ·rw [hdn hE]
   rw [decide_eq_false hE] at c3
   clear hdn hdn1 kn kp
   repeat (first|refine zQ (zA @I.eq_1 (zA @cS (zA @cT (zA @z1Q (zA e1 cI))))) ?_|refine cP cs ?_|exact zT)
   refine wFs ?_
   repeat (first|refine zQ (zA @I.eq_1 (zA @cS (zA @cT (zA @z1Q cI)))) ?_|refine cP cg ?_|refine cP c1 ?_|refine cP c2 ?_|refine cP c3 ?_|exact zT)
   refine wFs ?_
   refine zS (zA @I.eq_1 (zA @cS (zA @cT (zA @z1Q cI)))) ?_
   exact z0j (z0Z rfl rfl rfl (.imm rfl))
theorem z3n (v:Int) (h1 : -9223372036854775808≤v) (h2:v≤9223372036854775807):z0c prog 44 [.int .i64 v] (Q (v:Rat)):=by
 have ci:=z3o v h1 h2
 rw [x1W]
 refine z0b x04 (by simp [z6y]) ?_
 unfold z7u
 repeat (first|refine zQ (zA @I.eq_1 (zA @cS (zA @cT (zA @x0a cI)))) ?_|refine cP ci ?_|exact zT)
 exact z0j (z0Z rfl rfl rfl (z5o _ _ _ _ rfl))
theorem x0R (x y:Rat):((x.den:Int)*(y.den:Int))≠0:=Int.mul_ne_zero (by have:=x.den_nz;omega) (by have:=y.den_nz;omega)
theorem x0K (x y:Rat):Rat.divInt (x.num*y.num) ((x.den:Int)*(y.den:Int))=x*y:=by
 rw [Rat.mul_def',←Int.natCast_mul,Rat.divInt_ofNat]
theorem x00 (n1:Bool) (a d:List Nat) (n2:Bool) (b e:List Nat) (ha:a.length≤4400) (hd:d.length≤4400) (hb:b.length≤4400) (he:e.length≤4400) (la:lim a) (ld:lim d) (lb:lim b) (le:lim e) :
  z0c prog 27 [XQ n1 a d,XQ n2 b e] (Q (rv n1 a d*rv n2 b e)):=by
 have v1:=z5e n1 a d (by omega) (by omega) la ld
 have v2:=z5e n2 b e (by omega) (by omega) lb le
 have k1:RB (rv n1 a d) 4400:=y2p la ld ha hd (by decide)
 have k2:RB (rv n2 b e) 4400:=y2p lb le hb he (by decide)
 generalize rv n1 a d=x at *
 generalize rv n2 b e=y at *
 rw [←x0K]
 have t1:=w2A x.num y.num (Nat.le_trans k1.1 (by decide)) (Nat.le_trans k2.1 (by decide))
 have t3:=w2A x.den y.den (z42 (Nat.le_trans k1.2 (by decide))) (z42 (Nat.le_trans k2.2 (by decide)))
 have b1:=y39 k1.1 k2.1
 have b4:=y39 (z42 k1.2) (z42 k2.2)
 have cl:=z7v (x.num*y.num) ((x.den:Int)*(y.den:Int)) (x0R x y) (Nat.le_trans b1 (by decide)) (Nat.le_trans b4 (by decide))
 have c1:=y1n x (k1.mono (by decide))
 have c2:=y1n y (k2.mono (by decide))
 clear k1 k2 b1 b4
 refine z0b w28 (by simp [x1z]) ?_
 unfold y9l
 repeat (first|refine zQ (zA @XQ.eq_1 (zA @Q.eq_1 (zA @I.eq_1 (zA @cS (zA @cT (zA @w13 cI)))))) ?_|refine cP v1 ?_|refine cP v2 ?_|refine cP c1 ?_|refine cP c2 ?_|refine cP t1 ?_|refine cP t3 ?_|refine cP cl ?_|exact zT)
theorem w40 (x y:Rat) (h1:RB x 4400) (h2:RB y 4400):z0c prog 27 [Q x,Q y] (Q (x*y)):=by
 have:=x00 (decide (x.num<0)) (limbs x.num.natAbs) (dn x.den) (decide (y.num<0)) (limbs y.num.natAbs) (dn y.den) h1.1 (y30 h1) h2.1 (y30 h2) (z0f _) (z5V _) (z0f _) (z5V _)
 rwa [w1p,w1p] at this
theorem z4A {x y:Nat} (h:limbs x=limbs y):x=y:=by
 have:=congrArg vn h;rwa [z0y,z0y] at this
theorem w3N (x y:Int) (h1:il x≤9000) (h2:il y≤9000):z0c prog 60 [I x,I y] (.bool (decide (x=y))):=by
 have ss:=z3L (limbs x.natAbs) (limbs y.natAbs) (Nat.le_trans h1 (by decide)) (Nat.le_trans h2 (by decide))
 refine z0b x3s (by simp [y2t]) ?_
 unfold z93
 by_cases hb:decide (x<0)=decide (y<0)
 ·have e:decide (limbs x.natAbs=limbs y.natAbs)=decide (x=y):=by
   rw [decide_eq_decide] at hb ⊢
   constructor
   ·intro h
    have:=z4A h
    by_cases hx:x<0
    ·have:=hb.1 hx;omega
    ·have:¬y<0:=fun k=>hx (hb.2 k);omega
   ·rintro rfl;rfl
  have hbb:(decide (x<0) == decide (y<0))=true:=by rw [hb];simp
  rw [e] at ss
  repeat (first|refine zQ (zA @I.eq_1 (zA @cS (zA @x3P (zA hbb cI)))) ?_|refine cP ss ?_|exact zT)
 ·have hbb:(decide (x<0) == decide (y<0))=false:=by simpa using hb
  have e:decide (x=y)=false:=decide_eq_false (fun h=>hb (by rw [h]))
  rw [e]
  repeat (first|refine zQ (zA @I.eq_1 (zA @cS (zA @x3P (zA hbb cI)))) ?_|refine cP ss ?_|exact zT)
theorem w2L {d e:Nat} (hd:d≠0) (he:e≠0) (h:dn d=dn e):d=e:=by
 by_cases h1:d=1
 ·have:(dn e).length=0:=by rw [←h,h1];rfl
  rw [h1,(z6L he).1 this]
 ·by_cases h2:e=1
  ·have:(dn d).length=0:=by rw [h,h2];rfl
   exact absurd ((z6L hd).1 this) h1
  ·unfold dn at h
   rw [if_neg h1,if_neg h2] at h
   exact z4A h
theorem x7C (x y:Rat) (h1:RB x 9000) (h2:RB y 9000):z0c prog 29 [Q x,Q y] (.bool (decide (x=y))):=by
 have c1:=w3N x.num y.num h1.1 h2.1
 have c2:=z3L (dn x.den) (dn y.den) (Nat.le_trans (y30 h1) (by decide)) (Nat.le_trans (y30 h2) (by decide))
 refine z0b x2G (by simp [y2D]) ?_
 unfold z9D
 by_cases hn:x.num=y.num
 ·rw [decide_eq_true hn] at c1
  have e:decide (dn x.den=dn y.den)=decide (x=y):=by
   rw [decide_eq_decide]
   exact ⟨fun h=>Rat.ext hn (w2L x.den_nz y.den_nz h),fun h=>by rw [h]⟩
  rw [e] at c2
  repeat (first|refine zQ (zA @Q.eq_1 (zA @cS (zA @cT (zA @x3Q cI)))) ?_|refine cP c1 ?_|refine cP c2 ?_|exact zT)
 ·rw [decide_eq_false hn] at c1
  rw [decide_eq_false (show ¬x=y from fun h=>hn (by rw [h]))]
  repeat (first|refine zQ (zA @Q.eq_1 (zA @cS (zA @cT (zA @x3Q cI)))) ?_|refine cP c1 ?_|refine cP c2 ?_|exact zT)
end Go.Proofs.YtlcagndeidjobaaGreatDoor
namespace Go.Proofs.YtlcagndeidjobaaGreatDoor
open Tryz
open Go Go.Dat Go.Proofs Go.RowKit Nat32
theorem x6z {r:Rat} {m:Nat} (h:BS r m) (hm:m≤140800):RB r 4400:=x1X h (by omega)
theorem w3h {x y:Rat} {m p:Nat} (h1:BS x m) (h2:BS y p) (hm:m≤140800) (hp:p≤140800):z0c prog 157 [.agg (z0V x),.agg (z0V y)] (.agg (z0V (x*y))):=w5f x y (x6z h1 hm) (x6z h2 hp)
theorem w25 {x:XN} (l1:lim x.2.1) (l2:lim x.2.2) (h1:x.2.1.length≤4400) (h2:x.2.2.length≤4400):z0c prog 38 [.agg (xnC x),.agg [.bool false,.nils,.nils]] (.agg (z0V (xnV x))):=by
 have h0:xnV (false,[],[])=0:=by
  have e:qX 0=(false,[],[]):=by
   unfold qX
   have h0:limbs 0=[]:=by unfold limbs;rfl
   have e:(0:Rat).num.natAbs=0:=rfl
   rw [e,h0];rfl
  rw [←e];exact x6L 0
 have:=y1M x.1 x.2.1 x.2.2 false [] [] h1 h2 (by decide) (by decide) l1 l2 z1v z1v
 have e2:rv x.1 x.2.1 x.2.2+rv false [] []=xnV x:=by
  show xnV x+xnV (false,[],[])=xnV x
  rw [h0,Rat.add_zero]
 rw [e2] at this
 exact z4r (.cons (WkD.refl _) (.cons (WkD.agg (.cons (WkD.refl _) (.cons (WkD.nils 1) (.cons (WkD.nils 1) .nil)))) .nil)) this
structure mtOK (x:List (List XN)) (n k b:Nat):Prop where
 len:x.length=n
 n1:n≤90
 k1:k≤90
 z:n=0→k=0
 row:∀i,i<n→(x.getD i []).length=k
 pos:n≠0→1≤k
 lm:∀i,i<n→∀j,j<k→lim ((x.getD i []).getD j default).2.1∧lim ((x.getD i []).getD j default).2.2∧((x.getD i []).getD j default).2.1.length≤4400∧((x.getD i []).getD j default).2.2.length≤4400
 sz:MS n k (mtX x) b
theorem w2P {x y:Rat} {m p:Nat} (h1:BS x m) (h2:BS y p) (hm:m≤140800) (hp:p≤140800):z0c prog 27 [.agg (z0V x),.agg (z0V y)] (.agg (z0V (x*y))):=w40 x y (x6z h1 hm) (x6z h2 hp)
theorem z0z (l:List Bs):(z0D l).length=l.length:=by unfold z0D;simp
theorem z0Q {r:List Bs} {j:Nat} (h:j<r.length):(z0D r).getD j .undef=.str (r.getD j []):=by
 unfold z0D
 rw [zO1,zO1,List.getElem?_map,zO4 h];rfl
theorem y3R (l:List Bs) (i:Nat):(z0D l).take i=z0D (l.take i):=by unfold z0D;rw [List.map_take]
theorem z6I (k:Nat) (c:UInt8):decide ((k:Int)≤(c.toNat:Int))=decide (k≤c.toNat):=decide_eq_decide.2 (by omega)
theorem z6K (k:Nat) (c:UInt8):decide ((c.toNat:Int)≤(k:Int))=decide (c.toNat≤k):=decide_eq_decide.2 (by omega)
theorem y2u (k:Nat) (c:UInt8):decide ((c.toNat:Int)=(k:Int))=decide (c.toNat=k):=decide_eq_decide.2 (by omega)
theorem z58 (c:UInt8):z0c prog 203 [.int .u8 c.toNat] (.bool (x1d c)):=by
 have e1:decide ((97:Int)≤(c.toNat:Int))=decide (97≤c.toNat):=z6I 97 c
 have e2:decide ((c.toNat:Int)≤122)=decide (c.toNat≤122):=z6K 122 c
 have e3:decide ((65:Int)≤(c.toNat:Int))=decide (65≤c.toNat):=z6I 65 c
 have e4:decide ((c.toNat:Int)≤90)=decide (c.toNat≤90):=z6K 90 c
 refine z0b x4C (by simp [y5t]) ?_
 unfold z8U x1d
 generalize decide (97≤c.toNat)=b1 at *
 generalize decide (c.toNat≤122)=b2 at *
 generalize decide (65≤c.toNat)=b3 at *
 generalize decide (c.toNat≤90)=b4 at *
 cases b1<;>cases b2<;>cases b3<;>cases b4
 all_goals
  refine zS (zA e1 (zA e2 (zA e3 e4))) ?_
  exact z0j (z0i (.imm rfl))
theorem z56 (c:UInt8):z0c prog 194 [.int .u8 c.toNat] (.bool (x1d c)):=by
 have e1:decide ((97:Int)≤(c.toNat:Int))=decide (97≤c.toNat):=z6I 97 c
 have e2:decide ((c.toNat:Int)≤122)=decide (c.toNat≤122):=z6K 122 c
 have e3:decide ((65:Int)≤(c.toNat:Int))=decide (65≤c.toNat):=z6I 65 c
 have e4:decide ((c.toNat:Int)≤90)=decide (c.toNat≤90):=z6K 90 c
 refine z0b x45 (by simp [y4D]) ?_
 unfold z8G x1d
 generalize decide (97≤c.toNat)=b1 at *
 generalize decide (c.toNat≤122)=b2 at *
 generalize decide (65≤c.toNat)=b3 at *
 generalize decide (c.toNat≤90)=b4 at *
 cases b1<;>cases b2<;>cases b3<;>cases b4
 all_goals
  refine zS (zA e1 (zA e2 (zA e3 e4))) ?_
  exact z0j (z0i (.imm rfl))
theorem y36 (c:UInt8):z0c prog 195 [.int .u8 c.toNat] (.bool (y3H c)):=by
 have cl:=z56 c
 have e1:decide ((48:Int)≤(c.toNat:Int))=decide (48≤c.toNat):=z6I 48 c
 have e2:decide ((c.toNat:Int)≤57)=decide (c.toNat≤57):=z6K 57 c
 have e3:decide ((c.toNat:Int)=95)=decide (c.toNat=95):=y2u 95 c
 have e4:decide ((c.toNat:Int)=46)=decide (c.toNat=46):=y2u 46 c
 refine z0b x7b (by simp [y7S]) ?_
 unfold y0W y3H
 generalize decide (48≤c.toNat)=b1 at *
 generalize decide (c.toNat≤57)=b2 at *
 generalize decide (c.toNat=95)=b3 at *
 generalize decide (c.toNat=46)=b4 at *
 generalize x1d c=b0 at *
 cases b0<;>cases b1<;>cases b2<;>cases b3<;>cases b4
 all_goals
  repeat (first|refine zQ (zA e1 (zA e2 (zA e3 e4))) ?_|refine cP cl ?_|exact zT)
theorem y58 (s:Bs) (hs:s.length≤9223372036854775807):z0c prog 121 [.str s] (.bool (z2D s)):=by
 refine z0b x99 (by simp [x4k]) ?_
 unfold y4a
 by_cases h1:s.length<1
 ·have d1:decide ((s.length:Int)<1)=true:=zT9
  have hn:z2D s=false:=by unfold z2D;rw [decide_eq_false (show ¬1≤s.length by omega)];rfl
  rw [hn]
  refine zS d1 ?_
  refine wT ?_
  refine zR ?_
  exact z0j (z0i (.imm rfl))
 ·have d1:decide ((s.length:Int)<1)=false:=zF9
  by_cases h2:32<s.length
  ·have d2:decide ((32:Int)<(s.length:Int))=true:=zT9
   have hn:z2D s=false:=by unfold z2D;rw [decide_eq_false (show ¬s.length≤32 by omega)];simp
   rw [hn]
   refine zS (zA d1 d2) ?_
   refine wT ?_
   refine zR ?_
   exact z0j (z0i (.imm rfl))
  ·have d2:decide ((32:Int)<(s.length:Int))=false:=zF9
   have hpos:0<s.length:=by omega
   have cl:=z56 (s.getD 0 0)
   have eb:z4V (s.getD 0 0)=.int .u8 ((s.getD 0 0).toNat:Nat):=rfl
   have e0:Int.toNat 0=0:=rfl
   have hnm:z2D s=(x1d (s.getD 0 0) && (decide (¬s=power) && s.all y3H)):=by
    unfold z2D;rw [decide_eq_true (show 1≤s.length by omega),decide_eq_true (show s.length≤32 by omega)];rfl
   rw [hnm]
   clear hnm
   cases hl:x1d (s.getD 0 0)
   ·rw [hl] at cl
    refine zS (zA d1 (zA d2 (zA e0 eb))) ?_
    refine cP cl ?_
    refine zR ?_
    refine wT ?_
    refine zR ?_
    exact z0j (z0i (.imm rfl))
   ·rw [hl] at cl
    have hin:y3H (s.getD 0 0)=true:=by unfold y3H;rw [hl];rfl
    by_cases hp:s=power
    ·have dp:decide (s=[112,111,119,101,114])=true:=decide_eq_true hp
     rw [decide_eq_false (show ¬¬s=power from fun h=>h hp)]
     refine zS (zA d1 (zA d2 (zA e0 eb))) ?_
     refine cP cl ?_
     refine zS dp ?_
     refine wT ?_
     refine zR ?_
     exact z0j (z0i (.imm rfl))
    ·have dp:decide (s=[112,111,119,101,114])=false:=decide_eq_false hp
     rw [decide_eq_true hp,Bool.true_and,Bool.true_and]
     refine zS (zA d1 (zA d2 (zA e0 eb))) ?_
     refine cP cl ?_
     refine zS dp ?_
     refine wFs ?_
     refine zR ?_
     refine z0s (σ:=Nat) (fun i=>[(0,.str s),(3,.int .i64 i)]) (fun _=>[]) (fun i=>1≤i∧i≤s.length∧∀j,j<i→y3H (s.getD j 0)=true) (fun i=>s.length - i) 1 ⟨Nat.le_refl _,by omega,fun j hj=>?_⟩ ?_ rfl ?_
     ·obtain rfl:j=0:=by omega
      exact hin
     ·simp [z0v,lk]
     ·rintro i ⟨hi1,hi,hall⟩
      try simp only at hi1 hi hall ⊢
      by_cases hlt:i<s.length
      ·have dl:decide ((i:Int)<(s.length:Int))=true:=zT9
       have ei:(i:Int).toNat=i:=Int.toNat_natCast i
       have e1:((i:Int)+1)=((i+1:Nat):Int):=by omega
       have ci:=y36 (s.getD i 0)
       have ebi:z4V (s.getD i 0)=.int .u8 ((s.getD i 0).toNat:Nat):=rfl
       cases hi2:y3H (s.getD i 0)
       ·rw [hi2] at ci
        rw [y4r hlt hi2]
        refine zS dl ?_
        refine wTs ?_
        refine zS (zA ei ebi) ?_
        refine cP ci ?_
        refine zR ?_
        refine wT ?_
        refine zR ?_
        exact z0j (z0i (.imm rfl))
       ·rw [hi2] at ci
        refine zS dl ?_
        refine wTs ?_
        refine zS (zA ei ebi) ?_
        refine cP ci ?_
        refine zR ?_
        refine wFs ?_
        refine zS e1 ?_
        refine ⟨i+1,⟨by omega,by omega,fun j hj=>?_⟩,by omega,by simp [z0v,lk]⟩
        rcases Nat.lt_or_ge j i with h|h
        ·exact hall j h
        ·obtain rfl:j=i:=by omega
         exact hi2
      ·have dl:decide ((i:Int)<(s.length:Int))=false:=zF9
       rw [x71 (p:=y3H) (s:=s) fun j hj=>hall j (by omega)]
       refine zS dl ?_
       refine z0k rfl (fun h=>by cases h) (fun _=>z0q ?_)
       refine zR ?_
       exact z0j (z0i (.imm rfl))
theorem z3l (l:List Bs) (s:Bs) (hl:l.length≤9223372036854775807):z0c prog 149 [.sl 1 (z0D l),.str s] (.int .i64 (ixS l s)):=by
 have hll:=z0z l
 refine z0b y9T (by simp [y07]) ?_
 unfold z7q
 refine zS hll ?_
 refine z0s (σ:=Nat) (fun i=>[(0,.sl 1 (z0D l)),(1,.str s),(7,.int .i64 l.length),(8,.int .i64 i)]) (fun _=>[]) (fun i=>i≤l.length∧∀j,j<i→l.getD j []≠s) (fun i=>l.length - i) 0 ⟨Nat.zero_le _,by simp⟩ ?_ rfl ?_
 ·simp [z0v,lk]
 ·rintro i ⟨hi,hall⟩
  try simp only at hi hall ⊢
  by_cases hlt:i<l.length
  ·have dl:decide ((i:Int)<(l.length:Int))=true:=zT9
   have ei:(i:Int).toNat=i:=Int.toNat_natCast i
   have e1:((i:Int)+1)=((i+1:Nat):Int):=by omega
   have hg:=z0Q hlt
   by_cases he:l.getD i []=s
   ·have de:decide (s=l.getD i [])=true:=decide_eq_true he.symm
    have hx:=y8k hlt he hall
    generalize l.getD i []=y at *
    rw [hx]
    refine zS dl ?_
    refine wTs ?_
    refine zS (zA ei (zA hg (zA hll de))) ?_
    refine wT ?_
    refine zR ?_
    exact z0j (z0i (.imm rfl))
   ·have de:decide (s=l.getD i [])=false:=decide_eq_false (Ne.symm he)
    have hnx:∀j,j<i+1→l.getD j []≠s:=fun j hj=>by
     rcases Nat.lt_or_ge j i with h|h
     ·exact hall j h
     ·obtain rfl:j=i:=by omega
      exact he
    generalize l.getD i []=y at *
    refine zS dl ?_
    refine wTs ?_
    refine zS (zA ei (zA hg (zA hll de))) ?_
    refine wFs ?_
    refine zS e1 ?_
    exact ⟨i+1,⟨by omega,hnx⟩,by omega,by simp [z0v,lk]⟩
  ·have dl:decide ((i:Int)<(l.length:Int))=false:=zF9
   rw [x2h fun j hj=>hall j (by omega)]
   refine zS dl ?_
   refine z0k rfl (fun h=>by cases h) (fun _=>z0q ?_)
   refine zR ?_
   exact z0j (z0i (.imm rfl))
theorem z7H (l:List Bs) (s:Bs) (hl:l.length≤9223372036854775807):z0c prog 227 [.sl 1 (z0D l),.str s] (.int .i64 (ixS l s)):=by
 have hll:=z0z l
 refine z0b x5Y (by simp [y8G]) ?_
 unfold y09
 refine zR ?_
 refine z0s (σ:=Nat) (fun i=>[(0,.sl 1 (z0D l)),(1,.str s),(5,.int .i64 i)]) (fun _=>[]) (fun i=>i≤l.length∧∀j,j<i→l.getD j []≠s) (fun i=>l.length - i) 0 ⟨Nat.zero_le _,by simp⟩ ?_ rfl ?_
 ·simp [z0v,lk]
 ·rintro i ⟨hi,hall⟩
  try simp only at hi hall ⊢
  by_cases hlt:i<l.length
  ·have dl:decide ((i:Int)<(l.length:Int))=true:=zT9
   have ei:(i:Int).toNat=i:=Int.toNat_natCast i
   have e1:((i:Int)+1)=((i+1:Nat):Int):=by omega
   have hg:=z0Q hlt
   by_cases he:l.getD i []=s
   ·have de:decide (l.getD i []=s)=true:=decide_eq_true he
    have hx:=y8k hlt he hall
    generalize l.getD i []=y at *
    rw [hx]
    refine zS (zA dl hll) ?_
    refine wTs ?_
    refine zS (zA ei (zA hg (zA hll de))) ?_
    refine wT ?_
    refine zR ?_
    exact z0j (z0i (.imm rfl))
   ·have de:decide (l.getD i []=s)=false:=decide_eq_false he
    have hnx:∀j,j<i+1→l.getD j []≠s:=fun j hj=>by
     rcases Nat.lt_or_ge j i with h|h
     ·exact hall j h
     ·obtain rfl:j=i:=by omega
      exact he
    generalize l.getD i []=y at *
    refine zS (zA dl hll) ?_
    refine wTs ?_
    refine zS (zA ei (zA hg (zA hll de))) ?_
    refine wFs ?_
    refine zS e1 ?_
    exact ⟨i+1,⟨by omega,hnx⟩,by omega,by simp [z0v,lk]⟩
  ·have dl:decide ((i:Int)<(l.length:Int))=false:=zF9
   rw [x2h fun j hj=>hall j (by omega)]
   refine zS (zA dl hll) ?_
   refine z0k rfl (fun h=>by cases h) (fun _=>z0q ?_)
   repeat (first|refine z0d ?_|refine z0g ?_|refine z0p ?_|refine z0e ?_|refine And.intro (by omega) ?_|simp (maxSteps:=1000000) (disch:=omega) only [cA,cB,cN,FnD.nb,lk,lkH,Dst.onT,Dst.onX,Dst.slot,z03,z0K,z0M,z00,z0x,z02,unE,cnt,z0l,z0w,z0m,z0o,opE,rmH,z05,z0n,Nat.reduceEqDiff,Nat.reduceLT,Nat.reduceAdd,Nat.reduceMul,Nat.reduceMod,↓reduceIte,reduceCtorEq,Nat.reduceLeDiff])
   exact z0j (z0i (.imm rfl))
theorem z3u (l:List Bs) (s:Bs) (hl:l.length≤9223372036854775807):z0c prog 198 [.sl 1 (z0D l),.str s] (.bool (decide (0≤ixS l s))):=by
 have ci:=z3l l s hl
 refine z0b y2N (by simp [z57]) ?_
 unfold z4h
 generalize ixS l s=k at *
 repeat (first|refine z0d ?_|refine z0g ?_|refine z0p ?_|refine z0e ?_|refine And.intro (by omega) ?_|simp (maxSteps:=1000000) (disch:=omega) only [cA,cB,cN,FnD.nb,lk,lkH,Dst.onT,Dst.onX,Dst.slot,z03,z0K,z0M,z00,z0x,z02,unE,cnt,z0l,z0w,z0m,z0o,opE,rmH,z05,z0n,Nat.reduceEqDiff,Nat.reduceLT,Nat.reduceAdd,Nat.reduceMul,Nat.reduceMod,↓reduceIte,reduceCtorEq,Nat.reduceLeDiff]|refine cP ci ?_|exact zT)
theorem w1f (s:Bs) {i:Nat} (h:i<s.length):(s.map z4V).getD i .undef=.int .u8 ((s.getD i 0).toNat:Nat):=by
 rw [zO1,zO1,List.getElem?_map,zO4 h];rfl
theorem y6G (s:Bs) (hs:s.length≤9223372036854775807):z0c prog 143 [.str s] (.bool (z2D s)):=by
 refine z0b w0g (by simp [x4w]) ?_
 unfold y5w
 by_cases h1:s=[]
 ·have d1:decide (s=[])=true:=decide_eq_true h1
  have hn:z2D s=false:=by rw [h1];rfl
  rw [hn]
  refine zS d1 ?_
  refine wT ?_
  refine zR ?_
  exact z0j (z0i (.imm rfl))
 ·have d1:decide (s=[])=false:=decide_eq_false h1
  have hp0:0<s.length:=List.length_pos_iff.2 h1
  by_cases h2:32<s.length
  ·have d2:decide ((32:Int)<(s.length:Int))=true:=zT9
   have hn:z2D s=false:=by unfold z2D;rw [decide_eq_false (show ¬s.length≤32 by omega)];simp
   rw [hn]
   refine zS (zA d1 d2) ?_
   refine wT ?_
   refine zR ?_
   exact z0j (z0i (.imm rfl))
  ·have d2:decide ((32:Int)<(s.length:Int))=false:=zF9
   have cl:=z58 (s.getD 0 0)
   have eb:z4V (s.getD 0 0)=.int .u8 ((s.getD 0 0).toNat:Nat):=rfl
   have e0:Int.toNat 0=0:=rfl
   have hnm:z2D s=(x1d (s.getD 0 0) && (decide (¬s=power) && s.all y3H)):=by
    unfold z2D;rw [decide_eq_true (show 1≤s.length by omega),decide_eq_true (show s.length≤32 by omega)];rfl
   rw [hnm]
   clear hnm
   cases hl:x1d (s.getD 0 0)
   ·rw [hl] at cl
    refine zS (zA d1 (zA d2 (zA e0 eb))) ?_
    refine cP cl ?_
    refine zR ?_
    refine wT ?_
    refine zR ?_
    exact z0j (z0i (.imm rfl))
   ·rw [hl] at cl
    by_cases hp:s=power
    ·have dp:decide (s=[112,111,119,101,114])=true:=decide_eq_true hp
     rw [decide_eq_false (show ¬¬s=power from fun h=>h hp)]
     refine zS (zA d1 (zA d2 (zA e0 eb))) ?_
     refine cP cl ?_
     refine zS dp ?_
     refine wT ?_
     refine zR ?_
     exact z0j (z0i (.imm rfl))
    ·have dp:decide (s=[112,111,119,101,114])=false:=decide_eq_false hp
     rw [decide_eq_true hp,Bool.true_and,Bool.true_and]
     refine zS (zA d1 (zA d2 (zA e0 eb))) ?_
     refine cP cl ?_
     refine zS dp ?_
     refine wFs ?_
     refine zR ?_
     refine z0s (σ:=Nat) (fun i=>[(0,.str s),(23,.sl 1 (s.map z4V)),(24,.int .i64 s.length),(25,.int .i64 i)]) (fun _=>[]) (fun i=>i≤s.length∧∀j,j<i→y3H (s.getD j 0)=true) (fun i=>s.length - i) 0 ⟨Nat.zero_le _,by simp⟩ ?_ rfl ?_
     ·simp [z0v,lk]
     ·rintro i ⟨hi,hall⟩
      try simp only at hi hall ⊢
      by_cases hlt:i<s.length
      ·have dl:decide ((i:Int)<(s.length:Int))=true:=zT9
       have ei:(i:Int).toNat=i:=Int.toNat_natCast i
       have e1:((i:Int)+1)=((i+1:Nat):Int):=by omega
       have hb:=w1f s hlt
       have hbl:(s.map z4V).length=s.length:=List.length_map _
       have ci:=z58 (s.getD i 0)
       have hin:y3H (s.getD i 0)=(x1d (s.getD i 0) || (decide (48≤(s.getD i 0).toNat) && decide ((s.getD i 0).toNat≤57)) || decide ((s.getD i 0).toNat=95) || decide ((s.getD i 0).toNat=46)):=rfl
       have hnx:y3H (s.getD i 0)=true→∀j,j<i+1→y3H (s.getD j 0)=true:=fun h j hj=>by
        rcases Nat.lt_or_ge j i with h2|h2
        ·exact hall j h2
        ·obtain rfl:j=i:=by omega
         exact h
       have hno:y3H (s.getD i 0)=false→s.all y3H=false:=fun h=>y4r hlt h
       generalize s.getD i 0=c at *
       have g1:decide ((48:Int)≤(c.toNat:Int))=decide (48≤c.toNat):=z6I 48 c
       have g2:decide ((c.toNat:Int)≤57)=decide (c.toNat≤57):=z6K 57 c
       have g3:decide (¬(c.toNat:Int)=95)=!decide (c.toNat=95):=by rw [←y2u 95 c,decide_not];rfl
       have g4:decide (¬(c.toNat:Int)=46)=!decide (c.toNat=46):=by rw [←y2u 46 c,decide_not];rfl
       refine zS dl ?_
       refine wTs ?_
       refine zS (zA ei (zA hb hbl)) ?_
       refine cP ci ?_
       generalize x1d c=b0 at *
       generalize decide (48≤c.toNat)=b1 at *
       generalize decide (c.toNat≤57)=b2 at *
       generalize decide (c.toNat=95)=b3 at *
       generalize decide (c.toNat=46)=b4 at *
       cases hc:(b0 || (b1 && b2) || b3 || b4)
       ·rw [hno (hin.trans hc)]
        simp only [Bool.or_eq_false_iff] at hc
        obtain ⟨⟨⟨rfl,hc2⟩,rfl⟩,rfl⟩:=hc
        cases b1<;>cases b2<;>(try cases hc2)
        all_goals
         repeat (first|refine z0d ?_|refine z0g ?_|refine z0p ?_|refine z0e ?_|refine And.intro (by omega) ?_|simp (maxSteps:=1000000) (disch:=omega) only [cA,cB,cN,FnD.nb,lk,lkH,Dst.onT,Dst.onX,Dst.slot,z03,z0K,z0M,z00,z0x,z02,unE,cnt,z0l,z0w,z0m,z0o,opE,rmH,z05,z0n,Nat.reduceEqDiff,Nat.reduceLT,Nat.reduceAdd,Nat.reduceMul,Nat.reduceMod,↓reduceIte,reduceCtorEq,Nat.reduceLeDiff,g1,g2,g3,g4])
         refine wT ?_
         refine zR ?_
         exact z0j (z0i (.imm rfl))
       ·have hnx2:=hnx (hin.trans hc)
        clear hno hnx hin
        cases b0<;>cases b1<;>cases b2<;>cases b3<;>cases b4<;>(try cases hc)
        all_goals
         repeat (first|refine z0d ?_|refine z0g ?_|refine z0p ?_|refine z0e ?_|refine And.intro (by omega) ?_|simp (maxSteps:=1000000) (disch:=omega) only [cA,cB,cN,FnD.nb,lk,lkH,Dst.onT,Dst.onX,Dst.slot,z03,z0K,z0M,z00,z0x,z02,unE,cnt,z0l,z0w,z0m,z0o,opE,rmH,z05,z0n,Nat.reduceEqDiff,Nat.reduceLT,Nat.reduceAdd,Nat.reduceMul,Nat.reduceMod,↓reduceIte,reduceCtorEq,Nat.reduceLeDiff,g1,g2,g3,g4])
         refine wFs ?_
         refine zS e1 ?_
         exact ⟨i+1,⟨by omega,hnx2⟩,by omega,by simp [z0v,lk]⟩
      ·have dl:decide ((i:Int)<(s.length:Int))=false:=zF9
       rw [x71 (p:=y3H) (s:=s) fun j hj=>hall j (by omega)]
       refine zS dl ?_
       refine z0k rfl (fun h=>by cases h) (fun _=>z0q ?_)
       refine zR ?_
       exact z0j (z0i (.imm rfl))
theorem y5u (l:List Bs) (hl:l.length≤9223372036854775807) (hs:∀s∈l,s.length≤9223372036854775807):z0c prog 138 [.sl 1 (z0D l)] (.bool (z5v l)):=by
 have hll:=z0z l
 refine z0b x6G (by simp [y9b]) ?_
 unfold y1O
 refine zS hll ?_
 refine z0s (σ:=Nat) (fun i=>[(0,.sl 1 (z0D l)),(5,.sl 1 (z0D l)),(6,.int .i64 l.length),(7,.int .i64 i)]) (fun _=>[]) (fun i=>i≤l.length∧∀j,j<i→(z2D (l.getD j []) && decide (ixS (l.take j) (l.getD j [])<0))=true) (fun i=>l.length - i) 0 ⟨Nat.zero_le _,by simp⟩ ?_ rfl ?_
 ·simp [z0v,lk]
 ·rintro i ⟨hi,hall⟩
  try simp only at hi hall ⊢
  by_cases hlt:i<l.length
  ·have dl:decide ((i:Int)<(l.length:Int))=true:=zT9
   have ei:(i:Int).toNat=i:=Int.toNat_natCast i
   have e1:((i:Int)+1)=((i+1:Nat):Int):=by omega
   have hg:=z0Q hlt
   have hm:=z1e hlt
   have htk:=y3R l i
   have cn:=y6G (l.getD i []) (hs _ hm)
   have ck:=z3u (l.take i) (l.getD i []) (by rw [List.length_take];omega)
   have hnx:(z2D (l.getD i []) && decide (ixS (l.take i) (l.getD i [])<0))=true→∀j,j<i+1→(z2D (l.getD j []) && decide (ixS (l.take j) (l.getD j [])<0))=true:=fun h j hj=>by
    rcases Nat.lt_or_ge j i with h2|h2
    ·exact hall j h2
    ·obtain rfl:j=i:=by omega
     exact h
   have hno:=z63 hlt
   have hdn:decide (0≤ixS (l.take i) (l.getD i []))=!decide (ixS (l.take i) (l.getD i [])<0):=by
    rw [←decide_not];exact decide_eq_decide.2 (by omega)
   rw [hdn] at ck
   generalize decide (ixS (l.take i) (l.getD i [])<0)=b1 at *
   generalize l.getD i []=s at *
   refine zS dl ?_
   refine wTs ?_
   refine zS (zA ei (zA hg hll)) ?_
   refine cP cn ?_
   cases hnb:z2D s
   ·rw [hnb,Bool.false_and] at hno
    rw [hno rfl]
    refine zS (zA ei (zA hll htk)) ?_
    refine wT ?_
    refine zR ?_
    exact z0j (z0i (.imm rfl))
   ·rw [hnb,Bool.true_and] at hno hnx
    refine zS (zA ei (zA hll (zA htk hg))) ?_
    refine cP ck ?_
    cases b1
    ·rw [hno rfl]
     refine zR ?_
     refine wT ?_
     refine zR ?_
     exact z0j (z0i (.imm rfl))
    ·refine zR ?_
     refine wFs ?_
     refine zS e1 ?_
     exact ⟨i+1,⟨by omega,hnx rfl⟩,by omega,by simp [z0v,lk]⟩
  ·have dl:decide ((i:Int)<(l.length:Int))=false:=zF9
   rw [z8v fun j hj=>hall j (by omega)]
   refine zS dl ?_
   refine z0k rfl (fun h=>by cases h) (fun _=>z0q ?_)
   refine zR ?_
   exact z0j (z0i (.imm rfl))
theorem y3f (l:List Bs) (hl:l.length≤9223372036854775807) (hs:∀s∈l,s.length≤9223372036854775807):z0c prog 171 [.sl 1 (z0D l)] (.bool (z5v l)):=by
 have hll:=z0z l
 refine z0b x5c (by simp [y48]) ?_
 unfold z8R
 repeat (first|refine z0d ?_|refine z0g ?_|refine z0p ?_|refine z0e ?_|refine And.intro (by omega) ?_|simp (maxSteps:=1000000) (disch:=omega) only [cA,cB,cN,FnD.nb,lk,lkH,Dst.onT,Dst.onX,Dst.slot,z03,z0K,z0M,z00,z0x,z02,unE,cnt,z0l,z0w,z0m,z0o,opE,rmH,z05,z0n,Nat.reduceEqDiff,Nat.reduceLT,Nat.reduceAdd,Nat.reduceMul,Nat.reduceMod,↓reduceIte,reduceCtorEq,Nat.reduceLeDiff,hll])
 refine z0s (σ:=Nat) (fun i=>[(0,.sl 1 (z0D l)),(3,.int .i64 i)]) (fun _=>[]) (fun i=>i≤l.length∧∀j,j<i→(z2D (l.getD j []) && decide (ixS (l.take j) (l.getD j [])<0))=true) (fun i=>l.length - i) 0 ⟨Nat.zero_le _,by simp⟩ ?_ rfl ?_
 ·simp [z0v,lk]
 ·rintro i ⟨hi,hall⟩
  try simp only at hi hall ⊢
  by_cases hlt:i<l.length
  ·have dl:decide ((i:Int)<(l.length:Int))=true:=zT9
   have ei:(i:Int).toNat=i:=Int.toNat_natCast i
   have e1:((i:Int)+1)=((i+1:Nat):Int):=by omega
   have hg:=z0Q hlt
   have hm:=z1e hlt
   have htk:=y3R l i
   have cn:=y58 (l.getD i []) (hs _ hm)
   have ck:=z7H (l.take i) (l.getD i []) (by rw [List.length_take];omega)
   have hnx:(z2D (l.getD i []) && decide (ixS (l.take i) (l.getD i [])<0))=true→∀j,j<i+1→(z2D (l.getD j []) && decide (ixS (l.take j) (l.getD j [])<0))=true:=fun h j hj=>by
    rcases Nat.lt_or_ge j i with h2|h2
    ·exact hall j h2
    ·obtain rfl:j=i:=by omega
     exact h
   have hno:=z63 hlt
   have hdn:decide (0≤ixS (l.take i) (l.getD i []))=!decide (ixS (l.take i) (l.getD i [])<0):=by
    rw [←decide_not];exact decide_eq_decide.2 (by omega)
   generalize decide (ixS (l.take i) (l.getD i [])<0)=b1 at *
   generalize ixS (l.take i) (l.getD i [])=z at *
   generalize l.getD i []=s at *
   repeat (first|refine z0d ?_|refine z0g ?_|refine z0p ?_|refine z0e ?_|refine And.intro (by omega) ?_|simp (maxSteps:=1000000) (disch:=omega) only [cA,cB,cN,FnD.nb,lk,lkH,Dst.onT,Dst.onX,Dst.slot,z03,z0K,z0M,z00,z0x,z02,unE,cnt,z0l,z0w,z0m,z0o,opE,rmH,z05,z0n,Nat.reduceEqDiff,Nat.reduceLT,Nat.reduceAdd,Nat.reduceMul,Nat.reduceMod,↓reduceIte,reduceCtorEq,Nat.reduceLeDiff,dl,hll])
   refine wTs ?_
   refine zS (zA ei (zA hg hll)) ?_
   refine cP cn ?_
   cases hnb:z2D s
   ·rw [hnb,Bool.false_and] at hno
    rw [hno rfl]
    refine zS (zA ei (zA hll htk)) ?_
    refine wT ?_
    refine zR ?_
    exact z0j (z0i (.imm rfl))
   ·rw [hnb,Bool.true_and] at hno hnx
    refine zS (zA ei (zA hll (zA htk hg))) ?_
    refine cP ck ?_
    cases b1
    ·have dz:decide (0≤z)=true:=hdn
     rw [hno rfl]
     refine zS dz ?_
     refine wT ?_
     refine zR ?_
     exact z0j (z0i (.imm rfl))
    ·have dz:decide (0≤z)=false:=hdn
     refine zS dz ?_
     refine wFs ?_
     refine zS e1 ?_
     exact ⟨i+1,⟨by omega,hnx rfl⟩,by omega,by simp [z0v,lk]⟩
  ·have dl:decide ((i:Int)<(l.length:Int))=false:=zF9
   rw [z8v fun j hj=>hall j (by omega)]
   refine zS (zA dl hll) ?_
   refine z0k rfl (fun h=>by cases h) (fun _=>z0q ?_)
   refine zR ?_
   exact z0j (z0i (.imm rfl))
end Go.Proofs.YtlcagndeidjobaaGreatDoor
namespace Go.Proofs.YtlcagndeidjobaaGreatDoor
open Tryz
open Go Go.Dat Go.Proofs Nat32
open Go.Lib (decDigits repeatL)
theorem x1H (n:Nat) (hn:n≤4294967295):z0c prog 209 [.int .i64 n] (.str (decDigits n)):=by
 obtain ⟨g,hg⟩:=Option.isSome_iff_exists.1 (show (prog.globalNamed tabName).isSome=true by kernel_rfl)
 refine y6m hg fun w ht=>?_
 have h:=Tryz.strconv_Itoa (n:Int) (by omega) (by omega) w ht
 have e:Go.Lib.itoa (n:Int)=decDigits n:=by unfold Go.Lib.itoa;rw [if_neg (by omega),Int.toNat_natCast]
 rwa [e] at h
theorem z5G (a:List Nat) (ha:a.length≤900) (la:lim a):z0c prog 177 [.sl 1 (us a)] (.str (decDigits (vn a))):=by
 have c1:=z0W a (by omega) la
 have h1:=z1s la
 refine z0b x4K (by simp [y4R]) ?_
 unfold z9W
 generalize vn a=N at *
 repeat (first|refine zQ cI ?_|refine cP c1 ?_|exact zT)
 refine z0s (σ:=Nat × List UInt8) (fun s=>[(0,.sl 1 (us (limbs s.1))),(3,.str s.2)]) (fun _=>[]) (fun s=>decDigits s.1++s.2=decDigits N∧(limbs s.1).length≤900) (fun s=>s.1) (N,[]) ⟨by simp,Nat.le_trans h1 ha⟩ ?_ rfl ?_
 ·simp [z0v,lk]
 ·rintro ⟨n,s⟩ ⟨hs,hl⟩
  simp only at hs hl ⊢
  have l10:[DV.int .u32 10]=us (limbs 10):=by rw [z22 (by decide) (by decide)];rfl
  have c2:=w14 n 10 (by omega) (by rw [z22 (by decide) (by decide)];simp)
  have em:x5e n 10=n % 10:=by unfold x5e;rw [if_neg (by decide)]
  rw [em,decide_eq_true (show 0<10 by decide)] at c2
  have hd:n % 10<10:=Nat.mod_lt _ (by decide)
  have c3:=z2k (limbs (n % 10)) 0 (by have:=z0A.2 (show n % 10<4294967296 ^ 1 by omega);omega) (z0f _)
  have eg:(limbs (n % 10)).getD 0 0=n % 10:=by
   by_cases h0:n % 10=0
   ·rw [h0,z0t];rfl
   ·rw [z22 (by omega) (by omega)];rfl
  rw [eg] at c3
  have e8:((48:Int)+((n % 10:Nat):Int))=((48+n % 10:Nat):Int):=by omega
  have eb:bytesOf [DV.int .u8 ((48+n % 10:Nat):Int)]=some [UInt8.ofNat (48+n % 10)]:=by
   show some [UInt8.ofNat (((48+n % 10:Nat):Int)).toNat]=_
   rw [Int.toNat_natCast]
  have hn2:=x5C (Nat.le_trans h1 ha)
  have hsl:=congrArg List.length hs
  rw [List.length_append] at hsl
  have e1:∀l:List UInt8,[UInt8.ofNat (48+n % 10)]++l=UInt8.ofNat (48+n % 10)::l:=fun _=>rfl
  by_cases hq:n<10
  ·have h0:(limbs (n / 10)).length=0:=by rw [Nat.div_eq_of_lt hq,z0t];rfl
   have hf:UInt8.ofNat (48+n % 10)::s=decDigits N:=by rw [←hs,w07 hq,Nat.mod_eq_of_lt hq];rfl
   repeat (first|refine z0d ?_|refine z0g ?_|refine z0p ?_|refine z0e ?_|refine And.intro (by omega) ?_|simp (maxSteps:=1000000) (disch:=omega) only [cA,cB,cN,FnD.nb,lk,lkH,Dst.onT,Dst.onX,Dst.slot,z03,z0K,z0M,z00,z0x,z02,unE,cnt,z0l,z0w,z0m,z0o,opE,rmH,z05,z0n,Nat.reduceEqDiff,Nat.reduceLT,Nat.reduceAdd,Nat.reduceMul,Nat.reduceMod,↓reduceIte,reduceCtorEq,Nat.reduceLeDiff,l10,y1H,e8,eb,List.mem_singleton,forall_eq,DV.rf,z0a,h0,e1,hf,cI]|refine cP c2 ?_|refine cP c3 ?_|exact zT)
   refine z0k rfl (fun _=>?_) (fun h=>by simp at h)
   refine zS cI ?_
   exact z0j (z0i (.imm rfl))
  ·have hl2:(limbs (n / 10)).length≤900:=Nat.le_trans (z1D (Nat.div_le_self n 10)) hl
   have h0:decide (((limbs (n / 10)).length:Int)=0)=false:=decide_eq_false fun h=>by
    have:=(z0A (n:=n / 10) (k:=0)).1 (by omega)
    rw [Nat.pow_zero] at this
    omega
   have hf:decDigits (n / 10)++(UInt8.ofNat (48+n % 10)::s)=decDigits N:=by rw [←hs,w3S hq,List.append_assoc];rfl
   repeat (first|refine z0d ?_|refine z0g ?_|refine z0p ?_|refine z0e ?_|refine And.intro (by omega) ?_|simp (maxSteps:=1000000) (disch:=omega) only [cA,cB,cN,FnD.nb,lk,lkH,Dst.onT,Dst.onX,Dst.slot,z03,z0K,z0M,z00,z0x,z02,unE,cnt,z0l,z0w,z0m,z0o,opE,rmH,z05,z0n,Nat.reduceEqDiff,Nat.reduceLT,Nat.reduceAdd,Nat.reduceMul,Nat.reduceMod,↓reduceIte,reduceCtorEq,Nat.reduceLeDiff,l10,y1H,e8,eb,List.mem_singleton,forall_eq,DV.rf,z0a,h0,e1,cI]|refine cP c2 ?_|refine cP c3 ?_|exact zT)
   refine wFs ?_
   refine zS cI ?_
   exact ⟨(n / 10,UInt8.ofNat (48+n % 10)::s),And.intro hf hl2,Nat.div_lt_self (by omega) (by decide),by simp [z0v,lk]⟩
end Go.Proofs.YtlcagndeidjobaaGreatDoor
namespace Go.Proofs.YtlcagndeidjobaaGreatDoor
open Tryz
open Go Go.Dat Go.Proofs Go.RowKit Nat32
theorem z8B (rs:List Bs):(z0D rs).all DV.rf=true:=by
 refine List.all_eq_true.2 fun d hd=>?_
 unfold z0D at hd
 obtain ⟨r,_,rfl⟩:=List.mem_map.1 hd
 rfl
theorem y7d {F:FnD} {os:List DOper} {dst:Dst} {te fr:Fr} {H:Hp} {K:Fr→Fr→Hp→Prop} (sz:Nat) (z:List DV) (x:Opd):goW F os dst te fr H K (.clr sz z x)=z0R F os dst te fr H K (opE F.nb dst.slot (ev te fr) (lkH H) (.clr sz z x)):=rfl
theorem y16 (l:List Kx) (hl:l.length≤1000000) (p:Kx→Bool) (v:DV) (g:Nat) (cs:List DV) (hv:z6z v g cs) (hcs:cs.all DV.rf=true) (hg:z0X prog g) (hc:∀f∈l,z0c prog g ([.agg (kxC f)]++cs) (.bool (p f))):z0c prog 199 [.sl 4 (kxs l),v] (.int .i64 (ixP p l)):=by
 have hln:(kxs l).length / 4=l.length:=by rw [z1B];omega
 have hlen:=z1B l
 refine z0b x2b (by simp [y5z]) ?_
 unfold z8H
 repeat (first|refine z0d ?_|refine z0g ?_|refine z0p ?_|refine z0e ?_|refine And.intro (by omega) ?_|simp (maxSteps:=1000000) (disch:=omega) only [cA,cB,cN,FnD.nb,lk,lkH,Dst.onT,Dst.onX,Dst.slot,z03,z0K,z0M,z00,z0x,z02,unE,cnt,z0l,z0w,z0m,z0o,opE,rmH,z05,z0n,Nat.reduceEqDiff,Nat.reduceLT,Nat.reduceAdd,Nat.reduceMul,Nat.reduceMod,↓reduceIte,reduceCtorEq,Nat.reduceLeDiff,hln])
 refine z0s (σ:=Nat) (fun i=>[(0,.sl 4 (kxs l)),(1,v),(7,.int .i64 l.length),(8,.int .i64 i)]) (fun _=>[]) (fun i=>i≤l.length∧∀j,j<i→p (l.getD j default)=false) (fun i=>l.length - i) 0 ⟨Nat.zero_le _,by simp⟩ ?_ rfl ?_
 ·simp [z0v,lk]
 ·rintro i ⟨hi,hall⟩
  try simp only at hi hall ⊢
  by_cases hlt:i<l.length
  ·have dl:decide ((i:Int)<(l.length:Int))=true:=zT9
   have ei:(i:Int).toNat=i:=Int.toNat_natCast i
   have e1:((i:Int)+1)=((i+1:Nat):Int):=by omega
   have hw:((kxs l).drop (i*4)).take 4=kxC (l.getD i default):=z1a (j:=0) z0L default hlt (Nat.le_refl _)
   have cf:=hc _ (z4a hlt)
   have hb6:i*4+4≤(kxs l).length:=by omega
   refine zS dl ?_
   refine wTs ?_
   refine z0d ?_
   refine z0e ?_
   refine z0d ?_
   refine z0g ?_
   refine zD ?_
   refine z0d ?_
   refine z3J [om 11 1,om 12 0,om 13 5,ot 14 (.iad 4 (.t 12) (.t 13)),ot 15 (.ldn 4 (.t 14))] [] (.x 16) (.t 11) [.t 15] rfl ?_
   refine zE (zA ei (zA hlen hw)) ?_
   refine ⟨⟨by omega,by omega⟩,by omega,g,cs,hv,hg,z1K cf (by rw [List.all_append,hcs];rfl) ?_⟩
   cases hp:p (l.getD i default)
   ·have hnx:∀j,j<i+1→p (l.getD j default)=false:=fun j hj=>by
     rcases Nat.lt_or_ge j i with h|h
     ·exact hall j h
     ·obtain rfl:j=i:=by omega
      exact hp
    refine zR ?_
    refine wFs ?_
    refine zS e1 ?_
    exact ⟨i+1,⟨by omega,hnx⟩,by omega,by simp [z0v,lk]⟩
   ·have hx:=y4h default hlt hp hall
    rw [hx]
    refine zR ?_
    refine wT ?_
    refine zR ?_
    exact z0j (z0i (.imm rfl))
  ·have dl:decide ((i:Int)<(l.length:Int))=false:=zF9
   rw [y3P default fun j hj=>hall j (by omega)]
   refine zS dl ?_
   refine z0k rfl (fun h=>by cases h) (fun _=>z0q ?_)
   refine zR ?_
   exact z0j (z0i (.imm rfl))
end Go.Proofs.YtlcagndeidjobaaGreatDoor
namespace Go.Proofs.YtlcagndeidjobaaGreatDoor
open Tryz
open Go Go.Dat Go.Proofs Go.RowKit Go.Shelf Nat32
theorem z9O (a b:Int) (ha:a.natAbs≤1000000) (hb:b≠0) (hb2:b.natAbs≤1000000):z0c prog 62 [.int .i64 a,.int .i64 b] (Q (Rat.divInt a b)):=by
 have c1:=z3o a (by omega) (by omega)
 have c2:=z3o b (by omega) (by omega)
 have il1:∀z:Int,z.natAbs≤1000000→il z≤9000:=fun z hz=>Nat.le_trans (z0A.2 (show z.natAbs<4294967296 ^ 1 by omega)) (by decide)
 have c3:=z7v a b hb (il1 a ha) (il1 b hb2)
 refine z0b y52 (by simp [z9b]) ?_
 unfold z5J
 generalize Rat.divInt a b=r at *
 have hx3:(xnC (qX r)).length=3:=rfl
 have hcc:(Q r).cells? = some (xnC (qX r)):=rfl
 repeat (first|refine zP ?_|refine cP c1 ?_|refine cP c2 ?_|refine cP c3 ?_|exact zT)
 refine zS (zA hcc (zA hx3 @cS)) ?_
 exact z0j (z0Z rfl rfl rfl (.imm rfl))
theorem x47 {α:Type} [Inhabited α] {p:α→Bool} {l:List α} (h:∀j,j<l.length→p (l.getD j default)=true):l.all p=true:=by
 rw [List.all_eq_true]
 intro x hx
 obtain ⟨i,hi,rfl⟩:=List.getElem_of_mem hx
 have:=h i hi
 rw [zO1,zO4 hi] at this
 simpa using this
theorem x7G {α:Type} [Inhabited α] {p:α→Bool} {l:List α} {i:Nat} (hi:i<l.length) (h:p (l.getD i default)=false):l.all p=false:=by
 rw [List.all_eq_false]
 exact ⟨_,z4a hi,by rw [h];decide⟩
end Go.Proofs.YtlcagndeidjobaaGreatDoor
