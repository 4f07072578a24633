/- Lemmas of the walk; no conditions beyond those that each states. -/
import Derived.OpenShut
import Derived.Below
import Derived.Lib.SmallJoins
import Derived.Test.YtlcagndeidjobaaGreatDoorProg
import Derived.Test.YtlcagndeidjobaaGreatDoorD3
import Derived.Test.YtlcagndeidjobaaGreatDoorT1
import Derived.Test.YtlcagndeidjobaaGreatDoorN1
import Derived.Test.YtlcagndeidjobaaGreatDoorD4
import Derived.Test.YtlcagndeidjobaaGreatDoorC1
import Derived.Test.YtlcagndeidjobaaGreatDoorC2
import Derived.Test.YtlcagndeidjobaaGreatDoorD5
import Derived.Test.YtlcagndeidjobaaGreatDoorN2
set_option linter.unusedSimpArgs false
set_option linter.unusedVariables false
set_option linter.unnecessarySimpa false
set_option maxHeartbeats 4000000
namespace Go.Proofs.YtlcagndeidjobaaGreatDoor
open Tryz
open Go Go.Dat Go.Proofs Nat32
theorem y2s (x y:Nat):Nat.gcd y (x % y)=Nat.gcd x y:=by
 rw [Nat.gcd_comm y,←Nat.gcd_rec,Nat.gcd_comm]
theorem x1c (a b:Nat) (ha:a<18446744073709551616) (hb:b<18446744073709551616):z0c prog 223 [.int .u64 a,.int .u64 b] (.int .u64 (Nat.gcd a b:Nat)):=by
 refine z0b w3K (by simp [x8S]) ?_
 unfold y8c
 refine zS cI ?_
 refine z0v (σ:=Nat × Nat) (fun z=>[(0,.int .u64 z.1),(1,.int .u64 z.2)]) (fun _=>[]) (fun z=>Nat.gcd z.1 z.2=Nat.gcd a b∧z.1<18446744073709551616∧z.2<18446744073709551616) (fun z=>z.2) (a,b) ⟨rfl,ha,hb⟩ ?_ rfl ?_
 ·simp [z0y,lk]
 ·rintro ⟨x,y⟩ ⟨hg,hx,hy⟩
  simp only at hg hx hy ⊢
  refine zS cI ?_
  refine z0l rfl (fun h=>z0D ?_) (fun h=>z0q ?_)
  ·have h:=of_decide_eq_true h
   have hm:=Nat.mod_lt x (show 0<y by omega)
   refine zS (zA @z8e cI) ?_
   refine ⟨(y,x % y),⟨by rw [←hg];exact y2s x y,hy,by simp only;omega⟩,hm,by simp [z0y,lk]⟩
  ·have h:=of_decide_eq_false h
   have:y=0:=by omega
   subst this
   rw [Nat.gcd_zero_right] at hg
   subst hg
   refine zS cI ?_
   exact z0i (z0h (.imm rfl))
theorem y1y (a b:List Nat) (ha:a.length≤100000) (hb:b.length≤100000) (la:lim a) (lb:lim b):z0c prog 163 [.sl 1 (us a),.sl 1 (us b)] (.sl 1 (us (limbs (Nat.gcd (vn a) (vn b))))):=by
 have l1:=z1w la
 have l2:=z1w lb
 have c1:=z0S a (by omega) la
 have c2:=z0S b (by omega) lb
 refine z0b w3H (by simp [x8R]) ?_
 unfold y79
 generalize vn a=x0 at *
 generalize vn b=y0 at *
 refine zS cI ?_
 refine cP c1 ?_
 refine zS cI ?_
 refine cP c2 ?_
 refine zS cI ?_
 refine z0v (σ:=Nat × Nat) (fun z=>[(0,.sl 1 (us (limbs z.1))),(1,.sl 1 (us (limbs z.2)))]) (fun _=>[]) (fun z=>Nat.gcd z.1 z.2=Nat.gcd x0 y0∧(limbs z.1).length≤100000∧(limbs z.2).length≤100000) (fun z=>z.2) (x0,y0) ⟨rfl,by simp only;omega,by simp only;omega⟩ ?_ rfl ?_
 ·simp [z0y,lk]
 ·rintro ⟨x,y⟩ ⟨hg,hx,hy⟩
  simp only at hg hx hy ⊢
  refine zS (zA @z0a cI) ?_
  refine z0l rfl (fun h=>z0D ?_) (fun h=>z0q ?_)
  ·have h:=of_decide_eq_true h
   have hy0:0<y:=by
    rcases Nat.eq_zero_or_pos y with e|e
    ·subst e;rw [z0s] at h;simp at h
    ·exact e
   have hm:=Nat.mod_lt x hy0
   have u1:=z9B (limbs x) (by omega) (z0e x)
   have u2:=z9B (limbs y) (by omega) (z0e y)
   have cd:=y1x (limbs x) (limbs y) hx hy (z0e x) (z0e y)
   rw [z0x,z0x,z5Q hy0,decide_eq_true hy0] at cd
   rw [z0x] at u1 u2
   have lm:=z1I (Nat.le_of_lt hm)
   have fin:∃s',(Nat.gcd s'.1 s'.2=Nat.gcd x0 y0∧(limbs s'.1).length≤100000∧(limbs s'.2).length≤100000)∧s'.2<y∧s'=(y,x % y):=⟨(y,x % y),⟨by rw [←hg];exact y2s x y,hy,by simp only;omega⟩,hm,rfl⟩
   by_cases hs1:(limbs x).length > 2
   ·rw [y3t,if_pos hs1] at u1
    obtain ⟨p,s,e⟩:∃p s,y3t y=.tup [.int .u64 p,.bool s]:=by unfold y3t;split<;>exact ⟨_,_,rfl⟩
    rw [e] at u2
    refine zS cI ?_
    refine cP u1 ?_
    refine zS cI ?_
    refine cP u2 ?_
    refine zS cI ?_
    refine wFs ?_
    refine zS cI ?_
    refine cP cd ?_
    refine zS cI ?_
    obtain ⟨s',i1,i2,rfl⟩:=fin
    exact ⟨_,i1,i2,by simp [z0y,lk]⟩
   ·rw [y3t,if_neg hs1] at u1
    have hx64:=z9u (show (limbs x).length≤2 by omega)
    by_cases hs2:(limbs y).length > 2
    ·rw [y3t,if_pos hs2] at u2
     refine zS cI ?_
     refine cP u1 ?_
     refine zS cI ?_
     refine cP u2 ?_
     refine zS cI ?_
     refine wFs ?_
     refine zS cI ?_
     refine cP cd ?_
     refine zS cI ?_
     obtain ⟨s',i1,i2,rfl⟩:=fin
     exact ⟨_,i1,i2,by simp [z0y,lk]⟩
    ·rw [y3t,if_neg hs2] at u2
     have hy64:=z9u (show (limbs y).length≤2 by omega)
     have cg:=x1c x y hx64 hy64
     have hgl:Nat.gcd x y≤y:=Nat.gcd_le_right x hy0
     have cf:=z2a (Nat.gcd x y) (by omega)
     refine zS cI ?_
     refine cP u1 ?_
     refine zS cI ?_
     refine cP u2 ?_
     refine zS cI ?_
     refine wT ?_
     refine zS cI ?_
     refine cP cg ?_
     refine zS cI ?_
     refine cP cf ?_
     refine zS cI ?_
     rw [←hg]
     exact z0i (z0h (.imm rfl))
  ·have h:=of_decide_eq_false h
   have hy0:y=0:=z1n.1 (List.eq_nil_of_length_eq_zero (by omega))
   subst hy0
   rw [Nat.gcd_zero_right] at hg
   rw [←hg]
   have cc:=z8h (limbs x) (by omega)
   refine zS cI ?_
   refine cP cc ?_
   refine zS cI ?_
   exact z0i (z0h (.imm rfl))
theorem y1O (a b:List Nat) (ha:a.length≤10000) (hb:b.length≤10000) (la:lim a) (lb:lim b):z0c prog 175 [.sl 1 (us a),.sl 1 (us b)] (.sl 1 (us (limbs (Nat.gcd (vn a) (vn b))))):=by
 have l1:=z1w la
 have l2:=z1w lb
 have c1:=z01 a (by omega) la
 have c2:=z01 b (by omega) lb
 refine z0b w3V (by simp [x8V]) ?_
 unfold y8n
 generalize vn a=x0 at *
 generalize vn b=y0 at *
 refine zS cI ?_
 refine cP c1 ?_
 refine zS cI ?_
 refine cP c2 ?_
 refine zS cI ?_
 refine z0v (σ:=Nat × Nat) (fun z=>[(0,.sl 1 (us (limbs z.1))),(1,.sl 1 (us (limbs z.2)))]) (fun _=>[]) (fun z=>Nat.gcd z.1 z.2=Nat.gcd x0 y0∧(limbs z.1).length≤10000∧(limbs z.2).length≤10000) (fun z=>z.2) (x0,y0) ⟨rfl,by simp only;omega,by simp only;omega⟩ ?_ rfl ?_
 ·simp [z0y,lk]
 ·rintro ⟨x,y⟩ ⟨hg,hx,hy⟩
  simp only at hg hx hy ⊢
  refine zS (zA @z0a cI) ?_
  refine z0l rfl (fun h=>z0D ?_) (fun h=>z0q ?_)
  ·have h:=of_decide_eq_true h
   have hy0:0<y:=by
    rcases Nat.eq_zero_or_pos y with e|e
    ·subst e;rw [z0s] at h;simp at h
    ·exact e
   have hm:=Nat.mod_lt x hy0
   have cd:=y1N (limbs x) (limbs y) hx hy (z0e x) (z0e y)
   rw [z0x,z0x,z5Q hy0,decide_eq_true hy0] at cd
   have lm:=z1I (Nat.le_of_lt hm)
   refine zS cI ?_
   refine cP cd ?_
   refine zS cI ?_
   refine ⟨(y,x % y),⟨by rw [←hg];exact y2s x y,hy,by simp only;omega⟩,hm,by simp [z0y,lk]⟩
  ·have h:=of_decide_eq_false h
   have hy0:y=0:=z1n.1 (List.eq_nil_of_length_eq_zero (by omega))
   subst hy0
   rw [Nat.gcd_zero_right] at hg
   rw [←hg]
   refine zS cI ?_
   exact z0i (z0h (.imm rfl))
theorem x08 (a b:List Nat) (ha:a.length≤10000) (hb:b.length≤10000) (la:lim a) (lb:lim b):z0c prog 91 [.sl 1 (us a),.sl 1 (us b)] (.sl 1 (us (limbs (vn a*vn b)))):=by
 have h1:=z1w la
 have h2:=z1w lb
 have c1:=z0S a (by omega) la
 have c2:=z0S b (by omega) lb
 refine z0b w3I (by simp [x25]) ?_
 unfold y8a
 generalize vn a=x at h1 c1 ⊢
 generalize vn b=y at h2 c2 ⊢
 have laX:=z0e x
 have laY:=z0e y
 refine z0d (z0g ?_)
 refine zE cI ?_
 repeat refine ⟨by omega,?_⟩
 refine z0d (z0g ?_)
 refine zE cI ?_
 repeat refine ⟨by omega,?_⟩
 refine cP c1 ?_
 refine zE cI ?_
 repeat refine ⟨by omega,?_⟩
 refine cP c2 ?_
 refine zE cI ?_
 repeat refine ⟨by omega,?_⟩
 refine z0d (z0g ?_)
 refine zE (zA @z0a (zA @z7Y (zA @w4v (zA @z8o cI)))) ?_
 repeat refine ⟨by omega,?_⟩
 refine z0d (z0d (z0g ?_))
 refine zE (zA @z0a cI) ?_
 repeat refine ⟨by omega,?_⟩
 obtain ⟨N,hN⟩:∃N,N=(limbs x).length+(limbs y).length:=⟨_,rfl⟩
 rw [←hN]
 refine z0f (z0v (σ:=Nat × List Nat) (fun s=>[(0,.sl 1 (us (limbs x))),(1,.sl 1 (us (limbs y))),(5,.osl 1 20 0 N),(21,.sl 1 (us (limbs x))),(22,.int .i64 (limbs x).length),(23,.int .i64 s.1)])
  (fun s=>[(20,us s.2)])
  (fun s=>s.1≤(limbs x).length∧s.2.length=N∧lim s.2∧nv s.2=nv ((limbs x).take s.1)*y∧∀k,s.1+(limbs y).length≤k→s.2.getD k 0=0)
  (fun s=>(limbs x).length - s.1) (0,List.replicate N 0) ⟨Nat.zero_le _,by simp,?_,by simp [nv,x9h],?_⟩ ?_ ?_ ?_)
 ·intro z hz;rw [List.eq_of_mem_replicate hz];decide
 ·intro k _;simp [zO1,List.getElem?_replicate];split<;>rfl
 ·simp [z0y,lk]
 ·rfl
 ·rintro ⟨i,out⟩ ⟨hi,ho,hlo,hno,hzo⟩
  simp only at hi ho hlo hno hzo ⊢
  refine z0d (z0g ?_)
  refine zE cI ?_
  repeat refine ⟨by omega,?_⟩
  refine z0d (z0l rfl (fun hcd=>z0D ?_) (fun hcd=>z0q ?_))
  ·have hlt:=of_decide_eq_true hcd
   have hlt:i<(limbs x).length:=by omega
   have hxi:=z0G laX i
   refine zE cI ?_
   repeat refine ⟨by omega,?_⟩
   refine z0d (z0f (z0d (z0g ?_)))
   refine zE (zA @z0a (zA @z0R cI)) ?_
   repeat refine ⟨by omega,?_⟩
   refine z0d (z0g ?_)
   refine zE cI ?_
   repeat refine ⟨by omega,?_⟩
   have hts:=z0C (a:=limbs x) i
   generalize hxe:(limbs x).getD i 0=xi at hxi hts ⊢
   refine z0d (z5v (ι:=Nat × List Nat) (fun s=>s.1<4294967296∧s.2.length=N∧lim s.2∧nv s.2+4294967296 ^ (i+(limbs y).length)*s.1=nv out+4294967296 ^ i*(xi*y)∧∀k,i+(limbs y).length≤k→s.2.getD k 0=0)
    (fun s=>[(0,.sl 1 (us (limbs x))),(1,.sl 1 (us (limbs y))),(5,.osl 1 20 0 N),(6,.int .i64 i),(8,.int .u64 s.1),(21,.sl 1 (us (limbs x))),(22,.int .i64 (limbs x).length),(23,.int .i64 i)]) (fun s=>[(20,us s.2)]) (z0d (z0g ?_)) ?_)
   ·refine zE (zA @z0a cI) ?_
    repeat refine ⟨by omega,?_⟩
    refine z0f (z0v (σ:=Nat × List Nat × Nat) (fun s=>[(0,.sl 1 (us (limbs x))),(1,.sl 1 (us (limbs y))),(5,.osl 1 20 0 N),(6,.int .i64 i),(7,.int .u32 xi),(8,.int .u64 s.2.2),(21,.sl 1 (us (limbs x))),(22,.int .i64 (limbs x).length),(23,.int .i64 i),(28,.sl 1 (us (limbs y))),(29,.int .i64 (limbs y).length),(30,.int .i64 s.1)])
     (fun s=>[(20,us s.2.1)])
     (fun s=>s.1≤(limbs y).length∧s.2.1.length=N∧lim s.2.1∧s.2.2<4294967296∧nv s.2.1+4294967296 ^ (i+s.1)*s.2.2=nv out+4294967296 ^ i*(xi*nv ((limbs y).take s.1))∧∀k,i+(limbs y).length≤k→s.2.1.getD k 0=0)
     (fun s=>(limbs y).length - s.1) (0,out,0) ⟨Nat.zero_le _,ho,hlo,by simp only;omega,by simp [nv],hzo⟩ ?_ rfl ?_)
    ·simp [z0y,lk]
    ·rintro ⟨j,q,c⟩ ⟨hj,hq,hlq,hc,hnv,hzq⟩
     simp only at hj hq hlq hc hnv hzq ⊢
     refine z0d (z0g ?_)
     refine zE cI ?_
     repeat refine ⟨by omega,?_⟩
     refine z0d (z0l rfl (fun hcd2=>z0D ?_) (fun hcd2=>z0q ?_))
     ·have hlt2:=of_decide_eq_true hcd2
      have hlt2:j<(limbs y).length:=by omega
      have hyj:=z0G laY j
      have htj:=z0C (a:=limbs y) j
      have hoj:=z0G hlq (i+j)
      have hidx:(((i:Int)+(j:Int))).toNat=i+j:=by omega
      refine zE cI ?_
      repeat refine ⟨by omega,?_⟩
      refine z0d (z0f (z0d (z0g ?_)))
      refine zE (zA @z0a (zA @z0R cI)) ?_
      repeat refine ⟨by omega,?_⟩
      generalize (limbs y).getD j 0=yj at hyj htj ⊢
      refine z0d (z0g ?_)
      refine zE (zA @z0a (zA @z0R (zA hidx (zA hq cI)))) ?_
      repeat refine ⟨by omega,?_⟩
      obtain ⟨m1,m2⟩:=w56 hxi hyj hc hoj
      have hw:IntKind.u64.wrap ((c:Int)+IntKind.u64.wrap (IntKind.u64.wrap ((xi:Int)*(yj:Int))+((q.getD (i+j) 0:Nat):Int)))=((xi*yj+q.getD (i+j) 0+c:Nat):Int):=by
       rw [x7f hxi hyj]
       generalize xi*yj=p at m1 ⊢
       generalize q.getD (i+j) 0=o at m1 ⊢
       rw [x8s (x:=(p:Int)+(o:Int)) (by omega) (by omega),x8s (by omega) (by omega)]
       omega
      rw [hw]
      have hset:=x9i (l:=q) (k:=i+j) (v:=(xi*yj+q.getD (i+j) 0+c) % 4294967296) (by omega)
      have hstep:=x7a hnv hset rfl
      generalize xi*yj+q.getD (i+j) 0+c=t at m1 m2 hset hstep ⊢
      have halg:4294967296 ^ (i+j)*(xi*yj)=4294967296 ^ i*(xi*(4294967296 ^ j*yj)):=by
       rw [Nat.pow_add,Nat.mul_assoc,←Nat.mul_assoc (4294967296 ^ j) xi yj,Nat.mul_comm (4294967296 ^ j) xi,Nat.mul_assoc xi]
      have hfin:nv (q.set (i+j) (t % 4294967296))+4294967296 ^ (i+(j+1))*(t / 4294967296)=nv out+4294967296 ^ i*(xi*nv ((limbs y).take (j+1))):=by
       rw [htj,Nat.mul_add,Nat.mul_add,←halg,←Nat.add_assoc (nv out),←hstep,show i+(j+1)=i+j+1 from rfl,Nat.pow_succ]
      refine z0d (z0g ?_)
      refine zE (zA @z0a (zA hidx (zA hq (zA @z39 (zA @z5q (zA @z5h cI)))))) ?_
      repeat refine ⟨by omega,?_⟩
      refine z0g ?_
      refine zE (zA @z2d cI) ?_
      repeat refine ⟨by omega,?_⟩
      refine z0g ?_
      refine zE cI ?_
      refine ⟨(j+1,q.set (i+j) (t % 4294967296),t / 4294967296),⟨by simp only;omega,by simp [hq],x4w hlq (by omega),m2,hfin,?_⟩,by simp only;omega,by simp [z0y,lk],rfl⟩
      intro k hk
      simp only
      rw [z7D (by omega)]
      exact hzq k hk
     ·have hge2:=of_decide_eq_false hcd2
      have hjl:j=(limbs y).length:=by omega
      subst hjl
      rw [List.take_of_length_le (Nat.le_refl _),z0F] at hnv
      refine zE cI ?_
      exact ⟨(c,q),⟨hc,hq,hlq,hnv,hzq⟩,by simp [z0y,lk],rfl⟩
   ·rintro ⟨c,q⟩ ⟨hc,hq,hlq,hnv,hzq⟩
    simp only at hc hq hlq hnv hzq ⊢
    have hidx:((((i:Int)+((limbs y).length:Int)))).toNat=i+(limbs y).length:=by omega
    have hset:=x9i (l:=q) (k:=i+(limbs y).length) (v:=c) (by omega)
    rw [hzq _ (Nat.le_refl _),Nat.mul_zero,Nat.add_zero] at hset
    have hcm:c % 4294967296=c:=Nat.mod_eq_of_lt hc
    refine z0g ?_
    refine zE (zA @z0a (zA hidx (zA hq (zA @z39 (zA @z5q (zA @z5h (zA hcm cI))))))) ?_
    repeat refine ⟨by omega,?_⟩
    refine z0g ?_
    refine zE cI ?_
    refine ⟨(i+1,q.set (i+(limbs y).length) c),⟨by simp only;omega,by simp [hq],x4w hlq hc,?_,?_⟩,by simp only;omega,by simp [z0y,lk],rfl⟩
    ·simp only
     rw [hset,hnv,hno,hts,Nat.add_mul,Nat.mul_assoc]
    ·intro k hk
     simp only at hk ⊢
     rw [z7D (by omega)]
     exact hzq k (by omega)
  ·have hge:=of_decide_eq_false hcd
   have hil:i=(limbs x).length:=by omega
   subst hil
   rw [List.take_of_length_le (Nat.le_refl _),z0F] at hno
   have ct:=z1D out (by omega) hlo
   rw [hno] at ct
   refine zE cI ?_
   repeat refine ⟨by omega,?_⟩
   refine z0d (z0g ?_)
   refine zE cI ?_
   repeat refine ⟨by omega,?_⟩
   refine z1e rfl 20 (cells:=us out) (by simp [lkH]) (z4E _) ?_
   simp (maxSteps:=1000000) (disch:=omega) only [cA,cB,cN,FnD.nb,lk,lkH,Dst.onT,Dst.onX,Dst.slot,z0W,z0N,z0J,z0X,z0u,z0V,unE,cnt,z0j,z0t,z0m,z0o,opE,rmH,z02,z0n,Nat.reduceEqDiff,Nat.reduceLT,Nat.reduceAdd,Nat.reduceMul,Nat.reduceMod,↓reduceIte,reduceCtorEq,Nat.reduceLeDiff,z0n ho.symm,cI]
   refine cP ct ?_
   refine zE cI ?_
   exact z0i (z0h (.imm rfl))
theorem w5q {a:List Nat} (la:lim a) (h:vld a=true):limbs (vn a)=a:=by
 rw [vn,val,h,if_pos rfl,z78 la h]
theorem w0V {p q m:Nat} (h1:(limbs p).length≤m) (h2:(limbs q).length≤m):(limbs (p+q)).length≤m+1:=by
 rw [z0B] at h1 h2 ⊢
 rw [Nat.pow_succ];omega
theorem w6q (p q:Nat) (h1:(limbs p).length≤100000) (h2:(limbs q).length≤100000):z0c prog 161 [.sl 1 (us (limbs p)),.sl 1 (us (limbs q))] (.sl 1 (us (limbs (p+q)))):=by
 have:=x07 (limbs p) (limbs q) h1 h2 (z0e _) (z0e _)
 rwa [z0x,z0x] at this
theorem w03 (p q:Nat) (h1:(limbs p).length≤10000) (h2:(limbs q).length≤10000):z0c prog 91 [.sl 1 (us (limbs p)),.sl 1 (us (limbs q))] (.sl 1 (us (limbs (p*q)))):=by
 have:=x08 (limbs p) (limbs q) h1 h2 (z0e _) (z0e _)
 rwa [z0x,z0x] at this
theorem w4s (p q:Nat) (h1:(limbs p).length≤100000) (h2:(limbs q).length≤100000):z0c prog 164 [.sl 1 (us (limbs p)),.sl 1 (us (limbs q))] (.tup [.sl 1 (us (limbs (p / q))),.sl 1 (us (limbs (x8F p q))),.bool (decide (0<q))]):=by
 have:=y1x (limbs p) (limbs q) h1 h2 (z0e _) (z0e _)
 rwa [z0x,z0x] at this
theorem y9q:limbs 1=[1]:=z5Z (by decide) (by decide)
theorem w5H:[DV.int .u32 1]=us (limbs 1):=by rw [y9q];rfl
theorem y98 (xs:List Nat):(∀d∈us xs,d.rf=true)=True:=by simp [us,u32,DV.rf]
theorem w1g (p q:Nat) (h1:(limbs p).length≤100000) (h2:(limbs q).length≤100000):z0c prog 117 [.sl 1 (us (limbs p)),.sl 1 (us (limbs q))] (.sl 1 (us (limbs (p+q)))):=by
 have:=z6S (limbs p) (limbs q) h1 h2 (z0e _) (z0e _)
 rwa [z0x,z0x] at this
theorem w6G (p q:Nat) (h1:(limbs p).length≤10000) (h2:(limbs q).length≤10000):z0c prog 119 [.sl 1 (us (limbs p)),.sl 1 (us (limbs q))] (.sl 1 (us (limbs (p*q)))):=by
 have:=x1k (limbs p) (limbs q) h1 h2 (z0e _) (z0e _)
 rwa [z0x,z0x] at this
theorem w6E (p q:Nat) (h1:(limbs p).length≤10000) (h2:(limbs q).length≤10000):z0c prog 189 [.sl 1 (us (limbs p)),.sl 1 (us (limbs q))] (.tup [.sl 1 (us (limbs (p / q))),.sl 1 (us (limbs (x8F p q))),.bool (decide (0<q))]):=by
 have:=y1N (limbs p) (limbs q) h1 h2 (z0e _) (z0e _)
 rwa [z0x,z0x] at this
theorem z5X (n:Nat):decide ((0:Int)<((limbs n).length:Int))=decide (0<n):=by
 rw [decide_eq_decide,←z4I];omega
theorem z7F (neg:Bool) (a:List Nat) (ha:a.length≤1000000):z0c prog 218 [X neg a] (.bool (y3u neg a)):=by
 refine z0b x6S (by simp [y2j]) ?_
 unfold y0G
 have cv:=z4r a ha
 unfold y3u
 have hd:decide ((0:Int)<a.length)=decide (0<a.length):=by rw [decide_eq_decide];omega
 generalize decide (0<a.length)=p at *
 generalize vld a=v at *
 repeat (first|refine zQ (zA @X.eq_1 (zA @cS (zA @z79 (zA @z0a (zA hd cI))))) ?_|refine cP cv ?_|exact zT)
 cases v
 ·repeat (first|refine zQ (zA @X.eq_1 (zA @cS (zA @z79 (zA @z0a (zA hd cI))))) ?_|refine cP cv ?_|exact zT)
 ·cases p
  ·repeat (first|refine zQ (zA @X.eq_1 (zA @cS (zA @z79 (zA @z0a (zA hd cI))))) ?_|refine cP cv ?_|exact zT)
  ·repeat (first|refine zQ (zA @X.eq_1 (zA @cS (zA @z79 (zA @z0a (zA hd cI))))) ?_|refine cP cv ?_|exact zT)
theorem z17 (neg:Bool) (a:List Nat) (ha:a.length≤1000000) (la:lim a):z0c prog 159 [X neg a] (I (iv neg a)):=by
 have cv:=z7F neg a ha
 refine z0b x37 (by simp [z88]) ?_
 unfold z8v
 by_cases hv:y3u neg a=true
 ·rw [hv] at cv
  rw [←X_I la hv]
  repeat (first|refine zQ (zA @X.eq_1 (zA @cS (zA @z56 cI))) ?_|refine cP cv ?_|exact zT)
  refine wT ?_
  repeat (first|refine zQ (zA @X.eq_1 (zA @cS (zA @z56 cI))) ?_|refine cP cv ?_|exact zT)
 ·have hv:y3u neg a=false:=by simpa using hv
  rw [hv] at cv
  rw [x9d hv]
  repeat (first|refine zQ (zA @X.eq_1 (zA @cS (zA @z56 cI))) ?_|refine cP cv ?_|exact zT)
  refine wFs ?_
  refine zS (zA @X.eq_1 (zA @cS (zA @z56 cI))) ?_
  refine z0i (z07 rfl rfl rfl ?_)
  rw [show I 0=.agg [.bool false,.sl 1 []] by unfold I;rw [show (0:Int).natAbs=0 from rfl,z0s];rfl]
  exact y7Q _ _
theorem z1x (neg:Bool) (n:Nat):z0c prog 160 [.bool neg,.sl 1 (us (limbs n))] (I (sgn neg n)):=by
 refine z0b x0E (by simp [z6C]) ?_
 unfold z7b I
 rw [x9u,x5x]
 cases neg
 ·refine zS (zA @cS (zA @y1A (zA @z0a (zA @z5X cI)))) ?_
  exact z0i (z07 rfl rfl rfl (.imm rfl))
 ·simp only [Bool.true_and]
  refine zS (zA @cS (zA @y1A (zA @z0a (zA @z5X cI)))) ?_
  exact z0i (z07 rfl rfl rfl (.imm rfl))
theorem y0g (v:Int) (h1 : -9223372036854775808≤v) (h2:v≤9223372036854775807):z0c prog 151 [.int .i64 v] (I v):=by
 refine z0b x0D (by simp [z6B]) ?_
 unfold z7a
 by_cases hv:v<0
 ·have d1:decide (v<0)=true:=decide_eq_true hv
  obtain ⟨n,hn⟩:∃n:Nat,v = -(n:Int):=⟨v.natAbs,by omega⟩
  have cf:=z2a n (by omega)
  have cs:=z1x true n
  rw [show sgn true n=v by unfold sgn;rw [if_pos rfl,hn]] at cs
  have e1:IntKind.u64.wrap (0 - IntKind.u64.wrap v)=(n:Int):=by rw [IntKind.wrap_u64,IntKind.wrap_u64];omega
  repeat (first|refine zQ (zA @I.eq_1 (zA @cS (zA @z4L (zA d1 cI)))) ?_|refine cP cf ?_|refine cP cs ?_|exact zT)
  refine wT ?_
  repeat (first|refine zQ (zA @I.eq_1 (zA @cS (zA @z4L (zA d1 (zA e1 cI))))) ?_|refine cP cf ?_|refine cP cs ?_|exact zT)
 ·have d1:decide (v<0)=false:=decide_eq_false hv
  obtain ⟨n,hn⟩:∃n:Nat,v=(n:Int):=⟨v.natAbs,by omega⟩
  have cf:=z2a n (by omega)
  have cs:=z1x false n
  rw [show sgn false n=v by unfold sgn;rw [if_neg (by simp),hn]] at cs
  have e1:IntKind.u64.wrap v=(n:Int):=by rw [IntKind.wrap_u64];omega
  repeat (first|refine zQ (zA @I.eq_1 (zA @cS (zA @z4L (zA d1 cI)))) ?_|refine cP cf ?_|refine cP cs ?_|exact zT)
  refine wFs ?_
  repeat (first|refine zQ (zA @I.eq_1 (zA @cS (zA @z4L (zA d1 (zA e1 cI))))) ?_|refine cP cf ?_|refine cP cs ?_|exact zT)
theorem y6B (neg:Bool) (a:List Nat) (ha:a.length≤1000000) (la:lim a):z0c prog 256 [X neg a] (.int .i64 (iv neg a).sign):=by
 have cv:=z17 neg a ha la
 refine z0b w0v (by simp [y6p]) ?_
 unfold y3R
 generalize iv neg a=z at *
 have dz:decide (((limbs z.natAbs).length:Int)=0)=decide (z=0):=by rw [decide_eq_decide,←x72 (z:=z)];omega
 repeat (first|refine zQ (zA @X.eq_1 (zA @I.eq_1 (zA @cS (zA @w04 (zA @z0a (zA dz cI)))))) ?_|refine cP cv ?_|exact zT)
 refine z0l rfl (fun h=>?_) (fun h=>?_)
 ·have h:=of_decide_eq_true h
  subst h
  repeat (first|refine zQ (zA @cS cI) ?_|refine cP cv ?_|exact zT)
 ·have h:=of_decide_eq_false h
  repeat (first|refine zQ (zA @cS cI) ?_|refine cP cv ?_|exact zT)
  refine z0l rfl (fun h3=>?_) (fun h3=>z0D ?_)
  ·rw [Int.sign_eq_neg_one_of_neg (of_decide_eq_true h3)]
   repeat (first|refine zQ (zA @cS cI) ?_|refine cP cv ?_|exact zT)
  ·have h3:=of_decide_eq_false h3
   rw [Int.sign_eq_one_of_pos (by omega)]
   repeat (first|refine zQ (zA @cS cI) ?_|refine cP cv ?_|exact zT)
theorem y1s (n1:Bool) (a:List Nat) (n2:Bool) (b:List Nat) (ha:a.length≤10000) (hb:b.length≤10000) (la:lim a) (lb:lim b):z0c prog 167 [X n1 a,X n2 b] (I (iv n1 a*iv n2 b)):=by
 have cv:=z17 n1 a (by omega) la
 have cw:=z17 n2 b (by omega) lb
 have l1:=z3v la n1
 have l2:=z3v lb n2
 generalize iv n1 a=x at *
 generalize iv n2 b=y at *
 have cm:=w03 x.natAbs y.natAbs (by omega) (by omega)
 have cs:=z1x (!(decide (x<0) == decide (y<0))) (x.natAbs*y.natAbs)
 rw [x4G] at cs
 refine z0b w3C (by simp [x22]) ?_
 unfold y74
 repeat (first|refine zQ (zA @X.eq_1 (zA @I.eq_1 (zA @cS (zA @w4t cI)))) ?_|refine cP cv ?_|refine cP cw ?_|refine cP cm ?_|refine cP cs ?_|exact zT)
theorem x0v (n1:Bool) (a:List Nat) (n2:Bool) (b:List Nat) (ha:a.length≤10000) (hb:b.length≤10000) (la:lim a) (lb:lim b):z0c prog 87 [X n1 a,X n2 b] (I (iv n1 a+iv n2 b)):=by
 have cv:=z17 n1 a (by omega) la
 have cw:=z17 n2 b (by omega) lb
 have l1:=z3v la n1
 have l2:=z3v lb n2
 generalize iv n1 a=x at *
 generalize iv n2 b=y at *
 have ca:=w6q x.natAbs y.natAbs (by omega) (by omega)
 have cd:=y1z (limbs x.natAbs) (limbs y.natAbs) (by omega) (by omega) (z0e _) (z0e _)
 have ce:=y1z (limbs y.natAbs) (limbs x.natAbs) (by omega) (by omega) (z0e _) (z0e _)
 rw [z0x,z0x] at cd ce
 have s1:=z1x (decide (x<0)) (x.natAbs+y.natAbs)
 have s2:=z1x (decide (x<0)) (x.natAbs - y.natAbs)
 have s3:=z1x (decide (y<0)) (y.natAbs - x.natAbs)
 refine z0b w3B (by simp [x21]) ?_
 unfold y73
 by_cases h:decide (x<0)=decide (y<0)
 ·rw [y7X h] at s1
  have hb:(decide (x<0) == decide (y<0))=true:=by rw [h];simp
  repeat (first|refine zQ (zA @X.eq_1 (zA @I.eq_1 (zA @cS (zA @z7M (zA hb cI))))) ?_|refine cP cv ?_|refine cP cw ?_|exact zT)
  refine wT ?_
  repeat (first|refine zQ (zA @X.eq_1 (zA @I.eq_1 (zA @cS (zA @z7M (zA hb cI))))) ?_|refine cP ca ?_|refine cP s1 ?_|exact zT)
 ·have hb:(decide (x<0) == decide (y<0))=false:=by simpa using h
  by_cases hle:y.natAbs≤x.natAbs
  ·rw [y1Y h hle] at s2
   rw [decide_eq_true hle] at cd
   repeat (first|refine zQ (zA @X.eq_1 (zA @I.eq_1 (zA @cS (zA @z7M (zA hb cI))))) ?_|refine cP cv ?_|refine cP cw ?_|exact zT)
   refine wFs ?_
   repeat (first|refine zQ (zA @X.eq_1 (zA @I.eq_1 (zA @cS (zA @z7M cI)))) ?_|refine cP cd ?_|exact zT)
   refine wT ?_
   repeat (first|refine zQ (zA @X.eq_1 (zA @I.eq_1 (zA @cS (zA @z7M cI)))) ?_|refine cP s2 ?_|exact zT)
  ·rw [y3G h hle] at s3
   rw [decide_eq_false hle] at cd
   repeat (first|refine zQ (zA @X.eq_1 (zA @I.eq_1 (zA @cS (zA @z7M (zA hb cI))))) ?_|refine cP cv ?_|refine cP cw ?_|exact zT)
   refine wFs ?_
   repeat (first|refine zQ (zA @X.eq_1 (zA @I.eq_1 (zA @cS (zA @z7M cI)))) ?_|refine cP cd ?_|exact zT)
   refine wFs ?_
   repeat (first|refine zQ (zA @X.eq_1 (zA @I.eq_1 (zA @cS (zA @z7M cI)))) ?_|refine cP ce ?_|refine cP s3 ?_|exact zT)
theorem I0:I 0=.agg [.bool false,.sl 1 []]:=by unfold I;rw [show (0:Int).natAbs=0 from rfl,z0s];rfl
theorem w6F (p q:Nat) (h1:(limbs p).length≤10000) (h2:(limbs q).length≤10000):z0c prog 175 [.sl 1 (us (limbs p)),.sl 1 (us (limbs q))] (.sl 1 (us (limbs (Nat.gcd p q)))):=by
 have:=y1O (limbs p) (limbs q) h1 h2 (z0e _) (z0e _)
 rwa [z0x,z0x] at this
theorem z7U (neg:Bool) (a:List Nat) (ha:a.length≤1000000):z0c prog 173 [X neg a] (.bool (y3u neg a)):=by
 refine z0b x65 (by simp [y2r]) ?_
 unfold y0T
 have cv:=z4x a ha
 unfold y3u
 have hd:decide ((a.length:Int)=0)=!decide (0<a.length):=by
  by_cases h:0<a.length
  ·rw [decide_eq_true h,zF9];rfl
  ·rw [decide_eq_false h,zT9];rfl
 generalize decide (0<a.length)=p at *
 generalize vld a=v at *
 repeat (first|refine zQ (zA @X.eq_1 (zA @cS (zA @z8a (zA @z0a (zA hd cI))))) ?_|refine cP cv ?_|exact zT)
 cases v
 ·repeat (first|refine zQ (zA @X.eq_1 (zA @cS (zA @z8a (zA @z0a (zA hd cI))))) ?_|refine cP cv ?_|exact zT)
 ·cases neg
  ·simp only [Bool.not_false,Bool.or_true,Bool.and_true]
   repeat (first|refine zQ (zA @X.eq_1 (zA @cS (zA @z8a (zA @z0a (zA hd cI))))) ?_|refine cP cv ?_|exact zT)
  ·simp only [Bool.not_true,Bool.or_false,Bool.true_and]
   repeat (first|refine zQ (zA @X.eq_1 (zA @cS (zA @z8a (zA @z0a (zA hd (zA @Bool.not_not cI)))))) ?_|refine cP cv ?_|exact zT)
theorem z09 (neg:Bool) (a:List Nat) (ha:a.length≤1000000) (la:lim a):z0c prog 95 [X neg a] (I (iv neg a)):=by
 have cv:=z7U neg a ha
 have ct:=z01 a ha la
 refine z0b w0K (by simp [y6y]) ?_
 unfold y36
 by_cases hv:y3u neg a=true
 ·rw [hv] at cv
  rw [←X_I la hv]
  have hva:limbs (vn a)=a:=by
   have:vld a=true:=by unfold y3u at hv;rw [Bool.and_eq_true] at hv;exact hv.1
   exact w5q la this
  rw [hva] at ct
  repeat (first|refine zQ (zA @X.eq_1 (zA @cS (zA @y2W cI))) ?_|refine cP cv ?_|exact zT)
  refine wFs ?_
  repeat (first|refine zQ (zA @X.eq_1 (zA @cS (zA @y2W cI))) ?_|refine cP ct ?_|exact zT)
 ·have hv:y3u neg a=false:=by simpa using hv
  rw [hv] at cv
  rw [x9d hv]
  repeat (first|refine zQ (zA @X.eq_1 (zA @cS (zA @y2W cI))) ?_|refine cP cv ?_|exact zT)
  refine wT ?_
  refine zS (zA @X.eq_1 (zA @cS (zA @y2W cI))) ?_
  refine z0i (z07 rfl rfl rfl ?_)
  rw [I0]
  exact y7Q _ _
theorem z0P (neg:Bool) (n:Nat):z0c prog 116 [.bool neg,.sl 1 (us (limbs n))] (I (sgn neg n)):=by
 refine z0b x0Q (by simp [z6I]) ?_
 unfold z7n I
 rw [x9u,x5x]
 cases neg
 ·refine zS (zA @cS (zA @y1D (zA @z0a (zA @z5X cI)))) ?_
  exact z0i (z07 rfl rfl rfl (.imm rfl))
 ·simp only [Bool.true_and]
  refine zS (zA @cS (zA @y1D (zA @z0a (zA @z5X cI)))) ?_
  exact z0i (z07 rfl rfl rfl (.imm rfl))
theorem y7t (neg:Bool) (a:List Nat) (ha:a.length≤1000000) (la:lim a):z0c prog 59 [X neg a] (.int .i64 (iv neg a).sign):=by
 have cv:=z09 neg a ha la
 refine z0b w0J (by simp [y6x]) ?_
 unfold y35
 generalize iv neg a=z at *
 repeat (first|refine zQ (zA @X.eq_1 (zA @I.eq_1 (zA @cS (zA @w08 (zA @z0a (zA @z5X cI)))))) ?_|refine cP cv ?_|exact zT)
 refine z0l rfl (fun h=>?_) (fun h=>?_)
 ·rw [Int.sign_eq_neg_one_of_neg (of_decide_eq_true h)]
  repeat (first|refine zQ (zA @cS cI) ?_|refine cP cv ?_|exact zT)
 ·have h:=of_decide_eq_false h
  repeat (first|refine zQ (zA @I.eq_1 (zA @cS (zA @z0a (zA @z5X cI)))) ?_|refine cP cv ?_|exact zT)
  refine z0l rfl (fun h3=>?_) (fun h3=>z0D ?_)
  ·have h3:=of_decide_eq_true h3
   rw [Int.sign_eq_one_of_pos (by omega)]
   repeat (first|refine zQ (zA @cS cI) ?_|refine cP cv ?_|exact zT)
  ·have h3:=of_decide_eq_false h3
   rw [show z=0 by omega]
   repeat (first|refine zQ (zA @cS cI) ?_|refine cP cv ?_|exact zT)
theorem x1M (neg:Bool) (a:List Nat) (ha:a.length≤9000) (la:lim a):z0c prog 112 [X neg a] (I (-(iv neg a))):=by
 have cv:=z09 neg a (by omega) la
 have cs:=z0P (!decide (iv neg a<0)) (iv neg a).natAbs
 rw [w1X] at cs
 refine z0b w33 (by simp [x3p]) ?_
 unfold y8v
 repeat (first|refine zQ (zA @X.eq_1 (zA @I.eq_1 (zA @cS (zA @w4F cI)))) ?_|refine cP cv ?_|refine cP cs ?_|exact zT)
theorem x1L (n1:Bool) (a:List Nat) (n2:Bool) (b:List Nat) (ha:a.length≤9000) (hb:b.length≤9000) (la:lim a) (lb:lim b):z0c prog 57 [X n1 a,X n2 b] (I (iv n1 a*iv n2 b)):=by
 have cv:=z09 n1 a (by omega) la
 have cw:=z09 n2 b (by omega) lb
 have l1:=z3v la n1
 have l2:=z3v lb n2
 generalize iv n1 a=x at *
 generalize iv n2 b=y at *
 have cm:=w6G x.natAbs y.natAbs (by omega) (by omega)
 have cs:=z0P (!(decide (x<0) == decide (y<0))) (x.natAbs*y.natAbs)
 rw [x4G] at cs
 refine z0b w32 (by simp [x3o]) ?_
 unfold y8u
 repeat (first|refine zQ (zA @X.eq_1 (zA @I.eq_1 (zA @cS (zA @w4E cI)))) ?_|refine cP cv ?_|refine cP cw ?_|refine cP cm ?_|refine cP cs ?_|exact zT)
theorem x1I (n1:Bool) (a:List Nat) (n2:Bool) (b:List Nat) (ha:a.length≤9000) (hb:b.length≤9000) (la:lim a) (lb:lim b):z0c prog 56 [X n1 a,X n2 b] (I (iv n1 a+iv n2 b)):=by
 have cv:=z09 n1 a (by omega) la
 have cw:=z09 n2 b (by omega) lb
 have l1:=z3v la n1
 have l2:=z3v lb n2
 generalize iv n1 a=x at *
 generalize iv n2 b=y at *
 have ca:=w1g x.natAbs y.natAbs (by omega) (by omega)
 have cd:=z4P (limbs x.natAbs) (limbs y.natAbs) (by omega) (by omega) (z0e _) (z0e _)
 have ce:=z4P (limbs y.natAbs) (limbs x.natAbs) (by omega) (by omega) (z0e _) (z0e _)
 rw [z0x,z0x] at cd ce
 have s1:=z0P (decide (x<0)) (x.natAbs+y.natAbs)
 have s2:=z0P (decide (x<0)) (x.natAbs - y.natAbs)
 have s3:=z0P (decide (y<0)) (y.natAbs - x.natAbs)
 refine z0b w3Z (by simp [x3l]) ?_
 unfold y8r
 by_cases h:decide (x<0)=decide (y<0)
 ·rw [y7X h] at s1
  have hb:(decide (x<0) == decide (y<0))=true:=by rw [h];simp
  repeat (first|refine zQ (zA @X.eq_1 (zA @I.eq_1 (zA @cS (zA @z7N (zA hb cI))))) ?_|refine cP cv ?_|refine cP cw ?_|exact zT)
  refine wT ?_
  repeat (first|refine zQ (zA @X.eq_1 (zA @I.eq_1 (zA @cS (zA @z7N (zA hb cI))))) ?_|refine cP ca ?_|refine cP s1 ?_|exact zT)
 ·have hb:(decide (x<0) == decide (y<0))=false:=by simpa using h
  by_cases hle:y.natAbs≤x.natAbs
  ·rw [y1Y h hle] at s2
   rw [decide_eq_true hle] at cd
   repeat (first|refine zQ (zA @X.eq_1 (zA @I.eq_1 (zA @cS (zA @z7N (zA hb cI))))) ?_|refine cP cv ?_|refine cP cw ?_|exact zT)
   refine wFs ?_
   repeat (first|refine zQ (zA @X.eq_1 (zA @I.eq_1 (zA @cS (zA @z7N cI)))) ?_|refine cP cd ?_|exact zT)
   refine wT ?_
   repeat (first|refine zQ (zA @X.eq_1 (zA @I.eq_1 (zA @cS (zA @z7N cI)))) ?_|refine cP s2 ?_|exact zT)
  ·rw [y3G h hle] at s3
   rw [decide_eq_false hle] at cd
   repeat (first|refine zQ (zA @X.eq_1 (zA @I.eq_1 (zA @cS (zA @z7N (zA hb cI))))) ?_|refine cP cv ?_|refine cP cw ?_|exact zT)
   refine wFs ?_
   repeat (first|refine zQ (zA @X.eq_1 (zA @I.eq_1 (zA @cS (zA @z7N cI)))) ?_|refine cP cd ?_|exact zT)
   refine wFs ?_
   repeat (first|refine zQ (zA @X.eq_1 (zA @I.eq_1 (zA @cS (zA @z7N cI)))) ?_|refine cP ce ?_|refine cP s3 ?_|exact zT)
theorem x1J (n1:Bool) (a:List Nat) (n2:Bool) (b:List Nat) (ha:a.length≤9000) (hb:b.length≤9000) (la:lim a) (lb:lim b) :
  z0c prog 114 [X n1 a,X n2 b] (.tup [I (iv n1 a / iv n2 b),I (w53 (iv n1 a) (iv n2 b)),.bool (decide (¬iv n2 b=0))]):=by
 have cv:=z09 n1 a (by omega) la
 have cw:=z09 n2 b (by omega) lb
 have l1:=z3v la n1
 have l2:=z3v lb n2
 generalize iv n1 a=x at *
 generalize iv n2 b=y at *
 have cd:=w6E x.natAbs y.natAbs (by omega) (by omega)
 have lq:=z1I (Nat.div_le_self x.natAbs y.natAbs)
 refine z0b w30 (by simp [x3m]) ?_
 unfold y8s w53
 by_cases hy:y=0
 ·subst hy
  rw [decide_eq_false (show ¬0<(0:Int).natAbs by decide)] at cd
  repeat (first|refine zQ (zA @X.eq_1 (zA @I.eq_1 (zA @cS (zA @z7O cI)))) ?_|refine cP cv ?_|refine cP cw ?_|refine cP cd ?_|exact zT)
  refine wT ?_
  refine zS (zA @cS cI) ?_
  refine z0i (z76 rfl rfl rfl rfl rfl rfl ?_ ?_ (.imm rfl))
  ·rw [Int.ediv_zero]
   have:=y7Q (h:=lkH [(2,[DV.bool (decide (x<0)),DV.sl 1 (us (limbs x.natAbs))]),(3,[DV.bool (decide ((0:Int)<0)),DV.sl 1 (us (limbs (0:Int).natAbs))]),(4,[DV.bool false,DV.nils]),(5,[DV.bool false,DV.nils])]) false 1
   rw [←I0] at this
   exact this
  ·have:=y7Q (h:=lkH [(2,[DV.bool (decide (x<0)),DV.sl 1 (us (limbs x.natAbs))]),(3,[DV.bool (decide ((0:Int)<0)),DV.sl 1 (us (limbs (0:Int).natAbs))]),(4,[DV.bool false,DV.nils]),(5,[DV.bool false,DV.nils])]) false 1
   rw [←I0] at this
   exact this
 ·have hy0:0<y.natAbs:=by omega
  rw [decide_eq_true hy0,z5Q hy0] at cd
  rw [decide_eq_true hy,if_neg hy]
  have lr:=z1I (Nat.mod_le x.natAbs y.natAbs)
  have hm:=Nat.mod_lt x.natAbs hy0
  repeat (first|refine zQ (zA @X.eq_1 (zA @I.eq_1 (zA @cS (zA @z7O cI)))) ?_|refine cP cv ?_|refine cP cw ?_|refine cP cd ?_|exact zT)
  refine wFs ?_
  by_cases hf:x<0∧0<x.natAbs % y.natAbs
  ·obtain ⟨f1,f2⟩:=x93 x y hy hf.1 hf.2
   have dx:decide (x<0)=true:=decide_eq_true hf.1
   have dr:decide (0<x.natAbs % y.natAbs)=true:=decide_eq_true hf.2
   have o1:(limbs 1).length≤10000:=by rw [y9q];simp
   have ca:=w1g (x.natAbs / y.natAbs) 1 (by omega) (by omega)
   have cb:=z4P (limbs y.natAbs) (limbs (x.natAbs % y.natAbs)) (by omega) (by omega) (z0e _) (z0e _)
   rw [z0x,z0x] at cb
   have s1:=z0P (!(decide (x<0) == decide (y<0))) (x.natAbs / y.natAbs+1)
   have s2:=z0P false (y.natAbs - x.natAbs % y.natAbs)
   rw [f1,dx] at s1
   rw [f2] at s2
   clear hf f1 f2 hm o1
   repeat (first|refine zQ (zA @X.eq_1 (zA @I.eq_1 (zA @cS (zA @z7O (zA @z0a (zA @z5X (zA dx (zA dr cI)))))))) ?_|refine cP cv ?_|exact zT)
   refine wT ?_
   repeat (first|refine zQ (zA @I.eq_1 (zA @cS (zA @z7O (zA @y98 (zA @w5H cI))))) ?_|refine cP ca ?_|refine cP cb ?_|refine cP s1 ?_|refine cP s2 ?_|exact zT)
   exact z0i (z76 rfl rfl rfl rfl rfl rfl (.imm rfl) (.imm rfl) (.imm rfl))
  ·obtain ⟨f1,f2⟩:=x2C x y hy hf
   have s1:=z0P (!(decide (x<0) == decide (y<0))) (x.natAbs / y.natAbs)
   have s2:=z0P false (x.natAbs % y.natAbs)
   rw [f1] at s1
   rw [f2] at s2
   by_cases hx:x<0
   ·have dx:decide (x<0)=true:=decide_eq_true hx
    have dr:decide (0<x.natAbs % y.natAbs)=false:=decide_eq_false (fun h=>hf ⟨hx,h⟩)
    rw [dx] at s1
    clear hf f1 f2 hm
    repeat (first|refine zQ (zA @X.eq_1 (zA @I.eq_1 (zA @cS (zA @z7O (zA @z0a (zA @z5X (zA dx (zA dr cI)))))))) ?_|refine cP cv ?_|exact zT)
    refine wFs ?_
    repeat (first|refine zQ (zA @I.eq_1 (zA @cS (zA @z7O cI))) ?_|refine cP s1 ?_|refine cP s2 ?_|exact zT)
    exact z0i (z76 rfl rfl rfl rfl rfl rfl (.imm rfl) (.imm rfl) (.imm rfl))
   ·have dx:decide (x<0)=false:=decide_eq_false hx
    rw [dx] at s1
    clear hf f1 f2 hm
    repeat (first|refine zQ (zA @X.eq_1 (zA @I.eq_1 (zA @cS (zA @z7O (zA @z0a (zA @z5X (zA dx cI))))))) ?_|refine cP cv ?_|exact zT)
    refine wFs ?_
    repeat (first|refine zQ (zA @I.eq_1 (zA @cS (zA @z7O cI))) ?_|refine cP s1 ?_|refine cP s2 ?_|exact zT)
    exact z0i (z76 rfl rfl rfl rfl rfl rfl (.imm rfl) (.imm rfl) (.imm rfl))
theorem x1K (n1:Bool) (a:List Nat) (n2:Bool) (b:List Nat) (ha:a.length≤9000) (hb:b.length≤9000) (la:lim a) (lb:lim b) :
  z0c prog 113 [X n1 a,X n2 b] (.sl 1 (us (limbs (Nat.gcd (iv n1 a).natAbs (iv n2 b).natAbs)))):=by
 have cv:=z09 n1 a (by omega) la
 have cw:=z09 n2 b (by omega) lb
 have l1:=z3v la n1
 have l2:=z3v lb n2
 generalize iv n1 a=x at *
 generalize iv n2 b=y at *
 have cg:=w6F x.natAbs y.natAbs (by omega) (by omega)
 refine z0b w31 (by simp [x3n]) ?_
 unfold y8t
 repeat (first|refine zQ (zA @X.eq_1 (zA @I.eq_1 (zA @cS (zA @w4D cI)))) ?_|refine cP cv ?_|refine cP cw ?_|refine cP cg ?_|exact zT)
theorem z3l (v:Int) (h1 : -9223372036854775808≤v) (h2:v≤9223372036854775807):z0c prog 97 [.int .i64 v] (I v):=by
 refine z0b x0P (by simp [z6H]) ?_
 unfold z7m
 by_cases hv:v<0
 ·have d1:decide (v<0)=true:=decide_eq_true hv
  obtain ⟨n,hn⟩:∃n:Nat,v = -((n+1:Nat):Int):=⟨v.natAbs - 1,by omega⟩
  have cf:=z4w n (by omega)
  have hll:(limbs n).length≤2:=z0B.2 (by omega)
  have ca:=w1g n 1 (by omega) (by rw [y9q];simp)
  have cs:=z0P true (n+1)
  rw [show sgn true (n+1)=v by unfold sgn;rw [if_pos rfl,hn]] at cs
  have e1:IntKind.u64.wrap (IntKind.i64.wrap (0 - IntKind.i64.wrap (v+1)))=(n:Int):=by rw [IntKind.wrap_u64,IntKind.wrap_i64,IntKind.wrap_i64];omega
  repeat (first|refine zQ (zA @I.eq_1 (zA @cS (zA @z4N (zA d1 cI)))) ?_|refine cP cf ?_|refine cP cs ?_|exact zT)
  refine wT ?_
  have e2:IntKind.i64.wrap (v+1)=v+1:=by rw [IntKind.wrap_i64];omega
  have e3:IntKind.i64.wrap (0 - (v+1))=0 - (v+1):=by rw [IntKind.wrap_i64];omega
  have e4:IntKind.u64.wrap (0 - (v+1))=(n:Int):=by rw [IntKind.wrap_u64];omega
  have e5:(0 - (v+1))=(n:Int):=by omega
  clear hll
  repeat (first|refine zQ (zA @I.eq_1 (zA @cS (zA @z4N (zA d1 (zA e5 (zA @y98 (zA @w5H cI))))))) ?_|refine cP cf ?_|refine cP ca ?_|refine cP cs ?_|exact zT)
 ·have d1:decide (v<0)=false:=decide_eq_false hv
  obtain ⟨n,hn⟩:∃n:Nat,v=(n:Int):=⟨v.natAbs,by omega⟩
  have cf:=z4w n (by omega)
  have cs:=z0P false n
  rw [show sgn false n=v by unfold sgn;rw [if_neg (by simp),hn]] at cs
  have e1:IntKind.u64.wrap v=(n:Int):=by rw [IntKind.wrap_u64];omega
  repeat (first|refine zQ (zA @I.eq_1 (zA @cS (zA @z4N (zA d1 cI)))) ?_|refine cP cf ?_|refine cP cs ?_|exact zT)
  refine wFs ?_
  repeat (first|refine zQ (zA @I.eq_1 (zA @cS (zA @z4N (zA d1 (zA e1 cI))))) ?_|refine cP cf ?_|refine cP cs ?_|exact zT)
def il (z:Int):Nat:=(limbs z.natAbs).length
theorem x9a {x y:Int} {m:Nat} (h1:il x≤m) (h2:il y≤m):il (x+y)≤m+1:=Nat.le_trans (z1I (show _≤x.natAbs+y.natAbs by omega)) (w0V h1 h2)
theorem w3z (x:Int):il (-x)=il x:=by unfold il;rw [Int.natAbs_neg]
theorem z44 {x y:Int} {m n:Nat} (h1:il x≤m) (h2:il y≤n):il (x*y)≤m+n:=by unfold il;rw [Int.natAbs_mul];exact z6O h1 h2
theorem w3x (x y:Int) (h1:il x≤9000) (h2:il y≤9000):z0c prog 87 [I x,I y] (I (x+y)):=by
 have:=x0v (decide (x<0)) (limbs x.natAbs) (decide (y<0)) (limbs y.natAbs) (Nat.le_trans h1 (by decide)) (Nat.le_trans h2 (by decide)) (z0e _) (z0e _)
 rwa [y4T,y4T] at this
theorem w51 (x y:Int) (h1:il x≤9000) (h2:il y≤9000):z0c prog 167 [I x,I y] (I (x*y)):=by
 have:=y1s (decide (x<0)) (limbs x.natAbs) (decide (y<0)) (limbs y.natAbs) (Nat.le_trans h1 (by decide)) (Nat.le_trans h2 (by decide)) (z0e _) (z0e _)
 rwa [y4T,y4T] at this
theorem w3y (x:Int) (h1:il x≤9000):z0c prog 256 [I x] (.int .i64 x.sign):=by
 have:=y6B (decide (x<0)) (limbs x.natAbs) (Nat.le_trans h1 (by decide)) (z0e _)
 rwa [y4T] at this
end Go.Proofs.YtlcagndeidjobaaGreatDoor
namespace Go.Proofs.YtlcagndeidjobaaGreatDoor
open Tryz
open Go Go.Dat Go.Proofs Nat32
open Go.Lib (decDigits)
theorem x4x {m:Nat} (h:1≤m):(limbs 1).length≤m:=by rw [y9q];exact h
theorem z1g:z0c prog 166 [] (.sl 1 (us (limbs 1))):=by
 refine z0b w0E (by simp [x3g]) ?_
 unfold y30
 refine zS (zA @y98 (zA @w5H cI)) ?_
 exact z0i (z0h (.imm rfl))
theorem x2r (n:Nat):decide (z8s n 1=0)=decide (n=1):=by
 rw [decide_eq_decide];unfold z8s;(repeat' split)<;>omega
theorem x6q (n:Nat):decide (z8s n 1=0)=decide (1=n):=by
 rw [decide_eq_decide];unfold z8s;(repeat' split)<;>omega
theorem w02 (d:List Nat) (hd:d.length≤9000) (ld:lim d):z0c prog 165 [.sl 1 (us d),.sl 1 (us (limbs 1))] (.int .i64 (z8s (vn d) 1)):=by
 have:=z6Q d (limbs 1) (by omega) (x4x (by decide)) ld (z0e _)
 rwa [z0x] at this
theorem z4v (neg:Bool) (a d:List Nat) (ha:a.length≤9000) (hd:d.length≤9000) (la:lim a) (ld:lim d):z0c prog 158 [XQ neg a d] (.bool (z5p neg a d)):=by
 have c1:=z7F neg a (by omega)
 have c2:=z4r d (by omega)
 have c3:=w02 d hd ld
 have c4:=y1y a d (by omega) (by omega) la ld
 have hg:(limbs (Nat.gcd (vn a) (vn d))).length≤9000:=by
  by_cases h:vn a=0
  ·rw [h,Nat.gcd_zero_left];exact Nat.le_trans (z1w ld) hd
  ·exact Nat.le_trans (z1I (Nat.gcd_le_left _ (Nat.pos_of_ne_zero h))) (Nat.le_trans (z1w la) ha)
 have c5:=w02 (limbs (Nat.gcd (vn a) (vn d))) hg (z0e _)
 rw [z0x] at c5
 have e3:=x2r (vn d)
 have e5:=x6q (Nat.gcd (vn a) (vn d))
 refine z0b x62 (by simp [y2o]) ?_
 unfold y0Q z5p
 generalize y3u neg a=p1 at *
 generalize vld d=p2 at *
 generalize Nat.gcd (vn a) (vn d)=G at *
 generalize vn d=D at *
 clear hg
 have k1:decide ((a.length:Int)=0)=!decide (0<a.length):=by
  by_cases h:0<a.length
  ·rw [decide_eq_true h,zF9];rfl
  ·rw [decide_eq_false h,zT9];rfl
 have k2:decide ((d.length:Int)=0)=decide (d.length=0):=by rw [decide_eq_decide];omega
 cases p1
 ·simp only [Bool.false_and]
  repeat (first|refine zQ (zA @XQ.eq_1 (zA @X.eq_1 (zA @cS (zA @cT (zA @z05 (zA @z0a cI)))))) ?_|refine cP c1 ?_|refine cP c2 ?_|exact zT)
  refine wT ?_
  refine zS (zA @cS (zA @cT (zA @z05 cI))) ?_
  exact z0i (z0h (.imm rfl))
 ·cases p2
  ·simp only [Bool.true_and,Bool.false_and]
   repeat (first|refine zQ (zA @XQ.eq_1 (zA @X.eq_1 (zA @cS (zA @cT (zA @z05 (zA @z0a cI)))))) ?_|refine cP c1 ?_|refine cP c2 ?_|exact zT)
   refine wT ?_
   refine zS (zA @cS (zA @cT (zA @z05 cI))) ?_
   exact z0i (z0h (.imm rfl))
  ·simp only [Bool.true_and]
   by_cases h0:d.length=0
   ·rw [decide_eq_true h0] at k2 ⊢
    simp only [Bool.true_or]
    repeat (first|refine z0d ?_|refine z0g ?_|refine z0p ?_|refine z0f ?_|refine And.intro (by omega) ?_|simp (maxSteps:=1000000) (disch:=omega) only [cA,cB,cN,FnD.nb,lk,lkH,Dst.onT,Dst.onX,Dst.slot,z0W,z0N,z0J,z0X,z0u,z0V,unE,cnt,z0j,z0t,z0m,z0o,opE,rmH,z02,z0n,Nat.reduceEqDiff,Nat.reduceLT,Nat.reduceAdd,Nat.reduceMul,Nat.reduceMod,↓reduceIte,reduceCtorEq,Nat.reduceLeDiff,XQ,X,cS,cT,z05,z0a,k2,cI]|refine cP c1 ?_|refine cP c2 ?_|exact zT)
    refine wF ?_
    repeat (first|refine z0d ?_|refine z0g ?_|refine z0p ?_|refine z0f ?_|refine And.intro (by omega) ?_|simp (maxSteps:=1000000) (disch:=omega) only [cA,cB,cN,FnD.nb,lk,lkH,Dst.onT,Dst.onX,Dst.slot,z0W,z0N,z0J,z0X,z0u,z0V,unE,cnt,z0j,z0t,z0m,z0o,opE,rmH,z02,z0n,Nat.reduceEqDiff,Nat.reduceLT,Nat.reduceAdd,Nat.reduceMul,Nat.reduceMod,↓reduceIte,reduceCtorEq,Nat.reduceLeDiff,XQ,X,cS,cT,z05,z0a,k2,cI]|refine cP c1 ?_|refine cP c2 ?_|exact zT)
    refine wT ?_
    refine zS (zA @cS (zA @cT (zA @z05 cI))) ?_
    exact z0i (z0h (.imm rfl))
   ·rw [decide_eq_false h0] at k2 ⊢
    simp only [Bool.false_or]
    by_cases ha0:0<a.length
    ·rw [decide_eq_true ha0] at k1 ⊢
     simp only [Bool.true_and]
     by_cases hD:D=1
     ·rw [decide_eq_true hD] at e3
      rw [decide_eq_false (show ¬¬D=1 from fun h=>h hD)]
      simp only [Bool.false_and]
      repeat (first|refine z0d ?_|refine z0g ?_|refine z0p ?_|refine z0f ?_|refine And.intro (by omega) ?_|simp (maxSteps:=1000000) (disch:=omega) only [cA,cB,cN,FnD.nb,lk,lkH,Dst.onT,Dst.onX,Dst.slot,z0W,z0N,z0J,z0X,z0u,z0V,unE,cnt,z0j,z0t,z0m,z0o,opE,rmH,z02,z0n,Nat.reduceEqDiff,Nat.reduceLT,Nat.reduceAdd,Nat.reduceMul,Nat.reduceMod,↓reduceIte,reduceCtorEq,Nat.reduceLeDiff,XQ,X,cS,cT,z05,z0a,k1,k2,e3,cI]|refine cP c1 ?_|refine cP c2 ?_|exact zT)
      refine wF ?_
      repeat (first|refine z0d ?_|refine z0g ?_|refine z0p ?_|refine z0f ?_|refine And.intro (by omega) ?_|simp (maxSteps:=1000000) (disch:=omega) only [cA,cB,cN,FnD.nb,lk,lkH,Dst.onT,Dst.onX,Dst.slot,z0W,z0N,z0J,z0X,z0u,z0V,unE,cnt,z0j,z0t,z0m,z0o,opE,rmH,z02,z0n,Nat.reduceEqDiff,Nat.reduceLT,Nat.reduceAdd,Nat.reduceMul,Nat.reduceMod,↓reduceIte,reduceCtorEq,Nat.reduceLeDiff,XQ,X,cS,cT,z05,z0a,k1,k2,e3,cI]|refine cP c1 ?_|refine cP c2 ?_|exact zT)
      refine wF ?_
      repeat (first|refine z0d ?_|refine z0g ?_|refine z0p ?_|refine z0f ?_|refine And.intro (by omega) ?_|simp (maxSteps:=1000000) (disch:=omega) only [cA,cB,cN,FnD.nb,lk,lkH,Dst.onT,Dst.onX,Dst.slot,z0W,z0N,z0J,z0X,z0u,z0V,unE,cnt,z0j,z0t,z0m,z0o,opE,rmH,z02,z0n,Nat.reduceEqDiff,Nat.reduceLT,Nat.reduceAdd,Nat.reduceMul,Nat.reduceMod,↓reduceIte,reduceCtorEq,Nat.reduceLeDiff,XQ,X,cS,cT,z05,z0a,k1,k2,e3,cI]|refine cP z1g ?_|refine cP c3 ?_|exact zT)
      refine wT ?_
      refine zS (zA @cS (zA @cT (zA @z05 cI))) ?_
      exact z0i (z0h (.imm rfl))
     ·rw [decide_eq_false hD] at e3
      rw [decide_eq_true hD]
      simp only [Bool.true_and]
      repeat (first|refine z0d ?_|refine z0g ?_|refine z0p ?_|refine z0f ?_|refine And.intro (by omega) ?_|simp (maxSteps:=1000000) (disch:=omega) only [cA,cB,cN,FnD.nb,lk,lkH,Dst.onT,Dst.onX,Dst.slot,z0W,z0N,z0J,z0X,z0u,z0V,unE,cnt,z0j,z0t,z0m,z0o,opE,rmH,z02,z0n,Nat.reduceEqDiff,Nat.reduceLT,Nat.reduceAdd,Nat.reduceMul,Nat.reduceMod,↓reduceIte,reduceCtorEq,Nat.reduceLeDiff,XQ,X,cS,cT,z05,z0a,k1,k2,e3,cI]|refine cP c1 ?_|refine cP c2 ?_|exact zT)
      refine wF ?_
      repeat (first|refine z0d ?_|refine z0g ?_|refine z0p ?_|refine z0f ?_|refine And.intro (by omega) ?_|simp (maxSteps:=1000000) (disch:=omega) only [cA,cB,cN,FnD.nb,lk,lkH,Dst.onT,Dst.onX,Dst.slot,z0W,z0N,z0J,z0X,z0u,z0V,unE,cnt,z0j,z0t,z0m,z0o,opE,rmH,z02,z0n,Nat.reduceEqDiff,Nat.reduceLT,Nat.reduceAdd,Nat.reduceMul,Nat.reduceMod,↓reduceIte,reduceCtorEq,Nat.reduceLeDiff,XQ,X,cS,cT,z05,z0a,k1,k2,e3,cI]|refine cP c1 ?_|refine cP c2 ?_|exact zT)
      refine wF ?_
      repeat (first|refine z0d ?_|refine z0g ?_|refine z0p ?_|refine z0f ?_|refine And.intro (by omega) ?_|simp (maxSteps:=1000000) (disch:=omega) only [cA,cB,cN,FnD.nb,lk,lkH,Dst.onT,Dst.onX,Dst.slot,z0W,z0N,z0J,z0X,z0u,z0V,unE,cnt,z0j,z0t,z0m,z0o,opE,rmH,z02,z0n,Nat.reduceEqDiff,Nat.reduceLT,Nat.reduceAdd,Nat.reduceMul,Nat.reduceMod,↓reduceIte,reduceCtorEq,Nat.reduceLeDiff,XQ,X,cS,cT,z05,z0a,k1,k2,e3,cI]|refine cP z1g ?_|refine cP c3 ?_|exact zT)
      refine wFs ?_
      repeat (first|refine z0d ?_|refine z0g ?_|refine z0p ?_|refine z0f ?_|refine And.intro (by omega) ?_|simp (maxSteps:=1000000) (disch:=omega) only [cA,cB,cN,FnD.nb,lk,lkH,Dst.onT,Dst.onX,Dst.slot,z0W,z0N,z0J,z0X,z0u,z0V,unE,cnt,z0j,z0t,z0m,z0o,opE,rmH,z02,z0n,Nat.reduceEqDiff,Nat.reduceLT,Nat.reduceAdd,Nat.reduceMul,Nat.reduceMod,↓reduceIte,reduceCtorEq,Nat.reduceLeDiff,XQ,X,cS,cT,z05,z0a,k1,k2,e3,e5,cI]|refine cP c4 ?_|refine cP z1g ?_|refine cP c5 ?_|exact zT)
    ·rw [decide_eq_false ha0] at k1 ⊢
     simp only [Bool.false_and]
     repeat (first|refine z0d ?_|refine z0g ?_|refine z0p ?_|refine z0f ?_|refine And.intro (by omega) ?_|simp (maxSteps:=1000000) (disch:=omega) only [cA,cB,cN,FnD.nb,lk,lkH,Dst.onT,Dst.onX,Dst.slot,z0W,z0N,z0J,z0X,z0u,z0V,unE,cnt,z0j,z0t,z0m,z0o,opE,rmH,z02,z0n,Nat.reduceEqDiff,Nat.reduceLT,Nat.reduceAdd,Nat.reduceMul,Nat.reduceMod,↓reduceIte,reduceCtorEq,Nat.reduceLeDiff,XQ,X,cS,cT,z05,z0a,k1,k2,e3,cI]|refine cP c1 ?_|refine cP c2 ?_|exact zT)
     refine wF ?_
     repeat (first|refine z0d ?_|refine z0g ?_|refine z0p ?_|refine z0f ?_|refine And.intro (by omega) ?_|simp (maxSteps:=1000000) (disch:=omega) only [cA,cB,cN,FnD.nb,lk,lkH,Dst.onT,Dst.onX,Dst.slot,z0W,z0N,z0J,z0X,z0u,z0V,unE,cnt,z0j,z0t,z0m,z0o,opE,rmH,z02,z0n,Nat.reduceEqDiff,Nat.reduceLT,Nat.reduceAdd,Nat.reduceMul,Nat.reduceMod,↓reduceIte,reduceCtorEq,Nat.reduceLeDiff,XQ,X,cS,cT,z05,z0a,k1,k2,e3,cI]|refine cP c1 ?_|refine cP c2 ?_|exact zT)
     refine wF ?_
     repeat (first|refine z0d ?_|refine z0g ?_|refine z0p ?_|refine z0f ?_|refine And.intro (by omega) ?_|simp (maxSteps:=1000000) (disch:=omega) only [cA,cB,cN,FnD.nb,lk,lkH,Dst.onT,Dst.onX,Dst.slot,z0W,z0N,z0J,z0X,z0u,z0V,unE,cnt,z0j,z0t,z0m,z0o,opE,rmH,z02,z0n,Nat.reduceEqDiff,Nat.reduceLT,Nat.reduceAdd,Nat.reduceMul,Nat.reduceMod,↓reduceIte,reduceCtorEq,Nat.reduceLeDiff,XQ,X,cS,cT,z05,z0a,k1,k2,e3,cI]|refine cP z1g ?_|refine cP c3 ?_|exact zT)
     refine wT ?_
     refine zS (zA @cS (zA @cT (zA @z05 cI))) ?_
     exact z0i (z0h (.imm rfl))
theorem z2b (neg:Bool) (a d:List Nat) (ha:a.length≤9000) (hd:d.length≤9000) (la:lim a) (ld:lim d):z0c prog 86 [XQ neg a d] (Q (rv neg a d)):=by
 have cv:=z4v neg a d ha hd la ld
 refine z0b x4e (by simp [z9h]) ?_
 unfold z8C
 by_cases hv:z5p neg a d=true
 ·rw [hv] at cv
  rw [←w65 la ld hv]
  repeat (first|refine zQ (zA @XQ.eq_1 (zA @cS (zA @cT (zA @z57 cI)))) ?_|refine cP cv ?_|exact zT)
  refine wT ?_
  repeat (first|refine zQ (zA @XQ.eq_1 (zA @cS (zA @cT (zA @z57 cI)))) ?_|refine cP cv ?_|exact zT)
 ·have hv:z5p neg a d=false:=by simpa using hv
  rw [hv] at cv
  rw [y9U hv,Q0]
  repeat (first|refine zQ (zA @XQ.eq_1 (zA @cS (zA @cT (zA @z57 cI)))) ?_|refine cP cv ?_|exact zT)
  refine wFs ?_
  refine zS (zA @cS (zA @cT (zA @z57 cI))) ?_
  exact z0i (z07 rfl rfl rfl (x13 _ _ _))
theorem z3P (r:Rat):z0c prog 90 [Q r] (.sl 1 (us (limbs r.den))):=by
 refine z0b w0D (by simp [y6u]) ?_
 unfold y3Z
 by_cases h:r.den=1
 ·have k:decide (((dn r.den).length:Int)=0)=true:=decide_eq_true (by have:=(z6x r.den_nz).2 h;omega)
  rw [h]
  rw [h] at k
  repeat (first|refine zQ (zA @Q.eq_1 (zA h (zA @cS (zA @cT (zA @y2V (zA @z0a (zA @k cI))))))) ?_|refine cP z1g ?_|exact zT)
  refine wT ?_
  repeat (first|refine zQ (zA @cS (zA @cT (zA @y2V cI))) ?_|refine cP z1g ?_|exact zT)
 ·have k:decide (((dn r.den).length:Int)=0)=false:=decide_eq_false (fun e=>h ((z6x r.den_nz).1 (by omega)))
  have e:limbs r.den=dn r.den:=by unfold dn;rw [if_neg h]
  rw [e]
  repeat (first|refine zQ (zA @Q.eq_1 (zA @cS (zA @cT (zA @y2V (zA @z0a (zA @k cI)))))) ?_|refine cP z1g ?_|exact zT)
  refine wFs ?_
  repeat (first|refine zQ (zA @cS (zA @cT (zA @y2V cI))) ?_|refine cP z1g ?_|exact zT)
theorem z49 (z:Int) (d:Nat) (h:d≠0) (h1:il z≤9000) (h2:(limbs d).length≤9000):z0c prog 88 [I z,.sl 1 (us (limbs d))] (Q (mkRat z d)):=by
 have hg:0<Nat.gcd z.natAbs d:=Nat.gcd_pos_of_pos_right _ (Nat.pos_of_ne_zero h)
 have hgl:(limbs (Nat.gcd z.natAbs d)).length≤9000:=Nat.le_trans (z1I (Nat.gcd_le_right _ (Nat.pos_of_ne_zero h))) h2
 rw [w5K z d h]
 unfold il at h1
 have c1:=y1y (limbs z.natAbs) (limbs d) (by omega) (by omega) (z0e _) (z0e _)
 rw [z0x,z0x] at c1
 have c2:=w4s z.natAbs (Nat.gcd z.natAbs d) (by omega) (by omega)
 have c3:=w4s d (Nat.gcd z.natAbs d) (by omega) (by omega)
 have c4:=w02 (limbs (d / Nat.gcd z.natAbs d)) (Nat.le_trans (z1I (Nat.div_le_self _ _)) h2) (z0e _)
 rw [z0x] at c4
 have e4:=x2r (d / Nat.gcd z.natAbs d)
 have hne:d / Nat.gcd z.natAbs d≠0:=fun e=>by
  have:=Nat.div_pos (Nat.gcd_le_right z.natAbs (Nat.pos_of_ne_zero h)) hg
  omega
 generalize Nat.gcd z.natAbs d=G at *
 generalize d / G=E at *
 generalize z.natAbs / G=Z at *
 refine z0b x0O (by simp [z6G]) ?_
 unfold z7l
 by_cases hE:E=1
 ·rw [decide_eq_true hE] at e4
  rw [hE,y02]
  repeat (first|refine zQ (zA @I.eq_1 (zA @cS (zA @cT (zA @z4M (zA e4 cI))))) ?_|refine cP c1 ?_|refine cP c2 ?_|refine cP c3 ?_|refine cP z1g ?_|refine cP c4 ?_|exact zT)
  refine wT ?_
  refine zS (zA @cS (zA @cT (zA @z4M cI))) ?_
  exact z0i (z07 rfl rfl rfl (z5a _ _ _ _ rfl))
 ·rw [decide_eq_false hE] at e4
  have e:dn E=limbs E:=by unfold dn;rw [if_neg hE]
  rw [e]
  repeat (first|refine zQ (zA @I.eq_1 (zA @cS (zA @cT (zA @z4M (zA e4 cI))))) ?_|refine cP c1 ?_|refine cP c2 ?_|refine cP c3 ?_|refine cP z1g ?_|refine cP c4 ?_|exact zT)
  refine wFs ?_
  refine zS (zA @cS (zA @cT (zA @z4M cI))) ?_
  exact z0i (z07 rfl rfl rfl (.imm rfl))
theorem z6k {r:Rat} {m:Nat} (h:RB r m):(dn r.den).length≤m:=Nat.le_trans (y8A _) h.2
theorem w37 (n:Nat):iv false (limbs n)=(n:Int):=by unfold iv;simp [z0x]
theorem z59 (z:Int) (n:Nat) (h1:il z≤9000) (h2:(limbs n).length≤9000):z0c prog 89 [I z,.sl 1 (us (limbs n))] (I (z*n)):=by
 have cm:=y1s (decide (z<0)) (limbs z.natAbs) false (limbs n) (Nat.le_trans h1 (by decide)) (by omega) (z0e _) (z0e _)
 rw [y4T,w37] at cm
 refine z0b x4d (by simp [z9g]) ?_
 unfold z8B
 repeat (first|refine zQ (zA @I.eq_1 (zA @X.eq_1 (zA @cS (zA @cT (zA @x4I cI))))) ?_|refine cP cm ?_|exact zT)
theorem dk1 (r:Rat):decide (((dn r.den).length:Int)=0)=decide (r.den=1):=by
 rw [decide_eq_decide,←z6x r.den_nz];omega
theorem z1L {n m:Nat} (h:(limbs n).length≤m):il (n:Int)≤m:=by unfold il;rw [Int.natAbs_natCast];exact h
theorem y1L (n1:Bool) (a d:List Nat) (n2:Bool) (b e:List Nat) (ha:a.length≤4400) (hd:d.length≤4400) (hb:b.length≤4400) (he:e.length≤4400) (la:lim a) (ld:lim d) (lb:lim b) (le:lim e) :
  z0c prog 38 [XQ n1 a d,XQ n2 b e] (Q (rv n1 a d+rv n2 b e)):=by
 have v1:=z2b n1 a d (by omega) (by omega) la ld
 have v2:=z2b n2 b e (by omega) (by omega) lb le
 have k1:RB (rv n1 a d) 4400:=z5b la ld ha hd (by decide)
 have k2:RB (rv n2 b e) 4400:=z5b lb le hb he (by decide)
 generalize rv n1 a d=x at *
 generalize rv n2 b e=y at *
 have kx:=dk1 x
 have ky:=dk1 y
 refine z0b w3Q (by simp [x3e]) ?_
 unfold y8i
 by_cases hx:x.den=1∧y.den=1
 ·rw [x7o hx.1 hx.2,x17]
  rw [decide_eq_true hx.1] at kx
  rw [decide_eq_true hx.2] at ky
  have ca:=w3x x.num y.num (Nat.le_trans k1.1 (by decide)) (Nat.le_trans k2.1 (by decide))
  clear k1 k2
  repeat (first|refine zQ (zA @XQ.eq_1 (zA @Q.eq_1 (zA @cS (zA @cT (zA @y1B (zA @z0a (zA kx (zA ky cI)))))))) ?_|refine cP v1 ?_|refine cP v2 ?_|exact zT)
  refine wT ?_
  repeat (first|refine zQ (zA @I.eq_1 (zA @cS (zA @cT (zA @y1B cI)))) ?_|refine cP ca ?_|exact zT)
  exact z0i (z07 rfl rfl rfl (z5a _ _ _ _ rfl))
 ·rw [Rat.add_def']
  have t1:=z59 x.num y.den (Nat.le_trans k1.1 (by decide)) (Nat.le_trans k2.2 (by decide))
  have t2:=z59 y.num x.den (Nat.le_trans k2.1 (by decide)) (Nat.le_trans k1.2 (by decide))
  have b1:=z44 k1.1 (z1L k2.2)
  have b2:=z44 k2.1 (z1L k1.2)
  have b3:=x9a b1 b2
  have ca:=w3x (x.num*y.den) (y.num*x.den) (Nat.le_trans b1 (by decide)) (Nat.le_trans b2 (by decide))
  have cm:=w03 x.den y.den (Nat.le_trans k1.2 (by decide)) (Nat.le_trans k2.2 (by decide))
  have cl:=z49 (x.num*y.den+y.num*x.den) (x.den*y.den) (Nat.mul_ne_zero x.den_nz y.den_nz) (Nat.le_trans b3 (by decide)) (Nat.le_trans (z6O k1.2 k2.2) (by decide))
  have c1:=z3P x
  have c2:=z3P y
  clear k1 k2 b1 b2 b3
  by_cases h1:x.den=1
  ·rw [decide_eq_true h1] at kx
   rw [decide_eq_false (fun h2=>hx ⟨h1,h2⟩)] at ky
   clear hx h1
   repeat (first|refine zQ (zA @XQ.eq_1 (zA @Q.eq_1 (zA @cS (zA @cT (zA @y1B (zA @z0a (zA kx (zA ky cI)))))))) ?_|refine cP v1 ?_|refine cP v2 ?_|exact zT)
   refine wFs ?_
   repeat (first|refine zQ (zA @I.eq_1 (zA @Q.eq_1 (zA @cS (zA @cT (zA @y1B cI))))) ?_|refine cP c1 ?_|refine cP c2 ?_|refine cP t1 ?_|refine cP t2 ?_|refine cP ca ?_|refine cP cm ?_|refine cP cl ?_|exact zT)
  ·rw [decide_eq_false h1] at kx
   clear hx h1
   repeat (first|refine zQ (zA @XQ.eq_1 (zA @Q.eq_1 (zA @cS (zA @cT (zA @y1B (zA @z0a (zA kx (zA ky cI)))))))) ?_|refine cP v1 ?_|refine cP v2 ?_|exact zT)
   refine wFs ?_
   repeat (first|refine zQ (zA @I.eq_1 (zA @Q.eq_1 (zA @cS (zA @cT (zA @y1B cI))))) ?_|refine cP c1 ?_|refine cP c2 ?_|refine cP t1 ?_|refine cP t2 ?_|refine cP ca ?_|refine cP cm ?_|refine cP cl ?_|exact zT)
theorem y1M (n1:Bool) (a d:List Nat) (n2:Bool) (b e:List Nat) (ha:a.length≤4400) (hd:d.length≤4400) (hb:b.length≤4400) (he:e.length≤4400) (la:lim a) (ld:lim d) (lb:lim b) (le:lim e) :
  z0c prog 157 [XQ n1 a d,XQ n2 b e] (Q (rv n1 a d*rv n2 b e)):=by
 have v1:=z2b n1 a d (by omega) (by omega) la ld
 have v2:=z2b n2 b e (by omega) (by omega) lb le
 have k1:RB (rv n1 a d) 4400:=z5b la ld ha hd (by decide)
 have k2:RB (rv n2 b e) 4400:=z5b lb le hb he (by decide)
 generalize rv n1 a d=x at *
 generalize rv n2 b e=y at *
 have kx:=dk1 x
 have ky:=dk1 y
 have ca:=w51 x.num y.num (Nat.le_trans k1.1 (by decide)) (Nat.le_trans k2.1 (by decide))
 refine z0b w3R (by simp [x3f]) ?_
 unfold y8j
 by_cases hx:x.den=1∧y.den=1
 ·rw [x7p hx.1 hx.2,x17]
  rw [decide_eq_true hx.1] at kx
  rw [decide_eq_true hx.2] at ky
  clear k1 k2
  repeat (first|refine zQ (zA @XQ.eq_1 (zA @Q.eq_1 (zA @cS (zA @cT (zA @y1C (zA @z0a (zA kx (zA ky cI)))))))) ?_|refine cP v1 ?_|refine cP v2 ?_|exact zT)
  refine wT ?_
  repeat (first|refine zQ (zA @I.eq_1 (zA @cS (zA @cT (zA @y1C cI)))) ?_|refine cP ca ?_|exact zT)
  exact z0i (z07 rfl rfl rfl (z5a _ _ _ _ rfl))
 ·rw [Rat.mul_def']
  have b1:=z44 k1.1 k2.1
  have cm:=w03 x.den y.den (Nat.le_trans k1.2 (by decide)) (Nat.le_trans k2.2 (by decide))
  have cl:=z49 (x.num*y.num) (x.den*y.den) (Nat.mul_ne_zero x.den_nz y.den_nz) (Nat.le_trans b1 (by decide)) (Nat.le_trans (z6O k1.2 k2.2) (by decide))
  have c1:=z3P x
  have c2:=z3P y
  clear k1 k2 b1
  by_cases h1:x.den=1
  ·rw [decide_eq_true h1] at kx
   rw [decide_eq_false (fun h2=>hx ⟨h1,h2⟩)] at ky
   clear hx h1
   repeat (first|refine zQ (zA @XQ.eq_1 (zA @Q.eq_1 (zA @cS (zA @cT (zA @y1C (zA @z0a (zA kx (zA ky cI)))))))) ?_|refine cP v1 ?_|refine cP v2 ?_|exact zT)
   refine wFs ?_
   repeat (first|refine zQ (zA @I.eq_1 (zA @Q.eq_1 (zA @cS (zA @cT (zA @y1C cI))))) ?_|refine cP c1 ?_|refine cP c2 ?_|refine cP ca ?_|refine cP cm ?_|refine cP cl ?_|exact zT)
  ·rw [decide_eq_false h1] at kx
   clear hx h1
   repeat (first|refine zQ (zA @XQ.eq_1 (zA @Q.eq_1 (zA @cS (zA @cT (zA @y1C (zA @z0a (zA kx (zA ky cI)))))))) ?_|refine cP v1 ?_|refine cP v2 ?_|exact zT)
   refine wFs ?_
   repeat (first|refine zQ (zA @I.eq_1 (zA @Q.eq_1 (zA @cS (zA @cT (zA @y1C cI))))) ?_|refine cP c1 ?_|refine cP c2 ?_|refine cP ca ?_|refine cP cm ?_|refine cP cl ?_|exact zT)
theorem w6C (x y:Rat) (h1:RB x 4400) (h2:RB y 4400):z0c prog 157 [Q x,Q y] (Q (x*y)):=by
 have:=y1M (decide (x.num<0)) (limbs x.num.natAbs) (dn x.den) (decide (y.num<0)) (limbs y.num.natAbs) (dn y.den) h1.1 (z6k h1) h2.1 (z6k h2) (z0e _) (z2U _) (z0e _) (z2U _)
 rwa [x1Y,x1Y] at this
theorem z9K (neg:Bool) (a d:List Nat) (ha:a.length≤9000) (hd:d.length≤9000) (la:lim a) (ld:lim d):z0c prog 234 [XQ neg a d] (.int .i64 (rv neg a d).num.sign):=by
 have v1:=z2b neg a d ha hd la ld
 have k1:RB (rv neg a d) 9000:=z5b la ld ha hd (by decide)
 generalize rv neg a d=x at *
 have cs:=w3y x.num (Nat.le_trans k1.1 (by decide))
 refine z0b w0C (by simp [y6t]) ?_
 unfold y3Y
 repeat (first|refine zQ (zA @XQ.eq_1 (zA @Q.eq_1 (zA @cS (zA @cT (zA @w06 cI))))) ?_|refine cP v1 ?_|refine cP cs ?_|exact zT)
theorem w5X (d:Nat):limbs (vn (dn d))=dn d:=z1E (z2U d) (x9B d)
theorem x73 (z:Int):decide (z.sign<0)=decide (z<0):=by rw [decide_eq_decide];exact ⟨fun h=>Int.sign_neg_iff.1 h,fun h=>Int.sign_neg_iff.2 h⟩
theorem z3g (v:Int) (h1 : -9223372036854775808≤v) (h2:v≤9223372036854775807):z0c prog 80 [.int .i64 v] (Q (v:Rat)):=by
 have ci:=y0g v h1 h2
 rw [x17]
 refine z0b x0N (by simp [z6F]) ?_
 unfold z7k
 repeat (first|refine zQ (zA @I.eq_1 (zA @cS (zA @cT (zA @x1b cI)))) ?_|refine cP ci ?_|exact zT)
 exact z0i (z07 rfl rfl rfl (z5a _ _ _ _ rfl))
theorem x9t (x:Int) (h1:il x≤9000):z0c prog 59 [I x] (.int .i64 x.sign):=by
 have:=y7t (decide (x<0)) (limbs x.natAbs) (Nat.le_trans h1 (by decide)) (z0e _)
 rwa [y4T] at this
theorem w1U (x:Int) (h1:il x≤9000):z0c prog 112 [I x] (I (-x)):=by
 have:=x1M (decide (x<0)) (limbs x.natAbs) h1 (z0e _)
 rwa [y4T] at this
theorem w6M (x y:Int) (h1:il x≤9000) (h2:il y≤9000):z0c prog 56 [I x,I y] (I (x+y)):=by
 have:=x1I (decide (x<0)) (limbs x.natAbs) (decide (y<0)) (limbs y.natAbs) h1 h2 (z0e _) (z0e _)
 rwa [y4T,y4T] at this
theorem y7s (x y:Int) (h1:il x≤9000) (h2:il y≤9000):z0c prog 57 [I x,I y] (I (x*y)):=by
 have:=x1L (decide (x<0)) (limbs x.natAbs) (decide (y<0)) (limbs y.natAbs) h1 h2 (z0e _) (z0e _)
 rwa [y4T,y4T] at this
theorem w47 (x y:Int) (h1:il x≤9000) (h2:il y≤9000):z0c prog 114 [I x,I y] (.tup [I (x / y),I (w53 x y),.bool (decide (¬y=0))]):=by
 have:=x1J (decide (x<0)) (limbs x.natAbs) (decide (y<0)) (limbs y.natAbs) h1 h2 (z0e _) (z0e _)
 rwa [y4T,y4T] at this
theorem w6N (x y:Int) (h1:il x≤9000) (h2:il y≤9000):z0c prog 113 [I x,I y] (.sl 1 (us (limbs (Nat.gcd x.natAbs y.natAbs)))):=by
 have:=x1K (decide (x<0)) (limbs x.natAbs) (decide (y<0)) (limbs y.natAbs) h1 h2 (z0e _) (z0e _)
 rwa [y4T,y4T] at this
theorem y3B (n:Nat):I (n:Int)=.agg [.bool false,.sl 1 (us (limbs n))]:=by
 unfold I;rw [zF9,Int.natAbs_natCast]
theorem z5k (n:Nat):z0c prog 115 [.sl 1 (us (limbs n))] (.bool (decide (n=1))):=by
 refine z0b w0B (by simp [x3d]) ?_
 unfold y3X
 have e0:(Int.toNat 0)=0:=rfl
 by_cases h0:n=0
 ·subst h0
  have k:decide (((limbs 0).length:Int)=1)=false:=by rw [z0s];rfl
  rw [decide_eq_false (show ¬(0:Nat)=1 by decide)]
  refine zS (zA @z0a (zA @k cI)) ?_
  exact z0i (z0h (.imm rfl))
 ·by_cases h1:n<4294967296
  ·have e:us (limbs n)=[.int .u32 (n:Int)]:=by rw [z5Z h0 h1];rfl
   have k:decide (((n:Nat):Int)=1)=decide (n=1):=by rw [decide_eq_decide];omega
   have k1:decide (((1:Nat):Int)=1)=true:=rfl
   rw [e]
   repeat (first|refine z0d ?_|refine z0g ?_|refine z0p ?_|refine z0f ?_|refine And.intro (by omega) ?_|simp (maxSteps:=1000000) (disch:=omega) only [cA,cB,cN,FnD.nb,lk,lkH,Dst.onT,Dst.onX,Dst.slot,z0W,z0N,z0J,z0X,z0u,z0V,unE,cnt,z0j,z0t,z0m,z0o,opE,rmH,z02,z0n,Nat.reduceEqDiff,Nat.reduceLT,Nat.reduceAdd,Nat.reduceMul,Nat.reduceMod,↓reduceIte,reduceCtorEq,Nat.reduceLeDiff,e0,k,k1,List.length_singleton,cI])
   exact z0i (z0h (.imm rfl))
  ·have hl:1<(limbs n).length:=by
    rcases Nat.lt_or_ge 1 (limbs n).length with h|h
    ·exact h
    ·have:=z0B.1 h
     rw [Nat.pow_one] at this
     omega
   have k:decide (((limbs n).length:Int)=1)=false:=zF9
   rw [decide_eq_false (show ¬n=1 by omega)]
   refine zS (zA @z0a (zA @k cI)) ?_
   exact z0i (z0h (.imm rfl))
theorem z7P (neg:Bool) (a d:List Nat) (ha:a.length≤9000) (hd:d.length≤9000) (la:lim a) (ld:lim d):z0c prog 94 [XQ neg a d] (.bool (z5p neg a d)):=by
 have c1:=z7U neg a (by omega)
 have c2:=z4x d (by omega)
 have c4:=y1O a d (by omega) (by omega) la ld
 have c5:=z5k (Nat.gcd (vn a) (vn d))
 have e5:∀n:Nat,decide (n=1)=decide (1=n):=fun n=>by rw [decide_eq_decide];exact eq_comm
 rw [e5] at c5
 have c3:=z5k (vn d)
 have ed:=z1E ld
 refine z0b x60 (by simp [y2m]) ?_
 unfold y0O z5p
 generalize hV:y3u neg a=p1 at *
 generalize vld d=p2 at *
 generalize Nat.gcd (vn a) (vn d)=G at *
 clear e5
 have k1:decide ((0:Int)<a.length)=decide (0<a.length):=by rw [decide_eq_decide];omega
 have k2:decide ((d.length:Int)=0)=decide (d.length=0):=by rw [decide_eq_decide];omega
 cases p1
 ·simp only [Bool.false_and]
  repeat (first|refine zQ (zA @XQ.eq_1 (zA @X.eq_1 (zA @cS (zA @cT (zA @z1S (zA @z0a cI)))))) ?_|refine cP c1 ?_|refine cP c2 ?_|exact zT)
  refine wT ?_
  refine zS (zA @cS (zA @z1S cI)) ?_
  exact z0i (z0h (.imm rfl))
 ·cases p2
  ·simp only [Bool.true_and,Bool.false_and]
   repeat (first|refine zQ (zA @XQ.eq_1 (zA @X.eq_1 (zA @cS (zA @cT (zA @z1S (zA @z0a cI)))))) ?_|refine cP c1 ?_|refine cP c2 ?_|exact zT)
   refine wT ?_
   refine zS (zA @cS (zA @z1S cI)) ?_
   exact z0i (z0h (.imm rfl))
  ·simp only [Bool.true_and]
   rw [ed rfl] at c3
   by_cases h0:d.length=0
   ·have hD:¬vn d=1:=by rw [List.eq_nil_of_length_eq_zero h0];decide
    rw [decide_eq_false hD] at c3
    rw [decide_eq_true h0] at k2 ⊢
    simp only [Bool.true_or]
    repeat (first|refine z0d ?_|refine z0g ?_|refine z0p ?_|refine z0f ?_|refine And.intro (by omega) ?_|simp (maxSteps:=1000000) (disch:=omega) only [cA,cB,cN,FnD.nb,lk,lkH,Dst.onT,Dst.onX,Dst.slot,z0W,z0N,z0J,z0X,z0u,z0V,unE,cnt,z0j,z0t,z0m,z0o,opE,rmH,z02,z0n,Nat.reduceEqDiff,Nat.reduceLT,Nat.reduceAdd,Nat.reduceMul,Nat.reduceMod,↓reduceIte,reduceCtorEq,Nat.reduceLeDiff,XQ,X,cS,cT,z1S,z0a,k2,cI]|refine cP c1 ?_|refine cP c2 ?_|refine cP c3 ?_|exact zT)
    refine wFs ?_
    repeat (first|refine z0d ?_|refine z0g ?_|refine z0p ?_|refine z0f ?_|refine And.intro (by omega) ?_|simp (maxSteps:=1000000) (disch:=omega) only [cA,cB,cN,FnD.nb,lk,lkH,Dst.onT,Dst.onX,Dst.slot,z0W,z0N,z0J,z0X,z0u,z0V,unE,cnt,z0j,z0t,z0m,z0o,opE,rmH,z02,z0n,Nat.reduceEqDiff,Nat.reduceLT,Nat.reduceAdd,Nat.reduceMul,Nat.reduceMod,↓reduceIte,reduceCtorEq,Nat.reduceLeDiff,XQ,X,cS,cT,z1S,z0a,k2,cI]|refine cP c1 ?_|refine cP c2 ?_|exact zT)
   ·rw [decide_eq_false h0] at k2 ⊢
    simp only [Bool.false_or]
    by_cases hD:vn d=1
    ·rw [decide_eq_true hD] at c3
     rw [decide_eq_false (show ¬¬vn d=1 from fun h=>h hD)]
     simp only [Bool.false_and,Bool.and_false]
     repeat (first|refine z0d ?_|refine z0g ?_|refine z0p ?_|refine z0f ?_|refine And.intro (by omega) ?_|simp (maxSteps:=1000000) (disch:=omega) only [cA,cB,cN,FnD.nb,lk,lkH,Dst.onT,Dst.onX,Dst.slot,z0W,z0N,z0J,z0X,z0u,z0V,unE,cnt,z0j,z0t,z0m,z0o,opE,rmH,z02,z0n,Nat.reduceEqDiff,Nat.reduceLT,Nat.reduceAdd,Nat.reduceMul,Nat.reduceMod,↓reduceIte,reduceCtorEq,Nat.reduceLeDiff,XQ,X,cS,cT,z1S,z0a,k2,cI]|refine cP c1 ?_|refine cP c2 ?_|refine cP c3 ?_|exact zT)
     refine wT ?_
     refine zS (zA @cS (zA @z1S cI)) ?_
     exact z0i (z0h (.imm rfl))
    ·rw [decide_eq_false hD] at c3
     rw [decide_eq_true (show ¬vn d=1 from hD)]
     simp only [Bool.and_true]
     by_cases ha0:0<a.length
     ·rw [decide_eq_true ha0] at k1 ⊢
      simp only [Bool.true_and]
      repeat (first|refine z0d ?_|refine z0g ?_|refine z0p ?_|refine z0f ?_|refine And.intro (by omega) ?_|simp (maxSteps:=1000000) (disch:=omega) only [cA,cB,cN,FnD.nb,lk,lkH,Dst.onT,Dst.onX,Dst.slot,z0W,z0N,z0J,z0X,z0u,z0V,unE,cnt,z0j,z0t,z0m,z0o,opE,rmH,z02,z0n,Nat.reduceEqDiff,Nat.reduceLT,Nat.reduceAdd,Nat.reduceMul,Nat.reduceMod,↓reduceIte,reduceCtorEq,Nat.reduceLeDiff,XQ,X,cS,cT,z1S,z0a,k1,k2,cI]|refine cP c1 ?_|refine cP c2 ?_|refine cP c3 ?_|exact zT)
      refine wFs ?_
      repeat (first|refine z0d ?_|refine z0g ?_|refine z0p ?_|refine z0f ?_|refine And.intro (by omega) ?_|simp (maxSteps:=1000000) (disch:=omega) only [cA,cB,cN,FnD.nb,lk,lkH,Dst.onT,Dst.onX,Dst.slot,z0W,z0N,z0J,z0X,z0u,z0V,unE,cnt,z0j,z0t,z0m,z0o,opE,rmH,z02,z0n,Nat.reduceEqDiff,Nat.reduceLT,Nat.reduceAdd,Nat.reduceMul,Nat.reduceMod,↓reduceIte,reduceCtorEq,Nat.reduceLeDiff,XQ,X,cS,cT,z1S,z0a,k1,k2,cI]|refine cP c4 ?_|refine cP c5 ?_|exact zT)
     ·rw [decide_eq_false ha0] at k1 ⊢
      simp only [Bool.false_and]
      repeat (first|refine z0d ?_|refine z0g ?_|refine z0p ?_|refine z0f ?_|refine And.intro (by omega) ?_|simp (maxSteps:=1000000) (disch:=omega) only [cA,cB,cN,FnD.nb,lk,lkH,Dst.onT,Dst.onX,Dst.slot,z0W,z0N,z0J,z0X,z0u,z0V,unE,cnt,z0j,z0t,z0m,z0o,opE,rmH,z02,z0n,Nat.reduceEqDiff,Nat.reduceLT,Nat.reduceAdd,Nat.reduceMul,Nat.reduceMod,↓reduceIte,reduceCtorEq,Nat.reduceLeDiff,XQ,X,cS,cT,z1S,z0a,k1,k2,cI]|refine cP c1 ?_|refine cP c2 ?_|refine cP c3 ?_|exact zT)
      refine wFs ?_
      repeat (first|refine z0d ?_|refine z0g ?_|refine z0p ?_|refine z0f ?_|refine And.intro (by omega) ?_|simp (maxSteps:=1000000) (disch:=omega) only [cA,cB,cN,FnD.nb,lk,lkH,Dst.onT,Dst.onX,Dst.slot,z0W,z0N,z0J,z0X,z0u,z0V,unE,cnt,z0j,z0t,z0m,z0o,opE,rmH,z02,z0n,Nat.reduceEqDiff,Nat.reduceLT,Nat.reduceAdd,Nat.reduceMul,Nat.reduceMod,↓reduceIte,reduceCtorEq,Nat.reduceLeDiff,XQ,X,cS,cT,z1S,z0a,k1,k2,cI]|refine cP c4 ?_|refine cP c5 ?_|exact zT)
theorem x1S {neg:Bool} {a d:List Nat} (h:z5p neg a d=true):y3u neg a=true∧vld d=true:=by
 unfold z5p at h
 simp only [Bool.and_eq_true] at h
 exact h.1
theorem z1r (neg:Bool) (a d:List Nat) (ha:a.length≤9000) (hd:d.length≤9000) (la:lim a) (ld:lim d):z0c prog 43 [XQ neg a d] (Q (rv neg a d)):=by
 have cv:=z7P neg a d ha hd la ld
 have c1:=z09 neg a (by omega) la
 have c2:=z01 d (by omega) ld
 refine z0b w0A (by simp [y6s]) ?_
 unfold y3W
 by_cases hv:z5p neg a d=true
 ·rw [hv] at cv
  obtain ⟨v1,v2⟩:=x1S hv
  rw [←X_I la v1] at c1
  rw [z1E ld v2] at c2
  rw [←w65 la ld hv]
  repeat (first|refine zQ (zA @XQ.eq_1 (zA @X.eq_1 (zA @cS (zA @cT (zA @y2U cI))))) ?_|refine cP cv ?_|exact zT)
  refine wFs ?_
  repeat (first|refine zQ (zA @XQ.eq_1 (zA @X.eq_1 (zA @cS (zA @cT (zA @y2U cI))))) ?_|refine cP c1 ?_|refine cP c2 ?_|exact zT)
 ·have hv:z5p neg a d=false:=by simpa using hv
  rw [hv] at cv
  rw [y9U hv,Q0]
  repeat (first|refine zQ (zA @XQ.eq_1 (zA @cS (zA @y2U cI))) ?_|refine cP cv ?_|exact zT)
  refine wT ?_
  refine zS (zA @cS (zA @y2U cI)) ?_
  exact z0i (z07 rfl rfl rfl (x13 _ _ _))
theorem z2K (r:Rat) (h:RB r 10000):z0c prog 58 [Q r] (I (r.den:Int)):=by
 have c2:=z01 (dn r.den) (Nat.le_trans (z6k h) (by decide)) (z2U _)
 rw [w5X] at c2
 refine z0b w3M (by simp [x29]) ?_
 unfold y8e
 rw [y3B]
 have k:=dk1 r
 by_cases h:r.den=1
 ·rw [decide_eq_true h] at k
  have e:limbs r.den=limbs 1:=by rw [h]
  rw [e]
  repeat (first|refine zQ (zA @Q.eq_1 (zA @cS (zA @cT (zA @y9w (zA @z0a (zA @k cI)))))) ?_|refine cP c2 ?_|exact zT)
  refine wT ?_
  refine zS (zA @cS (zA @cT (zA @y9w (zA @w5H (zA @y98 cI))))) ?_
  exact z0i (z07 rfl rfl rfl (.imm rfl))
 ·rw [decide_eq_false h] at k
  have e:limbs r.den=dn r.den:=by unfold dn;rw [if_neg h]
  rw [e]
  repeat (first|refine zQ (zA @Q.eq_1 (zA @cS (zA @cT (zA @y9w (zA @z0a (zA @k cI)))))) ?_|refine cP c2 ?_|exact zT)
  refine wFs ?_
  repeat (first|refine zQ (zA @cS (zA @cT (zA @y9w cI))) ?_|refine cP c2 ?_|exact zT)
theorem w7o (z:Int) (d:Nat) (h:d≠0):Q (mkRat z d)=.agg [.bool (decide (z / ((Nat.gcd z.natAbs d:Nat):Int)<0)),.sl 1 (us (limbs (z / ((Nat.gcd z.natAbs d:Nat):Int)).natAbs)),.sl 1 (us (dn (d / Nat.gcd z.natAbs d)))]:=by
 unfold Q
 rw [Rat.num_mkRat,Rat.den_mkRat,if_neg h,if_neg h,Nat.gcd_comm d]
theorem z3b (x y:Int) (hy:y≠0) (h1:il x≤9000) (h2:il y≤9000):z0c prog 55 [I x,I y] (Q (Rat.divInt x y)):=by
 have cs:=x9t y h2
 have e1:=x73 y
 refine z0b x61 (by simp [y2n]) ?_
 unfold y0P
 have key:∃(z:Int) (d:Nat),d≠0∧Rat.divInt x y=mkRat z d∧il z≤9000∧(limbs d).length≤9000∧(y<0→-x=z∧-y=(d:Int))∧(¬y<0→x=z∧y=(d:Int)):=by
  by_cases hn:y<0
  ·exact ⟨-x,y.natAbs,by omega,y01 x hn,by rw [w3z];exact h1,h2,fun _=>⟨rfl,by omega⟩,fun h=>absurd hn h⟩
  ·exact ⟨x,y.natAbs,by omega,z6w x (by omega),h1,h2,fun h=>absurd h hn,fun _=>⟨rfl,by omega⟩⟩
 obtain ⟨z,d,hd,hq,lz,ld,kn,kp⟩:=key
 rw [hq,w7o z d hd]
 have hgl:(limbs (Nat.gcd z.natAbs d)).length≤9000:=Nat.le_trans (z1I (Nat.gcd_le_right _ (Nat.pos_of_ne_zero hd))) ld
 have cg:=w6N z (d:Int) lz (z1L ld)
 rw [Int.natAbs_natCast] at cg
 have c1:=w47 z ((Nat.gcd z.natAbs d:Nat):Int) lz (z1L hgl)
 have c2:=w47 (d:Int) ((Nat.gcd z.natAbs d:Nat):Int) (z1L ld) (z1L hgl)
 rw [show ((d:Int) / ((Nat.gcd z.natAbs d:Nat):Int))=((d / Nat.gcd z.natAbs d:Nat):Int) from rfl,y3B (Nat.gcd z.natAbs d),y3B (d / Nat.gcd z.natAbs d)] at c2
 rw [y3B (Nat.gcd z.natAbs d)] at c1
 have c3:=z5k (d / Nat.gcd z.natAbs d)
 rw [y3B d] at c2 cg
 have hdn:¬d / Nat.gcd z.natAbs d=1→dn (d / Nat.gcd z.natAbs d)=limbs (d / Nat.gcd z.natAbs d):=fun h=>by unfold dn;rw [if_neg h]
 have hdn1:d / Nat.gcd z.natAbs d=1→dn (d / Nat.gcd z.natAbs d)=[]:=fun h=>by rw [h,y02]
 generalize hG:((Nat.gcd z.natAbs d:Nat):Int)=GI at *
 generalize Nat.gcd z.natAbs d=G at *
 generalize d / G=E at *
 generalize z / GI=Z at *
 by_cases hn:y<0
 ·rw [decide_eq_true hn] at e1
  obtain ⟨k1,k2⟩:=kn hn
  have cn1:=w1U x h1
  have cn2:=w1U y h2
  rw [k1] at cn1
  rw [k2,y3B] at cn2
  by_cases hE:E=1
  ·rw [hdn1 hE]
   rw [decide_eq_true hE] at c3
   clear hdn hdn1 kn kp
   repeat (first|refine zQ (zA @I.eq_1 (zA @cS (zA @cT (zA @z1T (zA e1 cI))))) ?_|refine cP cs ?_|exact zT)
   refine wT ?_
   repeat (first|refine zQ (zA @I.eq_1 (zA @cS (zA @cT (zA @z1T cI)))) ?_|refine cP cn1 ?_|refine cP cn2 ?_|refine cP cg ?_|refine cP c1 ?_|refine cP c2 ?_|refine cP c3 ?_|exact zT)
   refine wT ?_
   refine zS (zA @I.eq_1 (zA @cS (zA @cT (zA @z1T cI)))) ?_
   exact z0i (z07 rfl rfl rfl (z5a _ _ _ _ rfl))
  ·rw [hdn hE]
   rw [decide_eq_false hE] at c3
   clear hdn hdn1 kn kp
   repeat (first|refine zQ (zA @I.eq_1 (zA @cS (zA @cT (zA @z1T (zA e1 cI))))) ?_|refine cP cs ?_|exact zT)
   refine wT ?_
   repeat (first|refine zQ (zA @I.eq_1 (zA @cS (zA @cT (zA @z1T cI)))) ?_|refine cP cn1 ?_|refine cP cn2 ?_|refine cP cg ?_|refine cP c1 ?_|refine cP c2 ?_|refine cP c3 ?_|exact zT)
   refine wFs ?_
   refine zS (zA @I.eq_1 (zA @cS (zA @cT (zA @z1T cI)))) ?_
   exact z0i (z07 rfl rfl rfl (.imm rfl))
 ·rw [decide_eq_false hn] at e1
  obtain ⟨k1,k2⟩:=kp hn
  subst k1
  rw [k2,y3B]
  rw [k2,y3B] at cs
  rw [k2] at e1
  by_cases hE:E=1
  ·rw [hdn1 hE]
   rw [decide_eq_true hE] at c3
   clear hdn hdn1 kn kp
   repeat (first|refine zQ (zA @I.eq_1 (zA @cS (zA @cT (zA @z1T (zA e1 cI))))) ?_|refine cP cs ?_|exact zT)
   refine wFs ?_
   repeat (first|refine zQ (zA @I.eq_1 (zA @cS (zA @cT (zA @z1T cI)))) ?_|refine cP cg ?_|refine cP c1 ?_|refine cP c2 ?_|refine cP c3 ?_|exact zT)
   refine wT ?_
   refine zS (zA @I.eq_1 (zA @cS (zA @cT (zA @z1T cI)))) ?_
   exact z0i (z07 rfl rfl rfl (z5a _ _ _ _ rfl))
  ·rw [hdn hE]
   rw [decide_eq_false hE] at c3
   clear hdn hdn1 kn kp
   repeat (first|refine zQ (zA @I.eq_1 (zA @cS (zA @cT (zA @z1T (zA e1 cI))))) ?_|refine cP cs ?_|exact zT)
   refine wFs ?_
   repeat (first|refine zQ (zA @I.eq_1 (zA @cS (zA @cT (zA @z1T cI)))) ?_|refine cP cg ?_|refine cP c1 ?_|refine cP c2 ?_|refine cP c3 ?_|exact zT)
   refine wFs ?_
   refine zS (zA @I.eq_1 (zA @cS (zA @cT (zA @z1T cI)))) ?_
   exact z0i (z07 rfl rfl rfl (.imm rfl))
theorem z47 (v:Int) (h1 : -9223372036854775808≤v) (h2:v≤9223372036854775807):z0c prog 44 [.int .i64 v] (Q (v:Rat)):=by
 have ci:=z3l v h1 h2
 rw [x17]
 refine z0b x0M (by simp [z6E]) ?_
 unfold z7j
 repeat (first|refine zQ (zA @I.eq_1 (zA @cS (zA @cT (zA @x1a cI)))) ?_|refine cP ci ?_|exact zT)
 exact z0i (z07 rfl rfl rfl (z5a _ _ _ _ rfl))
theorem y6T (neg:Bool) (a d:List Nat) (ha:a.length≤9000) (hd:d.length≤9000) (la:lim a) (ld:lim d):z0c prog 28 [XQ neg a d] (.int .i64 (rv neg a d).num.sign):=by
 have v1:=z1r neg a d ha hd la ld
 have k1:RB (rv neg a d) 9000:=z5b la ld ha hd (by decide)
 generalize rv neg a d=x at *
 have cs:=x9t x.num k1.1
 refine z0b w0z (by simp [y6r]) ?_
 unfold y3V
 repeat (first|refine zQ (zA @XQ.eq_1 (zA @Q.eq_1 (zA @cS (zA @cT (zA @w05 cI))))) ?_|refine cP v1 ?_|refine cP cs ?_|exact zT)
theorem w4V (x:Rat) (h1:RB x 9000):z0c prog 28 [Q x] (.int .i64 x.num.sign):=by
 have:=y6T (decide (x.num<0)) (limbs x.num.natAbs) (dn x.den) h1.1 (z6k h1) (z0e _) (z2U _)
 rwa [x1Y] at this
theorem x1g (neg:Bool) (a d:List Nat) (ha:a.length≤9000) (hd:d.length≤9000) (la:lim a) (ld:lim d):z0c prog 185 [XQ neg a d] (Q (-(rv neg a d))):=by
 have v1:=z1r neg a d ha hd la ld
 have k1:RB (rv neg a d) 9000:=z5b la ld ha hd (by decide)
 generalize rv neg a d=x at *
 have cs:=w1U x.num k1.1
 refine z0b w3O (by simp [x3b]) ?_
 unfold y8g
 repeat (first|refine zQ (zA @XQ.eq_1 (zA @Q.eq_1 (zA @I.eq_1 (zA @cS (zA @cT (zA @w4z cI)))))) ?_|refine cP v1 ?_|refine cP cs ?_|exact zT)
theorem w6y (x:Rat) (h1:RB x 9000):z0c prog 185 [Q x] (Q (-x)):=by
 have:=x1g (decide (x.num<0)) (limbs x.num.natAbs) (dn x.den) h1.1 (z6k h1) (z0e _) (z2U _)
 rwa [x1Y] at this
theorem y0Z (x y:Rat):((x.den:Int)*(y.den:Int))≠0:=Int.mul_ne_zero (by have:=x.den_nz;omega) (by have:=y.den_nz;omega)
theorem x0h (x y:Rat):Rat.divInt (x.num*y.den+y.num*x.den) ((x.den:Int)*(y.den:Int))=x+y:=by
 rw [Rat.add_def',←Int.natCast_mul,Rat.divInt_ofNat]
theorem x04 (x y:Rat):Rat.divInt (x.num*y.num) ((x.den:Int)*(y.den:Int))=x*y:=by
 rw [Rat.mul_def',←Int.natCast_mul,Rat.divInt_ofNat]
theorem x1e (n1:Bool) (a d:List Nat) (n2:Bool) (b e:List Nat) (ha:a.length≤4400) (hd:d.length≤4400) (hb:b.length≤4400) (he:e.length≤4400) (la:lim a) (ld:lim d) (lb:lim b) (le:lim e) :
  z0c prog 26 [XQ n1 a d,XQ n2 b e] (Q (rv n1 a d+rv n2 b e)):=by
 have v1:=z1r n1 a d (by omega) (by omega) la ld
 have v2:=z1r n2 b e (by omega) (by omega) lb le
 have k1:RB (rv n1 a d) 4400:=z5b la ld ha hd (by decide)
 have k2:RB (rv n2 b e) 4400:=z5b lb le hb he (by decide)
 generalize rv n1 a d=x at *
 generalize rv n2 b e=y at *
 rw [←x0h]
 have t1:=y7s x.num y.den (Nat.le_trans k1.1 (by decide)) (z1L (Nat.le_trans k2.2 (by decide)))
 have t2:=y7s y.num x.den (Nat.le_trans k2.1 (by decide)) (z1L (Nat.le_trans k1.2 (by decide)))
 have t3:=y7s x.den y.den (z1L (Nat.le_trans k1.2 (by decide))) (z1L (Nat.le_trans k2.2 (by decide)))
 have b1:=z44 k1.1 (z1L k2.2)
 have b2:=z44 k2.1 (z1L k1.2)
 have b4:=z44 (z1L k1.2) (z1L k2.2)
 have b3:=x9a b1 b2
 have ca:=w6M (x.num*y.den) (y.num*x.den) (Nat.le_trans b1 (by decide)) (Nat.le_trans b2 (by decide))
 have cl:=z3b (x.num*y.den+y.num*x.den) ((x.den:Int)*(y.den:Int)) (y0Z x y) (Nat.le_trans b3 (by decide)) (Nat.le_trans b4 (by decide))
 have c1:=z2K x (k1.mono (by decide))
 have c2:=z2K y (k2.mono (by decide))
 clear k1 k2 b1 b2 b3 b4
 refine z0b w3L (by simp [x28]) ?_
 unfold y8d
 repeat (first|refine zQ (zA @XQ.eq_1 (zA @Q.eq_1 (zA @I.eq_1 (zA @cS (zA @cT (zA @w4x cI)))))) ?_|refine cP v1 ?_|refine cP v2 ?_|refine cP c1 ?_|refine cP c2 ?_|refine cP t1 ?_|refine cP t2 ?_|refine cP t3 ?_|refine cP ca ?_|refine cP cl ?_|exact zT)
theorem w6v (x y:Rat) (h1:RB x 4400) (h2:RB y 4400):z0c prog 26 [Q x,Q y] (Q (x+y)):=by
 have:=x1e (decide (x.num<0)) (limbs x.num.natAbs) (dn x.den) (decide (y.num<0)) (limbs y.num.natAbs) (dn y.den) h1.1 (z6k h1) h2.1 (z6k h2) (z0e _) (z2U _) (z0e _) (z2U _)
 rwa [x1Y,x1Y] at this
theorem x1f (n1:Bool) (a d:List Nat) (n2:Bool) (b e:List Nat) (ha:a.length≤4400) (hd:d.length≤4400) (hb:b.length≤4400) (he:e.length≤4400) (la:lim a) (ld:lim d) (lb:lim b) (le:lim e) :
  z0c prog 27 [XQ n1 a d,XQ n2 b e] (Q (rv n1 a d*rv n2 b e)):=by
 have v1:=z1r n1 a d (by omega) (by omega) la ld
 have v2:=z1r n2 b e (by omega) (by omega) lb le
 have k1:RB (rv n1 a d) 4400:=z5b la ld ha hd (by decide)
 have k2:RB (rv n2 b e) 4400:=z5b lb le hb he (by decide)
 generalize rv n1 a d=x at *
 generalize rv n2 b e=y at *
 rw [←x04]
 have t1:=y7s x.num y.num (Nat.le_trans k1.1 (by decide)) (Nat.le_trans k2.1 (by decide))
 have t3:=y7s x.den y.den (z1L (Nat.le_trans k1.2 (by decide))) (z1L (Nat.le_trans k2.2 (by decide)))
 have b1:=z44 k1.1 k2.1
 have b4:=z44 (z1L k1.2) (z1L k2.2)
 have cl:=z3b (x.num*y.num) ((x.den:Int)*(y.den:Int)) (y0Z x y) (Nat.le_trans b1 (by decide)) (Nat.le_trans b4 (by decide))
 have c1:=z2K x (k1.mono (by decide))
 have c2:=z2K y (k2.mono (by decide))
 clear k1 k2 b1 b4
 refine z0b w3N (by simp [x3a]) ?_
 unfold y8f
 repeat (first|refine zQ (zA @XQ.eq_1 (zA @Q.eq_1 (zA @I.eq_1 (zA @cS (zA @cT (zA @w4y cI)))))) ?_|refine cP v1 ?_|refine cP v2 ?_|refine cP c1 ?_|refine cP c2 ?_|refine cP t1 ?_|refine cP t3 ?_|refine cP cl ?_|exact zT)
theorem w6x (x y:Rat) (h1:RB x 4400) (h2:RB y 4400):z0c prog 27 [Q x,Q y] (Q (x*y)):=by
 have:=x1f (decide (x.num<0)) (limbs x.num.natAbs) (dn x.den) (decide (y.num<0)) (limbs y.num.natAbs) (dn y.den) h1.1 (z6k h1) h2.1 (z6k h2) (z0e _) (z2U _) (z0e _) (z2U _)
 rwa [x1Y,x1Y] at this
theorem w4K {y:Rat} (h:y≠0):y.num≠0:=fun e=>h (Rat.num_eq_zero.1 e)
theorem x1h (n1:Bool) (a d:List Nat) (n2:Bool) (b e:List Nat) (hy:rv n2 b e≠0) (ha:a.length≤4400) (hd:d.length≤4400) (hb:b.length≤4400) (he:e.length≤4400) (la:lim a) (ld:lim d) (lb:lim b) (le:lim e) :
  z0c prog 187 [XQ n1 a d,XQ n2 b e] (Q (rv n1 a d / rv n2 b e)):=by
 have v1:=z1r n1 a d (by omega) (by omega) la ld
 have v2:=z1r n2 b e (by omega) (by omega) lb le
 have k1:RB (rv n1 a d) 4400:=z5b la ld ha hd (by decide)
 have k2:RB (rv n2 b e) 4400:=z5b lb le hb he (by decide)
 generalize rv n1 a d=x at *
 generalize rv n2 b e=y at *
 rw [←x4W]
 have t1:=y7s x.num y.den (Nat.le_trans k1.1 (by decide)) (z1L (Nat.le_trans k2.2 (by decide)))
 have t3:=y7s x.den y.num (z1L (Nat.le_trans k1.2 (by decide))) (Nat.le_trans k2.1 (by decide))
 have b1:=z44 k1.1 (z1L k2.2)
 have b4:=z44 (z1L k1.2) k2.1
 have cl:=z3b (x.num*y.den) ((x.den:Int)*y.num) (Int.mul_ne_zero (by have:=x.den_nz;omega) (w4K hy)) (Nat.le_trans b1 (by decide)) (Nat.le_trans b4 (by decide))
 have c1:=z2K x (k1.mono (by decide))
 have c2:=z2K y (k2.mono (by decide))
 clear k1 k2 b1 b4
 refine z0b w3P (by simp [x3c]) ?_
 unfold y8h
 repeat (first|refine zQ (zA @XQ.eq_1 (zA @Q.eq_1 (zA @I.eq_1 (zA @cS (zA @cT (zA @w4A cI)))))) ?_|refine cP v1 ?_|refine cP v2 ?_|refine cP c1 ?_|refine cP c2 ?_|refine cP t1 ?_|refine cP t3 ?_|refine cP cl ?_|exact zT)
theorem w6z (x y:Rat) (hy:y≠0) (h1:RB x 4400) (h2:RB y 4400):z0c prog 187 [Q x,Q y] (Q (x / y)):=by
 have:=x1h (decide (x.num<0)) (limbs x.num.natAbs) (dn x.den) (decide (y.num<0)) (limbs y.num.natAbs) (dn y.den) (by rw [x1Y];exact hy) h1.1 (z6k h1) h2.1 (z6k h2) (z0e _) (z2U _) (z0e _) (z2U _)
 rwa [x1Y,x1Y] at this
theorem w6Q (y:Rat):decide (y.num.sign=0)=decide (y=0):=by
 rw [decide_eq_decide]
 exact ⟨fun h=>Rat.num_eq_zero.1 (Int.sign_eq_zero_iff_zero.1 h),fun h=>by rw [h];rfl⟩
theorem z4o {x y:Nat} (h:limbs x=limbs y):x=y:=by
 have:=congrArg vn h;rwa [z0x,z0x] at this
theorem w48 (x y:Int) (h1:il x≤9000) (h2:il y≤9000):z0c prog 60 [I x,I y] (.bool (decide (x=y))):=by
 have ss:=z3R (limbs x.natAbs) (limbs y.natAbs) (Nat.le_trans h1 (by decide)) (Nat.le_trans h2 (by decide))
 refine z0b x4g (by simp [y2q]) ?_
 unfold z8E
 by_cases hb:decide (x<0)=decide (y<0)
 ·have e:decide (limbs x.natAbs=limbs y.natAbs)=decide (x=y):=by
   rw [decide_eq_decide] at hb ⊢
   constructor
   ·intro h
    have:=z4o h
    by_cases hx:x<0
    ·have:=hb.1 hx;omega
    ·have:¬y<0:=fun k=>hx (hb.2 k);omega
   ·rintro rfl;rfl
  have hbb:(decide (x<0) == decide (y<0))=true:=by rw [hb];simp
  rw [e] at ss
  repeat (first|refine zQ (zA @I.eq_1 (zA @cS (zA @x4J (zA hbb cI)))) ?_|refine cP ss ?_|exact zT)
 ·have hbb:(decide (x<0) == decide (y<0))=false:=by simpa using hb
  have e:decide (x=y)=false:=decide_eq_false (fun h=>hb (by rw [h]))
  rw [e]
  repeat (first|refine zQ (zA @I.eq_1 (zA @cS (zA @x4J (zA hbb cI)))) ?_|refine cP ss ?_|exact zT)
theorem w3j {d e:Nat} (hd:d≠0) (he:e≠0) (h:dn d=dn e):d=e:=by
 by_cases h1:d=1
 ·have:(dn e).length=0:=by rw [←h,h1];rfl
  rw [h1,(z6x he).1 this]
 ·by_cases h2:e=1
  ·have:(dn d).length=0:=by rw [h,h2];rfl
   exact absurd ((z6x hd).1 this) h1
  ·unfold dn at h
   rw [if_neg h1,if_neg h2] at h
   exact z4o h
theorem x9n (x y:Rat) (h1:RB x 9000) (h2:RB y 9000):z0c prog 29 [Q x,Q y] (.bool (decide (x=y))):=by
 have c1:=w48 x.num y.num h1.1 h2.1
 have c2:=z3R (dn x.den) (dn y.den) (Nat.le_trans (z6k h1) (by decide)) (Nat.le_trans (z6k h2) (by decide))
 refine z0b x4c (by simp [y2l]) ?_
 unfold z8A
 by_cases hn:x.num=y.num
 ·rw [decide_eq_true hn] at c1
  have e:decide (dn x.den=dn y.den)=decide (x=y):=by
   rw [decide_eq_decide]
   exact ⟨fun h=>Rat.ext hn (w3j x.den_nz y.den_nz h),fun h=>by rw [h]⟩
  rw [e] at c2
  repeat (first|refine zQ (zA @Q.eq_1 (zA @cS (zA @cT (zA @x4H cI)))) ?_|refine cP c1 ?_|refine cP c2 ?_|exact zT)
 ·rw [decide_eq_false hn] at c1
  rw [decide_eq_false (show ¬x=y from fun h=>hn (by rw [h]))]
  repeat (first|refine zQ (zA @Q.eq_1 (zA @cS (zA @cT (zA @x4H cI)))) ?_|refine cP c1 ?_|refine cP c2 ?_|exact zT)
end Go.Proofs.YtlcagndeidjobaaGreatDoor
namespace Go.Proofs.YtlcagndeidjobaaGreatDoor
open Tryz
open Go Go.Dat Go.Proofs Go.RowKit Nat32
theorem y0l (rs:List (List DV)) (hl:rs.length≤1000000) (hr:∀i,(rs.getD i []).length≤1000000):z0c prog 110 [.sl 1 (y29 rs)] (.bool (x6K rs)):=by
 have hlen:=z9S rs
 refine z0b x0I (by simp [y1d]) ?_
 unfold z7f
 by_cases h96:96<rs.length
 ·have d96:decide ((96:Int)<(rs.length:Int))=true:=zT9
  have hf:x6K rs=false:=by unfold x6K;rw [zF9];rfl
  rw [hf]
  refine zS (zA hlen d96) ?_
  refine wT ?_
  refine zR ?_
  exact z0i (z0h (.imm rfl))
 ·have d96:decide ((96:Int)<(rs.length:Int))=false:=zF9
  refine zS (zA hlen d96) ?_
  refine wFs ?_
  refine zR ?_
  refine z0v (σ:=Nat) (fun i=>[(0,.sl 1 (y29 rs)),(3,.int .i64 i)]) (fun _=>[]) (fun i=>i≤rs.length∧∀j,j<i→1≤(rs.getD j []).length / 3∧(rs.getD j []).length / 3≤96∧(rs.getD j []).length / 3=(rs.getD 0 []).length / 3) (fun i=>rs.length - i) 0 ⟨Nat.zero_le _,by simp⟩ ?_ rfl ?_
  ·simp [z0y,lk]
  ·rintro i ⟨hi,hall⟩
   try simp only at hi hall ⊢
   by_cases hlt:i<rs.length
   ·have dl:decide ((i:Int)<(rs.length:Int))=true:=zT9
    have ei:(i:Int).toNat=i:=Int.toNat_natCast i
    have e1:((i:Int)+1)=((i+1:Nat):Int):=by omega
    have e0:Int.toNat 0=0:=rfl
    have hg:=z6a hlt .undef
    have hg0:=z6a (rs:=rs) (i:=0) (by omega) .undef
    have hno:=w0f hlt
    have hri:=hr i
    have hr0:=hr 0
    have hnx:(1≤(rs.getD i []).length / 3∧(rs.getD i []).length / 3≤96∧(rs.getD i []).length / 3=(rs.getD 0 []).length / 3)→∀j,j<i+1→1≤(rs.getD j []).length / 3∧(rs.getD j []).length / 3≤96∧(rs.getD j []).length / 3=(rs.getD 0 []).length / 3:=fun h j hj=>by
     rcases Nat.lt_or_ge j i with g|g
     ·exact hall j g
     ·obtain rfl:j=i:=by omega
      exact h
    generalize rs.getD i []=X at *
    generalize rs.getD 0 []=Y at *
    obtain ⟨a,ha⟩:∃a,a=X.length / 3:=⟨_,rfl⟩
    obtain ⟨b,hb⟩:∃b,b=Y.length / 3:=⟨_,rfl⟩
    rw [←ha,←hb] at hno hnx
    have ha2:=ha.symm
    have hb2:=hb.symm
    by_cases c1:a<1
    ·have d1:decide ((a:Int)<1)=true:=zT9
     rw [hno (by omega)]
     refine zS (zA dl (zA hlen (zA ei (zA hg (zA hg0 (zA ha2 (zA hb2 d1))))))) ?_
     refine wTs ?_
     refine zS (zA dl (zA hlen (zA ei (zA hg (zA hg0 (zA ha2 (zA hb2 d1))))))) ?_
     refine wT ?_
     refine zR ?_
     exact z0i (z0h (.imm rfl))
    ·have d1:decide ((a:Int)<1)=false:=zF9
     by_cases c2:96<a
     ·have d2:decide ((96:Int)<(a:Int))=true:=zT9
      rw [hno (by omega)]
      refine zS (zA dl (zA hlen (zA ei (zA hg (zA hg0 (zA ha2 (zA hb2 (zA d1 d2)))))))) ?_
      refine wTs ?_
      refine zS (zA dl (zA hlen (zA ei (zA hg (zA hg0 (zA ha2 (zA hb2 (zA d1 d2)))))))) ?_
      refine wT ?_
      refine zR ?_
      exact z0i (z0h (.imm rfl))
     ·have d2:decide ((96:Int)<(a:Int))=false:=zF9
      by_cases c3:a=b
      ·have d3:decide (¬(a:Int)=(b:Int))=false:=zF9
       have hnx2:=hnx (by omega)
       refine zS (zA dl (zA hlen (zA ei (zA hg (zA hg0 (zA ha2 (zA hb2 (zA d1 (zA d2 (zA d3 e0)))))))))) ?_
       refine wTs ?_
       refine zS (zA dl (zA hlen (zA ei (zA hg (zA hg0 (zA ha2 (zA hb2 (zA d1 (zA d2 (zA d3 e0)))))))))) ?_
       refine wFs ?_
       refine zS e1 ?_
       exact ⟨i+1,⟨by omega,hnx2⟩,by omega,by simp [z0y,lk]⟩
      ·have d3:decide (¬(a:Int)=(b:Int))=true:=zT9
       rw [hno (by omega)]
       refine zS (zA dl (zA hlen (zA ei (zA hg (zA hg0 (zA ha2 (zA hb2 (zA d1 (zA d2 (zA d3 e0)))))))))) ?_
       refine wTs ?_
       refine zS (zA dl (zA hlen (zA ei (zA hg (zA hg0 (zA ha2 (zA hb2 (zA d1 (zA d2 (zA d3 e0)))))))))) ?_
       refine wT ?_
       refine zR ?_
       exact z0i (z0h (.imm rfl))
   ·have dl:decide ((i:Int)<(rs.length:Int))=false:=zF9
    rw [y8U (by omega) fun j hj=>hall j (by omega)]
    refine zS (zA dl hlen) ?_
    refine z0l rfl (fun h=>by cases h) (fun _=>z0q ?_)
    refine zR ?_
    exact z0i (z0h (.imm rfl))
theorem z9x (rs:List (List DV)) (hl:rs.length≤1000000) (hr:(rs.getD 0 []).length≤1000000):z0c prog 54 [.sl 1 (y29 rs)] (.int .i64 ((rs.getD 0 []).length / 3:Nat)):=by
 have hlen:=z9S rs
 refine z0b y6H (by simp [z89]) ?_
 unfold z5E
 by_cases h0:rs.length=0
 ·have d0:decide ((rs.length:Int)=0)=true:=zT9
  obtain rfl:rs=[]:=List.eq_nil_of_length_eq_zero h0
  have hz:((((([]:List (List DV)).getD 0 []).length / 3:Nat)):Int)=0:=rfl
  rw [hz]
  refine zS (zA hlen d0) ?_
  refine wT ?_
  refine zR ?_
  exact z0i (z0h (.imm rfl))
 ·have d0:decide ((rs.length:Int)=0)=false:=zF9
  have hg0:=z6a (rs:=rs) (i:=0) (by omega) .undef
  have e0:Int.toNat 0=0:=rfl
  refine zS (zA hlen d0) ?_
  refine wFs ?_
  refine zS (zA hlen (zA hg0 e0)) ?_
  exact z0i (z0h (.imm rfl))
theorem y4K {r:Rat} {m:Nat} (h:BS r m) (hm:m≤140800):RB r 4400:=y56 h (by omega)
theorem w4X {x y:Rat} {m p:Nat} (h1:BS x m) (h2:BS y p) (hm:m≤140800) (hp:p≤140800):z0c prog 157 [.agg (z0T x),.agg (z0T y)] (.agg (z0T (x*y))):=w6C x y (y4K h1 hm) (y4K h2 hp)
theorem w4Y {x:XN} (l1:lim x.2.1) (l2:lim x.2.2) (h1:x.2.1.length≤4400) (h2:x.2.2.length≤4400):z0c prog 38 [.agg (xnC x),.agg [.bool false,.nils,.nils]] (.agg (z0T (xnV x))):=by
 have h0:xnV (false,[],[])=0:=by
  have e:qX 0=(false,[],[]):=by
   unfold qX
   have h0:limbs 0=[]:=by unfold limbs;rfl
   have e:(0:Rat).num.natAbs=0:=rfl
   rw [e,h0];rfl
  rw [←e];exact x1V 0
 have:=y1L x.1 x.2.1 x.2.2 false [] [] h1 h2 (by decide) (by decide) l1 l2 z1o z1o
 have e2:rv x.1 x.2.1 x.2.2+rv false [] []=xnV x:=by
  show xnV x+xnV (false,[],[])=xnV x
  rw [h0,Rat.add_zero]
 rw [e2] at this
 exact z5t (.cons (WkD.refl _) (.cons (WkD.agg (.cons (WkD.refl _) (.cons (WkD.nils 1) (.cons (WkD.nils 1) .nil)))) .nil)) this
theorem x9K {j k l:Nat} {r s t:DV} {fr:Fr} {H:Hp} (h1:Exp (lkH H) (lk fr j) r) (h2:Exp (lkH H) (lk fr k) s) (h3:Exp (lkH H) (lk fr l) t):y7T [.t j,.t k,.t l] (.tup [r,s,t]) .ret fr H :=
 ⟨.inr rfl,_,rfl,.tup rfl fun i d x hd hx=>by
  match i with
  | 0=>simp at hd hx;subst hd;subst hx;exact h1
  | 1=>simp at hd hx;subst hd;subst hx;exact h2
  | 2=>simp at hd hx;subst hd;subst hx;exact h3
  | i+3=>simp at hd⟩
structure mtOK (x:List (List XN)) (n k b:Nat):Prop where
 len:x.length=n
 n1:n≤90
 k1:k≤90
 z:n=0→k=0
 row:∀i,i<n→(x.getD i []).length=k
 pos:n≠0→1≤k
 lm:∀i,i<n→∀j,j<k→lim ((x.getD i []).getD j default).2.1∧lim ((x.getD i []).getD j default).2.2∧((x.getD i []).getD j default).2.1.length≤4400∧((x.getD i []).getD j default).2.2.length≤4400
 sz:MS n k (mtX x) b
theorem mtOK.frm {x:List (List XN)} {n k b:Nat} (h:mtOK x n k b):x6K (x.map fun r=>r.flatMap xnC)=true:=by
 have h1:=h.n1
 have h2:=h.k1
 have hl:=h.len
 refine y8U (by rw [List.length_map];omega) fun i hi=>?_
 rw [List.length_map] at hi
 rw [y3v hi,y3v (by omega),z34 z63,z34 z63,h.row i (by omega),h.row 0 (by omega)]
 have:=h.pos (by omega)
 omega
theorem z9G (l:List XN) (hl:l.length≤1000) (ho:∀j,j<l.length→lim (l.getD j default).2.1∧lim (l.getD j default).2.2∧(l.getD j default).2.1.length≤4400∧(l.getD j default).2.2.length≤4400) :
  z0c prog 237 [.sl 3 (l.flatMap xnC)] (.sl 3 (rwC l.length fun j=>xnV (l.getD j default))):=by
 have hln:(l.flatMap xnC).length / 3=l.length:=by rw [z34 z63];omega
 have hlen:=z34 z63 l
 refine z0b y6M (by simp [z9f]) ?_
 unfold z5J
 refine zR ?_
 refine z4a 3 3 200 rfl rfl ?_
 repeat (first|refine z0d ?_|refine z0g ?_|refine z0p ?_|refine z0f ?_|refine And.intro (by omega) ?_|simp (maxSteps:=1000000) (disch:=omega) only [cA,cB,cN,FnD.nb,lk,lkH,Dst.onT,Dst.onX,Dst.slot,z0W,z0N,z0J,z0X,z0u,z0V,unE,cnt,z0j,z0t,z0m,z0o,opE,rmH,z02,z0n,Nat.reduceEqDiff,Nat.reduceLT,Nat.reduceAdd,Nat.reduceMul,Nat.reduceMod,↓reduceIte,reduceCtorEq,Nat.reduceLeDiff])
 refine z0v (σ:=Nat) (fun i=>[(0,.sl 3 (l.flatMap xnC)),(3,.osl 3 200 0 i),(4,.int .i64 i)]) (fun i=>[(200,rwC i fun j=>xnV (l.getD j default))]) (fun i=>i≤l.length) (fun i=>l.length - i) 0 (Nat.zero_le _) ?_ rfl ?_
 ·simp [z0y,lk]
 ·intro i hi
  try simp only at hi ⊢
  by_cases hlt:i<l.length
  ·have dl:decide ((i:Int)<(l.length:Int))=true:=zT9
   have ei:(i:Int).toNat=i:=Int.toNat_natCast i
   have e1:((i:Int)+1)=((i+1:Nat):Int):=by omega
   have hw:((l.flatMap xnC).drop (i*3)).take 3=xnC (l.getD i default):=z1m (j:=0) (k:=3) z63 (default:XN) hlt (Nat.le_refl _)
   obtain ⟨l1,l2,l3,l4⟩:=ho i hlt
   have ct:z0c prog 43 [.agg (xnC (l.getD i default))] (.agg (z0T (xnV (l.getD i default)))):=z1r _ _ _ (by omega) (by omega) l1 l2
   have hXr:=w5v (l.getD i default)
   have hrl:=z2l i fun j=>xnV (l.getD j default)
   have hsn:rwC i (fun j=>xnV (l.getD j default))++z0T (xnV (l.getD i default))=rwC (i+1) fun j=>xnV (l.getD j default):=by
    unfold rwC;rw [z4s,y9W]
   have hpg:=z0k 200 (z9W (i+1) fun j=>xnV (l.getD j default))
   have hld:laid [DV.bool false,.nils,.nils] [(0,3,.agg (z0T (xnV (l.getD i default))))]=some (z0T (xnV (l.getD i default))):=rfl
   have hq3:=z1i (xnV (l.getD i default))
   have hq4:=z3N (xnV (l.getD i default))
   have hq5:=z1z (xnV (l.getD i default))
   generalize xnV (l.getD i default)=q at *
   generalize xnC (l.getD i default)=X at *
   have hXa:([DV.agg X].all DV.rf)=true:=by rw [List.all_cons,DV.rf_agg,List.all_eq_true.2 hXr];rfl
   generalize z0T q=QC at *
   repeat (first|refine z0d ?_|refine z0g ?_|refine z0p ?_|refine z0f ?_|refine And.intro (by omega) ?_|simp (maxSteps:=1000000) (disch:=omega) only [cA,cB,cN,FnD.nb,lk,lkH,Dst.onT,Dst.onX,Dst.slot,z0W,z0N,z0J,z0X,z0u,z0V,unE,cnt,z0j,z0t,z0m,z0o,opE,rmH,z02,z0n,Nat.reduceEqDiff,Nat.reduceLT,Nat.reduceAdd,Nat.reduceMul,Nat.reduceMod,↓reduceIte,reduceCtorEq,Nat.reduceLeDiff,dl,hln])
   refine wTs ?_
   repeat (first|refine z0d ?_|refine z0g ?_|refine z0p ?_|refine z0f ?_|refine And.intro (by omega) ?_|simp (maxSteps:=1000000) (disch:=omega) only [cA,cB,cN,FnD.nb,lk,lkH,Dst.onT,Dst.onX,Dst.slot,z0W,z0N,z0J,z0X,z0u,z0V,unE,cnt,z0j,z0t,z0m,z0o,opE,rmH,z02,z0n,Nat.reduceEqDiff,Nat.reduceLT,Nat.reduceAdd,Nat.reduceMul,Nat.reduceMod,↓reduceIte,reduceCtorEq,Nat.reduceLeDiff,ei,hlen,hw,List.drop_zero])
   refine z0E ct hXa ?_
   repeat (first|refine z0d ?_|refine z0g ?_|refine z0p ?_|refine z0f ?_|refine And.intro (by omega) ?_|simp (maxSteps:=1000000) (disch:=omega) only [cA,cB,cN,FnD.nb,lk,lkH,Dst.onT,Dst.onX,Dst.slot,z0W,z0N,z0J,z0X,z0u,z0V,unE,cnt,z0j,z0t,z0m,z0o,opE,rmH,z02,z0n,Nat.reduceEqDiff,Nat.reduceLT,Nat.reduceAdd,Nat.reduceMul,Nat.reduceMod,↓reduceIte,reduceCtorEq,Nat.reduceLeDiff,hld,hrl,hq3])
   refine ⟨⟨by omega,by omega,fun h=>h,hq4⟩,?_⟩
   rw [hsn,hpg]
   refine zS e1 ?_
   exact ⟨i+1,by omega,by omega,by simp [z0y,lk],rfl⟩
  ·have dl:decide ((i:Int)<(l.length:Int))=false:=zF9
   obtain rfl:i=l.length:=by omega
   refine zS (zA dl hln) ?_
   refine z0l rfl (fun h=>by cases h) (fun _=>z0q ?_)
   refine zR ?_
   exact z0i (z0h (y1V rfl (by decide) (z2l _ _) (z9W _ _)))
theorem x7b {x:List (List XN)} {n k b:Nat} (h:mtOK x n k b):y7S prog 184 [.sl 1 (xrs x)] [] fun r H'=>r=.osl 1 200 0 n∧H'=[(200,mtD n k (mtX x))]:=by
 have hxl:=w2A x
 rw [h.len] at hxl
 have h1:=h.n1
 have h2:=h.k1
 refine z8i x6V (by simp [y8K]) ?_
 unfold y0J
 refine zR ?_
 refine z4a 3 1 200 rfl rfl ?_
 refine zR ?_
 refine z0v (σ:=Nat) (fun i=>[(0,.sl 1 (xrs x)),(3,.osl 1 200 0 i),(4,.int .i64 i)]) (fun i=>[(200,mtD i k (mtX x))]) (fun i=>i≤n) (fun i=>n - i) 0 (Nat.zero_le _) ?_ rfl ?_
 ·simp [z0y,lk]
 ·intro i hi
  try simp only at hi ⊢
  by_cases hlt:i<n
  ·have dl:decide ((i:Int)<(n:Int))=true:=zT9
   have ei:(i:Int).toNat=i:=Int.toNat_natCast i
   have e1:((i:Int)+1)=((i+1:Nat):Int):=by omega
   have hg:=w2z (x:=x) (i:=i) (by rw [h.len];exact hlt) .undef
   have hrow:=h.row i hlt
   have ct:=z9G (x.getD i []) (by omega) (fun j hj=>h.lm i hlt j (by omega))
   rw [hrow] at ct
   have ct':z0c prog 237 [.sl 3 ((x.getD i []).flatMap xnC)] (.sl 3 (rwC k (mtX x i))):=ct
   have hll:=z9A i k (mtX x)
   have hsn:=x7c i k (mtX x)
   have hpg:=z0k 200 (y1w (i+1) k (mtX x))
   have hld:∀X,laid [DV.nils] [(0,1,.sl 3 X)]=some [.sl 3 X]:=fun _=>rfl
   refine zS (zA dl hxl) ?_
   refine wTs ?_
   refine zS (zA ei (zA hxl hg)) ?_
   refine cP ct' ?_
   refine zS (zA hld hll) ?_
   refine ⟨by simp [DV.rf],⟨by omega,by omega,fun h=>h,by simp [DV.one]⟩,?_⟩
   rw [hsn,hpg]
   refine zS e1 ?_
   exact ⟨i+1,by omega,by omega,by simp [z0y,lk],rfl⟩
  ·have dl:decide ((i:Int)<(n:Int))=false:=zF9
   obtain rfl:i=n:=by omega
   refine zS (zA dl hxl) ?_
   refine z0l rfl (fun h=>by cases h) (fun _=>z0q ?_)
   refine zR ?_
   exact z0i (y1W rfl rfl (y1w _ _ _))
theorem w4S {x y:Rat} {m p:Nat} (h1:BS x m) (h2:BS y p) (hm:m≤140800) (hp:p≤140800):z0c prog 27 [.agg (z0T x),.agg (z0T y)] (.agg (z0T (x*y))):=w6x x y (y4K h1 hm) (y4K h2 hp)
theorem w6w {x y:Rat} {m p:Nat} (h1:BS x m) (h2:BS y p) (hm:m≤140800) (hp:p≤140800):z0c prog 26 [.agg (z0T x),.agg (z0T y)] (.agg (z0T (x+y))):=w6v x y (y4K h1 hm) (y4K h2 hp)
theorem w6A {x y:Rat} {m p:Nat} (hy:y≠0) (h1:BS x m) (h2:BS y p) (hm:m≤140800) (hp:p≤140800):z0c prog 187 [.agg (z0T x),.agg (z0T y)] (.agg (z0T (x / y))):=w6z x y hy (y4K h1 hm) (y4K h2 hp)
theorem w4T {x:Rat} {m:Nat} (h1:BS x m) (hm:m≤288000):z0c prog 185 [.agg (z0T x)] (.agg (z0T (-x))):=w6y x (y56 h1 (by omega))
theorem w4W {x:Rat} {m:Nat} (h1:BS x m) (hm:m≤288000):z0c prog 28 [.agg (z0T x)] (.int .i64 x.num.sign):=w4V x (y56 h1 (by omega))
theorem y9V (i:Nat) (f:Nat→Rat):rwC i f++z0T (f i)=rwC (i+1) f:=by unfold rwC;rw [z4s,y9W]
theorem z54 {k m p:Nat} {f:Nat→Rat} {c:Rat} (hk:k≤1000) (hf:∀j,j<k→BS (f j) m) (hc:BS c p) (hm:m≤140800) (hp:p≤140800):z0c prog 186 [.sl 3 (rwC k f),.agg (z0T c)] (.sl 3 (rwC k fun j=>f j*c)):=by
 have hlen:=z2l k f
 have hln:k*3 / 3=k:=by omega
 have hcc:(DV.agg (z0T c)).cells? = some (z0T c):=rfl
 have hn3:=z1i c
 have ht3:(z0T c).take 3=z0T c:=rfl
 have hcr:=z1z c
 refine z0b x39 (by simp [y4r]) ?_
 unfold z8x
 refine zS hcc ?_
 refine z4a 5 3 200 rfl rfl ?_
 refine zR ?_
 refine z0v (σ:=Nat) (fun i=>[(0,.sl 3 (rwC k f)),(3,.ptr 3 0),(5,.osl 3 200 0 i),(6,.int .i64 i)]) (fun i=>[(3,z0T c),(200,rwC i fun j=>f j*c)]) (fun i=>i≤k) (fun i=>k - i) 0 (Nat.zero_le _) ?_ rfl ?_
 ·simp [z0y,lk]
 ·intro i hi
  try simp only at hi ⊢
  by_cases hlt:i<k
  ·have dl:decide ((i:Int)<(k:Int))=true:=zT9
   have ei:(i:Int).toNat=i:=Int.toNat_natCast i
   have e1:((i:Int)+1)=((i+1:Nat):Int):=by omega
   have hw:=z6U hlt f
   have ct:=w4S (hf i hlt) hc hm hp
   have hrl:=z2l i fun j=>f j*c
   have hsn:=y9V i fun j=>f j*c
   have hpg:=z0k 200 (z9W (i+1) fun j=>f j*c)
   have hpc:=z0k 200 hcr
   have hq:=z3N (f i*c)
   have hld:laid [DV.bool false,.nils,.nils] [(0,3,.agg (z0T (f i*c)))]=some (z0T (f i*c)):=rfl
   have hq3:=z1i (f i*c)
   refine zS (zA dl (zA hlen hln)) ?_
   refine wTs ?_
   repeat (first|refine z0d ?_|refine z0g ?_|refine z0p ?_|refine z0f ?_|refine And.intro (by omega) ?_|simp (maxSteps:=1000000) (disch:=omega) only [cA,cB,cN,FnD.nb,lk,lkH,Dst.onT,Dst.onX,Dst.slot,z0W,z0N,z0J,z0X,z0u,z0V,unE,cnt,z0j,z0t,z0m,z0o,opE,rmH,z02,z0n,Nat.reduceEqDiff,Nat.reduceLT,Nat.reduceAdd,Nat.reduceMul,Nat.reduceMod,↓reduceIte,reduceCtorEq,Nat.reduceLeDiff,ei,hlen,hw,hn3,ht3,List.drop_zero])
   refine cP ct ?_
   have h33:3 / 3=1:=rfl
   have hp3:purge 200 (.ptr 3 0)=.ptr 3 0:=by simp [purge,DV.has]
   repeat (first|refine z0d ?_|refine z0g ?_|refine z0p ?_|refine z0f ?_|refine And.intro (by omega) ?_|simp (maxSteps:=1000000) (disch:=omega) only [cA,cB,cN,FnD.nb,lk,lkH,Dst.onT,Dst.onX,Dst.slot,z0W,z0N,z0J,z0X,z0u,z0V,unE,cnt,z0j,z0t,z0m,z0o,opE,rmH,z02,z0n,Nat.reduceEqDiff,Nat.reduceLT,Nat.reduceAdd,Nat.reduceMul,Nat.reduceMod,↓reduceIte,reduceCtorEq,Nat.reduceLeDiff,hld,hrl,hq3,h33])
   refine ⟨z1z _,⟨by omega,by omega,fun h=>h,hq⟩,?_⟩
   rw [hsn,hpg,hpc]
   refine zS (zA e1 hp3) ?_
   exact ⟨i+1,by omega,by omega,by simp [z0y,lk],rfl⟩
  ·have dl:decide ((i:Int)<(k:Int))=false:=zF9
   obtain rfl:i=k:=by omega
   refine zS (zA dl (zA hlen hln)) ?_
   refine z0l rfl (fun h=>by cases h) (fun _=>z0q ?_)
   refine zR ?_
   exact z0i (z0h (y1V rfl (by decide) (z2l _ _) (z9W _ _)))
theorem y43 {k m p:Nat} {f g:Nat→Rat} (hk:k≤1000) (hf:∀j,j<k→BS (f j) m) (hg:∀j,j<k→BS (g j) p) (hm:m≤140800) (hp:p≤140800):z0c prog 188 [.sl 3 (rwC k f),.sl 3 (rwC k g)] (.sl 3 (rwC k fun j=>f j+g j)):=by
 have hlen:=z2l k f
 have hleg:=z2l k g
 have hln:k*3 / 3=k:=by omega
 refine z0b x6T (by simp [y8I]) ?_
 unfold y0H
 refine zR ?_
 refine z4a 5 3 200 rfl rfl ?_
 refine zR ?_
 refine z0v (σ:=Nat) (fun i=>[(0,.sl 3 (rwC k f)),(1,.sl 3 (rwC k g)),(5,.osl 3 200 0 i),(6,.int .i64 i)]) (fun i=>[(200,rwC i fun j=>f j+g j)]) (fun i=>i≤k) (fun i=>k - i) 0 (Nat.zero_le _) ?_ rfl ?_
 ·simp [z0y,lk]
 ·intro i hi
  try simp only at hi ⊢
  by_cases hlt:i<k
  ·have dl:decide ((i:Int)<(k:Int))=true:=zT9
   have ei:(i:Int).toNat=i:=Int.toNat_natCast i
   have e1:((i:Int)+1)=((i+1:Nat):Int):=by omega
   have hw:=z6U hlt f
   have hwg:=z6U hlt g
   have ct:=w6w (hf i hlt) (hg i hlt) hm hp
   have hrl:=z2l i fun j=>f j+g j
   have hsn:=y9V i fun j=>f j+g j
   have hpg:=z0k 200 (z9W (i+1) fun j=>f j+g j)
   have hq:=z3N (f i+g i)
   have hld:laid [DV.bool false,.nils,.nils] [(0,3,.agg (z0T (f i+g i)))]=some (z0T (f i+g i)):=rfl
   have hq3:=z1i (f i+g i)
   refine zS (zA dl (zA hlen hln)) ?_
   refine wTs ?_
   refine zS (zA ei (zA hlen (zA hleg (zA hw (zA hwg @List.drop_zero.{0}))))) ?_
   refine cP ct ?_
   have h33:3 / 3=1:=rfl
   refine zS (zA hld (zA hrl (zA hq3 h33))) ?_
   refine ⟨z1z _,⟨by omega,by omega,fun h=>h,hq⟩,?_⟩
   rw [hsn,hpg]
   refine zS e1 ?_
   exact ⟨i+1,by omega,by omega,by simp [z0y,lk],rfl⟩
  ·have dl:decide ((i:Int)<(k:Int))=false:=zF9
   obtain rfl:i=k:=by omega
   refine zS (zA dl (zA hlen hln)) ?_
   refine z0l rfl (fun h=>by cases h) (fun _=>z0q ?_)
   refine zR ?_
   exact z0i (z0h (y1V rfl (by decide) (z2l _ _) (z9W _ _)))
theorem w6p (n k:Nat) (M:Mt) (hn:n≤1000) (hk:k≤1000) (h0:n=0→k=0):z0c prog 54 [.sl 1 (mtD n k M)] (.int .i64 k):=by
 have hl:(((List.range n).map fun i=>rwC k (M i)).getD 0 []).length=k*3:=by
  by_cases e:n=0
  ·rw [h0 e,e,List.range_zero];rfl
  ·rw [zO1,List.getElem?_map,List.getElem?_range (by omega)]
   exact z2l _ _
 have:=z9x ((List.range n).map fun i=>rwC k (M i)) (by simp;omega) (by omega)
 rw [←y9v,hl,show k*3 / 3=k by omega] at this
 exact this
def w7B (n k:Nat) (M0:Mt) (r:DV):Prop:=∃q:Rat,r=.tup [.sl 1 (mtD n k (rrM n k M0)),.sl 1 (z3M (rrP n k M0)),.agg (z0T q)]
theorem mtOK.formedR {x:List (List XN)} {n k b:Nat} (h:mtOK x n k b):z0c prog 110 [.sl 1 (xrs x)] (.bool true):=by
 have:=y0l (x.map fun r=>r.flatMap xnC) (by rw [List.length_map,h.len];have:=h.n1;omega) (fun i=>by
  by_cases hi:i<x.length
  ·rw [y3v hi,z34 z63,h.row i (by rw [←h.len];exact hi)];have:=h.k1;omega
  ·rw [zO1,List.getElem?_eq_none (by rw [List.length_map];omega)];exact Nat.zero_le _)
 rw [h.frm] at this
 exact this
theorem z0K (l:List Bs):(z0L l).length=l.length:=by unfold z0L;simp
theorem z1a {r:List Bs} {j:Nat} (h:j<r.length):(z0L r).getD j .undef=.str (r.getD j []):=by
 unfold z0L
 rw [zO1,zO1,List.getElem?_map,zO4 h];rfl
theorem y5Q (l:List Bs) (i:Nat):(z0L l).take i=z0L (l.take i):=by unfold z0L;rw [List.map_take]
theorem z6m (k:Nat) (c:UInt8):decide ((k:Int)≤(c.toNat:Int))=decide (k≤c.toNat):=decide_eq_decide.2 (by omega)
theorem z6l (k:Nat) (c:UInt8):decide ((c.toNat:Int)≤(k:Int))=decide (c.toNat≤k):=decide_eq_decide.2 (by omega)
theorem y16 (k:Nat) (c:UInt8):decide ((c.toNat:Int)=(k:Int))=decide (c.toNat=k):=decide_eq_decide.2 (by omega)
theorem z6f (c:UInt8):z0c prog 203 [.int .u8 c.toNat] (.bool (x0Z c)):=by
 have e1:decide ((97:Int)≤(c.toNat:Int))=decide (97≤c.toNat):=z6m 97 c
 have e2:decide ((c.toNat:Int)≤122)=decide (c.toNat≤122):=z6l 122 c
 have e3:decide ((65:Int)≤(c.toNat:Int))=decide (65≤c.toNat):=z6m 65 c
 have e4:decide ((c.toNat:Int)≤90)=decide (c.toNat≤90):=z6l 90 c
 refine z0b x4n (by simp [y4A]) ?_
 unfold z8L x0Z
 generalize decide (97≤c.toNat)=b1 at *
 generalize decide (c.toNat≤122)=b2 at *
 generalize decide (65≤c.toNat)=b3 at *
 generalize decide (c.toNat≤90)=b4 at *
 cases b1<;>cases b2<;>cases b3<;>cases b4
 all_goals
  refine zS (zA e1 (zA e2 (zA e3 e4))) ?_
  exact z0i (z0h (.imm rfl))
theorem z6h (c:UInt8):z0c prog 194 [.int .u8 c.toNat] (.bool (x0Z c)):=by
 have e1:decide ((97:Int)≤(c.toNat:Int))=decide (97≤c.toNat):=z6m 97 c
 have e2:decide ((c.toNat:Int)≤122)=decide (c.toNat≤122):=z6l 122 c
 have e3:decide ((65:Int)≤(c.toNat:Int))=decide (65≤c.toNat):=z6m 65 c
 have e4:decide ((c.toNat:Int)≤90)=decide (c.toNat≤90):=z6l 90 c
 refine z0b x4p (by simp [y4C]) ?_
 unfold z8N x0Z
 generalize decide (97≤c.toNat)=b1 at *
 generalize decide (c.toNat≤122)=b2 at *
 generalize decide (65≤c.toNat)=b3 at *
 generalize decide (c.toNat≤90)=b4 at *
 cases b1<;>cases b2<;>cases b3<;>cases b4
 all_goals
  refine zS (zA e1 (zA e2 (zA e3 e4))) ?_
  exact z0i (z0h (.imm rfl))
theorem y5Y (c:UInt8):z0c prog 195 [.int .u8 c.toNat] (.bool (y4M c)):=by
 have cl:=z6h c
 have e1:decide ((48:Int)≤(c.toNat:Int))=decide (48≤c.toNat):=z6m 48 c
 have e2:decide ((c.toNat:Int)≤57)=decide (c.toNat≤57):=z6l 57 c
 have e3:decide ((c.toNat:Int)=95)=decide (c.toNat=95):=y16 95 c
 have e4:decide ((c.toNat:Int)=46)=decide (c.toNat=46):=y16 46 c
 refine z0b x68 (by simp [y8R]) ?_
 unfold y0W y4M
 generalize decide (48≤c.toNat)=b1 at *
 generalize decide (c.toNat≤57)=b2 at *
 generalize decide (c.toNat=95)=b3 at *
 generalize decide (c.toNat=46)=b4 at *
 generalize x0Z c=b0 at *
 cases b0<;>cases b1<;>cases b2<;>cases b3<;>cases b4
 all_goals
  repeat (first|refine zQ (zA e1 (zA e2 (zA e3 e4))) ?_|refine cP cl ?_|exact zT)
theorem y7K (s:Bs) (hs:s.length≤9223372036854775807):z0c prog 121 [.str s] (.bool (z2G s)):=by
 refine z0b w0Q (by simp [x3v]) ?_
 unfold y4c
 by_cases h1:s.length<1
 ·have d1:decide ((s.length:Int)<1)=true:=zT9
  have hn:z2G s=false:=by unfold z2G;rw [decide_eq_false (show ¬1≤s.length by omega)];rfl
  rw [hn]
  refine zS d1 ?_
  refine wT ?_
  refine zR ?_
  exact z0i (z0h (.imm rfl))
 ·have d1:decide ((s.length:Int)<1)=false:=zF9
  by_cases h2:32<s.length
  ·have d2:decide ((32:Int)<(s.length:Int))=true:=zT9
   have hn:z2G s=false:=by unfold z2G;rw [decide_eq_false (show ¬s.length≤32 by omega)];simp
   rw [hn]
   refine zS (zA d1 d2) ?_
   refine wT ?_
   refine zR ?_
   exact z0i (z0h (.imm rfl))
  ·have d2:decide ((32:Int)<(s.length:Int))=false:=zF9
   have hpos:0<s.length:=by omega
   have cl:=z6h (s.getD 0 0)
   have eb:z4S (s.getD 0 0)=.int .u8 ((s.getD 0 0).toNat:Nat):=rfl
   have e0:Int.toNat 0=0:=rfl
   have hnm:z2G s=(x0Z (s.getD 0 0) && (decide (¬s=power) && s.all y4M)):=by
    unfold z2G;rw [decide_eq_true (show 1≤s.length by omega),decide_eq_true (show s.length≤32 by omega)];rfl
   rw [hnm]
   clear hnm
   cases hl:x0Z (s.getD 0 0)
   ·rw [hl] at cl
    refine zS (zA d1 (zA d2 (zA e0 eb))) ?_
    refine cP cl ?_
    refine zR ?_
    refine wT ?_
    refine zR ?_
    exact z0i (z0h (.imm rfl))
   ·rw [hl] at cl
    have hin:y4M (s.getD 0 0)=true:=by unfold y4M;rw [hl];rfl
    by_cases hp:s=power
    ·have dp:decide (s=[112,111,119,101,114])=true:=decide_eq_true hp
     rw [decide_eq_false (show ¬¬s=power from fun h=>h hp)]
     refine zS (zA d1 (zA d2 (zA e0 eb))) ?_
     refine cP cl ?_
     refine zS dp ?_
     refine wT ?_
     refine zR ?_
     exact z0i (z0h (.imm rfl))
    ·have dp:decide (s=[112,111,119,101,114])=false:=decide_eq_false hp
     rw [decide_eq_true hp,Bool.true_and,Bool.true_and]
     refine zS (zA d1 (zA d2 (zA e0 eb))) ?_
     refine cP cl ?_
     refine zS dp ?_
     refine wFs ?_
     refine zR ?_
     refine z0v (σ:=Nat) (fun i=>[(0,.str s),(3,.int .i64 i)]) (fun _=>[]) (fun i=>1≤i∧i≤s.length∧∀j,j<i→y4M (s.getD j 0)=true) (fun i=>s.length - i) 1 ⟨Nat.le_refl _,by omega,fun j hj=>?_⟩ ?_ rfl ?_
     ·obtain rfl:j=0:=by omega
      exact hin
     ·simp [z0y,lk]
     ·rintro i ⟨hi1,hi,hall⟩
      try simp only at hi1 hi hall ⊢
      by_cases hlt:i<s.length
      ·have dl:decide ((i:Int)<(s.length:Int))=true:=zT9
       have ei:(i:Int).toNat=i:=Int.toNat_natCast i
       have e1:((i:Int)+1)=((i+1:Nat):Int):=by omega
       have ci:=y5Y (s.getD i 0)
       have ebi:z4S (s.getD i 0)=.int .u8 ((s.getD i 0).toNat:Nat):=rfl
       cases hi2:y4M (s.getD i 0)
       ·rw [hi2] at ci
        rw [y3H hlt hi2]
        refine zS dl ?_
        refine wTs ?_
        refine zS (zA ei ebi) ?_
        refine cP ci ?_
        refine zR ?_
        refine wT ?_
        refine zR ?_
        exact z0i (z0h (.imm rfl))
       ·rw [hi2] at ci
        refine zS dl ?_
        refine wTs ?_
        refine zS (zA ei ebi) ?_
        refine cP ci ?_
        refine zR ?_
        refine wFs ?_
        refine zS e1 ?_
        refine ⟨i+1,⟨by omega,by omega,fun j hj=>?_⟩,by omega,by simp [z0y,lk]⟩
        rcases Nat.lt_or_ge j i with h|h
        ·exact hall j h
        ·obtain rfl:j=i:=by omega
         exact hi2
      ·have dl:decide ((i:Int)<(s.length:Int))=false:=zF9
       rw [x8B (p:=y4M) (s:=s) fun j hj=>hall j (by omega)]
       refine zS dl ?_
       refine z0l rfl (fun h=>by cases h) (fun _=>z0q ?_)
       refine zR ?_
       exact z0i (z0h (.imm rfl))
end Go.Proofs.YtlcagndeidjobaaGreatDoor
