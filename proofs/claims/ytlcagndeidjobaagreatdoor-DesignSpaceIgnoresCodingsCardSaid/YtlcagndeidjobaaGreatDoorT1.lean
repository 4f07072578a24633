/- Lemmas of the walk; no conditions beyond those that each states. -/
import Derived.WalkKit
import Derived.Below
import Derived.Lib.SliceRun
import Derived.Lib.Walk
import Derived.Test.YtlcagndeidjobaaGreatDoorD3
import Derived.Test.YtlcagndeidjobaaGreatDoorC1
import Derived.Test.YtlcagndeidjobaaGreatDoorC2
import Derived.Test.YtlcagndeidjobaaGreatDoorN1
import Derived.Test.YtlcagndeidjobaaGreatDoorD4
set_option linter.unusedSimpArgs false
set_option linter.unusedVariables false
set_option linter.unnecessarySimpa false
set_option maxHeartbeats 4000000
namespace Go.Proofs.YtlcagndeidjobaaGreatDoor
open Tryz
open Go Go.Dat Go.Proofs Nat32
theorem z4r (a:List Nat) (ha:a.length≤1000000):z0c prog 219 [.sl 1 (us a)] (.bool (vld a)):=by
 refine z0b x6Y (by simp [y8M]) ?_
 unfold y0M
 refine z0d (z0g ?_)
 refine zE cI ?_
 refine z0d (z0g ?_)
 refine zE (zA @z0a cI) ?_
 refine y1P (fun hb=>?_) (fun hb=>?_)
 ·have hb':=of_decide_eq_true hb
  refine zE (zA hb cI) ?_
  refine z0i (z0h ?_)
  refine zE cI ?_
  have:vld a=true:=decide_eq_true (.inl (by omega))
  rw [this];exact .imm rfl
 ·have hl:=of_decide_eq_false hb
  have e:((a.length:Int) - 1).toNat=a.length - 1:=by omega
  refine zE (zA hb (zA @z0a (zA e (zA @z0R cI)))) ?_
  refine ⟨by omega,by omega,z0i (z0h ?_)⟩
  refine zE cI ?_
  have:vld a=decide (¬((a.getD (a.length - 1) 0:Nat):Int)=0):=by
   unfold vld;rw [decide_eq_decide];omega
  rw [this];exact .imm rfl
theorem z4x (a:List Nat) (ha:a.length≤1000000):z0c prog 174 [.sl 1 (us a)] (.bool (vld a)):=by
 refine z0b x64 (by simp [y8O]) ?_
 unfold y0S
 refine z0d (z0g ?_)
 refine zE cI ?_
 refine z0d (z0g ?_)
 refine zE (zA @z0a cI) ?_
 refine y1P (fun hb=>?_) (fun hb=>?_)
 ·have hb':=of_decide_eq_true hb
  refine zE (zA hb cI) ?_
  refine z0i (z0h ?_)
  refine zE cI ?_
  have:vld a=true:=decide_eq_true (.inl (by omega))
  rw [this];exact .imm rfl
 ·have hl:=of_decide_eq_false hb
  have e:((a.length:Int) - 1).toNat=a.length - 1:=by omega
  refine zE (zA hb (zA @z0a (zA e (zA @z0R cI)))) ?_
  refine ⟨by omega,by omega,z0i (z0h ?_)⟩
  refine zE cI ?_
  have:vld a=decide (¬((a.getD (a.length - 1) 0:Nat):Int)=0):=by
   unfold vld;rw [decide_eq_decide];omega
  rw [this];exact .imm rfl
theorem z0S (a:List Nat) (ha:a.length≤1000000) (hl:lim a):z0c prog 168 [.sl 1 (us a)] (.sl 1 (us (limbs (vn a)))):=by
 rw [←z3C hl]
 refine z0b x6Z (by simp [y8N]) ?_
 unfold y0N
 refine z0d (z0g ?_)
 refine zE cI ?_
 refine z0d (z0d (z0g ?_))
 refine zE cI ?_
 refine cP (z4r a ha) ?_
 refine zE cI ?_
 refine z0l rfl (fun hv=>?_) (fun hv=>?_)
 ·refine z0d (z0g ?_)
  refine zE cI ?_
  refine z0i (z0h ?_)
  refine zE cI ?_
  rw [val,hv];exact .imm rfl
 ·refine z0D ?_
  refine zE cI ?_
  refine z0d (z0g ?_)
  refine zE cI ?_
  refine z0i (z0h ?_)
  refine zE cI ?_
  rw [val,hv];exact .nils 1
theorem z1D (a:List Nat) (ha:a.length≤1000000) (hl:lim a):z0c prog 169 [.sl 1 (us a)] (.sl 1 (us (limbs (nv a)))):=by
 rw [←z93 hl]
 refine z0b w0x (by simp [y6q]) ?_
 unfold y3T
 refine z0d (z0g ?_)
 refine zE cI ?_
 refine z0d (z0g ?_)
 refine zE (zA @z0a cI) ?_
 have tail:∀n,n=z3Y a a.length→W y6q ((DC.reg
     [{ dst:=Dst.t 18,op:=DOp.mv (Opd.x 0),guard:=none },
      { dst:=Dst.t 19,op:=DOp.mv (Opd.x 3),guard:=none },
      { dst:=Dst.t 20,op:=DOp.slc 1 (Opd.t 18) none (some (Opd.t 19)),guard:=none },
      { dst:=Dst.x 2,op:=DOp.mv (Opd.t 20),guard:=none }]).seq DC.ret) (y7T y9K (.sl 1 (us (x5L a)))) [(0,.sl 1 (us a)),(2,.nils),(3,.int .i64 n)] []:=by
  intro n hn
  have hle:=y94 a a.length
  refine z0d (z0g ?_)
  refine zE (zA @z0a (zA @x5P (zA @List.drop_zero.{0} cI))) ?_
  refine ⟨by omega,z0i (z0h ?_)⟩
  refine zE cI ?_
  rw [x5L,←hn]
  exact .imm rfl
 refine z0d (z0f (z0v (σ:=Nat) (fun n=>[(0,.sl 1 (us a)),(2,.nils),(3,.int .i64 n)]) (fun _=>[]) (fun n=>n≤a.length∧z3Y a n=z3Y a a.length) (fun n=>n) a.length ⟨Nat.le_refl _,rfl⟩ ?_ rfl ?_))
 ·simp [z0y,lk]
 ·rintro n ⟨hn,ht⟩
  refine z0d (z0d (z0g ?_))
  cases n with
  | zero =>
   have hp:(0<((0:Nat):Int))=False:=by simp
   refine zE (zA @z0a (zA hp (zA @decide_false cI))) ?_
   refine z0l rfl (fun h=>by cases h) (fun _=>z0q ?_)
   refine zE cI ?_
   refine x19 ?_ (tail 0 ht)
   simp [z0y,lk]
  | succ m =>
   have e:(((m+1:Nat):Int) - 1)=(m:Nat):=by omega
   have hp:(0<((m+1:Nat):Int))=True:=by simp only [eq_iff_iff,iff_true];omega
   refine zE (zA @z0a (zA hp (zA e (zA @decide_true (zA @z0R cI))))) ?_
   refine ⟨by omega,by omega,?_⟩
   refine z0l rfl (fun hz=>z0D ?_) (fun hz=>z0q ?_)
   ·refine zE cI ?_
    refine z0f (z0g ?_)
    refine zE (zA e cI) ?_
    refine ⟨m,⟨by omega,?_⟩,by omega,by simp [z0y,lk]⟩
    have:=of_decide_eq_true hz
    rw [←ht,z3Y,if_pos (by omega)]
   ·refine zE cI ?_
    refine x19 ?_ (tail (m+1) ?_)
    ·simp [z0y,lk]
    ·have:=of_decide_eq_false hz
     rw [←ht,z3Y,if_neg (by omega)]
theorem z01 (a:List Nat) (ha:a.length≤1000000) (hl:lim a):z0c prog 96 [.sl 1 (us a)] (.sl 1 (us (limbs (vn a)))):=by
 rw [←z3C hl]
 refine z0b w0H (by simp [y6v]) ?_
 unfold y33
 refine z0d (z0g ?_)
 refine zE cI ?_
 refine z0d (z0d (z0g ?_))
 refine zE cI ?_
 refine cP (z4x a ha) ?_
 refine zE cI ?_
 refine z0l rfl (fun hv=>?_) (fun hv=>?_)
 ·refine z0d (z0g ?_)
  refine zE cI ?_
  refine z0i (z0h ?_)
  refine zE cI ?_
  simp at hv
  rw [val,hv];exact .nils 1
 ·refine z0D ?_
  refine zE cI ?_
  refine z0d (z0g ?_)
  simp (maxSteps:=1000000) (disch:=omega) only [cA,cB,cN,FnD.nb,lk,lkH,Dst.onT,Dst.onX,Dst.slot,z0W,z0N,z0J,z0X,z0u,z0V,unE,cnt,z0j,z0t,z0m,z0o,opE,rmH,z02,z0n,Nat.reduceEqDiff,Nat.reduceLT,Nat.reduceAdd,Nat.reduceMul,Nat.reduceMod,↓reduceIte,reduceCtorEq,Nat.reduceLeDiff,z0t,z0a,x9A,z8f,w07,cI]
  refine ⟨by omega,z0i (z0h ?_)⟩
  refine zE cI ?_
  simp at hv
  rw [val,hv,if_pos rfl]
  exact .osl1 rfl (by simp [z0a]) (by simp [←z0a]) (z4E a)
theorem z3S (a:List Nat) (ha:a.length≤1000000) (hl:lim a):z0c prog 191 [.sl 1 (us a)] (.sl 1 (us (limbs (nv a)))):=by
 rw [←z93 hl]
 refine z0b w0I (by simp [y6w]) ?_
 unfold y34
 refine z0d (z0g ?_)
 refine zE cI ?_
 have tail:∀n,n=z3Y a a.length→W y6w ((DC.reg
     [{ dst:=Dst.t 20,op:=DOp.mv (Opd.x 0),guard:=none },
      { dst:=Dst.x 2,op:=DOp.mv (Opd.t 20),guard:=none }]).seq DC.ret) (y7T y9L (.sl 1 (us (x5L a)))) [(0,.sl 1 (us (a.take n))),(2,.nils)] []:=by
  intro n hn
  refine z0d (z0g ?_)
  refine zE cI ?_
  refine z0i (z0h ?_)
  refine zE cI ?_
  rw [x5L,←hn]
  exact .imm rfl
 refine z0d (z0f (z0v (σ:=Nat) (fun n=>[(0,.sl 1 (us (a.take n))),(2,.nils)]) (fun _=>[]) (fun n=>n≤a.length∧z3Y a n=z3Y a a.length) (fun n=>n) a.length ⟨Nat.le_refl _,rfl⟩ ?_ rfl ?_))
 ·simp [z0y,lk]
 ·rintro n ⟨hn,ht⟩
  have hlen:(a.take n).length=n:=by simp;omega
  refine z0d (z0d (z0g ?_))
  cases n with
  | zero =>
   have hp:(0<((0:Nat):Int))=False:=by simp
   refine zE (zA @z0a (zA hlen (zA hp (zA @decide_false cI)))) ?_
   refine z0l rfl (fun h=>by cases h) (fun _=>z0q ?_)
   refine zE cI ?_
   refine x19 ?_ (tail 0 ht)
   simp [z0y,lk]
  | succ m =>
   have e:(((m+1:Nat):Int) - 1)=(m:Nat):=by omega
   have hp:(0<((m+1:Nat):Int))=True:=by simp only [eq_iff_iff,iff_true];omega
   have hg:(a.take (m+1)).getD m 0=a.getD m 0:=by simp [zO1,List.getElem?_take]
   have ht':(us (a.take (m+1))).take m=us (a.take m):=by rw [x5P,List.take_take,Nat.min_eq_left (by omega)]
   refine zE (zA @z0a (zA hlen (zA hp (zA e (zA @decide_true (zA @z0R (zA hg cI))))))) ?_
   refine ⟨by omega,by omega,?_⟩
   refine z0l rfl (fun hz=>z0D ?_) (fun hz=>z0q ?_)
   ·refine zE cI ?_
    refine z0f (z0g ?_)
    refine zE (zA @z0a (zA hlen (zA e (zA ht' (zA @List.drop_zero.{0} (zA @Nat.zero_mul cI)))))) ?_
    refine ⟨by omega,m,⟨by omega,?_⟩,by omega,by simp [z0y,lk]⟩
    have:=of_decide_eq_true hz
    rw [←ht,z3Y,if_pos (by omega)]
   ·refine zE cI ?_
    refine x19 ?_ (tail (m+1) ?_)
    ·simp [z0y,lk]
    ·have:=of_decide_eq_false hz
     rw [←ht,z3Y,if_neg (by omega)]
theorem nv2 (v:Nat):nv [v % 4294967296,v / 4294967296]=v:=by simp only [nv];omega
theorem w7h {v:Nat} (hv:v<18446744073709551616):lim [v % 4294967296,v / 4294967296]:=by
 rw [z2t,z2t];exact ⟨by omega,by omega,z1o⟩
theorem z2a (v:Nat) (hv:v<18446744073709551616):z0c prog 208 [.int .u64 v] (.sl 1 (us (limbs v))):=by
 have hc:=z1D [v % 4294967296,v / 4294967296] (by simp) (w7h hv)
 rw [nv2] at hc
 refine z0b y6J (by simp [z9c]) ?_
 unfold z5G
 refine z0d (z0g ?_)
 refine zE cI ?_
 have hd:v / 4294967296 % 4294967296=v / 4294967296:=Nat.mod_eq_of_lt (by omega)
 refine z0d (z0g ?_)
 refine zE (zA @z5q (zA @z2d (zA @z5h (zA hd cI)))) ?_
 rw [us2]
 refine ⟨by omega,List.all_eq_true.1 (z4E _),?_⟩
 refine cP hc ?_
 refine zE cI ?_
 refine z0i (z0h ?_)
 refine zE cI ?_
 exact .imm rfl
theorem z4w (v:Nat) (hv:v<18446744073709551616):z0c prog 176 [.int .u64 v] (.sl 1 (us (limbs v))):=by
 have hc:=z3S [v % 4294967296,v / 4294967296] (by simp) (w7h hv)
 rw [nv2] at hc
 refine z0b y6N (by simp [z9i]) ?_
 unfold z5K
 refine z0d (z0g ?_)
 refine zE cI ?_
 have hd:v / 4294967296 % 4294967296=v / 4294967296:=Nat.mod_eq_of_lt (by omega)
 refine z0d (z0g ?_)
 refine zE (zA @z5q (zA @z2d (zA @z5h (zA hd cI)))) ?_
 rw [us2]
 refine ⟨by omega,List.all_eq_true.1 (z4E _),?_⟩
 refine cP hc ?_
 refine zE cI ?_
 refine z0i (z0h ?_)
 refine zE cI ?_
 exact .imm rfl
theorem z3R (a b:List Nat) (ha:a.length≤1000000) (_hb:b.length≤1000000):z0c prog 61 [.sl 1 (us a),.sl 1 (us b)] (.bool (decide (a=b))):=by
 refine z0b w0G (by simp [x3j]) ?_
 unfold y32
 refine z0d (z0g ?_)
 refine zE cI ?_
 refine z0d (z0d (z0g ?_))
 refine zE (zA @z0a cI) ?_
 refine z0l rfl (fun hv=>?_) (fun hv=>z0D ?_)
 ·have hne:=of_decide_eq_true hv
  refine z0d (z0g ?_)
  refine zE cI ?_
  refine z0i (z0h ?_)
  refine zE cI ?_
  have:decide (a=b)=false:=decide_eq_false (fun e=>hne (by rw [e]))
  rw [this];exact .imm rfl
 ·have hlen:=of_decide_eq_false hv
  have hlen:a.length=b.length:=by omega
  refine zE cI ?_
  refine z0d (z0d (z0g ?_))
  refine zE cI ?_
  refine z0f (z0v (σ:=Nat) (fun n=>[(0,.sl 1 (us a)),(1,.sl 1 (us b)),(4,.bool false),(5,.int .i64 n)]) (fun _=>[]) (fun n=>n≤a.length∧a.take n=b.take n) (fun n=>a.length - n) 0 ⟨Nat.zero_le _,rfl⟩ ?_ rfl ?_)
  ·simp [z0y,lk]
  ·rintro n ⟨hn,ht⟩
   refine z0d (z0d (z0g ?_))
   refine zE (zA @z0a cI) ?_
   refine z0l rfl (fun hc=>z0D ?_) (fun hc=>z0q ?_)
   ·have hlt:=of_decide_eq_true hc
    have hlt:n<a.length:=by omega
    refine zE cI ?_
    refine z0d (z0f (z0d (z0p ?_)))
    refine zE (zA @z0a (zA @z0R cI)) ?_
    repeat refine ⟨by omega,?_⟩
    refine z0l rfl (fun hz=>?_) (fun hz=>z0D ?_)
    ·have hne:=of_decide_eq_true hz
     refine z0d (z0g ?_)
     refine zE cI ?_
     refine z0i (z0h ?_)
     refine zE cI ?_
     have:decide (a=b)=false:=decide_eq_false (fun e=>hne (by rw [e]))
     rw [this];exact .imm rfl
    ·have he:=of_decide_eq_false hz
     refine zE cI ?_
     refine z0g ?_
     refine zE cI ?_
     exact ⟨n+1,⟨by omega,x5I hlt (by omega) ht (by omega)⟩,by omega,by simp [z0y,lk]⟩
   ·have hge:=of_decide_eq_false hc
    refine zE cI ?_
    refine z0d (z0g ?_)
    refine zE cI ?_
    refine z0i (z0h ?_)
    refine zE cI ?_
    have:decide (a=b)=true:=decide_eq_true (by
     rw [List.take_of_length_le (by omega),List.take_of_length_le (by omega)] at ht;exact ht)
    rw [this];exact .imm rfl
theorem x1l (x y:Nat) (ha:(limbs x).length≤1000000) (hb:(limbs y).length≤1000000):z0c prog 192 [.sl 1 (us (limbs x)),.sl 1 (us (limbs y))] (.int .i64 (z8s x y)):=by
 refine z0b w3Y (by simp [x8X]) ?_
 unfold y8q
 refine z0d (z0g ?_)
 refine zE cI ?_
 repeat refine ⟨by omega,?_⟩
 refine z0d (z0d (z0g ?_))
 refine zE (zA @z0a cI) ?_
 repeat refine ⟨by omega,?_⟩
 refine z0l rfl (fun hv=>?_) (fun hv=>z0D ?_)
 ·have hne:=of_decide_eq_true hv
  refine z0d (z0d (z0g ?_))
  refine zE (zA @z0a cI) ?_
  repeat refine ⟨by omega,?_⟩
  rw [y3M (by omega)]
  refine z0l rfl (fun hc=>?_) (fun hc=>z0D ?_)
  ·have hlt:=of_decide_eq_true hc
   rw [if_pos (by omega)]
   refine z0d (z0g ?_)
   refine zE cI ?_
   repeat refine ⟨by omega,?_⟩
   refine z0i (z0h ?_)
   refine zE cI ?_
   repeat refine ⟨by omega,?_⟩
   exact .imm rfl
  ·have hlt:=of_decide_eq_false hc
   rw [if_neg (by omega)]
   refine zE cI ?_
   repeat refine ⟨by omega,?_⟩
   refine z0d (z0g ?_)
   refine zE cI ?_
   repeat refine ⟨by omega,?_⟩
   refine z0i (z0h ?_)
   refine zE cI ?_
   repeat refine ⟨by omega,?_⟩
   exact .imm rfl
 ·have hlen:=of_decide_eq_false hv
  have hlen:(limbs x).length=(limbs y).length:=by omega
  refine zE cI ?_
  repeat refine ⟨by omega,?_⟩
  refine z0d (z0d (z0g ?_))
  refine zE (zA @z0a cI) ?_
  repeat refine ⟨by omega,?_⟩
  have hla:=z0e x
  have hlb:=z0e y
  refine z0f (z0v (σ:=Nat) (fun n=>[(0,.sl 1 (us (limbs x))),(1,.sl 1 (us (limbs y))),(4,.int .i64 0),(5,.int .i64 ((n:Int) - 1))]) (fun _=>[]) (fun n=>n≤(limbs x).length∧(limbs x).drop n=(limbs y).drop n) (fun n=>n) (limbs x).length ⟨Nat.le_refl _,by rw [List.drop_of_length_le (Nat.le_refl _),List.drop_of_length_le (by omega)]⟩ ?_ rfl ?_)
  ·simp [z0y,lk]
  ·rintro n ⟨hn,ht⟩
   refine z0d (z0d (z0g ?_))
   refine zE (zA @z0a cI) ?_
   repeat refine ⟨by omega,?_⟩
   refine z0l rfl (fun hc=>z0D ?_) (fun hc=>z0q ?_)
   ·have hge:=of_decide_eq_true hc
    obtain ⟨m,rfl⟩:∃m,n=m+1:=⟨n - 1,by omega⟩
    have e:(((m+1:Nat):Int) - 1)=(m:Nat):=by omega
    refine zE (zA e cI) ?_
    repeat refine ⟨by omega,?_⟩
    refine z0d (z0f (z0d (z0d (z0p ?_))))
    refine zE (zA @z0a (zA @z0R cI)) ?_
    repeat refine ⟨by omega,?_⟩
    refine z0l rfl (fun hz=>?_) (fun hz=>z0D ?_)
    ·have hlt:=of_decide_eq_true hz
     have:=z8b hla (by omega) (by omega) ht (by omega)
     rw [z0F,z0F] at this
     refine z0d (z0g ?_)
     refine zE cI ?_
     repeat refine ⟨by omega,?_⟩
     refine z0i (z0h ?_)
     refine zE cI ?_
     repeat refine ⟨by omega,?_⟩
     rw [z8s,if_pos this];exact .imm rfl
    ·have hge':=of_decide_eq_false hz
     refine zE cI ?_
     repeat refine ⟨by omega,?_⟩
     refine z0d (z0p ?_)
     refine zE (zA @z0a (zA @z0R cI)) ?_
     repeat refine ⟨by omega,?_⟩
     refine z0l rfl (fun hz=>?_) (fun hz=>z0D ?_)
     ·have hlt:=of_decide_eq_true hz
      have:=z8b hlb (by omega) (by omega) ht.symm (by omega)
      rw [z0F,z0F] at this
      refine z0d (z0g ?_)
      refine zE cI ?_
      repeat refine ⟨by omega,?_⟩
      refine z0i (z0h ?_)
      refine zE cI ?_
      repeat refine ⟨by omega,?_⟩
      rw [z8s,if_neg (by omega),if_pos this];exact .imm rfl
     ·have hge2:=of_decide_eq_false hz
      refine zE cI ?_
      repeat refine ⟨by omega,?_⟩
      refine z0g ?_
      refine zE cI ?_
      exact ⟨m,⟨by omega,y4j (by omega) (by omega) ht (by omega)⟩,by omega,by simp [z0y,lk]⟩
   ·have hlt:=of_decide_eq_false hc
    have h0:n=0:=by omega
    subst h0
    rw [List.drop_zero,List.drop_zero] at ht
    have:=z4o ht
    refine zE cI ?_
    repeat refine ⟨by omega,?_⟩
    refine z0d (z0g ?_)
    refine zE cI ?_
    repeat refine ⟨by omega,?_⟩
    refine z0i (z0h ?_)
    refine zE cI ?_
    repeat refine ⟨by omega,?_⟩
    rw [z8s,if_neg (by omega),if_neg (by omega)];exact .imm rfl
theorem z1w {a:List Nat} (hl:lim a):(limbs (vn a)).length≤a.length:=by
 rw [←z3C hl];exact y7M a
theorem z6Q (a b:List Nat) (ha:a.length≤1000000) (hb:b.length≤1000000) (la:lim a) (lb:lim b):z0c prog 165 [.sl 1 (us a),.sl 1 (us b)] (.int .i64 (z8s (vn a) (vn b))):=by
 have h1:=z1w la
 have h2:=z1w lb
 have c1:=z0S a ha la
 have c2:=z0S b hb lb
 refine z0b w3F (by simp [x8P]) ?_
 unfold y77
 generalize vn a=x at h1 c1 ⊢
 generalize vn b=y at h2 c2 ⊢
 refine z0d (z0g ?_)
 refine zE cI ?_
 repeat refine ⟨by omega,?_⟩
 refine z0d (z0g ?_)
 refine zE cI ?_
 repeat refine ⟨by omega,?_⟩
 refine cP c1 ?_
 refine zE cI ?_
 repeat refine ⟨by omega,?_⟩
 refine cP c2 ?_
 refine zE cI ?_
 repeat refine ⟨by omega,?_⟩
 refine z0d (z0d (z0g ?_))
 refine zE (zA @z0a cI) ?_
 repeat refine ⟨by omega,?_⟩
 refine z0l rfl (fun hv=>?_) (fun hv=>z0D ?_)
 ·have hne:=of_decide_eq_true hv
  refine z0d (z0d (z0g ?_))
  refine zE (zA @z0a cI) ?_
  repeat refine ⟨by omega,?_⟩
  rw [y3M (by omega)]
  refine z0l rfl (fun hc=>?_) (fun hc=>z0D ?_)
  ·have hlt:=of_decide_eq_true hc
   rw [if_pos (by omega)]
   refine z0d (z0g ?_)
   refine zE cI ?_
   repeat refine ⟨by omega,?_⟩
   refine z0i (z0h ?_)
   refine zE cI ?_
   repeat refine ⟨by omega,?_⟩
   exact .imm rfl
  ·have hlt:=of_decide_eq_false hc
   rw [if_neg (by omega)]
   refine zE cI ?_
   repeat refine ⟨by omega,?_⟩
   refine z0d (z0g ?_)
   refine zE cI ?_
   repeat refine ⟨by omega,?_⟩
   refine z0i (z0h ?_)
   refine zE cI ?_
   repeat refine ⟨by omega,?_⟩
   exact .imm rfl
 ·have hlen:=of_decide_eq_false hv
  have hlen:(limbs x).length=(limbs y).length:=by omega
  refine zE cI ?_
  repeat refine ⟨by omega,?_⟩
  refine z0d (z0d (z0g ?_))
  refine zE (zA @z0a cI) ?_
  repeat refine ⟨by omega,?_⟩
  have hla:=z0e x
  have hlb:=z0e y
  refine z0f (z0v (σ:=Nat) (fun n=>[(0,.sl 1 (us (limbs x))),(1,.sl 1 (us (limbs y))),(4,.int .i64 0),(5,.int .i64 ((n:Int) - 1))]) (fun _=>[]) (fun n=>n≤(limbs x).length∧(limbs x).drop n=(limbs y).drop n) (fun n=>n) (limbs x).length ⟨Nat.le_refl _,by rw [List.drop_of_length_le (Nat.le_refl _),List.drop_of_length_le (by omega)]⟩ ?_ rfl ?_)
  ·simp [z0y,lk]
  ·rintro n ⟨hn,ht⟩
   refine z0d (z0d (z0g ?_))
   refine zE (zA @z0a cI) ?_
   repeat refine ⟨by omega,?_⟩
   refine z0l rfl (fun hc=>z0D ?_) (fun hc=>z0q ?_)
   ·have hge:=of_decide_eq_true hc
    obtain ⟨m,rfl⟩:∃m,n=m+1:=⟨n - 1,by omega⟩
    have e:(((m+1:Nat):Int) - 1)=(m:Nat):=by omega
    refine zE (zA e cI) ?_
    repeat refine ⟨by omega,?_⟩
    refine z0d (z0f (z0f (z0d (z0p ?_))))
    refine zE (zA @z0a (zA @z0R cI)) ?_
    repeat refine ⟨by omega,?_⟩
    refine z0l rfl (fun hz=>?_) (fun hz=>?_)
    ·have hlt:=of_decide_eq_true hz
     have:=z8b hla (by omega) (by omega) ht (by omega)
     rw [z0F,z0F] at this
     refine z0d (z0g ?_)
     refine zE cI ?_
     repeat refine ⟨by omega,?_⟩
     refine z0i (z0h ?_)
     refine zE cI ?_
     repeat refine ⟨by omega,?_⟩
     rw [z8s,if_pos this];exact .imm rfl
    ·have hge':=of_decide_eq_false hz
     refine z0d (z0p ?_)
     refine zE (zA @z0a (zA @z0R cI)) ?_
     repeat refine ⟨by omega,?_⟩
     refine z0l rfl (fun hz=>?_) (fun hz=>z0D ?_)
     ·have hlt:=of_decide_eq_true hz
      have:=z8b hlb (by omega) (by omega) ht.symm (by omega)
      rw [z0F,z0F] at this
      refine z0d (z0g ?_)
      refine zE cI ?_
      repeat refine ⟨by omega,?_⟩
      refine z0i (z0h ?_)
      refine zE cI ?_
      repeat refine ⟨by omega,?_⟩
      rw [z8s,if_neg (by omega),if_pos this];exact .imm rfl
     ·have hge2:=of_decide_eq_false hz
      refine zE cI ?_
      refine z0g ?_
      refine zE cI ?_
      exact ⟨m,⟨by omega,y4j (by omega) (by omega) ht (by omega)⟩,by omega,by simp [z0y,lk]⟩
   ·have hlt:=of_decide_eq_false hc
    have h0:n=0:=by omega
    subst h0
    rw [List.drop_zero,List.drop_zero] at ht
    have:=z4o ht
    refine zE cI ?_
    repeat refine ⟨by omega,?_⟩
    refine z0d (z0g ?_)
    refine zE cI ?_
    repeat refine ⟨by omega,?_⟩
    refine z0i (z0h ?_)
    refine zE cI ?_
    repeat refine ⟨by omega,?_⟩
    rw [z8s,if_neg (by omega),if_neg (by omega)];exact .imm rfl
theorem z9u {x:Nat} (h:(limbs x).length≤2):x<18446744073709551616:=by
 have:=z0B.1 h;simpa using this
def y3t (x:Nat):DV:=if (limbs x).length > 2 then .tup [.int .u64 0,.bool false] else .tup [.int .u64 x,.bool true]
theorem z9B (a:List Nat) (ha:a.length≤1000000) (la:lim a):z0c prog 222 [.sl 1 (us a)] (y3t (vn a)):=by
 have h1:=z1w la
 have c1:=z0S a ha la
 refine z0b w0y (by simp [x27]) ?_
 unfold y3U
 generalize vn a=x at h1 c1 ⊢
 refine z0d (z0g ?_)
 refine zE cI ?_
 repeat refine ⟨by omega,?_⟩
 refine z0d (z0g ?_)
 refine zE cI ?_
 repeat refine ⟨by omega,?_⟩
 refine cP c1 ?_
 refine zE cI ?_
 repeat refine ⟨by omega,?_⟩
 refine z0d (z0d (z0g ?_))
 refine zE (zA @z0a cI) ?_
 repeat refine ⟨by omega,?_⟩
 refine z0l rfl (fun hv=>?_) (fun hv=>z0D ?_)
 ·have hgt:=of_decide_eq_true hv
  refine z0d (z0g ?_)
  refine zE cI ?_
  repeat refine ⟨by omega,?_⟩
  rw [y3t,if_pos (by omega)]
  exact z0i (z2f (.imm rfl) (.imm rfl))
 ·have hle:=of_decide_eq_false hv
  have hx:=z9u (x:=x) (by omega)
  rw [y3t,if_neg (by omega)]
  refine zE cI ?_
  repeat refine ⟨by omega,?_⟩
  refine z0d (z0d (z0g ?_))
  refine zE (zA @z0a cI) ?_
  repeat refine ⟨by omega,?_⟩
  refine z0f (z0v (σ:=Nat) (fun n=>[(0,.sl 1 (us (limbs x))),(2,.int .u64 (nv ((limbs x).take n))),(11,.sl 1 (us (limbs x))),(12,.int .i64 (limbs x).length),(13,.int .i64 n)]) (fun _=>[]) (fun n=>n≤(limbs x).length) (fun n=>(limbs x).length - n) 0 (Nat.zero_le _) ?_ rfl ?_)
  ·simp [z0y,lk,nv]
  ·rintro n hn
   refine z0d (z0g ?_)
   refine zE cI ?_
   repeat refine ⟨by omega,?_⟩
   refine z0d (z0l rfl (fun hc=>z0D ?_) (fun hc=>z0q ?_))
   ·have hlt:=of_decide_eq_true hc
    refine zE cI ?_
    repeat refine ⟨by omega,?_⟩
    refine z0d (z0f (z0d (z0g ?_)))
    refine zE (zA @z0a (zA @z0R cI)) ?_
    repeat refine ⟨by omega,?_⟩
    refine z0g ?_
    refine zE (zA @z0a (zA @z0R (zA @w2u cI))) ?_
    repeat refine ⟨by omega,?_⟩
    have hx0:=z0G (z0e x) n
    have hts:=z4t (a:=limbs x) (n:=n) (by omega)
    have key:z24 BinOp.or IntKind.u64 (nv (List.take n (limbs x)):Int) (((limbs x).getD n 0:Int) % 18446744073709551616*2 ^ min (32*(n:Int)).toNat IntKind.u64.bits % 18446744073709551616)=((nv ((limbs x).take (n+1)):Nat):Int):=by
     generalize (limbs x).getD n 0=y at hx0 hts
     rw [hts]
     have hn2:n=0∨n=1:=by omega
     rcases hn2 with rfl|rfl
     ·have e1:(2 ^ min (32*((0:Nat):Int)).toNat IntKind.u64.bits:Int)=1:=by decide
      rw [e1,show (y:Int) % 18446744073709551616*1 % 18446744073709551616=(y:Int) by omega,y2Z _ _ (by simp [nv]) (by omega)]
      simp [nv]
     ·have e1:(2 ^ min (32*((1:Nat):Int)).toNat IntKind.u64.bits:Int)=4294967296:=by decide
      have ht1:nv ((limbs x).take 1)<4294967296:=by
       have:=z9E (z3a (z0e x) 1)
       have h2:(4294967296:Nat) ^ ((limbs x).take 1).length≤4294967296 ^ 1:=Nat.pow_le_pow_right (by decide) (by simp;omega)
       omega
      rw [e1,show (y:Int) % 18446744073709551616*4294967296 % 18446744073709551616=((4294967296*y:Nat):Int) by omega,y2Z _ _ (by omega) (by omega),Nat.or_comm,x9m ht1]
      omega
    rw [key]
    refine z0g ?_
    refine zE cI ?_
    exact ⟨n+1,by omega,by omega,by simp [z0y,lk]⟩
   ·have hge:=of_decide_eq_false hc
    rw [List.take_of_length_le (by omega),z0F]
    refine zE cI ?_
    repeat refine ⟨by omega,?_⟩
    refine z0d (z0g ?_)
    refine zE cI ?_
    repeat refine ⟨by omega,?_⟩
    exact z0i (z2f (.imm rfl) (.imm rfl))
theorem y53 (hi lo y:Nat) (h1:hi<y) (h2:lo<4294967296) (h3:y<4294967296) :
  z0c prog 249 [.int .u32 hi,.int .u32 lo,.int .u32 y] (.tup [.int .u32 ((4294967296*hi+lo) / y:Nat),.int .u32 ((4294967296*hi+lo) % y:Nat)]):=by
 refine z0b w0s (by simp [x2Y]) ?_
 unfold y3O
 have hq:=x8E h1 h2
 have hr:(4294967296*hi+lo) % y<y:=Nat.mod_lt _ (by omega)
 refine z0d (z0g ?_)
 refine zE cI ?_
 repeat refine ⟨by omega,?_⟩
 refine z0d (z0d (z0g ?_))
 have e1:(¬((y:Int))=0)=True:=by simp only [eq_iff_iff,iff_true];omega
 refine zE (zA e1 (zA @decide_true cI)) ?_
 repeat refine ⟨by omega,?_⟩
 refine z0l rfl (fun h=>by have:=of_decide_eq_true h;omega) (fun _=>z0D ?_)
 refine zE cI ?_
 repeat refine ⟨by omega,?_⟩
 refine z0d (z0g ?_)
 simp (maxSteps:=1000000) (disch:=omega) only [cA,cB,cN,FnD.nb,lk,lkH,Dst.onT,Dst.onX,Dst.slot,z0W,z0N,z0J,z0X,z0u,z0V,unE,cnt,z0j,z0t,z0m,z0o,opE,rmH,z02,z0n,Nat.reduceEqDiff,Nat.reduceLT,Nat.reduceAdd,Nat.reduceMul,Nat.reduceMod,↓reduceIte,reduceCtorEq,Nat.reduceLeDiff,w2u,cI]
 repeat refine ⟨by omega,?_⟩
 refine z0d (z0p ?_)
 have o1:z24 BinOp.or IntKind.u64 ((hi:Int)*2 ^ min (Int.toNat 32) IntKind.u64.bits % 18446744073709551616) (lo:Int)=((4294967296*hi+lo:Nat):Int):=by
  have:=w7i (h:=hi) h2 (by omega)
  rwa [show (lo:Int) % 18446744073709551616=(lo:Int) by omega] at this
 rw [o1]
 generalize 4294967296*hi+lo=N at hq hr ⊢
 refine zE (zA @y3q (zA @z8e cI)) ?_
 repeat refine ⟨by omega,?_⟩
 have w1:IntKind.u32.wrap (IntKind.u64.wrap ((N / y:Nat):Int))=((N / y:Nat):Int):=by
  generalize N / y=q at hq ⊢
  rw [x8s (by omega) (by omega),w60 (by omega) (by omega)]
 rw [w1]
 exact z0i (z2f (.imm rfl) (.imm rfl))
theorem y46 (x d:Nat) (ha:(limbs x).length≤1000000) (hd:0<d) (hd2:d<4294967296) :
  z0c prog 225 [.sl 1 (us (limbs x)),.int .u32 d] (.tup [.sl 1 (us (limbs (x / d))),.int .u32 (x % d:Nat)]):=by
 refine z0b x6X (by simp [y2k]) ?_
 unfold y0L
 have la:=z0e x
 refine z0d (z0g ?_)
 refine zE cI ?_
 repeat refine ⟨by omega,?_⟩
 refine z0d (z0g ?_)
 refine zE (zA @z0a (zA @z7Y (zA @x7g cI))) ?_
 repeat refine ⟨by omega,?_⟩
 refine z0d (z0d (z0g ?_))
 refine zE (zA @z0a cI) ?_
 repeat refine ⟨by omega,?_⟩
 refine z0f (z0v (σ:=Nat × List Nat) (fun s=>[(0,.sl 1 (us (limbs x))),(1,.int .u32 d),(4,.osl 1 9 0 (limbs x).length),(5,.int .u32 (nv ((limbs x).drop s.1) % d:Nat)),(6,.int .i64 ((s.1:Int) - 1))])
  (fun s=>[(9,us (List.replicate s.1 0++s.2))]) (fun s=>s.1+s.2.length=(limbs x).length∧lim s.2∧nv s.2=nv ((limbs x).drop s.1) / d) (fun s=>s.1) ((limbs x).length,[])
  ⟨by simp,z1o,by rw [List.drop_of_length_le (Nat.le_refl _)];simp [nv]⟩ ?_ ?_ ?_)
 ·rw [List.drop_of_length_le (Nat.le_refl _)]
  simp [z0y,lk,nv]
 ·simp
 ·rintro ⟨n,q⟩ ⟨hn,hq,hnq⟩
  simp only at hn hq hnq ⊢
  refine z0d (z0d (z0g ?_))
  refine zE cI ?_
  repeat refine ⟨by omega,?_⟩
  refine z0l rfl (fun hc=>z0D ?_) (fun hc=>z0q ?_)
  ·have hge:=of_decide_eq_true hc
   obtain ⟨m,rfl⟩:∃m,n=m+1:=⟨n - 1,by omega⟩
   have e:(((m+1:Nat):Int) - 1)=(m:Nat):=by omega
   have hr:=Nat.mod_lt (nv ((limbs x).drop (m+1))) hd
   have hlm:=z0G la m
   have hdv:=z5i (a:=limbs x) (m:=m) (by omega)
   obtain ⟨s1,s2⟩:=x6x (N:=nv ((limbs x).drop (m+1))) (x:=(limbs x).getD m 0) hd
   have hqlt:=x8E hr hlm
   have hc32:=y53 _ _ d hr hlm hd2
   have hlen:(List.replicate (m+1) 0++q).length=(limbs x).length:=by simp;omega
   refine zE (zA e cI) ?_
   repeat refine ⟨by omega,?_⟩
   refine z0d (z0f (z0g ?_))
   refine zE (zA @z0a (zA @z0R cI)) ?_
   repeat refine ⟨by omega,?_⟩
   refine cP hc32 ?_
   rw [←hdv] at s1 s2
   rw [←s2]
   generalize (4294967296*(nv ((limbs x).drop (m+1)) % d)+(limbs x).getD m 0) / d=qd at s1 hqlt ⊢
   refine zE (zA @z0a (zA hlen (zA @z39 (zA @x5w cI)))) ?_
   repeat refine ⟨by omega,?_⟩
   refine z0g ?_
   refine zE cI ?_
   refine ⟨(m,qd::q),⟨by simp only [List.length_cons];omega,z2t.2 ⟨hqlt,hq⟩,?_⟩,by omega,by simp [z0y,lk],rfl⟩
   simp only [nv]
   rw [s1,hnq]
  ·have hlt:=of_decide_eq_false hc
   have h0:n=0:=by omega
   subst h0
   rw [List.drop_zero,z0F] at hnq
   rw [List.drop_zero,z0F]
   simp only [List.replicate_zero,List.nil_append]
   refine zE cI ?_
   repeat refine ⟨by omega,?_⟩
   refine z0d (z0g ?_)
   refine zE cI ?_
   repeat refine ⟨by omega,?_⟩
   refine z1e rfl 9 (cells:=us q) (by simp [lkH]) (z4E q) ?_
   refine zE (zA @z0a cI) ?_
   have ct:=z1D q (by omega) hq
   rw [hnq] at ct
   refine cP ct ?_
   refine zE cI ?_
   exact z0i (z2f (.imm rfl) (.imm rfl))
theorem z8g (x y c:Nat) (h1:x<4294967296) (h2:y<4294967296) (h3:c<4294967296) :
  z0c prog 220 [.int .u32 x,.int .u32 y,.int .u32 c] (.tup [.int .u32 ((x+y+c) % 4294967296:Nat),.int .u32 ((x+y+c) / 4294967296:Nat)]):=by
 refine z0b w0r (by simp [x2X]) ?_
 unfold y3N
 refine z0d (z0g ?_)
 refine zE cI ?_
 repeat refine ⟨by omega,?_⟩
 refine z0d (z0g ?_)
 refine zE (zA @z8o cI) ?_
 repeat refine ⟨by omega,?_⟩
 refine z0d (z0g ?_)
 refine zE (zA @z5q (zA @z5h cI)) ?_
 repeat refine ⟨by omega,?_⟩
 refine z0d (z0g ?_)
 refine zE (zA @z2d cI) ?_
 repeat refine ⟨by omega,?_⟩
 exact z0i (z2f (.imm rfl) (.imm rfl))
theorem x07 (a b:List Nat) (ha:a.length≤100000) (hb:b.length≤100000) (la:lim a) (lb:lim b):z0c prog 161 [.sl 1 (us a),.sl 1 (us b)] (.sl 1 (us (limbs (vn a+vn b)))):=by
 have h1:=z1w la
 have h2:=z1w lb
 have c1:=z0S a (by omega) la
 have c2:=z0S b (by omega) lb
 refine z0b w3E (by simp [x24]) ?_
 unfold y76
 generalize vn a=x at h1 c1 ⊢
 generalize vn b=y at h2 c2 ⊢
 refine z0d (z0g ?_)
 refine zE cI ?_
 repeat refine ⟨by omega,?_⟩
 refine z0d (z0g ?_)
 refine zE cI ?_
 repeat refine ⟨by omega,?_⟩
 refine cP c1 ?_
 refine zE cI ?_
 repeat refine ⟨by omega,?_⟩
 refine cP c2 ?_
 refine zE cI ?_
 repeat refine ⟨by omega,?_⟩
 refine z0d (z5v (ι:=Nat × Nat) (fun i=>(limbs i.2).length≤(limbs i.1).length∧(limbs i.1).length≤100000∧i.1+i.2=x+y) (fun i=>[(0,.sl 1 (us (limbs i.1))),(1,.sl 1 (us (limbs i.2))),(4,.nils)]) (fun _=>[]) (z0d (z0g ?_)) ?_)
 ·refine zE (zA @z0a cI) ?_
  repeat refine ⟨by omega,?_⟩
  refine z0l rfl (fun hv=>z0g ?_) (fun hv=>z0D ?_)
  ·have hlt:=of_decide_eq_true hv
   refine zE cI ?_
   exact ⟨(y,x),⟨by simp only;omega,by simp only;omega,by simp only;omega⟩,by simp [z0y,lk]⟩
  ·have hge:=of_decide_eq_false hv
   refine zE cI ?_
   exact ⟨(x,y),⟨by simp only;omega,by simp only;omega,rfl⟩,by simp [z0y,lk]⟩
 ·rintro ⟨X,Y⟩ ⟨hle,hbig,hxy⟩
  simp only at hle hbig hxy ⊢
  rw [←hxy]
  have laX:=z0e X
  have laY:=z0e Y
  refine z0d (z0g ?_)
  have e1:(((limbs X).length:Int)+1)=(((limbs X).length+1:Nat):Int):=by omega
  refine zE (zA @z0a (zA @z7Y (zA @w4u (zA e1 cI)))) ?_
  repeat refine ⟨by omega,?_⟩
  refine z0d (z0g ?_)
  refine zE cI ?_
  repeat refine ⟨by omega,?_⟩
  refine z0d (z0d (z0g ?_))
  refine zE (zA @z0a cI) ?_
  repeat refine ⟨by omega,?_⟩
  refine z0f (z0v (σ:=Nat × List Nat × Nat) (fun s=>[(0,.sl 1 (us (limbs X))),(1,.sl 1 (us (limbs Y))),(5,.osl 1 24 0 ((limbs X).length+1)),(6,.int .u32 s.2.2),(25,.sl 1 (us (limbs X))),(26,.int .i64 (limbs X).length),(27,.int .i64 s.1)])
   (fun s=>[(24,us (s.2.1++List.replicate ((limbs X).length+1 - s.1) 0))])
   (fun s=>s.1≤(limbs X).length∧s.2.1.length=s.1∧lim s.2.1∧s.2.2≤1∧nv s.2.1+4294967296 ^ s.1*s.2.2=nv ((limbs X).take s.1)+nv ((limbs Y).take s.1))
   (fun s=>(limbs X).length - s.1) (0,[],0) ⟨Nat.zero_le _,rfl,z1o,by decide,by simp [nv]⟩ ?_ ?_ ?_)
  ·simp [z0y,lk]
  ·simp
  ·rintro ⟨n,q,c⟩ ⟨hn,hq,hlq,hc,hnv⟩
   simp only at hn hq hlq hc hnv ⊢
   refine z0d (z0g ?_)
   refine zE cI ?_
   repeat refine ⟨by omega,?_⟩
   refine z0d (z0l rfl (fun hcd=>z0D ?_) (fun hcd=>z0q ?_))
   ·have hlt:=of_decide_eq_true hcd
    have hlt:n<(limbs X).length:=by omega
    refine zE cI ?_
    repeat refine ⟨by omega,?_⟩
    have hxn:=z0G laX n
    have hyn:=z0G laY n
    refine z0d (z0f (z0d (z0g ?_)))
    refine zE (zA @z0a (zA @z0R cI)) ?_
    repeat refine ⟨by omega,?_⟩
    refine z0d (z0g ?_)
    refine zE cI ?_
    repeat refine ⟨by omega,?_⟩
    refine z0d (z5v (ι:=Unit) (fun _=>True) (fun _=>[(0,.sl 1 (us (limbs X))),(1,.sl 1 (us (limbs Y))),(5,.osl 1 24 0 ((limbs X).length+1)),(6,.int .u32 c),(7,.int .i64 n),(8,.int .u32 ((limbs X).getD n 0)),(9,.int .u32 ((limbs Y).getD n 0)),(25,.sl 1 (us (limbs X))),(26,.int .i64 (limbs X).length),(27,.int .i64 n)]) (fun _=>[(24,us (q++List.replicate ((limbs X).length+1 - n) 0))]) (z0d (z0g ?_)) ?_)
    ·refine zE (zA @z0a cI) ?_
     repeat refine ⟨by omega,?_⟩
     refine z0l rfl (fun hv=>z0g ?_) (fun hv=>z0D ?_)
     ·have hl2:=of_decide_eq_true hv
      refine zE (zA @z0a (zA @z0R cI)) ?_
      refine ⟨by omega,by omega,⟨(),by simp [z0y,lk]⟩⟩
     ·have hl2:=of_decide_eq_false hv
      refine zE cI ?_
      have:(limbs Y).getD n 0=0:=by rw [zO1,List.getElem?_eq_none (by omega)];rfl
      rw [this]
      refine ⟨(),by simp [z0y,lk]⟩
    ·rintro ⟨⟩ -
     have hlen:(q++List.replicate ((limbs X).length+1 - n) 0).length=(limbs X).length+1:=by simp;omega
     obtain ⟨k,hk⟩:∃k,(limbs X).length+1 - n=k+1:=⟨(limbs X).length - n,by omega⟩
     rw [hk] at hlen ⊢
     have ca:=z8g _ _ c hxn hyn (by omega)
     refine z0g ?_
     refine zE cI ?_
     repeat refine ⟨by omega,?_⟩
     refine cP ca ?_
     have hdg:((limbs X).getD n 0+(limbs Y).getD n 0+c) / 4294967296≤1:=by omega
     have hsum:=y1Z (x:=(limbs X).getD n 0) (y:=(limbs Y).getD n 0) hnv
     rw [←z0C,←z0C,←Nat.pow_succ] at hsum
     generalize ((limbs X).getD n 0+(limbs Y).getD n 0+c) / 4294967296=c' at hdg hsum ⊢
     have hdl:((limbs X).getD n 0+(limbs Y).getD n 0+c) % 4294967296<4294967296:=by omega
     generalize ((limbs X).getD n 0+(limbs Y).getD n 0+c) % 4294967296=dg at hdl hsum ⊢
     have hset:(q++List.replicate (k+1) 0).set n dg=(q++[dg])++List.replicate k 0:=by rw [←hq];exact y7u k dg q
     refine zE (zA @z0a (zA hlen (zA @z39 (zA hset cI)))) ?_
     repeat refine ⟨by omega,?_⟩
     refine z0g ?_
     refine zE cI ?_
     refine ⟨(n+1,q++[dg],c'),⟨by omega,by simp [hq],?_,hdg,?_⟩,by omega,by simp [z0y,lk],?_⟩
     ·intro z hz
      rcases List.mem_append.1 hz with h|h
      ·exact hlq z h
      ·rw [List.mem_singleton.1 h];exact hdl
     ·rw [z2E,hq]
      simp only [nv,Nat.mul_zero,Nat.add_zero]
      exact hsum
     ·have:(limbs X).length+1 - (n+1)=k:=by omega
      rw [this]
   ·have hge:=of_decide_eq_false hcd
    have hnl:n=(limbs X).length:=by omega
    subst hnl
    rw [List.take_of_length_le (Nat.le_refl _),List.take_of_length_le hle,z0F,z0F] at hnv
    have e2:(limbs X).length+1 - (limbs X).length=1:=by omega
    have hset:(q++[0]).set (limbs X).length c=q++[c]:=by rw [←hq];have:=y7u 0 c q;simpa using this
    have hlen:(q++[0]).length=(limbs X).length+1:=by simp [hq]
    have hlen2:(limbs X).length+1=(q++[c]).length:=by simp [hq]
    rw [e2]
    simp only [List.replicate_one]
    refine zE cI ?_
    repeat refine ⟨by omega,?_⟩
    refine z0d (z0g ?_)
    refine zE (zA @z0a (zA hlen (zA @z39 (zA hset cI)))) ?_
    repeat refine ⟨by omega,?_⟩
    refine z0d (z0g ?_)
    refine zE cI ?_
    repeat refine ⟨by omega,?_⟩
    have hlim:lim (q++[c]):=by
     intro z hz
     rcases List.mem_append.1 hz with h|h
     ·exact hlq z h
     ·rw [List.mem_singleton.1 h];omega
    have ct:=z1D (q++[c]) (by omega) hlim
    rw [z2E,hq] at ct
    simp only [nv,Nat.mul_zero,Nat.add_zero] at ct
    rw [hnv] at ct
    refine z1e rfl 24 (cells:=us (q++[c])) (by simp [lkH]) (z4E _) ?_
    refine zE (zA @z0a cI) ?_
    refine cP ct ?_
    refine zE cI ?_
    exact z0i (z0h (.imm rfl))
theorem w4c {x:Nat} (h:x<4294967296):lim [x]:=z2t.2 ⟨h,z1o⟩
theorem w6Z (k:IntKind) (n:Int):(∀d∈[DV.int k n],d.rf=true)=True:=by simp [DV.rf]
theorem x71 (a:Nat):((a:Int)).fdiv (2 ^ min (Int.toNat 16) IntKind.u32.bits)=((a / 65536:Nat):Int):=by
 have:(2 ^ min (Int.toNat 16) IntKind.u32.bits:Int)=((65536:Nat):Int):=by decide
 rw [this,z4H]
theorem x5z (a:Nat):((a:Int)).fdiv (2 ^ min (Int.toNat 8) IntKind.u32.bits)=((a / 256:Nat):Int):=by
 have:(2 ^ min (Int.toNat 8) IntKind.u32.bits:Int)=((256:Nat):Int):=by decide
 rw [this,z4H]
theorem y54 (x:Nat) (hx:x<4294967296):z0c prog 265 [.int .u32 x] (.int .i64 (z2p x:Nat)):=by
 refine z0b w0t (by simp [x2Z]) ?_
 unfold y3P
 generalize hL:([0,1,2,2,3,3,3,3,4,4,4,4,4,4,4,4,5,5,5,5,5,5,5,5,5,5,5,5,5,5,5,5,6,6,6,6,6,6,6,6,6,6,6,6,6,6,6,6,6,6,6,6,6,6,6,6,6,6,6,6,6,6,6,6,7,7,7,7,7,7,7,7,7,7,7,7,7,7,7,7,7,7,7,7,7,7,7,7,7,7,7,7,7,7,7,7,7,7,7,7,7,7,7,7,7,7,7,7,7,7,7,7,7,7,7,7,7,7,7,7,7,7,7,7,7,7,7,7,8,8,8,8,8,8,8,8,8,8,8,8,8,8,8,8,8,8,8,8,8,8,8,8,8,8,8,8,8,8,8,8,8,8,8,8,8,8,8,8,8,8,8,8,8,8,8,8,8,8,8,8,8,8,8,8,8,8,8,8,8,8,8,8,8,8,8,8,8,8,8,8,8,8,8,8,8,8,8,8,8,8,8,8,8,8,8,8,8,8,8,8,8,8,8,8,8,8,8,8,8,8,8,8,8,8,8,8,8,8,8,8,8,8,8,8,8,8,8,8,8,8,8,8,8,8,8,8]:List UInt8)=L
 have hl:L.length=256:=by rw [←hL];decide +kernel
 have hg:∀n,n<256→((L.getD n 0).toNat)=z2p n:=by
  have:∀n:Fin 256,((L.getD n.val 0).toNat)=z2p n.val:=by rw [←hL];decide +kernel
  exact fun n hn=>this ⟨n,hn⟩
 refine zS cI ?_
 refine z0l rfl (fun h1=>?_) (fun h1=>z0D ?_)
 ·have h1:=of_decide_eq_true h1
  have e1:=y14 (x:=x) (k:=16) (by omega)
  have l1:x / 65536<65536:=by omega
  rw [show 2 ^ 16=65536 from rfl] at e1
  rw [e1]
  refine zS (zA @x71 cI) ?_
  generalize x / 65536=y at l1 e1 ⊢
  refine z0l rfl (fun h2=>?_) (fun h2=>z0D ?_)
  ·have h2:=of_decide_eq_true h2
   have e2:=y14 (x:=y) (k:=8) (by omega)
   have l2:y / 256<256:=by omega
   rw [show 2 ^ 8=256 from rfl] at e2
   rw [e2]
   refine zS (zA @x5z cI) ?_
   generalize y / 256=z at l2 ⊢
   have hb:=z2h (x:=z) (k:=8) (by omega)
   refine zS (zA hl (zA hg (zA @z4S.eq_1 cI))) ?_
   refine z0i (z0h ?_)
   refine zE cI ?_
   rw [show (16:Int)+8+((z2p z:Nat):Int)=((z2p z+8+16:Nat):Int) by omega]
   exact .imm rfl
  ·have h2:=of_decide_eq_false h2
   have l2:y<256:=by omega
   have hb:=z2h (x:=y) (k:=8) (by omega)
   refine zS (zA hl (zA hg (zA @z4S.eq_1 cI))) ?_
   refine z0i (z0h ?_)
   refine zE cI ?_
   rw [show (16:Int)+((z2p y:Nat):Int)=((z2p y+16:Nat):Int) by omega]
   exact .imm rfl
 ·have h1:=of_decide_eq_false h1
  have l1:x<65536:=by omega
  refine zS cI ?_
  refine z0l rfl (fun h2=>?_) (fun h2=>z0D ?_)
  ·have h2:=of_decide_eq_true h2
   have e2:=y14 (x:=x) (k:=8) (by omega)
   have l2:x / 256<256:=by omega
   rw [show 2 ^ 8=256 from rfl] at e2
   rw [e2]
   refine zS (zA @x5z cI) ?_
   generalize x / 256=z at l2 ⊢
   have hb:=z2h (x:=z) (k:=8) (by omega)
   refine zS (zA hl (zA hg (zA @z4S.eq_1 cI))) ?_
   refine z0i (z0h ?_)
   refine zE cI ?_
   rw [show (0:Int)+8+((z2p z:Nat):Int)=((z2p z+8:Nat):Int) by omega]
   exact .imm rfl
  ·have h2:=of_decide_eq_false h2
   have l2:x<256:=by omega
   have hb:=z2h (x:=x) (k:=8) (by omega)
   refine zS (zA hl (zA hg (zA @z4S.eq_1 cI))) ?_
   refine z0i (z0h ?_)
   refine zE cI ?_
   rw [show (0:Int)+((z2p x:Nat):Int)=((z2p x:Nat):Int) by omega]
   exact .imm rfl
theorem x0d (x:Nat) (hx:x<4294967296):z0c prog 250 [.int .u32 x] (.int .i64 (32 - z2p x:Nat)):=by
 have hb:=z2h (x:=x) (k:=32) (by omega)
 refine z0b w3A (by simp [x8N]) ?_
 unfold y72
 refine zS cI ?_
 refine cP (y54 x hx) ?_
 refine zS cI ?_
 rw [show (32:Int) - ((z2p x:Nat):Int)=((32 - z2p x:Nat):Int) by omega]
 exact z0i (z0h (.imm rfl))
theorem z4q (a:List Nat) (k:Nat) (ha:a.length≤1000000) (la:lim a) (hk:k≤31):y0A prog 251 [.sl 1 (us a),.int .i64 k] 1 (a.length+1) (us (dig (a.length+1) (nv a*2 ^ k))):=by
 have hp:=y20 hk
 refine x14 x0L (by simp [z6D]) ?_
 unfold z7i
 refine zS (zA @z0a (zA @z7Y (zA @x09 cI))) ?_
 have e0:((a.length:Int)+1).toNat=a.length+1:=by omega
 rw [e0]
 obtain ⟨N,hN⟩:∃N,N=a.length:=⟨_,rfl⟩
 rw [←hN]
 refine z0v (σ:=List Nat × Nat) (fun s=>[(0,.sl 1 (us a)),(1,.int .i64 k),(5,.osl 1 12 0 (N+1)),(13,.sl 1 (us a)),(14,.int .i64 N),(15,.int .i64 s.1.length)])
  (fun s=>[(12,us (s.1++s.2::List.replicate (N - s.1.length) 0))]) (fun s=>s.1.length≤N∧lim s.1∧s.2<2 ^ k∧nv s.1+4294967296 ^ s.1.length*s.2=nv (a.take s.1.length)*2 ^ k)
  (fun s=>N - s.1.length) ([],0) ⟨Nat.zero_le _,z1o,Nat.two_pow_pos k,by simp [nv]⟩ ?_ (by simp [List.replicate_succ]) ?_
 ·simp [z0y,lk]
 ·rintro ⟨d,c⟩ ⟨hd,ld,hc,hnv⟩
  simp only at hd ld hc hnv ⊢
  refine zS cI ?_
  refine z0l rfl (fun h1=>z0D ?_) (fun h1=>z0q ?_)
  ·have h1:=of_decide_eq_true h1
   have hlt:d.length<N:=by omega
   have hx:=z0G la d.length
   have ht:=z0C (a:=a) d.length
   obtain ⟨m,hm⟩:∃m,N - d.length=m+1:=⟨N - d.length - 1,by omega⟩
   have hm':N - (d.length+1)=m:=by omega
   have hl:(d++c::List.replicate (m+1) 0).length=N+1:=by simp;omega
   have e1:((d.length:Int)+1).toNat=d.length+1:=by omega
   obtain ⟨s1,s2⟩:=x9v hx hk
   have hlow:=w4e (x:=a.getD d.length 0) hc hk
   rw [hm]
   refine zS (zA @z0a (zA @z0R cI)) ?_
   generalize a.getD d.length 0=x at hx ht s1 s2 hlow ⊢
   repeat (first|refine z0d ?_|refine z0g ?_|refine z0p ?_|refine z0f ?_|refine And.intro (by omega) ?_|simp (maxSteps:=1000000) (disch:=omega) only [cA,cB,cN,FnD.nb,lk,lkH,Dst.onT,Dst.onX,Dst.slot,z0W,z0N,z0J,z0X,z0u,z0V,unE,cnt,z0j,z0t,z0m,z0o,opE,rmH,z02,z0n,Nat.reduceEqDiff,Nat.reduceLT,Nat.reduceAdd,Nat.reduceMul,Nat.reduceMod,↓reduceIte,reduceCtorEq,Nat.reduceLeDiff,z0a,w6O hx hk,hl,z0R,y2v,z5q,z5h,x7n hc hk hx,z39,y3e,cI])
   have hl2:(d++(x*2 ^ k % 4294967296+c)::List.replicate (m+1) 0).length=N+1:=by simp;omega
   have hstep:=w1Y (c:=c) hnv (x:=x)
   rw [←ht] at hstep
   have s2':x*2 ^ k / 4294967296 % 4294967296=x*2 ^ k / 4294967296:=Nat.mod_eq_of_lt (by omega)
   refine zS (zA @z0a (zA hl2 (zA @z2d (zA @z5q (zA @z5h (zA e1 (zA @z39 (zA s2' (zA @List.replicate_succ.{0} (zA @x7Z cI)))))))))) ?_
   refine ⟨(d++[x*2 ^ k % 4294967296+c],x*2 ^ k / 4294967296),⟨by simp;omega,z2J.2 ⟨ld,w4c hlow⟩,s2,?_⟩,by simp;omega,by simp [z0y,lk],?_⟩
   ·simp only [y2Y,List.length_append,List.length_cons,List.length_nil,Nat.pow_succ]
    exact hstep
   ·simp [hm']
  ·have h1:=of_decide_eq_false h1
   have hdl:d.length=N:=by omega
   rw [hdl,hN,List.take_of_length_le (Nat.le_refl _)] at hnv
   have hz:N - d.length=0:=by omega
   have hnv':nv (d++[c])=nv a*2 ^ k:=by rw [y2Y,hdl,hN];exact hnv
   have hlt:nv a*2 ^ k<4294967296 ^ (a.length+1):=by
    rw [Nat.pow_succ]
    exact Nat.mul_lt_mul_of_lt_of_le (z9E la) (by omega) (by omega)
   have hfin:d++[c]=dig (a.length+1) (nv a*2 ^ k):=x2A (z2J.2 ⟨ld,w4c (by omega)⟩) (by simp;omega) (by rw [hnv',Nat.mod_eq_of_lt hlt])
   refine zS cI ?_
   rw [hz,List.replicate_zero,hfin,←hN]
   exact z0i (x9I (o:=12) (by simp [lk]) (by simp [lkH]) (z4E _) (by omega))
theorem y0o (a:List Nat) (k:Nat) (ha:a.length≤1000000) (la:lim a) (hk:k≤31):z0c prog 251 [.sl 1 (us a),.int .i64 k] (.sl 1 (us (dig (a.length+1) (nv a*2 ^ k)))) :=
 y0A.pure (z4q a k ha la hk) (by simp [z0a,z1k]) (by simp [dig,us])
theorem w6u {h x t:Nat} (hh:h<4294967296) (hx:x<4294967296) (ht:h*4294967296+x=t):z24 .or .u64 (IntKind.u64.wrap ((h:Int)*2 ^ min (Int.toNat 32) IntKind.u64.bits)) (x:Int)=(t:Int):=by
 subst ht
 have:=w7i (h:=h) hx (by omega)
 rw [w2u,Nat.mul_comm h]
 rwa [show (x:Int) % 18446744073709551616=(x:Int) by omega] at this
theorem y45 (T W u2 u1 u0 v1 v0:Nat) (h2:u2<4294967296) (h1:u1<4294967296) (h0:u0<4294967296) (k1:v1<4294967296) (k0:v0<4294967296) (hu:u2≤v1) (hv:0<v1)
  (hT:(u2*4294967296+u1)*4294967296+u0=T) (hW:v1*4294967296+v0=W) :
  z0c prog 252 [.int .u32 u2,.int .u32 u1,.int .u32 u0,.int .u32 v1,.int .u32 v0] (.int .u64 (gq T W:Nat)):=by
 refine z0b x6W (by simp [y8L]) ?_
 unfold y0K
 obtain ⟨top,htop⟩:∃top,u2*4294967296+u1=top:=⟨_,rfl⟩
 have ht:top<18446744073709551616:=by omega
 have hdm:=Nat.div_add_mod' top v1
 have hd0:=Nat.div_le_self top v1
 have hm0:=Nat.mod_lt top hv
 have hg0:gq T W≤top / v1:=x6O htop h0 hv hT hW
 repeat (first|refine z0d ?_|refine z0g ?_|refine z0p ?_|refine z0f ?_|refine And.intro (by omega) ?_|simp (maxSteps:=1000000) (disch:=omega) only [cA,cB,cN,FnD.nb,lk,lkH,Dst.onT,Dst.onX,Dst.slot,z0W,z0N,z0J,z0X,z0u,z0V,unE,cnt,z0j,z0t,z0m,z0o,opE,rmH,z02,z0n,Nat.reduceEqDiff,Nat.reduceLT,Nat.reduceAdd,Nat.reduceMul,Nat.reduceMod,↓reduceIte,reduceCtorEq,Nat.reduceLeDiff,w6u h2 h1 htop,cI])
 refine zS (zA @y3q (zA @z8e cI)) ?_
 generalize top / v1=q0 at *
 generalize top % v1=r0 at *
 refine zS cI ?_
 refine z0v (σ:=Nat × Nat) (fun s=>[(0,.int .u32 u2),(1,.int .u32 u1),(2,.int .u32 u0),(3,.int .u32 v1),(4,.int .u32 v0),(12,.int .u64 s.1),(13,.int .u64 s.2)]) (fun _=>[])
  (fun s=>s.1*v1+s.2=top∧gq T W≤s.1∧s.1≤top) (fun s=>s.1) (q0,r0) ⟨hdm,hg0,hd0⟩ ?_ rfl ?_
 ·simp [z0y,lk]
 ·rintro ⟨q,r⟩ ⟨hq,hg,hqt⟩
  simp only at hq hg hqt ⊢
  have hrt:r≤top:=by omega
  have step:(4294967296≤q∨r*4294967296+u0<q*v0)→0<q∧gq T W≤q - 1∧(q - 1)*v1+(r+v1)=top:=fun hc=>by
   subst hT;subst hW;subst htop
   exact w0o hq hv hg hc
  have exit:(4294967296≤r∨(q<4294967296∧q*v0≤r*4294967296+u0))→q=gq T W:=fun hc=>by
   subst hT;subst hW;subst htop
   exact w0m hq h1 hu k0 hv hg hc
  by_cases hr:r<4294967296
  ·have d1:decide ((r:Int)<4294967296)=true:=zT9
   by_cases hqB:4294967296≤q
   ·have d2:decide ((4294967296:Int)≤q)=true:=zT9
    obtain ⟨s1,s2,s3⟩:=step (.inl hqB)
    refine zS (zA d1 (zA d2 cI)) ?_
    refine wTs ?_
    have e1:((q:Int) - 1)=((q - 1:Nat):Int):=by omega
    refine zS (zA e1 (zA @z8o cI)) ?_
    refine ⟨(q - 1,r+v1),⟨s3,s2,by simp only;omega⟩,by simp only;omega,by simp [z0y,lk]⟩
   ·have d2:decide ((4294967296:Int)≤q)=false:=zF9
    have hqB':q<4294967296:=by omega
    repeat (first|refine z0d ?_|refine z0g ?_|refine z0p ?_|refine z0f ?_|refine And.intro (by omega) ?_|simp (maxSteps:=1000000) (disch:=omega) only [cA,cB,cN,FnD.nb,lk,lkH,Dst.onT,Dst.onX,Dst.slot,z0W,z0N,z0J,z0X,z0u,z0V,unE,cnt,z0j,z0t,z0m,z0o,opE,rmH,z02,z0n,Nat.reduceEqDiff,Nat.reduceLT,Nat.reduceAdd,Nat.reduceMul,Nat.reduceMod,↓reduceIte,reduceCtorEq,Nat.reduceLeDiff,d1,d2,x7f hqB' k0,w6u hr h0 rfl,cI])
    refine z0l rfl (fun hc=>z0D ?_) (fun hc=>z0q ?_)
    ·have hc:=of_decide_eq_true hc
     obtain ⟨s1,s2,s3⟩:=step (.inr (by omega))
     have e1:((q:Int) - 1)=((q - 1:Nat):Int):=by omega
     refine zS (zA e1 (zA @z8o cI)) ?_
     refine ⟨(q - 1,r+v1),⟨s3,s2,by simp only;omega⟩,by simp only;omega,by simp [z0y,lk]⟩
    ·have hc:=of_decide_eq_false hc
     rw [←exit (.inr ⟨hqB',by omega⟩)]
     refine zS cI ?_
     exact z0i (z0h (.imm rfl))
  ·have d1:decide ((r:Int)<4294967296)=false:=zF9
   refine zS (zA d1 cI) ?_
   refine z0l rfl (fun h=>by cases h) (fun _=>z0q ?_)
   rw [←exit (.inl (by omega))]
   refine zS cI ?_
   exact z0i (z0h (.imm rfl))
theorem z2V (a:List Nat) (i:Nat) (_ha:a.length≤1000000) (la:lim a):z0c prog 190 [.sl 1 (us a),.int .i64 i] (.int .u64 (a.getD i 0:Nat)):=by
 have hlt:=z0G la i
 refine z0b w0F (by simp [x3i]) ?_
 unfold y31
 refine z0d (z0g ?_)
 refine zE cI ?_
 repeat refine ⟨by omega,?_⟩
 refine z0d (z0d (z0g ?_))
 refine zE (zA @z0a cI) ?_
 repeat refine ⟨by omega,?_⟩
 refine z0l rfl (fun h=>?_) (fun h=>z0D ?_)
 ·have h:=of_decide_eq_true h
  have:a.getD i 0=0:=by rw [zO1,List.getElem?_eq_none (by omega)];rfl
  rw [this]
  refine z0d (z0g ?_)
  refine zE cI ?_
  repeat refine ⟨by omega,?_⟩
  exact z0i (z0h (.imm rfl))
 ·have h:=of_decide_eq_false h
  refine zE cI ?_
  repeat refine ⟨by omega,?_⟩
  refine z0d (z0g ?_)
  refine zE (zA @z0a (zA @z0R cI)) ?_
  repeat refine ⟨by omega,?_⟩
  exact z0i (z0h (.imm rfl))
theorem z6S (a b:List Nat) (ha:a.length≤100000) (hb:b.length≤100000) (la:lim a) (lb:lim b):z0c prog 117 [.sl 1 (us a),.sl 1 (us b)] (.sl 1 (us (limbs (vn a+vn b)))):=by
 have h1:=z1w la
 have h2:=z1w lb
 have c1:=z01 a (by omega) la
 have c2:=z01 b (by omega) lb
 refine z0b w3S (by simp [x3h]) ?_
 unfold y8k
 generalize vn a=x at h1 c1 ⊢
 generalize vn b=y at h2 c2 ⊢
 have laX:=z0e x
 have laY:=z0e y
 refine z0d (z0g ?_)
 refine zE cI ?_
 repeat refine ⟨by omega,?_⟩
 refine z0d (z0g ?_)
 refine zE cI ?_
 repeat refine ⟨by omega,?_⟩
 refine cP c1 ?_
 refine zE cI ?_
 repeat refine ⟨by omega,?_⟩
 refine cP c2 ?_
 refine zE cI ?_
 repeat refine ⟨by omega,?_⟩
 refine z0d (z0g ?_)
 refine zE cI ?_
 repeat refine ⟨by omega,?_⟩
 refine z0d (z0g ?_)
 refine zE cI ?_
 repeat refine ⟨by omega,?_⟩
 obtain ⟨M,hM⟩:∃M,M=max (limbs x).length (limbs y).length:=⟨_,rfl⟩
 refine z0d (z0d (z0g ?_))
 refine zE cI ?_
 repeat refine ⟨by omega,?_⟩
 refine z0f (z0v (σ:=List Nat × Nat) (fun s=>[(0,.sl 1 (us (limbs x))),(1,.sl 1 (us (limbs y))),(5,oap 35 s.1),(6,.int .u64 s.2),(7,.int .i64 s.1.length)])
  (fun s=>hap 35 s.1)
  (fun s=>s.1.length≤M+1∧lim s.1∧s.2≤1∧nv s.1+4294967296 ^ s.1.length*s.2=nv ((limbs x).take s.1.length)+nv ((limbs y).take s.1.length))
  (fun s=>M+1 - s.1.length) ([],0) ⟨Nat.zero_le _,z1o,by decide,by simp [nv]⟩ ?_ rfl ?_)
 ·simp [z0y,lk,oap]
 ·rintro ⟨q,c⟩ ⟨hn,hlq,hc,hnv⟩
  simp only at hn hlq hc hnv ⊢
  refine z0d (z0d (z0g ?_))
  refine zE (zA @z0a cI) ?_
  repeat refine ⟨by omega,?_⟩
  have hmx:(if ((limbs y).length:Int) > (limbs x).length then ((limbs y).length:Int) else (limbs x).length)=(M:Int):=by rw [hM];split<;>omega
  rw [hmx]
  refine z0l rfl (fun hcd=>z0D ?_) (fun hcd=>z0q ?_)
  ·have hlt:=of_decide_eq_true hcd
   have hxn:=z0G laX q.length
   have hyn:=z0G laY q.length
   have cx:=z2V (limbs x) q.length (by omega) laX
   have cy:=z2V (limbs y) q.length (by omega) laY
   have hdg:((limbs x).getD q.length 0+(limbs y).getD q.length 0+c) / 4294967296≤1:=by omega
   have hdl:((limbs x).getD q.length 0+(limbs y).getD q.length 0+c) % 4294967296<4294967296:=by omega
   have hsum:=y1Z (x:=(limbs x).getD q.length 0) (y:=(limbs y).getD q.length 0) hnv
   rw [←z0C,←z0C,←Nat.pow_succ] at hsum
   refine zE cI ?_
   repeat refine ⟨by omega,?_⟩
   refine z0d (z0f (z0d (z0g ?_)))
   refine zE cI ?_
   repeat refine ⟨by omega,?_⟩
   refine cP cx ?_
   refine zE cI ?_
   repeat refine ⟨by omega,?_⟩
   refine cP cy ?_
   generalize (limbs x).getD q.length 0=xn at *
   generalize (limbs y).getD q.length 0=yn at *
   refine zE (zA @z8o cI) ?_
   repeat refine ⟨by omega,?_⟩
   refine z0g ?_
   have hres:lim (q++[(xn+yn+c) % 4294967296]):=by
    intro z hz
    rcases List.mem_append.1 hz with h|h
    ·exact hlq z h
    ·rw [List.mem_singleton.1 h];exact hdl
   have hnq:nv (q++[(xn+yn+c) % 4294967296])+4294967296 ^ (q.length+1)*((xn+yn+c) / 4294967296)=nv ((limbs x).take (q.length+1))+nv ((limbs y).take (q.length+1)):=by
    rw [z2E]
    simp only [nv,Nat.mul_zero,Nat.add_zero]
    exact hsum
   generalize xn+yn+c=s at *
   have e7:((q.length:Int)+1)=((q.length+1:Nat):Int):=by omega
   cases q with
   | nil =>
    simp only [oap,hap]
    simp (maxSteps:=1000000) (disch:=omega) only [cA,cB,cN,FnD.nb,lk,lkH,Dst.onT,Dst.onX,Dst.slot,z0W,z0N,z0J,z0X,z0u,z0V,unE,cnt,z0j,z0t,z0m,z0o,opE,rmH,z02,z0n,Nat.reduceEqDiff,Nat.reduceLT,Nat.reduceAdd,Nat.reduceMul,Nat.reduceMod,↓reduceIte,reduceCtorEq,Nat.reduceLeDiff,z5q,z5h,rf1,w4Q,z0t,z2d,List.length_singleton,w4B,cI]
    repeat refine ⟨by omega,?_⟩
    refine z0g ?_
    refine zE cI ?_
    refine ⟨([s % 4294967296],s / 4294967296),⟨by simp,hres,hdg,hnq⟩,by simp,by simp [z0y,lk,oap],rfl⟩
   | cons z q =>
    have hql:(z::q).length=q.length+1:=rfl
    simp only [oap,hap]
    simp (maxSteps:=1000000) (disch:=omega) only [cA,cB,cN,FnD.nb,lk,lkH,Dst.onT,Dst.onX,Dst.slot,z0W,z0N,z0J,z0X,z0u,z0V,unE,cnt,z0j,z0t,z0m,z0o,opE,rmH,z02,z0n,Nat.reduceEqDiff,Nat.reduceLT,Nat.reduceAdd,Nat.reduceMul,Nat.reduceMod,↓reduceIte,reduceCtorEq,Nat.reduceLeDiff,z5q,z5h,rf1,w4Q,z0t,z2d,z0a,y7L,z8f,cI]
    repeat refine ⟨by omega,?_⟩
    refine z0g ?_
    refine zE cI ?_
    refine ⟨(z::q++[s % 4294967296],s / 4294967296),⟨by simp only [List.length_append,List.length_cons,List.length_nil] at *;omega,hres,hdg,by simpa using hnq⟩,by simp only [List.length_append,List.length_cons,List.length_nil] at *;omega,by simp [z0y,lk,oap],by simp [hap,us]⟩
  ·have hge:=of_decide_eq_false hcd
   have hl:q.length=M+1:=by omega
   have e1:(limbs x).take q.length=limbs x:=List.take_of_length_le (by omega)
   have e2:(limbs y).take q.length=limbs y:=List.take_of_length_le (by omega)
   rw [e1,e2,z0F,z0F,hl] at hnv
   have hx:x<4294967296 ^ M:=z0B.1 (by omega)
   have hy:y<4294967296 ^ M:=z0B.1 (by omega)
   have hc0:c=0:=by
    rcases Nat.eq_zero_or_pos c with e|e
    ·exact e
    ·have h3:=Nat.mul_le_mul_left (4294967296 ^ (M+1)) e
     rw [Nat.mul_one,Nat.pow_succ] at h3
     rw [Nat.pow_succ] at hnv
     omega
   subst hc0
   rw [Nat.mul_zero,Nat.add_zero] at hnv
   have ct:=z3S q (by omega) hlq
   rw [hnv] at ct
   obtain ⟨z,r,rfl⟩:∃z r,q=z::r:=by
    cases q with
    | nil=>simp at hl
    | cons z r=>exact ⟨z,r,rfl⟩
   simp only [oap,hap]
   refine zE cI ?_
   repeat refine ⟨by omega,?_⟩
   refine z0d (z0g ?_)
   refine zE cI ?_
   repeat refine ⟨by omega,?_⟩
   refine z1e rfl 35 (cells:=us (z::r)) (by simp [lkH]) (z4E _) ?_
   simp (maxSteps:=1000000) (disch:=omega) only [cA,cB,cN,FnD.nb,lk,lkH,Dst.onT,Dst.onX,Dst.slot,z0W,z0N,z0J,z0X,z0u,z0V,unE,cnt,z0j,z0t,z0m,z0o,opE,rmH,z02,z0n,Nat.reduceEqDiff,Nat.reduceLT,Nat.reduceAdd,Nat.reduceMul,Nat.reduceMod,↓reduceIte,reduceCtorEq,Nat.reduceLeDiff,z0n (show r.length+1=(z::r).length from rfl),cI]
   refine cP ct ?_
   refine zE cI ?_
   exact z0i (z0h (.imm rfl))
theorem z4P (a b:List Nat) (ha:a.length≤100000) (hb:b.length≤100000) (la:lim a) (lb:lim b):z0c prog 118 [.sl 1 (us a),.sl 1 (us b)] (.tup [.sl 1 (us (limbs (vn a - vn b))),.bool (decide (vn b≤vn a))]):=by
 have h1:=z1w la
 have h2:=z1w lb
 have c1:=z01 a (by omega) la
 have c2:=z01 b (by omega) lb
 refine z0b w3X (by simp [x3k]) ?_
 unfold y8p
 generalize vn a=x at h1 c1 ⊢
 generalize vn b=y at h2 c2 ⊢
 have laX:=z0e x
 have laY:=z0e y
 have cc:=x1l x y (by omega) (by omega)
 refine z0d (z0g ?_)
 refine zE cI ?_
 repeat refine ⟨by omega,?_⟩
 refine z0d (z0g ?_)
 refine zE cI ?_
 repeat refine ⟨by omega,?_⟩
 refine cP c1 ?_
 refine zE cI ?_
 repeat refine ⟨by omega,?_⟩
 refine cP c2 ?_
 refine zE cI ?_
 repeat refine ⟨by omega,?_⟩
 refine z0d (z0d (z0g ?_))
 refine zE cI ?_
 repeat refine ⟨by omega,?_⟩
 refine cP cc ?_
 refine zE cI ?_
 repeat refine ⟨by omega,?_⟩
 refine z0l rfl (fun h=>?_) (fun h=>z0D ?_)
 ·have hlt:x<y:=by
   have h:=of_decide_eq_true h
   unfold z8s at h
   split at h
   ·assumption
   ·split at h<;>omega
  rw [show x - y=0 by omega,z0s,decide_eq_false (by omega:¬y≤x)]
  refine z0d (z0g ?_)
  refine zE cI ?_
  repeat refine ⟨by omega,?_⟩
  exact z0i (z2f (.nils 1) (.imm rfl))
 ·have hle:y≤x:=by
   have h:=of_decide_eq_false h
   unfold z8s at h
   split at h
   ·omega
   ·omega
  rw [decide_eq_true hle]
  refine zE cI ?_
  repeat refine ⟨by omega,?_⟩
  refine z0d (z0g ?_)
  refine zE cI ?_
  repeat refine ⟨by omega,?_⟩
  refine z0d (z0g ?_)
  refine zE cI ?_
  repeat refine ⟨by omega,?_⟩
  refine z0d (z0d (z0g ?_))
  refine zE cI ?_
  repeat refine ⟨by omega,?_⟩
  refine z0f (z0v (σ:=List Nat × Nat) (fun s=>[(0,.sl 1 (us (limbs x))),(1,.sl 1 (us (limbs y))),(6,oap 38 s.1),(7,.int .u64 s.2),(8,.int .i64 s.1.length)])
   (fun s=>hap 38 s.1)
   (fun s=>s.1.length≤(limbs x).length∧lim s.1∧s.2≤1∧nv s.1+nv ((limbs y).take s.1.length)=nv ((limbs x).take s.1.length)+4294967296 ^ s.1.length*s.2)
   (fun s=>(limbs x).length - s.1.length) ([],0) ⟨Nat.zero_le _,z1o,by decide,by simp [nv]⟩ ?_ rfl ?_)
  ·simp [z0y,lk,oap]
  ·rintro ⟨q,c⟩ ⟨hn,hlq,hc,hnv⟩
   simp only at hn hlq hc hnv ⊢
   refine z0d (z0d (z0g ?_))
   refine zE (zA @z0a cI) ?_
   repeat refine ⟨by omega,?_⟩
   refine z0l rfl (fun hcd=>z0D ?_) (fun hcd=>z0q ?_)
   ·have hlt:=of_decide_eq_true hcd
    have hxn:=z0G laX q.length
    have hyn:=z0G laY q.length
    have cx:=z2V (limbs x) q.length (by omega) laX
    have cy:=z2V (limbs y) q.length (by omega) laY
    obtain ⟨hsum0,hdg0⟩:=x8k (x:=(limbs x).getD q.length 0) (y:=(limbs y).getD q.length 0) hxn hyn hc hnv
    rw [←z0C,←z0C,←Nat.pow_succ] at hsum0
    refine zE cI ?_
    repeat refine ⟨by omega,?_⟩
    refine z0d (z0f (z0d (z0g ?_)))
    refine zE cI ?_
    repeat refine ⟨by omega,?_⟩
    refine cP cx ?_
    refine zE cI ?_
    repeat refine ⟨by omega,?_⟩
    refine cP cy ?_
    obtain ⟨s,es,hsum,hdg⟩:∃s:Nat,(((limbs x).getD q.length 0:Nat):Int)+4294967296 - ((limbs y).getD q.length 0:Nat) - c=(s:Int) ∧
      (nv q+4294967296 ^ q.length*(s % 4294967296))+nv ((limbs y).take (q.length+1))=nv ((limbs x).take (q.length+1))+4294967296 ^ (q.length+1)*(1 - s / 4294967296)∧s / 4294967296≤1 :=
     ⟨_,by omega,hsum0,hdg0⟩
    clear hsum0 hdg0
    generalize (limbs x).getD q.length 0=xn at hxn es cx ⊢
    generalize (limbs y).getD q.length 0=yn at hyn es cy ⊢
    refine zE (zA es cI) ?_
    repeat refine ⟨by omega,?_⟩
    refine z0g ?_
    have hres:lim (q++[s % 4294967296]):=by
     intro z hz
     rcases List.mem_append.1 hz with h|h
     ·exact hlq z h
     ·rw [List.mem_singleton.1 h];omega
    have hnq:nv (q++[s % 4294967296])+nv ((limbs y).take (q.length+1))=nv ((limbs x).take (q.length+1))+4294967296 ^ (q.length+1)*(1 - s / 4294967296):=by
     rw [z2E]
     simp only [nv,Nat.mul_zero,Nat.add_zero]
     exact hsum
    have e1:((1:Int) - ((s / 4294967296:Nat):Int))=((1 - s / 4294967296:Nat):Int):=by omega
    have e7:((q.length:Int)+1)=((q.length+1:Nat):Int):=by omega
    cases q with
    | nil =>
     simp only [oap,hap]
     simp (maxSteps:=1000000) (disch:=omega) only [cA,cB,cN,FnD.nb,lk,lkH,Dst.onT,Dst.onX,Dst.slot,z0W,z0N,z0J,z0X,z0u,z0V,unE,cnt,z0j,z0t,z0m,z0o,opE,rmH,z02,z0n,Nat.reduceEqDiff,Nat.reduceLT,Nat.reduceAdd,Nat.reduceMul,Nat.reduceMod,↓reduceIte,reduceCtorEq,Nat.reduceLeDiff,z5q,z5h,rf1,w4Q,z0t,z2d,List.length_singleton,w4C,e1,cI]
     repeat refine ⟨by omega,?_⟩
     refine z0g ?_
     refine zE cI ?_
     refine ⟨([s % 4294967296],1 - s / 4294967296),⟨by simp only [List.length_append,List.length_cons,List.length_nil] at *;omega,hres,by simp only;omega,hnq⟩,by simp only [List.length_append,List.length_cons,List.length_nil] at *;omega,by simp [z0y,lk,oap],rfl⟩
    | cons z q =>
     have hql:(z::q).length=q.length+1:=rfl
     simp only [oap,hap]
     simp (maxSteps:=1000000) (disch:=omega) only [cA,cB,cN,FnD.nb,lk,lkH,Dst.onT,Dst.onX,Dst.slot,z0W,z0N,z0J,z0X,z0u,z0V,unE,cnt,z0j,z0t,z0m,z0o,opE,rmH,z02,z0n,Nat.reduceEqDiff,Nat.reduceLT,Nat.reduceAdd,Nat.reduceMul,Nat.reduceMod,↓reduceIte,reduceCtorEq,Nat.reduceLeDiff,z5q,z5h,rf1,w4Q,z0t,z2d,z0a,y7L,z8f,e1,cI]
     repeat refine ⟨by omega,?_⟩
     refine z0g ?_
     refine zE cI ?_
     refine ⟨(z::q++[s % 4294967296],1 - s / 4294967296),⟨by simp only [List.length_append,List.length_cons,List.length_nil] at *;omega,hres,by simp only;omega,by simpa using hnq⟩,by simp only [List.length_append,List.length_cons,List.length_nil] at *;omega,by simp [z0y,lk,oap],by simp [hap,us]⟩
   ·have hge:=of_decide_eq_false hcd
    have hl:q.length=(limbs x).length:=by omega
    have hly:(limbs y).length≤(limbs x).length:=z0B.2 (Nat.lt_of_le_of_lt hle (z0B.1 (Nat.le_refl _)))
    have e1:(limbs x).take q.length=limbs x:=List.take_of_length_le (by omega)
    have e2:(limbs y).take q.length=limbs y:=List.take_of_length_le (by omega)
    have hql:=z9E hlq
    rw [e1,e2,z0F,z0F] at hnv
    have hc0:c=0:=by
     have hc2:c=0∨c=1:=by omega
     rcases hc2 with e|e
     ·exact e
     ·subst e;rw [Nat.mul_one] at hnv;omega
    subst hc0
    rw [Nat.mul_zero,Nat.add_zero] at hnv
    have hnq:nv q=x - y:=by omega
    have ct:=z3S q (by omega) hlq
    rw [hnq] at ct
    cases q with
    | nil =>
     simp only [oap,hap]
     refine zE cI ?_
     repeat refine ⟨by omega,?_⟩
     refine z0d (z0g ?_)
     refine zE cI ?_
     repeat refine ⟨by omega,?_⟩
     refine x0o 1 rfl ct ?_
     refine zE cI ?_
     exact z0i (z2f (.imm rfl) (.imm rfl))
    | cons z r =>
     simp only [oap,hap]
     refine zE cI ?_
     repeat refine ⟨by omega,?_⟩
     refine z0d (z0g ?_)
     refine zE cI ?_
     repeat refine ⟨by omega,?_⟩
     refine z1e rfl 38 (cells:=us (z::r)) (by simp [lkH]) (z4E _) ?_
     simp (maxSteps:=1000000) (disch:=omega) only [cA,cB,cN,FnD.nb,lk,lkH,Dst.onT,Dst.onX,Dst.slot,z0W,z0N,z0J,z0X,z0u,z0V,unE,cnt,z0j,z0t,z0m,z0o,opE,rmH,z02,z0n,Nat.reduceEqDiff,Nat.reduceLT,Nat.reduceAdd,Nat.reduceMul,Nat.reduceMod,↓reduceIte,reduceCtorEq,Nat.reduceLeDiff,z0n (show r.length+1=(z::r).length from rfl),cI]
     refine cP ct ?_
     refine zE cI ?_
     exact z0i (z2f (.imm rfl) (.imm rfl))
theorem z8j (x y c d b:Nat) (h1:x<4294967296) (h2:y<4294967296) (h3:c≤1) (hd:d+y+c=x+4294967296*b) (h:d<4294967296) (hb:b≤1) :
  z0c prog 221 [.int .u32 x,.int .u32 y,.int .u32 c] (.tup [.int .u32 d,.int .u32 b]):=by
 have e0:(if IntKind.u32.signed=true then (-1:Int) else IntKind.u32.max)=4294967295:=by decide
 have ed:=x5G hd h
 have eb:=x2i h1 h2 h3 hd h hb
 refine z0b w0u (by simp [x20]) ?_
 unfold y3Q
 refine z0d (z0g ?_)
 refine zE cI ?_
 repeat refine ⟨by omega,?_⟩
 refine z0d (z0g ?_)
 refine zE (zA ed cI) ?_
 repeat refine ⟨by omega,?_⟩
 refine z0d (z0g ?_)
 refine zE (zA e0 (zA eb cI)) ?_
 repeat refine ⟨by omega,?_⟩
 exact z0i (z2f (.imm rfl) (.imm rfl))
theorem y1z (a b:List Nat) (ha:a.length≤100000) (hb:b.length≤100000) (la:lim a) (lb:lim b):z0c prog 162 [.sl 1 (us a),.sl 1 (us b)] (.tup [.sl 1 (us (limbs (vn a - vn b))),.bool (decide (vn b≤vn a))]):=by
 have h1:=z1w la
 have h2:=z1w lb
 have c1:=z0S a (by omega) la
 have c2:=z0S b (by omega) lb
 refine z0b w3J (by simp [x26]) ?_
 unfold y8b
 generalize vn a=x at h1 c1 ⊢
 generalize vn b=y at h2 c2 ⊢
 have laX:=z0e x
 have laY:=z0e y
 have cc:=z6Q (limbs x) (limbs y) (by omega) (by omega) laX laY
 rw [z0x,z0x] at cc
 refine z0d (z0g ?_)
 refine zE cI ?_
 repeat refine ⟨by omega,?_⟩
 refine z0d (z0g ?_)
 refine zE cI ?_
 repeat refine ⟨by omega,?_⟩
 refine cP c1 ?_
 refine zE cI ?_
 repeat refine ⟨by omega,?_⟩
 refine cP c2 ?_
 refine zE cI ?_
 repeat refine ⟨by omega,?_⟩
 refine z0d (z0d (z0g ?_))
 refine zE cI ?_
 repeat refine ⟨by omega,?_⟩
 refine cP cc ?_
 refine zE cI ?_
 repeat refine ⟨by omega,?_⟩
 refine z0l rfl (fun h=>?_) (fun h=>z0D ?_)
 ·have hlt:x<y:=by
   have h:=of_decide_eq_true h
   unfold z8s at h
   split at h
   ·assumption
   ·split at h<;>omega
  rw [show x - y=0 by omega,z0s,decide_eq_false (by omega:¬y≤x)]
  refine z0d (z0g ?_)
  refine zE cI ?_
  repeat refine ⟨by omega,?_⟩
  exact z0i (z2f (.nils 1) (.imm rfl))
 ·have hle:y≤x:=by
   have h:=of_decide_eq_false h
   unfold z8s at h
   split at h
   ·omega
   ·omega
  rw [decide_eq_true hle]
  refine zE cI ?_
  repeat refine ⟨by omega,?_⟩
  refine z0d (z0g ?_)
  refine zE (zA @z0a (zA @z7Y (zA @w4w cI))) ?_
  repeat refine ⟨by omega,?_⟩
  refine z0d (z0g ?_)
  refine zE cI ?_
  repeat refine ⟨by omega,?_⟩
  refine z0d (z0d (z0g ?_))
  refine zE (zA @z0a cI) ?_
  repeat refine ⟨by omega,?_⟩
  refine z0f (z0v (σ:=Nat × List Nat × Nat) (fun s=>[(0,.sl 1 (us (limbs x))),(1,.sl 1 (us (limbs y))),(6,.osl 1 21 0 (limbs x).length),(7,.int .u32 s.2.2),(22,.sl 1 (us (limbs x))),(23,.int .i64 (limbs x).length),(24,.int .i64 s.1)])
   (fun s=>[(21,us (s.2.1++List.replicate ((limbs x).length - s.1) 0))])
   (fun s=>s.1≤(limbs x).length∧s.2.1.length=s.1∧lim s.2.1∧s.2.2≤1∧nv s.2.1+nv ((limbs y).take s.1)=nv ((limbs x).take s.1)+4294967296 ^ s.1*s.2.2)
   (fun s=>(limbs x).length - s.1) (0,[],0) ⟨Nat.zero_le _,rfl,z1o,by decide,by simp [nv]⟩ ?_ ?_ ?_)
  ·simp [z0y,lk]
  ·simp
  ·rintro ⟨n,q,c⟩ ⟨hn,hq,hlq,hc,hnv⟩
   simp only at hn hq hlq hc hnv ⊢
   refine z0d (z0g ?_)
   refine zE cI ?_
   repeat refine ⟨by omega,?_⟩
   refine z0d (z0l rfl (fun hcd=>z0D ?_) (fun hcd=>z0q ?_))
   ·have hlt:=of_decide_eq_true hcd
    have hlt:n<(limbs x).length:=by omega
    refine zE cI ?_
    repeat refine ⟨by omega,?_⟩
    have hxn:=z0G laX n
    have hyn:=z0G laY n
    refine z0d (z0f (z0d (z0g ?_)))
    refine zE (zA @z0a (zA @z0R cI)) ?_
    repeat refine ⟨by omega,?_⟩
    refine z0d (z0g ?_)
    refine zE cI ?_
    repeat refine ⟨by omega,?_⟩
    refine z0d (z5v (ι:=Unit) (fun _=>True) (fun _=>[(0,.sl 1 (us (limbs x))),(1,.sl 1 (us (limbs y))),(6,.osl 1 21 0 (limbs x).length),(7,.int .u32 c),(8,.int .i64 n),(9,.int .u32 ((limbs x).getD n 0)),(10,.int .u32 ((limbs y).getD n 0)),(22,.sl 1 (us (limbs x))),(23,.int .i64 (limbs x).length),(24,.int .i64 n)]) (fun _=>[(21,us (q++List.replicate ((limbs x).length - n) 0))]) (z0d (z0g ?_)) ?_)
    ·refine zE (zA @z0a cI) ?_
     repeat refine ⟨by omega,?_⟩
     refine z0l rfl (fun hv=>z0g ?_) (fun hv=>z0D ?_)
     ·have hl2:=of_decide_eq_true hv
      refine zE (zA @z0a (zA @z0R cI)) ?_
      refine ⟨by omega,by omega,⟨(),by simp [z0y,lk]⟩⟩
     ·have hl2:=of_decide_eq_false hv
      refine zE cI ?_
      have:(limbs y).getD n 0=0:=by rw [zO1,List.getElem?_eq_none (by omega)];rfl
      rw [this]
      refine ⟨(),by simp [z0y,lk]⟩
    ·rintro ⟨⟩ -
     have hlen:(q++List.replicate ((limbs x).length - n) 0).length=(limbs x).length:=by simp;omega
     obtain ⟨k,hk⟩:∃k,(limbs x).length - n=k+1:=⟨(limbs x).length - n - 1,by omega⟩
     rw [hk] at hlen ⊢
     obtain ⟨dg,c',hdc,hdl,hb1⟩:=x9x hxn hyn hc
     have ca:=z8j _ _ c dg c' hxn hyn hc hdc hdl hb1
     have hsum:=x5F hnv hdc
     rw [←z0C,←z0C,←Nat.pow_succ] at hsum
     refine z0g ?_
     refine zE cI ?_
     repeat refine ⟨by omega,?_⟩
     refine cP ca ?_
     have hset:(q++List.replicate (k+1) 0).set n dg=(q++[dg])++List.replicate k 0:=by rw [←hq];exact y7u k dg q
     refine zE (zA @z0a (zA hlen (zA @z39 (zA hset cI)))) ?_
     repeat refine ⟨by omega,?_⟩
     refine z0g ?_
     refine zE cI ?_
     refine ⟨(n+1,q++[dg],c'),⟨by omega,by simp [hq],?_,hb1,?_⟩,by omega,by simp [z0y,lk],?_⟩
     ·intro z hz
      rcases List.mem_append.1 hz with h|h
      ·exact hlq z h
      ·rw [List.mem_singleton.1 h];exact hdl
     ·rw [z2E,hq]
      simp only [nv,Nat.mul_zero,Nat.add_zero]
      exact hsum
     ·have:(limbs x).length - (n+1)=k:=by omega
      rw [this]
   ·have hge:=of_decide_eq_false hcd
    have hnl:n=(limbs x).length:=by omega
    subst hnl
    have hly:(limbs y).length≤(limbs x).length:=z0B.2 (Nat.lt_of_le_of_lt hle (z0B.1 (Nat.le_refl _)))
    have hql:=z9E hlq
    rw [hq] at hql
    rw [List.take_of_length_le (Nat.le_refl _),List.take_of_length_le hly,z0F,z0F] at hnv
    have hc0:c=0:=by
     have hc2:c=0∨c=1:=by omega
     rcases hc2 with e|e
     ·exact e
     ·subst e;rw [Nat.mul_one] at hnv;omega
    subst hc0
    rw [Nat.mul_zero,Nat.add_zero] at hnv
    have hnq:nv q=x - y:=by omega
    have ct:=z1D q (by omega) hlq
    rw [hnq] at ct
    simp only [Nat.sub_self,List.replicate_zero,List.append_nil]
    refine zE cI ?_
    repeat refine ⟨by omega,?_⟩
    refine z0d (z0g ?_)
    refine zE cI ?_
    repeat refine ⟨by omega,?_⟩
    refine z1e rfl 21 (cells:=us q) (by simp [lkH]) (z4E _) ?_
    refine zE cI ?_
    refine cP ct ?_
    refine zE cI ?_
    exact z0i (z2f (.imm rfl) (.imm rfl))
theorem y70 (p d s t:List Nat) (h:d.length<s.length):p++d++s.drop d.length++t=(p++d)++s.getD d.length 0::(s.drop (d.length+1)++t):=by
 rw [List.drop_eq_getElem_cons h,zO1,zO4 h];simp only [List.append_assoc,List.cons_append,Option.getD_some]
theorem w4r {a v c:Nat} (h1:a<4294967296) (h2:v<4294967296) (h3:c<4294967296):IntKind.u64.wrap ((c:Int)+((a*v:Nat):Int))=((c+a*v:Nat):Int):=by
 have:=z7K h1 h2
 generalize a*v=p at this ⊢
 rw [x8s (by omega) (by omega)];omega
theorem y2T (p s t v:List Nat) (q:Nat) (hlen:(p++s++t).length≤1000000) (ls:lim s) (lv:lim v) (hvl:v.length≤s.length) (hq:q<4294967296) (hqv:q*nv v<4294967296 ^ s.length) :
  y7V prog 253 [.osl 1 1048576 p.length s.length,.sl 1 (us v),.int .u64 q] (us (p++s++t)) (.bool (decide (nv s<q*nv v)))
   (us (p++dig s.length ((nv s+4294967296 ^ s.length - q*nv v) % 4294967296 ^ s.length)++t)):=by
 simp only [List.length_append] at hlen
 refine y3E x4b (by simp [y4s]) rfl ?_
 unfold z8z
 refine zS cI ?_
 refine z0v (σ:=List Nat × Nat × Nat) (fun z=>[(0,.osl 1 1048576 p.length s.length),(1,.sl 1 (us v)),(2,.int .u64 q),(7,.int .u64 z.2.1),(8,.int .u32 z.2.2),(12,.int .i64 s.length),(13,.int .i64 z.1.length)])
  (fun z=>[(1048576,us (p++z.1++s.drop z.1.length++t))])
  (fun z=>z.1.length≤s.length∧lim z.1∧z.2.1<4294967296∧z.2.2≤1∧nv z.1+q*nv (v.take z.1.length)=nv (s.take z.1.length)+4294967296 ^ z.1.length*(z.2.1+z.2.2)∧4294967296 ^ z.1.length*z.2.1≤q*nv (v.take z.1.length))
  (fun z=>s.length - z.1.length) ([],0,0) ⟨Nat.zero_le _,z1o,by simp,by simp,by simp [nv],by simp⟩ ?_ (by simp) ?_
 ·simp [z0y,lk]
 ·rintro ⟨d,c,b⟩ ⟨hd,ld,hc,hb,hnv,hcar⟩
  simp only at hd ld hc hb hnv hcar ⊢
  refine zS cI ?_
  refine z0l rfl (fun h1=>z0D ?_) (fun h1=>z0q ?_)
  ·have h1:=of_decide_eq_true h1
   have hlt:d.length<s.length:=by omega
   have hy:=z0G lv d.length
   have hx:=z0G ls d.length
   have tv:=z0C (a:=v) d.length
   have ts:=z0C (a:=s) d.length
   have hcells:=y70 p d s t hlt
   have hl:(p++d++s.getD d.length 0::(s.drop (d.length+1)++t)).length=p.length+s.length+t.length:=by simp;omega
   have hg:(p++d++s.getD d.length 0::(s.drop (d.length+1)++t)).getD (p.length+d.length) 0=s.getD d.length 0:=by
    have:=y2v (p++d) (s.getD d.length 0) (s.drop (d.length+1)++t)
    rwa [List.length_append] at this
   have hset:∀z,(p++d++s.getD d.length 0::(s.drop (d.length+1)++t)).set (p.length+d.length) z=p++(d++[z])++s.drop (d++[z]).length++t:=fun z=>by
    have:=y3e (p++d) (s.getD d.length 0) z (s.drop (d.length+1)++t)
    rw [List.length_append] at this
    rw [this];simp
   refine zS (zA @z0a cI) ?_
   refine z5v (ι:=Unit) (fun _=>True) (fun _=>[(0,.osl 1 1048576 p.length s.length),(1,.sl 1 (us v)),(2,.int .u64 q),(7,.int .u64 c),(8,.int .u32 b),(9,.int .i64 d.length),(10,.int .u64 (v.getD d.length 0:Nat)),(12,.int .i64 s.length),(13,.int .i64 d.length)])
    (fun _=>[(1048576,us (p++d++s.drop d.length++t))]) ?_ ?_
   ·refine z0l rfl (fun h2=>?_) (fun h2=>z0D ?_)
    ·have h2:=of_decide_eq_true h2
     refine zS (zA @z0a (zA @z0R cI)) ?_
     first|exact ⟨(),trivial,by simp [z0y,lk],rfl⟩|exact ⟨(),by simp [z0y,lk],rfl⟩|exact ⟨(),by simp [z0y,lk]⟩|exact ⟨(),trivial,by simp [z0y,lk]⟩
    ·have h2:=of_decide_eq_false h2
     have e0:v.getD d.length 0=0:=by rw [zO1,List.getElem?_eq_none (by omega)];rfl
     rw [e0]
     first|exact ⟨(),trivial,by simp [z0y,lk],rfl⟩|exact ⟨(),by simp [z0y,lk],rfl⟩|exact ⟨(),by simp [z0y,lk]⟩|exact ⟨(),trivial,by simp [z0y,lk]⟩
   ·rintro ⟨⟩ _
    rw [hcells]
    generalize v.getD d.length 0=y at hy tv ⊢
    generalize s.getD d.length 0=x at hx ts hl hg hset ⊢
    obtain ⟨d',b',e1,e2,e3⟩:=x9x (c:=b) hx (Nat.mod_lt (c+q*y) (by decide):(c+q*y) % 4294967296<4294967296) hb
    have cs:=z8j x ((c+q*y) % 4294967296) b d' b' hx (Nat.mod_lt _ (by decide)) hb e1 e2 e3
    have hstep:=x7r hnv e1
    have hcarry:=x4Y (y:=y) hcar
    rw [←tv,←ts,←Nat.pow_succ] at hstep
    rw [←tv,←Nat.pow_succ] at hcarry
    have hc2:(c+q*y) / 4294967296<4294967296:=by
     have:=z7K hq hy
     generalize q*y=w at this ⊢
     omega
    repeat (first|refine z0d ?_|refine z0g ?_|refine z0p ?_|refine z0f ?_|refine And.intro (by omega) ?_|simp (maxSteps:=1000000) (disch:=omega) only [cA,cB,cN,FnD.nb,lk,lkH,Dst.onT,Dst.onX,Dst.slot,z0W,z0N,z0J,z0X,z0u,z0V,unE,cnt,z0j,z0t,z0m,z0o,opE,rmH,z02,z0n,Nat.reduceEqDiff,Nat.reduceLT,Nat.reduceAdd,Nat.reduceMul,Nat.reduceMod,↓reduceIte,reduceCtorEq,Nat.reduceLeDiff,x7f hq hy,w4r hq hy hc,z0a,hl,z0R,hg,z5q,z5h,cI])
    refine cP cs ?_
    refine zS (zA @z0a (zA hl (zA @z39 (zA hset (zA @z2d cI))))) ?_
    refine ⟨(d++[d'],(c+q*y) / 4294967296,b'),⟨by simp;omega,z2J.2 ⟨ld,w4c e2⟩,hc2,e3,?_,?_⟩,by simp;omega,by simp [z0y,lk],by simp⟩
    ·simp only [y2Y,List.length_append,List.length_cons,List.length_nil]
     exact hstep
    ·simp only [List.length_append,List.length_cons,List.length_nil]
     exact hcarry
  ·have h1:=of_decide_eq_false h1
   have hdl:d.length=s.length:=by omega
   rw [hdl,List.take_of_length_le (Nat.le_refl _),List.take_of_length_le hvl] at hnv
   rw [hdl,List.take_of_length_le hvl] at hcar
   have hD:=z9E ld
   rw [hdl] at hD
   obtain ⟨f1,f2⟩:=w1i hnv hcar hqv hD (z9E ls) hb
   have hdig:d=dig s.length ((nv s+4294967296 ^ s.length - q*nv v) % 4294967296 ^ s.length):=x2A ld hdl (by rw [f2,Nat.mod_mod])
   have hbd:decide (¬(b:Int)=0)=decide (nv s<q*nv v):=by
    rw [decide_eq_decide,←f1];omega
   refine zS (zA hbd cI) ?_
   refine z0i ⟨z0h (.imm rfl),?_,z4E _⟩
   rw [hdl,List.drop_of_length_le (Nat.le_refl _),←hdig]
   simp [lkH]
theorem y0n (p s t v:List Nat) (hlen:(p++s++t).length≤1000000) (ls:lim s) (lv:lim v) (hvl:v.length≤s.length) :
  y7V prog 254 [.osl 1 1048576 p.length s.length,.sl 1 (us v)] (us (p++s++t)) (.tup []) (us (p++dig s.length ((nv s+nv v) % 4294967296 ^ s.length)++t)):=by
 simp only [List.length_append] at hlen
 refine y3E x0K (by simp [y1f]) rfl ?_
 unfold z7h
 refine zS cI ?_
 refine z0v (σ:=List Nat × Nat) (fun z=>[(0,.osl 1 1048576 p.length s.length),(1,.sl 1 (us v)),(4,.int .u32 z.2),(8,.int .i64 s.length),(9,.int .i64 z.1.length)])
  (fun z=>[(1048576,us (p++z.1++s.drop z.1.length++t))])
  (fun z=>z.1.length≤s.length∧lim z.1∧z.2≤1∧nv z.1+4294967296 ^ z.1.length*z.2=nv (s.take z.1.length)+nv (v.take z.1.length))
  (fun z=>s.length - z.1.length) ([],0) ⟨Nat.zero_le _,z1o,by simp,by simp [nv]⟩ ?_ (by simp) ?_
 ·simp [z0y,lk]
 ·rintro ⟨d,c⟩ ⟨hd,ld,hc,hnv⟩
  simp only at hd ld hc hnv ⊢
  refine zS cI ?_
  refine z0l rfl (fun h1=>z0D ?_) (fun h1=>z0q ?_)
  ·have h1:=of_decide_eq_true h1
   have hlt:d.length<s.length:=by omega
   have hy:=z0G lv d.length
   have hx:=z0G ls d.length
   have tv:=z0C (a:=v) d.length
   have ts:=z0C (a:=s) d.length
   have hcells:=y70 p d s t hlt
   have hl:(p++d++s.getD d.length 0::(s.drop (d.length+1)++t)).length=p.length+s.length+t.length:=by simp;omega
   have hg:(p++d++s.getD d.length 0::(s.drop (d.length+1)++t)).getD (p.length+d.length) 0=s.getD d.length 0:=by
    have:=y2v (p++d) (s.getD d.length 0) (s.drop (d.length+1)++t)
    rwa [List.length_append] at this
   have hset:∀z,(p++d++s.getD d.length 0::(s.drop (d.length+1)++t)).set (p.length+d.length) z=p++(d++[z])++s.drop (d++[z]).length++t:=fun z=>by
    have:=y3e (p++d) (s.getD d.length 0) z (s.drop (d.length+1)++t)
    rw [List.length_append] at this
    rw [this];simp
   refine zS (zA @z0a cI) ?_
   refine z5v (ι:=Unit) (fun _=>True) (fun _=>[(0,.osl 1 1048576 p.length s.length),(1,.sl 1 (us v)),(4,.int .u32 c),(5,.int .i64 d.length),(6,.int .u32 (v.getD d.length 0:Nat)),(8,.int .i64 s.length),(9,.int .i64 d.length)])
    (fun _=>[(1048576,us (p++d++s.drop d.length++t))]) ?_ ?_
   ·refine z0l rfl (fun h2=>?_) (fun h2=>z0D ?_)
    ·have h2:=of_decide_eq_true h2
     refine zS (zA @z0a (zA @z0R cI)) ?_
     first|exact ⟨(),trivial,by simp [z0y,lk],rfl⟩|exact ⟨(),by simp [z0y,lk],rfl⟩|exact ⟨(),by simp [z0y,lk]⟩|exact ⟨(),trivial,by simp [z0y,lk]⟩
    ·have h2:=of_decide_eq_false h2
     have e0:v.getD d.length 0=0:=by rw [zO1,List.getElem?_eq_none (by omega)];rfl
     rw [e0]
     first|exact ⟨(),trivial,by simp [z0y,lk],rfl⟩|exact ⟨(),by simp [z0y,lk],rfl⟩|exact ⟨(),by simp [z0y,lk]⟩|exact ⟨(),trivial,by simp [z0y,lk]⟩
   ·rintro ⟨⟩ _
    rw [hcells]
    generalize v.getD d.length 0=y at hy tv ⊢
    generalize s.getD d.length 0=x at hx ts hl hg hset ⊢
    have cs:=z8g x y c hx hy (by omega)
    have hstep:=y1Z (x:=x) (y:=y) hnv
    rw [←tv,←ts,←Nat.pow_succ] at hstep
    refine zS (zA @z0a (zA hl (zA @z0R (zA hg cI)))) ?_
    refine cP cs ?_
    refine zS (zA @z0a (zA hl (zA @z39 (zA hset cI)))) ?_
    refine ⟨(d++[(x+y+c) % 4294967296],(x+y+c) / 4294967296),⟨by simp;omega,z2J.2 ⟨ld,w4c (Nat.mod_lt _ (by decide))⟩,by simp only;omega,?_⟩,by simp;omega,by simp [z0y,lk],by simp⟩
    simp only [y2Y,List.length_append,List.length_cons,List.length_nil]
    exact hstep
  ·have h1:=of_decide_eq_false h1
   have hdl:d.length=s.length:=by omega
   rw [hdl,List.take_of_length_le (Nat.le_refl _),List.take_of_length_le hvl] at hnv
   have hD:=z9E ld
   rw [hdl] at hD
   have hdig:d=dig s.length ((nv s+nv v) % 4294967296 ^ s.length):=x2A ld hdl (by rw [Nat.mod_mod,←hnv,Nat.add_mul_mod_self_left,Nat.mod_eq_of_lt hD])
   refine zE cI ?_
   refine ⟨w2P (.inl rfl),?_,z4E _⟩
   rw [hdl,List.drop_of_length_le (Nat.le_refl _),←hdig]
   simp [lkH]
theorem y2S (x y n:Nat) (hn:(limbs y).length=n+2) (hx:(limbs x).length≤100000) (hyx:y≤x) :
  z0c prog 226 [.sl 1 (us (limbs x)),.sl 1 (us (limbs y))] (.tup [.sl 1 (us (limbs (x / y))),.sl 1 (us (limbs (x % y)))]):=by
 obtain ⟨m,hm,hm0⟩:∃m,(limbs x).length+1=m+(n+2)∧0<m:=by
  have:n+2≤(limbs x).length:=by
   rcases Nat.lt_or_ge (limbs x).length (n+2) with e|e
   ·have h1:=z0B.1 (show (limbs x).length≤n+1 by omega)
    have h2:=z0B.2 (Nat.lt_of_le_of_lt hyx h1)
    omega
   ·exact e
  exact ⟨(limbs x).length+1 - (n+2),by omega,by omega⟩
 have ht0:=z7J hn
 have htl:=z0G (z0e y) (n+1)
 obtain ⟨hk,hV1,hV2⟩:=w4H hn
 have hxl:=z0B.1 (Nat.le_refl (limbs x).length)
 have c1:=x0d ((limbs y).getD (n+1) 0) htl
 generalize 32 - z2p ((limbs y).getD (n+1) 0)=k at hk hV1 hV2 c1
 have fA:=z4q (limbs x) k (by omega) (z0e x) hk
 have cV:=y0o (limbs y) k (by omega) (z0e y) hk
 rw [z0F] at fA cV
 rw [hn] at cV
 have cT:=z1D (dig (n+2+1) (y*2 ^ k)) (by rw [z1k];omega) (z6v _ _)
 have hVn:y*2 ^ k<4294967296 ^ (n+2+1):=Nat.lt_of_lt_of_le hV1 (Nat.pow_le_pow_right (by decide) (by omega))
 rw [z9D,Nat.mod_eq_of_lt hVn] at cT
 have hA1:x*2 ^ k<4294967296 ^ ((limbs x).length+1):=by
  rw [Nat.pow_succ]
  exact Nat.mul_lt_mul_of_lt_of_le hxl (by have:=y20 hk;omega) (by decide)
 have hu0l:=z1k ((limbs x).length+1) (x*2 ^ k)
 have hu0:=z6v ((limbs x).length+1) (x*2 ^ k)
 have hu0v:=z9D ((limbs x).length+1) (x*2 ^ k)
 rw [Nat.mod_eq_of_lt hA1] at hu0v
 generalize dig ((limbs x).length+1) (x*2 ^ k)=u0 at *
 have hVl:(limbs (y*2 ^ k)).length=n+2:=z7I hV1 (Nat.le_trans (Nat.le_mul_of_pos_right _ (by decide)) hV2)
 have hdivx:x / y=x*2 ^ k / (y*2 ^ k):=(Nat.mul_div_mul_right _ _ (Nat.two_pow_pos k)).symm
 have hmodx:x % y=x*2 ^ k % (y*2 ^ k) / 2 ^ k:=by rw [Nat.mul_mod_mul_right,Nat.mul_div_cancel _ (Nat.two_pow_pos k)]
 rw [hdivx,hmodx]
 generalize y*2 ^ k=V at *
 have hinit:nv (u0.drop m)<V:=w0q (m:=m) (n:=n+1) (by rw [show m+(n+1)=(limbs x).length by omega];exact hxl) hk hV2 (by omega) hu0v
 have hV0:0<V:=by
  have:=Nat.pos_of_ne_zero (n:=4294967296 ^ (n+1)) (by intro h;have:=Nat.pow_eq_zero.1 h;omega)
  exact Nat.lt_of_lt_of_le (Nat.mul_pos this (by decide)) hV2
 clear ht0 htl hxl hyx hVn hA1
 (replace hV1:=Hid.mk hV1;replace hV2:=Hid.mk hV2;replace hu0v:=Hid.mk hu0v;replace hinit:=Hid.mk hinit;replace hdivx:=Hid.mk hdivx;replace hmodx:=Hid.mk hmodx)
 refine z0b x4a (by simp [z9b]) ?_
 unfold z8y
 have e1:(((n+2:Nat):Int) - 1).toNat=n+1:=by omega
 refine zS (zA @z0a (zA hn (zA @z0R (zA e1 cI)))) ?_
 refine cP c1 ?_
 refine zS (zA @z0a (zA hn cI)) ?_
 refine y6d rfl 24 (by simp [lkH]) rfl fA ?_
 refine zS cI ?_
 refine cP cV ?_
 refine zS cI ?_
 refine cP cT ?_
 have e2:(((limbs x).length:Int) - ((n+2:Nat):Int)+1)=(m:Int):=by omega
 refine zS (zA @z0a (zA e2 (zA @z7Y (zA @y47 cI)))) ?_
 refine z0v (σ:=Nat × List Nat × List Nat) (fun z=>[(4,.osl 1 34 0 m),(6,.int .i64 k),(7,.int .i64 ((n+2:Nat):Int)),(8,.osl 1 24 0 ((limbs x).length+1)),(9,.sl 1 (us (limbs V))),(10,.int .i64 ((z.1:Int) - 1))])
  (fun z=>[(24,us z.2.1),(34,us (List.replicate z.1 0++z.2.2))])
  (fun z=>z.1+z.2.2.length=m∧z.2.1.length=(limbs x).length+1∧lim z.2.1∧lim z.2.2∧x*2 ^ k=4294967296 ^ z.1*nv z.2.2*V+nv z.2.1∧nv (z.2.1.drop z.1)<V)
  (fun z=>z.1) (m,u0,[]) ⟨by simp,hu0l,hu0,z1o,by simp [nv,hu0v.out],hinit.out⟩ ?_ (by simp) ?_
 ·simp [z0y,lk]
 ·rintro ⟨j,u,qs⟩ ⟨hj,hul,hu,hqs,hA,hR⟩
  simp only at hj hul hu hqs hA hR ⊢
  (replace hA:=Hid.mk hA;replace hR:=Hid.mk hR)
  refine zS cI ?_
  refine z0l rfl (fun hc=>z0D ?_) (fun hc=>z0q ?_)
  ·have hc:=of_decide_eq_true hc
   obtain ⟨i,rfl⟩:∃i,j=i+1:=⟨j - 1,by omega⟩
   have hS:=w2n (n:=n) hu (by omega) hR.out hV1.out
   obtain ⟨g1,g2,g3,g4⟩:=x1P hu hS hV1.out hV2.out
   have l2:=z0G hu (i+n+2)
   have l1:=z0G hu (i+n+1)
   have l0:=z0G hu (i+n)
   have k1:=z0G (z0e V) (n+1)
   have k0:=z0G (z0e V) n
   have cG:=y45 _ _ _ _ _ _ _ l2 l1 l0 k1 k0 g1 g2 rfl rfl
   have hqB:gq ((u.getD (i+n+2) 0*4294967296+u.getD (i+n+1) 0)*4294967296+u.getD (i+n) 0) ((limbs V).getD (n+1) 0*4294967296+(limbs V).getD n 0)<4294967296:=Nat.lt_of_le_of_lt (Nat.min_le_right _ _) (by decide)
   obtain ⟨q,hq⟩:∃q,gq ((u.getD (i+n+2) 0*4294967296+u.getD (i+n+1) 0)*4294967296+u.getD (i+n) 0) ((limbs V).getD (n+1) 0*4294967296+(limbs V).getD n 0)=q:=⟨_,rfl⟩
   rw [hq] at g3 g4 cG hqB
   have hqe:q=q:=rfl
   have hsV:=hS.eq
   have hUlt:=hS.lt
   rw [hsV] at g3 g4 hUlt
   have hqV:=w6D hqB hV1.out
   have hVM:=w0U hV1.out
   have hpl:(u.take i).length=i:=by simp;omega
   have hsl:=hS.slen
   have hlp:=z3a hu i
   have hls:=z3a (y2K hu i) (n+3)
   have hlt:=y2K hu (i+(n+3))
   have hcells:=hS.cells
   have ht0:=hS.rest
   have htl:(u.drop (i+(n+3))).length=m - (i+1):=by simp;omega
   have e3:(((i+1:Nat):Int) - 1)=(i:Int):=by omega
   have e4:((i:Int)+((n+2:Nat):Int)).toNat=i+n+2:=by omega
   have e5:((i:Int)+((n+2:Nat):Int) - 1).toNat=i+n+1:=by omega
   have e6:((i:Int)+((n+2:Nat):Int) - 2).toNat=i+n:=by omega
   have e7:(((n+2:Nat):Int) - 2).toNat=n:=by omega
   have e8:((i:Int)+((n+2:Nat):Int)+1).toNat=i+(n+3):=by omega
   (replace e1:=Hid.mk e1;replace e2:=Hid.mk e2;replace e3:=Hid.mk e3;replace e4:=Hid.mk e4;replace e5:=Hid.mk e5;replace e6:=Hid.mk e6;replace e7:=Hid.mk e7;replace e8:=Hid.mk e8;replace g3:=Hid.mk g3;replace g4:=Hid.mk g4;replace hUlt:=Hid.mk hUlt;replace hqV:=Hid.mk hqV;replace hVM:=Hid.mk hVM;replace hcells:=Hid.mk hcells;replace ht0:=Hid.mk ht0;replace hsV:=Hid.mk hsV;replace hq:=Hid.mk hq)
   clear g1 g2
   (replace hqB:=Hid.mk hqB;replace hqe:=Hid.mk hqe)
   refine zS (zA @z0a (zA @z0R (zA hul (zA hVl (zA e1.out (zA e3.out (zA e4.out (zA e5.out (zA e6.out (zA e7.out cI)))))))))) ?_
   refine cP cG ?_
   clear cG hq l2 l1 l0 k1 k0 hS
   generalize u.take i=p at *
   generalize (u.drop i).take (n+3)=s at *
   generalize u.drop (i+(n+3))=t at *
   obtain ⟨U,hU⟩:∃U,nv s=U:=⟨_,rfl⟩
   obtain ⟨hnvu,hnvr⟩:=w4M (r:=U % V) hpl hsl ht0.out hU
   rw [hU] at g3 g4 hsV hUlt
   have hmod:U % V<V:=Nat.mod_lt _ hV0
   have hn12:=Hid.mk (hnvr (Nat.lt_of_lt_of_le hmod hVM.out))
   clear hnvr
   (replace hnvu:=Hid.mk hnvu;replace hU:=Hid.mk hU;replace hmod:=Hid.mk hmod)
   have hlen:(p++s++t).length≤1000000:=by rw [←hcells.out];omega
   have hplen:p.length+s.length+t.length=(limbs x).length+1:=by
    rw [hcells.out] at hul
    simpa only [List.length_append] using hul
   have hlen2:∀r,(p++dig (n+3) r++t).length=(limbs x).length+1:=fun r=>by
    simp only [List.length_append,z1k];omega
   have cR:=y2T p s t (limbs V) q hlen hls (z0e V) (by omega) (Nat.lt_of_le_of_lt (Nat.le_of_eq hqe.out.symm) hqB.out) (by rw [z0F,hsl];exact hqV.out)
   have cS:=y0n p (dig (n+3) ((U+4294967296 ^ (n+3) - q*V) % 4294967296 ^ (n+3))) t (limbs V) (by rw [hlen2];omega) (z6v _ _) (z0e V) (by rw [z1k];omega)
   rw [←hcells.out,hpl,hsl,z0F,hU.out] at cR
   rw [hpl,z1k,z0F,z9D,Nat.mod_mod] at cS
   have e9:=Hid.mk (Nat.add_sub_cancel_left i (n+3))
   refine zS (zA @z0a (zA hul (zA e3.out (zA e8.out (zA e9.out cI))))) ?_
   refine y0C rfl 24 rfl (z4E _) (by intro h;have:=congrArg List.length h;rw [z0a,hul] at this;simp at this) cR ?_
   refine zS cI ?_
   refine z5v (ι:=Unit) (fun _=>True) (fun _=>[(4,.osl 1 34 0 m),(6,.int .i64 k),(7,.int .i64 ((n+2:Nat):Int)),(8,.osl 1 24 0 ((limbs x).length+1)),(9,.sl 1 (us (limbs V))),(10,.int .i64 i),(11,.int .u64 (U / V:Nat))])
    (fun _=>[(24,us (p++dig (n+3) (U % V)++t)),(34,us (List.replicate (i+1) 0++qs))]) ?_ ?_
   ·refine z0l rfl (fun h2=>?_) (fun h2=>z0D ?_)
    ·have h2:=of_decide_eq_true h2
     obtain ⟨f1,f2⟩:=w0T g3.out g4.out h2 hVM.out hV0 hqV.out
     rw [f2] at cS
     have hq0:0<q:=by
      rcases Nat.eq_zero_or_pos q with e|e
      ·subst e;rw [Nat.zero_mul] at h2;omega
      ·exact e
     have e10:((q:Int) - 1)=((U / V:Nat):Int):=by rw [←f1];omega
     have hqB':=hqB.out
     have hlr:=hlen2 ((U+4294967296 ^ (n+3) - q*V) % 4294967296 ^ (n+3))
     have hqd:U / V<4294967296:=by rw [←f1];omega
     clear h2 f2 f1
     generalize U / V=qd at *
     (replace e10:=Hid.mk e10)
     refine zS (zA @z0a (zA hlr (zA e8.out (zA e9.out cI)))) ?_
     refine y0C rfl 24 rfl (z4E _) (by intro h;have:=congrArg List.length h;rw [z0a,hlr] at this;simp at this) cS ?_
     refine zS (zA e10.out cI) ?_
     first|exact ⟨(),trivial,by simp [z0y,lk],rfl⟩|exact ⟨(),by simp [z0y,lk],rfl⟩|exact ⟨(),by simp [z0y,lk]⟩|exact ⟨(),trivial,by simp [z0y,lk]⟩
    ·have h2:=of_decide_eq_false h2
     obtain ⟨f1,f2⟩:=w39 g3.out g4.out h2 hVM.out hV0
     rw [f2,←f1]
     first|exact ⟨(),trivial,by simp [z0y,lk],rfl⟩|exact ⟨(),by simp [z0y,lk],rfl⟩|exact ⟨(),by simp [z0y,lk]⟩|exact ⟨(),trivial,by simp [z0y,lk]⟩
   ·rintro ⟨⟩ _
    have hqB':U / V<4294967296:=Nat.lt_of_le_of_lt g3.out hqB.out
    have hsum:=x8j (q:=U / V) hA.out ((congrArg nv hcells.out).trans hnvu.out) rfl
    have hrl:(List.replicate (i+1) 0++qs).length=m:=by simp;omega
    have hqm:U / V % 4294967296=U / V:=Nat.mod_eq_of_lt hqB'
    obtain ⟨z1,z2⟩:=hn12.out
    rw [←z1] at hsum
    have hfl:=hlen2 (U % V)
    have hlf:lim (p++dig (n+3) (U % V)++t):=z2J.2 ⟨z2J.2 ⟨hlp,z6v _ _⟩,hlt⟩
    have hmod':=hmod.out
    rw [←z2] at hmod'
    (replace hsum:=Hid.mk hsum;replace hmod':=Hid.mk hmod';replace hqm:=Hid.mk hqm;replace z1:=Hid.mk z1;replace z2:=Hid.mk z2)
    generalize U / V=qd at *
    generalize p++dig (n+3) (U % V)++t=u' at *
    refine zS (zA @z0a (zA hrl (zA @z5q (zA @z5h (zA hqm.out (zA @z39 (zA @x5w cI))))))) ?_
    refine ⟨(i,u',qd::qs),⟨by simp only [List.length_cons];omega,hfl,hlf,z2t.2 ⟨hqB',hqs⟩,hsum.out,hmod'.out⟩,by simp only;omega,by simp [z0y,lk],rfl⟩
  ·have hc:=of_decide_eq_false hc
   have hj0:j=0:=by omega
   subst hj0
   have hA':=hA.out
   have hR':=hR.out
   rw [Nat.pow_zero,Nat.one_mul] at hA'
   rw [List.drop_zero] at hR'
   obtain ⟨d1,d2⟩:=x2B hA' hR'
   rw [←d1,←d2]
   have hrn:nv u / 2 ^ k<4294967296 ^ (n+2):=Nat.lt_of_le_of_lt (Nat.div_le_self _ _) (Nat.lt_trans hR' hV1.out)
   clear hA' hR' d1 d2 hA hR hdivx hmodx hu0v hinit fA cV cT
   (replace hrn:=Hid.mk hrn)
   have e11:=Hid.mk (show ((n+2:Nat):Int).toNat=n+2 by omega)
   refine zS (zA @z0a (zA @z7Y (zA @y47 (zA e11.out cI)))) ?_
   generalize hRR:nv u / 2 ^ k=R at *
   (replace hRR:=Hid.mk hRR)
   simp only [List.replicate_zero,List.nil_append]
   refine z0v (σ:=Nat) (fun i=>[(4,.osl 1 34 0 m),(5,.osl 1 100 0 (n+2)),(6,.int .i64 k),(8,.osl 1 24 0 ((limbs x).length+1)),(102,.int .i64 ((n+2:Nat):Int)),(103,.int .i64 i)])
    (fun i=>[(24,us u),(34,us qs),(100,us (dig i R++List.replicate (n+2 - i) 0))]) (fun i=>i≤n+2) (fun i=>n+2 - i) 0 (Nat.zero_le _) ?_ (by simp [dig]) ?_
   ·simp [z0y,lk]
   ·rintro i hi
    refine zS cI ?_
    refine z0l rfl (fun hc2=>z0D ?_) (fun hc2=>z0q ?_)
    ·have hc2:=of_decide_eq_true hc2
     obtain ⟨r,hr⟩:∃r,n+2 - i=r+1:=⟨n+2 - i - 1,by omega⟩
     have hr':n+2 - (i+1)=r:=by omega
     have hb:=back hu (i:=i) (k:=k) (by omega) hk
     rw [hRR.out] at hb
     have hs:=x6w i R
     rw [←hb] at hs
     have hDl:=z1k i R
     have hll:(dig i R++List.replicate (r+1) 0).length=n+2:=by simp [z1k];omega
     have a0:=z0G hu i
     have a1:=z0G hu (i+1)
     have hset:∀v,(dig i R++List.replicate (r+1) 0).set i v=(dig i R++[v])++List.replicate r 0:=fun v=>by
      have:=y3e (dig i R) 0 v (List.replicate r 0)
      rw [hDl] at this
      rw [List.replicate_succ,this];simp
     have e12:=Hid.mk (show ((i:Int)+1).toNat=i+1 by omega)
     rw [hr]
     (replace hb:=Hid.mk hb;replace hs:=Hid.mk hs;replace hDl:=Hid.mk hDl;replace hset:=Hid.mk hset)
     refine zS (zA @z0a (zA @z0R (zA hul (zA e12.out cI)))) ?_
     generalize u.getD i 0=c0 at *
     generalize u.getD (i+1) 0=c1 at *
     repeat (first|refine z0d ?_|refine z0g ?_|refine z0p ?_|refine z0f ?_|refine And.intro (by omega) ?_|simp (maxSteps:=1000000) (disch:=omega) only [cA,cB,cN,FnD.nb,lk,lkH,Dst.onT,Dst.onX,Dst.slot,z0W,z0N,z0J,z0X,z0u,z0V,unE,cnt,z0j,z0t,z0m,z0o,opE,rmH,z02,z0n,Nat.reduceEqDiff,Nat.reduceLT,Nat.reduceAdd,Nat.reduceMul,Nat.reduceMod,↓reduceIte,reduceCtorEq,Nat.reduceLeDiff,z0a,hll,w6u a1 a0 rfl,w6P _ _ hk,z5q,z5h,z39,hset.out,cI])
     refine ⟨i+1,by omega,by omega,by simp [z0y,lk],?_⟩
     rw [hr',hs.out]
    ·have hc2:=of_decide_eq_false hc2
     have hi2:i=n+2:=by omega
     subst hi2
     have cQ:=z1D qs (by omega) hqs
     have cR:=z1D (dig (n+2) R) (by rw [z1k];omega) (z6v _ _)
     rw [z9D,Nat.mod_eq_of_lt hrn.out] at cR
     have hqsl:m=qs.length:=by omega
     have hrl:=z1k (n+2) R
     have hz:dig (n+2) R++List.replicate (n+2 - (n+2)) 0=dig (n+2) R:=by simp
     rw [hz]
     refine zS cI ?_
     refine z1e rfl 34 (cells:=us qs) (by simp [lkH]) (z4E _) ?_
     simp (maxSteps:=1000000) (disch:=omega) only [cA,cB,cN,FnD.nb,lk,lkH,Dst.onT,Dst.onX,Dst.slot,z0W,z0N,z0J,z0X,z0u,z0V,unE,cnt,z0j,z0t,z0m,z0o,opE,rmH,z02,z0n,Nat.reduceEqDiff,Nat.reduceLT,Nat.reduceAdd,Nat.reduceMul,Nat.reduceMod,↓reduceIte,reduceCtorEq,Nat.reduceLeDiff,z0n hqsl,cI]
     refine cP cQ ?_
     refine zS cI ?_
     refine z1e rfl 100 (cells:=us (dig (n+2) R)) (by simp [lkH,w5m]) (z4E _) ?_
     simp (maxSteps:=1000000) (disch:=omega) only [cA,cB,cN,FnD.nb,lk,lkH,Dst.onT,Dst.onX,Dst.slot,z0W,z0N,z0J,z0X,z0u,z0V,unE,cnt,z0j,z0t,z0m,z0o,opE,rmH,z02,z0n,Nat.reduceEqDiff,Nat.reduceLT,Nat.reduceAdd,Nat.reduceMul,Nat.reduceMod,↓reduceIte,reduceCtorEq,Nat.reduceLeDiff,z0n hrl.symm,cI]
     refine cP cR ?_
     refine zS cI ?_
     exact z0i (z2f (.imm rfl) (.imm rfl))
end Go.Proofs.YtlcagndeidjobaaGreatDoor
namespace Go.Proofs.YtlcagndeidjobaaGreatDoor
open Tryz
open Go Go.Dat Go.Proofs Go.RowKit Go.Lib Nat32
set_option maxRecDepth 100000 in
theorem y0z (ad:Addr) (n c:Nat) (vs:List Value) (w:World) (hl:vs.length=n) (hn:n≤1000000) (hc:∀j u,vs[j]? = some u→w.cell? (ad.add j)=some u) (h1:∀u∈vs,u.oneCell'=true) :
  Calls prog 224 #[.slice (some ad) n c] w fun e w'=>∃v',e=.returned v'∧w'.ownsRow w.heap.size 173 1 v' n vs∧Below w.heap.size w w':=by
 have q22:∀(w:World) (a:Option Addr) (n c n' c':Nat),(binOp .eql 54 (.slice a n c) (.slice none n' c')).run prog w=.ok (.bool a.isNone) w:=fun w a n c n' c'=>Lib.run_eql_slice_nil w _ _ a n c n' c' Tryz.underlying54
 replace hc:=Hid.mk hc
 replace h1:=Hid.mk h1
 go_enter func224,Tryz.ntmps224
 go_wp2_with (at_builtin;refine wpList_append_own _ rfl _ _ 54 rfl w.heap.size 173 Tryz.t173 (.int .u32 0) 1 4 Tryz.underlying54 (by kernel_rfl) (by kernel_rfl) (by kernel_rfl) (by kernel_rfl) rfl (by decide) _ _ _ rfl (World.ownsRow_made w #[] 0 (Nat.le_refl _) (Nat.zero_le _) rfl) ad n c vs rfl ?qc1 ?qc2 ?qc3 ?qc4 ?qc5 ?qc6 ?_)
 case qc1=>simp;omega
 case qc2 =>
  intro j u hj
  exact Lib.cell?_alloc_some _ (hc.out j u hj)
 case qc3=>exact h1.out
 case qc4=>unfold maxLen;omega
 case qc5=>omega
 case qc6=>simp
 intro v' w1 hown hgrow hnil
 go_wp2
 go_ret
 refine ⟨v',rfl,by simpa using hown,?_⟩
 exact ((Below.refl _ w).alloc (Nat.le_refl _) _).grown hgrow (by simp) (by intro k hk;simp [Value.ownBlock] at hk;omega)
theorem x0b (c:Nat) (w:World):Calls prog 224 #[.slice none 0 c] w fun e w'=>e=.returned (.slice none 0 0)∧w'=w:=by
 have q22:∀(w:World) (a:Option Addr) (n c n' c':Nat),(binOp .eql 54 (.slice a n c) (.slice none n' c')).run prog w=.ok (.bool a.isNone) w:=fun w a n c n' c'=>Lib.run_eql_slice_nil w _ _ a n c n' c' Tryz.underlying54
 go_enter func224,Tryz.ntmps224
 go_wp2
 go_ret
 exact ⟨rfl,rfl⟩
theorem z8h (a:List Nat) (ha:a.length≤1000000):z0c prog 224 [.sl 1 (us a)] (.sl 1 (us a)):=by
 intro A w us0 hT hA hs hv
 obtain ⟨v,rfl⟩:∃v,us0=#[v]:=by
  obtain ⟨l⟩:=us0
  match l,hs with
  | [v],_=>exact ⟨v,rfl⟩
 have hvi:=hv 0 _ v rfl rfl
 generalize hxs:us a=xs at hvi ⊢
 have hxl:xs.length=a.length:=by rw [←hxs,z0a]
 cases hvi with
 | sl0 _ ad c =>
  cases ad with
  | none =>
   refine (x0b c w).mono ?_
   rintro e w' ⟨rfl,rfl⟩
   exact ⟨_,rfl,.sl0 _ _ _,Ext.refl _ _⟩
  | some ad =>
   refine (y0z ad 0 c [] w rfl (by omega) (by simp) (by simp)).mono ?_
   rintro e w' ⟨v',rfl,hown,hb⟩
   exact ⟨_,rfl,z5u (by decide) hA hown rfl (by simp),z64 hb⟩
 | @sl _ _ n c ad vs hx hn hc hAb hcell hvv =>
  have hget:∀j u,((List.range xs.length).map vs)[j]? = some u→j<xs.length∧u=vs j:=by
   intro j u hj
   simp only [List.getElem?_map,zO2] at hj
   obtain ⟨i,hi,rfl⟩:=hj
   obtain ⟨h1,h2⟩:=List.getElem?_eq_some_iff.1 hi
   simp at h1 h2
   subst h2;exact ⟨h1,rfl⟩
  have hex:∀j,j<xs.length→∃d,xs[j]? = some d:=fun j hj=>z0O hj
  refine (y0z ad n c ((List.range xs.length).map vs) w (by simp;omega) (by omega) (fun j u hj=>?_) (fun u hu=>?_)).mono ?_
  ·obtain ⟨h1,rfl⟩:=hget j u hj
   obtain ⟨d,hd⟩:=hex j h1
   exact hcell j d hd
  ·obtain ⟨j,hj⟩:=List.mem_iff_getElem?.1 hu
   obtain ⟨h1,rfl⟩:=hget j u hj
   obtain ⟨d,hd⟩:=hex j h1
   have h3:=hvv j d hd
   have hone:d.one=true:=by
    have h4:=x9A a
    rw [hxs] at h4
    exact h4.mpr trivial d (List.mem_of_getElem? hd)
   exact V.oneCell hone (V.imm (L:=fun _=>none) h3)
  ·rintro e w' ⟨v',rfl,hown,hb⟩
   refine ⟨_,rfl,z5u (by decide) hA hown hn (fun k d u hk hu=>?_),z64 hb⟩
   obtain ⟨h1,rfl⟩:=hget k u hu
   exact (hvv k d hk).mono fun b hb' hA'=>⟨hb.block b hb',hA'⟩
end Go.Proofs.YtlcagndeidjobaaGreatDoor
namespace Go.Proofs.YtlcagndeidjobaaGreatDoor
open Tryz
open Go Go.Dat Go.Proofs Nat32
def x8F (x y:Nat):Nat:=if y=0 then 0 else x % y
theorem z5Q {x y:Nat} (h:0<y):x8F x y=x % y:=by unfold x8F;rw [if_neg (by omega)]
theorem y1x (a b:List Nat) (ha:a.length≤100000) (hb:b.length≤100000) (la:lim a) (lb:lim b) :
  z0c prog 164 [.sl 1 (us a),.sl 1 (us b)] (.tup [.sl 1 (us (limbs (vn a / vn b))),.sl 1 (us (limbs (x8F (vn a) (vn b)))),.bool (decide (0<vn b))]):=by
 have l1:=z1w la
 have l2:=z1w lb
 have c1:=z0S a (by omega) la
 have c2:=z0S b (by omega) lb
 have cC:=z8h (limbs (vn a)) (by omega)
 have cc:=z6Q (limbs (vn a)) (limbs (vn b)) (by omega) (by omega) (z0e _) (z0e _)
 rw [z0x,z0x] at cc
 refine z0b w3G (by simp [x8Q]) ?_
 unfold y78
 generalize vn a=x at *
 generalize vn b=y at *
 refine zS cI ?_
 refine cP c1 ?_
 refine zS cI ?_
 refine cP c2 ?_
 refine zS (zA @z0a cI) ?_
 refine z0l rfl (fun h=>?_) (fun h=>?_)
 ·have h:=of_decide_eq_true h
  have hy:y=0:=z1n.1 (List.eq_nil_of_length_eq_zero (by omega))
  subst hy
  refine zS cI ?_
  refine z0i (y0B ?_ ?_ ?_)
  ·rw [Nat.div_zero,z0s];exact .nils 1
  ·rw [show x8F x 0=0 from rfl,z0s];exact .nils 1
  ·exact .imm rfl
 ·have h:=of_decide_eq_false h
  have hy:0<y:=by
   rcases Nat.eq_zero_or_pos y with e|e
   ·subst e;rw [z0s] at h;simp at h
   ·exact e
  rw [z5Q hy,decide_eq_true hy]
  refine zS cI ?_
  refine cP cc ?_
  refine zS cI ?_
  by_cases hxy:x<y
  ·have e1:decide (z8s x y<0)=true:=decide_eq_true (by unfold z8s;rw [if_pos hxy];decide)
   rw [e1]
   refine wT ?_
   refine zS cI ?_
   refine cP cC ?_
   refine zS cI ?_
   rw [Nat.div_eq_of_lt hxy,Nat.mod_eq_of_lt hxy,z0s]
   exact z0i (y0B (.nils 1) (.imm rfl) (.imm rfl))
  ·have e1:decide (z8s x y<0)=false:=decide_eq_false (by unfold z8s;rw [if_neg hxy];split<;>decide)
   rw [e1]
   refine wF ?_
   refine zS (zA @z0a cI) ?_
   refine z0l rfl (fun h1=>?_) (fun h1=>z0D ?_)
   ·have h1:=of_decide_eq_true h1
    have hyB:y<4294967296:=by simpa using z0B.1 (show (limbs y).length≤1 by omega)
    have hby:limbs y=[y]:=z5Z (by omega) hyB
    have cs:=y46 x y (by omega) hy hyB
    have hr:=Nat.mod_lt x hy
    have cf:=z2a (x % y) (by omega)
    have g0:(us [y]).getD (Int.toNat 0) DV.undef=.int .u32 y:=rfl
    rw [hby]
    generalize x % y=r at *
    refine zS (zA @z0a (zA g0 cI)) ?_
    refine cP cs ?_
    refine zS cI ?_
    refine cP cf ?_
    refine zS cI ?_
    exact z0i (y0B (.imm rfl) (.imm rfl) (.imm rfl))
   ·have h1:=of_decide_eq_false h1
    obtain ⟨n,hn⟩:∃n,(limbs y).length=n+2:=⟨(limbs y).length - 2,by omega⟩
    have cd:=y2S x y n hn (by omega) (by omega)
    refine zS cI ?_
    refine cP cd ?_
    refine zS cI ?_
    exact z0i (y0B (.imm rfl) (.imm rfl) (.imm rfl))
theorem z7S (x v b:Nat) (ha:(limbs x).length≤100000) (hv:v<4294967296) (hb:b≤100000):z0c prog 193 [.sl 1 (us (limbs x)),.int .u32 v,.int .i64 b] (.sl 1 (us (limbs (4294967296 ^ b*(x*v))))):=by
 refine z0b x63 (by simp [y2p]) ?_
 unfold y0R
 have laX:=z0e x
 refine z0d (z0g ?_)
 refine zE cI ?_
 repeat refine ⟨by omega,?_⟩
 refine z0d (z0g ?_)
 refine zE (zA @z7Y (zA @x7h cI)) ?_
 repeat refine ⟨by omega,?_⟩
 refine z0d (z0g ?_)
 refine zE cI ?_
 repeat refine ⟨by omega,?_⟩
 refine z0d (z0d (z0g ?_))
 refine zE cI ?_
 repeat refine ⟨by omega,?_⟩
 refine z0f (z0v (σ:=List Nat × Nat) (fun s=>[(0,.sl 1 (us (limbs x))),(1,.int .u32 v),(7,.osl 1 12 0 (b+s.1.length)),(8,.int .u64 s.2),(9,.int .i64 s.1.length)])
  (fun s=>[(12,us (List.replicate b 0++s.1))])
  (fun s=>s.1.length≤(limbs x).length+1∧lim s.1∧s.2<4294967296∧nv s.1+4294967296 ^ s.1.length*s.2=nv ((limbs x).take s.1.length)*v)
  (fun s=>(limbs x).length+1 - s.1.length) ([],0) ⟨Nat.zero_le _,z1o,by decide,by simp [nv]⟩ ?_ ?_ ?_)
 ·simp [z0y,lk]
 ·simp
 ·rintro ⟨q,c⟩ ⟨hn,hlq,hc,hnv⟩
  simp only at hn hlq hc hnv ⊢
  refine z0d (z0d (z0g ?_))
  refine zE (zA @z0a cI) ?_
  repeat refine ⟨by omega,?_⟩
  refine z0l rfl (fun hcd=>z0D ?_) (fun hcd=>z0q ?_)
  ·have hlt:=of_decide_eq_true hcd
   have hxn:=z0G laX q.length
   have cx:=z2V (limbs x) q.length (by omega) laX
   have hsum:=x7e (a:=(limbs x).getD q.length 0) hnv
   rw [←z0C,←Nat.pow_succ] at hsum
   have hcl:=x05 hxn hv hc
   refine zE cI ?_
   repeat refine ⟨by omega,?_⟩
   refine z0d (z0f (z0d (z0g ?_)))
   refine zE cI ?_
   repeat refine ⟨by omega,?_⟩
   refine cP cx ?_
   generalize (limbs x).getD q.length 0=xn at *
   simp (maxSteps:=1000000) (disch:=omega) only [cA,cB,cN,FnD.nb,lk,lkH,Dst.onT,Dst.onX,Dst.slot,z0W,z0N,z0J,z0X,z0u,z0V,unE,cnt,z0j,z0t,z0m,z0o,opE,rmH,z02,z0n,Nat.reduceEqDiff,Nat.reduceLT,Nat.reduceAdd,Nat.reduceMul,Nat.reduceMod,↓reduceIte,reduceCtorEq,Nat.reduceLeDiff,x7f,w4q,cI]
   repeat refine ⟨by omega,?_⟩
   rw [show ((xn:Int)*(v:Int)+(c:Int))=((xn*v+c:Nat):Int) by simp]
   refine z0g ?_
   have hsm:xn*v+c<18446744073709551616:=by
    have:=z7K hxn hv
    omega
   generalize xn*v+c=s at *
   have hlen:(List.replicate b 0++q).length=b+q.length:=by simp
   have hap:List.replicate b 0++q++[s % 4294967296]=List.replicate b 0++(q++[s % 4294967296]):=by simp
   simp (maxSteps:=1000000) (disch:=omega) only [cA,cB,cN,FnD.nb,lk,lkH,Dst.onT,Dst.onX,Dst.slot,z0W,z0N,z0J,z0X,z0u,z0V,unE,cnt,z0j,z0t,z0m,z0o,opE,rmH,z02,z0n,Nat.reduceEqDiff,Nat.reduceLT,Nat.reduceAdd,Nat.reduceMul,Nat.reduceMod,↓reduceIte,reduceCtorEq,Nat.reduceLeDiff,z5q,z5h,rf1,w4Q,z0t,z2d,z0a,y7L,z8f,hlen,hap,cI]
   repeat refine ⟨by omega,?_⟩
   refine z0g ?_
   refine zE cI ?_
   have hql:(q++[s % 4294967296]).length=q.length+1:=by simp
   refine ⟨(q++[s % 4294967296],s / 4294967296),⟨by simp only;omega,?_,hcl,?_⟩,by simp only;omega,by simp [z0y,lk,Nat.add_assoc],by simp⟩
   ·intro z hz
    rcases List.mem_append.1 hz with h|h
    ·exact hlq z h
    ·rw [List.mem_singleton.1 h];omega
   ·simp only [hql]
    rw [z2E]
    simp only [nv,Nat.mul_zero,Nat.add_zero]
    exact hsum
  ·have hge:=of_decide_eq_false hcd
   have hl:q.length=(limbs x).length+1:=by omega
   rw [List.take_of_length_le (by omega),z0F,hl] at hnv
   have hxl:x<4294967296 ^ (limbs x).length:=z0B.1 (Nat.le_refl _)
   have hc0:c=0:=w22 (by rw [hnv];exact x06 hxl hv)
   subst hc0
   rw [Nat.mul_zero,Nat.add_zero] at hnv
   have hlim:lim (List.replicate b 0++q):=by
    intro z hz
    rcases List.mem_append.1 hz with h|h
    ·rw [List.eq_of_mem_replicate h];decide
    ·exact hlq z h
   have hlen:b+q.length=(List.replicate b 0++q).length:=by simp
   have ct:=z3S (List.replicate b 0++q) (by omega) hlim
   rw [x1d,hnv] at ct
   refine zE cI ?_
   repeat refine ⟨by omega,?_⟩
   refine z0d (z0g ?_)
   refine zE cI ?_
   repeat refine ⟨by omega,?_⟩
   refine z1e rfl 12 (cells:=us (List.replicate b 0++q)) (by simp [lkH]) (z4E _) ?_
   simp (maxSteps:=1000000) (disch:=omega) only [cA,cB,cN,FnD.nb,lk,lkH,Dst.onT,Dst.onX,Dst.slot,z0W,z0N,z0J,z0X,z0u,z0V,unE,cnt,z0j,z0t,z0m,z0o,opE,rmH,z02,z0n,Nat.reduceEqDiff,Nat.reduceLT,Nat.reduceAdd,Nat.reduceMul,Nat.reduceMod,↓reduceIte,reduceCtorEq,Nat.reduceLeDiff,z0n hlen,cI]
   refine cP ct ?_
   refine zE cI ?_
   exact z0i (z0h (.imm rfl))
theorem x1k (a b:List Nat) (ha:a.length≤10000) (hb:b.length≤10000) (la:lim a) (lb:lim b):z0c prog 119 [.sl 1 (us a),.sl 1 (us b)] (.sl 1 (us (limbs (vn a*vn b)))):=by
 have h1:=z1w la
 have h2:=z1w lb
 have c1:=z01 a (by omega) la
 have c2:=z01 b (by omega) lb
 refine z0b w3W (by simp [x8W]) ?_
 unfold y8o
 generalize vn a=x at h1 c1 ⊢
 generalize vn b=y at h2 c2 ⊢
 have laY:=z0e y
 refine z0d (z0g ?_)
 refine zE cI ?_
 repeat refine ⟨by omega,?_⟩
 refine z0d (z0g ?_)
 refine zE cI ?_
 repeat refine ⟨by omega,?_⟩
 refine cP c1 ?_
 refine zE cI ?_
 repeat refine ⟨by omega,?_⟩
 refine cP c2 ?_
 refine zE cI ?_
 repeat refine ⟨by omega,?_⟩
 refine z0d (z0g ?_)
 refine zE cI ?_
 repeat refine ⟨by omega,?_⟩
 refine z0d (z0d (z0g ?_))
 refine zE cI ?_
 repeat refine ⟨by omega,?_⟩
 refine z0f (z0v (σ:=Nat) (fun n=>[(0,.sl 1 (us (limbs x))),(1,.sl 1 (us (limbs y))),(5,if n=0 then .nils else .sl 1 (us (limbs (x*nv ((limbs y).take n))))),(6,.int .i64 n)]) (fun _=>[]) (fun n=>n≤(limbs y).length) (fun n=>(limbs y).length - n) 0 (Nat.zero_le _) ?_ rfl ?_)
 ·simp [z0y,lk]
 ·rintro n hn
  refine z0d (z0d (z0g ?_))
  refine zE (zA @z0a cI) ?_
  repeat refine ⟨by omega,?_⟩
  refine z0l rfl (fun hcd=>z0D ?_) (fun hcd=>z0q ?_)
  ·have hlt:=of_decide_eq_true hcd
   have hlt:n<(limbs y).length:=by omega
   have hyn:=z0G laY n
   have hts:=z0C (a:=limbs y) n
   have ct:=z7S x ((limbs y).getD n 0) n (by omega) hyn (by omega)
   have hz:(limbs (nv ((limbs y).take n))).length≤(limbs y).length:=z0B.2 (Nat.lt_of_lt_of_le (z9E (z3a laY n)) (Nat.pow_le_pow_right (by decide) (by simp;omega)))
   have hw:(limbs ((limbs y).getD n 0)).length≤1:=z0B.2 (by omega)
   have l1:=z6O (x:=x) (show (limbs x).length≤10000 by omega) hz
   have hp:(limbs (4294967296 ^ n)).length≤n+1:=z0B.2 (Nat.pow_lt_pow_right (by decide) (by omega))
   have l2:=z6O (y:=x*(limbs y).getD n 0) hp (z6O (x:=x) (show (limbs x).length≤10000 by omega) hw)
   have ca:=z6S (limbs (x*nv ((limbs y).take n))) (limbs (4294967296 ^ n*(x*(limbs y).getD n 0))) (by omega) (by omega) (z0e _) (z0e _)
   have he:x*nv ((limbs y).take n)+4294967296 ^ n*(x*(limbs y).getD n 0)=x*nv ((limbs y).take (n+1)):=by
    rw [hts,Nat.mul_add]
    congr 1
    rw [←Nat.mul_assoc,Nat.mul_comm (4294967296 ^ n) x,Nat.mul_assoc]
   rw [z0x,z0x,he] at ca
   refine zE cI ?_
   repeat refine ⟨by omega,?_⟩
   refine z0d (z0f (z0g ?_))
   refine zE (zA @z0a (zA @z0R cI)) ?_
   repeat refine ⟨by omega,?_⟩
   refine cP ct ?_
   refine zE cI ?_
   repeat refine ⟨by omega,?_⟩
   refine y3J (rs:=[.sl 1 (us (limbs (x*nv ((limbs y).take n)))),.sl 1 (us (limbs (4294967296 ^ n*(x*(limbs y).getD n 0))))]) rfl rfl (fun k d r h1 h2=>?_) ca rfl ?_
   ·match k with
    | 0 =>
     simp at h1 h2;subst h1;subst h2
     by_cases hn0:n=0
     ·subst hn0
      simp only [if_true,List.take_zero,nv,Nat.mul_zero,z0s,x5O]
      exact .nil 1
     ·rw [if_neg hn0];exact .same _
    | 1=>simp at h1 h2;subst h1;subst h2;exact .same _
    | k+2=>simp at h1
   ·refine zE cI ?_
    repeat refine ⟨by omega,?_⟩
    refine z0g ?_
    refine zE cI ?_
    exact ⟨n+1,by omega,by omega,by simp [z0y,lk]⟩
  ·have hge:=of_decide_eq_false hcd
   have hnl:n=(limbs y).length:=by omega
   subst hnl
   refine zE cI ?_
   repeat refine ⟨by omega,?_⟩
   refine z0d (z0g ?_)
   refine zE cI ?_
   repeat refine ⟨by omega,?_⟩
   refine z0i (z0h ?_)
   refine zE cI ?_
   repeat refine ⟨by omega,?_⟩
   rw [List.take_of_length_le (Nat.le_refl _),z0F]
   by_cases hn0:(limbs y).length=0
   ·rw [if_pos hn0]
    have:y=0:=z1n.1 (List.eq_nil_of_length_eq_zero hn0)
    subst this
    rw [Nat.mul_zero,z0s]
    exact .nils 1
   ·rw [if_neg hn0];exact .imm rfl
theorem x1j (a:List Nat) (i:Nat) (ha:a.length≤1000000) (la:lim a) (hi:i / 32<a.length):z0c prog 239 [.sl 1 (us a),.int .i64 i] (.int .u32 (nv a / 2 ^ i % 2:Nat)):=by
 have hx:=z0G la (i / 32)
 have hm:i % 32<32:=Nat.mod_lt _ (by decide)
 have hdl:=Nat.lt_of_le_of_lt (Nat.div_le_self (a.getD (i / 32) 0) (2 ^ (i % 32))) hx
 rw [←w21 la i hi]
 refine z0b w3T (by simp [x8T]) ?_
 unfold y8l
 have hm2:i % 32≤31:=by omega
 refine zS (zA @w5e (zA @w5h (zA @z0a (zA @z0R cI)))) ?_
 generalize a.getD (i / 32) 0=x at *
 generalize i % 32=m at *
 repeat (first|refine z0d ?_|refine z0g ?_|refine z0p ?_|refine z0f ?_|refine And.intro (by omega) ?_|simp (maxSteps:=1000000) (disch:=omega) only [cA,cB,cN,FnD.nb,lk,lkH,Dst.onT,Dst.onX,Dst.slot,z0W,z0N,z0J,z0X,z0u,z0V,unE,cnt,z0j,z0t,z0m,z0o,opE,rmH,z02,z0n,Nat.reduceEqDiff,Nat.reduceLT,Nat.reduceAdd,Nat.reduceMul,Nat.reduceMod,↓reduceIte,reduceCtorEq,Nat.reduceLeDiff,w1Z _ _ hm2,x6b hdl,cI])
 exact z0i (z0h (.imm rfl))
theorem vn1:vn [1]=1:=by decide
theorem z3Q (x one:Nat) (hx:(limbs x).length≤50000) (h1:one≤1):z0c prog 238 [.sl 1 (us (limbs x)),.int .u32 one] (.sl 1 (us (limbs (2*x+one)))):=by
 have ct:=z7S x 2 0 (by omega) (by decide) (by decide)
 rw [Nat.pow_zero,Nat.one_mul,Nat.mul_comm x] at ct
 have hl:=y1v hx
 have hl2:=z1I (show 2*x≤2*x+1 by omega)
 have ca:=z6S (limbs (2*x)) [1] (by omega) (by simp) (z0e _) (w4c (by decide))
 rw [z0x,vn1] at ca
 refine z0b x4f (by simp [y4t]) ?_
 unfold z8D
 refine zS cI ?_
 refine cP ct ?_
 refine zS cI ?_
 refine z0l rfl (fun h=>?_) (fun h=>z0D ?_)
 ·have h:=of_decide_eq_true h
  have:one=1:=by omega
  subst this
  refine zS (zA @w6Z cI) ?_
  refine cP ca ?_
  refine zS cI ?_
  exact z0i (z0h (.imm rfl))
 ·have h:=of_decide_eq_false h
  have:one=0:=by omega
  subst this
  refine zS cI ?_
  exact z0i (z0h (.imm rfl))
theorem y1N (a b:List Nat) (ha:a.length≤10000) (hb:b.length≤10000) (la:lim a) (lb:lim b) :
  z0c prog 189 [.sl 1 (us a),.sl 1 (us b)] (.tup [.sl 1 (us (limbs (vn a / vn b))),.sl 1 (us (limbs (x8F (vn a) (vn b)))),.bool (decide (0<vn b))]):=by
 have l1:=z1w la
 have l2:=z1w lb
 have c1:=z01 a (by omega) la
 have c2:=z01 b (by omega) lb
 refine z0b w3U (by simp [x8U]) ?_
 unfold y8m
 generalize vn a=x at *
 generalize vn b=y at *
 refine zS cI ?_
 refine cP c1 ?_
 refine zS cI ?_
 refine cP c2 ?_
 refine zS (zA @z0a cI) ?_
 refine z0l rfl (fun h=>?_) (fun h=>z0D ?_)
 ·have h:=of_decide_eq_true h
  have hy:y=0:=z1n.1 (List.eq_nil_of_length_eq_zero (by omega))
  subst hy
  refine zS cI ?_
  refine z0i (y0B ?_ ?_ ?_)
  ·rw [Nat.div_zero,z0s];exact .nils 1
  ·rw [show x8F x 0=0 from rfl,z0s];exact .nils 1
  ·exact .imm rfl
 ·have h:=of_decide_eq_false h
  have hy:0<y:=by
   rcases Nat.eq_zero_or_pos y with e|e
   ·subst e;rw [z0s] at h;simp at h
   ·exact e
  rw [z5Q hy,decide_eq_true hy]
  refine zS (zA @z0a cI) ?_
  refine w2X 7 1 (by simp [lk]) (w2X 8 1 (by simp [lk,z0W]) ?_)
  refine zE cI ?_
  have hx0:x / 2 ^ (32*(limbs x).length)=0:=Nat.div_eq_of_lt (by rw [←w6B];exact z0B.1 (Nat.le_refl _))
  refine z0v (σ:=Nat × Nat × Nat) (fun z=>[(0,.sl 1 (us (limbs x))),(1,.sl 1 (us (limbs y))),(7,.sl 1 (us (limbs z.2.1))),(8,.sl 1 (us (limbs z.2.2))),(9,.int .i64 ((z.1:Int) - 1))]) (fun _=>[])
   (fun z=>z.1≤32*(limbs x).length∧x / 2 ^ z.1=z.2.1*y+z.2.2∧z.2.2<y) (fun z=>z.1) (32*(limbs x).length,0,0) ⟨Nat.le_refl _,by simp [hx0],hy⟩ ?_ rfl ?_
  ·simp [z0y,lk,z0s,us]
  ·rintro ⟨j,q,r⟩ ⟨hj,hinv,hr⟩
   simp only at hj hinv hr ⊢
   have hqx:q≤x:=by
    have h1:q≤q*y:=Nat.le_mul_of_pos_right _ hy
    have h2:=Nat.div_le_self x (2 ^ j)
    omega
   have lq:=z1I hqx
   have lr:=z1I (Nat.le_of_lt hr)
   refine zS cI ?_
   refine z0l rfl (fun hc=>z0D ?_) (fun hc=>z0q ?_)
   ·have hc:=of_decide_eq_true hc
    obtain ⟨i,rfl⟩:∃i,j=i+1:=⟨j - 1,by omega⟩
    have hs:=x6g x i
    rw [hinv] at hs
    have hb1:x / 2 ^ i % 2<2:=Nat.mod_lt _ (by decide)
    have cb:=x1j (limbs x) i (by omega) (z0e x) (by omega)
    rw [z0F] at cb
    generalize hbit:x / 2 ^ i % 2=bt at *
    have cd:=z3Q r bt (by omega) (by omega)
    have lrd:(limbs (2*r+bt)).length≤(limbs y).length+1:=Nat.le_trans (z1I (by omega)) (y1v (Nat.le_refl _))
    have cs:=z4P (limbs (2*r+bt)) (limbs y) (by omega) (by omega) (z0e _) (z0e _)
    rw [z0x,z0x] at cs
    have e1:(((i+1:Nat):Int) - 1)=(i:Int):=by omega
    (replace hs:=Hid.mk hs;replace hbit:=Hid.mk hbit;replace hinv:=Hid.mk hinv)
    refine zS (zA e1 cI) ?_
    refine cP cb ?_
    refine zS cI ?_
    refine cP cd ?_
    refine zS cI ?_
    refine cP cs ?_
    refine zS cI ?_
    refine z0l rfl (fun h2=>?_) (fun h2=>?_)
    ·have h2:=of_decide_eq_true h2
     have c1':=z3Q q 1 (by omega) (by omega)
     refine zS cI ?_
     refine cP c1' ?_
     refine zS (zA e1 cI) ?_
     refine ⟨(i,2*q+1,2*r+bt - y),⟨by simp only;omega,?_,by simp only;omega⟩,by simp only;omega,by simp [z0y,lk]⟩
     simp only
     rw [hs.out,Nat.add_mul,Nat.mul_assoc];omega
    ·have h2:=of_decide_eq_false h2
     have c0':=z3Q q 0 (by omega) (by omega)
     refine zS cI ?_
     refine cP c0' ?_
     refine zS (zA e1 cI) ?_
     refine ⟨(i,2*q,2*r+bt),⟨by simp only;omega,?_,by simp only;omega⟩,by simp only;omega,by simp [z0y,lk]⟩
     simp only
     rw [hs.out,Nat.mul_assoc];omega
   ·have hc:=of_decide_eq_false hc
    have:j=0:=by omega
    subst this
    rw [Nat.pow_zero,Nat.div_one] at hinv
    obtain ⟨d1,d2⟩:=x2B hinv hr
    refine zS cI ?_
    rw [←d1,←d2]
    exact z0i (y0B (.imm rfl) (.imm rfl) (.imm rfl))
end Go.Proofs.YtlcagndeidjobaaGreatDoor
