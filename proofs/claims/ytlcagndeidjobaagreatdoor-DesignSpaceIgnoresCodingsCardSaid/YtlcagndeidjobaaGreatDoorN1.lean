/- Lemmas of the walk; no conditions beyond those that each states. -/
import Derived.OpenShut
import Derived.Below
import Derived.Lib.SmallJoins
import Derived.Lib.ItoaNum
import Derived.Lib.Repeat
import Derived.Lib.SplitLaws
import Derived.ShutString
import Derived.Test.YtlcagndeidjobaaGreatDoorD3
import Derived.Test.YtlcagndeidjobaaGreatDoorD4
set_option linter.unusedSimpArgs false
set_option linter.unusedVariables false
set_option linter.unnecessarySimpa false
set_option maxHeartbeats 4000000
namespace Nat32
def nv:List Nat→Nat
 | []=>0
 | x::r=>x+4294967296*nv r
def limbs (n:Nat):List Nat:=if h:n=0 then [] else (n % 4294967296)::limbs (n / 4294967296)
 termination_by n
 decreasing_by omega
def lim (a:List Nat):Prop:=∀x∈a,x<4294967296
def vld (a:List Nat):Bool:=decide (a.length=0∨a.getD (a.length - 1) 0≠0)
def val (a:List Nat):List Nat:=if vld a then a else []
def z3Y (a:List Nat):Nat→Nat
 | 0=>0
 | n+1=>if a.getD n 0=0 then z3Y a n else n+1
def x5L (a:List Nat):List Nat:=a.take (z3Y a a.length)
theorem z0s:limbs 0=[]:=by rw [limbs];simp
theorem z18 {n:Nat} (h:n≠0):limbs n=(n % 4294967296)::limbs (n / 4294967296):=by rw [limbs];simp [h]
theorem z1n {n:Nat}:limbs n=[]↔n=0:=by
 constructor
 ·intro h;rcases Nat.eq_zero_or_pos n with e|e
  ·exact e
  ·rw [z18 (by omega)] at h;cases h
 ·rintro rfl;exact z0s
theorem z0F (n:Nat):nv (limbs n)=n:=by
 induction n using Nat.strongRecOn with
 | _ n ih =>
  by_cases h:n=0
  ·subst h;rw [z0s];rfl
  ·rw [z18 h,nv,ih _ (by omega)];omega
theorem z0e (n:Nat):lim (limbs n):=by
 induction n using Nat.strongRecOn with
 | _ n ih =>
  by_cases h:n=0
  ·subst h;rw [z0s];intro x hx;cases hx
  ·rw [z18 h]
   intro x hx
   rcases List.mem_cons.1 hx with e|e
   ·subst e;omega
   ·exact ih _ (by omega) x e
theorem z1o:lim []:=by intro x hx;cases hx
theorem z2t {x:Nat} {r:List Nat}:lim (x::r)↔x<4294967296∧lim r:=by
 constructor
 ·intro h;exact ⟨h x (by simp),fun y hy=>h y (by simp [hy])⟩
 ·rintro ⟨h1,h2⟩ y hy
  rcases List.mem_cons.1 hy with e|e
  ·subst e;exact h1
  ·exact h2 y e
theorem z3a {a:List Nat} (h:lim a) (n:Nat):lim (a.take n):=fun x hx=>h x (List.mem_of_mem_take hx)
theorem z0G {a:List Nat} (h:lim a) (k:Nat):a.getD k 0<4294967296:=by
 rw [zO1]
 cases e:a[k]? with
 | none=>simp
 | some x=>exact h x (List.mem_of_getElem? e)
theorem x0a {x y:Nat} {r:List Nat}:vld (x::y::r)=vld (y::r):=by
 unfold vld
 simp [zO1]
theorem z78 {a:List Nat} (hl:lim a) (hv:vld a=true):limbs (nv a)=a:=by
 induction a with
 | nil=>exact z0s
 | cons x r ih =>
  obtain ⟨hx,hr⟩:=z2t.1 hl
  cases r with
  | nil =>
   have:x≠0:=by simpa [vld] using hv
   simp only [nv,Nat.mul_zero,Nat.add_zero]
   rw [z18 this,Nat.mod_eq_of_lt hx,Nat.div_eq_of_lt hx,z0s]
  | cons y r =>
   rw [x0a] at hv
   have h:=ih hr hv
   have hne:nv (y::r)≠0:=by
    intro e;rw [e,z0s] at h;cases h
   rw [nv,z18 (by omega)]
   have e1:(x+4294967296*nv (y::r)) % 4294967296=x:=by omega
   have e2:(x+4294967296*nv (y::r)) / 4294967296=nv (y::r):=by omega
   rw [e1,e2,h]
theorem z2E (a b:List Nat):nv (a++b)=nv a+4294967296 ^ a.length*nv b:=by
 induction a with
 | nil=>simp [nv]
 | cons x a ih =>
  simp only [List.cons_append,nv,ih,List.length_cons,Nat.pow_succ,Nat.mul_add]
  rw [←Nat.mul_assoc,Nat.mul_comm (4294967296 ^ a.length) 4294967296]
  omega
theorem z2v {a:List Nat} {n:Nat} (h:n<a.length):a.take (n+1)=a.take n++[a.getD n 0]:=by
 rw [List.take_succ_eq_append_getElem h,zO1,zO4 h];rfl
theorem z4t {a:List Nat} {n:Nat} (h:n<a.length):nv (a.take (n+1))=nv (a.take n)+4294967296 ^ n*a.getD n 0:=by
 rw [z2v h,z2E]
 rw [List.length_take,Nat.min_eq_left (by omega)];simp [nv]
theorem y94 (a:List Nat):∀n,z3Y a n≤n
 | 0=>Nat.le_refl _
 | n+1=>by
  have:=y94 a n
  simp only [z3Y];split<;>omega
theorem y1S (a:List Nat):∀n,n≤a.length→nv (a.take (z3Y a n))=nv (a.take n)∧vld (a.take (z3Y a n))=true
 | 0,_=>by simp [z3Y,nv,vld]
 | n+1,h=>by
  simp only [z3Y]
  split
  ·rename_i h0
   obtain ⟨h1,h2⟩:=y1S a n (by omega)
   refine ⟨?_,h2⟩
   rw [h1,z4t (by omega),h0];omega
  ·rename_i h0
   refine ⟨rfl,?_⟩
   unfold vld
   rw [z2v (by omega)]
   simp only [decide_eq_true_eq]
   right
   have hl:(a.take n).length=n:=by simp;omega
   simp only [List.length_append,hl,List.length_singleton,Nat.add_sub_cancel]
   rw [zO1,List.getElem?_append_right (by omega),hl]
   simpa using h0
theorem z93 {a:List Nat} (hl:lim a):x5L a=limbs (nv a):=by
 obtain ⟨h1,h2⟩:=y1S a a.length (Nat.le_refl _)
 rw [List.take_length] at h1
 have:=z78 (z3a hl (z3Y a a.length)) h2
 rw [h1] at this
 exact this.symm
theorem w0X {a:List Nat} (h:lim a):lim (val a):=by unfold val;split;exact h;exact z1o
theorem w2t (a:List Nat):vld (val a)=true:=by
 unfold val
 by_cases h:vld a=true
 ·rw [if_pos h];exact h
 ·rw [if_neg h];rfl
def vn (a:List Nat):Nat:=nv (val a)
theorem z3C {a:List Nat} (h:lim a):val a=limbs (vn a):=(z78 (w0X h) (w2t a)).symm
theorem y7M (a:List Nat):(val a).length≤a.length:=by unfold val;split<;>simp
theorem z6i (n:Nat):vld (limbs n)=true:=by
 have:∀n,∀k,k≤n→vld (limbs k)=true:=by
  intro n
  induction n with
  | zero=>intro k hk;have:k=0:=by omega
          subst this;rw [z0s];rfl
  | succ n ih =>
   intro k hk
   by_cases h:k=0
   ·subst h;rw [z0s];rfl
   ·rw [z18 h]
    by_cases h2:k / 4294967296=0
    ·rw [h2,z0s]
     have:k % 4294967296≠0:=by omega
     simp [vld,this]
    ·have:=ih (k / 4294967296) (by omega)
     rw [z18 h2] at this ⊢
     rw [x0a];exact this
 exact this n n (Nat.le_refl _)
theorem z0x (n:Nat):vn (limbs n)=n:=by rw [vn,val,z6i,if_pos rfl,z0F]
theorem z4o {m n:Nat} (h:limbs m=limbs n):m=n:=by rw [←z0F m,h,z0F]
theorem z9E {a:List Nat} (h:lim a):nv a<4294967296 ^ a.length:=by
 induction a with
 | nil=>simp [nv]
 | cons x r ih =>
  obtain ⟨hx,hr⟩:=z2t.1 h
  have:=ih hr
  simp only [nv,List.length_cons,Nat.pow_succ]
  omega
theorem z0B {n k:Nat}:(limbs n).length≤k↔n<4294967296 ^ k:=by
 constructor
 ·intro h
  have:=z9E (z0e n)
  rw [z0F] at this
  exact Nat.lt_of_lt_of_le this (Nat.pow_le_pow_right (by decide) h)
 ·intro h
  induction k generalizing n with
  | zero=>have:n=0:=by simpa using h
          subst this;rw [z0s];simp
  | succ k ih =>
   by_cases h0:n=0
   ·subst h0;rw [z0s];simp
   ·rw [z18 h0]
    have:=ih (n:=n / 4294967296) (by rw [Nat.div_lt_iff_lt_mul (by decide),←Nat.pow_succ];exact h)
    simp only [List.length_cons];omega
end Nat32
namespace Nat32
open Go Go.Dat
def u32 (n:Nat):DV:=.int .u32 n
def us (xs:List Nat):List DV:=xs.map u32
theorem z0a (xs:List Nat):(us xs).length=xs.length:=by simp [us]
theorem z0R {xs:List Nat} {k:Nat} (h:k<xs.length):(us xs).getD k .undef=.int .u32 (xs.getD k 0:Nat):=by
 simp [us,zO1,List.getElem?_map,zO4 h,u32]
theorem x5P (xs:List Nat) (k:Nat):(us xs).take k=us (xs.take k):=by simp [us,List.map_take]
theorem x5O:us []=[]:=rfl
theorem z4E (xs:List Nat):(us xs).all DV.rf=true:=by simp [us,u32,DV.rf]
theorem x9A (xs:List Nat):(∀d∈us xs,d.one=true)=True:=by simp [us,u32,DV.one]
theorem z8f (o:Nat) (xs:List Nat):(us xs).map (purge o)=us xs:=by simp [us,u32,z9J]
theorem z39 (xs:List Nat) (k n:Nat):(us xs).set k (.int .u32 n)=us (xs.set k n):=by simp [us,u32,List.map_set]
theorem z7Y (n:Nat):rep n [DV.int .u32 0]=us (List.replicate n 0):=by simp [us,u32,rep]
theorem us2 (x y:Nat):[DV.int .u32 x,DV.int .u32 y]=us [x,y]:=rfl
theorem z0n {o len:Nat} {q:List Nat} (h:len=q.length):frz o (us q) (.osl 1 o 0 len)=.sl 1 (us q):=by
 subst h
 rw [z6J o (us q) 0 q.length (by decide) (by simp [z0a])]
 simp [←z0a]
def z8s (x y:Nat):Int:=if x<y then -1 else if y<x then 1 else 0
theorem y0E {x y:Nat} (h:(limbs x).length<(limbs y).length):x<y:=by
 have h1:¬(limbs y).length≤(limbs x).length:=by omega
 rw [z0B] at h1
 have h2:=z0B.1 (Nat.le_refl (limbs x).length)
 omega
theorem z58 {a:List Nat} {m:Nat} (h:m<a.length):nv a=nv (a.take m)+4294967296 ^ m*(a.getD m 0+4294967296*nv (a.drop (m+1))):=by
 have e:a=a.take m++(a.getD m 0::a.drop (m+1)):=by
  rw [zO1,zO4 h];simp
 have:=z2E (a.take m) (a.getD m 0::a.drop (m+1))
 rw [←e,List.length_take,Nat.min_eq_left (by omega)] at this
 rw [this];rfl
theorem z8b {a b:List Nat} {m:Nat} (ha:lim a) (hma:m<a.length) (hmb:m<b.length) (hd:a.drop (m+1)=b.drop (m+1)) (h:a.getD m 0<b.getD m 0):nv a<nv b:=by
 rw [z58 hma,z58 hmb,hd]
 have h1:=z9E (z3a ha m)
 rw [List.length_take,Nat.min_eq_left (by omega)] at h1
 have h2:4294967296 ^ m*(a.getD m 0+4294967296*nv (b.drop (m+1))+1)≤4294967296 ^ m*(b.getD m 0+4294967296*nv (b.drop (m+1))):=Nat.mul_le_mul_left _ (by omega)
 rw [Nat.mul_add,Nat.mul_one] at h2
 omega
theorem y4j {a b:List Nat} {m:Nat} (hma:m<a.length) (hmb:m<b.length) (hd:a.drop (m+1)=b.drop (m+1)) (h:a.getD m 0=b.getD m 0):a.drop m=b.drop m:=by
 rw [List.drop_eq_getElem_cons hma,List.drop_eq_getElem_cons hmb,hd]
 congr 1
 rw [zO1,zO4 hma,zO1,zO4 hmb] at h
 exact h
theorem y3M {x y:Nat} (h:(limbs x).length≠(limbs y).length):z8s x y=if (limbs x).length<(limbs y).length then -1 else 1:=by
 unfold z8s
 by_cases h1:(limbs x).length<(limbs y).length
 ·rw [if_pos (y0E h1),if_pos h1]
 ·have:=y0E (x:=y) (y:=x) (by omega)
  rw [if_neg (by omega),if_pos this,if_neg h1]
theorem x5I {a b:List Nat} {n:Nat} (hna:n<a.length) (hnb:n<b.length) (ht:a.take n=b.take n) (h:a.getD n 0=b.getD n 0):a.take (n+1)=b.take (n+1):=by
 rw [z2v hna,z2v hnb,ht,h]
end Nat32
namespace Go.Dat
open Go
theorem y2Z (a b:Nat) (ha:a<18446744073709551616) (hb:b<18446744073709551616):z24 .or .u64 (a:Int) (b:Int)=((a ||| b:Nat):Int):=by
 unfold z24
 have e1:(BitVec.ofInt IntKind.u64.bits (a:Int)).toNat=a:=by
  rw [BitVec.ofInt_natCast,BitVec.toNat_ofNat]
  exact Nat.mod_eq_of_lt ha
 have e2:(BitVec.ofInt IntKind.u64.bits (b:Int)).toNat=b:=by
  rw [BitVec.ofInt_natCast,BitVec.toNat_ofNat]
  exact Nat.mod_eq_of_lt hb
 simp only [BitVec.toNat_or,e1,e2]
 rw [IntKind.wrap_u64]
 have:a ||| b<2 ^ 64:=Nat.or_lt_two_pow (by simpa using ha) (by simpa using hb)
 omega
theorem x9m {h x:Nat} (hx:x<4294967296):(4294967296*h) ||| x=4294967296*h+x:=by
 have:=Nat.two_pow_add_eq_or_of_lt (i:=32) (b:=x) hx h
 simpa using this.symm
theorem w7i {h x:Nat} (hx:x<4294967296) (hs:4294967296*h+x<18446744073709551616) :
  z24 .or .u64 ((h:Int)*2 ^ min (Int.toNat 32) IntKind.u64.bits % 18446744073709551616) ((x:Int) % 18446744073709551616)=((4294967296*h+x:Nat):Int):=by
 have e:(2 ^ min (Int.toNat 32) IntKind.u64.bits:Int)=((4294967296:Nat):Int):=by decide
 rw [e,show (h:Int)*((4294967296:Nat):Int) % 18446744073709551616=((4294967296*h:Nat):Int) by omega,show (x:Int) % 18446744073709551616=(x:Int) by omega,y2Z _ _ (by omega) (by omega),x9m hx]
end Go.Dat
namespace Nat32
theorem y2K {a:List Nat} (h:lim a) (n:Nat):lim (a.drop n):=fun x hx=>h x (List.mem_of_mem_drop hx)
theorem z5i {a:List Nat} {m:Nat} (h:m<a.length):nv (a.drop m)=a.getD m 0+4294967296*nv (a.drop (m+1)):=by
 rw [List.drop_eq_getElem_cons h,zO1,zO4 h];rfl
end Nat32
namespace Nat32
open Go Go.Dat
theorem y3q (a b:Nat):((a:Int)).tdiv (b:Int)=((a / b:Nat):Int):=(Int.ofNat_tdiv a b).symm
theorem z8e (a b:Nat):((a:Int)).tmod (b:Int)=((a % b:Nat):Int):=(Int.ofNat_tmod a b).symm
theorem x5w (m q:Nat) (ds:List Nat):(List.replicate (m+1) 0++ds).set m q=List.replicate m 0++(q::ds):=by
 induction m with
 | zero=>rfl
 | succ m ih=>rw [List.replicate_succ,List.cons_append,List.set_cons_succ,ih];rfl
theorem x8E {hi lo y:Nat} (h1:hi<y) (h2:lo<4294967296):(4294967296*hi+lo) / y<4294967296:=by
 rw [Nat.div_lt_iff_lt_mul (by omega)]
 have:4294967296*(hi+1)≤4294967296*y:=Nat.mul_le_mul_left _ h1
 omega
theorem x6x {N d x:Nat} (hd:0<d):(x+4294967296*N) / d=(4294967296*(N % d)+x) / d+4294967296*(N / d)∧(x+4294967296*N) % d=(4294967296*(N % d)+x) % d:=by
 have h:x+4294967296*N=(4294967296*(N % d)+x)+d*(4294967296*(N / d)):=by
  have:=Nat.div_add_mod N d
  have e:d*(4294967296*(N / d))=4294967296*(d*(N / d)):=by
   rw [←Nat.mul_assoc,Nat.mul_comm d,Nat.mul_assoc]
  rw [e];omega
 rw [h]
 exact ⟨by rw [Nat.add_mul_div_left _ _ hd],by rw [Nat.add_mul_mod_self_left]⟩
theorem z5Z {x:Nat} (h0:x≠0) (h:x<4294967296):limbs x=[x]:=by
 rw [z18 h0,Nat.mod_eq_of_lt h,Nat.div_eq_of_lt h,z0s]
theorem z0C {a:List Nat} (n:Nat):nv (a.take (n+1))=nv (a.take n)+4294967296 ^ n*a.getD n 0:=by
 by_cases h:n<a.length
 ·exact z4t h
 ·rw [List.take_of_length_le (by omega),List.take_of_length_le (by omega)]
  have:a.getD n 0=0:=by rw [zO1,List.getElem?_eq_none (by omega)];rfl
  rw [this];omega
theorem y7u (k v:Nat) (ds:List Nat):(ds++List.replicate (k+1) 0).set ds.length v=(ds++[v])++List.replicate k 0:=by
 rw [List.set_append_right _ _ (Nat.le_refl _)]
 simp [List.replicate_succ]
theorem y1Z {X Y D P x y c:Nat} (h:D+P*c=X+Y):(D+P*((x+y+c) % 4294967296))+(P*4294967296)*((x+y+c) / 4294967296)=(X+P*x)+(Y+P*y):=by
 have h1:=Nat.div_add_mod (x+y+c) 4294967296
 have h2:P*((x+y+c) % 4294967296)+(P*4294967296)*((x+y+c) / 4294967296)=P*(x+y+c):=by
  rw [Nat.mul_assoc,←Nat.mul_add];congr 1;omega
 rw [Nat.mul_add,Nat.mul_add] at h2
 omega
def oap (o:Nat):List Nat→DV
 | []=>.nils
 | x::r=>.osl 1 o 0 (r.length+1)
def hap (o:Nat):List Nat→Hp
 | []=>[]
 | x::r=>[(o,us (x::r))]
theorem w4Q (k:IntKind) (n:Int):(∀d∈[DV.int k n],d.one=true)=True:=by simp [DV.one]
theorem rf1 (k:IntKind) (n:Int):(∀d∈[DV.int k n],d.rf=true)=True:=by simp [DV.rf]
theorem y7L (q:List Nat) (x:Nat):us q++[DV.int .u32 x]=us (q++[x]):=by simp [us,u32]
theorem w5O {v:Nat} (h:v<4294967296):v / 2147483648=(v.testBit 31).toNat:=by
 rw [Nat.testBit_eq_decide_div_mod_eq]
 have:v / 2 ^ 31 % 2=v / 2147483648:=by omega
 rw [this]
 have h2:v / 2147483648=0∨v / 2147483648=1:=by omega
 rcases h2 with e|e<;>rw [e]<;>rfl
theorem z6R (a:Nat) (ha:a<4294967296):(BitVec.ofInt IntKind.u32.bits (a:Int)).toNat=a:=by
 rw [BitVec.ofInt_natCast,BitVec.toNat_ofNat];exact Nat.mod_eq_of_lt ha
theorem z8p (a b:Nat) (ha:a<4294967296) (hb:b<4294967296):z24 .and .u32 (a:Int) (b:Int)=((a &&& b:Nat):Int):=by
 unfold z24
 simp only [BitVec.toNat_and,z6R a ha,z6R b hb]
 rw [IntKind.wrap_u32]
 have:a &&& b<2 ^ 32:=Nat.and_lt_two_pow _ (by simpa using hb)
 omega
theorem y9C (a b:Nat) (ha:a<4294967296) (hb:b<4294967296):z24 .or .u32 (a:Int) (b:Int)=((a ||| b:Nat):Int):=by
 unfold z24
 simp only [BitVec.toNat_or,z6R a ha,z6R b hb]
 rw [IntKind.wrap_u32]
 have:a ||| b<2 ^ 32:=Nat.or_lt_two_pow (by simpa using ha) (by simpa using hb)
 omega
theorem y50 (a b:Nat) (ha:a<4294967296) (hb:b<4294967296):z24 .xor .u32 (a:Int) (b:Int)=((a ^^^ b:Nat):Int):=by
 unfold z24
 simp only [BitVec.toNat_xor,z6R a ha,z6R b hb]
 rw [IntKind.wrap_u32]
 have:a ^^^ b<2 ^ 32:=Nat.xor_lt_two_pow (by simpa using ha) (by simpa using hb)
 omega
theorem y48 (a:Nat) (ha:a<4294967296):z24 .xor .u32 4294967295 (a:Int)=((4294967295 ^^^ a:Nat):Int):=y50 4294967295 a (by decide) ha
def bor (x y c:Nat):Nat:=if x<y+c then 1 else 0
theorem x6i {x y c d:Nat} (hx:x<4294967296) (hy:y<4294967296) (hc:c≤1) (hd:d<4294967296) (he:d=x - y - c∧y+c≤x∨d+y+c=x+4294967296∧x<y+c) :
  (((4294967295 ^^^ x) &&& y) ||| ((4294967295 ^^^ (x ^^^ y)) &&& d)) / 2147483648=bor x y c:=by
 have l1:(4294967295 ^^^ x)<2 ^ 32:=Nat.xor_lt_two_pow (by decide) (by simpa using hx)
 have l2:x ^^^ y<2 ^ 32:=Nat.xor_lt_two_pow (by simpa using hx) (by simpa using hy)
 have l3:(4294967295 ^^^ (x ^^^ y))<2 ^ 32:=Nat.xor_lt_two_pow (by decide) l2
 have l4:((4294967295 ^^^ x) &&& y)<2 ^ 32:=Nat.and_lt_two_pow _ (by simpa using hy)
 have l5:((4294967295 ^^^ (x ^^^ y)) &&& d)<2 ^ 32:=Nat.and_lt_two_pow _ (by simpa using hd)
 have l6:=Nat.or_lt_two_pow l4 l5
 rw [w5O (by simpa using l6)]
 simp only [Nat.testBit_or,Nat.testBit_and,Nat.testBit_xor]
 have t (v:Nat) (hv:v<4294967296):v.testBit 31=decide (2147483648≤v):=by
  rw [Nat.testBit_eq_decide_div_mod_eq,decide_eq_decide];omega
 rw [t x hx,t y hy,t d hd,t 4294967295 (by decide)]
 unfold bor
 by_cases h1:2147483648≤x<;>by_cases h2:2147483648≤y<;>by_cases h3:2147483648≤d<;>simp [h1,h2,h3]<;>omega
end Nat32
namespace Nat32
theorem x8k {X Y D P x y c:Nat} (hx:x<4294967296) (hy:y<4294967296) (hc:c≤1) (h:D+Y=X+P*c) :
  (D+P*((x+4294967296 - y - c) % 4294967296))+(Y+P*y)=(X+P*x)+(P*4294967296)*(1 - (x+4294967296 - y - c) / 4294967296)∧(x+4294967296 - y - c) / 4294967296≤1:=by
 have h1:=Nat.div_add_mod (x+4294967296 - y - c) 4294967296
 have h2:(x+4294967296 - y - c) / 4294967296≤1:=by omega
 refine ⟨?_,h2⟩
 generalize (x+4294967296 - y - c) % 4294967296=dg at h1 ⊢
 generalize hq:(x+4294967296 - y - c) / 4294967296=q at h1 h2 ⊢
 have h3:dg+y+c=x+4294967296*(1 - q):=by omega
 have h4:P*dg+P*y+P*c=P*x+P*4294967296*(1 - q):=by
  rw [Nat.mul_assoc P 4294967296,←Nat.mul_add,←Nat.mul_add,←Nat.mul_add,h3]
 omega
end Nat32
namespace Nat32
open Go Go.Dat
theorem x6j {x y c d:Nat} (hx:x<4294967296) (hy:y<4294967296) (hc:c≤1) (hd:d<4294967296) (he:d=x - y - c∧y+c≤x∨d+y+c=x+4294967296∧x<y+c) :
  (z24 .or .u32 (z24 .and .u32 (z24 .xor .u32 4294967295 (x:Int)) (y:Int)) (z24 .and .u32 (z24 .xor .u32 4294967295 (z24 .xor .u32 (x:Int) (y:Int))) (d:Int))).fdiv (2 ^ min (Int.toNat 31) IntKind.u32.bits)=((bor x y c:Nat):Int):=by
 have l1:(4294967295 ^^^ x)<2 ^ 32:=Nat.xor_lt_two_pow (by decide) (by simpa using hx)
 have l2:x ^^^ y<2 ^ 32:=Nat.xor_lt_two_pow (by simpa using hx) (by simpa using hy)
 have l3:(4294967295 ^^^ (x ^^^ y))<2 ^ 32:=Nat.xor_lt_two_pow (by decide) l2
 have l4:((4294967295 ^^^ x) &&& y)<2 ^ 32:=Nat.and_lt_two_pow _ (by simpa using hy)
 have l5:((4294967295 ^^^ (x ^^^ y)) &&& d)<2 ^ 32:=Nat.and_lt_two_pow _ (by simpa using hd)
 rw [y48 x hx,z8p _ y (by simpa using l1) hy,y50 x y hx hy,y48 _ (by simpa using l2),z8p _ d (by simpa using l3) hd,y9C _ _ (by simpa using l4) (by simpa using l5)]
 have e:(2 ^ min (Int.toNat 31) IntKind.u32.bits:Int)=((2147483648:Nat):Int):=by decide
 rw [e,z4H,x6i hx hy hc hd he]
theorem x9h (n:Nat):nv (List.replicate n 0)=0:=by
 induction n with
 | zero=>rfl
 | succ n ih=>rw [List.replicate_succ,nv,ih]
theorem x1d (n:Nat) (q:List Nat):nv (List.replicate n 0++q)=4294967296 ^ n*nv q:=by
 rw [z2E,x9h,List.length_replicate];omega
theorem z7K {a v:Nat} (h1:a<4294967296) (h2:v<4294967296):a*v≤18446744065119617025:=by
 have:=Nat.mul_le_mul (show a≤4294967295 by omega) (show v≤4294967295 by omega)
 omega
theorem x7f {a v:Nat} (h1:a<4294967296) (h2:v<4294967296):IntKind.u64.wrap ((a:Int)*(v:Int))=((a*v:Nat):Int):=by
 have:=z7K h1 h2
 rw [x4F]
 generalize a*v=p at this ⊢
 exact x8s (by omega) (by omega)
theorem w4q {a v c:Nat} (h1:a<4294967296) (h2:v<4294967296) (h3:c<4294967296):IntKind.u64.wrap (((a*v:Nat):Int)+(c:Int))=((a*v+c:Nat):Int):=by
 have:=z7K h1 h2
 generalize a*v=p at this ⊢
 rw [x8s (by omega) (by omega)];omega
theorem x7e {D P T a v c:Nat} (h:D+P*c=T*v):(D+P*((a*v+c) % 4294967296))+(P*4294967296)*((a*v+c) / 4294967296)=(T+P*a)*v:=by
 have h1:=Nat.div_add_mod (a*v+c) 4294967296
 have h2:P*((a*v+c) % 4294967296)+(P*4294967296)*((a*v+c) / 4294967296)=P*(a*v+c):=by
  rw [Nat.mul_assoc,←Nat.mul_add];congr 1;omega
 rw [Nat.mul_add] at h2
 rw [Nat.add_mul,Nat.mul_assoc P a v,←h]
 omega
theorem x05 {a v c:Nat} (h1:a<4294967296) (h2:v<4294967296) (h3:c<4294967296):(a*v+c) / 4294967296<4294967296:=by
 have:=z7K h1 h2
 generalize a*v=p at this ⊢
 omega
theorem x06 {x v n:Nat} (h1:x<4294967296 ^ n) (h2:v<4294967296):x*v<4294967296 ^ (n+1):=by
 rw [Nat.pow_succ]
 exact Nat.mul_lt_mul_of_lt_of_le h1 (by omega) (Nat.pos_of_ne_zero (by intro h;omega))
theorem z6O {x y m n:Nat} (h1:(limbs x).length≤m) (h2:(limbs y).length≤n):(limbs (x*y)).length≤m+n:=by
 rw [z0B] at h1 h2 ⊢
 rw [Nat.pow_add]
 exact Nat.mul_lt_mul_of_lt_of_le h1 (Nat.le_of_lt h2) (Nat.pos_of_ne_zero (by intro h;rw [h] at h2;omega))
theorem w22 {N P c:Nat} (h:N+P*c<P):c=0:=by
 rcases Nat.eq_zero_or_pos c with e|e
 ·exact e
 ·have:=Nat.mul_le_mul_left P e
  rw [Nat.mul_one] at this
  omega
theorem x9x {x y c:Nat} (hx:x<4294967296) (hy:y<4294967296) (hc:c≤1):∃d b,d+y+c=x+4294967296*b∧d<4294967296∧b≤1:=by
 by_cases h:x<y+c
 ·obtain ⟨d,hd⟩:∃d,x+4294967296=y+c+d:=Nat.exists_eq_add_of_le (by omega)
  exact ⟨d,1,by omega,by omega,by omega⟩
 ·obtain ⟨d,hd⟩:∃d,x=y+c+d:=Nat.exists_eq_add_of_le (by omega)
  exact ⟨d,0,by omega,by omega,by omega⟩
theorem x5F {X Y D P x y c d b:Nat} (h:D+Y=X+P*c) (hd:d+y+c=x+4294967296*b):(D+P*d)+(Y+P*y)=(X+P*x)+(P*4294967296)*b:=by
 have h4:P*d+P*y+P*c=P*x+P*4294967296*b:=by
  rw [Nat.mul_assoc P 4294967296,←Nat.mul_add,←Nat.mul_add,←Nat.mul_add,hd]
 omega
theorem x5G {x y c d b:Nat} (hd:d+y+c=x+4294967296*b) (h:d<4294967296):IntKind.u32.wrap (IntKind.u32.wrap ((x:Int) - (y:Int)) - (c:Int))=(d:Int):=by
 rw [IntKind.wrap_u32,IntKind.wrap_u32];omega
theorem x2i {x y c d b:Nat} (hx:x<4294967296) (hy:y<4294967296) (hc:c≤1) (hd:d+y+c=x+4294967296*b) (h:d<4294967296) (hb:b≤1) :
  (z24 .or .u32 (z24 .and .u32 (z24 .xor .u32 4294967295 (x:Int)) (y:Int)) (z24 .and .u32 (z24 .xor .u32 4294967295 (z24 .xor .u32 (x:Int) (y:Int))) (d:Int))).fdiv (2 ^ min (Int.toNat 31) IntKind.u32.bits)=(b:Int):=by
 have hb2:b=0∨b=1:=by omega
 rw [x6j hx hy hc h (by omega)]
 unfold bor
 split<;>omega
theorem x9i {l:List Nat} {k v:Nat} (h:k<l.length):nv (l.set k v)+4294967296 ^ k*l.getD k 0=nv l+4294967296 ^ k*v:=by
 induction l generalizing k with
 | nil=>simp at h
 | cons x l ih =>
  cases k with
  | zero=>simp only [List.set_cons_zero,nv,List.getD_cons_zero,Nat.pow_zero,Nat.one_mul];omega
  | succ k =>
   have:=ih (k:=k) (by simpa using h)
   simp only [List.set_cons_succ,nv,List.getD_cons_succ,Nat.pow_succ]
   have e1:4294967296 ^ k*4294967296*l.getD k 0=4294967296*(4294967296 ^ k*l.getD k 0):=by
    rw [Nat.mul_comm (4294967296 ^ k) 4294967296,Nat.mul_assoc]
   have e2:4294967296 ^ k*4294967296*v=4294967296*(4294967296 ^ k*v):=by
    rw [Nat.mul_comm (4294967296 ^ k) 4294967296,Nat.mul_assoc]
   rw [e1,e2];omega
theorem x4w {l:List Nat} {k v:Nat} (h:lim l) (hv:v<4294967296):lim (l.set k v):=by
 intro z hz
 rcases List.mem_or_eq_of_mem_set hz with e|e
 ·exact h z e
 ·rw [e];exact hv
theorem z7D {l:List Nat} {j k v:Nat} (h:k≠j):(l.set k v).getD j 0=l.getD j 0:=by
 rw [zO1,zO1,List.getElem?_set_ne h]
theorem w56 {a v c o:Nat} (h1:a<4294967296) (h2:v<4294967296) (h3:c<4294967296) (h4:o<4294967296):a*v+o+c<18446744073709551616∧(a*v+o+c) / 4294967296<4294967296:=by
 have:=z7K h1 h2
 generalize a*v=p at this ⊢
 omega
theorem x7a {D E P R c o s:Nat} (h:D+P*c=R) (hs:E+P*o=D+P*(s % 4294967296)) {av:Nat} (hq:s=av+o+c):E+P*4294967296*(s / 4294967296)=R+P*av:=by
 have h1:=Nat.div_add_mod s 4294967296
 have h2:P*(s % 4294967296)+P*4294967296*(s / 4294967296)=P*s:=by
  rw [Nat.mul_assoc,←Nat.mul_add];congr 1;omega
 have h3:P*s=P*av+P*o+P*c:=by rw [hq,Nat.mul_add,Nat.mul_add]
 omega
end Nat32
namespace Nat32
def dig:Nat→Nat→List Nat
 | 0,_=>[]
 | k+1,x=>x % 4294967296::dig k (x / 4294967296)
theorem z1k (k x:Nat):(dig k x).length=k:=by
 induction k generalizing x with
 | zero=>rfl
 | succ k ih=>simp [dig,ih]
theorem z6v (k x:Nat):lim (dig k x):=by
 induction k generalizing x with
 | zero=>exact z1o
 | succ k ih=>rw [dig,z2t];exact ⟨Nat.mod_lt _ (by decide),ih _⟩
theorem z9D (k x:Nat):nv (dig k x)=x % 4294967296 ^ k:=by
 induction k generalizing x with
 | zero=>simp [dig,nv,Nat.mod_one]
 | succ k ih=>rw [dig,nv,ih,Nat.pow_succ',Nat.mod_mul]
theorem w4L {a b:List Nat} (ha:lim a) (hb:lim b) (hl:a.length=b.length) (h:nv a=nv b):a=b:=by
 induction a generalizing b with
 | nil=>cases b with
  | nil=>rfl
  | cons y b=>simp at hl
 | cons x a ih=>cases b with
  | nil=>simp at hl
  | cons y b =>
   obtain ⟨h1,h2⟩:=z2t.1 ha
   obtain ⟨h3,h4⟩:=z2t.1 hb
   simp only [nv] at h
   have e1:x=y:=by omega
   have e2:nv a=nv b:=by omega
   rw [e1,ih h2 h4 (by simpa using hl) e2]
theorem x2A {a:List Nat} {k x:Nat} (h:lim a) (hl:a.length=k) (hv:nv a=x % 4294967296 ^ k):a=dig k x :=
 w4L h (z6v _ _) (by rw [hl,z1k]) (by rw [hv,z9D])
theorem z5j (a:List Nat) (k:Nat) (h:k≤a.length):nv a=nv (a.take k)+4294967296 ^ k*nv (a.drop k):=by
 have:=z2E (a.take k) (a.drop k)
 rw [List.take_append_drop,List.length_take,Nat.min_eq_left h] at this
 exact this
def gq (T W:Nat):Nat:=min (T / W) 4294967295
theorem w50 {T W q k:Nat} (h:gq T W≤q) (hc:4294967296≤q∨T<q*W) (hW:0<W) (hk:q=k+1):gq T W≤k:=by
 unfold gq at h ⊢
 rcases hc with h9|h9
 ·omega
 ·have h1:T / W<q:=(Nat.div_lt_iff_lt_mul hW).2 h9
  generalize T / W=z at *
  omega
theorem w7A {p s r u0 t B:Nat} (h1:p+r=t) (h2:r*B+u0<s):t*B+u0<p*B+s:=by
 subst h1;rw [Nat.add_mul];omega
theorem w0o {u2 u1 u0 v1 v0 q r:Nat} (hq:q*v1+r=u2*4294967296+u1) (hv:0<v1) (h:gq ((u2*4294967296+u1)*4294967296+u0) (v1*4294967296+v0)≤q)
  (hc:4294967296≤q∨r*4294967296+u0<q*v0) :
  0<q∧gq ((u2*4294967296+u1)*4294967296+u0) (v1*4294967296+v0)≤q - 1∧(q - 1)*v1+(r+v1)=u2*4294967296+u1:=by
 have h0:0<q:=by
  rcases hc with h|h
  ·omega
  ·rcases Nat.eq_zero_or_pos q with e|e
   ·subst e;omega
   ·exact e
 obtain ⟨k,hk⟩:∃k,q=k+1:=⟨q - 1,by omega⟩
 refine ⟨h0,?_,?_⟩
 ·rw [hk,Nat.add_sub_cancel]
  refine w50 h (hc.imp_right fun h9=>?_) (by omega) hk
  have h2:q*(v1*4294967296+v0)=q*v1*4294967296+q*v0:=by rw [Nat.mul_add,←Nat.mul_assoc]
  exact Nat.lt_of_lt_of_eq (w7A hq h9) h2.symm
 ·subst hk
  rw [Nat.add_mul,Nat.one_mul] at hq
  simp only [Nat.add_sub_cancel]
  omega
theorem x6O {T W top u2 u1 u0 v1 v0:Nat} (htop:u2*4294967296+u1=top) (h0:u0<4294967296) (hv:0<v1) (hT:(u2*4294967296+u1)*4294967296+u0=T) (hW:v1*4294967296+v0=W):gq T W≤top / v1:=by
 refine Nat.le_trans (Nat.min_le_left _ _) ((Nat.le_div_iff_mul_le hv).2 ?_)
 have hT':T=top*4294967296+u0:=by omega
 have h1:T / W*W≤T:=Nat.div_mul_le_self T W
 generalize T / W=z at *
 rcases Nat.lt_or_ge top (z*v1) with e|e
 ·have h2:z*W=z*v1*4294967296+z*v0:=by rw [←hW,Nat.mul_add,←Nat.mul_assoc]
  omega
 ·exact e
theorem w0m {u2 u1 u0 v1 v0 q r:Nat} (hq:q*v1+r=u2*4294967296+u1) (hu1:u1<4294967296) (hu:u2≤v1) (hv0:v0<4294967296) (hv:0<v1)
  (h:gq ((u2*4294967296+u1)*4294967296+u0) (v1*4294967296+v0)≤q) (hc:4294967296≤r∨(q<4294967296∧q*v0≤r*4294967296+u0)) :
  q=gq ((u2*4294967296+u1)*4294967296+u0) (v1*4294967296+v0):=by
 have hqB:q<4294967296:=by
  rcases hc with h1|h1
  ·rcases Nat.lt_or_ge q 4294967296 with e|e
   ·exact e
   ·have h2:=Nat.mul_le_mul e (Nat.le_refl v1)
    generalize q*v1=p at *
    omega
  ·exact h1.1
 have hle:q*v0≤r*4294967296+u0:=by
  rcases hc with h1|h1
  ·have h2:=z7K hqB hv0
   generalize q*v0=s at *
   omega
  ·exact h1.2
 have:q≤((u2*4294967296+u1)*4294967296+u0) / (v1*4294967296+v0):=by
  have h2:q*(v1*4294967296+v0)=q*v1*4294967296+q*v0:=by rw [Nat.mul_add,←Nat.mul_assoc]
  refine (Nat.le_div_iff_mul_le (by omega)).2 (Nat.le_trans (Nat.le_of_eq h2) ?_)
  clear h hc h2
  omega
 unfold gq at h ⊢
 omega
theorem w0n {U V T W P Ul Vl:Nat} (hU:U=T*P+Ul) (hUl:Ul<P) (hV:V=W*P+Vl) (hVl:Vl<P) (hVn:4294967296*P≤V) (hlt:U<4294967296*V) (hW:0<W) :
  U / V≤gq T W∧gq T W≤U / V+1:=by
 have hP:0<P:=by omega
 have hV0:0<V:=by
  have:=Nat.mul_pos hW hP
  omega
 constructor
 ·have h1:U / V≤T / W:=by
   rw [Nat.le_div_iff_mul_le hW]
   have h2:U / V*V≤U:=Nat.div_mul_le_self U V
   have h3:U / V*(W*P)≤U / V*V:=Nat.mul_le_mul_left _ (by omega)
   rw [←Nat.mul_assoc] at h3
   generalize U / V*W=x at *
   rcases Nat.lt_or_ge T x with e|e
   ·have:=Nat.mul_le_mul_right P e
    rw [Nat.succ_mul] at this
    omega
   ·exact e
  have h4:U / V<4294967296:=by rw [Nat.div_lt_iff_lt_mul hV0];exact hlt
  unfold gq;omega
 ·have h1:gq T W*W≤T:=Nat.le_trans (Nat.mul_le_mul_right _ (Nat.min_le_left _ _)) (Nat.div_mul_le_self T W)
  have h2:gq T W<4294967296:=by unfold gq;omega
  generalize gq T W=q at h1 h2 ⊢
  have h3:q*V≤U+V:=by
   have h4:q*W*P≤T*P:=Nat.mul_le_mul_right _ h1
   have h5:q*Vl≤4294967296*P:=Nat.mul_le_mul (by omega) (by omega)
   rw [hV,Nat.mul_add,←Nat.mul_assoc]
   omega
  have h6:q≤(U+V) / V:=by rw [Nat.le_div_iff_mul_le hV0];exact h3
  rw [Nat.add_div_right _ hV0] at h6
  exact h6
theorem x7r {D Y X P c b q y x d b':Nat} (h:D+q*Y=X+P*(c+b)) (hd:d+(c+q*y) % 4294967296+b=x+4294967296*b') :
  (D+P*d)+q*(Y+P*y)=(X+P*x)+P*4294967296*((c+q*y) / 4294967296+b'):=by
 have h1:=Nat.div_add_mod (c+q*y) 4294967296
 have e1:q*(P*y)=P*(q*y):=by rw [←Nat.mul_assoc,Nat.mul_comm q P,Nat.mul_assoc]
 have h2:P*d+P*((c+q*y) % 4294967296)+P*b=P*x+P*4294967296*b':=by
  rw [Nat.mul_assoc P 4294967296,←Nat.mul_add,←Nat.mul_add,←Nat.mul_add,hd]
 have h3:P*((c+q*y) % 4294967296)+P*4294967296*((c+q*y) / 4294967296)=P*c+P*(q*y):=by
  rw [Nat.mul_assoc P 4294967296,←Nat.mul_add,←Nat.mul_add];congr 1;omega
 rw [Nat.mul_add,Nat.mul_add,e1]
 rw [Nat.mul_add] at h
 omega
theorem x4Y {P c q Y y:Nat} (h:P*c≤q*Y):P*4294967296*((c+q*y) / 4294967296)≤q*(Y+P*y):=by
 have e1:q*(P*y)=P*(q*y):=by rw [←Nat.mul_assoc,Nat.mul_comm q P,Nat.mul_assoc]
 have h1:=Nat.div_mul_le_self (c+q*y) 4294967296
 have h2:P*(4294967296*((c+q*y) / 4294967296))≤P*(c+q*y):=Nat.mul_le_mul_left _ (by omega)
 rw [Nat.mul_assoc,Nat.mul_add,e1]
 rw [Nat.mul_add] at h2
 omega
theorem w1i {D U V q M c b:Nat} (h:D+q*V=U+M*(c+b)) (hc:M*c≤q*V) (hq:q*V<M) (hD:D<M) (_hU:U<M) (hb:b≤1) :
  (b≠0↔U<q*V)∧D=(U+M - q*V) % M:=by
 have hc0:c=0:=by
  rcases Nat.eq_zero_or_pos c with e|e
  ·exact e
  ·have:=Nat.mul_le_mul_left M e;rw [Nat.mul_one] at this;omega
 subst hc0
 rw [Nat.zero_add] at h
 have hb2:b=0∨b=1:=by omega
 rcases hb2 with e|e<;>subst e
 ·refine ⟨by omega,?_⟩
  have:U+M - q*V=D+M:=by omega
  rw [this,Nat.add_mod_right,Nat.mod_eq_of_lt hD]
 ·refine ⟨by omega,?_⟩
  have:U+M - q*V=D:=by omega
  rw [this,Nat.mod_eq_of_lt hD]
theorem w0T {U V q M:Nat} (h1:U / V≤q) (h2:q≤U / V+1) (h:U<q*V) (_hV:V≤M) (hV0:0<V) (_hq:q*V<M):q - 1=U / V∧((U+M - q*V) % M+V) % M=U % V:=by
 have e:q=U / V+1:=by
  rcases Nat.lt_or_ge (U / V) q with e|e
  ·omega
  ·have:q=U / V:=by omega
   have h3:=Nat.div_mul_le_self U V
   rw [←this] at h3;exact absurd h (by omega)
 subst e
 refine ⟨Nat.add_sub_cancel _ _,?_⟩
 have h4:=Nat.div_add_mod' U V
 have h5:=Nat.mod_lt U hV0
 rw [Nat.add_mul,Nat.one_mul] at h _hq ⊢
 rw [Nat.mod_eq_of_lt (show U+M - (U / V*V+V)<M by omega)]
 have:U+M - (U / V*V+V)+V=U % V+M:=by omega
 rw [this,Nat.add_mod_right,Nat.mod_eq_of_lt (by omega)]
theorem w39 {U V q M:Nat} (h1:U / V≤q) (_h2:q≤U / V+1) (h:¬U<q*V) (hV:V≤M) (hV0:0<V):q=U / V∧(U+M - q*V) % M=U % V:=by
 have e:q=U / V:=by
  have:q≤U / V:=by rw [Nat.le_div_iff_mul_le hV0];omega
  omega
 subst e
 refine ⟨rfl,?_⟩
 have h4:=Nat.div_add_mod' U V
 have h5:=Nat.mod_lt U hV0
 have:U+M - U / V*V=U % V+M:=by omega
 rw [this,Nat.add_mod_right,Nat.mod_eq_of_lt (by omega)]
end Nat32
namespace Nat32
open Go Go.Dat
def z2p (x:Nat):Nat:=if x=0 then 0 else Nat.log2 x+1
theorem y6c {x:Nat}:x<2 ^ z2p x:=by
 unfold z2p
 split
 ·rename_i h;subst h;decide
 ·exact Nat.lt_log2_self
theorem y6b {x:Nat} (h:x≠0):2 ^ (z2p x - 1)≤x:=by
 unfold z2p
 rw [if_neg h,Nat.add_sub_cancel]
 exact Nat.log2_self_le h
theorem x9Q {x k:Nat} (h1:2 ^ k≤x) (h2:x<2 ^ (k+1)):z2p x=k+1:=by
 have h0:x≠0:=by have:=Nat.two_pow_pos k;omega
 unfold z2p
 rw [if_neg h0,(Nat.log2_eq_iff h0).2 ⟨h1,h2⟩]
theorem y14 {x k:Nat} (h:2 ^ k≤x):z2p x=z2p (x / 2 ^ k)+k:=by
 have h0:x / 2 ^ k≠0:=by
  have:=Nat.div_pos h (Nat.two_pow_pos k)
  omega
 have h1:=y6b h0
 have h2:=y6c (x:=x / 2 ^ k)
 have hb:0<z2p (x / 2 ^ k):=by unfold z2p;rw [if_neg h0];omega
 obtain ⟨m,hm⟩:∃m,z2p (x / 2 ^ k)=m+1:=⟨z2p (x / 2 ^ k) - 1,by omega⟩
 rw [hm] at h1 h2 ⊢
 rw [Nat.add_sub_cancel] at h1
 have e:m+1+k=(m+k)+1:=by omega
 rw [e]
 refine x9Q ?_ ?_
 ·rw [Nat.pow_add]
  exact Nat.le_trans (Nat.mul_le_mul_right _ h1) (Nat.div_mul_le_self _ _)
 ·rw [show m+k+1=(m+1)+k by omega,Nat.pow_add]
  exact (Nat.div_lt_iff_lt_mul (Nat.two_pow_pos k)).1 h2
theorem z2h {x k:Nat} (h:x<2 ^ k):z2p x≤k:=by
 rcases Nat.lt_or_ge k (z2p x) with e|e
 ·have h0:x≠0:=by rintro rfl;simp [z2p] at e
  have h1:=y6b h0
  have h2:=Nat.pow_le_pow_right (n:=2) (by decide) (show k≤z2p x - 1 by omega)
  omega
 ·exact e
theorem w00 {x:Nat} (h0:x≠0) (h:x<4294967296):32 - z2p x≤31∧2147483648≤x*2 ^ (32 - z2p x)∧x*2 ^ (32 - z2p x)<4294967296:=by
 have h1:=y6b h0
 have h2:=y6c (x:=x)
 have h3:=z2h (k:=32) (by simpa using h)
 have hb:0<z2p x:=by unfold z2p;rw [if_neg h0];omega
 refine ⟨by omega,?_,?_⟩
 ·have h4:=Nat.mul_le_mul_right (2 ^ (32 - z2p x)) h1
  rw [←Nat.pow_add,show z2p x - 1+(32 - z2p x)=31 by omega] at h4
  exact h4
 ·have h4:=Nat.mul_lt_mul_of_pos_right h2 (Nat.two_pow_pos (32 - z2p x))
  rw [←Nat.pow_add,show z2p x+(32 - z2p x)=32 by omega] at h4
  exact h4
theorem x9v {x k:Nat} (h:x<4294967296) (hk:k≤31):x*2 ^ k<18446744073709551616∧x*2 ^ k / 4294967296<2 ^ k:=by
 have h1:x*2 ^ k<4294967296*2 ^ k:=Nat.mul_lt_mul_of_pos_right h (Nat.two_pow_pos k)
 have h2:(2:Nat) ^ k≤2 ^ 31:=Nat.pow_le_pow_right (by decide) hk
 refine ⟨by omega,?_⟩
 rw [Nat.div_lt_iff_lt_mul (by decide),Nat.mul_comm (2 ^ k)]
 exact h1
theorem w4R {c x k:Nat} (hc:c<2 ^ k) (hk:k≤31) (_hx:x<4294967296):c ||| (x*2 ^ k % 4294967296)=x*2 ^ k % 4294967296+c:=by
 have e:x*2 ^ k % 4294967296=2 ^ k*(x % 2 ^ (32 - k)):=by
  have:(4294967296:Nat)=2 ^ k*2 ^ (32 - k):=by rw [←Nat.pow_add,show k+(32 - k)=32 by omega]
  rw [this,Nat.mul_comm x,Nat.mul_mod_mul_left]
 rw [e,Nat.or_comm]
 exact (Nat.two_pow_add_eq_or_of_lt hc _).symm
theorem w1Y {D P X c x y:Nat} (h:D+P*c=X*y):(D+P*(x*y % 4294967296+c))+P*4294967296*(x*y / 4294967296)=(X+P*x)*y:=by
 have h1:=Nat.div_add_mod (x*y) 4294967296
 have h2:P*(x*y % 4294967296)+P*4294967296*(x*y / 4294967296)=P*(x*y):=by
  rw [Nat.mul_assoc P 4294967296,←Nat.mul_add];congr 1;omega
 rw [Nat.mul_add,Nat.add_mul,Nat.mul_assoc P x y]
 omega
theorem w7D {x y z k:Nat} (hk:k≤31):((4294967296*y+x) / 2 ^ k) % 4294967296=((x+4294967296*(y+4294967296*z)) / 2 ^ k) % 4294967296:=by
 have e:(x+4294967296*(y+4294967296*z))=(4294967296*y+x)+2 ^ k*(2 ^ (32 - k)*(4294967296*z)):=by
  rw [←Nat.mul_assoc,←Nat.pow_add,show k+(32 - k)=32 by omega]
  omega
 rw [e,Nat.add_mul_div_left _ _ (Nat.two_pow_pos k),show 2 ^ (32 - k)*(4294967296*z)=4294967296*(2 ^ (32 - k)*z) by rw [←Nat.mul_assoc,Nat.mul_comm (2 ^ (32 - k)),Nat.mul_assoc],Nat.add_mul_mod_self_left]
theorem w5m (o:Nat) (c:List DV) (xs:List Nat):(us xs).map (frz o c)=us xs:=by simp [us,u32,y6z]
theorem y3e (d:List Nat) (c v:Nat) (r:List Nat):(d++c::r).set d.length v=d++v::r:=by
 rw [List.set_append_right _ _ (Nat.le_refl _)];simp
theorem x7Z (d:List Nat) (c x v:Nat) (r:List Nat):(d++c::x::r).set (d.length+1) v=d++c::v::r:=by
 rw [List.set_append_right _ _ (Nat.le_add_right _ _)];simp
theorem y2v (d:List Nat) (c:Nat) (r:List Nat):(d++c::r).getD d.length 0=c:=by
 simp [zO1]
theorem z2J {a b:List Nat}:lim (a++b)↔lim a∧lim b:=by
 constructor
 ·intro h;exact ⟨fun x hx=>h x (List.mem_append.2 (.inl hx)),fun x hx=>h x (List.mem_append.2 (.inr hx))⟩
 ·rintro ⟨h1,h2⟩ x hx
  rcases List.mem_append.1 hx with h|h
  ·exact h1 x h
  ·exact h2 x h
theorem y2Y (d:List Nat) (c:Nat):nv (d++[c])=nv d+4294967296 ^ d.length*c:=by
 rw [z2E];simp [nv]
theorem w6O {x k:Nat} (h:x<4294967296) (hk:k≤31):IntKind.u64.wrap ((x:Int)*2 ^ min k IntKind.u64.bits)=((x*2 ^ k:Nat):Int):=by
 have h1:=(x9v h hk).1
 have e:min k IntKind.u64.bits=k:=by
  have:IntKind.u64.bits=64:=rfl
  omega
 rw [e,show ((2:Int) ^ k)=((2 ^ k:Nat):Int) by simp,x4F]
 generalize x*2 ^ k=p at h1 ⊢
 exact x8s (by omega) (by omega)
theorem w6P (a k:Nat) (hk:k≤31):((a:Int)).fdiv (2 ^ min k IntKind.u64.bits)=((a / 2 ^ k:Nat):Int):=by
 have e:min k IntKind.u64.bits=k:=by
  have:IntKind.u64.bits=64:=rfl
  omega
 rw [e,show ((2:Int) ^ k)=((2 ^ k:Nat):Int) by simp,z4H]
theorem x7n {c x k:Nat} (hc:c<2 ^ k) (hk:k≤31) (hx:x<4294967296):z24 .or .u32 (c:Int) ((x*2 ^ k % 4294967296:Nat):Int)=((x*2 ^ k % 4294967296+c:Nat):Int):=by
 have h2:(2:Nat) ^ k≤2 ^ 31:=Nat.pow_le_pow_right (by decide) hk
 rw [y9C _ _ (by omega) (Nat.mod_lt _ (by decide)),w4R hc hk hx]
theorem y20 {k:Nat} (hk:k≤31):(2:Nat) ^ k≤2147483648:=by
 have h2:(2:Nat) ^ k≤2 ^ 31:=Nat.pow_le_pow_right (by decide) hk
 simpa using h2
theorem w4e {c x k:Nat} (hc:c<2 ^ k) (hk:k≤31):x*2 ^ k % 4294967296+c<4294967296:=by
 have e:x*2 ^ k % 4294967296=2 ^ k*(x % 2 ^ (32 - k)):=by
  have:(4294967296:Nat)=2 ^ k*2 ^ (32 - k):=by rw [←Nat.pow_add,show k+(32 - k)=32 by omega]
  rw [this,Nat.mul_comm x,Nat.mul_mod_mul_left]
 have h1:x % 2 ^ (32 - k)+1≤2 ^ (32 - k):=Nat.mod_lt _ (Nat.two_pow_pos _)
 have h2:=Nat.mul_le_mul_left (2 ^ k) h1
 rw [←Nat.pow_add,show k+(32 - k)=32 by omega,Nat.mul_add] at h2
 omega
end Nat32
namespace Nat32
theorem y49 (a:List Nat) (m:Nat) (h:a.length=m+1):nv (a.drop m)=a.getD m 0:=by
 rw [z5i (by omega),List.drop_of_length_le (by omega)];simp [nv]
theorem w7F (a:List Nat) (n:Nat) (h:a.length=n+2):nv a=(a.getD (n+1) 0*4294967296+a.getD n 0)*4294967296 ^ n+nv (a.take n):=by
 rw [z58 (m:=n) (by omega),y49 a (n+1) (by omega),Nat.mul_comm (4294967296 ^ n)]
 rw [show a.getD n 0+4294967296*a.getD (n+1) 0=a.getD (n+1) 0*4294967296+a.getD n 0 by omega];omega
theorem w7G (a:List Nat) (n:Nat) (h:a.length=n+3):nv a=((a.getD (n+2) 0*4294967296+a.getD (n+1) 0)*4294967296+a.getD n 0)*4294967296 ^ n+nv (a.take n):=by
 rw [z58 (m:=n) (by omega),z5i (a:=a) (m:=n+1) (by omega),y49 a (n+2) (by omega),Nat.mul_comm (4294967296 ^ n)]
 rw [show a.getD n 0+4294967296*(a.getD (n+1) 0+4294967296*a.getD (n+2) 0)=(a.getD (n+2) 0*4294967296+a.getD (n+1) 0)*4294967296+a.getD n 0 by omega];omega
theorem z4O {a:List Nat} (h:lim a) {n:Nat} (hn:n≤a.length):nv (a.take n)<4294967296 ^ n:=by
 have:=z9E (z3a h n)
 rwa [List.length_take,Nat.min_eq_left hn] at this
theorem z7I {x n:Nat} (h1:x<4294967296 ^ (n+1)) (h2:4294967296 ^ n≤x):(limbs x).length=n+1:=by
 have h3:=z0B.2 h1
 rcases Nat.lt_or_ge (limbs x).length (n+1) with e|e
 ·have:=z0B.1 (show (limbs x).length≤n by omega)
  omega
 ·omega
theorem z7J {y n:Nat} (h:(limbs y).length=n+1):(limbs y).getD n 0≠0:=by
 have:=z6i y
 unfold vld at this
 rw [h,Nat.add_sub_cancel] at this
 simpa using this
theorem w4H {y n:Nat} (h:(limbs y).length=n+1):32 - z2p ((limbs y).getD n 0)≤31∧y*2 ^ (32 - z2p ((limbs y).getD n 0))<4294967296 ^ (n+1)∧4294967296 ^ n*2147483648≤y*2 ^ (32 - z2p ((limbs y).getD n 0)):=by
 have h0:=z7J h
 have hl:=z0G (z0e y) n
 have hs:=z58 (a:=limbs y) (m:=n) (by omega)
 rw [z0F,List.drop_of_length_le (by omega)] at hs
 have hlow:=z4O (z0e y) (n:=n) (by omega)
 simp only [nv,Nat.mul_zero,Nat.add_zero] at hs
 generalize (limbs y).getD n 0=t at *
 obtain ⟨k1,k2,k3⟩:=w00 h0 hl
 have hb:=z2h (k:=32) (show t<2 ^ 32 by omega)
 have htt:(t+1)*2 ^ (32 - z2p t)≤4294967296:=by
  have h4:=Nat.mul_le_mul_right (2 ^ (32 - z2p t)) (show t+1≤2 ^ z2p t from y6c)
  rw [←Nat.pow_add,show z2p t+(32 - z2p t)=32 by omega] at h4
  exact h4
 refine ⟨k1,?_,?_⟩
 ·have h5:y*2 ^ (32 - z2p t)<(4294967296 ^ n*(t+1))*2 ^ (32 - z2p t):=Nat.mul_lt_mul_of_pos_right (by rw [hs,Nat.mul_add];omega) (Nat.two_pow_pos _)
  have h6:=Nat.mul_le_mul_left (4294967296 ^ n) htt
  rw [←Nat.mul_assoc] at h6
  rw [Nat.pow_succ]
  omega
 ·have h5:4294967296 ^ n*t*2 ^ (32 - z2p t)≤y*2 ^ (32 - z2p t):=Nat.mul_le_mul_right _ (by omega)
  have h6:=Nat.mul_le_mul_left (4294967296 ^ n) k2
  rw [←Nat.mul_assoc] at h6
  omega
theorem w0q {x k V n m:Nat} (hx:x<4294967296 ^ (m+n)) (hk:k≤31) (hV:4294967296 ^ n*2147483648≤V) {u:List Nat} (hl:m≤u.length) (hu:nv u=x*2 ^ k):nv (u.drop m)<V:=by
 have h1:=z5j u m hl
 have h2:x*2 ^ k<4294967296 ^ (m+n)*2147483648:=Nat.mul_lt_mul_of_lt_of_le hx (y20 hk) (by decide)
 rw [Nat.pow_add,Nat.mul_assoc,←hu] at h2
 have h3:4294967296 ^ m*nv (u.drop m)<4294967296 ^ m*(4294967296 ^ n*2147483648):=by omega
 have:=Nat.lt_of_mul_lt_mul_left h3
 omega
structure Step (u:List Nat) (V i n:Nat):Prop where
 eq:nv (u.drop i)=nv ((u.drop i).take (n+3))
 lt:nv (u.drop i)<4294967296*V
 cells:u=u.take i++(u.drop i).take (n+3)++u.drop (i+(n+3))
 slen:((u.drop i).take (n+3)).length=n+3
 g2:((u.drop i).take (n+3)).getD (n+2) 0=u.getD (i+n+2) 0
 g1:((u.drop i).take (n+3)).getD (n+1) 0=u.getD (i+n+1) 0
 g0:((u.drop i).take (n+3)).getD n 0=u.getD (i+n) 0
 rest:nv (u.drop (i+(n+3)))=0
theorem y2u (u:List Nat) (i k j:Nat) (h:j<k):((u.drop i).take k).getD j 0=u.getD (i+j) 0:=by
 simp [zO1,List.getElem?_take,h,List.getElem?_drop]
theorem w5x {x t P z V Q:Nat} (h:x=t+P*z) (hx:x<4294967296*V) (hV:V<Q) (hP:P=Q*4294967296):z=0:=by
 rcases Nat.eq_zero_or_pos z with e|e
 ·exact e
 ·have h1:=Nat.mul_le_mul_left P e
  rw [Nat.mul_one] at h1
  omega
theorem w6X {x y V:Nat} (hx:x<4294967296) (hR:y<V):x+4294967296*y<4294967296*V:=by omega
theorem w2n {u:List Nat} {V i n:Nat} (lu:lim u) (hl:i+(n+3)≤u.length) (hR:nv (u.drop (i+1))<V) (hV:V<4294967296 ^ (n+2)):Step u V i n:=by
 have hlt:nv (u.drop i)<4294967296*V:=by
  rw [z5i (a:=u) (m:=i) (by omega)];exact w6X (z0G lu i) hR
 have hs:=z5j (u.drop i) (n+3) (by simp;omega)
 rw [List.drop_drop] at hs
 have hz:nv (u.drop (i+(n+3)))=0:=w5x hs hlt hV (Nat.pow_succ (n:=4294967296) (m:=n+2))
 refine ⟨?_,hlt,?_,by simp;omega,y2u u i (n+3) (n+2) (by omega),y2u u i (n+3) (n+1) (by omega),y2u u i (n+3) n (by omega),hz⟩
 ·rw [hs,hz,Nat.mul_zero,Nat.add_zero]
 ·rw [List.append_assoc,show u.drop (i+(n+3))=(u.drop i).drop (n+3) by rw [List.drop_drop],List.take_append_drop,List.take_append_drop]
theorem w5n {V v1 v0 P Vl:Nat} (hv:V=(v1*4294967296+v0)*P+Vl) (hVl:Vl<P) (h0:v0<4294967296) (hVn:P*4294967296*2147483648≤V):0<v1:=by
 rcases Nat.eq_zero_or_pos v1 with e|e
 ·subst e
  rw [Nat.zero_mul,Nat.zero_add] at hv
  have h3:v0*P≤4294967295*P:=Nat.mul_le_mul_right P (by clear hv hVn;omega)
  generalize v0*P=z at *
  omega
 ·exact e
theorem w6V {U V T W P Ul Vl:Nat} (hu:U=T*P+Ul) (hv:V=W*P+Vl) (hVl:Vl<P) (hlt:U<4294967296*V):T<4294967296*(W+1):=by
 have h1:V<(W+1)*P:=by rw [Nat.add_mul,Nat.one_mul];omega
 have h2:T*P<(4294967296*(W+1))*P:=by
  rw [Nat.mul_assoc]
  generalize (W+1)*P=z at *
  omega
 exact Nat.lt_of_mul_lt_mul_right h2
theorem w6W {u2 u1 u0 v1 v0:Nat} (h0:v0<4294967296) (h:(u2*4294967296+u1)*4294967296+u0<4294967296*(v1*4294967296+v0+1)):u2≤v1:=by omega
theorem w0p {P V:Nat} (h:P*4294967296*2147483648≤V):4294967296*P≤V:=by omega
theorem x1P {u:List Nat} {V i n:Nat} (lu:lim u) (hS:Step u V i n) (hVl:V<4294967296 ^ (n+2)) (hVn:4294967296 ^ (n+1)*2147483648≤V) :
  u.getD (i+n+2) 0≤(limbs V).getD (n+1) 0∧0<(limbs V).getD (n+1) 0 ∧
  nv (u.drop i) / V≤gq ((u.getD (i+n+2) 0*4294967296+u.getD (i+n+1) 0)*4294967296+u.getD (i+n) 0) ((limbs V).getD (n+1) 0*4294967296+(limbs V).getD n 0) ∧
  gq ((u.getD (i+n+2) 0*4294967296+u.getD (i+n+1) 0)*4294967296+u.getD (i+n) 0) ((limbs V).getD (n+1) 0*4294967296+(limbs V).getD n 0)≤nv (u.drop i) / V+1:=by
 have hlen:(limbs V).length=n+2:=z7I hVl (Nat.le_trans (Nat.le_mul_of_pos_right _ (by decide)) hVn)
 have hv:=w7F (limbs V) n hlen
 have hvl:=z4O (z0e V) (n:=n) (by omega)
 have ls:=z3a (y2K lu i) (n+3)
 have hu:=w7G _ n hS.slen
 have hul:=z4O ls (n:=n) (by rw [hS.slen];omega)
 rw [←hS.eq,hS.g2,hS.g1,hS.g0] at hu
 rw [z0F] at hv
 have h0v:=z0G (z0e V) n
 have hlt:=hS.lt
 rw [Nat.pow_succ] at hVn
 have hv1:=w5n hv hvl h0v hVn
 exact ⟨w6W h0v (w6V hu hv hvl hlt),hv1,w0n hu hul hv hvl (w0p hVn) hlt (Nat.lt_of_lt_of_le (Nat.mul_pos hv1 (by decide)) (Nat.le_add_right _ _))⟩
theorem x8j {A u q V i n:Nat} {us qs:List Nat} (hA:A=4294967296 ^ (i+1)*nv qs*V+nv us) (hu:nv us=u+4294967296 ^ i*n) (hq:q=n / V) :
  A=4294967296 ^ i*nv (q::qs)*V+(u+4294967296 ^ i*(n % V)):=by
 subst hq
 have h1:=Nat.div_add_mod' n V
 simp only [nv]
 rw [hA,hu,Nat.pow_succ]
 have e1:4294967296 ^ i*n=4294967296 ^ i*(n / V*V)+4294967296 ^ i*(n % V):=by rw [←Nat.mul_add,h1]
 have e2:4294967296 ^ i*(n / V+4294967296*nv qs)*V=4294967296 ^ i*(n / V*V)+4294967296 ^ i*4294967296*nv qs*V:=by
  rw [Nat.mul_add,Nat.add_mul]
  simp only [Nat.mul_assoc]
 rw [e1,e2];omega
theorem x2B {A V q r:Nat} (h:A=q*V+r) (hr:r<V):q=A / V∧r=A % V:=by
 subst h
 have h0:0<V:=by omega
 rw [Nat.add_comm,Nat.add_mul_div_right _ _ h0,Nat.add_mul_mod_self_right,Nat.div_eq_of_lt hr,Nat.mod_eq_of_lt hr]
 exact ⟨by omega,rfl⟩
theorem x6w (k x:Nat):dig (k+1) x=dig k x++[x / 4294967296 ^ k % 4294967296]:=by
 induction k generalizing x with
 | zero=>simp [dig]
 | succ k ih =>
  rw [dig,ih,dig,Nat.div_div_eq_div_mul,←Nat.pow_succ']
  rfl
theorem y8B {u:List Nat} (lu:lim u) (i:Nat) (h:i≤u.length):nv u / 4294967296 ^ i=nv (u.drop i):=by
 have h1:=z5j u i h
 have h2:=z4O lu h
 rw [h1,Nat.add_mul_div_left _ _ (by omega),Nat.div_eq_of_lt h2,Nat.zero_add]
theorem back {u:List Nat} (lu:lim u) {i k:Nat} (hi:i+1<u.length) (hk:k≤31):(u.getD (i+1) 0*4294967296+u.getD i 0) / 2 ^ k % 4294967296=nv u / 2 ^ k / 4294967296 ^ i % 4294967296:=by
 rw [Nat.div_div_eq_div_mul,Nat.mul_comm (2 ^ k),←Nat.div_div_eq_div_mul,y8B lu i (by omega),z5i (a:=u) (m:=i) (by omega),z5i (a:=u) (m:=i+1) (by omega),←w7D hk,Nat.mul_comm 4294967296]
theorem w6D {q V n:Nat} (hq:q<4294967296) (hV:V<4294967296 ^ (n+2)):q*V<4294967296 ^ (n+3):=by
 have h1:4294967296 ^ (n+3)=4294967296 ^ (n+2)*4294967296:=Nat.pow_succ 4294967296 (n+2)
 rw [h1,Nat.mul_comm q]
 exact Nat.mul_lt_mul_of_lt_of_le hV (Nat.le_of_lt hq) (by decide)
theorem w0U {V n:Nat} (hV:V<4294967296 ^ (n+2)):V≤4294967296 ^ (n+3) :=
 Nat.le_of_lt (Nat.lt_of_lt_of_le hV (Nat.pow_le_pow_right (by decide) (by omega)))
theorem w4M {p s t:List Nat} {n i U r:Nat} (hp:p.length=i) (_hs:s.length=n+3) (ht:nv t=0) (hU:nv s=U):nv (p++s++t)=nv p+4294967296 ^ i*U∧(r<4294967296 ^ (n+3)→nv (p++dig (n+3) r++t)=nv p+4294967296 ^ i*r∧nv ((p++dig (n+3) r++t).drop i)=r):=by
 refine ⟨?_,fun hr=>⟨?_,?_⟩⟩
 ·rw [z2E,z2E,ht,Nat.mul_zero,Nat.add_zero,hp,hU]
 ·rw [z2E,z2E,ht,Nat.mul_zero,Nat.add_zero,hp,z9D,Nat.mod_eq_of_lt hr]
 ·rw [List.append_assoc,List.drop_append,List.drop_of_length_le (by omega),hp,Nat.sub_self,List.drop_zero,List.nil_append,z2E,ht,Nat.mul_zero,Nat.add_zero,z9D,Nat.mod_eq_of_lt hr]
end Nat32
namespace Nat32
open Go Go.Dat
theorem w5e (i:Nat):((i:Int)).tdiv 32=((i / 32:Nat):Int):=y3q i 32
theorem w5h (i:Nat):((i:Int)).tmod 32=((i % 32:Nat):Int):=z8e i 32
theorem w1Z (a k:Nat) (hk:k≤31):((a:Int)).fdiv (2 ^ min k IntKind.u32.bits)=((a / 2 ^ k:Nat):Int):=by
 have e:min k IntKind.u32.bits=k:=by
  have:IntKind.u32.bits=32:=rfl
  omega
 rw [e,show ((2:Int) ^ k)=((2 ^ k:Nat):Int) by simp,z4H]
theorem x6b {z:Nat} (h:z<4294967296):z24 .and .u32 (z:Int) 1=((z % 2:Nat):Int):=by
 have:=z8p z 1 h (by decide)
 rw [Nat.and_one_is_mod] at this
 exact this
theorem w21 {a:List Nat} (la:lim a) (i:Nat) (h:i / 32<a.length):a.getD (i / 32) 0 / 2 ^ (i % 32) % 2=nv a / 2 ^ i % 2:=by
 have e:2 ^ i=4294967296 ^ (i / 32)*2 ^ (i % 32):=by
  rw [show (4294967296:Nat)=2 ^ 32 from rfl,←Nat.pow_mul,←Nat.pow_add,Nat.div_add_mod]
 rw [e,←Nat.div_div_eq_div_mul,y8B la _ (by omega),z5i h]
 generalize a.getD (i / 32) 0=x
 generalize nv (a.drop (i / 32+1))=z
 have hm:i % 32<32:=Nat.mod_lt _ (by decide)
 generalize i % 32=m at hm
 have e2:x+4294967296*z=x+2 ^ m*(2*(2 ^ (31 - m)*z)):=by
  rw [←Nat.mul_assoc,←Nat.mul_assoc,←Nat.pow_succ,←Nat.pow_add,show m+1+(31 - m)=32 by omega]
 rw [e2,Nat.add_mul_div_left _ _ (Nat.two_pow_pos m),Nat.add_mul_mod_self_left]
theorem x6g (x i:Nat):x / 2 ^ i=2*(x / 2 ^ (i+1))+x / 2 ^ i % 2:=by
 rw [Nat.pow_succ,←Nat.div_div_eq_div_mul];omega
theorem z1I {x y:Nat} (h:x≤y):(limbs x).length≤(limbs y).length :=
 z0B.2 (Nat.lt_of_le_of_lt h (z0B.1 (Nat.le_refl _)))
theorem y1v {x n:Nat} (h:(limbs x).length≤n):(limbs (2*x+1)).length≤n+1:=by
 rw [z0B] at h ⊢
 rw [Nat.pow_succ];omega
theorem w6B (n:Nat):(4294967296:Nat) ^ n=2 ^ (32*n):=by rw [show (4294967296:Nat)=2 ^ 32 from rfl,←Nat.pow_mul]
def iv (neg:Bool) (a:List Nat):Int:=if neg then -((vn a:Nat):Int) else ((vn a:Nat):Int)
def I (z:Int):DV:=.agg [.bool (decide (z<0)),.sl 1 (us (limbs z.natAbs))]
def X (neg:Bool) (a:List Nat):DV:=.agg [.bool neg,.sl 1 (us a)]
def y3u (neg:Bool) (a:List Nat):Bool:=vld a && (decide (0<a.length) || !neg)
theorem y4T (z:Int):iv (decide (z<0)) (limbs z.natAbs)=z:=by
 unfold iv
 rw [z0x]
 by_cases h:z<0
 ·rw [if_pos (decide_eq_true h)];omega
 ·rw [if_neg (by simpa using h)];omega
theorem z4I {n:Nat}:0<(limbs n).length↔0<n:=by
 rcases Nat.eq_zero_or_pos n with e|e
 ·subst e;rw [z0s];simp
 ·constructor
  ·intro _;exact e
  ·intro _
   rcases Nat.eq_zero_or_pos (limbs n).length with h|h
   ·have:=z1n.1 (List.eq_nil_of_length_eq_zero h);omega
   ·exact h
theorem w5p (z:Int):y3u (decide (z<0)) (limbs z.natAbs)=true:=by
 unfold y3u
 rw [z6i,Bool.true_and,Bool.or_eq_true]
 by_cases h:z<0
 ·exact .inl (decide_eq_true (z4I.2 (by omega)))
 ·exact .inr (by simp [h])
theorem X_I {neg:Bool} {a:List Nat} (la:lim a) (h:y3u neg a=true):X neg a=I (iv neg a):=by
 unfold y3u at h
 rw [Bool.and_eq_true,Bool.or_eq_true] at h
 obtain ⟨hv,h2⟩:=h
 have ha:limbs (vn a)=a:=by rw [←z3C la,val,hv,if_pos rfl]
 unfold X I iv
 cases neg with
 | false =>
  simp only [Bool.false_eq_true,if_false,Int.natAbs_natCast,ha]
  rw [zF9]
 | true =>
  have h3:0<a.length:=by
   rcases h2 with h|h
   ·exact of_decide_eq_true h
   ·cases h
  have h4:0<vn a:=by rw [←z4I,ha];exact h3
  simp only [if_true,Int.natAbs_neg,Int.natAbs_natCast,ha]
  rw [zT9]
theorem x9d {neg:Bool} {a:List Nat} (h:y3u neg a=false):iv neg a=0:=by
 unfold y3u at h
 unfold iv
 have h0:vn a=0:=by
  by_cases hv:vld a=true
  ·rw [hv,Bool.true_and,Bool.or_eq_false_iff] at h
   have:a=[]:=List.eq_nil_of_length_eq_zero (by have:=of_decide_eq_false h.1;omega)
   subst this;rfl
  ·unfold vn val;rw [if_neg hv];rfl
 rw [h0];split<;>rfl
def sgn (neg:Bool) (n:Nat):Int:=if neg then -(n:Int) else n
theorem x5x (neg:Bool) (n:Nat):(sgn neg n).natAbs=n:=by unfold sgn;split<;>omega
theorem x9u (neg:Bool) (n:Nat):decide (sgn neg n<0)=(neg && decide (0<n)):=by
 unfold sgn
 cases neg with
 | false=>simp only [Bool.false_eq_true,if_false,Bool.false_and];exact zF9
 | true=>simp only [if_true,Bool.true_and];rw [decide_eq_decide];omega
theorem x70 (z:Int):sgn (decide (z<0)) z.natAbs=z:=by
 unfold sgn
 by_cases h:z<0
 ·rw [if_pos (decide_eq_true h)];omega
 ·rw [if_neg (by simpa using h)];omega
theorem w1X (z:Int):sgn (!decide (z<0)) z.natAbs = -z:=by
 unfold sgn
 by_cases h:z<0
 ·rw [if_neg (by simp [h])];omega
 ·rw [if_pos (by simp [h])];omega
theorem y7X {x y:Int} (h:decide (x<0)=decide (y<0)):sgn (decide (x<0)) (x.natAbs+y.natAbs)=x+y:=by
 rw [decide_eq_decide] at h
 unfold sgn
 by_cases hx:x<0
 ·rw [if_pos (decide_eq_true hx)];have:=h.1 hx;omega
 ·rw [if_neg (by simpa using hx)];have:¬y<0:=fun k=>hx (h.2 k);omega
theorem y1Y {x y:Int} (h:¬decide (x<0)=decide (y<0)) (hle:y.natAbs≤x.natAbs):sgn (decide (x<0)) (x.natAbs - y.natAbs)=x+y:=by
 rw [decide_eq_decide] at h
 unfold sgn
 by_cases hx:x<0
 ·rw [if_pos (decide_eq_true hx)];have:¬y<0:=fun k=>h ⟨fun _=>k,fun _=>hx⟩;omega
 ·rw [if_neg (by simpa using hx)];have:y<0:=by
   rcases Int.lt_or_le y 0 with k|k
   ·exact k
   ·exact absurd (show x<0↔y<0 from ⟨fun a=>absurd a hx,fun a=>absurd a (by omega)⟩) h
  omega
theorem y3G {x y:Int} (h:¬decide (x<0)=decide (y<0)) (hle:¬y.natAbs≤x.natAbs):sgn (decide (y<0)) (y.natAbs - x.natAbs)=x+y:=by
 have:=y1Y (x:=y) (y:=x) (fun k=>h k.symm) (by omega)
 rw [this,Int.add_comm]
theorem x4G (x y:Int):sgn (!(decide (x<0) == decide (y<0))) (x.natAbs*y.natAbs)=x*y:=by
 have hxy:=Int.natAbs_mul x y
 unfold sgn
 by_cases hx:x<0<;>by_cases hy:y<0
 ·have h:=Int.mul_pos_of_neg_of_neg hx hy
  simp [hx,hy];rw [←Int.natCast_mul,←hxy];omega
 ·have h:x*y≤0:=Int.mul_nonpos_of_nonpos_of_nonneg (by omega) (by omega)
  simp [hx,hy];rw [←Int.natCast_mul,←hxy];omega
 ·have h:x*y≤0:=Int.mul_nonpos_of_nonneg_of_nonpos (by omega) (by omega)
  simp [hx,hy];rw [←Int.natCast_mul,←hxy];omega
 ·have h:0≤x*y:=Int.mul_nonneg (by omega) (by omega)
  simp [hx,hy];rw [←Int.natCast_mul,←hxy];omega
theorem x72 {z:Int}:(limbs z.natAbs).length=0↔z=0:=by
 constructor
 ·intro h
  have:=z1n.1 (List.eq_nil_of_length_eq_zero h)
  omega
 ·rintro rfl;rw [show (0:Int).natAbs=0 from rfl,z0s];rfl
theorem y4k {x y q r:Int} (h:x=q*y+r) (h0:0≤r) (h1:r<y.natAbs):q=x / y∧r=x % y:=by
 have h2:r+y*q=x:=by rw [h,Int.mul_comm y q,Int.add_comm]
 rcases Int.lt_or_le 0 y with hy|hy
 ·have:=(Int.ediv_emod_unique hy).2 ⟨h2,h0,by omega⟩
  exact ⟨this.1.symm,this.2.symm⟩
 ·have:=(Int.ediv_emod_unique' (show y<0 by omega)).2 ⟨h2,h0,by omega⟩
  exact ⟨this.1.symm,this.2.symm⟩
theorem x9c (neg:Bool) (a:List Nat):(iv neg a).natAbs=vn a:=by unfold iv;split<;>omega
theorem z3v {a:List Nat} (la:lim a) (neg:Bool):(limbs (iv neg a).natAbs).length≤a.length:=by
 rw [x9c,←z3C la];exact y7M a
def w53 (x y:Int):Int:=if y=0 then 0 else x % y
theorem x5y (x y:Int) (n:Nat):sgn (!(decide (x<0) == decide (y<0))) n*y=sgn (decide (x<0)) (n*y.natAbs):=by
 obtain ⟨K,hK⟩:∃K:Nat,K=y.natAbs:=⟨_,rfl⟩
 rw [←hK]
 by_cases h1:x<0<;>by_cases h2:y<0
 ·have e:y = -(K:Int):=by omega
  simp only [h1,h2,decide_true]
  rw [e];show ((n:Int)) * -(K:Int) = -((n*K:Nat):Int)
  rw [Int.mul_neg,Int.natCast_mul]
 ·have e:y=(K:Int):=by omega
  simp only [h1,h2,decide_true,decide_false]
  rw [e];show (-(n:Int))*(K:Int) = -((n*K:Nat):Int)
  rw [Int.neg_mul,Int.natCast_mul]
 ·have e:y = -(K:Int):=by omega
  simp only [h1,h2,decide_true,decide_false]
  rw [e];show (-(n:Int)) * -(K:Int)=((n*K:Nat):Int)
  rw [Int.neg_mul,Int.mul_neg,Int.neg_neg,Int.natCast_mul]
 ·have e:y=(K:Int):=by omega
  simp only [h1,h2,decide_false]
  rw [e];show ((n:Int))*(K:Int)=((n*K:Nat):Int)
  rw [Int.natCast_mul]
theorem w1W (b:Bool) (m n:Nat):sgn b (m+n)=sgn b m+sgn b n:=by unfold sgn;split<;>omega
theorem x2C (x y:Int) (hy:y≠0) (hx:¬(x<0∧0<x.natAbs % y.natAbs)):sgn (!(decide (x<0) == decide (y<0))) (x.natAbs / y.natAbs)=x / y∧sgn false (x.natAbs % y.natAbs)=x % y:=by
 have h0:0<y.natAbs:=by omega
 have hm:=Nat.mod_lt x.natAbs h0
 have hd:=Nat.div_add_mod' x.natAbs y.natAbs
 have hs:=x70 x
 rw [←hd,w1W,←x5y] at hs
 have hr:sgn (decide (x<0)) (x.natAbs % y.natAbs)=sgn false (x.natAbs % y.natAbs):=by
  by_cases h1:x<0
  ·have hz:x.natAbs % y.natAbs=0:=by
    rcases Nat.eq_zero_or_pos (x.natAbs % y.natAbs) with e|e
    ·exact e
    ·exact absurd ⟨h1,e⟩ hx
   rw [hz];unfold sgn;split<;>rfl
  ·rw [decide_eq_false h1]
 rw [hr] at hs
 exact y4k hs.symm (Int.natCast_nonneg _) (by show ((x.natAbs % y.natAbs:Nat):Int)<_;omega)
theorem x93 (x y:Int) (hy:y≠0) (h1:x<0) (h2:0<x.natAbs % y.natAbs):sgn (!(decide (x<0) == decide (y<0))) (x.natAbs / y.natAbs+1)=x / y∧sgn false (y.natAbs - x.natAbs % y.natAbs)=x % y:=by
 have h0:0<y.natAbs:=by omega
 have hm:=Nat.mod_lt x.natAbs h0
 have hd:=Nat.div_add_mod' x.natAbs y.natAbs
 have hq:=x5y x y (x.natAbs / y.natAbs+1)
 rw [Nat.add_mul,Nat.one_mul] at hq
 refine y4k ?_ (Int.natCast_nonneg _) (by show ((y.natAbs - x.natAbs % y.natAbs:Nat):Int)<_;omega)
 rw [hq]
 show x=sgn (decide (x<0)) (x.natAbs / y.natAbs*y.natAbs+y.natAbs)+((y.natAbs - x.natAbs % y.natAbs:Nat):Int)
 rw [decide_eq_true h1]
 show x = -((x.natAbs / y.natAbs*y.natAbs+y.natAbs:Nat):Int)+((y.natAbs - x.natAbs % y.natAbs:Nat):Int)
 generalize x.natAbs % y.natAbs=m at *
 generalize x.natAbs / y.natAbs*y.natAbs=t at *
 omega
theorem z1E {a:List Nat} (la:lim a) (h:vld a=true):limbs (vn a)=a:=by rw [vn,val,if_pos h];exact z78 la h
theorem x4y:limbs 1=[1]:=z5Z (by decide) (by decide)
theorem vnl {a:List Nat} (hl:lim a):(limbs (vn a)).length≤a.length:=by
 rw [←z3C hl];exact y7M a
def dn (d:Nat):List Nat:=if d=1 then [] else limbs d
def Q (r:Rat):DV:=.agg [.bool (decide (r.num<0)),.sl 1 (us (limbs r.num.natAbs)),.sl 1 (us (dn r.den))]
def XQ (neg:Bool) (a d:List Nat):DV:=.agg [.bool neg,.sl 1 (us a),.sl 1 (us d)]
def z5p (neg:Bool) (a d:List Nat):Bool:=y3u neg a && vld d && (decide (d.length=0) || (decide (0<a.length) && decide (¬vn d=1) && decide (1=Nat.gcd (vn a) (vn d))))
def rv (neg:Bool) (a d:List Nat):Rat:=if z5p neg a d then mkRat (iv neg a) (if d.length=0 then 1 else vn d) else 0
theorem z2U (d:Nat):lim (dn d):=by unfold dn;split;exact z1o;exact z0e _
theorem x9B (d:Nat):vld (dn d)=true:=by unfold dn;split;rfl;exact z6i _
theorem y8A (d:Nat):(dn d).length≤(limbs d).length:=by unfold dn;split;simp;exact Nat.le_refl _
theorem y02:dn 1=[]:=rfl
theorem z6x {d:Nat} (h:d≠0):(dn d).length=0↔d=1:=by
 unfold dn
 by_cases h1:d=1
 ·rw [if_pos h1];simp [h1]
 ·rw [if_neg h1]
  constructor
  ·intro e;exact absurd (z1n.1 (List.eq_nil_of_length_eq_zero e)) h
  ·intro e;exact absurd e h1
theorem w5r {d:Nat} (h:d≠1):vn (dn d)=d:=by unfold dn;rw [if_neg h,z0x]
theorem x5T (r:Rat):z5p (decide (r.num<0)) (limbs r.num.natAbs) (dn r.den)=true:=by
 unfold z5p
 rw [w5p,x9B,Bool.true_and,Bool.true_and]
 by_cases h1:r.den=1
 ·rw [h1,y02];rfl
 ·have h0:0<r.num.natAbs:=by
   rcases Nat.eq_zero_or_pos r.num.natAbs with e|e
   ·exfalso
    have:=r.reduced
    rw [e,Nat.coprime_zero_left] at this
    exact h1 this
   ·exact e
  rw [w5r h1,z0x,decide_eq_true (z4I.2 h0),decide_eq_true (show ¬r.den=1 from h1),decide_eq_true (show 1=Nat.gcd r.num.natAbs r.den from (show Nat.gcd r.num.natAbs r.den=1 from r.reduced).symm)]
  simp
theorem x1Y (r:Rat):rv (decide (r.num<0)) (limbs r.num.natAbs) (dn r.den)=r:=by
 unfold rv
 rw [x5T,if_pos rfl,y4T]
 by_cases h1:r.den=1
 ·rw [h1,y02,if_pos (show ([]:List Nat).length=0 from rfl)]
  have:=Rat.mkRat_self r
  rwa [h1] at this
 ·rw [if_neg (fun e=>h1 ((z6x r.den_nz).1 e)),w5r h1,Rat.mkRat_self]
theorem y9U {neg:Bool} {a d:List Nat} (h:z5p neg a d=false):rv neg a d=0:=by unfold rv;rw [h];rfl
theorem y3b {neg:Bool} {a d:List Nat} (ld:lim d) (h:z5p neg a d=true):(rv neg a d).num=iv neg a∧(rv neg a d).den=(if d.length=0 then 1 else vn d):=by
 unfold rv
 rw [h,if_pos rfl]
 by_cases h0:d.length=0
 ·rw [if_pos h0]
  rw [Rat.num_mkRat,Rat.den_mkRat]
  simp
 ·rw [if_neg h0]
  have hv:=h
  unfold z5p at hv
  simp only [Bool.and_eq_true,Bool.or_eq_true,decide_eq_true_eq,h0,false_or] at hv
  obtain ⟨⟨_,hd⟩,⟨h1,h2⟩,h3⟩:=hv
  replace h3:=h3.symm
  have hne:vn d≠0:=by
   intro e
   rw [e,Nat.gcd_zero_right] at h3
   have:vn d≠0:=by
    have hl:=z1E ld hd
    intro e2
    rw [e2,z0s] at hl
    rw [←hl] at h0
    exact h0 rfl
   exact this e
  rw [Rat.num_mkRat,Rat.den_mkRat,if_neg hne,if_neg hne,x9c,Nat.gcd_comm,h3]
  simp
theorem w65 {neg:Bool} {a d:List Nat} (la:lim a) (ld:lim d) (h:z5p neg a d=true):XQ neg a d=Q (rv neg a d):=by
 obtain ⟨h1,h2⟩:=y3b ld h
 have hv:=h
 unfold z5p at hv
 simp only [Bool.and_eq_true] at hv
 obtain ⟨⟨hi,hd⟩,h3⟩:=hv
 have hx:=X_I la hi
 unfold X I at hx
 injection hx with hx
 injection hx with e1 hx
 injection hx with e2 _
 unfold XQ Q
 rw [h1,h2,e1,e2]
 have e3:dn (if d.length=0 then 1 else vn d)=d:=by
  by_cases h0:d.length=0
  ·rw [if_pos h0,y02,List.eq_nil_of_length_eq_zero h0]
  ·rw [if_neg h0]
   simp only [Bool.or_eq_true,Bool.and_eq_true,decide_eq_true_eq,h0,false_or] at h3
   unfold dn
   rw [if_neg h3.1.2]
   exact z1E ld hd
 rw [e3]
theorem w45 (neg:Bool) (a d:List Nat) (ld:lim d):(limbs (rv neg a d).den).length≤max 1 d.length:=by
 by_cases h:z5p neg a d=true
 ·rw [(y3b ld h).2]
  by_cases h0:d.length=0
  ·rw [if_pos h0,x4y];simp;omega
  ·rw [if_neg h0];exact Nat.le_trans (vnl ld) (by omega)
 ·rw [y9U (by simpa using h),show (0:Rat).den=1 from rfl,x4y];simp;omega
theorem w46 (neg:Bool) (a d:List Nat) (la:lim a) (ld:lim d):(limbs (rv neg a d).num.natAbs).length≤a.length:=by
 by_cases h:z5p neg a d=true
 ·rw [(y3b ld h).1];exact z3v la neg
 ·rw [y9U (by simpa using h),show (0:Rat).num.natAbs=0 from rfl,z0s];simp
theorem y8D {z:Int} {g:Nat} (h:(g:Int)∣z) (hg:0<g):(z / (g:Int)).natAbs=z.natAbs / g∧decide (z / (g:Int)<0)=decide (z<0):=by
 obtain ⟨c,rfl⟩:=h
 have hg':(0:Int)<g:=by omega
 rw [Int.mul_ediv_cancel_left _ (by omega),Int.natAbs_mul,Int.natAbs_natCast,Nat.mul_div_cancel_left _ hg]
 refine ⟨rfl,?_⟩
 rw [decide_eq_decide]
 constructor
 ·intro hc;exact Int.mul_neg_of_pos_of_neg hg' hc
 ·intro hc
  rcases Int.lt_or_le c 0 with k|k
  ·exact k
  ·have:=Int.mul_nonneg (Int.le_of_lt hg') k;omega
theorem w5K (z:Int) (d:Nat) (h:d≠0):Q (mkRat z d)=.agg [.bool (decide (z<0)),.sl 1 (us (limbs (z.natAbs / Nat.gcd z.natAbs d))),.sl 1 (us (dn (d / Nat.gcd z.natAbs d)))]:=by
 have hg:0<Nat.gcd z.natAbs d:=Nat.gcd_pos_of_pos_right _ (Nat.pos_of_ne_zero h)
 have hd:((Nat.gcd z.natAbs d:Nat):Int)∣z:=by
  have:=Nat.gcd_dvd_left z.natAbs d
  exact Int.ofNat_dvd_left.2 this
 obtain ⟨e1,e2⟩:=y8D hd hg
 unfold Q
 rw [Rat.num_mkRat,Rat.den_mkRat,if_neg h,if_neg h,Nat.gcd_comm d,e1,e2]
theorem x17 (z:Int):Q (z:Rat)=.agg [.bool (decide (z<0)),.sl 1 (us (limbs z.natAbs)),.sl 1 []]:=by
 unfold Q
 rw [Rat.num_intCast,Rat.den_intCast,y02,x5O]
theorem Q0:Q 0=.agg [.bool false,.sl 1 [],.sl 1 []]:=by
 have:=x17 0
 rw [show ((0:Int):Rat)=0 from rfl,show (0:Int).natAbs=0 from rfl,z0s,x5O] at this
 exact this
theorem z6w (z:Int) {e:Int} (h:0<e):Rat.divInt z e=mkRat z e.natAbs:=by
 obtain ⟨n,rfl⟩:=Int.eq_ofNat_of_zero_le (Int.le_of_lt h)
 exact Rat.divInt_ofNat z n
theorem y01 (z:Int) {e:Int} (h:e<0):Rat.divInt z e=mkRat (-z) e.natAbs:=by
 rw [←Rat.neg_divInt_neg,z6w _ (by omega),Int.natAbs_neg]
theorem x4W (x y:Rat):Rat.divInt (x.num*y.den) (x.den*y.num)=x / y:=by
 rw [Rat.div_def,Rat.inv_def]
 conv=>rhs;rw [←Rat.num_divInt_den x]
 rw [Rat.divInt_mul_divInt]
theorem x7o {x y:Rat} (hx:x.den=1) (hy:y.den=1):x+y=((x.num+y.num:Int):Rat):=by
 rw [Rat.add_def',hx,hy]
 simp [Rat.mkRat_one]
theorem x7p {x y:Rat} (hx:x.den=1) (hy:y.den=1):x*y=((x.num*y.num:Int):Rat):=by
 rw [Rat.mul_def',hx,hy]
 simp [Rat.mkRat_one]
def RB (r:Rat) (m:Nat):Prop:=(limbs r.num.natAbs).length≤m∧(limbs r.den).length≤m
theorem RB.mono {r:Rat} {m n:Nat} (h:RB r m) (hm:m≤n):RB r n:=⟨Nat.le_trans h.1 hm,Nat.le_trans h.2 hm⟩
theorem z5b {neg:Bool} {a d:List Nat} {m:Nat} (la:lim a) (ld:lim d) (ha:a.length≤m) (hd:d.length≤m) (hm:1≤m):RB (rv neg a d) m :=
 ⟨Nat.le_trans (w46 neg a d la ld) ha,Nat.le_trans (w45 neg a d ld) (by omega)⟩
end Nat32
namespace Nat32
def z1K:Nat→(Nat→Rat)→Rat
 | 0,_=>0
 | n+1,f=>z1K n f+f n
theorem z0H {n:Nat} {f g:Nat→Rat} (h:∀i,i<n→f i=g i):z1K n f=z1K n g:=by
 induction n with
 | zero=>rfl
 | succ n ih=>rw [z1K,z1K,ih fun i hi=>h i (by omega),h n (by omega)]
theorem z3A {n:Nat} {f:Nat→Rat} (h:∀i,i<n→f i=0):z1K n f=0:=by
 induction n with
 | zero=>rfl
 | succ n ih=>rw [z1K,ih fun i hi=>h i (by omega),h n (by omega),Rat.add_zero]
theorem z6e (n:Nat) (f g:Nat→Rat):z1K n (fun i=>f i+g i)=z1K n f+z1K n g:=by
 induction n with
 | zero=>exact (Rat.add_zero 0).symm
 | succ n ih =>
  simp only [z1K]
  rw [ih]
  grind
theorem z3V (n:Nat) (c:Rat) (f:Nat→Rat):z1K n (fun i=>c*f i)=c*z1K n f:=by
 induction n with
 | zero=>simp [z1K]
 | succ n ih=>simp only [z1K];rw [ih,Rat.mul_add]
theorem z1U {n k:Nat} (hk:k<n) {f:Nat→Rat} (h:∀i,i<n→i≠k→f i=0):z1K n f=f k:=by
 induction n with
 | zero=>omega
 | succ n ih =>
  rw [z1K]
  by_cases e:k=n
  ·subst e
   rw [z3A fun i hi=>h i (by omega) (by omega),Rat.zero_add]
  ·rw [ih (by omega) fun i hi hne=>h i (by omega) hne,h n (by omega) (fun e'=>e e'.symm),Rat.add_zero]
theorem z9Z (n m:Nat) (f:Nat→Nat→Rat):z1K n (fun i=>z1K m fun j=>f i j)=z1K m fun j=>z1K n fun i=>f i j:=by
 induction n with
 | zero=>exact (z3A (f:=fun j=>z1K 0 fun i=>f i j) fun j _=>rfl).symm
 | succ n ih =>
  simp only [z1K]
  rw [ih,z6e]
abbrev Mt:=Nat→Nat→Rat
def Ker (n k:Nat) (M:Mt) (c:Nat→Rat):Prop:=∀i,i<n→z1K k (fun j=>M i j*c j)=0
def z14 (n k:Nat) (M M':Mt):Prop:=∀c,Ker n k M c↔Ker n k M' c
theorem z14.refl (n k:Nat) (M:Mt):z14 n k M M:=fun _=>Iff.rfl
theorem z14.trans {n k:Nat} {A B C:Mt} (h:z14 n k A B) (h':z14 n k B C):z14 n k A C:=fun c=>(h c).trans (h' c)
theorem z14.symm {n k:Nat} {A B:Mt} (h:z14 n k A B):z14 n k B A:=fun c=>(h c).symm
theorem x0c {n k a b:Nat} (ha:a<n) (hb:b<n) {M M':Mt} (h1:∀j,j<k→M' a j=M b j) (h2:∀j,j<k→M' b j=M a j) (h3:∀i,i<n→i≠a→i≠b→∀j,j<k→M' i j=M i j):z14 n k M M':=fun c=>by
 have e1:z1K k (fun j=>M' a j*c j)=z1K k (fun j=>M b j*c j):=z0H fun j hj=>by rw [h1 j hj]
 have e2:z1K k (fun j=>M' b j*c j)=z1K k (fun j=>M a j*c j):=z0H fun j hj=>by rw [h2 j hj]
 have e3:∀i,i<n→i≠a→i≠b→z1K k (fun j=>M' i j*c j)=z1K k (fun j=>M i j*c j):=fun i hi g1 g2=>z0H fun j hj=>by rw [h3 i hi g1 g2 j hj]
 unfold Ker
 constructor
 ·intro g i hi
  by_cases g1:i=a
  ·rw [g1,e1];exact g b hb
  ·by_cases g2:i=b
   ·rw [g2,e2];exact g a ha
   ·rw [e3 i hi g1 g2];exact g i hi
 ·intro g i hi
  by_cases g1:i=a
  ·rw [g1,←e2];exact g b hb
  ·by_cases g2:i=b
   ·rw [g2,←e1];exact g a ha
   ·rw [←e3 i hi g1 g2];exact g i hi
theorem x15 {n k t:Nat} (ht:t<n) {M M':Mt} {q:Rat} (hq:q≠0) (f:Nat→Rat) (h1:∀j,j<k→M' t j=q*M t j) (h2:∀i,i<n→i≠t→∀j,j<k→M' i j=M i j+f i*M t j):z14 n k M M':=fun c=>by
 have e1:z1K k (fun j=>M' t j*c j)=q*z1K k (fun j=>M t j*c j):=by
  rw [←z3V]
  exact z0H fun j hj=>by rw [h1 j hj];grind
 have e2:∀i,i<n→i≠t→z1K k (fun j=>M' i j*c j)=z1K k (fun j=>M i j*c j)+f i*z1K k (fun j=>M t j*c j):=fun i hi g=>by
  rw [←z3V,←z6e]
  exact z0H fun j hj=>by rw [h2 i hi g j hj];grind
 unfold Ker
 constructor
 ·intro g i hi
  by_cases g1:i=t
  ·rw [g1,e1,g t ht,Rat.mul_zero]
  ·rw [e2 i hi g1,g i hi,g t ht];grind
 ·intro g i hi
  have ht0:z1K k (fun j=>M t j*c j)=0:=by
   have:=g t ht
   rw [e1] at this
   rcases Rat.mul_eq_zero.1 this with h|h
   ·exact absurd h hq
   ·exact h
  by_cases g1:i=t
  ·rw [g1];exact ht0
  ·have:=g i hi
   rw [e2 i hi g1,ht0] at this
   grind
structure IsRp (n k j:Nat) (R:Mt) (ps:List Nat):Prop where
 inc:∀a b,a<b→b<ps.length→ps.getD a 0<ps.getD b 0
 lt:∀a,a<ps.length→ps.getD a 0<j
 len:ps.length≤n
 one:∀a,a<ps.length→R a (ps.getD a 0)=1
 col:∀a,a<ps.length→∀i,i<n→i≠a→R i (ps.getD a 0)=0
 left:∀a,a<ps.length→∀c,c<ps.getD a 0→R a c=0
 down:∀i,ps.length≤i→i<n→∀c,c<j→R i c=0
abbrev IsR (n k:Nat) (R:Mt) (ps:List Nat):Prop:=IsRp n k k R ps
theorem IsRp.nil (n k:Nat) (R:Mt):IsRp n k 0 R []:=by
 refine ⟨?_,?_,Nat.zero_le _,?_,?_,?_,?_⟩
 ·intro a b _ h;cases h
 ·intro a h;cases h
 ·intro a h;cases h
 ·intro a h;cases h
 ·intro a h;cases h
 ·intro i _ _ c h;cases h
theorem IsRp.skip {n k j:Nat} {R:Mt} {ps:List Nat} (h:IsRp n k j R ps) (h0:∀i,ps.length≤i→i<n→R i j=0):IsRp n k (j+1) R ps :=
 ⟨h.inc,fun a ha=>Nat.lt_succ_of_lt (h.lt a ha),h.len,h.one,h.col,h.left,fun i h1 h2 c hc=>by
  rcases Nat.lt_or_ge c j with g|g
  ·exact h.down i h1 h2 c g
  ·obtain rfl:c=j:=by omega
   exact h0 i h1 h2⟩
theorem z1C {ps:List Nat} {a p:Nat} (h:a<ps.length):(ps++[p]).getD a 0=ps.getD a 0:=by
 rw [zO1,List.getElem?_append_left h,zO1]
theorem z2x (ps:List Nat) (p:Nat):(ps++[p]).getD ps.length 0=p:=by
 rw [zO1,List.getElem?_append_right (Nat.le_refl _),Nat.sub_self];rfl
theorem IsRp.step {n k j:Nat} (hj:j<k) {R R':Mt} {ps:List Nat} (h:IsRp n k j R ps) (hn:ps.length<n) (h1:R' ps.length j=1) (h2:∀i,i<n→i≠ps.length→R' i j=0)
  (h3:∀i,i<n→∀c,c<j→R' i c=R i c):IsRp n k (j+1) R' (ps++[j]):=by
 have hl:(ps++[j]).length=ps.length+1:=by simp
 refine ⟨fun a b hab hb=>?_,fun a ha=>?_,by omega,fun a ha=>?_,fun a ha i hi hne=>?_,fun a ha c hc=>?_,fun i g1 g2 c hc=>?_⟩
 ·rw [hl] at hb
  by_cases e:b=ps.length
  ·rw [e,z2x,z1C (by omega)];exact h.lt a (by omega)
  ·rw [z1C (by omega),z1C (by omega)];exact h.inc a b hab (by omega)
 ·rw [hl] at ha
  by_cases e:a=ps.length
  ·rw [e,z2x];omega
  ·rw [z1C (by omega)];have:=h.lt a (by omega);omega
 ·rw [hl] at ha
  by_cases e:a=ps.length
  ·rw [e,z2x];exact h1
  ·rw [z1C (by omega),h3 a (by omega) _ (h.lt a (by omega))];exact h.one a (by omega)
 ·rw [hl] at ha
  by_cases e:a=ps.length
  ·rw [e,z2x];exact h2 i hi (by omega)
  ·rw [z1C (by omega),h3 i hi _ (h.lt a (by omega))];exact h.col a (by omega) i hi hne
 ·rw [hl] at ha
  by_cases e:a=ps.length
  ·rw [e,z2x] at hc
   rw [e,h3 _ hn c hc];exact h.down _ (Nat.le_refl _) hn c hc
  ·rw [z1C (by omega)] at hc
   have:=h.lt a (by omega)
   rw [h3 a (by omega) c (by omega)];exact h.left a (by omega) c hc
 ·rw [hl] at g1
  rcases Nat.lt_or_ge c j with g|g
  ·rw [h3 i g2 c g];exact h.down i (by omega) g2 c g
  ·obtain rfl:c=j:=by omega
   exact h2 i g2 (by omega)
def Dep (n k:Nat) (M:Mt) (j:Nat):Prop:=∃c:Nat→Rat,Ker n k M c∧c j = -1∧∀i,j<i→c i=0
def y52 (R:Mt) (ps:List Nat) (j:Nat) (i:Nat):Rat:=if i=j then -1 else if ps.contains i then R (ps.idxOf i) j else 0
theorem z6M {ps:List Nat} {a:Nat} (hinc:∀a b,a<b→b<ps.length→ps.getD a 0<ps.getD b 0) (h:a<ps.length):ps.idxOf (ps.getD a 0)=a:=by
 have hg:∀b,b<ps.length→ps.getD b 0=ps[b]?.getD 0:=fun b _=>zO1 ..
 have hm:ps.getD a 0∈ps:=by
  rw [zO1,zO4 h];exact List.getElem_mem h
 have h1:=List.idxOf_lt_length_iff.2 hm
 have h2:ps.getD (ps.idxOf (ps.getD a 0)) 0=ps.getD a 0:=by
  rw [zO1,zO4 h1]
  exact List.getElem_idxOf h1
 rcases Nat.lt_trichotomy (ps.idxOf (ps.getD a 0)) a with g|g|g
 ·have:=hinc _ _ g h;omega
 ·exact g
 ·have:=hinc _ _ g h1;omega
theorem z48 {ps:List Nat} {i:Nat} (h:i∈ps):∃a,a<ps.length∧ps.getD a 0=i:=by
 obtain ⟨a,ha,e⟩:=List.getElem_of_mem h
 exact ⟨a,ha,by rw [zO1,zO4 ha];exact e⟩
theorem z4u {ps:List Nat} {a:Nat} (h:a<ps.length):ps.getD a 0∈ps:=by
 rw [zO1,zO4 h];exact List.getElem_mem h
theorem IsRp.sum_rel {n k j0 j:Nat} {R:Mt} {ps:List Nat} (h:IsRp n k j0 R ps) (hk:j0≤k) (hj:j<k) (hnp:j∉ps) (i:Nat) (hi:i<ps.length):z1K k (fun c=>R i c*y52 R ps j c)=0:=by
 have hp:=h.lt i hi
 have hne:ps.getD i 0≠j:=fun e=>hnp (e ▸ z4u hi)
 have key:∀c,c<k→R i c*y52 R ps j c=(if c=j then -(R i j) else 0)+(if c=ps.getD i 0 then R i j else 0):=fun c _=>by
  unfold y52
  by_cases e1:c=j
  ·subst e1
   rw [if_pos rfl,if_pos rfl,if_neg (Ne.symm hne)];grind
  ·rw [if_neg e1,if_neg e1]
   by_cases e2:c∈ps
   ·obtain ⟨a,ha,rfl⟩:=z48 e2
    rw [if_pos (by simpa using e2),z6M h.inc ha]
    by_cases e3:a=i
    ·subst e3
     rw [if_pos rfl,h.one a ha];grind
    ·rw [h.col a ha i (by have:=h.len;omega) (fun e=>e3 e.symm)]
     have hneq:ps.getD a 0≠ps.getD i 0:=fun e=>by
      rcases Nat.lt_or_ge a i with g|g
      ·have:=h.inc a i g hi;omega
      ·have:=h.inc i a (by omega) ha;omega
     rw [if_neg hneq];grind
   ·rw [if_neg (by simpa using e2),if_neg (fun e=>e2 (by rw [e];exact z4u hi))];grind
 rw [z0H key,z6e]
 rw [z1U (k:=j) hj (fun c _ hc=>by rw [if_neg hc]),if_pos rfl,z1U (k:=ps.getD i 0) (by omega) (fun c _ hc=>by rw [if_neg hc]),if_pos rfl]
 grind
theorem IsR.rel {n k j:Nat} {R:Mt} {ps:List Nat} (h:IsR n k R ps) (hj:j<k) (hnp:j∉ps):Ker n k R (y52 R ps j):=fun i hi=>by
 rcases Nat.lt_or_ge i ps.length with g|g
 ·exact h.sum_rel (Nat.le_refl _) hj hnp i g
 ·exact z3A fun c hc=>by rw [h.down i g hi c hc];grind
theorem IsR.dep {n k j:Nat} {R:Mt} {ps:List Nat} (h:IsR n k R ps) (hj:j<k):Dep n k R j↔j∉ps:=by
 constructor
 ·rintro ⟨c,hc,h1,h2⟩ hm
  obtain ⟨a,ha,rfl⟩:=z48 hm
  have hs:=hc a (by have:=h.len;omega)
  rw [z1U (k:=ps.getD a 0) hj (fun i hi hne=>?_),h.one a ha,h1] at hs
  ·exact absurd hs (by grind)
  ·rcases Nat.lt_or_ge i (ps.getD a 0) with g|g
   ·rw [h.left a ha i g];grind
   ·rw [h2 i (by omega)];grind
 ·intro hnp
  refine ⟨y52 R ps j,h.rel hj hnp,by unfold y52;rw [if_pos rfl],fun i hi=>?_⟩
  unfold y52
  rw [if_neg (by omega)]
  split
  ·rename_i hm
   obtain ⟨a,ha,rfl⟩:=z48 (show i∈ps by simpa using hm)
   rw [z6M h.inc ha,h.left a ha j hi]
  ·rfl
theorem Dep.congr {n k:Nat} {A B:Mt} (h:z14 n k A B) (j:Nat):Dep n k A j↔Dep n k B j :=
 ⟨fun ⟨c,h1,h2,h3⟩=>⟨c,(h c).1 h1,h2,h3⟩,fun ⟨c,h1,h2,h3⟩=>⟨c,(h c).2 h1,h2,h3⟩⟩
theorem y2w:∀{l l':List Nat},l.Pairwise (·<·)→l'.Pairwise (·<·)→(∀x,x∈l↔x∈l')→l=l'
 | [],[],_,_,_=>rfl
 | [],b::l',_,_,h=>by have:=(h b).2 List.mem_cons_self;cases this
 | a::l,[],_,_,h=>by have:=(h a).1 List.mem_cons_self;cases this
 | a::l,b::l',h1,h2,h=>by
  rw [List.pairwise_cons] at h1 h2
  have e:a=b:=by
   rcases List.mem_cons.1 ((h a).1 List.mem_cons_self) with e|g
   ·exact e
   ·rcases List.mem_cons.1 ((h b).2 List.mem_cons_self) with e|g'
    ·exact e.symm
    ·have:=h2.1 a g;have:=h1.1 b g';omega
  subst e
  rw [y2w h1.2 h2.2 fun x=>?_]
  constructor
  ·intro hx
   have hlt:=h1.1 x hx
   rcases List.mem_cons.1 ((h x).1 (List.mem_cons_of_mem _ hx)) with e|g
   ·omega
   ·exact g
  ·intro hx
   have hlt:=h2.1 x hx
   rcases List.mem_cons.1 ((h x).2 (List.mem_cons_of_mem _ hx)) with e|g
   ·omega
   ·exact g
theorem y4L {ps:List Nat} (hinc:∀a b,a<b→b<ps.length→ps.getD a 0<ps.getD b 0):ps.Pairwise (·<·):=by
 rw [List.pairwise_iff_getElem]
 intro i j hi hj hij
 have:=hinc i j hij hj
 rwa [zO1,zO4 hi,zO1,zO4 hj] at this
theorem IsR.mem {n k j:Nat} {R:Mt} {ps:List Nat} (h:IsR n k R ps):j∈ps↔j<k∧¬Dep n k R j:=by
 constructor
 ·intro hm
  obtain ⟨a,ha,e⟩:=z48 hm
  have hj:j<k:=by rw [←e];exact h.lt a ha
  exact ⟨hj,fun hd=>(h.dep hj).1 hd hm⟩
 ·rintro ⟨hj,hd⟩
  exact Classical.byContradiction fun hm=>hd ((h.dep hj).2 hm)
theorem IsR.pivots {n k n':Nat} {A B:Mt} {ps qs:List Nat} (hA:IsR n k A ps) (hB:IsR n' k B qs) (h:∀j,j<k→(Dep n k A j↔Dep n' k B j)):ps=qs :=
 y2w (y4L hA.inc) (y4L hB.inc) fun x=>by
  rw [hA.mem,hB.mem]
  constructor
  ·rintro ⟨h1,h2⟩;exact ⟨h1,fun g=>h2 ((h x h1).2 g)⟩
  ·rintro ⟨h1,h2⟩;exact ⟨h1,fun g=>h2 ((h x h1).1 g)⟩
theorem x9b {ps:List Nat} (hinc:∀a b,a<b→b<ps.length→ps.getD a 0<ps.getD b 0) {a b:Nat} (ha:a<ps.length) (hb:b<ps.length) (h:a≠b):ps.getD a 0≠ps.getD b 0:=fun e=>by
 rcases Nat.lt_or_ge a b with g|g
 ·have:=hinc a b g hb;omega
 ·have:=hinc b a (by omega) ha;omega
theorem IsR.row_sum {n k j:Nat} {R:Mt} {ps:List Nat} (h:IsR n k R ps) (hj:j<k) (hnp:j∉ps) {v:Nat→Rat} (h0:∀c,c<k→c≠j→c∉ps→v c=0) (h1:v j = -1) {i:Nat} (hi:i<ps.length) :
  z1K k (fun c=>R i c*v c)=v (ps.getD i 0) - R i j:=by
 have hp:=h.lt i hi
 have hne:ps.getD i 0≠j:=fun e=>hnp (e ▸ z4u hi)
 have key:∀c,c<k→R i c*v c=(if c=j then -(R i j) else 0)+(if c=ps.getD i 0 then v (ps.getD i 0) else 0):=fun c hc=>by
  by_cases e1:c=j
  ·subst e1
   rw [if_pos rfl,if_neg (Ne.symm hne),h1];grind
  ·rw [if_neg e1]
   by_cases e2:c∈ps
   ·obtain ⟨a,ha,rfl⟩:=z48 e2
    by_cases e3:a=i
    ·subst e3
     rw [if_pos rfl,h.one a ha];grind
    ·rw [h.col a ha i (by have:=h.len;omega) (fun e=>e3 e.symm),if_neg (x9b h.inc ha hi e3)];grind
   ·rw [if_neg (fun e=>e2 (by rw [e];exact z4u hi)),h0 c hc e1 e2];grind
 rw [z0H key,z6e,z1U (k:=j) hj (fun c _ hc=>by rw [if_neg hc]),if_pos rfl,z1U (k:=ps.getD i 0) hp (fun c _ hc=>by rw [if_neg hc]),if_pos rfl]
 grind
theorem w1j {R:Mt} {ps:List Nat} (hinc:∀a b,a<b→b<ps.length→ps.getD a 0<ps.getD b 0) {j a:Nat} (hnp:j∉ps) (ha:a<ps.length):y52 R ps j (ps.getD a 0)=R a j:=by
 unfold y52
 rw [if_neg (fun e=>hnp (by rw [←e];exact z4u ha)),if_pos (by simpa using z4u ha),z6M hinc ha]
theorem w41 {R:Mt} {ps:List Nat} {j c:Nat} (h1:c≠j) (h2:c∉ps):y52 R ps j c=0:=by
 unfold y52
 rw [if_neg h1,if_neg (by simpa using h2)]
theorem x9r {R:Mt} {ps:List Nat} {j:Nat}:y52 R ps j j = -1:=by unfold y52;rw [if_pos rfl]
theorem IsR.unique {n k:Nat} {A B:Mt} {ps qs:List Nat} (hA:IsR n k A ps) (hB:IsR n k B qs) (hK:z14 n k A B):ps=qs∧∀i,i<n→∀j,j<k→A i j=B i j:=by
 have e:=hA.pivots hB fun j _=>Dep.congr hK j
 subst e
 refine ⟨rfl,fun i hi j hj=>?_⟩
 rcases Nat.lt_or_ge i ps.length with g|g
 ·by_cases hm:j∈ps
  ·obtain ⟨a,ha,rfl⟩:=z48 hm
   by_cases e:i=a
   ·subst e;rw [hA.one i ha,hB.one i ha]
   ·rw [hA.col a ha i hi e,hB.col a ha i hi e]
  ·have h1:=(hK _).1 (hA.rel hj hm) i hi
   rw [hB.row_sum hj hm (fun c _ h1 h2=>w41 h1 h2) x9r g,w1j hA.inc hm g] at h1
   grind
 ·rw [hA.down i g hi j hj,hB.down i g hi j hj]
theorem y5R {k:Nat} {ps:List Nat} (hinc:∀a b,a<b→b<ps.length→ps.getD a 0<ps.getD b 0) (hlt:∀a,a<ps.length→ps.getD a 0<k) (f:Nat→Rat) :
  z1K k (fun c=>if ps.contains c then f c else 0)=z1K ps.length fun a=>f (ps.getD a 0):=by
 have key:∀c,c<k→(if ps.contains c then f c else 0)=z1K ps.length fun a=>if c=ps.getD a 0 then f c else 0:=fun c _=>by
  by_cases hm:c∈ps
  ·obtain ⟨b,hb,rfl⟩:=z48 hm
   rw [if_pos (by simpa using hm),z1U (k:=b) hb (fun a ha hne=>by rw [if_neg (x9b hinc hb ha (fun e=>hne e.symm))]),if_pos rfl]
  ·rw [if_neg (by simpa using hm),z3A fun a ha=>by rw [if_neg (fun e=>hm (by rw [e];exact z4u ha))]]
 rw [z0H key,z9Z]
 exact z0H fun a ha=>by
  rw [z1U (k:=ps.getD a 0) (hlt a ha) (fun c _ hc=>by rw [if_neg hc]),if_pos rfl]
theorem IsR.explains {n k:Nat} {X R:Mt} {ps:List Nat} (h:IsR n k R ps) (hK:z14 n k X R) {i j:Nat} (hi:i<n) (hj:j<k):z1K ps.length (fun a=>R a j*X i (ps.getD a 0))=X i j:=by
 by_cases hm:j∈ps
 ·obtain ⟨b,hb,rfl⟩:=z48 hm
  rw [z1U (k:=b) hb (fun a ha hne=>by rw [h.col b hb a (by have:=h.len;omega) hne];grind),h.one b hb]
  grind
 ·have h1:=(hK _).2 (h.rel hj hm) i hi
  have key:∀c,c<k→X i c*y52 R ps j c=(if c=j then -(X i j) else 0)+(if ps.contains c then X i c*R (ps.idxOf c) j else 0):=fun c _=>by
   unfold y52
   by_cases e:c=j
   ·subst e
    rw [if_pos rfl,if_pos rfl,if_neg (by simpa using hm)];grind
   ·rw [if_neg e,if_neg e]
    split<;>grind
  rw [z0H key,z6e,z1U (k:=j) hj (fun c _ hc=>by rw [if_neg hc]),if_pos rfl,y5R h.inc h.lt (fun c=>X i c*R (ps.idxOf c) j)] at h1
  have e2:z1K ps.length (fun a=>R a j*X i (ps.getD a 0))=z1K ps.length fun a=>X i (ps.getD a 0)*R (ps.idxOf (ps.getD a 0)) j:=z0H fun a ha=>by rw [z6M h.inc ha];grind
  rw [e2];grind
def z3W (a b:Nat) (M:Mt):Mt:=fun i c=>if i=a then M b c else if i=b then M a c else M i c
def elimM (t j:Nat) (M:Mt):Mt:=fun i c=>if i=t then M t c*(1 / M t j) else M i c+M t c*(1 / M t j)*(-(M i j))
theorem w3w {n k j at_:Nat} {M:Mt} {ps:List Nat} (h:IsRp n k j M ps) (hj:j<k) (ha:ps.length≤at_) (han:at_<n) (hne:M at_ j≠0) :
  IsRp n k (j+1) (elimM ps.length j (z3W ps.length at_ M)) (ps++[j])∧z14 n k M (elimM ps.length j (z3W ps.length at_ M)):=by
 have hn:ps.length<n:=by omega
 have hS:∀i,i<n→∀c,c<j→z3W ps.length at_ M i c=M i c:=fun i hi c hc=>by
  unfold z3W
  by_cases e1:i=ps.length
  ·rw [if_pos e1,e1,h.down at_ ha han c hc,h.down _ (Nat.le_refl _) hn c hc]
  ·rw [if_neg e1]
   by_cases e2:i=at_
   ·rw [if_pos e2,e2,h.down at_ ha han c hc,h.down _ (Nat.le_refl _) hn c hc]
   ·rw [if_neg e2]
 have ht:z3W ps.length at_ M ps.length j=M at_ j:=by unfold z3W;rw [if_pos rfl]
 have hk1:z14 n k M (z3W ps.length at_ M):=x0c (a:=ps.length) (b:=at_) hn han (fun c _=>by unfold z3W;rw [if_pos rfl]) (fun c _=>by
  unfold z3W
  by_cases e:at_=ps.length
  ·rw [if_pos e,e]
  ·rw [if_neg e,if_pos rfl]) (fun i _ h1 h2 c _=>by unfold z3W;rw [if_neg h1,if_neg h2])
 have hd:∀c,c<j→z3W ps.length at_ M ps.length c=0:=fun c hc=>by rw [hS _ hn c hc];exact h.down _ (Nat.le_refl _) hn c hc
 generalize z3W ps.length at_ M=S at *
 have hs:S ps.length j≠0:=by rw [ht];exact hne
 refine ⟨h.step hj hn ?_ (fun i hi hne=>?_) (fun i hi c hc=>?_),hk1.trans (x15 (t:=ps.length) hn (q:=1 / S ps.length j) (fun e=>?_) (fun i=>(1 / S ps.length j)*(-(S i j))) (fun c _=>?_) fun i _ hne c _=>?_)⟩
 ·unfold elimM;rw [if_pos rfl];grind
 ·unfold elimM;rw [if_neg hne];grind
 ·unfold elimM
  by_cases e:i=ps.length
  ·subst e;rw [if_pos rfl,hd c hc,h.down _ (Nat.le_refl _) hn c hc];grind
  ·rw [if_neg e,hd c hc,hS i hi c hc];grind
 ·have:S ps.length j*(1 / S ps.length j)=1:=by grind
  rw [e] at this;grind
 ·unfold elimM;rw [if_pos rfl];grind
 ·unfold elimM;rw [if_neg hne];grind
theorem z3F (n k:Nat) (M:Mt):∃R ps,IsR n k R ps∧z14 n k M R:=by
 have key:∀j,j≤k→∃R ps,IsRp n k j R ps∧z14 n k M R:=by
  intro j
  induction j with
  | zero=>exact fun _=>⟨M,[],IsRp.nil n k M,z14.refl _ _ _⟩
  | succ j ih =>
   intro hj
   obtain ⟨R,ps,h1,h2⟩:=ih (by omega)
   by_cases h:∀i,ps.length≤i→i<n→R i j=0
   ·exact ⟨R,ps,h1.skip h,h2⟩
   ·obtain ⟨i,hi⟩:=Classical.not_forall.1 h
    have g1:ps.length≤i:=Classical.byContradiction fun g=>hi fun g'=>absurd g' g
    have g2:i<n:=Classical.byContradiction fun g=>hi fun _ g'=>absurd g' g
    have g3:R i j≠0:=fun g=>hi fun _ _=>g
    obtain ⟨e1,e2⟩:=w3w h1 (by omega) g1 g2 g3
    exact ⟨_,_,e1,h2.trans e2⟩
 exact key k (Nat.le_refl k)
theorem x4M {s r:Nat} (C:Mt) (h:s<r):∃c:Nat→Rat,(∃j,j<r∧c j≠0)∧Ker s r C c:=by
 obtain ⟨R,ps,h1,h2⟩:=z3F s r C
 have:∃j,j<r∧j∉ps:=by
  refine Classical.byContradiction fun hn=>?_
  have hall:∀j,j<r→j∈ps:=fun j hj=>Classical.byContradiction fun g=>hn ⟨j,hj,g⟩
  have hl:=h1.len
  have hnd:(List.range r).Pairwise (·<·):=List.pairwise_lt_range
  have:List.range r=ps:=y2w hnd (y4L h1.inc) fun x=>by
   rw [List.mem_range]
   exact ⟨hall x,fun hm=>by obtain ⟨a,ha,e⟩:=z48 hm;rw [←e];exact h1.lt a ha⟩
  have hlen:(List.range r).length=ps.length:=by rw [this]
  rw [List.length_range] at hlen
  omega
 obtain ⟨j,hj,hnp⟩:=this
 exact ⟨y52 R ps j,⟨j,hj,by rw [x9r];grind⟩,(h2 _).2 (h1.rel hj hnp)⟩
theorem y6V {n ka kb:Nat} {A B RA RB:Mt} {ps qs:List Nat} (hA:IsR n ka RA ps) (hKA:z14 n ka A RA) (hB:IsR n kb RB qs) (hKB:z14 n kb B RB) (M:Mt) (hM:∀i,i<n→∀j,j<kb→B i j=z1K ka fun l=>A i l*M l j):qs.length≤ps.length:=by
 refine Classical.byContradiction fun hlt=>?_
 obtain ⟨c,⟨b0,hb0,hne⟩,hc⟩:=x4M (s:=ps.length) (r:=qs.length) (fun a b=>z1K ka fun l=>RA a l*M l (qs.getD b 0)) (by omega)
 have hv:Ker n kb B (fun q=>if qs.contains q then c (qs.idxOf q) else 0):=fun i hi=>by
  have e1:∀q,q<kb→B i q*(if qs.contains q then c (qs.idxOf q) else 0)=if qs.contains q then B i q*c (qs.idxOf q) else 0:=fun q _=>by split<;>grind
  rw [z0H e1,y5R hB.inc hB.lt (fun q=>B i q*c (qs.idxOf q))]
  have e2:∀b,b<qs.length→B i (qs.getD b 0)*c (qs.idxOf (qs.getD b 0))=z1K ps.length fun a=>A i (ps.getD a 0)*((z1K ka fun l=>RA a l*M l (qs.getD b 0))*c b):=fun b hb=>by
   rw [z6M hB.inc hb,hM i hi _ (hB.lt b hb)]
   have e3:∀l,l<ka→A i l*M l (qs.getD b 0)=z1K ps.length fun a=>A i (ps.getD a 0)*(RA a l*M l (qs.getD b 0)):=fun l hl=>by
    rw [←hA.explains hKA hi hl,Rat.mul_comm,←z3V]
    exact z0H fun a _=>by grind
   rw [z0H e3,z9Z,Rat.mul_comm,←z3V]
   refine z0H fun a _=>?_
   rw [z3V];grind
  rw [z0H e2,z9Z]
  refine z3A fun a ha=>?_
  rw [z3V,hc a ha,Rat.mul_zero]
 have h3:=(hKB _).1 hv b0 (by have:=hB.len;omega)
 rw [z1U (k:=qs.getD b0 0) (hB.lt b0 hb0) (fun q _ hq=>?_),hB.one b0 hb0,if_pos (by simpa using z4u hb0),z6M hB.inc hb0] at h3
 ·exact hne (by grind)
 ·split
  ·rename_i hm
   obtain ⟨b,hb,rfl⟩:=z48 (show q∈qs by simpa using hm)
   have e:b≠b0:=fun e=>hq (by rw [e])
   rw [hB.col b hb b0 (by have:=hB.len;omega) (Ne.symm e)];grind
  ·grind
theorem y6U {n ka kb:Nat} {A B C RA RC:Mt} {ps rs:List Nat} (hA:IsR n ka RA ps) (hKA:z14 n ka A RA) (hC:IsR n (ka+kb) RC rs) (hKC:z14 n (ka+kb) C RC) (M:Mt) (hM:∀i,i<n→∀j,j<kb→B i j=z1K ka fun l=>A i l*M l j)
  (h1:∀i,i<n→∀j,j<ka→C i j=A i j) (h2:∀i,i<n→∀j,j<kb→C i (ka+j)=B i j):rs=ps:=by
 have split_:∀(m:Nat) (f:Nat→Rat),z1K (ka+m) f=z1K ka f+z1K m fun j=>f (ka+j):=fun m f=>by
  induction m with
  | zero=>exact (Rat.add_zero _).symm
  | succ m ih=>rw [←Nat.add_assoc,z1K,ih,z1K];grind
 refine y2w (y4L hC.inc) (y4L hA.inc) fun x=>?_
 rw [hC.mem,hA.mem]
 have ext:∀{c:Nat→Rat},(∀j,j<kb→c (ka+j)=0)→(Ker n (ka+kb) C c↔Ker n ka A c):=fun {c} h0=>by
  have e:∀i,i<n→z1K (ka+kb) (fun j=>C i j*c j)=z1K ka fun j=>A i j*c j:=fun i hi=>by
   rw [split_,z3A (n:=kb) fun j hj=>by rw [h0 j hj];grind,Rat.add_zero]
   exact z0H fun j hj=>by rw [h1 i hi j hj]
  unfold Ker
  constructor
  ·intro g i hi;rw [←e i hi];exact g i hi
  ·intro g i hi;rw [e i hi];exact g i hi
 have hd:∀j,j<ka→(Dep n (ka+kb) RC j↔Dep n ka RA j):=fun j hj=>by
  rw [←Dep.congr hKC,←Dep.congr hKA]
  constructor
  ·rintro ⟨c,g1,g2,g3⟩
   exact ⟨c,(ext fun j' _=>g3 _ (by omega)).1 g1,g2,g3⟩
  ·rintro ⟨c,g1,g2,g3⟩
   exact ⟨c,(ext fun j' _=>g3 _ (by omega)).2 g1,g2,g3⟩
 constructor
 ·rintro ⟨g1,g2⟩
  rcases Nat.lt_or_ge x ka with g|g
  ·exact ⟨g,fun hdep=>g2 ((hd x g).2 hdep)⟩
  ·exfalso
   refine g2 ((Dep.congr hKC x).1 ?_)
   obtain ⟨j,rfl⟩:∃j,x=ka+j:=⟨x - ka,by omega⟩
   have hj:j<kb:=by omega
   refine ⟨fun l=>if l<ka then M l j else if l=ka+j then -1 else 0,fun i hi=>?_,by dsimp only;rw [if_neg (by omega),if_pos rfl],fun l hl=>by dsimp only;rw [if_neg (by omega),if_neg (by omega)]⟩
   rw [split_]
   have e1:z1K ka (fun l=>C i l*(if l<ka then M l j else if l=ka+j then -1 else 0))=B i j:=by
    rw [hM i hi j hj]
    exact z0H fun l hl=>by rw [if_pos hl,h1 i hi l hl]
   have e2:z1K kb (fun l=>C i (ka+l)*(if ka+l<ka then M (ka+l) j else if ka+l=ka+j then -1 else 0)) = -(B i j):=by
    rw [z1U (k:=j) hj (fun l _ hne=>by rw [if_neg (by omega),if_neg (by omega)];grind),if_neg (by omega),if_pos rfl,h2 i hi j hj];grind
   rw [e1,e2];grind
 ·rintro ⟨g1,g2⟩
  exact ⟨by omega,fun hdep=>g2 ((hd x g1).1 hdep)⟩
structure IsBp (n j i:Nat) (M:Mt) (ps:List Nat):Prop where
 inc:∀a b,a<b→b<ps.length→ps.getD a 0<ps.getD b 0
 lt:∀a,a<ps.length→ps.getD a 0<j
 len:ps.length≤n
 le:i≤ps.length
 nz:∀a,a<ps.length→M a (ps.getD a 0)≠0
 one:∀a,a<i→M a (ps.getD a 0)=1
 col:∀a,a<i→∀r,r<n→r≠a→M r (ps.getD a 0)=0
 low:∀a,a<ps.length→∀r,a<r→r<n→M r (ps.getD a 0)=0
 left:∀a,a<ps.length→∀c,c<ps.getD a 0→M a c=0
 down:∀r,ps.length≤r→r<n→∀c,c<j→M r c=0
noncomputable def rrM (n k:Nat) (M:Mt):Mt:=(z3F n k M).choose
noncomputable def rrP (n k:Nat) (M:Mt):List Nat:=(z3F n k M).choose_spec.choose
theorem y5E (n k:Nat) (M:Mt):IsR n k (rrM n k M) (rrP n k M)∧z14 n k M (rrM n k M):=(z3F n k M).choose_spec.choose_spec
theorem w6L {n k:Nat} {M R:Mt} {ps:List Nat} (h:IsR n k R ps) (hk:z14 n k M R):ps=rrP n k M∧∀i,i<n→∀j,j<k→R i j=rrM n k M i j :=
 h.unique (y5E n k M).1 (hk.symm.trans (y5E n k M).2)
end Nat32
namespace Nat32
open Go Go.Dat
def z0L (r:List (List UInt8)):List DV:=r.map DV.str
abbrev Bs:=List UInt8
def x0Z (c:UInt8):Bool:=(decide (97≤c.toNat) && decide (c.toNat≤122)) || (decide (65≤c.toNat) && decide (c.toNat≤90))
def y4M (c:UInt8):Bool:=x0Z c || (decide (48≤c.toNat) && decide (c.toNat≤57)) || decide (c.toNat=95) || decide (c.toNat=46)
def power:Bs:=[112,111,119,101,114]
def z2G (s:Bs):Bool:=decide (1≤s.length) && (decide (s.length≤32) && (x0Z (s.getD 0 0) && (decide (¬s=power) && s.all y4M)))
def ixS:List Bs→Bs→Int
 | [],_=>-1
 | x::l,s=>if x=s then 0 else if ixS l s<0 then -1 else ixS l s+1
theorem z9r (s:Bs):∀l:List Bs,-1≤ixS l s∧ixS l s<l.length
 | []=>by simp [ixS]
 | x::l=>by
  have:=z9r s l
  simp only [ixS,List.length_cons]
  split
  ·omega
  ·split<;>omega
theorem y9k {s:Bs}:∀{l:List Bs},s∉l→ixS l s = -1
 | [],_=>rfl
 | x::l,h=>by
  simp only [List.mem_cons,not_or] at h
  have:=y9k h.2
  simp only [ixS]
  rw [if_neg (Ne.symm h.1),this];rfl
theorem y9j {s:Bs}:∀{l:List Bs} {i:Nat},i<l.length→l.getD i []=s→(∀j,j<i→l.getD j []≠s)→ixS l s=i
 | [],i,h,_,_=>absurd h (Nat.not_lt_zero _)
 | x::l,0,_,h1,_=>by
  have:x=s:=h1
  simp only [ixS];rw [if_pos this];rfl
 | x::l,i+1,h,h1,h2=>by
  have h3:=y9j (l:=l) (i:=i) (by simp at h;omega) h1 fun j hj=>h2 (j+1) (by omega)
  have h4:x≠s:=h2 0 (by omega)
  simp only [ixS]
  rw [if_neg h4,h3,if_neg (by omega)];omega
theorem x4u {s:Bs} {l:List Bs} (h:∀j,j<l.length→l.getD j []≠s):ixS l s = -1:=by
 refine y9k fun hm=>?_
 obtain ⟨j,hj⟩:=List.mem_iff_getElem?.1 hm
 have hlt:=(List.getElem?_eq_some_iff.1 hj).1
 exact h j hlt (by rw [zO1,hj];rfl)
def z55 (l:List Bs):Bool:=(List.range l.length).all fun i=>z2G (l.getD i []) && decide (ixS (l.take i) (l.getD i [])<0)
theorem z9C {l:List Bs} (h:∀i,i<l.length→(z2G (l.getD i []) && decide (ixS (l.take i) (l.getD i [])<0))=true):z55 l=true :=
 List.all_eq_true.2 fun i hi=>h i (List.mem_range.1 hi)
theorem z7L {l:List Bs} {i:Nat} (hi:i<l.length) (h:(z2G (l.getD i []) && decide (ixS (l.take i) (l.getD i [])<0))=false):z55 l=false:=by
 cases hn:z55 l with
 | false=>rfl
 | true=>rw [List.all_eq_true.1 hn i (List.mem_range.2 hi)] at h;cases h
theorem y3H {p:UInt8→Bool} {s:Bs} {i:Nat} (hi:i<s.length) (h:p (s.getD i 0)=false):s.all p=false:=by
 cases hn:s.all p with
 | false=>rfl
 | true =>
  rw [zO1,zO4 hi,Option.getD_some] at h
  rw [show p s[i]=true from List.all_eq_true.1 hn _ (List.getElem_mem hi)] at h
  cases h
theorem x8B {p:UInt8→Bool} {s:Bs} (h:∀i,i<s.length→p (s.getD i 0)=true):s.all p=true:=by
 refine List.all_eq_true.2 fun x hx=>?_
 obtain ⟨i,hi⟩:=List.mem_iff_getElem?.1 hx
 have hlt:=(List.getElem?_eq_some_iff.1 hi).1
 have:=h i hlt
 rwa [zO1,hi] at this
theorem z1J {l:List Bs} {i:Nat} (h:i<l.length):l.getD i []∈l:=by
 rw [zO1,zO4 h];exact List.getElem_mem h
section
variable {α:Type} {f:α→List DV} {n:Nat}
theorem z34 (hf:∀a,(f a).length=n):∀l:List α,(l.flatMap f).length=l.length*n
 | []=>by simp
 | a::l=>by rw [List.flatMap_cons,List.length_append,hf,z34 hf l,List.length_cons,Nat.succ_mul,Nat.add_comm]
theorem y2g (hf:∀a,(f a).length=n):∀(l:List α) (i:Nat),(l.flatMap f).drop (i*n)=(l.drop i).flatMap f
 | l,0=>by simp
 | [],i+1=>by simp
 | a::l,i+1=>by
  have e:(f a++l.flatMap f).drop n=l.flatMap f:=by rw [←hf a,List.drop_left]
  rw [List.flatMap_cons,List.drop_succ_cons,←y2g hf l i,Nat.succ_mul,Nat.add_comm,←List.drop_drop,e]
theorem y6o (hf:∀a,(f a).length=n):∀(l:List α) (i:Nat),(l.flatMap f).take (i*n)=(l.take i).flatMap f
 | l,0=>by simp
 | [],i+1=>by simp
 | a::l,i+1=>by
  rw [List.flatMap_cons,List.take_succ_cons,List.flatMap_cons,←y6o hf l i,Nat.succ_mul,List.take_append,hf]
  rw [List.take_of_length_le (by rw [hf];omega),Nat.add_sub_cancel]
theorem z1m (hf:∀a,(f a).length=n) (d:α) {l:List α} {i j k:Nat} (h:i<l.length) (hk:j+k≤n):((l.flatMap f).drop (i*n+j)).take k=((f (l.getD i d)).drop j).take k:=by
 rw [←List.drop_drop,y2g hf,List.drop_eq_getElem_cons h,List.flatMap_cons,List.drop_append,List.take_append]
 have e:l.getD i d=l[i]:=by rw [zO1,zO4 h];rfl
 rw [e,List.length_drop,hf,show k - (n - j)=0 by omega,List.take_zero,List.append_nil]
theorem y4o (hf:∀a,(f a).length=n) (d:α) {l:List α} {i j:Nat} (h:i<l.length) (hj:j<n) (x:DV):(l.flatMap f).getD (i*n+j) x=(f (l.getD i d)).getD j x:=by
 have h1:=z1m hf d (l:=l) (i:=i) (j:=j) (k:=1) h (by omega)
 have e1:i*n+j<(l.flatMap f).length:=by
  rw [z34 hf]
  have:(i+1)*n≤l.length*n:=Nat.mul_le_mul_right n h
  rw [Nat.succ_mul] at this;omega
 have e2:j<(f (l.getD i d)).length:=by rw [hf];exact hj
 rw [List.drop_eq_getElem_cons e1,List.drop_eq_getElem_cons e2] at h1
 simp only [List.take_succ_cons,List.take_zero,List.cons.injEq,and_true] at h1
 rw [zO1,zO4 e1,zO1,zO4 e2,Option.getD_some,Option.getD_some,h1]
theorem x0r (hf:∀a,∀d∈f a,d.rf=true) (l:List α):∀d∈l.flatMap f,d.rf=true:=by
 intro d hd
 obtain ⟨a,_,h⟩:=List.mem_flatMap.1 hd
 exact hf a d h
theorem x8M (hf:∀a,∀d∈f a,d.one=true) (l:List α):∀d∈l.flatMap f,d.one=true:=by
 intro d hd
 obtain ⟨a,_,h⟩:=List.mem_flatMap.1 hd
 exact hf a d h
theorem y2h (l:List α) (a:α):l.flatMap f++f a=(l++[a]).flatMap f:=by simp
end
abbrev XN:=Bool × List Nat × List Nat
def xnC (x:XN):List DV:=[.bool x.1,.sl 1 (us x.2.1),.sl 1 (us x.2.2)]
def qX (r:Rat):XN:=(decide (r.num<0),limbs r.num.natAbs,dn r.den)
structure Fx where
 nm:Bs
 kd:Int
 ms:List Bs
 un:XN
deriving Inhabited
structure Tc where
 mi:Bool
 va:XN
 lv:Int
deriving Inhabited
def cxC (c:Tc):List DV:=[.bool c.mi,.bool c.va.1,.sl 1 (us c.va.2.1),.sl 1 (us c.va.2.2),.int .i64 c.lv]
theorem z1V (f:Tc):(cxC f).length=5:=rfl
def cxs (l:List Tc):List DV:=l.flatMap cxC
theorem z2A (l:List Tc):(cxs l).length=l.length*5:=z34 z1V l
theorem z8Q (f:Tc):∀d∈cxC f,d.rf=true:=by
 intro d hd
 simp only [cxC,List.mem_cons,List.not_mem_nil,or_false] at hd
 rcases hd with rfl|rfl|rfl|rfl|rfl<;>rfl
theorem y2a (f:Tc):∀d∈cxC f,d.one=true:=by
 intro d hd
 simp only [cxC,List.mem_cons,List.not_mem_nil,or_false] at hd
 rcases hd with rfl|rfl|rfl|rfl|rfl<;>rfl
theorem y0Y (l:List Tc):∀d∈cxs l,d.rf=true:=x0r z8Q l
structure Kx where
 nm:Bs
 kd:Int
 le:List Bs
 ce:List Tc
deriving Inhabited
def kxC (k:Kx):List DV:=[.str k.nm,.int .i64 k.kd,.sl 1 (z0L k.le),.sl 5 (cxs k.ce)]
theorem z00 (f:Kx):(kxC f).length=4:=rfl
def kxs (l:List Kx):List DV:=l.flatMap kxC
theorem z1X (l:List Kx):(kxs l).length=l.length*4:=z34 z00 l
end Nat32
namespace Nat32
open Go Go.Dat
variable (pq:Bs→Option Rat)
theorem w7k:qX 0=(false,[],[]):=by simp [qX,z0s,dn]
end Nat32
namespace Nat32
open Go Go.Dat
section
variable {α:Type} (p:α→Bool)
def ixP:List α→Int
 | []=>-1
 | x::l=>if p x then 0 else if ixP l<0 then -1 else ixP l+1
theorem y9i:∀l:List α,-1≤ixP p l∧ixP p l<l.length
 | []=>by simp [ixP]
 | x::l=>by
  have:=y9i l
  simp only [ixP,List.length_cons]
  split
  ·omega
  ·split<;>omega
theorem y2F:∀l:List α,decide (0≤ixP p l)=l.any p
 | []=>rfl
 | x::l=>by
  have h1:=y2F l
  have h2:=y9i p l
  rw [List.any_cons,←h1]
  have e:ixP p (x::l)=if p x=true then 0 else if ixP p l<0 then -1 else ixP p l+1:=rfl
  by_cases hp:p x=true
  ·rw [if_pos hp] at e
   rw [hp,e];rfl
  ·rw [if_neg hp] at e
   rw [Bool.eq_false_iff.2 hp,Bool.false_or]
   refine decide_eq_decide.2 ?_
   rw [e]
   split<;>omega
variable {p} (d:α)
theorem y4U:∀{l:List α} {i:Nat},i<l.length→p (l.getD i d)=true→(∀j,j<i→p (l.getD j d)=false)→ixP p l=i
 | [],i,h,_,_=>absurd h (Nat.not_lt_zero _)
 | x::l,0,_,h1,_=>by
  have:p x=true:=h1
  simp only [ixP];rw [if_pos this];rfl
 | x::l,i+1,h,h1,h2=>by
  have h3:=y4U (l:=l) (i:=i) (by simp at h;omega) h1 fun j hj=>h2 (j+1) (by omega)
  have h4:p x=false:=h2 0 (by omega)
  simp only [ixP]
  rw [h4,if_neg (by decide),h3,if_neg (by omega)];omega
theorem y4V:∀{l:List α},(∀j,j<l.length→p (l.getD j d)=false)→ixP p l = -1
 | [],_=>rfl
 | x::l,h=>by
  have h3:=y4V (l:=l) fun j hj=>h (j+1) (by simp;omega)
  have h4:p x=false:=h 0 (by simp)
  simp only [ixP]
  rw [h4,if_neg (by decide),h3];rfl
end
theorem z6j {α:Type} [Inhabited α] {l:List α} {i:Nat} (h:i<l.length):l.getD i default∈l:=by
 rw [zO1,zO4 h];exact List.getElem_mem h
def y9z (x:XN):Prop:=lim x.2.1∧lim x.2.2∧x.2.1.length≤300∧x.2.2.length≤300
def xnV (x:XN):Rat:=rv x.1 x.2.1 x.2.2
end Nat32
namespace Nat32
open Go Go.Dat
variable (pq:Bs→Option Rat)
noncomputable def w40 (f:Fx) (lv:List Bs) (ce:List Tc) (s:Bs):Int × List Bs × List Tc :=
 if 0≤ixS f.ms s then (0,lv,ce++[⟨true,(false,[],[]),0⟩])
 else if f.kd=1 then match pq s with
  | none=>(4,lv,ce)
  | some x=>(0,lv,ce++[⟨false,qX (x*xnV f.un),0⟩])
 else if ixS lv s<0 then
  if lv.length=32 then (2,lv,ce) else (0,lv++[s],ce++[⟨false,(false,[],[]),lv.length⟩])
 else (0,lv,ce++[⟨false,(false,[],[]),ixS lv s⟩])
end Nat32
namespace Nat32
open Go Go.Dat
variable (pq:Bs→Option Rat)
abbrev Tx:=List Bs × List Tc
noncomputable def x2v (f:Fx) (s:Bs) (x:Tx):Int × Tx:=if f.kd=3 then (0,x) else ((w40 pq f x.1 x.2 s).1,(w40 pq f x.1 x.2 s).2)
noncomputable def x9s (fs:List Fx) (r:List Bs) (T:List Tx):Nat→Int × List Tx
 | 0=>(0,T)
 | k+1=>if (x9s fs r T k).1≠0 then x9s fs r T k else
  ((x2v pq (fs.getD k default) (r.getD k []) ((x9s fs r T k).2.getD k default)).1,(x9s fs r T k).2.set k (x2v pq (fs.getD k default) (r.getD k []) ((x9s fs r T k).2.getD k default)).2)
noncomputable def w1h (fs:List Fx) (recs:List (List Bs)):Nat→(Int × Int) × List Tx
 | 0=>((0,0),fs.map fun _=>([],[]))
 | i+1=>if (w1h fs recs i).1.2≠0 then w1h fs recs i else
  if (recs.getD i []).length≠fs.length then (((i+1:Nat),6),(w1h fs recs i).2) else
  if (x9s pq fs (recs.getD i []) (w1h fs recs i).2 fs.length).1≠0 then (((i+1:Nat),(x9s pq fs (recs.getD i []) (w1h fs recs i).2 fs.length).1),(w1h fs recs i).2) else
  ((0,0),(x9s pq fs (recs.getD i []) (w1h fs recs i).2 fs.length).2)
end Nat32
namespace Nat32
open Go Go.Dat
theorem z29 (f:Kx):∀d∈kxC f,d.rf=true:=by
 intro d hd
 simp only [kxC,List.mem_cons,List.not_mem_nil,or_false] at hd
 rcases hd with rfl|rfl|rfl|rfl<;>rfl
theorem y2G (f:Kx):∀d∈kxC f,d.one=true:=by
 intro d hd
 simp only [kxC,List.mem_cons,List.not_mem_nil,or_false] at hd
 rcases hd with rfl|rfl|rfl|rfl<;>rfl
theorem x9e (l:List Kx):∀d∈kxs l,d.rf=true:=x0r z29 l
theorem z0z {α:Type} (d:α) {l:List α} {i:Nat} (h:i<l.length):l.take (i+1)=l.take i++[l.getD i d]:=by
 rw [List.take_add_one,zO4 h,zO1,zO4 h];rfl
theorem z2I {α:Type} (d:α) {l:List α} {i:Nat} (h:i<l.length):l.drop i=l.getD i d::l.drop (i+1):=by
 rw [List.drop_eq_getElem_cons h,zO1,zO4 h];rfl
theorem w3s {α:Type} {f:α→List DV} {n:Nat} (hf:∀a,(f a).length=n) {l:List α} {i:Nat} (x:α) (h:i<l.length):(l.flatMap f).take (i*n)++f x++(l.flatMap f).drop (i*n+n)=(l.set i x).flatMap f:=by
 have e:i*n+n=(i+1)*n:=by rw [Nat.succ_mul]
 rw [y6o hf,e,y2g hf,List.set_eq_take_append_cons_drop,if_pos h,List.flatMap_append,List.flatMap_cons,List.append_assoc]
def x8K {α:Type} (p:α→Bool) (S:List α) (i j:Nat) (A:List α):Prop:=A.length=S.length∧i<j∧j≤S.length∧A.take i=(S.take j).filter (fun x=>!p x)∧A.drop j=S.drop j
section
variable {α:Type} {p:α→Bool} {S A:List α} {i j:Nat} (d:α)
theorem x6F (h:x8K p S i j A) (hj:j<S.length):A.getD j d=S.getD j d:=by
 have h5:=h.2.2.2.2
 rw [z2I d (by rw [h.1];exact hj),z2I d hj] at h5
 exact (List.cons.inj h5).1
theorem x2P (h:x8K p S i j A) (hj:j<S.length) (hp:p (S.getD j d)=false):x8K p S (i+1) (j+1) (A.set i (S.getD j d)):=by
 obtain ⟨h1,h2,h3,h4,h5⟩:=h
 refine ⟨by rw [List.length_set,h1],by omega,by omega,?_,?_⟩
 ·rw [z0z d (by rw [List.length_set];omega),List.take_set_of_le (Nat.le_refl i),h4,z0z d hj,List.filter_append]
  have:(A.set i (S.getD j d)).getD i d=S.getD j d:=by
   rw [zO1,List.getElem?_set_self (by omega)];rfl
  rw [this,List.filter_cons,hp];rfl
 ·rw [List.drop_set_of_lt (by omega)]
  rw [z2I d (by rw [h1];exact hj),z2I d hj] at h5
  exact (List.cons.inj h5).2
theorem x2Q (h:x8K p S i j A) (hj:j<S.length) (hp:p (S.getD j d)=true):x8K p S i (j+1) A:=by
 obtain ⟨h1,h2,h3,h4,h5⟩:=h
 refine ⟨h1,by omega,by omega,?_,?_⟩
 ·rw [h4,z0z d hj,List.filter_append,List.filter_cons,hp];simp
 ·rw [z2I d (by rw [h1];exact hj),z2I d hj] at h5
  exact (List.cons.inj h5).2
theorem x6E (h:x8K p S i S.length A):A.take i=S.filter (fun x=>!p x):=by
 rw [h.2.2.2.1,List.take_length]
end
section
variable {α:Type} (p:α→Bool)
theorem x4s:∀{l:List α},ixP p l = -1→l.filter (fun x=>!p x)=l
 | [],_=>rfl
 | x::l,h=>by
  have hb:=y9i p l
  simp only [ixP] at h
  split at h
  ·omega
  ·rename_i hp
   split at h
   ·have:=x4s (l:=l) (by omega)
    rw [List.filter_cons,if_pos (by simpa using hp),this]
   ·omega
theorem x4t (d:α):∀{l:List α} {k:Nat},ixP p l=k→k<l.length∧p (l.getD k d)=true∧(l.take k).filter (fun x=>!p x)=l.take k
 | [],k,h=>by simp [ixP] at h
 | x::l,k,h=>by
  simp only [ixP] at h
  split at h
  ·rename_i hp
   obtain rfl:k=0:=by omega
   exact ⟨by simp,hp,rfl⟩
  ·rename_i hp
   split at h
   ·omega
   ·match k with
    | 0=>omega
    | k+1 =>
     obtain ⟨h1,h2,h3⟩:=x4t d (l:=l) (k:=k) (by omega)
     refine ⟨by simp;omega,h2,?_⟩
     rw [List.take_succ_cons,List.filter_cons,if_pos (by simpa using hp),h3]
theorem x2R (d:α) {l:List α} {k:Nat} (h:ixP p l=k):x8K p l k (k+1) l:=by
 obtain ⟨h1,h2,h3⟩:=x4t p d h
 refine ⟨rfl,by omega,by omega,?_,rfl⟩
 rw [z0z d h1,List.filter_append,h3,List.filter_cons,h2];simp
end
end Nat32
namespace Nat32
open Go Go.Dat
def z0T (r:Rat):List DV:=xnC (qX r)
theorem z1i (r:Rat):(z0T r).length=3:=rfl
theorem z1z (r:Rat):∀d∈z0T r,d.rf=true:=by
 intro d hd
 simp only [z0T,xnC,List.mem_cons,List.not_mem_nil,or_false] at hd
 rcases hd with rfl|rfl|rfl<;>rfl
theorem z3N (r:Rat):∀d∈z0T r,d.one=true:=by
 intro d hd
 simp only [z0T,xnC,List.mem_cons,List.not_mem_nil,or_false] at hd
 rcases hd with rfl|rfl|rfl<;>rfl
def nums (l:List Rat):List DV:=l.flatMap z0T
theorem z1A (l:List Rat):(nums l).length=l.length*3:=z34 z1i l
theorem z1q (l:List Rat):∀d∈nums l,d.rf=true:=x0r z1z l
theorem y9y (l:List Rat):∀d∈nums l,d.one=true:=x8M z3N l
theorem z4s (l:List Rat) (r:Rat):nums l++z0T r=nums (l++[r]):=y2h l r
def rwL (k:Nat) (f:Nat→Rat):List Rat:=(List.range k).map f
theorem y7r (k:Nat) (f:Nat→Rat):(rwL k f).length=k:=by unfold rwL;rw [List.length_map,List.length_range]
theorem w1S {k j:Nat} (h:j<k) (f:Nat→Rat) (d:Rat):(rwL k f).getD j d=f j:=by
 unfold rwL;rw [zO1,List.getElem?_map,List.getElem?_range h];rfl
theorem x5r {k:Nat} {f g:Nat→Rat} (h:∀j,j<k→f j=g j):rwL k f=rwL k g :=
 List.map_congr_left fun j hj=>h j (List.mem_range.1 hj)
theorem y9W (k:Nat) (f:Nat→Rat):rwL (k+1) f=rwL k f++[f k]:=by
 unfold rwL;rw [List.range_succ,List.map_append];rfl
def rwC (k:Nat) (f:Nat→Rat):List DV:=nums (rwL k f)
theorem z2l (k:Nat) (f:Nat→Rat):(rwC k f).length=k*3:=by unfold rwC;rw [z1A,y7r]
theorem z9W (k:Nat) (f:Nat→Rat):∀d∈rwC k f,d.rf=true:=z1q _
theorem x5q {k:Nat} {f g:Nat→Rat} (h:∀j,j<k→f j=g j):rwC k f=rwC k g:=congrArg nums (x5r h)
theorem z6U {k j:Nat} (h:j<k) (f:Nat→Rat):((rwC k f).drop (j*3)).take 3=z0T (f j):=by
 have:=z1m (j:=0) (k:=3) z1i (0:Rat) (l:=rwL k f) (i:=j) (by rw [y7r];exact h) (Nat.le_refl _)
 rw [w1S h] at this
 exact this
def mtD (n k:Nat) (M:Mt):List DV:=(List.range n).map fun i=>.sl 3 (rwC k (M i))
theorem z9A (n k:Nat) (M:Mt):(mtD n k M).length=n:=by unfold mtD;rw [List.length_map,List.length_range]
theorem y1w (n k:Nat) (M:Mt):∀d∈mtD n k M,d.rf=true:=by
 intro d hd
 unfold mtD at hd
 obtain ⟨i,_,rfl⟩:=List.mem_map.1 hd
 have:=z9W k (M i)
 simp [DV.rf,List.all_eq_true.2 this]
theorem y44 {n k:Nat} {M M':Mt} (h:∀i,i<n→∀j,j<k→M i j=M' i j):mtD n k M=mtD n k M':=by
 unfold mtD;exact List.map_congr_left fun i hi=>by rw [x5q (h i (List.mem_range.1 hi))]
theorem z9z {n k i:Nat} (h:i<n) (M:Mt) (d:DV):(mtD n k M).getD i d=.sl 3 (rwC k (M i)):=by
 unfold mtD;rw [zO1,List.getElem?_map,List.getElem?_range h];rfl
def y29 (rs:List (List DV)):List DV:=rs.map (.sl 3)
theorem z9S (rs:List (List DV)):(y29 rs).length=rs.length:=List.length_map _
theorem z6a {rs:List (List DV)} {i:Nat} (h:i<rs.length) (d:DV):(y29 rs).getD i d=.sl 3 (rs.getD i []):=by
 unfold y29;rw [zO1,zO1,List.getElem?_map,zO4 h];rfl
def x6K (rs:List (List DV)):Bool:=decide (rs.length≤96) && rs.all fun r=>decide (1≤r.length / 3) && decide (r.length / 3≤96) && decide (r.length / 3=(rs.getD 0 []).length / 3)
theorem w0f {rs:List (List DV)} {i:Nat} (hi:i<rs.length) (h:¬(1≤(rs.getD i []).length / 3∧(rs.getD i []).length / 3≤96∧(rs.getD i []).length / 3=(rs.getD 0 []).length / 3)):x6K rs=false:=by
 cases e:x6K rs with
 | false=>rfl
 | true =>
  exfalso;apply h
  unfold x6K at e
  simp only [Bool.and_eq_true,List.all_eq_true,decide_eq_true_eq] at e
  have hm:rs.getD i []∈rs:=by rw [zO1,zO4 hi];exact List.getElem_mem hi
  have:=e.2 _ hm
  exact ⟨this.1.1,this.1.2,this.2⟩
theorem y8U {rs:List (List DV)} (hl:rs.length≤96) (h:∀i,i<rs.length→1≤(rs.getD i []).length / 3∧(rs.getD i []).length / 3≤96∧(rs.getD i []).length / 3=(rs.getD 0 []).length / 3):x6K rs=true:=by
 unfold x6K
 simp only [Bool.and_eq_true,List.all_eq_true,decide_eq_true_eq]
 refine ⟨hl,fun r hr=>?_⟩
 obtain ⟨i,hi,rfl⟩:=List.getElem_of_mem hr
 have:=h i hi
 rw [show rs.getD i []=rs[i] by rw [zO1,zO4 hi];rfl] at this
 exact ⟨⟨this.1,this.2.1⟩,this.2.2⟩
theorem y9v (n k:Nat) (M:Mt):mtD n k M=y29 ((List.range n).map fun i=>rwC k (M i)):=by unfold mtD y29;rw [List.map_map];rfl
end Nat32
namespace Go.Dat
open Go
end Go.Dat
namespace Nat32
def BS (r:Rat) (m:Nat):Prop:=r.num.natAbs<2 ^ m∧r.den<2 ^ m
theorem BS.mono {r:Rat} {m n:Nat} (h:BS r m) (hm:m≤n):BS r n :=
 ⟨Nat.lt_of_lt_of_le h.1 (Nat.pow_le_pow_right (by decide) hm),Nat.lt_of_lt_of_le h.2 (Nat.pow_le_pow_right (by decide) hm)⟩
theorem x55 {z:Int} {d m:Nat} (h:d≠0) (h1:z.natAbs<2 ^ m) (h2:d<2 ^ m):BS (mkRat z d) m:=by
 have hg:0<Nat.gcd z.natAbs d:=Nat.gcd_pos_of_pos_right _ (Nat.pos_of_ne_zero h)
 have hd:((Nat.gcd z.natAbs d:Nat):Int)∣z:=Int.ofNat_dvd_left.2 (Nat.gcd_dvd_left z.natAbs d)
 unfold BS
 rw [Rat.num_mkRat,Rat.den_mkRat,if_neg h,if_neg h,Nat.gcd_comm d,(y8D hd hg).1]
 exact ⟨Nat.lt_of_le_of_lt (Nat.div_le_self _ _) h1,Nat.lt_of_le_of_lt (Nat.div_le_self _ _) h2⟩
theorem x9R {a b m n:Nat} (h1:a<2 ^ m) (h2:b<2 ^ n):a*b<2 ^ (m+n):=by
 rw [Nat.pow_add]
 exact Nat.lt_of_le_of_lt (Nat.mul_le_mul_left a (Nat.le_of_lt h2)) ((Nat.mul_lt_mul_right (Nat.two_pow_pos n)).2 h1)
theorem w2L {x y:Rat} {m n:Nat} (h1:BS x m) (h2:BS y n):BS (x+y) (m+n+1):=by
 rw [Rat.add_def']
 have e1:=x9R h1.1 h2.2
 have e2:=x9R h1.2 h2.1
 have e3:=x9R h1.2 h2.2
 have hp:2 ^ (m+n+1)=2 ^ (m+n)+2 ^ (m+n):=by rw [Nat.pow_succ];omega
 refine x55 (Nat.mul_ne_zero x.den_nz y.den_nz) ?_ (by rw [hp];omega)
 have a1:(x.num*(y.den:Int)).natAbs=x.num.natAbs*y.den:=by rw [Int.natAbs_mul,Int.natAbs_natCast]
 have a2:(y.num*(x.den:Int)).natAbs=x.den*y.num.natAbs:=by rw [Int.natAbs_mul,Int.natAbs_natCast,Nat.mul_comm]
 rw [hp]
 omega
theorem z5r {x y:Rat} {m n:Nat} (h1:BS x m) (h2:BS y n):BS (x*y) (m+n):=by
 rw [Rat.mul_def']
 exact x55 (Nat.mul_ne_zero x.den_nz y.den_nz) (by rw [Int.natAbs_mul];exact x9R h1.1 h2.1) (x9R h1.2 h2.2)
theorem y7P {x:Rat} {m:Nat} (h:BS x m):BS (-x) m:=by unfold BS;rw [Rat.neg_num,Rat.neg_den,Int.natAbs_neg];exact h
theorem y3z {z e:Int} {m:Nat} (he:e≠0) (h1:z.natAbs<2 ^ m) (h2:e.natAbs<2 ^ m):BS (Rat.divInt z e) m:=by
 rcases Int.lt_or_gt_of_ne he with h|h
 ·rw [y01 z h];exact x55 (by omega) (by rwa [Int.natAbs_neg]) h2
 ·rw [z6w z h];exact x55 (by omega) h1 h2
theorem x11 {x y:Rat} {m n:Nat} (hy:y≠0) (h1:BS x m) (h2:BS y n):BS (x / y) (m+n):=by
 rw [←x4W]
 refine y3z (Int.mul_ne_zero (by have:=x.den_nz;omega) (fun e=>hy (Rat.num_eq_zero.1 e))) ?_ ?_
 ·rw [Int.natAbs_mul,Int.natAbs_natCast];exact x9R h1.1 h2.2
 ·rw [Int.natAbs_mul,Int.natAbs_natCast];exact x9R h1.2 h2.1
theorem x8w:BS 1 1:=⟨by decide,by decide⟩
theorem w7n:BS 0 1:=⟨by decide,by decide⟩
theorem y56 {r:Rat} {m l:Nat} (h:BS r m) (hm:m≤32*l):RB r l:=by
 have e:(4294967296:Nat) ^ l=2 ^ (32*l):=by rw [Nat.pow_mul]
 have hp:2 ^ m≤2 ^ (32*l):=Nat.pow_le_pow_right (by decide) hm
 unfold RB
 rw [z0B,z0B,e]
 exact ⟨Nat.lt_of_lt_of_le h.1 hp,Nat.lt_of_lt_of_le h.2 hp⟩
def MS (n k:Nat) (M:Mt) (m:Nat):Prop:=∀i,i<n→∀j,j<k→BS (M i j) m
theorem MS.swap {n k a b m:Nat} {M:Mt} (h:MS n k M m) (ha:a<n) (hb:b<n):MS n k (z3W a b M) m:=fun i hi j hj=>by
 unfold z3W
 split
 ·exact h b hb j hj
 ·split
  ·exact h a ha j hj
  ·exact h i hi j hj
theorem MS.elimM {n k t j m:Nat} {M:Mt} (h:MS n k M m) (ht:t<n) (hj:j<k) (hne:M t j≠0):MS n k (elimM t j M) (4*m+2):=fun i hi c hc=>by
 have h1:BS (M t c*(1 / M t j)) (m+(1+m)):=z5r (h t ht c hc) (x11 hne x8w (h t ht j hj))
 unfold Nat32.elimM
 split
 ·exact h1.mono (by omega)
 ·exact (w2L (h i hi c hc) (z5r h1 (y7P (h i hi j hj)))).mono (by omega)
def gB (b:Nat):Nat→Nat
 | 0=>b
 | t+1=>4*gB b t+2
def eB (b:Nat):Nat→Nat
 | 0=>b
 | t+1=>4*eB b t+1
end Nat32
namespace Nat32
open Go Go.Dat
def w2C (x:XN):Bool:=z5p x.1 x.2.1 x.2.2 && decide ((xnV x).num.sign=0)
def y8H (k:Kx) (x:Tc):Bool :=
 if x.mi then w2C x.va && decide (x.lv=0) else if k.kd=1 then z5p x.va.1 x.va.2.1 x.va.2.2 && decide (x.lv=0) else w2C x.va && decide (0≤x.lv) && decide (x.lv<k.le.length)
def x1Z (k:Kx) (n:Int):Bool:=(decide (k.kd=1) || decide (k.kd=2)) && !(decide (k.kd=1) && decide (0<k.le.length)) && decide (k.le.length≤32) && decide ((k.ce.length:Int)=n)
def x8H (l:List Bs):Bool:=(List.range l.length).all fun i=>decide (ixS (l.take i) (l.getD i [])<0)
def x1W (k:Kx) (n:Int):Bool:=x1Z k n && x8H k.le && k.ce.all (y8H k)
def z1t (l:List Kx):List Bs:=l.map Kx.nm
theorem z1b (l:List Kx):(z1t l).length=l.length:=List.length_map _
def x10 (n:Int) (S:List Kx):Bool:=decide (0≤n) && decide (n≤1024) && decide (S.length≤32) && z55 (z1t S) && S.all fun k=>x1W k n
theorem x2E {l:List Bs} {i:Nat} (hi:i<l.length) (h:¬ixS (l.take i) (l.getD i [])<0):x8H l=false:=by
 unfold x8H
 rw [List.all_eq_false]
 exact ⟨i,List.mem_range.2 hi,by simpa using h⟩
theorem y8C {l:List Bs} (h:∀i,i<l.length→ixS (l.take i) (l.getD i [])<0):x8H l=true:=by
 unfold x8H
 rw [List.all_eq_true]
 exact fun i hi=>by simpa using h i (List.mem_range.1 hi)
theorem y12 {α:Type} (p:α→Bool):∀l:List α,(l.any fun x=>!p x)=!l.all p
 | []=>rfl
 | x::l=>by rw [List.any_cons,List.all_cons,y12 p l];cases p x<;>rfl
theorem w5y:w2C (false,[],[])=true:=by decide +kernel
def z22 (S:List Kx) (names:List Bs):List Kx:=names.map fun s=>S.getD (ixS (z1t S) s).toNat default
def x03 (r:Nat) (k:Kx):Bool:=(k.ce.getD r default).mi
def z1c (U:List Kx) (n:Nat):List Nat:=(List.range n).filter fun r=>!U.any (x03 r)
def ints (l:List Nat):List DV:=l.map fun r=>.int .i64 (r:Nat)
theorem z28 (l:List Nat):(ints l).length=l.length:=List.length_map _
theorem z5g (l:List Nat):∀d∈ints l,d.rf=true:=by
 intro d hd
 unfold ints at hd
 obtain ⟨_,_,rfl⟩:=List.mem_map.1 hd
 rfl
theorem y5D {U:List Kx} {n:Nat} (h:U.any (x03 n)=false):z1c U (n+1)=z1c U n++[n]:=by
 unfold z1c
 rw [List.range_succ,List.filter_append,List.filter_cons,if_pos (by rw [h];rfl)];rfl
theorem y9Q {U:List Kx} {n:Nat} (h:U.any (x03 n)=true):z1c U (n+1)=z1c U n:=by
 unfold z1c
 rw [List.range_succ,List.filter_append,List.filter_cons,if_neg (by rw [h];decide)];simp
theorem z8d (U:List Kx) (n:Nat):(z1c U n).length≤n:=by
 unfold z1c
 exact Nat.le_trans (List.length_filter_le _ _) (by simp)
theorem w6T (k:Int) {n:Nat} (hn:0<n) : -(n:Int)<k.tmod n∧k.tmod n<n∧(k.tmod n<0→k.tmod n+n=k % n)∧(¬k.tmod n<0→k.tmod n=k % n):=by
 have hp:(0:Int)<(n:Int):=by omega
 have h1:=Int.emod_nonneg k (show (n:Int)≠0 by omega)
 have h2:=Int.emod_lt_of_pos k hp
 by_cases h:0≤k
 ·rw [Int.tmod_eq_emod_of_nonneg h];omega
 ·obtain ⟨m,hm⟩:∃m:Nat,k = -(m:Int):=⟨k.natAbs,by omega⟩
  subst hm
  rw [Int.neg_tmod,Int.tmod_eq_emod_of_nonneg (by omega)]
  have h3:=Int.emod_nonneg (m:Int) (show (n:Int)≠0 by omega)
  have h4:=Int.emod_lt_of_pos (m:Int) hp
  have h5:=Int.emod_add_mul_ediv (m:Int) n
  have h6:=Int.emod_add_mul_ediv (-(m:Int)) n
  clear h1 h2 h6
  refine ⟨by omega,by omega,fun h=>?_,fun h=>?_⟩
  ·have hm:(n:Int)*(-((m:Int) / n) - 1) = -((n:Int)*((m:Int) / n)) - n:=by rw [Int.mul_sub,Int.mul_neg,Int.mul_one]
   have e : -(m:Int)=((n:Int) - (m:Int) % n)+n*(-((m:Int) / n) - 1):=by omega
   have key:(-(m:Int)) % n=(n:Int) - (m:Int) % n:=by
    rw [e,Int.add_mul_emod_self_left]
    exact Int.emod_eq_of_lt (by omega) (by omega)
   omega
  ·have e0:(m:Int) % n=0:=by omega
   have hm:(n:Int)*(-((m:Int) / n)) = -((n:Int)*((m:Int) / n)):=Int.mul_neg _ _
   have e : -(m:Int)=0+n*(-((m:Int) / n)):=by omega
   have key:(-(m:Int)) % n=0:=by
    rw [e,Int.add_mul_emod_self_left];rfl
   omega
theorem x5R (S:List Kx) (a:List Bs):(z22 S a).length=a.length:=List.length_map _
theorem x5Q (S:List Kx) {a:List Bs} {i:Nat} (h:i<a.length):(z22 S a).getD i default=S.getD (ixS (z1t S) (a.getD i [])).toNat default:=by
 unfold z22
 rw [zO1,List.getElem?_map,zO4 h,zO1 (l:=a),zO4 h];rfl
theorem x2g {α:Type} [Inhabited α] (p:α→Bool) {l:List α} {i:Nat} (h:i<l.length):(l.take (i+1)).any p=((l.take i).any p || p (l.getD i default)):=by
 rw [z0z default h,List.any_append];simp
theorem x1V (r:Rat):xnV (qX r)=r:=x1Y r
theorem x4C {f:Nat→Option Nat} (hf:∀o,f o=some o) (cs:List DV):cs.map (rn f)=cs:=by rw [←y27,y9M hf]
def mtX (x:List (List XN)):Mt:=fun i j=>xnV ((x.getD i []).getD j default)
def xrs (x:List (List XN)):List DV:=y29 (x.map fun r=>r.flatMap xnC)
theorem z63 (x:XN):(xnC x).length=3:=rfl
theorem w5v (x:XN):∀d∈xnC x,d.rf=true:=by
 intro d hd
 simp only [xnC,List.mem_cons,List.not_mem_nil,or_false] at hd
 rcases hd with rfl|rfl|rfl<;>rfl
theorem w2A (x:List (List XN)):(xrs x).length=x.length:=by unfold xrs;rw [z9S,List.length_map]
theorem y3v {x:List (List XN)} {i:Nat} (h:i<x.length):(x.map fun r=>r.flatMap xnC).getD i []=(x.getD i []).flatMap xnC:=by
 rw [zO1,zO1,List.getElem?_map,zO4 h];rfl
theorem w2z {x:List (List XN)} {i:Nat} (h:i<x.length) (d:DV):(xrs x).getD i d=.sl 3 ((x.getD i []).flatMap xnC):=by
 unfold xrs;rw [z6a (by rw [List.length_map];exact h),y3v h]
def z3M (ps:List Nat):List DV:=ps.map fun p:Nat=>DV.int .i64 (p:Int)
theorem z9o (ps:List Nat):(z3M ps).length=ps.length:=List.length_map _
theorem y2x (ps:List Nat):∀d∈z3M ps,d.rf=true:=by
 intro d hd;obtain ⟨p,_,rfl⟩:=List.mem_map.1 hd;rfl
theorem x0w (ps:List Nat) (j:Nat):z3M ps++[.int .i64 j]=z3M (ps++[j]):=by unfold z3M;simp
theorem w1R (n k:Nat) (M:Mt):(rrP n k M).length≤n:=(y5E n k M).1.len
end Nat32
