/- Lemmas of the walk; no conditions beyond those that each states. -/
import Derived.OpenShut
import Derived.Below
import Derived.Lib.SmallJoins
import Derived.Lib.ItoaNum
import Derived.Lib.Repeat
import Derived.Lib.SplitLaws
import Derived.ShutString
import Derived.Test.YtlcagndeidjobaaGreatDoorD3
import Derived.Test.YtlcagndeidjobaaGreatDoorD4
import Derived.Test.YtlcagndeidjobaaGreatDoorD5
set_option linter.unusedSimpArgs false
set_option linter.unusedVariables false
set_option linter.unnecessarySimpa false
set_option maxHeartbeats 4000000
namespace Nat32
def nv:List Nat→Nat
 | []=>0
 | x::r=>x+4294967296*nv r
def limbs (n:Nat):List Nat:=if h:n=0 then [] else (n % 4294967296)::limbs (n / 4294967296)
 termination_by n
 decreasing_by omega
def lim (a:List Nat):Prop:=∀x∈a,x<4294967296
def vld (a:List Nat):Bool:=decide (a.length=0∨a.getD (a.length - 1) 0≠0)
def val (a:List Nat):List Nat:=if vld a then a else []
def z3I (a:List Nat):Nat→Nat
 | 0=>0
 | n+1=>if a.getD n 0=0 then z3I a n else n+1
def x2g (a:List Nat):List Nat:=a.take (z3I a a.length)
theorem z0t:limbs 0=[]:=by rw [limbs];simp
theorem z14 {n:Nat} (h:n≠0):limbs n=(n % 4294967296)::limbs (n / 4294967296):=by rw [limbs];simp [h]
theorem z1t {n:Nat}:limbs n=[]↔n=0:=by
 constructor
 ·intro h;rcases Nat.eq_zero_or_pos n with e|e
  ·exact e
  ·rw [z14 (by omega)] at h;cases h
 ·rintro rfl;exact z0t
theorem z0I (n:Nat):nv (limbs n)=n:=by
 induction n using Nat.strongRecOn with
 | _ n ih =>
  by_cases h:n=0
  ·subst h;rw [z0t];rfl
  ·rw [z14 h,nv,ih _ (by omega)];omega
theorem z0f (n:Nat):lim (limbs n):=by
 induction n using Nat.strongRecOn with
 | _ n ih =>
  by_cases h:n=0
  ·subst h;rw [z0t];intro x hx;cases hx
  ·rw [z14 h]
   intro x hx
   rcases List.mem_cons.1 hx with e|e
   ·subst e;omega
   ·exact ih _ (by omega) x e
theorem z1v:lim []:=by intro x hx;cases hx
theorem z2m {x:Nat} {r:List Nat}:lim (x::r)↔x<4294967296∧lim r:=by
 constructor
 ·intro h;exact ⟨h x (by simp),fun y hy=>h y (by simp [hy])⟩
 ·rintro ⟨h1,h2⟩ y hy
  rcases List.mem_cons.1 hy with e|e
  ·subst e;exact h1
  ·exact h2 y e
theorem z3b {a:List Nat} (h:lim a) (n:Nat):lim (a.take n):=fun x hx=>h x (List.mem_of_mem_take hx)
theorem z0J {a:List Nat} (h:lim a) (k:Nat):a.getD k 0<4294967296:=by
 rw [zO1]
 cases e:a[k]? with
 | none=>simp
 | some x=>exact h x (List.mem_of_getElem? e)
theorem y9g {x y:Nat} {r:List Nat}:vld (x::y::r)=vld (y::r):=by
 unfold vld
 simp [zO1]
theorem z77 {a:List Nat} (hl:lim a) (hv:vld a=true):limbs (nv a)=a:=by
 induction a with
 | nil=>exact z0t
 | cons x r ih =>
  obtain ⟨hx,hr⟩:=z2m.1 hl
  cases r with
  | nil =>
   have:x≠0:=by simpa [vld] using hv
   simp only [nv,Nat.mul_zero,Nat.add_zero]
   rw [z14 this,Nat.mod_eq_of_lt hx,Nat.div_eq_of_lt hx,z0t]
  | cons y r =>
   rw [y9g] at hv
   have h:=ih hr hv
   have hne:nv (y::r)≠0:=by
    intro e;rw [e,z0t] at h;cases h
   rw [nv,z14 (by omega)]
   have e1:(x+4294967296*nv (y::r)) % 4294967296=x:=by omega
   have e2:(x+4294967296*nv (y::r)) / 4294967296=nv (y::r):=by omega
   rw [e1,e2,h]
theorem z2B (a b:List Nat):nv (a++b)=nv a+4294967296 ^ a.length*nv b:=by
 induction a with
 | nil=>simp [nv]
 | cons x a ih =>
  simp only [List.cons_append,nv,ih,List.length_cons,Nat.pow_succ,Nat.mul_add]
  rw [←Nat.mul_assoc,Nat.mul_comm (4294967296 ^ a.length) 4294967296]
  omega
theorem z2t {a:List Nat} {n:Nat} (h:n<a.length):a.take (n+1)=a.take n++[a.getD n 0]:=by
 rw [List.take_succ_eq_append_getElem h,zO1,zO4 h];rfl
theorem z4n {a:List Nat} {n:Nat} (h:n<a.length):nv (a.take (n+1))=nv (a.take n)+4294967296 ^ n*a.getD n 0:=by
 rw [z2t h,z2B]
 rw [List.length_take,Nat.min_eq_left (by omega)];simp [nv]
theorem y7Y (a:List Nat):∀n,z3I a n≤n
 | 0=>Nat.le_refl _
 | n+1=>by
  have:=y7Y a n
  simp only [z3I];split<;>omega
theorem y1e (a:List Nat):∀n,n≤a.length→nv (a.take (z3I a n))=nv (a.take n)∧vld (a.take (z3I a n))=true
 | 0,_=>by simp [z3I,nv,vld]
 | n+1,h=>by
  simp only [z3I]
  split
  ·rename_i h0
   obtain ⟨h1,h2⟩:=y1e a n (by omega)
   refine ⟨?_,h2⟩
   rw [h1,z4n (by omega),h0];omega
  ·rename_i h0
   refine ⟨rfl,?_⟩
   unfold vld
   rw [z2t (by omega)]
   simp only [decide_eq_true_eq]
   right
   have hl:(a.take n).length=n:=by simp;omega
   simp only [List.length_append,hl,List.length_singleton,Nat.add_sub_cancel]
   rw [zO1,List.getElem?_append_right (by omega),hl]
   simpa using h0
theorem z9S {a:List Nat} (hl:lim a):x2g a=limbs (nv a):=by
 obtain ⟨h1,h2⟩:=y1e a a.length (Nat.le_refl _)
 rw [List.take_length] at h1
 have:=z77 (z3b hl (z3I a a.length)) h2
 rw [h1] at this
 exact this.symm
theorem w0p {a:List Nat} (h:lim a):lim (val a):=by unfold val;split;exact h;exact z1v
theorem x8S (a:List Nat):vld (val a)=true:=by
 unfold val
 by_cases h:vld a=true
 ·rw [if_pos h];exact h
 ·rw [if_neg h];rfl
def vn (a:List Nat):Nat:=nv (val a)
theorem z3A {a:List Nat} (h:lim a):val a=limbs (vn a):=(z77 (w0p h) (x8S a)).symm
theorem y6q (a:List Nat):(val a).length≤a.length:=by unfold val;split<;>simp
theorem z5z (n:Nat):vld (limbs n)=true:=by
 have:∀n,∀k,k≤n→vld (limbs k)=true:=by
  intro n
  induction n with
  | zero=>intro k hk;have:k=0:=by omega
          subst this;rw [z0t];rfl
  | succ n ih =>
   intro k hk
   by_cases h:k=0
   ·subst h;rw [z0t];rfl
   ·rw [z14 h]
    by_cases h2:k / 4294967296=0
    ·rw [h2,z0t]
     have:k % 4294967296≠0:=by omega
     simp [vld,this]
    ·have:=ih (k / 4294967296) (by omega)
     rw [z14 h2] at this ⊢
     rw [y9g];exact this
 exact this n n (Nat.le_refl _)
theorem z0y (n:Nat):vn (limbs n)=n:=by rw [vn,val,z5z,if_pos rfl,z0I]
theorem z4A {m n:Nat} (h:limbs m=limbs n):m=n:=by rw [←z0I m,h,z0I]
theorem z9Z {a:List Nat} (h:lim a):nv a<4294967296 ^ a.length:=by
 induction a with
 | nil=>simp [nv]
 | cons x r ih =>
  obtain ⟨hx,hr⟩:=z2m.1 h
  have:=ih hr
  simp only [nv,List.length_cons,Nat.pow_succ]
  omega
theorem z0A {n k:Nat}:(limbs n).length≤k↔n<4294967296 ^ k:=by
 constructor
 ·intro h
  have:=z9Z (z0f n)
  rw [z0I] at this
  exact Nat.lt_of_lt_of_le this (Nat.pow_le_pow_right (by decide) h)
 ·intro h
  induction k generalizing n with
  | zero=>have:n=0:=by simpa using h
          subst this;rw [z0t];simp
  | succ k ih =>
   by_cases h0:n=0
   ·subst h0;rw [z0t];simp
   ·rw [z14 h0]
    have:=ih (n:=n / 4294967296) (by rw [Nat.div_lt_iff_lt_mul (by decide),←Nat.pow_succ];exact h)
    simp only [List.length_cons];omega
end Nat32
namespace Nat32
open Go Go.Dat
def u32 (n:Nat):DV:=.int .u32 n
def us (xs:List Nat):List DV:=xs.map u32
theorem z0a (xs:List Nat):(us xs).length=xs.length:=by simp [us]
theorem z0S {xs:List Nat} {k:Nat} (h:k<xs.length):(us xs).getD k .undef=.int .u32 (xs.getD k 0:Nat):=by
 simp [us,zO1,List.getElem?_map,zO4 h,u32]
theorem x46 (xs:List Nat) (k:Nat):(us xs).take k=us (xs.take k):=by simp [us,List.map_take]
theorem x2c:us []=[]:=rfl
theorem z4i (xs:List Nat):(us xs).all DV.rf=true:=by simp [us,u32,DV.rf]
theorem x8x (xs:List Nat):(∀d∈us xs,d.one=true)=True:=by simp [us,u32,DV.one]
theorem z8a (o:Nat) (xs:List Nat):(us xs).map (purge o)=us xs:=by simp [us,u32,z9n]
theorem z38 (xs:List Nat) (k n:Nat):(us xs).set k (.int .u32 n)=us (xs.set k n):=by simp [us,u32,List.map_set]
theorem z65 (n:Nat):rep n [DV.int .u32 0]=us (List.replicate n 0):=by simp [us,u32,rep]
theorem us2 (x y:Nat):[DV.int .u32 x,DV.int .u32 y]=us [x,y]:=rfl
theorem z0n {o len:Nat} {q:List Nat} (h:len=q.length):frz o (us q) (.osl 1 o 0 len)=.sl 1 (us q):=by
 subst h
 rw [z6D o (us q) 0 q.length (by decide) (by simp [z0a])]
 simp [←z0a]
def z9t (x y:Nat):Int:=if x<y then -1 else if y<x then 1 else 0
theorem y1q {x y:Nat} (h:(limbs x).length<(limbs y).length):x<y:=by
 have h1:¬(limbs y).length≤(limbs x).length:=by omega
 rw [z0A] at h1
 have h2:=z0A.1 (Nat.le_refl (limbs x).length)
 omega
theorem z5w {a:List Nat} {m:Nat} (h:m<a.length):nv a=nv (a.take m)+4294967296 ^ m*(a.getD m 0+4294967296*nv (a.drop (m+1))):=by
 have e:a=a.take m++(a.getD m 0::a.drop (m+1)):=by
  rw [zO1,zO4 h];simp
 have:=z2B (a.take m) (a.getD m 0::a.drop (m+1))
 rw [←e,List.length_take,Nat.min_eq_left (by omega)] at this
 rw [this];rfl
theorem z8e {a b:List Nat} {m:Nat} (ha:lim a) (hma:m<a.length) (hmb:m<b.length) (hd:a.drop (m+1)=b.drop (m+1)) (h:a.getD m 0<b.getD m 0):nv a<nv b:=by
 rw [z5w hma,z5w hmb,hd]
 have h1:=z9Z (z3b ha m)
 rw [List.length_take,Nat.min_eq_left (by omega)] at h1
 have h2:4294967296 ^ m*(a.getD m 0+4294967296*nv (b.drop (m+1))+1)≤4294967296 ^ m*(b.getD m 0+4294967296*nv (b.drop (m+1))):=Nat.mul_le_mul_left _ (by omega)
 rw [Nat.mul_add,Nat.mul_one] at h2
 omega
theorem y5R {a b:List Nat} {m:Nat} (hma:m<a.length) (hmb:m<b.length) (hd:a.drop (m+1)=b.drop (m+1)) (h:a.getD m 0=b.getD m 0):a.drop m=b.drop m:=by
 rw [List.drop_eq_getElem_cons hma,List.drop_eq_getElem_cons hmb,hd]
 congr 1
 rw [zO1,zO4 hma,zO1,zO4 hmb] at h
 exact h
theorem y34 {x y:Nat} (h:(limbs x).length≠(limbs y).length):z9t x y=if (limbs x).length<(limbs y).length then -1 else 1:=by
 unfold z9t
 by_cases h1:(limbs x).length<(limbs y).length
 ·rw [if_pos (y1q h1),if_pos h1]
 ·have:=y1q (x:=y) (y:=x) (by omega)
  rw [if_neg (by omega),if_pos this,if_neg h1]
theorem x3f {a b:List Nat} {n:Nat} (hna:n<a.length) (hnb:n<b.length) (ht:a.take n=b.take n) (h:a.getD n 0=b.getD n 0):a.take (n+1)=b.take (n+1):=by
 rw [z2t hna,z2t hnb,ht,h]
end Nat32
namespace Go.Dat
open Go
theorem y2C (a b:Nat) (ha:a<18446744073709551616) (hb:b<18446744073709551616):z24 .or .u64 (a:Int) (b:Int)=((a ||| b:Nat):Int):=by
 unfold z24
 have e1:(BitVec.ofInt IntKind.u64.bits (a:Int)).toNat=a:=by
  rw [BitVec.ofInt_natCast,BitVec.toNat_ofNat]
  exact Nat.mod_eq_of_lt ha
 have e2:(BitVec.ofInt IntKind.u64.bits (b:Int)).toNat=b:=by
  rw [BitVec.ofInt_natCast,BitVec.toNat_ofNat]
  exact Nat.mod_eq_of_lt hb
 simp only [BitVec.toNat_or,e1,e2]
 rw [IntKind.wrap_u64]
 have:a ||| b<2 ^ 64:=Nat.or_lt_two_pow (by simpa using ha) (by simpa using hb)
 omega
theorem x8m {h x:Nat} (hx:x<4294967296):(4294967296*h) ||| x=4294967296*h+x:=by
 have:=Nat.two_pow_add_eq_or_of_lt (i:=32) (b:=x) hx h
 simpa using this.symm
theorem w5z {h x:Nat} (hx:x<4294967296) (hs:4294967296*h+x<18446744073709551616) :
  z24 .or .u64 ((h:Int)*2 ^ min (Int.toNat 32) IntKind.u64.bits % 18446744073709551616) ((x:Int) % 18446744073709551616)=((4294967296*h+x:Nat):Int):=by
 have e:(2 ^ min (Int.toNat 32) IntKind.u64.bits:Int)=((4294967296:Nat):Int):=by decide
 rw [e,show (h:Int)*((4294967296:Nat):Int) % 18446744073709551616=((4294967296*h:Nat):Int) by omega,show (x:Int) % 18446744073709551616=(x:Int) by omega,y2C _ _ (by omega) (by omega),x8m hx]
end Go.Dat
namespace Nat32
theorem y29 {a:List Nat} (h:lim a) (n:Nat):lim (a.drop n):=fun x hx=>h x (List.mem_of_mem_drop hx)
theorem z5i {a:List Nat} {m:Nat} (h:m<a.length):nv (a.drop m)=a.getD m 0+4294967296*nv (a.drop (m+1)):=by
 rw [List.drop_eq_getElem_cons h,zO1,zO4 h];rfl
end Nat32
namespace Nat32
open Go Go.Dat
theorem y11 (a b:Nat):((a:Int)).tdiv (b:Int)=((a / b:Nat):Int):=(Int.ofNat_tdiv a b).symm
theorem z8i (a b:Nat):((a:Int)).tmod (b:Int)=((a % b:Nat):Int):=(Int.ofNat_tmod a b).symm
theorem x2M (m q:Nat) (ds:List Nat):(List.replicate (m+1) 0++ds).set m q=List.replicate m 0++(q::ds):=by
 induction m with
 | zero=>rfl
 | succ m ih=>rw [List.replicate_succ,List.cons_append,List.set_cons_succ,ih];rfl
theorem x8f {hi lo y:Nat} (h1:hi<y) (h2:lo<4294967296):(4294967296*hi+lo) / y<4294967296:=by
 rw [Nat.div_lt_iff_lt_mul (by omega)]
 have:4294967296*(hi+1)≤4294967296*y:=Nat.mul_le_mul_left _ h1
 omega
theorem x6j {N d x:Nat} (hd:0<d):(x+4294967296*N) / d=(4294967296*(N % d)+x) / d+4294967296*(N / d)∧(x+4294967296*N) % d=(4294967296*(N % d)+x) % d:=by
 have h:x+4294967296*N=(4294967296*(N % d)+x)+d*(4294967296*(N / d)):=by
  have:=Nat.div_add_mod N d
  have e:d*(4294967296*(N / d))=4294967296*(d*(N / d)):=by
   rw [←Nat.mul_assoc,Nat.mul_comm d,Nat.mul_assoc]
  rw [e];omega
 rw [h]
 exact ⟨by rw [Nat.add_mul_div_left _ _ hd],by rw [Nat.add_mul_mod_self_left]⟩
theorem z22 {x:Nat} (h0:x≠0) (h:x<4294967296):limbs x=[x]:=by
 rw [z14 h0,Nat.mod_eq_of_lt h,Nat.div_eq_of_lt h,z0t]
theorem z0H {a:List Nat} (n:Nat):nv (a.take (n+1))=nv (a.take n)+4294967296 ^ n*a.getD n 0:=by
 by_cases h:n<a.length
 ·exact z4n h
 ·rw [List.take_of_length_le (by omega),List.take_of_length_le (by omega)]
  have:a.getD n 0=0:=by rw [zO1,List.getElem?_eq_none (by omega)];rfl
  rw [this];omega
theorem y6Z (k v:Nat) (ds:List Nat):(ds++List.replicate (k+1) 0).set ds.length v=(ds++[v])++List.replicate k 0:=by
 rw [List.set_append_right _ _ (Nat.le_refl _)]
 simp [List.replicate_succ]
theorem y25 {X Y D P x y c:Nat} (h:D+P*c=X+Y):(D+P*((x+y+c) % 4294967296))+(P*4294967296)*((x+y+c) / 4294967296)=(X+P*x)+(Y+P*y):=by
 have h1:=Nat.div_add_mod (x+y+c) 4294967296
 have h2:P*((x+y+c) % 4294967296)+(P*4294967296)*((x+y+c) / 4294967296)=P*(x+y+c):=by
  rw [Nat.mul_assoc,←Nat.mul_add];congr 1;omega
 rw [Nat.mul_add,Nat.mul_add] at h2
 omega
def oap (o:Nat):List Nat→DV
 | []=>.nils
 | x::r=>.osl 1 o 0 (r.length+1)
def hap (o:Nat):List Nat→Hp
 | []=>[]
 | x::r=>[(o,us (x::r))]
theorem w2C (k:IntKind) (n:Int):(∀d∈[DV.int k n],d.one=true)=True:=by simp [DV.one]
theorem rf1 (k:IntKind) (n:Int):(∀d∈[DV.int k n],d.rf=true)=True:=by simp [DV.rf]
theorem y7p (q:List Nat) (x:Nat):us q++[DV.int .u32 x]=us (q++[x]):=by simp [us,u32]
theorem w4T {v:Nat} (h:v<4294967296):v / 2147483648=(v.testBit 31).toNat:=by
 rw [Nat.testBit_eq_decide_div_mod_eq]
 have:v / 2 ^ 31 % 2=v / 2147483648:=by omega
 rw [this]
 have h2:v / 2147483648=0∨v / 2147483648=1:=by omega
 rcases h2 with e|e<;>rw [e]<;>rfl
theorem z6C (a:Nat) (ha:a<4294967296):(BitVec.ofInt IntKind.u32.bits (a:Int)).toNat=a:=by
 rw [BitVec.ofInt_natCast,BitVec.toNat_ofNat];exact Nat.mod_eq_of_lt ha
theorem z9N (a b:Nat) (ha:a<4294967296) (hb:b<4294967296):z24 .and .u32 (a:Int) (b:Int)=((a &&& b:Nat):Int):=by
 unfold z24
 simp only [BitVec.toNat_and,z6C a ha,z6C b hb]
 rw [IntKind.wrap_u32]
 have:a &&& b<2 ^ 32:=Nat.and_lt_two_pow _ (by simpa using hb)
 omega
theorem y8f (a b:Nat) (ha:a<4294967296) (hb:b<4294967296):z24 .or .u32 (a:Int) (b:Int)=((a ||| b:Nat):Int):=by
 unfold z24
 simp only [BitVec.toNat_or,z6C a ha,z6C b hb]
 rw [IntKind.wrap_u32]
 have:a ||| b<2 ^ 32:=Nat.or_lt_two_pow (by simpa using ha) (by simpa using hb)
 omega
theorem y4P (a b:Nat) (ha:a<4294967296) (hb:b<4294967296):z24 .xor .u32 (a:Int) (b:Int)=((a ^^^ b:Nat):Int):=by
 unfold z24
 simp only [BitVec.toNat_xor,z6C a ha,z6C b hb]
 rw [IntKind.wrap_u32]
 have:a ^^^ b<2 ^ 32:=Nat.xor_lt_two_pow (by simpa using ha) (by simpa using hb)
 omega
theorem y3W (a:Nat) (ha:a<4294967296):z24 .xor .u32 4294967295 (a:Int)=((4294967295 ^^^ a:Nat):Int):=y4P 4294967295 a (by decide) ha
def bor (x y c:Nat):Nat:=if x<y+c then 1 else 0
theorem x58 {x y c d:Nat} (hx:x<4294967296) (hy:y<4294967296) (hc:c≤1) (hd:d<4294967296) (he:d=x - y - c∧y+c≤x∨d+y+c=x+4294967296∧x<y+c) :
  (((4294967295 ^^^ x) &&& y) ||| ((4294967295 ^^^ (x ^^^ y)) &&& d)) / 2147483648=bor x y c:=by
 have l1:(4294967295 ^^^ x)<2 ^ 32:=Nat.xor_lt_two_pow (by decide) (by simpa using hx)
 have l2:x ^^^ y<2 ^ 32:=Nat.xor_lt_two_pow (by simpa using hx) (by simpa using hy)
 have l3:(4294967295 ^^^ (x ^^^ y))<2 ^ 32:=Nat.xor_lt_two_pow (by decide) l2
 have l4:((4294967295 ^^^ x) &&& y)<2 ^ 32:=Nat.and_lt_two_pow _ (by simpa using hy)
 have l5:((4294967295 ^^^ (x ^^^ y)) &&& d)<2 ^ 32:=Nat.and_lt_two_pow _ (by simpa using hd)
 have l6:=Nat.or_lt_two_pow l4 l5
 rw [w4T (by simpa using l6)]
 simp only [Nat.testBit_or,Nat.testBit_and,Nat.testBit_xor]
 have t (v:Nat) (hv:v<4294967296):v.testBit 31=decide (2147483648≤v):=by
  rw [Nat.testBit_eq_decide_div_mod_eq,decide_eq_decide];omega
 rw [t x hx,t y hy,t d hd,t 4294967295 (by decide)]
 unfold bor
 by_cases h1:2147483648≤x<;>by_cases h2:2147483648≤y<;>by_cases h3:2147483648≤d<;>simp [h1,h2,h3]<;>omega
end Nat32
namespace Nat32
theorem x6s {X Y D P x y c:Nat} (hx:x<4294967296) (hy:y<4294967296) (hc:c≤1) (h:D+Y=X+P*c) :
  (D+P*((x+4294967296 - y - c) % 4294967296))+(Y+P*y)=(X+P*x)+(P*4294967296)*(1 - (x+4294967296 - y - c) / 4294967296)∧(x+4294967296 - y - c) / 4294967296≤1:=by
 have h1:=Nat.div_add_mod (x+4294967296 - y - c) 4294967296
 have h2:(x+4294967296 - y - c) / 4294967296≤1:=by omega
 refine ⟨?_,h2⟩
 generalize (x+4294967296 - y - c) % 4294967296=dg at h1 ⊢
 generalize hq:(x+4294967296 - y - c) / 4294967296=q at h1 h2 ⊢
 have h3:dg+y+c=x+4294967296*(1 - q):=by omega
 have h4:P*dg+P*y+P*c=P*x+P*4294967296*(1 - q):=by
  rw [Nat.mul_assoc P 4294967296,←Nat.mul_add,←Nat.mul_add,←Nat.mul_add,h3]
 omega
end Nat32
namespace Nat32
open Go Go.Dat
theorem x5H {x y c d:Nat} (hx:x<4294967296) (hy:y<4294967296) (hc:c≤1) (hd:d<4294967296) (he:d=x - y - c∧y+c≤x∨d+y+c=x+4294967296∧x<y+c) :
  (z24 .or .u32 (z24 .and .u32 (z24 .xor .u32 4294967295 (x:Int)) (y:Int)) (z24 .and .u32 (z24 .xor .u32 4294967295 (z24 .xor .u32 (x:Int) (y:Int))) (d:Int))).fdiv (2 ^ min (Int.toNat 31) IntKind.u32.bits)=((bor x y c:Nat):Int):=by
 have l1:(4294967295 ^^^ x)<2 ^ 32:=Nat.xor_lt_two_pow (by decide) (by simpa using hx)
 have l2:x ^^^ y<2 ^ 32:=Nat.xor_lt_two_pow (by simpa using hx) (by simpa using hy)
 have l3:(4294967295 ^^^ (x ^^^ y))<2 ^ 32:=Nat.xor_lt_two_pow (by decide) l2
 have l4:((4294967295 ^^^ x) &&& y)<2 ^ 32:=Nat.and_lt_two_pow _ (by simpa using hy)
 have l5:((4294967295 ^^^ (x ^^^ y)) &&& d)<2 ^ 32:=Nat.and_lt_two_pow _ (by simpa using hd)
 rw [y3W x hx,z9N _ y (by simpa using l1) hy,y4P x y hx hy,y3W _ (by simpa using l2),z9N _ d (by simpa using l3) hd,y8f _ _ (by simpa using l4) (by simpa using l5)]
 have e:(2 ^ min (Int.toNat 31) IntKind.u32.bits:Int)=((2147483648:Nat):Int):=by decide
 rw [e,z4O,x58 hx hy hc hd he]
theorem x8s (n:Nat):nv (List.replicate n 0)=0:=by
 induction n with
 | zero=>rfl
 | succ n ih=>rw [List.replicate_succ,nv,ih]
theorem y9N (n:Nat) (q:List Nat):nv (List.replicate n 0++q)=4294967296 ^ n*nv q:=by
 rw [z2B,x8s,List.length_replicate];omega
theorem z66 {a v:Nat} (h1:a<4294967296) (h2:v<4294967296):a*v≤18446744065119617025:=by
 have:=Nat.mul_le_mul (show a≤4294967295 by omega) (show v≤4294967295 by omega)
 omega
theorem x7j {a v:Nat} (h1:a<4294967296) (h2:v<4294967296):IntKind.u64.wrap ((a:Int)*(v:Int))=((a*v:Nat):Int):=by
 have:=z66 h1 h2
 rw [x4u]
 generalize a*v=p at this ⊢
 exact x59 (by omega) (by omega)
theorem w3r {a v c:Nat} (h1:a<4294967296) (h2:v<4294967296) (h3:c<4294967296):IntKind.u64.wrap (((a*v:Nat):Int)+(c:Int))=((a*v+c:Nat):Int):=by
 have:=z66 h1 h2
 generalize a*v=p at this ⊢
 rw [x59 (by omega) (by omega)];omega
theorem x6V {D P T a v c:Nat} (h:D+P*c=T*v):(D+P*((a*v+c) % 4294967296))+(P*4294967296)*((a*v+c) / 4294967296)=(T+P*a)*v:=by
 have h1:=Nat.div_add_mod (a*v+c) 4294967296
 have h2:P*((a*v+c) % 4294967296)+(P*4294967296)*((a*v+c) / 4294967296)=P*(a*v+c):=by
  rw [Nat.mul_assoc,←Nat.mul_add];congr 1;omega
 rw [Nat.mul_add] at h2
 rw [Nat.add_mul,Nat.mul_assoc P a v,←h]
 omega
theorem y9L {a v c:Nat} (h1:a<4294967296) (h2:v<4294967296) (h3:c<4294967296):(a*v+c) / 4294967296<4294967296:=by
 have:=z66 h1 h2
 generalize a*v=p at this ⊢
 omega
theorem x0X {x v n:Nat} (h1:x<4294967296 ^ n) (h2:v<4294967296):x*v<4294967296 ^ (n+1):=by
 rw [Nat.pow_succ]
 exact Nat.mul_lt_mul_of_lt_of_le h1 (by omega) (Nat.pos_of_ne_zero (by intro h;omega))
theorem z6V {x y m n:Nat} (h1:(limbs x).length≤m) (h2:(limbs y).length≤n):(limbs (x*y)).length≤m+n:=by
 rw [z0A] at h1 h2 ⊢
 rw [Nat.pow_add]
 exact Nat.mul_lt_mul_of_lt_of_le h1 (Nat.le_of_lt h2) (Nat.pos_of_ne_zero (by intro h;rw [h] at h2;omega))
theorem w2d {N P c:Nat} (h:N+P*c<P):c=0:=by
 rcases Nat.eq_zero_or_pos c with e|e
 ·exact e
 ·have:=Nat.mul_le_mul_left P e
  rw [Nat.mul_one] at this
  omega
theorem x8b {x y c:Nat} (hx:x<4294967296) (hy:y<4294967296) (hc:c≤1):∃d b,d+y+c=x+4294967296*b∧d<4294967296∧b≤1:=by
 by_cases h:x<y+c
 ·obtain ⟨d,hd⟩:∃d,x+4294967296=y+c+d:=Nat.exists_eq_add_of_le (by omega)
  exact ⟨d,1,by omega,by omega,by omega⟩
 ·obtain ⟨d,hd⟩:∃d,x=y+c+d:=Nat.exists_eq_add_of_le (by omega)
  exact ⟨d,0,by omega,by omega,by omega⟩
theorem x1P {X Y D P x y c d b:Nat} (h:D+Y=X+P*c) (hd:d+y+c=x+4294967296*b):(D+P*d)+(Y+P*y)=(X+P*x)+(P*4294967296)*b:=by
 have h4:P*d+P*y+P*c=P*x+P*4294967296*b:=by
  rw [Nat.mul_assoc P 4294967296,←Nat.mul_add,←Nat.mul_add,←Nat.mul_add,hd]
 omega
theorem x41 {x y c d b:Nat} (hd:d+y+c=x+4294967296*b) (h:d<4294967296):IntKind.u32.wrap (IntKind.u32.wrap ((x:Int) - (y:Int)) - (c:Int))=(d:Int):=by
 rw [IntKind.wrap_u32,IntKind.wrap_u32];omega
theorem x36 {x y c d b:Nat} (hx:x<4294967296) (hy:y<4294967296) (hc:c≤1) (hd:d+y+c=x+4294967296*b) (h:d<4294967296) (hb:b≤1) :
  (z24 .or .u32 (z24 .and .u32 (z24 .xor .u32 4294967295 (x:Int)) (y:Int)) (z24 .and .u32 (z24 .xor .u32 4294967295 (z24 .xor .u32 (x:Int) (y:Int))) (d:Int))).fdiv (2 ^ min (Int.toNat 31) IntKind.u32.bits)=(b:Int):=by
 have hb2:b=0∨b=1:=by omega
 rw [x5H hx hy hc h (by omega)]
 unfold bor
 split<;>omega
theorem x8a {l:List Nat} {k v:Nat} (h:k<l.length):nv (l.set k v)+4294967296 ^ k*l.getD k 0=nv l+4294967296 ^ k*v:=by
 induction l generalizing k with
 | nil=>simp at h
 | cons x l ih =>
  cases k with
  | zero=>simp only [List.set_cons_zero,nv,List.getD_cons_zero,Nat.pow_zero,Nat.one_mul];omega
  | succ k =>
   have:=ih (k:=k) (by simpa using h)
   simp only [List.set_cons_succ,nv,List.getD_cons_succ,Nat.pow_succ]
   have e1:4294967296 ^ k*4294967296*l.getD k 0=4294967296*(4294967296 ^ k*l.getD k 0):=by
    rw [Nat.mul_comm (4294967296 ^ k) 4294967296,Nat.mul_assoc]
   have e2:4294967296 ^ k*4294967296*v=4294967296*(4294967296 ^ k*v):=by
    rw [Nat.mul_comm (4294967296 ^ k) 4294967296,Nat.mul_assoc]
   rw [e1,e2];omega
theorem x1t {l:List Nat} {k v:Nat} (h:lim l) (hv:v<4294967296):lim (l.set k v):=by
 intro z hz
 rcases List.mem_or_eq_of_mem_set hz with e|e
 ·exact h z e
 ·rw [e];exact hv
theorem z7c {l:List Nat} {j k v:Nat} (h:k≠j):(l.set k v).getD j 0=l.getD j 0:=by
 rw [zO1,zO1,List.getElem?_set_ne h]
theorem w4p {a v c o:Nat} (h1:a<4294967296) (h2:v<4294967296) (h3:c<4294967296) (h4:o<4294967296):a*v+o+c<18446744073709551616∧(a*v+o+c) / 4294967296<4294967296:=by
 have:=z66 h1 h2
 generalize a*v=p at this ⊢
 omega
theorem x5S {D E P R c o s:Nat} (h:D+P*c=R) (hs:E+P*o=D+P*(s % 4294967296)) {av:Nat} (hq:s=av+o+c):E+P*4294967296*(s / 4294967296)=R+P*av:=by
 have h1:=Nat.div_add_mod s 4294967296
 have h2:P*(s % 4294967296)+P*4294967296*(s / 4294967296)=P*s:=by
  rw [Nat.mul_assoc,←Nat.mul_add];congr 1;omega
 have h3:P*s=P*av+P*o+P*c:=by rw [hq,Nat.mul_add,Nat.mul_add]
 omega
end Nat32
namespace Nat32
def dig:Nat→Nat→List Nat
 | 0,_=>[]
 | k+1,x=>x % 4294967296::dig k (x / 4294967296)
theorem z1r (k x:Nat):(dig k x).length=k:=by
 induction k generalizing x with
 | zero=>rfl
 | succ k ih=>simp [dig,ih]
theorem z6p (k x:Nat):lim (dig k x):=by
 induction k generalizing x with
 | zero=>exact z1v
 | succ k ih=>rw [dig,z2m];exact ⟨Nat.mod_lt _ (by decide),ih _⟩
theorem z8W (k x:Nat):nv (dig k x)=x % 4294967296 ^ k:=by
 induction k generalizing x with
 | zero=>simp [dig,nv,Nat.mod_one]
 | succ k ih=>rw [dig,nv,ih,Nat.pow_succ',Nat.mod_mul]
theorem w3m {a b:List Nat} (ha:lim a) (hb:lim b) (hl:a.length=b.length) (h:nv a=nv b):a=b:=by
 induction a generalizing b with
 | nil=>cases b with
  | nil=>rfl
  | cons y b=>simp at hl
 | cons x a ih=>cases b with
  | nil=>simp at hl
  | cons y b =>
   obtain ⟨h1,h2⟩:=z2m.1 ha
   obtain ⟨h3,h4⟩:=z2m.1 hb
   simp only [nv] at h
   have e1:x=y:=by omega
   have e2:nv a=nv b:=by omega
   rw [e1,ih h2 h4 (by simpa using hl) e2]
theorem x4g {a:List Nat} {k x:Nat} (h:lim a) (hl:a.length=k) (hv:nv a=x % 4294967296 ^ k):a=dig k x :=
 w3m h (z6p _ _) (by rw [hl,z1r]) (by rw [hv,z8W])
theorem z5f (a:List Nat) (k:Nat) (h:k≤a.length):nv a=nv (a.take k)+4294967296 ^ k*nv (a.drop k):=by
 have:=z2B (a.take k) (a.drop k)
 rw [List.take_append_drop,List.length_take,Nat.min_eq_left h] at this
 exact this
def gq (T W:Nat):Nat:=min (T / W) 4294967295
theorem w4N {T W q k:Nat} (h:gq T W≤q) (hc:4294967296≤q∨T<q*W) (hW:0<W) (hk:q=k+1):gq T W≤k:=by
 unfold gq at h ⊢
 rcases hc with h9|h9
 ·omega
 ·have h1:T / W<q:=(Nat.div_lt_iff_lt_mul hW).2 h9
  generalize T / W=z at *
  omega
theorem w5M {p s r u0 t B:Nat} (h1:p+r=t) (h2:r*B+u0<s):t*B+u0<p*B+s:=by
 subst h1;rw [Nat.add_mul];omega
theorem x88 {u2 u1 u0 v1 v0 q r:Nat} (hq:q*v1+r=u2*4294967296+u1) (hv:0<v1) (h:gq ((u2*4294967296+u1)*4294967296+u0) (v1*4294967296+v0)≤q)
  (hc:4294967296≤q∨r*4294967296+u0<q*v0) :
  0<q∧gq ((u2*4294967296+u1)*4294967296+u0) (v1*4294967296+v0)≤q - 1∧(q - 1)*v1+(r+v1)=u2*4294967296+u1:=by
 have h0:0<q:=by
  rcases hc with h|h
  ·omega
  ·rcases Nat.eq_zero_or_pos q with e|e
   ·subst e;omega
   ·exact e
 obtain ⟨k,hk⟩:∃k,q=k+1:=⟨q - 1,by omega⟩
 refine ⟨h0,?_,?_⟩
 ·rw [hk,Nat.add_sub_cancel]
  refine w4N h (hc.imp_right fun h9=>?_) (by omega) hk
  have h2:q*(v1*4294967296+v0)=q*v1*4294967296+q*v0:=by rw [Nat.mul_add,←Nat.mul_assoc]
  exact Nat.lt_of_lt_of_eq (w5M hq h9) h2.symm
 ·subst hk
  rw [Nat.add_mul,Nat.one_mul] at hq
  simp only [Nat.add_sub_cancel]
  omega
theorem x5R {T W top u2 u1 u0 v1 v0:Nat} (htop:u2*4294967296+u1=top) (h0:u0<4294967296) (hv:0<v1) (hT:(u2*4294967296+u1)*4294967296+u0=T) (hW:v1*4294967296+v0=W):gq T W≤top / v1:=by
 refine Nat.le_trans (Nat.min_le_left _ _) ((Nat.le_div_iff_mul_le hv).2 ?_)
 have hT':T=top*4294967296+u0:=by omega
 have h1:T / W*W≤T:=Nat.div_mul_le_self T W
 generalize T / W=z at *
 rcases Nat.lt_or_ge top (z*v1) with e|e
 ·have h2:z*W=z*v1*4294967296+z*v0:=by rw [←hW,Nat.mul_add,←Nat.mul_assoc]
  omega
 ·exact e
theorem w09 {u2 u1 u0 v1 v0 q r:Nat} (hq:q*v1+r=u2*4294967296+u1) (hu1:u1<4294967296) (hu:u2≤v1) (hv0:v0<4294967296) (hv:0<v1)
  (h:gq ((u2*4294967296+u1)*4294967296+u0) (v1*4294967296+v0)≤q) (hc:4294967296≤r∨(q<4294967296∧q*v0≤r*4294967296+u0)) :
  q=gq ((u2*4294967296+u1)*4294967296+u0) (v1*4294967296+v0):=by
 have hqB:q<4294967296:=by
  rcases hc with h1|h1
  ·rcases Nat.lt_or_ge q 4294967296 with e|e
   ·exact e
   ·have h2:=Nat.mul_le_mul e (Nat.le_refl v1)
    generalize q*v1=p at *
    omega
  ·exact h1.1
 have hle:q*v0≤r*4294967296+u0:=by
  rcases hc with h1|h1
  ·have h2:=z66 hqB hv0
   generalize q*v0=s at *
   omega
  ·exact h1.2
 have:q≤((u2*4294967296+u1)*4294967296+u0) / (v1*4294967296+v0):=by
  have h2:q*(v1*4294967296+v0)=q*v1*4294967296+q*v0:=by rw [Nat.mul_add,←Nat.mul_assoc]
  refine (Nat.le_div_iff_mul_le (by omega)).2 (Nat.le_trans (Nat.le_of_eq h2) ?_)
  clear h hc h2
  omega
 unfold gq at h ⊢
 omega
theorem w0r {U V T W P Ul Vl:Nat} (hU:U=T*P+Ul) (hUl:Ul<P) (hV:V=W*P+Vl) (hVl:Vl<P) (hVn:4294967296*P≤V) (hlt:U<4294967296*V) (hW:0<W) :
  U / V≤gq T W∧gq T W≤U / V+1:=by
 have hP:0<P:=by omega
 have hV0:0<V:=by
  have:=Nat.mul_pos hW hP
  omega
 constructor
 ·have h1:U / V≤T / W:=by
   rw [Nat.le_div_iff_mul_le hW]
   have h2:U / V*V≤U:=Nat.div_mul_le_self U V
   have h3:U / V*(W*P)≤U / V*V:=Nat.mul_le_mul_left _ (by omega)
   rw [←Nat.mul_assoc] at h3
   generalize U / V*W=x at *
   rcases Nat.lt_or_ge T x with e|e
   ·have:=Nat.mul_le_mul_right P e
    rw [Nat.succ_mul] at this
    omega
   ·exact e
  have h4:U / V<4294967296:=by rw [Nat.div_lt_iff_lt_mul hV0];exact hlt
  unfold gq;omega
 ·have h1:gq T W*W≤T:=Nat.le_trans (Nat.mul_le_mul_right _ (Nat.min_le_left _ _)) (Nat.div_mul_le_self T W)
  have h2:gq T W<4294967296:=by unfold gq;omega
  generalize gq T W=q at h1 h2 ⊢
  have h3:q*V≤U+V:=by
   have h4:q*W*P≤T*P:=Nat.mul_le_mul_right _ h1
   have h5:q*Vl≤4294967296*P:=Nat.mul_le_mul (by omega) (by omega)
   rw [hV,Nat.mul_add,←Nat.mul_assoc]
   omega
  have h6:q≤(U+V) / V:=by rw [Nat.le_div_iff_mul_le hV0];exact h3
  rw [Nat.add_div_right _ hV0] at h6
  exact h6
theorem x5j {D Y X P c b q y x d b':Nat} (h:D+q*Y=X+P*(c+b)) (hd:d+(c+q*y) % 4294967296+b=x+4294967296*b') :
  (D+P*d)+q*(Y+P*y)=(X+P*x)+P*4294967296*((c+q*y) / 4294967296+b'):=by
 have h1:=Nat.div_add_mod (c+q*y) 4294967296
 have e1:q*(P*y)=P*(q*y):=by rw [←Nat.mul_assoc,Nat.mul_comm q P,Nat.mul_assoc]
 have h2:P*d+P*((c+q*y) % 4294967296)+P*b=P*x+P*4294967296*b':=by
  rw [Nat.mul_assoc P 4294967296,←Nat.mul_add,←Nat.mul_add,←Nat.mul_add,hd]
 have h3:P*((c+q*y) % 4294967296)+P*4294967296*((c+q*y) / 4294967296)=P*c+P*(q*y):=by
  rw [Nat.mul_assoc P 4294967296,←Nat.mul_add,←Nat.mul_add];congr 1;omega
 rw [Nat.mul_add,Nat.mul_add,e1]
 rw [Nat.mul_add] at h
 omega
theorem x11 {P c q Y y:Nat} (h:P*c≤q*Y):P*4294967296*((c+q*y) / 4294967296)≤q*(Y+P*y):=by
 have e1:q*(P*y)=P*(q*y):=by rw [←Nat.mul_assoc,Nat.mul_comm q P,Nat.mul_assoc]
 have h1:=Nat.div_mul_le_self (c+q*y) 4294967296
 have h2:P*(4294967296*((c+q*y) / 4294967296))≤P*(c+q*y):=Nat.mul_le_mul_left _ (by omega)
 rw [Nat.mul_assoc,Nat.mul_add,e1]
 rw [Nat.mul_add] at h2
 omega
theorem w0A {D U V q M c b:Nat} (h:D+q*V=U+M*(c+b)) (hc:M*c≤q*V) (hq:q*V<M) (hD:D<M) (_hU:U<M) (hb:b≤1) :
  (b≠0↔U<q*V)∧D=(U+M - q*V) % M:=by
 have hc0:c=0:=by
  rcases Nat.eq_zero_or_pos c with e|e
  ·exact e
  ·have:=Nat.mul_le_mul_left M e;rw [Nat.mul_one] at this;omega
 subst hc0
 rw [Nat.zero_add] at h
 have hb2:b=0∨b=1:=by omega
 rcases hb2 with e|e<;>subst e
 ·refine ⟨by omega,?_⟩
  have:U+M - q*V=D+M:=by omega
  rw [this,Nat.add_mod_right,Nat.mod_eq_of_lt hD]
 ·refine ⟨by omega,?_⟩
  have:U+M - q*V=D:=by omega
  rw [this,Nat.mod_eq_of_lt hD]
theorem w0d {U V q M:Nat} (h1:U / V≤q) (h2:q≤U / V+1) (h:U<q*V) (_hV:V≤M) (hV0:0<V) (_hq:q*V<M):q - 1=U / V∧((U+M - q*V) % M+V) % M=U % V:=by
 have e:q=U / V+1:=by
  rcases Nat.lt_or_ge (U / V) q with e|e
  ·omega
  ·have:q=U / V:=by omega
   have h3:=Nat.div_mul_le_self U V
   rw [←this] at h3;exact absurd h (by omega)
 subst e
 refine ⟨Nat.add_sub_cancel _ _,?_⟩
 have h4:=Nat.div_add_mod' U V
 have h5:=Nat.mod_lt U hV0
 rw [Nat.add_mul,Nat.one_mul] at h _hq ⊢
 rw [Nat.mod_eq_of_lt (show U+M - (U / V*V+V)<M by omega)]
 have:U+M - (U / V*V+V)+V=U % V+M:=by omega
 rw [this,Nat.add_mod_right,Nat.mod_eq_of_lt (by omega)]
theorem w1M {U V q M:Nat} (h1:U / V≤q) (_h2:q≤U / V+1) (h:¬U<q*V) (hV:V≤M) (hV0:0<V):q=U / V∧(U+M - q*V) % M=U % V:=by
 have e:q=U / V:=by
  have:q≤U / V:=by rw [Nat.le_div_iff_mul_le hV0];omega
  omega
 subst e
 refine ⟨rfl,?_⟩
 have h4:=Nat.div_add_mod' U V
 have h5:=Nat.mod_lt U hV0
 have:U+M - U / V*V=U % V+M:=by omega
 rw [this,Nat.add_mod_right,Nat.mod_eq_of_lt (by omega)]
end Nat32
namespace Nat32
open Go Go.Dat
def z2r (x:Nat):Nat:=if x=0 then 0 else Nat.log2 x+1
theorem y7A {x:Nat}:x<2 ^ z2r x:=by
 unfold z2r
 split
 ·rename_i h;subst h;decide
 ·exact Nat.lt_log2_self
theorem y6j {x:Nat} (h:x≠0):2 ^ (z2r x - 1)≤x:=by
 unfold z2r
 rw [if_neg h,Nat.add_sub_cancel]
 exact Nat.log2_self_le h
theorem w1g {x k:Nat} (h1:2 ^ k≤x) (h2:x<2 ^ (k+1)):z2r x=k+1:=by
 have h0:x≠0:=by have:=Nat.two_pow_pos k;omega
 unfold z2r
 rw [if_neg h0,(Nat.log2_eq_iff h0).2 ⟨h1,h2⟩]
theorem y1R {x k:Nat} (h:2 ^ k≤x):z2r x=z2r (x / 2 ^ k)+k:=by
 have h0:x / 2 ^ k≠0:=by
  have:=Nat.div_pos h (Nat.two_pow_pos k)
  omega
 have h1:=y6j h0
 have h2:=y7A (x:=x / 2 ^ k)
 have hb:0<z2r (x / 2 ^ k):=by unfold z2r;rw [if_neg h0];omega
 obtain ⟨m,hm⟩:∃m,z2r (x / 2 ^ k)=m+1:=⟨z2r (x / 2 ^ k) - 1,by omega⟩
 rw [hm] at h1 h2 ⊢
 rw [Nat.add_sub_cancel] at h1
 have e:m+1+k=(m+k)+1:=by omega
 rw [e]
 refine w1g ?_ ?_
 ·rw [Nat.pow_add]
  exact Nat.le_trans (Nat.mul_le_mul_right _ h1) (Nat.div_mul_le_self _ _)
 ·rw [show m+k+1=(m+1)+k by omega,Nat.pow_add]
  exact (Nat.div_lt_iff_lt_mul (Nat.two_pow_pos k)).1 h2
theorem z2g {x k:Nat} (h:x<2 ^ k):z2r x≤k:=by
 rcases Nat.lt_or_ge k (z2r x) with e|e
 ·have h0:x≠0:=by rintro rfl;simp [z2r] at e
  have h1:=y6j h0
  have h2:=Nat.pow_le_pow_right (n:=2) (by decide) (show k≤z2r x - 1 by omega)
  omega
 ·exact e
theorem x9a {x:Nat} (h0:x≠0) (h:x<4294967296):32 - z2r x≤31∧2147483648≤x*2 ^ (32 - z2r x)∧x*2 ^ (32 - z2r x)<4294967296:=by
 have h1:=y6j h0
 have h2:=y7A (x:=x)
 have h3:=z2g (k:=32) (by simpa using h)
 have hb:0<z2r x:=by unfold z2r;rw [if_neg h0];omega
 refine ⟨by omega,?_,?_⟩
 ·have h4:=Nat.mul_le_mul_right (2 ^ (32 - z2r x)) h1
  rw [←Nat.pow_add,show z2r x - 1+(32 - z2r x)=31 by omega] at h4
  exact h4
 ·have h4:=Nat.mul_lt_mul_of_pos_right h2 (Nat.two_pow_pos (32 - z2r x))
  rw [←Nat.pow_add,show z2r x+(32 - z2r x)=32 by omega] at h4
  exact h4
theorem x8y {x k:Nat} (h:x<4294967296) (hk:k≤31):x*2 ^ k<18446744073709551616∧x*2 ^ k / 4294967296<2 ^ k:=by
 have h1:x*2 ^ k<4294967296*2 ^ k:=Nat.mul_lt_mul_of_pos_right h (Nat.two_pow_pos k)
 have h2:(2:Nat) ^ k≤2 ^ 31:=Nat.pow_le_pow_right (by decide) hk
 refine ⟨by omega,?_⟩
 rw [Nat.div_lt_iff_lt_mul (by decide),Nat.mul_comm (2 ^ k)]
 exact h1
theorem w2k {c x k:Nat} (hc:c<2 ^ k) (hk:k≤31) (_hx:x<4294967296):c ||| (x*2 ^ k % 4294967296)=x*2 ^ k % 4294967296+c:=by
 have e:x*2 ^ k % 4294967296=2 ^ k*(x % 2 ^ (32 - k)):=by
  have:(4294967296:Nat)=2 ^ k*2 ^ (32 - k):=by rw [←Nat.pow_add,show k+(32 - k)=32 by omega]
  rw [this,Nat.mul_comm x,Nat.mul_mod_mul_left]
 rw [e,Nat.or_comm]
 exact (Nat.two_pow_add_eq_or_of_lt hc _).symm
theorem w0P {D P X c x y:Nat} (h:D+P*c=X*y):(D+P*(x*y % 4294967296+c))+P*4294967296*(x*y / 4294967296)=(X+P*x)*y:=by
 have h1:=Nat.div_add_mod (x*y) 4294967296
 have h2:P*(x*y % 4294967296)+P*4294967296*(x*y / 4294967296)=P*(x*y):=by
  rw [Nat.mul_assoc P 4294967296,←Nat.mul_add];congr 1;omega
 rw [Nat.mul_add,Nat.add_mul,Nat.mul_assoc P x y]
 omega
theorem w5H {x y z k:Nat} (hk:k≤31):((4294967296*y+x) / 2 ^ k) % 4294967296=((x+4294967296*(y+4294967296*z)) / 2 ^ k) % 4294967296:=by
 have e:(x+4294967296*(y+4294967296*z))=(4294967296*y+x)+2 ^ k*(2 ^ (32 - k)*(4294967296*z)):=by
  rw [←Nat.mul_assoc,←Nat.pow_add,show k+(32 - k)=32 by omega]
  omega
 rw [e,Nat.add_mul_div_left _ _ (Nat.two_pow_pos k),show 2 ^ (32 - k)*(4294967296*z)=4294967296*(2 ^ (32 - k)*z) by rw [←Nat.mul_assoc,Nat.mul_comm (2 ^ (32 - k)),Nat.mul_assoc],Nat.add_mul_mod_self_left]
theorem w1F (o:Nat) (c:List DV) (xs:List Nat):(us xs).map (frz o c)=us xs:=by simp [us,u32,y7g]
theorem y1P (d:List Nat) (c v:Nat) (r:List Nat):(d++c::r).set d.length v=d++v::r:=by
 rw [List.set_append_right _ _ (Nat.le_refl _)];simp
theorem x6C (d:List Nat) (c x v:Nat) (r:List Nat):(d++c::x::r).set (d.length+1) v=d++c::v::r:=by
 rw [List.set_append_right _ _ (Nat.le_add_right _ _)];simp
theorem y1W (d:List Nat) (c:Nat) (r:List Nat):(d++c::r).getD d.length 0=c:=by
 simp [zO1]
theorem z2H {a b:List Nat}:lim (a++b)↔lim a∧lim b:=by
 constructor
 ·intro h;exact ⟨fun x hx=>h x (List.mem_append.2 (.inl hx)),fun x hx=>h x (List.mem_append.2 (.inr hx))⟩
 ·rintro ⟨h1,h2⟩ x hx
  rcases List.mem_append.1 hx with h|h
  ·exact h1 x h
  ·exact h2 x h
theorem y2v (d:List Nat) (c:Nat):nv (d++[c])=nv d+4294967296 ^ d.length*c:=by
 rw [z2B];simp [nv]
theorem w4J {x k:Nat} (h:x<4294967296) (hk:k≤31):IntKind.u64.wrap ((x:Int)*2 ^ min k IntKind.u64.bits)=((x*2 ^ k:Nat):Int):=by
 have h1:=(x8y h hk).1
 have e:min k IntKind.u64.bits=k:=by
  have:IntKind.u64.bits=64:=rfl
  omega
 rw [e,show ((2:Int) ^ k)=((2 ^ k:Nat):Int) by simp,x4u]
 generalize x*2 ^ k=p at h1 ⊢
 exact x59 (by omega) (by omega)
theorem w42 (a k:Nat) (hk:k≤31):((a:Int)).fdiv (2 ^ min k IntKind.u64.bits)=((a / 2 ^ k:Nat):Int):=by
 have e:min k IntKind.u64.bits=k:=by
  have:IntKind.u64.bits=64:=rfl
  omega
 rw [e,show ((2:Int) ^ k)=((2 ^ k:Nat):Int) by simp,z4O]
theorem x5L {c x k:Nat} (hc:c<2 ^ k) (hk:k≤31) (hx:x<4294967296):z24 .or .u32 (c:Int) ((x*2 ^ k % 4294967296:Nat):Int)=((x*2 ^ k % 4294967296+c:Nat):Int):=by
 have h2:(2:Nat) ^ k≤2 ^ 31:=Nat.pow_le_pow_right (by decide) hk
 rw [y8f _ _ (by omega) (Nat.mod_lt _ (by decide)),w2k hc hk hx]
theorem y2Y {k:Nat} (hk:k≤31):(2:Nat) ^ k≤2147483648:=by
 have h2:(2:Nat) ^ k≤2 ^ 31:=Nat.pow_le_pow_right (by decide) hk
 simpa using h2
theorem w3E {c x k:Nat} (hc:c<2 ^ k) (hk:k≤31):x*2 ^ k % 4294967296+c<4294967296:=by
 have e:x*2 ^ k % 4294967296=2 ^ k*(x % 2 ^ (32 - k)):=by
  have:(4294967296:Nat)=2 ^ k*2 ^ (32 - k):=by rw [←Nat.pow_add,show k+(32 - k)=32 by omega]
  rw [this,Nat.mul_comm x,Nat.mul_mod_mul_left]
 have h1:x % 2 ^ (32 - k)+1≤2 ^ (32 - k):=Nat.mod_lt _ (Nat.two_pow_pos _)
 have h2:=Nat.mul_le_mul_left (2 ^ k) h1
 rw [←Nat.pow_add,show k+(32 - k)=32 by omega,Nat.mul_add] at h2
 omega
end Nat32
namespace Nat32
theorem y5x (a:List Nat) (m:Nat) (h:a.length=m+1):nv (a.drop m)=a.getD m 0:=by
 rw [z5i (by omega),List.drop_of_length_le (by omega)];simp [nv]
theorem w5S (a:List Nat) (n:Nat) (h:a.length=n+2):nv a=(a.getD (n+1) 0*4294967296+a.getD n 0)*4294967296 ^ n+nv (a.take n):=by
 rw [z5w (m:=n) (by omega),y5x a (n+1) (by omega),Nat.mul_comm (4294967296 ^ n)]
 rw [show a.getD n 0+4294967296*a.getD (n+1) 0=a.getD (n+1) 0*4294967296+a.getD n 0 by omega];omega
theorem w5R (a:List Nat) (n:Nat) (h:a.length=n+3):nv a=((a.getD (n+2) 0*4294967296+a.getD (n+1) 0)*4294967296+a.getD n 0)*4294967296 ^ n+nv (a.take n):=by
 rw [z5w (m:=n) (by omega),z5i (a:=a) (m:=n+1) (by omega),y5x a (n+2) (by omega),Nat.mul_comm (4294967296 ^ n)]
 rw [show a.getD n 0+4294967296*(a.getD (n+1) 0+4294967296*a.getD (n+2) 0)=(a.getD (n+2) 0*4294967296+a.getD (n+1) 0)*4294967296+a.getD n 0 by omega];omega
theorem z4R {a:List Nat} (h:lim a) {n:Nat} (hn:n≤a.length):nv (a.take n)<4294967296 ^ n:=by
 have:=z9Z (z3b h n)
 rwa [List.length_take,Nat.min_eq_left hn] at this
theorem z7T {x n:Nat} (h1:x<4294967296 ^ (n+1)) (h2:4294967296 ^ n≤x):(limbs x).length=n+1:=by
 have h3:=z0A.2 h1
 rcases Nat.lt_or_ge (limbs x).length (n+1) with e|e
 ·have:=z0A.1 (show (limbs x).length≤n by omega)
  omega
 ·omega
theorem z7D {y n:Nat} (h:(limbs y).length=n+1):(limbs y).getD n 0≠0:=by
 have:=z5z y
 unfold vld at this
 rw [h,Nat.add_sub_cancel] at this
 simpa using this
theorem w2H {y n:Nat} (h:(limbs y).length=n+1):32 - z2r ((limbs y).getD n 0)≤31∧y*2 ^ (32 - z2r ((limbs y).getD n 0))<4294967296 ^ (n+1)∧4294967296 ^ n*2147483648≤y*2 ^ (32 - z2r ((limbs y).getD n 0)):=by
 have h0:=z7D h
 have hl:=z0J (z0f y) n
 have hs:=z5w (a:=limbs y) (m:=n) (by omega)
 rw [z0I,List.drop_of_length_le (by omega)] at hs
 have hlow:=z4R (z0f y) (n:=n) (by omega)
 simp only [nv,Nat.mul_zero,Nat.add_zero] at hs
 generalize (limbs y).getD n 0=t at *
 obtain ⟨k1,k2,k3⟩:=x9a h0 hl
 have hb:=z2g (k:=32) (show t<2 ^ 32 by omega)
 have htt:(t+1)*2 ^ (32 - z2r t)≤4294967296:=by
  have h4:=Nat.mul_le_mul_right (2 ^ (32 - z2r t)) (show t+1≤2 ^ z2r t from y7A)
  rw [←Nat.pow_add,show z2r t+(32 - z2r t)=32 by omega] at h4
  exact h4
 refine ⟨k1,?_,?_⟩
 ·have h5:y*2 ^ (32 - z2r t)<(4294967296 ^ n*(t+1))*2 ^ (32 - z2r t):=Nat.mul_lt_mul_of_pos_right (by rw [hs,Nat.mul_add];omega) (Nat.two_pow_pos _)
  have h6:=Nat.mul_le_mul_left (4294967296 ^ n) htt
  rw [←Nat.mul_assoc] at h6
  rw [Nat.pow_succ]
  omega
 ·have h5:4294967296 ^ n*t*2 ^ (32 - z2r t)≤y*2 ^ (32 - z2r t):=Nat.mul_le_mul_right _ (by omega)
  have h6:=Nat.mul_le_mul_left (4294967296 ^ n) k2
  rw [←Nat.mul_assoc] at h6
  omega
theorem x9k {x k V n m:Nat} (hx:x<4294967296 ^ (m+n)) (hk:k≤31) (hV:4294967296 ^ n*2147483648≤V) {u:List Nat} (hl:m≤u.length) (hu:nv u=x*2 ^ k):nv (u.drop m)<V:=by
 have h1:=z5f u m hl
 have h2:x*2 ^ k<4294967296 ^ (m+n)*2147483648:=Nat.mul_lt_mul_of_lt_of_le hx (y2Y hk) (by decide)
 rw [Nat.pow_add,Nat.mul_assoc,←hu] at h2
 have h3:4294967296 ^ m*nv (u.drop m)<4294967296 ^ m*(4294967296 ^ n*2147483648):=by omega
 have:=Nat.lt_of_mul_lt_mul_left h3
 omega
structure Step (u:List Nat) (V i n:Nat):Prop where
 eq:nv (u.drop i)=nv ((u.drop i).take (n+3))
 lt:nv (u.drop i)<4294967296*V
 cells:u=u.take i++(u.drop i).take (n+3)++u.drop (i+(n+3))
 slen:((u.drop i).take (n+3)).length=n+3
 g2:((u.drop i).take (n+3)).getD (n+2) 0=u.getD (i+n+2) 0
 g1:((u.drop i).take (n+3)).getD (n+1) 0=u.getD (i+n+1) 0
 g0:((u.drop i).take (n+3)).getD n 0=u.getD (i+n) 0
 rest:nv (u.drop (i+(n+3)))=0
theorem y2Z (u:List Nat) (i k j:Nat) (h:j<k):((u.drop i).take k).getD j 0=u.getD (i+j) 0:=by
 simp [zO1,List.getElem?_take,h,List.getElem?_drop]
theorem w1R {x t P z V Q:Nat} (h:x=t+P*z) (hx:x<4294967296*V) (hV:V<Q) (hP:P=Q*4294967296):z=0:=by
 rcases Nat.eq_zero_or_pos z with e|e
 ·exact e
 ·have h1:=Nat.mul_le_mul_left P e
  rw [Nat.mul_one] at h1
  omega
theorem w4e {x y V:Nat} (hx:x<4294967296) (hR:y<V):x+4294967296*y<4294967296*V:=by omega
theorem w0f {u:List Nat} {V i n:Nat} (lu:lim u) (hl:i+(n+3)≤u.length) (hR:nv (u.drop (i+1))<V) (hV:V<4294967296 ^ (n+2)):Step u V i n:=by
 have hlt:nv (u.drop i)<4294967296*V:=by
  rw [z5i (a:=u) (m:=i) (by omega)];exact w4e (z0J lu i) hR
 have hs:=z5f (u.drop i) (n+3) (by simp;omega)
 rw [List.drop_drop] at hs
 have hz:nv (u.drop (i+(n+3)))=0:=w1R hs hlt hV (Nat.pow_succ (n:=4294967296) (m:=n+2))
 refine ⟨?_,hlt,?_,by simp;omega,y2Z u i (n+3) (n+2) (by omega),y2Z u i (n+3) (n+1) (by omega),y2Z u i (n+3) n (by omega),hz⟩
 ·rw [hs,hz,Nat.mul_zero,Nat.add_zero]
 ·rw [List.append_assoc,show u.drop (i+(n+3))=(u.drop i).drop (n+3) by rw [List.drop_drop],List.take_append_drop,List.take_append_drop]
theorem w2t {V v1 v0 P Vl:Nat} (hv:V=(v1*4294967296+v0)*P+Vl) (hVl:Vl<P) (h0:v0<4294967296) (hVn:P*4294967296*2147483648≤V):0<v1:=by
 rcases Nat.eq_zero_or_pos v1 with e|e
 ·subst e
  rw [Nat.zero_mul,Nat.zero_add] at hv
  have h3:v0*P≤4294967295*P:=Nat.mul_le_mul_right P (by clear hv hVn;omega)
  generalize v0*P=z at *
  omega
 ·exact e
theorem w4g {U V T W P Ul Vl:Nat} (hu:U=T*P+Ul) (hv:V=W*P+Vl) (hVl:Vl<P) (hlt:U<4294967296*V):T<4294967296*(W+1):=by
 have h1:V<(W+1)*P:=by rw [Nat.add_mul,Nat.one_mul];omega
 have h2:T*P<(4294967296*(W+1))*P:=by
  rw [Nat.mul_assoc]
  generalize (W+1)*P=z at *
  omega
 exact Nat.lt_of_mul_lt_mul_right h2
theorem w4u {u2 u1 u0 v1 v0:Nat} (h0:v0<4294967296) (h:(u2*4294967296+u1)*4294967296+u0<4294967296*(v1*4294967296+v0+1)):u2≤v1:=by omega
theorem w0j {P V:Nat} (h:P*4294967296*2147483648≤V):4294967296*P≤V:=by omega
theorem x0B {u:List Nat} {V i n:Nat} (lu:lim u) (hS:Step u V i n) (hVl:V<4294967296 ^ (n+2)) (hVn:4294967296 ^ (n+1)*2147483648≤V) :
  u.getD (i+n+2) 0≤(limbs V).getD (n+1) 0∧0<(limbs V).getD (n+1) 0 ∧
  nv (u.drop i) / V≤gq ((u.getD (i+n+2) 0*4294967296+u.getD (i+n+1) 0)*4294967296+u.getD (i+n) 0) ((limbs V).getD (n+1) 0*4294967296+(limbs V).getD n 0) ∧
  gq ((u.getD (i+n+2) 0*4294967296+u.getD (i+n+1) 0)*4294967296+u.getD (i+n) 0) ((limbs V).getD (n+1) 0*4294967296+(limbs V).getD n 0)≤nv (u.drop i) / V+1:=by
 have hlen:(limbs V).length=n+2:=z7T hVl (Nat.le_trans (Nat.le_mul_of_pos_right _ (by decide)) hVn)
 have hv:=w5S (limbs V) n hlen
 have hvl:=z4R (z0f V) (n:=n) (by omega)
 have ls:=z3b (y29 lu i) (n+3)
 have hu:=w5R _ n hS.slen
 have hul:=z4R ls (n:=n) (by rw [hS.slen];omega)
 rw [←hS.eq,hS.g2,hS.g1,hS.g0] at hu
 rw [z0I] at hv
 have h0v:=z0J (z0f V) n
 have hlt:=hS.lt
 rw [Nat.pow_succ] at hVn
 have hv1:=w2t hv hvl h0v hVn
 exact ⟨w4u h0v (w4g hu hv hvl hlt),hv1,w0r hu hul hv hvl (w0j hVn) hlt (Nat.lt_of_lt_of_le (Nat.mul_pos hv1 (by decide)) (Nat.le_add_right _ _))⟩
theorem x6T {A u q V i n:Nat} {us qs:List Nat} (hA:A=4294967296 ^ (i+1)*nv qs*V+nv us) (hu:nv us=u+4294967296 ^ i*n) (hq:q=n / V) :
  A=4294967296 ^ i*nv (q::qs)*V+(u+4294967296 ^ i*(n % V)):=by
 subst hq
 have h1:=Nat.div_add_mod' n V
 simp only [nv]
 rw [hA,hu,Nat.pow_succ]
 have e1:4294967296 ^ i*n=4294967296 ^ i*(n / V*V)+4294967296 ^ i*(n % V):=by rw [←Nat.mul_add,h1]
 have e2:4294967296 ^ i*(n / V+4294967296*nv qs)*V=4294967296 ^ i*(n / V*V)+4294967296 ^ i*4294967296*nv qs*V:=by
  rw [Nat.mul_add,Nat.add_mul]
  simp only [Nat.mul_assoc]
 rw [e1,e2];omega
theorem x2z {A V q r:Nat} (h:A=q*V+r) (hr:r<V):q=A / V∧r=A % V:=by
 subst h
 have h0:0<V:=by omega
 rw [Nat.add_comm,Nat.add_mul_div_right _ _ h0,Nat.add_mul_mod_self_right,Nat.div_eq_of_lt hr,Nat.mod_eq_of_lt hr]
 exact ⟨by omega,rfl⟩
theorem x5A (k x:Nat):dig (k+1) x=dig k x++[x / 4294967296 ^ k % 4294967296]:=by
 induction k generalizing x with
 | zero=>simp [dig]
 | succ k ih =>
  rw [dig,ih,dig,Nat.div_div_eq_div_mul,←Nat.pow_succ']
  rfl
theorem y8z {u:List Nat} (lu:lim u) (i:Nat) (h:i≤u.length):nv u / 4294967296 ^ i=nv (u.drop i):=by
 have h1:=z5f u i h
 have h2:=z4R lu h
 rw [h1,Nat.add_mul_div_left _ _ (by omega),Nat.div_eq_of_lt h2,Nat.zero_add]
theorem back {u:List Nat} (lu:lim u) {i k:Nat} (hi:i+1<u.length) (hk:k≤31):(u.getD (i+1) 0*4294967296+u.getD i 0) / 2 ^ k % 4294967296=nv u / 2 ^ k / 4294967296 ^ i % 4294967296:=by
 rw [Nat.div_div_eq_div_mul,Nat.mul_comm (2 ^ k),←Nat.div_div_eq_div_mul,y8z lu i (by omega),z5i (a:=u) (m:=i) (by omega),z5i (a:=u) (m:=i+1) (by omega),←w5H hk,Nat.mul_comm 4294967296]
theorem w45 {q V n:Nat} (hq:q<4294967296) (hV:V<4294967296 ^ (n+2)):q*V<4294967296 ^ (n+3):=by
 have h1:4294967296 ^ (n+3)=4294967296 ^ (n+2)*4294967296:=Nat.pow_succ 4294967296 (n+2)
 rw [h1,Nat.mul_comm q]
 exact Nat.mul_lt_mul_of_lt_of_le hV (Nat.le_of_lt hq) (by decide)
theorem x90 {V n:Nat} (hV:V<4294967296 ^ (n+2)):V≤4294967296 ^ (n+3) :=
 Nat.le_of_lt (Nat.lt_of_lt_of_le hV (Nat.pow_le_pow_right (by decide) (by omega)))
theorem w3w {p s t:List Nat} {n i U r:Nat} (hp:p.length=i) (_hs:s.length=n+3) (ht:nv t=0) (hU:nv s=U):nv (p++s++t)=nv p+4294967296 ^ i*U∧(r<4294967296 ^ (n+3)→nv (p++dig (n+3) r++t)=nv p+4294967296 ^ i*r∧nv ((p++dig (n+3) r++t).drop i)=r):=by
 refine ⟨?_,fun hr=>⟨?_,?_⟩⟩
 ·rw [z2B,z2B,ht,Nat.mul_zero,Nat.add_zero,hp,hU]
 ·rw [z2B,z2B,ht,Nat.mul_zero,Nat.add_zero,hp,z8W,Nat.mod_eq_of_lt hr]
 ·rw [List.append_assoc,List.drop_append,List.drop_of_length_le (by omega),hp,Nat.sub_self,List.drop_zero,List.nil_append,z2B,ht,Nat.mul_zero,Nat.add_zero,z8W,Nat.mod_eq_of_lt hr]
end Nat32
namespace Nat32
open Go Go.Dat
theorem w3p (i:Nat):((i:Int)).tdiv 32=((i / 32:Nat):Int):=y11 i 32
theorem w3j (i:Nat):((i:Int)).tmod 32=((i % 32:Nat):Int):=z8i i 32
theorem w0i (a k:Nat) (hk:k≤31):((a:Int)).fdiv (2 ^ min k IntKind.u32.bits)=((a / 2 ^ k:Nat):Int):=by
 have e:min k IntKind.u32.bits=k:=by
  have:IntKind.u32.bits=32:=rfl
  omega
 rw [e,show ((2:Int) ^ k)=((2 ^ k:Nat):Int) by simp,z4O]
theorem x54 {z:Nat} (h:z<4294967296):z24 .and .u32 (z:Int) 1=((z % 2:Nat):Int):=by
 have:=z9N z 1 h (by decide)
 rw [Nat.and_one_is_mod] at this
 exact this
theorem w1H {a:List Nat} (la:lim a) (i:Nat) (h:i / 32<a.length):a.getD (i / 32) 0 / 2 ^ (i % 32) % 2=nv a / 2 ^ i % 2:=by
 have e:2 ^ i=4294967296 ^ (i / 32)*2 ^ (i % 32):=by
  rw [show (4294967296:Nat)=2 ^ 32 from rfl,←Nat.pow_mul,←Nat.pow_add,Nat.div_add_mod]
 rw [e,←Nat.div_div_eq_div_mul,y8z la _ (by omega),z5i h]
 generalize a.getD (i / 32) 0=x
 generalize nv (a.drop (i / 32+1))=z
 have hm:i % 32<32:=Nat.mod_lt _ (by decide)
 generalize i % 32=m at hm
 have e2:x+4294967296*z=x+2 ^ m*(2*(2 ^ (31 - m)*z)):=by
  rw [←Nat.mul_assoc,←Nat.mul_assoc,←Nat.pow_succ,←Nat.pow_add,show m+1+(31 - m)=32 by omega]
 rw [e2,Nat.add_mul_div_left _ _ (Nat.two_pow_pos m),Nat.add_mul_mod_self_left]
theorem x7a (x i:Nat):x / 2 ^ i=2*(x / 2 ^ (i+1))+x / 2 ^ i % 2:=by
 rw [Nat.pow_succ,←Nat.div_div_eq_div_mul];omega
theorem z1D {x y:Nat} (h:x≤y):(limbs x).length≤(limbs y).length :=
 z0A.2 (Nat.lt_of_le_of_lt h (z0A.1 (Nat.le_refl _)))
theorem y0F {x n:Nat} (h:(limbs x).length≤n):(limbs (2*x+1)).length≤n+1:=by
 rw [z0A] at h ⊢
 rw [Nat.pow_succ];omega
theorem w4Y (n:Nat):(4294967296:Nat) ^ n=2 ^ (32*n):=by rw [show (4294967296:Nat)=2 ^ 32 from rfl,←Nat.pow_mul]
def iv (neg:Bool) (a:List Nat):Int:=if neg then -((vn a:Nat):Int) else ((vn a:Nat):Int)
def I (z:Int):DV:=.agg [.bool (decide (z<0)),.sl 1 (us (limbs z.natAbs))]
def X (neg:Bool) (a:List Nat):DV:=.agg [.bool neg,.sl 1 (us a)]
def y2B (neg:Bool) (a:List Nat):Bool:=vld a && (decide (0<a.length) || !neg)
theorem y6E (z:Int):iv (decide (z<0)) (limbs z.natAbs)=z:=by
 unfold iv
 rw [z0y]
 by_cases h:z<0
 ·rw [if_pos (decide_eq_true h)];omega
 ·rw [if_neg (by simpa using h)];omega
theorem z4J {n:Nat}:0<(limbs n).length↔0<n:=by
 rcases Nat.eq_zero_or_pos n with e|e
 ·subst e;rw [z0t];simp
 ·constructor
  ·intro _;exact e
  ·intro _
   rcases Nat.eq_zero_or_pos (limbs n).length with h|h
   ·have:=z1t.1 (List.eq_nil_of_length_eq_zero h);omega
   ·exact h
theorem w2c (z:Int):y2B (decide (z<0)) (limbs z.natAbs)=true:=by
 unfold y2B
 rw [z5z,Bool.true_and,Bool.or_eq_true]
 by_cases h:z<0
 ·exact .inl (decide_eq_true (z4J.2 (by omega)))
 ·exact .inr (by simp [h])
theorem X_I {neg:Bool} {a:List Nat} (la:lim a) (h:y2B neg a=true):X neg a=I (iv neg a):=by
 unfold y2B at h
 rw [Bool.and_eq_true,Bool.or_eq_true] at h
 obtain ⟨hv,h2⟩:=h
 have ha:limbs (vn a)=a:=by rw [←z3A la,val,hv,if_pos rfl]
 unfold X I iv
 cases neg with
 | false =>
  simp only [Bool.false_eq_true,if_false,Int.natAbs_natCast,ha]
  rw [zF9]
 | true =>
  have h3:0<a.length:=by
   rcases h2 with h|h
   ·exact of_decide_eq_true h
   ·cases h
  have h4:0<vn a:=by rw [←z4J,ha];exact h3
  simp only [if_true,Int.natAbs_neg,Int.natAbs_natCast,ha]
  rw [zT9]
theorem x74 {neg:Bool} {a:List Nat} (h:y2B neg a=false):iv neg a=0:=by
 unfold y2B at h
 unfold iv
 have h0:vn a=0:=by
  by_cases hv:vld a=true
  ·rw [hv,Bool.true_and,Bool.or_eq_false_iff] at h
   have:a=[]:=List.eq_nil_of_length_eq_zero (by have:=of_decide_eq_false h.1;omega)
   subst this;rfl
  ·unfold vn val;rw [if_neg hv];rfl
 rw [h0];split<;>rfl
def sgn (neg:Bool) (n:Nat):Int:=if neg then -(n:Int) else n
theorem x3k (neg:Bool) (n:Nat):(sgn neg n).natAbs=n:=by unfold sgn;split<;>omega
theorem x8p (neg:Bool) (n:Nat):decide (sgn neg n<0)=(neg && decide (0<n)):=by
 unfold sgn
 cases neg with
 | false=>simp only [Bool.false_eq_true,if_false,Bool.false_and];exact zF9
 | true=>simp only [if_true,Bool.true_and];rw [decide_eq_decide];omega
theorem x50 (z:Int):sgn (decide (z<0)) z.natAbs=z:=by
 unfold sgn
 by_cases h:z<0
 ·rw [if_pos (decide_eq_true h)];omega
 ·rw [if_neg (by simpa using h)];omega
theorem w1b (z:Int):sgn (!decide (z<0)) z.natAbs = -z:=by
 unfold sgn
 by_cases h:z<0
 ·rw [if_neg (by simp [h])];omega
 ·rw [if_pos (by simp [h])];omega
theorem x5N {x y:Int} (h:decide (x<0)=decide (y<0)):sgn (decide (x<0)) (x.natAbs+y.natAbs)=x+y:=by
 rw [decide_eq_decide] at h
 unfold sgn
 by_cases hx:x<0
 ·rw [if_pos (decide_eq_true hx)];have:=h.1 hx;omega
 ·rw [if_neg (by simpa using hx)];have:¬y<0:=fun k=>hx (h.2 k);omega
theorem y7I {x y:Int} (h:¬decide (x<0)=decide (y<0)) (hle:y.natAbs≤x.natAbs):sgn (decide (x<0)) (x.natAbs - y.natAbs)=x+y:=by
 rw [decide_eq_decide] at h
 unfold sgn
 by_cases hx:x<0
 ·rw [if_pos (decide_eq_true hx)];have:¬y<0:=fun k=>h ⟨fun _=>k,fun _=>hx⟩;omega
 ·rw [if_neg (by simpa using hx)];have:y<0:=by
   rcases Int.lt_or_le y 0 with k|k
   ·exact k
   ·exact absurd (show x<0↔y<0 from ⟨fun a=>absurd a hx,fun a=>absurd a (by omega)⟩) h
  omega
theorem x2T {x y:Int} (h:¬decide (x<0)=decide (y<0)) (hle:¬y.natAbs≤x.natAbs):sgn (decide (y<0)) (y.natAbs - x.natAbs)=x+y:=by
 have:=y7I (x:=y) (y:=x) (fun k=>h k.symm) (by omega)
 rw [this,Int.add_comm]
theorem x1Z (x y:Int):sgn (!(decide (x<0) == decide (y<0))) (x.natAbs*y.natAbs)=x*y:=by
 have hxy:=Int.natAbs_mul x y
 unfold sgn
 by_cases hx:x<0<;>by_cases hy:y<0
 ·have h:=Int.mul_pos_of_neg_of_neg hx hy
  simp [hx,hy];rw [←Int.natCast_mul,←hxy];omega
 ·have h:x*y≤0:=Int.mul_nonpos_of_nonpos_of_nonneg (by omega) (by omega)
  simp [hx,hy];rw [←Int.natCast_mul,←hxy];omega
 ·have h:x*y≤0:=Int.mul_nonpos_of_nonneg_of_nonpos (by omega) (by omega)
  simp [hx,hy];rw [←Int.natCast_mul,←hxy];omega
 ·have h:0≤x*y:=Int.mul_nonneg (by omega) (by omega)
  simp [hx,hy];rw [←Int.natCast_mul,←hxy];omega
theorem x6x {z:Int}:(limbs z.natAbs).length=0↔z=0:=by
 constructor
 ·intro h
  have:=z1t.1 (List.eq_nil_of_length_eq_zero h)
  omega
 ·rintro rfl;rw [show (0:Int).natAbs=0 from rfl,z0t];rfl
theorem y4w {x y q r:Int} (h:x=q*y+r) (h0:0≤r) (h1:r<y.natAbs):q=x / y∧r=x % y:=by
 have h2:r+y*q=x:=by rw [h,Int.mul_comm y q,Int.add_comm]
 rcases Int.lt_or_le 0 y with hy|hy
 ·have:=(Int.ediv_emod_unique hy).2 ⟨h2,h0,by omega⟩
  exact ⟨this.1.symm,this.2.symm⟩
 ·have:=(Int.ediv_emod_unique' (show y<0 by omega)).2 ⟨h2,h0,by omega⟩
  exact ⟨this.1.symm,this.2.symm⟩
theorem x8u (neg:Bool) (a:List Nat):(iv neg a).natAbs=vn a:=by unfold iv;split<;>omega
theorem z4d {a:List Nat} (la:lim a) (neg:Bool):(limbs (iv neg a).natAbs).length≤a.length:=by
 rw [x8u,←z3A la];exact y6q a
def w4i (x y:Int):Int:=if y=0 then 0 else x % y
theorem x3D (x y:Int) (n:Nat):sgn (!(decide (x<0) == decide (y<0))) n*y=sgn (decide (x<0)) (n*y.natAbs):=by
 obtain ⟨K,hK⟩:∃K:Nat,K=y.natAbs:=⟨_,rfl⟩
 rw [←hK]
 by_cases h1:x<0<;>by_cases h2:y<0
 ·have e:y = -(K:Int):=by omega
  simp only [h1,h2,decide_true]
  rw [e];show ((n:Int)) * -(K:Int) = -((n*K:Nat):Int)
  rw [Int.mul_neg,Int.natCast_mul]
 ·have e:y=(K:Int):=by omega
  simp only [h1,h2,decide_true,decide_false]
  rw [e];show (-(n:Int))*(K:Int) = -((n*K:Nat):Int)
  rw [Int.neg_mul,Int.natCast_mul]
 ·have e:y = -(K:Int):=by omega
  simp only [h1,h2,decide_true,decide_false]
  rw [e];show (-(n:Int)) * -(K:Int)=((n*K:Nat):Int)
  rw [Int.neg_mul,Int.mul_neg,Int.neg_neg,Int.natCast_mul]
 ·have e:y=(K:Int):=by omega
  simp only [h1,h2,decide_false]
  rw [e];show ((n:Int))*(K:Int)=((n*K:Nat):Int)
  rw [Int.natCast_mul]
theorem x95 (b:Bool) (m n:Nat):sgn b (m+n)=sgn b m+sgn b n:=by unfold sgn;split<;>omega
theorem x3Z (x y:Int) (hy:y≠0) (hx:¬(x<0∧0<x.natAbs % y.natAbs)):sgn (!(decide (x<0) == decide (y<0))) (x.natAbs / y.natAbs)=x / y∧sgn false (x.natAbs % y.natAbs)=x % y:=by
 have h0:0<y.natAbs:=by omega
 have hm:=Nat.mod_lt x.natAbs h0
 have hd:=Nat.div_add_mod' x.natAbs y.natAbs
 have hs:=x50 x
 rw [←hd,x95,←x3D] at hs
 have hr:sgn (decide (x<0)) (x.natAbs % y.natAbs)=sgn false (x.natAbs % y.natAbs):=by
  by_cases h1:x<0
  ·have hz:x.natAbs % y.natAbs=0:=by
    rcases Nat.eq_zero_or_pos (x.natAbs % y.natAbs) with e|e
    ·exact e
    ·exact absurd ⟨h1,e⟩ hx
   rw [hz];unfold sgn;split<;>rfl
  ·rw [decide_eq_false h1]
 rw [hr] at hs
 exact y4w hs.symm (Int.natCast_nonneg _) (by show ((x.natAbs % y.natAbs:Nat):Int)<_;omega)
theorem x8U (x y:Int) (hy:y≠0) (h1:x<0) (h2:0<x.natAbs % y.natAbs):sgn (!(decide (x<0) == decide (y<0))) (x.natAbs / y.natAbs+1)=x / y∧sgn false (y.natAbs - x.natAbs % y.natAbs)=x % y:=by
 have h0:0<y.natAbs:=by omega
 have hm:=Nat.mod_lt x.natAbs h0
 have hd:=Nat.div_add_mod' x.natAbs y.natAbs
 have hq:=x3D x y (x.natAbs / y.natAbs+1)
 rw [Nat.add_mul,Nat.one_mul] at hq
 refine y4w ?_ (Int.natCast_nonneg _) (by show ((y.natAbs - x.natAbs % y.natAbs:Nat):Int)<_;omega)
 rw [hq]
 show x=sgn (decide (x<0)) (x.natAbs / y.natAbs*y.natAbs+y.natAbs)+((y.natAbs - x.natAbs % y.natAbs:Nat):Int)
 rw [decide_eq_true h1]
 show x = -((x.natAbs / y.natAbs*y.natAbs+y.natAbs:Nat):Int)+((y.natAbs - x.natAbs % y.natAbs:Nat):Int)
 generalize x.natAbs % y.natAbs=m at *
 generalize x.natAbs / y.natAbs*y.natAbs=t at *
 omega
end Nat32
namespace Nat32
open Go.Lib (decDigits repeatL)
theorem w07 {n:Nat} (h:n<10):decDigits n=[UInt8.ofNat (48+n)]:=by rw [decDigits];simp [h]
theorem w3S {n:Nat} (h:¬n<10):decDigits n=decDigits (n / 10)++[UInt8.ofNat (48+n % 10)]:=by rw [decDigits];simp [h]
def x9W:Nat→Nat→List UInt8
 | 0,_=>[]
 | k+1,r=>x9W k (r / 10)++[UInt8.ofNat (48+r % 10)]
theorem x51 (k:Nat):∀r,(x9W k r).length=k:=by
 induction k with
 | zero=>intro r;rfl
 | succ k ih=>intro r;simp [x9W,ih]
theorem y8E (l:List UInt8):∀k,repeatL l (k+1)=repeatL l k++l
 | 0=>by simp [repeatL]
 | k+1=>by
  show l++repeatL l (k+1)=(l++repeatL l k)++l
  rw [y8E l k,List.append_assoc]
theorem x48 (k:Nat):x9W k 0=repeatL [48] k:=by
 induction k with
 | zero=>rfl
 | succ k ih=>rw [y8E,←ih];rfl
theorem w04 (l:List UInt8) (k:Nat):(repeatL l k).length=k*l.length:=Go.Lib.repeatL_length l k
theorem w0l (k:Nat):∀r,r<10 ^ (k+1)→x9W (k+1) r=repeatL [48] (k+1 - (decDigits r).length)++decDigits r:=by
 induction k with
 | zero=>intro r hr;rw [w07 (by omega)];simp [x9W,repeatL,Nat.mod_eq_of_lt (show r<10 by omega)]
 | succ k ih =>
  intro r hr
  have hp:10 ^ (k+1+1)=10 ^ (k+1)*10:=Nat.pow_succ ..
  rw [x9W]
  by_cases h:r<10
  ·rw [w07 h,Nat.div_eq_of_lt h,x48,Nat.mod_eq_of_lt h];rfl
  ·rw [ih (r / 10) (by omega),w3S h]
   simp only [List.length_append,List.length_singleton,List.append_assoc]
   rw [show k+1+1 - ((decDigits (r / 10)).length+1)=k+1 - (decDigits (r / 10)).length by omega]
theorem w3Y {k r:Nat} (hr:r<10 ^ (k+1)):(decDigits r).length≤k+1:=by
 have:=congrArg List.length (w0l k r hr)
 rw [x51] at this
 simp only [List.length_append,w04,List.length_singleton] at this
 omega
theorem x5C {n m:Nat} (h:(limbs n).length≤m):(decDigits n).length≤10*m+1:=by
 have h1:=z0A.1 h
 refine w3Y (k:=10*m) (Nat.lt_of_lt_of_le h1 (Nat.le_trans (Nat.pow_le_pow_left (show 4294967296≤10 ^ 10 by decide) m) ?_))
 rw [←Nat.pow_mul]
 exact Nat.pow_le_pow_right (by decide) (Nat.le_succ _)
end Nat32
namespace Nat32
open Go Go.Dat
theorem z1J {a:List Nat} (la:lim a) (h:vld a=true):limbs (vn a)=a:=by rw [vn,val,if_pos h];exact z77 la h
theorem x4b:limbs 1=[1]:=z22 (by decide) (by decide)
theorem vnl {a:List Nat} (hl:lim a):(limbs (vn a)).length≤a.length:=by
 rw [←z3A hl];exact y6q a
def dn (d:Nat):List Nat:=if d=1 then [] else limbs d
def Q (r:Rat):DV:=.agg [.bool (decide (r.num<0)),.sl 1 (us (limbs r.num.natAbs)),.sl 1 (us (dn r.den))]
def XQ (neg:Bool) (a d:List Nat):DV:=.agg [.bool neg,.sl 1 (us a),.sl 1 (us d)]
def z5p (neg:Bool) (a d:List Nat):Bool:=y2B neg a && vld d && (decide (d.length=0) || (decide (0<a.length) && decide (¬vn d=1) && decide (1=Nat.gcd (vn a) (vn d))))
def rv (neg:Bool) (a d:List Nat):Rat:=if z5p neg a d then mkRat (iv neg a) (if d.length=0 then 1 else vn d) else 0
theorem z5V (d:Nat):lim (dn d):=by unfold dn;split;exact z1v;exact z0f _
theorem x8F (d:Nat):vld (dn d)=true:=by unfold dn;split;rfl;exact z5z _
theorem x1C (d:Nat):(dn d).length≤(limbs d).length:=by unfold dn;split;simp;exact Nat.le_refl _
theorem y1h:dn 1=[]:=rfl
theorem z6L {d:Nat} (h:d≠0):(dn d).length=0↔d=1:=by
 unfold dn
 by_cases h1:d=1
 ·rw [if_pos h1];simp [h1]
 ·rw [if_neg h1]
  constructor
  ·intro e;exact absurd (z1t.1 (List.eq_nil_of_length_eq_zero e)) h
  ·intro e;exact absurd e h1
theorem w1V {d:Nat} (h:d≠1):vn (dn d)=d:=by unfold dn;rw [if_neg h,z0y]
theorem x4J (r:Rat):z5p (decide (r.num<0)) (limbs r.num.natAbs) (dn r.den)=true:=by
 unfold z5p
 rw [w2c,x8F,Bool.true_and,Bool.true_and]
 by_cases h1:r.den=1
 ·rw [h1,y1h];rfl
 ·have h0:0<r.num.natAbs:=by
   rcases Nat.eq_zero_or_pos r.num.natAbs with e|e
   ·exfalso
    have:=r.reduced
    rw [e,Nat.coprime_zero_left] at this
    exact h1 this
   ·exact e
  rw [w1V h1,z0y,decide_eq_true (z4J.2 h0),decide_eq_true (show ¬r.den=1 from h1),decide_eq_true (show 1=Nat.gcd r.num.natAbs r.den from (show Nat.gcd r.num.natAbs r.den=1 from r.reduced).symm)]
  simp
theorem w1p (r:Rat):rv (decide (r.num<0)) (limbs r.num.natAbs) (dn r.den)=r:=by
 unfold rv
 rw [x4J,if_pos rfl,y6E]
 by_cases h1:r.den=1
 ·rw [h1,y1h,if_pos (show ([]:List Nat).length=0 from rfl)]
  have:=Rat.mkRat_self r
  rwa [h1] at this
 ·rw [if_neg (fun e=>h1 ((z6L r.den_nz).1 e)),w1V h1,Rat.mkRat_self]
theorem y9C {neg:Bool} {a d:List Nat} (h:z5p neg a d=false):rv neg a d=0:=by unfold rv;rw [h];rfl
theorem y1V {neg:Bool} {a d:List Nat} (ld:lim d) (h:z5p neg a d=true):(rv neg a d).num=iv neg a∧(rv neg a d).den=(if d.length=0 then 1 else vn d):=by
 unfold rv
 rw [h,if_pos rfl]
 by_cases h0:d.length=0
 ·rw [if_pos h0]
  rw [Rat.num_mkRat,Rat.den_mkRat]
  simp
 ·rw [if_neg h0]
  have hv:=h
  unfold z5p at hv
  simp only [Bool.and_eq_true,Bool.or_eq_true,decide_eq_true_eq,h0,false_or] at hv
  obtain ⟨⟨_,hd⟩,⟨h1,h2⟩,h3⟩:=hv
  replace h3:=h3.symm
  have hne:vn d≠0:=by
   intro e
   rw [e,Nat.gcd_zero_right] at h3
   have:vn d≠0:=by
    have hl:=z1J ld hd
    intro e2
    rw [e2,z0t] at hl
    rw [←hl] at h0
    exact h0 rfl
   exact this e
  rw [Rat.num_mkRat,Rat.den_mkRat,if_neg hne,if_neg hne,x8u,Nat.gcd_comm,h3]
  simp
theorem w5n {neg:Bool} {a d:List Nat} (la:lim a) (ld:lim d) (h:z5p neg a d=true):XQ neg a d=Q (rv neg a d):=by
 obtain ⟨h1,h2⟩:=y1V ld h
 have hv:=h
 unfold z5p at hv
 simp only [Bool.and_eq_true] at hv
 obtain ⟨⟨hi,hd⟩,h3⟩:=hv
 have hx:=X_I la hi
 unfold X I at hx
 injection hx with hx
 injection hx with e1 hx
 injection hx with e2 _
 unfold XQ Q
 rw [h1,h2,e1,e2]
 have e3:dn (if d.length=0 then 1 else vn d)=d:=by
  by_cases h0:d.length=0
  ·rw [if_pos h0,y1h,List.eq_nil_of_length_eq_zero h0]
  ·rw [if_neg h0]
   simp only [Bool.or_eq_true,Bool.and_eq_true,decide_eq_true_eq,h0,false_or] at h3
   unfold dn
   rw [if_neg h3.1.2]
   exact z1J ld hd
 rw [e3]
theorem w2M (neg:Bool) (a d:List Nat) (ld:lim d):(limbs (rv neg a d).den).length≤max 1 d.length:=by
 by_cases h:z5p neg a d=true
 ·rw [(y1V ld h).2]
  by_cases h0:d.length=0
  ·rw [if_pos h0,x4b];simp;omega
  ·rw [if_neg h0];exact Nat.le_trans (vnl ld) (by omega)
 ·rw [y9C (by simpa using h),show (0:Rat).den=1 from rfl,x4b];simp;omega
theorem w3x (neg:Bool) (a d:List Nat) (la:lim a) (ld:lim d):(limbs (rv neg a d).num.natAbs).length≤a.length:=by
 by_cases h:z5p neg a d=true
 ·rw [(y1V ld h).1];exact z4d la neg
 ·rw [y9C (by simpa using h),show (0:Rat).num.natAbs=0 from rfl,z0t];simp
theorem y8t {z:Int} {g:Nat} (h:(g:Int)∣z) (hg:0<g):(z / (g:Int)).natAbs=z.natAbs / g∧decide (z / (g:Int)<0)=decide (z<0):=by
 obtain ⟨c,rfl⟩:=h
 have hg':(0:Int)<g:=by omega
 rw [Int.mul_ediv_cancel_left _ (by omega),Int.natAbs_mul,Int.natAbs_natCast,Nat.mul_div_cancel_left _ hg]
 refine ⟨rfl,?_⟩
 rw [decide_eq_decide]
 constructor
 ·intro hc;exact Int.mul_neg_of_pos_of_neg hg' hc
 ·intro hc
  rcases Int.lt_or_le c 0 with k|k
  ·exact k
  ·have:=Int.mul_nonneg (Int.le_of_lt hg') k;omega
theorem w4H (z:Int) (d:Nat) (h:d≠0):Q (mkRat z d)=.agg [.bool (decide (z<0)),.sl 1 (us (limbs (z.natAbs / Nat.gcd z.natAbs d))),.sl 1 (us (dn (d / Nat.gcd z.natAbs d)))]:=by
 have hg:0<Nat.gcd z.natAbs d:=Nat.gcd_pos_of_pos_right _ (Nat.pos_of_ne_zero h)
 have hd:((Nat.gcd z.natAbs d:Nat):Int)∣z:=by
  have:=Nat.gcd_dvd_left z.natAbs d
  exact Int.ofNat_dvd_left.2 this
 obtain ⟨e1,e2⟩:=y8t hd hg
 unfold Q
 rw [Rat.num_mkRat,Rat.den_mkRat,if_neg h,if_neg h,Nat.gcd_comm d,e1,e2]
theorem x1W (z:Int):Q (z:Rat)=.agg [.bool (decide (z<0)),.sl 1 (us (limbs z.natAbs)),.sl 1 []]:=by
 unfold Q
 rw [Rat.num_intCast,Rat.den_intCast,y1h,x2c]
theorem Q0:Q 0=.agg [.bool false,.sl 1 [],.sl 1 []]:=by
 have:=x1W 0
 rw [show ((0:Int):Rat)=0 from rfl,show (0:Int).natAbs=0 from rfl,z0t,x2c] at this
 exact this
theorem z6w (z:Int) {e:Int} (h:0<e):Rat.divInt z e=mkRat z e.natAbs:=by
 obtain ⟨n,rfl⟩:=Int.eq_ofNat_of_zero_le (Int.le_of_lt h)
 exact Rat.divInt_ofNat z n
theorem y1s (z:Int) {e:Int} (h:e<0):Rat.divInt z e=mkRat (-z) e.natAbs:=by
 rw [←Rat.neg_divInt_neg,z6w _ (by omega),Int.natAbs_neg]
theorem x6I {x y:Rat} (hx:x.den=1) (hy:y.den=1):x+y=((x.num+y.num:Int):Rat):=by
 rw [Rat.add_def',hx,hy]
 simp [Rat.mkRat_one]
theorem x6Y {x y:Rat} (hx:x.den=1) (hy:y.den=1):x*y=((x.num*y.num:Int):Rat):=by
 rw [Rat.mul_def',hx,hy]
 simp [Rat.mkRat_one]
def RB (r:Rat) (m:Nat):Prop:=(limbs r.num.natAbs).length≤m∧(limbs r.den).length≤m
theorem RB.mono {r:Rat} {m n:Nat} (h:RB r m) (hm:m≤n):RB r n:=⟨Nat.le_trans h.1 hm,Nat.le_trans h.2 hm⟩
theorem y2p {neg:Bool} {a d:List Nat} {m:Nat} (la:lim a) (ld:lim d) (ha:a.length≤m) (hd:d.length≤m) (hm:1≤m):RB (rv neg a d) m :=
 ⟨Nat.le_trans (w3x neg a d la ld) ha,Nat.le_trans (w2M neg a d ld) (by omega)⟩
end Nat32
namespace Nat32
abbrev Mt:=Nat→Nat→Rat
structure IsRp (n k j:Nat) (R:Mt) (ps:List Nat):Prop where
 inc:∀a b,a<b→b<ps.length→ps.getD a 0<ps.getD b 0
 lt:∀a,a<ps.length→ps.getD a 0<j
 len:ps.length≤n
 one:∀a,a<ps.length→R a (ps.getD a 0)=1
 col:∀a,a<ps.length→∀i,i<n→i≠a→R i (ps.getD a 0)=0
 left:∀a,a<ps.length→∀c,c<ps.getD a 0→R a c=0
 down:∀i,ps.length≤i→i<n→∀c,c<j→R i c=0
structure IsBp (n j i:Nat) (M:Mt) (ps:List Nat):Prop where
 inc:∀a b,a<b→b<ps.length→ps.getD a 0<ps.getD b 0
 lt:∀a,a<ps.length→ps.getD a 0<j
 len:ps.length≤n
 le:i≤ps.length
 nz:∀a,a<ps.length→M a (ps.getD a 0)≠0
 one:∀a,a<i→M a (ps.getD a 0)=1
 col:∀a,a<i→∀r,r<n→r≠a→M r (ps.getD a 0)=0
 low:∀a,a<ps.length→∀r,a<r→r<n→M r (ps.getD a 0)=0
 left:∀a,a<ps.length→∀c,c<ps.getD a 0→M a c=0
 down:∀r,ps.length≤r→r<n→∀c,c<j→M r c=0
end Nat32
namespace Nat32
open Go Go.Dat
def z0D (r:List (List UInt8)):List DV:=r.map DV.str
abbrev Bs:=List UInt8
def x1d (c:UInt8):Bool:=(decide (97≤c.toNat) && decide (c.toNat≤122)) || (decide (65≤c.toNat) && decide (c.toNat≤90))
def y3H (c:UInt8):Bool:=x1d c || (decide (48≤c.toNat) && decide (c.toNat≤57)) || decide (c.toNat=95) || decide (c.toNat=46)
def power:Bs:=[112,111,119,101,114]
def z2D (s:Bs):Bool:=decide (1≤s.length) && (decide (s.length≤32) && (x1d (s.getD 0 0) && (decide (¬s=power) && s.all y3H)))
def ixS:List Bs→Bs→Int
 | [],_=>-1
 | x::l,s=>if x=s then 0 else if ixS l s<0 then -1 else ixS l s+1
theorem z36 (s:Bs):∀l:List Bs,-1≤ixS l s∧ixS l s<l.length
 | []=>by simp [ixS]
 | x::l=>by
  have:=z36 s l
  simp only [ixS,List.length_cons]
  split
  ·omega
  ·split<;>omega
theorem y8r {s:Bs}:∀{l:List Bs},s∉l→ixS l s = -1
 | [],_=>rfl
 | x::l,h=>by
  simp only [List.mem_cons,not_or] at h
  have:=y8r h.2
  simp only [ixS]
  rw [if_neg (Ne.symm h.1),this];rfl
theorem y8k {s:Bs}:∀{l:List Bs} {i:Nat},i<l.length→l.getD i []=s→(∀j,j<i→l.getD j []≠s)→ixS l s=i
 | [],i,h,_,_=>absurd h (Nat.not_lt_zero _)
 | x::l,0,_,h1,_=>by
  have:x=s:=h1
  simp only [ixS];rw [if_pos this];rfl
 | x::l,i+1,h,h1,h2=>by
  have h3:=y8k (l:=l) (i:=i) (by simp at h;omega) h1 fun j hj=>h2 (j+1) (by omega)
  have h4:x≠s:=h2 0 (by omega)
  simp only [ixS]
  rw [if_neg h4,h3,if_neg (by omega)];omega
theorem x2h {s:Bs} {l:List Bs} (h:∀j,j<l.length→l.getD j []≠s):ixS l s = -1:=by
 refine y8r fun hm=>?_
 obtain ⟨j,hj⟩:=List.mem_iff_getElem?.1 hm
 have hlt:=(List.getElem?_eq_some_iff.1 hj).1
 exact h j hlt (by rw [zO1,hj];rfl)
def z5v (l:List Bs):Bool:=(List.range l.length).all fun i=>z2D (l.getD i []) && decide (ixS (l.take i) (l.getD i [])<0)
theorem z8v {l:List Bs} (h:∀i,i<l.length→(z2D (l.getD i []) && decide (ixS (l.take i) (l.getD i [])<0))=true):z5v l=true :=
 List.all_eq_true.2 fun i hi=>h i (List.mem_range.1 hi)
theorem z63 {l:List Bs} {i:Nat} (hi:i<l.length) (h:(z2D (l.getD i []) && decide (ixS (l.take i) (l.getD i [])<0))=false):z5v l=false:=by
 cases hn:z5v l with
 | false=>rfl
 | true=>rw [List.all_eq_true.1 hn i (List.mem_range.2 hi)] at h;cases h
theorem y4r {p:UInt8→Bool} {s:Bs} {i:Nat} (hi:i<s.length) (h:p (s.getD i 0)=false):s.all p=false:=by
 cases hn:s.all p with
 | false=>rfl
 | true =>
  rw [zO1,zO4 hi,Option.getD_some] at h
  rw [show p s[i]=true from List.all_eq_true.1 hn _ (List.getElem_mem hi)] at h
  cases h
theorem x71 {p:UInt8→Bool} {s:Bs} (h:∀i,i<s.length→p (s.getD i 0)=true):s.all p=true:=by
 refine List.all_eq_true.2 fun x hx=>?_
 obtain ⟨i,hi⟩:=List.mem_iff_getElem?.1 hx
 have hlt:=(List.getElem?_eq_some_iff.1 hi).1
 have:=h i hlt
 rwa [zO1,hi] at this
theorem z1e {l:List Bs} {i:Nat} (h:i<l.length):l.getD i []∈l:=by
 rw [zO1,zO4 h];exact List.getElem_mem h
section
variable {α:Type} {f:α→List DV} {n:Nat}
theorem z8m (hf:∀a,(f a).length=n):∀l:List α,(l.flatMap f).length=l.length*n
 | []=>by simp
 | a::l=>by rw [List.flatMap_cons,List.length_append,hf,z8m hf l,List.length_cons,Nat.succ_mul,Nat.add_comm]
theorem y2k (hf:∀a,(f a).length=n):∀(l:List α) (i:Nat),(l.flatMap f).drop (i*n)=(l.drop i).flatMap f
 | l,0=>by simp
 | [],i+1=>by simp
 | a::l,i+1=>by
  have e:(f a++l.flatMap f).drop n=l.flatMap f:=by rw [←hf a,List.drop_left]
  rw [List.flatMap_cons,List.drop_succ_cons,←y2k hf l i,Nat.succ_mul,Nat.add_comm,←List.drop_drop,e]
theorem y6h (hf:∀a,(f a).length=n):∀(l:List α) (i:Nat),(l.flatMap f).take (i*n)=(l.take i).flatMap f
 | l,0=>by simp
 | [],i+1=>by simp
 | a::l,i+1=>by
  rw [List.flatMap_cons,List.take_succ_cons,List.flatMap_cons,←y6h hf l i,Nat.succ_mul,List.take_append,hf]
  rw [List.take_of_length_le (by rw [hf];omega),Nat.add_sub_cancel]
theorem z1a (hf:∀a,(f a).length=n) (d:α) {l:List α} {i j k:Nat} (h:i<l.length) (hk:j+k≤n):((l.flatMap f).drop (i*n+j)).take k=((f (l.getD i d)).drop j).take k:=by
 rw [←List.drop_drop,y2k hf,List.drop_eq_getElem_cons h,List.flatMap_cons,List.drop_append,List.take_append]
 have e:l.getD i d=l[i]:=by rw [zO1,zO4 h];rfl
 rw [e,List.length_drop,hf,show k - (n - j)=0 by omega,List.take_zero,List.append_nil]
theorem z8n (hf:∀a,(f a).length=n) (d:α) {l:List α} {i j:Nat} (h:i<l.length) (hj:j<n) (x:DV):(l.flatMap f).getD (i*n+j) x=(f (l.getD i d)).getD j x:=by
 have h1:=z1a hf d (l:=l) (i:=i) (j:=j) (k:=1) h (by omega)
 have e1:i*n+j<(l.flatMap f).length:=by
  rw [z8m hf]
  have:(i+1)*n≤l.length*n:=Nat.mul_le_mul_right n h
  rw [Nat.succ_mul] at this;omega
 have e2:j<(f (l.getD i d)).length:=by rw [hf];exact hj
 rw [List.drop_eq_getElem_cons e1,List.drop_eq_getElem_cons e2] at h1
 simp only [List.take_succ_cons,List.take_zero,List.cons.injEq,and_true] at h1
 rw [zO1,zO4 e1,zO1,zO4 e2,Option.getD_some,Option.getD_some,h1]
theorem x0h (hf:∀a,∀d∈f a,d.rf=true) (l:List α):∀d∈l.flatMap f,d.rf=true:=by
 intro d hd
 obtain ⟨a,_,h⟩:=List.mem_flatMap.1 hd
 exact hf a d h
theorem x8r (hf:∀a,∀d∈f a,d.one=true) (l:List α):∀d∈l.flatMap f,d.one=true:=by
 intro d hd
 obtain ⟨a,_,h⟩:=List.mem_flatMap.1 hd
 exact hf a d h
theorem y28 (l:List α) (a:α):l.flatMap f++f a=(l++[a]).flatMap f:=by simp
end
abbrev XN:=Bool × List Nat × List Nat
def xnC (x:XN):List DV:=[.bool x.1,.sl 1 (us x.2.1),.sl 1 (us x.2.2)]
def qX (r:Rat):XN:=(decide (r.num<0),limbs r.num.natAbs,dn r.den)
structure Fx where
 nm:Bs
 kd:Int
 ms:List Bs
 un:XN
deriving Inhabited
structure Tc where
 mi:Bool
 va:XN
 lv:Int
deriving Inhabited
def cxC (c:Tc):List DV:=[.bool c.mi,.bool c.va.1,.sl 1 (us c.va.2.1),.sl 1 (us c.va.2.2),.int .i64 c.lv]
theorem z1C (f:Tc):(cxC f).length=5:=rfl
def cxs (l:List Tc):List DV:=l.flatMap cxC
theorem z1V (l:List Tc):(cxs l).length=l.length*5:=z8m z1C l
theorem z90 (f:Tc):∀d∈cxC f,d.rf=true:=by
 intro d hd
 simp only [cxC,List.mem_cons,List.not_mem_nil,or_false] at hd
 rcases hd with rfl|rfl|rfl|rfl|rfl<;>rfl
theorem y3l (f:Tc):∀d∈cxC f,d.one=true:=by
 intro d hd
 simp only [cxC,List.mem_cons,List.not_mem_nil,or_false] at hd
 rcases hd with rfl|rfl|rfl|rfl|rfl<;>rfl
theorem y1z (l:List Tc):∀d∈cxs l,d.rf=true:=x0h z90 l
structure Kx where
 nm:Bs
 kd:Int
 le:List Bs
 ce:List Tc
deriving Inhabited
def kxC (k:Kx):List DV:=[.str k.nm,.int .i64 k.kd,.sl 1 (z0D k.le),.sl 5 (cxs k.ce)]
theorem z0L (f:Kx):(kxC f).length=4:=rfl
def kxs (l:List Kx):List DV:=l.flatMap kxC
theorem z1B (l:List Kx):(kxs l).length=l.length*4:=z8m z0L l
end Nat32
namespace Nat32
open Go Go.Dat
variable (pq:Bs→Option Rat)
theorem w5p:qX 0=(false,[],[]):=by simp [qX,z0t,dn]
end Nat32
namespace Nat32
open Go Go.Dat
section
variable {α:Type} (p:α→Bool)
def ixP:List α→Int
 | []=>-1
 | x::l=>if p x then 0 else if ixP l<0 then -1 else ixP l+1
theorem y9k:∀l:List α,-1≤ixP p l∧ixP p l<l.length
 | []=>by simp [ixP]
 | x::l=>by
  have:=y9k l
  simp only [ixP,List.length_cons]
  split
  ·omega
  ·split<;>omega
theorem y3p:∀l:List α,decide (0≤ixP p l)=l.any p
 | []=>rfl
 | x::l=>by
  have h1:=y3p l
  have h2:=y9k p l
  rw [List.any_cons,←h1]
  have e:ixP p (x::l)=if p x=true then 0 else if ixP p l<0 then -1 else ixP p l+1:=rfl
  by_cases hp:p x=true
  ·rw [if_pos hp] at e
   rw [hp,e];rfl
  ·rw [if_neg hp] at e
   rw [Bool.eq_false_iff.2 hp,Bool.false_or]
   refine decide_eq_decide.2 ?_
   rw [e]
   split<;>omega
variable {p} (d:α)
theorem y4h:∀{l:List α} {i:Nat},i<l.length→p (l.getD i d)=true→(∀j,j<i→p (l.getD j d)=false)→ixP p l=i
 | [],i,h,_,_=>absurd h (Nat.not_lt_zero _)
 | x::l,0,_,h1,_=>by
  have:p x=true:=h1
  simp only [ixP];rw [if_pos this];rfl
 | x::l,i+1,h,h1,h2=>by
  have h3:=y4h (l:=l) (i:=i) (by simp at h;omega) h1 fun j hj=>h2 (j+1) (by omega)
  have h4:p x=false:=h2 0 (by omega)
  simp only [ixP]
  rw [h4,if_neg (by decide),h3,if_neg (by omega)];omega
theorem y3P:∀{l:List α},(∀j,j<l.length→p (l.getD j d)=false)→ixP p l = -1
 | [],_=>rfl
 | x::l,h=>by
  have h3:=y3P (l:=l) fun j hj=>h (j+1) (by simp;omega)
  have h4:p x=false:=h 0 (by simp)
  simp only [ixP]
  rw [h4,if_neg (by decide),h3];rfl
end
theorem z4a {α:Type} [Inhabited α] {l:List α} {i:Nat} (h:i<l.length):l.getD i default∈l:=by
 rw [zO1,zO4 h];exact List.getElem_mem h
def y8q (x:XN):Prop:=lim x.2.1∧lim x.2.2∧x.2.1.length≤300∧x.2.2.length≤300
def xnV (x:XN):Rat:=rv x.1 x.2.1 x.2.2
end Nat32
namespace Nat32
open Go Go.Dat
variable (pq:Bs→Option Rat)
noncomputable def w1T (f:Fx) (lv:List Bs) (ce:List Tc) (s:Bs):Int × List Bs × List Tc :=
 if 0≤ixS f.ms s then (0,lv,ce++[⟨true,(false,[],[]),0⟩])
 else if f.kd=1 then match pq s with
  | none=>(4,lv,ce)
  | some x=>(0,lv,ce++[⟨false,qX (x*xnV f.un),0⟩])
 else if ixS lv s<0 then
  if lv.length=32 then (2,lv,ce) else (0,lv++[s],ce++[⟨false,(false,[],[]),lv.length⟩])
 else (0,lv,ce++[⟨false,(false,[],[]),ixS lv s⟩])
end Nat32
namespace Nat32
open Go Go.Dat
variable (pq:Bs→Option Rat)
abbrev Tx:=List Bs × List Tc
noncomputable def x3b (f:Fx) (s:Bs) (x:Tx):Int × Tx:=if f.kd=3 then (0,x) else ((w1T pq f x.1 x.2 s).1,(w1T pq f x.1 x.2 s).2)
noncomputable def x7X (fs:List Fx) (r:List Bs) (T:List Tx):Nat→Int × List Tx
 | 0=>(0,T)
 | k+1=>if (x7X fs r T k).1≠0 then x7X fs r T k else
  ((x3b pq (fs.getD k default) (r.getD k []) ((x7X fs r T k).2.getD k default)).1,(x7X fs r T k).2.set k (x3b pq (fs.getD k default) (r.getD k []) ((x7X fs r T k).2.getD k default)).2)
noncomputable def w0E (fs:List Fx) (recs:List (List Bs)):Nat→(Int × Int) × List Tx
 | 0=>((0,0),fs.map fun _=>([],[]))
 | i+1=>if (w0E fs recs i).1.2≠0 then w0E fs recs i else
  if (recs.getD i []).length≠fs.length then (((i+1:Nat),6),(w0E fs recs i).2) else
  if (x7X pq fs (recs.getD i []) (w0E fs recs i).2 fs.length).1≠0 then (((i+1:Nat),(x7X pq fs (recs.getD i []) (w0E fs recs i).2 fs.length).1),(w0E fs recs i).2) else
  ((0,0),(x7X pq fs (recs.getD i []) (w0E fs recs i).2 fs.length).2)
end Nat32
namespace Nat32
open Go Go.Dat
theorem z12 (f:Kx):∀d∈kxC f,d.rf=true:=by
 intro d hd
 simp only [kxC,List.mem_cons,List.not_mem_nil,or_false] at hd
 rcases hd with rfl|rfl|rfl|rfl<;>rfl
theorem y19 (f:Kx):∀d∈kxC f,d.one=true:=by
 intro d hd
 simp only [kxC,List.mem_cons,List.not_mem_nil,or_false] at hd
 rcases hd with rfl|rfl|rfl|rfl<;>rfl
theorem x8A (l:List Kx):∀d∈kxs l,d.rf=true:=x0h z12 l
theorem z0r {α:Type} (d:α) {l:List α} {i:Nat} (h:i<l.length):l.take (i+1)=l.take i++[l.getD i d]:=by
 rw [List.take_add_one,zO4 h,zO1,zO4 h];rfl
theorem z2G {α:Type} (d:α) {l:List α} {i:Nat} (h:i<l.length):l.drop i=l.getD i d::l.drop (i+1):=by
 rw [List.drop_eq_getElem_cons h,zO1,zO4 h];rfl
theorem w2R {α:Type} {f:α→List DV} {n:Nat} (hf:∀a,(f a).length=n) {l:List α} {i:Nat} (x:α) (h:i<l.length):(l.flatMap f).take (i*n)++f x++(l.flatMap f).drop (i*n+n)=(l.set i x).flatMap f:=by
 have e:i*n+n=(i+1)*n:=by rw [Nat.succ_mul]
 rw [y6h hf,e,y2k hf,List.set_eq_take_append_cons_drop,if_pos h,List.flatMap_append,List.flatMap_cons,List.append_assoc]
def x7Q {α:Type} (p:α→Bool) (S:List α) (i j:Nat) (A:List α):Prop:=A.length=S.length∧i<j∧j≤S.length∧A.take i=(S.take j).filter (fun x=>!p x)∧A.drop j=S.drop j
section
variable {α:Type} {p:α→Bool} {S A:List α} {i j:Nat} (d:α)
theorem x7r (h:x7Q p S i j A) (hj:j<S.length):A.getD j d=S.getD j d:=by
 have h5:=h.2.2.2.2
 rw [z2G d (by rw [h.1];exact hj),z2G d hj] at h5
 exact (List.cons.inj h5).1
theorem x1U (h:x7Q p S i j A) (hj:j<S.length) (hp:p (S.getD j d)=false):x7Q p S (i+1) (j+1) (A.set i (S.getD j d)):=by
 obtain ⟨h1,h2,h3,h4,h5⟩:=h
 refine ⟨by rw [List.length_set,h1],by omega,by omega,?_,?_⟩
 ·rw [z0r d (by rw [List.length_set];omega),List.take_set_of_le (Nat.le_refl i),h4,z0r d hj,List.filter_append]
  have:(A.set i (S.getD j d)).getD i d=S.getD j d:=by
   rw [zO1,List.getElem?_set_self (by omega)];rfl
  rw [this,List.filter_cons,hp];rfl
 ·rw [List.drop_set_of_lt (by omega)]
  rw [z2G d (by rw [h1];exact hj),z2G d hj] at h5
  exact (List.cons.inj h5).2
theorem x4t (h:x7Q p S i j A) (hj:j<S.length) (hp:p (S.getD j d)=true):x7Q p S i (j+1) A:=by
 obtain ⟨h1,h2,h3,h4,h5⟩:=h
 refine ⟨h1,by omega,by omega,?_,?_⟩
 ·rw [h4,z0r d hj,List.filter_append,List.filter_cons,hp];simp
 ·rw [z2G d (by rw [h1];exact hj),z2G d hj] at h5
  exact (List.cons.inj h5).2
theorem x6i (h:x7Q p S i S.length A):A.take i=S.filter (fun x=>!p x):=by
 rw [h.2.2.2.1,List.take_length]
end
section
variable {α:Type} (p:α→Bool)
theorem x27:∀{l:List α},ixP p l = -1→l.filter (fun x=>!p x)=l
 | [],_=>rfl
 | x::l,h=>by
  have hb:=y9k p l
  simp only [ixP] at h
  split at h
  ·omega
  ·rename_i hp
   split at h
   ·have:=x27 (l:=l) (by omega)
    rw [List.filter_cons,if_pos (by simpa using hp),this]
   ·omega
theorem x1G (d:α):∀{l:List α} {k:Nat},ixP p l=k→k<l.length∧p (l.getD k d)=true∧(l.take k).filter (fun x=>!p x)=l.take k
 | [],k,h=>by simp [ixP] at h
 | x::l,k,h=>by
  simp only [ixP] at h
  split at h
  ·rename_i hp
   obtain rfl:k=0:=by omega
   exact ⟨by simp,hp,rfl⟩
  ·rename_i hp
   split at h
   ·omega
   ·match k with
    | 0=>omega
    | k+1 =>
     obtain ⟨h1,h2,h3⟩:=x1G d (l:=l) (k:=k) (by omega)
     refine ⟨by simp;omega,h2,?_⟩
     rw [List.take_succ_cons,List.filter_cons,if_pos (by simpa using hp),h3]
theorem x4E (d:α) {l:List α} {k:Nat} (h:ixP p l=k):x7Q p l k (k+1) l:=by
 obtain ⟨h1,h2,h3⟩:=x1G p d h
 refine ⟨rfl,by omega,by omega,?_,rfl⟩
 rw [z0r d h1,List.filter_append,h3,List.filter_cons,h2];simp
end
end Nat32
namespace Nat32
open Go Go.Dat
def z0V (r:Rat):List DV:=xnC (qX r)
theorem z1o (r:Rat):(z0V r).length=3:=rfl
theorem z1W (r:Rat):∀d∈z0V r,d.rf=true:=by
 intro d hd
 simp only [z0V,xnC,List.mem_cons,List.not_mem_nil,or_false] at hd
 rcases hd with rfl|rfl|rfl<;>rfl
theorem z4K (r:Rat):∀d∈z0V r,d.one=true:=by
 intro d hd
 simp only [z0V,xnC,List.mem_cons,List.not_mem_nil,or_false] at hd
 rcases hd with rfl|rfl|rfl<;>rfl
def nums (l:List Rat):List DV:=l.flatMap z0V
theorem z1l (l:List Rat):(nums l).length=l.length*3:=z8m z1o l
theorem z07 (l:List Rat):∀d∈nums l,d.rf=true:=x0h z1W l
theorem x5F (l:List Rat):∀d∈nums l,d.one=true:=x8r z4K l
theorem z52 (l:List Rat) (r:Rat):nums l++z0V r=nums (l++[r]):=y28 l r
end Nat32
namespace Go.Dat
open Go
end Go.Dat
namespace Nat32
def BS (r:Rat) (m:Nat):Prop:=r.num.natAbs<2 ^ m∧r.den<2 ^ m
theorem BS.mono {r:Rat} {m n:Nat} (h:BS r m) (hm:m≤n):BS r n :=
 ⟨Nat.lt_of_lt_of_le h.1 (Nat.pow_le_pow_right (by decide) hm),Nat.lt_of_lt_of_le h.2 (Nat.pow_le_pow_right (by decide) hm)⟩
theorem x81 {z:Int} {d m:Nat} (h:d≠0) (h1:z.natAbs<2 ^ m) (h2:d<2 ^ m):BS (mkRat z d) m:=by
 have hg:0<Nat.gcd z.natAbs d:=Nat.gcd_pos_of_pos_right _ (Nat.pos_of_ne_zero h)
 have hd:((Nat.gcd z.natAbs d:Nat):Int)∣z:=Int.ofNat_dvd_left.2 (Nat.gcd_dvd_left z.natAbs d)
 unfold BS
 rw [Rat.num_mkRat,Rat.den_mkRat,if_neg h,if_neg h,Nat.gcd_comm d,(y8t hd hg).1]
 exact ⟨Nat.lt_of_le_of_lt (Nat.div_le_self _ _) h1,Nat.lt_of_le_of_lt (Nat.div_le_self _ _) h2⟩
theorem w5o {a b m n:Nat} (h1:a<2 ^ m) (h2:b<2 ^ n):a*b<2 ^ (m+n):=by
 rw [Nat.pow_add]
 exact Nat.lt_of_le_of_lt (Nat.mul_le_mul_left a (Nat.le_of_lt h2)) ((Nat.mul_lt_mul_right (Nat.two_pow_pos n)).2 h1)
theorem x7U {x y:Rat} {m n:Nat} (h1:BS x m) (h2:BS y n):BS (x*y) (m+n):=by
 rw [Rat.mul_def']
 exact x81 (Nat.mul_ne_zero x.den_nz y.den_nz) (by rw [Int.natAbs_mul];exact w5o h1.1 h2.1) (w5o h1.2 h2.2)
theorem x1D {z e:Int} {m:Nat} (he:e≠0) (h1:z.natAbs<2 ^ m) (h2:e.natAbs<2 ^ m):BS (Rat.divInt z e) m:=by
 rcases Int.lt_or_gt_of_ne he with h|h
 ·rw [y1s z h];exact x81 (by omega) (by rwa [Int.natAbs_neg]) h2
 ·rw [z6w z h];exact x81 (by omega) h1 h2
theorem w5y:BS 1 1:=⟨by decide,by decide⟩
theorem w5N:BS 0 1:=⟨by decide,by decide⟩
theorem x1X {r:Rat} {m l:Nat} (h:BS r m) (hm:m≤32*l):RB r l:=by
 have e:(4294967296:Nat) ^ l=2 ^ (32*l):=by rw [Nat.pow_mul]
 have hp:2 ^ m≤2 ^ (32*l):=Nat.pow_le_pow_right (by decide) hm
 unfold RB
 rw [z0A,z0A,e]
 exact ⟨Nat.lt_of_lt_of_le h.1 hp,Nat.lt_of_lt_of_le h.2 hp⟩
def MS (n k:Nat) (M:Mt) (m:Nat):Prop:=∀i,i<n→∀j,j<k→BS (M i j) m
end Nat32
namespace Nat32
open Go Go.Dat
def w0N (x:XN):Bool:=z5p x.1 x.2.1 x.2.2 && decide ((xnV x).num.sign=0)
def y8R (k:Kx) (x:Tc):Bool :=
 if x.mi then w0N x.va && decide (x.lv=0) else if k.kd=1 then z5p x.va.1 x.va.2.1 x.va.2.2 && decide (x.lv=0) else w0N x.va && decide (0≤x.lv) && decide (x.lv<k.le.length)
def x1i (k:Kx) (n:Int):Bool:=(decide (k.kd=1) || decide (k.kd=2)) && !(decide (k.kd=1) && decide (0<k.le.length)) && decide (k.le.length≤32) && decide ((k.ce.length:Int)=n)
def x8E (l:List Bs):Bool:=(List.range l.length).all fun i=>decide (ixS (l.take i) (l.getD i [])<0)
def x1h (k:Kx) (n:Int):Bool:=x1i k n && x8E k.le && k.ce.all (y8R k)
def z1g (l:List Kx):List Bs:=l.map Kx.nm
theorem z0Y (l:List Kx):(z1g l).length=l.length:=List.length_map _
def y9D (n:Int) (S:List Kx):Bool:=decide (0≤n) && decide (n≤1024) && decide (S.length≤32) && z5v (z1g S) && S.all fun k=>x1h k n
theorem x3c {l:List Bs} {i:Nat} (hi:i<l.length) (h:¬ixS (l.take i) (l.getD i [])<0):x8E l=false:=by
 unfold x8E
 rw [List.all_eq_false]
 exact ⟨i,List.mem_range.2 hi,by simpa using h⟩
theorem y8d {l:List Bs} (h:∀i,i<l.length→ixS (l.take i) (l.getD i [])<0):x8E l=true:=by
 unfold x8E
 rw [List.all_eq_true]
 exact fun i hi=>by simpa using h i (List.mem_range.1 hi)
theorem y17 {α:Type} (p:α→Bool):∀l:List α,(l.any fun x=>!p x)=!l.all p
 | []=>rfl
 | x::l=>by rw [List.any_cons,List.all_cons,y17 p l];cases p x<;>rfl
theorem w3e:w0N (false,[],[])=true:=by decide +kernel
def z2I (S:List Kx) (names:List Bs):List Kx:=names.map fun s=>S.getD (ixS (z1g S) s).toNat default
def y72 (r:Nat) (k:Kx):Bool:=(k.ce.getD r default).mi
def z1f (U:List Kx) (n:Nat):List Nat:=(List.range n).filter fun r=>!U.any (y72 r)
def ints (l:List Nat):List DV:=l.map fun r=>.int .i64 (r:Nat)
theorem z2p (l:List Nat):(ints l).length=l.length:=List.length_map _
theorem z5q (l:List Nat):∀d∈ints l,d.rf=true:=by
 intro d hd
 unfold ints at hd
 obtain ⟨_,_,rfl⟩:=List.mem_map.1 hd
 rfl
theorem y4q {U:List Kx} {n:Nat} (h:U.any (y72 n)=false):z1f U (n+1)=z1f U n++[n]:=by
 unfold z1f
 rw [List.range_succ,List.filter_append,List.filter_cons,if_pos (by rw [h];rfl)];rfl
theorem y7U {U:List Kx} {n:Nat} (h:U.any (y72 n)=true):z1f U (n+1)=z1f U n:=by
 unfold z1f
 rw [List.range_succ,List.filter_append,List.filter_cons,if_neg (by rw [h];decide)];simp
theorem z5N (U:List Kx) (n:Nat):(z1f U n).length≤n:=by
 unfold z1f
 exact Nat.le_trans (List.length_filter_le _ _) (by simp)
theorem w4M (k:Int) {n:Nat} (hn:0<n) : -(n:Int)<k.tmod n∧k.tmod n<n∧(k.tmod n<0→k.tmod n+n=k % n)∧(¬k.tmod n<0→k.tmod n=k % n):=by
 have hp:(0:Int)<(n:Int):=by omega
 have h1:=Int.emod_nonneg k (show (n:Int)≠0 by omega)
 have h2:=Int.emod_lt_of_pos k hp
 by_cases h:0≤k
 ·rw [Int.tmod_eq_emod_of_nonneg h];omega
 ·obtain ⟨m,hm⟩:∃m:Nat,k = -(m:Int):=⟨k.natAbs,by omega⟩
  subst hm
  rw [Int.neg_tmod,Int.tmod_eq_emod_of_nonneg (by omega)]
  have h3:=Int.emod_nonneg (m:Int) (show (n:Int)≠0 by omega)
  have h4:=Int.emod_lt_of_pos (m:Int) hp
  have h5:=Int.emod_add_mul_ediv (m:Int) n
  have h6:=Int.emod_add_mul_ediv (-(m:Int)) n
  clear h1 h2 h6
  refine ⟨by omega,by omega,fun h=>?_,fun h=>?_⟩
  ·have hm:(n:Int)*(-((m:Int) / n) - 1) = -((n:Int)*((m:Int) / n)) - n:=by rw [Int.mul_sub,Int.mul_neg,Int.mul_one]
   have e : -(m:Int)=((n:Int) - (m:Int) % n)+n*(-((m:Int) / n) - 1):=by omega
   have key:(-(m:Int)) % n=(n:Int) - (m:Int) % n:=by
    rw [e,Int.add_mul_emod_self_left]
    exact Int.emod_eq_of_lt (by omega) (by omega)
   omega
  ·have e0:(m:Int) % n=0:=by omega
   have hm:(n:Int)*(-((m:Int) / n)) = -((n:Int)*((m:Int) / n)):=Int.mul_neg _ _
   have e : -(m:Int)=0+n*(-((m:Int) / n)):=by omega
   have key:(-(m:Int)) % n=0:=by
    rw [e,Int.add_mul_emod_self_left];rfl
   omega
theorem x3T (S:List Kx) (a:List Bs):(z2I S a).length=a.length:=List.length_map _
theorem x2K (S:List Kx) {a:List Bs} {i:Nat} (h:i<a.length):(z2I S a).getD i default=S.getD (ixS (z1g S) (a.getD i [])).toNat default:=by
 unfold z2I
 rw [zO1,List.getElem?_map,zO4 h,zO1 (l:=a),zO4 h];rfl
theorem x18 {α:Type} [Inhabited α] (p:α→Bool) {l:List α} {i:Nat} (h:i<l.length):(l.take (i+1)).any p=((l.take i).any p || p (l.getD i default)):=by
 rw [z0r default h,List.any_append];simp
theorem x6L (r:Rat):xnV (qX r)=r:=w1p r
def mtX (x:List (List XN)):Mt:=fun i j=>xnV ((x.getD i []).getD j default)
theorem x9Q {r:Rat} (h:RB r 300):y8q (qX r):=⟨z0f _,z5V _,h.1,Nat.le_trans (x1C _) h.2⟩
def y5Y (z:Int):Rat:=Rat.divInt (z % 61 - 30) (1+(Int.tdiv z 61) % 4)
def usL:List DV→Option (List Nat)
 | []=>some []
 | .int .u32 z::r=>if 0≤z∧z<4294967296 then (usL r).map (z.toNat::·) else none
 | _=>none
theorem x8G:∀{ds:List DV} {l:List Nat},usL ds=some l→ds=us l∧lim l
 | [],l,h=>by simp only [usL,Option.some.injEq] at h;subst h;exact ⟨rfl,z1v⟩
 | d::ds,l,h=>by
  unfold usL at h
  split at h
  ·rename_i e;cases e
  ·rename_i e
   cases e
   split at h
   ·rename_i hz
    rw [zO2] at h
    obtain ⟨m,hm,rfl⟩:=h
    obtain ⟨h1,h2⟩:=x8G hm
    refine ⟨?_,?_⟩
    ·rw [h1]
     simp only [us,List.map_cons,List.cons.injEq,and_true]
     unfold u32;rw [Int.toNat_of_nonneg hz.1]
    ·intro x hx
     rcases List.mem_cons.1 hx with rfl|hx
     ·omega
     ·exact h2 x hx
   ·cases h
  ·cases h
def w38:DV→Option (List Nat)
 | .sl s xs=>if s=1 then usL xs else none
 | .nils=>some []
 | _=>none
theorem x2p {d:DV} {l:List Nat} (h:w38 d=some l):WkD d (.sl 1 (us l))∧lim l:=by
 unfold w38 at h
 split at h
 ·split at h
  ·rename_i hs
   subst hs
   obtain ⟨h1,h2⟩:=x8G h
   rw [h1];exact ⟨WkD.refl _,h2⟩
  ·cases h
 ·cases h;exact ⟨WkD.nils 1,z1v⟩
 ·cases h
def w31:DV→Option XN
 | .agg [.bool b,x,y]=>(w38 x).bind fun l=>(w38 y).map fun m=>(b,l,m)
 | _=>none
theorem y60 {d:DV} {x:XN} (h:w31 d=some x):WkD d (.agg (xnC x))∧lim x.2.1∧lim x.2.2:=by
 unfold w31 at h
 split at h
 ·rename_i b p q
  rw [zO3] at h
  obtain ⟨l,h1,h⟩:=h
  rw [zO2] at h
  obtain ⟨m,h2,rfl⟩:=h
  obtain ⟨a1,a2⟩:=x2p h1
  obtain ⟨b1,b2⟩:=x2p h2
  exact ⟨WkD.agg (.cons (WkD.refl _) (.cons a1 (.cons b1 .nil))),a2,b2⟩
 ·cases h
def k1 (f:XN→Option DV):List DV→Option DV
 | [d]=>(w31 d).bind f
 | _=>none
theorem w2p {P:Program} {fn:Nat} {f:XN→Option DV} (h:∀x r,lim x.2.1→lim x.2.2→f x=some r→z0c P fn [.agg (xnC x)] r):∀ds r,k1 f ds=some r→z0c P fn ds r:=fun ds r hr=>by
 unfold k1 at hr
 split at hr
 ·rw [zO3] at hr
  obtain ⟨x,h1,h2⟩:=hr
  obtain ⟨a,b,c⟩:=y60 h1
  exact z4r (.cons a .nil) (h x r b c h2)
 ·cases hr
def k2 (f:XN→XN→Option DV):List DV→Option DV
 | [d,e]=>(w31 d).bind fun x=>(w31 e).bind fun y=>f x y
 | _=>none
theorem x94 {P:Program} {fn:Nat} {f:XN→XN→Option DV} (h:∀x y r,lim x.2.1→lim x.2.2→lim y.2.1→lim y.2.2→f x y=some r→z0c P fn [.agg (xnC x),.agg (xnC y)] r):∀ds r,k2 f ds=some r→z0c P fn ds r:=fun ds r hr=>by
 unfold k2 at hr
 split at hr
 ·rw [zO3] at hr
  obtain ⟨x,h1,hr⟩:=hr
  rw [zO3] at hr
  obtain ⟨y,h2,h3⟩:=hr
  obtain ⟨a,b,c⟩:=y60 h1
  obtain ⟨a',b',c'⟩:=y60 h2
  exact z4r (.cons a (.cons a' .nil)) (h x y r b c b' c' h3)
 ·cases hr
def smX (m:Nat) (x:XN):Bool:=decide (x.2.1.length≤m) && decide (x.2.2.length≤m)
theorem z7C {m:Nat} {x:XN} (h:smX m x=true):x.2.1.length≤m∧x.2.2.length≤m:=by
 unfold smX at h
 simpa using h
def kI (f:Int→Option DV):List DV→Option DV
 | [.int .i64 z]=>if -9223372036854775808≤z∧z≤9223372036854775807 then f z else none
 | _=>none
theorem x9L {P:Program} {fn:Nat} {f:Int→Option DV} (h:∀z r,-9223372036854775808≤z→z≤9223372036854775807→f z=some r→z0c P fn [.int .i64 z] r):∀ds r,kI f ds=some r→z0c P fn ds r:=fun ds r hr=>by
 unfold kI at hr
 split at hr
 ·split at hr
  ·rename_i hz;exact h _ r hz.1 hz.2 hr
  ·cases hr
 ·cases hr
structure Fac where
 nm:List UInt8
 pw:Int
 deriving Inhabited,DecidableEq
def fcC (f:Fac):List DV:=[.str f.nm,.int .i64 f.pw]
theorem z1H (f:Fac):(fcC f).length=2:=rfl
def fcs (l:List Fac):List DV:=l.flatMap fcC
theorem z3j (l:List Fac):(fcs l).length=l.length*2:=z8m z1H l
theorem y80 (f:Fac):∀d∈fcC f,d.rf=true:=by
 intro d hd
 simp only [fcC,List.mem_cons,List.not_mem_nil,or_false] at hd
 rcases hd with rfl|rfl<;>rfl
theorem x9n (f:Fac):∀d∈fcC f,d.one=true:=by
 intro d hd
 simp only [fcC,List.mem_cons,List.not_mem_nil,or_false] at hd
 rcases hd with rfl|rfl<;>rfl
theorem z9g (l:List Fac):∀d∈fcs l,d.rf=true:=x0h y80 l
theorem x8W (l:List Fac):∀d∈fcs l,d.one=true:=x8r x9n l
theorem w4s (m:Nat) (a b:DV) (h:[a,b].all DV.rf=true):(rep m [a,b]).length=m*2∧∀x∈rep m [a,b],x.rf=true:=by
 show ((List.replicate m [a,b]).flatten).length=m*2∧∀x∈(List.replicate m [a,b]).flatten,x.rf=true
 constructor
 ·induction m with
  | zero=>rfl
  | succ m ih=>rw [List.replicate_succ,List.flatten_cons,List.length_append,ih];show 2+m*2=_;omega
 ·intro x hx
  obtain ⟨l,h1,h2⟩:=List.mem_flatten.1 hx
  rw [(List.mem_replicate.1 h1).2] at h2
  exact List.all_eq_true.1 h x h2
def ctE (k n i j:Nat):Int :=
 let b:Bool→Int:=fun c=>if c then 1 else 0
 if k=1 then b (decide (i=j+1)) else if k=2 then b (decide (i=j)) - b (decide (i=n - 1)) else if k=3 then (j+1)*b (decide (i=j+1)) - b (decide (i≤j)) else b (decide (i=j))
def ctC (k n:Nat):Nat:=if k=4 then n else n - 1
def ctD (k n:Nat):DV:=.tup [.sl 1 ((List.range n).map fun i=>.sl 3 ((List.range (ctC k n)).flatMap fun j=>xnC (qX (ctE k n i j)))),.int .i64 0]
def ctK:List DV→Option DV
 | [.int .i64 k,.int .i64 n]=>if 1≤k∧k≤4∧2≤n∧n≤3 then some (ctD k.toNat n.toNat) else none
 | _=>none
def w4U:List DV→Option DV
 | [.el B 0,.sl 2 [.str n,.int .i64 p],.agg [.str n',.int .i64 p']]=>if B.all DV.rf && decide (B.length=6) && decide (n=n') && decide (p=p') then (match B.getD 3 .undef with
  | .bool true=>some (B.getD 5 .undef)
  | .bool false=>some (.int .i64 4)
  | _=>none) else none
 | _=>none
theorem x3x (z:Int):BS (y5Y z) 5:=by
 have b1:=Int.emod_nonneg z (show (61:Int)≠0 by decide)
 have b2:=Int.emod_lt_of_pos z (show (0:Int)<61 by decide)
 have b3:=Int.emod_nonneg (Int.tdiv z 61) (show (4:Int)≠0 by decide)
 have b4:=Int.emod_lt_of_pos (Int.tdiv z 61) (show (0:Int)<4 by decide)
 unfold y5Y
 exact x1D (by omega) (by omega) (by omega)
section
open Go.RowKit Go.ChangeShapes Go.WideShapes Go.Joins Go.Deep
variable {H:Type} {enc:TypeId × Value→H} {P:Program} {w:World} {base:Nat} {spare:Nat→Bool} {held:Bool}
end
end Nat32
namespace Nat32
open Go Go.Dat
def w5O (z:Int):XN:=qX (y5Y z)
def y0i (z:Int):Tc:=⟨false,w5O z,0⟩
def lvT (v m:Int):Tc:=if v<0 then ⟨true,(false,[],[]),0⟩ else ⟨false,(false,[],[]),Int.tmod v m⟩
def tbY (l:List Int) (n:Nat):List Tc:=(List.range n).map fun i=>y0i (l.getD i 0)
def tbG (l:List Int) (m:Int) (n:Nat):List Tc:=(List.range n).map fun i=>lvT (l.getD i 0) m
theorem z6Q (l:List Int) (n:Nat):(tbY l n).length=n:=by unfold tbY;rw [List.length_map,List.length_range]
theorem z6n (l:List Int) (m:Int) (n:Nat):(tbG l m n).length=n:=by unfold tbG;rw [List.length_map,List.length_range]
theorem y8P (l:List Int) (n:Nat):cxs (tbY l n)++cxC (y0i (l.getD n 0))=cxs (tbY l (n+1)):=by
 unfold tbY cxs;rw [List.range_succ,List.map_append,List.flatMap_append];simp
theorem y8V (l:List Int) (m:Int) (n:Nat):cxs (tbG l m n)++cxC (lvT (l.getD n 0) m)=cxs (tbG l m (n+1)):=by
 unfold tbG cxs;rw [List.range_succ,List.map_append,List.flatMap_append];simp
def z95 (Y X G H:List Int):List Kx :=
 let n:=min Y.length 10
 [⟨[121],1,[],tbY Y n⟩,⟨[120],1,[],tbY X n⟩,⟨[103],2,[[97],[98],[99]],tbG G 3 n⟩,⟨[104],2,[[117],[118]],tbG H 2 n⟩]
inductive RS (α:Type) where
 | ok (fs:List α) (k:Nat)
 | err (e k:Nat)
def nl (s:Bs):Nat:=s.count 10
end Nat32
namespace Nat32
open Go Go.Dat Go.Lib
structure Mdl where
 rs:Bs
 ic:Bool
 tm:List (List Fac)
 deriving Inhabited
def tmD (T:List (List Fac)):List DV:=T.map fun t=>.sl 2 (fcs t)
theorem y1Y (T:List (List Fac)):(tmD T).length=T.length:=List.length_map _
theorem y3m {T:List (List Fac)} {i:Nat} (h:i<T.length) (d:DV):(tmD T).getD i d=.sl 2 (fcs (T.getD i [])):=by
 unfold tmD
 rw [zO1,List.getElem?_map,zO4 h,zO1,zO4 h];rfl
def z0U (m:Mdl):List DV:=[.str m.rs,.bool m.ic,.sl 1 (tmD m.tm)]
def z3k (n:Int) (S:List Kx) (m:Mdl) (cod:Int):List DV:=[.int .i64 n,.sl 4 (kxs S),.str m.rs,.bool m.ic,.sl 1 (tmD m.tm),.int .i64 cod]
def z99 (m:Mdl) (l:List Fac):Bool:=if l.isEmpty then m.ic else m.tm.any fun t=>decide (t.length=l.length) && l.all fun f=>t.contains f
def x4i (m:Mdl) (cod:Int) (t:List Fac) (f:Fac):Int:=if z99 m (t.filter fun x=>!decide (x=f)) then cod else 4
def z2u (S:List Kx) (s:Bs):Kx:=S.getD (ixS (z1g S) s).toNat default
def ctN (k:Int) (le:List Bs):List Bs:=(List.range (ctC k.toNat le.length)).map fun j=>if k=4 then 61::le.getD j [] else if k=1 then 61::le.getD (j+1) [] else 46::decDigits (j+1)
theorem z4G (k:Int) (le:List Bs):(ctN k le).length=ctC k.toNat le.length:=by unfold ctN;rw [List.length_map,List.length_range]
def ctR (k n l:Nat):List Rat:=(List.range (ctC k n)).map fun j=>((ctE k n l j:Int):Rat)
theorem w0B (k n l:Nat):(ctR k n l).length=ctC k n:=by unfold ctR;rw [List.length_map,List.length_range]
section
variable (S:List Kx) (m:Mdl) (cod:Int)
def z3r (t:List Fac) (f:Fac):List Bs :=
 if (z2u S f.nm).kd=1 then [if f.pw=1 then (z2u S f.nm).nm else (z2u S f.nm).nm++94::decDigits f.pw.toNat] else (ctN (x4i m cod t f) (z2u S f.nm).le).map ((z2u S f.nm).nm++·)
def y1U (t:List Fac) (f:Fac) (r:Nat):List Rat :=
 if (z2u S f.nm).kd=1 then [xnV ((z2u S f.nm).ce.getD r default).va ^ f.pw.toNat] else ctR (x4i m cod t f).toNat (z2u S f.nm).le.length ((z2u S f.nm).ce.getD r default).lv.toNat
theorem z4S (t:List Fac) (f:Fac) (r:Nat):(y1U S m cod t f r).length=(z3r S m cod t f).length:=by
 unfold y1U z3r
 split
 ·rfl
 ·rw [w0B,List.length_map,z4G]
def z3P (a b:List Bs):List Bs:=b.flatMap fun s=>a.map fun r=>r++58::s
def z3x (a b:List Rat):List Rat:=b.flatMap fun y=>a.map fun x=>x*y
theorem z2C (a:List Bs):∀b:List Bs,(z3P a b).length=b.length*a.length
 | []=>by simp [z3P]
 | s::b=>by
  have:=z2C a b
  unfold z3P at this ⊢
  rw [List.flatMap_cons,List.length_append,this,List.length_map,List.length_cons,Nat.succ_mul,Nat.add_comm]
theorem z3R (a:List Rat):∀b:List Rat,(z3x a b).length=b.length*a.length
 | []=>by simp [z3x]
 | s::b=>by
  have:=z3R a b
  unfold z3x at this ⊢
  rw [List.flatMap_cons,List.length_append,this,List.length_map,List.length_cons,Nat.succ_mul,Nat.add_comm]
def z8c (t:List Fac):List Bs:=match t with
 | []=>[]
 | f::fs=>fs.foldl (fun g h=>z3P g (z3r S m cod t h)) (z3r S m cod t f)
def z8j (t:List Fac) (r:Nat):List Rat:=match t with
 | []=>[]
 | f::fs=>fs.foldl (fun g h=>z3x g (y1U S m cod t h r)) (y1U S m cod t f r)
theorem y9F (t:List Fac) (r:Nat):∀(fs:List Fac) (a:List Bs) (b:List Rat),b.length=a.length→(fs.foldl (fun g h=>z3x g (y1U S m cod t h r)) b).length=(fs.foldl (fun g h=>z3P g (z3r S m cod t h)) a).length
 | [],_,_,h=>h
 | f::fs,a,b,h=>y9F t r fs _ _ (by rw [z3R,z2C,z4S,h])
theorem z8g (t:List Fac) (r:Nat):(z8j S m cod t r).length=(z8c S m cod t).length:=by
 cases t with
 | nil=>rfl
 | cons f fs=>exact y9F S m cod (f::fs) r fs _ _ (z4S S m cod _ f r)
def y0n (t:List Fac):Bool:=t.all fun f=>!(z3r S m cod t f).isEmpty
def x0C:List (List Fac):=m.tm.filter (y0n S m cod)
def icN:List Bs:=if m.ic then [[40,73,110,116,101,114,99,101,112,116,41]] else []
def icV:List Rat:=if m.ic then [1] else []
def z5t:List Bs:=icN m++(x0C S m cod).flatMap (z8c S m cod)
def y61 (r:Nat):List Rat:=icV m++(x0C S m cod).flatMap fun t=>z8j S m cod t r
theorem y2a {α β γ:Type} {f:α→List β} {g:α→List γ} (h:∀a,(f a).length=(g a).length):∀l:List α,(l.flatMap f).length=(l.flatMap g).length
 | []=>rfl
 | a::l=>by rw [List.flatMap_cons,List.flatMap_cons,List.length_append,List.length_append,h a,y2a h l]
theorem x5U (r:Nat):(y61 S m cod r).length=(z5t S m cod).length:=by
 unfold y61 z5t
 rw [List.length_append,List.length_append,y2a fun t=>z8g S m cod t r]
 unfold icV icN
 split<;>rfl
end
def z1U (m:Mdl):List Bs:=m.rs::m.tm.flatMap fun t=>t.map Fac.nm
def z1z (n:Nat) (S:List Kx) (m:Mdl):List Nat:=z1f (z2I S (z1U m)) n
def y5B (S:List Kx) (m:Mdl) (r:Nat):Rat:=xnV ((z2u S m.rs).ce.getD r default).va
def x5f (n:Nat) (S:List Kx) (m:Mdl) (cod:Int):DV :=
 .agg [.sl 1 (z0D (z5t S m cod)),.sl 1 ((z1z n S m).map fun r=>.sl 3 (nums (y61 S m cod r))),.sl 3 (nums ((z1z n S m).map (y5B S m))),.sl 1 (ints (z1z n S m))]
end Nat32
namespace Nat32
open Go Go.Dat
structure Grp where
 nm:List Bs
 cl:DV
 r:cl.rf=true
 o:cl.one=true
instance:Inhabited Grp:=⟨⟨[],.nilp,rfl,rfl⟩⟩
def gpC (g:Grp):List DV:=[.sl 1 (z0D g.nm),g.cl]
theorem z1A (g:Grp):(gpC g).length=2:=rfl
theorem z5j (g:Grp):(DV.agg (gpC g)).cells? = some (gpC g):=by
 show (if (gpC g).all DV.one=true then some (gpC g) else none)=_
 have:(gpC g).all DV.one=true:=by
  simp only [gpC,List.all_cons,g.o,List.all_nil];rfl
 rw [if_pos this]
def gps (l:List Grp):List DV:=l.flatMap gpC
theorem z2z (l:List Grp):(gps l).length=l.length*2:=z8m z1A l
theorem z35 (g:Grp):∀d∈gpC g,d.rf=true:=by
 intro d hd
 simp only [gpC,List.mem_cons,List.not_mem_nil,or_false] at hd
 rcases hd with rfl|rfl
 ·rfl
 ·exact g.r
theorem w0n (g:Grp):∀d∈gpC g,d.one=true:=by
 intro d hd
 simp only [gpC,List.mem_cons,List.not_mem_nil,or_false] at hd
 rcases hd with rfl|rfl
 ·rfl
 ·exact g.o
theorem z7g (l:List Grp):∀d∈gps l,d.rf=true:=x0h z35 l
def GV (P:Program) (g:Grp) (r:Nat) (l:List Rat):Prop:=∃f cs,z6z g.cl f cs∧z0X P f∧cs.all DV.rf=true∧z0c P f ([.int .i64 (r:Nat)]++cs) (.sl 3 (nums l))
theorem y8g {q:Rat} {b:Nat} (h:BS q b):∀i:Nat,BS (q ^ i) (i*b+1)
 | 0=>by rw [Rat.pow_zero];exact w5y.mono (by omega)
 | i+1=>by
  rw [Rat.pow_succ]
  exact (x7U (y8g h i) h).mono (by rw [Nat.succ_mul];omega)
theorem x8c (k n:Nat):ctD k n=.tup [.sl 1 ((List.range n).map fun i=>.sl 3 (nums (ctR k n i))),.int .i64 0]:=by
 unfold ctD nums ctR
 have:∀i,((List.range (ctC k n)).flatMap fun j=>xnC (qX (ctE k n i j)))=((List.range (ctC k n)).map fun j=>((ctE k n i j:Int):Rat)).flatMap z0V:=fun i=>by rw [List.flatMap_map];rfl
 simp only [this]
def ctL (k n:Nat):List DV:=(List.range n).map fun i=>.sl 3 (nums (ctR k n i))
theorem x4a (k n:Nat):(ctL k n).length=n:=by unfold ctL;rw [List.length_map,List.length_range]
theorem x2j {k n i:Nat} (h:i<n) (d:DV):(ctL k n).getD i d=.sl 3 (nums (ctR k n i)):=by
 unfold ctL
 rw [zO1,List.getElem?_map,List.getElem?_range h];rfl
theorem z06 (l:List Bs):∀d∈z0D l,d.rf=true:=by
 intro d hd
 unfold z0D at hd
 obtain ⟨_,_,rfl⟩:=List.mem_map.1 hd
 rfl
def x5i (l:List Bs) (n i:Nat):List DV:=z0D (l.take i)++List.replicate (n - i) (.str [])
theorem w2g (l:List Bs) (n:Nat):rep n [DV.str []]=x5i l n 0:=by
 unfold x5i
 rw [List.take_zero,Nat.sub_zero]
 rfl
theorem x6R {l:List Bs} {n i:Nat} (h:l.length=n) (hi:i≤n):(x5i l n i).length=n:=by
 unfold x5i z0D
 rw [List.length_append,List.length_map,List.length_take,List.length_replicate];omega
theorem x6y {l:List Bs} {n i:Nat} (h:l.length=n) (hi:i<n):(x5i l n i).set i (.str (l.getD i []))=x5i l n (i+1):=by
 have e:(z0D (l.take i)).length=i:=by unfold z0D;rw [List.length_map,List.length_take];omega
 unfold x5i
 rw [List.set_append_right _ _ (by omega),e,Nat.sub_self,show n - i=(n - (i+1))+1 by omega,List.replicate_succ,List.set_cons_zero]
 have:l.take (i+1)=l.take i++[l.getD i []]:=z0r [] (by omega)
 rw [this]
 unfold z0D
 rw [List.map_append,List.append_assoc];rfl
theorem x6M {l:List Bs} {n:Nat} (h:l.length=n):x5i l n n=z0D l:=by
 unfold x5i
 rw [Nat.sub_self,List.replicate_zero,List.append_nil,List.take_of_length_le (by omega)]
def w0I (n:Nat) (S:List Kx) (m:Mdl) (r:Nat):Prop:=r<n∧∀s∈z1U m,y72 r (z2u S s)=false
theorem y2x {n:Nat} {S:List Kx} {m:Mdl} {r:Nat} (h:r∈z1z n S m):w0I n S m r:=by
 unfold z1z z1f at h
 rw [List.mem_filter,List.mem_range] at h
 refine ⟨h.1,fun s hs=>?_⟩
 have h2:=h.2
 rw [Bool.not_eq_true',List.any_eq_false] at h2
 have:=h2 (z2u S s) (by unfold z2I;exact List.mem_map.2 ⟨s,hs,rfl⟩)
 simpa using this
theorem z48 {m:Mdl} {t:List Fac} {f:Fac} (ht:t∈m.tm) (hf:f∈t):f.nm∈z1U m:=by
 unfold z1U
 exact List.mem_cons_of_mem _ (List.mem_flatMap.2 ⟨t,ht,List.mem_map.2 ⟨f,hf,rfl⟩⟩)
structure DK (P:Program) (fp fm:Nat) (n:Nat) (S:List Kx) (m:Mdl) (cod:Nat):Prop where
 ok:S.length≤1000000∧∀k∈S,k.nm.length≤9223372036854775807∧k.le.length≤1000000∧k.ce.length≤1000000∧∀c∈k.ce,y8q c.va
 tv:y9D n S=true
 vs:∀s∈z1U m,0≤ixS (z1g S) s
 c4:1≤cod∧cod≤4
 pw:∀t∈m.tm,∀f∈t,1≤f.pw∧f.pw≤8
 tl:m.tm.length≤32∧∀t∈m.tm,1≤t.length∧t.length≤6
 nl:∀k∈S,k.nm.length≤1000000∧∀s∈k.le,s.length≤1000000
 nu:∀k∈S,∀c∈k.ce,c.va=qX (xnV c.va)∧BS (xnV c.va) 100
 lv:∀k∈S,k.kd≠1→1≤k.le.length∧k.le.length≤3
 pr:∀t∈m.tm,∀f∈t,z0c P fp [.el (z3k n S m cod) 0,.sl 2 (fcs (t.filter fun x=>!decide (x=f)))] (.bool (z99 m (t.filter fun x=>!decide (x=f))))
 mx:∀k∈S,k.kd≠1→∀c:Nat,1≤c→c≤4→z0c P fm [.int .i64 c,.int .i64 k.le.length] (ctD c k.le.length)
theorem z3Y {S:List Kx} {s:Bs} (h:0≤ixS (z1g S) s):z2u S s∈S:=by
 have hbd:=z36 s (z1g S)
 rw [z0Y] at hbd
 exact z4a (by omega)
theorem z4F {n:Nat} {S:List Kx} (h:y9D n S=true) {k:Kx} (hk:k∈S):(k.kd=1∨k.kd=2)∧k.ce.length=n∧(∀c∈k.ce,y8R k c=true)∧k.le.length≤32∧(k.kd=1→k.le=[]):=by
 unfold y9D at h
 simp only [Bool.and_eq_true,decide_eq_true_eq,List.all_eq_true] at h
 have h1:=h.2 k hk
 unfold x1h x1i at h1
 simp only [Bool.and_eq_true,Bool.or_eq_true,decide_eq_true_eq,List.all_eq_true,Bool.not_eq_true',Bool.and_eq_false_iff,decide_eq_false_iff_not] at h1
 obtain ⟨⟨⟨⟨⟨h2,h3⟩,h4⟩,h5⟩,_⟩,h6⟩:=h1
 refine ⟨h2,by omega,h6,h4,fun h=>?_⟩
 rcases h3 with h3|h3
 ·exact absurd h h3
 ·exact List.eq_nil_of_length_eq_zero (by omega)
theorem x8d {k:Kx} {x:Tc} (h:y8R k x=true) (h1:x.mi=false) (h2:k.kd≠1):0≤x.lv∧x.lv<k.le.length:=by
 unfold y8R at h
 rw [h1,if_neg (by decide),if_neg h2] at h
 simp only [Bool.and_eq_true,decide_eq_true_eq] at h
 exact ⟨h.1.2,h.2⟩
theorem w3T {k n i j:Nat} (hj:j<32):(ctE k n i j).natAbs≤33:=by
 unfold ctE
 simp only
 repeat' split
 all_goals omega
theorem x7R {z:Int} (h:z.natAbs≤63):BS ((z:Int):Rat) 6:=⟨by rw [Rat.num_intCast];omega,by rw [Rat.den_intCast];decide⟩
theorem w2i {k n l:Nat} (hn:n≤32):∀x∈ctR k n l,BS x 6:=by
 intro x hx
 unfold ctR at hx
 obtain ⟨j,hj,rfl⟩:=List.mem_map.1 hx
 rw [List.mem_range] at hj
 have hc:ctC k n≤n:=by unfold ctC;split<;>omega
 have:=@w3T k n l j (by omega)
 exact x7R (by omega)
end Nat32
