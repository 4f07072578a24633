/- Lemmas of the walk; no conditions beyond those that each states. -/
import Derived.OpenShut
import Derived.Below
import Derived.Lib.SmallJoins
import Derived.Lib.ItoaNum
import Derived.Lib.Repeat
import Derived.Lib.SplitLaws
import Derived.ShutString
import Derived.Test.YtlcagndeidjobaaGreatDoorD3
import Derived.Test.YtlcagndeidjobaaGreatDoorD4
set_option linter.unusedSimpArgs false
set_option linter.unusedVariables false
set_option linter.unnecessarySimpa false
set_option maxHeartbeats 4000000
namespace Nat32
def nv:List Nat→Nat
 | []=>0
 | x::r=>x+4294967296*nv r
def limbs (n:Nat):List Nat:=if h:n=0 then [] else (n % 4294967296)::limbs (n / 4294967296)
 termination_by n
 decreasing_by omega
def lim (a:List Nat):Prop:=∀x∈a,x<4294967296
def vld (a:List Nat):Bool:=decide (a.length=0∨a.getD (a.length - 1) 0≠0)
def val (a:List Nat):List Nat:=if vld a then a else []
def z3V (a:List Nat):Nat→Nat
 | 0=>0
 | n+1=>if a.getD n 0=0 then z3V a n else n+1
def x5y (a:List Nat):List Nat:=a.take (z3V a a.length)
theorem z0r:limbs 0=[]:=by rw [limbs];simp
theorem z17 {n:Nat} (h:n≠0):limbs n=(n % 4294967296)::limbs (n / 4294967296):=by rw [limbs];simp [h]
theorem z1l {n:Nat}:limbs n=[]↔n=0:=by
 constructor
 ·intro h;rcases Nat.eq_zero_or_pos n with e|e
  ·exact e
  ·rw [z17 (by omega)] at h;cases h
 ·rintro rfl;exact z0r
theorem z0E (n:Nat):nv (limbs n)=n:=by
 induction n using Nat.strongRecOn with
 | _ n ih =>
  by_cases h:n=0
  ·subst h;rw [z0r];rfl
  ·rw [z17 h,nv,ih _ (by omega)];omega
theorem z0e (n:Nat):lim (limbs n):=by
 induction n using Nat.strongRecOn with
 | _ n ih =>
  by_cases h:n=0
  ·subst h;rw [z0r];intro x hx;cases hx
  ·rw [z17 h]
   intro x hx
   rcases List.mem_cons.1 hx with e|e
   ·subst e;omega
   ·exact ih _ (by omega) x e
theorem z1m:lim []:=by intro x hx;cases hx
theorem z2q {x:Nat} {r:List Nat}:lim (x::r)↔x<4294967296∧lim r:=by
 constructor
 ·intro h;exact ⟨h x (by simp),fun y hy=>h y (by simp [hy])⟩
 ·rintro ⟨h1,h2⟩ y hy
  rcases List.mem_cons.1 hy with e|e
  ·subst e;exact h1
  ·exact h2 y e
theorem z28 {a:List Nat} (h:lim a) (n:Nat):lim (a.take n):=fun x hx=>h x (List.mem_of_mem_take hx)
theorem z0F {a:List Nat} (h:lim a) (k:Nat):a.getD k 0<4294967296:=by
 rw [zO1]
 cases e:a[k]? with
 | none=>simp
 | some x=>exact h x (List.mem_of_getElem? e)
theorem y9W {x y:Nat} {r:List Nat}:vld (x::y::r)=vld (y::r):=by
 unfold vld
 simp [zO1]
theorem z74 {a:List Nat} (hl:lim a) (hv:vld a=true):limbs (nv a)=a:=by
 induction a with
 | nil=>exact z0r
 | cons x r ih =>
  obtain ⟨hx,hr⟩:=z2q.1 hl
  cases r with
  | nil =>
   have:x≠0:=by simpa [vld] using hv
   simp only [nv,Nat.mul_zero,Nat.add_zero]
   rw [z17 this,Nat.mod_eq_of_lt hx,Nat.div_eq_of_lt hx,z0r]
  | cons y r =>
   rw [y9W] at hv
   have h:=ih hr hv
   have hne:nv (y::r)≠0:=by
    intro e;rw [e,z0r] at h;cases h
   rw [nv,z17 (by omega)]
   have e1:(x+4294967296*nv (y::r)) % 4294967296=x:=by omega
   have e2:(x+4294967296*nv (y::r)) / 4294967296=nv (y::r):=by omega
   rw [e1,e2,h]
theorem z2C (a b:List Nat):nv (a++b)=nv a+4294967296 ^ a.length*nv b:=by
 induction a with
 | nil=>simp [nv]
 | cons x a ih =>
  simp only [List.cons_append,nv,ih,List.length_cons,Nat.pow_succ,Nat.mul_add]
  rw [←Nat.mul_assoc,Nat.mul_comm (4294967296 ^ a.length) 4294967296]
  omega
theorem z2s {a:List Nat} {n:Nat} (h:n<a.length):a.take (n+1)=a.take n++[a.getD n 0]:=by
 rw [List.take_succ_eq_append_getElem h,zO1,zO4 h];rfl
theorem z4p {a:List Nat} {n:Nat} (h:n<a.length):nv (a.take (n+1))=nv (a.take n)+4294967296 ^ n*a.getD n 0:=by
 rw [z2s h,z2C]
 rw [List.length_take,Nat.min_eq_left (by omega)];simp [nv]
theorem y9Q (a:List Nat):∀n,z3V a n≤n
 | 0=>Nat.le_refl _
 | n+1=>by
  have:=y9Q a n
  simp only [z3V];split<;>omega
theorem y1I (a:List Nat):∀n,n≤a.length→nv (a.take (z3V a n))=nv (a.take n)∧vld (a.take (z3V a n))=true
 | 0,_=>by simp [z3V,nv,vld]
 | n+1,h=>by
  simp only [z3V]
  split
  ·rename_i h0
   obtain ⟨h1,h2⟩:=y1I a n (by omega)
   refine ⟨?_,h2⟩
   rw [h1,z4p (by omega),h0];omega
  ·rename_i h0
   refine ⟨rfl,?_⟩
   unfold vld
   rw [z2s (by omega)]
   simp only [decide_eq_true_eq]
   right
   have hl:(a.take n).length=n:=by simp;omega
   simp only [List.length_append,hl,List.length_singleton,Nat.add_sub_cancel]
   rw [zO1,List.getElem?_append_right (by omega),hl]
   simpa using h0
theorem z9Y {a:List Nat} (hl:lim a):x5y a=limbs (nv a):=by
 obtain ⟨h1,h2⟩:=y1I a a.length (Nat.le_refl _)
 rw [List.take_length] at h1
 have:=z74 (z28 hl (z3V a a.length)) h2
 rw [h1] at this
 exact this.symm
theorem w0N {a:List Nat} (h:lim a):lim (val a):=by unfold val;split;exact h;exact z1m
theorem w2g (a:List Nat):vld (val a)=true:=by
 unfold val
 by_cases h:vld a=true
 ·rw [if_pos h];exact h
 ·rw [if_neg h];rfl
def vn (a:List Nat):Nat:=nv (val a)
theorem z3A {a:List Nat} (h:lim a):val a=limbs (vn a):=(z74 (w0N h) (w2g a)).symm
theorem y7y (a:List Nat):(val a).length≤a.length:=by unfold val;split<;>simp
theorem z6g (n:Nat):vld (limbs n)=true:=by
 have:∀n,∀k,k≤n→vld (limbs k)=true:=by
  intro n
  induction n with
  | zero=>intro k hk;have:k=0:=by omega
          subst this;rw [z0r];rfl
  | succ n ih =>
   intro k hk
   by_cases h:k=0
   ·subst h;rw [z0r];rfl
   ·rw [z17 h]
    by_cases h2:k / 4294967296=0
    ·rw [h2,z0r]
     have:k % 4294967296≠0:=by omega
     simp [vld,this]
    ·have:=ih (k / 4294967296) (by omega)
     rw [z17 h2] at this ⊢
     rw [y9W];exact this
 exact this n n (Nat.le_refl _)
theorem z0w (n:Nat):vn (limbs n)=n:=by rw [vn,val,z6g,if_pos rfl,z0E]
theorem z4k {m n:Nat} (h:limbs m=limbs n):m=n:=by rw [←z0E m,h,z0E]
theorem z9y {a:List Nat} (h:lim a):nv a<4294967296 ^ a.length:=by
 induction a with
 | nil=>simp [nv]
 | cons x r ih =>
  obtain ⟨hx,hr⟩:=z2q.1 h
  have:=ih hr
  simp only [nv,List.length_cons,Nat.pow_succ]
  omega
theorem z0B {n k:Nat}:(limbs n).length≤k↔n<4294967296 ^ k:=by
 constructor
 ·intro h
  have:=z9y (z0e n)
  rw [z0E] at this
  exact Nat.lt_of_lt_of_le this (Nat.pow_le_pow_right (by decide) h)
 ·intro h
  induction k generalizing n with
  | zero=>have:n=0:=by simpa using h
          subst this;rw [z0r];simp
  | succ k ih =>
   by_cases h0:n=0
   ·subst h0;rw [z0r];simp
   ·rw [z17 h0]
    have:=ih (n:=n / 4294967296) (by rw [Nat.div_lt_iff_lt_mul (by decide),←Nat.pow_succ];exact h)
    simp only [List.length_cons];omega
end Nat32
namespace Nat32
open Go Go.Dat
def u32 (n:Nat):DV:=.int .u32 n
def us (xs:List Nat):List DV:=xs.map u32
theorem z0a (xs:List Nat):(us xs).length=xs.length:=by simp [us]
theorem z0R {xs:List Nat} {k:Nat} (h:k<xs.length):(us xs).getD k .undef=.int .u32 (xs.getD k 0:Nat):=by
 simp [us,zO1,List.getElem?_map,zO4 h,u32]
theorem x5C (xs:List Nat) (k:Nat):(us xs).take k=us (xs.take k):=by simp [us,List.map_take]
theorem x5B:us []=[]:=rfl
theorem z4A (xs:List Nat):(us xs).all DV.rf=true:=by simp [us,u32,DV.rf]
theorem x9p (xs:List Nat):(∀d∈us xs,d.one=true)=True:=by simp [us,u32,DV.one]
theorem z8b (o:Nat) (xs:List Nat):(us xs).map (purge o)=us xs:=by simp [us,u32,z9D]
theorem z35 (xs:List Nat) (k n:Nat):(us xs).set k (.int .u32 n)=us (xs.set k n):=by simp [us,u32,List.map_set]
theorem z7U (n:Nat):rep n [DV.int .u32 0]=us (List.replicate n 0):=by simp [us,u32,rep]
theorem us2 (x y:Nat):[DV.int .u32 x,DV.int .u32 y]=us [x,y]:=rfl
theorem z0n {o len:Nat} {q:List Nat} (h:len=q.length):frz o (us q) (.osl 1 o 0 len)=.sl 1 (us q):=by
 subst h
 rw [z6G o (us q) 0 q.length (by decide) (by simp [z0a])]
 simp [←z0a]
def z8o (x y:Nat):Int:=if x<y then -1 else if y<x then 1 else 0
theorem y0v {x y:Nat} (h:(limbs x).length<(limbs y).length):x<y:=by
 have h1:¬(limbs y).length≤(limbs x).length:=by omega
 rw [z0B] at h1
 have h2:=z0B.1 (Nat.le_refl (limbs x).length)
 omega
theorem z55 {a:List Nat} {m:Nat} (h:m<a.length):nv a=nv (a.take m)+4294967296 ^ m*(a.getD m 0+4294967296*nv (a.drop (m+1))):=by
 have e:a=a.take m++(a.getD m 0::a.drop (m+1)):=by
  rw [zO1,zO4 h];simp
 have:=z2C (a.take m) (a.getD m 0::a.drop (m+1))
 rw [←e,List.length_take,Nat.min_eq_left (by omega)] at this
 rw [this];rfl
theorem z77 {a b:List Nat} {m:Nat} (ha:lim a) (hma:m<a.length) (hmb:m<b.length) (hd:a.drop (m+1)=b.drop (m+1)) (h:a.getD m 0<b.getD m 0):nv a<nv b:=by
 rw [z55 hma,z55 hmb,hd]
 have h1:=z9y (z28 ha m)
 rw [List.length_take,Nat.min_eq_left (by omega)] at h1
 have h2:4294967296 ^ m*(a.getD m 0+4294967296*nv (b.drop (m+1))+1)≤4294967296 ^ m*(b.getD m 0+4294967296*nv (b.drop (m+1))):=Nat.mul_le_mul_left _ (by omega)
 rw [Nat.mul_add,Nat.mul_one] at h2
 omega
theorem y37 {a b:List Nat} {m:Nat} (hma:m<a.length) (hmb:m<b.length) (hd:a.drop (m+1)=b.drop (m+1)) (h:a.getD m 0=b.getD m 0):a.drop m=b.drop m:=by
 rw [List.drop_eq_getElem_cons hma,List.drop_eq_getElem_cons hmb,hd]
 congr 1
 rw [zO1,zO4 hma,zO1,zO4 hmb] at h
 exact h
theorem y3B {x y:Nat} (h:(limbs x).length≠(limbs y).length):z8o x y=if (limbs x).length<(limbs y).length then -1 else 1:=by
 unfold z8o
 by_cases h1:(limbs x).length<(limbs y).length
 ·rw [if_pos (y0v h1),if_pos h1]
 ·have:=y0v (x:=y) (y:=x) (by omega)
  rw [if_neg (by omega),if_pos this,if_neg h1]
theorem x5t {a b:List Nat} {n:Nat} (hna:n<a.length) (hnb:n<b.length) (ht:a.take n=b.take n) (h:a.getD n 0=b.getD n 0):a.take (n+1)=b.take (n+1):=by
 rw [z2s hna,z2s hnb,ht,h]
end Nat32
namespace Go.Dat
open Go
theorem y2O (a b:Nat) (ha:a<18446744073709551616) (hb:b<18446744073709551616):z24 .or .u64 (a:Int) (b:Int)=((a ||| b:Nat):Int):=by
 unfold z24
 have e1:(BitVec.ofInt IntKind.u64.bits (a:Int)).toNat=a:=by
  rw [BitVec.ofInt_natCast,BitVec.toNat_ofNat]
  exact Nat.mod_eq_of_lt ha
 have e2:(BitVec.ofInt IntKind.u64.bits (b:Int)).toNat=b:=by
  rw [BitVec.ofInt_natCast,BitVec.toNat_ofNat]
  exact Nat.mod_eq_of_lt hb
 simp only [BitVec.toNat_or,e1,e2]
 rw [IntKind.wrap_u64]
 have:a ||| b<2 ^ 64:=Nat.or_lt_two_pow (by simpa using ha) (by simpa using hb)
 omega
theorem x9c {h x:Nat} (hx:x<4294967296):(4294967296*h) ||| x=4294967296*h+x:=by
 have:=Nat.two_pow_add_eq_or_of_lt (i:=32) (b:=x) hx h
 simpa using this.symm
theorem w6W {h x:Nat} (hx:x<4294967296) (hs:4294967296*h+x<18446744073709551616) :
  z24 .or .u64 ((h:Int)*2 ^ min (Int.toNat 32) IntKind.u64.bits % 18446744073709551616) ((x:Int) % 18446744073709551616)=((4294967296*h+x:Nat):Int):=by
 have e:(2 ^ min (Int.toNat 32) IntKind.u64.bits:Int)=((4294967296:Nat):Int):=by decide
 rw [e,show (h:Int)*((4294967296:Nat):Int) % 18446744073709551616=((4294967296*h:Nat):Int) by omega,show (x:Int) % 18446744073709551616=(x:Int) by omega,y2O _ _ (by omega) (by omega),x9c hx]
end Go.Dat
namespace Nat32
theorem y2A {a:List Nat} (h:lim a) (n:Nat):lim (a.drop n):=fun x hx=>h x (List.mem_of_mem_drop hx)
theorem z5g {a:List Nat} {m:Nat} (h:m<a.length):nv (a.drop m)=a.getD m 0+4294967296*nv (a.drop (m+1)):=by
 rw [List.drop_eq_getElem_cons h,zO1,zO4 h];rfl
end Nat32
namespace Nat32
open Go Go.Dat
theorem y3f (a b:Nat):((a:Int)).tdiv (b:Int)=((a / b:Nat):Int):=(Int.ofNat_tdiv a b).symm
theorem z8a (a b:Nat):((a:Int)).tmod (b:Int)=((a % b:Nat):Int):=(Int.ofNat_tmod a b).symm
theorem x5h (m q:Nat) (ds:List Nat):(List.replicate (m+1) 0++ds).set m q=List.replicate m 0++(q::ds):=by
 induction m with
 | zero=>rfl
 | succ m ih=>rw [List.replicate_succ,List.cons_append,List.set_cons_succ,ih];rfl
theorem x8t {hi lo y:Nat} (h1:hi<y) (h2:lo<4294967296):(4294967296*hi+lo) / y<4294967296:=by
 rw [Nat.div_lt_iff_lt_mul (by omega)]
 have:4294967296*(hi+1)≤4294967296*y:=Nat.mul_le_mul_left _ h1
 omega
theorem x6l {N d x:Nat} (hd:0<d):(x+4294967296*N) / d=(4294967296*(N % d)+x) / d+4294967296*(N / d)∧(x+4294967296*N) % d=(4294967296*(N % d)+x) % d:=by
 have h:x+4294967296*N=(4294967296*(N % d)+x)+d*(4294967296*(N / d)):=by
  have:=Nat.div_add_mod N d
  have e:d*(4294967296*(N / d))=4294967296*(d*(N / d)):=by
   rw [←Nat.mul_assoc,Nat.mul_comm d,Nat.mul_assoc]
  rw [e];omega
 rw [h]
 exact ⟨by rw [Nat.add_mul_div_left _ _ hd],by rw [Nat.add_mul_mod_self_left]⟩
theorem z5W {x:Nat} (h0:x≠0) (h:x<4294967296):limbs x=[x]:=by
 rw [z17 h0,Nat.mod_eq_of_lt h,Nat.div_eq_of_lt h,z0r]
theorem z0C {a:List Nat} (n:Nat):nv (a.take (n+1))=nv (a.take n)+4294967296 ^ n*a.getD n 0:=by
 by_cases h:n<a.length
 ·exact z4p h
 ·rw [List.take_of_length_le (by omega),List.take_of_length_le (by omega)]
  have:a.getD n 0=0:=by rw [zO1,List.getElem?_eq_none (by omega)];rfl
  rw [this];omega
theorem y7h (k v:Nat) (ds:List Nat):(ds++List.replicate (k+1) 0).set ds.length v=(ds++[v])++List.replicate k 0:=by
 rw [List.set_append_right _ _ (Nat.le_refl _)]
 simp [List.replicate_succ]
theorem y1O {X Y D P x y c:Nat} (h:D+P*c=X+Y):(D+P*((x+y+c) % 4294967296))+(P*4294967296)*((x+y+c) / 4294967296)=(X+P*x)+(Y+P*y):=by
 have h1:=Nat.div_add_mod (x+y+c) 4294967296
 have h2:P*((x+y+c) % 4294967296)+(P*4294967296)*((x+y+c) / 4294967296)=P*(x+y+c):=by
  rw [Nat.mul_assoc,←Nat.mul_add];congr 1;omega
 rw [Nat.mul_add,Nat.mul_add] at h2
 omega
def oap (o:Nat):List Nat→DV
 | []=>.nils
 | x::r=>.osl 1 o 0 (r.length+1)
def hap (o:Nat):List Nat→Hp
 | []=>[]
 | x::r=>[(o,us (x::r))]
theorem w4J (k:IntKind) (n:Int):(∀d∈[DV.int k n],d.one=true)=True:=by simp [DV.one]
theorem rf1 (k:IntKind) (n:Int):(∀d∈[DV.int k n],d.rf=true)=True:=by simp [DV.rf]
theorem y7x (q:List Nat) (x:Nat):us q++[DV.int .u32 x]=us (q++[x]):=by simp [us,u32]
theorem w5F {v:Nat} (h:v<4294967296):v / 2147483648=(v.testBit 31).toNat:=by
 rw [Nat.testBit_eq_decide_div_mod_eq]
 have:v / 2 ^ 31 % 2=v / 2147483648:=by omega
 rw [this]
 have h2:v / 2147483648=0∨v / 2147483648=1:=by omega
 rcases h2 with e|e<;>rw [e]<;>rfl
theorem z6O (a:Nat) (ha:a<4294967296):(BitVec.ofInt IntKind.u32.bits (a:Int)).toNat=a:=by
 rw [BitVec.ofInt_natCast,BitVec.toNat_ofNat];exact Nat.mod_eq_of_lt ha
theorem z8l (a b:Nat) (ha:a<4294967296) (hb:b<4294967296):z24 .and .u32 (a:Int) (b:Int)=((a &&& b:Nat):Int):=by
 unfold z24
 simp only [BitVec.toNat_and,z6O a ha,z6O b hb]
 rw [IntKind.wrap_u32]
 have:a &&& b<2 ^ 32:=Nat.and_lt_two_pow _ (by simpa using hb)
 omega
theorem y9p (a b:Nat) (ha:a<4294967296) (hb:b<4294967296):z24 .or .u32 (a:Int) (b:Int)=((a ||| b:Nat):Int):=by
 unfold z24
 simp only [BitVec.toNat_or,z6O a ha,z6O b hb]
 rw [IntKind.wrap_u32]
 have:a ||| b<2 ^ 32:=Nat.or_lt_two_pow (by simpa using ha) (by simpa using hb)
 omega
theorem y5P (a b:Nat) (ha:a<4294967296) (hb:b<4294967296):z24 .xor .u32 (a:Int) (b:Int)=((a ^^^ b:Nat):Int):=by
 unfold z24
 simp only [BitVec.toNat_xor,z6O a ha,z6O b hb]
 rw [IntKind.wrap_u32]
 have:a ^^^ b<2 ^ 32:=Nat.xor_lt_two_pow (by simpa using ha) (by simpa using hb)
 omega
theorem y4W (a:Nat) (ha:a<4294967296):z24 .xor .u32 4294967295 (a:Int)=((4294967295 ^^^ a:Nat):Int):=y5P 4294967295 a (by decide) ha
def bor (x y c:Nat):Nat:=if x<y+c then 1 else 0
theorem x56 {x y c d:Nat} (hx:x<4294967296) (hy:y<4294967296) (hc:c≤1) (hd:d<4294967296) (he:d=x - y - c∧y+c≤x∨d+y+c=x+4294967296∧x<y+c) :
  (((4294967295 ^^^ x) &&& y) ||| ((4294967295 ^^^ (x ^^^ y)) &&& d)) / 2147483648=bor x y c:=by
 have l1:(4294967295 ^^^ x)<2 ^ 32:=Nat.xor_lt_two_pow (by decide) (by simpa using hx)
 have l2:x ^^^ y<2 ^ 32:=Nat.xor_lt_two_pow (by simpa using hx) (by simpa using hy)
 have l3:(4294967295 ^^^ (x ^^^ y))<2 ^ 32:=Nat.xor_lt_two_pow (by decide) l2
 have l4:((4294967295 ^^^ x) &&& y)<2 ^ 32:=Nat.and_lt_two_pow _ (by simpa using hy)
 have l5:((4294967295 ^^^ (x ^^^ y)) &&& d)<2 ^ 32:=Nat.and_lt_two_pow _ (by simpa using hd)
 have l6:=Nat.or_lt_two_pow l4 l5
 rw [w5F (by simpa using l6)]
 simp only [Nat.testBit_or,Nat.testBit_and,Nat.testBit_xor]
 have t (v:Nat) (hv:v<4294967296):v.testBit 31=decide (2147483648≤v):=by
  rw [Nat.testBit_eq_decide_div_mod_eq,decide_eq_decide];omega
 rw [t x hx,t y hy,t d hd,t 4294967295 (by decide)]
 unfold bor
 by_cases h1:2147483648≤x<;>by_cases h2:2147483648≤y<;>by_cases h3:2147483648≤d<;>simp [h1,h2,h3]<;>omega
end Nat32
namespace Nat32
theorem x8a {X Y D P x y c:Nat} (hx:x<4294967296) (hy:y<4294967296) (hc:c≤1) (h:D+Y=X+P*c) :
  (D+P*((x+4294967296 - y - c) % 4294967296))+(Y+P*y)=(X+P*x)+(P*4294967296)*(1 - (x+4294967296 - y - c) / 4294967296)∧(x+4294967296 - y - c) / 4294967296≤1:=by
 have h1:=Nat.div_add_mod (x+4294967296 - y - c) 4294967296
 have h2:(x+4294967296 - y - c) / 4294967296≤1:=by omega
 refine ⟨?_,h2⟩
 generalize (x+4294967296 - y - c) % 4294967296=dg at h1 ⊢
 generalize hq:(x+4294967296 - y - c) / 4294967296=q at h1 h2 ⊢
 have h3:dg+y+c=x+4294967296*(1 - q):=by omega
 have h4:P*dg+P*y+P*c=P*x+P*4294967296*(1 - q):=by
  rw [Nat.mul_assoc P 4294967296,←Nat.mul_add,←Nat.mul_add,←Nat.mul_add,h3]
 omega
end Nat32
namespace Nat32
open Go Go.Dat
theorem x57 {x y c d:Nat} (hx:x<4294967296) (hy:y<4294967296) (hc:c≤1) (hd:d<4294967296) (he:d=x - y - c∧y+c≤x∨d+y+c=x+4294967296∧x<y+c) :
  (z24 .or .u32 (z24 .and .u32 (z24 .xor .u32 4294967295 (x:Int)) (y:Int)) (z24 .and .u32 (z24 .xor .u32 4294967295 (z24 .xor .u32 (x:Int) (y:Int))) (d:Int))).fdiv (2 ^ min (Int.toNat 31) IntKind.u32.bits)=((bor x y c:Nat):Int):=by
 have l1:(4294967295 ^^^ x)<2 ^ 32:=Nat.xor_lt_two_pow (by decide) (by simpa using hx)
 have l2:x ^^^ y<2 ^ 32:=Nat.xor_lt_two_pow (by simpa using hx) (by simpa using hy)
 have l3:(4294967295 ^^^ (x ^^^ y))<2 ^ 32:=Nat.xor_lt_two_pow (by decide) l2
 have l4:((4294967295 ^^^ x) &&& y)<2 ^ 32:=Nat.and_lt_two_pow _ (by simpa using hy)
 have l5:((4294967295 ^^^ (x ^^^ y)) &&& d)<2 ^ 32:=Nat.and_lt_two_pow _ (by simpa using hd)
 rw [y4W x hx,z8l _ y (by simpa using l1) hy,y5P x y hx hy,y4W _ (by simpa using l2),z8l _ d (by simpa using l3) hd,y9p _ _ (by simpa using l4) (by simpa using l5)]
 have e:(2 ^ min (Int.toNat 31) IntKind.u32.bits:Int)=((2147483648:Nat):Int):=by decide
 rw [e,z4E,x56 hx hy hc hd he]
theorem x87 (n:Nat):nv (List.replicate n 0)=0:=by
 induction n with
 | zero=>rfl
 | succ n ih=>rw [List.replicate_succ,nv,ih]
theorem x0X (n:Nat) (q:List Nat):nv (List.replicate n 0++q)=4294967296 ^ n*nv q:=by
 rw [z2C,x87,List.length_replicate];omega
theorem z7F {a v:Nat} (h1:a<4294967296) (h2:v<4294967296):a*v≤18446744065119617025:=by
 have:=Nat.mul_le_mul (show a≤4294967295 by omega) (show v≤4294967295 by omega)
 omega
theorem x65 {a v:Nat} (h1:a<4294967296) (h2:v<4294967296):IntKind.u64.wrap ((a:Int)*(v:Int))=((a*v:Nat):Int):=by
 have:=z7F h1 h2
 rw [x4o]
 generalize a*v=p at this ⊢
 exact x8h (by omega) (by omega)
theorem w4j {a v c:Nat} (h1:a<4294967296) (h2:v<4294967296) (h3:c<4294967296):IntKind.u64.wrap (((a*v:Nat):Int)+(c:Int))=((a*v+c:Nat):Int):=by
 have:=z7F h1 h2
 generalize a*v=p at this ⊢
 rw [x8h (by omega) (by omega)];omega
theorem x64 {D P T a v c:Nat} (h:D+P*c=T*v):(D+P*((a*v+c) % 4294967296))+(P*4294967296)*((a*v+c) / 4294967296)=(T+P*a)*v:=by
 have h1:=Nat.div_add_mod (a*v+c) 4294967296
 have h2:P*((a*v+c) % 4294967296)+(P*4294967296)*((a*v+c) / 4294967296)=P*(a*v+c):=by
  rw [Nat.mul_assoc,←Nat.mul_add];congr 1;omega
 rw [Nat.mul_add] at h2
 rw [Nat.add_mul,Nat.mul_assoc P a v,←h]
 omega
theorem x0P {a v c:Nat} (h1:a<4294967296) (h2:v<4294967296) (h3:c<4294967296):(a*v+c) / 4294967296<4294967296:=by
 have:=z7F h1 h2
 generalize a*v=p at this ⊢
 omega
theorem x0Q {x v n:Nat} (h1:x<4294967296 ^ n) (h2:v<4294967296):x*v<4294967296 ^ (n+1):=by
 rw [Nat.pow_succ]
 exact Nat.mul_lt_mul_of_lt_of_le h1 (by omega) (Nat.pos_of_ne_zero (by intro h;omega))
theorem z6L {x y m n:Nat} (h1:(limbs x).length≤m) (h2:(limbs y).length≤n):(limbs (x*y)).length≤m+n:=by
 rw [z0B] at h1 h2 ⊢
 rw [Nat.pow_add]
 exact Nat.mul_lt_mul_of_lt_of_le h1 (Nat.le_of_lt h2) (Nat.pos_of_ne_zero (by intro h;rw [h] at h2;omega))
theorem w2Q {N P c:Nat} (h:N+P*c<P):c=0:=by
 rcases Nat.eq_zero_or_pos c with e|e
 ·exact e
 ·have:=Nat.mul_le_mul_left P e
  rw [Nat.mul_one] at this
  omega
theorem x9m {x y c:Nat} (hx:x<4294967296) (hy:y<4294967296) (hc:c≤1):∃d b,d+y+c=x+4294967296*b∧d<4294967296∧b≤1:=by
 by_cases h:x<y+c
 ·obtain ⟨d,hd⟩:∃d,x+4294967296=y+c+d:=Nat.exists_eq_add_of_le (by omega)
  exact ⟨d,1,by omega,by omega,by omega⟩
 ·obtain ⟨d,hd⟩:∃d,x=y+c+d:=Nat.exists_eq_add_of_le (by omega)
  exact ⟨d,0,by omega,by omega,by omega⟩
theorem x5q {X Y D P x y c d b:Nat} (h:D+Y=X+P*c) (hd:d+y+c=x+4294967296*b):(D+P*d)+(Y+P*y)=(X+P*x)+(P*4294967296)*b:=by
 have h4:P*d+P*y+P*c=P*x+P*4294967296*b:=by
  rw [Nat.mul_assoc P 4294967296,←Nat.mul_add,←Nat.mul_add,←Nat.mul_add,hd]
 omega
theorem x5r {x y c d b:Nat} (hd:d+y+c=x+4294967296*b) (h:d<4294967296):IntKind.u32.wrap (IntKind.u32.wrap ((x:Int) - (y:Int)) - (c:Int))=(d:Int):=by
 rw [IntKind.wrap_u32,IntKind.wrap_u32];omega
theorem x12 {x y c d b:Nat} (hx:x<4294967296) (hy:y<4294967296) (hc:c≤1) (hd:d+y+c=x+4294967296*b) (h:d<4294967296) (hb:b≤1) :
  (z24 .or .u32 (z24 .and .u32 (z24 .xor .u32 4294967295 (x:Int)) (y:Int)) (z24 .and .u32 (z24 .xor .u32 4294967295 (z24 .xor .u32 (x:Int) (y:Int))) (d:Int))).fdiv (2 ^ min (Int.toNat 31) IntKind.u32.bits)=(b:Int):=by
 have hb2:b=0∨b=1:=by omega
 rw [x57 hx hy hc h (by omega)]
 unfold bor
 split<;>omega
theorem x88 {l:List Nat} {k v:Nat} (h:k<l.length):nv (l.set k v)+4294967296 ^ k*l.getD k 0=nv l+4294967296 ^ k*v:=by
 induction l generalizing k with
 | nil=>simp at h
 | cons x l ih =>
  cases k with
  | zero=>simp only [List.set_cons_zero,nv,List.getD_cons_zero,Nat.pow_zero,Nat.one_mul];omega
  | succ k =>
   have:=ih (k:=k) (by simpa using h)
   simp only [List.set_cons_succ,nv,List.getD_cons_succ,Nat.pow_succ]
   have e1:4294967296 ^ k*4294967296*l.getD k 0=4294967296*(4294967296 ^ k*l.getD k 0):=by
    rw [Nat.mul_comm (4294967296 ^ k) 4294967296,Nat.mul_assoc]
   have e2:4294967296 ^ k*4294967296*v=4294967296*(4294967296 ^ k*v):=by
    rw [Nat.mul_comm (4294967296 ^ k) 4294967296,Nat.mul_assoc]
   rw [e1,e2];omega
theorem x4f {l:List Nat} {k v:Nat} (h:lim l) (hv:v<4294967296):lim (l.set k v):=by
 intro z hz
 rcases List.mem_or_eq_of_mem_set hz with e|e
 ·exact h z e
 ·rw [e];exact hv
theorem z7x {l:List Nat} {j k v:Nat} (h:k≠j):(l.set k v).getD j 0=l.getD j 0:=by
 rw [zO1,zO1,List.getElem?_set_ne h]
theorem w5X {a v c o:Nat} (h1:a<4294967296) (h2:v<4294967296) (h3:c<4294967296) (h4:o<4294967296):a*v+o+c<18446744073709551616∧(a*v+o+c) / 4294967296<4294967296:=by
 have:=z7F h1 h2
 generalize a*v=p at this ⊢
 omega
theorem x60 {D E P R c o s:Nat} (h:D+P*c=R) (hs:E+P*o=D+P*(s % 4294967296)) {av:Nat} (hq:s=av+o+c):E+P*4294967296*(s / 4294967296)=R+P*av:=by
 have h1:=Nat.div_add_mod s 4294967296
 have h2:P*(s % 4294967296)+P*4294967296*(s / 4294967296)=P*s:=by
  rw [Nat.mul_assoc,←Nat.mul_add];congr 1;omega
 have h3:P*s=P*av+P*o+P*c:=by rw [hq,Nat.mul_add,Nat.mul_add]
 omega
end Nat32
namespace Nat32
def dig:Nat→Nat→List Nat
 | 0,_=>[]
 | k+1,x=>x % 4294967296::dig k (x / 4294967296)
theorem z1i (k x:Nat):(dig k x).length=k:=by
 induction k generalizing x with
 | zero=>rfl
 | succ k ih=>simp [dig,ih]
theorem z6s (k x:Nat):lim (dig k x):=by
 induction k generalizing x with
 | zero=>exact z1m
 | succ k ih=>rw [dig,z2q];exact ⟨Nat.mod_lt _ (by decide),ih _⟩
theorem z9x (k x:Nat):nv (dig k x)=x % 4294967296 ^ k:=by
 induction k generalizing x with
 | zero=>simp [dig,nv,Nat.mod_one]
 | succ k ih=>rw [dig,nv,ih,Nat.pow_succ',Nat.mod_mul]
theorem w4E {a b:List Nat} (ha:lim a) (hb:lim b) (hl:a.length=b.length) (h:nv a=nv b):a=b:=by
 induction a generalizing b with
 | nil=>cases b with
  | nil=>rfl
  | cons y b=>simp at hl
 | cons x a ih=>cases b with
  | nil=>simp at hl
  | cons y b =>
   obtain ⟨h1,h2⟩:=z2q.1 ha
   obtain ⟨h3,h4⟩:=z2q.1 hb
   simp only [nv] at h
   have e1:x=y:=by omega
   have e2:nv a=nv b:=by omega
   rw [e1,ih h2 h4 (by simpa using hl) e2]
theorem x2i {a:List Nat} {k x:Nat} (h:lim a) (hl:a.length=k) (hv:nv a=x % 4294967296 ^ k):a=dig k x :=
 w4E h (z6s _ _) (by rw [hl,z1i]) (by rw [hv,z9x])
theorem z5h (a:List Nat) (k:Nat) (h:k≤a.length):nv a=nv (a.take k)+4294967296 ^ k*nv (a.drop k):=by
 have:=z2C (a.take k) (a.drop k)
 rw [List.take_append_drop,List.length_take,Nat.min_eq_left h] at this
 exact this
def gq (T W:Nat):Nat:=min (T / W) 4294967295
theorem w5R {T W q k:Nat} (h:gq T W≤q) (hc:4294967296≤q∨T<q*W) (hW:0<W) (hk:q=k+1):gq T W≤k:=by
 unfold gq at h ⊢
 rcases hc with h9|h9
 ·omega
 ·have h1:T / W<q:=(Nat.div_lt_iff_lt_mul hW).2 h9
  generalize T / W=z at *
  omega
theorem w7d {p s r u0 t B:Nat} (h1:p+r=t) (h2:r*B+u0<s):t*B+u0<p*B+s:=by
 subst h1;rw [Nat.add_mul];omega
theorem w0e {u2 u1 u0 v1 v0 q r:Nat} (hq:q*v1+r=u2*4294967296+u1) (hv:0<v1) (h:gq ((u2*4294967296+u1)*4294967296+u0) (v1*4294967296+v0)≤q)
  (hc:4294967296≤q∨r*4294967296+u0<q*v0) :
  0<q∧gq ((u2*4294967296+u1)*4294967296+u0) (v1*4294967296+v0)≤q - 1∧(q - 1)*v1+(r+v1)=u2*4294967296+u1:=by
 have h0:0<q:=by
  rcases hc with h|h
  ·omega
  ·rcases Nat.eq_zero_or_pos q with e|e
   ·subst e;omega
   ·exact e
 obtain ⟨k,hk⟩:∃k,q=k+1:=⟨q - 1,by omega⟩
 refine ⟨h0,?_,?_⟩
 ·rw [hk,Nat.add_sub_cancel]
  refine w5R h (hc.imp_right fun h9=>?_) (by omega) hk
  have h2:q*(v1*4294967296+v0)=q*v1*4294967296+q*v0:=by rw [Nat.mul_add,←Nat.mul_assoc]
  exact Nat.lt_of_lt_of_eq (w7d hq h9) h2.symm
 ·subst hk
  rw [Nat.add_mul,Nat.one_mul] at hq
  simp only [Nat.add_sub_cancel]
  omega
theorem x6E {T W top u2 u1 u0 v1 v0:Nat} (htop:u2*4294967296+u1=top) (h0:u0<4294967296) (hv:0<v1) (hT:(u2*4294967296+u1)*4294967296+u0=T) (hW:v1*4294967296+v0=W):gq T W≤top / v1:=by
 refine Nat.le_trans (Nat.min_le_left _ _) ((Nat.le_div_iff_mul_le hv).2 ?_)
 have hT':T=top*4294967296+u0:=by omega
 have h1:T / W*W≤T:=Nat.div_mul_le_self T W
 generalize T / W=z at *
 rcases Nat.lt_or_ge top (z*v1) with e|e
 ·have h2:z*W=z*v1*4294967296+z*v0:=by rw [←hW,Nat.mul_add,←Nat.mul_assoc]
  omega
 ·exact e
theorem w0c {u2 u1 u0 v1 v0 q r:Nat} (hq:q*v1+r=u2*4294967296+u1) (hu1:u1<4294967296) (hu:u2≤v1) (hv0:v0<4294967296) (hv:0<v1)
  (h:gq ((u2*4294967296+u1)*4294967296+u0) (v1*4294967296+v0)≤q) (hc:4294967296≤r∨(q<4294967296∧q*v0≤r*4294967296+u0)) :
  q=gq ((u2*4294967296+u1)*4294967296+u0) (v1*4294967296+v0):=by
 have hqB:q<4294967296:=by
  rcases hc with h1|h1
  ·rcases Nat.lt_or_ge q 4294967296 with e|e
   ·exact e
   ·have h2:=Nat.mul_le_mul e (Nat.le_refl v1)
    generalize q*v1=p at *
    omega
  ·exact h1.1
 have hle:q*v0≤r*4294967296+u0:=by
  rcases hc with h1|h1
  ·have h2:=z7F hqB hv0
   generalize q*v0=s at *
   omega
  ·exact h1.2
 have:q≤((u2*4294967296+u1)*4294967296+u0) / (v1*4294967296+v0):=by
  have h2:q*(v1*4294967296+v0)=q*v1*4294967296+q*v0:=by rw [Nat.mul_add,←Nat.mul_assoc]
  refine (Nat.le_div_iff_mul_le (by omega)).2 (Nat.le_trans (Nat.le_of_eq h2) ?_)
  clear h hc h2
  omega
 unfold gq at h ⊢
 omega
theorem w0d {U V T W P Ul Vl:Nat} (hU:U=T*P+Ul) (hUl:Ul<P) (hV:V=W*P+Vl) (hVl:Vl<P) (hVn:4294967296*P≤V) (hlt:U<4294967296*V) (hW:0<W) :
  U / V≤gq T W∧gq T W≤U / V+1:=by
 have hP:0<P:=by omega
 have hV0:0<V:=by
  have:=Nat.mul_pos hW hP
  omega
 constructor
 ·have h1:U / V≤T / W:=by
   rw [Nat.le_div_iff_mul_le hW]
   have h2:U / V*V≤U:=Nat.div_mul_le_self U V
   have h3:U / V*(W*P)≤U / V*V:=Nat.mul_le_mul_left _ (by omega)
   rw [←Nat.mul_assoc] at h3
   generalize U / V*W=x at *
   rcases Nat.lt_or_ge T x with e|e
   ·have:=Nat.mul_le_mul_right P e
    rw [Nat.succ_mul] at this
    omega
   ·exact e
  have h4:U / V<4294967296:=by rw [Nat.div_lt_iff_lt_mul hV0];exact hlt
  unfold gq;omega
 ·have h1:gq T W*W≤T:=Nat.le_trans (Nat.mul_le_mul_right _ (Nat.min_le_left _ _)) (Nat.div_mul_le_self T W)
  have h2:gq T W<4294967296:=by unfold gq;omega
  generalize gq T W=q at h1 h2 ⊢
  have h3:q*V≤U+V:=by
   have h4:q*W*P≤T*P:=Nat.mul_le_mul_right _ h1
   have h5:q*Vl≤4294967296*P:=Nat.mul_le_mul (by omega) (by omega)
   rw [hV,Nat.mul_add,←Nat.mul_assoc]
   omega
  have h6:q≤(U+V) / V:=by rw [Nat.le_div_iff_mul_le hV0];exact h3
  rw [Nat.add_div_right _ hV0] at h6
  exact h6
theorem x7g {D Y X P c b q y x d b':Nat} (h:D+q*Y=X+P*(c+b)) (hd:d+(c+q*y) % 4294967296+b=x+4294967296*b') :
  (D+P*d)+q*(Y+P*y)=(X+P*x)+P*4294967296*((c+q*y) / 4294967296+b'):=by
 have h1:=Nat.div_add_mod (c+q*y) 4294967296
 have e1:q*(P*y)=P*(q*y):=by rw [←Nat.mul_assoc,Nat.mul_comm q P,Nat.mul_assoc]
 have h2:P*d+P*((c+q*y) % 4294967296)+P*b=P*x+P*4294967296*b':=by
  rw [Nat.mul_assoc P 4294967296,←Nat.mul_add,←Nat.mul_add,←Nat.mul_add,hd]
 have h3:P*((c+q*y) % 4294967296)+P*4294967296*((c+q*y) / 4294967296)=P*c+P*(q*y):=by
  rw [Nat.mul_assoc P 4294967296,←Nat.mul_add,←Nat.mul_add];congr 1;omega
 rw [Nat.mul_add,Nat.mul_add,e1]
 rw [Nat.mul_add] at h
 omega
theorem x4I {P c q Y y:Nat} (h:P*c≤q*Y):P*4294967296*((c+q*y) / 4294967296)≤q*(Y+P*y):=by
 have e1:q*(P*y)=P*(q*y):=by rw [←Nat.mul_assoc,Nat.mul_comm q P,Nat.mul_assoc]
 have h1:=Nat.div_mul_le_self (c+q*y) 4294967296
 have h2:P*(4294967296*((c+q*y) / 4294967296))≤P*(c+q*y):=Nat.mul_le_mul_left _ (by omega)
 rw [Nat.mul_assoc,Nat.mul_add,e1]
 rw [Nat.mul_add] at h2
 omega
theorem w07 {D U V q M c b:Nat} (h:D+q*V=U+M*(c+b)) (hc:M*c≤q*V) (hq:q*V<M) (hD:D<M) (_hU:U<M) (hb:b≤1) :
  (b≠0↔U<q*V)∧D=(U+M - q*V) % M:=by
 have hc0:c=0:=by
  rcases Nat.eq_zero_or_pos c with e|e
  ·exact e
  ·have:=Nat.mul_le_mul_left M e;rw [Nat.mul_one] at this;omega
 subst hc0
 rw [Nat.zero_add] at h
 have hb2:b=0∨b=1:=by omega
 rcases hb2 with e|e<;>subst e
 ·refine ⟨by omega,?_⟩
  have:U+M - q*V=D+M:=by omega
  rw [this,Nat.add_mod_right,Nat.mod_eq_of_lt hD]
 ·refine ⟨by omega,?_⟩
  have:U+M - q*V=D:=by omega
  rw [this,Nat.mod_eq_of_lt hD]
theorem w0J {U V q M:Nat} (h1:U / V≤q) (h2:q≤U / V+1) (h:U<q*V) (_hV:V≤M) (hV0:0<V) (_hq:q*V<M):q - 1=U / V∧((U+M - q*V) % M+V) % M=U % V:=by
 have e:q=U / V+1:=by
  rcases Nat.lt_or_ge (U / V) q with e|e
  ·omega
  ·have:q=U / V:=by omega
   have h3:=Nat.div_mul_le_self U V
   rw [←this] at h3;exact absurd h (by omega)
 subst e
 refine ⟨Nat.add_sub_cancel _ _,?_⟩
 have h4:=Nat.div_add_mod' U V
 have h5:=Nat.mod_lt U hV0
 rw [Nat.add_mul,Nat.one_mul] at h _hq ⊢
 rw [Nat.mod_eq_of_lt (show U+M - (U / V*V+V)<M by omega)]
 have:U+M - (U / V*V+V)+V=U % V+M:=by omega
 rw [this,Nat.add_mod_right,Nat.mod_eq_of_lt (by omega)]
theorem w3V {U V q M:Nat} (h1:U / V≤q) (_h2:q≤U / V+1) (h:¬U<q*V) (hV:V≤M) (hV0:0<V):q=U / V∧(U+M - q*V) % M=U % V:=by
 have e:q=U / V:=by
  have:q≤U / V:=by rw [Nat.le_div_iff_mul_le hV0];omega
  omega
 subst e
 refine ⟨rfl,?_⟩
 have h4:=Nat.div_add_mod' U V
 have h5:=Nat.mod_lt U hV0
 have:U+M - U / V*V=U % V+M:=by omega
 rw [this,Nat.add_mod_right,Nat.mod_eq_of_lt (by omega)]
end Nat32
namespace Nat32
open Go Go.Dat
def z2m (x:Nat):Nat:=if x=0 then 0 else Nat.log2 x+1
theorem y50 {x:Nat}:x<2 ^ z2m x:=by
 unfold z2m
 split
 ·rename_i h;subst h;decide
 ·exact Nat.lt_log2_self
theorem y5Z {x:Nat} (h:x≠0):2 ^ (z2m x - 1)≤x:=by
 unfold z2m
 rw [if_neg h,Nat.add_sub_cancel]
 exact Nat.log2_self_le h
theorem x9E {x k:Nat} (h1:2 ^ k≤x) (h2:x<2 ^ (k+1)):z2m x=k+1:=by
 have h0:x≠0:=by have:=Nat.two_pow_pos k;omega
 unfold z2m
 rw [if_neg h0,(Nat.log2_eq_iff h0).2 ⟨h1,h2⟩]
theorem y1T {x k:Nat} (h:2 ^ k≤x):z2m x=z2m (x / 2 ^ k)+k:=by
 have h0:x / 2 ^ k≠0:=by
  have:=Nat.div_pos h (Nat.two_pow_pos k)
  omega
 have h1:=y5Z h0
 have h2:=y50 (x:=x / 2 ^ k)
 have hb:0<z2m (x / 2 ^ k):=by unfold z2m;rw [if_neg h0];omega
 obtain ⟨m,hm⟩:∃m,z2m (x / 2 ^ k)=m+1:=⟨z2m (x / 2 ^ k) - 1,by omega⟩
 rw [hm] at h1 h2 ⊢
 rw [Nat.add_sub_cancel] at h1
 have e:m+1+k=(m+k)+1:=by omega
 rw [e]
 refine x9E ?_ ?_
 ·rw [Nat.pow_add]
  exact Nat.le_trans (Nat.mul_le_mul_right _ h1) (Nat.div_mul_le_self _ _)
 ·rw [show m+k+1=(m+1)+k by omega,Nat.pow_add]
  exact (Nat.div_lt_iff_lt_mul (Nat.two_pow_pos k)).1 h2
theorem z2g {x k:Nat} (h:x<2 ^ k):z2m x≤k:=by
 rcases Nat.lt_or_ge k (z2m x) with e|e
 ·have h0:x≠0:=by rintro rfl;simp [z2m] at e
  have h1:=y5Z h0
  have h2:=Nat.pow_le_pow_right (n:=2) (by decide) (show k≤z2m x - 1 by omega)
  omega
 ·exact e
theorem w0Q {x:Nat} (h0:x≠0) (h:x<4294967296):32 - z2m x≤31∧2147483648≤x*2 ^ (32 - z2m x)∧x*2 ^ (32 - z2m x)<4294967296:=by
 have h1:=y5Z h0
 have h2:=y50 (x:=x)
 have h3:=z2g (k:=32) (by simpa using h)
 have hb:0<z2m x:=by unfold z2m;rw [if_neg h0];omega
 refine ⟨by omega,?_,?_⟩
 ·have h4:=Nat.mul_le_mul_right (2 ^ (32 - z2m x)) h1
  rw [←Nat.pow_add,show z2m x - 1+(32 - z2m x)=31 by omega] at h4
  exact h4
 ·have h4:=Nat.mul_lt_mul_of_pos_right h2 (Nat.two_pow_pos (32 - z2m x))
  rw [←Nat.pow_add,show z2m x+(32 - z2m x)=32 by omega] at h4
  exact h4
theorem x9k {x k:Nat} (h:x<4294967296) (hk:k≤31):x*2 ^ k<18446744073709551616∧x*2 ^ k / 4294967296<2 ^ k:=by
 have h1:x*2 ^ k<4294967296*2 ^ k:=Nat.mul_lt_mul_of_pos_right h (Nat.two_pow_pos k)
 have h2:(2:Nat) ^ k≤2 ^ 31:=Nat.pow_le_pow_right (by decide) hk
 refine ⟨by omega,?_⟩
 rw [Nat.div_lt_iff_lt_mul (by decide),Nat.mul_comm (2 ^ k)]
 exact h1
theorem w4K {c x k:Nat} (hc:c<2 ^ k) (hk:k≤31) (_hx:x<4294967296):c ||| (x*2 ^ k % 4294967296)=x*2 ^ k % 4294967296+c:=by
 have e:x*2 ^ k % 4294967296=2 ^ k*(x % 2 ^ (32 - k)):=by
  have:(4294967296:Nat)=2 ^ k*2 ^ (32 - k):=by rw [←Nat.pow_add,show k+(32 - k)=32 by omega]
  rw [this,Nat.mul_comm x,Nat.mul_mod_mul_left]
 rw [e,Nat.or_comm]
 exact (Nat.two_pow_add_eq_or_of_lt hc _).symm
theorem w1N {D P X c x y:Nat} (h:D+P*c=X*y):(D+P*(x*y % 4294967296+c))+P*4294967296*(x*y / 4294967296)=(X+P*x)*y:=by
 have h1:=Nat.div_add_mod (x*y) 4294967296
 have h2:P*(x*y % 4294967296)+P*4294967296*(x*y / 4294967296)=P*(x*y):=by
  rw [Nat.mul_assoc P 4294967296,←Nat.mul_add];congr 1;omega
 rw [Nat.mul_add,Nat.add_mul,Nat.mul_assoc P x y]
 omega
theorem w7g {x y z k:Nat} (hk:k≤31):((4294967296*y+x) / 2 ^ k) % 4294967296=((x+4294967296*(y+4294967296*z)) / 2 ^ k) % 4294967296:=by
 have e:(x+4294967296*(y+4294967296*z))=(4294967296*y+x)+2 ^ k*(2 ^ (32 - k)*(4294967296*z)):=by
  rw [←Nat.mul_assoc,←Nat.pow_add,show k+(32 - k)=32 by omega]
  omega
 rw [e,Nat.add_mul_div_left _ _ (Nat.two_pow_pos k),show 2 ^ (32 - k)*(4294967296*z)=4294967296*(2 ^ (32 - k)*z) by rw [←Nat.mul_assoc,Nat.mul_comm (2 ^ (32 - k)),Nat.mul_assoc],Nat.add_mul_mod_self_left]
theorem w5e (o:Nat) (c:List DV) (xs:List Nat):(us xs).map (frz o c)=us xs:=by simp [us,u32,y6o]
theorem y22 (d:List Nat) (c v:Nat) (r:List Nat):(d++c::r).set d.length v=d++v::r:=by
 rw [List.set_append_right _ _ (Nat.le_refl _)];simp
theorem x7P (d:List Nat) (c x v:Nat) (r:List Nat):(d++c::x::r).set (d.length+1) v=d++c::v::r:=by
 rw [List.set_append_right _ _ (Nat.le_add_right _ _)];simp
theorem y2l (d:List Nat) (c:Nat) (r:List Nat):(d++c::r).getD d.length 0=c:=by
 simp [zO1]
theorem z2H {a b:List Nat}:lim (a++b)↔lim a∧lim b:=by
 constructor
 ·intro h;exact ⟨fun x hx=>h x (List.mem_append.2 (.inl hx)),fun x hx=>h x (List.mem_append.2 (.inr hx))⟩
 ·rintro ⟨h1,h2⟩ x hx
  rcases List.mem_append.1 hx with h|h
  ·exact h1 x h
  ·exact h2 x h
theorem y2N (d:List Nat) (c:Nat):nv (d++[c])=nv d+4294967296 ^ d.length*c:=by
 rw [z2C];simp [nv]
theorem w6t {x k:Nat} (h:x<4294967296) (hk:k≤31):IntKind.u64.wrap ((x:Int)*2 ^ min k IntKind.u64.bits)=((x*2 ^ k:Nat):Int):=by
 have h1:=(x9k h hk).1
 have e:min k IntKind.u64.bits=k:=by
  have:IntKind.u64.bits=64:=rfl
  omega
 rw [e,show ((2:Int) ^ k)=((2 ^ k:Nat):Int) by simp,x4o]
 generalize x*2 ^ k=p at h1 ⊢
 exact x8h (by omega) (by omega)
theorem w6u (a k:Nat) (hk:k≤31):((a:Int)).fdiv (2 ^ min k IntKind.u64.bits)=((a / 2 ^ k:Nat):Int):=by
 have e:min k IntKind.u64.bits=k:=by
  have:IntKind.u64.bits=64:=rfl
  omega
 rw [e,show ((2:Int) ^ k)=((2 ^ k:Nat):Int) by simp,z4E]
theorem x7c {c x k:Nat} (hc:c<2 ^ k) (hk:k≤31) (hx:x<4294967296):z24 .or .u32 (c:Int) ((x*2 ^ k % 4294967296:Nat):Int)=((x*2 ^ k % 4294967296+c:Nat):Int):=by
 have h2:(2:Nat) ^ k≤2 ^ 31:=Nat.pow_le_pow_right (by decide) hk
 rw [y9p _ _ (by omega) (Nat.mod_lt _ (by decide)),w4K hc hk hx]
theorem y2P {k:Nat} (hk:k≤31):(2:Nat) ^ k≤2147483648:=by
 have h2:(2:Nat) ^ k≤2 ^ 31:=Nat.pow_le_pow_right (by decide) hk
 simpa using h2
theorem w30 {c x k:Nat} (hc:c<2 ^ k) (hk:k≤31):x*2 ^ k % 4294967296+c<4294967296:=by
 have e:x*2 ^ k % 4294967296=2 ^ k*(x % 2 ^ (32 - k)):=by
  have:(4294967296:Nat)=2 ^ k*2 ^ (32 - k):=by rw [←Nat.pow_add,show k+(32 - k)=32 by omega]
  rw [this,Nat.mul_comm x,Nat.mul_mod_mul_left]
 have h1:x % 2 ^ (32 - k)+1≤2 ^ (32 - k):=Nat.mod_lt _ (Nat.two_pow_pos _)
 have h2:=Nat.mul_le_mul_left (2 ^ k) h1
 rw [←Nat.pow_add,show k+(32 - k)=32 by omega,Nat.mul_add] at h2
 omega
end Nat32
namespace Nat32
theorem y4X (a:List Nat) (m:Nat) (h:a.length=m+1):nv (a.drop m)=a.getD m 0:=by
 rw [z5g (by omega),List.drop_of_length_le (by omega)];simp [nv]
theorem w7i (a:List Nat) (n:Nat) (h:a.length=n+2):nv a=(a.getD (n+1) 0*4294967296+a.getD n 0)*4294967296 ^ n+nv (a.take n):=by
 rw [z55 (m:=n) (by omega),y4X a (n+1) (by omega),Nat.mul_comm (4294967296 ^ n)]
 rw [show a.getD n 0+4294967296*a.getD (n+1) 0=a.getD (n+1) 0*4294967296+a.getD n 0 by omega];omega
theorem w7j (a:List Nat) (n:Nat) (h:a.length=n+3):nv a=((a.getD (n+2) 0*4294967296+a.getD (n+1) 0)*4294967296+a.getD n 0)*4294967296 ^ n+nv (a.take n):=by
 rw [z55 (m:=n) (by omega),z5g (a:=a) (m:=n+1) (by omega),y4X a (n+2) (by omega),Nat.mul_comm (4294967296 ^ n)]
 rw [show a.getD n 0+4294967296*(a.getD (n+1) 0+4294967296*a.getD (n+2) 0)=(a.getD (n+2) 0*4294967296+a.getD (n+1) 0)*4294967296+a.getD n 0 by omega];omega
theorem z4M {a:List Nat} (h:lim a) {n:Nat} (hn:n≤a.length):nv (a.take n)<4294967296 ^ n:=by
 have:=z9y (z28 h n)
 rwa [List.length_take,Nat.min_eq_left hn] at this
theorem z7C {x n:Nat} (h1:x<4294967296 ^ (n+1)) (h2:4294967296 ^ n≤x):(limbs x).length=n+1:=by
 have h3:=z0B.2 h1
 rcases Nat.lt_or_ge (limbs x).length (n+1) with e|e
 ·have:=z0B.1 (show (limbs x).length≤n by omega)
  omega
 ·omega
theorem z7D {y n:Nat} (h:(limbs y).length=n+1):(limbs y).getD n 0≠0:=by
 have:=z6g y
 unfold vld at this
 rw [h,Nat.add_sub_cancel] at this
 simpa using this
theorem w4A {y n:Nat} (h:(limbs y).length=n+1):32 - z2m ((limbs y).getD n 0)≤31∧y*2 ^ (32 - z2m ((limbs y).getD n 0))<4294967296 ^ (n+1)∧4294967296 ^ n*2147483648≤y*2 ^ (32 - z2m ((limbs y).getD n 0)):=by
 have h0:=z7D h
 have hl:=z0F (z0e y) n
 have hs:=z55 (a:=limbs y) (m:=n) (by omega)
 rw [z0E,List.drop_of_length_le (by omega)] at hs
 have hlow:=z4M (z0e y) (n:=n) (by omega)
 simp only [nv,Nat.mul_zero,Nat.add_zero] at hs
 generalize (limbs y).getD n 0=t at *
 obtain ⟨k1,k2,k3⟩:=w0Q h0 hl
 have hb:=z2g (k:=32) (show t<2 ^ 32 by omega)
 have htt:(t+1)*2 ^ (32 - z2m t)≤4294967296:=by
  have h4:=Nat.mul_le_mul_right (2 ^ (32 - z2m t)) (show t+1≤2 ^ z2m t from y50)
  rw [←Nat.pow_add,show z2m t+(32 - z2m t)=32 by omega] at h4
  exact h4
 refine ⟨k1,?_,?_⟩
 ·have h5:y*2 ^ (32 - z2m t)<(4294967296 ^ n*(t+1))*2 ^ (32 - z2m t):=Nat.mul_lt_mul_of_pos_right (by rw [hs,Nat.mul_add];omega) (Nat.two_pow_pos _)
  have h6:=Nat.mul_le_mul_left (4294967296 ^ n) htt
  rw [←Nat.mul_assoc] at h6
  rw [Nat.pow_succ]
  omega
 ·have h5:4294967296 ^ n*t*2 ^ (32 - z2m t)≤y*2 ^ (32 - z2m t):=Nat.mul_le_mul_right _ (by omega)
  have h6:=Nat.mul_le_mul_left (4294967296 ^ n) k2
  rw [←Nat.mul_assoc] at h6
  omega
theorem w0g {x k V n m:Nat} (hx:x<4294967296 ^ (m+n)) (hk:k≤31) (hV:4294967296 ^ n*2147483648≤V) {u:List Nat} (hl:m≤u.length) (hu:nv u=x*2 ^ k):nv (u.drop m)<V:=by
 have h1:=z5h u m hl
 have h2:x*2 ^ k<4294967296 ^ (m+n)*2147483648:=Nat.mul_lt_mul_of_lt_of_le hx (y2P hk) (by decide)
 rw [Nat.pow_add,Nat.mul_assoc,←hu] at h2
 have h3:4294967296 ^ m*nv (u.drop m)<4294967296 ^ m*(4294967296 ^ n*2147483648):=by omega
 have:=Nat.lt_of_mul_lt_mul_left h3
 omega
structure Step (u:List Nat) (V i n:Nat):Prop where
 eq:nv (u.drop i)=nv ((u.drop i).take (n+3))
 lt:nv (u.drop i)<4294967296*V
 cells:u=u.take i++(u.drop i).take (n+3)++u.drop (i+(n+3))
 slen:((u.drop i).take (n+3)).length=n+3
 g2:((u.drop i).take (n+3)).getD (n+2) 0=u.getD (i+n+2) 0
 g1:((u.drop i).take (n+3)).getD (n+1) 0=u.getD (i+n+1) 0
 g0:((u.drop i).take (n+3)).getD n 0=u.getD (i+n) 0
 rest:nv (u.drop (i+(n+3)))=0
theorem y2k (u:List Nat) (i k j:Nat) (h:j<k):((u.drop i).take k).getD j 0=u.getD (i+j) 0:=by
 simp [zO1,List.getElem?_take,h,List.getElem?_drop]
theorem w5p {x t P z V Q:Nat} (h:x=t+P*z) (hx:x<4294967296*V) (hV:V<Q) (hP:P=Q*4294967296):z=0:=by
 rcases Nat.eq_zero_or_pos z with e|e
 ·exact e
 ·have h1:=Nat.mul_le_mul_left P e
  rw [Nat.mul_one] at h1
  omega
theorem w6C {x y V:Nat} (hx:x<4294967296) (hR:y<V):x+4294967296*y<4294967296*V:=by omega
theorem w2c {u:List Nat} {V i n:Nat} (lu:lim u) (hl:i+(n+3)≤u.length) (hR:nv (u.drop (i+1))<V) (hV:V<4294967296 ^ (n+2)):Step u V i n:=by
 have hlt:nv (u.drop i)<4294967296*V:=by
  rw [z5g (a:=u) (m:=i) (by omega)];exact w6C (z0F lu i) hR
 have hs:=z5h (u.drop i) (n+3) (by simp;omega)
 rw [List.drop_drop] at hs
 have hz:nv (u.drop (i+(n+3)))=0:=w5p hs hlt hV (Nat.pow_succ (n:=4294967296) (m:=n+2))
 refine ⟨?_,hlt,?_,by simp;omega,y2k u i (n+3) (n+2) (by omega),y2k u i (n+3) (n+1) (by omega),y2k u i (n+3) n (by omega),hz⟩
 ·rw [hs,hz,Nat.mul_zero,Nat.add_zero]
 ·rw [List.append_assoc,show u.drop (i+(n+3))=(u.drop i).drop (n+3) by rw [List.drop_drop],List.take_append_drop,List.take_append_drop]
theorem w5f {V v1 v0 P Vl:Nat} (hv:V=(v1*4294967296+v0)*P+Vl) (hVl:Vl<P) (h0:v0<4294967296) (hVn:P*4294967296*2147483648≤V):0<v1:=by
 rcases Nat.eq_zero_or_pos v1 with e|e
 ·subst e
  rw [Nat.zero_mul,Nat.zero_add] at hv
  have h3:v0*P≤4294967295*P:=Nat.mul_le_mul_right P (by clear hv hVn;omega)
  generalize v0*P=z at *
  omega
 ·exact e
theorem w6A {U V T W P Ul Vl:Nat} (hu:U=T*P+Ul) (hv:V=W*P+Vl) (hVl:Vl<P) (hlt:U<4294967296*V):T<4294967296*(W+1):=by
 have h1:V<(W+1)*P:=by rw [Nat.add_mul,Nat.one_mul];omega
 have h2:T*P<(4294967296*(W+1))*P:=by
  rw [Nat.mul_assoc]
  generalize (W+1)*P=z at *
  omega
 exact Nat.lt_of_mul_lt_mul_right h2
theorem w6B {u2 u1 u0 v1 v0:Nat} (h0:v0<4294967296) (h:(u2*4294967296+u1)*4294967296+u0<4294967296*(v1*4294967296+v0+1)):u2≤v1:=by omega
theorem w0f {P V:Nat} (h:P*4294967296*2147483648≤V):4294967296*P≤V:=by omega
theorem x1z {u:List Nat} {V i n:Nat} (lu:lim u) (hS:Step u V i n) (hVl:V<4294967296 ^ (n+2)) (hVn:4294967296 ^ (n+1)*2147483648≤V) :
  u.getD (i+n+2) 0≤(limbs V).getD (n+1) 0∧0<(limbs V).getD (n+1) 0 ∧
  nv (u.drop i) / V≤gq ((u.getD (i+n+2) 0*4294967296+u.getD (i+n+1) 0)*4294967296+u.getD (i+n) 0) ((limbs V).getD (n+1) 0*4294967296+(limbs V).getD n 0) ∧
  gq ((u.getD (i+n+2) 0*4294967296+u.getD (i+n+1) 0)*4294967296+u.getD (i+n) 0) ((limbs V).getD (n+1) 0*4294967296+(limbs V).getD n 0)≤nv (u.drop i) / V+1:=by
 have hlen:(limbs V).length=n+2:=z7C hVl (Nat.le_trans (Nat.le_mul_of_pos_right _ (by decide)) hVn)
 have hv:=w7i (limbs V) n hlen
 have hvl:=z4M (z0e V) (n:=n) (by omega)
 have ls:=z28 (y2A lu i) (n+3)
 have hu:=w7j _ n hS.slen
 have hul:=z4M ls (n:=n) (by rw [hS.slen];omega)
 rw [←hS.eq,hS.g2,hS.g1,hS.g0] at hu
 rw [z0E] at hv
 have h0v:=z0F (z0e V) n
 have hlt:=hS.lt
 rw [Nat.pow_succ] at hVn
 have hv1:=w5f hv hvl h0v hVn
 exact ⟨w6B h0v (w6A hu hv hvl hlt),hv1,w0d hu hul hv hvl (w0f hVn) hlt (Nat.lt_of_lt_of_le (Nat.mul_pos hv1 (by decide)) (Nat.le_add_right _ _))⟩
theorem x79 {A u q V i n:Nat} {us qs:List Nat} (hA:A=4294967296 ^ (i+1)*nv qs*V+nv us) (hu:nv us=u+4294967296 ^ i*n) (hq:q=n / V) :
  A=4294967296 ^ i*nv (q::qs)*V+(u+4294967296 ^ i*(n % V)):=by
 subst hq
 have h1:=Nat.div_add_mod' n V
 simp only [nv]
 rw [hA,hu,Nat.pow_succ]
 have e1:4294967296 ^ i*n=4294967296 ^ i*(n / V*V)+4294967296 ^ i*(n % V):=by rw [←Nat.mul_add,h1]
 have e2:4294967296 ^ i*(n / V+4294967296*nv qs)*V=4294967296 ^ i*(n / V*V)+4294967296 ^ i*4294967296*nv qs*V:=by
  rw [Nat.mul_add,Nat.add_mul]
  simp only [Nat.mul_assoc]
 rw [e1,e2];omega
theorem x2j {A V q r:Nat} (h:A=q*V+r) (hr:r<V):q=A / V∧r=A % V:=by
 subst h
 have h0:0<V:=by omega
 rw [Nat.add_comm,Nat.add_mul_div_right _ _ h0,Nat.add_mul_mod_self_right,Nat.div_eq_of_lt hr,Nat.mod_eq_of_lt hr]
 exact ⟨by omega,rfl⟩
theorem x6k (k x:Nat):dig (k+1) x=dig k x++[x / 4294967296 ^ k % 4294967296]:=by
 induction k generalizing x with
 | zero=>simp [dig]
 | succ k ih =>
  rw [dig,ih,dig,Nat.div_div_eq_div_mul,←Nat.pow_succ']
  rfl
theorem y8n {u:List Nat} (lu:lim u) (i:Nat) (h:i≤u.length):nv u / 4294967296 ^ i=nv (u.drop i):=by
 have h1:=z5h u i h
 have h2:=z4M lu h
 rw [h1,Nat.add_mul_div_left _ _ (by omega),Nat.div_eq_of_lt h2,Nat.zero_add]
theorem back {u:List Nat} (lu:lim u) {i k:Nat} (hi:i+1<u.length) (hk:k≤31):(u.getD (i+1) 0*4294967296+u.getD i 0) / 2 ^ k % 4294967296=nv u / 2 ^ k / 4294967296 ^ i % 4294967296:=by
 rw [Nat.div_div_eq_div_mul,Nat.mul_comm (2 ^ k),←Nat.div_div_eq_div_mul,y8n lu i (by omega),z5g (a:=u) (m:=i) (by omega),z5g (a:=u) (m:=i+1) (by omega),←w7g hk,Nat.mul_comm 4294967296]
theorem w6i {q V n:Nat} (hq:q<4294967296) (hV:V<4294967296 ^ (n+2)):q*V<4294967296 ^ (n+3):=by
 have h1:4294967296 ^ (n+3)=4294967296 ^ (n+2)*4294967296:=Nat.pow_succ 4294967296 (n+2)
 rw [h1,Nat.mul_comm q]
 exact Nat.mul_lt_mul_of_lt_of_le hV (Nat.le_of_lt hq) (by decide)
theorem w0K {V n:Nat} (hV:V<4294967296 ^ (n+2)):V≤4294967296 ^ (n+3) :=
 Nat.le_of_lt (Nat.lt_of_lt_of_le hV (Nat.pow_le_pow_right (by decide) (by omega)))
theorem w4F {p s t:List Nat} {n i U r:Nat} (hp:p.length=i) (_hs:s.length=n+3) (ht:nv t=0) (hU:nv s=U):nv (p++s++t)=nv p+4294967296 ^ i*U∧(r<4294967296 ^ (n+3)→nv (p++dig (n+3) r++t)=nv p+4294967296 ^ i*r∧nv ((p++dig (n+3) r++t).drop i)=r):=by
 refine ⟨?_,fun hr=>⟨?_,?_⟩⟩
 ·rw [z2C,z2C,ht,Nat.mul_zero,Nat.add_zero,hp,hU]
 ·rw [z2C,z2C,ht,Nat.mul_zero,Nat.add_zero,hp,z9x,Nat.mod_eq_of_lt hr]
 ·rw [List.append_assoc,List.drop_append,List.drop_of_length_le (by omega),hp,Nat.sub_self,List.drop_zero,List.nil_append,z2C,ht,Nat.mul_zero,Nat.add_zero,z9x,Nat.mod_eq_of_lt hr]
end Nat32
namespace Nat32
open Go Go.Dat
theorem w47 (i:Nat):((i:Int)).tdiv 32=((i / 32:Nat):Int):=y3f i 32
theorem w5a (i:Nat):((i:Int)).tmod 32=((i % 32:Nat):Int):=z8a i 32
theorem w1O (a k:Nat) (hk:k≤31):((a:Int)).fdiv (2 ^ min k IntKind.u32.bits)=((a / 2 ^ k:Nat):Int):=by
 have e:min k IntKind.u32.bits=k:=by
  have:IntKind.u32.bits=32:=rfl
  omega
 rw [e,show ((2:Int) ^ k)=((2 ^ k:Nat):Int) by simp,z4E]
theorem x5Z {z:Nat} (h:z<4294967296):z24 .and .u32 (z:Int) 1=((z % 2:Nat):Int):=by
 have:=z8l z 1 h (by decide)
 rw [Nat.and_one_is_mod] at this
 exact this
theorem w2P {a:List Nat} (la:lim a) (i:Nat) (h:i / 32<a.length):a.getD (i / 32) 0 / 2 ^ (i % 32) % 2=nv a / 2 ^ i % 2:=by
 have e:2 ^ i=4294967296 ^ (i / 32)*2 ^ (i % 32):=by
  rw [show (4294967296:Nat)=2 ^ 32 from rfl,←Nat.pow_mul,←Nat.pow_add,Nat.div_add_mod]
 rw [e,←Nat.div_div_eq_div_mul,y8n la _ (by omega),z5g h]
 generalize a.getD (i / 32) 0=x
 generalize nv (a.drop (i / 32+1))=z
 have hm:i % 32<32:=Nat.mod_lt _ (by decide)
 generalize i % 32=m at hm
 have e2:x+4294967296*z=x+2 ^ m*(2*(2 ^ (31 - m)*z)):=by
  rw [←Nat.mul_assoc,←Nat.mul_assoc,←Nat.pow_succ,←Nat.pow_add,show m+1+(31 - m)=32 by omega]
 rw [e2,Nat.add_mul_div_left _ _ (Nat.two_pow_pos m),Nat.add_mul_mod_self_left]
theorem x54 (x i:Nat):x / 2 ^ i=2*(x / 2 ^ (i+1))+x / 2 ^ i % 2:=by
 rw [Nat.pow_succ,←Nat.div_div_eq_div_mul];omega
theorem z1G {x y:Nat} (h:x≤y):(limbs x).length≤(limbs y).length :=
 z0B.2 (Nat.lt_of_le_of_lt h (z0B.1 (Nat.le_refl _)))
theorem y1l {x n:Nat} (h:(limbs x).length≤n):(limbs (2*x+1)).length≤n+1:=by
 rw [z0B] at h ⊢
 rw [Nat.pow_succ];omega
theorem w6g (n:Nat):(4294967296:Nat) ^ n=2 ^ (32*n):=by rw [show (4294967296:Nat)=2 ^ 32 from rfl,←Nat.pow_mul]
def iv (neg:Bool) (a:List Nat):Int:=if neg then -((vn a:Nat):Int) else ((vn a:Nat):Int)
def I (z:Int):DV:=.agg [.bool (decide (z<0)),.sl 1 (us (limbs z.natAbs))]
def X (neg:Bool) (a:List Nat):DV:=.agg [.bool neg,.sl 1 (us a)]
def y3j (neg:Bool) (a:List Nat):Bool:=vld a && (decide (0<a.length) || !neg)
theorem y4H (z:Int):iv (decide (z<0)) (limbs z.natAbs)=z:=by
 unfold iv
 rw [z0w]
 by_cases h:z<0
 ·rw [if_pos (decide_eq_true h)];omega
 ·rw [if_neg (by simpa using h)];omega
theorem z4G {n:Nat}:0<(limbs n).length↔0<n:=by
 rcases Nat.eq_zero_or_pos n with e|e
 ·subst e;rw [z0r];simp
 ·constructor
  ·intro _;exact e
  ·intro _
   rcases Nat.eq_zero_or_pos (limbs n).length with h|h
   ·have:=z1l.1 (List.eq_nil_of_length_eq_zero h);omega
   ·exact h
theorem w5h (z:Int):y3j (decide (z<0)) (limbs z.natAbs)=true:=by
 unfold y3j
 rw [z6g,Bool.true_and,Bool.or_eq_true]
 by_cases h:z<0
 ·exact .inl (decide_eq_true (z4G.2 (by omega)))
 ·exact .inr (by simp [h])
theorem X_I {neg:Bool} {a:List Nat} (la:lim a) (h:y3j neg a=true):X neg a=I (iv neg a):=by
 unfold y3j at h
 rw [Bool.and_eq_true,Bool.or_eq_true] at h
 obtain ⟨hv,h2⟩:=h
 have ha:limbs (vn a)=a:=by rw [←z3A la,val,hv,if_pos rfl]
 unfold X I iv
 cases neg with
 | false =>
  simp only [Bool.false_eq_true,if_false,Int.natAbs_natCast,ha]
  rw [zF9]
 | true =>
  have h3:0<a.length:=by
   rcases h2 with h|h
   ·exact of_decide_eq_true h
   ·cases h
  have h4:0<vn a:=by rw [←z4G,ha];exact h3
  simp only [if_true,Int.natAbs_neg,Int.natAbs_natCast,ha]
  rw [zT9]
theorem x83 {neg:Bool} {a:List Nat} (h:y3j neg a=false):iv neg a=0:=by
 unfold y3j at h
 unfold iv
 have h0:vn a=0:=by
  by_cases hv:vld a=true
  ·rw [hv,Bool.true_and,Bool.or_eq_false_iff] at h
   have:a=[]:=List.eq_nil_of_length_eq_zero (by have:=of_decide_eq_false h.1;omega)
   subst this;rfl
  ·unfold vn val;rw [if_neg hv];rfl
 rw [h0];split<;>rfl
def sgn (neg:Bool) (n:Nat):Int:=if neg then -(n:Int) else n
theorem x5i (neg:Bool) (n:Nat):(sgn neg n).natAbs=n:=by unfold sgn;split<;>omega
theorem x9j (neg:Bool) (n:Nat):decide (sgn neg n<0)=(neg && decide (0<n)):=by
 unfold sgn
 cases neg with
 | false=>simp only [Bool.false_eq_true,if_false,Bool.false_and];exact zF9
 | true=>simp only [if_true,Bool.true_and];rw [decide_eq_decide];omega
theorem x7Q (z:Int):sgn (decide (z<0)) z.natAbs=z:=by
 unfold sgn
 by_cases h:z<0
 ·rw [if_pos (decide_eq_true h)];omega
 ·rw [if_neg (by simpa using h)];omega
theorem w1M (z:Int):sgn (!decide (z<0)) z.natAbs = -z:=by
 unfold sgn
 by_cases h:z<0
 ·rw [if_neg (by simp [h])];omega
 ·rw [if_pos (by simp [h])];omega
theorem y7J {x y:Int} (h:decide (x<0)=decide (y<0)):sgn (decide (x<0)) (x.natAbs+y.natAbs)=x+y:=by
 rw [decide_eq_decide] at h
 unfold sgn
 by_cases hx:x<0
 ·rw [if_pos (decide_eq_true hx)];have:=h.1 hx;omega
 ·rw [if_neg (by simpa using hx)];have:¬y<0:=fun k=>hx (h.2 k);omega
theorem y1N {x y:Int} (h:¬decide (x<0)=decide (y<0)) (hle:y.natAbs≤x.natAbs):sgn (decide (x<0)) (x.natAbs - y.natAbs)=x+y:=by
 rw [decide_eq_decide] at h
 unfold sgn
 by_cases hx:x<0
 ·rw [if_pos (decide_eq_true hx)];have:¬y<0:=fun k=>h ⟨fun _=>k,fun _=>hx⟩;omega
 ·rw [if_neg (by simpa using hx)];have:y<0:=by
   rcases Int.lt_or_le y 0 with k|k
   ·exact k
   ·exact absurd (show x<0↔y<0 from ⟨fun a=>absurd a hx,fun a=>absurd a (by omega)⟩) h
  omega
theorem y3v {x y:Int} (h:¬decide (x<0)=decide (y<0)) (hle:¬y.natAbs≤x.natAbs):sgn (decide (y<0)) (y.natAbs - x.natAbs)=x+y:=by
 have:=y1N (x:=y) (y:=x) (fun k=>h k.symm) (by omega)
 rw [this,Int.add_comm]
theorem x4p (x y:Int):sgn (!(decide (x<0) == decide (y<0))) (x.natAbs*y.natAbs)=x*y:=by
 have hxy:=Int.natAbs_mul x y
 unfold sgn
 by_cases hx:x<0<;>by_cases hy:y<0
 ·have h:=Int.mul_pos_of_neg_of_neg hx hy
  simp [hx,hy];rw [←Int.natCast_mul,←hxy];omega
 ·have h:x*y≤0:=Int.mul_nonpos_of_nonpos_of_nonneg (by omega) (by omega)
  simp [hx,hy];rw [←Int.natCast_mul,←hxy];omega
 ·have h:x*y≤0:=Int.mul_nonpos_of_nonneg_of_nonpos (by omega) (by omega)
  simp [hx,hy];rw [←Int.natCast_mul,←hxy];omega
 ·have h:0≤x*y:=Int.mul_nonneg (by omega) (by omega)
  simp [hx,hy];rw [←Int.natCast_mul,←hxy];omega
theorem x7S {z:Int}:(limbs z.natAbs).length=0↔z=0:=by
 constructor
 ·intro h
  have:=z1l.1 (List.eq_nil_of_length_eq_zero h)
  omega
 ·rintro rfl;rw [show (0:Int).natAbs=0 from rfl,z0r];rfl
theorem y38 {x y q r:Int} (h:x=q*y+r) (h0:0≤r) (h1:r<y.natAbs):q=x / y∧r=x % y:=by
 have h2:r+y*q=x:=by rw [h,Int.mul_comm y q,Int.add_comm]
 rcases Int.lt_or_le 0 y with hy|hy
 ·have:=(Int.ediv_emod_unique hy).2 ⟨h2,h0,by omega⟩
  exact ⟨this.1.symm,this.2.symm⟩
 ·have:=(Int.ediv_emod_unique' (show y<0 by omega)).2 ⟨h2,h0,by omega⟩
  exact ⟨this.1.symm,this.2.symm⟩
theorem x82 (neg:Bool) (a:List Nat):(iv neg a).natAbs=vn a:=by unfold iv;split<;>omega
theorem z3t {a:List Nat} (la:lim a) (neg:Bool):(limbs (iv neg a).natAbs).length≤a.length:=by
 rw [x82,←z3A la];exact y7y a
def w5U (x y:Int):Int:=if y=0 then 0 else x % y
theorem x5j (x y:Int) (n:Nat):sgn (!(decide (x<0) == decide (y<0))) n*y=sgn (decide (x<0)) (n*y.natAbs):=by
 obtain ⟨K,hK⟩:∃K:Nat,K=y.natAbs:=⟨_,rfl⟩
 rw [←hK]
 by_cases h1:x<0<;>by_cases h2:y<0
 ·have e:y = -(K:Int):=by omega
  simp only [h1,h2,decide_true]
  rw [e];show ((n:Int)) * -(K:Int) = -((n*K:Nat):Int)
  rw [Int.mul_neg,Int.natCast_mul]
 ·have e:y=(K:Int):=by omega
  simp only [h1,h2,decide_true,decide_false]
  rw [e];show (-(n:Int))*(K:Int) = -((n*K:Nat):Int)
  rw [Int.neg_mul,Int.natCast_mul]
 ·have e:y = -(K:Int):=by omega
  simp only [h1,h2,decide_true,decide_false]
  rw [e];show (-(n:Int)) * -(K:Int)=((n*K:Nat):Int)
  rw [Int.neg_mul,Int.mul_neg,Int.neg_neg,Int.natCast_mul]
 ·have e:y=(K:Int):=by omega
  simp only [h1,h2,decide_false]
  rw [e];show ((n:Int))*(K:Int)=((n*K:Nat):Int)
  rw [Int.natCast_mul]
theorem w1L (b:Bool) (m n:Nat):sgn b (m+n)=sgn b m+sgn b n:=by unfold sgn;split<;>omega
theorem x2k (x y:Int) (hy:y≠0) (hx:¬(x<0∧0<x.natAbs % y.natAbs)):sgn (!(decide (x<0) == decide (y<0))) (x.natAbs / y.natAbs)=x / y∧sgn false (x.natAbs % y.natAbs)=x % y:=by
 have h0:0<y.natAbs:=by omega
 have hm:=Nat.mod_lt x.natAbs h0
 have hd:=Nat.div_add_mod' x.natAbs y.natAbs
 have hs:=x7Q x
 rw [←hd,w1L,←x5j] at hs
 have hr:sgn (decide (x<0)) (x.natAbs % y.natAbs)=sgn false (x.natAbs % y.natAbs):=by
  by_cases h1:x<0
  ·have hz:x.natAbs % y.natAbs=0:=by
    rcases Nat.eq_zero_or_pos (x.natAbs % y.natAbs) with e|e
    ·exact e
    ·exact absurd ⟨h1,e⟩ hx
   rw [hz];unfold sgn;split<;>rfl
  ·rw [decide_eq_false h1]
 rw [hr] at hs
 exact y38 hs.symm (Int.natCast_nonneg _) (by show ((x.natAbs % y.natAbs:Nat):Int)<_;omega)
theorem x9S (x y:Int) (hy:y≠0) (h1:x<0) (h2:0<x.natAbs % y.natAbs):sgn (!(decide (x<0) == decide (y<0))) (x.natAbs / y.natAbs+1)=x / y∧sgn false (y.natAbs - x.natAbs % y.natAbs)=x % y:=by
 have h0:0<y.natAbs:=by omega
 have hm:=Nat.mod_lt x.natAbs h0
 have hd:=Nat.div_add_mod' x.natAbs y.natAbs
 have hq:=x5j x y (x.natAbs / y.natAbs+1)
 rw [Nat.add_mul,Nat.one_mul] at hq
 refine y38 ?_ (Int.natCast_nonneg _) (by show ((y.natAbs - x.natAbs % y.natAbs:Nat):Int)<_;omega)
 rw [hq]
 show x=sgn (decide (x<0)) (x.natAbs / y.natAbs*y.natAbs+y.natAbs)+((y.natAbs - x.natAbs % y.natAbs:Nat):Int)
 rw [decide_eq_true h1]
 show x = -((x.natAbs / y.natAbs*y.natAbs+y.natAbs:Nat):Int)+((y.natAbs - x.natAbs % y.natAbs:Nat):Int)
 generalize x.natAbs % y.natAbs=m at *
 generalize x.natAbs / y.natAbs*y.natAbs=t at *
 omega
theorem z1D {a:List Nat} (la:lim a) (h:vld a=true):limbs (vn a)=a:=by rw [vn,val,if_pos h];exact z74 la h
theorem x4h:limbs 1=[1]:=z5W (by decide) (by decide)
theorem vnl {a:List Nat} (hl:lim a):(limbs (vn a)).length≤a.length:=by
 rw [←z3A hl];exact y7y a
def dn (d:Nat):List Nat:=if d=1 then [] else limbs d
def Q (r:Rat):DV:=.agg [.bool (decide (r.num<0)),.sl 1 (us (limbs r.num.natAbs)),.sl 1 (us (dn r.den))]
def XQ (neg:Bool) (a d:List Nat):DV:=.agg [.bool neg,.sl 1 (us a),.sl 1 (us d)]
def z5n (neg:Bool) (a d:List Nat):Bool:=y3j neg a && vld d && (decide (d.length=0) || (decide (0<a.length) && decide (¬vn d=1) && decide (1=Nat.gcd (vn a) (vn d))))
def rv (neg:Bool) (a d:List Nat):Rat:=if z5n neg a d then mkRat (iv neg a) (if d.length=0 then 1 else vn d) else 0
theorem z2U (d:Nat):lim (dn d):=by unfold dn;split;exact z1m;exact z0e _
theorem x9q (d:Nat):vld (dn d)=true:=by unfold dn;split;rfl;exact z6g _
theorem y8m (d:Nat):(dn d).length≤(limbs d).length:=by unfold dn;split;simp;exact Nat.le_refl _
theorem y0T:dn 1=[]:=rfl
theorem z6u {d:Nat} (h:d≠0):(dn d).length=0↔d=1:=by
 unfold dn
 by_cases h1:d=1
 ·rw [if_pos h1];simp [h1]
 ·rw [if_neg h1]
  constructor
  ·intro e;exact absurd (z1l.1 (List.eq_nil_of_length_eq_zero e)) h
  ·intro e;exact absurd e h1
theorem w5j {d:Nat} (h:d≠1):vn (dn d)=d:=by unfold dn;rw [if_neg h,z0w]
theorem x5G (r:Rat):z5n (decide (r.num<0)) (limbs r.num.natAbs) (dn r.den)=true:=by
 unfold z5n
 rw [w5h,x9q,Bool.true_and,Bool.true_and]
 by_cases h1:r.den=1
 ·rw [h1,y0T];rfl
 ·have h0:0<r.num.natAbs:=by
   rcases Nat.eq_zero_or_pos r.num.natAbs with e|e
   ·exfalso
    have:=r.reduced
    rw [e,Nat.coprime_zero_left] at this
    exact h1 this
   ·exact e
  rw [w5j h1,z0w,decide_eq_true (z4G.2 h0),decide_eq_true (show ¬r.den=1 from h1),decide_eq_true (show 1=Nat.gcd r.num.natAbs r.den from (show Nat.gcd r.num.natAbs r.den=1 from r.reduced).symm)]
  simp
theorem x1H (r:Rat):rv (decide (r.num<0)) (limbs r.num.natAbs) (dn r.den)=r:=by
 unfold rv
 rw [x5G,if_pos rfl,y4H]
 by_cases h1:r.den=1
 ·rw [h1,y0T,if_pos (show ([]:List Nat).length=0 from rfl)]
  have:=Rat.mkRat_self r
  rwa [h1] at this
 ·rw [if_neg (fun e=>h1 ((z6u r.den_nz).1 e)),w5j h1,Rat.mkRat_self]
theorem y9G {neg:Bool} {a d:List Nat} (h:z5n neg a d=false):rv neg a d=0:=by unfold rv;rw [h];rfl
theorem y2Z {neg:Bool} {a d:List Nat} (ld:lim d) (h:z5n neg a d=true):(rv neg a d).num=iv neg a∧(rv neg a d).den=(if d.length=0 then 1 else vn d):=by
 unfold rv
 rw [h,if_pos rfl]
 by_cases h0:d.length=0
 ·rw [if_pos h0]
  rw [Rat.num_mkRat,Rat.den_mkRat]
  simp
 ·rw [if_neg h0]
  have hv:=h
  unfold z5n at hv
  simp only [Bool.and_eq_true,Bool.or_eq_true,decide_eq_true_eq,h0,false_or] at hv
  obtain ⟨⟨_,hd⟩,⟨h1,h2⟩,h3⟩:=hv
  replace h3:=h3.symm
  have hne:vn d≠0:=by
   intro e
   rw [e,Nat.gcd_zero_right] at h3
   have:vn d≠0:=by
    have hl:=z1D ld hd
    intro e2
    rw [e2,z0r] at hl
    rw [←hl] at h0
    exact h0 rfl
   exact this e
  rw [Rat.num_mkRat,Rat.den_mkRat,if_neg hne,if_neg hne,x82,Nat.gcd_comm,h3]
  simp
theorem w6J {neg:Bool} {a d:List Nat} (la:lim a) (ld:lim d) (h:z5n neg a d=true):XQ neg a d=Q (rv neg a d):=by
 obtain ⟨h1,h2⟩:=y2Z ld h
 have hv:=h
 unfold z5n at hv
 simp only [Bool.and_eq_true] at hv
 obtain ⟨⟨hi,hd⟩,h3⟩:=hv
 have hx:=X_I la hi
 unfold X I at hx
 injection hx with hx
 injection hx with e1 hx
 injection hx with e2 _
 unfold XQ Q
 rw [h1,h2,e1,e2]
 have e3:dn (if d.length=0 then 1 else vn d)=d:=by
  by_cases h0:d.length=0
  ·rw [if_pos h0,y0T,List.eq_nil_of_length_eq_zero h0]
  ·rw [if_neg h0]
   simp only [Bool.or_eq_true,Bool.and_eq_true,decide_eq_true_eq,h0,false_or] at h3
   unfold dn
   rw [if_neg h3.1.2]
   exact z1D ld hd
 rw [e3]
theorem w4Z (neg:Bool) (a d:List Nat) (ld:lim d):(limbs (rv neg a d).den).length≤max 1 d.length:=by
 by_cases h:z5n neg a d=true
 ·rw [(y2Z ld h).2]
  by_cases h0:d.length=0
  ·rw [if_pos h0,x4h];simp;omega
  ·rw [if_neg h0];exact Nat.le_trans (vnl ld) (by omega)
 ·rw [y9G (by simpa using h),show (0:Rat).den=1 from rfl,x4h];simp;omega
theorem w40 (neg:Bool) (a d:List Nat) (la:lim a) (ld:lim d):(limbs (rv neg a d).num.natAbs).length≤a.length:=by
 by_cases h:z5n neg a d=true
 ·rw [(y2Z ld h).1];exact z3t la neg
 ·rw [y9G (by simpa using h),show (0:Rat).num.natAbs=0 from rfl,z0r];simp
theorem y8p {z:Int} {g:Nat} (h:(g:Int)∣z) (hg:0<g):(z / (g:Int)).natAbs=z.natAbs / g∧decide (z / (g:Int)<0)=decide (z<0):=by
 obtain ⟨c,rfl⟩:=h
 have hg':(0:Int)<g:=by omega
 rw [Int.mul_ediv_cancel_left _ (by omega),Int.natAbs_mul,Int.natAbs_natCast,Nat.mul_div_cancel_left _ hg]
 refine ⟨rfl,?_⟩
 rw [decide_eq_decide]
 constructor
 ·intro hc;exact Int.mul_neg_of_pos_of_neg hg' hc
 ·intro hc
  rcases Int.lt_or_le c 0 with k|k
  ·exact k
  ·have:=Int.mul_nonneg (Int.le_of_lt hg') k;omega
theorem w5B (z:Int) (d:Nat) (h:d≠0):Q (mkRat z d)=.agg [.bool (decide (z<0)),.sl 1 (us (limbs (z.natAbs / Nat.gcd z.natAbs d))),.sl 1 (us (dn (d / Nat.gcd z.natAbs d)))]:=by
 have hg:0<Nat.gcd z.natAbs d:=Nat.gcd_pos_of_pos_right _ (Nat.pos_of_ne_zero h)
 have hd:((Nat.gcd z.natAbs d:Nat):Int)∣z:=by
  have:=Nat.gcd_dvd_left z.natAbs d
  exact Int.ofNat_dvd_left.2 this
 obtain ⟨e1,e2⟩:=y8p hd hg
 unfold Q
 rw [Rat.num_mkRat,Rat.den_mkRat,if_neg h,if_neg h,Nat.gcd_comm d,e1,e2]
theorem x1Q (z:Int):Q (z:Rat)=.agg [.bool (decide (z<0)),.sl 1 (us (limbs z.natAbs)),.sl 1 []]:=by
 unfold Q
 rw [Rat.num_intCast,Rat.den_intCast,y0T,x5B]
theorem Q0:Q 0=.agg [.bool false,.sl 1 [],.sl 1 []]:=by
 have:=x1Q 0
 rw [show ((0:Int):Rat)=0 from rfl,show (0:Int).natAbs=0 from rfl,z0r,x5B] at this
 exact this
theorem z6t (z:Int) {e:Int} (h:0<e):Rat.divInt z e=mkRat z e.natAbs:=by
 obtain ⟨n,rfl⟩:=Int.eq_ofNat_of_zero_le (Int.le_of_lt h)
 exact Rat.divInt_ofNat z n
theorem y0S (z:Int) {e:Int} (h:e<0):Rat.divInt z e=mkRat (-z) e.natAbs:=by
 rw [←Rat.neg_divInt_neg,z6t _ (by omega),Int.natAbs_neg]
theorem x4G (x y:Rat):Rat.divInt (x.num*y.den) (x.den*y.num)=x / y:=by
 rw [Rat.div_def,Rat.inv_def]
 conv=>rhs;rw [←Rat.num_divInt_den x]
 rw [Rat.divInt_mul_divInt]
theorem x7d {x y:Rat} (hx:x.den=1) (hy:y.den=1):x+y=((x.num+y.num:Int):Rat):=by
 rw [Rat.add_def',hx,hy]
 simp [Rat.mkRat_one]
theorem x7e {x y:Rat} (hx:x.den=1) (hy:y.den=1):x*y=((x.num*y.num:Int):Rat):=by
 rw [Rat.mul_def',hx,hy]
 simp [Rat.mkRat_one]
def RB (r:Rat) (m:Nat):Prop:=(limbs r.num.natAbs).length≤m∧(limbs r.den).length≤m
theorem RB.mono {r:Rat} {m n:Nat} (h:RB r m) (hm:m≤n):RB r n:=⟨Nat.le_trans h.1 hm,Nat.le_trans h.2 hm⟩
theorem z48 {neg:Bool} {a d:List Nat} {m:Nat} (la:lim a) (ld:lim d) (ha:a.length≤m) (hd:d.length≤m) (hm:1≤m):RB (rv neg a d) m :=
 ⟨Nat.le_trans (w40 neg a d la ld) ha,Nat.le_trans (w4Z neg a d ld) (by omega)⟩
end Nat32
namespace Nat32
def z1I:Nat→(Nat→Rat)→Rat
 | 0,_=>0
 | n+1,f=>z1I n f+f n
theorem z0G {n:Nat} {f g:Nat→Rat} (h:∀i,i<n→f i=g i):z1I n f=z1I n g:=by
 induction n with
 | zero=>rfl
 | succ n ih=>rw [z1I,z1I,ih fun i hi=>h i (by omega),h n (by omega)]
theorem z3y {n:Nat} {f:Nat→Rat} (h:∀i,i<n→f i=0):z1I n f=0:=by
 induction n with
 | zero=>rfl
 | succ n ih=>rw [z1I,ih fun i hi=>h i (by omega),h n (by omega),Rat.add_zero]
theorem z6b (n:Nat) (f g:Nat→Rat):z1I n (fun i=>f i+g i)=z1I n f+z1I n g:=by
 induction n with
 | zero=>exact (Rat.add_zero 0).symm
 | succ n ih =>
  simp only [z1I]
  rw [ih]
  grind
theorem z3T (n:Nat) (c:Rat) (f:Nat→Rat):z1I n (fun i=>c*f i)=c*z1I n f:=by
 induction n with
 | zero=>simp [z1I]
 | succ n ih=>simp only [z1I];rw [ih,Rat.mul_add]
theorem z1S {n k:Nat} (hk:k<n) {f:Nat→Rat} (h:∀i,i<n→i≠k→f i=0):z1I n f=f k:=by
 induction n with
 | zero=>omega
 | succ n ih =>
  rw [z1I]
  by_cases e:k=n
  ·subst e
   rw [z3y fun i hi=>h i (by omega) (by omega),Rat.zero_add]
  ·rw [ih (by omega) fun i hi hne=>h i (by omega) hne,h n (by omega) (fun e'=>e e'.symm),Rat.add_zero]
theorem z9U (n m:Nat) (f:Nat→Nat→Rat):z1I n (fun i=>z1I m fun j=>f i j)=z1I m fun j=>z1I n fun i=>f i j:=by
 induction n with
 | zero=>exact (z3y (f:=fun j=>z1I 0 fun i=>f i j) fun j _=>rfl).symm
 | succ n ih =>
  simp only [z1I]
  rw [ih,z6b]
abbrev Mt:=Nat→Nat→Rat
def Ker (n k:Nat) (M:Mt) (c:Nat→Rat):Prop:=∀i,i<n→z1I k (fun j=>M i j*c j)=0
def z12 (n k:Nat) (M M':Mt):Prop:=∀c,Ker n k M c↔Ker n k M' c
theorem z12.refl (n k:Nat) (M:Mt):z12 n k M M:=fun _=>Iff.rfl
theorem z12.trans {n k:Nat} {A B C:Mt} (h:z12 n k A B) (h':z12 n k B C):z12 n k A C:=fun c=>(h c).trans (h' c)
theorem z12.symm {n k:Nat} {A B:Mt} (h:z12 n k A B):z12 n k B A:=fun c=>(h c).symm
theorem y9Y {n k a b:Nat} (ha:a<n) (hb:b<n) {M M':Mt} (h1:∀j,j<k→M' a j=M b j) (h2:∀j,j<k→M' b j=M a j) (h3:∀i,i<n→i≠a→i≠b→∀j,j<k→M' i j=M i j):z12 n k M M':=fun c=>by
 have e1:z1I k (fun j=>M' a j*c j)=z1I k (fun j=>M b j*c j):=z0G fun j hj=>by rw [h1 j hj]
 have e2:z1I k (fun j=>M' b j*c j)=z1I k (fun j=>M a j*c j):=z0G fun j hj=>by rw [h2 j hj]
 have e3:∀i,i<n→i≠a→i≠b→z1I k (fun j=>M' i j*c j)=z1I k (fun j=>M i j*c j):=fun i hi g1 g2=>z0G fun j hj=>by rw [h3 i hi g1 g2 j hj]
 unfold Ker
 constructor
 ·intro g i hi
  by_cases g1:i=a
  ·rw [g1,e1];exact g b hb
  ·by_cases g2:i=b
   ·rw [g2,e2];exact g a ha
   ·rw [e3 i hi g1 g2];exact g i hi
 ·intro g i hi
  by_cases g1:i=a
  ·rw [g1,←e2];exact g b hb
  ·by_cases g2:i=b
   ·rw [g2,←e1];exact g a ha
   ·rw [←e3 i hi g1 g2];exact g i hi
theorem x1O {n k t:Nat} (ht:t<n) {M M':Mt} {q:Rat} (hq:q≠0) (f:Nat→Rat) (h1:∀j,j<k→M' t j=q*M t j) (h2:∀i,i<n→i≠t→∀j,j<k→M' i j=M i j+f i*M t j):z12 n k M M':=fun c=>by
 have e1:z1I k (fun j=>M' t j*c j)=q*z1I k (fun j=>M t j*c j):=by
  rw [←z3T]
  exact z0G fun j hj=>by rw [h1 j hj];grind
 have e2:∀i,i<n→i≠t→z1I k (fun j=>M' i j*c j)=z1I k (fun j=>M i j*c j)+f i*z1I k (fun j=>M t j*c j):=fun i hi g=>by
  rw [←z3T,←z6b]
  exact z0G fun j hj=>by rw [h2 i hi g j hj];grind
 unfold Ker
 constructor
 ·intro g i hi
  by_cases g1:i=t
  ·rw [g1,e1,g t ht,Rat.mul_zero]
  ·rw [e2 i hi g1,g i hi,g t ht];grind
 ·intro g i hi
  have ht0:z1I k (fun j=>M t j*c j)=0:=by
   have:=g t ht
   rw [e1] at this
   rcases Rat.mul_eq_zero.1 this with h|h
   ·exact absurd h hq
   ·exact h
  by_cases g1:i=t
  ·rw [g1];exact ht0
  ·have:=g i hi
   rw [e2 i hi g1,ht0] at this
   grind
structure IsRp (n k j:Nat) (R:Mt) (ps:List Nat):Prop where
 inc:∀a b,a<b→b<ps.length→ps.getD a 0<ps.getD b 0
 lt:∀a,a<ps.length→ps.getD a 0<j
 len:ps.length≤n
 one:∀a,a<ps.length→R a (ps.getD a 0)=1
 col:∀a,a<ps.length→∀i,i<n→i≠a→R i (ps.getD a 0)=0
 left:∀a,a<ps.length→∀c,c<ps.getD a 0→R a c=0
 down:∀i,ps.length≤i→i<n→∀c,c<j→R i c=0
abbrev IsR (n k:Nat) (R:Mt) (ps:List Nat):Prop:=IsRp n k k R ps
theorem IsRp.nil (n k:Nat) (R:Mt):IsRp n k 0 R []:=by
 refine ⟨?_,?_,Nat.zero_le _,?_,?_,?_,?_⟩
 ·intro a b _ h;cases h
 ·intro a h;cases h
 ·intro a h;cases h
 ·intro a h;cases h
 ·intro a h;cases h
 ·intro i _ _ c h;cases h
theorem IsRp.skip {n k j:Nat} {R:Mt} {ps:List Nat} (h:IsRp n k j R ps) (h0:∀i,ps.length≤i→i<n→R i j=0):IsRp n k (j+1) R ps :=
 ⟨h.inc,fun a ha=>Nat.lt_succ_of_lt (h.lt a ha),h.len,h.one,h.col,h.left,fun i h1 h2 c hc=>by
  rcases Nat.lt_or_ge c j with g|g
  ·exact h.down i h1 h2 c g
  ·obtain rfl:c=j:=by omega
   exact h0 i h1 h2⟩
theorem z1A {ps:List Nat} {a p:Nat} (h:a<ps.length):(ps++[p]).getD a 0=ps.getD a 0:=by
 rw [zO1,List.getElem?_append_left h,zO1]
theorem z2u (ps:List Nat) (p:Nat):(ps++[p]).getD ps.length 0=p:=by
 rw [zO1,List.getElem?_append_right (Nat.le_refl _),Nat.sub_self];rfl
theorem IsRp.step {n k j:Nat} (hj:j<k) {R R':Mt} {ps:List Nat} (h:IsRp n k j R ps) (hn:ps.length<n) (h1:R' ps.length j=1) (h2:∀i,i<n→i≠ps.length→R' i j=0)
  (h3:∀i,i<n→∀c,c<j→R' i c=R i c):IsRp n k (j+1) R' (ps++[j]):=by
 have hl:(ps++[j]).length=ps.length+1:=by simp
 refine ⟨fun a b hab hb=>?_,fun a ha=>?_,by omega,fun a ha=>?_,fun a ha i hi hne=>?_,fun a ha c hc=>?_,fun i g1 g2 c hc=>?_⟩
 ·rw [hl] at hb
  by_cases e:b=ps.length
  ·rw [e,z2u,z1A (by omega)];exact h.lt a (by omega)
  ·rw [z1A (by omega),z1A (by omega)];exact h.inc a b hab (by omega)
 ·rw [hl] at ha
  by_cases e:a=ps.length
  ·rw [e,z2u];omega
  ·rw [z1A (by omega)];have:=h.lt a (by omega);omega
 ·rw [hl] at ha
  by_cases e:a=ps.length
  ·rw [e,z2u];exact h1
  ·rw [z1A (by omega),h3 a (by omega) _ (h.lt a (by omega))];exact h.one a (by omega)
 ·rw [hl] at ha
  by_cases e:a=ps.length
  ·rw [e,z2u];exact h2 i hi (by omega)
  ·rw [z1A (by omega),h3 i hi _ (h.lt a (by omega))];exact h.col a (by omega) i hi hne
 ·rw [hl] at ha
  by_cases e:a=ps.length
  ·rw [e,z2u] at hc
   rw [e,h3 _ hn c hc];exact h.down _ (Nat.le_refl _) hn c hc
  ·rw [z1A (by omega)] at hc
   have:=h.lt a (by omega)
   rw [h3 a (by omega) c (by omega)];exact h.left a (by omega) c hc
 ·rw [hl] at g1
  rcases Nat.lt_or_ge c j with g|g
  ·rw [h3 i g2 c g];exact h.down i (by omega) g2 c g
  ·obtain rfl:c=j:=by omega
   exact h2 i g2 (by omega)
def Dep (n k:Nat) (M:Mt) (j:Nat):Prop:=∃c:Nat→Rat,Ker n k M c∧c j = -1∧∀i,j<i→c i=0
def y5S (R:Mt) (ps:List Nat) (j:Nat) (i:Nat):Rat:=if i=j then -1 else if ps.contains i then R (ps.idxOf i) j else 0
theorem z6J {ps:List Nat} {a:Nat} (hinc:∀a b,a<b→b<ps.length→ps.getD a 0<ps.getD b 0) (h:a<ps.length):ps.idxOf (ps.getD a 0)=a:=by
 have hg:∀b,b<ps.length→ps.getD b 0=ps[b]?.getD 0:=fun b _=>zO1 ..
 have hm:ps.getD a 0∈ps:=by
  rw [zO1,zO4 h];exact List.getElem_mem h
 have h1:=List.idxOf_lt_length_iff.2 hm
 have h2:ps.getD (ps.idxOf (ps.getD a 0)) 0=ps.getD a 0:=by
  rw [zO1,zO4 h1]
  exact List.getElem_idxOf h1
 rcases Nat.lt_trichotomy (ps.idxOf (ps.getD a 0)) a with g|g|g
 ·have:=hinc _ _ g h;omega
 ·exact g
 ·have:=hinc _ _ g h1;omega
theorem z44 {ps:List Nat} {i:Nat} (h:i∈ps):∃a,a<ps.length∧ps.getD a 0=i:=by
 obtain ⟨a,ha,e⟩:=List.getElem_of_mem h
 exact ⟨a,ha,by rw [zO1,zO4 ha];exact e⟩
theorem z4q {ps:List Nat} {a:Nat} (h:a<ps.length):ps.getD a 0∈ps:=by
 rw [zO1,zO4 h];exact List.getElem_mem h
theorem IsRp.sum_rel {n k j0 j:Nat} {R:Mt} {ps:List Nat} (h:IsRp n k j0 R ps) (hk:j0≤k) (hj:j<k) (hnp:j∉ps) (i:Nat) (hi:i<ps.length):z1I k (fun c=>R i c*y5S R ps j c)=0:=by
 have hp:=h.lt i hi
 have hne:ps.getD i 0≠j:=fun e=>hnp (e ▸ z4q hi)
 have key:∀c,c<k→R i c*y5S R ps j c=(if c=j then -(R i j) else 0)+(if c=ps.getD i 0 then R i j else 0):=fun c _=>by
  unfold y5S
  by_cases e1:c=j
  ·subst e1
   rw [if_pos rfl,if_pos rfl,if_neg (Ne.symm hne)];grind
  ·rw [if_neg e1,if_neg e1]
   by_cases e2:c∈ps
   ·obtain ⟨a,ha,rfl⟩:=z44 e2
    rw [if_pos (by simpa using e2),z6J h.inc ha]
    by_cases e3:a=i
    ·subst e3
     rw [if_pos rfl,h.one a ha];grind
    ·rw [h.col a ha i (by have:=h.len;omega) (fun e=>e3 e.symm)]
     have hneq:ps.getD a 0≠ps.getD i 0:=fun e=>by
      rcases Nat.lt_or_ge a i with g|g
      ·have:=h.inc a i g hi;omega
      ·have:=h.inc i a (by omega) ha;omega
     rw [if_neg hneq];grind
   ·rw [if_neg (by simpa using e2),if_neg (fun e=>e2 (by rw [e];exact z4q hi))];grind
 rw [z0G key,z6b]
 rw [z1S (k:=j) hj (fun c _ hc=>by rw [if_neg hc]),if_pos rfl,z1S (k:=ps.getD i 0) (by omega) (fun c _ hc=>by rw [if_neg hc]),if_pos rfl]
 grind
theorem IsR.rel {n k j:Nat} {R:Mt} {ps:List Nat} (h:IsR n k R ps) (hj:j<k) (hnp:j∉ps):Ker n k R (y5S R ps j):=fun i hi=>by
 rcases Nat.lt_or_ge i ps.length with g|g
 ·exact h.sum_rel (Nat.le_refl _) hj hnp i g
 ·exact z3y fun c hc=>by rw [h.down i g hi c hc];grind
theorem IsR.dep {n k j:Nat} {R:Mt} {ps:List Nat} (h:IsR n k R ps) (hj:j<k):Dep n k R j↔j∉ps:=by
 constructor
 ·rintro ⟨c,hc,h1,h2⟩ hm
  obtain ⟨a,ha,rfl⟩:=z44 hm
  have hs:=hc a (by have:=h.len;omega)
  rw [z1S (k:=ps.getD a 0) hj (fun i hi hne=>?_),h.one a ha,h1] at hs
  ·exact absurd hs (by grind)
  ·rcases Nat.lt_or_ge i (ps.getD a 0) with g|g
   ·rw [h.left a ha i g];grind
   ·rw [h2 i (by omega)];grind
 ·intro hnp
  refine ⟨y5S R ps j,h.rel hj hnp,by unfold y5S;rw [if_pos rfl],fun i hi=>?_⟩
  unfold y5S
  rw [if_neg (by omega)]
  split
  ·rename_i hm
   obtain ⟨a,ha,rfl⟩:=z44 (show i∈ps by simpa using hm)
   rw [z6J h.inc ha,h.left a ha j hi]
  ·rfl
theorem Dep.congr {n k:Nat} {A B:Mt} (h:z12 n k A B) (j:Nat):Dep n k A j↔Dep n k B j :=
 ⟨fun ⟨c,h1,h2,h3⟩=>⟨c,(h c).1 h1,h2,h3⟩,fun ⟨c,h1,h2,h3⟩=>⟨c,(h c).2 h1,h2,h3⟩⟩
theorem y2m:∀{l l':List Nat},l.Pairwise (·<·)→l'.Pairwise (·<·)→(∀x,x∈l↔x∈l')→l=l'
 | [],[],_,_,_=>rfl
 | [],b::l',_,_,h=>by have:=(h b).2 List.mem_cons_self;cases this
 | a::l,[],_,_,h=>by have:=(h a).1 List.mem_cons_self;cases this
 | a::l,b::l',h1,h2,h=>by
  rw [List.pairwise_cons] at h1 h2
  have e:a=b:=by
   rcases List.mem_cons.1 ((h a).1 List.mem_cons_self) with e|g
   ·exact e
   ·rcases List.mem_cons.1 ((h b).2 List.mem_cons_self) with e|g'
    ·exact e.symm
    ·have:=h2.1 a g;have:=h1.1 b g';omega
  subst e
  rw [y2m h1.2 h2.2 fun x=>?_]
  constructor
  ·intro hx
   have hlt:=h1.1 x hx
   rcases List.mem_cons.1 ((h x).1 (List.mem_cons_of_mem _ hx)) with e|g
   ·omega
   ·exact g
  ·intro hx
   have hlt:=h2.1 x hx
   rcases List.mem_cons.1 ((h x).2 (List.mem_cons_of_mem _ hx)) with e|g
   ·omega
   ·exact g
theorem y4A {ps:List Nat} (hinc:∀a b,a<b→b<ps.length→ps.getD a 0<ps.getD b 0):ps.Pairwise (·<·):=by
 rw [List.pairwise_iff_getElem]
 intro i j hi hj hij
 have:=hinc i j hij hj
 rwa [zO1,zO4 hi,zO1,zO4 hj] at this
theorem IsR.mem {n k j:Nat} {R:Mt} {ps:List Nat} (h:IsR n k R ps):j∈ps↔j<k∧¬Dep n k R j:=by
 constructor
 ·intro hm
  obtain ⟨a,ha,e⟩:=z44 hm
  have hj:j<k:=by rw [←e];exact h.lt a ha
  exact ⟨hj,fun hd=>(h.dep hj).1 hd hm⟩
 ·rintro ⟨hj,hd⟩
  exact Classical.byContradiction fun hm=>hd ((h.dep hj).2 hm)
theorem IsR.pivots {n k n':Nat} {A B:Mt} {ps qs:List Nat} (hA:IsR n k A ps) (hB:IsR n' k B qs) (h:∀j,j<k→(Dep n k A j↔Dep n' k B j)):ps=qs :=
 y2m (y4A hA.inc) (y4A hB.inc) fun x=>by
  rw [hA.mem,hB.mem]
  constructor
  ·rintro ⟨h1,h2⟩;exact ⟨h1,fun g=>h2 ((h x h1).2 g)⟩
  ·rintro ⟨h1,h2⟩;exact ⟨h1,fun g=>h2 ((h x h1).1 g)⟩
theorem x81 {ps:List Nat} (hinc:∀a b,a<b→b<ps.length→ps.getD a 0<ps.getD b 0) {a b:Nat} (ha:a<ps.length) (hb:b<ps.length) (h:a≠b):ps.getD a 0≠ps.getD b 0:=fun e=>by
 rcases Nat.lt_or_ge a b with g|g
 ·have:=hinc a b g hb;omega
 ·have:=hinc b a (by omega) ha;omega
theorem IsR.row_sum {n k j:Nat} {R:Mt} {ps:List Nat} (h:IsR n k R ps) (hj:j<k) (hnp:j∉ps) {v:Nat→Rat} (h0:∀c,c<k→c≠j→c∉ps→v c=0) (h1:v j = -1) {i:Nat} (hi:i<ps.length) :
  z1I k (fun c=>R i c*v c)=v (ps.getD i 0) - R i j:=by
 have hp:=h.lt i hi
 have hne:ps.getD i 0≠j:=fun e=>hnp (e ▸ z4q hi)
 have key:∀c,c<k→R i c*v c=(if c=j then -(R i j) else 0)+(if c=ps.getD i 0 then v (ps.getD i 0) else 0):=fun c hc=>by
  by_cases e1:c=j
  ·subst e1
   rw [if_pos rfl,if_neg (Ne.symm hne),h1];grind
  ·rw [if_neg e1]
   by_cases e2:c∈ps
   ·obtain ⟨a,ha,rfl⟩:=z44 e2
    by_cases e3:a=i
    ·subst e3
     rw [if_pos rfl,h.one a ha];grind
    ·rw [h.col a ha i (by have:=h.len;omega) (fun e=>e3 e.symm),if_neg (x81 h.inc ha hi e3)];grind
   ·rw [if_neg (fun e=>e2 (by rw [e];exact z4q hi)),h0 c hc e1 e2];grind
 rw [z0G key,z6b,z1S (k:=j) hj (fun c _ hc=>by rw [if_neg hc]),if_pos rfl,z1S (k:=ps.getD i 0) hp (fun c _ hc=>by rw [if_neg hc]),if_pos rfl]
 grind
theorem w08 {R:Mt} {ps:List Nat} (hinc:∀a b,a<b→b<ps.length→ps.getD a 0<ps.getD b 0) {j a:Nat} (hnp:j∉ps) (ha:a<ps.length):y5S R ps j (ps.getD a 0)=R a j:=by
 unfold y5S
 rw [if_neg (fun e=>hnp (by rw [←e];exact z4q ha)),if_pos (by simpa using z4q ha),z6J hinc ha]
theorem w4V {R:Mt} {ps:List Nat} {j c:Nat} (h1:c≠j) (h2:c∉ps):y5S R ps j c=0:=by
 unfold y5S
 rw [if_neg h1,if_neg (by simpa using h2)]
theorem x9g {R:Mt} {ps:List Nat} {j:Nat}:y5S R ps j j = -1:=by unfold y5S;rw [if_pos rfl]
theorem IsR.unique {n k:Nat} {A B:Mt} {ps qs:List Nat} (hA:IsR n k A ps) (hB:IsR n k B qs) (hK:z12 n k A B):ps=qs∧∀i,i<n→∀j,j<k→A i j=B i j:=by
 have e:=hA.pivots hB fun j _=>Dep.congr hK j
 subst e
 refine ⟨rfl,fun i hi j hj=>?_⟩
 rcases Nat.lt_or_ge i ps.length with g|g
 ·by_cases hm:j∈ps
  ·obtain ⟨a,ha,rfl⟩:=z44 hm
   by_cases e:i=a
   ·subst e;rw [hA.one i ha,hB.one i ha]
   ·rw [hA.col a ha i hi e,hB.col a ha i hi e]
  ·have h1:=(hK _).1 (hA.rel hj hm) i hi
   rw [hB.row_sum hj hm (fun c _ h1 h2=>w4V h1 h2) x9g g,w08 hA.inc hm g] at h1
   grind
 ·rw [hA.down i g hi j hj,hB.down i g hi j hj]
theorem y5E {k:Nat} {ps:List Nat} (hinc:∀a b,a<b→b<ps.length→ps.getD a 0<ps.getD b 0) (hlt:∀a,a<ps.length→ps.getD a 0<k) (f:Nat→Rat) :
  z1I k (fun c=>if ps.contains c then f c else 0)=z1I ps.length fun a=>f (ps.getD a 0):=by
 have key:∀c,c<k→(if ps.contains c then f c else 0)=z1I ps.length fun a=>if c=ps.getD a 0 then f c else 0:=fun c _=>by
  by_cases hm:c∈ps
  ·obtain ⟨b,hb,rfl⟩:=z44 hm
   rw [if_pos (by simpa using hm),z1S (k:=b) hb (fun a ha hne=>by rw [if_neg (x81 hinc hb ha (fun e=>hne e.symm))]),if_pos rfl]
  ·rw [if_neg (by simpa using hm),z3y fun a ha=>by rw [if_neg (fun e=>hm (by rw [e];exact z4q ha))]]
 rw [z0G key,z9U]
 exact z0G fun a ha=>by
  rw [z1S (k:=ps.getD a 0) (hlt a ha) (fun c _ hc=>by rw [if_neg hc]),if_pos rfl]
theorem IsR.explains {n k:Nat} {X R:Mt} {ps:List Nat} (h:IsR n k R ps) (hK:z12 n k X R) {i j:Nat} (hi:i<n) (hj:j<k):z1I ps.length (fun a=>R a j*X i (ps.getD a 0))=X i j:=by
 by_cases hm:j∈ps
 ·obtain ⟨b,hb,rfl⟩:=z44 hm
  rw [z1S (k:=b) hb (fun a ha hne=>by rw [h.col b hb a (by have:=h.len;omega) hne];grind),h.one b hb]
  grind
 ·have h1:=(hK _).2 (h.rel hj hm) i hi
  have key:∀c,c<k→X i c*y5S R ps j c=(if c=j then -(X i j) else 0)+(if ps.contains c then X i c*R (ps.idxOf c) j else 0):=fun c _=>by
   unfold y5S
   by_cases e:c=j
   ·subst e
    rw [if_pos rfl,if_pos rfl,if_neg (by simpa using hm)];grind
   ·rw [if_neg e,if_neg e]
    split<;>grind
  rw [z0G key,z6b,z1S (k:=j) hj (fun c _ hc=>by rw [if_neg hc]),if_pos rfl,y5E h.inc h.lt (fun c=>X i c*R (ps.idxOf c) j)] at h1
  have e2:z1I ps.length (fun a=>R a j*X i (ps.getD a 0))=z1I ps.length fun a=>X i (ps.getD a 0)*R (ps.idxOf (ps.getD a 0)) j:=z0G fun a ha=>by rw [z6J h.inc ha];grind
  rw [e2];grind
def z3U (a b:Nat) (M:Mt):Mt:=fun i c=>if i=a then M b c else if i=b then M a c else M i c
def elimM (t j:Nat) (M:Mt):Mt:=fun i c=>if i=t then M t c*(1 / M t j) else M i c+M t c*(1 / M t j)*(-(M i j))
theorem w3i {n k j at_:Nat} {M:Mt} {ps:List Nat} (h:IsRp n k j M ps) (hj:j<k) (ha:ps.length≤at_) (han:at_<n) (hne:M at_ j≠0) :
  IsRp n k (j+1) (elimM ps.length j (z3U ps.length at_ M)) (ps++[j])∧z12 n k M (elimM ps.length j (z3U ps.length at_ M)):=by
 have hn:ps.length<n:=by omega
 have hS:∀i,i<n→∀c,c<j→z3U ps.length at_ M i c=M i c:=fun i hi c hc=>by
  unfold z3U
  by_cases e1:i=ps.length
  ·rw [if_pos e1,e1,h.down at_ ha han c hc,h.down _ (Nat.le_refl _) hn c hc]
  ·rw [if_neg e1]
   by_cases e2:i=at_
   ·rw [if_pos e2,e2,h.down at_ ha han c hc,h.down _ (Nat.le_refl _) hn c hc]
   ·rw [if_neg e2]
 have ht:z3U ps.length at_ M ps.length j=M at_ j:=by unfold z3U;rw [if_pos rfl]
 have hk1:z12 n k M (z3U ps.length at_ M):=y9Y (a:=ps.length) (b:=at_) hn han (fun c _=>by unfold z3U;rw [if_pos rfl]) (fun c _=>by
  unfold z3U
  by_cases e:at_=ps.length
  ·rw [if_pos e,e]
  ·rw [if_neg e,if_pos rfl]) (fun i _ h1 h2 c _=>by unfold z3U;rw [if_neg h1,if_neg h2])
 have hd:∀c,c<j→z3U ps.length at_ M ps.length c=0:=fun c hc=>by rw [hS _ hn c hc];exact h.down _ (Nat.le_refl _) hn c hc
 generalize z3U ps.length at_ M=S at *
 have hs:S ps.length j≠0:=by rw [ht];exact hne
 refine ⟨h.step hj hn ?_ (fun i hi hne=>?_) (fun i hi c hc=>?_),hk1.trans (x1O (t:=ps.length) hn (q:=1 / S ps.length j) (fun e=>?_) (fun i=>(1 / S ps.length j)*(-(S i j))) (fun c _=>?_) fun i _ hne c _=>?_)⟩
 ·unfold elimM;rw [if_pos rfl];grind
 ·unfold elimM;rw [if_neg hne];grind
 ·unfold elimM
  by_cases e:i=ps.length
  ·subst e;rw [if_pos rfl,hd c hc,h.down _ (Nat.le_refl _) hn c hc];grind
  ·rw [if_neg e,hd c hc,hS i hi c hc];grind
 ·have:S ps.length j*(1 / S ps.length j)=1:=by grind
  rw [e] at this;grind
 ·unfold elimM;rw [if_pos rfl];grind
 ·unfold elimM;rw [if_neg hne];grind
theorem z3D (n k:Nat) (M:Mt):∃R ps,IsR n k R ps∧z12 n k M R:=by
 have key:∀j,j≤k→∃R ps,IsRp n k j R ps∧z12 n k M R:=by
  intro j
  induction j with
  | zero=>exact fun _=>⟨M,[],IsRp.nil n k M,z12.refl _ _ _⟩
  | succ j ih =>
   intro hj
   obtain ⟨R,ps,h1,h2⟩:=ih (by omega)
   by_cases h:∀i,ps.length≤i→i<n→R i j=0
   ·exact ⟨R,ps,h1.skip h,h2⟩
   ·obtain ⟨i,hi⟩:=Classical.not_forall.1 h
    have g1:ps.length≤i:=Classical.byContradiction fun g=>hi fun g'=>absurd g' g
    have g2:i<n:=Classical.byContradiction fun g=>hi fun _ g'=>absurd g' g
    have g3:R i j≠0:=fun g=>hi fun _ _=>g
    obtain ⟨e1,e2⟩:=w3i h1 (by omega) g1 g2 g3
    exact ⟨_,_,e1,h2.trans e2⟩
 exact key k (Nat.le_refl k)
theorem x4v {s r:Nat} (C:Mt) (h:s<r):∃c:Nat→Rat,(∃j,j<r∧c j≠0)∧Ker s r C c:=by
 obtain ⟨R,ps,h1,h2⟩:=z3D s r C
 have:∃j,j<r∧j∉ps:=by
  refine Classical.byContradiction fun hn=>?_
  have hall:∀j,j<r→j∈ps:=fun j hj=>Classical.byContradiction fun g=>hn ⟨j,hj,g⟩
  have hl:=h1.len
  have hnd:(List.range r).Pairwise (·<·):=List.pairwise_lt_range
  have:List.range r=ps:=y2m hnd (y4A h1.inc) fun x=>by
   rw [List.mem_range]
   exact ⟨hall x,fun hm=>by obtain ⟨a,ha,e⟩:=z44 hm;rw [←e];exact h1.lt a ha⟩
  have hlen:(List.range r).length=ps.length:=by rw [this]
  rw [List.length_range] at hlen
  omega
 obtain ⟨j,hj,hnp⟩:=this
 exact ⟨y5S R ps j,⟨j,hj,by rw [x9g];grind⟩,(h2 _).2 (h1.rel hj hnp)⟩
theorem y6J {n ka kb:Nat} {A B RA RB:Mt} {ps qs:List Nat} (hA:IsR n ka RA ps) (hKA:z12 n ka A RA) (hB:IsR n kb RB qs) (hKB:z12 n kb B RB) (M:Mt) (hM:∀i,i<n→∀j,j<kb→B i j=z1I ka fun l=>A i l*M l j):qs.length≤ps.length:=by
 refine Classical.byContradiction fun hlt=>?_
 obtain ⟨c,⟨b0,hb0,hne⟩,hc⟩:=x4v (s:=ps.length) (r:=qs.length) (fun a b=>z1I ka fun l=>RA a l*M l (qs.getD b 0)) (by omega)
 have hv:Ker n kb B (fun q=>if qs.contains q then c (qs.idxOf q) else 0):=fun i hi=>by
  have e1:∀q,q<kb→B i q*(if qs.contains q then c (qs.idxOf q) else 0)=if qs.contains q then B i q*c (qs.idxOf q) else 0:=fun q _=>by split<;>grind
  rw [z0G e1,y5E hB.inc hB.lt (fun q=>B i q*c (qs.idxOf q))]
  have e2:∀b,b<qs.length→B i (qs.getD b 0)*c (qs.idxOf (qs.getD b 0))=z1I ps.length fun a=>A i (ps.getD a 0)*((z1I ka fun l=>RA a l*M l (qs.getD b 0))*c b):=fun b hb=>by
   rw [z6J hB.inc hb,hM i hi _ (hB.lt b hb)]
   have e3:∀l,l<ka→A i l*M l (qs.getD b 0)=z1I ps.length fun a=>A i (ps.getD a 0)*(RA a l*M l (qs.getD b 0)):=fun l hl=>by
    rw [←hA.explains hKA hi hl,Rat.mul_comm,←z3T]
    exact z0G fun a _=>by grind
   rw [z0G e3,z9U,Rat.mul_comm,←z3T]
   refine z0G fun a _=>?_
   rw [z3T];grind
  rw [z0G e2,z9U]
  refine z3y fun a ha=>?_
  rw [z3T,hc a ha,Rat.mul_zero]
 have h3:=(hKB _).1 hv b0 (by have:=hB.len;omega)
 rw [z1S (k:=qs.getD b0 0) (hB.lt b0 hb0) (fun q _ hq=>?_),hB.one b0 hb0,if_pos (by simpa using z4q hb0),z6J hB.inc hb0] at h3
 ·exact hne (by grind)
 ·split
  ·rename_i hm
   obtain ⟨b,hb,rfl⟩:=z44 (show q∈qs by simpa using hm)
   have e:b≠b0:=fun e=>hq (by rw [e])
   rw [hB.col b hb b0 (by have:=hB.len;omega) (Ne.symm e)];grind
  ·grind
theorem y6I {n ka kb:Nat} {A B C RA RC:Mt} {ps rs:List Nat} (hA:IsR n ka RA ps) (hKA:z12 n ka A RA) (hC:IsR n (ka+kb) RC rs) (hKC:z12 n (ka+kb) C RC) (M:Mt) (hM:∀i,i<n→∀j,j<kb→B i j=z1I ka fun l=>A i l*M l j)
  (h1:∀i,i<n→∀j,j<ka→C i j=A i j) (h2:∀i,i<n→∀j,j<kb→C i (ka+j)=B i j):rs=ps:=by
 have split_:∀(m:Nat) (f:Nat→Rat),z1I (ka+m) f=z1I ka f+z1I m fun j=>f (ka+j):=fun m f=>by
  induction m with
  | zero=>exact (Rat.add_zero _).symm
  | succ m ih=>rw [←Nat.add_assoc,z1I,ih,z1I];grind
 refine y2m (y4A hC.inc) (y4A hA.inc) fun x=>?_
 rw [hC.mem,hA.mem]
 have ext:∀{c:Nat→Rat},(∀j,j<kb→c (ka+j)=0)→(Ker n (ka+kb) C c↔Ker n ka A c):=fun {c} h0=>by
  have e:∀i,i<n→z1I (ka+kb) (fun j=>C i j*c j)=z1I ka fun j=>A i j*c j:=fun i hi=>by
   rw [split_,z3y (n:=kb) fun j hj=>by rw [h0 j hj];grind,Rat.add_zero]
   exact z0G fun j hj=>by rw [h1 i hi j hj]
  unfold Ker
  constructor
  ·intro g i hi;rw [←e i hi];exact g i hi
  ·intro g i hi;rw [e i hi];exact g i hi
 have hd:∀j,j<ka→(Dep n (ka+kb) RC j↔Dep n ka RA j):=fun j hj=>by
  rw [←Dep.congr hKC,←Dep.congr hKA]
  constructor
  ·rintro ⟨c,g1,g2,g3⟩
   exact ⟨c,(ext fun j' _=>g3 _ (by omega)).1 g1,g2,g3⟩
  ·rintro ⟨c,g1,g2,g3⟩
   exact ⟨c,(ext fun j' _=>g3 _ (by omega)).2 g1,g2,g3⟩
 constructor
 ·rintro ⟨g1,g2⟩
  rcases Nat.lt_or_ge x ka with g|g
  ·exact ⟨g,fun hdep=>g2 ((hd x g).2 hdep)⟩
  ·exfalso
   refine g2 ((Dep.congr hKC x).1 ?_)
   obtain ⟨j,rfl⟩:∃j,x=ka+j:=⟨x - ka,by omega⟩
   have hj:j<kb:=by omega
   refine ⟨fun l=>if l<ka then M l j else if l=ka+j then -1 else 0,fun i hi=>?_,by dsimp only;rw [if_neg (by omega),if_pos rfl],fun l hl=>by dsimp only;rw [if_neg (by omega),if_neg (by omega)]⟩
   rw [split_]
   have e1:z1I ka (fun l=>C i l*(if l<ka then M l j else if l=ka+j then -1 else 0))=B i j:=by
    rw [hM i hi j hj]
    exact z0G fun l hl=>by rw [if_pos hl,h1 i hi l hl]
   have e2:z1I kb (fun l=>C i (ka+l)*(if ka+l<ka then M (ka+l) j else if ka+l=ka+j then -1 else 0)) = -(B i j):=by
    rw [z1S (k:=j) hj (fun l _ hne=>by rw [if_neg (by omega),if_neg (by omega)];grind),if_neg (by omega),if_pos rfl,h2 i hi j hj];grind
   rw [e1,e2];grind
 ·rintro ⟨g1,g2⟩
  exact ⟨by omega,fun hdep=>g2 ((hd x g1).1 hdep)⟩
structure IsBp (n j i:Nat) (M:Mt) (ps:List Nat):Prop where
 inc:∀a b,a<b→b<ps.length→ps.getD a 0<ps.getD b 0
 lt:∀a,a<ps.length→ps.getD a 0<j
 len:ps.length≤n
 le:i≤ps.length
 nz:∀a,a<ps.length→M a (ps.getD a 0)≠0
 one:∀a,a<i→M a (ps.getD a 0)=1
 col:∀a,a<i→∀r,r<n→r≠a→M r (ps.getD a 0)=0
 low:∀a,a<ps.length→∀r,a<r→r<n→M r (ps.getD a 0)=0
 left:∀a,a<ps.length→∀c,c<ps.getD a 0→M a c=0
 down:∀r,ps.length≤r→r<n→∀c,c<j→M r c=0
noncomputable def rrM (n k:Nat) (M:Mt):Mt:=(z3D n k M).choose
noncomputable def rrP (n k:Nat) (M:Mt):List Nat:=(z3D n k M).choose_spec.choose
theorem y5r (n k:Nat) (M:Mt):IsR n k (rrM n k M) (rrP n k M)∧z12 n k M (rrM n k M):=(z3D n k M).choose_spec.choose_spec
theorem w6q {n k:Nat} {M R:Mt} {ps:List Nat} (h:IsR n k R ps) (hk:z12 n k M R):ps=rrP n k M∧∀i,i<n→∀j,j<k→R i j=rrM n k M i j :=
 h.unique (y5r n k M).1 (hk.symm.trans (y5r n k M).2)
end Nat32
namespace Nat32
open Go Go.Dat
def z0K (r:List (List UInt8)):List DV:=r.map DV.str
abbrev Bs:=List UInt8
def x0K (c:UInt8):Bool:=(decide (97≤c.toNat) && decide (c.toNat≤122)) || (decide (65≤c.toNat) && decide (c.toNat≤90))
def y4B (c:UInt8):Bool:=x0K c || (decide (48≤c.toNat) && decide (c.toNat≤57)) || decide (c.toNat=95) || decide (c.toNat=46)
def power:Bs:=[112,111,119,101,114]
def z2E (s:Bs):Bool:=decide (1≤s.length) && (decide (s.length≤32) && (x0K (s.getD 0 0) && (decide (¬s=power) && s.all y4B)))
def ixS:List Bs→Bs→Int
 | [],_=>-1
 | x::l,s=>if x=s then 0 else if ixS l s<0 then -1 else ixS l s+1
theorem y1k (s:Bs):∀l:List Bs,-1≤ixS l s∧ixS l s<l.length
 | []=>by simp [ixS]
 | x::l=>by
  have:=y1k s l
  simp only [ixS,List.length_cons]
  split
  ·omega
  ·split<;>omega
theorem y86 {s:Bs}:∀{l:List Bs},s∉l→ixS l s = -1
 | [],_=>rfl
 | x::l,h=>by
  simp only [List.mem_cons,not_or] at h
  have:=y86 h.2
  simp only [ixS]
  rw [if_neg (Ne.symm h.1),this];rfl
theorem y85 {s:Bs}:∀{l:List Bs} {i:Nat},i<l.length→l.getD i []=s→(∀j,j<i→l.getD j []≠s)→ixS l s=i
 | [],i,h,_,_=>absurd h (Nat.not_lt_zero _)
 | x::l,0,_,h1,_=>by
  have:x=s:=h1
  simp only [ixS];rw [if_pos this];rfl
 | x::l,i+1,h,h1,h2=>by
  have h3:=y85 (l:=l) (i:=i) (by simp at h;omega) h1 fun j hj=>h2 (j+1) (by omega)
  have h4:x≠s:=h2 0 (by omega)
  simp only [ixS]
  rw [if_neg h4,h3,if_neg (by omega)];omega
theorem x4d {s:Bs} {l:List Bs} (h:∀j,j<l.length→l.getD j []≠s):ixS l s = -1:=by
 refine y86 fun hm=>?_
 obtain ⟨j,hj⟩:=List.mem_iff_getElem?.1 hm
 have hlt:=(List.getElem?_eq_some_iff.1 hj).1
 exact h j hlt (by rw [zO1,hj];rfl)
def z50 (l:List Bs):Bool:=(List.range l.length).all fun i=>z2E (l.getD i []) && decide (ixS (l.take i) (l.getD i [])<0)
theorem z9w {l:List Bs} (h:∀i,i<l.length→(z2E (l.getD i []) && decide (ixS (l.take i) (l.getD i [])<0))=true):z50 l=true :=
 List.all_eq_true.2 fun i hi=>h i (List.mem_range.1 hi)
theorem z7G {l:List Bs} {i:Nat} (hi:i<l.length) (h:(z2E (l.getD i []) && decide (ixS (l.take i) (l.getD i [])<0))=false):z50 l=false:=by
 cases hn:z50 l with
 | false=>rfl
 | true=>rw [List.all_eq_true.1 hn i (List.mem_range.2 hi)] at h;cases h
theorem y3w {p:UInt8→Bool} {s:Bs} {i:Nat} (hi:i<s.length) (h:p (s.getD i 0)=false):s.all p=false:=by
 cases hn:s.all p with
 | false=>rfl
 | true =>
  rw [zO1,zO4 hi,Option.getD_some] at h
  rw [show p s[i]=true from List.all_eq_true.1 hn _ (List.getElem_mem hi)] at h
  cases h
theorem x8q {p:UInt8→Bool} {s:Bs} (h:∀i,i<s.length→p (s.getD i 0)=true):s.all p=true:=by
 refine List.all_eq_true.2 fun x hx=>?_
 obtain ⟨i,hi⟩:=List.mem_iff_getElem?.1 hx
 have hlt:=(List.getElem?_eq_some_iff.1 hi).1
 have:=h i hlt
 rwa [zO1,hi] at this
theorem z1O {l:List Bs} {i:Nat} (h:i<l.length):l.getD i []∈l:=by
 rw [zO1,zO4 h];exact List.getElem_mem h
section
variable {α:Type} {f:α→List DV} {n:Nat}
theorem z31 (hf:∀a,(f a).length=n):∀l:List α,(l.flatMap f).length=l.length*n
 | []=>by simp
 | a::l=>by rw [List.flatMap_cons,List.length_append,hf,z31 hf l,List.length_cons,Nat.succ_mul,Nat.add_comm]
theorem y16 (hf:∀a,(f a).length=n):∀(l:List α) (i:Nat),(l.flatMap f).drop (i*n)=(l.drop i).flatMap f
 | l,0=>by simp
 | [],i+1=>by simp
 | a::l,i+1=>by
  have e:(f a++l.flatMap f).drop n=l.flatMap f:=by rw [←hf a,List.drop_left]
  rw [List.flatMap_cons,List.drop_succ_cons,←y16 hf l i,Nat.succ_mul,Nat.add_comm,←List.drop_drop,e]
theorem y6d (hf:∀a,(f a).length=n):∀(l:List α) (i:Nat),(l.flatMap f).take (i*n)=(l.take i).flatMap f
 | l,0=>by simp
 | [],i+1=>by simp
 | a::l,i+1=>by
  rw [List.flatMap_cons,List.take_succ_cons,List.flatMap_cons,←y6d hf l i,Nat.succ_mul,List.take_append,hf]
  rw [List.take_of_length_le (by rw [hf];omega),Nat.add_sub_cancel]
theorem z1x (hf:∀a,(f a).length=n) (d:α) {l:List α} {i j k:Nat} (h:i<l.length) (hk:j+k≤n):((l.flatMap f).drop (i*n+j)).take k=((f (l.getD i d)).drop j).take k:=by
 rw [←List.drop_drop,y16 hf,List.drop_eq_getElem_cons h,List.flatMap_cons,List.drop_append,List.take_append]
 have e:l.getD i d=l[i]:=by rw [zO1,zO4 h];rfl
 rw [e,List.length_drop,hf,show k - (n - j)=0 by omega,List.take_zero,List.append_nil]
theorem y6c (hf:∀a,(f a).length=n) (d:α) {l:List α} {i j:Nat} (h:i<l.length) (hj:j<n) (x:DV):(l.flatMap f).getD (i*n+j) x=(f (l.getD i d)).getD j x:=by
 have h1:=z1x hf d (l:=l) (i:=i) (j:=j) (k:=1) h (by omega)
 have e1:i*n+j<(l.flatMap f).length:=by
  rw [z31 hf]
  have:(i+1)*n≤l.length*n:=Nat.mul_le_mul_right n h
  rw [Nat.succ_mul] at this;omega
 have e2:j<(f (l.getD i d)).length:=by rw [hf];exact hj
 rw [List.drop_eq_getElem_cons e1,List.drop_eq_getElem_cons e2] at h1
 simp only [List.take_succ_cons,List.take_zero,List.cons.injEq,and_true] at h1
 rw [zO1,zO4 e1,zO1,zO4 e2,Option.getD_some,Option.getD_some,h1]
theorem x0d (hf:∀a,∀d∈f a,d.rf=true) (l:List α):∀d∈l.flatMap f,d.rf=true:=by
 intro d hd
 obtain ⟨a,_,h⟩:=List.mem_flatMap.1 hd
 exact hf a d h
theorem x8C (hf:∀a,∀d∈f a,d.one=true) (l:List α):∀d∈l.flatMap f,d.one=true:=by
 intro d hd
 obtain ⟨a,_,h⟩:=List.mem_flatMap.1 hd
 exact hf a d h
theorem y17 (l:List α) (a:α):l.flatMap f++f a=(l++[a]).flatMap f:=by simp
end
abbrev XN:=Bool × List Nat × List Nat
def xnC (x:XN):List DV:=[.bool x.1,.sl 1 (us x.2.1),.sl 1 (us x.2.2)]
def qX (r:Rat):XN:=(decide (r.num<0),limbs r.num.natAbs,dn r.den)
structure Fx where
 nm:Bs
 kd:Int
 ms:List Bs
 un:XN
deriving Inhabited
structure Tc where
 mi:Bool
 va:XN
 lv:Int
deriving Inhabited
def cxC (c:Tc):List DV:=[.bool c.mi,.bool c.va.1,.sl 1 (us c.va.2.1),.sl 1 (us c.va.2.2),.int .i64 c.lv]
theorem z1T (f:Tc):(cxC f).length=5:=rfl
def cxs (l:List Tc):List DV:=l.flatMap cxC
theorem z2x (l:List Tc):(cxs l).length=l.length*5:=z31 z1T l
theorem z8M (f:Tc):∀d∈cxC f,d.rf=true:=by
 intro d hd
 simp only [cxC,List.mem_cons,List.not_mem_nil,or_false] at hd
 rcases hd with rfl|rfl|rfl|rfl|rfl<;>rfl
theorem y10 (f:Tc):∀d∈cxC f,d.one=true:=by
 intro d hd
 simp only [cxC,List.mem_cons,List.not_mem_nil,or_false] at hd
 rcases hd with rfl|rfl|rfl|rfl|rfl<;>rfl
theorem y0P (l:List Tc):∀d∈cxs l,d.rf=true:=x0d z8M l
structure Kx where
 nm:Bs
 kd:Int
 le:List Bs
 ce:List Tc
deriving Inhabited
def kxC (k:Kx):List DV:=[.str k.nm,.int .i64 k.kd,.sl 1 (z0K k.le),.sl 5 (cxs k.ce)]
theorem z04 (f:Kx):(kxC f).length=4:=rfl
def kxs (l:List Kx):List DV:=l.flatMap kxC
theorem z16 (l:List Kx):(kxs l).length=l.length*4:=z31 z04 l
end Nat32
namespace Nat32
open Go Go.Dat
variable (pq:Bs→Option Rat)
theorem w6Y:qX 0=(false,[],[]):=by simp [qX,z0r,dn]
end Nat32
namespace Nat32
open Go Go.Dat
section
variable {α:Type} (p:α→Bool)
def ixP:List α→Int
 | []=>-1
 | x::l=>if p x then 0 else if ixP l<0 then -1 else ixP l+1
theorem y84:∀l:List α,-1≤ixP p l∧ixP p l<l.length
 | []=>by simp [ixP]
 | x::l=>by
  have:=y84 l
  simp only [ixP,List.length_cons]
  split
  ·omega
  ·split<;>omega
theorem y2v:∀l:List α,decide (0≤ixP p l)=l.any p
 | []=>rfl
 | x::l=>by
  have h1:=y2v l
  have h2:=y84 p l
  rw [List.any_cons,←h1]
  have e:ixP p (x::l)=if p x=true then 0 else if ixP p l<0 then -1 else ixP p l+1:=rfl
  by_cases hp:p x=true
  ·rw [if_pos hp] at e
   rw [hp,e];rfl
  ·rw [if_neg hp] at e
   rw [Bool.eq_false_iff.2 hp,Bool.false_or]
   refine decide_eq_decide.2 ?_
   rw [e]
   split<;>omega
variable {p} (d:α)
theorem y4I:∀{l:List α} {i:Nat},i<l.length→p (l.getD i d)=true→(∀j,j<i→p (l.getD j d)=false)→ixP p l=i
 | [],i,h,_,_=>absurd h (Nat.not_lt_zero _)
 | x::l,0,_,h1,_=>by
  have:p x=true:=h1
  simp only [ixP];rw [if_pos this];rfl
 | x::l,i+1,h,h1,h2=>by
  have h3:=y4I (l:=l) (i:=i) (by simp at h;omega) h1 fun j hj=>h2 (j+1) (by omega)
  have h4:p x=false:=h2 0 (by omega)
  simp only [ixP]
  rw [h4,if_neg (by decide),h3,if_neg (by omega)];omega
theorem y4J:∀{l:List α},(∀j,j<l.length→p (l.getD j d)=false)→ixP p l = -1
 | [],_=>rfl
 | x::l,h=>by
  have h3:=y4J (l:=l) fun j hj=>h (j+1) (by simp;omega)
  have h4:p x=false:=h 0 (by simp)
  simp only [ixP]
  rw [h4,if_neg (by decide),h3];rfl
end
theorem z7E {α:Type} [Inhabited α] {l:List α} {i:Nat} (h:i<l.length):l.getD i default∈l:=by
 rw [zO1,zO4 h];exact List.getElem_mem h
def y9m (x:XN):Prop:=lim x.2.1∧lim x.2.2∧x.2.1.length≤300∧x.2.2.length≤300
def xnV (x:XN):Rat:=rv x.1 x.2.1 x.2.2
end Nat32
namespace Nat32
open Go Go.Dat
variable (pq:Bs→Option Rat)
noncomputable def w4U (f:Fx) (lv:List Bs) (ce:List Tc) (s:Bs):Int × List Bs × List Tc :=
 if 0≤ixS f.ms s then (0,lv,ce++[⟨true,(false,[],[]),0⟩])
 else if f.kd=1 then match pq s with
  | none=>(4,lv,ce)
  | some x=>(0,lv,ce++[⟨false,qX (x*xnV f.un),0⟩])
 else if ixS lv s<0 then
  if lv.length=32 then (2,lv,ce) else (0,lv++[s],ce++[⟨false,(false,[],[]),lv.length⟩])
 else (0,lv,ce++[⟨false,(false,[],[]),ixS lv s⟩])
end Nat32
namespace Nat32
open Go Go.Dat
variable (pq:Bs→Option Rat)
abbrev Tx:=List Bs × List Tc
noncomputable def x2d (f:Fx) (s:Bs) (x:Tx):Int × Tx:=if f.kd=3 then (0,x) else ((w4U pq f x.1 x.2 s).1,(w4U pq f x.1 x.2 s).2)
noncomputable def x9h (fs:List Fx) (r:List Bs) (T:List Tx):Nat→Int × List Tx
 | 0=>(0,T)
 | k+1=>if (x9h fs r T k).1≠0 then x9h fs r T k else
  ((x2d pq (fs.getD k default) (r.getD k []) ((x9h fs r T k).2.getD k default)).1,(x9h fs r T k).2.set k (x2d pq (fs.getD k default) (r.getD k []) ((x9h fs r T k).2.getD k default)).2)
noncomputable def w06 (fs:List Fx) (recs:List (List Bs)):Nat→(Int × Int) × List Tx
 | 0=>((0,0),fs.map fun _=>([],[]))
 | i+1=>if (w06 fs recs i).1.2≠0 then w06 fs recs i else
  if (recs.getD i []).length≠fs.length then (((i+1:Nat),6),(w06 fs recs i).2) else
  if (x9h pq fs (recs.getD i []) (w06 fs recs i).2 fs.length).1≠0 then (((i+1:Nat),(x9h pq fs (recs.getD i []) (w06 fs recs i).2 fs.length).1),(w06 fs recs i).2) else
  ((0,0),(x9h pq fs (recs.getD i []) (w06 fs recs i).2 fs.length).2)
end Nat32
namespace Nat32
open Go Go.Dat
theorem z27 (f:Kx):∀d∈kxC f,d.rf=true:=by
 intro d hd
 simp only [kxC,List.mem_cons,List.not_mem_nil,or_false] at hd
 rcases hd with rfl|rfl|rfl|rfl<;>rfl
theorem y2w (f:Kx):∀d∈kxC f,d.one=true:=by
 intro d hd
 simp only [kxC,List.mem_cons,List.not_mem_nil,or_false] at hd
 rcases hd with rfl|rfl|rfl|rfl<;>rfl
theorem x84 (l:List Kx):∀d∈kxs l,d.rf=true:=x0d z27 l
theorem z0z {α:Type} (d:α) {l:List α} {i:Nat} (h:i<l.length):l.take (i+1)=l.take i++[l.getD i d]:=by
 rw [List.take_add_one,zO4 h,zO1,zO4 h];rfl
theorem z2G {α:Type} (d:α) {l:List α} {i:Nat} (h:i<l.length):l.drop i=l.getD i d::l.drop (i+1):=by
 rw [List.drop_eq_getElem_cons h,zO1,zO4 h];rfl
theorem w3e {α:Type} {f:α→List DV} {n:Nat} (hf:∀a,(f a).length=n) {l:List α} {i:Nat} (x:α) (h:i<l.length):(l.flatMap f).take (i*n)++f x++(l.flatMap f).drop (i*n+n)=(l.set i x).flatMap f:=by
 have e:i*n+n=(i+1)*n:=by rw [Nat.succ_mul]
 rw [y6d hf,e,y16 hf,List.set_eq_take_append_cons_drop,if_pos h,List.flatMap_append,List.flatMap_cons,List.append_assoc]
def x8A {α:Type} (p:α→Bool) (S:List α) (i j:Nat) (A:List α):Prop:=A.length=S.length∧i<j∧j≤S.length∧A.take i=(S.take j).filter (fun x=>!p x)∧A.drop j=S.drop j
section
variable {α:Type} {p:α→Bool} {S A:List α} {i j:Nat} (d:α)
theorem x6t (h:x8A p S i j A) (hj:j<S.length):A.getD j d=S.getD j d:=by
 have h5:=h.2.2.2.2
 rw [z2G d (by rw [h.1];exact hj),z2G d hj] at h5
 exact (List.cons.inj h5).1
theorem x2w (h:x8A p S i j A) (hj:j<S.length) (hp:p (S.getD j d)=false):x8A p S (i+1) (j+1) (A.set i (S.getD j d)):=by
 obtain ⟨h1,h2,h3,h4,h5⟩:=h
 refine ⟨by rw [List.length_set,h1],by omega,by omega,?_,?_⟩
 ·rw [z0z d (by rw [List.length_set];omega),List.take_set_of_le (Nat.le_refl i),h4,z0z d hj,List.filter_append]
  have:(A.set i (S.getD j d)).getD i d=S.getD j d:=by
   rw [zO1,List.getElem?_set_self (by omega)];rfl
  rw [this,List.filter_cons,hp];rfl
 ·rw [List.drop_set_of_lt (by omega)]
  rw [z2G d (by rw [h1];exact hj),z2G d hj] at h5
  exact (List.cons.inj h5).2
theorem x2x (h:x8A p S i j A) (hj:j<S.length) (hp:p (S.getD j d)=true):x8A p S i (j+1) A:=by
 obtain ⟨h1,h2,h3,h4,h5⟩:=h
 refine ⟨h1,by omega,by omega,?_,?_⟩
 ·rw [h4,z0z d hj,List.filter_append,List.filter_cons,hp];simp
 ·rw [z2G d (by rw [h1];exact hj),z2G d hj] at h5
  exact (List.cons.inj h5).2
theorem x6s (h:x8A p S i S.length A):A.take i=S.filter (fun x=>!p x):=by
 rw [h.2.2.2.1,List.take_length]
end
section
variable {α:Type} (p:α→Bool)
theorem x4b:∀{l:List α},ixP p l = -1→l.filter (fun x=>!p x)=l
 | [],_=>rfl
 | x::l,h=>by
  have hb:=y84 p l
  simp only [ixP] at h
  split at h
  ·omega
  ·rename_i hp
   split at h
   ·have:=x4b (l:=l) (by omega)
    rw [List.filter_cons,if_pos (by simpa using hp),this]
   ·omega
theorem x4c (d:α):∀{l:List α} {k:Nat},ixP p l=k→k<l.length∧p (l.getD k d)=true∧(l.take k).filter (fun x=>!p x)=l.take k
 | [],k,h=>by simp [ixP] at h
 | x::l,k,h=>by
  simp only [ixP] at h
  split at h
  ·rename_i hp
   obtain rfl:k=0:=by omega
   exact ⟨by simp,hp,rfl⟩
  ·rename_i hp
   split at h
   ·omega
   ·match k with
    | 0=>omega
    | k+1 =>
     obtain ⟨h1,h2,h3⟩:=x4c d (l:=l) (k:=k) (by omega)
     refine ⟨by simp;omega,h2,?_⟩
     rw [List.take_succ_cons,List.filter_cons,if_pos (by simpa using hp),h3]
theorem x2y (d:α) {l:List α} {k:Nat} (h:ixP p l=k):x8A p l k (k+1) l:=by
 obtain ⟨h1,h2,h3⟩:=x4c p d h
 refine ⟨rfl,by omega,by omega,?_,rfl⟩
 rw [z0z d h1,List.filter_append,h3,List.filter_cons,h2];simp
end
end Nat32
namespace Nat32
open Go Go.Dat
def z0T (r:Rat):List DV:=xnC (qX r)
theorem z1o (r:Rat):(z0T r).length=3:=rfl
theorem z1w (r:Rat):∀d∈z0T r,d.rf=true:=by
 intro d hd
 simp only [z0T,xnC,List.mem_cons,List.not_mem_nil,or_false] at hd
 rcases hd with rfl|rfl|rfl<;>rfl
theorem z3L (r:Rat):∀d∈z0T r,d.one=true:=by
 intro d hd
 simp only [z0T,xnC,List.mem_cons,List.not_mem_nil,or_false] at hd
 rcases hd with rfl|rfl|rfl<;>rfl
def nums (l:List Rat):List DV:=l.flatMap z0T
theorem z1H (l:List Rat):(nums l).length=l.length*3:=z31 z1o l
theorem z1p (l:List Rat):∀d∈nums l,d.rf=true:=x0d z1w l
theorem y9l (l:List Rat):∀d∈nums l,d.one=true:=x8C z3L l
theorem z4o (l:List Rat) (r:Rat):nums l++z0T r=nums (l++[r]):=y17 l r
def rwL (k:Nat) (f:Nat→Rat):List Rat:=(List.range k).map f
theorem y7e (k:Nat) (f:Nat→Rat):(rwL k f).length=k:=by unfold rwL;rw [List.length_map,List.length_range]
theorem w1H {k j:Nat} (h:j<k) (f:Nat→Rat) (d:Rat):(rwL k f).getD j d=f j:=by
 unfold rwL;rw [zO1,List.getElem?_map,List.getElem?_range h];rfl
theorem x5c {k:Nat} {f g:Nat→Rat} (h:∀j,j<k→f j=g j):rwL k f=rwL k g :=
 List.map_congr_left fun j hj=>h j (List.mem_range.1 hj)
theorem y9I (k:Nat) (f:Nat→Rat):rwL (k+1) f=rwL k f++[f k]:=by
 unfold rwL;rw [List.range_succ,List.map_append];rfl
def rwC (k:Nat) (f:Nat→Rat):List DV:=nums (rwL k f)
theorem z2j (k:Nat) (f:Nat→Rat):(rwC k f).length=k*3:=by unfold rwC;rw [z1H,y7e]
theorem z9Q (k:Nat) (f:Nat→Rat):∀d∈rwC k f,d.rf=true:=z1p _
theorem x5b {k:Nat} {f g:Nat→Rat} (h:∀j,j<k→f j=g j):rwC k f=rwC k g:=congrArg nums (x5c h)
theorem z6R {k j:Nat} (h:j<k) (f:Nat→Rat):((rwC k f).drop (j*3)).take 3=z0T (f j):=by
 have:=z1x (j:=0) (k:=3) z1o (0:Rat) (l:=rwL k f) (i:=j) (by rw [y7e];exact h) (Nat.le_refl _)
 rw [w1H h] at this
 exact this
def mtD (n k:Nat) (M:Mt):List DV:=(List.range n).map fun i=>.sl 3 (rwC k (M i))
theorem z9u (n k:Nat) (M:Mt):(mtD n k M).length=n:=by unfold mtD;rw [List.length_map,List.length_range]
theorem y1m (n k:Nat) (M:Mt):∀d∈mtD n k M,d.rf=true:=by
 intro d hd
 unfold mtD at hd
 obtain ⟨i,_,rfl⟩:=List.mem_map.1 hd
 have:=z9Q k (M i)
 simp [DV.rf,List.all_eq_true.2 this]
theorem y4S {n k:Nat} {M M':Mt} (h:∀i,i<n→∀j,j<k→M i j=M' i j):mtD n k M=mtD n k M':=by
 unfold mtD;exact List.map_congr_left fun i hi=>by rw [x5b (h i (List.mem_range.1 hi))]
theorem z9t {n k i:Nat} (h:i<n) (M:Mt) (d:DV):(mtD n k M).getD i d=.sl 3 (rwC k (M i)):=by
 unfold mtD;rw [zO1,List.getElem?_map,List.getElem?_range h];rfl
def y2X (rs:List (List DV)):List DV:=rs.map (.sl 3)
theorem z9M (rs:List (List DV)):(y2X rs).length=rs.length:=List.length_map _
theorem z57 {rs:List (List DV)} {i:Nat} (h:i<rs.length) (d:DV):(y2X rs).getD i d=.sl 3 (rs.getD i []):=by
 unfold y2X;rw [zO1,zO1,List.getElem?_map,zO4 h];rfl
def x6z (rs:List (List DV)):Bool:=decide (rs.length≤96) && rs.all fun r=>decide (1≤r.length / 3) && decide (r.length / 3≤96) && decide (r.length / 3=(rs.getD 0 []).length / 3)
theorem x94 {rs:List (List DV)} {i:Nat} (hi:i<rs.length) (h:¬(1≤(rs.getD i []).length / 3∧(rs.getD i []).length / 3≤96∧(rs.getD i []).length / 3=(rs.getD 0 []).length / 3)):x6z rs=false:=by
 cases e:x6z rs with
 | false=>rfl
 | true =>
  exfalso;apply h
  unfold x6z at e
  simp only [Bool.and_eq_true,List.all_eq_true,decide_eq_true_eq] at e
  have hm:rs.getD i []∈rs:=by rw [zO1,zO4 hi];exact List.getElem_mem hi
  have:=e.2 _ hm
  exact ⟨this.1.1,this.1.2,this.2⟩
theorem y8G {rs:List (List DV)} (hl:rs.length≤96) (h:∀i,i<rs.length→1≤(rs.getD i []).length / 3∧(rs.getD i []).length / 3≤96∧(rs.getD i []).length / 3=(rs.getD 0 []).length / 3):x6z rs=true:=by
 unfold x6z
 simp only [Bool.and_eq_true,List.all_eq_true,decide_eq_true_eq]
 refine ⟨hl,fun r hr=>?_⟩
 obtain ⟨i,hi,rfl⟩:=List.getElem_of_mem hr
 have:=h i hi
 rw [show rs.getD i []=rs[i] by rw [zO1,zO4 hi];rfl] at this
 exact ⟨⟨this.1,this.2.1⟩,this.2.2⟩
theorem y9i (n k:Nat) (M:Mt):mtD n k M=y2X ((List.range n).map fun i=>rwC k (M i)):=by unfold mtD y2X;rw [List.map_map];rfl
end Nat32
namespace Go.Dat
open Go
end Go.Dat
namespace Nat32
def BS (r:Rat) (m:Nat):Prop:=r.num.natAbs<2 ^ m∧r.den<2 ^ m
theorem BS.mono {r:Rat} {m n:Nat} (h:BS r m) (hm:m≤n):BS r n :=
 ⟨Nat.lt_of_lt_of_le h.1 (Nat.pow_le_pow_right (by decide) hm),Nat.lt_of_lt_of_le h.2 (Nat.pow_le_pow_right (by decide) hm)⟩
theorem x5T {z:Int} {d m:Nat} (h:d≠0) (h1:z.natAbs<2 ^ m) (h2:d<2 ^ m):BS (mkRat z d) m:=by
 have hg:0<Nat.gcd z.natAbs d:=Nat.gcd_pos_of_pos_right _ (Nat.pos_of_ne_zero h)
 have hd:((Nat.gcd z.natAbs d:Nat):Int)∣z:=Int.ofNat_dvd_left.2 (Nat.gcd_dvd_left z.natAbs d)
 unfold BS
 rw [Rat.num_mkRat,Rat.den_mkRat,if_neg h,if_neg h,Nat.gcd_comm d,(y8p hd hg).1]
 exact ⟨Nat.lt_of_le_of_lt (Nat.div_le_self _ _) h1,Nat.lt_of_le_of_lt (Nat.div_le_self _ _) h2⟩
theorem x9F {a b m n:Nat} (h1:a<2 ^ m) (h2:b<2 ^ n):a*b<2 ^ (m+n):=by
 rw [Nat.pow_add]
 exact Nat.lt_of_le_of_lt (Nat.mul_le_mul_left a (Nat.le_of_lt h2)) ((Nat.mul_lt_mul_right (Nat.two_pow_pos n)).2 h1)
theorem w2z {x y:Rat} {m n:Nat} (h1:BS x m) (h2:BS y n):BS (x+y) (m+n+1):=by
 rw [Rat.add_def']
 have e1:=x9F h1.1 h2.2
 have e2:=x9F h1.2 h2.1
 have e3:=x9F h1.2 h2.2
 have hp:2 ^ (m+n+1)=2 ^ (m+n)+2 ^ (m+n):=by rw [Nat.pow_succ];omega
 refine x5T (Nat.mul_ne_zero x.den_nz y.den_nz) ?_ (by rw [hp];omega)
 have a1:(x.num*(y.den:Int)).natAbs=x.num.natAbs*y.den:=by rw [Int.natAbs_mul,Int.natAbs_natCast]
 have a2:(y.num*(x.den:Int)).natAbs=x.den*y.num.natAbs:=by rw [Int.natAbs_mul,Int.natAbs_natCast,Nat.mul_comm]
 rw [hp]
 omega
theorem z5p {x y:Rat} {m n:Nat} (h1:BS x m) (h2:BS y n):BS (x*y) (m+n):=by
 rw [Rat.mul_def']
 exact x5T (Nat.mul_ne_zero x.den_nz y.den_nz) (by rw [Int.natAbs_mul];exact x9F h1.1 h2.1) (x9F h1.2 h2.2)
theorem y7B {x:Rat} {m:Nat} (h:BS x m):BS (-x) m:=by unfold BS;rw [Rat.neg_num,Rat.neg_den,Int.natAbs_neg];exact h
theorem y3o {z e:Int} {m:Nat} (he:e≠0) (h1:z.natAbs<2 ^ m) (h2:e.natAbs<2 ^ m):BS (Rat.divInt z e) m:=by
 rcases Int.lt_or_gt_of_ne he with h|h
 ·rw [y0S z h];exact x5T (by omega) (by rwa [Int.natAbs_neg]) h2
 ·rw [z6t z h];exact x5T (by omega) h1 h2
theorem x1K {x y:Rat} {m n:Nat} (hy:y≠0) (h1:BS x m) (h2:BS y n):BS (x / y) (m+n):=by
 rw [←x4G]
 refine y3o (Int.mul_ne_zero (by have:=x.den_nz;omega) (fun e=>hy (Rat.num_eq_zero.1 e))) ?_ ?_
 ·rw [Int.natAbs_mul,Int.natAbs_natCast];exact x9F h1.1 h2.2
 ·rw [Int.natAbs_mul,Int.natAbs_natCast];exact x9F h1.2 h2.1
theorem x8l:BS 1 1:=⟨by decide,by decide⟩
theorem w61:BS 0 1:=⟨by decide,by decide⟩
theorem y91 {r:Rat} {m l:Nat} (h:BS r m) (hm:m≤32*l):RB r l:=by
 have e:(4294967296:Nat) ^ l=2 ^ (32*l):=by rw [Nat.pow_mul]
 have hp:2 ^ m≤2 ^ (32*l):=Nat.pow_le_pow_right (by decide) hm
 unfold RB
 rw [z0B,z0B,e]
 exact ⟨Nat.lt_of_lt_of_le h.1 hp,Nat.lt_of_lt_of_le h.2 hp⟩
def MS (n k:Nat) (M:Mt) (m:Nat):Prop:=∀i,i<n→∀j,j<k→BS (M i j) m
theorem MS.swap {n k a b m:Nat} {M:Mt} (h:MS n k M m) (ha:a<n) (hb:b<n):MS n k (z3U a b M) m:=fun i hi j hj=>by
 unfold z3U
 split
 ·exact h b hb j hj
 ·split
  ·exact h a ha j hj
  ·exact h i hi j hj
theorem MS.elimM {n k t j m:Nat} {M:Mt} (h:MS n k M m) (ht:t<n) (hj:j<k) (hne:M t j≠0):MS n k (elimM t j M) (4*m+2):=fun i hi c hc=>by
 have h1:BS (M t c*(1 / M t j)) (m+(1+m)):=z5p (h t ht c hc) (x1K hne x8l (h t ht j hj))
 unfold Nat32.elimM
 split
 ·exact h1.mono (by omega)
 ·exact (w2z (h i hi c hc) (z5p h1 (y7B (h i hi j hj)))).mono (by omega)
def gB (b:Nat):Nat→Nat
 | 0=>b
 | t+1=>4*gB b t+2
def eB (b:Nat):Nat→Nat
 | 0=>b
 | t+1=>4*eB b t+1
end Nat32
namespace Nat32
open Go Go.Dat
def w2p (x:XN):Bool:=z5n x.1 x.2.1 x.2.2 && decide ((xnV x).num.sign=0)
def y8t (k:Kx) (x:Tc):Bool :=
 if x.mi then w2p x.va && decide (x.lv=0) else if k.kd=1 then z5n x.va.1 x.va.2.1 x.va.2.2 && decide (x.lv=0) else w2p x.va && decide (0≤x.lv) && decide (x.lv<k.le.length)
def x1I (k:Kx) (n:Int):Bool:=(decide (k.kd=1) || decide (k.kd=2)) && !(decide (k.kd=1) && decide (0<k.le.length)) && decide (k.le.length≤32) && decide ((k.ce.length:Int)=n)
def x8w (l:List Bs):Bool:=(List.range l.length).all fun i=>decide (ixS (l.take i) (l.getD i [])<0)
def x1G (k:Kx) (n:Int):Bool:=x1I k n && x8w k.le && k.ce.all (y8t k)
def z1y (l:List Kx):List Bs:=l.map Kx.nm
theorem z1d (l:List Kx):(z1y l).length=l.length:=List.length_map _
def x1J (n:Int) (S:List Kx):Bool:=decide (0≤n) && decide (n≤1024) && decide (S.length≤32) && z50 (z1y S) && S.all fun k=>x1G k n
theorem x2m {l:List Bs} {i:Nat} (hi:i<l.length) (h:¬ixS (l.take i) (l.getD i [])<0):x8w l=false:=by
 unfold x8w
 rw [List.all_eq_false]
 exact ⟨i,List.mem_range.2 hi,by simpa using h⟩
theorem y8o {l:List Bs} (h:∀i,i<l.length→ixS (l.take i) (l.getD i [])<0):x8w l=true:=by
 unfold x8w
 rw [List.all_eq_true]
 exact fun i hi=>by simpa using h i (List.mem_range.1 hi)
theorem y1R {α:Type} (p:α→Bool):∀l:List α,(l.any fun x=>!p x)=!l.all p
 | []=>rfl
 | x::l=>by rw [List.any_cons,List.all_cons,y1R p l];cases p x<;>rfl
theorem w5q:w2p (false,[],[])=true:=by decide +kernel
def z1W (S:List Kx) (names:List Bs):List Kx:=names.map fun s=>S.getD (ixS (z1y S) s).toNat default
def y5R (r:Nat) (k:Kx):Bool:=(k.ce.getD r default).mi
def z00 (U:List Kx) (n:Nat):List Nat:=(List.range n).filter fun r=>!U.any (y5R r)
def ints (l:List Nat):List DV:=l.map fun r=>.int .i64 (r:Nat)
theorem z4F (l:List Nat):(ints l).length=l.length:=List.length_map _
theorem z5e (l:List Nat):∀d∈ints l,d.rf=true:=by
 intro d hd
 unfold ints at hd
 obtain ⟨_,_,rfl⟩:=List.mem_map.1 hd
 rfl
theorem y5q {U:List Kx} {n:Nat} (h:U.any (y5R n)=false):z00 U (n+1)=z00 U n++[n]:=by
 unfold z00
 rw [List.range_succ,List.filter_append,List.filter_cons,if_pos (by rw [h];rfl)];rfl
theorem y9D {U:List Kx} {n:Nat} (h:U.any (y5R n)=true):z00 U (n+1)=z00 U n:=by
 unfold z00
 rw [List.range_succ,List.filter_append,List.filter_cons,if_neg (by rw [h];decide)];simp
theorem z79 (U:List Kx) (n:Nat):(z00 U n).length≤n:=by
 unfold z00
 exact Nat.le_trans (List.length_filter_le _ _) (by simp)
theorem w6y (k:Int) {n:Nat} (hn:0<n) : -(n:Int)<k.tmod n∧k.tmod n<n∧(k.tmod n<0→k.tmod n+n=k % n)∧(¬k.tmod n<0→k.tmod n=k % n):=by
 have hp:(0:Int)<(n:Int):=by omega
 have h1:=Int.emod_nonneg k (show (n:Int)≠0 by omega)
 have h2:=Int.emod_lt_of_pos k hp
 by_cases h:0≤k
 ·rw [Int.tmod_eq_emod_of_nonneg h];omega
 ·obtain ⟨m,hm⟩:∃m:Nat,k = -(m:Int):=⟨k.natAbs,by omega⟩
  subst hm
  rw [Int.neg_tmod,Int.tmod_eq_emod_of_nonneg (by omega)]
  have h3:=Int.emod_nonneg (m:Int) (show (n:Int)≠0 by omega)
  have h4:=Int.emod_lt_of_pos (m:Int) hp
  have h5:=Int.emod_add_mul_ediv (m:Int) n
  have h6:=Int.emod_add_mul_ediv (-(m:Int)) n
  clear h1 h2 h6
  refine ⟨by omega,by omega,fun h=>?_,fun h=>?_⟩
  ·have hm:(n:Int)*(-((m:Int) / n) - 1) = -((n:Int)*((m:Int) / n)) - n:=by rw [Int.mul_sub,Int.mul_neg,Int.mul_one]
   have e : -(m:Int)=((n:Int) - (m:Int) % n)+n*(-((m:Int) / n) - 1):=by omega
   have key:(-(m:Int)) % n=(n:Int) - (m:Int) % n:=by
    rw [e,Int.add_mul_emod_self_left]
    exact Int.emod_eq_of_lt (by omega) (by omega)
   omega
  ·have e0:(m:Int) % n=0:=by omega
   have hm:(n:Int)*(-((m:Int) / n)) = -((n:Int)*((m:Int) / n)):=Int.mul_neg _ _
   have e : -(m:Int)=0+n*(-((m:Int) / n)):=by omega
   have key:(-(m:Int)) % n=0:=by
    rw [e,Int.add_mul_emod_self_left];rfl
   omega
theorem x5E (S:List Kx) (a:List Bs):(z1W S a).length=a.length:=List.length_map _
theorem x5D (S:List Kx) {a:List Bs} {i:Nat} (h:i<a.length):(z1W S a).getD i default=S.getD (ixS (z1y S) (a.getD i [])).toNat default:=by
 unfold z1W
 rw [zO1,List.getElem?_map,zO4 h,zO1 (l:=a),zO4 h];rfl
theorem x10 {α:Type} [Inhabited α] (p:α→Bool) {l:List α} {i:Nat} (h:i<l.length):(l.take (i+1)).any p=((l.take i).any p || p (l.getD i default)):=by
 rw [z0z default h,List.any_append];simp
theorem x1F (r:Rat):xnV (qX r)=r:=x1H r
theorem x4l {f:Nat→Option Nat} (hf:∀o,f o=some o) (cs:List DV):cs.map (rn f)=cs:=by rw [←y2V,y9z hf]
def mtX (x:List (List XN)):Mt:=fun i j=>xnV ((x.getD i []).getD j default)
def xrs (x:List (List XN)):List DV:=y2X (x.map fun r=>r.flatMap xnC)
theorem z60 (x:XN):(xnC x).length=3:=rfl
theorem w5n (x:XN):∀d∈xnC x,d.rf=true:=by
 intro d hd
 simp only [xnC,List.mem_cons,List.not_mem_nil,or_false] at hd
 rcases hd with rfl|rfl|rfl<;>rfl
theorem w2n (x:List (List XN)):(xrs x).length=x.length:=by unfold xrs;rw [z9M,List.length_map]
theorem y3k {x:List (List XN)} {i:Nat} (h:i<x.length):(x.map fun r=>r.flatMap xnC).getD i []=(x.getD i []).flatMap xnC:=by
 rw [zO1,zO1,List.getElem?_map,zO4 h];rfl
theorem w2m {x:List (List XN)} {i:Nat} (h:i<x.length) (d:DV):(xrs x).getD i d=.sl 3 ((x.getD i []).flatMap xnC):=by
 unfold xrs;rw [z57 (by rw [List.length_map];exact h),y3k h]
def z3K (ps:List Nat):List DV:=ps.map fun p:Nat=>DV.int .i64 (p:Int)
theorem z9j (ps:List Nat):(z3K ps).length=ps.length:=List.length_map _
theorem y2n (ps:List Nat):∀d∈z3K ps,d.rf=true:=by
 intro d hd;obtain ⟨p,_,rfl⟩:=List.mem_map.1 hd;rfl
theorem x0j (ps:List Nat) (j:Nat):z3K ps++[.int .i64 j]=z3K (ps++[j]):=by unfold z3K;simp
theorem w1G (n k:Nat) (M:Mt):(rrP n k M).length≤n:=(y5r n k M).1.len
end Nat32
