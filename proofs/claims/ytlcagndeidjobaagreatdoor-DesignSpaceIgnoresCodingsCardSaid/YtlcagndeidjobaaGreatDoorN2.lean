/- Lemmas of the walk; no conditions beyond those that each states. -/
import Derived.OpenShut
import Derived.Below
import Derived.Lib.SmallJoins
import Derived.ShutString
import Derived.Test.YtlcagndeidjobaaGreatDoorN1
import Derived.Test.YtlcagndeidjobaaGreatDoorD5
import Derived.Test.YtlcagndeidjobaaGreatDoorD4
set_option linter.unusedSimpArgs false
set_option linter.unusedVariables false
set_option linter.unnecessarySimpa false
set_option maxHeartbeats 4000000
namespace Nat32
open Go Go.Dat
def xOf (n k:Nat) (M:Mt):List (List XN):=(List.range n).map fun i=>(rwL k (M i)).map qX
theorem w2v (n k:Nat) (M:Mt):(xOf n k M).length=n:=by unfold xOf;rw [List.length_map,List.length_range]
theorem x5W {n k i:Nat} (h:i<n) (M:Mt):(xOf n k M).getD i []=(rwL k (M i)).map qX:=by
 unfold xOf;rw [zO1,List.getElem?_map,List.getElem?_range h];rfl
theorem x8t {n k i:Nat} (h:i<n) (M:Mt):((xOf n k M).getD i []).length=k:=by rw [x5W h,List.length_map,y7r]
theorem x9D {n k i j:Nat} (h:i<n) (hj:j<k) (M:Mt):((xOf n k M).getD i []).getD j default=qX (M i j):=by
 rw [x5W h,zO1,List.getElem?_map]
 unfold rwL
 rw [List.getElem?_map,List.getElem?_range hj];rfl
theorem w61 (n k:Nat) (M:Mt):xrs (xOf n k M)=mtD n k M:=by
 rw [y9v]
 unfold xrs xOf
 rw [List.map_map]
 congr 1
 refine List.map_congr_left fun i _=>?_
 simp only [Function.comp_apply]
 unfold rwC nums
 rw [List.flatMap_map];rfl
theorem x5V {n k:Nat} (M:Mt):∀i,i<n→∀j,j<k→mtX (xOf n k M) i j=M i j:=fun i hi j hj=>by
 unfold mtX;rw [x9D hi hj,x1V]
theorem w5s {n k:Nat} {M:Mt} {m:Nat} (hM:MS n k M m) (hm:m≤140800):∀i,i<n→∀j,j<k→lim (((xOf n k M).getD i []).getD j default).2.1∧lim (((xOf n k M).getD i []).getD j default).2.2∧(((xOf n k M).getD i []).getD j default).2.1.length≤4400∧(((xOf n k M).getD i []).getD j default).2.2.length≤4400:=fun i hi j hj=>by
 rw [x9D hi hj]
 have h:=y56 (l:=4400) (hM i hi j hj) (by omega)
 exact ⟨z0e _,z2U _,h.1,Nat.le_trans (y8A _) h.2⟩
theorem x7c (n k:Nat) (M:Mt):mtD n k M++[.sl 3 (rwC k (M n))]=mtD (n+1) k M:=by
 unfold mtD;rw [List.range_succ,List.map_append];rfl
theorem y1V {o sz m:Nat} {cells:List DV} {H:Hp} (h:lkH H o=some cells) (hz:sz≠0) (hl:cells.length=m*sz) (hr:∀d∈cells,d.rf=true):Exp (lkH H) (.osl sz o 0 m) (.sl sz cells):=by
 refine .osl h hz (by omega) hl fun j d r hd hr'=>?_
 rw [List.drop_zero,List.take_of_length_le (by omega)] at hd
 rw [hd] at hr';cases hr'
 exact .imm (hr d (List.mem_of_getElem? hd))
theorem y2R {n k i:Nat} (M:Mt) (f:Nat→Rat) (h:i<n):(mtD n k M).set i (.sl 3 (rwC k f))=mtD n k fun r=>if r=i then f else M r:=by
 apply List.ext_getElem?
 intro j
 unfold mtD
 rw [List.getElem?_set,List.length_map,List.length_range,List.getElem?_map,List.getElem?_map]
 by_cases e:i=j
 ·subst e;rw [if_pos rfl,if_pos h,List.getElem?_range h,Option.map_some];simp only [if_true]
 ·rw [if_neg e]
  by_cases hj:j<n
  ·rw [List.getElem?_range hj,Option.map_some,Option.map_some];simp only [if_neg (Ne.symm e)]
  ·rw [List.getElem?_eq_none (by rw [List.length_range];omega)];rfl
theorem x7d {n k a b:Nat} (M:Mt) (ha:a<n) (hb:b<n):((mtD n k M).set b (.sl 3 (rwC k (M a)))).set a (.sl 3 (rwC k (M b)))=mtD n k (z3W a b M):=by
 rw [y2R M (M a) hb,y2R _ (M b) ha]
 refine congrArg (mtD n k) ?_
 funext r c
 unfold z3W
 by_cases e:r=a
 ·rw [if_pos e,if_pos e]
 ·rw [if_neg e,if_neg e]
  by_cases e2:r=b
  ·rw [if_pos e2,if_pos e2]
  ·rw [if_neg e2,if_neg e2]
def elP (t j i:Nat) (S:Mt):Mt:=fun r c=>if r=t then S t c*(1 / S t j) else if r<i then S r c+S t c*(1 / S t j)*(-(S r j)) else S r c
theorem w5Y (t j:Nat) (S:Mt):(fun r=>if r=t then (fun c=>S t c*(1 / S t j)) else S r)=elP t j 0 S:=by
 funext r c
 unfold elP
 by_cases e:r=t
 ·rw [if_pos e,if_pos e]
 ·rw [if_neg e,if_neg e,if_neg (Nat.not_lt_zero r)]
theorem x94 {t j n:Nat} {S:Mt}:∀r,r<n→∀c,elP t j n S r c=elimM t j S r c:=fun r hr c=>by
 unfold elP elimM
 by_cases e:r=t
 ·rw [if_pos e,if_pos e]
 ·rw [if_neg e,if_neg e,if_pos hr]
theorem w3k (t j i:Nat) (S:Mt) (c:Nat):elP t j i S t c=S t c*(1 / S t j):=by unfold elP;rw [if_pos rfl]
theorem w5Z {t j i:Nat} {S:Mt} (h:i≠t):elP t j i S i=S i:=by funext c;unfold elP;rw [if_neg h,if_neg (Nat.lt_irrefl i)]
theorem x6A (t j:Nat) (S:Mt):elP t j t S=elP t j (t+1) S:=by
 funext r c
 unfold elP
 by_cases e:r=t
 ·rw [if_pos e,if_pos e]
 ·rw [if_neg e,if_neg e]
  by_cases e2:r<t
  ·rw [if_pos e2,if_pos (by omega)]
  ·rw [if_neg e2,if_neg (by omega)]
theorem x6z {t j i:Nat} {S:Mt} (h:i≠t):(fun r=>if r=i then (fun c=>S i c+elP t j i S t c*(-(S i j))) else elP t j i S r)=elP t j (i+1) S:=by
 funext r c
 by_cases e:r=i
 ·subst e
  rw [if_pos rfl,w3k]
  unfold elP
  rw [if_neg h,if_pos (by omega)]
 ·rw [if_neg e]
  unfold elP
  by_cases e1:r=t
  ·rw [if_pos e1,if_pos e1]
  ·rw [if_neg e1,if_neg e1]
   by_cases e2:r<i
   ·rw [if_pos e2,if_pos (by omega)]
   ·rw [if_neg e2,if_neg (by omega)]
theorem x2l {F:FnD} {os:List DOper} {dst:Dst} {f:Nat} {ds:List DV} {te fr:Fr} {H:Hp} {K:Fr→Fr→Hp→Prop} (hp:F.pure=false) {Q:DV→Prop} (hrf:ds.all DV.rf=true)
  (hc:y7S F.P f ds [] fun r H'=>Q r∧H'=[]) (hQ:∀r,Q r→r.rf=true) (hK:∀r,Q r→z1l F os (dst.onT te r) (dst.onX fr r) H K):z4d F os dst f ds te fr H K:=by
 have hpg:pgN H (fun _=>none)=some:=funext fun p=>rfl
 have hds:ds.map (rn fun _=>none)=ds:=y41 _ (List.all_eq_true.1 hrf)
 refine z5x hp (fun _=>none) (fun _=>none) (fun p q=>⟨fun h=>(by cases h),fun h=>(by cases h)⟩) (fun p q h=>(by cases h)) (fun p q h=>(by cases h)) (Hc:=[]) (fun q=>rfl) (by rw [hds];exact hc) ?_
 rintro r Hc' ⟨hr,rfl⟩
 refine ⟨H,fun p=>?_,?_⟩
 ·rw [hpg]
  show lkH H p=(lkH H p).map _
  cases lkH H p with
  | none=>rfl
  | some c=>rw [Option.map_some,x4C (fun _=>rfl)]
 ·rw [hpg,z9w (fun _=>rfl),z9w (fun _=>rfl),z5m _ r (hQ r hr)];exact hK r hr
theorem x7q {o sz m:Nat} {cells:List DV} {H:Hp} (h:lkH H o=some cells) (hz:sz≠0) (hl:cells.length=m*sz) (hr:∀d∈cells,d.rf=true):rdo H 1 (.osl sz o 0 m)=.sl sz cells:=by
 show (match lkH H o with|some cells=>_|none=>_)=_
 rw [h]
 simp only
 rw [if_pos ⟨hz,by omega⟩,List.drop_zero,List.take_of_length_le (by omega)]
 congr 1
 conv=>rhs;rw [←List.map_id cells]
 exact List.map_congr_left fun d hd=>w4Z H 0 (hr d hd)
def w7y (M:Mt) (n j t a:Nat):Prop:=t≤a∧a≤n∧∀r,t≤r→r<a→M r j=0
theorem w1a {r:Rat} (h:RB r 300):y9z (qX r):=⟨z0e _,z2U _,h.1,Nat.le_trans (y8A _) h.2⟩
def y2X (z:Int):Rat:=Rat.divInt (z % 61 - 30) (1+(Int.tdiv z 61) % 4)
def usL:List DV→Option (List Nat)
 | []=>some []
 | .int .u32 z::r=>if 0≤z∧z<4294967296 then (usL r).map (z.toNat::·) else none
 | _=>none
theorem x9z:∀{ds:List DV} {l:List Nat},usL ds=some l→ds=us l∧lim l
 | [],l,h=>by simp only [usL,Option.some.injEq] at h;subst h;exact ⟨rfl,z1o⟩
 | d::ds,l,h=>by
  unfold usL at h
  split at h
  ·rename_i e;cases e
  ·rename_i e
   cases e
   split at h
   ·rename_i hz
    rw [zO2] at h
    obtain ⟨m,hm,rfl⟩:=h
    obtain ⟨h1,h2⟩:=x9z hm
    refine ⟨?_,?_⟩
    ·rw [h1]
     simp only [us,List.map_cons,List.cons.injEq,and_true]
     unfold u32;rw [Int.toNat_of_nonneg hz.1]
    ·intro x hx
     rcases List.mem_cons.1 hx with rfl|hx
     ·omega
     ·exact h2 x hx
   ·cases h
  ·cases h
def w5I:DV→Option (List Nat)
 | .sl s xs=>if s=1 then usL xs else none
 | .nils=>some []
 | _=>none
theorem x5N {d:DV} {l:List Nat} (h:w5I d=some l):WkD d (.sl 1 (us l))∧lim l:=by
 unfold w5I at h
 split at h
 ·split at h
  ·rename_i hs
   subst hs
   obtain ⟨h1,h2⟩:=x9z h
   rw [h1];exact ⟨WkD.refl _,h2⟩
  ·cases h
 ·cases h;exact ⟨WkD.nils 1,z1o⟩
 ·cases h
def w5w:DV→Option XN
 | .agg [.bool b,x,y]=>(w5I x).bind fun l=>(w5I y).map fun m=>(b,l,m)
 | _=>none
theorem y7O {d:DV} {x:XN} (h:w5w d=some x):WkD d (.agg (xnC x))∧lim x.2.1∧lim x.2.2:=by
 unfold w5w at h
 split at h
 ·rename_i b p q
  rw [zO3] at h
  obtain ⟨l,h1,h⟩:=h
  rw [zO2] at h
  obtain ⟨m,h2,rfl⟩:=h
  obtain ⟨a1,a2⟩:=x5N h1
  obtain ⟨b1,b2⟩:=x5N h2
  exact ⟨WkD.agg (.cons (WkD.refl _) (.cons a1 (.cons b1 .nil))),a2,b2⟩
 ·cases h
def k1 (f:XN→Option DV):List DV→Option DV
 | [d]=>(w5w d).bind f
 | _=>none
theorem w38 {P:Program} {fn:Nat} {f:XN→Option DV} (h:∀x r,lim x.2.1→lim x.2.2→f x=some r→z0c P fn [.agg (xnC x)] r):∀ds r,k1 f ds=some r→z0c P fn ds r:=fun ds r hr=>by
 unfold k1 at hr
 split at hr
 ·rw [zO3] at hr
  obtain ⟨x,h1,h2⟩:=hr
  obtain ⟨a,b,c⟩:=y7O h1
  exact z5t (.cons a .nil) (h x r b c h2)
 ·cases hr
def k2 (f:XN→XN→Option DV):List DV→Option DV
 | [d,e]=>(w5w d).bind fun x=>(w5w e).bind fun y=>f x y
 | _=>none
theorem w0R {P:Program} {fn:Nat} {f:XN→XN→Option DV} (h:∀x y r,lim x.2.1→lim x.2.2→lim y.2.1→lim y.2.2→f x y=some r→z0c P fn [.agg (xnC x),.agg (xnC y)] r):∀ds r,k2 f ds=some r→z0c P fn ds r:=fun ds r hr=>by
 unfold k2 at hr
 split at hr
 ·rw [zO3] at hr
  obtain ⟨x,h1,hr⟩:=hr
  rw [zO3] at hr
  obtain ⟨y,h2,h3⟩:=hr
  obtain ⟨a,b,c⟩:=y7O h1
  obtain ⟨a',b',c'⟩:=y7O h2
  exact z5t (.cons a (.cons a' .nil)) (h x y r b c b' c' h3)
 ·cases hr
def smX (m:Nat) (x:XN):Bool:=decide (x.2.1.length≤m) && decide (x.2.2.length≤m)
theorem z7V {m:Nat} {x:XN} (h:smX m x=true):x.2.1.length≤m∧x.2.2.length≤m:=by
 unfold smX at h
 simpa using h
def kI (f:Int→Option DV):List DV→Option DV
 | [.int .i64 z]=>if -9223372036854775808≤z∧z≤9223372036854775807 then f z else none
 | _=>none
theorem w0S {P:Program} {fn:Nat} {f:Int→Option DV} (h:∀z r,-9223372036854775808≤z→z≤9223372036854775807→f z=some r→z0c P fn [.int .i64 z] r):∀ds r,kI f ds=some r→z0c P fn ds r:=fun ds r hr=>by
 unfold kI at hr
 split at hr
 ·split at hr
  ·rename_i hz;exact h _ r hz.1 hz.2 hr
  ·cases hr
 ·cases hr
structure Fac where
 nm:List UInt8
 pw:Int
 deriving Inhabited,DecidableEq
def fcC (f:Fac):List DV:=[.str f.nm,.int .i64 f.pw]
theorem z2i (f:Fac):(fcC f).length=2:=rfl
def fcs (l:List Fac):List DV:=l.flatMap fcC
theorem z4m (l:List Fac):(fcs l).length=l.length*2:=z34 z2i l
theorem x2O (f:Fac):∀d∈fcC f,d.rf=true:=by
 intro d hd
 simp only [fcC,List.mem_cons,List.not_mem_nil,or_false] at hd
 rcases hd with rfl|rfl<;>rfl
theorem w0a (f:Fac):∀d∈fcC f,d.one=true:=by
 intro d hd
 simp only [fcC,List.mem_cons,List.not_mem_nil,or_false] at hd
 rcases hd with rfl|rfl<;>rfl
theorem z8Y (l:List Fac):∀d∈fcs l,d.rf=true:=x0r x2O l
theorem w0b (l:List Fac):∀d∈fcs l,d.one=true:=x8M w0a l
theorem w6I (m:Nat) (a b:DV) (h:[a,b].all DV.rf=true):(rep m [a,b]).length=m*2∧∀x∈rep m [a,b],x.rf=true:=by
 show ((List.replicate m [a,b]).flatten).length=m*2∧∀x∈(List.replicate m [a,b]).flatten,x.rf=true
 constructor
 ·induction m with
  | zero=>rfl
  | succ m ih=>rw [List.replicate_succ,List.flatten_cons,List.length_append,ih];show 2+m*2=_;omega
 ·intro x hx
  obtain ⟨l,h1,h2⟩:=List.mem_flatten.1 hx
  rw [(List.mem_replicate.1 h1).2] at h2
  exact List.all_eq_true.1 h x h2
def ctE (k n i j:Nat):Int :=
 let b:Bool→Int:=fun c=>if c then 1 else 0
 if k=1 then b (decide (i=j+1)) else if k=2 then b (decide (i=j)) - b (decide (i=n - 1)) else if k=3 then (j+1)*b (decide (i=j+1)) - b (decide (i≤j)) else b (decide (i=j))
def ctC (k n:Nat):Nat:=if k=4 then n else n - 1
def ctD (k n:Nat):DV:=.tup [.sl 1 ((List.range n).map fun i=>.sl 3 ((List.range (ctC k n)).flatMap fun j=>xnC (qX (ctE k n i j)))),.int .i64 0]
def ctK:List DV→Option DV
 | [.int .i64 k,.int .i64 n]=>if 1≤k∧k≤4∧2≤n∧n≤3 then some (ctD k.toNat n.toNat) else none
 | _=>none
def w5U:List DV→Option DV
 | [.el B 0,.sl 2 [.str n,.int .i64 p],.agg [.str n',.int .i64 p']]=>if B.all DV.rf && decide (B.length=6) && decide (n=n') && decide (p=p') then (match B.getD 3 .undef with
  | .bool true=>some (B.getD 5 .undef)
  | .bool false=>some (.int .i64 4)
  | _=>none) else none
 | _=>none
theorem y6R (z:Int):BS (y2X z) 5:=by
 have b1:=Int.emod_nonneg z (show (61:Int)≠0 by decide)
 have b2:=Int.emod_lt_of_pos z (show (0:Int)<61 by decide)
 have b3:=Int.emod_nonneg (Int.tdiv z 61) (show (4:Int)≠0 by decide)
 have b4:=Int.emod_lt_of_pos (Int.tdiv z 61) (show (0:Int)<4 by decide)
 unfold y2X
 exact y3z (by omega) (by omega) (by omega)
section
open Go.RowKit Go.ChangeShapes Go.WideShapes Go.Joins Go.Deep
variable {H:Type} {enc:TypeId × Value→H} {P:Program} {w:World} {base:Nat} {spare:Nat→Bool} {held:Bool}
end
end Nat32
namespace Nat32
open Go Go.Dat
def w6s (z:Int):XN:=qX (y2X z)
def y0a (z:Int):Tc:=⟨false,w6s z,0⟩
def lvT (v m:Int):Tc:=if v<0 then ⟨true,(false,[],[]),0⟩ else ⟨false,(false,[],[]),Int.tmod v m⟩
def tbY (l:List Int) (n:Nat):List Tc:=(List.range n).map fun i=>y0a (l.getD i 0)
def tbG (l:List Int) (m:Int) (n:Nat):List Tc:=(List.range n).map fun i=>lvT (l.getD i 0) m
theorem z61 (l:List Int) (n:Nat):(tbY l n).length=n:=by unfold tbY;rw [List.length_map,List.length_range]
theorem z60 (l:List Int) (m:Int) (n:Nat):(tbG l m n).length=n:=by unfold tbG;rw [List.length_map,List.length_range]
theorem y93 (l:List Int) (n:Nat):cxs (tbY l n)++cxC (y0a (l.getD n 0))=cxs (tbY l (n+1)):=by
 unfold tbY cxs;rw [List.range_succ,List.map_append,List.flatMap_append];simp
theorem y92 (l:List Int) (m:Int) (n:Nat):cxs (tbG l m n)++cxC (lvT (l.getD n 0) m)=cxs (tbG l m (n+1)):=by
 unfold tbG cxs;rw [List.range_succ,List.map_append,List.flatMap_append];simp
def z2o (Y X G H:List Int):List Kx :=
 let n:=min Y.length 10
 [⟨[121],1,[],tbY Y n⟩,⟨[120],1,[],tbY X n⟩,⟨[103],2,[[97],[98],[99]],tbG G 3 n⟩,⟨[104],2,[[117],[118]],tbG H 2 n⟩]
inductive RS (α:Type) where
 | ok (fs:List α) (k:Nat)
 | err (e k:Nat)
def nl (s:Bs):Nat:=s.count 10
end Nat32
namespace Nat32
open Go Go.Dat Go.Lib
structure Mdl where
 rs:Bs
 ic:Bool
 tm:List (List Fac)
 deriving Inhabited
def tmD (T:List (List Fac)):List DV:=T.map fun t=>.sl 2 (fcs t)
theorem y7I (T:List (List Fac)):(tmD T).length=T.length:=List.length_map _
theorem y7H {T:List (List Fac)} {i:Nat} (h:i<T.length) (d:DV):(tmD T).getD i d=.sl 2 (fcs (T.getD i [])):=by
 unfold tmD
 rw [zO1,List.getElem?_map,zO4 h,zO1,zO4 h];rfl
def z1F (m:Mdl):List DV:=[.str m.rs,.bool m.ic,.sl 1 (tmD m.tm)]
def z5c (n:Int) (S:List Kx) (m:Mdl) (cod:Int):List DV:=[.int .i64 n,.sl 4 (kxs S),.str m.rs,.bool m.ic,.sl 1 (tmD m.tm),.int .i64 cod]
def x1i (m:Mdl) (l:List Fac):Bool:=if l.isEmpty then m.ic else m.tm.any fun t=>decide (t.length=l.length) && l.all fun f=>t.contains f
def x6r (m:Mdl) (cod:Int) (t:List Fac) (f:Fac):Int:=if x1i m (t.filter fun x=>!decide (x=f)) then cod else 4
def z4T (S:List Kx) (s:Bs):Kx:=S.getD (ixS (z1t S) s).toNat default
def ctN (k:Int) (le:List Bs):List Bs:=(List.range (ctC k.toNat le.length)).map fun j=>if k=4 then 61::le.getD j [] else if k=1 then 61::le.getD (j+1) [] else 46::decDigits (j+1)
theorem y18 (k:Int) (le:List Bs):(ctN k le).length=ctC k.toNat le.length:=by unfold ctN;rw [List.length_map,List.length_range]
def ctR (k n l:Nat):List Rat:=(List.range (ctC k n)).map fun j=>((ctE k n l j:Int):Rat)
theorem y6h (k n l:Nat):(ctR k n l).length=ctC k n:=by unfold ctR;rw [List.length_map,List.length_range]
section
variable (S:List Kx) (m:Mdl) (cod:Int)
def z99 (t:List Fac) (f:Fac):List Bs :=
 if (z4T S f.nm).kd=1 then [if f.pw=1 then (z4T S f.nm).nm else (z4T S f.nm).nm++94::decDigits f.pw.toNat] else (ctN (x6r m cod t f) (z4T S f.nm).le).map ((z4T S f.nm).nm++·)
def y2e (t:List Fac) (f:Fac) (r:Nat):List Rat :=
 if (z4T S f.nm).kd=1 then [xnV ((z4T S f.nm).ce.getD r default).va ^ f.pw.toNat] else ctR (x6r m cod t f).toNat (z4T S f.nm).le.length ((z4T S f.nm).ce.getD r default).lv.toNat
theorem z4G (t:List Fac) (f:Fac) (r:Nat):(y2e S m cod t f r).length=(z99 S m cod t f).length:=by
 unfold y2e z99
 split
 ·rfl
 ·rw [y6h,List.length_map,y18]
def z92 (a b:List Bs):List Bs:=b.flatMap fun s=>a.map fun r=>r++58::s
def z7W (a b:List Rat):List Rat:=b.flatMap fun y=>a.map fun x=>x*y
theorem z4R (a:List Bs):∀b:List Bs,(z92 a b).length=b.length*a.length
 | []=>by simp [z92]
 | s::b=>by
  have:=z4R a b
  unfold z92 at this ⊢
  rw [List.flatMap_cons,List.length_append,this,List.length_map,List.length_cons,Nat.succ_mul,Nat.add_comm]
theorem z6g (a:List Rat):∀b:List Rat,(z7W a b).length=b.length*a.length
 | []=>by simp [z7W]
 | s::b=>by
  have:=z6g a b
  unfold z7W at this ⊢
  rw [List.flatMap_cons,List.length_append,this,List.length_map,List.length_cons,Nat.succ_mul,Nat.add_comm]
def w5i (t:List Fac):List Bs:=match t with
 | []=>[]
 | f::fs=>fs.foldl (fun g h=>z92 g (z99 S m cod t h)) (z99 S m cod t f)
def x8p (t:List Fac) (r:Nat):List Rat:=match t with
 | []=>[]
 | f::fs=>fs.foldl (fun g h=>z7W g (y2e S m cod t h r)) (y2e S m cod t f r)
theorem y8T (t:List Fac) (r:Nat):∀(fs:List Fac) (a:List Bs) (b:List Rat),b.length=a.length→(fs.foldl (fun g h=>z7W g (y2e S m cod t h r)) b).length=(fs.foldl (fun g h=>z92 g (z99 S m cod t h)) a).length
 | [],_,_,h=>h
 | f::fs,a,b,h=>y8T t r fs _ _ (by rw [z6g,z4R,z4G,h])
theorem x8q (t:List Fac) (r:Nat):(x8p S m cod t r).length=(w5i S m cod t).length:=by
 cases t with
 | nil=>rfl
 | cons f fs=>exact y8T S m cod (f::fs) r fs _ _ (z4G S m cod _ f r)
def y1E (t:List Fac):Bool:=t.all fun f=>!(z99 S m cod t f).isEmpty
def x00:List (List Fac):=m.tm.filter (y1E S m cod)
def icN:List Bs:=if m.ic then [[40,73,110,116,101,114,99,101,112,116,41]] else []
def icV:List Rat:=if m.ic then [1] else []
def y00:List Bs:=icN m++(x00 S m cod).flatMap (w5i S m cod)
def z98 (r:Nat):List Rat:=icV m++(x00 S m cod).flatMap fun t=>x8p S m cod t r
end
def z13 (m:Mdl):List Bs:=m.rs::m.tm.flatMap fun t=>t.map Fac.nm
def z1R (n:Nat) (S:List Kx) (m:Mdl):List Nat:=z1c (z22 S (z13 m)) n
def x1X (S:List Kx) (m:Mdl) (r:Nat):Rat:=xnV ((z4T S m.rs).ce.getD r default).va
def w3c (n:Nat) (S:List Kx) (m:Mdl) (cod:Int):DV :=
 .agg [.sl 1 (z0L (y00 S m cod)),.sl 1 ((z1R n S m).map fun r=>.sl 3 (nums (z98 S m cod r))),.sl 3 (nums ((z1R n S m).map (x1X S m))),.sl 1 (ints (z1R n S m))]
end Nat32
namespace Nat32
open Go Go.Dat
abbrev Mo:=Nat × Rat
def evM (q:Rat) (a:Mo):Rat:=q ^ a.1*a.2
def w2G (m:Mdl) (cod:Int) (t:List Fac) (f:Fac) (g h:Nat):List Mo :=
 if f.nm=[103] then (ctR (x6r m cod t f).toNat 3 g).map (0,·) else if f.nm=[104] then (ctR (x6r m cod t f).toNat 2 h).map (0,·) else [(f.pw.toNat,1)]
def w5g (a b:List Mo):List Mo:=b.flatMap fun y=>a.map fun x=>(x.1+y.1,x.2*y.2)
def w5G (m:Mdl) (cod:Int) (t:List Fac) (g h:Nat):List Mo:=match t with
 | []=>[]
 | f::fs=>fs.foldl (fun a k=>w5g a (w2G m cod t k g h)) (w2G m cod t f g h)
def y4g (m:Mdl) (cod:Int) (g h:Nat):List Mo:=(if m.ic then [(0,1)] else [])++m.tm.flatMap fun t=>w5G m cod t g h
theorem y9S (q:Rat) (a:Nat):∀b:Nat,q ^ (a+b)=q ^ a*q ^ b
 | 0=>by rw [Nat.add_zero,Rat.pow_zero,Rat.mul_one]
 | b+1=>by rw [←Nat.add_assoc,Rat.pow_succ,y9S q a b,Rat.pow_succ,Rat.mul_assoc]
theorem x96 (q:Rat) (a b:Mo):evM q (a.1+b.1,a.2*b.2)=evM q a*evM q b:=by
 unfold evM
 rw [y9S]
 have:∀u v w z:Rat,u*v*(w*z)=u*w*(v*z):=fun u v w z=>by
  rw [Rat.mul_assoc,Rat.mul_assoc,←Rat.mul_assoc v,Rat.mul_comm v w,Rat.mul_assoc w]
 exact this _ _ _ _
theorem w2q (q:Rat) (a b:List Mo):z7W (a.map (evM q)) (b.map (evM q))=(w5g a b).map (evM q):=by
 unfold z7W w5g
 rw [List.flatMap_map,List.map_flatMap]
 congr 1
 funext y
 rw [List.map_map,List.map_map]
 exact List.map_congr_left fun x _=>(x96 q x y).symm
def x5X (m:Mdl):Bool:=m.tm.all fun t=>t.all fun f=>decide (f.nm=[120]) || decide (f.nm=[103]) || decide (f.nm=[104])
theorem w27 (Y X G H:List Int):z4T (z2o Y X G H) [120]=⟨[120],1,[],tbY X (min Y.length 10)⟩:=rfl
theorem w25 (Y X G H:List Int):z4T (z2o Y X G H) [103]=⟨[103],2,[[97],[98],[99]],tbG G 3 (min Y.length 10)⟩:=rfl
theorem w26 (Y X G H:List Int):z4T (z2o Y X G H) [104]=⟨[104],2,[[117],[118]],tbG H 2 (min Y.length 10)⟩:=rfl
def xAt (X:List Int) (r:Nat):Rat:=y2X (X.getD r 0)
def gAt (m:Int) (G:List Int) (r:Nat):Nat:=(lvT (G.getD r 0) m).lv.toNat
theorem w2o (l:List Int) {n r:Nat} (h:r<n):(tbY l n).getD r default=y0a (l.getD r 0):=by
 unfold tbY
 rw [zO1,List.getElem?_map,List.getElem?_range h];rfl
theorem x5J (l:List Int) (m:Int) {n r:Nat} (h:r<n):(tbG l m n).getD r default=lvT (l.getD r 0) m:=by
 unfold tbG
 rw [zO1,List.getElem?_map,List.getElem?_range h];rfl
theorem w2y (z:Int):xnV (w6s z)=y2X z:=x1V _
section
variable {Y X G H:List Int} {m:Mdl} {cod:Int} {r:Nat}
theorem x8J (hr:r<min Y.length 10) {t:List Fac} {f:Fac} (hf:f.nm=[120]∨f.nm=[103]∨f.nm=[104]) :
  y2e (z2o Y X G H) m cod t f r=(w2G m cod t f (gAt 3 G r) (gAt 2 H r)).map (evM (xAt X r)):=by
 have hz:∀l:List Rat,l=(l.map fun x=>((0,x):Mo)).map (evM (xAt X r)):=fun l=>by
  rw [List.map_map]
  conv=>lhs;rw [←List.map_id l]
  refine List.map_congr_left fun x _=>?_
  show x=evM _ (0,x)
  unfold evM
  rw [Rat.pow_zero,Rat.one_mul]
 unfold y2e w2G
 rcases hf with e|e|e<;>rw [e]
 ·rw [w27,if_pos rfl,if_neg (by decide),if_neg (by decide),w2o X hr]
  show [xnV (w6s _) ^ _]=_
  rw [w2y]
  simp only [List.map_cons,List.map_nil,evM,Rat.mul_one]
  rfl
 ·rw [w25,if_neg (show ¬(2:Int)=1 by decide),if_pos rfl,x5J G 3 hr]
  exact hz _
 ·rw [w26,if_neg (show ¬(2:Int)=1 by decide),if_neg (by decide),if_pos rfl,x5J H 2 hr]
  exact hz _
theorem w5j (hr:r<min Y.length 10) {t:List Fac} (ht:∀f∈t,f.nm=[120]∨f.nm=[103]∨f.nm=[104]) :
  x8p (z2o Y X G H) m cod t r=(w5G m cod t (gAt 3 G r) (gAt 2 H r)).map (evM (xAt X r)):=by
 have key:∀(u fs:List Fac) (a:List Rat) (b:List Mo),(∀f∈fs,f.nm=[120]∨f.nm=[103]∨f.nm=[104])→a=b.map (evM (xAt X r)) →
   fs.foldl (fun g h=>z7W g (y2e (z2o Y X G H) m cod u h r)) a=(fs.foldl (fun a k=>w5g a (w2G m cod u k (gAt 3 G r) (gAt 2 H r))) b).map (evM (xAt X r)):=by
  intro u fs
  induction fs with
  | nil=>intro a b _ h;exact h
  | cons f fs ih =>
   intro a b hm h
   refine ih _ _ (fun f' h'=>hm f' (List.mem_cons_of_mem _ h')) ?_
   show z7W a (y2e (z2o Y X G H) m cod u f r)=(w5g b (w2G m cod u f (gAt 3 G r) (gAt 2 H r))).map (evM (xAt X r))
   rw [x8J hr (hm f List.mem_cons_self),h,w2q]
 unfold x8p w5G
 cases t with
 | nil=>rfl
 | cons f fs=>exact key _ fs _ _ (fun f' h'=>ht f' (List.mem_cons_of_mem _ h')) (x8J hr (ht f List.mem_cons_self))
theorem x99 {t:List Fac} {f:Fac} (hf:f.nm=[120]∨f.nm=[103]∨f.nm=[104]):z99 (z2o Y X G H) m cod t f≠[]:=by
 intro h
 have hl:=congrArg List.length h
 rw [←z4G _ m cod t f 0] at hl
 unfold y2e at hl
 rcases hf with e|e|e<;>rw [e] at hl
 ·rw [w27,if_pos rfl] at hl;cases hl
 ·rw [w25,if_neg (show ¬(2:Int)=1 by decide),y6h] at hl
  unfold ctC at hl
  split at hl<;>simp at hl
 ·rw [w26,if_neg (show ¬(2:Int)=1 by decide),y6h] at hl
  unfold ctC at hl
  split at hl<;>simp at hl
theorem x9E (hm:x5X m=true) {t:List Fac} (ht:t∈m.tm):∀f∈t,f.nm=[120]∨f.nm=[103]∨f.nm=[104]:=fun f hf=>by
 unfold x5X at hm
 have:=List.all_eq_true.1 (List.all_eq_true.1 hm t ht) f hf
 simp only [Bool.or_eq_true,decide_eq_true_eq] at this
 rcases this with (h|h)|h
 ·exact .inl h
 ·exact .inr (.inl h)
 ·exact .inr (.inr h)
theorem w0Y (hm:x5X m=true):x00 (z2o Y X G H) m cod=m.tm:=by
 unfold x00
 refine List.filter_eq_self.2 fun t ht=>?_
 unfold y1E
 refine List.all_eq_true.2 fun f hf=>?_
 have:=x99 (Y:=Y) (X:=X) (G:=G) (H:=H) (m:=m) (cod:=cod) (t:=t) (x9E hm ht f hf)
 simpa using this
theorem y8y (hm:x5X m=true) (hr:r<min Y.length 10):z98 (z2o Y X G H) m cod r=(y4g m cod (gAt 3 G r) (gAt 2 H r)).map (evM (xAt X r)):=by
 unfold z98 y4g
 rw [w0Y hm,List.map_append,List.map_flatMap]
 have h1:icV m=(if m.ic then [((0,1):Mo)] else []).map (evM (xAt X r)):=by
  unfold icV
  split
  ·simp only [List.map_cons,List.map_nil,evM,Rat.pow_zero,Rat.one_mul]
  ·rfl
 rw [h1]
 congr 1
 have:∀l:List (List Fac),(∀t∈l,∀f∈t,f.nm=[120]∨f.nm=[103]∨f.nm=[104])→(l.flatMap fun t=>x8p (z2o Y X G H) m cod t r)=l.flatMap fun t=>(w5G m cod t (gAt 3 G r) (gAt 2 H r)).map (evM (xAt X r)):=by
  intro l
  induction l with
  | nil=>intro _;rfl
  | cons t l ih =>
   intro hl
   rw [List.flatMap_cons,List.flatMap_cons,w5j hr (hl t List.mem_cons_self),ih fun t' h'=>hl t' (List.mem_cons_of_mem _ h')]
 exact this _ fun t ht=>x9E hm ht
end
def moE (l:List Mo) (i:Nat):Nat:=(l.getD i (0,0)).1
def moC (l:List Mo) (i:Nat):Rat:=(l.getD i (0,0)).2
def tAt (T:List (List Rat)) (i j:Nat):Rat:=(T.getD i []).getD j 0
def y0v (A B:Nat→Nat→List Mo) (ka kb:Nat) (T:List (List Rat)):Bool :=
 (List.range 3).all fun g=>(List.range 2).all fun h=>decide ((A g h).length=ka) && decide ((B g h).length=kb) && (List.range kb).all fun j =>
  (List.range ka).all (fun i=>decide (moE (A g h) i=moE (B g h) j) || decide (tAt T i j=0)) && decide (z1K ka (fun i=>moC (A g h) i*tAt T i j)=moC (B g h) j)
theorem x8i {A B:Nat→Nat→List Mo} {ka kb:Nat} {T:List (List Rat)} (hs:y0v A B ka kb T=true) {g h:Nat} (hg:g<3) (hh:h<2) (q:Rat) {j:Nat} (hj:j<kb) :
  ((B g h).map (evM q)).getD j 0=z1K ka fun i=>((A g h).map (evM q)).getD i 0*tAt T i j:=by
 unfold y0v at hs
 have h1:=List.all_eq_true.1 (List.all_eq_true.1 hs g (List.mem_range.2 hg)) h (List.mem_range.2 hh)
 simp only [Bool.and_eq_true,decide_eq_true_eq] at h1
 obtain ⟨⟨hA,hB⟩,h2⟩:=h1
 have h3:=List.all_eq_true.1 h2 j (List.mem_range.2 hj)
 simp only [Bool.and_eq_true,decide_eq_true_eq] at h3
 obtain ⟨h4,h5⟩:=h3
 have hget:∀(l:List Mo) (i:Nat),i<l.length→(l.map (evM q)).getD i 0=q ^ moE l i*moC l i:=fun l i hi=>by
  unfold moE moC
  rw [zO1,List.getElem?_map,zO4 hi,zO1,zO4 hi];rfl
 rw [hget _ j (by omega),←h5,←z3V]
 refine z0H fun i hi=>?_
 rw [hget _ i (by omega)]
 have h6:=List.all_eq_true.1 h4 i (List.mem_range.2 hi)
 rw [Bool.or_eq_true,decide_eq_true_eq,decide_eq_true_eq] at h6
 rcases h6 with h6|h6
 ·rw [h6,Rat.mul_assoc]
 ·rw [h6,Rat.mul_zero,Rat.mul_zero,Rat.mul_zero]
theorem y1o (m:Int) (hm:0<m) (l:List Int) (r:Nat):gAt m l r<m.toNat:=by
 unfold gAt lvT
 split
 ·show (0:Int).toNat<_;omega
 ·rename_i h
  show (Int.tmod _ m).toNat<_
  have h1:=Int.tmod_lt_of_pos (l.getD r 0) hm
  have h2:=Int.tmod_nonneg m (show 0≤l.getD r 0 by omega)
  omega
end Nat32
namespace Nat32
open Go Go.Dat
theorem IsRp.le_rank {n k j:Nat} {R M:Mt} {ps:List Nat} (h:IsRp n k j R ps) (hj:j≤k) (hK:z14 n k M R):ps.length≤(rrP n k M).length:=by
 obtain ⟨hA,hKA⟩:=y5E n k M
 have hB:IsR n j R ps:=⟨h.inc,h.lt,h.len,h.one,h.col,h.left,h.down⟩
 have ext:∀(X:Mt) (c:Nat→Rat),Ker n j X c↔Ker n k X fun i=>if i<j then c i else 0:=fun X c=>by
  have e:∀i,z1K k (fun l=>X i l*if l<j then c l else 0)=z1K j fun l=>X i l*c l:=fun i=>by
   obtain ⟨m,rfl⟩:∃m,k=j+m:=⟨k - j,by omega⟩
   clear hj
   induction m with
   | zero=>exact z0H fun l hl=>by rw [if_pos (by omega)]
   | succ m ih =>
    have hb:∀m,z1K (j+m) (fun l=>X i l*if l<j then c l else 0)=z1K j fun l=>X i l*c l:=fun m=>by
     induction m with
     | zero=>exact z0H fun l hl=>by rw [if_pos (by omega)]
     | succ m ih=>rw [←Nat.add_assoc,z1K,ih,if_neg (by omega),Rat.mul_zero,Rat.add_zero]
    exact hb _
  unfold Ker
  exact ⟨fun g i hi=>by rw [e];exact g i hi,fun g i hi=>by rw [←e];exact g i hi⟩
 have hKB:z14 n j M R:=fun c=>by rw [ext M,ext R];exact hK _
 refine y6V hA hKA hB hKB (fun l c=>if l=c then 1 else 0) fun i hi c hc=>?_
 rw [z1U (k:=c) (by omega) fun l _ hl=>by rw [if_neg hl,Rat.mul_zero],if_pos rfl,Rat.mul_one]
theorem y9T (n k:Nat) (M:Mt):(rrP n k M).length≤k:=by
 obtain ⟨a1,_⟩:=y5E n k M
 have:∀a,a<(rrP n k M).length→a≤(rrP n k M).getD a 0:=by
  intro a
  induction a with
  | zero=>intro _;exact Nat.zero_le _
  | succ a ih =>
   intro ha
   have h1:=ih (by omega)
   have h2:=a1.inc a (a+1) (by omega) ha
   omega
 by_cases h:(rrP n k M).length=0
 ·omega
 ·have h1:=this ((rrP n k M).length - 1) (by omega)
  have h2:=a1.lt ((rrP n k M).length - 1) (by omega)
  omega
structure Grp where
 nm:List Bs
 cl:DV
 r:cl.rf=true
 o:cl.one=true
instance:Inhabited Grp:=⟨⟨[],.nilp,rfl,rfl⟩⟩
def gpC (g:Grp):List DV:=[.sl 1 (z0L g.nm),g.cl]
theorem z1y (g:Grp):(gpC g).length=2:=rfl
theorem z5f (g:Grp):(DV.agg (gpC g)).cells? = some (gpC g):=by
 show (if (gpC g).all DV.one=true then some (gpC g) else none)=_
 have:(gpC g).all DV.one=true:=by
  simp only [gpC,List.all_cons,g.o,List.all_nil];rfl
 rw [if_pos this]
def gps (l:List Grp):List DV:=l.flatMap gpC
theorem z2C (l:List Grp):(gps l).length=l.length*2:=z34 z1y l
theorem z35 (g:Grp):∀d∈gpC g,d.rf=true:=by
 intro d hd
 simp only [gpC,List.mem_cons,List.not_mem_nil,or_false] at hd
 rcases hd with rfl|rfl
 ·rfl
 ·exact g.r
theorem w0l (g:Grp):∀d∈gpC g,d.one=true:=by
 intro d hd
 simp only [gpC,List.mem_cons,List.not_mem_nil,or_false] at hd
 rcases hd with rfl|rfl
 ·rfl
 ·exact g.o
theorem z7E (l:List Grp):∀d∈gps l,d.rf=true:=x0r z35 l
def GV (P:Program) (g:Grp) (r:Nat) (l:List Rat):Prop:=∃f cs,z6N g.cl f cs∧z0U P f∧cs.all DV.rf=true∧z0c P f ([.int .i64 (r:Nat)]++cs) (.sl 3 (nums l))
theorem x12 {q:Rat} {b:Nat} (h:BS q b):∀i:Nat,BS (q ^ i) (i*b+1)
 | 0=>by rw [Rat.pow_zero];exact x8w.mono (by omega)
 | i+1=>by
  rw [Rat.pow_succ]
  exact (z5r (x12 h i) h).mono (by rw [Nat.succ_mul];omega)
theorem w28 (k n:Nat):ctD k n=.tup [.sl 1 ((List.range n).map fun i=>.sl 3 (nums (ctR k n i))),.int .i64 0]:=by
 unfold ctD nums ctR
 have:∀i,((List.range (ctC k n)).flatMap fun j=>xnC (qX (ctE k n i j)))=((List.range (ctC k n)).map fun j=>((ctE k n i j:Int):Rat)).flatMap z0T:=fun i=>by rw [List.flatMap_map];rfl
 simp only [this]
def ctL (k n:Nat):List DV:=(List.range n).map fun i=>.sl 3 (nums (ctR k n i))
theorem x90 (k n:Nat):(ctL k n).length=n:=by unfold ctL;rw [List.length_map,List.length_range]
theorem x9Z {k n i:Nat} (h:i<n) (d:DV):(ctL k n).getD i d=.sl 3 (nums (ctR k n i)):=by
 unfold ctL
 rw [zO1,List.getElem?_map,List.getElem?_range h];rfl
theorem z2H (l:List Bs):∀d∈z0L l,d.rf=true:=by
 intro d hd
 unfold z0L at hd
 obtain ⟨_,_,rfl⟩:=List.mem_map.1 hd
 rfl
def x54 (l:List Bs) (n i:Nat):List DV:=z0L (l.take i)++List.replicate (n - i) (.str [])
theorem w3p (l:List Bs) (n:Nat):rep n [DV.str []]=x54 l n 0:=by
 unfold x54
 rw [List.take_zero,Nat.sub_zero]
 rfl
theorem x6H {l:List Bs} {n i:Nat} (h:l.length=n) (hi:i≤n):(x54 l n i).length=n:=by
 unfold x54 z0L
 rw [List.length_append,List.length_map,List.length_take,List.length_replicate];omega
theorem x6I {l:List Bs} {n i:Nat} (h:l.length=n) (hi:i<n):(x54 l n i).set i (.str (l.getD i []))=x54 l n (i+1):=by
 have e:(z0L (l.take i)).length=i:=by unfold z0L;rw [List.length_map,List.length_take];omega
 unfold x54
 rw [List.set_append_right _ _ (by omega),e,Nat.sub_self,show n - i=(n - (i+1))+1 by omega,List.replicate_succ,List.set_cons_zero]
 have:l.take (i+1)=l.take i++[l.getD i []]:=z0z [] (by omega)
 rw [this]
 unfold z0L
 rw [List.map_append,List.append_assoc];rfl
theorem x6G {l:List Bs} {n:Nat} (h:l.length=n):x54 l n n=z0L l:=by
 unfold x54
 rw [Nat.sub_self,List.replicate_zero,List.append_nil,List.take_of_length_le (by omega)]
def w4P (n:Nat) (S:List Kx) (m:Mdl) (r:Nat):Prop:=r<n∧∀s∈z13 m,x03 r (z4T S s)=false
theorem x5p {n:Nat} {S:List Kx} {m:Mdl} {r:Nat} (h:r∈z1R n S m):w4P n S m r:=by
 unfold z1R z1c at h
 rw [List.mem_filter,List.mem_range] at h
 refine ⟨h.1,fun s hs=>?_⟩
 have h2:=h.2
 rw [Bool.not_eq_true',List.any_eq_false] at h2
 have:=h2 (z4T S s) (by unfold z22;exact List.mem_map.2 ⟨s,hs,rfl⟩)
 simpa using this
theorem y1T {m:Mdl} {t:List Fac} {f:Fac} (ht:t∈m.tm) (hf:f∈t):f.nm∈z13 m:=by
 unfold z13
 exact List.mem_cons_of_mem _ (List.mem_flatMap.2 ⟨t,ht,List.mem_map.2 ⟨f,hf,rfl⟩⟩)
structure DK (P:Program) (fp fm:Nat) (n:Nat) (S:List Kx) (m:Mdl) (cod:Nat):Prop where
 ok:S.length≤1000000∧∀k∈S,k.nm.length≤9223372036854775807∧k.le.length≤1000000∧k.ce.length≤1000000∧∀c∈k.ce,y9z c.va
 tv:x10 n S=true
 vs:∀s∈z13 m,0≤ixS (z1t S) s
 c4:1≤cod∧cod≤4
 pw:∀t∈m.tm,∀f∈t,1≤f.pw∧f.pw≤8
 tl:m.tm.length≤32∧∀t∈m.tm,1≤t.length∧t.length≤6
 nl:∀k∈S,k.nm.length≤1000000∧∀s∈k.le,s.length≤1000000
 nu:∀k∈S,∀c∈k.ce,c.va=qX (xnV c.va)∧BS (xnV c.va) 100
 lv:∀k∈S,k.kd≠1→1≤k.le.length∧k.le.length≤3
 pr:∀t∈m.tm,∀f∈t,z0c P fp [.el (z5c n S m cod) 0,.sl 2 (fcs (t.filter fun x=>!decide (x=f)))] (.bool (x1i m (t.filter fun x=>!decide (x=f))))
 mx:∀k∈S,k.kd≠1→∀c:Nat,1≤c→c≤4→z0c P fm [.int .i64 c,.int .i64 k.le.length] (ctD c k.le.length)
theorem z8P {S:List Kx} {s:Bs} (h:0≤ixS (z1t S) s):z4T S s∈S:=by
 have hbd:=z9r s (z1t S)
 rw [z1b] at hbd
 exact z6j (by omega)
theorem z91 {n:Nat} {S:List Kx} (h:x10 n S=true) {k:Kx} (hk:k∈S):(k.kd=1∨k.kd=2)∧k.ce.length=n∧(∀c∈k.ce,y8H k c=true)∧k.le.length≤32∧(k.kd=1→k.le=[]):=by
 unfold x10 at h
 simp only [Bool.and_eq_true,decide_eq_true_eq,List.all_eq_true] at h
 have h1:=h.2 k hk
 unfold x1W x1Z at h1
 simp only [Bool.and_eq_true,Bool.or_eq_true,decide_eq_true_eq,List.all_eq_true,Bool.not_eq_true',Bool.and_eq_false_iff,decide_eq_false_iff_not] at h1
 obtain ⟨⟨⟨⟨⟨h2,h3⟩,h4⟩,h5⟩,_⟩,h6⟩:=h1
 refine ⟨h2,by omega,h6,h4,fun h=>?_⟩
 rcases h3 with h3|h3
 ·exact absurd h h3
 ·exact List.eq_nil_of_length_eq_zero (by omega)
theorem w3q {k:Kx} {x:Tc} (h:y8H k x=true) (h1:x.mi=false) (h2:k.kd≠1):0≤x.lv∧x.lv<k.le.length:=by
 unfold y8H at h
 rw [h1,if_neg (by decide),if_neg h2] at h
 simp only [Bool.and_eq_true,decide_eq_true_eq] at h
 exact ⟨h.1.2,h.2⟩
theorem w29 {k n i j:Nat} (hj:j<32):(ctE k n i j).natAbs≤33:=by
 unfold ctE
 simp only
 repeat' split
 all_goals omega
theorem w2M {z:Int} (h:z.natAbs≤63):BS ((z:Int):Rat) 6:=⟨by rw [Rat.num_intCast];omega,by rw [Rat.den_intCast];decide⟩
theorem w3b {k n l:Nat} (hn:n≤32):∀x∈ctR k n l,BS x 6:=by
 intro x hx
 unfold ctR at hx
 obtain ⟨j,hj,rfl⟩:=List.mem_map.1 hx
 rw [List.mem_range] at hj
 have hc:ctC k n≤n:=by unfold ctC;split<;>omega
 have:=@w29 k n l j (by omega)
 exact w2M (by omega)
end Nat32
namespace Nat32
open Go Go.Dat Go.Lib
def x52 (P:Program) (ok:Nat→Prop) (G:List Grp) (L:List (List Bs × (Nat→List Rat))):Prop :=
 G.length=L.length∧∀i,i<G.length→(G.getD i default).nm=(L.getD i default).1∧∀r,ok r→GV P (G.getD i default) r ((L.getD i default).2 r)
theorem x52.nil (P:Program) (ok:Nat→Prop):x52 P ok [] []:=⟨rfl,fun i h=>by cases h⟩
theorem x52.snoc {P:Program} {ok:Nat→Prop} {G:List Grp} {L:List (List Bs × (Nat→List Rat))} (h:x52 P ok G L) {g:Grp} {p:List Bs × (Nat→List Rat)} (h1:g.nm=p.1) (h2:∀r,ok r→GV P g r (p.2 r)):x52 P ok (G++[g]) (L++[p]):=by
 obtain ⟨e,hi⟩:=h
 refine ⟨by rw [List.length_append,List.length_append,e];rfl,fun i h=>?_⟩
 rw [List.length_append] at h
 rcases Nat.lt_or_ge i G.length with h'|h'
 ·have e1:(G++[g]).getD i default=G.getD i default:=by rw [zO1,List.getElem?_append_left h',←zO1]
  have e2:(L++[p]).getD i default=L.getD i default:=by rw [zO1,List.getElem?_append_left (by omega),←zO1]
  rw [e1,e2];exact hi i h'
 ·have h':i=G.length:=by have:[g].length=1:=rfl;omega
  subst h'
  have e1:(G++[g]).getD G.length default=g:=by rw [zO1,List.getElem?_append_right (Nat.le_refl _),Nat.sub_self];rfl
  have e2:(L++[p]).getD G.length default=p:=by rw [e,zO1,List.getElem?_append_right (Nat.le_refl _),Nat.sub_self];rfl
  rw [e1,e2];exact ⟨h1,h2⟩
theorem x52.names {P:Program} {ok:Nat→Prop} {G:List Grp} {L:List (List Bs × (Nat→List Rat))} (h:x52 P ok G L):G.map Grp.nm=L.map Prod.fst:=by
 obtain ⟨e,hi⟩:=h
 refine List.ext_getElem? fun i=>?_
 rw [List.getElem?_map,List.getElem?_map]
 by_cases hl:i<G.length
 ·have:=(hi i hl).1
  rw [zO1,zO4 hl,zO1,zO4 (by omega)] at this
  rw [zO4 hl,zO4 (by omega)]
  exact congrArg some this
 ·rw [List.getElem?_eq_none (by omega),List.getElem?_eq_none (by omega)];rfl
def y6n (G:List Grp) (n j:Nat):List DV:=gps (G.take j)++rep (n - j) [.nils,.undef]
theorem w3o (G:List Grp) (n:Nat):rep n [DV.nils,.undef]=y6n G n 0:=by unfold y6n;rw [List.take_zero,Nat.sub_zero];rfl
theorem y8G {G:List Grp} {n j:Nat} (h:G.length=n) (hj:j≤n):(y6n G n j).length=n*2:=by
 unfold y6n
 rw [List.length_append,z2C,List.length_take,(w6I (n - j) .nils .undef rfl).1];omega
theorem x6D {G:List Grp} {n j:Nat} (h:G.length=n) (hj:j<n):(y6n G n j).take (j*2)++gpC (G.getD j default)++(y6n G n j).drop (j*2+2)=y6n G n (j+1):=by
 have e:(gps (G.take j)).length=j*2:=by rw [z2C,List.length_take];congr 1;omega
 have hr:rep (n - j) [DV.nils,.undef]=[.nils,.undef]++rep (n - (j+1)) [DV.nils,.undef]:=by
  rw [show n - j=(n - (j+1))+1 by omega]
  show (List.replicate _ _).flatten=_++(List.replicate _ _).flatten
  rw [List.replicate_succ,List.flatten_cons]
 unfold y6n
 rw [hr,List.take_append_of_le_length (by omega),List.take_of_length_le (by omega),List.drop_append,List.drop_of_length_le (by omega),List.nil_append,show j*2+2 - (gps (G.take j)).length=2 by omega,z0z default (show j<G.length by omega)]
 unfold gps
 rw [y2h];rfl
theorem x6C {G:List Grp} {n:Nat} (h:G.length=n):y6n G n n=gps G:=by
 unfold y6n
 rw [Nat.sub_self,List.take_of_length_le (by omega)]
 show gps G++[]=_
 rw [List.append_nil]
theorem w0d (G:List Grp) (n j:Nat):∀d∈y6n G n j,d.rf=true:=by
 intro d hd
 unfold y6n at hd
 rcases List.mem_append.1 hd with h|h
 ·exact z7E _ d h
 ·exact (w6I (n - j) .nils .undef rfl).2 d h
theorem w0c {G:List Grp} {n j:Nat} (h:G.length=n) (hj:j<n):(y6n G n (j+1)).getD (j*2) .undef=.sl 1 (z0L (G.getD j default).nm):=by
 unfold y6n
 have e:j<(G.take (j+1)).length:=by rw [List.length_take];omega
 rw [zO1,List.getElem?_append_left (by rw [z2C];omega),←zO1]
 have h1:(gps (G.take (j+1))).getD (j*2) .undef=(gpC ((G.take (j+1)).getD j default)).getD 0 .undef:=y4o (j:=0) z1y default e (by decide) .undef
 rw [h1]
 have:(G.take (j+1)).getD j default=G.getD j default:=by
  rw [zO1,List.getElem?_take_of_lt (by omega),←zO1]
 rw [this];rfl
section
variable {P:Program} {fp fm n cod:Nat} {S:List Kx} {m:Mdl}
theorem dd9:∀p,p<40→(decDigits p).length≤2:=by decide +kernel
theorem z6z (h:DK P fp fm n S m cod) {t:List Fac} {f:Fac} (ht:t∈m.tm) (hf:f∈t):(z99 S m cod t f).length≤3∧∀s∈z99 S m cod t f,s.length≤2000010:=by
 have hkm:=z8P (h.vs _ (y1T ht hf))
 obtain ⟨n1,n2⟩:=h.nl _ hkm
 have hpw:=h.pw t ht f hf
 unfold z99
 split
 ·refine ⟨by show 1≤3;omega,fun s hs=>?_⟩
  rw [List.mem_singleton.1 hs]
  have:=dd9 f.pw.toNat (by omega)
  split
  ·omega
  ·rw [List.length_append,List.length_cons];omega
 ·rename_i h1
  have hl:=h.lv _ hkm h1
  have hcb:∀c,ctC c (z4T S f.nm).le.length≤(z4T S f.nm).le.length:=fun c=>by unfold ctC;split<;>omega
  have:=hcb (x6r m cod t f).toNat
  refine ⟨by rw [List.length_map,y18];omega,fun s hs=>?_⟩
  obtain ⟨u,hu,rfl⟩:=List.mem_map.1 hs
  unfold ctN at hu
  obtain ⟨j,hj,rfl⟩:=List.mem_map.1 hu
  rw [List.mem_range] at hj
  have hg:∀i,((z4T S f.nm).le.getD i []).length≤1000000:=fun i=>by
   by_cases hi:i<(z4T S f.nm).le.length
   ·exact n2 _ (z1J hi)
   ·rw [zO1,List.getElem?_eq_none (by omega)];decide
  have h1:=hg j
  have h2:=hg (j+1)
  have h3:=dd9 (j+1) (by omega)
  rw [List.length_append]
  split
  ·rw [List.length_cons];omega
  ·split
   ·rw [List.length_cons];omega
   ·rw [List.length_cons];omega
theorem y6m (h:DK P fp fm n S m cod) {t:List Fac} {f:Fac} (ht:t∈m.tm) (hf:f∈t) {r:Nat} (hr:r<n):∀x∈y2e S m cod t f r,BS x 900:=by
 have hkm:=z8P (h.vs _ (y1T ht hf))
 obtain ⟨_,hcl,_,h32,_⟩:=z91 h.tv hkm
 have hpw:=h.pw t ht f hf
 intro x hx
 unfold y2e at hx
 split at hx
 ·rw [List.mem_singleton.1 hx]
  obtain ⟨_,q2⟩:=h.nu _ hkm ((z4T S f.nm).ce.getD r default) (z6j (by rw [hcl];exact hr))
  refine (x12 q2 f.pw.toNat).mono ?_
  have:f.pw.toNat*100≤8*100:=Nat.mul_le_mul_right _ (by omega)
  omega
 ·exact (w3b (by omega) x hx).mono (by decide)
def x59 (S:List Kx) (m:Mdl) (cod:Int) (t fs:List Fac) (f:Fac) (k:Nat):List Bs:=(fs.take k).foldl (fun g h=>z92 g (z99 S m cod t h)) (z99 S m cod t f)
def x6a (S:List Kx) (m:Mdl) (cod:Int) (t fs:List Fac) (f:Fac) (k r:Nat):List Rat:=(fs.take k).foldl (fun g h=>z7W g (y2e S m cod t h r)) (y2e S m cod t f r)
theorem z8m (t:List Fac) {fs:List Fac} (f:Fac) {k:Nat} (hk:k<fs.length):x59 S m cod t fs f (k+1)=z92 (x59 S m cod t fs f k) (z99 S m cod t (fs.getD k default)):=by
 unfold x59;rw [z0z default hk,List.foldl_append];rfl
theorem z8n (t:List Fac) {fs:List Fac} (f:Fac) (r:Nat) {k:Nat} (hk:k<fs.length):x6a S m cod t fs f (k+1) r=z7W (x6a S m cod t fs f k r) (y2e S m cod t (fs.getD k default) r):=by
 unfold x6a;rw [z0z default hk,List.foldl_append];rfl
theorem y7W (t:List Fac) {fs:List Fac} (f:Fac) (r:Nat):∀{k:Nat},k≤fs.length→(x6a S m cod t fs f k r).length=(x59 S m cod t fs f k).length
 | 0,_=>z4G S m cod t f r
 | k+1,hk=>by rw [z8n t f r hk,z8m t f hk,z6g,z4R,y7W t f r (by omega),z4G]
theorem y1X (h:DK P fp fm n S m cod) {t fs:List Fac} {f:Fac} (ht:t∈m.tm) (hf:f∈t) (hfs:∀f∈fs,f∈t):∀{k:Nat},k≤fs.length→(x59 S m cod t fs f k).length≤3 ^ (k+1)∧∀s∈x59 S m cod t fs f k,s.length≤(k+1)*2000020
 | 0,_=>⟨(z6z h ht hf).1,fun s hs=>Nat.le_trans ((z6z h ht hf).2 s hs) (by decide)⟩
 | k+1,hk=>by
  obtain ⟨i1,i2⟩:=y1X h ht hf hfs (show k≤fs.length by omega)
  obtain ⟨b1,b2⟩:=z6z h ht (hfs _ (z6j hk))
  rw [z8m t f hk]
  refine ⟨?_,fun s hs=>?_⟩
  ·rw [z4R,Nat.pow_succ,Nat.mul_comm]
   exact Nat.mul_le_mul i1 b1
  ·unfold z92 at hs
   obtain ⟨u,hu,hs⟩:=List.mem_flatMap.1 hs
   obtain ⟨v,hv,rfl⟩:=List.mem_map.1 hs
   have h1:=i2 v hv
   have h2:=b2 u hu
   rw [List.length_append,List.length_cons,Nat.succ_mul]
   omega
theorem y59 (h:DK P fp fm n S m cod) {t fs:List Fac} {f:Fac} (ht:t∈m.tm) (hf:f∈t) (hfs:∀f∈fs,f∈t) {r:Nat} (hr:r<n):∀{k:Nat},k≤fs.length→∀x∈x6a S m cod t fs f k r,BS x ((k+1)*900)
 | 0,_=>fun x hx=>(y6m h ht hf hr x hx).mono (by decide)
 | k+1,hk=>by
  intro x hx
  rw [z8n t f r hk] at hx
  unfold z7W at hx
  obtain ⟨u,hu,hx⟩:=List.mem_flatMap.1 hx
  obtain ⟨v,hv,rfl⟩:=List.mem_map.1 hx
  exact (z5r (y59 h ht hf hfs hr (show k≤fs.length by omega) v hv) (y6m h ht (hfs _ (z6j hk)) hr u hu)).mono (by rw [Nat.succ_mul (k+1)];exact Nat.le_refl _)
theorem x2a {t fs:List Fac} {f:Fac} (ht:t=f::fs):x59 S m cod t fs f fs.length=w5i S m cod t∧∀r,x6a S m cod t fs f fs.length r=x8p S m cod t r:=by
 subst ht
 unfold x59 x6a
 rw [List.take_length]
 exact ⟨rfl,fun r=>rfl⟩
def x5U (S:List Kx) (m:Mdl) (cod:Int) (t:List Fac) (j:Nat):Nat:=(t.take j).foldl (fun w f=>w*max 1 (z99 S m cod t f).length) 1
theorem y5Z {t:List Fac} {j:Nat} (hj:j<t.length):x5U S m cod t (j+1)=x5U S m cod t j*max 1 (z99 S m cod t (t.getD j default)).length:=by
 unfold x5U;rw [z0z default hj,List.foldl_append];rfl
theorem y7N (h:DK P fp fm n S m cod) {t:List Fac} (ht:t∈m.tm):∀{j:Nat},j≤t.length→x5U S m cod t j≤3 ^ j
 | 0,_=>Nat.le_refl _
 | j+1,hj=>by
  rw [y5Z hj,Nat.pow_succ]
  have:=(z6z h ht (z6j hj)).1
  exact Nat.mul_le_mul (y7N h ht (by omega)) (by omega)
def w6U (S:List Kx) (m:Mdl) (cod:Int) (t:List Fac):List Bs × (Nat→List Rat):=(w5i S m cod t,x8p S m cod t)
def icL (m:Mdl):List (List Bs × (Nat→List Rat)):=if m.ic then [([[40,73,110,116,101,114,99,101,112,116,41]],fun _=>[1])] else []
def z3n (S:List Kx) (m:Mdl) (cod:Int) (i:Nat):List (List Bs × (Nat→List Rat)):=icL m++((m.tm.take i).filter (y1E S m cod)).map (w6U S m cod)
theorem x6t {i:Nat} (hi:i<m.tm.length) (h:y1E S m cod (m.tm.getD i [])=true):z3n S m cod (i+1)=z3n S m cod i++[w6U S m cod (m.tm.getD i [])]:=by
 unfold z3n
 rw [z0z [] hi,List.filter_append,List.map_append,List.filter_cons,if_pos h,List.append_assoc];rfl
theorem x92 {i:Nat} (hi:i<m.tm.length) (h:y1E S m cod (m.tm.getD i [])=false):z3n S m cod (i+1)=z3n S m cod i:=by
 unfold z3n
 rw [z0z [] hi,List.filter_append,List.filter_cons,if_neg (by rw [h];decide)];simp
theorem w3d:(z3n S m cod m.tm.length).flatMap Prod.fst=y00 S m cod:=by
 unfold z3n y00 icL icN x00
 rw [List.take_length,List.flatMap_append,List.flatMap_map]
 split<;>rfl
theorem w3e (r:Nat):(z3n S m cod m.tm.length).flatMap (fun p=>p.2 r)=z98 S m cod r:=by
 unfold z3n z98 icL icV x00
 rw [List.take_length,List.flatMap_append,List.flatMap_map]
 split<;>rfl
def y0b (S:List Kx) (m:Mdl) (cod:Int) (i:Nat):Nat:=(if m.ic then 1 else 0)+(((m.tm.take i).filter (y1E S m cod)).map fun t=>x5U S m cod t t.length).sum
theorem y71 {i:Nat} (hi:i<m.tm.length) (h:y1E S m cod (m.tm.getD i [])=true):y0b S m cod (i+1)=y0b S m cod i+x5U S m cod (m.tm.getD i []) (m.tm.getD i []).length:=by
 unfold y0b
 rw [z0z [] hi,List.filter_append,List.map_append,List.filter_cons,if_pos h,List.sum_append]
 simp only [List.filter_nil,List.map_cons,List.map_nil,List.sum_cons,List.sum_nil]
 omega
theorem x2s {i:Nat} (hi:i<m.tm.length) (h:y1E S m cod (m.tm.getD i [])=false):y0b S m cod (i+1)=y0b S m cod i:=by
 unfold y0b
 rw [z0z [] hi,List.filter_append,List.filter_cons,if_neg (show ¬y1E S m cod (m.tm.getD i [])=true by rw [h];decide)];simp
theorem z8t {i:Nat}:∀{j:Nat},j≤m.tm.length→i≤j→y0b S m cod i≤y0b S m cod j
 | 0,_,h=>by rw [Nat.le_zero.1 h];exact Nat.le_refl _
 | j+1,hj,h=>by
  by_cases e:i=j+1
  ·rw [e];exact Nat.le_refl _
  ·have ih:=z8t (i:=i) (show j≤m.tm.length by omega) (by omega)
   cases hk:y1E S m cod (m.tm.getD j [])
   ·rw [x2s hj hk];exact ih
   ·rw [y71 hj hk];omega
end
end Nat32
namespace Nat32
open Go Go.Dat
def nmU (G:List Grp) (i:Nat):List Bs:=(G.take i).flatMap Grp.nm
theorem y9x {G:List Grp} {i:Nat} (h:i<G.length):nmU G (i+1)=nmU G i++(G.getD i default).nm:=by
 unfold nmU;rw [z0z default h,List.flatMap_append];simp
def vlU (L:List (List Bs × (Nat→List Rat))) (r i:Nat):List Rat:=(L.take i).flatMap fun p=>p.2 r
theorem y99 {L:List (List Bs × (Nat→List Rat))} {r i:Nat} (h:i<L.length):vlU L r (i+1)=vlU L r i++(L.getD i default).2 r:=by
 unfold vlU;rw [z0z default h,List.flatMap_append];simp
def rwU (S:List Kx) (m:Mdl) (cod:Int) (R:List Nat) (i:Nat):List DV:=(R.take i).map fun r=>.sl 3 (nums (z98 S m cod r))
theorem x7V {S:List Kx} {m:Mdl} {cod:Int} {R:List Nat} {i:Nat} (h:i<R.length):rwU S m cod R i++[.sl 3 (nums (z98 S m cod (R.getD i 0)))]=rwU S m cod R (i+1):=by
 unfold rwU;rw [z0z 0 h,List.map_append];rfl
theorem x5s {S:List Kx} {m:Mdl} {cod:Int} {R:List Nat} {i:Nat} (h:i≤R.length):(rwU S m cod R i).length=i:=by
 unfold rwU;rw [List.length_map,List.length_take];omega
theorem y1Q (S:List Kx) (m:Mdl) (cod:Int) (R:List Nat) (i:Nat):∀d∈rwU S m cod R i,d.rf=true:=by
 intro d hd
 unfold rwU at hd
 obtain ⟨_,_,rfl⟩:=List.mem_map.1 hd
 rfl
def yU (S:List Kx) (m:Mdl) (R:List Nat) (i:Nat):List Rat:=(R.take i).map (x1X S m)
theorem w2B {S:List Kx} {m:Mdl} {R:List Nat} {i:Nat} (h:i<R.length):nums (yU S m R i)++z0T (x1X S m (R.getD i 0))=nums (yU S m R (i+1)):=by
 unfold yU;rw [z0z 0 h,List.map_append,z4s];rfl
theorem x9F {S:List Kx} {m:Mdl} {R:List Nat} {i:Nat} (h:i≤R.length):(nums (yU S m R i)).length=i*3:=by
 unfold yU;rw [z1A,List.length_map,List.length_take];congr 1;omega
theorem y9R {R:List Nat} {i:Nat} (h:i<R.length) (d:DV):(ints R).getD i d=.int .i64 (R.getD i 0:Nat):=by
 unfold ints
 rw [zO1,List.getElem?_map,zO4 h,zO1,zO4 h];rfl
theorem x7T {R:List Nat} {i:Nat} (h:i<R.length):R.getD i 0∈R:=by rw [zO1,zO4 h];exact List.getElem_mem h
theorem x6s {S:List Kx} {m:Mdl} {cod:Int} {i k:Nat} (hi:i<(z3n S m cod k).length):(z3n S m cod k).getD i default=([[40,73,110,116,101,114,99,101,112,116,41]],fun _=>[1])∨∃t∈m.tm,(z3n S m cod k).getD i default=w6U S m cod t:=by
 have hm:(z3n S m cod k).getD i default∈z3n S m cod k:=by rw [zO1,zO4 hi];exact List.getElem_mem hi
 generalize (z3n S m cod k).getD i default=p at *
 unfold z3n at hm
 rcases List.mem_append.1 hm with h|h
 ·unfold icL at h
  split at h
  ·exact .inl (List.mem_singleton.1 h)
  ·cases h
 ·obtain ⟨t,ht,rfl⟩:=List.mem_map.1 h
  exact .inr ⟨t,List.mem_of_mem_take (List.mem_filter.1 ht).1,rfl⟩
theorem w5k {P:Program} {fp fm n cod:Nat} {S:List Kx} {m:Mdl} (h:DK P fp fm n S m cod) {t:List Fac} (ht:t∈m.tm) :
  (w5i S m cod t).length≤729∧∀r,r<n→∀x∈x8p S m cod t r,BS x 6000:=by
 have htl:=h.tl.2 t ht
 cases t with
 | nil=>exact absurd htl.1 (by decide)
 | cons f fs =>
  have h0:f∈f::fs:=List.mem_cons_self
  have hts:∀g∈fs,g∈f::fs:=fun g hg=>List.mem_cons_of_mem _ hg
  have hl:fs.length≤5:=by have:=htl.2;rw [List.length_cons] at this;omega
  obtain ⟨e1,e2⟩:=x2a (S:=S) (m:=m) (cod:=cod) (t:=f::fs) (f:=f) (fs:=fs) rfl
  refine ⟨?_,fun r hr x hx=>?_⟩
  ·rw [←e1]
   have h3:∀k,k<7→3 ^ k≤729:=by decide
   exact Nat.le_trans (y1X h ht h0 hts (Nat.le_refl _)).1 (h3 _ (by omega))
  ·rw [←e2] at hx
   refine (y59 h ht h0 hts hr (Nat.le_refl _) x hx).mono ?_
   have:(fs.length+1)*900≤6*900:=Nat.mul_le_mul_right _ (by omega)
   omega
theorem z6t {P:Program} {fp fm n cod:Nat} {S:List Kx} {m:Mdl} (h:DK P fp fm n S m cod) {i:Nat} (hi:i<(z3n S m cod m.tm.length).length) :
  ((z3n S m cod m.tm.length).getD i default).1.length≤729∧∀r,r<n→(((z3n S m cod m.tm.length).getD i default).2 r).length≤729∧∀x∈((z3n S m cod m.tm.length).getD i default).2 r,BS x 6000:=by
 rcases x6s hi with e|⟨t,ht,e⟩
 ·rw [e]
  exact ⟨by decide,fun r _=>⟨(by show 1≤729;omega),fun x hx=>by rw [List.mem_singleton.1 hx];exact x8w.mono (by decide)⟩⟩
 ·rw [e]
  obtain ⟨a,b⟩:=w5k h ht
  refine ⟨a,fun r hr=>⟨?_,b r hr⟩⟩
  show (x8p S m cod t r).length≤729
  rw [x8q];exact a
theorem w2s {S:List Kx} {m:Mdl} {cod:Nat} (r:Nat):vlU (z3n S m cod m.tm.length) r (z3n S m cod m.tm.length).length=z98 S m cod r:=by
 unfold vlU
 rw [List.take_length];exact w3e r
theorem x5S {P:Program} {fp fm n cod:Nat} {S:List Kx} {m:Mdl} (h:DK P fp fm n S m cod) {r:Nat} (hr:r<n):∀{i:Nat},i≤(z3n S m cod m.tm.length).length→(vlU (z3n S m cod m.tm.length) r i).length≤i*729
 | 0,_=>by simp [vlU]
 | i+1,hi=>by
  rw [y99 hi,List.length_append,Nat.succ_mul]
  have h1:=x5S h hr (show i≤_ by omega)
  have h2:=((z6t h hi).2 r hr).1
  omega
def z6V (rows:List (List Rat)):List DV:=rows.map fun l=>.sl 3 (nums l)
theorem z6b (rows:List (List Rat)):(z6V rows).length=rows.length:=List.length_map _
theorem w1T (rows:List (List Rat)):∀d∈z6V rows,d.rf=true:=by
 intro d hd
 unfold z6V at hd
 obtain ⟨_,_,rfl⟩:=List.mem_map.1 hd
 rfl
theorem y9X {rows:List (List Rat)} {i:Nat} (h:i<rows.length) (d:DV):(z6V rows).getD i d=.sl 3 (nums (rows.getD i [])):=by
 unfold z6V
 rw [zO1,List.getElem?_map,zO4 h,zO1,zO4 h];rfl
def w4h:List Mdl :=
 [⟨[121],true,[[⟨[120],1⟩]]⟩,
 ⟨[121],true,[[⟨[103],1⟩]]⟩,
 ⟨[121],false,[[⟨[103],1⟩]]⟩,
 ⟨[121],true,[[⟨[120],1⟩],[⟨[103],1⟩],[⟨[120],1⟩,⟨[103],1⟩]]⟩,
 ⟨[121],true,[[⟨[103],1⟩],[⟨[104],1⟩],[⟨[103],1⟩,⟨[104],1⟩]]⟩,
 ⟨[121],true,[[⟨[103],1⟩],[⟨[103],1⟩,⟨[104],1⟩]]⟩,
 ⟨[121],true,[[⟨[103],1⟩,⟨[104],1⟩]]⟩,
 ⟨[121],false,[[⟨[120],1⟩],[⟨[104],1⟩]]⟩,
 ⟨[121],true,[[⟨[120],2⟩],[⟨[120],1⟩]]⟩,
 ⟨[121],true,[[⟨[120],1⟩],[⟨[120],1⟩,⟨[103],1⟩]]⟩,
 ⟨[121],true,[]⟩,
 ⟨[121],true,[[⟨[103],1⟩],[⟨[104],1⟩],[⟨[120],1⟩]]⟩,
 ⟨[121],true,[[⟨[103],1⟩],[⟨[103],1⟩,⟨[104],1⟩]]⟩,
 ⟨[121],true,[[⟨[104],1⟩],[⟨[103],1⟩],[⟨[104],1⟩,⟨[103],1⟩]]⟩,
 ⟨[121],true,[[⟨[120],1⟩],[⟨[103],1⟩,⟨[104],1⟩]]⟩,
 ⟨[121],false,[[⟨[120],1⟩],[⟨[103],1⟩,⟨[104],1⟩]]⟩,
 ⟨[121],true,[[⟨[120],1⟩,⟨[103],1⟩]]⟩,
 ⟨[121],true,[[⟨[103],1⟩],[⟨[104],1⟩]]⟩,
 ⟨[121],false,[[⟨[103],1⟩],[⟨[104],1⟩]]⟩]
def kM (i:Nat):Mdl:=w4h.getD i default
def idT (k:Nat):List (List Rat):=(List.range k).map fun i=>(List.range k).map fun j=>if i=j then 1 else 0
def w68:List (Nat × List (List (List (List Rat)))) :=
 [(2,[[idT 2,idT 2,idT 2],[idT 2,idT 2,idT 2],[idT 2,idT 2,idT 2]]),
 (3,[[idT 3,[[1,1,0],[0,-1,1],[0,-2,-1]],[[1,-1,-1],[0,2,0],[0,1,3]]],[[[1,1/3,1/3],[0,-1/3,-1/3],[0,2/3,-1/3]],idT 3,[[1,0,0],[0,-1,-1],[0,1,-1]]],[[[1,1/3,1/3],[0,1/2,0],[0,-1/6,1/3]],[[1,0,0],[0,-1/2,1/2],[0,-1/2,-1/2]],idT 3]]),
 (3,[[idT 3,[[1,0,0],[0,1,0],[0,0,1]],[[1,0,0],[0,1,0],[0,0,1]]],[[[1,0,0],[0,1,0],[0,0,1]],idT 3,[[1,0,0],[0,1,0],[0,0,1]]],[[[1,0,0],[0,1,0],[0,0,1]],[[1,0,0],[0,1,0],[0,0,1]],idT 3]]),
 (6,[[idT 6,[[1,0,1,0,0,0],[0,1,0,0,1,0],[0,0,-1,1,0,0],[0,0,-2,-1,0,0],[0,0,0,0,-1,1],[0,0,0,0,-2,-1]],[[1,0,-1,-1,0,0],[0,1,0,0,-1,-1],[0,0,2,0,0,0],[0,0,1,3,0,0],[0,0,0,0,2,0],[0,0,0,0,1,3]]],[[[1,0,1/3,1/3,0,0],[0,1,0,0,1/3,1/3],[0,0,-1/3,-1/3,0,0],[0,0,2/3,-1/3,0,0],[0,0,0,0,-1/3,-1/3],[0,0,0,0,2/3,-1/3]],idT 6,[[1,0,0,0,0,0],[0,1,0,0,0,0],[0,0,-1,-1,0,0],[0,0,1,-1,0,0],[0,0,0,0,-1,-1],[0,0,0,0,1,-1]]],[[[1,0,1/3,1/3,0,0],[0,1,0,0,1/3,1/3],[0,0,1/2,0,0,0],[0,0,-1/6,1/3,0,0],[0,0,0,0,1/2,0],[0,0,0,0,-1/6,1/3]],[[1,0,0,0,0,0],[0,1,0,0,0,0],[0,0,-1/2,1/2,0,0],[0,0,-1/2,-1/2,0,0],[0,0,0,0,-1/2,1/2],[0,0,0,0,-1/2,-1/2]],idT 6]]),
 (6,[[idT 6,[[1,1,0,1,1,0],[0,-1,1,0,-1,1],[0,-2,-1,0,-2,-1],[0,0,0,-2,-2,0],[0,0,0,0,2,-2],[0,0,0,0,4,2]],[[1,-1,-1,-1,1,1],[0,2,0,0,-2,0],[0,1,3,0,-1,-3],[0,0,0,2,-2,-2],[0,0,0,0,4,0],[0,0,0,0,2,6]]],[[[1,1/3,1/3,1/2,1/6,1/6],[0,-1/3,-1/3,0,-1/6,-1/6],[0,2/3,-1/3,0,1/3,-1/6],[0,0,0,-1/2,-1/6,-1/6],[0,0,0,0,1/6,1/6],[0,0,0,0,-1/3,1/6]],idT 6,[[1,0,0,0,0,0],[0,-1,-1,0,0,0],[0,1,-1,0,0,0],[0,0,0,-1,0,0],[0,0,0,0,1,1],[0,0,0,0,-1,1]]],[[[1,1/3,1/3,1/2,1/6,1/6],[0,1/2,0,0,1/4,0],[0,-1/6,1/3,0,-1/12,1/6],[0,0,0,1/2,1/6,1/6],[0,0,0,0,1/4,0],[0,0,0,0,-1/12,1/6]],[[1,0,0,0,0,0],[0,-1/2,1/2,0,0,0],[0,-1/2,-1/2,0,0,0],[0,0,0,-1,0,0],[0,0,0,0,1/2,-1/2],[0,0,0,0,1/2,1/2]],idT 6]]),
 (6,[[idT 6,[[1,1,0,1,0,0],[0,-1,1,-1,1,0],[0,-2,-1,-1,0,1],[0,0,0,-2,0,0],[0,0,0,0,-2,0],[0,0,0,0,0,-2]],[[1,-1,-1,-1,0,0],[0,2,0,1,-1,0],[0,1,3,1,0,-1],[0,0,0,2,0,0],[0,0,0,0,2,0],[0,0,0,0,0,2]]],[[[1,1/3,1/3,1/6,1/6,1/6],[0,-1/3,-1/3,1/3,-1/6,-1/6],[0,2/3,-1/3,-1/6,1/3,-1/6],[0,0,0,-1/2,0,0],[0,0,0,0,-1/2,0],[0,0,0,0,0,-1/2]],idT 6,[[1,0,0,0,0,0],[0,-1,-1,0,0,0],[0,1,-1,0,0,0],[0,0,0,-1,0,0],[0,0,0,0,-1,0],[0,0,0,0,0,-1]]],[[[1,1/3,1/3,1/6,1/6,1/6],[0,1/2,0,-1/4,1/4,0],[0,-1/6,1/3,-1/12,-1/12,1/6],[0,0,0,1/2,0,0],[0,0,0,0,1/2,0],[0,0,0,0,0,1/2]],[[1,0,0,0,0,0],[0,-1/2,1/2,0,0,0],[0,-1/2,-1/2,0,0,0],[0,0,0,-1,0,0],[0,0,0,0,-1,0],[0,0,0,0,0,-1]],idT 6]]),
 (7,[[idT 7,[[1,0,0,0,0,0,1],[0,1,0,0,0,0,-1],[0,0,1,0,0,0,-1],[0,0,0,1,0,0,-1],[0,0,0,0,1,0,-1],[0,0,0,0,0,1,-1],[0,0,0,0,0,0,0]],[[1,0,0,0,0,0,1],[0,1,0,0,0,0,-1],[0,0,1,0,0,0,-1],[0,0,0,1,0,0,-1],[0,0,0,0,1,0,-1],[0,0,0,0,0,1,-1],[0,0,0,0,0,0,0]]],[[[1,0,0,0,0,0,1],[0,1,0,0,0,0,-1],[0,0,1,0,0,0,-1],[0,0,0,1,0,0,-1],[0,0,0,0,1,0,-1],[0,0,0,0,0,1,-1],[0,0,0,0,0,0,0]],idT 7,[[1,0,0,0,0,0,1],[0,1,0,0,0,0,-1],[0,0,1,0,0,0,-1],[0,0,0,1,0,0,-1],[0,0,0,0,1,0,-1],[0,0,0,0,0,1,-1],[0,0,0,0,0,0,0]]],[[[1,0,0,0,0,0,1],[0,1,0,0,0,0,-1],[0,0,1,0,0,0,-1],[0,0,0,1,0,0,-1],[0,0,0,0,1,0,-1],[0,0,0,0,0,1,-1],[0,0,0,0,0,0,0]],[[1,0,0,0,0,0,1],[0,1,0,0,0,0,-1],[0,0,1,0,0,0,-1],[0,0,0,1,0,0,-1],[0,0,0,0,1,0,-1],[0,0,0,0,0,1,-1],[0,0,0,0,0,0,0]],idT 7]]),
 (3,[[idT 3,[[1,0,0],[0,1,0],[0,0,1]],[[1,0,0],[0,1,0],[0,0,1]]],[[[1,0,0],[0,1,0],[0,0,1]],idT 3,[[1,0,0],[0,1,0],[0,0,1]]],[[[1,0,0],[0,1,0],[0,0,1]],[[1,0,0],[0,1,0],[0,0,1]],idT 3]]),
 (3,[[idT 3,idT 3,idT 3],[idT 3,idT 3,idT 3],[idT 3,idT 3,idT 3]]),
 (4,[[idT 4,[[1,0,0,0],[0,1,1,0],[0,0,-1,1],[0,0,-2,-1]],[[1,0,0,0],[0,1,-1,-1],[0,0,2,0],[0,0,1,3]]],[[[1,0,0,0],[0,1,1/3,1/3],[0,0,-1/3,-1/3],[0,0,2/3,-1/3]],idT 4,[[1,0,0,0],[0,1,0,0],[0,0,-1,-1],[0,0,1,-1]]],[[[1,0,0,0],[0,1,1/3,1/3],[0,0,1/2,0],[0,0,-1/6,1/3]],[[1,0,0,0],[0,1,0,0],[0,0,-1/2,1/2],[0,0,-1/2,-1/2]],idT 4]]),
 (1,[[idT 1,idT 1,idT 1],[idT 1,idT 1,idT 1],[idT 1,idT 1,idT 1]]),
 (5,[[idT 5,[[1,1,0,1,0],[0,-1,1,0,0],[0,-2,-1,0,0],[0,0,0,-2,0],[0,0,0,0,1]],[[1,-1,-1,-1,0],[0,2,0,0,0],[0,1,3,0,0],[0,0,0,2,0],[0,0,0,0,1]]],[[[1,1/3,1/3,1/2,0],[0,-1/3,-1/3,0,0],[0,2/3,-1/3,0,0],[0,0,0,-1/2,0],[0,0,0,0,1]],idT 5,[[1,0,0,0,0],[0,-1,-1,0,0],[0,1,-1,0,0],[0,0,0,-1,0],[0,0,0,0,1]]],[[[1,1/3,1/3,1/2,0],[0,1/2,0,0,0],[0,-1/6,1/3,0,0],[0,0,0,1/2,0],[0,0,0,0,1]],[[1,0,0,0,0],[0,-1/2,1/2,0,0],[0,-1/2,-1/2,0,0],[0,0,0,-1,0],[0,0,0,0,1]],idT 5]])]
def w24 (i:Nat):Nat:=(w68.getD i (0,[])).1
def w7v (i p q:Nat):List (List Rat):=(((w68.getD i (0,[])).2.getD (p - 1) []).getD (q - 1) [])
def w7x:List (Nat × Nat):=[(12,5),(4,13),(14,15),(9,16),(17,18),(4,6)]
theorem x5Y:w4h.all x5X=true:=by decide
theorem x2t:((List.range 12).all fun i=>[1,2,3].all fun p:Nat=>[1,2,3].all fun q:Nat=>y0v (y4g (kM i) p) (y4g (kM i) q) (w24 i) (w24 i) (w7v i p q))=true:=by kernel_rfl
def z3p (z:Nat):Nat→List (List DV)→List DV
 | _,[]=>[]
 | k,c::r=>.osl z k 0 (c.length / z)::z3p z (k+1) r
theorem y9D {z o:Nat} {cs:List DV}:∀{L:List (List DV)} {k:Nat},o<k→(z3p z k L).map (frz o cs)=z3p z k L
 | [],_,_=>rfl
 | c::r,k,h=>by
  simp only [z3p,List.map_cons]
  rw [y9D (by omega),z1H _ _ _ _ _ (by omega)]
theorem y7F {l:List Int} {n:Nat} {c:Tc} (h:c∈tbY l n):∃z,c=y0a z:=by
 unfold tbY at h
 obtain ⟨i,_,rfl⟩:=List.mem_map.1 h
 exact ⟨_,rfl⟩
theorem y7E {l:List Int} {m:Int} {n:Nat} {c:Tc} (h:c∈tbG l m n):∃z,c=lvT z m:=by
 unfold tbG at h
 obtain ⟨i,_,rfl⟩:=List.mem_map.1 h
 exact ⟨_,rfl⟩
theorem w1b (z:Int):y9z (y0a z).va:=w1a (y56 (y6R z) (by decide))
theorem x9g (z m:Int):(lvT z m).va=(false,[],[]):=by unfold lvT;split<;>rfl
theorem x5Z:xnV (false,[],[])=0:=by rw [←w7k];exact x1V 0
theorem w4O (z m:Int):y9z (lvT z m).va:=by
 rw [x9g]
 exact ⟨fun x hx=>absurd hx List.not_mem_nil,fun x hx=>absurd hx List.not_mem_nil,by decide,by decide⟩
theorem x50:w2C (false,[],[])=true:=by
 unfold w2C
 rw [x5Z]
 rfl
theorem w4I (z:Int):(y0a z).va=qX (xnV (y0a z).va)∧BS (xnV (y0a z).va) 100:=by
 have h:xnV (y0a z).va=y2X z:=x1V _
 rw [h]
 exact ⟨rfl,(y6R z).mono (by decide)⟩
theorem w6r (z m:Int):(lvT z m).va=qX (xnV (lvT z m).va)∧BS (xnV (lvT z m).va) 100:=by
 rw [x9g,x5Z,w7k]
 exact ⟨rfl,w7n.mono (by decide)⟩
theorem x2U (z:Int) {k:Kx} (h:k.kd=1):y8H k (y0a z)=true:=by
 unfold y8H
 rw [if_neg (show ¬(y0a z).mi=true from Bool.false_ne_true),if_pos h]
 have:z5p (y0a z).va.1 (y0a z).va.2.1 (y0a z).va.2.2=true:=x5T _
 rw [this]
 rfl
theorem x2T (z m:Int) {k:Kx} (h:k.kd=2) (hm:(k.le.length:Int)=m) (h0:0<m):y8H k (lvT z m)=true:=by
 unfold y8H lvT
 by_cases hz:z<0
 ·rw [if_pos hz,if_pos rfl,x50];rfl
 ·rw [if_neg hz,if_neg Bool.false_ne_true,if_neg (by omega),x50]
  have h1:=Int.tmod_nonneg m (show 0≤z by omega)
  have h2:=Int.tmod_lt_of_pos z h0
  simp only [Bool.true_and,Bool.and_eq_true,decide_eq_true_eq]
  omega
theorem y11 {l:List Int} {n:Nat} {p:Tc→Bool} (h:∀z,p (y0a z)=true):(tbY l n).all p=true:=by
 rw [List.all_eq_true]
 intro c hc
 obtain ⟨z,rfl⟩:=y7F hc
 exact h z
theorem y10 {l:List Int} {m:Int} {n:Nat} {p:Tc→Bool} (h:∀z,p (lvT z m)=true):(tbG l m n).all p=true:=by
 rw [List.all_eq_true]
 intro c hc
 obtain ⟨z,rfl⟩:=y7E hc
 exact h z
theorem y5V {Y X G H:List Int} {p:Tc→Prop} (h1:∀z,p (y0a z)) (h2:∀z m,p (lvT z m)):∀k∈z2o Y X G H,∀c∈k.ce,p c:=by
 intro k hk c hc
 unfold z2o at hk
 simp only [List.mem_cons,List.not_mem_nil,or_false] at hk
 rcases hk with rfl|rfl|rfl|rfl
 ·obtain ⟨z,rfl⟩:=y7F hc;exact h1 z
 ·obtain ⟨z,rfl⟩:=y7F hc;exact h1 z
 ·obtain ⟨z,rfl⟩:=y7E hc;exact h2 z _
 ·obtain ⟨z,rfl⟩:=y7E hc;exact h2 z _
theorem z3X {Y X G H:List Int} {n:Nat} (hn:n=min Y.length 10) {p:Kx→Prop} (h1:p ⟨[121],1,[],tbY Y n⟩) (h2:p ⟨[120],1,[],tbY X n⟩) (h3:p ⟨[103],2,[[97],[98],[99]],tbG G 3 n⟩) (h4:p ⟨[104],2,[[117],[118]],tbG H 2 n⟩):∀k∈z2o Y X G H,p k:=by
 intro k hk
 unfold z2o at hk
 rw [←hn] at hk
 simp only [List.mem_cons,List.not_mem_nil,or_false] at hk
 rcases hk with rfl|rfl|rfl|rfl
 ·exact h1
 ·exact h2
 ·exact h3
 ·exact h4
theorem y7G (Y X G H:List Int):z1t (z2o Y X G H)=[[121],[120],[103],[104]]:=rfl
theorem y3g (s:Bs) (l:List Int) (n:Nat):x1Z ⟨s,1,[],tbY l n⟩ n=true:=by
 unfold x1Z
 simp [z61]
theorem y3f (s:Bs) (le:List Bs) (l:List Int) (m:Int) (n:Nat) (h:le.length≤32):x1Z ⟨s,2,le,tbG l m n⟩ n=true:=by
 unfold x1Z
 simp [z60,h]
theorem x2F:x8H [[97],[98],[99]]=true:=by decide
theorem x8I:x8H [[117],[118]]=true:=by decide
theorem y5W:z55 [[121],[120],[103],[104]]=true:=by decide
theorem x8n {Y X G H:List Int} {n:Nat} (hn:n=min Y.length 10):x10 n (z2o Y X G H)=true:=by
 have hc:∀k∈z2o Y X G H,x1W k n=true:=by
  refine z3X hn ?_ ?_ ?_ ?_
  ·unfold x1W;rw [y3g,y11 fun z=>x2U z rfl];rfl
  ·unfold x1W;rw [y3g,y11 fun z=>x2U z rfl];rfl
  ·unfold x1W;rw [y3f _ _ _ _ _ (by decide),x2F,y10 fun z=>x2T z 3 rfl rfl (by decide)];rfl
  ·unfold x1W;rw [y3f _ _ _ _ _ (by decide),x8I,y10 fun z=>x2T z 2 rfl rfl (by decide)];rfl
 unfold x10
 rw [y7G,y5W,List.all_eq_true.2 hc]
 simp only [Bool.and_true,Bool.and_eq_true,decide_eq_true_eq]
 refine ⟨⟨by omega,by omega⟩,?_⟩
 show 4≤32
 decide
theorem y5c {z:Nat} {x:List DV}:∀{L:List (List DV)} {k:Nat},z3p z k (L++[x])=z3p z k L++[.osl z (k+L.length) 0 (x.length / z)]
 | [],k=>rfl
 | c::r,k=>by
  simp only [List.cons_append,z3p,List.length_cons]
  rw [y5c,show k+1+r.length=k+(r.length+1) by omega]
theorem x4T {z:Nat} {f:Nat→Option Nat}:∀{L:List (List DV)} {k:Nat},(∀a,k≤a→a<k+L.length→f a=some a)→(z3p z k L).map (rn f)=z3p z k L
 | [],_,_=>rfl
 | c::r,k,h=>by
  simp only [z3p,List.map_cons]
  rw [List.length_cons] at h
  rw [x4T fun a h1 h2=>h a (by omega) (by omega)]
  have:rn f (.osl z k 0 (c.length / z))=.osl z k 0 (c.length / z):=by simp [rn,h k (by omega) (by omega)]
  rw [this]
theorem x4S {z o:Nat}:∀{L:List (List DV)} {k:Nat},o<k→(z3p z k L).map (purge o)=z3p z k L
 | [],_,_=>rfl
 | c::r,k,h=>by
  simp only [z3p,List.map_cons]
  rw [x4S (by omega)]
  have:purge o (.osl z k 0 (c.length / z))=.osl z k 0 (c.length / z):=by simp [purge,DV.has,show k≠o by omega]
  rw [this]
theorem y9E {z:Nat}:∀{L:List (List DV)} {k:Nat},(z3p z k L).length=L.length
 | [],_=>rfl
 | c::r,k=>by simp only [z3p,List.length_cons,y9E]
theorem w5M {F:FnD} {c:DC} {Q:Ex→Fr→Hp→Prop} {fr:Fr} {L:List (List DV)} {x:List DV} {k:Nat} (hx:∀d∈x,d.rf=true) (hL:∀l∈L,∀d∈l,d.rf=true) (hl:L.length≤1000) (hk:k=x.length / 3)
  (hfr:∀f:Nat→Option Nat,f 200=some 200→z0J (rn f) fr=fr)
  (h:W F c Q fr ((200,z3p 3 1000 (L++[x]))::z06 1000 (L++[x]))):W F c Q fr ((24,x)::(200,z3p 3 1000 L++[.osl 3 24 0 k])::z06 1000 L):=by
 have hdom:z3t ((24,x)::(200,z3p 3 1000 L++[.osl 3 24 0 k])::z06 1000 L:Hp)=24::200::List.range' 1000 L.length:=by simp only [z3t,y5A]
 have hmv:∀p,(p=200∨(1000≤p∧p<1000+L.length))→mvF ((24,x)::(200,z3p 3 1000 L++[.osl 3 24 0 k])::z06 1000 L) 24 (1000+L.length) p=some p:=fun p hp=>by
  unfold mvF mvN
  rw [hdom,if_pos,if_neg]
  ·omega
  ·simp only [List.mem_cons,List.mem_range'_1]
   omega
 have hm24:mvF ((24,x)::(200,z3p 3 1000 L++[.osl 3 24 0 k])::z06 1000 L) 24 (1000+L.length) 24=some (1000+L.length):=by
  unfold mvF mvN
  rw [hdom,if_pos (by simp),if_pos rfl]
 have rr:∀(f:Nat→Option Nat) (cs:List DV),(∀d∈cs,d.rf=true)→rnM f cs=cs:=fun f cs hc=>by
  unfold rnM
  exact (List.map_congr_left fun d hd=>z5m f d (hc d hd)).trans (List.map_id' cs)
 have hHH:∀q,lkH ((24,x)::(200,z3p 3 1000 L++[.osl 3 24 0 k])::z06 1000 L:Hp) q=if 24=q then some x else if 200=q then some (z3p 3 1000 L++[.osl 3 24 0 k]) else lkH (z06 1000 L) q:=fun q=>rfl
 refine w7p 24 (1000+L.length) ((200,z3p 3 1000 (L++[x]))::z06 1000 (L++[x])) ?_ ?_ ⟨by decide,by omega⟩ ?_ ?_ ?_
 ·rw [hdom]
  simp [List.nodup_range',List.mem_range'_1]
 ·rw [hdom]
  simp [List.mem_range'_1]
  omega
 ·rw [hdom];simp
 ·intro q
  rw [hHH q,hHH 24]
  have h200:=hmv 200 (.inl rfl)
  have hmr:∀a,1000≤a→a<1000+L.length→mvF ((24,x)::(200,z3p 3 1000 L++[.osl 3 24 0 k])::z06 1000 L) 24 (1000+L.length) a=some a:=fun a h1 h2=>hmv a (.inr ⟨h1,h2⟩)
  generalize mvF ((24,x)::(200,z3p 3 1000 L++[.osl 3 24 0 k])::z06 1000 L) 24 (1000+L.length)=f at *
  have rX:rnM f (z3p 3 1000 L++[.osl 3 24 0 k])=z3p 3 1000 (L++[x]):=by
   unfold rnM
   rw [List.map_append,x4T hmr,y5c,hk]
   have:rn f (.osl 3 24 0 (x.length / 3))=.osl 3 (1000+L.length) 0 (x.length / 3):=by simp [rn,hm24]
   rw [List.map_cons,List.map_nil,this]
  show lkH ((200,z3p 3 1000 (L++[x]))::z06 1000 (L++[x]):Hp) q=_
  have hsn:∀p,lkH (z06 1000 (L++[x])) p=if 1000≤p∧p<1000+(L.length+1) then some ((L++[x]).getD (p - 1000) []) else none:=fun p=>by
   rw [y9P,List.length_append];rfl
  have e0:lkH ((200,z3p 3 1000 (L++[x]))::z06 1000 (L++[x]):Hp) q=if 200=q then some (z3p 3 1000 (L++[x])) else lkH (z06 1000 (L++[x])) q:=rfl
  rw [e0]
  by_cases q24:q=24
  ·subst q24
   rw [if_pos rfl,if_neg (by decide),hsn,if_neg (by omega)]
  rw [if_neg q24]
  by_cases qb:q=1000+L.length
  ·subst qb
   rw [if_pos rfl,if_pos rfl,if_neg (by omega),hsn,if_pos (by omega),Option.map_some,rr f x hx]
   congr 1
   rw [zO1,List.getElem?_append_right (by omega)]
   simp
  rw [if_neg qb,if_neg (Ne.symm q24)]
  by_cases q2:q=200
  ·subst q2
   rw [if_pos rfl,if_pos rfl,Option.map_some,rX]
  ·rw [if_neg (Ne.symm q2),if_neg (Ne.symm q2),hsn,y9P]
   by_cases hq:1000≤q∧q<1000+L.length
   ·rw [if_pos (by omega),if_pos hq,Option.map_some]
    have hg:(L++[x]).getD (q - 1000) []=L.getD (q - 1000) []:=by
     rw [zO1,List.getElem?_append_left (by omega),zO1]
    rw [hg]
    congr 1
    refine (rr f _ (hL _ ?_)).symm
    rw [zO1,zO4 (by omega)]
    exact List.getElem_mem _
   ·rw [if_neg (by omega),if_neg hq];rfl
 ·rw [hfr _ (hmv 200 (.inl rfl))]
  exact h
theorem y15 {F:FnD} {c:DC} {Q:Ex→Fr→Hp→Prop} {i k:Nat} {a b:DV} {L:List (List DV)} {x:List DV} (ha:a.rf=true) (hb:b.rf=true) (hx:∀d∈x,d.rf=true) (hL:∀l∈L,∀d∈l,d.rf=true) (hl:L.length≤1000) (hk:k=x.length / 3)
  (h:W F c Q [(0,a),(1,b),(5,.osl 1 200 0 (i+1)),(6,.int .i64 i),(16,.bool true)] ((200,z3p 3 1000 (L++[x]))::z06 1000 (L++[x]))) :
  W F c Q [(0,a),(1,b),(5,.osl 1 200 0 (i+1)),(6,.int .i64 i),(16,.bool true)] ((24,x)::(30,[.osl 3 24 0 k])::(200,z3p 3 1000 L++[.osl 3 24 0 k])::z06 1000 L):=by
 refine z25 30 ?_
 have e1:z0J (purge 30) [(0,a),(1,b),(5,.osl 1 200 0 (i+1)),(6,.int .i64 i),(16,.bool true)]=[(0,a),(1,b),(5,.osl 1 200 0 (i+1)),(6,.int .i64 i),(16,.bool true)]:=by
  simp only [z0J,z1s 30 ha,z1s 30 hb]
  simp [purge,DV.has]
 have e2:rmP 30 ((24,x)::(30,[.osl 3 24 0 k])::(200,z3p 3 1000 L++[.osl 3 24 0 k])::z06 1000 L)=(24,x)::(200,z3p 3 1000 L++[.osl 3 24 0 k])::z06 1000 L:=by
  have e3:purge 30 (.osl 3 24 0 k)=.osl 3 24 0 k:=by simp [purge,DV.has]
  simp only [rmP,Nat.reduceEqDiff,if_false,if_true,z0k 30 hx,List.map_append,List.map_cons,List.map_nil,e3]
  rw [x4S (by decide),z9T (by decide) fun l hl=>z0k 30 (hL l hl)]
 rw [e1,e2]
 refine w5M hx hL hl hk (fun f hf=>?_) h
 simp only [z0J,z5m f a ha,z5m f b hb]
 simp [rn,hf]
theorem w2U {F:FnD} {c:DC} {Q:Ex→Fr→Hp→Prop} {fr:Fr} {z:Nat} (hz:z≠0) (hf:∀o cs,1000≤o→z0J (frz o cs) fr=fr) (L:List (List DV)) :
  ∀ (k:Nat) (D:List DV),1000≤k→k+L.length≤1048576→(∀l∈L,∀x∈l,x.rf=true)→(∀l∈L,l.length / z*z=l.length)→(∀x∈D,x.rf=true) →
   W F c Q fr [(200,D++L.map (.sl z))]→W F c Q fr ((200,D++z3p z k L)::z06 k L):=by
 induction L with
 | nil=>intro k D _ _ _ _ _ h;exact h
 | cons x r ih =>
  intro k D hk hkl hrf hzl hD h
  rw [List.length_cons] at hkl
  have n1:∀q:Nat,q<1000→(q=k)=False:=fun q hq=>eq_false (by omega)
  refine z0I k (cells:=x) ?_ (List.all_eq_true.2 (hrf x List.mem_cons_self)) ?_ (by omega)
  ·simp (disch:=omega) only [z06,lkH,n1,if_false,if_true]
  ·rw [hf k x hk]
   have hfz:frz k x (.osl z k 0 (x.length / z))=.sl z x:=by
    have:=hzl x List.mem_cons_self
    simp [frz,hz,this]
   have e:rmH k x ((200,D++z3p z k (x::r))::z06 k (x::r))=((200,(D++[.sl z x])++z3p z (k+1) r)::z06 (k+1) r):=by
    simp (disch:=omega) only [z06,rmH,n1,if_false,if_true,List.map_append,z3p,List.map_cons]
    rw [z1p k x hD,hfz,y9D (by omega),y5C (by omega) fun l hl=>z1p k x (hrf l (List.mem_cons_of_mem _ hl)),List.append_assoc]
    rfl
   rw [e]
   have h':D++(x::r).map (.sl z)=(D++[.sl z x])++r.map (.sl z):=by simp
   rw [h'] at h
   refine ih (k+1) (D++[.sl z x]) (by omega) (by omega) (fun l hl=>hrf l (List.mem_cons_of_mem _ hl)) (fun l hl=>hzl l (List.mem_cons_of_mem _ hl)) (fun y hy=>?_) h
   rcases List.mem_append.1 hy with hy|hy
   ·exact hD y hy
   ·rw [List.mem_singleton.1 hy];rfl
def z71 (S:List Kx) (m:Mdl) (cod:Int) (R:List Nat):Mt:=fun i j=>(z98 S m cod (R.getD i 0)).getD j 0
theorem w0k {R:List Nat} {n i:Nat} (hR:∀r∈R,r<n) (hi:i<R.length):R.getD i 0<n:=by
 rw [zO1,zO4 hi]
 exact hR _ (List.getElem_mem hi)
section
variable {Y X G H:List Int} {m m':Mdl} {c c':Nat} {ka kb:Nat} {T T':List (List Rat)} {R:List Nat}
theorem x2x (hx:x5X m=true) (hs:y0v (y4g m c) (y4g m' c') ka kb T=true) {r:Nat} (hr:r<min Y.length 10):(z98 (z2o Y X G H) m c r).length=ka:=by
 rw [y8y hx hr,List.length_map]
 unfold y0v at hs
 have h1:=List.all_eq_true.1 (List.all_eq_true.1 hs _ (List.mem_range.2 (y1o 3 (by decide) G r))) _ (List.mem_range.2 (y1o 2 (by decide) H r))
 simp only [Bool.and_eq_true,decide_eq_true_eq] at h1
 exact h1.1.1
theorem y96 (hx:x5X m=true) (hx':x5X m'=true) (hs:y0v (y4g m c) (y4g m' c') ka kb T=true) (hR:∀r∈R,r<min Y.length 10) {A B:Mt}
  (hA:∀i,i<R.length→∀j,j<ka→A i j=z71 (z2o Y X G H) m c R i j) (hB:∀i,i<R.length→∀j,j<kb→B i j=z71 (z2o Y X G H) m' c' R i j) :
  ∀ i,i<R.length→∀j,j<kb→B i j=z1K ka fun l=>A i l*tAt T l j:=by
 intro i hi j hj
 have hr:=w0k hR hi
 rw [hB i hi j hj]
 have:(z1K ka fun l=>A i l*tAt T l j)=z1K ka fun l=>z71 (z2o Y X G H) m c R i l*tAt T l j:=z0H fun l hl=>by rw [hA i hi l hl]
 rw [this]
 unfold z71
 rw [y8y hx hr,y8y hx' hr]
 exact x8i hs (y1o 3 (by decide) G _) (y1o 2 (by decide) H _) (xAt X _) hj
theorem x5M (hx:x5X m=true) (hx':x5X m'=true) (hs:y0v (y4g m c) (y4g m' c') ka kb T=true) (hs':y0v (y4g m' c') (y4g m c) kb ka T'=true) (hR:∀r∈R,r<min Y.length 10) {A B C:Mt}
  (hA:∀i,i<R.length→∀j,j<ka→A i j=z71 (z2o Y X G H) m c R i j) (hB:∀i,i<R.length→∀j,j<kb→B i j=z71 (z2o Y X G H) m' c' R i j)
  (hC1:∀i,i<R.length→∀j,j<ka→C i j=z71 (z2o Y X G H) m c R i j) (hC2:∀i,i<R.length→∀j,j<kb→C i (ka+j)=z71 (z2o Y X G H) m' c' R i j) :
  (rrP R.length kb B).length=(rrP R.length ka A).length∧(rrP R.length (ka+kb) C).length=(rrP R.length ka A).length:=by
 have h1:=y96 hx hx' hs hR hA hB
 have h2:=y96 hx' hx hs' hR hB hA
 obtain ⟨a1,a2⟩:=y5E R.length ka A
 obtain ⟨b1,b2⟩:=y5E R.length kb B
 obtain ⟨d1,d2⟩:=y5E R.length (ka+kb) C
 refine ⟨Nat.le_antisymm (y6V a1 a2 b1 b2 _ h1) (y6V b1 b2 a1 a2 _ h2),?_⟩
 rw [y6U a1 a2 d1 d2 _ h1 (fun i hi j hj=>by rw [hC1 i hi j hj,hA i hi j hj]) fun i hi j hj=>by rw [hC2 i hi j hj,hB i hi j hj]]
end
def w6t (d:Nat) (a:Mo):Bool:=if d=1 then decide (a.1≤1) && decide (a.2.den=1) && decide (a.2.num.natAbs≤3) else decide (a.1≤2) && decide (a.2=1)
def mdD (i:Nat):Nat:=if i=8 then 2 else 1
def mdW (i:Nat):Nat:=if i=8 then 10 else 7
theorem w4p:((List.range 19).all fun i=>[1,2,3].all fun c:Nat=>(List.range 3).all fun g=>(List.range 2).all fun h=>(y4g (kM i) c g h).all (w6t (mdD i)))=true:=by kernel_rfl
theorem x9o {x:Rat} {w:Nat} (h:BS x w):∀a:Nat,a≤2→BS (x ^ a) (if a≤1 then max w 1 else w+w)
 | 0,_=>by rw [Rat.pow_zero,if_pos (by decide)];exact x8w.mono (by omega)
 | 1,_=>by rw [Rat.pow_succ,Rat.pow_zero,Rat.one_mul,if_pos (by decide)];exact h.mono (by omega)
 | 2,_=>by rw [Rat.pow_succ,Rat.pow_succ,Rat.pow_zero,Rat.one_mul,if_neg (by decide)];exact z5r h h
theorem w3m {d:Nat} (hd:d=1∨d=2) {a:Mo} (h:w6t d a=true) (z:Int):BS (evM (y2X z) a) (if d=1 then 7 else 10):=by
 have h5:=y6R z
 unfold w6t at h
 unfold evM
 rcases hd with rfl|rfl
 ·rw [if_pos rfl] at h ⊢
  simp only [Bool.and_eq_true,decide_eq_true_eq] at h
  obtain ⟨⟨h1,h2⟩,h3⟩:=h
  have hp:=x9o h5 a.1 (by omega)
  rw [if_pos h1] at hp
  exact z5r (hp.mono (by decide)) (show BS a.2 2 from ⟨by omega,by rw [h2];decide⟩)
 ·rw [if_neg (by decide)] at h ⊢
  simp only [Bool.and_eq_true,decide_eq_true_eq] at h
  obtain ⟨h1,h2⟩:=h
  have hp:=x9o h5 a.1 h1
  rw [h2,Rat.mul_one]
  refine hp.mono ?_
  split<;>omega
theorem y8z {Y X G H:List Int} {i c r:Nat} (hi:i<19) (hc:1≤c∧c≤3) (hr:r<min Y.length 10):∀x∈z98 (z2o Y X G H) (kM i) c r,BS x (mdW i):=by
 intro x hx
 have hm:kM i∈w4h:=by
  unfold kM
  rw [zO1,zO4 (show i<w4h.length from hi)]
  exact List.getElem_mem _
 rw [y8y (List.all_eq_true.1 x5Y _ hm) hr] at hx
 obtain ⟨a,ha,rfl⟩:=List.mem_map.1 hx
 have h1:=List.all_eq_true.1 w4p i (List.mem_range.2 hi)
 have h2:=List.all_eq_true.1 h1 c (by simp only [List.mem_cons,List.not_mem_nil,or_false];omega)
 have h3:=List.all_eq_true.1 (List.all_eq_true.1 h2 _ (List.mem_range.2 (y1o 3 (by decide) G r))) _ (List.mem_range.2 (y1o 2 (by decide) H r))
 have h4:=List.all_eq_true.1 h3 a ha
 have hd:mdD i=1∨mdD i=2:=by unfold mdD;split<;>omega
 have h5:=w3m hd h4 (X.getD r 0)
 refine BS.mono h5 ?_
 unfold mdD mdW
 split<;>decide
theorem w7e:(∀t,t<7→3*gB 7 t+2≤140800)∧∀t,t≤7→gB 7 t≤140800:=by
 refine ⟨by decide,fun t ht=>?_⟩
 have h:∀t,t<8→gB 7 t≤140800:=by decide
 exact h t (by omega)
theorem w3t:(∀t,t<3→3*gB 10 t+2≤140800)∧∀t,t≤3→gB 10 t≤140800:=by
 refine ⟨by decide,fun t ht=>?_⟩
 have h:∀t,t<4→gB 10 t≤140800:=by decide
 exact h t (by omega)
end Nat32
namespace Nat32
open Go Go.Dat
theorem y1p {α:Type} {l:List α} {i:Nat} (h:i<l.length) (d:α):l.getD i d∈l:=by
 rw [zO1,zO4 h];exact List.getElem_mem h
theorem w0i {a b:List Rat} {i:Nat} (h:i<a.length):(a++b).getD i 0=a.getD i 0:=by
 rw [zO1,List.getElem?_append_left h,zO1]
theorem x6L {a b:List Rat} {k i:Nat} (h:a.length=k):(a++b).getD (k+i) 0=b.getD i 0:=by
 rw [zO1,List.getElem?_append_right (by omega),zO1,h,Nat.add_sub_cancel_left]
def y3y (A:List (List Rat)):Mt:=fun i j=>(A.getD i []).getD j 0
theorem x7U {l:List Rat} {k:Nat} (h:l.length=k):rwL k (fun j=>l.getD j 0)=l:=by
 refine List.ext_getElem? fun j=>?_
 unfold rwL
 rw [List.getElem?_map]
 by_cases hj:j<k
 ·rw [List.getElem?_range hj,Option.map_some,zO1,zO4 (by omega)];rfl
 ·rw [List.getElem?_eq_none (by rw [List.length_range];omega),List.getElem?_eq_none (by omega)];rfl
theorem x7W {A:List (List Rat)} {k:Nat} (hk:∀l∈A,l.length=k):z6V A=mtD A.length k (y3y A):=by
 refine List.ext_getElem? fun i=>?_
 unfold z6V mtD
 rw [List.getElem?_map,List.getElem?_map]
 by_cases hi:i<A.length
 ·rw [List.getElem?_range hi,zO4 hi,Option.map_some,Option.map_some]
  have hg:A.getD i []=A[i]:=by rw [zO1,zO4 hi];rfl
  have:rwC k (y3y A i)=nums A[i]:=by
   unfold rwC y3y
   rw [hg,x7U (hk _ (List.getElem_mem hi))]
  rw [this]
 ·rw [List.getElem?_eq_none (show A.length≤i by omega),List.getElem?_eq_none (show (List.range A.length).length≤i by rw [List.length_range];omega)];rfl
theorem y9t {α:Type} (f:Nat→List α) {R:List Nat} {i:Nat} (h:i<R.length):(R.map f).getD i []=f (R.getD i 0):=by
 rw [zO1,List.getElem?_map,zO4 h,zO1,zO4 h];rfl
end Nat32
namespace Nat32
open Go Go.Dat Go.RowKit Go.ChangeShapes Go.WideShapes Go.Joins Go.Deep
inductive Ty where
 | int (k:IntKind)
 | bool
 | str
 | sl (e:Ty)
 | unit
 | pair (f r:Ty)
def Ty.size:Ty→Nat
 | .unit=>0
 | .pair f r=>f.size+r.size
 | _=>1
def IsD:Ty→List DV→Prop
 | .int k,ds=>∃n,(Lit.int k n).wf=true∧ds=[.int k n]
 | .bool,ds=>∃b,ds=[.bool b]
 | .str,ds=>∃s:Bs,s.length≤9223372036854775807∧ds=[.str s]
 | .sl e,ds=>∃zs:List (List DV),(∀z∈zs,IsD e z)∧zs.length≤9223372036854775807∧ds=[.sl e.size zs.flatten]
 | .unit,ds=>ds=[]
 | .pair f r,ds=>∃a b,IsD f a∧IsD r b∧ds=a++b
theorem IsD.len:∀{τ:Ty} {ds:List DV},IsD τ ds→ds.length=τ.size
 | .int k,_,⟨_,_,h⟩=>by rw [h];rfl
 | .bool,_,⟨_,h⟩=>by rw [h];rfl
 | .str,_,⟨_,_,h⟩=>by rw [h];rfl
 | .sl e,_,⟨_,_,_,h⟩=>by rw [h];rfl
 | .unit,_,h=>by rw [show _=[] from h];rfl
 | .pair f r,_,⟨a,b,ha,hb,h⟩=>by rw [h,List.length_append,ha.len,hb.len];rfl
section
variable (P:Program)
def z81:Ty→Sum TypeId (List Field × Nat)→Bool
 | .int k,.inl t=>match P.underlying t with|some (.int k')=>decide (k=k')|_=>false
 | .bool,.inl t=>match P.underlying t with|some .bool=>true|_=>false
 | .str,.inl t=>match P.underlying t with|some .string=>true|_=>false
 | .sl e,.inl t=>match P.underlying t with|some (.slice u)=>P.cellsOf u == e.size && e.size != 0 && z81 e (.inl u)|_=>false
 | .unit,.inr ([],_)=>true
 | .pair a r,.inl t=>match P.underlying t with
  | some (.struct fs)=>match fs.toList with
   | f::fs'=>f.offset == 0 && P.cellsOf f.type == a.size && P.cellsOf t == a.size+r.size && z81 a (.inl f.type) && z81 r (.inr (fs',a.size))
   | []=>false
  | _=>false
 | .pair a r,.inr (f::fs',off)=>f.offset == off && P.cellsOf f.type == a.size && z81 a (.inl f.type) && z81 r (.inr (fs',off+a.size))
 | _,_=>false
end
section
variable {H:Type} {enc:TypeId × Value→H} {P:Program} {w:World} {base:Nat} {spare:Nat→Bool} {held:Bool}
theorem y2f {α:Type} {n:Nat}:∀{zs:List (List α)},(∀z∈zs,z.length=n)→∀{k:Nat} {d:α},zs.flatten[k]? = some d→∃i j z,k=i*n+j∧j<n∧i<zs.length∧zs[i]? = some z∧z[j]? = some d
 | [],_,k,d,h=>by simp at h
 | z::zs,hz,k,d,h=>by
  have h0:=hz z (by simp)
  rw [List.flatten_cons,List.getElem?_append] at h
  split at h
  ·rename_i hlt
   exact ⟨0,k,z,by simp,by omega,by simp,rfl,h⟩
  ·rename_i hge
   obtain ⟨i,j,y,e1,e2,e3,e4,e5⟩:=y2f (fun y hy=>hz y (by simp [hy])) h
   refine ⟨i+1,j,y,?_,e2,by simp;exact e3,e4,e5⟩
   rw [Nat.add_mul];omega
theorem y4n {α:Type} {n:Nat}:∀{zs:List (List α)},(∀z∈zs,z.length=n)→zs.flatten.length=zs.length*n
 | [],_=>by simp
 | z::zs,hz=>by
  rw [List.flatten_cons,List.length_append,hz z (by simp),y4n (fun y hy=>hz y (by simp [hy])),List.length_cons,Nat.add_mul]
  omega
theorem x4z {α:Type} {p:Nat→α→Prop}:∀(n:Nat),(∀i,i<n→∃x,p i x)→∃l:List α,l.length=n∧∀i x,l[i]? = some x→p i x
 | 0,_=>⟨[],rfl,fun i x h=>by simp at h⟩
 | n+1,h=>by
  obtain ⟨l,h1,h2⟩:=x4z n fun i hi=>h i (by omega)
  obtain ⟨x,hx⟩:=h n (by omega)
  refine ⟨l++[x],by simp [h1],fun i y hy=>?_⟩
  rw [List.getElem?_append] at hy
  split at hy
  ·exact h2 i y hy
  ·rename_i hge
   have:i - l.length=0:=by
    rcases Nat.lt_or_ge (i - l.length) 1 with h|h
    ·omega
    ·rw [List.getElem?_eq_none (by simpa using h)] at hy;cases hy
   rw [this] at hy
   cases hy
   rw [show i=n by omega];exact hx
theorem y95:∀(τ:Ty),(∀(t:TypeId) (n:Nat) (cs:List Value) (y:DataW H × List MemPlace),z81 P τ (.inl t)=true→DataW.trod enc P w base spare held n t cs=some y →
   ∃ ds,IsD τ ds∧cs.length=τ.size∧∀(k:Nat) d v,ds[k]? = some d→cs[k]? = some v→VI w (fun _=>False) d v) ∧
  (∀(fs:List Field) (off n:Nat) (cs:List Value),z81 P τ (.inr (fs,off))=true→(∀(i:Nat) f,fs[i]? = some f→∃y,DataW.trod enc P w base spare held n f.type ((cs.drop f.offset).take (P.cellsOf f.type))=some y) →
   ∃ ds,IsD τ ds∧∀(k:Nat) d v,ds[k]? = some d→cs[off+k]? = some v→VI w (fun _=>False) d v)
 | .int k=>by
  refine ⟨fun t n cs y hf hy=>?_,fun fs off n cs hf _=>by simp [z81] at hf⟩
  simp only [z81] at hf
  split at hf
  ·rename_i k' ht
   have e:k=k':=by simpa using hf
   subst e
   obtain ⟨z,rfl,hw,_⟩:=DataW.trod_int ht hy
   refine ⟨[.int k z],⟨z,by first|exact hw|exact hw.1|simp_all,rfl⟩,rfl,fun j d v h1 h2=>?_⟩
   match j with
   | 0=>simp at h1 h2;subst h1;subst h2;exact .int _ _
   | j+1=>simp at h1
  ·cases hf
 | .bool=>by
  refine ⟨fun t n cs y hf hy=>?_,fun fs off n cs hf _=>by simp [z81] at hf⟩
  simp only [z81] at hf
  split at hf
  ·rename_i ht
   obtain ⟨b,rfl,_⟩:=DataW.trod_bool ht hy
   refine ⟨[.bool b],⟨b,rfl⟩,rfl,fun j d v h1 h2=>?_⟩
   match j with
   | 0=>simp at h1 h2;subst h1;subst h2;exact .bool _
   | j+1=>simp at h1
  ·cases hf
 | .str=>by
  refine ⟨fun t n cs y hf hy=>?_,fun fs off n cs hf _=>by simp [z81] at hf⟩
  simp only [z81] at hf
  split at hf
  ·rename_i ht
   obtain ⟨s,rfl,_,hl⟩:=DataW.trod_string ht hy
   refine ⟨[.str s.data.toList],⟨_,by unfold maxLen at hl;simpa using hl,rfl⟩,rfl,fun j d v h1 h2=>?_⟩
   match j with
   | 0 =>
    simp at h1 h2;subst h1;subst h2
    have:(Value.string s)=.string ⟨s.data.toList.toArray⟩:=by cases s;simp
    rw [this];exact .str _
   | j+1=>simp at h1
  ·cases hf
 | .sl e=>by
  have ih:=y95 e
  refine ⟨fun t n cs y hf hy=>?_,fun fs off n cs hf _=>by simp [z81] at hf⟩
  simp only [z81] at hf
  split at hf
  ·rename_i u ht
   simp only [Bool.and_eq_true,beq_iff_eq,bne_iff_ne,ne_eq] at hf
   obtain ⟨⟨hc,h0⟩,hfe⟩:=hf
   have fin:∀(zs:List (List DV)) (v:Value),(∀z∈zs,IsD e z)→zs.length≤9223372036854775807→VI w (fun _=>False) (.sl e.size zs.flatten) v→cs=[v] →
     ∃ ds,IsD (.sl e) ds∧cs.length=Ty.size (.sl e)∧∀(k:Nat) d v,ds[k]? = some d→cs[k]? = some v→VI w (fun _=>False) d v:=by
    rintro zs v h1 h2 h3 rfl
    refine ⟨[.sl e.size zs.flatten],⟨zs,h1,h2,rfl⟩,rfl,fun j d v' g1 g2=>?_⟩
    match j with
    | 0=>simp at g1 g2;subst g1;subst g2;exact h3
    | j+1=>simp at g1
   rcases DataW.trod_slice ht hy with ⟨rfl,_⟩|⟨a,len,cap,elems,rest,m,_,rfl,_,hb,hl,hm,hlen,hcells,_,_⟩
   ·exact fin [] _ (fun z h=>by cases h) (Nat.zero_le _) (.sl0 _ _ _) rfl
   ·have each:∀i,i<len→∃(x:List DV × List Value),IsD e x.1∧x.2.length=e.size∧(∀j,j<e.size→w.cell? (a.add (i*e.size+j))=x.2[j]?)∧∀(k:Nat) d v,x.1[k]? = some d→x.2[k]? = some v→VI w (fun _=>False) d v:=fun i hi=>by
     have h1:=hcells i hi
     rw [hc] at h1
     obtain ⟨z,hz⟩:∃z,elems[i]? = some z:=⟨_,zO4 (by omega)⟩
     rw [hz,zO3] at h1
     obtain ⟨cs,h2,h3⟩:=h1
     obtain ⟨_,g2,g3⟩:=World.cells?_some h2
     obtain ⟨ds,k1,k2,k3⟩:=ih.1 u m cs z hfe h3
     refine ⟨(ds,cs),k1,g2,fun j hj=>?_,k3⟩
     rw [←g3 j hj,Dat.add_add]
    obtain ⟨l,hl1,hl2⟩:=x4z len each
    have hzl:∀z∈l.map (·.1),z.length=e.size:=fun z hz=>by
     obtain ⟨x,hx,rfl⟩:=List.mem_map.1 hz
     obtain ⟨i,hi⟩:=List.mem_iff_getElem?.1 hx
     exact (hl2 i x hi).1.len
    refine fin (l.map (·.1)) (.slice (some a) len cap) (fun z hz=>?_) (by rw [List.length_map,hl1];unfold maxLen at hm;omega) ?_ rfl
    ·obtain ⟨x,hx,rfl⟩:=List.mem_map.1 hz
     obtain ⟨i,hi⟩:=List.mem_iff_getElem?.1 hx
     exact (hl2 i x hi).1
    ·by_cases hz:len=0
     ·have:l=[]:=List.eq_nil_of_length_eq_zero (by omega)
      subst this
      subst hz
      exact .sl0 _ _ _
     ·have hfl:=y4n hzl
      rw [List.length_map,hl1] at hfl
      have hpos:0<len*e.size:=Nat.mul_pos (Nat.pos_of_ne_zero hz) (Nat.pos_of_ne_zero h0)
      refine .sl (fun k=>(w.cell? (a.add k)).getD undef) (fun e'=>?_) hfl hl (fun h=>h) (fun k d hk=>?_) (fun k d hk=>?_)
      ·rw [e'] at hfl;simp at hfl;omega
      ·obtain ⟨i,j,z,rfl,hj,hi,hzi,hzj⟩:=y2f hzl hk
       rw [List.getElem?_map,zO2] at hzi
       obtain ⟨x,hx,rfl⟩:=hzi
       obtain ⟨x1,x2,x3,x4⟩:=hl2 i x hx
       obtain ⟨v,hv⟩:=z0O (l:=x.2) (k:=j) (by omega)
       rw [x3 j hj,hv];rfl
      ·obtain ⟨i,j,z,rfl,hj,hi,hzi,hzj⟩:=y2f hzl hk
       rw [List.getElem?_map,zO2] at hzi
       obtain ⟨x,hx,rfl⟩:=hzi
       obtain ⟨x1,x2,x3,x4⟩:=hl2 i x hx
       obtain ⟨v,hv⟩:=z0O (l:=x.2) (k:=j) (by omega)
       rw [x3 j hj,hv]
       exact x4 j d v hzj hv
  ·cases hf
 | .unit=>by
  refine ⟨fun t n cs y hf hy=>by simp [z81] at hf,fun fs off n cs hf _=>⟨[],rfl,fun k d v h1 _=>by simp at h1⟩⟩
 | .pair f r=>by
  have iha:=y95 f
  have ihr:=y95 r
  have join:∀(g:Field) (fs':List Field) (off n:Nat) (cs:List Value),g.offset=off→P.cellsOf g.type=f.size→z81 P f (.inl g.type)=true→z81 P r (.inr (fs',off+f.size))=true →
    (∀(i:Nat) h,(g::fs')[i]? = some h→∃y,DataW.trod enc P w base spare held n h.type ((cs.drop h.offset).take (P.cellsOf h.type))=some y) →
    ∃ ds,IsD (.pair f r) ds∧∀(k:Nat) d v,ds[k]? = some d→cs[off+k]? = some v→VI w (fun _=>False) d v:=by
   intro g fs' off n cs e1 e2 e3 e4 hall
   obtain ⟨y,hy⟩:=hall 0 g rfl
   obtain ⟨da,a1,a2,a3⟩:=iha.1 _ _ _ _ e3 hy
   obtain ⟨dr,b1,b2⟩:=ihr.2 fs' (off+f.size) n cs e4 fun i h hi=>hall (i+1) h hi
   refine ⟨da++dr,⟨da,dr,a1,b1,rfl⟩,fun k d v h1 h2=>?_⟩
   rw [List.getElem?_append] at h1
   have hlen:=a1.len
   split at h1
   ·rename_i hlt
    refine a3 k d v h1 ?_
    rw [e1,e2,List.getElem?_take,if_pos (by omega),List.getElem?_drop];exact h2
   ·rename_i hge
    refine b2 (k - da.length) d v h1 ?_
    rw [show off+f.size+(k - da.length)=off+k by omega];exact h2
  refine ⟨fun t n cs y hf hy=>?_,fun fs off n cs hf hall=>?_⟩
  ·simp only [z81] at hf
   split at hf
   ·rename_i fs ht
    split at hf
    ·rename_i g fs' hfs
     simp only [Bool.and_eq_true,beq_iff_eq] at hf
     obtain ⟨⟨⟨⟨e1,e2⟩,e3⟩,e4⟩,e5⟩:=hf
     obtain ⟨xs,m,_,_,hlc,hxl,hget⟩:=DataW.trod_struct ht hy
     obtain ⟨ds,h1,h2⟩:=join g fs' 0 m cs e1 e2 e4 (by rw [Nat.zero_add];exact e5) fun i h hi=>by
      have hi':fs[i]? = some h:=by rw [←Array.getElem?_toList,hfs];exact hi
      have hlt:i<xs.length:=by rw [hxl];exact (Array.getElem?_eq_some_iff.1 hi').1
      exact ⟨xs[i],by rw [hget i h hi',zO4 hlt]⟩
     exact ⟨ds,h1,hlc.trans e3,fun k d v g1 g2=>h2 k d v g1 (by rw [Nat.zero_add];exact g2)⟩
    ·cases hf
   ·cases hf
  ·cases fs with
   | nil=>simp [z81] at hf
   | cons g fs' =>
    simp only [z81,Bool.and_eq_true,beq_iff_eq] at hf
    obtain ⟨⟨⟨e1,e2⟩,e4⟩,e5⟩:=hf
    exact join g fs' off n cs e1 e2 e4 e5 hall
theorem vi_D {r:Reach} {b0:Nat} {t:TypeId} {v:Value} {d:DataW H} {p:List MemPlace} {a b:Ty} (hf:z81 P (.pair a b) (.inl t)=true)
  (hv:Value.okWide P w r b0 t v) (h:DataW.Trod enc P w base spare held t v d p):∃ds,IsD (.pair a b) ds∧VI w (fun _=>False) (.agg ds) v:=by
 obtain ⟨fuel,hfu⟩:=h
 have hs:∃fs,P.underlying t=some (.struct fs):=by
  simp only [z81] at hf
  split at hf
  ·rename_i fs ht;exact ⟨fs,ht⟩
  ·cases hf
 obtain ⟨fs,ht⟩:=hs
 obtain ⟨cs,rfl,_⟩:=okWide_struct ht hv
 obtain ⟨ds,h1,h2,h3⟩:=(y95 (.pair a b)).1 t fuel _ _ hf hfu
 have hcs:(Value.agg cs).cells.toList=cs.toList:=by simp [Value.cells]
 rw [hcs] at h2 h3
 exact ⟨ds,h1,.agg (by rw [h1.len,←h2];simp) fun k d v g1 g2=>h3 k d v g1 (by simpa using g2)⟩
end
end Nat32
