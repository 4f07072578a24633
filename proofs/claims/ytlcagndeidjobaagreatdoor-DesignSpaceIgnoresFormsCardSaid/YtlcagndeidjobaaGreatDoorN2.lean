/- Lemmas of the walk; no conditions beyond those that each states. -/
import Derived.OpenShut
import Derived.Below
import Derived.Lib.SmallJoins
import Derived.ShutString
import Derived.Test.YtlcagndeidjobaaGreatDoorN1
import Derived.Test.YtlcagndeidjobaaGreatDoorD5
import Derived.Test.YtlcagndeidjobaaGreatDoorD4
set_option linter.unusedSimpArgs false
set_option linter.unusedVariables false
set_option linter.unnecessarySimpa false
set_option maxHeartbeats 4000000
namespace Nat32
open Go Go.Dat
def xOf (n k:Nat) (M:Mt):List (List XN):=(List.range n).map fun i=>(rwL k (M i)).map qX
theorem w2i (n k:Nat) (M:Mt):(xOf n k M).length=n:=by unfold xOf;rw [List.length_map,List.length_range]
theorem x5J {n k i:Nat} (h:i<n) (M:Mt):(xOf n k M).getD i []=(rwL k (M i)).map qX:=by
 unfold xOf;rw [zO1,List.getElem?_map,List.getElem?_range h];rfl
theorem x8i {n k i:Nat} (h:i<n) (M:Mt):((xOf n k M).getD i []).length=k:=by rw [x5J h,List.length_map,y7e]
theorem x9r {n k i j:Nat} (h:i<n) (hj:j<k) (M:Mt):((xOf n k M).getD i []).getD j default=qX (M i j):=by
 rw [x5J h,zO1,List.getElem?_map]
 unfold rwL
 rw [List.getElem?_map,List.getElem?_range hj];rfl
theorem w6G (n k:Nat) (M:Mt):xrs (xOf n k M)=mtD n k M:=by
 rw [y9i]
 unfold xrs xOf
 rw [List.map_map]
 congr 1
 refine List.map_congr_left fun i _=>?_
 simp only [Function.comp_apply]
 unfold rwC nums
 rw [List.flatMap_map];rfl
theorem x5I {n k:Nat} (M:Mt):∀i,i<n→∀j,j<k→mtX (xOf n k M) i j=M i j:=fun i hi j hj=>by
 unfold mtX;rw [x9r hi hj,x1F]
theorem w5k {n k:Nat} {M:Mt} {m:Nat} (hM:MS n k M m) (hm:m≤140800):∀i,i<n→∀j,j<k→lim (((xOf n k M).getD i []).getD j default).2.1∧lim (((xOf n k M).getD i []).getD j default).2.2∧(((xOf n k M).getD i []).getD j default).2.1.length≤4400∧(((xOf n k M).getD i []).getD j default).2.2.length≤4400:=fun i hi j hj=>by
 rw [x9r hi hj]
 have h:=y91 (l:=4400) (hM i hi j hj) (by omega)
 exact ⟨z0e _,z2U _,h.1,Nat.le_trans (y8m _) h.2⟩
theorem x62 (n k:Nat) (M:Mt):mtD n k M++[.sl 3 (rwC k (M n))]=mtD (n+1) k M:=by
 unfold mtD;rw [List.range_succ,List.map_append];rfl
theorem y1K {o sz m:Nat} {cells:List DV} {H:Hp} (h:lkH H o=some cells) (hz:sz≠0) (hl:cells.length=m*sz) (hr:∀d∈cells,d.rf=true):Exp (lkH H) (.osl sz o 0 m) (.sl sz cells):=by
 refine .osl h hz (by omega) hl fun j d r hd hr'=>?_
 rw [List.drop_zero,List.take_of_length_le (by omega)] at hd
 rw [hd] at hr';cases hr'
 exact .imm (hr d (List.mem_of_getElem? hd))
theorem y2G {n k i:Nat} (M:Mt) (f:Nat→Rat) (h:i<n):(mtD n k M).set i (.sl 3 (rwC k f))=mtD n k fun r=>if r=i then f else M r:=by
 apply List.ext_getElem?
 intro j
 unfold mtD
 rw [List.getElem?_set,List.length_map,List.length_range,List.getElem?_map,List.getElem?_map]
 by_cases e:i=j
 ·subst e;rw [if_pos rfl,if_pos h,List.getElem?_range h,Option.map_some];simp only [if_true]
 ·rw [if_neg e]
  by_cases hj:j<n
  ·rw [List.getElem?_range hj,Option.map_some,Option.map_some];simp only [if_neg (Ne.symm e)]
  ·rw [List.getElem?_eq_none (by rw [List.length_range];omega)];rfl
theorem x63 {n k a b:Nat} (M:Mt) (ha:a<n) (hb:b<n):((mtD n k M).set b (.sl 3 (rwC k (M a)))).set a (.sl 3 (rwC k (M b)))=mtD n k (z3U a b M):=by
 rw [y2G M (M a) hb,y2G _ (M b) ha]
 refine congrArg (mtD n k) ?_
 funext r c
 unfold z3U
 by_cases e:r=a
 ·rw [if_pos e,if_pos e]
 ·rw [if_neg e,if_neg e]
  by_cases e2:r=b
  ·rw [if_pos e2,if_pos e2]
  ·rw [if_neg e2,if_neg e2]
def elP (t j i:Nat) (S:Mt):Mt:=fun r c=>if r=t then S t c*(1 / S t j) else if r<i then S r c+S t c*(1 / S t j)*(-(S r j)) else S r c
theorem w5O (t j:Nat) (S:Mt):(fun r=>if r=t then (fun c=>S t c*(1 / S t j)) else S r)=elP t j 0 S:=by
 funext r c
 unfold elP
 by_cases e:r=t
 ·rw [if_pos e,if_pos e]
 ·rw [if_neg e,if_neg e,if_neg (Nat.not_lt_zero r)]
theorem x9T {t j n:Nat} {S:Mt}:∀r,r<n→∀c,elP t j n S r c=elimM t j S r c:=fun r hr c=>by
 unfold elP elimM
 by_cases e:r=t
 ·rw [if_pos e,if_pos e]
 ·rw [if_neg e,if_neg e,if_pos hr]
theorem w26 (t j i:Nat) (S:Mt) (c:Nat):elP t j i S t c=S t c*(1 / S t j):=by unfold elP;rw [if_pos rfl]
theorem w5P {t j i:Nat} {S:Mt} (h:i≠t):elP t j i S i=S i:=by funext c;unfold elP;rw [if_neg h,if_neg (Nat.lt_irrefl i)]
theorem x6o (t j:Nat) (S:Mt):elP t j t S=elP t j (t+1) S:=by
 funext r c
 unfold elP
 by_cases e:r=t
 ·rw [if_pos e,if_pos e]
 ·rw [if_neg e,if_neg e]
  by_cases e2:r<t
  ·rw [if_pos e2,if_pos (by omega)]
  ·rw [if_neg e2,if_neg (by omega)]
theorem x6n {t j i:Nat} {S:Mt} (h:i≠t):(fun r=>if r=i then (fun c=>S i c+elP t j i S t c*(-(S i j))) else elP t j i S r)=elP t j (i+1) S:=by
 funext r c
 by_cases e:r=i
 ·subst e
  rw [if_pos rfl,w26]
  unfold elP
  rw [if_neg h,if_pos (by omega)]
 ·rw [if_neg e]
  unfold elP
  by_cases e1:r=t
  ·rw [if_pos e1,if_pos e1]
  ·rw [if_neg e1,if_neg e1]
   by_cases e2:r<i
   ·rw [if_pos e2,if_pos (by omega)]
   ·rw [if_neg e2,if_neg (by omega)]
theorem x15 {F:FnD} {os:List DOper} {dst:Dst} {f:Nat} {ds:List DV} {te fr:Fr} {H:Hp} {K:Fr→Fr→Hp→Prop} (hp:F.pure=false) {Q:DV→Prop} (hrf:ds.all DV.rf=true)
  (hc:y7E F.P f ds [] fun r H'=>Q r∧H'=[]) (hQ:∀r,Q r→r.rf=true) (hK:∀r,Q r→z1k F os (dst.onT te r) (dst.onX fr r) H K):z4a F os dst f ds te fr H K:=by
 have hpg:pgN H (fun _=>none)=some:=funext fun p=>rfl
 have hds:ds.map (rn fun _=>none)=ds:=y4Q _ (List.all_eq_true.1 hrf)
 refine z5v hp (fun _=>none) (fun _=>none) (fun p q=>⟨fun h=>(by cases h),fun h=>(by cases h)⟩) (fun p q h=>(by cases h)) (fun p q h=>(by cases h)) (Hc:=[]) (fun q=>rfl) (by rw [hds];exact hc) ?_
 rintro r Hc' ⟨hr,rfl⟩
 refine ⟨H,fun p=>?_,?_⟩
 ·rw [hpg]
  show lkH H p=(lkH H p).map _
  cases lkH H p with
  | none=>rfl
  | some c=>rw [Option.map_some,x4l (fun _=>rfl)]
 ·rw [hpg,z9q (fun _=>rfl),z9q (fun _=>rfl),z5k _ r (hQ r hr)];exact hK r hr
theorem x7f {o sz m:Nat} {cells:List DV} {H:Hp} (h:lkH H o=some cells) (hz:sz≠0) (hl:cells.length=m*sz) (hr:∀d∈cells,d.rf=true):rdo H 1 (.osl sz o 0 m)=.sl sz cells:=by
 show (match lkH H o with|some cells=>_|none=>_)=_
 rw [h]
 simp only
 rw [if_pos ⟨hz,by omega⟩,List.drop_zero,List.take_of_length_le (by omega)]
 congr 1
 conv=>rhs;rw [←List.map_id cells]
 exact List.map_congr_left fun d hd=>w4T H 0 (hr d hd)
def w7b (M:Mt) (n j t a:Nat):Prop:=t≤a∧a≤n∧∀r,t≤r→r<a→M r j=0
theorem w0Z {r:Rat} (h:RB r 300):y9m (qX r):=⟨z0e _,z2U _,h.1,Nat.le_trans (y8m _) h.2⟩
def y2M (z:Int):Rat:=Rat.divInt (z % 61 - 30) (1+(Int.tdiv z 61) % 4)
def usL:List DV→Option (List Nat)
 | []=>some []
 | .int .u32 z::r=>if 0≤z∧z<4294967296 then (usL r).map (z.toNat::·) else none
 | _=>none
theorem x9o:∀{ds:List DV} {l:List Nat},usL ds=some l→ds=us l∧lim l
 | [],l,h=>by simp only [usL,Option.some.injEq] at h;subst h;exact ⟨rfl,z1m⟩
 | d::ds,l,h=>by
  unfold usL at h
  split at h
  ·rename_i e;cases e
  ·rename_i e
   cases e
   split at h
   ·rename_i hz
    rw [zO2] at h
    obtain ⟨m,hm,rfl⟩:=h
    obtain ⟨h1,h2⟩:=x9o hm
    refine ⟨?_,?_⟩
    ·rw [h1]
     simp only [us,List.map_cons,List.cons.injEq,and_true]
     unfold u32;rw [Int.toNat_of_nonneg hz.1]
    ·intro x hx
     rcases List.mem_cons.1 hx with rfl|hx
     ·omega
     ·exact h2 x hx
   ·cases h
  ·cases h
def w5z:DV→Option (List Nat)
 | .sl s xs=>if s=1 then usL xs else none
 | .nils=>some []
 | _=>none
theorem x5A {d:DV} {l:List Nat} (h:w5z d=some l):WkD d (.sl 1 (us l))∧lim l:=by
 unfold w5z at h
 split at h
 ·split at h
  ·rename_i hs
   subst hs
   obtain ⟨h1,h2⟩:=x9o h
   rw [h1];exact ⟨WkD.refl _,h2⟩
  ·cases h
 ·cases h;exact ⟨WkD.nils 1,z1m⟩
 ·cases h
def w5o:DV→Option XN
 | .agg [.bool b,x,y]=>(w5z x).bind fun l=>(w5z y).map fun m=>(b,l,m)
 | _=>none
theorem y7A {d:DV} {x:XN} (h:w5o d=some x):WkD d (.agg (xnC x))∧lim x.2.1∧lim x.2.2:=by
 unfold w5o at h
 split at h
 ·rename_i b p q
  rw [zO3] at h
  obtain ⟨l,h1,h⟩:=h
  rw [zO2] at h
  obtain ⟨m,h2,rfl⟩:=h
  obtain ⟨a1,a2⟩:=x5A h1
  obtain ⟨b1,b2⟩:=x5A h2
  exact ⟨WkD.agg (.cons (WkD.refl _) (.cons a1 (.cons b1 .nil))),a2,b2⟩
 ·cases h
def k1 (f:XN→Option DV):List DV→Option DV
 | [d]=>(w5o d).bind f
 | _=>none
theorem w3U {P:Program} {fn:Nat} {f:XN→Option DV} (h:∀x r,lim x.2.1→lim x.2.2→f x=some r→z0c P fn [.agg (xnC x)] r):∀ds r,k1 f ds=some r→z0c P fn ds r:=fun ds r hr=>by
 unfold k1 at hr
 split at hr
 ·rw [zO3] at hr
  obtain ⟨x,h1,h2⟩:=hr
  obtain ⟨a,b,c⟩:=y7A h1
  exact z5r (.cons a .nil) (h x r b c h2)
 ·cases hr
def k2 (f:XN→XN→Option DV):List DV→Option DV
 | [d,e]=>(w5o d).bind fun x=>(w5o e).bind fun y=>f x y
 | _=>none
theorem w0H {P:Program} {fn:Nat} {f:XN→XN→Option DV} (h:∀x y r,lim x.2.1→lim x.2.2→lim y.2.1→lim y.2.2→f x y=some r→z0c P fn [.agg (xnC x),.agg (xnC y)] r):∀ds r,k2 f ds=some r→z0c P fn ds r:=fun ds r hr=>by
 unfold k2 at hr
 split at hr
 ·rw [zO3] at hr
  obtain ⟨x,h1,hr⟩:=hr
  rw [zO3] at hr
  obtain ⟨y,h2,h3⟩:=hr
  obtain ⟨a,b,c⟩:=y7A h1
  obtain ⟨a',b',c'⟩:=y7A h2
  exact z5r (.cons a (.cons a' .nil)) (h x y r b c b' c' h3)
 ·cases hr
def smX (m:Nat) (x:XN):Bool:=decide (x.2.1.length≤m) && decide (x.2.2.length≤m)
theorem z7Q {m:Nat} {x:XN} (h:smX m x=true):x.2.1.length≤m∧x.2.2.length≤m:=by
 unfold smX at h
 simpa using h
def kI (f:Int→Option DV):List DV→Option DV
 | [.int .i64 z]=>if -9223372036854775808≤z∧z≤9223372036854775807 then f z else none
 | _=>none
theorem w0I {P:Program} {fn:Nat} {f:Int→Option DV} (h:∀z r,-9223372036854775808≤z→z≤9223372036854775807→f z=some r→z0c P fn [.int .i64 z] r):∀ds r,kI f ds=some r→z0c P fn ds r:=fun ds r hr=>by
 unfold kI at hr
 split at hr
 ·split at hr
  ·rename_i hz;exact h _ r hz.1 hz.2 hr
  ·cases hr
 ·cases hr
structure Fac where
 nm:List UInt8
 pw:Int
 deriving Inhabited,DecidableEq
def fcC (f:Fac):List DV:=[.str f.nm,.int .i64 f.pw]
theorem z2S (f:Fac):(fcC f).length=2:=rfl
def fcs (l:List Fac):List DV:=l.flatMap fcC
theorem z5a (l:List Fac):(fcs l).length=l.length*2:=z31 z2S l
theorem x8z (f:Fac):∀d∈fcC f,d.rf=true:=by
 intro d hd
 simp only [fcC,List.mem_cons,List.not_mem_nil,or_false] at hd
 rcases hd with rfl|rfl<;>rfl
theorem x9Z (f:Fac):∀d∈fcC f,d.one=true:=by
 intro d hd
 simp only [fcC,List.mem_cons,List.not_mem_nil,or_false] at hd
 rcases hd with rfl|rfl<;>rfl
theorem z8U (l:List Fac):∀d∈fcs l,d.rf=true:=x0d x8z l
theorem x90 (l:List Fac):∀d∈fcs l,d.one=true:=x8C x9Z l
theorem w6n (m:Nat) (a b:DV) (h:[a,b].all DV.rf=true):(rep m [a,b]).length=m*2∧∀x∈rep m [a,b],x.rf=true:=by
 show ((List.replicate m [a,b]).flatten).length=m*2∧∀x∈(List.replicate m [a,b]).flatten,x.rf=true
 constructor
 ·induction m with
  | zero=>rfl
  | succ m ih=>rw [List.replicate_succ,List.flatten_cons,List.length_append,ih];show 2+m*2=_;omega
 ·intro x hx
  obtain ⟨l,h1,h2⟩:=List.mem_flatten.1 hx
  rw [(List.mem_replicate.1 h1).2] at h2
  exact List.all_eq_true.1 h x h2
def ctE (k n i j:Nat):Int :=
 let b:Bool→Int:=fun c=>if c then 1 else 0
 if k=1 then b (decide (i=j+1)) else if k=2 then b (decide (i=j)) - b (decide (i=n - 1)) else if k=3 then (j+1)*b (decide (i=j+1)) - b (decide (i≤j)) else b (decide (i=j))
def ctC (k n:Nat):Nat:=if k=4 then n else n - 1
def ctD (k n:Nat):DV:=.tup [.sl 1 ((List.range n).map fun i=>.sl 3 ((List.range (ctC k n)).flatMap fun j=>xnC (qX (ctE k n i j)))),.int .i64 0]
def ctK:List DV→Option DV
 | [.int .i64 k,.int .i64 n]=>if 1≤k∧k≤4∧2≤n∧n≤3 then some (ctD k.toNat n.toNat) else none
 | _=>none
def w5L:List DV→Option DV
 | [.el B 0,.sl 2 [.str n,.int .i64 p],.agg [.str n',.int .i64 p']]=>if B.all DV.rf && decide (B.length=6) && decide (n=n') && decide (p=p') then (match B.getD 3 .undef with
  | .bool true=>some (B.getD 5 .undef)
  | .bool false=>some (.int .i64 4)
  | _=>none) else none
 | _=>none
theorem y6F (z:Int):BS (y2M z) 5:=by
 have b1:=Int.emod_nonneg z (show (61:Int)≠0 by decide)
 have b2:=Int.emod_lt_of_pos z (show (0:Int)<61 by decide)
 have b3:=Int.emod_nonneg (Int.tdiv z 61) (show (4:Int)≠0 by decide)
 have b4:=Int.emod_lt_of_pos (Int.tdiv z 61) (show (0:Int)<4 by decide)
 unfold y2M
 exact y3o (by omega) (by omega) (by omega)
section
open Go.RowKit Go.ChangeShapes Go.WideShapes Go.Joins Go.Deep
variable {H:Type} {enc:TypeId × Value→H} {P:Program} {w:World} {base:Nat} {spare:Nat→Bool} {held:Bool}
end
end Nat32
namespace Nat32
open Go Go.Dat
def w57 (z:Int):XN:=qX (y2M z)
def z94 (z:Int):Tc:=⟨false,w57 z,0⟩
def lvT (v m:Int):Tc:=if v<0 then ⟨true,(false,[],[]),0⟩ else ⟨false,(false,[],[]),Int.tmod v m⟩
def tbY (l:List Int) (n:Nat):List Tc:=(List.range n).map fun i=>z94 (l.getD i 0)
def tbG (l:List Int) (m:Int) (n:Nat):List Tc:=(List.range n).map fun i=>lvT (l.getD i 0) m
theorem z6Y (l:List Int) (n:Nat):(tbY l n).length=n:=by unfold tbY;rw [List.length_map,List.length_range]
theorem z6X (l:List Int) (m:Int) (n:Nat):(tbG l m n).length=n:=by unfold tbG;rw [List.length_map,List.length_range]
theorem y9P (l:List Int) (n:Nat):cxs (tbY l n)++cxC (z94 (l.getD n 0))=cxs (tbY l (n+1)):=by
 unfold tbY cxs;rw [List.range_succ,List.map_append,List.flatMap_append];simp
theorem y9O (l:List Int) (m:Int) (n:Nat):cxs (tbG l m n)++cxC (lvT (l.getD n 0) m)=cxs (tbG l m (n+1)):=by
 unfold tbG cxs;rw [List.range_succ,List.map_append,List.flatMap_append];simp
def z1V (Y X G H:List Int):List Kx :=
 let n:=min Y.length 10
 [⟨[121],1,[],tbY Y n⟩,⟨[120],1,[],tbY X n⟩,⟨[103],2,[[97],[98],[99]],tbG G 3 n⟩,⟨[104],2,[[117],[118]],tbG H 2 n⟩]
inductive RS (α:Type) where
 | ok (fs:List α) (k:Nat)
 | err (e k:Nat)
def nl (s:Bs):Nat:=s.count 10
end Nat32
namespace Nat32
open Go Go.Dat Go.Lib
structure Mdl where
 rs:Bs
 ic:Bool
 tm:List (List Fac)
 deriving Inhabited
def tmD (T:List (List Fac)):List DV:=T.map fun t=>.sl 2 (fcs t)
theorem x5x (T:List (List Fac)):(tmD T).length=T.length:=List.length_map _
theorem x5w {T:List (List Fac)} {i:Nat} (h:i<T.length) (d:DV):(tmD T).getD i d=.sl 2 (fcs (T.getD i [])):=by
 unfold tmD
 rw [zO1,List.getElem?_map,zO4 h,zO1,zO4 h];rfl
def z2w (m:Mdl):List DV:=[.str m.rs,.bool m.ic,.sl 1 (tmD m.tm)]
def z49 (n:Int) (S:List Kx) (m:Mdl) (cod:Int):List DV:=[.int .i64 n,.sl 4 (kxs S),.str m.rs,.bool m.ic,.sl 1 (tmD m.tm),.int .i64 cod]
def x4D (m:Mdl) (l:List Fac):Bool:=if l.isEmpty then m.ic else m.tm.any fun t=>decide (t.length=l.length) && l.all fun f=>t.contains f
def x6f (m:Mdl) (cod:Int) (t:List Fac) (f:Fac):Int:=if x4D m (t.filter fun x=>!decide (x=f)) then cod else 4
def z4C (S:List Kx) (s:Bs):Kx:=S.getD (ixS (z1y S) s).toNat default
def ctN (k:Int) (le:List Bs):List Bs:=(List.range (ctC k.toNat le.length)).map fun j=>if k=4 then 61::le.getD j [] else if k=1 then 61::le.getD (j+1) [] else 46::decDigits (j+1)
theorem y1Y (k:Int) (le:List Bs):(ctN k le).length=ctC k.toNat le.length:=by unfold ctN;rw [List.length_map,List.length_range]
def ctR (k n l:Nat):List Rat:=(List.range (ctC k n)).map fun j=>((ctE k n l j:Int):Rat)
theorem y55 (k n l:Nat):(ctR k n l).length=ctC k n:=by unfold ctR;rw [List.length_map,List.length_range]
section
variable (S:List Kx) (m:Mdl) (cod:Int)
def z93 (t:List Fac) (f:Fac):List Bs :=
 if (z4C S f.nm).kd=1 then [if f.pw=1 then (z4C S f.nm).nm else (z4C S f.nm).nm++94::decDigits f.pw.toNat] else (ctN (x6f m cod t f) (z4C S f.nm).le).map ((z4C S f.nm).nm++·)
def y14 (t:List Fac) (f:Fac) (r:Nat):List Rat :=
 if (z4C S f.nm).kd=1 then [xnV ((z4C S f.nm).ce.getD r default).va ^ f.pw.toNat] else ctR (x6f m cod t f).toNat (z4C S f.nm).le.length ((z4C S f.nm).ce.getD r default).lv.toNat
theorem z4D (t:List Fac) (f:Fac) (r:Nat):(y14 S m cod t f r).length=(z93 S m cod t f).length:=by
 unfold y14 z93
 split
 ·rfl
 ·rw [y55,List.length_map,y1Y]
def z9X (a b:List Bs):List Bs:=b.flatMap fun s=>a.map fun r=>r++58::s
def z7R (a b:List Rat):List Rat:=b.flatMap fun y=>a.map fun x=>x*y
theorem z4Q (a:List Bs):∀b:List Bs,(z9X a b).length=b.length*a.length
 | []=>by simp [z9X]
 | s::b=>by
  have:=z4Q a b
  unfold z9X at this ⊢
  rw [List.flatMap_cons,List.length_append,this,List.length_map,List.length_cons,Nat.succ_mul,Nat.add_comm]
theorem z6d (a:List Rat):∀b:List Rat,(z7R a b).length=b.length*a.length
 | []=>by simp [z7R]
 | s::b=>by
  have:=z6d a b
  unfold z7R at this ⊢
  rw [List.flatMap_cons,List.length_append,this,List.length_map,List.length_cons,Nat.succ_mul,Nat.add_comm]
def w5b (t:List Fac):List Bs:=match t with
 | []=>[]
 | f::fs=>fs.foldl (fun g h=>z9X g (z93 S m cod t h)) (z93 S m cod t f)
def x8e (t:List Fac) (r:Nat):List Rat:=match t with
 | []=>[]
 | f::fs=>fs.foldl (fun g h=>z7R g (y14 S m cod t h r)) (y14 S m cod t f r)
theorem y8F (t:List Fac) (r:Nat):∀(fs:List Fac) (a:List Bs) (b:List Rat),b.length=a.length→(fs.foldl (fun g h=>z7R g (y14 S m cod t h r)) b).length=(fs.foldl (fun g h=>z9X g (z93 S m cod t h)) a).length
 | [],_,_,h=>h
 | f::fs,a,b,h=>y8F t r fs _ _ (by rw [z6d,z4Q,z4D,h])
theorem x8f (t:List Fac) (r:Nat):(x8e S m cod t r).length=(w5b S m cod t).length:=by
 cases t with
 | nil=>rfl
 | cons f fs=>exact y8F S m cod (f::fs) r fs _ _ (z4D S m cod _ f r)
def y1u (t:List Fac):Bool:=t.all fun f=>!(z93 S m cod t f).isEmpty
def x0L:List (List Fac):=m.tm.filter (y1u S m cod)
def icN:List Bs:=if m.ic then [[40,73,110,116,101,114,99,101,112,116,41]] else []
def icV:List Rat:=if m.ic then [1] else []
def y0R:List Bs:=icN m++(x0L S m cod).flatMap (w5b S m cod)
def z92 (r:Nat):List Rat:=icV m++(x0L S m cod).flatMap fun t=>x8e S m cod t r
end
def z2A (m:Mdl):List Bs:=m.rs::m.tm.flatMap fun t=>t.map Fac.nm
def z2b (n:Nat) (S:List Kx) (m:Mdl):List Nat:=z00 (z1W S (z2A m)) n
def x5R (S:List Kx) (m:Mdl) (r:Nat):Rat:=xnV ((z4C S m.rs).ce.getD r default).va
def w2Y (n:Nat) (S:List Kx) (m:Mdl) (cod:Int):DV :=
 .agg [.sl 1 (z0K (y0R S m cod)),.sl 1 ((z2b n S m).map fun r=>.sl 3 (nums (z92 S m cod r))),.sl 3 (nums ((z2b n S m).map (x5R S m))),.sl 1 (ints (z2b n S m))]
end Nat32
namespace Nat32
open Go Go.Dat
abbrev Mo:=Nat × Rat
def evM (q:Rat) (a:Mo):Rat:=q ^ a.1*a.2
def w2t (m:Mdl) (cod:Int) (t:List Fac) (f:Fac) (g h:Nat):List Mo :=
 if f.nm=[103] then (ctR (x6f m cod t f).toNat 3 g).map (0,·) else if f.nm=[104] then (ctR (x6f m cod t f).toNat 2 h).map (0,·) else [(f.pw.toNat,1)]
def w49 (a b:List Mo):List Mo:=b.flatMap fun y=>a.map fun x=>(x.1+y.1,x.2*y.2)
def w5x (m:Mdl) (cod:Int) (t:List Fac) (g h:Nat):List Mo:=match t with
 | []=>[]
 | f::fs=>fs.foldl (fun a k=>w49 a (w2t m cod t k g h)) (w2t m cod t f g h)
def y11 (m:Mdl) (cod:Int) (g h:Nat):List Mo:=(if m.ic then [(0,1)] else [])++m.tm.flatMap fun t=>w5x m cod t g h
theorem y9E (q:Rat) (a:Nat):∀b:Nat,q ^ (a+b)=q ^ a*q ^ b
 | 0=>by rw [Nat.add_zero,Rat.pow_zero,Rat.mul_one]
 | b+1=>by rw [←Nat.add_assoc,Rat.pow_succ,y9E q a b,Rat.pow_succ,Rat.mul_assoc]
theorem x9V (q:Rat) (a b:Mo):evM q (a.1+b.1,a.2*b.2)=evM q a*evM q b:=by
 unfold evM
 rw [y9E]
 have:∀u v w z:Rat,u*v*(w*z)=u*w*(v*z):=fun u v w z=>by
  rw [Rat.mul_assoc,Rat.mul_assoc,←Rat.mul_assoc v,Rat.mul_comm v w,Rat.mul_assoc w]
 exact this _ _ _ _
theorem w2d (q:Rat) (a b:List Mo):z7R (a.map (evM q)) (b.map (evM q))=(w49 a b).map (evM q):=by
 unfold z7R w49
 rw [List.flatMap_map,List.map_flatMap]
 congr 1
 funext y
 rw [List.map_map,List.map_map]
 exact List.map_congr_left fun x _=>(x9V q x y).symm
def x5K (m:Mdl):Bool:=m.tm.all fun t=>t.all fun f=>decide (f.nm=[120]) || decide (f.nm=[103]) || decide (f.nm=[104])
theorem x9N (Y X G H:List Int):z4C (z1V Y X G H) [120]=⟨[120],1,[],tbY X (min Y.length 10)⟩:=rfl
theorem w2S (Y X G H:List Int):z4C (z1V Y X G H) [103]=⟨[103],2,[[97],[98],[99]],tbG G 3 (min Y.length 10)⟩:=rfl
theorem w2T (Y X G H:List Int):z4C (z1V Y X G H) [104]=⟨[104],2,[[117],[118]],tbG H 2 (min Y.length 10)⟩:=rfl
def xAt (X:List Int) (r:Nat):Rat:=y2M (X.getD r 0)
def gAt (m:Int) (G:List Int) (r:Nat):Nat:=(lvT (G.getD r 0) m).lv.toNat
theorem x5v (l:List Int) {n r:Nat} (h:r<n):(tbY l n).getD r default=z94 (l.getD r 0):=by
 unfold tbY
 rw [zO1,List.getElem?_map,List.getElem?_range h];rfl
theorem x5u (l:List Int) (m:Int) {n r:Nat} (h:r<n):(tbG l m n).getD r default=lvT (l.getD r 0) m:=by
 unfold tbG
 rw [zO1,List.getElem?_map,List.getElem?_range h];rfl
theorem w2l (z:Int):xnV (w57 z)=y2M z:=x1F _
section
variable {Y X G H:List Int} {m:Mdl} {cod:Int} {r:Nat}
theorem x8y (hr:r<min Y.length 10) {t:List Fac} {f:Fac} (hf:f.nm=[120]∨f.nm=[103]∨f.nm=[104]) :
  y14 (z1V Y X G H) m cod t f r=(w2t m cod t f (gAt 3 G r) (gAt 2 H r)).map (evM (xAt X r)):=by
 have hz:∀l:List Rat,l=(l.map fun x=>((0,x):Mo)).map (evM (xAt X r)):=fun l=>by
  rw [List.map_map]
  conv=>lhs;rw [←List.map_id l]
  refine List.map_congr_left fun x _=>?_
  show x=evM _ (0,x)
  unfold evM
  rw [Rat.pow_zero,Rat.one_mul]
 unfold y14 w2t
 rcases hf with e|e|e<;>rw [e]
 ·rw [x9N,if_pos rfl,if_neg (by decide),if_neg (by decide),x5v X hr]
  show [xnV (w57 _) ^ _]=_
  rw [w2l]
  simp only [List.map_cons,List.map_nil,evM,Rat.mul_one]
  rfl
 ·rw [w2S,if_neg (show ¬(2:Int)=1 by decide),if_pos rfl,x5u G 3 hr]
  exact hz _
 ·rw [w2T,if_neg (show ¬(2:Int)=1 by decide),if_neg (by decide),if_pos rfl,x5u H 2 hr]
  exact hz _
theorem w5c (hr:r<min Y.length 10) {t:List Fac} (ht:∀f∈t,f.nm=[120]∨f.nm=[103]∨f.nm=[104]) :
  x8e (z1V Y X G H) m cod t r=(w5x m cod t (gAt 3 G r) (gAt 2 H r)).map (evM (xAt X r)):=by
 have key:∀(u fs:List Fac) (a:List Rat) (b:List Mo),(∀f∈fs,f.nm=[120]∨f.nm=[103]∨f.nm=[104])→a=b.map (evM (xAt X r)) →
   fs.foldl (fun g h=>z7R g (y14 (z1V Y X G H) m cod u h r)) a=(fs.foldl (fun a k=>w49 a (w2t m cod u k (gAt 3 G r) (gAt 2 H r))) b).map (evM (xAt X r)):=by
  intro u fs
  induction fs with
  | nil=>intro a b _ h;exact h
  | cons f fs ih =>
   intro a b hm h
   refine ih _ _ (fun f' h'=>hm f' (List.mem_cons_of_mem _ h')) ?_
   show z7R a (y14 (z1V Y X G H) m cod u f r)=(w49 b (w2t m cod u f (gAt 3 G r) (gAt 2 H r))).map (evM (xAt X r))
   rw [x8y hr (hm f List.mem_cons_self),h,w2d]
 unfold x8e w5x
 cases t with
 | nil=>rfl
 | cons f fs=>exact key _ fs _ _ (fun f' h'=>ht f' (List.mem_cons_of_mem _ h')) (x8y hr (ht f List.mem_cons_self))
theorem x9Y {t:List Fac} {f:Fac} (hf:f.nm=[120]∨f.nm=[103]∨f.nm=[104]):z93 (z1V Y X G H) m cod t f≠[]:=by
 intro h
 have hl:=congrArg List.length h
 rw [←z4D _ m cod t f 0] at hl
 unfold y14 at hl
 rcases hf with e|e|e<;>rw [e] at hl
 ·rw [x9N,if_pos rfl] at hl;cases hl
 ·rw [w2S,if_neg (show ¬(2:Int)=1 by decide),y55] at hl
  unfold ctC at hl
  split at hl<;>simp at hl
 ·rw [w2T,if_neg (show ¬(2:Int)=1 by decide),y55] at hl
  unfold ctC at hl
  split at hl<;>simp at hl
theorem x9s (hm:x5K m=true) {t:List Fac} (ht:t∈m.tm):∀f∈t,f.nm=[120]∨f.nm=[103]∨f.nm=[104]:=fun f hf=>by
 unfold x5K at hm
 have:=List.all_eq_true.1 (List.all_eq_true.1 hm t ht) f hf
 simp only [Bool.or_eq_true,decide_eq_true_eq] at this
 rcases this with (h|h)|h
 ·exact .inl h
 ·exact .inr (.inl h)
 ·exact .inr (.inr h)
theorem w0O (hm:x5K m=true):x0L (z1V Y X G H) m cod=m.tm:=by
 unfold x0L
 refine List.filter_eq_self.2 fun t ht=>?_
 unfold y1u
 refine List.all_eq_true.2 fun f hf=>?_
 have:=x9Y (Y:=Y) (X:=X) (G:=G) (H:=H) (m:=m) (cod:=cod) (t:=t) (x9s hm ht f hf)
 simpa using this
theorem y8k (hm:x5K m=true) (hr:r<min Y.length 10):z92 (z1V Y X G H) m cod r=(y11 m cod (gAt 3 G r) (gAt 2 H r)).map (evM (xAt X r)):=by
 unfold z92 y11
 rw [w0O hm,List.map_append,List.map_flatMap]
 have h1:icV m=(if m.ic then [((0,1):Mo)] else []).map (evM (xAt X r)):=by
  unfold icV
  split
  ·simp only [List.map_cons,List.map_nil,evM,Rat.pow_zero,Rat.one_mul]
  ·rfl
 rw [h1]
 congr 1
 have:∀l:List (List Fac),(∀t∈l,∀f∈t,f.nm=[120]∨f.nm=[103]∨f.nm=[104])→(l.flatMap fun t=>x8e (z1V Y X G H) m cod t r)=l.flatMap fun t=>(w5x m cod t (gAt 3 G r) (gAt 2 H r)).map (evM (xAt X r)):=by
  intro l
  induction l with
  | nil=>intro _;rfl
  | cons t l ih =>
   intro hl
   rw [List.flatMap_cons,List.flatMap_cons,w5c hr (hl t List.mem_cons_self),ih fun t' h'=>hl t' (List.mem_cons_of_mem _ h')]
 exact this _ fun t ht=>x9s hm ht
end
def moE (l:List Mo) (i:Nat):Nat:=(l.getD i (0,0)).1
def moC (l:List Mo) (i:Nat):Rat:=(l.getD i (0,0)).2
def tAt (T:List (List Rat)) (i j:Nat):Rat:=(T.getD i []).getD j 0
def z9S (A B:Nat→Nat→List Mo) (ka kb:Nat) (T:List (List Rat)):Bool :=
 (List.range 3).all fun g=>(List.range 2).all fun h=>decide ((A g h).length=ka) && decide ((B g h).length=kb) && (List.range kb).all fun j =>
  (List.range ka).all (fun i=>decide (moE (A g h) i=moE (B g h) j) || decide (tAt T i j=0)) && decide (z1I ka (fun i=>moC (A g h) i*tAt T i j)=moC (B g h) j)
theorem x78 {A B:Nat→Nat→List Mo} {ka kb:Nat} {T:List (List Rat)} (hs:z9S A B ka kb T=true) {g h:Nat} (hg:g<3) (hh:h<2) (q:Rat) {j:Nat} (hj:j<kb) :
  ((B g h).map (evM q)).getD j 0=z1I ka fun i=>((A g h).map (evM q)).getD i 0*tAt T i j:=by
 unfold z9S at hs
 have h1:=List.all_eq_true.1 (List.all_eq_true.1 hs g (List.mem_range.2 hg)) h (List.mem_range.2 hh)
 simp only [Bool.and_eq_true,decide_eq_true_eq] at h1
 obtain ⟨⟨hA,hB⟩,h2⟩:=h1
 have h3:=List.all_eq_true.1 h2 j (List.mem_range.2 hj)
 simp only [Bool.and_eq_true,decide_eq_true_eq] at h3
 obtain ⟨h4,h5⟩:=h3
 have hget:∀(l:List Mo) (i:Nat),i<l.length→(l.map (evM q)).getD i 0=q ^ moE l i*moC l i:=fun l i hi=>by
  unfold moE moC
  rw [zO1,List.getElem?_map,zO4 hi,zO1,zO4 hi];rfl
 rw [hget _ j (by omega),←h5,←z3T]
 refine z0G fun i hi=>?_
 rw [hget _ i (by omega)]
 have h6:=List.all_eq_true.1 h4 i (List.mem_range.2 hi)
 rw [Bool.or_eq_true,decide_eq_true_eq,decide_eq_true_eq] at h6
 rcases h6 with h6|h6
 ·rw [h6,Rat.mul_assoc]
 ·rw [h6,Rat.mul_zero,Rat.mul_zero,Rat.mul_zero]
theorem y1d (m:Int) (hm:0<m) (l:List Int) (r:Nat):gAt m l r<m.toNat:=by
 unfold gAt lvT
 split
 ·show (0:Int).toNat<_;omega
 ·rename_i h
  show (Int.tmod _ m).toNat<_
  have h1:=Int.tmod_lt_of_pos (l.getD r 0) hm
  have h2:=Int.tmod_nonneg m (show 0≤l.getD r 0 by omega)
  omega
end Nat32
namespace Nat32
open Go Go.Dat
theorem IsRp.le_rank {n k j:Nat} {R M:Mt} {ps:List Nat} (h:IsRp n k j R ps) (hj:j≤k) (hK:z12 n k M R):ps.length≤(rrP n k M).length:=by
 obtain ⟨hA,hKA⟩:=y5r n k M
 have hB:IsR n j R ps:=⟨h.inc,h.lt,h.len,h.one,h.col,h.left,h.down⟩
 have ext:∀(X:Mt) (c:Nat→Rat),Ker n j X c↔Ker n k X fun i=>if i<j then c i else 0:=fun X c=>by
  have e:∀i,z1I k (fun l=>X i l*if l<j then c l else 0)=z1I j fun l=>X i l*c l:=fun i=>by
   obtain ⟨m,rfl⟩:∃m,k=j+m:=⟨k - j,by omega⟩
   clear hj
   induction m with
   | zero=>exact z0G fun l hl=>by rw [if_pos (by omega)]
   | succ m ih =>
    have hb:∀m,z1I (j+m) (fun l=>X i l*if l<j then c l else 0)=z1I j fun l=>X i l*c l:=fun m=>by
     induction m with
     | zero=>exact z0G fun l hl=>by rw [if_pos (by omega)]
     | succ m ih=>rw [←Nat.add_assoc,z1I,ih,if_neg (by omega),Rat.mul_zero,Rat.add_zero]
    exact hb _
  unfold Ker
  exact ⟨fun g i hi=>by rw [e];exact g i hi,fun g i hi=>by rw [←e];exact g i hi⟩
 have hKB:z12 n j M R:=fun c=>by rw [ext M,ext R];exact hK _
 refine y6J hA hKA hB hKB (fun l c=>if l=c then 1 else 0) fun i hi c hc=>?_
 rw [z1S (k:=c) (by omega) fun l _ hl=>by rw [if_neg hl,Rat.mul_zero],if_pos rfl,Rat.mul_one]
theorem y9F (n k:Nat) (M:Mt):(rrP n k M).length≤k:=by
 obtain ⟨a1,_⟩:=y5r n k M
 have:∀a,a<(rrP n k M).length→a≤(rrP n k M).getD a 0:=by
  intro a
  induction a with
  | zero=>intro _;exact Nat.zero_le _
  | succ a ih =>
   intro ha
   have h1:=ih (by omega)
   have h2:=a1.inc a (a+1) (by omega) ha
   omega
 by_cases h:(rrP n k M).length=0
 ·omega
 ·have h1:=this ((rrP n k M).length - 1) (by omega)
  have h2:=a1.lt ((rrP n k M).length - 1) (by omega)
  omega
structure Grp where
 nm:List Bs
 cl:DV
 r:cl.rf=true
 o:cl.one=true
instance:Inhabited Grp:=⟨⟨[],.nilp,rfl,rfl⟩⟩
def gpC (g:Grp):List DV:=[.sl 1 (z0K g.nm),g.cl]
theorem z1v (g:Grp):(gpC g).length=2:=rfl
theorem z5d (g:Grp):(DV.agg (gpC g)).cells? = some (gpC g):=by
 show (if (gpC g).all DV.one=true then some (gpC g) else none)=_
 have:(gpC g).all DV.one=true:=by
  simp only [gpC,List.all_cons,g.o,List.all_nil];rfl
 rw [if_pos this]
def gps (l:List Grp):List DV:=l.flatMap gpC
theorem z2z (l:List Grp):(gps l).length=l.length*2:=z31 z1v l
theorem z32 (g:Grp):∀d∈gpC g,d.rf=true:=by
 intro d hd
 simp only [gpC,List.mem_cons,List.not_mem_nil,or_false] at hd
 rcases hd with rfl|rfl
 ·rfl
 ·exact g.r
theorem w0b (g:Grp):∀d∈gpC g,d.one=true:=by
 intro d hd
 simp only [gpC,List.mem_cons,List.not_mem_nil,or_false] at hd
 rcases hd with rfl|rfl
 ·rfl
 ·exact g.o
theorem z7y (l:List Grp):∀d∈gps l,d.rf=true:=x0d z32 l
def GV (P:Program) (g:Grp) (r:Nat) (l:List Rat):Prop:=∃f cs,z6K g.cl f cs∧z0U P f∧cs.all DV.rf=true∧z0c P f ([.int .i64 (r:Nat)]++cs) (.sl 3 (nums l))
theorem x1L {q:Rat} {b:Nat} (h:BS q b):∀i:Nat,BS (q ^ i) (i*b+1)
 | 0=>by rw [Rat.pow_zero];exact x8l.mono (by omega)
 | i+1=>by
  rw [Rat.pow_succ]
  exact (z5p (x1L h i) h).mono (by rw [Nat.succ_mul];omega)
theorem w2U (k n:Nat):ctD k n=.tup [.sl 1 ((List.range n).map fun i=>.sl 3 (nums (ctR k n i))),.int .i64 0]:=by
 unfold ctD nums ctR
 have:∀i,((List.range (ctC k n)).flatMap fun j=>xnC (qX (ctE k n i j)))=((List.range (ctC k n)).map fun j=>((ctE k n i j:Int):Rat)).flatMap z0T:=fun i=>by rw [List.flatMap_map];rfl
 simp only [this]
def ctL (k n:Nat):List DV:=(List.range n).map fun i=>.sl 3 (nums (ctR k n i))
theorem x9P (k n:Nat):(ctL k n).length=n:=by unfold ctL;rw [List.length_map,List.length_range]
theorem x9O {k n i:Nat} (h:i<n) (d:DV):(ctL k n).getD i d=.sl 3 (nums (ctR k n i)):=by
 unfold ctL
 rw [zO1,List.getElem?_map,List.getElem?_range h];rfl
theorem z1R (l:List Bs):∀d∈z0K l,d.rf=true:=by
 intro d hd
 unfold z0K at hd
 obtain ⟨_,_,rfl⟩:=List.mem_map.1 hd
 rfl
def x5S (l:List Bs) (n i:Nat):List DV:=z0K (l.take i)++List.replicate (n - i) (.str [])
theorem w3b (l:List Bs) (n:Nat):rep n [DV.str []]=x5S l n 0:=by
 unfold x5S
 rw [List.take_zero,Nat.sub_zero]
 rfl
theorem x6v {l:List Bs} {n i:Nat} (h:l.length=n) (hi:i≤n):(x5S l n i).length=n:=by
 unfold x5S z0K
 rw [List.length_append,List.length_map,List.length_take,List.length_replicate];omega
theorem x6w {l:List Bs} {n i:Nat} (h:l.length=n) (hi:i<n):(x5S l n i).set i (.str (l.getD i []))=x5S l n (i+1):=by
 have e:(z0K (l.take i)).length=i:=by unfold z0K;rw [List.length_map,List.length_take];omega
 unfold x5S
 rw [List.set_append_right _ _ (by omega),e,Nat.sub_self,show n - i=(n - (i+1))+1 by omega,List.replicate_succ,List.set_cons_zero]
 have:l.take (i+1)=l.take i++[l.getD i []]:=z0z [] (by omega)
 rw [this]
 unfold z0K
 rw [List.map_append,List.append_assoc];rfl
theorem x6u {l:List Bs} {n:Nat} (h:l.length=n):x5S l n n=z0K l:=by
 unfold x5S
 rw [Nat.sub_self,List.replicate_zero,List.append_nil,List.take_of_length_le (by omega)]
def w4I (n:Nat) (S:List Kx) (m:Mdl) (r:Nat):Prop:=r<n∧∀s∈z2A m,y5R r (z4C S s)=false
theorem x5a {n:Nat} {S:List Kx} {m:Mdl} {r:Nat} (h:r∈z2b n S m):w4I n S m r:=by
 unfold z2b z00 at h
 rw [List.mem_filter,List.mem_range] at h
 refine ⟨h.1,fun s hs=>?_⟩
 have h2:=h.2
 rw [Bool.not_eq_true',List.any_eq_false] at h2
 have:=h2 (z4C S s) (by unfold z1W;exact List.mem_map.2 ⟨s,hs,rfl⟩)
 simpa using this
theorem y5N {m:Mdl} {t:List Fac} {f:Fac} (ht:t∈m.tm) (hf:f∈t):f.nm∈z2A m:=by
 unfold z2A
 exact List.mem_cons_of_mem _ (List.mem_flatMap.2 ⟨t,ht,List.mem_map.2 ⟨f,hf,rfl⟩⟩)
structure DK (P:Program) (fp fm:Nat) (n:Nat) (S:List Kx) (m:Mdl) (cod:Nat):Prop where
 ok:S.length≤1000000∧∀k∈S,k.nm.length≤9223372036854775807∧k.le.length≤1000000∧k.ce.length≤1000000∧∀c∈k.ce,y9m c.va
 tv:x1J n S=true
 vs:∀s∈z2A m,0≤ixS (z1y S) s
 c4:1≤cod∧cod≤4
 pw:∀t∈m.tm,∀f∈t,1≤f.pw∧f.pw≤8
 tl:m.tm.length≤32∧∀t∈m.tm,1≤t.length∧t.length≤6
 nl:∀k∈S,k.nm.length≤1000000∧∀s∈k.le,s.length≤1000000
 nu:∀k∈S,∀c∈k.ce,c.va=qX (xnV c.va)∧BS (xnV c.va) 100
 lv:∀k∈S,k.kd≠1→1≤k.le.length∧k.le.length≤3
 pr:∀t∈m.tm,∀f∈t,z0c P fp [.el (z49 n S m cod) 0,.sl 2 (fcs (t.filter fun x=>!decide (x=f)))] (.bool (x4D m (t.filter fun x=>!decide (x=f))))
 mx:∀k∈S,k.kd≠1→∀c:Nat,1≤c→c≤4→z0c P fm [.int .i64 c,.int .i64 k.le.length] (ctD c k.le.length)
theorem y1X {S:List Kx} {s:Bs} (h:0≤ixS (z1y S) s):z4C S s∈S:=by
 have hbd:=y1k s (z1y S)
 rw [z1d] at hbd
 exact z7E (by omega)
theorem y3e {n:Nat} {S:List Kx} (h:x1J n S=true) {k:Kx} (hk:k∈S):(k.kd=1∨k.kd=2)∧k.ce.length=n∧(∀c∈k.ce,y8t k c=true)∧k.le.length≤32∧(k.kd=1→k.le=[]):=by
 unfold x1J at h
 simp only [Bool.and_eq_true,decide_eq_true_eq,List.all_eq_true] at h
 have h1:=h.2 k hk
 unfold x1G x1I at h1
 simp only [Bool.and_eq_true,Bool.or_eq_true,decide_eq_true_eq,List.all_eq_true,Bool.not_eq_true',Bool.and_eq_false_iff,decide_eq_false_iff_not] at h1
 obtain ⟨⟨⟨⟨⟨h2,h3⟩,h4⟩,h5⟩,_⟩,h6⟩:=h1
 refine ⟨h2,by omega,h6,h4,fun h=>?_⟩
 rcases h3 with h3|h3
 ·exact absurd h h3
 ·exact List.eq_nil_of_length_eq_zero (by omega)
theorem w3c {k:Kx} {x:Tc} (h:y8t k x=true) (h1:x.mi=false) (h2:k.kd≠1):0≤x.lv∧x.lv<k.le.length:=by
 unfold y8t at h
 rw [h1,if_neg (by decide),if_neg h2] at h
 simp only [Bool.and_eq_true,decide_eq_true_eq] at h
 exact ⟨h.1.2,h.2⟩
theorem w2V {k n i j:Nat} (hj:j<32):(ctE k n i j).natAbs≤33:=by
 unfold ctE
 simp only
 repeat' split
 all_goals omega
theorem w2A {z:Int} (h:z.natAbs≤63):BS ((z:Int):Rat) 6:=⟨by rw [Rat.num_intCast];omega,by rw [Rat.den_intCast];decide⟩
theorem w2X {k n l:Nat} (hn:n≤32):∀x∈ctR k n l,BS x 6:=by
 intro x hx
 unfold ctR at hx
 obtain ⟨j,hj,rfl⟩:=List.mem_map.1 hx
 rw [List.mem_range] at hj
 have hc:ctC k n≤n:=by unfold ctC;split<;>omega
 have:=@w2V k n l j (by omega)
 exact w2A (by omega)
end Nat32
namespace Nat32
open Go Go.Dat Go.Lib
def x5P (P:Program) (ok:Nat→Prop) (G:List Grp) (L:List (List Bs × (Nat→List Rat))):Prop :=
 G.length=L.length∧∀i,i<G.length→(G.getD i default).nm=(L.getD i default).1∧∀r,ok r→GV P (G.getD i default) r ((L.getD i default).2 r)
theorem x5P.nil (P:Program) (ok:Nat→Prop):x5P P ok [] []:=⟨rfl,fun i h=>by cases h⟩
theorem x5P.snoc {P:Program} {ok:Nat→Prop} {G:List Grp} {L:List (List Bs × (Nat→List Rat))} (h:x5P P ok G L) {g:Grp} {p:List Bs × (Nat→List Rat)} (h1:g.nm=p.1) (h2:∀r,ok r→GV P g r (p.2 r)):x5P P ok (G++[g]) (L++[p]):=by
 obtain ⟨e,hi⟩:=h
 refine ⟨by rw [List.length_append,List.length_append,e];rfl,fun i h=>?_⟩
 rw [List.length_append] at h
 rcases Nat.lt_or_ge i G.length with h'|h'
 ·have e1:(G++[g]).getD i default=G.getD i default:=by rw [zO1,List.getElem?_append_left h',←zO1]
  have e2:(L++[p]).getD i default=L.getD i default:=by rw [zO1,List.getElem?_append_left (by omega),←zO1]
  rw [e1,e2];exact hi i h'
 ·have h':i=G.length:=by have:[g].length=1:=rfl;omega
  subst h'
  have e1:(G++[g]).getD G.length default=g:=by rw [zO1,List.getElem?_append_right (Nat.le_refl _),Nat.sub_self];rfl
  have e2:(L++[p]).getD G.length default=p:=by rw [e,zO1,List.getElem?_append_right (Nat.le_refl _),Nat.sub_self];rfl
  rw [e1,e2];exact ⟨h1,h2⟩
theorem x5P.names {P:Program} {ok:Nat→Prop} {G:List Grp} {L:List (List Bs × (Nat→List Rat))} (h:x5P P ok G L):G.map Grp.nm=L.map Prod.fst:=by
 obtain ⟨e,hi⟩:=h
 refine List.ext_getElem? fun i=>?_
 rw [List.getElem?_map,List.getElem?_map]
 by_cases hl:i<G.length
 ·have:=(hi i hl).1
  rw [zO1,zO4 hl,zO1,zO4 (by omega)] at this
  rw [zO4 hl,zO4 (by omega)]
  exact congrArg some this
 ·rw [List.getElem?_eq_none (by omega),List.getElem?_eq_none (by omega)];rfl
def y6b (G:List Grp) (n j:Nat):List DV:=gps (G.take j)++rep (n - j) [.nils,.undef]
theorem w3a (G:List Grp) (n:Nat):rep n [DV.nils,.undef]=y6b G n 0:=by unfold y6b;rw [List.take_zero,Nat.sub_zero];rfl
theorem y8s {G:List Grp} {n j:Nat} (h:G.length=n) (hj:j≤n):(y6b G n j).length=n*2:=by
 unfold y6b
 rw [List.length_append,z2z,List.length_take,(w6n (n - j) .nils .undef rfl).1];omega
theorem x6r {G:List Grp} {n j:Nat} (h:G.length=n) (hj:j<n):(y6b G n j).take (j*2)++gpC (G.getD j default)++(y6b G n j).drop (j*2+2)=y6b G n (j+1):=by
 have e:(gps (G.take j)).length=j*2:=by rw [z2z,List.length_take];congr 1;omega
 have hr:rep (n - j) [DV.nils,.undef]=[.nils,.undef]++rep (n - (j+1)) [DV.nils,.undef]:=by
  rw [show n - j=(n - (j+1))+1 by omega]
  show (List.replicate _ _).flatten=_++(List.replicate _ _).flatten
  rw [List.replicate_succ,List.flatten_cons]
 unfold y6b
 rw [hr,List.take_append_of_le_length (by omega),List.take_of_length_le (by omega),List.drop_append,List.drop_of_length_le (by omega),List.nil_append,show j*2+2 - (gps (G.take j)).length=2 by omega,z0z default (show j<G.length by omega)]
 unfold gps
 rw [y17];rfl
theorem x6q {G:List Grp} {n:Nat} (h:G.length=n):y6b G n n=gps G:=by
 unfold y6b
 rw [Nat.sub_self,List.take_of_length_le (by omega)]
 show gps G++[]=_
 rw [List.append_nil]
theorem x92 (G:List Grp) (n j:Nat):∀d∈y6b G n j,d.rf=true:=by
 intro d hd
 unfold y6b at hd
 rcases List.mem_append.1 hd with h|h
 ·exact z7y _ d h
 ·exact (w6n (n - j) .nils .undef rfl).2 d h
theorem x91 {G:List Grp} {n j:Nat} (h:G.length=n) (hj:j<n):(y6b G n (j+1)).getD (j*2) .undef=.sl 1 (z0K (G.getD j default).nm):=by
 unfold y6b
 have e:j<(G.take (j+1)).length:=by rw [List.length_take];omega
 rw [zO1,List.getElem?_append_left (by rw [z2z];omega),←zO1]
 have h1:(gps (G.take (j+1))).getD (j*2) .undef=(gpC ((G.take (j+1)).getD j default)).getD 0 .undef:=y6c (j:=0) z1v default e (by decide) .undef
 rw [h1]
 have:(G.take (j+1)).getD j default=G.getD j default:=by
  rw [zO1,List.getElem?_take_of_lt (by omega),←zO1]
 rw [this];rfl
section
variable {P:Program} {fp fm n cod:Nat} {S:List Kx} {m:Mdl}
theorem dd9:∀p,p<40→(decDigits p).length≤2:=by decide +kernel
theorem z6w (h:DK P fp fm n S m cod) {t:List Fac} {f:Fac} (ht:t∈m.tm) (hf:f∈t):(z93 S m cod t f).length≤3∧∀s∈z93 S m cod t f,s.length≤2000010:=by
 have hkm:=y1X (h.vs _ (y5N ht hf))
 obtain ⟨n1,n2⟩:=h.nl _ hkm
 have hpw:=h.pw t ht f hf
 unfold z93
 split
 ·refine ⟨by show 1≤3;omega,fun s hs=>?_⟩
  rw [List.mem_singleton.1 hs]
  have:=dd9 f.pw.toNat (by omega)
  split
  ·omega
  ·rw [List.length_append,List.length_cons];omega
 ·rename_i h1
  have hl:=h.lv _ hkm h1
  have hcb:∀c,ctC c (z4C S f.nm).le.length≤(z4C S f.nm).le.length:=fun c=>by unfold ctC;split<;>omega
  have:=hcb (x6f m cod t f).toNat
  refine ⟨by rw [List.length_map,y1Y];omega,fun s hs=>?_⟩
  obtain ⟨u,hu,rfl⟩:=List.mem_map.1 hs
  unfold ctN at hu
  obtain ⟨j,hj,rfl⟩:=List.mem_map.1 hu
  rw [List.mem_range] at hj
  have hg:∀i,((z4C S f.nm).le.getD i []).length≤1000000:=fun i=>by
   by_cases hi:i<(z4C S f.nm).le.length
   ·exact n2 _ (z1O hi)
   ·rw [zO1,List.getElem?_eq_none (by omega)];decide
  have h1:=hg j
  have h2:=hg (j+1)
  have h3:=dd9 (j+1) (by omega)
  rw [List.length_append]
  split
  ·rw [List.length_cons];omega
  ·split
   ·rw [List.length_cons];omega
   ·rw [List.length_cons];omega
theorem y6a (h:DK P fp fm n S m cod) {t:List Fac} {f:Fac} (ht:t∈m.tm) (hf:f∈t) {r:Nat} (hr:r<n):∀x∈y14 S m cod t f r,BS x 900:=by
 have hkm:=y1X (h.vs _ (y5N ht hf))
 obtain ⟨_,hcl,_,h32,_⟩:=y3e h.tv hkm
 have hpw:=h.pw t ht f hf
 intro x hx
 unfold y14 at hx
 split at hx
 ·rw [List.mem_singleton.1 hx]
  obtain ⟨_,q2⟩:=h.nu _ hkm ((z4C S f.nm).ce.getD r default) (z7E (by rw [hcl];exact hr))
  refine (x1L q2 f.pw.toNat).mono ?_
  have:f.pw.toNat*100≤8*100:=Nat.mul_le_mul_right _ (by omega)
  omega
 ·exact (w2X (by omega) x hx).mono (by decide)
def x5X (S:List Kx) (m:Mdl) (cod:Int) (t fs:List Fac) (f:Fac) (k:Nat):List Bs:=(fs.take k).foldl (fun g h=>z9X g (z93 S m cod t h)) (z93 S m cod t f)
def x5Y (S:List Kx) (m:Mdl) (cod:Int) (t fs:List Fac) (f:Fac) (k r:Nat):List Rat:=(fs.take k).foldl (fun g h=>z7R g (y14 S m cod t h r)) (y14 S m cod t f r)
theorem z8i (t:List Fac) {fs:List Fac} (f:Fac) {k:Nat} (hk:k<fs.length):x5X S m cod t fs f (k+1)=z9X (x5X S m cod t fs f k) (z93 S m cod t (fs.getD k default)):=by
 unfold x5X;rw [z0z default hk,List.foldl_append];rfl
theorem z8j (t:List Fac) {fs:List Fac} (f:Fac) (r:Nat) {k:Nat} (hk:k<fs.length):x5Y S m cod t fs f (k+1) r=z7R (x5Y S m cod t fs f k r) (y14 S m cod t (fs.getD k default) r):=by
 unfold x5Y;rw [z0z default hk,List.foldl_append];rfl
theorem y7I (t:List Fac) {fs:List Fac} (f:Fac) (r:Nat):∀{k:Nat},k≤fs.length→(x5Y S m cod t fs f k r).length=(x5X S m cod t fs f k).length
 | 0,_=>z4D S m cod t f r
 | k+1,hk=>by rw [z8j t f r hk,z8i t f hk,z6d,z4Q,y7I t f r (by omega),z4D]
theorem y1M (h:DK P fp fm n S m cod) {t fs:List Fac} {f:Fac} (ht:t∈m.tm) (hf:f∈t) (hfs:∀f∈fs,f∈t):∀{k:Nat},k≤fs.length→(x5X S m cod t fs f k).length≤3 ^ (k+1)∧∀s∈x5X S m cod t fs f k,s.length≤(k+1)*2000020
 | 0,_=>⟨(z6w h ht hf).1,fun s hs=>Nat.le_trans ((z6w h ht hf).2 s hs) (by decide)⟩
 | k+1,hk=>by
  obtain ⟨i1,i2⟩:=y1M h ht hf hfs (show k≤fs.length by omega)
  obtain ⟨b1,b2⟩:=z6w h ht (hfs _ (z7E hk))
  rw [z8i t f hk]
  refine ⟨?_,fun s hs=>?_⟩
  ·rw [z4Q,Nat.pow_succ,Nat.mul_comm]
   exact Nat.mul_le_mul i1 b1
  ·unfold z9X at hs
   obtain ⟨u,hu,hs⟩:=List.mem_flatMap.1 hs
   obtain ⟨v,hv,rfl⟩:=List.mem_map.1 hs
   have h1:=i2 v hv
   have h2:=b2 u hu
   rw [List.length_append,List.length_cons,Nat.succ_mul]
   omega
theorem y5X (h:DK P fp fm n S m cod) {t fs:List Fac} {f:Fac} (ht:t∈m.tm) (hf:f∈t) (hfs:∀f∈fs,f∈t) {r:Nat} (hr:r<n):∀{k:Nat},k≤fs.length→∀x∈x5Y S m cod t fs f k r,BS x ((k+1)*900)
 | 0,_=>fun x hx=>(y6a h ht hf hr x hx).mono (by decide)
 | k+1,hk=>by
  intro x hx
  rw [z8j t f r hk] at hx
  unfold z7R at hx
  obtain ⟨u,hu,hx⟩:=List.mem_flatMap.1 hx
  obtain ⟨v,hv,rfl⟩:=List.mem_map.1 hx
  exact (z5p (y5X h ht hf hfs hr (show k≤fs.length by omega) v hv) (y6a h ht (hfs _ (z7E hk)) hr u hu)).mono (by rw [Nat.succ_mul (k+1)];exact Nat.le_refl _)
theorem x1U {t fs:List Fac} {f:Fac} (ht:t=f::fs):x5X S m cod t fs f fs.length=w5b S m cod t∧∀r,x5Y S m cod t fs f fs.length r=x8e S m cod t r:=by
 subst ht
 unfold x5X x5Y
 rw [List.take_length]
 exact ⟨rfl,fun r=>rfl⟩
def x5H (S:List Kx) (m:Mdl) (cod:Int) (t:List Fac) (j:Nat):Nat:=(t.take j).foldl (fun w f=>w*max 1 (z93 S m cod t f).length) 1
theorem y5O {t:List Fac} {j:Nat} (hj:j<t.length):x5H S m cod t (j+1)=x5H S m cod t j*max 1 (z93 S m cod t (t.getD j default)).length:=by
 unfold x5H;rw [z0z default hj,List.foldl_append];rfl
theorem y7z (h:DK P fp fm n S m cod) {t:List Fac} (ht:t∈m.tm):∀{j:Nat},j≤t.length→x5H S m cod t j≤3 ^ j
 | 0,_=>Nat.le_refl _
 | j+1,hj=>by
  rw [y5O hj,Nat.pow_succ]
  have:=(z6w h ht (z7E hj)).1
  exact Nat.mul_le_mul (y7z h ht (by omega)) (by omega)
def w6z (S:List Kx) (m:Mdl) (cod:Int) (t:List Fac):List Bs × (Nat→List Rat):=(w5b S m cod t,x8e S m cod t)
def icL (m:Mdl):List (List Bs × (Nat→List Rat)):=if m.ic then [([[40,73,110,116,101,114,99,101,112,116,41]],fun _=>[1])] else []
def z3l (S:List Kx) (m:Mdl) (cod:Int) (i:Nat):List (List Bs × (Nat→List Rat)):=icL m++((m.tm.take i).filter (y1u S m cod)).map (w6z S m cod)
theorem x6h {i:Nat} (hi:i<m.tm.length) (h:y1u S m cod (m.tm.getD i [])=true):z3l S m cod (i+1)=z3l S m cod i++[w6z S m cod (m.tm.getD i [])]:=by
 unfold z3l
 rw [z0z [] hi,List.filter_append,List.map_append,List.filter_cons,if_pos h,List.append_assoc];rfl
theorem x9R {i:Nat} (hi:i<m.tm.length) (h:y1u S m cod (m.tm.getD i [])=false):z3l S m cod (i+1)=z3l S m cod i:=by
 unfold z3l
 rw [z0z [] hi,List.filter_append,List.filter_cons,if_neg (by rw [h];decide)];simp
theorem w2Z:(z3l S m cod m.tm.length).flatMap Prod.fst=y0R S m cod:=by
 unfold z3l y0R icL icN x0L
 rw [List.take_length,List.flatMap_append,List.flatMap_map]
 split<;>rfl
theorem w20 (r:Nat):(z3l S m cod m.tm.length).flatMap (fun p=>p.2 r)=z92 S m cod r:=by
 unfold z3l z92 icL icV x0L
 rw [List.take_length,List.flatMap_append,List.flatMap_map]
 split<;>rfl
def z95 (S:List Kx) (m:Mdl) (cod:Int) (i:Nat):Nat:=(if m.ic then 1 else 0)+(((m.tm.take i).filter (y1u S m cod)).map fun t=>x5H S m cod t t.length).sum
theorem y7N {i:Nat} (hi:i<m.tm.length) (h:y1u S m cod (m.tm.getD i [])=true):z95 S m cod (i+1)=z95 S m cod i+x5H S m cod (m.tm.getD i []) (m.tm.getD i []).length:=by
 unfold z95
 rw [z0z [] hi,List.filter_append,List.map_append,List.filter_cons,if_pos h,List.sum_append]
 simp only [List.filter_nil,List.map_cons,List.map_nil,List.sum_cons,List.sum_nil]
 omega
theorem x2c {i:Nat} (hi:i<m.tm.length) (h:y1u S m cod (m.tm.getD i [])=false):z95 S m cod (i+1)=z95 S m cod i:=by
 unfold z95
 rw [z0z [] hi,List.filter_append,List.filter_cons,if_neg (show ¬y1u S m cod (m.tm.getD i [])=true by rw [h];decide)];simp
theorem z8p {i:Nat}:∀{j:Nat},j≤m.tm.length→i≤j→z95 S m cod i≤z95 S m cod j
 | 0,_,h=>by rw [Nat.le_zero.1 h];exact Nat.le_refl _
 | j+1,hj,h=>by
  by_cases e:i=j+1
  ·rw [e];exact Nat.le_refl _
  ·have ih:=z8p (i:=i) (show j≤m.tm.length by omega) (by omega)
   cases hk:y1u S m cod (m.tm.getD j [])
   ·rw [x2c hj hk];exact ih
   ·rw [y7N hj hk];omega
end
end Nat32
namespace Nat32
open Go Go.Dat
def nmU (G:List Grp) (i:Nat):List Bs:=(G.take i).flatMap Grp.nm
theorem y9k {G:List Grp} {i:Nat} (h:i<G.length):nmU G (i+1)=nmU G i++(G.getD i default).nm:=by
 unfold nmU;rw [z0z default h,List.flatMap_append];simp
def vlU (L:List (List Bs × (Nat→List Rat))) (r i:Nat):List Rat:=(L.take i).flatMap fun p=>p.2 r
theorem y9V {L:List (List Bs × (Nat→List Rat))} {r i:Nat} (h:i<L.length):vlU L r (i+1)=vlU L r i++(L.getD i default).2 r:=by
 unfold vlU;rw [z0z default h,List.flatMap_append];simp
def rwU (S:List Kx) (m:Mdl) (cod:Int) (R:List Nat) (i:Nat):List DV:=(R.take i).map fun r=>.sl 3 (nums (z92 S m cod r))
theorem x7L {S:List Kx} {m:Mdl} {cod:Int} {R:List Nat} {i:Nat} (h:i<R.length):rwU S m cod R i++[.sl 3 (nums (z92 S m cod (R.getD i 0)))]=rwU S m cod R (i+1):=by
 unfold rwU;rw [z0z 0 h,List.map_append];rfl
theorem x5d {S:List Kx} {m:Mdl} {cod:Int} {R:List Nat} {i:Nat} (h:i≤R.length):(rwU S m cod R i).length=i:=by
 unfold rwU;rw [List.length_map,List.length_take];omega
theorem y1G (S:List Kx) (m:Mdl) (cod:Int) (R:List Nat) (i:Nat):∀d∈rwU S m cod R i,d.rf=true:=by
 intro d hd
 unfold rwU at hd
 obtain ⟨_,_,rfl⟩:=List.mem_map.1 hd
 rfl
def yU (S:List Kx) (m:Mdl) (R:List Nat) (i:Nat):List Rat:=(R.take i).map (x5R S m)
theorem w2o {S:List Kx} {m:Mdl} {R:List Nat} {i:Nat} (h:i<R.length):nums (yU S m R i)++z0T (x5R S m (R.getD i 0))=nums (yU S m R (i+1)):=by
 unfold yU;rw [z0z 0 h,List.map_append,z4o];rfl
theorem x9t {S:List Kx} {m:Mdl} {R:List Nat} {i:Nat} (h:i≤R.length):(nums (yU S m R i)).length=i*3:=by
 unfold yU;rw [z1H,List.length_map,List.length_take];congr 1;omega
theorem x7I {R:List Nat} {i:Nat} (h:i<R.length) (d:DV):(ints R).getD i d=.int .i64 (R.getD i 0:Nat):=by
 unfold ints
 rw [zO1,List.getElem?_map,zO4 h,zO1,zO4 h];rfl
theorem x7J {R:List Nat} {i:Nat} (h:i<R.length):R.getD i 0∈R:=by rw [zO1,zO4 h];exact List.getElem_mem h
theorem x6g {S:List Kx} {m:Mdl} {cod:Int} {i k:Nat} (hi:i<(z3l S m cod k).length):(z3l S m cod k).getD i default=([[40,73,110,116,101,114,99,101,112,116,41]],fun _=>[1])∨∃t∈m.tm,(z3l S m cod k).getD i default=w6z S m cod t:=by
 have hm:(z3l S m cod k).getD i default∈z3l S m cod k:=by rw [zO1,zO4 hi];exact List.getElem_mem hi
 generalize (z3l S m cod k).getD i default=p at *
 unfold z3l at hm
 rcases List.mem_append.1 hm with h|h
 ·unfold icL at h
  split at h
  ·exact .inl (List.mem_singleton.1 h)
  ·cases h
 ·obtain ⟨t,ht,rfl⟩:=List.mem_map.1 h
  exact .inr ⟨t,List.mem_of_mem_take (List.mem_filter.1 ht).1,rfl⟩
theorem w5d {P:Program} {fp fm n cod:Nat} {S:List Kx} {m:Mdl} (h:DK P fp fm n S m cod) {t:List Fac} (ht:t∈m.tm) :
  (w5b S m cod t).length≤729∧∀r,r<n→∀x∈x8e S m cod t r,BS x 6000:=by
 have htl:=h.tl.2 t ht
 cases t with
 | nil=>exact absurd htl.1 (by decide)
 | cons f fs =>
  have h0:f∈f::fs:=List.mem_cons_self
  have hts:∀g∈fs,g∈f::fs:=fun g hg=>List.mem_cons_of_mem _ hg
  have hl:fs.length≤5:=by have:=htl.2;rw [List.length_cons] at this;omega
  obtain ⟨e1,e2⟩:=x1U (S:=S) (m:=m) (cod:=cod) (t:=f::fs) (f:=f) (fs:=fs) rfl
  refine ⟨?_,fun r hr x hx=>?_⟩
  ·rw [←e1]
   have h3:∀k,k<7→3 ^ k≤729:=by decide
   exact Nat.le_trans (y1M h ht h0 hts (Nat.le_refl _)).1 (h3 _ (by omega))
  ·rw [←e2] at hx
   refine (y5X h ht h0 hts hr (Nat.le_refl _) x hx).mono ?_
   have:(fs.length+1)*900≤6*900:=Nat.mul_le_mul_right _ (by omega)
   omega
theorem z6q {P:Program} {fp fm n cod:Nat} {S:List Kx} {m:Mdl} (h:DK P fp fm n S m cod) {i:Nat} (hi:i<(z3l S m cod m.tm.length).length) :
  ((z3l S m cod m.tm.length).getD i default).1.length≤729∧∀r,r<n→(((z3l S m cod m.tm.length).getD i default).2 r).length≤729∧∀x∈((z3l S m cod m.tm.length).getD i default).2 r,BS x 6000:=by
 rcases x6g hi with e|⟨t,ht,e⟩
 ·rw [e]
  exact ⟨by decide,fun r _=>⟨(by show 1≤729;omega),fun x hx=>by rw [List.mem_singleton.1 hx];exact x8l.mono (by decide)⟩⟩
 ·rw [e]
  obtain ⟨a,b⟩:=w5d h ht
  refine ⟨a,fun r hr=>⟨?_,b r hr⟩⟩
  show (x8e S m cod t r).length≤729
  rw [x8f];exact a
theorem w2f {S:List Kx} {m:Mdl} {cod:Nat} (r:Nat):vlU (z3l S m cod m.tm.length) r (z3l S m cod m.tm.length).length=z92 S m cod r:=by
 unfold vlU
 rw [List.take_length];exact w20 r
theorem x5F {P:Program} {fp fm n cod:Nat} {S:List Kx} {m:Mdl} (h:DK P fp fm n S m cod) {r:Nat} (hr:r<n):∀{i:Nat},i≤(z3l S m cod m.tm.length).length→(vlU (z3l S m cod m.tm.length) r i).length≤i*729
 | 0,_=>by simp [vlU]
 | i+1,hi=>by
  rw [y9V hi,List.length_append,Nat.succ_mul]
  have h1:=x5F h hr (show i≤_ by omega)
  have h2:=((z6q h hi).2 r hr).1
  omega
def z6S (rows:List (List Rat)):List DV:=rows.map fun l=>.sl 3 (nums l)
theorem z58 (rows:List (List Rat)):(z6S rows).length=rows.length:=List.length_map _
theorem w1I (rows:List (List Rat)):∀d∈z6S rows,d.rf=true:=by
 intro d hd
 unfold z6S at hd
 obtain ⟨_,_,rfl⟩:=List.mem_map.1 hd
 rfl
theorem y9J {rows:List (List Rat)} {i:Nat} (h:i<rows.length) (d:DV):(z6S rows).getD i d=.sl 3 (nums (rows.getD i [])):=by
 unfold z6S
 rw [zO1,List.getElem?_map,zO4 h,zO1,zO4 h];rfl
def w33:List Mdl :=
 [⟨[121],true,[[⟨[120],1⟩]]⟩,
 ⟨[121],true,[[⟨[103],1⟩]]⟩,
 ⟨[121],false,[[⟨[103],1⟩]]⟩,
 ⟨[121],true,[[⟨[120],1⟩],[⟨[103],1⟩],[⟨[120],1⟩,⟨[103],1⟩]]⟩,
 ⟨[121],true,[[⟨[103],1⟩],[⟨[104],1⟩],[⟨[103],1⟩,⟨[104],1⟩]]⟩,
 ⟨[121],true,[[⟨[103],1⟩],[⟨[103],1⟩,⟨[104],1⟩]]⟩,
 ⟨[121],true,[[⟨[103],1⟩,⟨[104],1⟩]]⟩,
 ⟨[121],false,[[⟨[120],1⟩],[⟨[104],1⟩]]⟩,
 ⟨[121],true,[[⟨[120],2⟩],[⟨[120],1⟩]]⟩,
 ⟨[121],true,[[⟨[120],1⟩],[⟨[120],1⟩,⟨[103],1⟩]]⟩,
 ⟨[121],true,[]⟩,
 ⟨[121],true,[[⟨[103],1⟩],[⟨[104],1⟩],[⟨[120],1⟩]]⟩,
 ⟨[121],true,[[⟨[103],1⟩],[⟨[103],1⟩,⟨[104],1⟩]]⟩,
 ⟨[121],true,[[⟨[104],1⟩],[⟨[103],1⟩],[⟨[104],1⟩,⟨[103],1⟩]]⟩,
 ⟨[121],true,[[⟨[120],1⟩],[⟨[103],1⟩,⟨[104],1⟩]]⟩,
 ⟨[121],false,[[⟨[120],1⟩],[⟨[103],1⟩,⟨[104],1⟩]]⟩,
 ⟨[121],true,[[⟨[120],1⟩,⟨[103],1⟩]]⟩,
 ⟨[121],true,[[⟨[103],1⟩],[⟨[104],1⟩]]⟩,
 ⟨[121],false,[[⟨[103],1⟩],[⟨[104],1⟩]]⟩]
def kM (i:Nat):Mdl:=w33.getD i default
def w5Q:List (Nat × Nat):=[(12,5),(4,13),(14,15),(9,16),(17,18),(4,6)]
def x0f:List (Nat × Nat × List (List (List Rat) × List (List Rat))) :=
 [(6,6,[([[1,0,0,0,0,0],[0,1,0,0,0,0],[0,0,1,0,0,0],[0,0,0,1,0,0],[0,0,0,0,1,0],[0,0,0,0,0,1]],[[1,0,0,0,0,0],[0,1,0,0,0,0],[0,0,1,0,0,0],[0,0,0,1,0,0],[0,0,0,0,1,0],[0,0,0,0,0,1]]),([[1,0,0,0,0,0],[0,1,0,0,0,0],[0,0,1,0,0,0],[0,0,0,1,0,0],[0,0,0,0,1,0],[0,0,0,0,0,1]],[[1,0,0,0,0,0],[0,1,0,0,0,0],[0,0,1,0,0,0],[0,0,0,1,0,0],[0,0,0,0,1,0],[0,0,0,0,0,1]]),([[1,0,0,0,0,0],[0,1,0,0,0,0],[0,0,1,0,0,0],[0,0,0,1,0,0],[0,0,0,0,1,0],[0,0,0,0,0,1]],[[1,0,0,0,0,0],[0,1,0,0,0,0],[0,0,1,0,0,0],[0,0,0,1,0,0],[0,0,0,0,1,0],[0,0,0,0,0,1]])]),
 (6,6,[([[1,0,0,0,0,0],[0,0,1,0,0,0],[0,0,0,1,0,0],[0,1,0,0,0,0],[0,0,0,0,1,0],[0,0,0,0,0,1]],[[1,0,0,0,0,0],[0,0,0,1,0,0],[0,1,0,0,0,0],[0,0,1,0,0,0],[0,0,0,0,1,0],[0,0,0,0,0,1]]),([[1,0,0,0,0,0],[0,0,1,0,0,0],[0,0,0,1,0,0],[0,1,0,0,0,0],[0,0,0,0,1,0],[0,0,0,0,0,1]],[[1,0,0,0,0,0],[0,0,0,1,0,0],[0,1,0,0,0,0],[0,0,1,0,0,0],[0,0,0,0,1,0],[0,0,0,0,0,1]]),([[1,0,0,0,0,0],[0,0,1,0,0,0],[0,0,0,1,0,0],[0,1,0,0,0,0],[0,0,0,0,1,0],[0,0,0,0,0,1]],[[1,0,0,0,0,0],[0,0,0,1,0,0],[0,1,0,0,0,0],[0,0,1,0,0,0],[0,0,0,0,1,0],[0,0,0,0,0,1]])]),
 (8,7,[([[0,0,0,0,0,0,1],[1,0,0,0,0,0,0],[0,1,0,0,0,0,-1],[0,0,1,0,0,0,-1],[0,0,0,1,0,0,-1],[0,0,0,0,1,0,-1],[0,0,0,0,0,1,-1],[0,0,0,0,0,0,0]],[[0,1,0,0,0,0,0,0],[1,0,1,0,0,0,0,0],[1,0,0,1,0,0,0,0],[1,0,0,0,1,0,0,0],[1,0,0,0,0,1,0,0],[1,0,0,0,0,0,1,0],[1,0,0,0,0,0,0,1]]),([[0,0,0,0,0,0,1],[1,0,0,0,0,0,0],[0,1,0,0,0,0,-1],[0,0,1,0,0,0,-1],[0,0,0,1,0,0,-1],[0,0,0,0,1,0,-1],[0,0,0,0,0,1,-1],[0,0,0,0,0,0,0]],[[0,1,0,0,0,0,0,0],[1,0,1,0,0,0,0,0],[1,0,0,1,0,0,0,0],[1,0,0,0,1,0,0,0],[1,0,0,0,0,1,0,0],[1,0,0,0,0,0,1,0],[1,0,0,0,0,0,0,1]]),([[0,0,0,0,0,0,1],[1,0,0,0,0,0,0],[0,1,0,0,0,0,-1],[0,0,1,0,0,0,-1],[0,0,0,1,0,0,-1],[0,0,0,0,1,0,-1],[0,0,0,0,0,1,-1],[0,0,0,0,0,0,0]],[[0,1,0,0,0,0,0,0],[1,0,1,0,0,0,0,0],[1,0,0,1,0,0,0,0],[1,0,0,0,1,0,0,0],[1,0,0,0,0,1,0,0],[1,0,0,0,0,0,1,0],[1,0,0,0,0,0,0,1]])]),
 (4,4,[([[1,0,0,0],[0,1,0,0],[0,-1,1,0],[0,-1,0,1]],[[1,0,0,0],[0,1,0,0],[0,1,1,0],[0,1,0,1]]),([[1,0,0,0],[0,1/3,1/3,1/3],[0,2/3,-1/3,-1/3],[0,-1/3,2/3,-1/3]],[[1,0,0,0],[0,1,1,0],[0,1,0,1],[0,1,-1,-1]]),([[1,0,0,0],[0,1/3,1/3,1/3],[0,-1/2,1/2,0],[0,-1/6,-1/6,1/3]],[[1,0,0,0],[0,1,-1,-1],[0,1,1,-1],[0,1,0,2]])]),
 (4,5,[([[1,0,0,1,0],[-1,1,0,0,0],[-1,0,1,0,0],[0,0,0,-1,1]],[[1,0,0,1],[1,1,0,1],[1,0,1,1],[0,0,0,-1],[0,0,0,0]]),([[1/3,1/3,1/3,1/2,1/2],[2/3,-1/3,-1/3,0,0],[-1/3,2/3,-1/3,0,0],[0,0,0,1/2,-1/2]],[[1,1,0,-1],[1,0,1,-1],[1,-1,-1,-1],[0,0,0,2],[0,0,0,0]]),([[1/3,1/3,1/3,1/2,1/2],[-1/2,1/2,0,0,0],[-1/6,-1/6,1/3,0,0],[0,0,0,-1/2,1/2]],[[1,-1,-1,1],[1,1,-1,1],[1,0,2,1],[0,0,0,-2],[0,0,0,0]])]),
 (6,7,[([[1,1,0,0,0,0,0],[0,-1,1,0,0,0,0],[0,-1,0,1,0,0,0],[0,-1,0,0,1,0,0],[0,1,-1,0,-1,1,0],[0,1,0,-1,-1,0,1]],[[1,0,1,1,0,1],[0,0,-1,-1,0,-1],[0,1,-1,-1,0,-1],[0,0,0,-1,0,-1],[0,0,-1,0,0,-1],[0,1,-1,0,1,-1],[0,0,0,0,0,0]]),([[1,1/6,1/6,1/6,1/6,1/6,1/6],[0,1/3,-1/6,-1/6,1/3,-1/6,-1/6],[0,-1/6,1/3,-1/6,-1/6,1/3,-1/6],[0,1/6,1/6,1/6,-1/6,-1/6,-1/6],[0,1/3,-1/6,-1/6,-1/3,1/6,1/6],[0,-1/6,1/3,-1/6,1/6,-1/3,1/6]],[[1,-1,-1,-1,1,1],[0,2,1,2,0,-1],[0,1,2,2,-1,0],[0,0,0,2,-2,-2],[0,2,1,0,-2,-1],[0,1,2,0,-1,-2],[0,0,0,0,0,0]]),([[1,1/6,1/6,1/6,1/6,1/6,1/6],[0,-1/4,1/4,0,-1/4,1/4,0],[0,-1/12,-1/12,1/6,-1/12,-1/12,1/6],[0,-1/6,-1/6,-1/6,1/6,1/6,1/6],[0,1/4,-1/4,0,-1/4,1/4,0],[0,1/12,1/12,-1/6,-1/12,-1/12,1/6]],[[1,0,2,1,0,2],[0,-1,-3,-2,1,-1],[0,1,-3,-2,-1,-1],[0,0,0,-2,0,-4],[0,-1,-3,0,-1,-3],[0,1,-3,0,1,-3],[0,0,0,0,0,0]])])]
theorem x5L:w33.all x5K=true:=by decide
theorem x95:((List.range 6).all fun i=>[1,2,3].all fun c:Nat=>let p:=w5Q.getD i (0,0);let w:=x0f.getD i (0,0,[]);let t:=w.2.2.getD (c - 1) ([],[]);
 z9S (y11 (kM p.1) c) (y11 (kM p.2) c) w.1 w.2.1 t.1 && z9S (y11 (kM p.2) c) (y11 (kM p.1) c) w.2.1 w.1 t.2)=true:=by kernel_rfl
def z3n (z:Nat):Nat→List (List DV)→List DV
 | _,[]=>[]
 | k,c::r=>.osl z k 0 (c.length / z)::z3n z (k+1) r
theorem y9q {z o:Nat} {cs:List DV}:∀{L:List (List DV)} {k:Nat},o<k→(z3n z k L).map (frz o cs)=z3n z k L
 | [],_,_=>rfl
 | c::r,k,h=>by
  simp only [z3n,List.map_cons]
  rw [y9q (by omega),z1F _ _ _ _ _ (by omega)]
theorem y7s {l:List Int} {n:Nat} {c:Tc} (h:c∈tbY l n):∃z,c=z94 z:=by
 unfold tbY at h
 obtain ⟨i,_,rfl⟩:=List.mem_map.1 h
 exact ⟨_,rfl⟩
theorem y7r {l:List Int} {m:Int} {n:Nat} {c:Tc} (h:c∈tbG l m n):∃z,c=lvT z m:=by
 unfold tbG at h
 obtain ⟨i,_,rfl⟩:=List.mem_map.1 h
 exact ⟨_,rfl⟩
theorem w00 (z:Int):y9m (z94 z).va:=w0Z (y91 (y6F z) (by decide))
theorem x86 (z m:Int):(lvT z m).va=(false,[],[]):=by unfold lvT;split<;>rfl
theorem x5M:xnV (false,[],[])=0:=by rw [←w6Y];exact x1F 0
theorem w4H (z m:Int):y9m (lvT z m).va:=by
 rw [x86]
 exact ⟨fun x hx=>absurd hx List.not_mem_nil,fun x hx=>absurd hx List.not_mem_nil,by decide,by decide⟩
theorem x5N:w2p (false,[],[])=true:=by
 unfold w2p
 rw [x5M]
 rfl
theorem w4B (z:Int):(z94 z).va=qX (xnV (z94 z).va)∧BS (xnV (z94 z).va) 100:=by
 have h:xnV (z94 z).va=y2M z:=x1F _
 rw [h]
 exact ⟨rfl,(y6F z).mono (by decide)⟩
theorem w56 (z m:Int):(lvT z m).va=qX (xnV (lvT z m).va)∧BS (xnV (lvT z m).va) 100:=by
 rw [x86,x5M,w6Y]
 exact ⟨rfl,w61.mono (by decide)⟩
theorem x2B (z:Int) {k:Kx} (h:k.kd=1):y8t k (z94 z)=true:=by
 unfold y8t
 rw [if_neg (show ¬(z94 z).mi=true from Bool.false_ne_true),if_pos h]
 have:z5n (z94 z).va.1 (z94 z).va.2.1 (z94 z).va.2.2=true:=x5G _
 rw [this]
 rfl
theorem x2A (z m:Int) {k:Kx} (h:k.kd=2) (hm:(k.le.length:Int)=m) (h0:0<m):y8t k (lvT z m)=true:=by
 unfold y8t lvT
 by_cases hz:z<0
 ·rw [if_pos hz,if_pos rfl,x5N];rfl
 ·rw [if_neg hz,if_neg Bool.false_ne_true,if_neg (by omega),x5N]
  have h1:=Int.tmod_nonneg m (show 0≤z by omega)
  have h2:=Int.tmod_lt_of_pos z h0
  simp only [Bool.true_and,Bool.and_eq_true,decide_eq_true_eq]
  omega
theorem y1Q {l:List Int} {n:Nat} {p:Tc→Bool} (h:∀z,p (z94 z)=true):(tbY l n).all p=true:=by
 rw [List.all_eq_true]
 intro c hc
 obtain ⟨z,rfl⟩:=y7s hc
 exact h z
theorem y1P {l:List Int} {m:Int} {n:Nat} {p:Tc→Bool} (h:∀z,p (lvT z m)=true):(tbG l m n).all p=true:=by
 rw [List.all_eq_true]
 intro c hc
 obtain ⟨z,rfl⟩:=y7r hc
 exact h z
theorem y5J {Y X G H:List Int} {p:Tc→Prop} (h1:∀z,p (z94 z)) (h2:∀z m,p (lvT z m)):∀k∈z1V Y X G H,∀c∈k.ce,p c:=by
 intro k hk c hc
 unfold z1V at hk
 simp only [List.mem_cons,List.not_mem_nil,or_false] at hk
 rcases hk with rfl|rfl|rfl|rfl
 ·obtain ⟨z,rfl⟩:=y7s hc;exact h1 z
 ·obtain ⟨z,rfl⟩:=y7s hc;exact h1 z
 ·obtain ⟨z,rfl⟩:=y7r hc;exact h2 z _
 ·obtain ⟨z,rfl⟩:=y7r hc;exact h2 z _
theorem z4P {Y X G H:List Int} {n:Nat} (hn:n=min Y.length 10) {p:Kx→Prop} (h1:p ⟨[121],1,[],tbY Y n⟩) (h2:p ⟨[120],1,[],tbY X n⟩) (h3:p ⟨[103],2,[[97],[98],[99]],tbG G 3 n⟩) (h4:p ⟨[104],2,[[117],[118]],tbG H 2 n⟩):∀k∈z1V Y X G H,p k:=by
 intro k hk
 unfold z1V at hk
 rw [←hn] at hk
 simp only [List.mem_cons,List.not_mem_nil,or_false] at hk
 rcases hk with rfl|rfl|rfl|rfl
 ·exact h1
 ·exact h2
 ·exact h3
 ·exact h4
theorem z9W (Y X G H:List Int):z1y (z1V Y X G H)=[[121],[120],[103],[104]]:=rfl
theorem y24 (s:Bs) (l:List Int) (n:Nat):x1I ⟨s,1,[],tbY l n⟩ n=true:=by
 unfold x1I
 simp [z6Y]
theorem y23 (s:Bs) (le:List Bs) (l:List Int) (m:Int) (n:Nat) (h:le.length≤32):x1I ⟨s,2,le,tbG l m n⟩ n=true:=by
 unfold x1I
 simp [z6X,h]
theorem x2n:x8w [[97],[98],[99]]=true:=by decide
theorem x8x:x8w [[117],[118]]=true:=by decide
theorem y5K:z50 [[121],[120],[103],[104]]=true:=by decide
theorem x8d {Y X G H:List Int} {n:Nat} (hn:n=min Y.length 10):x1J n (z1V Y X G H)=true:=by
 have hc:∀k∈z1V Y X G H,x1G k n=true:=by
  refine z4P hn ?_ ?_ ?_ ?_
  ·unfold x1G;rw [y24,y1Q fun z=>x2B z rfl];rfl
  ·unfold x1G;rw [y24,y1Q fun z=>x2B z rfl];rfl
  ·unfold x1G;rw [y23 _ _ _ _ _ (by decide),x2n,y1P fun z=>x2A z 3 rfl rfl (by decide)];rfl
  ·unfold x1G;rw [y23 _ _ _ _ _ (by decide),x8x,y1P fun z=>x2A z 2 rfl rfl (by decide)];rfl
 unfold x1J
 rw [z9W,y5K,List.all_eq_true.2 hc]
 simp only [Bool.and_true,Bool.and_eq_true,decide_eq_true_eq]
 refine ⟨⟨by omega,by omega⟩,?_⟩
 show 4≤32
 decide
theorem y40 {z:Nat} {x:List DV}:∀{L:List (List DV)} {k:Nat},z3n z k (L++[x])=z3n z k L++[.osl z (k+L.length) 0 (x.length / z)]
 | [],k=>rfl
 | c::r,k=>by
  simp only [List.cons_append,z3n,List.length_cons]
  rw [y40,show k+1+r.length=k+(r.length+1) by omega]
theorem x4C {z:Nat} {f:Nat→Option Nat}:∀{L:List (List DV)} {k:Nat},(∀a,k≤a→a<k+L.length→f a=some a)→(z3n z k L).map (rn f)=z3n z k L
 | [],_,_=>rfl
 | c::r,k,h=>by
  simp only [z3n,List.map_cons]
  rw [List.length_cons] at h
  rw [x4C fun a h1 h2=>h a (by omega) (by omega)]
  have:rn f (.osl z k 0 (c.length / z))=.osl z k 0 (c.length / z):=by simp [rn,h k (by omega) (by omega)]
  rw [this]
theorem x4B {z o:Nat}:∀{L:List (List DV)} {k:Nat},o<k→(z3n z k L).map (purge o)=z3n z k L
 | [],_,_=>rfl
 | c::r,k,h=>by
  simp only [z3n,List.map_cons]
  rw [x4B (by omega)]
  have:purge o (.osl z k 0 (c.length / z))=.osl z k 0 (c.length / z):=by simp [purge,DV.has,show k≠o by omega]
  rw [this]
theorem y9r {z:Nat}:∀{L:List (List DV)} {k:Nat},(z3n z k L).length=L.length
 | [],_=>rfl
 | c::r,k=>by simp only [z3n,List.length_cons,y9r]
theorem w5D {F:FnD} {c:DC} {Q:Ex→Fr→Hp→Prop} {fr:Fr} {L:List (List DV)} {x:List DV} {k:Nat} (hx:∀d∈x,d.rf=true) (hL:∀l∈L,∀d∈l,d.rf=true) (hl:L.length≤1000) (hk:k=x.length / 3)
  (hfr:∀f:Nat→Option Nat,f 200=some 200→z0I (rn f) fr=fr)
  (h:W F c Q fr ((200,z3n 3 1000 (L++[x]))::z06 1000 (L++[x]))):W F c Q fr ((24,x)::(200,z3n 3 1000 L++[.osl 3 24 0 k])::z06 1000 L):=by
 have hdom:z3r ((24,x)::(200,z3n 3 1000 L++[.osl 3 24 0 k])::z06 1000 L:Hp)=24::200::List.range' 1000 L.length:=by simp only [z3r,y5m]
 have hmv:∀p,(p=200∨(1000≤p∧p<1000+L.length))→mvF ((24,x)::(200,z3n 3 1000 L++[.osl 3 24 0 k])::z06 1000 L) 24 (1000+L.length) p=some p:=fun p hp=>by
  unfold mvF mvN
  rw [hdom,if_pos,if_neg]
  ·omega
  ·simp only [List.mem_cons,List.mem_range'_1]
   omega
 have hm24:mvF ((24,x)::(200,z3n 3 1000 L++[.osl 3 24 0 k])::z06 1000 L) 24 (1000+L.length) 24=some (1000+L.length):=by
  unfold mvF mvN
  rw [hdom,if_pos (by simp),if_pos rfl]
 have rr:∀(f:Nat→Option Nat) (cs:List DV),(∀d∈cs,d.rf=true)→rnM f cs=cs:=fun f cs hc=>by
  unfold rnM
  exact (List.map_congr_left fun d hd=>z5k f d (hc d hd)).trans (List.map_id' cs)
 have hHH:∀q,lkH ((24,x)::(200,z3n 3 1000 L++[.osl 3 24 0 k])::z06 1000 L:Hp) q=if 24=q then some x else if 200=q then some (z3n 3 1000 L++[.osl 3 24 0 k]) else lkH (z06 1000 L) q:=fun q=>rfl
 refine w63 24 (1000+L.length) ((200,z3n 3 1000 (L++[x]))::z06 1000 (L++[x])) ?_ ?_ ⟨by decide,by omega⟩ ?_ ?_ ?_
 ·rw [hdom]
  simp [List.nodup_range',List.mem_range'_1]
 ·rw [hdom]
  simp [List.mem_range'_1]
  omega
 ·rw [hdom];simp
 ·intro q
  rw [hHH q,hHH 24]
  have h200:=hmv 200 (.inl rfl)
  have hmr:∀a,1000≤a→a<1000+L.length→mvF ((24,x)::(200,z3n 3 1000 L++[.osl 3 24 0 k])::z06 1000 L) 24 (1000+L.length) a=some a:=fun a h1 h2=>hmv a (.inr ⟨h1,h2⟩)
  generalize mvF ((24,x)::(200,z3n 3 1000 L++[.osl 3 24 0 k])::z06 1000 L) 24 (1000+L.length)=f at *
  have rX:rnM f (z3n 3 1000 L++[.osl 3 24 0 k])=z3n 3 1000 (L++[x]):=by
   unfold rnM
   rw [List.map_append,x4C hmr,y40,hk]
   have:rn f (.osl 3 24 0 (x.length / 3))=.osl 3 (1000+L.length) 0 (x.length / 3):=by simp [rn,hm24]
   rw [List.map_cons,List.map_nil,this]
  show lkH ((200,z3n 3 1000 (L++[x]))::z06 1000 (L++[x]):Hp) q=_
  have hsn:∀p,lkH (z06 1000 (L++[x])) p=if 1000≤p∧p<1000+(L.length+1) then some ((L++[x]).getD (p - 1000) []) else none:=fun p=>by
   rw [y9C,List.length_append];rfl
  have e0:lkH ((200,z3n 3 1000 (L++[x]))::z06 1000 (L++[x]):Hp) q=if 200=q then some (z3n 3 1000 (L++[x])) else lkH (z06 1000 (L++[x])) q:=rfl
  rw [e0]
  by_cases q24:q=24
  ·subst q24
   rw [if_pos rfl,if_neg (by decide),hsn,if_neg (by omega)]
  rw [if_neg q24]
  by_cases qb:q=1000+L.length
  ·subst qb
   rw [if_pos rfl,if_pos rfl,if_neg (by omega),hsn,if_pos (by omega),Option.map_some,rr f x hx]
   congr 1
   rw [zO1,List.getElem?_append_right (by omega)]
   simp
  rw [if_neg qb,if_neg (Ne.symm q24)]
  by_cases q2:q=200
  ·subst q2
   rw [if_pos rfl,if_pos rfl,Option.map_some,rX]
  ·rw [if_neg (Ne.symm q2),if_neg (Ne.symm q2),hsn,y9C]
   by_cases hq:1000≤q∧q<1000+L.length
   ·rw [if_pos (by omega),if_pos hq,Option.map_some]
    have hg:(L++[x]).getD (q - 1000) []=L.getD (q - 1000) []:=by
     rw [zO1,List.getElem?_append_left (by omega),zO1]
    rw [hg]
    congr 1
    refine (rr f _ (hL _ ?_)).symm
    rw [zO1,zO4 (by omega)]
    exact List.getElem_mem _
   ·rw [if_neg (by omega),if_neg hq];rfl
 ·rw [hfr _ (hmv 200 (.inl rfl))]
  exact h
theorem y1U {F:FnD} {c:DC} {Q:Ex→Fr→Hp→Prop} {i k:Nat} {a b:DV} {L:List (List DV)} {x:List DV} (ha:a.rf=true) (hb:b.rf=true) (hx:∀d∈x,d.rf=true) (hL:∀l∈L,∀d∈l,d.rf=true) (hl:L.length≤1000) (hk:k=x.length / 3)
  (h:W F c Q [(0,a),(1,b),(5,.osl 1 200 0 (i+1)),(6,.int .i64 i),(16,.bool true)] ((200,z3n 3 1000 (L++[x]))::z06 1000 (L++[x]))) :
  W F c Q [(0,a),(1,b),(5,.osl 1 200 0 (i+1)),(6,.int .i64 i),(16,.bool true)] ((24,x)::(30,[.osl 3 24 0 k])::(200,z3n 3 1000 L++[.osl 3 24 0 k])::z06 1000 L):=by
 refine z3X 30 ?_
 have e1:z0I (purge 30) [(0,a),(1,b),(5,.osl 1 200 0 (i+1)),(6,.int .i64 i),(16,.bool true)]=[(0,a),(1,b),(5,.osl 1 200 0 (i+1)),(6,.int .i64 i),(16,.bool true)]:=by
  simp only [z0I,z1r 30 ha,z1r 30 hb]
  simp [purge,DV.has]
 have e2:rmP 30 ((24,x)::(30,[.osl 3 24 0 k])::(200,z3n 3 1000 L++[.osl 3 24 0 k])::z06 1000 L)=(24,x)::(200,z3n 3 1000 L++[.osl 3 24 0 k])::z06 1000 L:=by
  have e3:purge 30 (.osl 3 24 0 k)=.osl 3 24 0 k:=by simp [purge,DV.has]
  simp only [rmP,Nat.reduceEqDiff,if_false,if_true,z0k 30 hx,List.map_append,List.map_cons,List.map_nil,e3]
  rw [x4B (by decide),z9N (by decide) fun l hl=>z0k 30 (hL l hl)]
 rw [e1,e2]
 refine w5D hx hL hl hk (fun f hf=>?_) h
 simp only [z0I,z5k f a ha,z5k f b hb]
 simp [rn,hf]
theorem w2I {F:FnD} {c:DC} {Q:Ex→Fr→Hp→Prop} {fr:Fr} {z:Nat} (hz:z≠0) (hf:∀o cs,1000≤o→z0I (frz o cs) fr=fr) (L:List (List DV)) :
  ∀ (k:Nat) (D:List DV),1000≤k→k+L.length≤1048576→(∀l∈L,∀x∈l,x.rf=true)→(∀l∈L,l.length / z*z=l.length)→(∀x∈D,x.rf=true) →
   W F c Q fr [(200,D++L.map (.sl z))]→W F c Q fr ((200,D++z3n z k L)::z06 k L):=by
 induction L with
 | nil=>intro k D _ _ _ _ _ h;exact h
 | cons x r ih =>
  intro k D hk hkl hrf hzl hD h
  rw [List.length_cons] at hkl
  have n1:∀q:Nat,q<1000→(q=k)=False:=fun q hq=>eq_false (by omega)
  refine z0H k (cells:=x) ?_ (List.all_eq_true.2 (hrf x List.mem_cons_self)) ?_ (by omega)
  ·simp (disch:=omega) only [z06,lkH,n1,if_false,if_true]
  ·rw [hf k x hk]
   have hfz:frz k x (.osl z k 0 (x.length / z))=.sl z x:=by
    have:=hzl x List.mem_cons_self
    simp [frz,hz,this]
   have e:rmH k x ((200,D++z3n z k (x::r))::z06 k (x::r))=((200,(D++[.sl z x])++z3n z (k+1) r)::z06 (k+1) r):=by
    simp (disch:=omega) only [z06,rmH,n1,if_false,if_true,List.map_append,z3n,List.map_cons]
    rw [z1n k x hD,hfz,y9q (by omega),y5o (by omega) fun l hl=>z1n k x (hrf l (List.mem_cons_of_mem _ hl)),List.append_assoc]
    rfl
   rw [e]
   have h':D++(x::r).map (.sl z)=(D++[.sl z x])++r.map (.sl z):=by simp
   rw [h'] at h
   refine ih (k+1) (D++[.sl z x]) (by omega) (by omega) (fun l hl=>hrf l (List.mem_cons_of_mem _ hl)) (fun l hl=>hzl l (List.mem_cons_of_mem _ hl)) (fun y hy=>?_) h
   rcases List.mem_append.1 hy with hy|hy
   ·exact hD y hy
   ·rw [List.mem_singleton.1 hy];rfl
def z7X (S:List Kx) (m:Mdl) (cod:Int) (R:List Nat):Mt:=fun i j=>(z92 S m cod (R.getD i 0)).getD j 0
theorem w0a {R:List Nat} {n i:Nat} (hR:∀r∈R,r<n) (hi:i<R.length):R.getD i 0<n:=by
 rw [zO1,zO4 hi]
 exact hR _ (List.getElem_mem hi)
section
variable {Y X G H:List Int} {m m':Mdl} {c c':Nat} {ka kb:Nat} {T T':List (List Rat)} {R:List Nat}
theorem x2f (hx:x5K m=true) (hs:z9S (y11 m c) (y11 m' c') ka kb T=true) {r:Nat} (hr:r<min Y.length 10):(z92 (z1V Y X G H) m c r).length=ka:=by
 rw [y8k hx hr,List.length_map]
 unfold z9S at hs
 have h1:=List.all_eq_true.1 (List.all_eq_true.1 hs _ (List.mem_range.2 (y1d 3 (by decide) G r))) _ (List.mem_range.2 (y1d 2 (by decide) H r))
 simp only [Bool.and_eq_true,decide_eq_true_eq] at h1
 exact h1.1.1
theorem y9S (hx:x5K m=true) (hx':x5K m'=true) (hs:z9S (y11 m c) (y11 m' c') ka kb T=true) (hR:∀r∈R,r<min Y.length 10) {A B:Mt}
  (hA:∀i,i<R.length→∀j,j<ka→A i j=z7X (z1V Y X G H) m c R i j) (hB:∀i,i<R.length→∀j,j<kb→B i j=z7X (z1V Y X G H) m' c' R i j) :
  ∀ i,i<R.length→∀j,j<kb→B i j=z1I ka fun l=>A i l*tAt T l j:=by
 intro i hi j hj
 have hr:=w0a hR hi
 rw [hB i hi j hj]
 have:(z1I ka fun l=>A i l*tAt T l j)=z1I ka fun l=>z7X (z1V Y X G H) m c R i l*tAt T l j:=z0G fun l hl=>by rw [hA i hi l hl]
 rw [this]
 unfold z7X
 rw [y8k hx hr,y8k hx' hr]
 exact x78 hs (y1d 3 (by decide) G _) (y1d 2 (by decide) H _) (xAt X _) hj
theorem x5z (hx:x5K m=true) (hx':x5K m'=true) (hs:z9S (y11 m c) (y11 m' c') ka kb T=true) (hs':z9S (y11 m' c') (y11 m c) kb ka T'=true) (hR:∀r∈R,r<min Y.length 10) {A B C:Mt}
  (hA:∀i,i<R.length→∀j,j<ka→A i j=z7X (z1V Y X G H) m c R i j) (hB:∀i,i<R.length→∀j,j<kb→B i j=z7X (z1V Y X G H) m' c' R i j)
  (hC1:∀i,i<R.length→∀j,j<ka→C i j=z7X (z1V Y X G H) m c R i j) (hC2:∀i,i<R.length→∀j,j<kb→C i (ka+j)=z7X (z1V Y X G H) m' c' R i j) :
  (rrP R.length kb B).length=(rrP R.length ka A).length∧(rrP R.length (ka+kb) C).length=(rrP R.length ka A).length:=by
 have h1:=y9S hx hx' hs hR hA hB
 have h2:=y9S hx' hx hs' hR hB hA
 obtain ⟨a1,a2⟩:=y5r R.length ka A
 obtain ⟨b1,b2⟩:=y5r R.length kb B
 obtain ⟨d1,d2⟩:=y5r R.length (ka+kb) C
 refine ⟨Nat.le_antisymm (y6J a1 a2 b1 b2 _ h1) (y6J b1 b2 a1 a2 _ h2),?_⟩
 rw [y6I a1 a2 d1 d2 _ h1 (fun i hi j hj=>by rw [hC1 i hi j hj,hA i hi j hj]) fun i hi j hj=>by rw [hC2 i hi j hj,hB i hi j hj]]
end
def w58 (d:Nat) (a:Mo):Bool:=if d=1 then decide (a.1≤1) && decide (a.2.den=1) && decide (a.2.num.natAbs≤3) else decide (a.1≤2) && decide (a.2=1)
def mdD (i:Nat):Nat:=if i=8 then 2 else 1
def mdW (i:Nat):Nat:=if i=8 then 10 else 7
theorem w4i:((List.range 19).all fun i=>[1,2,3].all fun c:Nat=>(List.range 3).all fun g=>(List.range 2).all fun h=>(y11 (kM i) c g h).all (w58 (mdD i)))=true:=by kernel_rfl
theorem x9d {x:Rat} {w:Nat} (h:BS x w):∀a:Nat,a≤2→BS (x ^ a) (if a≤1 then max w 1 else w+w)
 | 0,_=>by rw [Rat.pow_zero,if_pos (by decide)];exact x8l.mono (by omega)
 | 1,_=>by rw [Rat.pow_succ,Rat.pow_zero,Rat.one_mul,if_pos (by decide)];exact h.mono (by omega)
 | 2,_=>by rw [Rat.pow_succ,Rat.pow_succ,Rat.pow_zero,Rat.one_mul,if_neg (by decide)];exact z5p h h
theorem w28 {d:Nat} (hd:d=1∨d=2) {a:Mo} (h:w58 d a=true) (z:Int):BS (evM (y2M z) a) (if d=1 then 7 else 10):=by
 have h5:=y6F z
 unfold w58 at h
 unfold evM
 rcases hd with rfl|rfl
 ·rw [if_pos rfl] at h ⊢
  simp only [Bool.and_eq_true,decide_eq_true_eq] at h
  obtain ⟨⟨h1,h2⟩,h3⟩:=h
  have hp:=x9d h5 a.1 (by omega)
  rw [if_pos h1] at hp
  exact z5p (hp.mono (by decide)) (show BS a.2 2 from ⟨by omega,by rw [h2];decide⟩)
 ·rw [if_neg (by decide)] at h ⊢
  simp only [Bool.and_eq_true,decide_eq_true_eq] at h
  obtain ⟨h1,h2⟩:=h
  have hp:=x9d h5 a.1 h1
  rw [h2,Rat.mul_one]
  refine hp.mono ?_
  split<;>omega
theorem y8l {Y X G H:List Int} {i c r:Nat} (hi:i<19) (hc:1≤c∧c≤3) (hr:r<min Y.length 10):∀x∈z92 (z1V Y X G H) (kM i) c r,BS x (mdW i):=by
 intro x hx
 have hm:kM i∈w33:=by
  unfold kM
  rw [zO1,zO4 (show i<w33.length from hi)]
  exact List.getElem_mem _
 rw [y8k (List.all_eq_true.1 x5L _ hm) hr] at hx
 obtain ⟨a,ha,rfl⟩:=List.mem_map.1 hx
 have h1:=List.all_eq_true.1 w4i i (List.mem_range.2 hi)
 have h2:=List.all_eq_true.1 h1 c (by simp only [List.mem_cons,List.not_mem_nil,or_false];omega)
 have h3:=List.all_eq_true.1 (List.all_eq_true.1 h2 _ (List.mem_range.2 (y1d 3 (by decide) G r))) _ (List.mem_range.2 (y1d 2 (by decide) H r))
 have h4:=List.all_eq_true.1 h3 a ha
 have hd:mdD i=1∨mdD i=2:=by unfold mdD;split<;>omega
 have h5:=w28 hd h4 (X.getD r 0)
 refine BS.mono h5 ?_
 unfold mdD mdW
 split<;>decide
theorem w6S:(∀t,t<7→3*gB 7 t+2≤140800)∧∀t,t≤7→gB 7 t≤140800:=by
 refine ⟨by decide,fun t ht=>?_⟩
 have h:∀t,t<8→gB 7 t≤140800:=by decide
 exact h t (by omega)
theorem w3f:(∀t,t<3→3*gB 10 t+2≤140800)∧∀t,t≤3→gB 10 t≤140800:=by
 refine ⟨by decide,fun t ht=>?_⟩
 have h:∀t,t<4→gB 10 t≤140800:=by decide
 exact h t (by omega)
end Nat32
namespace Nat32
open Go Go.Dat
theorem y1e {α:Type} {l:List α} {i:Nat} (h:i<l.length) (d:α):l.getD i d∈l:=by
 rw [zO1,zO4 h];exact List.getElem_mem h
theorem x98 {a b:List Rat} {i:Nat} (h:i<a.length):(a++b).getD i 0=a.getD i 0:=by
 rw [zO1,List.getElem?_append_left h,zO1]
theorem x6B {a b:List Rat} {k i:Nat} (h:a.length=k):(a++b).getD (k+i) 0=b.getD i 0:=by
 rw [zO1,List.getElem?_append_right (by omega),zO1,h,Nat.add_sub_cancel_left]
def y3n (A:List (List Rat)):Mt:=fun i j=>(A.getD i []).getD j 0
theorem x7K {l:List Rat} {k:Nat} (h:l.length=k):rwL k (fun j=>l.getD j 0)=l:=by
 refine List.ext_getElem? fun j=>?_
 unfold rwL
 rw [List.getElem?_map]
 by_cases hj:j<k
 ·rw [List.getElem?_range hj,Option.map_some,zO1,zO4 (by omega)];rfl
 ·rw [List.getElem?_eq_none (by rw [List.length_range];omega),List.getElem?_eq_none (by omega)];rfl
theorem x7M {A:List (List Rat)} {k:Nat} (hk:∀l∈A,l.length=k):z6S A=mtD A.length k (y3n A):=by
 refine List.ext_getElem? fun i=>?_
 unfold z6S mtD
 rw [List.getElem?_map,List.getElem?_map]
 by_cases hi:i<A.length
 ·rw [List.getElem?_range hi,zO4 hi,Option.map_some,Option.map_some]
  have hg:A.getD i []=A[i]:=by rw [zO1,zO4 hi];rfl
  have:rwC k (y3n A i)=nums A[i]:=by
   unfold rwC y3n
   rw [hg,x7K (hk _ (List.getElem_mem hi))]
  rw [this]
 ·rw [List.getElem?_eq_none (show A.length≤i by omega),List.getElem?_eq_none (show (List.range A.length).length≤i by rw [List.length_range];omega)];rfl
theorem y9f {α:Type} (f:Nat→List α) {R:List Nat} {i:Nat} (h:i<R.length):(R.map f).getD i []=f (R.getD i 0):=by
 rw [zO1,List.getElem?_map,zO4 h,zO1,zO4 h];rfl
theorem y5p {U:List Kx} {n r:Nat}:r∈z00 U n↔r<n∧∀k∈U,y5R r k=false:=by
 unfold z00
 rw [List.mem_filter,List.mem_range,Bool.not_eq_true',List.any_eq_false]
 refine and_congr_right fun _=>forall_congr' fun k=>forall_congr' fun _=>?_
 simp
theorem z6f {S:List Kx} {L:List Bs} {k:Kx}:k∈z1W S L↔∃s∈L,z4C S s=k:=by
 unfold z1W z4C
 rw [List.mem_map]
theorem y7a {S:List Kx} {n:Nat} {L L':List Bs} (h:∀s,s∈L↔s∈L'):z00 (z1W S L) n=z00 (z1W S L') n:=by
 unfold z00
 refine List.filter_congr fun r _=>?_
 congr 1
 rw [Bool.eq_iff_iff,List.any_eq_true,List.any_eq_true]
 refine exists_congr fun k=>and_congr_left fun _=>?_
 rw [z6f,z6f]
 exact exists_congr fun s=>and_congr_left fun _=>h s
theorem x49 {Y X G H:List Int} {n:Nat} (hn:n=min Y.length 10) {L:List Bs} (hL:∀s∈L,s=[121]∨s=[120]∨s=[103]∨s=[104]) (h:z00 (z1W (z1V Y X G H) L) n=[]):z00 (z1W (z1V Y X G H) [[121],[103],[104]]) n=[]:=by
 rw [List.eq_nil_iff_forall_not_mem]
 intro r hr
 rw [y5p] at hr
 have hno:r∉z00 (z1W (z1V Y X G H) L) n:=by rw [h];exact List.not_mem_nil
 refine hno (y5p.2 ⟨hr.1,fun k hk=>?_⟩)
 obtain ⟨s,hs,rfl⟩:=z6f.1 hk
 have hin:∀s∈([[121],[103],[104]]:List Bs),y5R r (z4C (z1V Y X G H) s)=false:=fun s hs=>hr.2 _ (z6f.2 ⟨s,hs,rfl⟩)
 rcases hL s hs with rfl|rfl|rfl|rfl
 ·exact hin _ (by simp)
 ·rw [x9N]
  unfold y5R
  simp only
  rw [x5v X (by omega)]
  rfl
 ·exact hin _ (by simp)
 ·exact hin _ (by simp)
end Nat32
namespace Nat32
open Go Go.Dat Go.RowKit Go.ChangeShapes Go.WideShapes Go.Joins Go.Deep
inductive Ty where
 | int (k:IntKind)
 | bool
 | str
 | sl (e:Ty)
 | unit
 | pair (f r:Ty)
def Ty.size:Ty→Nat
 | .unit=>0
 | .pair f r=>f.size+r.size
 | _=>1
def IsD:Ty→List DV→Prop
 | .int k,ds=>∃n,(Lit.int k n).wf=true∧ds=[.int k n]
 | .bool,ds=>∃b,ds=[.bool b]
 | .str,ds=>∃s:Bs,s.length≤9223372036854775807∧ds=[.str s]
 | .sl e,ds=>∃zs:List (List DV),(∀z∈zs,IsD e z)∧zs.length≤9223372036854775807∧ds=[.sl e.size zs.flatten]
 | .unit,ds=>ds=[]
 | .pair f r,ds=>∃a b,IsD f a∧IsD r b∧ds=a++b
theorem IsD.len:∀{τ:Ty} {ds:List DV},IsD τ ds→ds.length=τ.size
 | .int k,_,⟨_,_,h⟩=>by rw [h];rfl
 | .bool,_,⟨_,h⟩=>by rw [h];rfl
 | .str,_,⟨_,_,h⟩=>by rw [h];rfl
 | .sl e,_,⟨_,_,_,h⟩=>by rw [h];rfl
 | .unit,_,h=>by rw [show _=[] from h];rfl
 | .pair f r,_,⟨a,b,ha,hb,h⟩=>by rw [h,List.length_append,ha.len,hb.len];rfl
section
variable (P:Program)
def z8X:Ty→Sum TypeId (List Field × Nat)→Bool
 | .int k,.inl t=>match P.underlying t with|some (.int k')=>decide (k=k')|_=>false
 | .bool,.inl t=>match P.underlying t with|some .bool=>true|_=>false
 | .str,.inl t=>match P.underlying t with|some .string=>true|_=>false
 | .sl e,.inl t=>match P.underlying t with|some (.slice u)=>P.cellsOf u == e.size && e.size != 0 && z8X e (.inl u)|_=>false
 | .unit,.inr ([],_)=>true
 | .pair a r,.inl t=>match P.underlying t with
  | some (.struct fs)=>match fs.toList with
   | f::fs'=>f.offset == 0 && P.cellsOf f.type == a.size && P.cellsOf t == a.size+r.size && z8X a (.inl f.type) && z8X r (.inr (fs',a.size))
   | []=>false
  | _=>false
 | .pair a r,.inr (f::fs',off)=>f.offset == off && P.cellsOf f.type == a.size && z8X a (.inl f.type) && z8X r (.inr (fs',off+a.size))
 | _,_=>false
end
section
variable {H:Type} {enc:TypeId × Value→H} {P:Program} {w:World} {base:Nat} {spare:Nat→Bool} {held:Bool}
theorem y15 {α:Type} {n:Nat}:∀{zs:List (List α)},(∀z∈zs,z.length=n)→∀{k:Nat} {d:α},zs.flatten[k]? = some d→∃i j z,k=i*n+j∧j<n∧i<zs.length∧zs[i]? = some z∧z[j]? = some d
 | [],_,k,d,h=>by simp at h
 | z::zs,hz,k,d,h=>by
  have h0:=hz z (by simp)
  rw [List.flatten_cons,List.getElem?_append] at h
  split at h
  ·rename_i hlt
   exact ⟨0,k,z,by simp,by omega,by simp,rfl,h⟩
  ·rename_i hge
   obtain ⟨i,j,y,e1,e2,e3,e4,e5⟩:=y15 (fun y hy=>hz y (by simp [hy])) h
   refine ⟨i+1,j,y,?_,e2,by simp;exact e3,e4,e5⟩
   rw [Nat.add_mul];omega
theorem y4b {α:Type} {n:Nat}:∀{zs:List (List α)},(∀z∈zs,z.length=n)→zs.flatten.length=zs.length*n
 | [],_=>by simp
 | z::zs,hz=>by
  rw [List.flatten_cons,List.length_append,hz z (by simp),y4b (fun y hy=>hz y (by simp [hy])),List.length_cons,Nat.add_mul]
  omega
theorem x4i {α:Type} {p:Nat→α→Prop}:∀(n:Nat),(∀i,i<n→∃x,p i x)→∃l:List α,l.length=n∧∀i x,l[i]? = some x→p i x
 | 0,_=>⟨[],rfl,fun i x h=>by simp at h⟩
 | n+1,h=>by
  obtain ⟨l,h1,h2⟩:=x4i n fun i hi=>h i (by omega)
  obtain ⟨x,hx⟩:=h n (by omega)
  refine ⟨l++[x],by simp [h1],fun i y hy=>?_⟩
  rw [List.getElem?_append] at hy
  split at hy
  ·exact h2 i y hy
  ·rename_i hge
   have:i - l.length=0:=by
    rcases Nat.lt_or_ge (i - l.length) 1 with h|h
    ·omega
    ·rw [List.getElem?_eq_none (by simpa using h)] at hy;cases hy
   rw [this] at hy
   cases hy
   rw [show i=n by omega];exact hx
theorem y9R:∀(τ:Ty),(∀(t:TypeId) (n:Nat) (cs:List Value) (y:DataW H × List MemPlace),z8X P τ (.inl t)=true→DataW.trod enc P w base spare held n t cs=some y →
   ∃ ds,IsD τ ds∧cs.length=τ.size∧∀(k:Nat) d v,ds[k]? = some d→cs[k]? = some v→VI w (fun _=>False) d v) ∧
  (∀(fs:List Field) (off n:Nat) (cs:List Value),z8X P τ (.inr (fs,off))=true→(∀(i:Nat) f,fs[i]? = some f→∃y,DataW.trod enc P w base spare held n f.type ((cs.drop f.offset).take (P.cellsOf f.type))=some y) →
   ∃ ds,IsD τ ds∧∀(k:Nat) d v,ds[k]? = some d→cs[off+k]? = some v→VI w (fun _=>False) d v)
 | .int k=>by
  refine ⟨fun t n cs y hf hy=>?_,fun fs off n cs hf _=>by simp [z8X] at hf⟩
  simp only [z8X] at hf
  split at hf
  ·rename_i k' ht
   have e:k=k':=by simpa using hf
   subst e
   obtain ⟨z,rfl,hw,_⟩:=DataW.trod_int ht hy
   refine ⟨[.int k z],⟨z,by first|exact hw|exact hw.1|simp_all,rfl⟩,rfl,fun j d v h1 h2=>?_⟩
   match j with
   | 0=>simp at h1 h2;subst h1;subst h2;exact .int _ _
   | j+1=>simp at h1
  ·cases hf
 | .bool=>by
  refine ⟨fun t n cs y hf hy=>?_,fun fs off n cs hf _=>by simp [z8X] at hf⟩
  simp only [z8X] at hf
  split at hf
  ·rename_i ht
   obtain ⟨b,rfl,_⟩:=DataW.trod_bool ht hy
   refine ⟨[.bool b],⟨b,rfl⟩,rfl,fun j d v h1 h2=>?_⟩
   match j with
   | 0=>simp at h1 h2;subst h1;subst h2;exact .bool _
   | j+1=>simp at h1
  ·cases hf
 | .str=>by
  refine ⟨fun t n cs y hf hy=>?_,fun fs off n cs hf _=>by simp [z8X] at hf⟩
  simp only [z8X] at hf
  split at hf
  ·rename_i ht
   obtain ⟨s,rfl,_,hl⟩:=DataW.trod_string ht hy
   refine ⟨[.str s.data.toList],⟨_,by unfold maxLen at hl;simpa using hl,rfl⟩,rfl,fun j d v h1 h2=>?_⟩
   match j with
   | 0 =>
    simp at h1 h2;subst h1;subst h2
    have:(Value.string s)=.string ⟨s.data.toList.toArray⟩:=by cases s;simp
    rw [this];exact .str _
   | j+1=>simp at h1
  ·cases hf
 | .sl e=>by
  have ih:=y9R e
  refine ⟨fun t n cs y hf hy=>?_,fun fs off n cs hf _=>by simp [z8X] at hf⟩
  simp only [z8X] at hf
  split at hf
  ·rename_i u ht
   simp only [Bool.and_eq_true,beq_iff_eq,bne_iff_ne,ne_eq] at hf
   obtain ⟨⟨hc,h0⟩,hfe⟩:=hf
   have fin:∀(zs:List (List DV)) (v:Value),(∀z∈zs,IsD e z)→zs.length≤9223372036854775807→VI w (fun _=>False) (.sl e.size zs.flatten) v→cs=[v] →
     ∃ ds,IsD (.sl e) ds∧cs.length=Ty.size (.sl e)∧∀(k:Nat) d v,ds[k]? = some d→cs[k]? = some v→VI w (fun _=>False) d v:=by
    rintro zs v h1 h2 h3 rfl
    refine ⟨[.sl e.size zs.flatten],⟨zs,h1,h2,rfl⟩,rfl,fun j d v' g1 g2=>?_⟩
    match j with
    | 0=>simp at g1 g2;subst g1;subst g2;exact h3
    | j+1=>simp at g1
   rcases DataW.trod_slice ht hy with ⟨rfl,_⟩|⟨a,len,cap,elems,rest,m,_,rfl,_,hb,hl,hm,hlen,hcells,_,_⟩
   ·exact fin [] _ (fun z h=>by cases h) (Nat.zero_le _) (.sl0 _ _ _) rfl
   ·have each:∀i,i<len→∃(x:List DV × List Value),IsD e x.1∧x.2.length=e.size∧(∀j,j<e.size→w.cell? (a.add (i*e.size+j))=x.2[j]?)∧∀(k:Nat) d v,x.1[k]? = some d→x.2[k]? = some v→VI w (fun _=>False) d v:=fun i hi=>by
     have h1:=hcells i hi
     rw [hc] at h1
     obtain ⟨z,hz⟩:∃z,elems[i]? = some z:=⟨_,zO4 (by omega)⟩
     rw [hz,zO3] at h1
     obtain ⟨cs,h2,h3⟩:=h1
     obtain ⟨_,g2,g3⟩:=World.cells?_some h2
     obtain ⟨ds,k1,k2,k3⟩:=ih.1 u m cs z hfe h3
     refine ⟨(ds,cs),k1,g2,fun j hj=>?_,k3⟩
     rw [←g3 j hj,Dat.add_add]
    obtain ⟨l,hl1,hl2⟩:=x4i len each
    have hzl:∀z∈l.map (·.1),z.length=e.size:=fun z hz=>by
     obtain ⟨x,hx,rfl⟩:=List.mem_map.1 hz
     obtain ⟨i,hi⟩:=List.mem_iff_getElem?.1 hx
     exact (hl2 i x hi).1.len
    refine fin (l.map (·.1)) (.slice (some a) len cap) (fun z hz=>?_) (by rw [List.length_map,hl1];unfold maxLen at hm;omega) ?_ rfl
    ·obtain ⟨x,hx,rfl⟩:=List.mem_map.1 hz
     obtain ⟨i,hi⟩:=List.mem_iff_getElem?.1 hx
     exact (hl2 i x hi).1
    ·by_cases hz:len=0
     ·have:l=[]:=List.eq_nil_of_length_eq_zero (by omega)
      subst this
      subst hz
      exact .sl0 _ _ _
     ·have hfl:=y4b hzl
      rw [List.length_map,hl1] at hfl
      have hpos:0<len*e.size:=Nat.mul_pos (Nat.pos_of_ne_zero hz) (Nat.pos_of_ne_zero h0)
      refine .sl (fun k=>(w.cell? (a.add k)).getD undef) (fun e'=>?_) hfl hl (fun h=>h) (fun k d hk=>?_) (fun k d hk=>?_)
      ·rw [e'] at hfl;simp at hfl;omega
      ·obtain ⟨i,j,z,rfl,hj,hi,hzi,hzj⟩:=y15 hzl hk
       rw [List.getElem?_map,zO2] at hzi
       obtain ⟨x,hx,rfl⟩:=hzi
       obtain ⟨x1,x2,x3,x4⟩:=hl2 i x hx
       obtain ⟨v,hv⟩:=z0O (l:=x.2) (k:=j) (by omega)
       rw [x3 j hj,hv];rfl
      ·obtain ⟨i,j,z,rfl,hj,hi,hzi,hzj⟩:=y15 hzl hk
       rw [List.getElem?_map,zO2] at hzi
       obtain ⟨x,hx,rfl⟩:=hzi
       obtain ⟨x1,x2,x3,x4⟩:=hl2 i x hx
       obtain ⟨v,hv⟩:=z0O (l:=x.2) (k:=j) (by omega)
       rw [x3 j hj,hv]
       exact x4 j d v hzj hv
  ·cases hf
 | .unit=>by
  refine ⟨fun t n cs y hf hy=>by simp [z8X] at hf,fun fs off n cs hf _=>⟨[],rfl,fun k d v h1 _=>by simp at h1⟩⟩
 | .pair f r=>by
  have iha:=y9R f
  have ihr:=y9R r
  have join:∀(g:Field) (fs':List Field) (off n:Nat) (cs:List Value),g.offset=off→P.cellsOf g.type=f.size→z8X P f (.inl g.type)=true→z8X P r (.inr (fs',off+f.size))=true →
    (∀(i:Nat) h,(g::fs')[i]? = some h→∃y,DataW.trod enc P w base spare held n h.type ((cs.drop h.offset).take (P.cellsOf h.type))=some y) →
    ∃ ds,IsD (.pair f r) ds∧∀(k:Nat) d v,ds[k]? = some d→cs[off+k]? = some v→VI w (fun _=>False) d v:=by
   intro g fs' off n cs e1 e2 e3 e4 hall
   obtain ⟨y,hy⟩:=hall 0 g rfl
   obtain ⟨da,a1,a2,a3⟩:=iha.1 _ _ _ _ e3 hy
   obtain ⟨dr,b1,b2⟩:=ihr.2 fs' (off+f.size) n cs e4 fun i h hi=>hall (i+1) h hi
   refine ⟨da++dr,⟨da,dr,a1,b1,rfl⟩,fun k d v h1 h2=>?_⟩
   rw [List.getElem?_append] at h1
   have hlen:=a1.len
   split at h1
   ·rename_i hlt
    refine a3 k d v h1 ?_
    rw [e1,e2,List.getElem?_take,if_pos (by omega),List.getElem?_drop];exact h2
   ·rename_i hge
    refine b2 (k - da.length) d v h1 ?_
    rw [show off+f.size+(k - da.length)=off+k by omega];exact h2
  refine ⟨fun t n cs y hf hy=>?_,fun fs off n cs hf hall=>?_⟩
  ·simp only [z8X] at hf
   split at hf
   ·rename_i fs ht
    split at hf
    ·rename_i g fs' hfs
     simp only [Bool.and_eq_true,beq_iff_eq] at hf
     obtain ⟨⟨⟨⟨e1,e2⟩,e3⟩,e4⟩,e5⟩:=hf
     obtain ⟨xs,m,_,_,hlc,hxl,hget⟩:=DataW.trod_struct ht hy
     obtain ⟨ds,h1,h2⟩:=join g fs' 0 m cs e1 e2 e4 (by rw [Nat.zero_add];exact e5) fun i h hi=>by
      have hi':fs[i]? = some h:=by rw [←Array.getElem?_toList,hfs];exact hi
      have hlt:i<xs.length:=by rw [hxl];exact (Array.getElem?_eq_some_iff.1 hi').1
      exact ⟨xs[i],by rw [hget i h hi',zO4 hlt]⟩
     exact ⟨ds,h1,hlc.trans e3,fun k d v g1 g2=>h2 k d v g1 (by rw [Nat.zero_add];exact g2)⟩
    ·cases hf
   ·cases hf
  ·cases fs with
   | nil=>simp [z8X] at hf
   | cons g fs' =>
    simp only [z8X,Bool.and_eq_true,beq_iff_eq] at hf
    obtain ⟨⟨⟨e1,e2⟩,e4⟩,e5⟩:=hf
    exact join g fs' off n cs e1 e2 e4 e5 hall
theorem vi_D {r:Reach} {b0:Nat} {t:TypeId} {v:Value} {d:DataW H} {p:List MemPlace} {a b:Ty} (hf:z8X P (.pair a b) (.inl t)=true)
  (hv:Value.okWide P w r b0 t v) (h:DataW.Trod enc P w base spare held t v d p):∃ds,IsD (.pair a b) ds∧VI w (fun _=>False) (.agg ds) v:=by
 obtain ⟨fuel,hfu⟩:=h
 have hs:∃fs,P.underlying t=some (.struct fs):=by
  simp only [z8X] at hf
  split at hf
  ·rename_i fs ht;exact ⟨fs,ht⟩
  ·cases hf
 obtain ⟨fs,ht⟩:=hs
 obtain ⟨cs,rfl,_⟩:=okWide_struct ht hv
 obtain ⟨ds,h1,h2,h3⟩:=(y9R (.pair a b)).1 t fuel _ _ hf hfu
 have hcs:(Value.agg cs).cells.toList=cs.toList:=by simp [Value.cells]
 rw [hcs] at h2 h3
 exact ⟨ds,h1,.agg (by rw [h1.len,←h2];simp) fun k d v g1 g2=>h3 k d v g1 (by simpa using g2)⟩
end
end Nat32
