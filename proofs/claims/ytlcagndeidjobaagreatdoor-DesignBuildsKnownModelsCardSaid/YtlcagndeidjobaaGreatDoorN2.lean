/- Lemmas of the walk; no conditions beyond those that each states. -/
import Derived.OpenShut
import Derived.Below
import Derived.Lib.SmallJoins
import Derived.ShutString
import Derived.Test.YtlcagndeidjobaaGreatDoorN1
import Derived.Test.YtlcagndeidjobaaGreatDoorD5
import Derived.Test.YtlcagndeidjobaaGreatDoorD4
set_option linter.unusedSimpArgs false
set_option linter.unusedVariables false
set_option linter.unnecessarySimpa false
set_option maxHeartbeats 4000000
namespace Nat32
open Go Go.Dat Go.Lib
def x5g (P:Program) (ok:Nat→Prop) (G:List Grp) (L:List (List Bs × (Nat→List Rat))):Prop :=
 G.length=L.length∧∀i,i<G.length→(G.getD i default).nm=(L.getD i default).1∧∀r,ok r→GV P (G.getD i default) r ((L.getD i default).2 r)
theorem x5g.nil (P:Program) (ok:Nat→Prop):x5g P ok [] []:=⟨rfl,fun i h=>by cases h⟩
theorem x5g.snoc {P:Program} {ok:Nat→Prop} {G:List Grp} {L:List (List Bs × (Nat→List Rat))} (h:x5g P ok G L) {g:Grp} {p:List Bs × (Nat→List Rat)} (h1:g.nm=p.1) (h2:∀r,ok r→GV P g r (p.2 r)):x5g P ok (G++[g]) (L++[p]):=by
 obtain ⟨e,hi⟩:=h
 refine ⟨by rw [List.length_append,List.length_append,e];rfl,fun i h=>?_⟩
 rw [List.length_append] at h
 rcases Nat.lt_or_ge i G.length with h'|h'
 ·have e1:(G++[g]).getD i default=G.getD i default:=by rw [zO1,List.getElem?_append_left h',←zO1]
  have e2:(L++[p]).getD i default=L.getD i default:=by rw [zO1,List.getElem?_append_left (by omega),←zO1]
  rw [e1,e2];exact hi i h'
 ·have h':i=G.length:=by have:[g].length=1:=rfl;omega
  subst h'
  have e1:(G++[g]).getD G.length default=g:=by rw [zO1,List.getElem?_append_right (Nat.le_refl _),Nat.sub_self];rfl
  have e2:(L++[p]).getD G.length default=p:=by rw [e,zO1,List.getElem?_append_right (Nat.le_refl _),Nat.sub_self];rfl
  rw [e1,e2];exact ⟨h1,h2⟩
theorem x5g.names {P:Program} {ok:Nat→Prop} {G:List Grp} {L:List (List Bs × (Nat→List Rat))} (h:x5g P ok G L):G.map Grp.nm=L.map Prod.fst:=by
 obtain ⟨e,hi⟩:=h
 refine List.ext_getElem? fun i=>?_
 rw [List.getElem?_map,List.getElem?_map]
 by_cases hl:i<G.length
 ·have:=(hi i hl).1
  rw [zO1,zO4 hl,zO1,zO4 (by omega)] at this
  rw [zO4 hl,zO4 (by omega)]
  exact congrArg some this
 ·rw [List.getElem?_eq_none (by omega),List.getElem?_eq_none (by omega)];rfl
def y6O (G:List Grp) (n j:Nat):List DV:=gps (G.take j)++rep (n - j) [.nils,.undef]
theorem w2w (G:List Grp) (n:Nat):rep n [DV.nils,.undef]=y6O G n 0:=by unfold y6O;rw [List.take_zero,Nat.sub_zero];rfl
theorem y8w {G:List Grp} {n j:Nat} (h:G.length=n) (hj:j≤n):(y6O G n j).length=n*2:=by
 unfold y6O
 rw [List.length_append,z2z,List.length_take,(w4s (n - j) .nils .undef rfl).1];omega
theorem x7k {G:List Grp} {n j:Nat} (h:G.length=n) (hj:j<n):(y6O G n j).take (j*2)++gpC (G.getD j default)++(y6O G n j).drop (j*2+2)=y6O G n (j+1):=by
 have e:(gps (G.take j)).length=j*2:=by rw [z2z,List.length_take];congr 1;omega
 have hr:rep (n - j) [DV.nils,.undef]=[.nils,.undef]++rep (n - (j+1)) [DV.nils,.undef]:=by
  rw [show n - j=(n - (j+1))+1 by omega]
  show (List.replicate _ _).flatten=_++(List.replicate _ _).flatten
  rw [List.replicate_succ,List.flatten_cons]
 unfold y6O
 rw [hr,List.take_append_of_le_length (by omega),List.take_of_length_le (by omega),List.drop_append,List.drop_of_length_le (by omega),List.nil_append,show j*2+2 - (gps (G.take j)).length=2 by omega,z0r default (show j<G.length by omega)]
 unfold gps
 rw [y28];rfl
theorem x6a {G:List Grp} {n:Nat} (h:G.length=n):y6O G n n=gps G:=by
 unfold y6O
 rw [Nat.sub_self,List.take_of_length_le (by omega)]
 show gps G++[]=_
 rw [List.append_nil]
theorem w0v (G:List Grp) (n j:Nat):∀d∈y6O G n j,d.rf=true:=by
 intro d hd
 unfold y6O at hd
 rcases List.mem_append.1 hd with h|h
 ·exact z7g _ d h
 ·exact (w4s (n - j) .nils .undef rfl).2 d h
theorem x9d {G:List Grp} {n j:Nat} (h:G.length=n) (hj:j<n):(y6O G n (j+1)).getD (j*2) .undef=.sl 1 (z0D (G.getD j default).nm):=by
 unfold y6O
 have e:j<(G.take (j+1)).length:=by rw [List.length_take];omega
 rw [zO1,List.getElem?_append_left (by rw [z2z];omega),←zO1]
 have h1:(gps (G.take (j+1))).getD (j*2) .undef=(gpC ((G.take (j+1)).getD j default)).getD 0 .undef:=z8n (j:=0) z1A default e (by decide) .undef
 rw [h1]
 have:(G.take (j+1)).getD j default=G.getD j default:=by
  rw [zO1,List.getElem?_take_of_lt (by omega),←zO1]
 rw [this];rfl
section
variable {P:Program} {fp fm n cod:Nat} {S:List Kx} {m:Mdl}
theorem dd9:∀p,p<40→(decDigits p).length≤2:=by decide +kernel
theorem z5g (h:DK P fp fm n S m cod) {t:List Fac} {f:Fac} (ht:t∈m.tm) (hf:f∈t):(z3r S m cod t f).length≤3∧∀s∈z3r S m cod t f,s.length≤2000010:=by
 have hkm:=z3Y (h.vs _ (z48 ht hf))
 obtain ⟨n1,n2⟩:=h.nl _ hkm
 have hpw:=h.pw t ht f hf
 unfold z3r
 split
 ·refine ⟨by show 1≤3;omega,fun s hs=>?_⟩
  rw [List.mem_singleton.1 hs]
  have:=dd9 f.pw.toNat (by omega)
  split
  ·omega
  ·rw [List.length_append,List.length_cons];omega
 ·rename_i h1
  have hl:=h.lv _ hkm h1
  have hcb:∀c,ctC c (z2u S f.nm).le.length≤(z2u S f.nm).le.length:=fun c=>by unfold ctC;split<;>omega
  have:=hcb (x4i m cod t f).toNat
  refine ⟨by rw [List.length_map,z4G];omega,fun s hs=>?_⟩
  obtain ⟨u,hu,rfl⟩:=List.mem_map.1 hs
  unfold ctN at hu
  obtain ⟨j,hj,rfl⟩:=List.mem_map.1 hu
  rw [List.mem_range] at hj
  have hg:∀i,((z2u S f.nm).le.getD i []).length≤1000000:=fun i=>by
   by_cases hi:i<(z2u S f.nm).le.length
   ·exact n2 _ (z1e hi)
   ·rw [zO1,List.getElem?_eq_none (by omega)];decide
  have h1:=hg j
  have h2:=hg (j+1)
  have h3:=dd9 (j+1) (by omega)
  rw [List.length_append]
  split
  ·rw [List.length_cons];omega
  ·split
   ·rw [List.length_cons];omega
   ·rw [List.length_cons];omega
theorem y2s (h:DK P fp fm n S m cod) {t:List Fac} {f:Fac} (ht:t∈m.tm) (hf:f∈t) {r:Nat} (hr:r<n):∀x∈y1U S m cod t f r,BS x 900:=by
 have hkm:=z3Y (h.vs _ (z48 ht hf))
 obtain ⟨_,hcl,_,h32,_⟩:=z4F h.tv hkm
 have hpw:=h.pw t ht f hf
 intro x hx
 unfold y1U at hx
 split at hx
 ·rw [List.mem_singleton.1 hx]
  obtain ⟨_,q2⟩:=h.nu _ hkm ((z2u S f.nm).ce.getD r default) (z4a (by rw [hcl];exact hr))
  refine (y8g q2 f.pw.toNat).mono ?_
  have:f.pw.toNat*100≤8*100:=Nat.mul_le_mul_right _ (by omega)
  omega
 ·exact (w2i (by omega) x hx).mono (by decide)
def y9v (S:List Kx) (m:Mdl) (cod:Int) (t fs:List Fac) (f:Fac) (k:Nat):List Bs:=(fs.take k).foldl (fun g h=>z3P g (z3r S m cod t h)) (z3r S m cod t f)
def x0o (S:List Kx) (m:Mdl) (cod:Int) (t fs:List Fac) (f:Fac) (k r:Nat):List Rat:=(fs.take k).foldl (fun g h=>z3x g (y1U S m cod t h r)) (y1U S m cod t f r)
theorem w2S (t fs:List Fac) (f:Fac):y9v S m cod t fs f 0=z3r S m cod t f:=rfl
theorem z4p (t:List Fac) {fs:List Fac} (f:Fac) {k:Nat} (hk:k<fs.length):y9v S m cod t fs f (k+1)=z3P (y9v S m cod t fs f k) (z3r S m cod t (fs.getD k default)):=by
 unfold y9v;rw [z0r default hk,List.foldl_append];rfl
theorem z59 (t:List Fac) {fs:List Fac} (f:Fac) (r:Nat) {k:Nat} (hk:k<fs.length):x0o S m cod t fs f (k+1) r=z3x (x0o S m cod t fs f k r) (y1U S m cod t (fs.getD k default) r):=by
 unfold x0o;rw [z0r default hk,List.foldl_append];rfl
theorem y2r (t:List Fac) {fs:List Fac} (f:Fac) (r:Nat):∀{k:Nat},k≤fs.length→(x0o S m cod t fs f k r).length=(y9v S m cod t fs f k).length
 | 0,_=>z4S S m cod t f r
 | k+1,hk=>by rw [z59 t f r hk,z4p t f hk,z3R,z2C,y2r t f r (by omega),z4S]
theorem z92 (h:DK P fp fm n S m cod) {t fs:List Fac} {f:Fac} (ht:t∈m.tm) (hf:f∈t) (hfs:∀f∈fs,f∈t):∀{k:Nat},k≤fs.length→(y9v S m cod t fs f k).length≤3 ^ (k+1)∧∀s∈y9v S m cod t fs f k,s.length≤(k+1)*2000020
 | 0,_=>⟨(z5g h ht hf).1,fun s hs=>Nat.le_trans ((z5g h ht hf).2 s hs) (by decide)⟩
 | k+1,hk=>by
  obtain ⟨i1,i2⟩:=z92 h ht hf hfs (show k≤fs.length by omega)
  obtain ⟨b1,b2⟩:=z5g h ht (hfs _ (z4a hk))
  rw [z4p t f hk]
  refine ⟨?_,fun s hs=>?_⟩
  ·rw [z2C,Nat.pow_succ,Nat.mul_comm]
   exact Nat.mul_le_mul i1 b1
  ·unfold z3P at hs
   obtain ⟨u,hu,hs⟩:=List.mem_flatMap.1 hs
   obtain ⟨v,hv,rfl⟩:=List.mem_map.1 hs
   have h1:=i2 v hv
   have h2:=b2 u hu
   rw [List.length_append,List.length_cons,Nat.succ_mul]
   omega
theorem y21 (h:DK P fp fm n S m cod) {t fs:List Fac} {f:Fac} (ht:t∈m.tm) (hf:f∈t) (hfs:∀f∈fs,f∈t) {r:Nat} (hr:r<n):∀{k:Nat},k≤fs.length→∀x∈x0o S m cod t fs f k r,BS x ((k+1)*900)
 | 0,_=>fun x hx=>(y2s h ht hf hr x hx).mono (by decide)
 | k+1,hk=>by
  intro x hx
  rw [z59 t f r hk] at hx
  unfold z3x at hx
  obtain ⟨u,hu,hx⟩:=List.mem_flatMap.1 hx
  obtain ⟨v,hv,rfl⟩:=List.mem_map.1 hx
  exact (x7U (y21 h ht hf hfs hr (show k≤fs.length by omega) v hv) (y2s h ht (hfs _ (z4a hk)) hr u hu)).mono (by rw [Nat.succ_mul (k+1)];exact Nat.le_refl _)
theorem y2K {t fs:List Fac} {f:Fac} (ht:t=f::fs):y9v S m cod t fs f fs.length=z8c S m cod t∧∀r,x0o S m cod t fs f fs.length r=z8j S m cod t r:=by
 subst ht
 unfold y9v x0o
 rw [List.take_length]
 exact ⟨rfl,fun r=>rfl⟩
def z6j (S:List Kx) (m:Mdl) (cod:Int) (t:List Fac) (j:Nat):Nat:=(t.take j).foldl (fun w f=>w*max 1 (z3r S m cod t f).length) 1
theorem z2K {t:List Fac} {j:Nat} (hj:j<t.length):z6j S m cod t (j+1)=z6j S m cod t j*max 1 (z3r S m cod t (t.getD j default)).length:=by
 unfold z6j;rw [z0r default hj,List.foldl_append];rfl
theorem y7m (h:DK P fp fm n S m cod) {t:List Fac} (ht:t∈m.tm):∀{j:Nat},j≤t.length→z6j S m cod t j≤3 ^ j
 | 0,_=>Nat.le_refl _
 | j+1,hj=>by
  rw [z2K hj,Nat.pow_succ]
  have:=(z5g h ht (z4a hj)).1
  exact Nat.mul_le_mul (y7m h ht (by omega)) (by omega)
def w4y (S:List Kx) (m:Mdl) (cod:Int) (t:List Fac):List Bs × (Nat→List Rat):=(z8c S m cod t,z8j S m cod t)
def icL (m:Mdl):List (List Bs × (Nat→List Rat)):=if m.ic then [([[40,73,110,116,101,114,99,101,112,116,41]],fun _=>[1])] else []
def z3t (S:List Kx) (m:Mdl) (cod:Int) (i:Nat):List (List Bs × (Nat→List Rat)):=icL m++((m.tm.take i).filter (y0n S m cod)).map (w4y S m cod)
theorem x6r {i:Nat} (hi:i<m.tm.length) (h:y0n S m cod (m.tm.getD i [])=true):z3t S m cod (i+1)=z3t S m cod i++[w4y S m cod (m.tm.getD i [])]:=by
 unfold z3t
 rw [z0r [] hi,List.filter_append,List.map_append,List.filter_cons,if_pos h,List.append_assoc];rfl
theorem x8Y {i:Nat} (hi:i<m.tm.length) (h:y0n S m cod (m.tm.getD i [])=false):z3t S m cod (i+1)=z3t S m cod i:=by
 unfold z3t
 rw [z0r [] hi,List.filter_append,List.filter_cons,if_neg (by rw [h];decide)];simp
theorem w1C:(z3t S m cod m.tm.length).flatMap Prod.fst=z5t S m cod:=by
 unfold z3t z5t icL icN x0C
 rw [List.take_length,List.flatMap_append,List.flatMap_map]
 split<;>rfl
theorem w2n (r:Nat):(z3t S m cod m.tm.length).flatMap (fun p=>p.2 r)=y61 S m cod r:=by
 unfold z3t y61 icL icV x0C
 rw [List.take_length,List.flatMap_append,List.flatMap_map]
 split<;>rfl
def z72 (S:List Kx) (m:Mdl) (cod:Int) (i:Nat):Nat:=(if m.ic then 1 else 0)+(((m.tm.take i).filter (y0n S m cod)).map fun t=>z6j S m cod t t.length).sum
theorem y2L {i:Nat} (hi:i<m.tm.length) (h:y0n S m cod (m.tm.getD i [])=true):z72 S m cod (i+1)=z72 S m cod i+z6j S m cod (m.tm.getD i []) (m.tm.getD i []).length:=by
 unfold z72
 rw [z0r [] hi,List.filter_append,List.map_append,List.filter_cons,if_pos h,List.sum_append]
 simp only [List.filter_nil,List.map_cons,List.map_nil,List.sum_cons,List.sum_nil]
 omega
theorem x1V {i:Nat} (hi:i<m.tm.length) (h:y0n S m cod (m.tm.getD i [])=false):z72 S m cod (i+1)=z72 S m cod i:=by
 unfold z72
 rw [z0r [] hi,List.filter_append,List.filter_cons,if_neg (show ¬y0n S m cod (m.tm.getD i [])=true by rw [h];decide)];simp
theorem z6e {i:Nat}:∀{j:Nat},j≤m.tm.length→i≤j→z72 S m cod i≤z72 S m cod j
 | 0,_,h=>by rw [Nat.le_zero.1 h];exact Nat.le_refl _
 | j+1,hj,h=>by
  by_cases e:i=j+1
  ·rw [e];exact Nat.le_refl _
  ·have ih:=z6e (i:=i) (show j≤m.tm.length by omega) (by omega)
   cases hk:y0n S m cod (m.tm.getD j [])
   ·rw [x1V hj hk];exact ih
   ·rw [y2L hj hk];omega
end
end Nat32
namespace Nat32
open Go Go.Dat
def nmU (G:List Grp) (i:Nat):List Bs:=(G.take i).flatMap Grp.nm
theorem y8U {G:List Grp} {i:Nat} (h:i<G.length):nmU G (i+1)=nmU G i++(G.getD i default).nm:=by
 unfold nmU;rw [z0r default h,List.flatMap_append];simp
def vlU (L:List (List Bs × (Nat→List Rat))) (r i:Nat):List Rat:=(L.take i).flatMap fun p=>p.2 r
theorem y8T {L:List (List Bs × (Nat→List Rat))} {r i:Nat} (h:i<L.length):vlU L r (i+1)=vlU L r i++(L.getD i default).2 r:=by
 unfold vlU;rw [z0r default h,List.flatMap_append];simp
def rwU (S:List Kx) (m:Mdl) (cod:Int) (R:List Nat) (i:Nat):List DV:=(R.take i).map fun r=>.sl 3 (nums (y61 S m cod r))
theorem x5q {S:List Kx} {m:Mdl} {cod:Int} {R:List Nat} {i:Nat} (h:i<R.length):rwU S m cod R i++[.sl 3 (nums (y61 S m cod (R.getD i 0)))]=rwU S m cod R (i+1):=by
 unfold rwU;rw [z0r 0 h,List.map_append];rfl
theorem y6f {S:List Kx} {m:Mdl} {cod:Int} {R:List Nat} {i:Nat} (h:i≤R.length):(rwU S m cod R i).length=i:=by
 unfold rwU;rw [List.length_map,List.length_take];omega
theorem z9H (S:List Kx) (m:Mdl) (cod:Int) (R:List Nat) (i:Nat):∀d∈rwU S m cod R i,d.rf=true:=by
 intro d hd
 unfold rwU at hd
 obtain ⟨_,_,rfl⟩:=List.mem_map.1 hd
 rfl
def yU (S:List Kx) (m:Mdl) (R:List Nat) (i:Nat):List Rat:=(R.take i).map (y5B S m)
theorem x3X {S:List Kx} {m:Mdl} {R:List Nat} {i:Nat} (h:i<R.length):nums (yU S m R i)++z0V (y5B S m (R.getD i 0))=nums (yU S m R (i+1)):=by
 unfold yU;rw [z0r 0 h,List.map_append,z52];rfl
theorem y75 {S:List Kx} {m:Mdl} {R:List Nat} {i:Nat} (h:i≤R.length):(nums (yU S m R i)).length=i*3:=by
 unfold yU;rw [z1l,List.length_map,List.length_take];congr 1;omega
theorem z55 {R:List Nat} {i:Nat} (h:i<R.length) (d:DV):(ints R).getD i d=.int .i64 (R.getD i 0:Nat):=by
 unfold ints
 rw [zO1,List.getElem?_map,zO4 h,zO1,zO4 h];rfl
theorem z5R {R:List Nat} {i:Nat} (h:i<R.length):R.getD i 0∈R:=by rw [zO1,zO4 h];exact List.getElem_mem h
theorem x6u {S:List Kx} {m:Mdl} {cod:Int} {i k:Nat} (hi:i<(z3t S m cod k).length):(z3t S m cod k).getD i default=([[40,73,110,116,101,114,99,101,112,116,41]],fun _=>[1])∨∃t∈m.tm,(z3t S m cod k).getD i default=w4y S m cod t:=by
 have hm:(z3t S m cod k).getD i default∈z3t S m cod k:=by rw [zO1,zO4 hi];exact List.getElem_mem hi
 generalize (z3t S m cod k).getD i default=p at *
 unfold z3t at hm
 rcases List.mem_append.1 hm with h|h
 ·unfold icL at h
  split at h
  ·exact .inl (List.mem_singleton.1 h)
  ·cases h
 ·obtain ⟨t,ht,rfl⟩:=List.mem_map.1 h
  exact .inr ⟨t,List.mem_of_mem_take (List.mem_filter.1 ht).1,rfl⟩
theorem x7W {P:Program} {fp fm n cod:Nat} {S:List Kx} {m:Mdl} (h:DK P fp fm n S m cod) {t:List Fac} (ht:t∈m.tm) :
  (z8c S m cod t).length≤729∧∀r,r<n→∀x∈z8j S m cod t r,BS x 6000:=by
 have htl:=h.tl.2 t ht
 cases t with
 | nil=>exact absurd htl.1 (by decide)
 | cons f fs =>
  have h0:f∈f::fs:=List.mem_cons_self
  have hts:∀g∈fs,g∈f::fs:=fun g hg=>List.mem_cons_of_mem _ hg
  have hl:fs.length≤5:=by have:=htl.2;rw [List.length_cons] at this;omega
  obtain ⟨e1,e2⟩:=y2K (S:=S) (m:=m) (cod:=cod) (t:=f::fs) (f:=f) (fs:=fs) rfl
  refine ⟨?_,fun r hr x hx=>?_⟩
  ·rw [←e1]
   have h3:∀k,k<7→3 ^ k≤729:=by decide
   exact Nat.le_trans (z92 h ht h0 hts (Nat.le_refl _)).1 (h3 _ (by omega))
  ·rw [←e2] at hx
   refine (y21 h ht h0 hts hr (Nat.le_refl _) x hx).mono ?_
   have:(fs.length+1)*900≤6*900:=Nat.mul_le_mul_right _ (by omega)
   omega
theorem z6Z {P:Program} {fp fm n cod:Nat} {S:List Kx} {m:Mdl} (h:DK P fp fm n S m cod) {i:Nat} (hi:i<(z3t S m cod m.tm.length).length) :
  ((z3t S m cod m.tm.length).getD i default).1.length≤729∧∀r,r<n→(((z3t S m cod m.tm.length).getD i default).2 r).length≤729∧∀x∈((z3t S m cod m.tm.length).getD i default).2 r,BS x 6000:=by
 rcases x6u hi with e|⟨t,ht,e⟩
 ·rw [e]
  exact ⟨by decide,fun r _=>⟨(by show 1≤729;omega),fun x hx=>by rw [List.mem_singleton.1 hx];exact w5y.mono (by decide)⟩⟩
 ·rw [e]
  obtain ⟨a,b⟩:=x7W h ht
  refine ⟨a,fun r hr=>⟨?_,b r hr⟩⟩
  show (z8j S m cod t r).length≤729
  rw [z8g];exact a
theorem x9j {S:List Kx} {m:Mdl} {cod:Nat} (r:Nat):vlU (z3t S m cod m.tm.length) r (z3t S m cod m.tm.length).length=y61 S m cod r:=by
 unfold vlU
 rw [List.take_length];exact w2n r
theorem x15 {P:Program} {fp fm n cod:Nat} {S:List Kx} {m:Mdl} (h:DK P fp fm n S m cod) {r:Nat} (hr:r<n):∀{i:Nat},i≤(z3t S m cod m.tm.length).length→(vlU (z3t S m cod m.tm.length) r i).length≤i*729
 | 0,_=>by simp [vlU]
 | i+1,hi=>by
  rw [y8T hi,List.length_append,Nat.succ_mul]
  have h1:=x15 h hr (show i≤_ by omega)
  have h2:=((z6Z h hi).2 r hr).1
  omega
def z39 (rows:List (List Rat)):List DV:=rows.map fun l=>.sl 3 (nums l)
theorem z3E (rows:List (List Rat)):(z39 rows).length=rows.length:=List.length_map _
theorem z4x (rows:List (List Rat)):∀d∈z39 rows,d.rf=true:=by
 intro d hd
 unfold z39 at hd
 obtain ⟨_,_,rfl⟩:=List.mem_map.1 hd
 rfl
theorem z8V (rows:List (List Rat)) (l:List Rat):z39 rows++[.sl 3 (nums l)]=z39 (rows++[l]):=by unfold z39;rw [List.map_append];rfl
theorem z8b {rows:List (List Rat)} {i:Nat} (h:i<rows.length) (d:DV):(z39 rows).getD i d=.sl 3 (nums (rows.getD i [])):=by
 unfold z39
 rw [zO1,List.getElem?_map,zO4 h,zO1,zO4 h];rfl
def z25 (N:List Bs) (rows:List (List Rat)):List DV:=[.sl 1 (z0D N),.sl 1 (z39 rows)]
theorem y74 {α β:Type} (f:α→β) (d:α) {l:List α} {i:Nat} (h:i<l.length):(l.take (i+1)).map f=(l.take i).map f++[f (l.getD i d)]:=by
 rw [z0r d h,List.map_append];rfl
def w5L:List Mdl :=
 [⟨[121],true,[[⟨[120],1⟩]]⟩,
 ⟨[121],true,[[⟨[103],1⟩]]⟩,
 ⟨[121],false,[[⟨[103],1⟩]]⟩,
 ⟨[121],true,[[⟨[120],1⟩],[⟨[103],1⟩],[⟨[120],1⟩,⟨[103],1⟩]]⟩,
 ⟨[121],true,[[⟨[103],1⟩],[⟨[104],1⟩],[⟨[103],1⟩,⟨[104],1⟩]]⟩,
 ⟨[121],true,[[⟨[103],1⟩],[⟨[103],1⟩,⟨[104],1⟩]]⟩,
 ⟨[121],true,[[⟨[103],1⟩,⟨[104],1⟩]]⟩,
 ⟨[121],false,[[⟨[120],1⟩],[⟨[104],1⟩]]⟩,
 ⟨[121],true,[[⟨[120],2⟩],[⟨[120],1⟩]]⟩,
 ⟨[121],true,[[⟨[120],1⟩],[⟨[120],1⟩,⟨[103],1⟩]]⟩,
 ⟨[121],true,[]⟩,
 ⟨[121],true,[[⟨[103],1⟩],[⟨[104],1⟩],[⟨[120],1⟩]]⟩,
 ⟨[121],true,[[⟨[103],1⟩],[⟨[103],1⟩,⟨[104],1⟩]]⟩,
 ⟨[121],true,[[⟨[104],1⟩],[⟨[103],1⟩],[⟨[104],1⟩,⟨[103],1⟩]]⟩,
 ⟨[121],true,[[⟨[120],1⟩],[⟨[103],1⟩,⟨[104],1⟩]]⟩,
 ⟨[121],false,[[⟨[120],1⟩],[⟨[103],1⟩,⟨[104],1⟩]]⟩,
 ⟨[121],true,[[⟨[120],1⟩,⟨[103],1⟩]]⟩,
 ⟨[121],true,[[⟨[103],1⟩],[⟨[104],1⟩]]⟩,
 ⟨[121],false,[[⟨[103],1⟩],[⟨[104],1⟩]]⟩]
def kM (i:Nat):Mdl:=w5L.getD i default
section
variable (S:List Kx) (m:Mdl) (cod:Int)
def z45 (j:Nat):List Bs:=icN m++(m.tm.take j).flatMap (z8c S m cod)
def z6G (j r:Nat):List Rat:=icV m++(m.tm.take j).flatMap fun t=>z8j S m cod t r
end
variable {S:List Kx} {m:Mdl} {cod:Nat}
theorem x7L:z45 S m cod 0=icN m:=by unfold z45;simp
theorem x7E (r:Nat):z6G S m cod 0 r=icV m:=by unfold z6G;simp
theorem y41 {j:Nat} (h:j<m.tm.length):z45 S m cod (j+1)=z45 S m cod j++z8c S m cod (m.tm.getD j []):=by
 unfold z45;rw [z0r [] h,List.flatMap_append,List.append_assoc];simp
theorem z8E {j:Nat} (h:j<m.tm.length) (r:Nat):z6G S m cod (j+1) r=z6G S m cod j r++z8j S m cod (m.tm.getD j []) r:=by
 unfold z6G;rw [z0r [] h,List.flatMap_append,List.append_assoc];simp
theorem x8D (hp:∀t∈m.tm,∀f∈t,1≤(z3r S m cod t f).length):∀t∈m.tm,y0n S m cod t=true:=by
 intro t ht
 unfold y0n
 rw [List.all_eq_true]
 intro f hf
 have:=hp t ht f hf
 cases h:z3r S m cod t f with
 | nil=>rw [h] at this;exact absurd this (by decide)
 | cons _ _=>rfl
theorem y9x (hp:∀t∈m.tm,∀f∈t,1≤(z3r S m cod t f).length):x0C S m cod=m.tm:=by
 unfold x0C
 rw [List.filter_eq_self]
 exact x8D hp
theorem y8m (hp:∀t∈m.tm,∀f∈t,1≤(z3r S m cod t f).length):z45 S m cod m.tm.length=z5t S m cod:=by
 unfold z45 z5t;rw [List.take_length,y9x hp]
theorem x6O (hp:∀t∈m.tm,∀f∈t,1≤(z3r S m cod t f).length) (r:Nat):z6G S m cod m.tm.length r=y61 S m cod r:=by
 unfold z6G y61;rw [List.take_length,y9x hp]
theorem x13 {t fs:List Fac} {f:Fac} (ht:t=f::fs) (hp:∀f∈t,1≤(z3r S m cod t f).length):∀{k:Nat},k≤fs.length→z6j S m cod t (k+1)=(y9v S m cod t fs f k).length
 | 0,_=>by
  rw [z2K (by rw [ht];exact Nat.zero_lt_succ _),w2S]
  have h0:t.getD 0 default=f:=by rw [ht];rfl
  have h1:z6j S m cod t 0=1:=rfl
  rw [h0,h1,Nat.one_mul]
  have:=hp f (by rw [ht];exact List.mem_cons_self)
  omega
 | k+1,hk=>by
  have hl:t.length=fs.length+1:=by rw [ht];rfl
  rw [z2K (by omega),x13 ht hp (by omega),z4p t f (by omega),z2C]
  have hg:t.getD (k+1) default=fs.getD k default:=by rw [ht];rfl
  rw [hg]
  have hm:fs.getD k default∈fs:=z4a (by omega)
  have:=hp (fs.getD k default) (by rw [ht];exact List.mem_cons_of_mem _ hm)
  rw [show max 1 (z3r S m cod t (fs.getD k default)).length=(z3r S m cod t (fs.getD k default)).length by omega,Nat.mul_comm]
theorem x2I {t:List Fac} (ht:1≤t.length) (hp:∀f∈t,1≤(z3r S m cod t f).length):z6j S m cod t t.length=(z8c S m cod t).length:=by
 cases t with
 | nil=>exact absurd ht (by decide)
 | cons f fs =>
  rw [←(y2K (S:=S) (m:=m) (cod:=cod) (t:=f::fs) (f:=f) (fs:=fs) rfl).1]
  exact x13 rfl hp (Nat.le_refl _)
theorem z8f (hp:∀t∈m.tm,∀f∈t,1≤(z3r S m cod t f).length) (h1:∀t∈m.tm,1≤t.length):∀{j:Nat},j≤m.tm.length→(z45 S m cod j).length=z72 S m cod j
 | 0,_=>by
  rw [x7L]
  unfold z72 icN
  split<;>simp
 | j+1,hj=>by
  have hm:m.tm.getD j []∈m.tm:=by rw [zO1,zO4 (by omega)];exact List.getElem_mem _
  rw [y41 (by omega),List.length_append,z8f hp h1 (by omega),y2L (by omega) (x8D hp _ hm),x2I (h1 _ hm) (hp _ hm)]
def rwT (S:List Kx) (m:Mdl) (cod:Int) (R:List Nat) (j i:Nat):List (List DV) :=
 (List.range R.length).map fun a=>nums (z6G S m cod (if a<i then j+1 else j) (R.getD a 0))
theorem y6Y (S:List Kx) (m:Mdl) (cod:Int) (R:List Nat) (j i:Nat):(rwT S m cod R j i).length=R.length:=by unfold rwT;rw [List.length_map,List.length_range]
theorem w2z {R:List Nat} {j i a:Nat} (h:a<R.length):(rwT S m cod R j i).getD a []=nums (z6G S m cod (if a<i then j+1 else j) (R.getD a 0)):=by
 unfold rwT
 rw [zO1,List.getElem?_map,List.getElem?_range h];rfl
theorem x9E (R:List Nat) (j:Nat):rwT S m cod R j R.length=rwT S m cod R (j+1) 0:=by
 unfold rwT
 refine List.map_congr_left fun a ha=>?_
 rw [List.mem_range] at ha
 rw [if_pos ha,if_neg (by omega)]
theorem w1m {R:List Nat} {j i:Nat} (hi:i<R.length):(rwT S m cod R j i).set i (nums (z6G S m cod (j+1) (R.getD i 0)))=rwT S m cod R j (i+1):=by
 refine List.ext_getElem? fun a=>?_
 rw [List.getElem?_set]
 by_cases h:i=a
 ·subst h
  rw [if_pos rfl,y6Y,if_pos hi]
  unfold rwT
  rw [List.getElem?_map,List.getElem?_range hi,Option.map_some,if_pos (by omega)]
 ·rw [if_neg h]
  unfold rwT
  rw [List.getElem?_map,List.getElem?_map]
  by_cases ha:a<R.length
  ·rw [List.getElem?_range ha,Option.map_some,Option.map_some]
   by_cases hai:a<i
   ·rw [if_pos hai,if_pos (by omega)]
   ·rw [if_neg hai,if_neg (by omega)]
  ·rw [List.getElem?_eq_none (by rw [List.length_range];omega)];rfl
theorem y8F (S:List Kx) (m:Mdl) (cod:Int) (R:List Nat) (j i:Nat):∀l∈rwT S m cod R j i,∀d∈l,d.rf=true:=by
 intro l hl
 unfold rwT at hl
 obtain ⟨a,_,rfl⟩:=List.mem_map.1 hl
 exact z07 _
def clT (S:List Kx) (m:Mdl) (cod:Int) (R:List Nat) (j i:Nat):List DV :=
 (List.range R.length).map fun a=>.osl 3 (1000+a) 0 (z6G S m cod (if a<i then j+1 else j) (R.getD a 0)).length
theorem x3d (S:List Kx) (m:Mdl) (cod:Int) (R:List Nat) (j i:Nat):(clT S m cod R j i).length=R.length:=by unfold clT;rw [List.length_map,List.length_range]
theorem x7D {R:List Nat} {j i a:Nat} (h:a<R.length) (d:DV):(clT S m cod R j i).getD a d=.osl 3 (1000+a) 0 (z6G S m cod (if a<i then j+1 else j) (R.getD a 0)).length:=by
 unfold clT
 rw [zO1,List.getElem?_map,List.getElem?_range h];rfl
theorem w0x (R:List Nat) (j:Nat):clT S m cod R j R.length=clT S m cod R (j+1) 0:=by
 unfold clT
 refine List.map_congr_left fun a ha=>?_
 rw [List.mem_range] at ha
 rw [if_pos ha,if_neg (by omega)]
theorem x89 {R:List Nat} {j i:Nat} (hi:i<R.length):(clT S m cod R j i).set i (.osl 3 (1000+i) 0 (z6G S m cod (j+1) (R.getD i 0)).length)=clT S m cod R j (i+1):=by
 refine List.ext_getElem? fun a=>?_
 rw [List.getElem?_set]
 by_cases h:i=a
 ·subst h
  rw [if_pos rfl,x3d,if_pos hi]
  unfold clT
  rw [List.getElem?_map,List.getElem?_range hi,Option.map_some,if_pos (by omega)]
 ·rw [if_neg h]
  unfold clT
  rw [List.getElem?_map,List.getElem?_map]
  by_cases ha:a<R.length
  ·rw [List.getElem?_range ha,Option.map_some,Option.map_some]
   by_cases hai:a<i
   ·rw [if_pos hai,if_pos (by omega)]
   ·rw [if_neg hai,if_neg (by omega)]
  ·rw [List.getElem?_eq_none (by rw [List.length_range];omega)];rfl
end Nat32
namespace Nat32
open Go Go.Dat
def xI (n l i:Nat):List DV:=(List.range n).map fun a=>if a<i then .osl 3 (1000+a) 0 l else .nils
theorem x37 (n l i:Nat):(xI n l i).length=n:=by unfold xI;rw [List.length_map,List.length_range]
theorem w5F (n l:Nat):rep n [DV.nils]=xI n l 0:=by
 have h:rep n [DV.nils]=List.replicate n .nils:=rfl
 rw [h]
 refine List.ext_getElem? fun j=>?_
 unfold xI
 rw [List.getElem?_map,List.getElem?_replicate]
 by_cases hj:j<n
 ·rw [if_pos hj,List.getElem?_range hj,Option.map_some,if_neg (by omega)]
 ·rw [if_neg hj,List.getElem?_eq_none (by rw [List.length_range];omega)];rfl
theorem w4c {n l i:Nat} (h:i<n):(xI n l i)[i]? = some .nils:=by
 unfold xI
 rw [List.getElem?_map,List.getElem?_range h,Option.map_some,if_neg (by omega)]
theorem w3J {n l i:Nat} (h:i<n):(xI n l i).set i (.osl 3 (1000+i) 0 l)=xI n l (i+1):=by
 refine List.ext_getElem? fun a=>?_
 rw [List.getElem?_set]
 by_cases e:i=a
 ·subst e
  rw [if_pos rfl,x37,if_pos h]
  unfold xI
  rw [List.getElem?_map,List.getElem?_range h,Option.map_some,if_pos (by omega)]
 ·rw [if_neg e]
  unfold xI
  rw [List.getElem?_map,List.getElem?_map]
  by_cases ha:a<n
  ·rw [List.getElem?_range ha,Option.map_some,Option.map_some]
   by_cases hai:a<i
   ·rw [if_pos hai,if_pos (by omega)]
   ·rw [if_neg hai,if_neg (by omega)]
  ·rw [List.getElem?_eq_none (by rw [List.length_range];omega)];rfl
theorem w5J {n l i o:Nat} (h:o<1000):(xI n l i).map (purge o)=xI n l i:=by
 unfold xI
 rw [List.map_map]
 refine List.map_congr_left fun a _=>?_
 simp only [Function.comp]
 split
 ·simp [purge,DV.has,show 1000+a≠o by omega]
 ·simp [purge,DV.has]
theorem w1A {S:List Kx} {m:Mdl} {cod:Nat} (R:List Nat):xI R.length (icV m).length R.length=clT S m cod R 0 0:=by
 unfold xI clT
 refine List.map_congr_left fun a ha=>?_
 rw [List.mem_range] at ha
 rw [if_pos ha,if_neg (by omega),x7E]
theorem x9S {S:List Kx} {m:Mdl} {cod:Nat} (R:List Nat):List.replicate R.length (nums (icV m))=rwT S m cod R 0 0:=by
 refine List.ext_getElem? fun a=>?_
 unfold rwT
 rw [List.getElem?_map]
 by_cases h:a<R.length
 ·rw [List.getElem?_replicate,if_pos h,List.getElem?_range h,Option.map_some,if_neg (by omega),x7E]
 ·rw [List.getElem?_eq_none (by simp;omega),List.getElem?_eq_none (by simp;omega)];rfl
theorem w5a {n l i:Nat} {f:Nat→Option Nat} (hf:∀a,a<i→f (1000+a)=some (1000+a)):(xI n l i).map (rn f)=xI n l i:=by
 unfold xI
 rw [List.map_map]
 refine List.map_congr_left fun a _=>?_
 simp only [Function.comp]
 split
 ·rename_i h
  simp [rn,hf a h]
 ·simp [rn]
theorem x33 {i:Nat} {L:List (List DV)} {a b c d e f g Y X Z v:List DV} (hi:i<L.length) :
  z0K (z0K ((3,a)::(4,b)::(6,c)::(11,d)::(12,e)::(16,f)::(44,X)::(85,g)::(203,Y)::z1d 1000 L) (1000+i) v) 44 Z=(3,a)::(4,b)::(6,c)::(11,d)::(12,e)::(16,f)::(44,Z)::(85,g)::(203,Y)::z1d 1000 (L.set i v):=by
 have n1:∀k:Nat,k<1000→(k=1000+i)=False:=fun k hk=>eq_false (by omega)
 have n2:∀k:Nat,k<1000→(1000+i<k)=False:=fun k hk=>eq_false (by omega)
 simp (disch:=omega) only [z0K,n1,n2,if_false,if_true,Nat.reduceEqDiff,Nat.reduceLT,y5I hi]
theorem w0T {i:Nat} {L:List (List DV)} {a b c d e f g Y X:List DV} (hi:i<L.length) :
  lkH ((3,a)::(4,b)::(6,c)::(11,d)::(12,e)::(16,f)::(44,X)::(85,g)::(203,Y)::z1d 1000 L) (1000+i)=some (L.getD i []):=by
 have n1:∀k:Nat,k<1000→(k=1000+i)=False:=fun k hk=>eq_false (by omega)
 simp (disch:=omega) only [lkH,n1,if_false]
 exact z8h hi
def x4V (z:Nat):Nat→List (List DV)→List DV
 | _,[]=>[]
 | k,c::r=>.osl z k 0 (c.length / z)::x4V z (k+1) r
theorem y81 {z o:Nat} {cs:List DV}:∀{L:List (List DV)} {k:Nat},o<k→(x4V z k L).map (frz o cs)=x4V z k L
 | [],_,_=>rfl
 | c::r,k,h=>by
  simp only [x4V,List.map_cons]
  rw [y81 (by omega),z1q _ _ _ _ _ (by omega)]
theorem y83 {z:Nat}:∀{L:List (List DV)} {k i:Nat},(x4V z k L)[i]? = (L[i]?).map fun c=>.osl z (k+i) 0 (c.length / z)
 | [],_,_=>rfl
 | c::r,k,0=>rfl
 | c::r,k,i+1=>by
  simp only [x4V,List.getElem?_cons_succ]
  rw [y83,show k+1+i=k+(i+1) by omega]
theorem w1z {F:FnD} {c:DC} {Q:Ex→Fr→Hp→Prop} {fr:Fr} {z:Nat} (hz:z≠0) {a b cc d e g Y:List DV} (ra:∀x∈a,x.rf=true) (rb:∀x∈b,x.rf=true) (rc:∀x∈cc,x.rf=true) (re:∀x∈e,x.rf=true) (rg:∀x∈g,x.rf=true) (rY:∀x∈Y,x.rf=true)
  (hd:∀o cs,1000≤o→d.map (frz o cs)=d) (hf:∀o cs,1000≤o→z0M (frz o cs) fr=fr) (L:List (List DV)) :
  ∀ (k:Nat) (D:List DV),1000≤k→k+L.length≤1048576→(∀l∈L,∀x∈l,x.rf=true)→(∀l∈L,l.length / z*z=l.length)→(∀x∈D,x.rf=true) →
   W F c Q fr ((3,a)::(4,b)::(6,cc)::(11,d)::(12,e)::(44,D++L.map (.sl z))::(85,g)::(203,Y)::[]) →
   W F c Q fr ((3,a)::(4,b)::(6,cc)::(11,d)::(12,e)::(44,D++x4V z k L)::(85,g)::(203,Y)::z1d k L):=by
 induction L with
 | nil=>intro k D _ _ _ _ _ h;exact h
 | cons x r ih =>
  intro k D hk hkl hrf hzl hD h
  rw [List.length_cons] at hkl
  have n1:∀q:Nat,q<1000→(q=k)=False:=fun q hq=>eq_false (by omega)
  refine z0E k (cells:=x) ?_ (List.all_eq_true.2 (hrf x List.mem_cons_self)) ?_ (by omega)
  ·simp (disch:=omega) only [z1d,lkH,n1,if_false,if_true]
  ·rw [hf k x hk]
   have hfz:frz k x (.osl z k 0 (x.length / z))=.sl z x:=by
    have:=hzl x List.mem_cons_self
    simp [frz,hz,this]
   have e:rmH k x ((3,a)::(4,b)::(6,cc)::(11,d)::(12,e)::(44,D++x4V z k (x::r))::(85,g)::(203,Y)::z1d k (x::r))=((3,a)::(4,b)::(6,cc)::(11,d)::(12,e)::(44,(D++[.sl z x])++x4V z (k+1) r)::(85,g)::(203,Y)::z1d (k+1) r):=by
    simp (disch:=omega) only [z1d,rmH,n1,if_false,if_true,List.map_append,x4V,List.map_cons]
    rw [z0N k x ra,z0N k x rb,z0N k x rc,z0N k x re,z0N k x rg,z0N k x rY,hd k x hk,z0N k x hD,hfz,y81 (by omega),y5G (by omega) fun l hl=>z0N k x (hrf l (List.mem_cons_of_mem _ hl)),List.append_assoc]
    rfl
   rw [e]
   have h':D++(x::r).map (.sl z)=(D++[.sl z x])++r.map (.sl z):=by simp
   rw [h'] at h
   refine ih (k+1) (D++[.sl z x]) (by omega) (by omega) (fun l hl=>hrf l (List.mem_cons_of_mem _ hl)) (fun l hl=>hzl l (List.mem_cons_of_mem _ hl)) (fun y hy=>?_) h
   rcases List.mem_append.1 hy with hy|hy
   ·exact hD y hy
   ·rw [List.mem_singleton.1 hy];rfl
theorem x9r {S:List Kx} {m:Mdl} {cod:Nat} (R:List Nat) (j:Nat):clT S m cod R j 0=x4V 3 1000 (rwT S m cod R j 0):=by
 refine List.ext_getElem? fun a=>?_
 rw [y83]
 unfold clT rwT
 rw [List.getElem?_map,List.getElem?_map,Option.map_map]
 by_cases h:a<R.length
 ·rw [List.getElem?_range h,Option.map_some,Option.map_some]
  simp only [Function.comp,z1l]
  rw [Nat.mul_div_cancel _ (by decide)]
 ·rw [List.getElem?_eq_none (by rw [List.length_range];omega)];rfl
theorem w4x {S:List Kx} {m:Mdl} {cod:Nat} (hp:∀t∈m.tm,∀f∈t,1≤(z3r S m cod t f).length) (R:List Nat):(rwT S m cod R m.tm.length 0).map (.sl 3)=rwU S m cod R R.length:=by
 unfold rwT rwU
 rw [List.take_length,List.map_map]
 refine List.ext_getElem? fun a=>?_
 rw [List.getElem?_map,List.getElem?_map]
 by_cases h:a<R.length
 ·rw [List.getElem?_range h,zO4 h,Option.map_some,Option.map_some]
  simp only [Function.comp]
  rw [if_neg (by omega),x6O hp,zO1,zO4 h]
  rfl
 ·rw [List.getElem?_eq_none (by rw [List.length_range];omega),List.getElem?_eq_none (by omega)];rfl
theorem x9P {S:List Kx} {m:Mdl} {cod:Nat} (R:List Nat) (j i:Nat):∀l∈rwT S m cod R j i,l.length / 3*3=l.length:=by
 intro l hl
 unfold rwT at hl
 obtain ⟨a,_,rfl⟩:=List.mem_map.1 hl
 rw [z1l,Nat.mul_div_cancel _ (by decide)]
theorem y6w {l:List Int} {n:Nat} {c:Tc} (h:c∈tbY l n):∃z,c=y0i z:=by
 unfold tbY at h
 obtain ⟨i,_,rfl⟩:=List.mem_map.1 h
 exact ⟨_,rfl⟩
theorem y50 {l:List Int} {m:Int} {n:Nat} {c:Tc} (h:c∈tbG l m n):∃z,c=lvT z m:=by
 unfold tbG at h
 obtain ⟨i,_,rfl⟩:=List.mem_map.1 h
 exact ⟨_,rfl⟩
theorem x93 (z:Int):y8q (y0i z).va:=x9Q (x1X (x3x z) (by decide))
theorem x8g (z m:Int):(lvT z m).va=(false,[],[]):=by unfold lvT;split<;>rfl
theorem x3C:xnV (false,[],[])=0:=by rw [←w5p];exact x6L 0
theorem w2F (z m:Int):y8q (lvT z m).va:=by
 rw [x8g]
 exact ⟨fun x hx=>absurd hx List.not_mem_nil,fun x hx=>absurd hx List.not_mem_nil,by decide,by decide⟩
theorem x1v:w0N (false,[],[])=true:=by
 unfold w0N
 rw [x3C]
 rfl
theorem w1K (z:Int):(y0i z).va=qX (xnV (y0i z).va)∧BS (xnV (y0i z).va) 100:=by
 have h:xnV (y0i z).va=y5Y z:=x6L _
 rw [h]
 exact ⟨rfl,(x3x z).mono (by decide)⟩
theorem w4S (z m:Int):(lvT z m).va=qX (xnV (lvT z m).va)∧BS (xnV (lvT z m).va) 100:=by
 rw [x8g,x3C,w5p]
 exact ⟨rfl,w5N.mono (by decide)⟩
theorem x5b (z:Int) {k:Kx} (h:k.kd=1):y8R k (y0i z)=true:=by
 unfold y8R
 rw [if_neg (show ¬(y0i z).mi=true from Bool.false_ne_true),if_pos h]
 have:z5p (y0i z).va.1 (y0i z).va.2.1 (y0i z).va.2.2=true:=x4J _
 rw [this]
 rfl
theorem x2f (z m:Int) {k:Kx} (h:k.kd=2) (hm:(k.le.length:Int)=m) (h0:0<m):y8R k (lvT z m)=true:=by
 unfold y8R lvT
 by_cases hz:z<0
 ·rw [if_pos hz,if_pos rfl,x1v];rfl
 ·rw [if_neg hz,if_neg Bool.false_ne_true,if_neg (by omega),x1v]
  have h1:=Int.tmod_nonneg m (show 0≤z by omega)
  have h2:=Int.tmod_lt_of_pos z h0
  simp only [Bool.true_and,Bool.and_eq_true,decide_eq_true_eq]
  omega
theorem y2A {l:List Int} {n:Nat} {p:Tc→Bool} (h:∀z,p (y0i z)=true):(tbY l n).all p=true:=by
 rw [List.all_eq_true]
 intro c hc
 obtain ⟨z,rfl⟩:=y6w hc
 exact h z
theorem y2O {l:List Int} {m:Int} {n:Nat} {p:Tc→Bool} (h:∀z,p (lvT z m)=true):(tbG l m n).all p=true:=by
 rw [List.all_eq_true]
 intro c hc
 obtain ⟨z,rfl⟩:=y50 hc
 exact h z
theorem y3U {Y X G H:List Int} {p:Tc→Prop} (h1:∀z,p (y0i z)) (h2:∀z m,p (lvT z m)):∀k∈z95 Y X G H,∀c∈k.ce,p c:=by
 intro k hk c hc
 unfold z95 at hk
 simp only [List.mem_cons,List.not_mem_nil,or_false] at hk
 rcases hk with rfl|rfl|rfl|rfl
 ·obtain ⟨z,rfl⟩:=y6w hc;exact h1 z
 ·obtain ⟨z,rfl⟩:=y6w hc;exact h1 z
 ·obtain ⟨z,rfl⟩:=y50 hc;exact h2 z _
 ·obtain ⟨z,rfl⟩:=y50 hc;exact h2 z _
theorem z3Q {Y X G H:List Int} {n:Nat} (hn:n=min Y.length 10) {p:Kx→Prop} (h1:p ⟨[121],1,[],tbY Y n⟩) (h2:p ⟨[120],1,[],tbY X n⟩) (h3:p ⟨[103],2,[[97],[98],[99]],tbG G 3 n⟩) (h4:p ⟨[104],2,[[117],[118]],tbG H 2 n⟩):∀k∈z95 Y X G H,p k:=by
 intro k hk
 unfold z95 at hk
 rw [←hn] at hk
 simp only [List.mem_cons,List.not_mem_nil,or_false] at hk
 rcases hk with rfl|rfl|rfl|rfl
 ·exact h1
 ·exact h2
 ·exact h3
 ·exact h4
theorem y6P (Y X G H:List Int):z1g (z95 Y X G H)=[[121],[120],[103],[104]]:=rfl
theorem y3h (s:Bs) (l:List Int) (n:Nat):x1i ⟨s,1,[],tbY l n⟩ n=true:=by
 unfold x1i
 simp [z6Q]
theorem y2g (s:Bs) (le:List Bs) (l:List Int) (m:Int) (n:Nat) (h:le.length≤32):x1i ⟨s,2,le,tbG l m n⟩ n=true:=by
 unfold x1i
 simp [z6n,h]
theorem x4h:x8E [[97],[98],[99]]=true:=by decide
theorem x7N:x8E [[117],[118]]=true:=by decide
theorem y42:z5v [[121],[120],[103],[104]]=true:=by decide
theorem y71 {Y X G H:List Int} {n:Nat} (hn:n=min Y.length 10):y9D n (z95 Y X G H)=true:=by
 have hc:∀k∈z95 Y X G H,x1h k n=true:=by
  refine z3Q hn ?_ ?_ ?_ ?_
  ·unfold x1h;rw [y3h,y2A fun z=>x5b z rfl];rfl
  ·unfold x1h;rw [y3h,y2A fun z=>x5b z rfl];rfl
  ·unfold x1h;rw [y2g _ _ _ _ _ (by decide),x4h,y2O fun z=>x2f z 3 rfl rfl (by decide)];rfl
  ·unfold x1h;rw [y2g _ _ _ _ _ (by decide),x7N,y2O fun z=>x2f z 2 rfl rfl (by decide)];rfl
 unfold y9D
 rw [y6P,y42,List.all_eq_true.2 hc]
 simp only [Bool.and_true,Bool.and_eq_true,decide_eq_true_eq]
 refine ⟨⟨by omega,by omega⟩,?_⟩
 show 4≤32
 decide
end Nat32
namespace Nat32
open Go Go.Dat Go.RowKit Go.ChangeShapes Go.WideShapes Go.Joins Go.Deep
inductive Ty where
 | int (k:IntKind)
 | bool
 | str
 | sl (e:Ty)
 | unit
 | pair (f r:Ty)
def Ty.size:Ty→Nat
 | .unit=>0
 | .pair f r=>f.size+r.size
 | _=>1
def IsD:Ty→List DV→Prop
 | .int k,ds=>∃n,(Lit.int k n).wf=true∧ds=[.int k n]
 | .bool,ds=>∃b,ds=[.bool b]
 | .str,ds=>∃s:Bs,s.length≤9223372036854775807∧ds=[.str s]
 | .sl e,ds=>∃zs:List (List DV),(∀z∈zs,IsD e z)∧zs.length≤9223372036854775807∧ds=[.sl e.size zs.flatten]
 | .unit,ds=>ds=[]
 | .pair f r,ds=>∃a b,IsD f a∧IsD r b∧ds=a++b
theorem IsD.len:∀{τ:Ty} {ds:List DV},IsD τ ds→ds.length=τ.size
 | .int k,_,⟨_,_,h⟩=>by rw [h];rfl
 | .bool,_,⟨_,h⟩=>by rw [h];rfl
 | .str,_,⟨_,_,h⟩=>by rw [h];rfl
 | .sl e,_,⟨_,_,_,h⟩=>by rw [h];rfl
 | .unit,_,h=>by rw [show _=[] from h];rfl
 | .pair f r,_,⟨a,b,ha,hb,h⟩=>by rw [h,List.length_append,ha.len,hb.len];rfl
section
variable (P:Program)
def z9P:Ty→Sum TypeId (List Field × Nat)→Bool
 | .int k,.inl t=>match P.underlying t with|some (.int k')=>decide (k=k')|_=>false
 | .bool,.inl t=>match P.underlying t with|some .bool=>true|_=>false
 | .str,.inl t=>match P.underlying t with|some .string=>true|_=>false
 | .sl e,.inl t=>match P.underlying t with|some (.slice u)=>P.cellsOf u == e.size && e.size != 0 && z9P e (.inl u)|_=>false
 | .unit,.inr ([],_)=>true
 | .pair a r,.inl t=>match P.underlying t with
  | some (.struct fs)=>match fs.toList with
   | f::fs'=>f.offset == 0 && P.cellsOf f.type == a.size && P.cellsOf t == a.size+r.size && z9P a (.inl f.type) && z9P r (.inr (fs',a.size))
   | []=>false
  | _=>false
 | .pair a r,.inr (f::fs',off)=>f.offset == off && P.cellsOf f.type == a.size && z9P a (.inl f.type) && z9P r (.inr (fs',off+a.size))
 | _,_=>false
end
section
variable {H:Type} {enc:TypeId × Value→H} {P:Program} {w:World} {base:Nat} {spare:Nat→Bool} {held:Bool}
theorem y2T {α:Type} {n:Nat}:∀{zs:List (List α)},(∀z∈zs,z.length=n)→∀{k:Nat} {d:α},zs.flatten[k]? = some d→∃i j z,k=i*n+j∧j<n∧i<zs.length∧zs[i]? = some z∧z[j]? = some d
 | [],_,k,d,h=>by simp at h
 | z::zs,hz,k,d,h=>by
  have h0:=hz z (by simp)
  rw [List.flatten_cons,List.getElem?_append] at h
  split at h
  ·rename_i hlt
   exact ⟨0,k,z,by simp,by omega,by simp,rfl,h⟩
  ·rename_i hge
   obtain ⟨i,j,y,e1,e2,e3,e4,e5⟩:=y2T (fun y hy=>hz y (by simp [hy])) h
   refine ⟨i+1,j,y,?_,e2,by simp;exact e3,e4,e5⟩
   rw [Nat.add_mul];omega
theorem y5y {α:Type} {n:Nat}:∀{zs:List (List α)},(∀z∈zs,z.length=n)→zs.flatten.length=zs.length*n
 | [],_=>by simp
 | z::zs,hz=>by
  rw [List.flatten_cons,List.length_append,hz z (by simp),y5y (fun y hy=>hz y (by simp [hy])),List.length_cons,Nat.add_mul]
  omega
theorem x2o {α:Type} {p:Nat→α→Prop}:∀(n:Nat),(∀i,i<n→∃x,p i x)→∃l:List α,l.length=n∧∀i x,l[i]? = some x→p i x
 | 0,_=>⟨[],rfl,fun i x h=>by simp at h⟩
 | n+1,h=>by
  obtain ⟨l,h1,h2⟩:=x2o n fun i hi=>h i (by omega)
  obtain ⟨x,hx⟩:=h n (by omega)
  refine ⟨l++[x],by simp [h1],fun i y hy=>?_⟩
  rw [List.getElem?_append] at hy
  split at hy
  ·exact h2 i y hy
  ·rename_i hge
   have:i - l.length=0:=by
    rcases Nat.lt_or_ge (i - l.length) 1 with h|h
    ·omega
    ·rw [List.getElem?_eq_none (by simpa using h)] at hy;cases hy
   rw [this] at hy
   cases hy
   rw [show i=n by omega];exact hx
theorem y7K:∀(τ:Ty),(∀(t:TypeId) (n:Nat) (cs:List Value) (y:DataW H × List MemPlace),z9P P τ (.inl t)=true→DataW.trod enc P w base spare held n t cs=some y →
   ∃ ds,IsD τ ds∧cs.length=τ.size∧∀(k:Nat) d v,ds[k]? = some d→cs[k]? = some v→VI w (fun _=>False) d v) ∧
  (∀(fs:List Field) (off n:Nat) (cs:List Value),z9P P τ (.inr (fs,off))=true→(∀(i:Nat) f,fs[i]? = some f→∃y,DataW.trod enc P w base spare held n f.type ((cs.drop f.offset).take (P.cellsOf f.type))=some y) →
   ∃ ds,IsD τ ds∧∀(k:Nat) d v,ds[k]? = some d→cs[off+k]? = some v→VI w (fun _=>False) d v)
 | .int k=>by
  refine ⟨fun t n cs y hf hy=>?_,fun fs off n cs hf _=>by simp [z9P] at hf⟩
  simp only [z9P] at hf
  split at hf
  ·rename_i k' ht
   have e:k=k':=by simpa using hf
   subst e
   obtain ⟨z,rfl,hw,_⟩:=DataW.trod_int ht hy
   refine ⟨[.int k z],⟨z,by first|exact hw|exact hw.1|simp_all,rfl⟩,rfl,fun j d v h1 h2=>?_⟩
   match j with
   | 0=>simp at h1 h2;subst h1;subst h2;exact .int _ _
   | j+1=>simp at h1
  ·cases hf
 | .bool=>by
  refine ⟨fun t n cs y hf hy=>?_,fun fs off n cs hf _=>by simp [z9P] at hf⟩
  simp only [z9P] at hf
  split at hf
  ·rename_i ht
   obtain ⟨b,rfl,_⟩:=DataW.trod_bool ht hy
   refine ⟨[.bool b],⟨b,rfl⟩,rfl,fun j d v h1 h2=>?_⟩
   match j with
   | 0=>simp at h1 h2;subst h1;subst h2;exact .bool _
   | j+1=>simp at h1
  ·cases hf
 | .str=>by
  refine ⟨fun t n cs y hf hy=>?_,fun fs off n cs hf _=>by simp [z9P] at hf⟩
  simp only [z9P] at hf
  split at hf
  ·rename_i ht
   obtain ⟨s,rfl,_,hl⟩:=DataW.trod_string ht hy
   refine ⟨[.str s.data.toList],⟨_,by unfold maxLen at hl;simpa using hl,rfl⟩,rfl,fun j d v h1 h2=>?_⟩
   match j with
   | 0 =>
    simp at h1 h2;subst h1;subst h2
    have:(Value.string s)=.string ⟨s.data.toList.toArray⟩:=by cases s;simp
    rw [this];exact .str _
   | j+1=>simp at h1
  ·cases hf
 | .sl e=>by
  have ih:=y7K e
  refine ⟨fun t n cs y hf hy=>?_,fun fs off n cs hf _=>by simp [z9P] at hf⟩
  simp only [z9P] at hf
  split at hf
  ·rename_i u ht
   simp only [Bool.and_eq_true,beq_iff_eq,bne_iff_ne,ne_eq] at hf
   obtain ⟨⟨hc,h0⟩,hfe⟩:=hf
   have fin:∀(zs:List (List DV)) (v:Value),(∀z∈zs,IsD e z)→zs.length≤9223372036854775807→VI w (fun _=>False) (.sl e.size zs.flatten) v→cs=[v] →
     ∃ ds,IsD (.sl e) ds∧cs.length=Ty.size (.sl e)∧∀(k:Nat) d v,ds[k]? = some d→cs[k]? = some v→VI w (fun _=>False) d v:=by
    rintro zs v h1 h2 h3 rfl
    refine ⟨[.sl e.size zs.flatten],⟨zs,h1,h2,rfl⟩,rfl,fun j d v' g1 g2=>?_⟩
    match j with
    | 0=>simp at g1 g2;subst g1;subst g2;exact h3
    | j+1=>simp at g1
   rcases DataW.trod_slice ht hy with ⟨rfl,_⟩|⟨a,len,cap,elems,rest,m,_,rfl,_,hb,hl,hm,hlen,hcells,_,_⟩
   ·exact fin [] _ (fun z h=>by cases h) (Nat.zero_le _) (.sl0 _ _ _) rfl
   ·have each:∀i,i<len→∃(x:List DV × List Value),IsD e x.1∧x.2.length=e.size∧(∀j,j<e.size→w.cell? (a.add (i*e.size+j))=x.2[j]?)∧∀(k:Nat) d v,x.1[k]? = some d→x.2[k]? = some v→VI w (fun _=>False) d v:=fun i hi=>by
     have h1:=hcells i hi
     rw [hc] at h1
     obtain ⟨z,hz⟩:∃z,elems[i]? = some z:=⟨_,zO4 (by omega)⟩
     rw [hz,zO3] at h1
     obtain ⟨cs,h2,h3⟩:=h1
     obtain ⟨_,g2,g3⟩:=World.cells?_some h2
     obtain ⟨ds,k1,k2,k3⟩:=ih.1 u m cs z hfe h3
     refine ⟨(ds,cs),k1,g2,fun j hj=>?_,k3⟩
     rw [←g3 j hj,Dat.add_add]
    obtain ⟨l,hl1,hl2⟩:=x2o len each
    have hzl:∀z∈l.map (·.1),z.length=e.size:=fun z hz=>by
     obtain ⟨x,hx,rfl⟩:=List.mem_map.1 hz
     obtain ⟨i,hi⟩:=List.mem_iff_getElem?.1 hx
     exact (hl2 i x hi).1.len
    refine fin (l.map (·.1)) (.slice (some a) len cap) (fun z hz=>?_) (by rw [List.length_map,hl1];unfold maxLen at hm;omega) ?_ rfl
    ·obtain ⟨x,hx,rfl⟩:=List.mem_map.1 hz
     obtain ⟨i,hi⟩:=List.mem_iff_getElem?.1 hx
     exact (hl2 i x hi).1
    ·by_cases hz:len=0
     ·have:l=[]:=List.eq_nil_of_length_eq_zero (by omega)
      subst this
      subst hz
      exact .sl0 _ _ _
     ·have hfl:=y5y hzl
      rw [List.length_map,hl1] at hfl
      have hpos:0<len*e.size:=Nat.mul_pos (Nat.pos_of_ne_zero hz) (Nat.pos_of_ne_zero h0)
      refine .sl (fun k=>(w.cell? (a.add k)).getD undef) (fun e'=>?_) hfl hl (fun h=>h) (fun k d hk=>?_) (fun k d hk=>?_)
      ·rw [e'] at hfl;simp at hfl;omega
      ·obtain ⟨i,j,z,rfl,hj,hi,hzi,hzj⟩:=y2T hzl hk
       rw [List.getElem?_map,zO2] at hzi
       obtain ⟨x,hx,rfl⟩:=hzi
       obtain ⟨x1,x2,x3,x4⟩:=hl2 i x hx
       obtain ⟨v,hv⟩:=z0P (l:=x.2) (k:=j) (by omega)
       rw [x3 j hj,hv];rfl
      ·obtain ⟨i,j,z,rfl,hj,hi,hzi,hzj⟩:=y2T hzl hk
       rw [List.getElem?_map,zO2] at hzi
       obtain ⟨x,hx,rfl⟩:=hzi
       obtain ⟨x1,x2,x3,x4⟩:=hl2 i x hx
       obtain ⟨v,hv⟩:=z0P (l:=x.2) (k:=j) (by omega)
       rw [x3 j hj,hv]
       exact x4 j d v hzj hv
  ·cases hf
 | .unit=>by
  refine ⟨fun t n cs y hf hy=>by simp [z9P] at hf,fun fs off n cs hf _=>⟨[],rfl,fun k d v h1 _=>by simp at h1⟩⟩
 | .pair f r=>by
  have iha:=y7K f
  have ihr:=y7K r
  have join:∀(g:Field) (fs':List Field) (off n:Nat) (cs:List Value),g.offset=off→P.cellsOf g.type=f.size→z9P P f (.inl g.type)=true→z9P P r (.inr (fs',off+f.size))=true →
    (∀(i:Nat) h,(g::fs')[i]? = some h→∃y,DataW.trod enc P w base spare held n h.type ((cs.drop h.offset).take (P.cellsOf h.type))=some y) →
    ∃ ds,IsD (.pair f r) ds∧∀(k:Nat) d v,ds[k]? = some d→cs[off+k]? = some v→VI w (fun _=>False) d v:=by
   intro g fs' off n cs e1 e2 e3 e4 hall
   obtain ⟨y,hy⟩:=hall 0 g rfl
   obtain ⟨da,a1,a2,a3⟩:=iha.1 _ _ _ _ e3 hy
   obtain ⟨dr,b1,b2⟩:=ihr.2 fs' (off+f.size) n cs e4 fun i h hi=>hall (i+1) h hi
   refine ⟨da++dr,⟨da,dr,a1,b1,rfl⟩,fun k d v h1 h2=>?_⟩
   rw [List.getElem?_append] at h1
   have hlen:=a1.len
   split at h1
   ·rename_i hlt
    refine a3 k d v h1 ?_
    rw [e1,e2,List.getElem?_take,if_pos (by omega),List.getElem?_drop];exact h2
   ·rename_i hge
    refine b2 (k - da.length) d v h1 ?_
    rw [show off+f.size+(k - da.length)=off+k by omega];exact h2
  refine ⟨fun t n cs y hf hy=>?_,fun fs off n cs hf hall=>?_⟩
  ·simp only [z9P] at hf
   split at hf
   ·rename_i fs ht
    split at hf
    ·rename_i g fs' hfs
     simp only [Bool.and_eq_true,beq_iff_eq] at hf
     obtain ⟨⟨⟨⟨e1,e2⟩,e3⟩,e4⟩,e5⟩:=hf
     obtain ⟨xs,m,_,_,hlc,hxl,hget⟩:=DataW.trod_struct ht hy
     obtain ⟨ds,h1,h2⟩:=join g fs' 0 m cs e1 e2 e4 (by rw [Nat.zero_add];exact e5) fun i h hi=>by
      have hi':fs[i]? = some h:=by rw [←Array.getElem?_toList,hfs];exact hi
      have hlt:i<xs.length:=by rw [hxl];exact (Array.getElem?_eq_some_iff.1 hi').1
      exact ⟨xs[i],by rw [hget i h hi',zO4 hlt]⟩
     exact ⟨ds,h1,hlc.trans e3,fun k d v g1 g2=>h2 k d v g1 (by rw [Nat.zero_add];exact g2)⟩
    ·cases hf
   ·cases hf
  ·cases fs with
   | nil=>simp [z9P] at hf
   | cons g fs' =>
    simp only [z9P,Bool.and_eq_true,beq_iff_eq] at hf
    obtain ⟨⟨⟨e1,e2⟩,e4⟩,e5⟩:=hf
    exact join g fs' off n cs e1 e2 e4 e5 hall
theorem vi_D {r:Reach} {b0:Nat} {t:TypeId} {v:Value} {d:DataW H} {p:List MemPlace} {a b:Ty} (hf:z9P P (.pair a b) (.inl t)=true)
  (hv:Value.okWide P w r b0 t v) (h:DataW.Trod enc P w base spare held t v d p):∃ds,IsD (.pair a b) ds∧VI w (fun _=>False) (.agg ds) v:=by
 obtain ⟨fuel,hfu⟩:=h
 have hs:∃fs,P.underlying t=some (.struct fs):=by
  simp only [z9P] at hf
  split at hf
  ·rename_i fs ht;exact ⟨fs,ht⟩
  ·cases hf
 obtain ⟨fs,ht⟩:=hs
 obtain ⟨cs,rfl,_⟩:=okWide_struct ht hv
 obtain ⟨ds,h1,h2,h3⟩:=(y7K (.pair a b)).1 t fuel _ _ hf hfu
 have hcs:(Value.agg cs).cells.toList=cs.toList:=by simp [Value.cells]
 rw [hcs] at h2 h3
 exact ⟨ds,h1,.agg (by rw [h1.len,←h2];simp) fun k d v g1 g2=>h3 k d v g1 (by simpa using g2)⟩
end
end Nat32
