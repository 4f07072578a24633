/- Lemmas of the walk; no conditions beyond those that each states. -/
import Derived.WalkKit
import Derived.Carry
import Derived.OpenShut
import Derived.Below
import Derived.Lib.SmallJoins
import Derived.Lib.Bytealg
import Derived.Lib.IndexAny
import Derived.Lib.TrimByte
import Derived.Lib.Strings
import Derived.Test.YtlcagndeidjobaaGreatDoorD3
import Derived.Test.YtlcagndeidjobaaGreatDoorT2
import Derived.Test.YtlcagndeidjobaaGreatDoorN1
import Derived.Test.YtlcagndeidjobaaGreatDoorD4
import Derived.Test.YtlcagndeidjobaaGreatDoorC2
import Derived.Test.YtlcagndeidjobaaGreatDoorD5
import Derived.Test.YtlcagndeidjobaaGreatDoorT1
import Derived.Test.YtlcagndeidjobaaGreatDoorC1
set_option linter.unusedSimpArgs false
set_option linter.unusedVariables false
set_option linter.unnecessarySimpa false
set_option maxHeartbeats 4000000
namespace Go.Proofs.YtlcagndeidjobaaGreatDoor
open Tryz
open Go Go.Dat Go.Proofs Go.RowKit Nat32
theorem y7x (k:Kx) (x:Tc) (hx:y8q x.va):z0c prog 202 [.agg (kxC k),.agg (cxC x)] (.bool (y8R k x)):=by
 obtain ⟨u1,u2,u3,u4⟩:=hx
 have cv:z0c prog 158 [.agg (xnC x.va)] (.bool (z5p x.va.1 x.va.2.1 x.va.2.2)):=z4y _ _ _ (by omega) (by omega) u1 u2
 have cs:z0c prog 234 [.agg (xnC x.va)] (.int .i64 (xnV x.va).num.sign):=z9j _ _ _ (by omega) (by omega) u1 u2
 have hck:(DV.agg (kxC k)).cells? = some (kxC k):=rfl
 have hcx:(DV.agg (cxC x)).cells? = some (cxC x):=rfl
 have l4:=z0L k
 have l5:=z1C x
 have n0:(cxC x).getD 0 .undef=.bool x.mi:=rfl
 have n1:((cxC x).drop 1).take 3=xnC x.va:=rfl
 have n4:(cxC x).getD 4 .undef=.int .i64 x.lv:=rfl
 have m1:(kxC k).getD 1 .undef=.int .i64 k.kd:=rfl
 have m2:(kxC k).getD 2 .undef=.sl 1 (z0D k.le):=rfl
 have hll:=z0z k.le
 refine z0b x8L (by simp [x1u]) ?_
 unfold y3S y8R w0N
 have hlv:decide (x.lv<(k.le.length:Int))=decide (x.lv<k.le.length):=rfl
 generalize z5p x.va.1 x.va.2.1 x.va.2.2=v at *
 generalize (xnV x.va).num.sign=z at *
 obtain ⟨bz,dz⟩:∃b,decide (z=0)=b:=⟨_,rfl⟩
 obtain ⟨b1,d1⟩:∃b,decide (k.kd=1)=b:=⟨_,rfl⟩
 obtain ⟨b0,d0⟩:∃b,decide (0≤x.lv)=b:=⟨_,rfl⟩
 obtain ⟨bl,dl⟩:∃b,decide (x.lv=0)=b:=⟨_,rfl⟩
 have hk1:(if k.kd=1 then v && decide (x.lv=0) else (v && decide (z=0)) && decide (0≤x.lv) && decide (x.lv<k.le.length))=if b1=true then v && bl else (v && bz) && b0 && decide (x.lv<k.le.length):=by
  rw [←d1,dz,d0,dl]
  by_cases h:k.kd=1<;>simp [h]
 rw [hk1,dz,dl]
 cases hm:x.mi
 all_goals rw [hm] at n0
 ·have hif:(if (false:Bool)=true then (v && bz) && bl else (if b1=true then v && bl else (v && bz) && b0 && decide (x.lv<k.le.length)))=(if b1=true then v && bl else (v && bz) && b0 && decide (x.lv<k.le.length)):=rfl
  rw [hif]
  cases b1
  ·have hi2:(if (false:Bool)=true then v && bl else (v && bz) && b0 && decide (x.lv<k.le.length))=((v && bz) && b0 && decide (x.lv<k.le.length)):=rfl
   rw [hi2]
   cases v
   ·refine zS (zA hck (zA hcx (zA l4 (zA l5 (zA n0 (zA n1 (zA n4 (zA m1 (zA m2 (zA hll (zA dz (zA d1 (zA d0 (zA dl (zA @cS @List.drop_zero.{0}))))))))))))))) ?_
    refine cP cv ?_
    refine zS (zA hck (zA hcx (zA l4 (zA l5 (zA n0 (zA n1 (zA n4 (zA m1 (zA m2 (zA hll (zA dz (zA d1 (zA d0 (zA dl (zA @cS @List.drop_zero.{0}))))))))))))))) ?_
    refine wF ?_
    refine zS (zA hck (zA hcx (zA l4 (zA l5 (zA n0 (zA n1 (zA n4 (zA m1 (zA m2 (zA hll (zA dz (zA d1 (zA d0 (zA dl (zA @cS @List.drop_zero.{0}))))))))))))))) ?_
    refine wFs ?_
    refine zS (zA hck (zA hcx (zA l4 (zA l5 (zA n0 (zA n1 (zA n4 (zA m1 (zA m2 (zA hll (zA dz (zA d1 (zA d0 (zA dl (zA @cS @List.drop_zero.{0}))))))))))))))) ?_
    exact z0j (z0i (.imm rfl))
   ·cases bz<;>cases b0
    all_goals
     refine zS (zA hck (zA hcx (zA l4 (zA l5 (zA n0 (zA n1 (zA n4 (zA m1 (zA m2 (zA hll (zA dz (zA d1 (zA d0 (zA dl (zA @cS @List.drop_zero.{0}))))))))))))))) ?_
     refine cP cv ?_
     refine zS (zA hck (zA hcx (zA l4 (zA l5 (zA n0 (zA n1 (zA n4 (zA m1 (zA m2 (zA hll (zA dz (zA d1 (zA d0 (zA dl (zA @cS @List.drop_zero.{0}))))))))))))))) ?_
     refine cP cs ?_
     refine zS (zA hck (zA hcx (zA l4 (zA l5 (zA n0 (zA n1 (zA n4 (zA m1 (zA m2 (zA hll (zA dz (zA d1 (zA d0 (zA dl (zA @cS @List.drop_zero.{0}))))))))))))))) ?_
     refine wF ?_
     refine zS (zA hck (zA hcx (zA l4 (zA l5 (zA n0 (zA n1 (zA n4 (zA m1 (zA m2 (zA hll (zA dz (zA d1 (zA d0 (zA dl (zA @cS @List.drop_zero.{0}))))))))))))))) ?_
     refine wFs ?_
     refine zS (zA hck (zA hcx (zA l4 (zA l5 (zA n0 (zA n1 (zA n4 (zA m1 (zA m2 (zA hll (zA dz (zA d1 (zA d0 (zA dl (zA @cS @List.drop_zero.{0}))))))))))))))) ?_
     exact z0j (z0i (.imm rfl))
  ·have hi2:(if (true:Bool)=true then v && bl else (v && bz) && b0 && decide (x.lv<k.le.length))=(v && bl):=rfl
   rw [hi2]
   cases v
   ·refine zS (zA hck (zA hcx (zA l4 (zA l5 (zA n0 (zA n1 (zA n4 (zA m1 (zA m2 (zA hll (zA dz (zA d1 (zA d0 (zA dl (zA @cS @List.drop_zero.{0}))))))))))))))) ?_
    refine cP cv ?_
    refine zS (zA hck (zA hcx (zA l4 (zA l5 (zA n0 (zA n1 (zA n4 (zA m1 (zA m2 (zA hll (zA dz (zA d1 (zA d0 (zA dl (zA @cS @List.drop_zero.{0}))))))))))))))) ?_
    refine wF ?_
    refine zS (zA hck (zA hcx (zA l4 (zA l5 (zA n0 (zA n1 (zA n4 (zA m1 (zA m2 (zA hll (zA dz (zA d1 (zA d0 (zA dl (zA @cS @List.drop_zero.{0}))))))))))))))) ?_
    refine wT ?_
    refine zS (zA hck (zA hcx (zA l4 (zA l5 (zA n0 (zA n1 (zA n4 (zA m1 (zA m2 (zA hll (zA dz (zA d1 (zA d0 (zA dl (zA @cS @List.drop_zero.{0}))))))))))))))) ?_
    refine cP cv ?_
    refine zS (zA hck (zA hcx (zA l4 (zA l5 (zA n0 (zA n1 (zA n4 (zA m1 (zA m2 (zA hll (zA dz (zA d1 (zA d0 (zA dl (zA @cS @List.drop_zero.{0}))))))))))))))) ?_
    exact z0j (z0i (.imm rfl))
   ·refine zS (zA hck (zA hcx (zA l4 (zA l5 (zA n0 (zA n1 (zA n4 (zA m1 (zA m2 (zA hll (zA dz (zA d1 (zA d0 (zA dl (zA @cS @List.drop_zero.{0}))))))))))))))) ?_
    refine cP cv ?_
    refine zS (zA hck (zA hcx (zA l4 (zA l5 (zA n0 (zA n1 (zA n4 (zA m1 (zA m2 (zA hll (zA dz (zA d1 (zA d0 (zA dl (zA @cS @List.drop_zero.{0}))))))))))))))) ?_
    refine cP cs ?_
    refine zS (zA hck (zA hcx (zA l4 (zA l5 (zA n0 (zA n1 (zA n4 (zA m1 (zA m2 (zA hll (zA dz (zA d1 (zA d0 (zA dl (zA @cS @List.drop_zero.{0}))))))))))))))) ?_
    refine wF ?_
    refine zS (zA hck (zA hcx (zA l4 (zA l5 (zA n0 (zA n1 (zA n4 (zA m1 (zA m2 (zA hll (zA dz (zA d1 (zA d0 (zA dl (zA @cS @List.drop_zero.{0}))))))))))))))) ?_
    refine wT ?_
    refine zS (zA hck (zA hcx (zA l4 (zA l5 (zA n0 (zA n1 (zA n4 (zA m1 (zA m2 (zA hll (zA dz (zA d1 (zA d0 (zA dl (zA @cS @List.drop_zero.{0}))))))))))))))) ?_
    refine cP cv ?_
    refine zS (zA hck (zA hcx (zA l4 (zA l5 (zA n0 (zA n1 (zA n4 (zA m1 (zA m2 (zA hll (zA dz (zA d1 (zA d0 (zA dl (zA @cS @List.drop_zero.{0}))))))))))))))) ?_
    exact z0j (z0i (.imm rfl))
 ·have hif:(if (true:Bool)=true then (v && bz) && bl else (if b1=true then v && bl else (v && bz) && b0 && decide (x.lv<k.le.length)))=((v && bz) && bl):=rfl
  rw [hif]
  cases v
  ·refine zS (zA hck (zA hcx (zA l4 (zA l5 (zA n0 (zA n1 (zA n4 (zA m1 (zA m2 (zA hll (zA dz (zA d1 (zA d0 (zA dl (zA @cS @List.drop_zero.{0}))))))))))))))) ?_
   refine cP cv ?_
   refine zS (zA hck (zA hcx (zA l4 (zA l5 (zA n0 (zA n1 (zA n4 (zA m1 (zA m2 (zA hll (zA dz (zA d1 (zA d0 (zA dl (zA @cS @List.drop_zero.{0}))))))))))))))) ?_
   refine wT ?_
   refine zS (zA hck (zA hcx (zA l4 (zA l5 (zA n0 (zA n1 (zA n4 (zA m1 (zA m2 (zA hll (zA dz (zA d1 (zA d0 (zA dl (zA @cS @List.drop_zero.{0}))))))))))))))) ?_
   exact z0j (z0i (.imm rfl))
  ·cases bz
   all_goals
    refine zS (zA hck (zA hcx (zA l4 (zA l5 (zA n0 (zA n1 (zA n4 (zA m1 (zA m2 (zA hll (zA dz (zA d1 (zA d0 (zA dl (zA @cS @List.drop_zero.{0}))))))))))))))) ?_
    refine cP cv ?_
    refine zS (zA hck (zA hcx (zA l4 (zA l5 (zA n0 (zA n1 (zA n4 (zA m1 (zA m2 (zA hll (zA dz (zA d1 (zA d0 (zA dl (zA @cS @List.drop_zero.{0}))))))))))))))) ?_
    refine cP cs ?_
    refine zS (zA hck (zA hcx (zA l4 (zA l5 (zA n0 (zA n1 (zA n4 (zA m1 (zA m2 (zA hll (zA dz (zA d1 (zA d0 (zA dl (zA @cS @List.drop_zero.{0}))))))))))))))) ?_
    refine wT ?_
    refine zS (zA hck (zA hcx (zA l4 (zA l5 (zA n0 (zA n1 (zA n4 (zA m1 (zA m2 (zA hll (zA dz (zA d1 (zA d0 (zA dl (zA @cS @List.drop_zero.{0}))))))))))))))) ?_
    exact z0j (z0i (.imm rfl))
theorem y0c (l:List Tc) (hl:l.length≤1000000) (p:Tc→Bool) (v:DV) (g:Nat) (cs:List DV) (hv:z6z v g cs) (hcs:cs.all DV.rf=true) (hg:z0X prog g) (hc:∀f∈l,z0c prog g ([.agg (cxC f)]++cs) (.bool (p f))):z0c prog 241 [.sl 5 (cxs l),v] (.int .i64 (ixP p l)):=by
 have hln:(cxs l).length / 5=l.length:=by rw [z1V];omega
 have hlen:=z1V l
 refine z0b x0i (by simp [y0I]) ?_
 unfold z7E
 refine zS hln ?_
 refine z0s (σ:=Nat) (fun i=>[(0,.sl 5 (cxs l)),(1,v),(7,.int .i64 l.length),(8,.int .i64 i)]) (fun _=>[]) (fun i=>i≤l.length∧∀j,j<i→p (l.getD j default)=false) (fun i=>l.length - i) 0 ⟨Nat.zero_le _,by simp⟩ ?_ rfl ?_
 ·simp [z0v,lk]
 ·rintro i ⟨hi,hall⟩
  try simp only at hi hall ⊢
  by_cases hlt:i<l.length
  ·have dl:decide ((i:Int)<(l.length:Int))=true:=zT9
   have ei:(i:Int).toNat=i:=Int.toNat_natCast i
   have e1:((i:Int)+1)=((i+1:Nat):Int):=by omega
   have hw:((cxs l).drop (i*5)).take 5=cxC (l.getD i default):=z1a (j:=0) z1C default hlt (Nat.le_refl _)
   have cf:=hc _ (z4a hlt)
   have hb6:i*5+5≤(cxs l).length:=by omega
   refine zS dl ?_
   refine wTs ?_
   refine z0d ?_
   refine z0e ?_
   refine z0d ?_
   refine z0g ?_
   refine zD ?_
   refine z0d ?_
   refine z3J [om 11 1,om 12 0,om 13 5,ot 14 (.iad 5 (.t 12) (.t 13)),ot 15 (.ldn 5 (.t 14))] [] (.x 16) (.t 11) [.t 15] rfl ?_
   refine zE (zA ei (zA hlen hw)) ?_
   refine ⟨⟨by omega,by omega⟩,by omega,g,cs,hv,hg,z1K cf (by rw [List.all_append,hcs];rfl) ?_⟩
   cases hp:p (l.getD i default)
   ·have hnx:∀j,j<i+1→p (l.getD j default)=false:=fun j hj=>by
     rcases Nat.lt_or_ge j i with h|h
     ·exact hall j h
     ·obtain rfl:j=i:=by omega
      exact hp
    refine zR ?_
    refine wFs ?_
    refine zS e1 ?_
    exact ⟨i+1,⟨by omega,hnx⟩,by omega,by simp [z0v,lk]⟩
   ·have hx:=y4h default hlt hp hall
    rw [hx]
    refine zR ?_
    refine wT ?_
    refine zR ?_
    exact z0j (z0i (.imm rfl))
  ·have dl:decide ((i:Int)<(l.length:Int))=false:=zF9
   rw [y3P default fun j hj=>hall j (by omega)]
   refine zS dl ?_
   refine z0k rfl (fun h=>by cases h) (fun _=>z0q ?_)
   refine zR ?_
   exact z0j (z0i (.imm rfl))
theorem y0s (l:List Tc) (hl:l.length≤1000000) (p:Tc→Bool) (v:DV) (g:Nat) (cs:List DV) (hv:z6z v g cs) (hvr:v.rf=true) (hcs:cs.all DV.rf=true) (hg:z0X prog g) (hc:∀f∈l,z0c prog g ([.agg (cxC f)]++cs) (.bool (p f))):z0c prog 200 [.sl 5 (cxs l),v] (.bool (l.any p)):=by
 have ci:=y0c l hl p v g cs hv hcs hg hc
 have ha:=y3p p l
 have hrf:List.all [DV.sl 5 (cxs l),v] DV.rf=true:=by rw [List.all_cons,List.all_cons,hvr];rfl
 refine z0b x0b (by simp [y1y]) ?_
 unfold z7y
 generalize ixP p l=k at *
 generalize l.any p=b at *
 refine zR ?_
 refine z0C ci hrf ?_
 refine zS ha ?_
 exact z0j (z0i (.imm rfl))
theorem z5T (l:List Kx) (hl:l.length≤1000000) (p:Kx→Bool) (v:DV) (g:Nat) (cs:List DV) (hv:z6z v g cs) (hvr:v.rf=true) (hcs:cs.all DV.rf=true) (hg:z0X prog g) (hc:∀f∈l,z0c prog g ([.agg (kxC f)]++cs) (.bool (p f))):z0c prog 140 [.sl 4 (kxs l),v] (.bool (l.any p)):=by
 have ci:=y16 l hl p v g cs hv hcs hg hc
 have ha:=y3p p l
 have hrf:List.all [DV.sl 4 (kxs l),v] DV.rf=true:=by rw [List.all_cons,List.all_cons,hvr];rfl
 refine z0b x1q (by simp [y5b]) ?_
 unfold z8x
 generalize ixP p l=k at *
 generalize l.any p=b at *
 refine zR ?_
 refine z0C ci hrf ?_
 refine zS ha ?_
 exact z0j (z0i (.imm rfl))
theorem z2S (n:Int) (l:List Kx) (hl:l.length≤1000000):z0c prog 139 [.agg [.int .i64 n,.sl 4 (kxs l)]] (.sl 1 (z0D (z1g l))):=by
 have hln:(kxs l).length / 4=l.length:=by rw [z1B];omega
 have hlen:=z1B l
 have hca:(DV.agg [.int .i64 n,.sl 4 (kxs l)]).cells? = some [.int .i64 n,.sl 4 (kxs l)]:=rfl
 refine z0b y64 (by simp [z9X]) ?_
 unfold z5B
 refine zS hca ?_
 refine z5Z 3 1 200 rfl (by simp [lkH]) ?_
 refine zS (zA hln @cS) ?_
 refine z0s (σ:=Nat) (fun i=>[(3,.osl 1 200 0 i),(7,.sl 4 (kxs l)),(8,.int .i64 l.length),(9,.int .i64 i)]) (fun i=>[(1,[.int .i64 n,.sl 4 (kxs l)]),(200,z0D ((z1g l).take i))]) (fun i=>i≤l.length) (fun i=>l.length - i) 0 (Nat.zero_le _) ?_ rfl ?_
 ·simp [z0v,lk]
 ·intro i hi
  try simp only at hi ⊢
  by_cases hlt:i<l.length
  ·have dl:decide ((i:Int)<(l.length:Int))=true:=zT9
   have ei:(i:Int).toNat=i:=Int.toNat_natCast i
   have e1:((i:Int)+1)=((i+1:Nat):Int):=by omega
   have hw:((kxs l).drop (i*4)).take 4=kxC (l.getD i default):=z1a (j:=0) z0L default hlt (Nat.le_refl _)
   have htk:z0D ((z1g l).take i)++[.str (l.getD i default).nm]=z0D ((z1g l).take (i+1)):=by
    unfold z0D
    rw [List.take_add_one,List.map_append]
    unfold z1g
    rw [List.getElem?_map,zO4 hlt,zO1,zO4 hlt]
    rfl
   have hl1:(z0D ((z1g l).take i)).length=i:=by rw [z0z,List.length_take,z0Y];omega
   have hpg:=z0h 200 (List.all_eq_true.1 (z8B ((z1g l).take (i+1))))
   have hfz:=z0N 5 (kxC (l.getD i default)) (List.all_eq_true.1 (z8B ((z1g l).take (i+1))))
   have hpF:=z0h 200 (z12 (l.getD i default))
   have hcl:=z0L (l.getD i default)
   have htf:(kxC (l.getD i default)).take 4=kxC (l.getD i default):=rfl
   have hg0:(kxC (l.getD i default)).getD 0 .undef=.str (l.getD i default).nm:=rfl
   have hone:((kxC (l.getD i default)).all DV.one)=true:=List.all_eq_true.2 (y19 _)
   have hrf:=z12 (l.getD i default)
   have hrfa:((kxC (l.getD i default)).all DV.rf)=true:=List.all_eq_true.2 hrf
   generalize z0D ((z1g l).take i)=Y at *
   generalize hZ:z0D ((z1g l).take (i+1))=Z at *
   generalize (l.getD i default).nm=nm at *
   generalize kxC (l.getD i default)=C at *
   refine zS dl ?_
   refine wTs ?_
   refine zS (zA ei (zA hw (zA hlen (zA hone (zA hcl (zA htf (zA @List.drop_zero.{0} (zA @cS hg0)))))))) ?_
   refine ⟨by simp [DV.rf],⟨hl1,by omega,by omega,fun h=>h,by simp [DV.one]⟩,?_⟩
   rw [htk,hpg,hpF]
   refine z0E 5 (cells:=C) rfl hrfa ?_
   refine zS (zA e1 hfz) ?_
   exact ⟨i+1,by omega,by omega,by simp [z0v,lk,z1q],by rw [hZ]⟩
  ·have dl:decide ((i:Int)<(l.length:Int))=false:=zF9
   obtain rfl:i=l.length:=by omega
   have htl:(z1g l).take l.length=z1g l:=List.take_of_length_le (by rw [z0Y];exact Nat.le_refl _)
   rw [htl]
   have hrf:=z8B (z1g l)
   have hsl:(z0D (z1g l)).length=l.length:=by rw [z0z,z0Y]
   generalize z0D (z1g l)=Z at *
   refine z0E 200 (cells:=Z) rfl hrf ?_
   have hfz:frz 200 Z (.osl 1 200 0 l.length)=.sl 1 Z:=by
    simp [frz,hsl]
    rw [List.take_of_length_le (by omega)]
   refine zS (zA dl hfz) ?_
   refine z0k rfl (fun h=>by cases h) (fun _=>z0q ?_)
   refine zR ?_
   exact z0j (z0i (.imm rfl))
theorem y0j (k:Kx) (x:Tc) (hx:y8q x.va):z0c prog 201 [.agg (cxC x),.el (kxC k) 0] (.bool (!y8R k x)):=by
 have cf:=y7x k x hx
 have hcx:(DV.agg (cxC x)).cells? = some (cxC x):=rfl
 have l4:=z0L k
 have l5:=z1C x
 have t4:(kxC k).take 4=kxC k:=rfl
 have t5:(cxC x).take 5=cxC x:=rfl
 refine z0b x0j (by simp [y1b]) ?_
 unfold z68
 refine zS (zA hcx (zA l4 (zA l5 (zA t4 (zA t5 (zA @cS @List.drop_zero.{0})))))) ?_
 refine z0C cf (by simp [DV.rf_agg,List.all_eq_true.2 (z12 k),List.all_eq_true.2 (z90 x)]) ?_
 refine zR ?_
 exact z0j (z0i (.imm rfl))
theorem x9e:z0X prog 201:=⟨_,func201,by kernel_rfl,by kernel_rfl⟩
theorem x8I:z0X prog 141:=⟨_,func141,by kernel_rfl,by kernel_rfl⟩
theorem x0w (k:Kx) (n:Int) (hk1:k.le.length≤1000000) (hk2:k.ce.length≤1000000) (hk:∀c∈k.ce,y8q c.va):z0c prog 142 [.agg (kxC k),.int .i64 n] (.bool (x1h k n)):=by
 have hck:(DV.agg (kxC k)).cells? = some (kxC k):=rfl
 have l4:=z0L k
 have m1:(kxC k).getD 1 .undef=.int .i64 k.kd:=rfl
 have m2:(kxC k).getD 2 .undef=.sl 1 (z0D k.le):=rfl
 have m3:(kxC k).getD 3 .undef=.sl 5 (cxs k.ce):=rfl
 have hll:=z0z k.le
 have hcl:(cxs k.ce).length / 5=k.ce.length:=by rw [z1V];omega
 have hCrf:=z12 k
 have hCa:(kxC k).all DV.rf=true:=List.all_eq_true.2 hCrf
 have hone:(kxC k).all DV.one=true:=List.all_eq_true.2 (y19 k)
 have cc:=y0s k.ce hk2 (fun x=>!y8R k x) (.clo 201 [.el (kxC k) 0]) 201 [.el (kxC k) 0] (.inl rfl) (by simp [DV.rf]) rfl x9e (fun x hx=>y0j k x (hk x hx))
 rw [y17] at cc
 have hne:kxC k≠[]:=by unfold kxC;simp
 generalize hC:kxC k=C at *
 obtain ⟨b1,d1⟩:∃b,decide (k.kd=1)=b:=⟨_,rfl⟩
 obtain ⟨b2,d2⟩:∃b,decide (k.kd=2)=b:=⟨_,rfl⟩
 obtain ⟨bl,dl⟩:∃b,decide (0<k.le.length)=b:=⟨_,rfl⟩
 obtain ⟨bm,dm⟩:∃b,decide (k.le.length≤32)=b:=⟨_,rfl⟩
 obtain ⟨bn,dn⟩:∃b,decide ((k.ce.length:Int)=n)=b:=⟨_,rfl⟩
 have e1:decide (¬k.kd=1)=!b1:=by rw [←d1];simp
 have e2:decide (¬k.kd=2)=!b2:=by rw [←d2];simp
 have el:decide ((0:Int)<(k.le.length:Int))=bl:=by rw [←dl];exact decide_eq_decide.2 (by omega)
 have em:decide ((32:Int)<(k.le.length:Int))=!bm:=by rw [←dm];by_cases h:k.le.length≤32<;>simp [h]<;>omega
 have en:decide (¬(k.ce.length:Int)=n)=!bn:=by rw [←dn];simp
 refine z0b w2x (by simp [x7A]) ?_
 unfold y79 x1h
 have hsh:x1i k n=((b1 || b2) && !(b1 && bl) && bm && bn):=by unfold x1i;rw [d1,d2,dl,dm,dn]
 rw [hsh]
 refine zS (zA hck (zA hone @cS)) ?_
 refine ⟨⟨hne,hCrf⟩,?_⟩
 by_cases hb:((b1 || b2) && !(b1 && bl) && bm && bn)=true
 ·rw [hb,Bool.true_and]
  cases b1<;>cases b2<;>cases bl<;>cases bm<;>cases bn
  all_goals first
   | (exact absurd hb (by decide))
   | skip
  all_goals
   clear hb hsh
   refine zS (zA hck (zA hone (zA l4 (zA m1 (zA m2 (zA m3 (zA hll (zA hcl (zA d1 (zA e1 (zA e2 (zA el (zA em (zA en (zA @cS (zA @Bool.not_true @Bool.not_false)))))))))))))))) ?_
   refine wFs ?_
   clear d1 d2 dl dm dn e1 e2 el em en
   refine zS (zA l4 (zA m2 hll)) ?_
   refine z0s (σ:=Nat) (fun i=>[(2,.el C 0),(40,.sl 1 (z0D k.le)),(41,.int .i64 k.le.length),(42,.int .i64 i)]) (fun _=>[]) (fun i=>i≤k.le.length∧∀j,j<i→ixS (k.le.take j) (k.le.getD j [])<0) (fun i=>k.le.length - i) 0 ⟨Nat.zero_le _,by simp⟩ ?_ rfl ?_
   ·simp [z0v,lk]
   ·rintro i ⟨hi,hall⟩
    try simp only at hi hall ⊢
    by_cases hlt:i<k.le.length
    ·have dl:decide ((i:Int)<(k.le.length:Int))=true:=zT9
     have ei:(i:Int).toNat=i:=Int.toNat_natCast i
     have e1:((i:Int)+1)=((i+1:Nat):Int):=by omega
     have hg:=z0Q hlt
     have hts:(z0D k.le).take i=z0D (k.le.take i):=by unfold z0D;rw [List.map_take]
     have cx:=z3u (k.le.take i) (k.le.getD i []) (by rw [List.length_take];omega)
     have hno:=@x3c k.le i hlt
     generalize hT:z0D (k.le.take i)=T at *
     refine zS dl ?_
     refine wTs ?_
     refine zS (zA ei (zA hg (zA hll (zA l4 (zA m2 (zA hts (zA @Nat.mul_one (zA @Nat.zero_mul (zA @List.drop_zero.{0} @Nat.div_one))))))))) ?_
     refine cP cx ?_
     by_cases hx:ixS (k.le.take i) (k.le.getD i [])<0
     ·have dx:decide (0≤ixS (k.le.take i) (k.le.getD i []))=false:=zF9
      refine zS dx ?_
      refine wFs ?_
      refine zS e1 ?_
      exact ⟨i+1,⟨by omega,fun j hj=>by
       rcases Nat.lt_or_ge j i with h2|h2
       ·exact hall j h2
       ·obtain rfl:j=i:=by omega
        exact hx⟩,by omega,by simp [z0v,lk]⟩
     ·have dx:decide (0≤ixS (k.le.take i) (k.le.getD i []))=true:=zT9
      rw [hno hx,Bool.false_and]
      refine zS dx ?_
      refine wT ?_
      refine zR ?_
      exact z0j (z0i (.imm rfl))
    ·have dl:decide ((i:Int)<(k.le.length:Int))=false:=zF9
     rw [y8d fun j hj=>hall j (by omega)]
     refine zS dl ?_
     refine z0k rfl (fun h=>by cases h) (fun _=>z0q ?_)
     refine zS (zA l4 (zA m3 @z3U)) ?_
     refine ⟨List.all_eq_true.1 rfl,?_⟩
     refine z0C cc (by simp [DV.rf]) ?_
     refine zS (zA @Bool.not_not @Bool.true_and) ?_
     exact z0j (z0i (.imm rfl))
 ·have hb':=Bool.eq_false_iff.2 hb
  rw [hb',Bool.false_and,Bool.false_and]
  cases b1<;>cases b2<;>cases bl<;>cases bm<;>cases bn
  all_goals first
   | (exact absurd rfl hb)
   | skip
  all_goals
   refine zS (zA hck (zA hone (zA l4 (zA m1 (zA m2 (zA m3 (zA hll (zA hcl (zA d1 (zA e1 (zA e2 (zA el (zA em (zA en (zA @cS (zA @Bool.not_true @Bool.not_false)))))))))))))))) ?_
   refine wT ?_
   refine zR ?_
   exact z0j (z0i (.imm rfl))
def okT (S:List Kx):Prop:=S.length≤1000000∧∀k∈S,k.nm.length≤9223372036854775807∧k.le.length≤1000000∧k.ce.length≤1000000∧∀c∈k.ce,y8q c.va
theorem y2X (n:Int) (S:List Kx) (k:Kx) (hk1:k.le.length≤1000000) (hk2:k.ce.length≤1000000) (hk:∀c∈k.ce,y8q c.va):z0c prog 141 [.agg (kxC k),.el [.int .i64 n,.sl 4 (kxs S)] 0] (.bool (!x1h k n)):=by
 have cc:=x0w k n hk1 hk2 hk
 have hck:(DV.agg (kxC k)).cells? = some (kxC k):=rfl
 have l4:=z0L k
 have t4:(kxC k).take 4=kxC k:=rfl
 refine z0b x2n (by simp [y47]) ?_
 unfold z83
 refine zS (zA hck (zA l4 (zA t4 (zA @cS @List.drop_zero.{0})))) ?_
 refine z0C cc (by simp [DV.rf_agg,List.all_eq_true.2 (z12 k)];rfl) ?_
 refine zR ?_
 exact z0j (z0i (.imm rfl))
theorem z4Q (n:Int) (S:List Kx) (h:okT S):z0c prog 75 [.agg [.int .i64 n,.sl 4 (kxs S)]] (.bool (y9D n S)):=by
 obtain ⟨hl,hk⟩:=h
 have hln:(kxs S).length / 4=S.length:=by rw [z1B];omega
 have hca:(DV.agg [.int .i64 n,.sl 4 (kxs S)]).cells? = some [.int .i64 n,.sl 4 (kxs S)]:=rfl
 have hB:([DV.int .i64 n,.sl 4 (kxs S)]≠[]∧∀d∈[DV.int .i64 n,.sl 4 (kxs S)],d.rf=true):=⟨by simp,List.all_eq_true.1 rfl⟩
 have c1:=z2S n S hl
 have c2:=y5u (z1g S) (by rw [z0Y];omega) (fun s hs=>by
  unfold z1g at hs
  obtain ⟨f,hf,rfl⟩:=List.mem_map.1 hs
  exact (hk f hf).1)
 have c3:=z5T S hl (fun k=>!x1h k n) (.clo 141 [.el [.int .i64 n,.sl 4 (kxs S)] 0]) 141 [.el [.int .i64 n,.sl 4 (kxs S)] 0] (.inl rfl) (by simp [DV.rf]) rfl x8I (fun k h=>y2X n S k (hk k h).2.1 (hk k h).2.2.1 (hk k h).2.2.2)
 rw [y17] at c3
 refine z0b w2I (by simp [x8z]) ?_
 unfold y7B y9D
 obtain ⟨b0,d0⟩:∃b,decide (0≤n)=b:=⟨_,rfl⟩
 obtain ⟨b1,d1⟩:∃b,decide (n≤1024)=b:=⟨_,rfl⟩
 obtain ⟨b2,d2⟩:∃b,decide (S.length≤32)=b:=⟨_,rfl⟩
 have e2:decide ((S.length:Int)≤32)=b2:=by rw [←d2];exact decide_eq_decide.2 (by omega)
 rw [d0,d1,d2]
 generalize z5v (z1g S)=b3 at *
 refine zS hca ?_
 refine ⟨hB.2,?_⟩
 cases b0
 ·refine zS (zA hca (zA @cS (zA hln d0))) ?_
  exact z0j (z0i (.imm rfl))
 cases b1
 ·refine zS (zA hca (zA @cS (zA hln (zA d0 d1)))) ?_
  exact z0j (z0i (.imm rfl))
 cases b2
 ·refine zS (zA hca (zA @cS (zA hln (zA d0 (zA d1 e2))))) ?_
  exact z0j (z0i (.imm rfl))
 refine zS (zA hca (zA @cS (zA hln (zA d0 (zA d1 e2))))) ?_
 refine cP c1 ?_
 refine zR ?_
 refine cP c2 ?_
 cases b3
 ·refine zR ?_
  exact z0j (z0i (.imm rfl))
 refine zS @z3U ?_
 refine ⟨List.all_eq_true.1 rfl,?_⟩
 refine z0C c3 (by simp [DV.rf]) ?_
 refine zS @Bool.not_not ?_
 exact z0j (z0i (.imm rfl))
def x8B (x:XN):Bool:=!x.1 && decide (x.2.1=[]) && decide (x.2.2=[])
theorem w2o (x:XN) (hx:y8q x):z0c prog 29 [.agg (xnC x),.agg [.bool false,.nils,.nils]] (.bool (x8B x)):=by
 refine z4r (ds':=[.agg (xnC x),.agg (xnC (false,[],[]))]) (.cons (WkD.refl _) (.cons (WkD.agg (.cons (WkD.refl _) (.cons (WkD.nils 1) (.cons (WkD.nils 1) .nil)))) .nil)) ?_
 have c1:=z3L x.2.1 [] (by have:=hx.2.2.1;omega) (by decide)
 have c2:=z3L x.2.2 [] (by have:=hx.2.2.2;omega) (by decide)
 have hcc:(DV.agg (xnC x)).cells? = some (xnC x):=rfl
 have hcz:(DV.agg (xnC (false,[],[]))).cells? = some (xnC (false,[],[])):=rfl
 have n0:(xnC x).getD 0 .undef=.bool x.1:=rfl
 have n2:(xnC x).getD 2 .undef=.sl 1 (us x.2.2):=rfl
 have nt:(xnC x).take 2=[.bool x.1,.sl 1 (us x.2.1)]:=rfl
 have z2:(xnC (false,[],[])).getD 2 .undef=.sl 1 (us []):=rfl
 have zt:(xnC (false,[],[])).take 2=[.bool false,.sl 1 (us [])]:=rfl
 have l3:(xnC x).length=3:=rfl
 have l3z:(xnC (false,[],[])).length=3:=rfl
 have cs:z0c prog 60 [.agg [.bool x.1,.sl 1 (us x.2.1)],.agg [.bool false,.sl 1 (us [])]] (.bool (!x.1 && decide (x.2.1=[]))):=by
  refine z0b x3s (by simp [y2t]) ?_
  unfold z93
  generalize us x.2.1=a at *
  generalize us ([]:List Nat)=b at *
  have b1:(false == false)=true:=rfl
  have b2:(true == false)=false:=rfl
  cases x.1
  ·refine zS (zA @cS b1) ?_
   refine cP c1 ?_
   refine zS (zA @Bool.not_false @Bool.true_and) ?_
   exact z0j (z0i (.imm rfl))
  ·refine zS (zA @cS b2) ?_
   exact z0j (z0i (.imm rfl))
 refine z0b x2G (by simp [y2D]) ?_
 unfold z9D x8B
 generalize xnC x=U at *
 generalize xnC (false,[],[])=V at *
 generalize (!x.1 && decide (x.2.1=[]))=b at *
 refine zS (zA hcc (zA hcz (zA n2 (zA nt (zA z2 (zA zt (zA l3 (zA l3z (zA @cS @List.drop_zero.{0}))))))))) ?_
 refine cP cs ?_
 cases b
 ·refine zR ?_
  exact z0j (z0i (.imm rfl))
 ·refine zS (zA n2 (zA z2 (zA l3 (zA l3z @cS)))) ?_
  refine cP c2 ?_
  refine zS @Bool.true_and ?_
  exact z0j (z0i (.imm rfl))
def x0Z (k:Kx) (x:Tc):Bool :=
 if x.mi then x8B x.va && decide (x.lv=0) else if k.kd=1 then z5p x.va.1 x.va.2.1 x.va.2.2 && decide (x.lv=0) else x8B x.va && decide (0≤x.lv) && decide (x.lv<k.le.length)
theorem y6A (k:Kx) (x:Tc) (hx:y8q x.va):z0c prog 228 [.agg (kxC k),.agg (cxC x)] (.bool (x0Z k x)):=by
 have cz:=w2o x.va hx
 obtain ⟨u1,u2,u3,u4⟩:=hx
 have cv:z0c prog 94 [.agg (xnC x.va)] (.bool (z5p x.va.1 x.va.2.1 x.va.2.2)):=z7x _ _ _ (by omega) (by omega) u1 u2
 have hck:(DV.agg (kxC k)).cells? = some (kxC k):=rfl
 have hcx:(DV.agg (cxC x)).cells? = some (cxC x):=rfl
 have l4:=z0L k
 have l5:=z1C x
 have n0:(cxC x).getD 0 .undef=.bool x.mi:=rfl
 have n1:((cxC x).drop 1).take 3=xnC x.va:=rfl
 have n4:(cxC x).getD 4 .undef=.int .i64 x.lv:=rfl
 have m1:(kxC k).getD 1 .undef=.int .i64 k.kd:=rfl
 have m2:(kxC k).getD 2 .undef=.sl 1 (z0D k.le):=rfl
 have hll:=z0z k.le
 refine z0b w0s (by simp [x25]) ?_
 unfold y4A x0Z
 generalize z5p x.va.1 x.va.2.1 x.va.2.2=v at *
 generalize x8B x.va=z at *
 obtain ⟨b1,d1⟩:∃b,decide (k.kd=1)=b:=⟨_,rfl⟩
 obtain ⟨b0,d0⟩:∃b,decide (0≤x.lv)=b:=⟨_,rfl⟩
 obtain ⟨bl,dl⟩:∃b,decide (x.lv=0)=b:=⟨_,rfl⟩
 have hk1:(if k.kd=1 then v && decide (x.lv=0) else z && decide (0≤x.lv) && decide (x.lv<k.le.length))=if b1=true then v && bl else z && b0 && decide (x.lv<k.le.length):=by
  rw [←d1,d0,dl]
  by_cases h:k.kd=1<;>simp [h]
 rw [hk1,dl]
 repeat (first|refine z0d ?_|refine z0g ?_|refine z0p ?_|refine z0e ?_|refine And.intro (by omega) ?_|simp (maxSteps:=1000000) (disch:=omega) only [cA,cB,cN,FnD.nb,lk,lkH,Dst.onT,Dst.onX,Dst.slot,z03,z0K,z0M,z00,z0x,z02,unE,cnt,z0l,z0w,z0m,z0o,opE,rmH,z05,z0n,Nat.reduceEqDiff,Nat.reduceLT,Nat.reduceAdd,Nat.reduceMul,Nat.reduceMod,↓reduceIte,reduceCtorEq,Nat.reduceLeDiff,hck,hcx,l4,l5,n0,n1,n4,m1,m2,hll,d1,d0,dl,cS,List.drop_zero])
 refine cP cz ?_
 cases hm:x.mi
 all_goals rw [hm] at n0
 ·have hif:(if (false:Bool)=true then z && bl else (if b1=true then v && bl else z && b0 && decide (x.lv<k.le.length)))=(if b1=true then v && bl else z && b0 && decide (x.lv<k.le.length)):=rfl
  rw [hif]
  cases b1
  ·have hi2:(if (false:Bool)=true then v && bl else z && b0 && decide (x.lv<k.le.length))=(z && b0 && decide (x.lv<k.le.length)):=rfl
   rw [hi2]
   cases z<;>cases b0
   all_goals
    repeat (first|refine z0d ?_|refine z0g ?_|refine z0p ?_|refine z0e ?_|refine And.intro (by omega) ?_|simp (maxSteps:=1000000) (disch:=omega) only [cA,cB,cN,FnD.nb,lk,lkH,Dst.onT,Dst.onX,Dst.slot,z03,z0K,z0M,z00,z0x,z02,unE,cnt,z0l,z0w,z0m,z0o,opE,rmH,z05,z0n,Nat.reduceEqDiff,Nat.reduceLT,Nat.reduceAdd,Nat.reduceMul,Nat.reduceMod,↓reduceIte,reduceCtorEq,Nat.reduceLeDiff,hck,hcx,l4,l5,n0,n1,n4,m1,m2,hll,d1,d0,dl,cS,List.drop_zero])
    refine wF ?_
    repeat (first|refine z0d ?_|refine z0g ?_|refine z0p ?_|refine z0e ?_|refine And.intro (by omega) ?_|simp (maxSteps:=1000000) (disch:=omega) only [cA,cB,cN,FnD.nb,lk,lkH,Dst.onT,Dst.onX,Dst.slot,z03,z0K,z0M,z00,z0x,z02,unE,cnt,z0l,z0w,z0m,z0o,opE,rmH,z05,z0n,Nat.reduceEqDiff,Nat.reduceLT,Nat.reduceAdd,Nat.reduceMul,Nat.reduceMod,↓reduceIte,reduceCtorEq,Nat.reduceLeDiff,hck,hcx,l4,l5,n0,n1,n4,m1,m2,hll,d1,d0,dl,cS,List.drop_zero])
    refine wFs ?_
    repeat (first|refine z0d ?_|refine z0g ?_|refine z0p ?_|refine z0e ?_|refine And.intro (by omega) ?_|simp (maxSteps:=1000000) (disch:=omega) only [cA,cB,cN,FnD.nb,lk,lkH,Dst.onT,Dst.onX,Dst.slot,z03,z0K,z0M,z00,z0x,z02,unE,cnt,z0l,z0w,z0m,z0o,opE,rmH,z05,z0n,Nat.reduceEqDiff,Nat.reduceLT,Nat.reduceAdd,Nat.reduceMul,Nat.reduceMod,↓reduceIte,reduceCtorEq,Nat.reduceLeDiff,hck,hcx,l4,l5,n0,n1,n4,m1,m2,hll,d1,d0,dl,cS,List.drop_zero])
    exact z0j (z0i (.imm rfl))
  ·have hi2:(if (true:Bool)=true then v && bl else z && b0 && decide (x.lv<k.le.length))=(v && bl):=rfl
   rw [hi2]
   cases v
   all_goals
    repeat (first|refine z0d ?_|refine z0g ?_|refine z0p ?_|refine z0e ?_|refine And.intro (by omega) ?_|simp (maxSteps:=1000000) (disch:=omega) only [cA,cB,cN,FnD.nb,lk,lkH,Dst.onT,Dst.onX,Dst.slot,z03,z0K,z0M,z00,z0x,z02,unE,cnt,z0l,z0w,z0m,z0o,opE,rmH,z05,z0n,Nat.reduceEqDiff,Nat.reduceLT,Nat.reduceAdd,Nat.reduceMul,Nat.reduceMod,↓reduceIte,reduceCtorEq,Nat.reduceLeDiff,hck,hcx,l4,l5,n0,n1,n4,m1,m2,hll,d1,d0,dl,cS,List.drop_zero])
    refine wF ?_
    repeat (first|refine z0d ?_|refine z0g ?_|refine z0p ?_|refine z0e ?_|refine And.intro (by omega) ?_|simp (maxSteps:=1000000) (disch:=omega) only [cA,cB,cN,FnD.nb,lk,lkH,Dst.onT,Dst.onX,Dst.slot,z03,z0K,z0M,z00,z0x,z02,unE,cnt,z0l,z0w,z0m,z0o,opE,rmH,z05,z0n,Nat.reduceEqDiff,Nat.reduceLT,Nat.reduceAdd,Nat.reduceMul,Nat.reduceMod,↓reduceIte,reduceCtorEq,Nat.reduceLeDiff,hck,hcx,l4,l5,n0,n1,n4,m1,m2,hll,d1,d0,dl,cS,List.drop_zero])
    refine wT ?_
    repeat (first|refine z0d ?_|refine z0g ?_|refine z0p ?_|refine z0e ?_|refine And.intro (by omega) ?_|simp (maxSteps:=1000000) (disch:=omega) only [cA,cB,cN,FnD.nb,lk,lkH,Dst.onT,Dst.onX,Dst.slot,z03,z0K,z0M,z00,z0x,z02,unE,cnt,z0l,z0w,z0m,z0o,opE,rmH,z05,z0n,Nat.reduceEqDiff,Nat.reduceLT,Nat.reduceAdd,Nat.reduceMul,Nat.reduceMod,↓reduceIte,reduceCtorEq,Nat.reduceLeDiff,hck,hcx,l4,l5,n0,n1,n4,m1,m2,hll,d1,d0,dl,cS,List.drop_zero])
    refine cP cv ?_
    repeat (first|refine z0d ?_|refine z0g ?_|refine z0p ?_|refine z0e ?_|refine And.intro (by omega) ?_|simp (maxSteps:=1000000) (disch:=omega) only [cA,cB,cN,FnD.nb,lk,lkH,Dst.onT,Dst.onX,Dst.slot,z03,z0K,z0M,z00,z0x,z02,unE,cnt,z0l,z0w,z0m,z0o,opE,rmH,z05,z0n,Nat.reduceEqDiff,Nat.reduceLT,Nat.reduceAdd,Nat.reduceMul,Nat.reduceMod,↓reduceIte,reduceCtorEq,Nat.reduceLeDiff,hck,hcx,l4,l5,n0,n1,n4,m1,m2,hll,d1,d0,dl,cS,List.drop_zero])
    exact z0j (z0i (.imm rfl))
 ·have hif:(if (true:Bool)=true then z && bl else (if b1=true then v && bl else z && b0 && decide (x.lv<k.le.length)))=(z && bl):=rfl
  rw [hif]
  cases z
  all_goals
   repeat (first|refine z0d ?_|refine z0g ?_|refine z0p ?_|refine z0e ?_|refine And.intro (by omega) ?_|simp (maxSteps:=1000000) (disch:=omega) only [cA,cB,cN,FnD.nb,lk,lkH,Dst.onT,Dst.onX,Dst.slot,z03,z0K,z0M,z00,z0x,z02,unE,cnt,z0l,z0w,z0m,z0o,opE,rmH,z05,z0n,Nat.reduceEqDiff,Nat.reduceLT,Nat.reduceAdd,Nat.reduceMul,Nat.reduceMod,↓reduceIte,reduceCtorEq,Nat.reduceLeDiff,hck,hcx,l4,l5,n0,n1,n4,m1,m2,hll,d1,d0,dl,cS,List.drop_zero])
   refine wT ?_
   repeat (first|refine z0d ?_|refine z0g ?_|refine z0p ?_|refine z0e ?_|refine And.intro (by omega) ?_|simp (maxSteps:=1000000) (disch:=omega) only [cA,cB,cN,FnD.nb,lk,lkH,Dst.onT,Dst.onX,Dst.slot,z03,z0K,z0M,z00,z0x,z02,unE,cnt,z0l,z0w,z0m,z0o,opE,rmH,z05,z0n,Nat.reduceEqDiff,Nat.reduceLT,Nat.reduceAdd,Nat.reduceMul,Nat.reduceMod,↓reduceIte,reduceCtorEq,Nat.reduceLeDiff,hck,hcx,l4,l5,n0,n1,n4,m1,m2,hll,d1,d0,dl,cS,List.drop_zero])
   exact z0j (z0i (.imm rfl))
def y5X (k:Kx) (n:Int):Bool:=x1i k n && x8E k.le && k.ce.all (x0Z k)
theorem z98 (k:Kx) (n:Int) (hk1:k.le.length≤1000000) (hk2:k.ce.length≤1000000) (hk:∀c∈k.ce,y8q c.va):z0c prog 170 [.agg (kxC k),.int .i64 n] (.bool (y5X k n)):=by
 have hck:(DV.agg (kxC k)).cells? = some (kxC k):=rfl
 have l4:=z0L k
 have t4:(kxC k).take 4=kxC k:=rfl
 have m1:(kxC k).getD 1 .undef=.int .i64 k.kd:=rfl
 have m2:(kxC k).getD 2 .undef=.sl 1 (z0D k.le):=rfl
 have m3:(kxC k).getD 3 .undef=.sl 5 (cxs k.ce):=rfl
 have hll:=z0z k.le
 have hcl:(cxs k.ce).length / 5=k.ce.length:=by rw [z1V];omega
 have hcx:=z1V k.ce
 have hCa:(kxC k).all DV.rf=true:=List.all_eq_true.2 (z12 k)
 have hone:(kxC k).all DV.one=true:=List.all_eq_true.2 (y19 k)
 have cf:=fun c hc=>y6A k c (hk c hc)
 have hrfl:∀c:Tc,List.all [DV.agg (kxC k),DV.agg (cxC c)] DV.rf=true:=fun c=>by simp [DV.rf_agg,hCa,List.all_eq_true.2 (z90 c)]
 generalize hC:kxC k=C at *
 obtain ⟨b1,d1⟩:∃b,decide (k.kd=1)=b:=⟨_,rfl⟩
 obtain ⟨b2,d2⟩:∃b,decide (k.kd=2)=b:=⟨_,rfl⟩
 obtain ⟨bl,dl⟩:∃b,decide (0<k.le.length)=b:=⟨_,rfl⟩
 obtain ⟨bm,dm⟩:∃b,decide (k.le.length≤32)=b:=⟨_,rfl⟩
 obtain ⟨bn,dn⟩:∃b,decide ((k.ce.length:Int)=n)=b:=⟨_,rfl⟩
 have e1:decide (¬k.kd=1)=!b1:=by rw [←d1];simp
 have e2:decide (¬k.kd=2)=!b2:=by rw [←d2];simp
 have el:decide ((0:Int)<(k.le.length:Int))=bl:=by rw [←dl];exact decide_eq_decide.2 (by omega)
 have em:decide ((32:Int)<(k.le.length:Int))=!bm:=by rw [←dm];by_cases h:k.le.length≤32<;>simp [h]<;>omega
 have en:decide (¬(k.ce.length:Int)=n)=!bn:=by rw [←dn];simp
 refine z0b y96 (by simp [y0R]) ?_
 unfold z7O y5X
 have hsh:x1i k n=((b1 || b2) && !(b1 && bl) && bm && bn):=by unfold x1i;rw [d1,d2,dl,dm,dn]
 rw [hsh]
 by_cases hb:((b1 || b2) && !(b1 && bl) && bm && bn)=true
 ·rw [hb,Bool.true_and]
  have hbn:bn=true:=by cases bn<;>simp_all
  have hn:(k.ce.length:Int)=n:=by rw [hbn] at dn;exact of_decide_eq_true dn
  cases b1<;>cases b2<;>cases bl<;>cases bm<;>cases bn
  all_goals first
   | (exact absurd hb (by decide))
   | skip
  all_goals
   clear hb hsh hbn
   refine zS (zA hck (zA hone (zA l4 (zA m1 (zA m2 (zA m3 (zA hll (zA hcl (zA d1 (zA e1 (zA e2 (zA el (zA em (zA en (zA @cS (zA @Bool.not_true @Bool.not_false)))))))))))))))) ?_
   refine wFs ?_
   clear d1 d2 dl dm dn e1 e2 el em en
   refine zR ?_
   refine z0s (σ:=Nat) (fun i=>[(1,.int .i64 n),(2,.ptr 2 0),(5,.int .i64 i)]) (fun _=>[(2,C)]) (fun i=>i≤k.le.length∧∀j,j<i→ixS (k.le.take j) (k.le.getD j [])<0) (fun i=>k.le.length - i) 0 ⟨Nat.zero_le _,by simp⟩ ?_ rfl ?_
   ·simp [z0v,lk]
   ·rintro i ⟨hi,hall⟩
    try simp only at hi hall ⊢
    by_cases hlt:i<k.le.length
    ·have dl:decide ((i:Int)<(k.le.length:Int))=true:=zT9
     have ei:(i:Int).toNat=i:=Int.toNat_natCast i
     have e1:((i:Int)+1)=((i+1:Nat):Int):=by omega
     have hg:=z0Q hlt
     have hts:(z0D k.le).take i=z0D (k.le.take i):=by unfold z0D;rw [List.map_take]
     have cx:=z7H (k.le.take i) (k.le.getD i []) (by rw [List.length_take];omega)
     have hno:=@x3c k.le i hlt
     generalize hT:z0D (k.le.take i)=T at *
     refine zS (zA l4 (zA m2 (zA hll dl))) ?_
     refine wTs ?_
     refine zS (zA ei (zA hg (zA hll (zA l4 (zA m2 (zA hts (zA @Nat.mul_one (zA @Nat.zero_mul (zA @List.drop_zero.{0} @Nat.div_one))))))))) ?_
     refine cP cx ?_
     by_cases hx:ixS (k.le.take i) (k.le.getD i [])<0
     ·have dx:decide (0≤ixS (k.le.take i) (k.le.getD i []))=false:=zF9
      refine zS dx ?_
      refine wFs ?_
      refine zS e1 ?_
      exact ⟨i+1,⟨by omega,fun j hj=>by
       rcases Nat.lt_or_ge j i with h2|h2
       ·exact hall j h2
       ·obtain rfl:j=i:=by omega
        exact hx⟩,by omega,by simp [z0v,lk]⟩
     ·have dx:decide (0≤ixS (k.le.take i) (k.le.getD i []))=true:=zT9
      rw [hno hx,Bool.false_and]
      refine zS dx ?_
      refine wT ?_
      refine zR ?_
      exact z0j (z0i (.imm rfl))
    ·have dl:decide ((i:Int)<(k.le.length:Int))=false:=zF9
     rw [y8d fun j hj=>hall j (by omega),Bool.true_and]
     refine zS (zA l4 (zA m2 (zA hll dl))) ?_
     refine z0k rfl (fun h=>by cases h) (fun _=>z0q ?_)
     refine zR ?_
     refine z0s (σ:=Nat) (fun i=>[(1,.int .i64 n),(2,.ptr 2 0),(6,.int .i64 i)]) (fun _=>[(2,C)]) (fun i=>i≤k.ce.length∧∀j,j<i→x0Z k (k.ce.getD j default)=true) (fun i=>k.ce.length - i) 0 ⟨Nat.zero_le _,by simp⟩ ?_ rfl ?_
     ·simp [z0v,lk]
     ·rintro i ⟨hi,hall⟩
      try simp only at hi hall ⊢
      by_cases hlt:i<k.ce.length
      ·have dl:decide ((i:Int)<n)=true:=zT9
       have ei:(i:Int).toNat=i:=Int.toNat_natCast i
       have e1:((i:Int)+1)=((i+1:Nat):Int):=by omega
       have hw:((cxs k.ce).drop (i*5)).take 5=cxC (k.ce.getD i default):=z1a (j:=0) z1C default hlt (Nat.le_refl _)
       have cc:=cf _ (z4a hlt)
       have hno:=fun h=>x7G (p:=x0Z k) hlt h
       refine zS dl ?_
       refine wTs ?_
       refine zS (zA ei (zA l4 (zA t4 (zA m3 (zA hcx (zA hw (zA @cS @List.drop_zero.{0}))))))) ?_
       refine z0C cc (hrfl _) ?_
       cases hx:x0Z k (k.ce.getD i default)
       ·rw [hno hx]
        refine zR ?_
        refine wT ?_
        refine zR ?_
        exact z0j (z0i (.imm rfl))
       ·refine zR ?_
        refine wFs ?_
        refine zS e1 ?_
        exact ⟨i+1,⟨by omega,fun j hj=>by
         rcases Nat.lt_or_ge j i with h2|h2
         ·exact hall j h2
         ·obtain rfl:j=i:=by omega
          exact hx⟩,by omega,by simp [z0v,lk]⟩
      ·have dl:decide ((i:Int)<n)=false:=zF9
       rw [x47 (p:=x0Z k) fun j hj=>hall j (by omega)]
       refine zS dl ?_
       refine z0k rfl (fun h=>by cases h) (fun _=>z0q ?_)
       refine zR ?_
       exact z0j (z0i (.imm rfl))
 ·have hb':=Bool.eq_false_iff.2 hb
  rw [hb',Bool.false_and,Bool.false_and]
  cases b1<;>cases b2<;>cases bl<;>cases bm<;>cases bn
  all_goals first
   | (exact absurd rfl hb)
   | skip
  all_goals
   refine zS (zA hck (zA hone (zA l4 (zA m1 (zA m2 (zA m3 (zA hll (zA hcl (zA d1 (zA e1 (zA e2 (zA el (zA em (zA en (zA @cS (zA @Bool.not_true @Bool.not_false)))))))))))))))) ?_
   refine wT ?_
   refine zR ?_
   exact z0j (z0i (.imm rfl))
def x2C (n:Int) (S:List Kx):Bool:=decide (0≤n) && decide (n≤1024) && decide (S.length≤32) && (S.all fun k=>y5X k n) && z5v (z1g S)
theorem z28 (n:Int) (S:List Kx) (h:okT S):z0c prog 92 [.agg [.int .i64 n,.sl 4 (kxs S)]] (.bool (x2C n S)):=by
 obtain ⟨hl,hk⟩:=h
 have hln:(kxs S).length / 4=S.length:=by rw [z1B];omega
 have hlen:=z1B S
 have hca:(DV.agg [.int .i64 n,.sl 4 (kxs S)]).cells? = some [.int .i64 n,.sl 4 (kxs S)]:=rfl
 have c2:=y3f (z1g S) (by rw [z0Y];omega) (fun s hs=>by
  unfold z1g at hs
  obtain ⟨f,hf,rfl⟩:=List.mem_map.1 hs
  exact (hk f hf).1)
 refine z0b x64 (by simp [y7X]) ?_
 unfold y0J x2C
 by_cases g0:¬0≤n
 ·have d0:decide (n<0)=true:=zT9
  rw [decide_eq_false g0]
  refine zS (zA hca (zA @cS (zA hln d0))) ?_
  refine wT ?_
  refine zR ?_
  exact z0j (z0i (.imm rfl))
 replace g0:=Classical.not_not.1 g0
 have d0:decide (n<0)=false:=zF9
 by_cases g1:¬n≤1024
 ·have d1:decide (1024<n)=true:=zT9
  rw [decide_eq_false g1,Bool.and_false]
  refine zS (zA hca (zA @cS (zA hln (zA d0 d1)))) ?_
  refine wT ?_
  refine zR ?_
  exact z0j (z0i (.imm rfl))
 replace g1:=Classical.not_not.1 g1
 have d1:decide (1024<n)=false:=zF9
 by_cases g2:¬S.length≤32
 ·have d2:decide ((32:Int)<(S.length:Int))=true:=zT9
  rw [decide_eq_false g2,Bool.and_false]
  refine zS (zA hca (zA @cS (zA hln (zA d0 (zA d1 d2))))) ?_
  refine wT ?_
  refine zR ?_
  exact z0j (z0i (.imm rfl))
 replace g2:=Classical.not_not.1 g2
 have d2:decide ((32:Int)<(S.length:Int))=false:=zF9
 rw [decide_eq_true g0,decide_eq_true g1,decide_eq_true g2,Bool.true_and,Bool.true_and,Bool.true_and]
 refine zS (zA hca (zA @cS (zA hln (zA d0 (zA d1 d2))))) ?_
 refine wFs ?_
 refine zR ?_
 refine z5Z 3 1 200 rfl (by simp [lkH]) ?_
 refine zR ?_
 refine z0s (σ:=Nat) (fun i=>[(1,.ptr 1 0),(3,.osl 1 200 0 i),(4,.int .i64 i)]) (fun i=>[(1,[.int .i64 n,.sl 4 (kxs S)]),(200,z0D ((z1g S).take i))]) (fun i=>i≤S.length∧∀j,j<i→y5X (S.getD j default) n=true) (fun i=>S.length - i) 0 ⟨Nat.zero_le _,by simp⟩ ?_ rfl ?_
 ·simp [z0v,lk]
 ·rintro i ⟨hi,hall⟩
  try simp only at hi hall ⊢
  by_cases hlt:i<S.length
  ·have dl:decide ((i:Int)<(S.length:Int))=true:=zT9
   have ei:(i:Int).toNat=i:=Int.toNat_natCast i
   have e1:((i:Int)+1)=((i+1:Nat):Int):=by omega
   have hg0:(kxs S).getD (i*4) .undef=.str (S.getD i default).nm:=z8n (j:=0) z0L default hlt (by decide) .undef
   have hw:((kxs S).drop (i*4)).take 4=kxC (S.getD i default):=z1a (j:=0) z0L default hlt (Nat.le_refl _)
   have htk:z0D ((z1g S).take i)++[.str (S.getD i default).nm]=z0D ((z1g S).take (i+1)):=by
    unfold z0D
    rw [List.take_add_one,List.map_append]
    unfold z1g
    rw [List.getElem?_map,zO4 hlt,zO1,zO4 hlt]
    rfl
   have hl1:(z0D ((z1g S).take i)).length=i:=by rw [z0z,List.length_take,z0Y];omega
   have hpg:=z0h 200 (List.all_eq_true.1 (z8B ((z1g S).take (i+1))))
   have hm:=hk _ (z4a hlt)
   have cc:=z98 (S.getD i default) n hm.2.1 hm.2.2.1 hm.2.2.2
   have hno:=fun h=>x7G (p:=fun k=>y5X k n) hlt h
   have hnx:y5X (S.getD i default) n=true→∀j,j<i+1→y5X (S.getD j default) n=true:=fun h j hj=>by
    rcases Nat.lt_or_ge j i with h2|h2
    ·exact hall j h2
    ·obtain rfl:j=i:=by omega
     exact h
   have hca:List.all [DV.agg (kxC (S.getD i default)),.int .i64 n] DV.rf=true:=by rw [List.all_cons,List.all_cons,DV.rf_agg,List.all_eq_true.2 (z12 _)];rfl
   generalize z0D ((z1g S).take i)=Y at *
   generalize hZ:z0D ((z1g S).take (i+1))=Z at *
   generalize S.getD i default=k at *
   have q1:purge 200 (.ptr 1 0)=.ptr 1 0:=by simp [purge,DV.has]
   refine zS (zA @cS (zA dl hln)) ?_
   refine wTs ?_
   refine zS (zA @cS (zA ei (zA hlen hg0))) ?_
   refine ⟨by simp [DV.rf],⟨hl1,by omega,by omega,fun h=>h,by simp [DV.one]⟩,?_⟩
   rw [htk,hpg]
   refine zS (zA q1 (zA @cS (zA ei (zA hlen hw)))) ?_
   refine z0C cc hca ?_
   cases hb:y5X k n
   ·rw [hno hb,Bool.false_and]
    refine zR ?_
    refine wT ?_
    refine zR ?_
    exact z0j (z0i (.imm rfl))
   ·refine zR ?_
    refine wFs ?_
    refine zS e1 ?_
    exact ⟨i+1,⟨by omega,hnx hb⟩,by omega,by simp [z0v,lk],by rw [hZ]⟩
  ·have dl:decide ((i:Int)<(S.length:Int))=false:=zF9
   obtain rfl:i=S.length:=by omega
   have htl:(z1g S).take S.length=z1g S:=List.take_of_length_le (by rw [z0Y];exact Nat.le_refl _)
   rw [htl,x47 (p:=fun k=>y5X k n) fun j hj=>hall j hj,Bool.true_and]
   have hrf:=z8B (z1g S)
   have hsl:(z0D (z1g S)).length=S.length:=by rw [z0z,z0Y]
   refine z0E 200 (cells:=z0D (z1g S)) rfl hrf ?_
   have hfz:frz 200 (z0D (z1g S)) (.osl 1 200 0 S.length)=.sl 1 (z0D (z1g S)):=by
    simp [frz,hsl]
    rw [List.take_of_length_le (by omega)]
   have q2:frz 200 (z0D (z1g S)) (.ptr 1 0)=.ptr 1 0:=by simp [frz,purge,DV.has]
   refine zS (zA @cS (zA dl (zA hln (zA hfz q2)))) ?_
   refine z0k rfl (fun h=>by cases h) (fun _=>z0q ?_)
   refine zR ?_
   refine cP c2 ?_
   refine zR ?_
   exact z0j (z0i (.imm rfl))
theorem x1M (k:Int) (n:Nat) (hn:0<n) (hn2:n≤1000000):z0c prog 11 [.int .i64 k,.int .i64 n] (.int .i64 (k % n)):=by
 obtain ⟨h1,h2,h3,h4⟩:=w4M k hn
 have hne:(n:Int)≠0:=by omega
 refine z0b w0Z (by simp [x1L]) ?_
 unfold y4C
 by_cases h:k.tmod n<0
 ·have d:decide (k.tmod n<0)=true:=decide_eq_true h
  rw [←h3 h]
  refine zS d ?_
  refine wT ?_
  refine zR ?_
  exact z0j (z0i (.imm rfl))
 ·have d:decide (k.tmod n<0)=false:=decide_eq_false h
  rw [←h4 h]
  refine zS d ?_
  refine wFs ?_
  refine zR ?_
  exact z0j (z0i (.imm rfl))
theorem x6U:z0X prog 150:=⟨_,func150,by kernel_rfl,by kernel_rfl⟩
theorem z7X (k:Kx) (r:Nat) (hr:r<k.ce.length) (hl:k.ce.length≤1000000):z0c prog 150 [.agg (kxC k),.el [.int .i64 r] 0] (.bool (y72 r k)):=by
 have hck:(DV.agg (kxC k)).cells? = some (kxC k):=rfl
 have l4:=z0L k
 have m3:(kxC k).getD 3 .undef=.sl 5 (cxs k.ce):=rfl
 have hcx:=z1V k.ce
 have er:(r:Int).toNat=r:=Int.toNat_natCast r
 have hg:(cxs k.ce).getD (r*5) .undef=.bool (k.ce.getD r default).mi:=z8n (j:=0) z1C default hr (by decide) .undef
 refine z0b y3G (by simp [z7p]) ?_
 unfold z4W y72
 generalize (k.ce.getD r default).mi=b at *
 repeat (first|refine z0d ?_|refine z0g ?_|refine z0p ?_|refine z0e ?_|refine And.intro (by omega) ?_|simp (maxSteps:=1000000) (disch:=omega) only [cA,cB,cN,FnD.nb,lk,lkH,Dst.onT,Dst.onX,Dst.slot,z03,z0K,z0M,z00,z0x,z02,unE,cnt,z0l,z0w,z0m,z0o,opE,rmH,z05,z0n,Nat.reduceEqDiff,Nat.reduceLT,Nat.reduceAdd,Nat.reduceMul,Nat.reduceMod,↓reduceIte,reduceCtorEq,Nat.reduceLeDiff,hck,l4,m3,er,hcx,hg,cS,List.drop_zero])
 exact z0j (z0i (.imm rfl))
theorem z8w (n:Nat) (S:List Kx) (names:List Bs) (h:okT S) (hv:y9D n S=true) (hnl:names.length≤1000000) (hn:∀s∈names,0≤ixS (z1g S) s) (hce:∀k∈S,k.ce.length=n) (hn2:n≤1000000) :
  z0c prog 77 [.agg [.int .i64 n,.sl 4 (kxs S)],.sl 1 (z0D names)] (.tup [.sl 1 (ints (z1f (z2I S names) n)),.int .i64 0]):=by
 have hll:=z0z names
 have hln:(kxs S).length / 4=S.length:=by rw [z1B];omega
 have hlen:=z1B S
 have hca:(DV.agg [.int .i64 n,.sl 4 (kxs S)]).cells? = some [.int .i64 n,.sl 4 (kxs S)]:=rfl
 have c1:=z4Q n S h
 rw [hv] at c1
 have c2:=z2S n S h.1
 refine z0b y7q (by simp [z8y]) ?_
 unfold z5X
 refine zS (zA hca @cS) ?_
 refine cP c1 ?_
 refine zR ?_
 refine wFs ?_
 refine zR ?_
 refine z5Z 6 4 300 rfl (by simp [lkH]) ?_
 refine zS hll ?_
 refine z0s (σ:=Nat) (fun i=>[(2,.ptr 2 0),(6,.osl 4 300 0 i),(15,.sl 1 (z0D names)),(16,.int .i64 names.length),(17,.int .i64 i)]) (fun i=>[(2,[.int .i64 n,.sl 4 (kxs S)]),(300,kxs (z2I S (names.take i)))]) (fun i=>i≤names.length) (fun i=>names.length - i) 0 (Nat.zero_le _) ?_ rfl ?_
 ·simp [z0v,lk]
 ·intro i hi
  try simp only at hi ⊢
  have hul:(z2I S (names.take i)).length=i:=by unfold z2I;rw [List.length_map,List.length_take];omega
  have hux:=z1B (z2I S (names.take i))
  rw [hul] at hux
  by_cases hlt:i<names.length
  ·have dl:decide ((i:Int)<(names.length:Int))=true:=zT9
   have ei:(i:Int).toNat=i:=Int.toNat_natCast i
   have e1:((i:Int)+1)=((i+1:Nat):Int):=by omega
   have hg:=z0Q hlt
   have hs0:=hn _ (z1e hlt)
   have hbd:=z36 (names.getD i []) (z1g S)
   rw [z0Y] at hbd
   have c3:=z3l (z1g S) (names.getD i []) (by rw [z0Y];have:=h.1;omega)
   have htk:z2I S (names.take (i+1))=z2I S (names.take i)++[S.getD (ixS (z1g S) (names.getD i [])).toNat default]:=by
    unfold z2I
    rw [z0r [] hlt,List.map_append];rfl
   generalize names.getD i []=s at *
   obtain ⟨j,hj⟩:∃j:Nat,ixS (z1g S) s=j:=⟨(ixS (z1g S) s).toNat,by omega⟩
   rw [hj] at htk hbd c3
   have ej:(j:Int).toNat=j:=Int.toNat_natCast j
   rw [ej] at htk
   have dj:decide ((j:Int)<0)=false:=zF9
   have hjl:j<S.length:=by omega
   have hw:((kxs S).drop (j*4)).take 4=kxC (S.getD j default):=z1a (j:=0) z0L default hjl (Nat.le_refl _)
   have hsn:kxs (z2I S (names.take i))++kxC (S.getD j default)=kxs (z2I S (names.take (i+1))):=by rw [htk];exact y28 _ _
   have hcl:=z0L (S.getD j default)
   have hcr:=z12 (S.getD j default)
   have hco:=y19 (S.getD j default)
   have hlk:laid [DV.str [],.int .i64 0,.nils,.nils] [(0,4,.agg (kxC (S.getD j default)))]=some (kxC (S.getD j default)):=rfl
   have hpg:=z0h 300 (x8A (z2I S (names.take (i+1))))
   generalize kxC (S.getD j default)=C at *
   have q2:∀z,purge 300 (.ptr 2 z)=.ptr 2 z:=fun z=>by simp [purge,DV.has]
   refine zS dl ?_
   refine wTs ?_
   refine zS (zA ei (zA hll (zA hg @cS))) ?_
   refine cP c2 ?_
   refine zR ?_
   refine cP c3 ?_
   refine zS dj ?_
   refine wFs ?_
   refine zS (zA ej (zA hlen (zA hw (zA @cS hlk)))) ?_
   refine ⟨⟨hux,by omega,by omega,fun h=>h,hco⟩,?_⟩
   rw [hsn,hpg,hcl]
   refine zS (zA q2 e1) ?_
   exact ⟨i+1,by omega,by omega,by simp [z0v,lk],rfl⟩
  ·have dl:decide ((i:Int)<(names.length:Int))=false:=zF9
   obtain rfl:i=names.length:=by omega
   rw [List.take_length] at hul hux ⊢
   have hU:∀k∈z2I S names,k.ce.length=n:=fun k hk=>by
    unfold z2I at hk
    obtain ⟨s,hs,rfl⟩:=List.mem_map.1 hk
    have hbd:=z36 s (z1g S)
    rw [z0Y] at hbd
    have:=hn s hs
    exact hce _ (z4a (by omega))
   generalize z2I S names=U at *
   have hUr:=x8A U
   refine z0E 300 (cells:=kxs U) rfl (List.all_eq_true.2 hUr) ?_
   have hfz:frz 300 (kxs U) (.osl 4 300 0 names.length)=.sl 4 (kxs U):=by
    simp [frz,hux]
    rw [List.take_of_length_le (by omega)]
   have f2:frz 300 (kxs U) (.ptr 2 0)=.ptr 2 0:=by simp [frz,purge,DV.has]
   refine zS (zA dl (zA hfz (zA f2 @cS))) ?_
   refine z0k rfl (fun h=>by cases h) (fun _=>z0q ?_)
   refine zR ?_
   refine z5Z 10 1 301 rfl (by simp [lkH]) ?_
   refine zS @cS ?_
   refine z0s (σ:=Nat) (fun i=>[(2,.ptr 2 0),(6,.sl 4 (kxs U)),(10,.osl 1 301 0 (z1f U i).length),(37,.int .i64 n),(38,.int .i64 i)]) (fun i=>[(2,[.int .i64 n,.sl 4 (kxs S)]),(301,ints (z1f U i))]) (fun i=>i≤n) (fun i=>n - i) 0 (Nat.zero_le _) ?_ rfl ?_
   ·simp [z0v,lk,z1f]
   ·intro i hi
    try simp only at hi ⊢
    have hRl:=z2p (z1f U i)
    have hRb:=z5N U i
    by_cases hlt:i<n
    ·have dl:decide ((i:Int)<(n:Int))=true:=zT9
     have e1:((i:Int)+1)=((i+1:Nat):Int):=by omega
     have cc:=z5T U (by omega) (y72 i) (.clo 150 [.el [.int .i64 i] 0]) 150 [.el [.int .i64 i] 0] (.inl rfl) (by simp [DV.rf]) rfl x6U (fun k hk=>z7X k i (by rw [hU k hk];exact hlt) (by rw [hU k hk];omega))
     have hry:=@y4q U i
     have hrn:=@y7U U i
     have hpg:=z0h 301 (z5q (z1f U i++[i]))
     have hsn:ints (z1f U i)++[.int .i64 i]=ints (z1f U i++[i]):=by unfold ints;rw [List.map_append];rfl
     have p2:purge 301 (.ptr 2 0)=.ptr 2 0:=by simp [purge,DV.has]
     have pe:∀l z,purge 301 (.el l z)=.el l z:=fun l z=>by simp [purge,DV.has]
     have f2:z2e 11 [.int .i64 i] (.ptr 2 0)=.ptr 2 0:=by simp [z2e]
     have f11:z2e 11 [.int .i64 i] (.ptr 11 0)=.el [.int .i64 i] 0:=by simp [z2e]
     have fo:∀n,z2e 11 [.int .i64 i] (.osl 1 301 0 n)=.osl 1 301 0 n:=fun n=>by simp [z2e,frz]
     have hfs:∀z xs,z2e 11 [.int .i64 i] (.sl z xs)=.sl z xs:=fun z xs=>by simp [z2e,frz,purge,DV.has]
     have hfi:∀k m,z2e 11 [.int .i64 i] (.int k m)=.int k m:=fun k m=>by simp [z2e,frz,purge,DV.has]
     have hfb:∀m,z2e 11 [.int .i64 i] (.bool m)=.bool m:=fun m=>by simp [z2e,frz,purge,DV.has]
     have hfm:=z0N 11 [.int .i64 i] (z5q (z1f U i))
     generalize hI:ints (z1f U i)=I0 at *
     refine zS dl ?_
     refine wTs ?_
     refine z0d ?_
     refine z0e ?_
     refine z0d ?_
     refine z0g ?_
     refine zE @cS ?_
     refine z1P 11 (cells:=[.int .i64 i]) rfl rfl ?_
     refine zS (zA f2 (zA f11 (zA fo (zA hfs (zA hfi (zA hfb (zA hfm @z3U))))))) ?_
     refine ⟨List.all_eq_true.1 rfl,?_⟩
     refine z0C cc (by simp [DV.rf]) ?_
     cases hm:U.any (y72 i)
     ·rw [←hry hm] at hsn hpg
      refine zR ?_
      refine wT ?_
      refine zS @cS ?_
      refine ⟨by simp [DV.rf],⟨hRl,by omega,by omega,fun h=>h,by simp [DV.one]⟩,?_⟩
      rw [hsn,hpg]
      refine zS (zA p2 (zA pe e1)) ?_
      exact ⟨i+1,by omega,by omega,by simp [z0v,lk,hry hm],rfl⟩
     ·refine zR ?_
      refine wFs ?_
      refine zS e1 ?_
      exact ⟨i+1,by omega,by omega,by simp [z0v,lk,hrn hm],by rw [hrn hm,hI]⟩
    ·have dl:decide ((i:Int)<(n:Int))=false:=zF9
     obtain rfl:i=n:=by omega
     have hIr:=z5q (z1f U i)
     refine z0E 301 (cells:=ints (z1f U i)) rfl (List.all_eq_true.2 hIr) ?_
     have hfz:frz 301 (ints (z1f U i)) (.osl 1 301 0 (z1f U i).length)=.sl 1 (ints (z1f U i)):=by
      simp [frz,hRl]
      rw [List.take_of_length_le (by omega)]
     have f2:frz 301 (ints (z1f U i)) (.ptr 2 0)=.ptr 2 0:=by simp [frz,purge,DV.has]
     refine zS (zA dl (zA hfz f2)) ?_
     refine z0k rfl (fun h=>by cases h) (fun _=>z0q ?_)
     refine zR ?_
     exact z0j (z13 (.imm rfl) (.imm rfl))
end Go.Proofs.YtlcagndeidjobaaGreatDoor
namespace Go.Proofs.YtlcagndeidjobaaGreatDoor
open Tryz
open Go Go.Dat Go.Proofs Go.RowKit Go.Shelf Nat32
theorem z3g (z:Int) (hz : -9223372036854775808≤z∧z≤9223372036854775807):z0c prog 30 [.int .i64 z] (.agg (xnC (qX (y5Y z)))):=by
 have m1:=x1M z 61 (by decide) (by decide)
 have m2:=x1M (Int.tdiv z 61) 4 (by decide) (by decide)
 have b1:=Int.emod_nonneg z (show (61:Int)≠0 by decide)
 have b2:=Int.emod_lt_of_pos z (show (0:Int)<61 by decide)
 have b3:=Int.emod_nonneg (Int.tdiv z 61) (show (4:Int)≠0 by decide)
 have b4:=Int.emod_lt_of_pos (Int.tdiv z 61) (show (0:Int)<4 by decide)
 have cf:z0c prog 62 [.int .i64 (z % 61 - 30),.int .i64 (1+(Int.tdiv z 61) % 4)] (Q (y5Y z)):=z9O (z % 61 - 30) (1+(Int.tdiv z 61) % 4) (by omega) (by omega) (by omega)
 have hq:Q (y5Y z)=.agg (xnC (qX (y5Y z))):=rfl
 rw [hq] at cf
 have hcc:(DV.agg (xnC (qX (y5Y z)))).cells? = some (xnC (qX (y5Y z))):=rfl
 have h3:(xnC (qX (y5Y z))).length=3:=rfl
 have hrf:(DV.agg (xnC (qX (y5Y z)))).rf=true:=rfl
 have htd : -9223372036854775808≤Int.tdiv z 61∧Int.tdiv z 61≤9223372036854775807:=by
  by_cases h:0≤z
  ·rw [Int.tdiv_eq_ediv_of_nonneg h];omega
  ·obtain ⟨n,hn⟩:∃n:Nat,z = -(n:Int):=⟨z.natAbs,by omega⟩
   rw [hn,Int.neg_tdiv,Int.tdiv_eq_ediv_of_nonneg (by omega)];omega
 refine z0b x07 (by simp [y0S]) ?_
 unfold z67
 generalize xnC (qX (y5Y z))=X at *
 have e61:((61:Nat):Int)=61:=rfl
 have e4:((4:Nat):Int)=4:=rfl
 rw [e61] at m1
 rw [e4] at m2
 refine zR ?_
 refine cP m1 ?_
 refine zR ?_
 refine cP m2 ?_
 refine zR ?_
 refine cP cf ?_
 refine zS (zA hcc (zA h3 @cS)) ?_
 exact z0j (z0Z rfl rfl h3 (.imm hrf))
theorem y02:∀ds r,kI (fun z=>some (Q (z:Rat))) ds=some r→z0c prog 80 ds r:=x9L fun z r h1 h2 h=>by cases h;exact z3p z h1 h2
theorem y0z:∀ds r,kI (fun z=>some (Q (z:Rat))) ds=some r→z0c prog 44 ds r:=x9L fun z r h1 h2 h=>by cases h;exact z3n z h1 h2
theorem y94:∀ds r,kI (fun z=>some (.agg (xnC (qX (y5Y z))))) ds=some r→z0c prog 30 ds r:=x9L fun z r h1 h2 h=>by cases h;exact z3g z ⟨h1,h2⟩
theorem x8P:∀ds r,k1 (fun x=>if smX 9000 x then some (.int .i64 (xnV x).num.sign) else none) ds=some r→z0c prog 234 ds r:=w2p fun x r l1 l2 h=>by
 split at h
 ·rename_i hs;cases h;obtain ⟨g1,g2⟩:=z7C hs;exact z9j _ _ _ g1 g2 l1 l2
 ·cases h
theorem x5t:∀ds r,k1 (fun x=>if smX 9000 x then some (.bool (z5p x.1 x.2.1 x.2.2)) else none) ds=some r→z0c prog 158 ds r:=w2p fun x r l1 l2 h=>by
 split at h
 ·rename_i hs;cases h;obtain ⟨g1,g2⟩:=z7C hs;exact z4y _ _ _ g1 g2 l1 l2
 ·cases h
theorem w3B:∀ds r,k2 (fun x y=>if smX 4400 x && smX 4400 y then some (Q (xnV x+xnV y)) else none) ds=some r→z0c prog 38 ds r:=x94 fun x y r l1 l2 l3 l4 h=>by
 split at h
 ·rename_i hs
  cases h
  rw [Bool.and_eq_true] at hs
  obtain ⟨g1,g2⟩:=z7C hs.1
  obtain ⟨g3,g4⟩:=z7C hs.2
  exact y1M _ _ _ _ _ _ g1 g2 g3 g4 l1 l2 l3 l4
 ·cases h
theorem w2V:∀ds r,k2 (fun x y=>if smX 4400 x && smX 4400 y then some (Q (xnV x*xnV y)) else none) ds=some r→z0c prog 157 ds r:=x94 fun x y r l1 l2 l3 l4 h=>by
 split at h
 ·rename_i hs
  cases h
  rw [Bool.and_eq_true] at hs
  obtain ⟨g1,g2⟩:=z7C hs.1
  obtain ⟨g3,g4⟩:=z7C hs.2
  exact y1J _ _ _ _ _ _ g1 g2 g3 g4 l1 l2 l3 l4
 ·cases h
theorem x9y:∀ds r,k2 (fun x y=>if smX 9000 x && smX 9000 y && decide (x=qX (xnV x)) && decide (y=qX (xnV y)) then some (.bool (decide (xnV x=xnV y))) else none) ds=some r→z0c prog 29 ds r:=x94 fun x y r l1 l2 l3 l4 h=>by
 split at h
 ·rename_i hs
  cases h
  simp only [Bool.and_eq_true,decide_eq_true_eq] at hs
  obtain ⟨⟨⟨s1,s2⟩,e1⟩,e2⟩:=hs
  obtain ⟨g1,g2⟩:=z7C s1
  obtain ⟨g3,g4⟩:=z7C s2
  have:=x7C (xnV x) (xnV y) (y2p l1 l2 g1 g2 (by decide)) (y2p l3 l4 g3 g4 (by decide))
  have q1:Q (xnV x)=.agg (xnC x):=by
   have h0:Q (xnV x)=.agg (xnC (qX (xnV x))):=rfl
   rw [h0,←e1]
  have q2:Q (xnV y)=.agg (xnC y):=by
   have h0:Q (xnV y)=.agg (xnC (qX (xnV y))):=rfl
   rw [h0,←e2]
  rw [q1,q2] at this
  exact this
 ·cases h
end Go.Proofs.YtlcagndeidjobaaGreatDoor
namespace Go.Proofs.YtlcagndeidjobaaGreatDoor
open Tryz
open Go Go.Dat Go.Proofs Go.RowKit Nat32
theorem x5s {F:FnD} {os:List DOper} {dst:Dst} {te fr:Fr} {H:Hp} {K:Fr→Fr→Hp→Prop} (sz:Nat) (z:List DV) (x:Opd):goW F os dst te fr H K (.clr sz z x)=z0R F os dst te fr H K (opE F.nb dst.slot (ev te fr) (lkH H) (.clr sz z x)):=rfl
theorem y82 {k z o:Nat} {X:List DV} {c:List DV} {fr:Fr} {H:Hp} (ho:o<1048576) (hd:lk fr k=.sl z X):w0h [.t k] [(o,c)] (fun r H'=>r=.sl z X∧H'=[]) .ret fr H:=by
 refine ⟨.inr rfl,[.sl z X],.sl z X,[],⟨rfl,rfl⟩,fun p hp h=>?_,by simp [z4T,y0p,hd],by simp only [y5o];exact z8P _ _ rfl,fun p c h=>by cases h⟩
 simp only [lkH] at h
 rw [if_neg (by omega)] at h;cases h
theorem y2Q (l:List Fac) (hl:l.length≤1000000) (p:Fac→Bool) (v:DV) (g:Nat) (cs:List DV) (hv:z6z v g cs) (hcs:cs.all DV.rf=true) (hg:z0X prog g) (hc:∀f∈l,z0c prog g ([.agg (fcC f)]++cs) (.bool (p f))):z0c prog 242 [.sl 2 (fcs l),v] (.int .i64 (ixP p l)):=by
 have hln:(fcs l).length / 2=l.length:=by rw [z3j];omega
 have hlen:=z3j l
 refine z0b x1p (by simp [y4S]) ?_
 unfold z8L
 refine zS hln ?_
 refine z0s (σ:=Nat) (fun i=>[(0,.sl 2 (fcs l)),(1,v),(7,.int .i64 l.length),(8,.int .i64 i)]) (fun _=>[]) (fun i=>i≤l.length∧∀j,j<i→p (l.getD j default)=false) (fun i=>l.length - i) 0 ⟨Nat.zero_le _,by simp⟩ ?_ rfl ?_
 ·simp [z0v,lk]
 ·rintro i ⟨hi,hall⟩
  try simp only at hi hall ⊢
  by_cases hlt:i<l.length
  ·have dl:decide ((i:Int)<(l.length:Int))=true:=zT9
   have ei:(i:Int).toNat=i:=Int.toNat_natCast i
   have e1:((i:Int)+1)=((i+1:Nat):Int):=by omega
   have hw:((fcs l).drop (i*2)).take 2=fcC (l.getD i default):=z1a (j:=0) z1H default hlt (Nat.le_refl _)
   have cf:=hc _ (z4a hlt)
   have hb6:i*2+2≤(fcs l).length:=by omega
   refine zS dl ?_
   refine wTs ?_
   refine z0d ?_
   refine z0e ?_
   refine z0d ?_
   refine z0g ?_
   refine zD ?_
   refine z0d ?_
   refine z3J [om 11 1,om 12 0,om 13 5,ot 14 (.iad 2 (.t 12) (.t 13)),ot 15 (.ldn 2 (.t 14))] [] (.x 16) (.t 11) [.t 15] rfl ?_
   refine zE (zA ei (zA hlen hw)) ?_
   refine ⟨⟨by omega,by omega⟩,by omega,g,cs,hv,hg,z1K cf (by rw [List.all_append,hcs];rfl) ?_⟩
   cases hp:p (l.getD i default)
   ·have hnx:∀j,j<i+1→p (l.getD j default)=false:=fun j hj=>by
     rcases Nat.lt_or_ge j i with h|h
     ·exact hall j h
     ·obtain rfl:j=i:=by omega
      exact hp
    refine zR ?_
    refine wFs ?_
    refine zS e1 ?_
    exact ⟨i+1,⟨by omega,hnx⟩,by omega,by simp [z0v,lk]⟩
   ·have hx:=y4h default hlt hp hall
    rw [hx]
    refine zR ?_
    refine wT ?_
    refine zR ?_
    exact z0j (z0i (.imm rfl))
  ·have dl:decide ((i:Int)<(l.length:Int))=false:=zF9
   rw [y3P default fun j hj=>hall j (by omega)]
   refine zS dl ?_
   refine z0k rfl (fun h=>by cases h) (fun _=>z0q ?_)
   refine zR ?_
   exact z0j (z0i (.imm rfl))
theorem y7s (S:List Fac) (hl:S.length≤1000000) (p:Fac→Bool) (v:DV) (g:Nat) (cs:List DV) (hv:z6z v g cs) (hcs:cs.all DV.rf=true) (hvr:v.rf=true) (hg:z0X prog g) (hc:∀f,z0c prog g ([.agg (fcC f)]++cs) (.bool (p f))) :
  x28 prog 214 [.osl 2 1000 0 S.length,v] [(1000,fcs S)] (fun r H'=>r=.sl 2 (fcs (S.filter fun x=>!p x))∧H'=[]):=by
 have ci:=y2Q S hl p v g cs hv hcs hg fun f _=>hc f
 have hlen:=z3j S
 have hrl:=z9g S
 have hsq:[DV.osl 2 1000 0 S.length,v].map (slo 1000 (fcs S))=[.sl 2 (fcs S),v]:=by
  have h2:slo 1000 (fcs S) v=v:=by
   cases v<;>first|(cases hvr;done)|simp [slo,hvr]|rfl
  have h3:slo 1000 (fcs S) (.osl 2 1000 0 S.length)=.sl 2 (fcs S):=by
   simp [slo,hlen]
   rw [List.take_of_length_le (by omega)]
  rw [List.map_cons,List.map_cons,List.map_nil,h2,h3]
 have hv0:purge 7 v=v:=z1S 7 hvr
 have hv1:∀cs,frz 7 cs v=v:=fun cs=>by
  have:=z0N 7 cs (cs:=[v]) (by simpa using hvr)
  simpa using this
 have hb:=y9k p S
 have hneg:=@x27 _ p S
 have hzero:=fun k=>@x4E _ p default S k
 refine y53 x3Y (by simp [y5U]) ?_
 unfold z86
 generalize hK:ixP p S=K at *
 refine zR ?_
 refine y6r rfl 1000 ci rfl hrl hsq rfl ?_
 by_cases hk:K = -1
 ·have dk:decide (K = -1)=true:=decide_eq_true hk
  rw [hneg hk]
  refine zS dk ?_
  refine wT ?_
  refine z0E 1000 (cells:=fcs S) rfl (List.all_eq_true.2 hrl) ?_
  have hfz:frz 1000 (fcs S) (.osl 2 1000 0 S.length)=.sl 2 (fcs S):=by
   simp [frz,hlen]
   rw [List.take_of_length_le (by omega)]
  refine zS hfz ?_
  exact z0j (y82 (by decide) rfl)
 ·have dk:decide (K = -1)=false:=decide_eq_false hk
  obtain ⟨k,rfl⟩:∃k:Nat,K=k:=⟨K.toNat,by omega⟩
  have hF:=hzero k rfl
  refine zS dk ?_
  refine wFs ?_
  have e1:((k:Int)+1)=((k+1:Nat):Int):=by omega
  refine zS e1 ?_
  refine z0s (σ:=Nat × Nat × List Fac) (fun s=>[(0,.osl 2 1000 0 S.length),(1,v),(5,.int .i64 s.1),(6,.int .i64 s.2.1)]) (fun s=>[(1000,fcs s.2.2)]) (fun s=>x7Q p S s.1 s.2.1 s.2.2) (fun s:Nat × Nat × List Fac=>S.length - s.2.1) (k,k+1,S) hF ?_ rfl ?_
  ·simp [z0v,lk]
  ·rintro ⟨i,j,A⟩ hI
   try simp only at hI ⊢
   have hAl:=hI.1
   have hij:=hI.2.1
   have hjl:=hI.2.2.1
   have hAx:=z3j A
   by_cases hlt:j<S.length
   ·have dl:decide ((j:Int)<(S.length:Int))=true:=zT9
    have ei:(i:Int).toNat=i:=Int.toNat_natCast i
    have ej:(j:Int).toNat=j:=Int.toNat_natCast j
    have e1:((i:Int)+1)=((i+1:Nat):Int):=by omega
    have e2:((j:Int)+1)=((j+1:Nat):Int):=by omega
    have hw:((fcs A).drop (j*2)).take 2=fcC (S.getD j default):=by
     rw [←x7r default hI hlt]
     exact z1a (j:=0) z1H default (by omega) (Nat.le_refl _)
    have hb4:j*2+2≤(fcs A).length:=by omega
    have hset:(fcs A).take (i*2)++fcC (S.getD j default)++(fcs A).drop (i*2+2)=fcs (A.set i (S.getD j default)):=w2R z1H _ (by omega)
    have cf:=hc (S.getD j default)
    have hkeep:=x1U default hI hlt
    have hskip:=x4t default hI hlt
    have hcc:(DV.agg (fcC (S.getD j default))).cells? = some (fcC (S.getD j default)):=rfl
    have hcl:=z1H (S.getD j default)
    have htk:(fcC (S.getD j default)).take 2=fcC (S.getD j default):=rfl
    have hCrf:=y80 (S.getD j default)
    have hCa:(fcC (S.getD j default)).all DV.rf=true:=List.all_eq_true.2 hCrf
    generalize hX:S.getD j default=x at *
    generalize hC:fcC x=C at *
    refine zS dl ?_
    refine wTs ?_
    refine z0d ?_
    refine z0e ?_
    refine z0d ?_
    refine z0g ?_
    refine zE (zA ei (zA ej (zA hAx (zA hw (zA hcc (zA hcl (zA htk (zA @List.drop_zero.{0} @cS)))))))) ?_
    refine ⟨⟨by omega,by omega⟩,by omega,?_⟩
    refine z0d ?_
    refine z3J [om 26 1,ot 27 (.ldn 2 (.x 7))] [ox 29 (.un .not (.t 28))] (.t 28) (.t 26) [.t 27] rfl ?_
    refine zE (zA ei (zA ej (zA hAx (zA hw (zA hcc (zA hcl (zA htk (zA @List.drop_zero.{0} @cS)))))))) ?_
    refine ⟨g,cs,hv,hg,z1K cf (by simp only [List.cons_append,List.nil_append,List.all_cons,DV.rf_agg,hCa,hcs,Bool.and_self]) ?_⟩
    cases hp:p x
    ·refine zR ?_
     refine wT ?_
     have hf1:=z0N 7 C (z9g (A.set i x))
     refine z0d ?_
     refine z0g ?_
     refine zE (zA ei (zA ej (zA hAx (zA hw (zA hcc (zA hcl (zA htk (zA @List.drop_zero.{0} @cS)))))))) ?_
     refine ⟨⟨by omega,by omega⟩,by omega,?_⟩
     rw [hset]
     refine z0E 7 (cells:=C) rfl hCa ?_
     refine zS (zA e1 (zA e2 (zA hf1 hv1))) ?_
     exact ⟨(i+1,j+1,A.set i x),hkeep hp,by show S.length - (j+1)<S.length - j;omega,by simp [z0v,lk,z1q],rfl⟩
    ·refine zR ?_
     refine wFs ?_
     have hf1:=z0N 7 C (z9g A)
     refine z0E 7 (cells:=C) rfl hCa ?_
     refine zS (zA e2 (zA hf1 hv1)) ?_
     exact ⟨(i,j+1,A),hskip hp,by show S.length - (j+1)<S.length - j;omega,by simp [z0v,lk,z1q],rfl⟩
   ·have dl:decide ((j:Int)<(S.length:Int))=false:=zF9
    obtain rfl:j=S.length:=by omega
    have hend:=x6i hI
    have ei:(i:Int).toNat=i:=Int.toNat_natCast i
    refine zS dl ?_
    refine z0k rfl (fun h=>by cases h) (fun _=>z0q ?_)
    obtain ⟨hr1,hr2⟩:=w4s (S.length - i) (.str []) (.int .i64 0) rfl
    simp (maxSteps:=1000000) (disch:=omega) only [cA,cB,cN,FnD.nb,lk,lkH,Dst.onT,Dst.onX,Dst.slot,z03,z0K,z0M,z00,z0x,z02,unE,cnt,z0l,z0w,z0m,z0o,opE,rmH,z05,z0n,Nat.reduceEqDiff,Nat.reduceLT,Nat.reduceAdd,Nat.reduceMul,Nat.reduceMod,↓reduceIte,reduceCtorEq,Nat.reduceLeDiff]
    refine z0d ?_
    refine z0g ?_
    simp (maxSteps:=1000000) (disch:=omega) only [cA,cB,cN,FnD.nb,lk,lkH,Dst.onT,Dst.onX,Dst.slot,z03,z0K,z0M,z00,z0x,z02,unE,cnt,z0l,z0w,z0m,z0o,opE,rmH,z05,z0n,Nat.reduceEqDiff,Nat.reduceLT,Nat.reduceAdd,Nat.reduceMul,Nat.reduceMod,↓reduceIte,reduceCtorEq,Nat.reduceLeDiff,x5s,ei,hAx]
    refine ⟨⟨by omega,by omega⟩,by omega,?_⟩
    have hil:i<S.length:=by omega
    have htA:(fcs A).take (i*2)=fcs (S.filter fun x=>!p x):=by
     rw [←hend];exact y6h z1H A i
    have hlT:((fcs A).take (i*2)).length=i*2:=by rw [List.length_take];omega
    have hdA:(fcs A).drop (i*2+(S.length - i)*2)=[]:=List.drop_eq_nil_of_le (by omega)
    rw [hdA,List.append_nil,htA]
    rw [htA] at hlT
    obtain ⟨Z,hZ⟩:∃Z,Z=fcs (S.filter fun x=>!p x)++rep (S.length - i) [DV.str [],.int .i64 0]:=⟨_,rfl⟩
    have hZl:Z.length=S.length*2:=by rw [hZ,List.length_append,hr1,hlT];omega
    have hZr:∀d∈Z,d.rf=true:=fun d hd=>by
     rw [hZ,List.mem_append] at hd
     rcases hd with hd|hd
     ·exact z9g _ d hd
     ·exact hr2 d hd
    have hZt:Z.take (i*2)=fcs (S.filter fun x=>!p x):=by rw [hZ,←hlT,List.take_left]
    rw [←hZ]
    refine z0E 1000 (cells:=Z) rfl (List.all_eq_true.2 hZr) ?_
    have hfz:frz 1000 Z (.osl 2 1000 0 S.length)=.sl 2 Z:=by
     simp [frz,hZl]
     rw [List.take_of_length_le (by omega)]
    have hv2:frz 1000 Z v=v:=by
     have:=z0N 1000 Z (cs:=[v]) (by simpa using hvr)
     simpa using this
    have hZc:Z.length / 2=S.length:=by omega
    refine zS (zA hfz (zA hv2 (zA ei (zA hZc (zA hZt (zA @List.drop_zero.{0} @Nat.zero_mul)))))) ?_
    exact z0j (y82 (by decide) rfl)
theorem x0v (l:List Fac) (hl:l.length≤1000000):x28 prog 215 [.sl 2 (fcs l)] [] fun r H'=>r=.osl 2 5 0 l.length∧H'=[(5,fcs l)]:=by
 have hll:=z3j l
 have hrf:=z9g l
 refine y53 x09 (by simp [y06]) ?_
 unfold z69
 by_cases h:l=[]
 ·subst h
  refine z0d ?_
  refine z0g ?_
  refine zD ?_
  refine z0d ?_
  refine z0d ?_
  refine x9v [om 3 0] (.x 4) false (.t 3) rfl ?_
  refine zD ?_
  refine ⟨⟨2,rfl⟩,fun b=>?_⟩
  cases b
  ·refine wFs ?_
   refine zR ?_
   refine ⟨⟨by decide,by decide,fun h=>h,by intro d hd;cases hd⟩,?_⟩
   exact z0j (y6a rfl rfl (by intro d hd;cases hd))
  ·refine wT ?_
   refine zR ?_
   refine z5Z 2 2 5 rfl rfl ?_
   exact z0j (y6a rfl rfl (by intro d hd;cases hd))
 ·have hne:¬fcs l=[]:=fun e=>h (List.eq_nil_of_length_eq_zero (by rw [e] at hll;simp at hll;omega))
  have hpg:=z0h 5 hrf
  have hl5:(fcs l).length / 2=l.length:=by omega
  refine zR ?_
  refine wFs ?_
  refine zS (zA hll (zA hl5 (zA hpg @List.nil_append.{0}))) ?_
  refine ⟨⟨by omega,by omega,fun h=>h,x8W l⟩,?_⟩
  rw [show 0 / 2+l.length*2 / 2=l.length by omega]
  exact z0j (y6a rfl rfl hrf)
theorem x6Q:z0X prog 216:=⟨_,func216,by kernel_rfl,by kernel_rfl⟩
theorem x7g {F:FnD} {os:List DOper} {dst:Dst} {te fr:Fr} {H:Hp} {K:Fr→Fr→Hp→Prop} (b:Bool) (l:List (Nat × Nat)) (x y:Opd):goW F os dst te fr H K (.eqs b l x y)=z0R F os dst te fr H K (opE F.nb dst.slot (ev te fr) (lkH H) (.eqs b l x y)):=rfl
theorem z74 (x f:Fac):z0c prog 216 [.agg (fcC x),.el (fcC f) 0] (.bool (decide (x=f))):=by
 have hq:decide (x=f)=if decide (x.nm=f.nm) then decide (x.pw=f.pw) else false:=by
  obtain ⟨a,b⟩:=x
  obtain ⟨c,d⟩:=f
  simp only [Fac.mk.injEq]
  by_cases h:a=c<;>by_cases h2:b=d<;>simp [h,h2]
 refine z0b y5h (by simp [z7V]) ?_
 unfold z4Z
 refine zS (zA @cS @fcC.eq_1) ?_
 refine ⟨by simp [DV.rf],?_⟩
 refine z0d ?_
 refine z0g ?_
 refine zE (zA @x7g (zA @cS @List.drop_zero.{0})) ?_
 have he:x6P [DV.str x.nm,.int .i64 x.pw] [.str f.nm,.int .i64 f.pw] [(0,2),(1,0)]=some (decide (x=f)):=by
  rw [hq]
  by_cases h:x.nm=f.nm<;>by_cases h2:x.pw=f.pw<;>simp [x6P,eqD,h,h2]
 rw [he]
 simp only [Option.map_some]
 refine zD ?_
 exact z0j (z0i (.imm rfl))
theorem z4o (B:List DV) (t:List Fac) (f:Fac) (c:DV) (r:Bool) (hB:B.all DV.rf=true) (hl:B.length=6) (hc:B.getD 5 .undef=c) (hcr:c.rf=true) (ht:t.length≤1000000)
  (hp:z0c prog 217 [.el B 0,.sl 2 (fcs (t.filter fun x=>!decide (x=f)))] (.bool r)) :
  z0c prog 154 [.el B 0,.sl 2 (fcs t),.agg (fcC f)] (if r then c else .int .i64 4):=by
 have hN:=x0v t ht
 have hD:=y7s t ht (fun x=>decide (x=f)) (.clo 216 [.el (fcC f) 0]) 216 [.el (fcC f) 0] (.inl rfl) (by simp [DV.rf,fcC]) (by simp [DV.rf,fcC]) x6Q fun x=>z74 x f
 have rfB:(DV.el B 0).rf=true:=by simp [DV.rf]
 have rE:∀g,rn g (.el B 0)=.el B 0:=fun g=>z8P _ _ rfB
 have rS:∀g,rn g (.sl 2 (fcs t))=.sl 2 (fcs t):=fun g=>z8P _ _ (by simp [DV.rf])
 unfold fcC at hD
 refine z0b y56 (by simp [z8z]) ?_
 unfold z5Y
 refine zS (zA @cS @fcC.eq_1) ?_
 refine ⟨by simp [DV.rf],?_⟩
 refine zR ?_
 refine y93 200 hN rfl (z9g _) (by decide) (by decide) (by decide) rfl (by simp [DV.rf]) ?_
 refine zE rfB ?_
 refine ⟨by simp [DV.rf],?_⟩
 have rC:∀g,rn g (.clo 216 [.el [.str f.nm,.int .i64 f.pw] 0])=.clo 216 [.el [.str f.nm,.int .i64 f.pw] 0]:=fun g=>z8P _ _ (by simp [DV.rf])
 have rF:∀g,rn g (.el [.str f.nm,.int .i64 f.pw] 0)=.el [.str f.nm,.int .i64 f.pw] 0:=fun g=>z8P _ _ (by simp [DV.rf])
 have rA:∀g,rn g (.agg [.str f.nm,.int .i64 f.pw])=.agg [.str f.nm,.int .i64 f.pw]:=fun g=>z8P _ _ (by simp [DV.rf,DV.rfL])
 refine x6w rfl 200 _ _ (by decide) rfl (z9g _) (by simp [DV.rf]) (by simp [rC];simp [rn,x3a]) hD [] (fun p=>?_) ?_
 ·simp only [lkH]
  by_cases e:p=200
  ·rw [if_pos e]
  ·rw [if_neg e,if_neg (Ne.symm e)];rfl
 simp (maxSteps:=1000000) (disch:=omega) only [cA,cB,cN,FnD.nb,lk,lkH,Dst.onT,Dst.onX,Dst.slot,z03,z0K,z0M,z00,z0x,z02,unE,cnt,z0l,z0w,z0m,z0o,opE,rmH,z05,z0n,Nat.reduceEqDiff,Nat.reduceLT,Nat.reduceAdd,Nat.reduceMul,Nat.reduceMod,↓reduceIte,reduceCtorEq,Nat.reduceLeDiff,rE,rS,rC,rF,rA,rn,x0E]
 have hg5:B.getD 5 .undef=c:=hc
 repeat (first|refine zQ (zA hc hl) ?_|refine cP hp ?_|exact zT)
 cases r
 ·refine wFs ?_
  refine zR ?_
  exact z0j (z0i (.imm rfl))
 ·refine wT ?_
  refine zS (zA hc hl) ?_
  exact z0j (z0i (.imm hcr))
theorem w41 (w:World) (n:Nat) (es:Array MapEntry) (clock:Nat) (k:Int) (v:Value) (h:w.heap[n]? = some (.map es clock)) (hf:Instr.findNow (.int .i64) (.int .i64 k) es.toList 0=some none) :
  (Instr.mapUpdate 256 (.map (some n)) (.int .i64 k) v).run prog w=.ok () { w with heap:=w.heap.setIfInBounds n (.map (es.push ⟨.int .i64 k,v,clock⟩) (clock+1)) }:=by
 have hu:prog.underlying 256=some (.map 3 255):=by kernel_rfl
 have hu3:prog.underlying 3=some (.int .i64):=by kernel_rfl
 unfold Instr.mapUpdate underlying program
 simp only [bind,Sem.bind,pure,Sem.run,hu,getObj,h]
 unfold Instr.checkKey Instr.findKey underlying program
 simp only [bind,Sem.bind,pure,Sem.run,hu3,hf,setObj,h]
theorem x7e (w:World) (es:Array MapEntry) (clock:Nat) (k:Int) (v:Value) (hf:Instr.findNow (.int .i64) (.int .i64 k) es.toList 0=some none) :
  (Instr.mapUpdate 256 (.map (some w.heap.size)) (.int .i64 k) v).run prog (w.alloc (.map es clock))=.ok () (w.alloc (.map (es.push ⟨.int .i64 k,v,clock⟩) (clock+1))):=by
 have h:(w.alloc (.map es clock)).heap[w.heap.size]? = some (.map es clock):=by unfold World.alloc;exact Array.getElem?_push_size
 rw [w41 _ _ es clock k v h hf]
 unfold World.alloc
 congr 2
 apply Array.ext_getElem?
 intro i
 simp only [Array.getElem?_setIfInBounds,Array.getElem?_push,Array.size_push]
 by_cases e:w.heap.size=i
 ·subst e;simp
 ·simp [e,Ne.symm e]
def x9g:Array MapEntry:=#[⟨.int .i64 4,.func (.func 260) #[] #[],0⟩,⟨.int .i64 1,.func (.func 262) #[] #[],1⟩,⟨.int .i64 2,.func (.func 263) #[] #[],2⟩,⟨.int .i64 3,.func (.func 264) #[] #[],3⟩]
set_option maxRecDepth 100000 in
theorem x2J (w:World):Calls prog 245 #[] w fun e w'=>e=.returned (.map (some w.heap.size))∧w'=w.alloc (.map x9g 4):=by
 have hmm:=@run_makeMap prog
 have h1:=x7e w #[] 0 4 (.func (.func 260) #[] #[]) rfl
 have h2:=x7e w #[⟨.int .i64 4,.func (.func 260) #[] #[],0⟩] 1 1 (.func (.func 262) #[] #[]) rfl
 have h3:=x7e w #[⟨.int .i64 4,.func (.func 260) #[] #[],0⟩,⟨.int .i64 1,.func (.func 262) #[] #[],1⟩] 2 2 (.func (.func 263) #[] #[]) rfl
 have h4:=x7e w #[⟨.int .i64 4,.func (.func 260) #[] #[],0⟩,⟨.int .i64 1,.func (.func 262) #[] #[],1⟩,⟨.int .i64 2,.func (.func 263) #[] #[],2⟩] 3 3 (.func (.func 264) #[] #[]) rfl
 simp only [List.push_toArray,List.cons_append,List.nil_append,Nat.zero_add,Nat.reduceAdd] at h1 h2 h3 h4
 go_enter func245,Tryz.ntmps245
 go_wp2
 go_ret
 exact ⟨rfl,rfl⟩
theorem w1L (w:World) (k:Int) (g:Nat) (h:(w.alloc (.map x9g 4)).heap[w.heap.size]? = some (.map x9g 4)) (hk:(k=1∧g=262)∨(k=2∧g=263)∨(k=3∧g=264)∨(k=4∧g=260)) :
  (Instr.lookup 256 (.map (some w.heap.size)) (.int .i64 k) false).run prog (w.alloc (.map x9g 4))=.ok (.func (.func g) #[] #[]) (w.alloc (.map x9g 4)):=by
 have hu:prog.underlying 256=some (.map 3 255):=by kernel_rfl
 have hu3:prog.underlying 3=some (.int .i64):=by kernel_rfl
 have hf:∃i,Instr.findNow (.int .i64) (.int .i64 k) x9g.toList 0=some (some (i,.func (.func g) #[] #[])):=by
  rcases hk with ⟨rfl,rfl⟩|⟨rfl,rfl⟩|⟨rfl,rfl⟩|⟨rfl,rfl⟩<;>exact ⟨_,rfl⟩
 obtain ⟨i,hf⟩:=hf
 unfold Instr.lookup underlying program
 simp only [bind,Sem.bind,pure,Sem.run,hu,getObj,h]
 unfold Instr.checkKey Instr.findKey underlying program
 simp only [bind,Sem.bind,pure,Sem.run,hu3,hf]
 rfl
noncomputable def cmR:Code:=match Tryz.f211.body with|some (.seq _ (.seq _ (.seq r _)))=>r|_=>.skip
set_option maxRecDepth 100000 in
theorem w4R (k:Int) (g:Nat) (hk:(k=1∧g=262)∨(k=2∧g=263)∨(k=3∧g=264)∨(k=4∧g=260)) {fr:Fr} (f0:lk fr 0=.int .i64 k) {Q:Ex→Fr→Hp→Prop} (hQ:Q .norm (z03 fr 6 (.fn g)) []):WC z2l cmR Q fr []:=by
 intro G L a w hK hn hR
 have hn1:G.n=54:=hn.1
 have s0:=hR.slots 0
 rw [show den z2l.vs [] fr 0=lk fr 0 from rfl,f0] at s0
 have e0:=s0.inv_int
 have hl:=w1L w k g (by unfold World.alloc;exact Array.getElem?_push_size) hk
 obtain ⟨tmps,defers⟩:=a
 simp only at e0
 have hz:tmps.size=54:=by have:=hR.size;rw [hn1] at this;exact this
 have e0':tmps[0]'(by omega)=.int .i64 k:=by
  rw [Array.getD_eq_getD_getElem?,Array.getElem?_eq_getElem (by omega)] at e0;exact e0
 show Code.wp prog cmR _ _ w
 unfold cmR Tryz.f211
 dsimp only
 go_wp2_with (go_at_call 245;refine (x2J w).mono ?_;rintro e w5 ⟨rfl,rfl⟩)
 all_goals first|(exfalso;omega)|skip
 have hR2:=hR.still (Ext.alloc (fun _=>False) w (.map x9g 4))
 refine ⟨L,_,[],.norm,⟨by simp [hz,hn1],hR2.defers,fun s=>?_,hR2.heap,hR2.ext,hR2.sLt,hR2.own,hR2.keep,hR2.shp⟩,rfl,hQ⟩
 have h:=hR2.slots s
 simp only [den] at h ⊢
 split
 ·rename_i hs
  rw [if_pos hs] at h
  rw [z91]
  by_cases e6:s=6
  ·subst e6
   rw [if_pos rfl,Array.getD_eq_getD_getElem?,Array.getElem?_setIfInBounds_self_of_lt (by simp;omega)]
   exact .imm (.fn g)
  ·rw [if_neg e6]
   have n14:s≠14:=fun e=>by subst e;revert hs;decide
   have n15:s≠15:=fun e=>by subst e;revert hs;decide
   have n16:s≠16:=fun e=>by subst e;revert hs;decide
   rw [Array.getD_eq_getD_getElem?] at h ⊢
   rw [Array.getElem?_setIfInBounds_ne (Ne.symm e6),Array.getElem?_setIfInBounds_ne (Ne.symm n16),Array.getElem?_setIfInBounds_ne (Ne.symm n15),Array.getElem?_setIfInBounds_ne (Ne.symm n14)]
   exact h
 ·exact .imm (.undef _)
noncomputable def cmA:Code:=match Tryz.f211.body with|some (.seq a _)=>a|_=>.skip
noncomputable def cmB:Code:=match Tryz.f211.body with|some (.seq _ (.seq b _))=>b|_=>.skip
noncomputable def cmZ:Code:=match Tryz.f211.body with|some (.seq _ (.seq _ (.seq _ c)))=>c|_=>.skip
noncomputable def w5x:DC:=match z5A with | .seq _ (.seq b _)=>b|_=>.skip
noncomputable def w5q:DC:=match z5A with | .seq _ (.seq _ (.seq _ c))=>c|_=>.skip
noncomputable def tbC:Tb:=([(244,⟨z29,z2s,z30⟩),(246,⟨z27,z2n,z3W⟩),(260,⟨z3O,z2U,z3m⟩),(262,⟨z3H,z2Y,z3e⟩),(263,⟨z3Z,z2X,z3h⟩),(264,⟨z3T,z2T,z3f⟩),(261,⟨y22,z6u,z8F⟩)],[(80,kI (fun z=>some (Q (z:Rat))))])
theorem x8h:TOK prog tbC:=by
 have h:=TOK.ext y02 (TOK.nil (P:=prog))
 have h:=TOK.cons (f:=261) (e:=⟨y22,z6u,z8F⟩) ⟨rfl,rfl,x6F,_,func261,by kernel_rfl,by kernel_rfl⟩ h
 have h:=TOK.cons (f:=264) (e:=⟨z3T,z2T,z3f⟩) ⟨rfl,rfl,y12,_,func264,by kernel_rfl,by kernel_rfl⟩ h
 have h:=TOK.cons (f:=263) (e:=⟨z3Z,z2X,z3h⟩) ⟨rfl,rfl,y2c,_,func263,by kernel_rfl,by kernel_rfl⟩ h
 have h:=TOK.cons (f:=262) (e:=⟨z3H,z2Y,z3e⟩) ⟨rfl,rfl,y2o,_,func262,by kernel_rfl,by kernel_rfl⟩ h
 have h:=TOK.cons (f:=260) (e:=⟨z3O,z2U,z3m⟩) ⟨rfl,rfl,y2S,_,func260,by kernel_rfl,by kernel_rfl⟩ h
 have h:=TOK.cons (f:=246) (e:=⟨z27,z2n,z3W⟩) ⟨rfl,rfl,z7k,_,func246,by kernel_rfl,by kernel_rfl⟩ h
 have h:=TOK.cons (f:=244) (e:=⟨z29,z2s,z30⟩) ⟨rfl,rfl,z7b,_,func244,by kernel_rfl,by kernel_rfl⟩ h
 exact h
theorem z1I (k n:Nat) (g:Nat) (hk:((k:Int)=1∧g=262)∨((k:Int)=2∧g=263)∨((k:Int)=3∧g=264)∨((k:Int)=4∧g=260))
  (hB:evN tbC 400 z2l w5x [(0,.int .i64 k),(1,.int .i64 n),(4,.nils),(5,.int .i64 0)] [] 1000=some (.norm,[(0,.int .i64 k),(1,.int .i64 n),(4,.nils),(5,.int .i64 0),(13,.bool false)],[],1000))
  (hZ:w4B (evN tbC 400 z2l w5q [(0,.int .i64 k),(1,.int .i64 n),(4,.nils),(5,.int .i64 0),(6,.fn g),(13,.bool false)] [] 1000) y4Z (ctD k n)=true):z0c prog 211 [.int .i64 k,.int .i64 n] (ctD k n):=by
 have hbody:Tryz.f211.body=some (.seq cmA (.seq cmB (.seq cmR cmZ))):=rfl
 refine y99 (F:=z2l) func211 hbody rfl rfl (by kernel_rfl) (by simp [z2l]) ?_
 refine x3l (w1n (c:=.reg [ox 4 (.mv (.c .nils)),ox 5 (.mv (oi 0))]) (by kernel_rfl) ?_)
 refine zR ?_
 refine x3l (w18 x8h (c:=w5x) (by kernel_rfl) rfl rfl hB ?_)
 refine x3l (w4R k g hk rfl ?_)
 exact w27 x8h (c:=w5q) (by kernel_rfl) rfl rfl hZ
theorem z6S:∀ds r,ctK ds=some r→z0c prog 211 ds r:=by
 intro ds r h
 unfold ctK at h
 split at h
 ·rename_i k n
  split at h
  ·rename_i hkn
   cases h
   obtain ⟨k,rfl⟩:∃m:Nat,k=m:=⟨k.toNat,by omega⟩
   obtain ⟨n,rfl⟩:∃m:Nat,n=m:=⟨n.toNat,by omega⟩
   rw [Int.toNat_natCast,Int.toNat_natCast]
   have hk:k=1∨k=2∨k=3∨k=4:=by omega
   have hn:n=2∨n=3:=by omega
   rcases hk with rfl|rfl|rfl|rfl<;>rcases hn with rfl|rfl
   ·exact z1I 1 2 262 (by simp) (by kernel_rfl) (by kernel_rfl)
   ·exact z1I 1 3 262 (by simp) (by kernel_rfl) (by kernel_rfl)
   ·exact z1I 2 2 263 (by simp) (by kernel_rfl) (by kernel_rfl)
   ·exact z1I 2 3 263 (by simp) (by kernel_rfl) (by kernel_rfl)
   ·exact z1I 3 2 264 (by simp) (by kernel_rfl) (by kernel_rfl)
   ·exact z1I 3 3 264 (by simp) (by kernel_rfl) (by kernel_rfl)
   ·exact z1I 4 2 260 (by simp) (by kernel_rfl) (by kernel_rfl)
   ·exact z1I 4 3 260 (by simp) (by kernel_rfl) (by kernel_rfl)
  ·cases h
 ·cases h
theorem z9r (B:List DV) (r:Bool) (hB:B.all DV.rf=true) (hl:B.length=6) (h3:B.getD 3 .undef=.bool r):z0c prog 217 [.el B 0,.sl 2 []] (.bool r):=by
 refine z0b y2P (by simp [z5E]) ?_
 unfold z4j
 have d0:decide ((0:Int)=0)=true:=rfl
 repeat (first|refine z0d ?_|refine z0g ?_|refine z0p ?_|refine z0e ?_|refine And.intro (by omega) ?_|simp (maxSteps:=1000000) (disch:=omega) only [cA,cB,cN,FnD.nb,lk,lkH,Dst.onT,Dst.onX,Dst.slot,z03,z0K,z0M,z00,z0x,z02,unE,cnt,z0l,z0w,z0m,z0o,opE,rmH,z05,z0n,Nat.reduceEqDiff,Nat.reduceLT,Nat.reduceAdd,Nat.reduceMul,Nat.reduceMod,↓reduceIte,reduceCtorEq,Nat.reduceLeDiff,hl,d0,cS])
 refine ⟨by simp [DV.rf],?_⟩
 repeat (first|refine z0d ?_|refine z0g ?_|refine z0p ?_|refine z0e ?_|refine And.intro (by omega) ?_|simp (maxSteps:=1000000) (disch:=omega) only [cA,cB,cN,FnD.nb,lk,lkH,Dst.onT,Dst.onX,Dst.slot,z03,z0K,z0M,z00,z0x,z02,unE,cnt,z0l,z0w,z0m,z0o,opE,rmH,z05,z0n,Nat.reduceEqDiff,Nat.reduceLT,Nat.reduceAdd,Nat.reduceMul,Nat.reduceMod,↓reduceIte,reduceCtorEq,Nat.reduceLeDiff,hl,d0,cS,List.length_nil,Nat.zero_div])
 refine wT ?_
 refine zS (zA hl h3) ?_
 exact z0j (z0i (.imm rfl))
theorem w49:∀ds r,w4U ds=some r→z0c prog 154 ds r:=by
 intro ds r h
 unfold w4U at h
 split at h
 ·rename_i B n p n' p'
  split at h
  ·rename_i hc
   simp only [Bool.and_eq_true,decide_eq_true_eq] at hc
   obtain ⟨⟨⟨hB,hl⟩,rfl⟩,rfl⟩:=hc
   have hm:B.getD 5 .undef∈B:=by
    rw [zO1,zO4 (by omega)];exact List.getElem_mem _
   have h5:=List.all_eq_true.1 hB _ hm
   have key:∀b:Bool,B.getD 3 .undef=.bool b→z0c prog 154 [.el B 0,.sl 2 [.str n,.int .i64 p],.agg [.str n,.int .i64 p]] (if b then B.getD 5 .undef else .int .i64 4):=fun b hb=>by
    have hp:=z9r B b hB hl hb
    exact z4o B [⟨n,p⟩] ⟨n,p⟩ (B.getD 5 .undef) b hB hl rfl h5 (by show 1≤1000000;omega) (by
     have e:fcs ([(⟨n,p⟩:Fac)].filter fun x=>!decide (x=⟨n,p⟩))=[]:=by simp [fcs]
     rw [e];exact hp)
   split at h
   ·rename_i hb;cases h;exact key true hb
   ·rename_i hb;cases h;exact key false hb
   ·cases h
  ·cases h
 ·cases h
abbrev vI (n:Int):DV:=.int .i64 n
def awX:DV:=.agg [.sl 1 [vI 1,vI 2,vI 3],.nils,.sl 1 [vI 0,vI 1,vI 2],.sl 1 [vI 0,vI 1,vI 0]]
def awT:DV:=.agg [vI 3,.sl 4 [.str [121],vI 1,.nils,.sl 5 [.bool false,.bool true,.sl 1 [.int .u32 29],.sl 1 [],vI 0,.bool false,.bool true,.sl 1 [.int .u32 28],.sl 1 [],vI 0,.bool false,.bool true,.sl 1 [.int .u32 27],.sl 1 [],vI 0],.str [120],vI 1,.nils,.sl 5 [.bool false,.bool true,.sl 1 [.int .u32 30],.sl 1 [],vI 0,.bool false,.bool true,.sl 1 [.int .u32 30],.sl 1 [],vI 0,.bool false,.bool true,.sl 1 [.int .u32 30],.sl 1 [],vI 0],.str [103],vI 2,.sl 1 [.str [97],.str [98],.str [99]],.sl 5 [.bool false,.bool false,.nils,.nils,vI 0,.bool false,.bool false,.nils,.nils,vI 1,.bool false,.bool false,.nils,.nils,vI 2],.str [104],vI 2,.sl 1 [.str [117],.str [118]],.sl 5 [.bool false,.bool false,.nils,.nils,vI 0,.bool false,.bool false,.nils,.nils,vI 1,.bool false,.bool false,.nils,.nils,vI 0]]]
def awM:DV:=.agg [.str [121],.bool true,.sl 1 [.sl 2 [.str [104],vI 1]]]
def awL:DV:=.agg [.str [121],.bool false,.sl 1 [.sl 2 [.str [104],vI 1]]]
def awB:DV:=.tup [.agg [.sl 1 [.str [40,73,110,116,101,114,99,101,112,116,41],.str [104,61,118]],.sl 1 [.sl 3 [.bool false,.sl 1 [.int .u32 1],.sl 1 [],.bool false,.sl 1 [],.sl 1 []],.sl 3 [.bool false,.sl 1 [.int .u32 1],.sl 1 [],.bool false,.sl 1 [.int .u32 1],.sl 1 []],.sl 3 [.bool false,.sl 1 [.int .u32 1],.sl 1 [],.bool false,.sl 1 [],.sl 1 []]],.sl 3 [.bool true,.sl 1 [.int .u32 29],.sl 1 [],.bool true,.sl 1 [.int .u32 28],.sl 1 [],.bool true,.sl 1 [.int .u32 27],.sl 1 []],.sl 1 [vI 0,vI 1,vI 2]],vI 0]
def awC:DV:=.tup [.agg [.sl 1 [.str [104,61,117],.str [104,61,118]],.sl 1 [.sl 3 [.bool false,.sl 1 [.int .u32 1],.sl 1 [],.bool false,.sl 1 [],.sl 1 []],.sl 3 [.bool false,.sl 1 [],.sl 1 [],.bool false,.sl 1 [.int .u32 1],.sl 1 []],.sl 3 [.bool false,.sl 1 [.int .u32 1],.sl 1 [],.bool false,.sl 1 [],.sl 1 []]],.sl 3 [.bool true,.sl 1 [.int .u32 29],.sl 1 [],.bool true,.sl 1 [.int .u32 28],.sl 1 [],.bool true,.sl 1 [.int .u32 27],.sl 1 []],.sl 1 [vI 0,vI 1,vI 2]],vI 0]
noncomputable def awK:List (Nat × (List DV→Option DV)):=[(154,w4U),(211,ctK),(29,k2 fun x y=>if smX 9000 x && smX 9000 y && decide (x=qX (xnV x)) && decide (y=qX (xnV y)) then some (.bool (decide (xnV x=xnV y))) else none),(157,k2 fun x y=>if smX 4400 x && smX 4400 y then some (Q (xnV x*xnV y)) else none),(38,k2 fun x y=>if smX 4400 x && smX 4400 y then some (Q (xnV x+xnV y)) else none),(158,k1 fun x=>if smX 9000 x then some (.bool (z5p x.1 x.2.1 x.2.2)) else none),(234,k1 fun x=>if smX 9000 x then some (.int .i64 (xnV x).num.sign) else none),(30,kI fun z=>some (.agg (xnC (qX (y5Y z))))),(44,kI fun z=>some (Q (z:Rat))),(80,kI fun z=>some (Q (z:Rat)))]
theorem x9T:TOK prog ([],awK):=by
 have h:=TOK.nil (P:=prog)
 replace h:=TOK.ext y02 h
 replace h:=TOK.ext y0z h
 replace h:=TOK.ext y94 h
 replace h:=TOK.ext x8P h
 replace h:=TOK.ext x5t h
 replace h:=TOK.ext w3B h
 replace h:=TOK.ext w2V h
 replace h:=TOK.ext x9y h
 replace h:=TOK.ext z6S h
 replace h:=TOK.ext w49 h
 exact h
theorem w5G:z0c prog 8 [awX] awT:=by
 have h:=x9T
 replace h:=h.f func31 [0,1,4,8] [] (by kernel_rfl)
 replace h:=h.f func32 [0,1,4,6] [] (by kernel_rfl)
 replace h:=h.f func8 [0,1,2,3,4,5,6,7,8,21] [72] (by kernel_rfl)
 exact z2R h 4000 (by kernel_rfl)
theorem w5T:z0c prog 9 [.str [121,32,126,32,104]] awM:=by
 have h:=x9T
 replace h:=h.f func120 [0,2,3,7,27] [] (by kernel_rfl)
 replace h:=h.f func121 [0,2,3,21,25,32] [] (by kernel_rfl)
 replace h:=h.f func122 [0,1,4,8] [] (by kernel_rfl)
 replace h:=h.f func123 [0,2,3,7] [] (by kernel_rfl)
 replace h:=h.f func124 [0,1,4,5,12,19,26,33] [] (by kernel_rfl)
 replace h:=h.f func125 [0,1,2,4,5,6,12] [8] (by kernel_rfl)
 replace h:=h.f func126 [0,23] [] (by kernel_rfl)
 replace h:=h.f func127 [0,1,4,5,6,7,16,26,32] [] (by kernel_rfl)
 replace h:=h.f func128 [0,1,2,4,5,15,30] [] (by kernel_rfl)
 replace h:=h.f func129 [0,1,2,4,5,10] [] (by kernel_rfl)
 replace h:=h.f func130 [0,1,3,4,5,9,17] [] (by kernel_rfl)
 replace h:=h.f func131 [0,1,4,5,6,10,19] [] (by kernel_rfl)
 replace h:=h.f func132 [0,1,4,5,6,12,21] [] (by kernel_rfl)
 replace h:=h.f func133 [0,2,3,7,15] [] (by kernel_rfl)
 replace h:=h.f func134 [0,2,3,10,13] [] (by kernel_rfl)
 replace h:=h.f func194 [0,2] [] (by kernel_rfl)
 replace h:=h.f func195 [0,2] [] (by kernel_rfl)
 replace h:=h.f func196 [0,2,3,4,5,6,8,21,35] [] (by kernel_rfl)
 replace h:=h.f func240 [0,2,3,50] [] (by kernel_rfl)
 replace h:=h.f func33 [0,2,3,4,5,6,9,33,40,53] [] (by kernel_rfl)
 replace h:=h.f func34 [0,1,2,3,4,5,6,8,9,10,11,14,38,46,52,61] [] (by kernel_rfl)
 replace h:=h.f func63 [0,2,3,8] [] (by kernel_rfl)
 replace h:=h.f func64 [0,1,7] [] (by kernel_rfl)
 replace h:=h.f func65 [0,1,4,5,6,8,20] [] (by kernel_rfl)
 replace h:=h.f func66 [0,2,21] [] (by kernel_rfl)
 replace h:=h.f func68 [0,1,2,3,28,33,42] [] (by kernel_rfl)
 replace h:=h.f func69 [0,2,3,4,5,9,25] [] (by kernel_rfl)
 replace h:=h.f func70 [0,1,2,6,7,8,9,10,11,12,13,14,15,16,30,40,54,63,67] [] (by kernel_rfl)
 replace h:=h.f func71 [0,1,2,6,7,8,9,10,11,12,13,14,22,24,25,28,46,49,54,62,75,77,81,86,91,96] [] (by kernel_rfl)
 replace h:=h.f func72 [0,1,4,5,9,17] [] (by kernel_rfl)
 replace h:=h.f func73 [0,2,3,5] [] (by kernel_rfl)
 replace h:=h.f func74 [0,1,4,5,6,10,18] [] (by kernel_rfl)
 replace h:=h.f func9 [0,2,3,6] [] (by kernel_rfl)
 exact z2R h 4000 (by kernel_rfl)
theorem w5I:z0c prog 9 [.str [121,32,126,32,104,32,45,32,49]] awL:=by
 have h:=x9T
 replace h:=h.f func120 [0,2,3,7,27] [] (by kernel_rfl)
 replace h:=h.f func121 [0,2,3,21,25,32] [] (by kernel_rfl)
 replace h:=h.f func122 [0,1,4,8] [] (by kernel_rfl)
 replace h:=h.f func123 [0,2,3,7] [] (by kernel_rfl)
 replace h:=h.f func124 [0,1,4,5,12,19,26,33] [] (by kernel_rfl)
 replace h:=h.f func125 [0,1,2,4,5,6,12] [8] (by kernel_rfl)
 replace h:=h.f func126 [0,23] [] (by kernel_rfl)
 replace h:=h.f func127 [0,1,4,5,6,7,16,26,32] [] (by kernel_rfl)
 replace h:=h.f func128 [0,1,2,4,5,15,30] [] (by kernel_rfl)
 replace h:=h.f func129 [0,1,2,4,5,10] [] (by kernel_rfl)
 replace h:=h.f func130 [0,1,3,4,5,9,17] [] (by kernel_rfl)
 replace h:=h.f func131 [0,1,4,5,6,10,19] [] (by kernel_rfl)
 replace h:=h.f func132 [0,1,4,5,6,12,21] [] (by kernel_rfl)
 replace h:=h.f func133 [0,2,3,7,15] [] (by kernel_rfl)
 replace h:=h.f func134 [0,2,3,10,13] [] (by kernel_rfl)
 replace h:=h.f func194 [0,2] [] (by kernel_rfl)
 replace h:=h.f func195 [0,2] [] (by kernel_rfl)
 replace h:=h.f func196 [0,2,3,4,5,6,8,21,35] [] (by kernel_rfl)
 replace h:=h.f func240 [0,2,3,50] [] (by kernel_rfl)
 replace h:=h.f func33 [0,2,3,4,5,6,9,33,40,53] [] (by kernel_rfl)
 replace h:=h.f func34 [0,1,2,3,4,5,6,8,9,10,11,14,38,46,52,61] [] (by kernel_rfl)
 replace h:=h.f func63 [0,2,3,8] [] (by kernel_rfl)
 replace h:=h.f func64 [0,1,7] [] (by kernel_rfl)
 replace h:=h.f func65 [0,1,4,5,6,8,20] [] (by kernel_rfl)
 replace h:=h.f func66 [0,2,21] [] (by kernel_rfl)
 replace h:=h.f func68 [0,1,2,3,28,33,42] [] (by kernel_rfl)
 replace h:=h.f func69 [0,2,3,4,5,9,25] [] (by kernel_rfl)
 replace h:=h.f func70 [0,1,2,6,7,8,9,10,11,12,13,14,15,16,30,40,54,63,67] [] (by kernel_rfl)
 replace h:=h.f func71 [0,1,2,6,7,8,9,10,11,12,13,14,22,24,25,28,46,49,54,62,75,77,81,86,91,96] [] (by kernel_rfl)
 replace h:=h.f func72 [0,1,4,5,9,17] [] (by kernel_rfl)
 replace h:=h.f func73 [0,2,3,5] [] (by kernel_rfl)
 replace h:=h.f func74 [0,1,4,5,6,10,18] [] (by kernel_rfl)
 replace h:=h.f func9 [0,2,3,6] [] (by kernel_rfl)
 exact z2R h 4000 (by kernel_rfl)
theorem w5C:z0c prog 12 [awT,awM,vI 1] awB:=by
 have h:=x9T
 replace h:=h.f func12 [0,1,2,3,4,6,7,8,9,10,11,12,14,15,17,18,20,22,33,38,43,54,59,60,61,62,76,77,78,79,82,83,84,85,91,92,93,94] [1000004,2000027] (by kernel_rfl)
 replace h:=h.f func138 [0,2,3,4,5,6,7,8,21] [] (by kernel_rfl)
 replace h:=h.f func139 [0,1,2,3,5,7,8,9,10] [] (by kernel_rfl)
 replace h:=h.f func140 [0,1,4] [] (by kernel_rfl)
 replace h:=h.f func141 [0,1,2,3] [] (by kernel_rfl)
 replace h:=h.f func142 [0,1,2,4,5,6,38,40,41,42,43,52] [2000002] (by kernel_rfl)
 replace h:=h.f func143 [0,2,4,21,23,24,25,26,48] [] (by kernel_rfl)
 replace h:=h.f func144 [0,1,2] [] (by kernel_rfl)
 replace h:=h.f func145 [0,1,3,4] [] (by kernel_rfl)
 replace h:=h.f func146 [0,1,4] [] (by kernel_rfl)
 replace h:=h.f func149 [0,1,4,5,7,8,9,16] [] (by kernel_rfl)
 replace h:=h.f func150 [0,1,2,3] [] (by kernel_rfl)
 replace h:=h.f func153 [0,1,2,4,6,7,9,11,12,13,32,33,34,35] [] (by kernel_rfl)
 replace h:=h.f func155 [0,1,4,5,7,8,9,16] [] (by kernel_rfl)
 replace h:=h.f func198 [0,1,4] [] (by kernel_rfl)
 replace h:=h.f func199 [0,1,4,5,7,8,9,16] [] (by kernel_rfl)
 replace h:=h.f func200 [0,1,4] [] (by kernel_rfl)
 replace h:=h.f func201 [0,1,2,3] [] (by kernel_rfl)
 replace h:=h.f func202 [0,1,2,3,4,5,15,24] [] (by kernel_rfl)
 replace h:=h.f func203 [0,2] [] (by kernel_rfl)
 replace h:=h.f func204 [0,1,3,4,5,7,8,9,16] [] (by kernel_rfl)
 replace h:=h.f func205 [0,1,4,5,7,8,9,16] [] (by kernel_rfl)
 replace h:=h.f func212 [0,1,4,5,6,7,12,16,17,18,20,28,38] [] (by kernel_rfl)
 replace h:=h.f func213 [0,1,2,4] [] (by kernel_rfl)
 replace h:=h.f func241 [0,1,4,5,7,8,9,16] [] (by kernel_rfl)
 replace h:=h.f func244 [0,1,4] [] (by kernel_rfl)
 replace h:=h.f func246 [0,1,4,6] [] (by kernel_rfl)
 replace h:=h.f func35 [0,2,3,4,5,7,9,23,35,50,59,64,65,66,67,70,71,72,73,86] [] (by kernel_rfl)
 replace h:=h.f func36 [0,2,3,4,5,7,8,9,10,11,12,14,19,31,32,33,34,40,41,42,43,65,70,75,76,77,78] [] (by kernel_rfl)
 replace h:=h.f func37 [0,1,4] [] (by kernel_rfl)
 replace h:=h.f func75 [0,1,2] [2000001] (by kernel_rfl)
 replace h:=h.f func76 [0,1,2,3,4,5,6,16,18,19,20,21,48,49,50,51,52,65,72] [] (by kernel_rfl)
 replace h:=h.f func77 [0,1,2,4,5,6,8,9,10,11,14,15,16,17,18,26,37,38,39,44] [] (by kernel_rfl)
 replace h:=h.f func78 [0,1,2,3,5,7,12,13,14,15,18,19,20,21] [10] (by kernel_rfl)
 replace h:=h.f func79 [0,2] [] (by kernel_rfl)
 replace h:=h.f func81 [0,1,2,5,6,7,14] [] (by kernel_rfl)
 replace h:=h.f func82 [0,1,4] [] (by kernel_rfl)
 replace h:=h.f func83 [0,1,2] [] (by kernel_rfl)
 replace h:=h.f func85 [0,1,2,4,7] [] (by kernel_rfl)
 exact z2R h 4000 (by kernel_rfl)
theorem w5A:z0c prog 12 [awT,awL,vI 1] awC:=by
 have h:=x9T
 replace h:=h.f func12 [0,1,2,3,4,6,7,8,9,10,11,12,14,15,17,18,20,22,33,38,43,54,59,60,61,62,76,77,78,79,82,83,84,85,91,92,93,94] [1000004,2000027] (by kernel_rfl)
 replace h:=h.f func138 [0,2,3,4,5,6,7,8,21] [] (by kernel_rfl)
 replace h:=h.f func139 [0,1,2,3,5,7,8,9,10] [] (by kernel_rfl)
 replace h:=h.f func140 [0,1,4] [] (by kernel_rfl)
 replace h:=h.f func141 [0,1,2,3] [] (by kernel_rfl)
 replace h:=h.f func142 [0,1,2,4,5,6,38,40,41,42,43,52] [2000002] (by kernel_rfl)
 replace h:=h.f func143 [0,2,4,21,23,24,25,26,48] [] (by kernel_rfl)
 replace h:=h.f func144 [0,1,2] [] (by kernel_rfl)
 replace h:=h.f func145 [0,1,3,4] [] (by kernel_rfl)
 replace h:=h.f func146 [0,1,4] [] (by kernel_rfl)
 replace h:=h.f func149 [0,1,4,5,7,8,9,16] [] (by kernel_rfl)
 replace h:=h.f func150 [0,1,2,3] [] (by kernel_rfl)
 replace h:=h.f func153 [0,1,2,4,6,7,9,11,12,13,32,33,34,35] [] (by kernel_rfl)
 replace h:=h.f func155 [0,1,4,5,7,8,9,16] [] (by kernel_rfl)
 replace h:=h.f func198 [0,1,4] [] (by kernel_rfl)
 replace h:=h.f func199 [0,1,4,5,7,8,9,16] [] (by kernel_rfl)
 replace h:=h.f func200 [0,1,4] [] (by kernel_rfl)
 replace h:=h.f func201 [0,1,2,3] [] (by kernel_rfl)
 replace h:=h.f func202 [0,1,2,3,4,5,15,24] [] (by kernel_rfl)
 replace h:=h.f func203 [0,2] [] (by kernel_rfl)
 replace h:=h.f func204 [0,1,3,4,5,7,8,9,16] [] (by kernel_rfl)
 replace h:=h.f func205 [0,1,4,5,7,8,9,16] [] (by kernel_rfl)
 replace h:=h.f func212 [0,1,4,5,6,7,12,16,17,18,20,28,38] [] (by kernel_rfl)
 replace h:=h.f func213 [0,1,2,4] [] (by kernel_rfl)
 replace h:=h.f func241 [0,1,4,5,7,8,9,16] [] (by kernel_rfl)
 replace h:=h.f func244 [0,1,4] [] (by kernel_rfl)
 replace h:=h.f func246 [0,1,4,6] [] (by kernel_rfl)
 replace h:=h.f func35 [0,2,3,4,5,7,9,23,35,50,59,64,65,66,67,70,71,72,73,86] [] (by kernel_rfl)
 replace h:=h.f func36 [0,2,3,4,5,7,8,9,10,11,12,14,19,31,32,33,34,40,41,42,43,65,70,75,76,77,78] [] (by kernel_rfl)
 replace h:=h.f func37 [0,1,4] [] (by kernel_rfl)
 replace h:=h.f func75 [0,1,2] [2000001] (by kernel_rfl)
 replace h:=h.f func76 [0,1,2,3,4,5,6,16,18,19,20,21,48,49,50,51,52,65,72] [] (by kernel_rfl)
 replace h:=h.f func77 [0,1,2,4,5,6,8,9,10,11,14,15,16,17,18,26,37,38,39,44] [] (by kernel_rfl)
 replace h:=h.f func78 [0,1,2,3,5,7,12,13,14,15,18,19,20,21] [10] (by kernel_rfl)
 replace h:=h.f func79 [0,2] [] (by kernel_rfl)
 replace h:=h.f func81 [0,1,2,5,6,7,14] [] (by kernel_rfl)
 replace h:=h.f func82 [0,1,4] [] (by kernel_rfl)
 replace h:=h.f func83 [0,1,2] [] (by kernel_rfl)
 replace h:=h.f func85 [0,1,2,4,7] [] (by kernel_rfl)
 exact z2R h 4000 (by kernel_rfl)
theorem y0l:z0c prog 14 [] (.bool true):=by
 have h:=x9T
 replace h:=TOK.ans w5G h
 replace h:=TOK.ans w5T h
 replace h:=TOK.ans w5I h
 replace h:=TOK.ans w5C h
 replace h:=TOK.ans w5A h
 replace h:=h.f func14 [0,1,2,3,4,5] [] (by kernel_rfl)
 replace h:=h.f func47 [0,1,4,5,10,14,25] [] (by kernel_rfl)
 replace h:=h.f func17 [0,1,4,5,10,14,26] [] (by kernel_rfl)
 exact z2R h 4000 (by kernel_rfl)
theorem z6o (l:List Int) (i:Nat) (hl:l.length≤9223372036854775807):z0c prog 31 [.sl 1 (l.map (.int .i64)),.int .i64 i] (.int .i64 (l.getD i 0)):=by
 have hln:(l.map (DV.int .i64)).length=l.length:=List.length_map _
 refine z0b w3O (by simp [x8i]) ?_
 unfold y8h
 by_cases h:i<l.length
 ·have d1:decide ((i:Int)<(l.length:Int))=true:=zT9
  have ei:(i:Int).toNat=i:=Int.toNat_natCast i
  have hg:(l.map (DV.int .i64)).getD i .undef=.int .i64 (l.getD i 0):=by
   rw [zO1,List.getElem?_map,zO4 h,zO1,zO4 h];rfl
  refine zS (zA hln d1) ?_
  refine wT ?_
  refine zS (zA hln (zA ei hg)) ?_
  exact z0j (z0i (.imm rfl))
 ·have d1:decide ((i:Int)<(l.length:Int))=false:=zF9
  have hg:l.getD i 0=0:=by rw [zO1,List.getElem?_eq_none (by omega)];rfl
  rw [hg]
  refine zS (zA hln d1) ?_
  refine wFs ?_
  refine zR ?_
  exact z0j (z0i (.imm rfl))
theorem y2W {l:List Int} (hb:∀z∈l,-9223372036854775808≤z∧z≤9223372036854775807) (i:Nat) : -9223372036854775808≤l.getD i 0∧l.getD i 0≤9223372036854775807:=by
 by_cases h:i<l.length
 ·rw [zO1,zO4 h];exact hb _ (List.getElem_mem h)
 ·rw [zO1,List.getElem?_eq_none (by omega)];decide
theorem x1n {sz:Nat} {w:World} {L:Nat→Option Nat} {A:Nat→Prop} {v:Value} (h:V w L A .nils v):V w L A (.sl sz []) v:=by
 cases h with
 | imm h=>cases h;exact .imm (.sl0 _ _ _)
theorem x1y {b:Bool} {n:Int} (j:Nat) (d d':DV) (h:[DV.bool b,.bool false,.nils,.nils,.int .i64 n][j]? = some d) (h':(cxC ⟨b,(false,[],[]),n⟩)[j]? = some d') (w:World) (L:Nat→Option Nat) (A:Nat→Prop) (v:Value) (hv:V w L A d v):V w L A d' v:=by
 match j with
 | 0=>cases h;cases h';exact hv
 | 1=>cases h;cases h';exact hv
 | 2=>cases h;cases h';exact x1n hv
 | 3=>cases h;cases h';exact x1n hv
 | 4=>cases h;cases h';exact hv
 | j+5=>simp at h
theorem z41 (v m:Int) (hv : -9223372036854775808≤v∧v≤9223372036854775807) (hm:0<m∧m≤1000):z0c prog 32 [.int .i64 v,.int .i64 m] (.agg (cxC (lvT v m))):=by
 refine z0b x0J (by simp [y0O]) ?_
 unfold z7N lvT
 by_cases h:v<0
 ·have d1:decide (v<0)=true:=decide_eq_true h
  rw [if_pos h]
  refine zS d1 ?_
  refine wT ?_
  refine zS @cS ?_
  refine x57 4 (cells:=[DV.bool true,.bool false,.nils,.nils,.int .i64 0]) (cells':=cxC ⟨true,(false,[],[]),0⟩) rfl rfl x1y ?_
  exact z0j (z0Z rfl rfl rfl (.imm rfl))
 ·have d1:decide (v<0)=false:=decide_eq_false h
  have hm0:decide (m=0)=false:=zF9
  rw [if_neg h]
  refine zS d1 ?_
  refine wFs ?_
  refine zS @cS ?_
  refine x57 4 (cells:=[DV.bool false,.bool false,.nils,.nils,.int .i64 (Int.tmod v m)]) (cells':=cxC ⟨false,(false,[],[]),Int.tmod v m⟩) rfl rfl x1y ?_
  exact z0j (z0Z rfl rfl rfl (.imm rfl))
theorem x7H {s:Bs} {n:Int} {e:DV} (j:Nat) (d d':DV) (h:[DV.str s,.int .i64 n,.nils,e][j]? = some d) (h':[DV.str s,.int .i64 n,.sl 1 [],e][j]? = some d') (w:World) (L:Nat→Option Nat) (A:Nat→Prop) (v:Value) (hv:V w L A d v):V w L A d' v:=by
 match j with
 | 0=>cases h;cases h';exact hv
 | 1=>cases h;cases h';exact hv
 | 2=>cases h;cases h';exact x1n hv
 | 3=>cases h;cases h';exact hv
 | j+4=>simp at h
def hpT (Y X G H:List Int) (i:Nat) (cY cX cG cH:List DV) (y x g h:Nat):Hp :=
 [(1,[.sl 1 (Y.map (.int .i64)),.sl 1 (X.map (.int .i64)),.sl 1 (G.map (.int .i64)),.sl 1 (H.map (.int .i64))]),(2,[.int .i64 0,.nils]),(4,[.str [121],.int .i64 1,.sl 1 [],.osl 5 300 0 y]),(5,[.str [120],.int .i64 1,.sl 1 [],.osl 5 301 0 x]),
  (6,[.str [103],.int .i64 2,.sl 1 [.str [97],.str [98],.str [99]],.osl 5 302 0 g]),(7,[.str [104],.int .i64 2,.sl 1 [.str [117],.str [118]],.osl 5 303 0 h]),(300,cY),(301,cX),(302,cG),(303,cH)]
theorem y2E (Y X G H:List Int) (hY:Y.length≤9223372036854775807) (hX:X.length≤9223372036854775807) (hG:G.length≤9223372036854775807) (hH:H.length≤9223372036854775807)
  (bY:∀z∈Y,-9223372036854775808≤z∧z≤9223372036854775807) (bX:∀z∈X,-9223372036854775808≤z∧z≤9223372036854775807) (bG:∀z∈G,-9223372036854775808≤z∧z≤9223372036854775807) (bH:∀z∈H,-9223372036854775808≤z∧z≤9223372036854775807) :
  z0c prog 8 [.agg [.sl 1 (Y.map (.int .i64)),.sl 1 (X.map (.int .i64)),.sl 1 (G.map (.int .i64)),.sl 1 (H.map (.int .i64))]] (.agg [.int .i64 (min Y.length 10:Nat),.sl 4 (kxs (z95 Y X G H))]):=by
 obtain ⟨n,hn⟩:∃n,n=min Y.length 10:=⟨_,rfl⟩
 have hmn:(if (10:Int)<(Y.length:Int) then (10:Int) else (Y.length:Int))=(n:Int):=by
  split<;>omega
 have hyl:(Y.map (DV.int .i64)).length=Y.length:=List.length_map _
 have hxl:(X.map (DV.int .i64)).length=X.length:=List.length_map _
 unfold z95
 rw [←hn]
 refine z0b x3n (by simp [y4N]) ?_
 unfold z8M
 refine zS (zA hyl (zA hmn @cS)) ?_
 refine ⟨by simp [DV.rf],by simp [DV.rf],?_⟩
 refine x57 4 (cells:=[DV.str [121],.int .i64 1,.nils,.nils]) (cells':=[DV.str [121],.int .i64 1,.sl 1 [],.nils]) rfl rfl x7H ?_
 refine x57 5 (cells:=[DV.str [120],.int .i64 1,.nils,.nils]) (cells':=[DV.str [120],.int .i64 1,.sl 1 [],.nils]) rfl rfl x7H ?_
 refine z2J 4 3 5 300 (cells:=[DV.str [121],.int .i64 1,.sl 1 [],.nils]) rfl rfl rfl ?_
 refine z2J 5 3 5 301 (cells:=[DV.str [120],.int .i64 1,.sl 1 [],.nils]) rfl rfl rfl ?_
 refine z2J 6 3 5 302 (cells:=[DV.str [103],.int .i64 2,.sl 1 [.str [97],.str [98],.str [99]],.nils]) rfl rfl rfl ?_
 refine z2J 7 3 5 303 (cells:=[DV.str [104],.int .i64 2,.sl 1 [.str [117],.str [118]],.nils]) rfl rfl rfl ?_
 have hcY:=z1V
 have h55:5 / 5=1:=rfl
 have pu:∀o p k,p<8→299<o→purge o (.ptr p k)=.ptr p k:=fun o p k h1 h2=>by simp [purge,DV.has,show p≠o by omega]
 have mf:∀o xs l,(cxs l).map (frz o xs)=cxs l:=fun o xs l=>z0N o xs (y1z l)
 have mp:∀o l,(cxs l).map (purge o)=cxs l:=fun o l=>z0h o (y1z l)
 have hbn:∀z,laid [DV.bool false,.bool false,.nils,.nils,.int .i64 0] [(1,3,.agg (xnC (qX (y5Y z))))]=some (cxC (y0i z)):=fun _=>rfl
 have hbl:∀c,laid [DV.bool false,.bool false,.nils,.nils,.int .i64 0] [(0,5,.agg (cxC c))]=some (cxC c):=fun _=>rfl
 refine zR ?_
 refine z0s (σ:=Nat) (fun i=>[(1,.ptr 1 0),(2,.ptr 2 0),(3,.int .i64 n),(4,.ptr 4 0),(5,.ptr 5 0),(6,.ptr 6 0),(7,.ptr 7 0),(8,.int .i64 i)]) (fun i=>hpT Y X G H i (cxs (tbY Y i)) (cxs (tbY X i)) (cxs (tbG G 3 i)) (cxs (tbG H 2 i)) i i i i) (fun i=>i≤n) (fun i=>n - i) 0 (Nat.zero_le _) ?_ rfl ?_
 ·simp [z0v,lk]
 ·intro i hi
  try simp only at hi ⊢
  by_cases hlt:i<n
  ·have dl:decide ((i:Int)<(n:Int))=true:=zT9
   have ei:(i:Int).toNat=i:=Int.toNat_natCast i
   have e1:((i:Int)+1)=((i+1:Nat):Int):=by omega
   have hgY:(Y.map (DV.int .i64)).getD i .undef=.int .i64 (Y.getD i 0):=by
    rw [zO1,List.getElem?_map,zO4 (by omega),zO1,zO4 (by omega)];rfl
   have cY:=z3g (Y.getD i 0) (y2W bY i)
   have aX:=z6o X i hX
   have cX:=z3g (X.getD i 0) (y2W bX i)
   have aG:=z6o G i hG
   have cG:=z41 (G.getD i 0) 3 (y2W bG i) (by decide)
   have aH:=z6o H i hH
   have cH:=z41 (H.getD i 0) 2 (y2W bH i) (by decide)
   have sY:=y8P Y i
   have sX:=y8P X i
   have sG:=y8V G 3 i
   have sH:=y8V H 2 i
   have lY:=hcY (tbY Y i)
   have lX:=hcY (tbY X i)
   have lG:=hcY (tbG G 3 i)
   have lH:=hcY (tbG H 2 i)
   rw [z6Q] at lY lX
   rw [z6n] at lG lH
   refine zS dl ?_
   refine wTs ?_
   unfold hpT
   refine zS (zA ei (zA hyl (zA hgY @cS))) ?_
   refine cP cY ?_
   refine zS (zA hbn (zA hbl (zA @z1C (zA lY (zA h55 (zA pu mp)))))) ?_
   refine ⟨z90 _,⟨by omega,by omega,fun h=>h,y3l _⟩,?_⟩
   rw [sY]
   refine zS (zA pu (zA mp @cS)) ?_
   refine zS @cS ?_
   refine cP aX ?_
   refine zR ?_
   refine cP cX ?_
   refine zS (zA hbn (zA hbl (zA @z1C (zA lX (zA h55 (zA pu mp)))))) ?_
   refine ⟨z90 _,⟨by omega,by omega,fun h=>h,y3l _⟩,?_⟩
   rw [sX]
   refine zS (zA pu (zA mp @cS)) ?_
   refine zS @cS ?_
   refine cP aG ?_
   refine zR ?_
   refine cP cG ?_
   refine zS (zA hbl (zA @z1C (zA lG (zA h55 (zA pu mp))))) ?_
   refine ⟨z90 _,⟨by omega,by omega,fun h=>h,y3l _⟩,?_⟩
   rw [sG]
   refine zS (zA pu (zA mp @cS)) ?_
   refine zS @cS ?_
   refine cP aH ?_
   refine zR ?_
   refine cP cH ?_
   refine zS (zA hbl (zA @z1C (zA lH (zA h55 (zA pu mp))))) ?_
   refine ⟨z90 _,⟨by omega,by omega,fun h=>h,y3l _⟩,?_⟩
   rw [sH]
   refine zS (zA pu (zA mp @cS)) ?_
   refine zS e1 ?_
   exact ⟨i+1,by omega,by omega,by simp [z0v,lk],rfl⟩
  ·have hin:i=n:=by omega
   have dl:decide ((i:Int)<(n:Int))=false:=zF9
   rw [hin] at dl ⊢
   have lY:=hcY (tbY Y n)
   have lX:=hcY (tbY X n)
   have lG:=hcY (tbG G 3 n)
   have lH:=hcY (tbG H 2 n)
   rw [z6Q] at lY lX
   rw [z6n] at lG lH
   have fz:∀o l,frz o (cxs l) (.osl 5 o 0 l.length)=.sl 5 (cxs l):=fun o l=>by
    have:=z1V l
    simp [frz,this];rw [List.take_of_length_le (by omega)]
   have f0:=fz 300 (tbY Y n)
   have f1:=fz 301 (tbY X n)
   have f2:=fz 302 (tbG G 3 n)
   have f3:=fz 303 (tbG H 2 n)
   rw [z6Q] at f0 f1
   rw [z6n] at f2 f3
   have fn:∀o p cs m,p≠o→frz o cs (.osl 5 p 0 m)=.osl 5 p 0 m:=fun o p cs m h=>by simp [frz,h]
   unfold hpT
   refine z0E 300 (cells:=cxs (tbY Y n)) rfl (List.all_eq_true.2 (y1z _)) ?_
   refine z0E 301 (cells:=cxs (tbY X n)) (by simp [rmH,lkH,mf]) (List.all_eq_true.2 (y1z _)) ?_
   refine z0E 302 (cells:=cxs (tbG G 3 n)) (by simp [rmH,lkH,mf]) (List.all_eq_true.2 (y1z _)) ?_
   refine z0E 303 (cells:=cxs (tbG H 2 n)) (by simp [rmH,lkH,mf]) (List.all_eq_true.2 (y1z _)) ?_
   have fp:∀o p cs,p<8→299<o→frz o cs (.ptr p 0)=.ptr p 0:=fun o p cs h1 h2=>by simp [frz,purge,DV.has,show p≠o by omega]
   have hld:∀a b c d:List Tc,laid [DV.str [],.int .i64 0,.nils,.nils,.str [],.int .i64 0,.nils,.nils,.str [],.int .i64 0,.nils,.nils,.str [],.int .i64 0,.nils,.nils] [(0,4,.agg [.str [121],.int .i64 1,.sl 1 [],.sl 5 (cxs a)]),(4,4,.agg [.str [120],.int .i64 1,.sl 1 [],.sl 5 (cxs b)]),(8,4,.agg [.str [103],.int .i64 2,.sl 1 [.str [97],.str [98],.str [99]],.sl 5 (cxs c)]),(12,4,.agg [.str [104],.int .i64 2,.sl 1 [.str [117],.str [118]],.sl 5 (cxs d)])] =
    some (kxs [⟨[121],1,[],a⟩,⟨[120],1,[],b⟩,⟨[103],2,[[97],[98],[99]],c⟩,⟨[104],2,[[117],[118]],d⟩]):=fun _ _ _ _=>rfl
   refine zS (zA dl (zA mf (zA f0 (zA f1 (zA f2 (zA f3 (zA fn fp))))))) ?_
   refine z0k rfl (fun h=>by cases h) (fun _=>z0q ?_)
   refine zS (zA @cS hld) ?_
   refine ⟨fun d hd=>?_,?_⟩
   ·exact x0h z12 _ d hd
   refine zS @cS ?_
   exact z0j (z0Z rfl rfl rfl (.imm rfl))
end Go.Proofs.YtlcagndeidjobaaGreatDoor
namespace Go.Proofs.YtlcagndeidjobaaGreatDoor
open Tryz
open Go Go.Dat Go.Proofs Go.RowKit Go.Shelf Nat32
theorem x7S {x:XN} (h:x8B x=true):w0N x=true:=by
 unfold x8B at h
 simp only [Bool.and_eq_true,Bool.not_eq_true',decide_eq_true_eq] at h
 obtain ⟨⟨h1,h2⟩,h3⟩:=h
 have:x=(false,[],[]):=Prod.ext h1 (Prod.ext h2 h3)
 rw [this];exact w3e
theorem w3H {k:Kx} {x:Tc} (h:x0Z k x=true):y8R k x=true:=by
 unfold x0Z at h
 unfold y8R
 split
 ·rename_i h1
  rw [if_pos h1,Bool.and_eq_true] at h
  rw [x7S h.1,h.2];rfl
 ·rename_i h1
  rw [if_neg h1] at h
  split
  ·rename_i h2;rwa [if_pos h2] at h
  ·rename_i h2
   rw [if_neg h2,Bool.and_eq_true,Bool.and_eq_true] at h
   rw [x7S h.1.1,h.1.2,h.2];rfl
theorem x5x {n:Int} {S:List Kx} (h:x2C n S=true):y9D n S=true∧0≤n∧n≤1024∧S.length≤32∧∀k∈S,(k.ce.length:Int)=n:=by
 unfold x2C at h
 simp only [Bool.and_eq_true,decide_eq_true_eq,List.all_eq_true] at h
 obtain ⟨⟨⟨⟨h1,h2⟩,h3⟩,h4⟩,h5⟩:=h
 refine ⟨?_,h1,h2,h3,fun k hk=>?_⟩
 ·unfold y9D
  simp only [Bool.and_eq_true,decide_eq_true_eq,List.all_eq_true]
  refine ⟨⟨⟨⟨h1,h2⟩,h3⟩,h5⟩,fun k hk=>?_⟩
  have:=h4 k hk
  unfold y5X at this
  unfold x1h
  simp only [Bool.and_eq_true,List.all_eq_true] at this ⊢
  exact ⟨this.1,fun c hc=>w3H (this.2 c hc)⟩
 ·have:=h4 k hk
  unfold y5X x1i at this
  simp only [Bool.and_eq_true,decide_eq_true_eq] at this
  exact this.1.1.2
theorem z1X (n:Int) (S:List Kx) (s:Bs) (h:okT S) (hv:x2C n S=true):z0c prog 42 [.agg [.int .i64 n,.sl 4 (kxs S)],.str s] (.int .i64 (ixS (z1g S) s)):=by
 have hln:(kxs S).length / 4=S.length:=by rw [z1B];omega
 have hlen:=z1B S
 have hl:=h.1
 have hca:(DV.agg [.int .i64 n,.sl 4 (kxs S)]).cells? = some [.int .i64 n,.sl 4 (kxs S)]:=rfl
 have cv:=z28 n S h
 rw [hv] at cv
 refine z0b w0a (by simp [x2u]) ?_
 unfold y4p
 refine zS (zA hca @cS) ?_
 refine cP cv ?_
 refine zR ?_
 refine wFs ?_
 refine zR ?_
 refine z0s (σ:=Nat) (fun i=>[(1,.str s),(2,.ptr 2 0),(5,.int .i64 i)]) (fun _=>[(2,[.int .i64 n,.sl 4 (kxs S)])]) (fun i=>i≤S.length∧∀j,j<i→(z1g S).getD j []≠s) (fun i=>S.length - i) 0 ⟨Nat.zero_le _,by simp⟩ ?_ rfl ?_
 ·simp [z0v,lk]
 ·rintro i ⟨hi,hall⟩
  try simp only at hi hall ⊢
  by_cases hlt:i<S.length
  ·have dl:decide ((i:Int)<(S.length:Int))=true:=zT9
   have ei:(i:Int).toNat=i:=Int.toNat_natCast i
   have e1:((i:Int)+1)=((i+1:Nat):Int):=by omega
   have hkn:(z1g S).getD i []=(S.getD i default).nm:=by
    unfold z1g
    rw [zO1,List.getElem?_map,zO4 hlt,zO1,zO4 hlt];rfl
   have hg0:(kxs S).getD (i*4) .undef=.str (S.getD i default).nm:=z8n (j:=0) z0L default hlt (by decide) .undef
   rw [←hkn] at hg0
   by_cases hs:(z1g S).getD i []=s
   ·have ds:decide ((z1g S).getD i []=s)=true:=decide_eq_true hs
    rw [y8k (by rw [z0Y];exact hlt) hs hall]
    refine zS (zA @cS (zA dl hln)) ?_
    refine wTs ?_
    refine zS (zA @cS (zA ei (zA hlen (zA hg0 ds)))) ?_
    refine wT ?_
    refine zR ?_
    exact z0j (z0i (.imm rfl))
   ·have ds:decide ((z1g S).getD i []=s)=false:=decide_eq_false hs
    refine zS (zA @cS (zA dl hln)) ?_
    refine wTs ?_
    refine zS (zA @cS (zA ei (zA hlen (zA hg0 ds)))) ?_
    refine wFs ?_
    refine zS e1 ?_
    exact ⟨i+1,⟨by omega,fun j hj=>by
     rcases Nat.lt_or_ge j i with h2|h2
     ·exact hall j h2
     ·obtain rfl:j=i:=by omega
      exact hs⟩,by omega,by simp [z0v,lk]⟩
  ·have dl:decide ((i:Int)<(S.length:Int))=false:=zF9
   rw [x2h fun j hj=>hall j (by rw [z0Y] at hj;omega)]
   refine zS (zA @cS (zA dl hln)) ?_
   refine z0k rfl (fun h=>by cases h) (fun _=>z0q ?_)
   refine zR ?_
   exact z0j (z0i (.imm rfl))
end Go.Proofs.YtlcagndeidjobaaGreatDoor
