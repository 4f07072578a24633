/- Lemmas of the walk; no conditions beyond those that each states. -/
import Derived.Lib.ItoaNum
import Derived.Lib.Repeat
import Derived.OpenShut
import Derived.Below
import Derived.Lib.SmallJoins
import Derived.Lib.Bytealg
import Derived.Lib.IndexAny
import Derived.Lib.TrimByte
import Derived.Lib.Strings
import Derived.Laws.RangeAny
import Derived.Lib.DecodeN
import Derived.WalkMore
import Derived.Shelf.RegionOpenPlain
import Derived.Laws.Runes
import Derived.Lib.OthersKept
import Derived.WalkKit
import Derived.Carry
import Derived.Test.YtlcagndeidjobaaGreatDoorD3
import Derived.Test.YtlcagndeidjobaaGreatDoorT2
import Derived.Test.YtlcagndeidjobaaGreatDoorC1
import Derived.Test.YtlcagndeidjobaaGreatDoorC2
import Derived.Test.YtlcagndeidjobaaGreatDoorD4
import Derived.Test.YtlcagndeidjobaaGreatDoorN1
import Derived.Test.YtlcagndeidjobaaGreatDoorT1
import Derived.Test.YtlcagndeidjobaaGreatDoorD5
import Derived.Test.YtlcagndeidjobaaGreatDoorN2
set_option linter.unusedSimpArgs false
set_option linter.unusedVariables false
set_option linter.unnecessarySimpa false
set_option maxHeartbeats 4000000
namespace Go.Proofs.YtlcagndeidjobaaGreatDoor
open Tryz
open Go Go.Dat Go.Proofs Go.RowKit Nat32
theorem z3m (l:List Bs) (s:Bs) (hl:l.length≤9223372036854775807):z0c prog 149 [.sl 1 (z0L l),.str s] (.int .i64 (ixS l s)):=by
 have hll:=z0K l
 refine z0b x0U (by simp [y1j]) ?_
 unfold z7r
 refine zS hll ?_
 refine z0v (σ:=Nat) (fun i=>[(0,.sl 1 (z0L l)),(1,.str s),(7,.int .i64 l.length),(8,.int .i64 i)]) (fun _=>[]) (fun i=>i≤l.length∧∀j,j<i→l.getD j []≠s) (fun i=>l.length - i) 0 ⟨Nat.zero_le _,by simp⟩ ?_ rfl ?_
 ·simp [z0y,lk]
 ·rintro i ⟨hi,hall⟩
  try simp only at hi hall ⊢
  by_cases hlt:i<l.length
  ·have dl:decide ((i:Int)<(l.length:Int))=true:=zT9
   have ei:(i:Int).toNat=i:=Int.toNat_natCast i
   have e1:((i:Int)+1)=((i+1:Nat):Int):=by omega
   have hg:=z1a hlt
   by_cases he:l.getD i []=s
   ·have de:decide (s=l.getD i [])=true:=decide_eq_true he.symm
    have hx:=y9j hlt he hall
    generalize l.getD i []=y at *
    rw [hx]
    refine zS dl ?_
    refine wTs ?_
    refine zS (zA ei (zA hg (zA hll de))) ?_
    refine wT ?_
    refine zR ?_
    exact z0i (z0h (.imm rfl))
   ·have de:decide (s=l.getD i [])=false:=decide_eq_false (Ne.symm he)
    have hnx:∀j,j<i+1→l.getD j []≠s:=fun j hj=>by
     rcases Nat.lt_or_ge j i with h|h
     ·exact hall j h
     ·obtain rfl:j=i:=by omega
      exact he
    generalize l.getD i []=y at *
    refine zS dl ?_
    refine wTs ?_
    refine zS (zA ei (zA hg (zA hll de))) ?_
    refine wFs ?_
    refine zS e1 ?_
    exact ⟨i+1,⟨by omega,hnx⟩,by omega,by simp [z0y,lk]⟩
  ·have dl:decide ((i:Int)<(l.length:Int))=false:=zF9
   rw [x4u fun j hj=>hall j (by omega)]
   refine zS dl ?_
   refine z0l rfl (fun h=>by cases h) (fun _=>z0q ?_)
   refine zR ?_
   exact z0i (z0h (.imm rfl))
theorem z7X (l:List Bs) (s:Bs) (hl:l.length≤9223372036854775807):z0c prog 227 [.sl 1 (z0L l),.str s] (.int .i64 (ixS l s)):=by
 have hll:=z0K l
 refine z0b x67 (by simp [y8Q]) ?_
 unfold y0V
 refine zR ?_
 refine z0v (σ:=Nat) (fun i=>[(0,.sl 1 (z0L l)),(1,.str s),(5,.int .i64 i)]) (fun _=>[]) (fun i=>i≤l.length∧∀j,j<i→l.getD j []≠s) (fun i=>l.length - i) 0 ⟨Nat.zero_le _,by simp⟩ ?_ rfl ?_
 ·simp [z0y,lk]
 ·rintro i ⟨hi,hall⟩
  try simp only at hi hall ⊢
  by_cases hlt:i<l.length
  ·have dl:decide ((i:Int)<(l.length:Int))=true:=zT9
   have ei:(i:Int).toNat=i:=Int.toNat_natCast i
   have e1:((i:Int)+1)=((i+1:Nat):Int):=by omega
   have hg:=z1a hlt
   by_cases he:l.getD i []=s
   ·have de:decide (l.getD i []=s)=true:=decide_eq_true he
    have hx:=y9j hlt he hall
    generalize l.getD i []=y at *
    rw [hx]
    refine zS (zA dl hll) ?_
    refine wTs ?_
    refine zS (zA ei (zA hg (zA hll de))) ?_
    refine wT ?_
    refine zR ?_
    exact z0i (z0h (.imm rfl))
   ·have de:decide (l.getD i []=s)=false:=decide_eq_false he
    have hnx:∀j,j<i+1→l.getD j []≠s:=fun j hj=>by
     rcases Nat.lt_or_ge j i with h|h
     ·exact hall j h
     ·obtain rfl:j=i:=by omega
      exact he
    generalize l.getD i []=y at *
    refine zS (zA dl hll) ?_
    refine wTs ?_
    refine zS (zA ei (zA hg (zA hll de))) ?_
    refine wFs ?_
    refine zS e1 ?_
    exact ⟨i+1,⟨by omega,hnx⟩,by omega,by simp [z0y,lk]⟩
  ·have dl:decide ((i:Int)<(l.length:Int))=false:=zF9
   rw [x4u fun j hj=>hall j (by omega)]
   refine zS (zA dl hll) ?_
   refine z0l rfl (fun h=>by cases h) (fun _=>z0q ?_)
   repeat (first|refine z0d ?_|refine z0g ?_|refine z0p ?_|refine z0f ?_|refine And.intro (by omega) ?_|simp (maxSteps:=1000000) (disch:=omega) only [cA,cB,cN,FnD.nb,lk,lkH,Dst.onT,Dst.onX,Dst.slot,z0W,z0N,z0J,z0X,z0u,z0V,unE,cnt,z0j,z0t,z0m,z0o,opE,rmH,z02,z0n,Nat.reduceEqDiff,Nat.reduceLT,Nat.reduceAdd,Nat.reduceMul,Nat.reduceMod,↓reduceIte,reduceCtorEq,Nat.reduceLeDiff])
   exact z0i (z0h (.imm rfl))
theorem z3z (l:List Bs) (s:Bs) (hl:l.length≤9223372036854775807):z0c prog 198 [.sl 1 (z0L l),.str s] (.bool (decide (0≤ixS l s))):=by
 have ci:=z3m l s hl
 refine z0b y2E (by simp [z5T]) ?_
 unfold z4h
 generalize ixS l s=k at *
 repeat (first|refine z0d ?_|refine z0g ?_|refine z0p ?_|refine z0f ?_|refine And.intro (by omega) ?_|simp (maxSteps:=1000000) (disch:=omega) only [cA,cB,cN,FnD.nb,lk,lkH,Dst.onT,Dst.onX,Dst.slot,z0W,z0N,z0J,z0X,z0u,z0V,unE,cnt,z0j,z0t,z0m,z0o,opE,rmH,z02,z0n,Nat.reduceEqDiff,Nat.reduceLT,Nat.reduceAdd,Nat.reduceMul,Nat.reduceMod,↓reduceIte,reduceCtorEq,Nat.reduceLeDiff]|refine cP ci ?_|exact zT)
theorem x9S (s:Bs) {i:Nat} (h:i<s.length):(s.map z4S).getD i .undef=.int .u8 ((s.getD i 0).toNat:Nat):=by
 rw [zO1,zO1,List.getElem?_map,zO4 h];rfl
theorem y7D (s:Bs) (hs:s.length≤9223372036854775807):z0c prog 143 [.str s] (.bool (z2G s)):=by
 refine z0b w0N (by simp [x3s]) ?_
 unfold y39
 by_cases h1:s=[]
 ·have d1:decide (s=[])=true:=decide_eq_true h1
  have hn:z2G s=false:=by rw [h1];rfl
  rw [hn]
  refine zS d1 ?_
  refine wT ?_
  refine zR ?_
  exact z0i (z0h (.imm rfl))
 ·have d1:decide (s=[])=false:=decide_eq_false h1
  have hp0:0<s.length:=List.length_pos_iff.2 h1
  by_cases h2:32<s.length
  ·have d2:decide ((32:Int)<(s.length:Int))=true:=zT9
   have hn:z2G s=false:=by unfold z2G;rw [decide_eq_false (show ¬s.length≤32 by omega)];simp
   rw [hn]
   refine zS (zA d1 d2) ?_
   refine wT ?_
   refine zR ?_
   exact z0i (z0h (.imm rfl))
  ·have d2:decide ((32:Int)<(s.length:Int))=false:=zF9
   have cl:=z6f (s.getD 0 0)
   have eb:z4S (s.getD 0 0)=.int .u8 ((s.getD 0 0).toNat:Nat):=rfl
   have e0:Int.toNat 0=0:=rfl
   have hnm:z2G s=(x0Z (s.getD 0 0) && (decide (¬s=power) && s.all y4M)):=by
    unfold z2G;rw [decide_eq_true (show 1≤s.length by omega),decide_eq_true (show s.length≤32 by omega)];rfl
   rw [hnm]
   clear hnm
   cases hl:x0Z (s.getD 0 0)
   ·rw [hl] at cl
    refine zS (zA d1 (zA d2 (zA e0 eb))) ?_
    refine cP cl ?_
    refine zR ?_
    refine wT ?_
    refine zR ?_
    exact z0i (z0h (.imm rfl))
   ·rw [hl] at cl
    by_cases hp:s=power
    ·have dp:decide (s=[112,111,119,101,114])=true:=decide_eq_true hp
     rw [decide_eq_false (show ¬¬s=power from fun h=>h hp)]
     refine zS (zA d1 (zA d2 (zA e0 eb))) ?_
     refine cP cl ?_
     refine zS dp ?_
     refine wT ?_
     refine zR ?_
     exact z0i (z0h (.imm rfl))
    ·have dp:decide (s=[112,111,119,101,114])=false:=decide_eq_false hp
     rw [decide_eq_true hp,Bool.true_and,Bool.true_and]
     refine zS (zA d1 (zA d2 (zA e0 eb))) ?_
     refine cP cl ?_
     refine zS dp ?_
     refine wFs ?_
     refine zR ?_
     refine z0v (σ:=Nat) (fun i=>[(0,.str s),(23,.sl 1 (s.map z4S)),(24,.int .i64 s.length),(25,.int .i64 i)]) (fun _=>[]) (fun i=>i≤s.length∧∀j,j<i→y4M (s.getD j 0)=true) (fun i=>s.length - i) 0 ⟨Nat.zero_le _,by simp⟩ ?_ rfl ?_
     ·simp [z0y,lk]
     ·rintro i ⟨hi,hall⟩
      try simp only at hi hall ⊢
      by_cases hlt:i<s.length
      ·have dl:decide ((i:Int)<(s.length:Int))=true:=zT9
       have ei:(i:Int).toNat=i:=Int.toNat_natCast i
       have e1:((i:Int)+1)=((i+1:Nat):Int):=by omega
       have hb:=x9S s hlt
       have hbl:(s.map z4S).length=s.length:=List.length_map _
       have ci:=z6f (s.getD i 0)
       have hin:y4M (s.getD i 0)=(x0Z (s.getD i 0) || (decide (48≤(s.getD i 0).toNat) && decide ((s.getD i 0).toNat≤57)) || decide ((s.getD i 0).toNat=95) || decide ((s.getD i 0).toNat=46)):=rfl
       have hnx:y4M (s.getD i 0)=true→∀j,j<i+1→y4M (s.getD j 0)=true:=fun h j hj=>by
        rcases Nat.lt_or_ge j i with h2|h2
        ·exact hall j h2
        ·obtain rfl:j=i:=by omega
         exact h
       have hno:y4M (s.getD i 0)=false→s.all y4M=false:=fun h=>y3H hlt h
       generalize s.getD i 0=c at *
       have g1:decide ((48:Int)≤(c.toNat:Int))=decide (48≤c.toNat):=z6m 48 c
       have g2:decide ((c.toNat:Int)≤57)=decide (c.toNat≤57):=z6l 57 c
       have g3:decide (¬(c.toNat:Int)=95)=!decide (c.toNat=95):=by rw [←y16 95 c,decide_not];rfl
       have g4:decide (¬(c.toNat:Int)=46)=!decide (c.toNat=46):=by rw [←y16 46 c,decide_not];rfl
       refine zS dl ?_
       refine wTs ?_
       refine zS (zA ei (zA hb hbl)) ?_
       refine cP ci ?_
       generalize x0Z c=b0 at *
       generalize decide (48≤c.toNat)=b1 at *
       generalize decide (c.toNat≤57)=b2 at *
       generalize decide (c.toNat=95)=b3 at *
       generalize decide (c.toNat=46)=b4 at *
       cases hc:(b0 || (b1 && b2) || b3 || b4)
       ·rw [hno (hin.trans hc)]
        simp only [Bool.or_eq_false_iff] at hc
        obtain ⟨⟨⟨rfl,hc2⟩,rfl⟩,rfl⟩:=hc
        cases b1<;>cases b2<;>(try cases hc2)
        all_goals
         repeat (first|refine z0d ?_|refine z0g ?_|refine z0p ?_|refine z0f ?_|refine And.intro (by omega) ?_|simp (maxSteps:=1000000) (disch:=omega) only [cA,cB,cN,FnD.nb,lk,lkH,Dst.onT,Dst.onX,Dst.slot,z0W,z0N,z0J,z0X,z0u,z0V,unE,cnt,z0j,z0t,z0m,z0o,opE,rmH,z02,z0n,Nat.reduceEqDiff,Nat.reduceLT,Nat.reduceAdd,Nat.reduceMul,Nat.reduceMod,↓reduceIte,reduceCtorEq,Nat.reduceLeDiff,g1,g2,g3,g4])
         refine wT ?_
         refine zR ?_
         exact z0i (z0h (.imm rfl))
       ·have hnx2:=hnx (hin.trans hc)
        clear hno hnx hin
        cases b0<;>cases b1<;>cases b2<;>cases b3<;>cases b4<;>(try cases hc)
        all_goals
         repeat (first|refine z0d ?_|refine z0g ?_|refine z0p ?_|refine z0f ?_|refine And.intro (by omega) ?_|simp (maxSteps:=1000000) (disch:=omega) only [cA,cB,cN,FnD.nb,lk,lkH,Dst.onT,Dst.onX,Dst.slot,z0W,z0N,z0J,z0X,z0u,z0V,unE,cnt,z0j,z0t,z0m,z0o,opE,rmH,z02,z0n,Nat.reduceEqDiff,Nat.reduceLT,Nat.reduceAdd,Nat.reduceMul,Nat.reduceMod,↓reduceIte,reduceCtorEq,Nat.reduceLeDiff,g1,g2,g3,g4])
         refine wFs ?_
         refine zS e1 ?_
         exact ⟨i+1,⟨by omega,hnx2⟩,by omega,by simp [z0y,lk]⟩
      ·have dl:decide ((i:Int)<(s.length:Int))=false:=zF9
       rw [x8B (p:=y4M) (s:=s) fun j hj=>hall j (by omega)]
       refine zS dl ?_
       refine z0l rfl (fun h=>by cases h) (fun _=>z0q ?_)
       refine zR ?_
       exact z0i (z0h (.imm rfl))
theorem y5T (l:List Bs) (hl:l.length≤9223372036854775807) (hs:∀s∈l,s.length≤9223372036854775807):z0c prog 138 [.sl 1 (z0L l)] (.bool (z55 l)):=by
 have hll:=z0K l
 refine z0b x66 (by simp [y8P]) ?_
 unfold y0U
 refine zS hll ?_
 refine z0v (σ:=Nat) (fun i=>[(0,.sl 1 (z0L l)),(5,.sl 1 (z0L l)),(6,.int .i64 l.length),(7,.int .i64 i)]) (fun _=>[]) (fun i=>i≤l.length∧∀j,j<i→(z2G (l.getD j []) && decide (ixS (l.take j) (l.getD j [])<0))=true) (fun i=>l.length - i) 0 ⟨Nat.zero_le _,by simp⟩ ?_ rfl ?_
 ·simp [z0y,lk]
 ·rintro i ⟨hi,hall⟩
  try simp only at hi hall ⊢
  by_cases hlt:i<l.length
  ·have dl:decide ((i:Int)<(l.length:Int))=true:=zT9
   have ei:(i:Int).toNat=i:=Int.toNat_natCast i
   have e1:((i:Int)+1)=((i+1:Nat):Int):=by omega
   have hg:=z1a hlt
   have hm:=z1J hlt
   have htk:=y5Q l i
   have cn:=y7D (l.getD i []) (hs _ hm)
   have ck:=z3z (l.take i) (l.getD i []) (by rw [List.length_take];omega)
   have hnx:(z2G (l.getD i []) && decide (ixS (l.take i) (l.getD i [])<0))=true→∀j,j<i+1→(z2G (l.getD j []) && decide (ixS (l.take j) (l.getD j [])<0))=true:=fun h j hj=>by
    rcases Nat.lt_or_ge j i with h2|h2
    ·exact hall j h2
    ·obtain rfl:j=i:=by omega
     exact h
   have hno:=z7L hlt
   have hdn:decide (0≤ixS (l.take i) (l.getD i []))=!decide (ixS (l.take i) (l.getD i [])<0):=by
    rw [←decide_not];exact decide_eq_decide.2 (by omega)
   rw [hdn] at ck
   generalize decide (ixS (l.take i) (l.getD i [])<0)=b1 at *
   generalize l.getD i []=s at *
   refine zS dl ?_
   refine wTs ?_
   refine zS (zA ei (zA hg hll)) ?_
   refine cP cn ?_
   cases hnb:z2G s
   ·rw [hnb,Bool.false_and] at hno
    rw [hno rfl]
    refine zS (zA ei (zA hll htk)) ?_
    refine wT ?_
    refine zR ?_
    exact z0i (z0h (.imm rfl))
   ·rw [hnb,Bool.true_and] at hno hnx
    refine zS (zA ei (zA hll (zA htk hg))) ?_
    refine cP ck ?_
    cases b1
    ·rw [hno rfl]
     refine zR ?_
     refine wT ?_
     refine zR ?_
     exact z0i (z0h (.imm rfl))
    ·refine zR ?_
     refine wFs ?_
     refine zS e1 ?_
     exact ⟨i+1,⟨by omega,hnx rfl⟩,by omega,by simp [z0y,lk]⟩
  ·have dl:decide ((i:Int)<(l.length:Int))=false:=zF9
   rw [z9C fun j hj=>hall j (by omega)]
   refine zS dl ?_
   refine z0l rfl (fun h=>by cases h) (fun _=>z0q ?_)
   refine zR ?_
   exact z0i (z0h (.imm rfl))
theorem y3s (l:List Bs) (hl:l.length≤9223372036854775807) (hs:∀s∈l,s.length≤9223372036854775807):z0c prog 171 [.sl 1 (z0L l)] (.bool (z55 l)):=by
 have hll:=z0K l
 refine z0b x4q (by simp [y4D]) ?_
 unfold z8O
 repeat (first|refine z0d ?_|refine z0g ?_|refine z0p ?_|refine z0f ?_|refine And.intro (by omega) ?_|simp (maxSteps:=1000000) (disch:=omega) only [cA,cB,cN,FnD.nb,lk,lkH,Dst.onT,Dst.onX,Dst.slot,z0W,z0N,z0J,z0X,z0u,z0V,unE,cnt,z0j,z0t,z0m,z0o,opE,rmH,z02,z0n,Nat.reduceEqDiff,Nat.reduceLT,Nat.reduceAdd,Nat.reduceMul,Nat.reduceMod,↓reduceIte,reduceCtorEq,Nat.reduceLeDiff,hll])
 refine z0v (σ:=Nat) (fun i=>[(0,.sl 1 (z0L l)),(3,.int .i64 i)]) (fun _=>[]) (fun i=>i≤l.length∧∀j,j<i→(z2G (l.getD j []) && decide (ixS (l.take j) (l.getD j [])<0))=true) (fun i=>l.length - i) 0 ⟨Nat.zero_le _,by simp⟩ ?_ rfl ?_
 ·simp [z0y,lk]
 ·rintro i ⟨hi,hall⟩
  try simp only at hi hall ⊢
  by_cases hlt:i<l.length
  ·have dl:decide ((i:Int)<(l.length:Int))=true:=zT9
   have ei:(i:Int).toNat=i:=Int.toNat_natCast i
   have e1:((i:Int)+1)=((i+1:Nat):Int):=by omega
   have hg:=z1a hlt
   have hm:=z1J hlt
   have htk:=y5Q l i
   have cn:=y7K (l.getD i []) (hs _ hm)
   have ck:=z7X (l.take i) (l.getD i []) (by rw [List.length_take];omega)
   have hnx:(z2G (l.getD i []) && decide (ixS (l.take i) (l.getD i [])<0))=true→∀j,j<i+1→(z2G (l.getD j []) && decide (ixS (l.take j) (l.getD j [])<0))=true:=fun h j hj=>by
    rcases Nat.lt_or_ge j i with h2|h2
    ·exact hall j h2
    ·obtain rfl:j=i:=by omega
     exact h
   have hno:=z7L hlt
   have hdn:decide (0≤ixS (l.take i) (l.getD i []))=!decide (ixS (l.take i) (l.getD i [])<0):=by
    rw [←decide_not];exact decide_eq_decide.2 (by omega)
   generalize decide (ixS (l.take i) (l.getD i [])<0)=b1 at *
   generalize ixS (l.take i) (l.getD i [])=z at *
   generalize l.getD i []=s at *
   repeat (first|refine z0d ?_|refine z0g ?_|refine z0p ?_|refine z0f ?_|refine And.intro (by omega) ?_|simp (maxSteps:=1000000) (disch:=omega) only [cA,cB,cN,FnD.nb,lk,lkH,Dst.onT,Dst.onX,Dst.slot,z0W,z0N,z0J,z0X,z0u,z0V,unE,cnt,z0j,z0t,z0m,z0o,opE,rmH,z02,z0n,Nat.reduceEqDiff,Nat.reduceLT,Nat.reduceAdd,Nat.reduceMul,Nat.reduceMod,↓reduceIte,reduceCtorEq,Nat.reduceLeDiff,dl,hll])
   refine wTs ?_
   refine zS (zA ei (zA hg hll)) ?_
   refine cP cn ?_
   cases hnb:z2G s
   ·rw [hnb,Bool.false_and] at hno
    rw [hno rfl]
    refine zS (zA ei (zA hll htk)) ?_
    refine wT ?_
    refine zR ?_
    exact z0i (z0h (.imm rfl))
   ·rw [hnb,Bool.true_and] at hno hnx
    refine zS (zA ei (zA hll (zA htk hg))) ?_
    refine cP ck ?_
    cases b1
    ·have dz:decide (0≤z)=true:=hdn
     rw [hno rfl]
     refine zS dz ?_
     refine wT ?_
     refine zR ?_
     exact z0i (z0h (.imm rfl))
    ·have dz:decide (0≤z)=false:=hdn
     refine zS dz ?_
     refine wFs ?_
     refine zS e1 ?_
     exact ⟨i+1,⟨by omega,hnx rfl⟩,by omega,by simp [z0y,lk]⟩
  ·have dl:decide ((i:Int)<(l.length:Int))=false:=zF9
   rw [z9C fun j hj=>hall j (by omega)]
   refine zS (zA dl hll) ?_
   refine z0l rfl (fun h=>by cases h) (fun _=>z0q ?_)
   refine zR ?_
   exact z0i (z0h (.imm rfl))
end Go.Proofs.YtlcagndeidjobaaGreatDoor
namespace Go.Proofs.YtlcagndeidjobaaGreatDoor
open Tryz
open Go Go.Dat Go.Proofs Nat32
open Go.Lib (decDigits repeatL)
theorem x5v (n:Nat) (hn:n≤4294967295):z0c prog 209 [.int .i64 n] (.str (decDigits n)):=by
 obtain ⟨g,hg⟩:=Option.isSome_iff_exists.1 (show (prog.globalNamed tabName).isSome=true by kernel_rfl)
 refine y55 hg fun w ht=>?_
 have h:=Tryz.strconv_Itoa (n:Int) (by omega) (by omega) w ht
 have e:Go.Lib.itoa (n:Int)=decDigits n:=by unfold Go.Lib.itoa;rw [if_neg (by omega),Int.toNat_natCast]
 rwa [e] at h
end Go.Proofs.YtlcagndeidjobaaGreatDoor
namespace Go.Proofs.YtlcagndeidjobaaGreatDoor
open Tryz
open Go Go.Dat Go.Proofs Go.RowKit Nat32
theorem z9Y (rs:List Bs):(z0L rs).all DV.rf=true:=by
 refine List.all_eq_true.2 fun d hd=>?_
 unfold z0L at hd
 obtain ⟨r,_,rfl⟩:=List.mem_map.1 hd
 rfl
theorem y6A {F:FnD} {os:List DOper} {dst:Dst} {te fr:Fr} {H:Hp} {K:Fr→Fr→Hp→Prop} (sz:Nat) (z:List DV) (x:Opd):goW F os dst te fr H K (.clr sz z x)=z0Q F os dst te fr H K (opE F.nb dst.slot (ev te fr) (lkH H) (.clr sz z x)):=rfl
theorem y3i (l:List Kx) (hl:l.length≤1000000) (p:Kx→Bool) (v:DV) (g:Nat) (cs:List DV) (hv:z6N v g cs) (hcs:cs.all DV.rf=true) (hg:z0U prog g) (hc:∀f∈l,z0c prog g ([.agg (kxC f)]++cs) (.bool (p f))):z0c prog 199 [.sl 4 (kxs l),v] (.int .i64 (ixP p l)):=by
 have hln:(kxs l).length / 4=l.length:=by rw [z1X];omega
 have hlen:=z1X l
 refine z0b x4k (by simp [y4x]) ?_
 unfold z8I
 repeat (first|refine z0d ?_|refine z0g ?_|refine z0p ?_|refine z0f ?_|refine And.intro (by omega) ?_|simp (maxSteps:=1000000) (disch:=omega) only [cA,cB,cN,FnD.nb,lk,lkH,Dst.onT,Dst.onX,Dst.slot,z0W,z0N,z0J,z0X,z0u,z0V,unE,cnt,z0j,z0t,z0m,z0o,opE,rmH,z02,z0n,Nat.reduceEqDiff,Nat.reduceLT,Nat.reduceAdd,Nat.reduceMul,Nat.reduceMod,↓reduceIte,reduceCtorEq,Nat.reduceLeDiff,hln])
 refine z0v (σ:=Nat) (fun i=>[(0,.sl 4 (kxs l)),(1,v),(7,.int .i64 l.length),(8,.int .i64 i)]) (fun _=>[]) (fun i=>i≤l.length∧∀j,j<i→p (l.getD j default)=false) (fun i=>l.length - i) 0 ⟨Nat.zero_le _,by simp⟩ ?_ rfl ?_
 ·simp [z0y,lk]
 ·rintro i ⟨hi,hall⟩
  try simp only at hi hall ⊢
  by_cases hlt:i<l.length
  ·have dl:decide ((i:Int)<(l.length:Int))=true:=zT9
   have ei:(i:Int).toNat=i:=Int.toNat_natCast i
   have e1:((i:Int)+1)=((i+1:Nat):Int):=by omega
   have hw:((kxs l).drop (i*4)).take 4=kxC (l.getD i default):=z1m (j:=0) z00 default hlt (Nat.le_refl _)
   have cf:=hc _ (z6j hlt)
   have hb6:i*4+4≤(kxs l).length:=by omega
   refine zS dl ?_
   refine wTs ?_
   refine z0d ?_
   refine z0f ?_
   refine z0d ?_
   refine z0g ?_
   refine zD ?_
   refine z0d ?_
   refine z3D [om 11 1,om 12 0,om 13 5,ot 14 (.iad 4 (.t 12) (.t 13)),ot 15 (.ldn 4 (.t 14))] [] (.x 16) (.t 11) [.t 15] rfl ?_
   refine zE (zA ei (zA hlen hw)) ?_
   refine ⟨⟨by omega,by omega⟩,by omega,g,cs,hv,hg,z1G cf (by rw [List.all_append,hcs];rfl) ?_⟩
   cases hp:p (l.getD i default)
   ·have hnx:∀j,j<i+1→p (l.getD j default)=false:=fun j hj=>by
     rcases Nat.lt_or_ge j i with h|h
     ·exact hall j h
     ·obtain rfl:j=i:=by omega
      exact hp
    refine zR ?_
    refine wFs ?_
    refine zS e1 ?_
    exact ⟨i+1,⟨by omega,hnx⟩,by omega,by simp [z0y,lk]⟩
   ·have hx:=y4U default hlt hp hall
    rw [hx]
    refine zR ?_
    refine wT ?_
    refine zR ?_
    exact z0i (z0h (.imm rfl))
  ·have dl:decide ((i:Int)<(l.length:Int))=false:=zF9
   rw [y4V default fun j hj=>hall j (by omega)]
   refine zS dl ?_
   refine z0l rfl (fun h=>by cases h) (fun _=>z0q ?_)
   refine zR ?_
   exact z0i (z0h (.imm rfl))
end Go.Proofs.YtlcagndeidjobaaGreatDoor
namespace Go.Proofs.YtlcagndeidjobaaGreatDoor
open Tryz
open Go Go.Dat Go.Proofs Go.RowKit Go.Shelf Nat32
theorem z9F (a b:Int) (ha:a.natAbs≤1000000) (hb:b≠0) (hb2:b.natAbs≤1000000):z0c prog 62 [.int .i64 a,.int .i64 b] (Q (Rat.divInt a b)):=by
 have c1:=z3l a (by omega) (by omega)
 have c2:=z3l b (by omega) (by omega)
 have il1:∀z:Int,z.natAbs≤1000000→il z≤9000:=fun z hz=>Nat.le_trans (z0B.2 (show z.natAbs<4294967296 ^ 1 by omega)) (by decide)
 have c3:=z3b a b hb (il1 a ha) (il1 b hb2)
 refine z0b y6K (by simp [z9d]) ?_
 unfold z5H
 generalize Rat.divInt a b=r at *
 have hx3:(xnC (qX r)).length=3:=rfl
 have hcc:(Q r).cells? = some (xnC (qX r)):=rfl
 repeat (first|refine zP ?_|refine cP c1 ?_|refine cP c2 ?_|refine cP c3 ?_|exact zT)
 refine zS (zA hcc (zA hx3 @cS)) ?_
 exact z0i (z07 rfl rfl rfl (.imm rfl))
theorem x2b {α:Type} [Inhabited α] {p:α→Bool} {l:List α} (h:∀j,j<l.length→p (l.getD j default)=true):l.all p=true:=by
 rw [List.all_eq_true]
 intro x hx
 obtain ⟨i,hi,rfl⟩:=List.getElem_of_mem hx
 have:=h i hi
 rw [zO1,zO4 hi] at this
 simpa using this
theorem x8A {α:Type} [Inhabited α] {p:α→Bool} {l:List α} {i:Nat} (hi:i<l.length) (h:p (l.getD i default)=false):l.all p=false:=by
 rw [List.all_eq_false]
 exact ⟨_,z6j hi,by rw [h];decide⟩
end Go.Proofs.YtlcagndeidjobaaGreatDoor
namespace Go.Proofs.YtlcagndeidjobaaGreatDoor
open Tryz
open Go Go.Dat Go.Proofs Go.RowKit Nat32
theorem y7C (k:Kx) (x:Tc) (hx:y9z x.va):z0c prog 202 [.agg (kxC k),.agg (cxC x)] (.bool (y8H k x)):=by
 obtain ⟨u1,u2,u3,u4⟩:=hx
 have cv:z0c prog 158 [.agg (xnC x.va)] (.bool (z5p x.va.1 x.va.2.1 x.va.2.2)):=z4v _ _ _ (by omega) (by omega) u1 u2
 have cs:z0c prog 234 [.agg (xnC x.va)] (.int .i64 (xnV x.va).num.sign):=z9K _ _ _ (by omega) (by omega) u1 u2
 have hck:(DV.agg (kxC k)).cells? = some (kxC k):=rfl
 have hcx:(DV.agg (cxC x)).cells? = some (cxC x):=rfl
 have l4:=z00 k
 have l5:=z1V x
 have n0:(cxC x).getD 0 .undef=.bool x.mi:=rfl
 have n1:((cxC x).drop 1).take 3=xnC x.va:=rfl
 have n4:(cxC x).getD 4 .undef=.int .i64 x.lv:=rfl
 have m1:(kxC k).getD 1 .undef=.int .i64 k.kd:=rfl
 have m2:(kxC k).getD 2 .undef=.sl 1 (z0L k.le):=rfl
 have hll:=z0K k.le
 refine z0b w0M (by simp [x3r]) ?_
 unfold y38 y8H w2C
 have hlv:decide (x.lv<(k.le.length:Int))=decide (x.lv<k.le.length):=rfl
 generalize z5p x.va.1 x.va.2.1 x.va.2.2=v at *
 generalize (xnV x.va).num.sign=z at *
 obtain ⟨bz,dz⟩:∃b,decide (z=0)=b:=⟨_,rfl⟩
 obtain ⟨b1,d1⟩:∃b,decide (k.kd=1)=b:=⟨_,rfl⟩
 obtain ⟨b0,d0⟩:∃b,decide (0≤x.lv)=b:=⟨_,rfl⟩
 obtain ⟨bl,dl⟩:∃b,decide (x.lv=0)=b:=⟨_,rfl⟩
 have hk1:(if k.kd=1 then v && decide (x.lv=0) else (v && decide (z=0)) && decide (0≤x.lv) && decide (x.lv<k.le.length))=if b1=true then v && bl else (v && bz) && b0 && decide (x.lv<k.le.length):=by
  rw [←d1,dz,d0,dl]
  by_cases h:k.kd=1<;>simp [h]
 rw [hk1,dz,dl]
 cases hm:x.mi
 all_goals rw [hm] at n0
 ·have hif:(if (false:Bool)=true then (v && bz) && bl else (if b1=true then v && bl else (v && bz) && b0 && decide (x.lv<k.le.length)))=(if b1=true then v && bl else (v && bz) && b0 && decide (x.lv<k.le.length)):=rfl
  rw [hif]
  cases b1
  ·have hi2:(if (false:Bool)=true then v && bl else (v && bz) && b0 && decide (x.lv<k.le.length))=((v && bz) && b0 && decide (x.lv<k.le.length)):=rfl
   rw [hi2]
   cases v
   ·refine zS (zA hck (zA hcx (zA l4 (zA l5 (zA n0 (zA n1 (zA n4 (zA m1 (zA m2 (zA hll (zA dz (zA d1 (zA d0 (zA dl (zA @cS @List.drop_zero.{0}))))))))))))))) ?_
    refine cP cv ?_
    refine zS (zA hck (zA hcx (zA l4 (zA l5 (zA n0 (zA n1 (zA n4 (zA m1 (zA m2 (zA hll (zA dz (zA d1 (zA d0 (zA dl (zA @cS @List.drop_zero.{0}))))))))))))))) ?_
    refine wF ?_
    refine zS (zA hck (zA hcx (zA l4 (zA l5 (zA n0 (zA n1 (zA n4 (zA m1 (zA m2 (zA hll (zA dz (zA d1 (zA d0 (zA dl (zA @cS @List.drop_zero.{0}))))))))))))))) ?_
    refine wFs ?_
    refine zS (zA hck (zA hcx (zA l4 (zA l5 (zA n0 (zA n1 (zA n4 (zA m1 (zA m2 (zA hll (zA dz (zA d1 (zA d0 (zA dl (zA @cS @List.drop_zero.{0}))))))))))))))) ?_
    exact z0i (z0h (.imm rfl))
   ·cases bz<;>cases b0
    all_goals
     refine zS (zA hck (zA hcx (zA l4 (zA l5 (zA n0 (zA n1 (zA n4 (zA m1 (zA m2 (zA hll (zA dz (zA d1 (zA d0 (zA dl (zA @cS @List.drop_zero.{0}))))))))))))))) ?_
     refine cP cv ?_
     refine zS (zA hck (zA hcx (zA l4 (zA l5 (zA n0 (zA n1 (zA n4 (zA m1 (zA m2 (zA hll (zA dz (zA d1 (zA d0 (zA dl (zA @cS @List.drop_zero.{0}))))))))))))))) ?_
     refine cP cs ?_
     refine zS (zA hck (zA hcx (zA l4 (zA l5 (zA n0 (zA n1 (zA n4 (zA m1 (zA m2 (zA hll (zA dz (zA d1 (zA d0 (zA dl (zA @cS @List.drop_zero.{0}))))))))))))))) ?_
     refine wF ?_
     refine zS (zA hck (zA hcx (zA l4 (zA l5 (zA n0 (zA n1 (zA n4 (zA m1 (zA m2 (zA hll (zA dz (zA d1 (zA d0 (zA dl (zA @cS @List.drop_zero.{0}))))))))))))))) ?_
     refine wFs ?_
     refine zS (zA hck (zA hcx (zA l4 (zA l5 (zA n0 (zA n1 (zA n4 (zA m1 (zA m2 (zA hll (zA dz (zA d1 (zA d0 (zA dl (zA @cS @List.drop_zero.{0}))))))))))))))) ?_
     exact z0i (z0h (.imm rfl))
  ·have hi2:(if (true:Bool)=true then v && bl else (v && bz) && b0 && decide (x.lv<k.le.length))=(v && bl):=rfl
   rw [hi2]
   cases v
   ·refine zS (zA hck (zA hcx (zA l4 (zA l5 (zA n0 (zA n1 (zA n4 (zA m1 (zA m2 (zA hll (zA dz (zA d1 (zA d0 (zA dl (zA @cS @List.drop_zero.{0}))))))))))))))) ?_
    refine cP cv ?_
    refine zS (zA hck (zA hcx (zA l4 (zA l5 (zA n0 (zA n1 (zA n4 (zA m1 (zA m2 (zA hll (zA dz (zA d1 (zA d0 (zA dl (zA @cS @List.drop_zero.{0}))))))))))))))) ?_
    refine wF ?_
    refine zS (zA hck (zA hcx (zA l4 (zA l5 (zA n0 (zA n1 (zA n4 (zA m1 (zA m2 (zA hll (zA dz (zA d1 (zA d0 (zA dl (zA @cS @List.drop_zero.{0}))))))))))))))) ?_
    refine wT ?_
    refine zS (zA hck (zA hcx (zA l4 (zA l5 (zA n0 (zA n1 (zA n4 (zA m1 (zA m2 (zA hll (zA dz (zA d1 (zA d0 (zA dl (zA @cS @List.drop_zero.{0}))))))))))))))) ?_
    refine cP cv ?_
    refine zS (zA hck (zA hcx (zA l4 (zA l5 (zA n0 (zA n1 (zA n4 (zA m1 (zA m2 (zA hll (zA dz (zA d1 (zA d0 (zA dl (zA @cS @List.drop_zero.{0}))))))))))))))) ?_
    exact z0i (z0h (.imm rfl))
   ·refine zS (zA hck (zA hcx (zA l4 (zA l5 (zA n0 (zA n1 (zA n4 (zA m1 (zA m2 (zA hll (zA dz (zA d1 (zA d0 (zA dl (zA @cS @List.drop_zero.{0}))))))))))))))) ?_
    refine cP cv ?_
    refine zS (zA hck (zA hcx (zA l4 (zA l5 (zA n0 (zA n1 (zA n4 (zA m1 (zA m2 (zA hll (zA dz (zA d1 (zA d0 (zA dl (zA @cS @List.drop_zero.{0}))))))))))))))) ?_
    refine cP cs ?_
    refine zS (zA hck (zA hcx (zA l4 (zA l5 (zA n0 (zA n1 (zA n4 (zA m1 (zA m2 (zA hll (zA dz (zA d1 (zA d0 (zA dl (zA @cS @List.drop_zero.{0}))))))))))))))) ?_
    refine wF ?_
    refine zS (zA hck (zA hcx (zA l4 (zA l5 (zA n0 (zA n1 (zA n4 (zA m1 (zA m2 (zA hll (zA dz (zA d1 (zA d0 (zA dl (zA @cS @List.drop_zero.{0}))))))))))))))) ?_
    refine wT ?_
    refine zS (zA hck (zA hcx (zA l4 (zA l5 (zA n0 (zA n1 (zA n4 (zA m1 (zA m2 (zA hll (zA dz (zA d1 (zA d0 (zA dl (zA @cS @List.drop_zero.{0}))))))))))))))) ?_
    refine cP cv ?_
    refine zS (zA hck (zA hcx (zA l4 (zA l5 (zA n0 (zA n1 (zA n4 (zA m1 (zA m2 (zA hll (zA dz (zA d1 (zA d0 (zA dl (zA @cS @List.drop_zero.{0}))))))))))))))) ?_
    exact z0i (z0h (.imm rfl))
 ·have hif:(if (true:Bool)=true then (v && bz) && bl else (if b1=true then v && bl else (v && bz) && b0 && decide (x.lv<k.le.length)))=((v && bz) && bl):=rfl
  rw [hif]
  cases v
  ·refine zS (zA hck (zA hcx (zA l4 (zA l5 (zA n0 (zA n1 (zA n4 (zA m1 (zA m2 (zA hll (zA dz (zA d1 (zA d0 (zA dl (zA @cS @List.drop_zero.{0}))))))))))))))) ?_
   refine cP cv ?_
   refine zS (zA hck (zA hcx (zA l4 (zA l5 (zA n0 (zA n1 (zA n4 (zA m1 (zA m2 (zA hll (zA dz (zA d1 (zA d0 (zA dl (zA @cS @List.drop_zero.{0}))))))))))))))) ?_
   refine wT ?_
   refine zS (zA hck (zA hcx (zA l4 (zA l5 (zA n0 (zA n1 (zA n4 (zA m1 (zA m2 (zA hll (zA dz (zA d1 (zA d0 (zA dl (zA @cS @List.drop_zero.{0}))))))))))))))) ?_
   exact z0i (z0h (.imm rfl))
  ·cases bz
   all_goals
    refine zS (zA hck (zA hcx (zA l4 (zA l5 (zA n0 (zA n1 (zA n4 (zA m1 (zA m2 (zA hll (zA dz (zA d1 (zA d0 (zA dl (zA @cS @List.drop_zero.{0}))))))))))))))) ?_
    refine cP cv ?_
    refine zS (zA hck (zA hcx (zA l4 (zA l5 (zA n0 (zA n1 (zA n4 (zA m1 (zA m2 (zA hll (zA dz (zA d1 (zA d0 (zA dl (zA @cS @List.drop_zero.{0}))))))))))))))) ?_
    refine cP cs ?_
    refine zS (zA hck (zA hcx (zA l4 (zA l5 (zA n0 (zA n1 (zA n4 (zA m1 (zA m2 (zA hll (zA dz (zA d1 (zA d0 (zA dl (zA @cS @List.drop_zero.{0}))))))))))))))) ?_
    refine wT ?_
    refine zS (zA hck (zA hcx (zA l4 (zA l5 (zA n0 (zA n1 (zA n4 (zA m1 (zA m2 (zA hll (zA dz (zA d1 (zA d0 (zA dl (zA @cS @List.drop_zero.{0}))))))))))))))) ?_
    exact z0i (z0h (.imm rfl))
theorem y0u (l:List Tc) (hl:l.length≤1000000) (p:Tc→Bool) (v:DV) (g:Nat) (cs:List DV) (hv:z6N v g cs) (hcs:cs.all DV.rf=true) (hg:z0U prog g) (hc:∀f∈l,z0c prog g ([.agg (cxC f)]++cs) (.bool (p f))):z0c prog 241 [.sl 5 (cxs l),v] (.int .i64 (ixP p l)):=by
 have hln:(cxs l).length / 5=l.length:=by rw [z2A];omega
 have hlen:=z2A l
 refine z0b x0T (by simp [y1i]) ?_
 unfold z7q
 refine zS hln ?_
 refine z0v (σ:=Nat) (fun i=>[(0,.sl 5 (cxs l)),(1,v),(7,.int .i64 l.length),(8,.int .i64 i)]) (fun _=>[]) (fun i=>i≤l.length∧∀j,j<i→p (l.getD j default)=false) (fun i=>l.length - i) 0 ⟨Nat.zero_le _,by simp⟩ ?_ rfl ?_
 ·simp [z0y,lk]
 ·rintro i ⟨hi,hall⟩
  try simp only at hi hall ⊢
  by_cases hlt:i<l.length
  ·have dl:decide ((i:Int)<(l.length:Int))=true:=zT9
   have ei:(i:Int).toNat=i:=Int.toNat_natCast i
   have e1:((i:Int)+1)=((i+1:Nat):Int):=by omega
   have hw:((cxs l).drop (i*5)).take 5=cxC (l.getD i default):=z1m (j:=0) z1V default hlt (Nat.le_refl _)
   have cf:=hc _ (z6j hlt)
   have hb6:i*5+5≤(cxs l).length:=by omega
   refine zS dl ?_
   refine wTs ?_
   refine z0d ?_
   refine z0f ?_
   refine z0d ?_
   refine z0g ?_
   refine zD ?_
   refine z0d ?_
   refine z3D [om 11 1,om 12 0,om 13 5,ot 14 (.iad 5 (.t 12) (.t 13)),ot 15 (.ldn 5 (.t 14))] [] (.x 16) (.t 11) [.t 15] rfl ?_
   refine zE (zA ei (zA hlen hw)) ?_
   refine ⟨⟨by omega,by omega⟩,by omega,g,cs,hv,hg,z1G cf (by rw [List.all_append,hcs];rfl) ?_⟩
   cases hp:p (l.getD i default)
   ·have hnx:∀j,j<i+1→p (l.getD j default)=false:=fun j hj=>by
     rcases Nat.lt_or_ge j i with h|h
     ·exact hall j h
     ·obtain rfl:j=i:=by omega
      exact hp
    refine zR ?_
    refine wFs ?_
    refine zS e1 ?_
    exact ⟨i+1,⟨by omega,hnx⟩,by omega,by simp [z0y,lk]⟩
   ·have hx:=y4U default hlt hp hall
    rw [hx]
    refine zR ?_
    refine wT ?_
    refine zR ?_
    exact z0i (z0h (.imm rfl))
  ·have dl:decide ((i:Int)<(l.length:Int))=false:=zF9
   rw [y4V default fun j hj=>hall j (by omega)]
   refine zS dl ?_
   refine z0l rfl (fun h=>by cases h) (fun _=>z0q ?_)
   refine zR ?_
   exact z0i (z0h (.imm rfl))
theorem y0t (l:List Tc) (hl:l.length≤1000000) (p:Tc→Bool) (v:DV) (g:Nat) (cs:List DV) (hv:z6N v g cs) (hvr:v.rf=true) (hcs:cs.all DV.rf=true) (hg:z0U prog g) (hc:∀f∈l,z0c prog g ([.agg (cxC f)]++cs) (.bool (p f))):z0c prog 200 [.sl 5 (cxs l),v] (.bool (l.any p)):=by
 have ci:=y0u l hl p v g cs hv hcs hg hc
 have ha:=y2F p l
 have hrf:List.all [DV.sl 5 (cxs l),v] DV.rf=true:=by rw [List.all_cons,List.all_cons,hvr];rfl
 refine z0b x0R (by simp [y1g]) ?_
 unfold z7o
 generalize ixP p l=k at *
 generalize l.any p=b at *
 refine zR ?_
 refine z0E ci hrf ?_
 refine zS ha ?_
 exact z0i (z0h (.imm rfl))
theorem z6c (l:List Kx) (hl:l.length≤1000000) (p:Kx→Bool) (v:DV) (g:Nat) (cs:List DV) (hv:z6N v g cs) (hvr:v.rf=true) (hcs:cs.all DV.rf=true) (hg:z0U prog g) (hc:∀f∈l,z0c prog g ([.agg (kxC f)]++cs) (.bool (p f))):z0c prog 140 [.sl 4 (kxs l),v] (.bool (l.any p)):=by
 have ci:=y3i l hl p v g cs hv hcs hg hc
 have ha:=y2F p l
 have hrf:List.all [DV.sl 4 (kxs l),v] DV.rf=true:=by rw [List.all_cons,List.all_cons,hvr];rfl
 refine z0b x4h (by simp [y4u]) ?_
 unfold z8F
 generalize ixP p l=k at *
 generalize l.any p=b at *
 refine zR ?_
 refine z0E ci hrf ?_
 refine zS ha ?_
 exact z0i (z0h (.imm rfl))
theorem z2Z (n:Int) (l:List Kx) (hl:l.length≤1000000):z0c prog 139 [.agg [.int .i64 n,.sl 4 (kxs l)]] (.sl 1 (z0L (z1t l))):=by
 have hln:(kxs l).length / 4=l.length:=by rw [z1X];omega
 have hlen:=z1X l
 have hca:(DV.agg [.int .i64 n,.sl 4 (kxs l)]).cells? = some [.int .i64 n,.sl 4 (kxs l)]:=rfl
 refine z0b y6O (by simp [z9j]) ?_
 unfold z5L
 refine zS hca ?_
 refine z4a 3 1 200 rfl (by simp [lkH]) ?_
 refine zS (zA hln @cS) ?_
 refine z0v (σ:=Nat) (fun i=>[(3,.osl 1 200 0 i),(7,.sl 4 (kxs l)),(8,.int .i64 l.length),(9,.int .i64 i)]) (fun i=>[(1,[.int .i64 n,.sl 4 (kxs l)]),(200,z0L ((z1t l).take i))]) (fun i=>i≤l.length) (fun i=>l.length - i) 0 (Nat.zero_le _) ?_ rfl ?_
 ·simp [z0y,lk]
 ·intro i hi
  try simp only at hi ⊢
  by_cases hlt:i<l.length
  ·have dl:decide ((i:Int)<(l.length:Int))=true:=zT9
   have ei:(i:Int).toNat=i:=Int.toNat_natCast i
   have e1:((i:Int)+1)=((i+1:Nat):Int):=by omega
   have hw:((kxs l).drop (i*4)).take 4=kxC (l.getD i default):=z1m (j:=0) z00 default hlt (Nat.le_refl _)
   have htk:z0L ((z1t l).take i)++[.str (l.getD i default).nm]=z0L ((z1t l).take (i+1)):=by
    unfold z0L
    rw [List.take_add_one,List.map_append]
    unfold z1t
    rw [List.getElem?_map,zO4 hlt,zO1,zO4 hlt]
    rfl
   have hl1:(z0L ((z1t l).take i)).length=i:=by rw [z0K,List.length_take,z1b];omega
   have hpg:=z0k 200 (List.all_eq_true.1 (z9Y ((z1t l).take (i+1))))
   have hfz:=z1p 5 (kxC (l.getD i default)) (List.all_eq_true.1 (z9Y ((z1t l).take (i+1))))
   have hpF:=z0k 200 (z29 (l.getD i default))
   have hcl:=z00 (l.getD i default)
   have htf:(kxC (l.getD i default)).take 4=kxC (l.getD i default):=rfl
   have hg0:(kxC (l.getD i default)).getD 0 .undef=.str (l.getD i default).nm:=rfl
   have hone:((kxC (l.getD i default)).all DV.one)=true:=List.all_eq_true.2 (y2G _)
   have hrf:=z29 (l.getD i default)
   have hrfa:((kxC (l.getD i default)).all DV.rf)=true:=List.all_eq_true.2 hrf
   generalize z0L ((z1t l).take i)=Y at *
   generalize hZ:z0L ((z1t l).take (i+1))=Z at *
   generalize (l.getD i default).nm=nm at *
   generalize kxC (l.getD i default)=C at *
   refine zS dl ?_
   refine wTs ?_
   refine zS (zA ei (zA hw (zA hlen (zA hone (zA hcl (zA htf (zA @List.drop_zero.{0} (zA @cS hg0)))))))) ?_
   refine ⟨by simp [DV.rf],⟨hl1,by omega,by omega,fun h=>h,by simp [DV.one]⟩,?_⟩
   rw [htk,hpg,hpF]
   refine z0I 5 (cells:=C) rfl hrfa ?_
   refine zS (zA e1 hfz) ?_
   exact ⟨i+1,by omega,by omega,by simp [z0y,lk,z1H],by rw [hZ]⟩
  ·have dl:decide ((i:Int)<(l.length:Int))=false:=zF9
   obtain rfl:i=l.length:=by omega
   have htl:(z1t l).take l.length=z1t l:=List.take_of_length_le (by rw [z1b];exact Nat.le_refl _)
   rw [htl]
   have hrf:=z9Y (z1t l)
   have hsl:(z0L (z1t l)).length=l.length:=by rw [z0K,z1b]
   generalize z0L (z1t l)=Z at *
   refine z0I 200 (cells:=Z) rfl hrf ?_
   have hfz:frz 200 Z (.osl 1 200 0 l.length)=.sl 1 Z:=by
    simp [frz,hsl]
    rw [List.take_of_length_le (by omega)]
   refine zS (zA dl hfz) ?_
   refine z0l rfl (fun h=>by cases h) (fun _=>z0q ?_)
   refine zR ?_
   exact z0i (z0h (.imm rfl))
theorem y0w (k:Kx) (x:Tc) (hx:y9z x.va):z0c prog 201 [.agg (cxC x),.el (kxC k) 0] (.bool (!y8H k x)):=by
 have cf:=y7C k x hx
 have hcx:(DV.agg (cxC x)).cells? = some (cxC x):=rfl
 have l4:=z00 k
 have l5:=z1V x
 have t4:(kxC k).take 4=kxC k:=rfl
 have t5:(cxC x).take 5=cxC x:=rfl
 refine z0b x0V (by simp [y1k]) ?_
 unfold z7s
 refine zS (zA hcx (zA l4 (zA l5 (zA t4 (zA t5 (zA @cS @List.drop_zero.{0})))))) ?_
 refine z0E cf (by simp [DV.rf_agg,List.all_eq_true.2 (z29 k),List.all_eq_true.2 (z8Q x)]) ?_
 refine zR ?_
 exact z0i (z0h (.imm rfl))
theorem x9T:z0U prog 201:=⟨_,func201,by kernel_rfl,by kernel_rfl⟩
theorem x9W:z0U prog 141:=⟨_,func141,by kernel_rfl,by kernel_rfl⟩
theorem x1Q (k:Kx) (n:Int) (hk1:k.le.length≤1000000) (hk2:k.ce.length≤1000000) (hk:∀c∈k.ce,y9z c.va):z0c prog 142 [.agg (kxC k),.int .i64 n] (.bool (x1W k n)):=by
 have hck:(DV.agg (kxC k)).cells? = some (kxC k):=rfl
 have l4:=z00 k
 have m1:(kxC k).getD 1 .undef=.int .i64 k.kd:=rfl
 have m2:(kxC k).getD 2 .undef=.sl 1 (z0L k.le):=rfl
 have m3:(kxC k).getD 3 .undef=.sl 5 (cxs k.ce):=rfl
 have hll:=z0K k.le
 have hcl:(cxs k.ce).length / 5=k.ce.length:=by rw [z2A];omega
 have hCrf:=z29 k
 have hCa:(kxC k).all DV.rf=true:=List.all_eq_true.2 hCrf
 have hone:(kxC k).all DV.one=true:=List.all_eq_true.2 (y2G k)
 have cc:=y0t k.ce hk2 (fun x=>!y8H k x) (.clo 201 [.el (kxC k) 0]) 201 [.el (kxC k) 0] (.inl rfl) (by simp [DV.rf]) rfl x9T (fun x hx=>y0w k x (hk x hx))
 rw [y12] at cc
 have hne:kxC k≠[]:=by unfold kxC;simp
 generalize hC:kxC k=C at *
 obtain ⟨b1,d1⟩:∃b,decide (k.kd=1)=b:=⟨_,rfl⟩
 obtain ⟨b2,d2⟩:∃b,decide (k.kd=2)=b:=⟨_,rfl⟩
 obtain ⟨bl,dl⟩:∃b,decide (0<k.le.length)=b:=⟨_,rfl⟩
 obtain ⟨bm,dm⟩:∃b,decide (k.le.length≤32)=b:=⟨_,rfl⟩
 obtain ⟨bn,dn⟩:∃b,decide ((k.ce.length:Int)=n)=b:=⟨_,rfl⟩
 have e1:decide (¬k.kd=1)=!b1:=by rw [←d1];simp
 have e2:decide (¬k.kd=2)=!b2:=by rw [←d2];simp
 have el:decide ((0:Int)<(k.le.length:Int))=bl:=by rw [←dl];exact decide_eq_decide.2 (by omega)
 have em:decide ((32:Int)<(k.le.length:Int))=!bm:=by rw [←dm];by_cases h:k.le.length≤32<;>simp [h]<;>omega
 have en:decide (¬(k.ce.length:Int)=n)=!bn:=by rw [←dn];simp
 refine z0b w34 (by simp [x8Y]) ?_
 unfold y8w x1W
 have hsh:x1Z k n=((b1 || b2) && !(b1 && bl) && bm && bn):=by unfold x1Z;rw [d1,d2,dl,dm,dn]
 rw [hsh]
 refine zS (zA hck (zA hone @cS)) ?_
 refine ⟨⟨hne,hCrf⟩,?_⟩
 by_cases hb:((b1 || b2) && !(b1 && bl) && bm && bn)=true
 ·rw [hb,Bool.true_and]
  cases b1<;>cases b2<;>cases bl<;>cases bm<;>cases bn
  all_goals first
   | (exact absurd hb (by decide))
   | skip
  all_goals
   clear hb hsh
   refine zS (zA hck (zA hone (zA l4 (zA m1 (zA m2 (zA m3 (zA hll (zA hcl (zA d1 (zA e1 (zA e2 (zA el (zA em (zA en (zA @cS (zA @Bool.not_true @Bool.not_false)))))))))))))))) ?_
   refine wFs ?_
   clear d1 d2 dl dm dn e1 e2 el em en
   refine zS (zA l4 (zA m2 hll)) ?_
   refine z0v (σ:=Nat) (fun i=>[(2,.el C 0),(40,.sl 1 (z0L k.le)),(41,.int .i64 k.le.length),(42,.int .i64 i)]) (fun _=>[]) (fun i=>i≤k.le.length∧∀j,j<i→ixS (k.le.take j) (k.le.getD j [])<0) (fun i=>k.le.length - i) 0 ⟨Nat.zero_le _,by simp⟩ ?_ rfl ?_
   ·simp [z0y,lk]
   ·rintro i ⟨hi,hall⟩
    try simp only at hi hall ⊢
    by_cases hlt:i<k.le.length
    ·have dl:decide ((i:Int)<(k.le.length:Int))=true:=zT9
     have ei:(i:Int).toNat=i:=Int.toNat_natCast i
     have e1:((i:Int)+1)=((i+1:Nat):Int):=by omega
     have hg:=z1a hlt
     have hts:(z0L k.le).take i=z0L (k.le.take i):=by unfold z0L;rw [List.map_take]
     have cx:=z3z (k.le.take i) (k.le.getD i []) (by rw [List.length_take];omega)
     have hno:=@x2E k.le i hlt
     generalize hT:z0L (k.le.take i)=T at *
     refine zS dl ?_
     refine wTs ?_
     refine zS (zA ei (zA hg (zA hll (zA l4 (zA m2 (zA hts (zA @Nat.mul_one (zA @Nat.zero_mul (zA @List.drop_zero.{0} @Nat.div_one))))))))) ?_
     refine cP cx ?_
     by_cases hx:ixS (k.le.take i) (k.le.getD i [])<0
     ·have dx:decide (0≤ixS (k.le.take i) (k.le.getD i []))=false:=zF9
      refine zS dx ?_
      refine wFs ?_
      refine zS e1 ?_
      exact ⟨i+1,⟨by omega,fun j hj=>by
       rcases Nat.lt_or_ge j i with h2|h2
       ·exact hall j h2
       ·obtain rfl:j=i:=by omega
        exact hx⟩,by omega,by simp [z0y,lk]⟩
     ·have dx:decide (0≤ixS (k.le.take i) (k.le.getD i []))=true:=zT9
      rw [hno hx,Bool.false_and]
      refine zS dx ?_
      refine wT ?_
      refine zR ?_
      exact z0i (z0h (.imm rfl))
    ·have dl:decide ((i:Int)<(k.le.length:Int))=false:=zF9
     rw [y8C fun j hj=>hall j (by omega)]
     refine zS dl ?_
     refine z0l rfl (fun h=>by cases h) (fun _=>z0q ?_)
     refine zS (zA l4 (zA m3 @z3L)) ?_
     refine ⟨List.all_eq_true.1 rfl,?_⟩
     refine z0E cc (by simp [DV.rf]) ?_
     refine zS (zA @Bool.not_not @Bool.true_and) ?_
     exact z0i (z0h (.imm rfl))
 ·have hb':=Bool.eq_false_iff.2 hb
  rw [hb',Bool.false_and,Bool.false_and]
  cases b1<;>cases b2<;>cases bl<;>cases bm<;>cases bn
  all_goals first
   | (exact absurd rfl hb)
   | skip
  all_goals
   refine zS (zA hck (zA hone (zA l4 (zA m1 (zA m2 (zA m3 (zA hll (zA hcl (zA d1 (zA e1 (zA e2 (zA el (zA em (zA en (zA @cS (zA @Bool.not_true @Bool.not_false)))))))))))))))) ?_
   refine wT ?_
   refine zR ?_
   exact z0i (z0h (.imm rfl))
def okT (S:List Kx):Prop:=S.length≤1000000∧∀k∈S,k.nm.length≤9223372036854775807∧k.le.length≤1000000∧k.ce.length≤1000000∧∀c∈k.ce,y9z c.va
theorem y3p (n:Int) (S:List Kx) (k:Kx) (hk1:k.le.length≤1000000) (hk2:k.ce.length≤1000000) (hk:∀c∈k.ce,y9z c.va):z0c prog 141 [.agg (kxC k),.el [.int .i64 n,.sl 4 (kxs S)] 0] (.bool (!x1W k n)):=by
 have cc:=x1Q k n hk1 hk2 hk
 have hck:(DV.agg (kxC k)).cells? = some (kxC k):=rfl
 have l4:=z00 k
 have t4:(kxC k).take 4=kxC k:=rfl
 refine z0b x4o (by simp [y4B]) ?_
 unfold z8M
 refine zS (zA hck (zA l4 (zA t4 (zA @cS @List.drop_zero.{0})))) ?_
 refine z0E cc (by simp [DV.rf_agg,List.all_eq_true.2 (z29 k)];rfl) ?_
 refine zR ?_
 exact z0i (z0h (.imm rfl))
theorem z6Z (n:Int) (S:List Kx) (h:okT S):z0c prog 75 [.agg [.int .i64 n,.sl 4 (kxs S)]] (.bool (x10 n S)):=by
 obtain ⟨hl,hk⟩:=h
 have hln:(kxs S).length / 4=S.length:=by rw [z1X];omega
 have hca:(DV.agg [.int .i64 n,.sl 4 (kxs S)]).cells? = some [.int .i64 n,.sl 4 (kxs S)]:=rfl
 have hB:([DV.int .i64 n,.sl 4 (kxs S)]≠[]∧∀d∈[DV.int .i64 n,.sl 4 (kxs S)],d.rf=true):=⟨by simp,List.all_eq_true.1 rfl⟩
 have c1:=z2Z n S hl
 have c2:=y5T (z1t S) (by rw [z1b];omega) (fun s hs=>by
  unfold z1t at hs
  obtain ⟨f,hf,rfl⟩:=List.mem_map.1 hs
  exact (hk f hf).1)
 have c3:=z6c S hl (fun k=>!x1W k n) (.clo 141 [.el [.int .i64 n,.sl 4 (kxs S)] 0]) 141 [.el [.int .i64 n,.sl 4 (kxs S)] 0] (.inl rfl) (by simp [DV.rf]) rfl x9W (fun k h=>y3p n S k (hk k h).2.1 (hk k h).2.2.1 (hk k h).2.2.2)
 rw [y12] at c3
 refine z0b w35 (by simp [x8Z]) ?_
 unfold y8x x10
 obtain ⟨b0,d0⟩:∃b,decide (0≤n)=b:=⟨_,rfl⟩
 obtain ⟨b1,d1⟩:∃b,decide (n≤1024)=b:=⟨_,rfl⟩
 obtain ⟨b2,d2⟩:∃b,decide (S.length≤32)=b:=⟨_,rfl⟩
 have e2:decide ((S.length:Int)≤32)=b2:=by rw [←d2];exact decide_eq_decide.2 (by omega)
 rw [d0,d1,d2]
 generalize z55 (z1t S)=b3 at *
 refine zS hca ?_
 refine ⟨hB.2,?_⟩
 cases b0
 ·refine zS (zA hca (zA @cS (zA hln d0))) ?_
  exact z0i (z0h (.imm rfl))
 cases b1
 ·refine zS (zA hca (zA @cS (zA hln (zA d0 d1)))) ?_
  exact z0i (z0h (.imm rfl))
 cases b2
 ·refine zS (zA hca (zA @cS (zA hln (zA d0 (zA d1 e2))))) ?_
  exact z0i (z0h (.imm rfl))
 refine zS (zA hca (zA @cS (zA hln (zA d0 (zA d1 e2))))) ?_
 refine cP c1 ?_
 refine zR ?_
 refine cP c2 ?_
 cases b3
 ·refine zR ?_
  exact z0i (z0h (.imm rfl))
 refine zS @z3L ?_
 refine ⟨List.all_eq_true.1 rfl,?_⟩
 refine z0E c3 (by simp [DV.rf]) ?_
 refine zS @Bool.not_not ?_
 exact z0i (z0h (.imm rfl))
def x9H (x:XN):Bool:=!x.1 && decide (x.2.1=[]) && decide (x.2.2=[])
theorem w4U (x:XN) (hx:y9z x):z0c prog 29 [.agg (xnC x),.agg [.bool false,.nils,.nils]] (.bool (x9H x)):=by
 refine z5t (ds':=[.agg (xnC x),.agg (xnC (false,[],[]))]) (.cons (WkD.refl _) (.cons (WkD.agg (.cons (WkD.refl _) (.cons (WkD.nils 1) (.cons (WkD.nils 1) .nil)))) .nil)) ?_
 have c1:=z3R x.2.1 [] (by have:=hx.2.2.1;omega) (by decide)
 have c2:=z3R x.2.2 [] (by have:=hx.2.2.2;omega) (by decide)
 have hcc:(DV.agg (xnC x)).cells? = some (xnC x):=rfl
 have hcz:(DV.agg (xnC (false,[],[]))).cells? = some (xnC (false,[],[])):=rfl
 have n0:(xnC x).getD 0 .undef=.bool x.1:=rfl
 have n2:(xnC x).getD 2 .undef=.sl 1 (us x.2.2):=rfl
 have nt:(xnC x).take 2=[.bool x.1,.sl 1 (us x.2.1)]:=rfl
 have z2:(xnC (false,[],[])).getD 2 .undef=.sl 1 (us []):=rfl
 have zt:(xnC (false,[],[])).take 2=[.bool false,.sl 1 (us [])]:=rfl
 have l3:(xnC x).length=3:=rfl
 have l3z:(xnC (false,[],[])).length=3:=rfl
 have cs:z0c prog 60 [.agg [.bool x.1,.sl 1 (us x.2.1)],.agg [.bool false,.sl 1 (us [])]] (.bool (!x.1 && decide (x.2.1=[]))):=by
  refine z0b x4g (by simp [y2q]) ?_
  unfold z8E
  generalize us x.2.1=a at *
  generalize us ([]:List Nat)=b at *
  have b1:(false == false)=true:=rfl
  have b2:(true == false)=false:=rfl
  cases x.1
  ·refine zS (zA @cS b1) ?_
   refine cP c1 ?_
   refine zS (zA @Bool.not_false @Bool.true_and) ?_
   exact z0i (z0h (.imm rfl))
  ·refine zS (zA @cS b2) ?_
   exact z0i (z0h (.imm rfl))
 refine z0b x4c (by simp [y2l]) ?_
 unfold z8A x9H
 generalize xnC x=U at *
 generalize xnC (false,[],[])=V at *
 generalize (!x.1 && decide (x.2.1=[]))=b at *
 refine zS (zA hcc (zA hcz (zA n2 (zA nt (zA z2 (zA zt (zA l3 (zA l3z (zA @cS @List.drop_zero.{0}))))))))) ?_
 refine cP cs ?_
 cases b
 ·refine zR ?_
  exact z0i (z0h (.imm rfl))
 ·refine zS (zA n2 (zA z2 (zA l3 (zA l3z @cS)))) ?_
  refine cP c2 ?_
  refine zS @Bool.true_and ?_
  exact z0i (z0h (.imm rfl))
def x0q (k:Kx) (x:Tc):Bool :=
 if x.mi then x9H x.va && decide (x.lv=0) else if k.kd=1 then z5p x.va.1 x.va.2.1 x.va.2.2 && decide (x.lv=0) else x9H x.va && decide (0≤x.lv) && decide (x.lv<k.le.length)
theorem y7J (k:Kx) (x:Tc) (hx:y9z x.va):z0c prog 228 [.agg (kxC k),.agg (cxC x)] (.bool (x0q k x)):=by
 have cz:=w4U x.va hx
 obtain ⟨u1,u2,u3,u4⟩:=hx
 have cv:z0c prog 94 [.agg (xnC x.va)] (.bool (z5p x.va.1 x.va.2.1 x.va.2.2)):=z7P _ _ _ (by omega) (by omega) u1 u2
 have hck:(DV.agg (kxC k)).cells? = some (kxC k):=rfl
 have hcx:(DV.agg (cxC x)).cells? = some (cxC x):=rfl
 have l4:=z00 k
 have l5:=z1V x
 have n0:(cxC x).getD 0 .undef=.bool x.mi:=rfl
 have n1:((cxC x).drop 1).take 3=xnC x.va:=rfl
 have n4:(cxC x).getD 4 .undef=.int .i64 x.lv:=rfl
 have m1:(kxC k).getD 1 .undef=.int .i64 k.kd:=rfl
 have m2:(kxC k).getD 2 .undef=.sl 1 (z0L k.le):=rfl
 have hll:=z0K k.le
 refine z0b w0P (by simp [x3u]) ?_
 unfold y4b x0q
 generalize z5p x.va.1 x.va.2.1 x.va.2.2=v at *
 generalize x9H x.va=z at *
 obtain ⟨b1,d1⟩:∃b,decide (k.kd=1)=b:=⟨_,rfl⟩
 obtain ⟨b0,d0⟩:∃b,decide (0≤x.lv)=b:=⟨_,rfl⟩
 obtain ⟨bl,dl⟩:∃b,decide (x.lv=0)=b:=⟨_,rfl⟩
 have hk1:(if k.kd=1 then v && decide (x.lv=0) else z && decide (0≤x.lv) && decide (x.lv<k.le.length))=if b1=true then v && bl else z && b0 && decide (x.lv<k.le.length):=by
  rw [←d1,d0,dl]
  by_cases h:k.kd=1<;>simp [h]
 rw [hk1,dl]
 repeat (first|refine z0d ?_|refine z0g ?_|refine z0p ?_|refine z0f ?_|refine And.intro (by omega) ?_|simp (maxSteps:=1000000) (disch:=omega) only [cA,cB,cN,FnD.nb,lk,lkH,Dst.onT,Dst.onX,Dst.slot,z0W,z0N,z0J,z0X,z0u,z0V,unE,cnt,z0j,z0t,z0m,z0o,opE,rmH,z02,z0n,Nat.reduceEqDiff,Nat.reduceLT,Nat.reduceAdd,Nat.reduceMul,Nat.reduceMod,↓reduceIte,reduceCtorEq,Nat.reduceLeDiff,hck,hcx,l4,l5,n0,n1,n4,m1,m2,hll,d1,d0,dl,cS,List.drop_zero])
 refine cP cz ?_
 cases hm:x.mi
 all_goals rw [hm] at n0
 ·have hif:(if (false:Bool)=true then z && bl else (if b1=true then v && bl else z && b0 && decide (x.lv<k.le.length)))=(if b1=true then v && bl else z && b0 && decide (x.lv<k.le.length)):=rfl
  rw [hif]
  cases b1
  ·have hi2:(if (false:Bool)=true then v && bl else z && b0 && decide (x.lv<k.le.length))=(z && b0 && decide (x.lv<k.le.length)):=rfl
   rw [hi2]
   cases z<;>cases b0
   all_goals
    repeat (first|refine z0d ?_|refine z0g ?_|refine z0p ?_|refine z0f ?_|refine And.intro (by omega) ?_|simp (maxSteps:=1000000) (disch:=omega) only [cA,cB,cN,FnD.nb,lk,lkH,Dst.onT,Dst.onX,Dst.slot,z0W,z0N,z0J,z0X,z0u,z0V,unE,cnt,z0j,z0t,z0m,z0o,opE,rmH,z02,z0n,Nat.reduceEqDiff,Nat.reduceLT,Nat.reduceAdd,Nat.reduceMul,Nat.reduceMod,↓reduceIte,reduceCtorEq,Nat.reduceLeDiff,hck,hcx,l4,l5,n0,n1,n4,m1,m2,hll,d1,d0,dl,cS,List.drop_zero])
    refine wF ?_
    repeat (first|refine z0d ?_|refine z0g ?_|refine z0p ?_|refine z0f ?_|refine And.intro (by omega) ?_|simp (maxSteps:=1000000) (disch:=omega) only [cA,cB,cN,FnD.nb,lk,lkH,Dst.onT,Dst.onX,Dst.slot,z0W,z0N,z0J,z0X,z0u,z0V,unE,cnt,z0j,z0t,z0m,z0o,opE,rmH,z02,z0n,Nat.reduceEqDiff,Nat.reduceLT,Nat.reduceAdd,Nat.reduceMul,Nat.reduceMod,↓reduceIte,reduceCtorEq,Nat.reduceLeDiff,hck,hcx,l4,l5,n0,n1,n4,m1,m2,hll,d1,d0,dl,cS,List.drop_zero])
    refine wFs ?_
    repeat (first|refine z0d ?_|refine z0g ?_|refine z0p ?_|refine z0f ?_|refine And.intro (by omega) ?_|simp (maxSteps:=1000000) (disch:=omega) only [cA,cB,cN,FnD.nb,lk,lkH,Dst.onT,Dst.onX,Dst.slot,z0W,z0N,z0J,z0X,z0u,z0V,unE,cnt,z0j,z0t,z0m,z0o,opE,rmH,z02,z0n,Nat.reduceEqDiff,Nat.reduceLT,Nat.reduceAdd,Nat.reduceMul,Nat.reduceMod,↓reduceIte,reduceCtorEq,Nat.reduceLeDiff,hck,hcx,l4,l5,n0,n1,n4,m1,m2,hll,d1,d0,dl,cS,List.drop_zero])
    exact z0i (z0h (.imm rfl))
  ·have hi2:(if (true:Bool)=true then v && bl else z && b0 && decide (x.lv<k.le.length))=(v && bl):=rfl
   rw [hi2]
   cases v
   all_goals
    repeat (first|refine z0d ?_|refine z0g ?_|refine z0p ?_|refine z0f ?_|refine And.intro (by omega) ?_|simp (maxSteps:=1000000) (disch:=omega) only [cA,cB,cN,FnD.nb,lk,lkH,Dst.onT,Dst.onX,Dst.slot,z0W,z0N,z0J,z0X,z0u,z0V,unE,cnt,z0j,z0t,z0m,z0o,opE,rmH,z02,z0n,Nat.reduceEqDiff,Nat.reduceLT,Nat.reduceAdd,Nat.reduceMul,Nat.reduceMod,↓reduceIte,reduceCtorEq,Nat.reduceLeDiff,hck,hcx,l4,l5,n0,n1,n4,m1,m2,hll,d1,d0,dl,cS,List.drop_zero])
    refine wF ?_
    repeat (first|refine z0d ?_|refine z0g ?_|refine z0p ?_|refine z0f ?_|refine And.intro (by omega) ?_|simp (maxSteps:=1000000) (disch:=omega) only [cA,cB,cN,FnD.nb,lk,lkH,Dst.onT,Dst.onX,Dst.slot,z0W,z0N,z0J,z0X,z0u,z0V,unE,cnt,z0j,z0t,z0m,z0o,opE,rmH,z02,z0n,Nat.reduceEqDiff,Nat.reduceLT,Nat.reduceAdd,Nat.reduceMul,Nat.reduceMod,↓reduceIte,reduceCtorEq,Nat.reduceLeDiff,hck,hcx,l4,l5,n0,n1,n4,m1,m2,hll,d1,d0,dl,cS,List.drop_zero])
    refine wT ?_
    repeat (first|refine z0d ?_|refine z0g ?_|refine z0p ?_|refine z0f ?_|refine And.intro (by omega) ?_|simp (maxSteps:=1000000) (disch:=omega) only [cA,cB,cN,FnD.nb,lk,lkH,Dst.onT,Dst.onX,Dst.slot,z0W,z0N,z0J,z0X,z0u,z0V,unE,cnt,z0j,z0t,z0m,z0o,opE,rmH,z02,z0n,Nat.reduceEqDiff,Nat.reduceLT,Nat.reduceAdd,Nat.reduceMul,Nat.reduceMod,↓reduceIte,reduceCtorEq,Nat.reduceLeDiff,hck,hcx,l4,l5,n0,n1,n4,m1,m2,hll,d1,d0,dl,cS,List.drop_zero])
    refine cP cv ?_
    repeat (first|refine z0d ?_|refine z0g ?_|refine z0p ?_|refine z0f ?_|refine And.intro (by omega) ?_|simp (maxSteps:=1000000) (disch:=omega) only [cA,cB,cN,FnD.nb,lk,lkH,Dst.onT,Dst.onX,Dst.slot,z0W,z0N,z0J,z0X,z0u,z0V,unE,cnt,z0j,z0t,z0m,z0o,opE,rmH,z02,z0n,Nat.reduceEqDiff,Nat.reduceLT,Nat.reduceAdd,Nat.reduceMul,Nat.reduceMod,↓reduceIte,reduceCtorEq,Nat.reduceLeDiff,hck,hcx,l4,l5,n0,n1,n4,m1,m2,hll,d1,d0,dl,cS,List.drop_zero])
    exact z0i (z0h (.imm rfl))
 ·have hif:(if (true:Bool)=true then z && bl else (if b1=true then v && bl else z && b0 && decide (x.lv<k.le.length)))=(z && bl):=rfl
  rw [hif]
  cases z
  all_goals
   repeat (first|refine z0d ?_|refine z0g ?_|refine z0p ?_|refine z0f ?_|refine And.intro (by omega) ?_|simp (maxSteps:=1000000) (disch:=omega) only [cA,cB,cN,FnD.nb,lk,lkH,Dst.onT,Dst.onX,Dst.slot,z0W,z0N,z0J,z0X,z0u,z0V,unE,cnt,z0j,z0t,z0m,z0o,opE,rmH,z02,z0n,Nat.reduceEqDiff,Nat.reduceLT,Nat.reduceAdd,Nat.reduceMul,Nat.reduceMod,↓reduceIte,reduceCtorEq,Nat.reduceLeDiff,hck,hcx,l4,l5,n0,n1,n4,m1,m2,hll,d1,d0,dl,cS,List.drop_zero])
   refine wT ?_
   repeat (first|refine z0d ?_|refine z0g ?_|refine z0p ?_|refine z0f ?_|refine And.intro (by omega) ?_|simp (maxSteps:=1000000) (disch:=omega) only [cA,cB,cN,FnD.nb,lk,lkH,Dst.onT,Dst.onX,Dst.slot,z0W,z0N,z0J,z0X,z0u,z0V,unE,cnt,z0j,z0t,z0m,z0o,opE,rmH,z02,z0n,Nat.reduceEqDiff,Nat.reduceLT,Nat.reduceAdd,Nat.reduceMul,Nat.reduceMod,↓reduceIte,reduceCtorEq,Nat.reduceLeDiff,hck,hcx,l4,l5,n0,n1,n4,m1,m2,hll,d1,d0,dl,cS,List.drop_zero])
   exact z0i (z0h (.imm rfl))
def y51 (k:Kx) (n:Int):Bool:=x1Z k n && x8H k.le && k.ce.all (x0q k)
theorem y0y (k:Kx) (n:Int) (hk1:k.le.length≤1000000) (hk2:k.ce.length≤1000000) (hk:∀c∈k.ce,y9z c.va):z0c prog 170 [.agg (kxC k),.int .i64 n] (.bool (y51 k n)):=by
 have hck:(DV.agg (kxC k)).cells? = some (kxC k):=rfl
 have l4:=z00 k
 have t4:(kxC k).take 4=kxC k:=rfl
 have m1:(kxC k).getD 1 .undef=.int .i64 k.kd:=rfl
 have m2:(kxC k).getD 2 .undef=.sl 1 (z0L k.le):=rfl
 have m3:(kxC k).getD 3 .undef=.sl 5 (cxs k.ce):=rfl
 have hll:=z0K k.le
 have hcl:(cxs k.ce).length / 5=k.ce.length:=by rw [z2A];omega
 have hcx:=z2A k.ce
 have hCa:(kxC k).all DV.rf=true:=List.all_eq_true.2 (z29 k)
 have hone:(kxC k).all DV.one=true:=List.all_eq_true.2 (y2G k)
 have cf:=fun c hc=>y7J k c (hk c hc)
 have hrfl:∀c:Tc,List.all [DV.agg (kxC k),DV.agg (cxC c)] DV.rf=true:=fun c=>by simp [DV.rf_agg,hCa,List.all_eq_true.2 (z8Q c)]
 generalize hC:kxC k=C at *
 obtain ⟨b1,d1⟩:∃b,decide (k.kd=1)=b:=⟨_,rfl⟩
 obtain ⟨b2,d2⟩:∃b,decide (k.kd=2)=b:=⟨_,rfl⟩
 obtain ⟨bl,dl⟩:∃b,decide (0<k.le.length)=b:=⟨_,rfl⟩
 obtain ⟨bm,dm⟩:∃b,decide (k.le.length≤32)=b:=⟨_,rfl⟩
 obtain ⟨bn,dn⟩:∃b,decide ((k.ce.length:Int)=n)=b:=⟨_,rfl⟩
 have e1:decide (¬k.kd=1)=!b1:=by rw [←d1];simp
 have e2:decide (¬k.kd=2)=!b2:=by rw [←d2];simp
 have el:decide ((0:Int)<(k.le.length:Int))=bl:=by rw [←dl];exact decide_eq_decide.2 (by omega)
 have em:decide ((32:Int)<(k.le.length:Int))=!bm:=by rw [←dm];by_cases h:k.le.length≤32<;>simp [h]<;>omega
 have en:decide (¬(k.ce.length:Int)=n)=!bn:=by rw [←dn];simp
 refine z0b x0W (by simp [y1l]) ?_
 unfold z7t y51
 have hsh:x1Z k n=((b1 || b2) && !(b1 && bl) && bm && bn):=by unfold x1Z;rw [d1,d2,dl,dm,dn]
 rw [hsh]
 by_cases hb:((b1 || b2) && !(b1 && bl) && bm && bn)=true
 ·rw [hb,Bool.true_and]
  have hbn:bn=true:=by cases bn<;>simp_all
  have hn:(k.ce.length:Int)=n:=by rw [hbn] at dn;exact of_decide_eq_true dn
  cases b1<;>cases b2<;>cases bl<;>cases bm<;>cases bn
  all_goals first
   | (exact absurd hb (by decide))
   | skip
  all_goals
   clear hb hsh hbn
   refine zS (zA hck (zA hone (zA l4 (zA m1 (zA m2 (zA m3 (zA hll (zA hcl (zA d1 (zA e1 (zA e2 (zA el (zA em (zA en (zA @cS (zA @Bool.not_true @Bool.not_false)))))))))))))))) ?_
   refine wFs ?_
   clear d1 d2 dl dm dn e1 e2 el em en
   refine zR ?_
   refine z0v (σ:=Nat) (fun i=>[(1,.int .i64 n),(2,.ptr 2 0),(5,.int .i64 i)]) (fun _=>[(2,C)]) (fun i=>i≤k.le.length∧∀j,j<i→ixS (k.le.take j) (k.le.getD j [])<0) (fun i=>k.le.length - i) 0 ⟨Nat.zero_le _,by simp⟩ ?_ rfl ?_
   ·simp [z0y,lk]
   ·rintro i ⟨hi,hall⟩
    try simp only at hi hall ⊢
    by_cases hlt:i<k.le.length
    ·have dl:decide ((i:Int)<(k.le.length:Int))=true:=zT9
     have ei:(i:Int).toNat=i:=Int.toNat_natCast i
     have e1:((i:Int)+1)=((i+1:Nat):Int):=by omega
     have hg:=z1a hlt
     have hts:(z0L k.le).take i=z0L (k.le.take i):=by unfold z0L;rw [List.map_take]
     have cx:=z7X (k.le.take i) (k.le.getD i []) (by rw [List.length_take];omega)
     have hno:=@x2E k.le i hlt
     generalize hT:z0L (k.le.take i)=T at *
     refine zS (zA l4 (zA m2 (zA hll dl))) ?_
     refine wTs ?_
     refine zS (zA ei (zA hg (zA hll (zA l4 (zA m2 (zA hts (zA @Nat.mul_one (zA @Nat.zero_mul (zA @List.drop_zero.{0} @Nat.div_one))))))))) ?_
     refine cP cx ?_
     by_cases hx:ixS (k.le.take i) (k.le.getD i [])<0
     ·have dx:decide (0≤ixS (k.le.take i) (k.le.getD i []))=false:=zF9
      refine zS dx ?_
      refine wFs ?_
      refine zS e1 ?_
      exact ⟨i+1,⟨by omega,fun j hj=>by
       rcases Nat.lt_or_ge j i with h2|h2
       ·exact hall j h2
       ·obtain rfl:j=i:=by omega
        exact hx⟩,by omega,by simp [z0y,lk]⟩
     ·have dx:decide (0≤ixS (k.le.take i) (k.le.getD i []))=true:=zT9
      rw [hno hx,Bool.false_and]
      refine zS dx ?_
      refine wT ?_
      refine zR ?_
      exact z0i (z0h (.imm rfl))
    ·have dl:decide ((i:Int)<(k.le.length:Int))=false:=zF9
     rw [y8C fun j hj=>hall j (by omega),Bool.true_and]
     refine zS (zA l4 (zA m2 (zA hll dl))) ?_
     refine z0l rfl (fun h=>by cases h) (fun _=>z0q ?_)
     refine zR ?_
     refine z0v (σ:=Nat) (fun i=>[(1,.int .i64 n),(2,.ptr 2 0),(6,.int .i64 i)]) (fun _=>[(2,C)]) (fun i=>i≤k.ce.length∧∀j,j<i→x0q k (k.ce.getD j default)=true) (fun i=>k.ce.length - i) 0 ⟨Nat.zero_le _,by simp⟩ ?_ rfl ?_
     ·simp [z0y,lk]
     ·rintro i ⟨hi,hall⟩
      try simp only at hi hall ⊢
      by_cases hlt:i<k.ce.length
      ·have dl:decide ((i:Int)<n)=true:=zT9
       have ei:(i:Int).toNat=i:=Int.toNat_natCast i
       have e1:((i:Int)+1)=((i+1:Nat):Int):=by omega
       have hw:((cxs k.ce).drop (i*5)).take 5=cxC (k.ce.getD i default):=z1m (j:=0) z1V default hlt (Nat.le_refl _)
       have cc:=cf _ (z6j hlt)
       have hno:=fun h=>x8A (p:=x0q k) hlt h
       refine zS dl ?_
       refine wTs ?_
       refine zS (zA ei (zA l4 (zA t4 (zA m3 (zA hcx (zA hw (zA @cS @List.drop_zero.{0}))))))) ?_
       refine z0E cc (hrfl _) ?_
       cases hx:x0q k (k.ce.getD i default)
       ·rw [hno hx]
        refine zR ?_
        refine wT ?_
        refine zR ?_
        exact z0i (z0h (.imm rfl))
       ·refine zR ?_
        refine wFs ?_
        refine zS e1 ?_
        exact ⟨i+1,⟨by omega,fun j hj=>by
         rcases Nat.lt_or_ge j i with h2|h2
         ·exact hall j h2
         ·obtain rfl:j=i:=by omega
          exact hx⟩,by omega,by simp [z0y,lk]⟩
      ·have dl:decide ((i:Int)<n)=false:=zF9
       rw [x2b (p:=x0q k) fun j hj=>hall j (by omega)]
       refine zS dl ?_
       refine z0l rfl (fun h=>by cases h) (fun _=>z0q ?_)
       refine zR ?_
       exact z0i (z0h (.imm rfl))
 ·have hb':=Bool.eq_false_iff.2 hb
  rw [hb',Bool.false_and,Bool.false_and]
  cases b1<;>cases b2<;>cases bl<;>cases bm<;>cases bn
  all_goals first
   | (exact absurd rfl hb)
   | skip
  all_goals
   refine zS (zA hck (zA hone (zA l4 (zA m1 (zA m2 (zA m3 (zA hll (zA hcl (zA d1 (zA e1 (zA e2 (zA el (zA em (zA en (zA @cS (zA @Bool.not_true @Bool.not_false)))))))))))))))) ?_
   refine wT ?_
   refine zR ?_
   exact z0i (z0h (.imm rfl))
def x8l (n:Int) (S:List Kx):Bool:=decide (0≤n) && decide (n≤1024) && decide (S.length≤32) && (S.all fun k=>y51 k n) && z55 (z1t S)
theorem z4D (n:Int) (S:List Kx) (h:okT S):z0c prog 92 [.agg [.int .i64 n,.sl 4 (kxs S)]] (.bool (x8l n S)):=by
 obtain ⟨hl,hk⟩:=h
 have hln:(kxs S).length / 4=S.length:=by rw [z1X];omega
 have hlen:=z1X S
 have hca:(DV.agg [.int .i64 n,.sl 4 (kxs S)]).cells? = some [.int .i64 n,.sl 4 (kxs S)]:=rfl
 have c2:=y3s (z1t S) (by rw [z1b];omega) (fun s hs=>by
  unfold z1t at hs
  obtain ⟨f,hf,rfl⟩:=List.mem_map.1 hs
  exact (hk f hf).1)
 refine z0b x69 (by simp [y8S]) ?_
 unfold y0X x8l
 by_cases g0:¬0≤n
 ·have d0:decide (n<0)=true:=zT9
  rw [decide_eq_false g0]
  refine zS (zA hca (zA @cS (zA hln d0))) ?_
  refine wT ?_
  refine zR ?_
  exact z0i (z0h (.imm rfl))
 replace g0:=Classical.not_not.1 g0
 have d0:decide (n<0)=false:=zF9
 by_cases g1:¬n≤1024
 ·have d1:decide (1024<n)=true:=zT9
  rw [decide_eq_false g1,Bool.and_false]
  refine zS (zA hca (zA @cS (zA hln (zA d0 d1)))) ?_
  refine wT ?_
  refine zR ?_
  exact z0i (z0h (.imm rfl))
 replace g1:=Classical.not_not.1 g1
 have d1:decide (1024<n)=false:=zF9
 by_cases g2:¬S.length≤32
 ·have d2:decide ((32:Int)<(S.length:Int))=true:=zT9
  rw [decide_eq_false g2,Bool.and_false]
  refine zS (zA hca (zA @cS (zA hln (zA d0 (zA d1 d2))))) ?_
  refine wT ?_
  refine zR ?_
  exact z0i (z0h (.imm rfl))
 replace g2:=Classical.not_not.1 g2
 have d2:decide ((32:Int)<(S.length:Int))=false:=zF9
 rw [decide_eq_true g0,decide_eq_true g1,decide_eq_true g2,Bool.true_and,Bool.true_and,Bool.true_and]
 refine zS (zA hca (zA @cS (zA hln (zA d0 (zA d1 d2))))) ?_
 refine wFs ?_
 refine zR ?_
 refine z4a 3 1 200 rfl (by simp [lkH]) ?_
 refine zR ?_
 refine z0v (σ:=Nat) (fun i=>[(1,.ptr 1 0),(3,.osl 1 200 0 i),(4,.int .i64 i)]) (fun i=>[(1,[.int .i64 n,.sl 4 (kxs S)]),(200,z0L ((z1t S).take i))]) (fun i=>i≤S.length∧∀j,j<i→y51 (S.getD j default) n=true) (fun i=>S.length - i) 0 ⟨Nat.zero_le _,by simp⟩ ?_ rfl ?_
 ·simp [z0y,lk]
 ·rintro i ⟨hi,hall⟩
  try simp only at hi hall ⊢
  by_cases hlt:i<S.length
  ·have dl:decide ((i:Int)<(S.length:Int))=true:=zT9
   have ei:(i:Int).toNat=i:=Int.toNat_natCast i
   have e1:((i:Int)+1)=((i+1:Nat):Int):=by omega
   have hg0:(kxs S).getD (i*4) .undef=.str (S.getD i default).nm:=y4o (j:=0) z00 default hlt (by decide) .undef
   have hw:((kxs S).drop (i*4)).take 4=kxC (S.getD i default):=z1m (j:=0) z00 default hlt (Nat.le_refl _)
   have htk:z0L ((z1t S).take i)++[.str (S.getD i default).nm]=z0L ((z1t S).take (i+1)):=by
    unfold z0L
    rw [List.take_add_one,List.map_append]
    unfold z1t
    rw [List.getElem?_map,zO4 hlt,zO1,zO4 hlt]
    rfl
   have hl1:(z0L ((z1t S).take i)).length=i:=by rw [z0K,List.length_take,z1b];omega
   have hpg:=z0k 200 (List.all_eq_true.1 (z9Y ((z1t S).take (i+1))))
   have hm:=hk _ (z6j hlt)
   have cc:=y0y (S.getD i default) n hm.2.1 hm.2.2.1 hm.2.2.2
   have hno:=fun h=>x8A (p:=fun k=>y51 k n) hlt h
   have hnx:y51 (S.getD i default) n=true→∀j,j<i+1→y51 (S.getD j default) n=true:=fun h j hj=>by
    rcases Nat.lt_or_ge j i with h2|h2
    ·exact hall j h2
    ·obtain rfl:j=i:=by omega
     exact h
   have hca:List.all [DV.agg (kxC (S.getD i default)),.int .i64 n] DV.rf=true:=by rw [List.all_cons,List.all_cons,DV.rf_agg,List.all_eq_true.2 (z29 _)];rfl
   generalize z0L ((z1t S).take i)=Y at *
   generalize hZ:z0L ((z1t S).take (i+1))=Z at *
   generalize S.getD i default=k at *
   have q1:purge 200 (.ptr 1 0)=.ptr 1 0:=by simp [purge,DV.has]
   refine zS (zA @cS (zA dl hln)) ?_
   refine wTs ?_
   refine zS (zA @cS (zA ei (zA hlen hg0))) ?_
   refine ⟨by simp [DV.rf],⟨hl1,by omega,by omega,fun h=>h,by simp [DV.one]⟩,?_⟩
   rw [htk,hpg]
   refine zS (zA q1 (zA @cS (zA ei (zA hlen hw)))) ?_
   refine z0E cc hca ?_
   cases hb:y51 k n
   ·rw [hno hb,Bool.false_and]
    refine zR ?_
    refine wT ?_
    refine zR ?_
    exact z0i (z0h (.imm rfl))
   ·refine zR ?_
    refine wFs ?_
    refine zS e1 ?_
    exact ⟨i+1,⟨by omega,hnx hb⟩,by omega,by simp [z0y,lk],by rw [hZ]⟩
  ·have dl:decide ((i:Int)<(S.length:Int))=false:=zF9
   obtain rfl:i=S.length:=by omega
   have htl:(z1t S).take S.length=z1t S:=List.take_of_length_le (by rw [z1b];exact Nat.le_refl _)
   rw [htl,x2b (p:=fun k=>y51 k n) fun j hj=>hall j hj,Bool.true_and]
   have hrf:=z9Y (z1t S)
   have hsl:(z0L (z1t S)).length=S.length:=by rw [z0K,z1b]
   refine z0I 200 (cells:=z0L (z1t S)) rfl hrf ?_
   have hfz:frz 200 (z0L (z1t S)) (.osl 1 200 0 S.length)=.sl 1 (z0L (z1t S)):=by
    simp [frz,hsl]
    rw [List.take_of_length_le (by omega)]
   have q2:frz 200 (z0L (z1t S)) (.ptr 1 0)=.ptr 1 0:=by simp [frz,purge,DV.has]
   refine zS (zA @cS (zA dl (zA hln (zA hfz q2)))) ?_
   refine z0l rfl (fun h=>by cases h) (fun _=>z0q ?_)
   refine zR ?_
   refine cP c2 ?_
   refine zR ?_
   exact z0i (z0h (.imm rfl))
theorem y42 (k:Int) (n:Nat) (hn:0<n) (hn2:n≤1000000):z0c prog 11 [.int .i64 k,.int .i64 n] (.int .i64 (k % n)):=by
 obtain ⟨h1,h2,h3,h4⟩:=w6T k hn
 have hne:(n:Int)≠0:=by omega
 refine z0b w0w (by simp [x23]) ?_
 unfold y3S
 by_cases h:k.tmod n<0
 ·have d:decide (k.tmod n<0)=true:=decide_eq_true h
  rw [←h3 h]
  refine zS d ?_
  refine wT ?_
  refine zR ?_
  exact z0i (z0h (.imm rfl))
 ·have d:decide (k.tmod n<0)=false:=decide_eq_false h
  rw [←h4 h]
  refine zS d ?_
  refine wFs ?_
  refine zR ?_
  exact z0i (z0h (.imm rfl))
theorem x6n:z0U prog 150:=⟨_,func150,by kernel_rfl,by kernel_rfl⟩
theorem z75 (k:Kx) (r:Nat) (hr:r<k.ce.length) (hl:k.ce.length≤1000000):z0c prog 150 [.agg (kxC k),.el [.int .i64 r] 0] (.bool (x03 r k)):=by
 have hck:(DV.agg (kxC k)).cells? = some (kxC k):=rfl
 have l4:=z00 k
 have m3:(kxC k).getD 3 .undef=.sl 5 (cxs k.ce):=rfl
 have hcx:=z2A k.ce
 have er:(r:Int).toNat=r:=Int.toNat_natCast r
 have hg:(cxs k.ce).getD (r*5) .undef=.bool (k.ce.getD r default).mi:=y4o (j:=0) z1V default hr (by decide) .undef
 refine z0b y4S (by simp [z7B]) ?_
 unfold z40 x03
 generalize (k.ce.getD r default).mi=b at *
 repeat (first|refine z0d ?_|refine z0g ?_|refine z0p ?_|refine z0f ?_|refine And.intro (by omega) ?_|simp (maxSteps:=1000000) (disch:=omega) only [cA,cB,cN,FnD.nb,lk,lkH,Dst.onT,Dst.onX,Dst.slot,z0W,z0N,z0J,z0X,z0u,z0V,unE,cnt,z0j,z0t,z0m,z0o,opE,rmH,z02,z0n,Nat.reduceEqDiff,Nat.reduceLT,Nat.reduceAdd,Nat.reduceMul,Nat.reduceMod,↓reduceIte,reduceCtorEq,Nat.reduceLeDiff,hck,l4,m3,er,hcx,hg,cS,List.drop_zero])
 exact z0i (z0h (.imm rfl))
theorem z90 (n:Nat) (S:List Kx) (names:List Bs) (h:okT S) (hv:x10 n S=true) (hnl:names.length≤1000000) (hn:∀s∈names,0≤ixS (z1t S) s) (hce:∀k∈S,k.ce.length=n) (hn2:n≤1000000) :
  z0c prog 77 [.agg [.int .i64 n,.sl 4 (kxs S)],.sl 1 (z0L names)] (.tup [.sl 1 (ints (z1c (z22 S names) n)),.int .i64 0]):=by
 have hll:=z0K names
 have hln:(kxs S).length / 4=S.length:=by rw [z1X];omega
 have hlen:=z1X S
 have hca:(DV.agg [.int .i64 n,.sl 4 (kxs S)]).cells? = some [.int .i64 n,.sl 4 (kxs S)]:=rfl
 have c1:=z6Z n S h
 rw [hv] at c1
 have c2:=z2Z n S h.1
 refine z0b y6P (by simp [z9k]) ?_
 unfold z5M
 refine zS (zA hca @cS) ?_
 refine cP c1 ?_
 refine zR ?_
 refine wFs ?_
 refine zR ?_
 refine z4a 6 4 300 rfl (by simp [lkH]) ?_
 refine zS hll ?_
 refine z0v (σ:=Nat) (fun i=>[(2,.ptr 2 0),(6,.osl 4 300 0 i),(15,.sl 1 (z0L names)),(16,.int .i64 names.length),(17,.int .i64 i)]) (fun i=>[(2,[.int .i64 n,.sl 4 (kxs S)]),(300,kxs (z22 S (names.take i)))]) (fun i=>i≤names.length) (fun i=>names.length - i) 0 (Nat.zero_le _) ?_ rfl ?_
 ·simp [z0y,lk]
 ·intro i hi
  try simp only at hi ⊢
  have hul:(z22 S (names.take i)).length=i:=by unfold z22;rw [List.length_map,List.length_take];omega
  have hux:=z1X (z22 S (names.take i))
  rw [hul] at hux
  by_cases hlt:i<names.length
  ·have dl:decide ((i:Int)<(names.length:Int))=true:=zT9
   have ei:(i:Int).toNat=i:=Int.toNat_natCast i
   have e1:((i:Int)+1)=((i+1:Nat):Int):=by omega
   have hg:=z1a hlt
   have hs0:=hn _ (z1J hlt)
   have hbd:=z9r (names.getD i []) (z1t S)
   rw [z1b] at hbd
   have c3:=z3m (z1t S) (names.getD i []) (by rw [z1b];have:=h.1;omega)
   have htk:z22 S (names.take (i+1))=z22 S (names.take i)++[S.getD (ixS (z1t S) (names.getD i [])).toNat default]:=by
    unfold z22
    rw [z0z [] hlt,List.map_append];rfl
   generalize names.getD i []=s at *
   obtain ⟨j,hj⟩:∃j:Nat,ixS (z1t S) s=j:=⟨(ixS (z1t S) s).toNat,by omega⟩
   rw [hj] at htk hbd c3
   have ej:(j:Int).toNat=j:=Int.toNat_natCast j
   rw [ej] at htk
   have dj:decide ((j:Int)<0)=false:=zF9
   have hjl:j<S.length:=by omega
   have hw:((kxs S).drop (j*4)).take 4=kxC (S.getD j default):=z1m (j:=0) z00 default hjl (Nat.le_refl _)
   have hsn:kxs (z22 S (names.take i))++kxC (S.getD j default)=kxs (z22 S (names.take (i+1))):=by rw [htk];exact y2h _ _
   have hcl:=z00 (S.getD j default)
   have hcr:=z29 (S.getD j default)
   have hco:=y2G (S.getD j default)
   have hlk:laid [DV.str [],.int .i64 0,.nils,.nils] [(0,4,.agg (kxC (S.getD j default)))]=some (kxC (S.getD j default)):=rfl
   have hpg:=z0k 300 (x9e (z22 S (names.take (i+1))))
   generalize kxC (S.getD j default)=C at *
   have q2:∀z,purge 300 (.ptr 2 z)=.ptr 2 z:=fun z=>by simp [purge,DV.has]
   refine zS dl ?_
   refine wTs ?_
   refine zS (zA ei (zA hll (zA hg @cS))) ?_
   refine cP c2 ?_
   refine zR ?_
   refine cP c3 ?_
   refine zS dj ?_
   refine wFs ?_
   refine zS (zA ej (zA hlen (zA hw (zA @cS hlk)))) ?_
   refine ⟨⟨hux,by omega,by omega,fun h=>h,hco⟩,?_⟩
   rw [hsn,hpg,hcl]
   refine zS (zA q2 e1) ?_
   exact ⟨i+1,by omega,by omega,by simp [z0y,lk],rfl⟩
  ·have dl:decide ((i:Int)<(names.length:Int))=false:=zF9
   obtain rfl:i=names.length:=by omega
   rw [List.take_length] at hul hux ⊢
   have hU:∀k∈z22 S names,k.ce.length=n:=fun k hk=>by
    unfold z22 at hk
    obtain ⟨s,hs,rfl⟩:=List.mem_map.1 hk
    have hbd:=z9r s (z1t S)
    rw [z1b] at hbd
    have:=hn s hs
    exact hce _ (z6j (by omega))
   generalize z22 S names=U at *
   have hUr:=x9e U
   refine z0I 300 (cells:=kxs U) rfl (List.all_eq_true.2 hUr) ?_
   have hfz:frz 300 (kxs U) (.osl 4 300 0 names.length)=.sl 4 (kxs U):=by
    simp [frz,hux]
    rw [List.take_of_length_le (by omega)]
   have f2:frz 300 (kxs U) (.ptr 2 0)=.ptr 2 0:=by simp [frz,purge,DV.has]
   refine zS (zA dl (zA hfz (zA f2 @cS))) ?_
   refine z0l rfl (fun h=>by cases h) (fun _=>z0q ?_)
   refine zR ?_
   refine z4a 10 1 301 rfl (by simp [lkH]) ?_
   refine zS @cS ?_
   refine z0v (σ:=Nat) (fun i=>[(2,.ptr 2 0),(6,.sl 4 (kxs U)),(10,.osl 1 301 0 (z1c U i).length),(37,.int .i64 n),(38,.int .i64 i)]) (fun i=>[(2,[.int .i64 n,.sl 4 (kxs S)]),(301,ints (z1c U i))]) (fun i=>i≤n) (fun i=>n - i) 0 (Nat.zero_le _) ?_ rfl ?_
   ·simp [z0y,lk,z1c]
   ·intro i hi
    try simp only at hi ⊢
    have hRl:=z28 (z1c U i)
    have hRb:=z8d U i
    by_cases hlt:i<n
    ·have dl:decide ((i:Int)<(n:Int))=true:=zT9
     have e1:((i:Int)+1)=((i+1:Nat):Int):=by omega
     have cc:=z6c U (by omega) (x03 i) (.clo 150 [.el [.int .i64 i] 0]) 150 [.el [.int .i64 i] 0] (.inl rfl) (by simp [DV.rf]) rfl x6n (fun k hk=>z75 k i (by rw [hU k hk];exact hlt) (by rw [hU k hk];omega))
     have hry:=@y5D U i
     have hrn:=@y9Q U i
     have hpg:=z0k 301 (z5g (z1c U i++[i]))
     have hsn:ints (z1c U i)++[.int .i64 i]=ints (z1c U i++[i]):=by unfold ints;rw [List.map_append];rfl
     have p2:purge 301 (.ptr 2 0)=.ptr 2 0:=by simp [purge,DV.has]
     have pe:∀l z,purge 301 (.el l z)=.el l z:=fun l z=>by simp [purge,DV.has]
     have f2:z2e 11 [.int .i64 i] (.ptr 2 0)=.ptr 2 0:=by simp [z2e]
     have f11:z2e 11 [.int .i64 i] (.ptr 11 0)=.el [.int .i64 i] 0:=by simp [z2e]
     have fo:∀n,z2e 11 [.int .i64 i] (.osl 1 301 0 n)=.osl 1 301 0 n:=fun n=>by simp [z2e,frz]
     have hfs:∀z xs,z2e 11 [.int .i64 i] (.sl z xs)=.sl z xs:=fun z xs=>by simp [z2e,frz,purge,DV.has]
     have hfi:∀k m,z2e 11 [.int .i64 i] (.int k m)=.int k m:=fun k m=>by simp [z2e,frz,purge,DV.has]
     have hfb:∀m,z2e 11 [.int .i64 i] (.bool m)=.bool m:=fun m=>by simp [z2e,frz,purge,DV.has]
     have hfm:=z1p 11 [.int .i64 i] (z5g (z1c U i))
     generalize hI:ints (z1c U i)=I0 at *
     refine zS dl ?_
     refine wTs ?_
     refine z0d ?_
     refine z0f ?_
     refine z0d ?_
     refine z0g ?_
     refine zE @cS ?_
     refine z1P 11 (cells:=[.int .i64 i]) rfl rfl ?_
     refine zS (zA f2 (zA f11 (zA fo (zA hfs (zA hfi (zA hfb (zA hfm @z3L))))))) ?_
     refine ⟨List.all_eq_true.1 rfl,?_⟩
     refine z0E cc (by simp [DV.rf]) ?_
     cases hm:U.any (x03 i)
     ·rw [←hry hm] at hsn hpg
      refine zR ?_
      refine wT ?_
      refine zS @cS ?_
      refine ⟨by simp [DV.rf],⟨hRl,by omega,by omega,fun h=>h,by simp [DV.one]⟩,?_⟩
      rw [hsn,hpg]
      refine zS (zA p2 (zA pe e1)) ?_
      exact ⟨i+1,by omega,by omega,by simp [z0y,lk,hry hm],rfl⟩
     ·refine zR ?_
      refine wFs ?_
      refine zS e1 ?_
      exact ⟨i+1,by omega,by omega,by simp [z0y,lk,hrn hm],by rw [hrn hm,hI]⟩
    ·have dl:decide ((i:Int)<(n:Int))=false:=zF9
     obtain rfl:i=n:=by omega
     have hIr:=z5g (z1c U i)
     refine z0I 301 (cells:=ints (z1c U i)) rfl (List.all_eq_true.2 hIr) ?_
     have hfz:frz 301 (ints (z1c U i)) (.osl 1 301 0 (z1c U i).length)=.sl 1 (ints (z1c U i)):=by
      simp [frz,hRl]
      rw [List.take_of_length_le (by omega)]
     have f2:frz 301 (ints (z1c U i)) (.ptr 2 0)=.ptr 2 0:=by simp [frz,purge,DV.has]
     refine zS (zA dl (zA hfz f2)) ?_
     refine z0l rfl (fun h=>by cases h) (fun _=>z0q ?_)
     refine zR ?_
     exact z0i (z2f (.imm rfl) (.imm rfl))
end Go.Proofs.YtlcagndeidjobaaGreatDoor
namespace Go.Proofs.YtlcagndeidjobaaGreatDoor
open Tryz
open Go Go.Dat Go.Proofs Go.RowKit Go.Shelf Nat32
theorem z3e (z:Int) (hz : -9223372036854775808≤z∧z≤9223372036854775807):z0c prog 30 [.int .i64 z] (.agg (xnC (qX (y2X z)))):=by
 have m1:=y42 z 61 (by decide) (by decide)
 have m2:=y42 (Int.tdiv z 61) 4 (by decide) (by decide)
 have b1:=Int.emod_nonneg z (show (61:Int)≠0 by decide)
 have b2:=Int.emod_lt_of_pos z (show (0:Int)<61 by decide)
 have b3:=Int.emod_nonneg (Int.tdiv z 61) (show (4:Int)≠0 by decide)
 have b4:=Int.emod_lt_of_pos (Int.tdiv z 61) (show (0:Int)<4 by decide)
 have cf:z0c prog 62 [.int .i64 (z % 61 - 30),.int .i64 (1+(Int.tdiv z 61) % 4)] (Q (y2X z)):=z9F (z % 61 - 30) (1+(Int.tdiv z 61) % 4) (by omega) (by omega) (by omega)
 have hq:Q (y2X z)=.agg (xnC (qX (y2X z))):=rfl
 rw [hq] at cf
 have hcc:(DV.agg (xnC (qX (y2X z)))).cells? = some (xnC (qX (y2X z))):=rfl
 have h3:(xnC (qX (y2X z))).length=3:=rfl
 have hrf:(DV.agg (xnC (qX (y2X z)))).rf=true:=rfl
 have htd : -9223372036854775808≤Int.tdiv z 61∧Int.tdiv z 61≤9223372036854775807:=by
  by_cases h:0≤z
  ·rw [Int.tdiv_eq_ediv_of_nonneg h];omega
  ·obtain ⟨n,hn⟩:∃n:Nat,z = -(n:Int):=⟨z.natAbs,by omega⟩
   rw [hn,Int.neg_tdiv,Int.tdiv_eq_ediv_of_nonneg (by omega)];omega
 refine z0b x0H (by simp [y1c]) ?_
 unfold z7e
 generalize xnC (qX (y2X z))=X at *
 have e61:((61:Nat):Int)=61:=rfl
 have e4:((4:Nat):Int)=4:=rfl
 rw [e61] at m1
 rw [e4] at m2
 refine zR ?_
 refine cP m1 ?_
 refine zR ?_
 refine cP m2 ?_
 refine zR ?_
 refine cP cf ?_
 refine zS (zA hcc (zA h3 @cS)) ?_
 exact z0i (z07 rfl rfl h3 (.imm hrf))
theorem y1U:∀ds r,kI (fun z=>some (Q (z:Rat))) ds=some r→z0c prog 80 ds r:=w0S fun z r h1 h2 h=>by cases h;exact z3g z h1 h2
theorem x1U:∀ds r,kI (fun z=>some (Q (z:Rat))) ds=some r→z0c prog 44 ds r:=w0S fun z r h1 h2 h=>by cases h;exact z47 z h1 h2
theorem x1T:∀ds r,kI (fun z=>some (.agg (xnC (qX (y2X z))))) ds=some r→z0c prog 30 ds r:=w0S fun z r h1 h2 h=>by cases h;exact z3e z ⟨h1,h2⟩
theorem w2x:∀ds r,k1 (fun x=>if smX 9000 x then some (.int .i64 (xnV x).num.sign) else none) ds=some r→z0c prog 234 ds r:=w38 fun x r l1 l2 h=>by
 split at h
 ·rename_i hs;cases h;obtain ⟨g1,g2⟩:=z7V hs;exact z9K _ _ _ g1 g2 l1 l2
 ·cases h
theorem x8u:∀ds r,k1 (fun x=>if smX 9000 x then some (.bool (z5p x.1 x.2.1 x.2.2)) else none) ds=some r→z0c prog 158 ds r:=w38 fun x r l1 l2 h=>by
 split at h
 ·rename_i hs;cases h;obtain ⟨g1,g2⟩:=z7V hs;exact z4v _ _ _ g1 g2 l1 l2
 ·cases h
theorem w5t:∀ds r,k2 (fun x y=>if smX 4400 x && smX 4400 y then some (Q (xnV x+xnV y)) else none) ds=some r→z0c prog 38 ds r:=w0R fun x y r l1 l2 l3 l4 h=>by
 split at h
 ·rename_i hs
  cases h
  rw [Bool.and_eq_true] at hs
  obtain ⟨g1,g2⟩:=z7V hs.1
  obtain ⟨g3,g4⟩:=z7V hs.2
  exact y1L _ _ _ _ _ _ g1 g2 g3 g4 l1 l2 l3 l4
 ·cases h
theorem w5u:∀ds r,k2 (fun x y=>if smX 4400 x && smX 4400 y then some (Q (xnV x*xnV y)) else none) ds=some r→z0c prog 157 ds r:=w0R fun x y r l1 l2 l3 l4 h=>by
 split at h
 ·rename_i hs
  cases h
  rw [Bool.and_eq_true] at hs
  obtain ⟨g1,g2⟩:=z7V hs.1
  obtain ⟨g3,g4⟩:=z7V hs.2
  exact y1M _ _ _ _ _ _ g1 g2 g3 g4 l1 l2 l3 l4
 ·cases h
theorem w2w:∀ds r,k2 (fun x y=>if smX 9000 x && smX 9000 y && decide (x=qX (xnV x)) && decide (y=qX (xnV y)) then some (.bool (decide (xnV x=xnV y))) else none) ds=some r→z0c prog 29 ds r:=w0R fun x y r l1 l2 l3 l4 h=>by
 split at h
 ·rename_i hs
  cases h
  simp only [Bool.and_eq_true,decide_eq_true_eq] at hs
  obtain ⟨⟨⟨s1,s2⟩,e1⟩,e2⟩:=hs
  obtain ⟨g1,g2⟩:=z7V s1
  obtain ⟨g3,g4⟩:=z7V s2
  have:=x9n (xnV x) (xnV y) (z5b l1 l2 g1 g2 (by decide)) (z5b l3 l4 g3 g4 (by decide))
  have q1:Q (xnV x)=.agg (xnC x):=by
   have h0:Q (xnV x)=.agg (xnC (qX (xnV x))):=rfl
   rw [h0,←e1]
  have q2:Q (xnV y)=.agg (xnC y):=by
   have h0:Q (xnV y)=.agg (xnC (qX (xnV y))):=rfl
   rw [h0,←e2]
  rw [q1,q2] at this
  exact this
 ·cases h
end Go.Proofs.YtlcagndeidjobaaGreatDoor
namespace Go.Proofs.YtlcagndeidjobaaGreatDoor
open Tryz
open Go Go.Dat Go.Proofs Go.RowKit Nat32
theorem x6M {F:FnD} {os:List DOper} {dst:Dst} {te fr:Fr} {H:Hp} {K:Fr→Fr→Hp→Prop} (sz:Nat) (z:List DV) (x:Opd):goW F os dst te fr H K (.clr sz z x)=z0Q F os dst te fr H K (opE F.nb dst.slot (ev te fr) (lkH H) (.clr sz z x)):=rfl
theorem y7U {k z o:Nat} {X:List DV} {c:List DV} {fr:Fr} {H:Hp} (ho:o<1048576) (hd:lk fr k=.sl z X):x9J [.t k] [(o,c)] (fun r H'=>r=.sl z X∧H'=[]) .ret fr H:=by
 refine ⟨.inr rfl,[.sl z X],.sl z X,[],⟨rfl,rfl⟩,fun p hp h=>?_,by simp [z4y,z9N,hd],by simp only [y5a];exact z5m _ _ rfl,fun p c h=>by cases h⟩
 simp only [lkH] at h
 rw [if_neg (by omega)] at h;cases h
theorem y3j (l:List Fac) (hl:l.length≤1000000) (p:Fac→Bool) (v:DV) (g:Nat) (cs:List DV) (hv:z6N v g cs) (hcs:cs.all DV.rf=true) (hg:z0U prog g) (hc:∀f∈l,z0c prog g ([.agg (fcC f)]++cs) (.bool (p f))):z0c prog 242 [.sl 2 (fcs l),v] (.int .i64 (ixP p l)):=by
 have hln:(fcs l).length / 2=l.length:=by rw [z4m];omega
 have hlen:=z4m l
 refine z0b x4l (by simp [y4y]) ?_
 unfold z8J
 refine zS hln ?_
 refine z0v (σ:=Nat) (fun i=>[(0,.sl 2 (fcs l)),(1,v),(7,.int .i64 l.length),(8,.int .i64 i)]) (fun _=>[]) (fun i=>i≤l.length∧∀j,j<i→p (l.getD j default)=false) (fun i=>l.length - i) 0 ⟨Nat.zero_le _,by simp⟩ ?_ rfl ?_
 ·simp [z0y,lk]
 ·rintro i ⟨hi,hall⟩
  try simp only at hi hall ⊢
  by_cases hlt:i<l.length
  ·have dl:decide ((i:Int)<(l.length:Int))=true:=zT9
   have ei:(i:Int).toNat=i:=Int.toNat_natCast i
   have e1:((i:Int)+1)=((i+1:Nat):Int):=by omega
   have hw:((fcs l).drop (i*2)).take 2=fcC (l.getD i default):=z1m (j:=0) z2i default hlt (Nat.le_refl _)
   have cf:=hc _ (z6j hlt)
   have hb6:i*2+2≤(fcs l).length:=by omega
   refine zS dl ?_
   refine wTs ?_
   refine z0d ?_
   refine z0f ?_
   refine z0d ?_
   refine z0g ?_
   refine zD ?_
   refine z0d ?_
   refine z3D [om 11 1,om 12 0,om 13 5,ot 14 (.iad 2 (.t 12) (.t 13)),ot 15 (.ldn 2 (.t 14))] [] (.x 16) (.t 11) [.t 15] rfl ?_
   refine zE (zA ei (zA hlen hw)) ?_
   refine ⟨⟨by omega,by omega⟩,by omega,g,cs,hv,hg,z1G cf (by rw [List.all_append,hcs];rfl) ?_⟩
   cases hp:p (l.getD i default)
   ·have hnx:∀j,j<i+1→p (l.getD j default)=false:=fun j hj=>by
     rcases Nat.lt_or_ge j i with h|h
     ·exact hall j h
     ·obtain rfl:j=i:=by omega
      exact hp
    refine zR ?_
    refine wFs ?_
    refine zS e1 ?_
    exact ⟨i+1,⟨by omega,hnx⟩,by omega,by simp [z0y,lk]⟩
   ·have hx:=y4U default hlt hp hall
    rw [hx]
    refine zR ?_
    refine wT ?_
    refine zR ?_
    exact z0i (z0h (.imm rfl))
  ·have dl:decide ((i:Int)<(l.length:Int))=false:=zF9
   rw [y4V default fun j hj=>hall j (by omega)]
   refine zS dl ?_
   refine z0l rfl (fun h=>by cases h) (fun _=>z0q ?_)
   refine zR ?_
   exact z0i (z0h (.imm rfl))
theorem y7v (S:List Fac) (hl:S.length≤1000000) (p:Fac→Bool) (v:DV) (g:Nat) (cs:List DV) (hv:z6N v g cs) (hcs:cs.all DV.rf=true) (hvr:v.rf=true) (hg:z0U prog g) (hc:∀f,z0c prog g ([.agg (fcC f)]++cs) (.bool (p f))) :
  y7S prog 214 [.osl 2 1000 0 S.length,v] [(1000,fcs S)] (fun r H'=>r=.sl 2 (fcs (S.filter fun x=>!p x))∧H'=[]):=by
 have ci:=y3j S hl p v g cs hv hcs hg fun f _=>hc f
 have hlen:=z4m S
 have hrl:=z8Y S
 have hsq:[DV.osl 2 1000 0 S.length,v].map (slo 1000 (fcs S))=[.sl 2 (fcs S),v]:=by
  have h2:slo 1000 (fcs S) v=v:=by
   cases v<;>first|(cases hvr;done)|simp [slo,hvr]|rfl
  have h3:slo 1000 (fcs S) (.osl 2 1000 0 S.length)=.sl 2 (fcs S):=by
   simp [slo,hlen]
   rw [List.take_of_length_le (by omega)]
  rw [List.map_cons,List.map_cons,List.map_nil,h2,h3]
 have hv0:purge 7 v=v:=z1s 7 hvr
 have hv1:∀cs,frz 7 cs v=v:=fun cs=>by
  have:=z1p 7 cs (cs:=[v]) (by simpa using hvr)
  simpa using this
 have hb:=y9i p S
 have hneg:=@x4s _ p S
 have hzero:=fun k=>@x2R _ p default S k
 refine z8i x4j (by simp [y4w]) ?_
 unfold z8H
 generalize hK:ixP p S=K at *
 refine zR ?_
 refine y6f rfl 1000 ci rfl hrl hsq rfl ?_
 by_cases hk:K = -1
 ·have dk:decide (K = -1)=true:=decide_eq_true hk
  rw [hneg hk]
  refine zS dk ?_
  refine wT ?_
  refine z0I 1000 (cells:=fcs S) rfl (List.all_eq_true.2 hrl) ?_
  have hfz:frz 1000 (fcs S) (.osl 2 1000 0 S.length)=.sl 2 (fcs S):=by
   simp [frz,hlen]
   rw [List.take_of_length_le (by omega)]
  refine zS hfz ?_
  exact z0i (y7U (by decide) rfl)
 ·have dk:decide (K = -1)=false:=decide_eq_false hk
  obtain ⟨k,rfl⟩:∃k:Nat,K=k:=⟨K.toNat,by omega⟩
  have hF:=hzero k rfl
  refine zS dk ?_
  refine wFs ?_
  have e1:((k:Int)+1)=((k+1:Nat):Int):=by omega
  refine zS e1 ?_
  refine z0v (σ:=Nat × Nat × List Fac) (fun s=>[(0,.osl 2 1000 0 S.length),(1,v),(5,.int .i64 s.1),(6,.int .i64 s.2.1)]) (fun s=>[(1000,fcs s.2.2)]) (fun s=>x8K p S s.1 s.2.1 s.2.2) (fun s:Nat × Nat × List Fac=>S.length - s.2.1) (k,k+1,S) hF ?_ rfl ?_
  ·simp [z0y,lk]
  ·rintro ⟨i,j,A⟩ hI
   try simp only at hI ⊢
   have hAl:=hI.1
   have hij:=hI.2.1
   have hjl:=hI.2.2.1
   have hAx:=z4m A
   by_cases hlt:j<S.length
   ·have dl:decide ((j:Int)<(S.length:Int))=true:=zT9
    have ei:(i:Int).toNat=i:=Int.toNat_natCast i
    have ej:(j:Int).toNat=j:=Int.toNat_natCast j
    have e1:((i:Int)+1)=((i+1:Nat):Int):=by omega
    have e2:((j:Int)+1)=((j+1:Nat):Int):=by omega
    have hw:((fcs A).drop (j*2)).take 2=fcC (S.getD j default):=by
     rw [←x6F default hI hlt]
     exact z1m (j:=0) z2i default (by omega) (Nat.le_refl _)
    have hb4:j*2+2≤(fcs A).length:=by omega
    have hset:(fcs A).take (i*2)++fcC (S.getD j default)++(fcs A).drop (i*2+2)=fcs (A.set i (S.getD j default)):=w3s z2i _ (by omega)
    have cf:=hc (S.getD j default)
    have hkeep:=x2P default hI hlt
    have hskip:=x2Q default hI hlt
    have hcc:(DV.agg (fcC (S.getD j default))).cells? = some (fcC (S.getD j default)):=rfl
    have hcl:=z2i (S.getD j default)
    have htk:(fcC (S.getD j default)).take 2=fcC (S.getD j default):=rfl
    have hCrf:=x2O (S.getD j default)
    have hCa:(fcC (S.getD j default)).all DV.rf=true:=List.all_eq_true.2 hCrf
    generalize hX:S.getD j default=x at *
    generalize hC:fcC x=C at *
    refine zS dl ?_
    refine wTs ?_
    refine z0d ?_
    refine z0f ?_
    refine z0d ?_
    refine z0g ?_
    refine zE (zA ei (zA ej (zA hAx (zA hw (zA hcc (zA hcl (zA htk (zA @List.drop_zero.{0} @cS)))))))) ?_
    refine ⟨⟨by omega,by omega⟩,by omega,?_⟩
    refine z0d ?_
    refine z3D [om 26 1,ot 27 (.ldn 2 (.x 7))] [ox 29 (.un .not (.t 28))] (.t 28) (.t 26) [.t 27] rfl ?_
    refine zE (zA ei (zA ej (zA hAx (zA hw (zA hcc (zA hcl (zA htk (zA @List.drop_zero.{0} @cS)))))))) ?_
    refine ⟨g,cs,hv,hg,z1G cf (by simp only [List.cons_append,List.nil_append,List.all_cons,DV.rf_agg,hCa,hcs,Bool.and_self]) ?_⟩
    cases hp:p x
    ·refine zR ?_
     refine wT ?_
     have hf1:=z1p 7 C (z8Y (A.set i x))
     refine z0d ?_
     refine z0g ?_
     refine zE (zA ei (zA ej (zA hAx (zA hw (zA hcc (zA hcl (zA htk (zA @List.drop_zero.{0} @cS)))))))) ?_
     refine ⟨⟨by omega,by omega⟩,by omega,?_⟩
     rw [hset]
     refine z0I 7 (cells:=C) rfl hCa ?_
     refine zS (zA e1 (zA e2 (zA hf1 hv1))) ?_
     exact ⟨(i+1,j+1,A.set i x),hkeep hp,by show S.length - (j+1)<S.length - j;omega,by simp [z0y,lk,z1H],rfl⟩
    ·refine zR ?_
     refine wFs ?_
     have hf1:=z1p 7 C (z8Y A)
     refine z0I 7 (cells:=C) rfl hCa ?_
     refine zS (zA e2 (zA hf1 hv1)) ?_
     exact ⟨(i,j+1,A),hskip hp,by show S.length - (j+1)<S.length - j;omega,by simp [z0y,lk,z1H],rfl⟩
   ·have dl:decide ((j:Int)<(S.length:Int))=false:=zF9
    obtain rfl:j=S.length:=by omega
    have hend:=x6E hI
    have ei:(i:Int).toNat=i:=Int.toNat_natCast i
    refine zS dl ?_
    refine z0l rfl (fun h=>by cases h) (fun _=>z0q ?_)
    obtain ⟨hr1,hr2⟩:=w6I (S.length - i) (.str []) (.int .i64 0) rfl
    simp (maxSteps:=1000000) (disch:=omega) only [cA,cB,cN,FnD.nb,lk,lkH,Dst.onT,Dst.onX,Dst.slot,z0W,z0N,z0J,z0X,z0u,z0V,unE,cnt,z0j,z0t,z0m,z0o,opE,rmH,z02,z0n,Nat.reduceEqDiff,Nat.reduceLT,Nat.reduceAdd,Nat.reduceMul,Nat.reduceMod,↓reduceIte,reduceCtorEq,Nat.reduceLeDiff]
    refine z0d ?_
    refine z0g ?_
    simp (maxSteps:=1000000) (disch:=omega) only [cA,cB,cN,FnD.nb,lk,lkH,Dst.onT,Dst.onX,Dst.slot,z0W,z0N,z0J,z0X,z0u,z0V,unE,cnt,z0j,z0t,z0m,z0o,opE,rmH,z02,z0n,Nat.reduceEqDiff,Nat.reduceLT,Nat.reduceAdd,Nat.reduceMul,Nat.reduceMod,↓reduceIte,reduceCtorEq,Nat.reduceLeDiff,x6M,ei,hAx]
    refine ⟨⟨by omega,by omega⟩,by omega,?_⟩
    have hil:i<S.length:=by omega
    have htA:(fcs A).take (i*2)=fcs (S.filter fun x=>!p x):=by
     rw [←hend];exact y6o z2i A i
    have hlT:((fcs A).take (i*2)).length=i*2:=by rw [List.length_take];omega
    have hdA:(fcs A).drop (i*2+(S.length - i)*2)=[]:=List.drop_eq_nil_of_le (by omega)
    rw [hdA,List.append_nil,htA]
    rw [htA] at hlT
    obtain ⟨Z,hZ⟩:∃Z,Z=fcs (S.filter fun x=>!p x)++rep (S.length - i) [DV.str [],.int .i64 0]:=⟨_,rfl⟩
    have hZl:Z.length=S.length*2:=by rw [hZ,List.length_append,hr1,hlT];omega
    have hZr:∀d∈Z,d.rf=true:=fun d hd=>by
     rw [hZ,List.mem_append] at hd
     rcases hd with hd|hd
     ·exact z8Y _ d hd
     ·exact hr2 d hd
    have hZt:Z.take (i*2)=fcs (S.filter fun x=>!p x):=by rw [hZ,←hlT,List.take_left]
    rw [←hZ]
    refine z0I 1000 (cells:=Z) rfl (List.all_eq_true.2 hZr) ?_
    have hfz:frz 1000 Z (.osl 2 1000 0 S.length)=.sl 2 Z:=by
     simp [frz,hZl]
     rw [List.take_of_length_le (by omega)]
    have hv2:frz 1000 Z v=v:=by
     have:=z1p 1000 Z (cs:=[v]) (by simpa using hvr)
     simpa using this
    have hZc:Z.length / 2=S.length:=by omega
    refine zS (zA hfz (zA hv2 (zA ei (zA hZc (zA hZt (zA @List.drop_zero.{0} @Nat.zero_mul)))))) ?_
    exact z0i (y7U (by decide) rfl)
theorem x1N (l:List Fac) (hl:l.length≤1000000):y7S prog 215 [.sl 2 (fcs l)] [] fun r H'=>r=.osl 2 5 0 l.length∧H'=[(5,fcs l)]:=by
 have hll:=z4m l
 have hrf:=z8Y l
 refine z8i x0S (by simp [y1h]) ?_
 unfold z7p
 by_cases h:l=[]
 ·subst h
  refine z0d ?_
  refine z0g ?_
  refine zD ?_
  refine z0d ?_
  refine z0d ?_
  refine x9M [om 3 0] (.x 4) false (.t 3) rfl ?_
  refine zD ?_
  refine ⟨⟨2,rfl⟩,fun b=>?_⟩
  cases b
  ·refine wFs ?_
   refine zR ?_
   refine ⟨⟨by decide,by decide,fun h=>h,by intro d hd;cases hd⟩,?_⟩
   exact z0i (y1W rfl rfl (by intro d hd;cases hd))
  ·refine wT ?_
   refine zR ?_
   refine z4a 2 2 5 rfl rfl ?_
   exact z0i (y1W rfl rfl (by intro d hd;cases hd))
 ·have hne:¬fcs l=[]:=fun e=>h (List.eq_nil_of_length_eq_zero (by rw [e] at hll;simp at hll;omega))
  have hpg:=z0k 5 hrf
  have hl5:(fcs l).length / 2=l.length:=by omega
  refine zR ?_
  refine wFs ?_
  refine zS (zA hll (zA hl5 (zA hpg @List.nil_append.{0}))) ?_
  refine ⟨⟨by omega,by omega,fun h=>h,w0b l⟩,?_⟩
  rw [show 0 / 2+l.length*2 / 2=l.length by omega]
  exact z0i (y1W rfl rfl hrf)
theorem x6m:z0U prog 216:=⟨_,func216,by kernel_rfl,by kernel_rfl⟩
theorem x6N {F:FnD} {os:List DOper} {dst:Dst} {te fr:Fr} {H:Hp} {K:Fr→Fr→Hp→Prop} (b:Bool) (l:List (Nat × Nat)) (x y:Opd):goW F os dst te fr H K (.eqs b l x y)=z0Q F os dst te fr H K (opE F.nb dst.slot (ev te fr) (lkH H) (.eqs b l x y)):=rfl
theorem z72 (x f:Fac):z0c prog 216 [.agg (fcC x),.el (fcC f) 0] (.bool (decide (x=f))):=by
 have hq:decide (x=f)=if decide (x.nm=f.nm) then decide (x.pw=f.pw) else false:=by
  obtain ⟨a,b⟩:=x
  obtain ⟨c,d⟩:=f
  simp only [Fac.mk.injEq]
  by_cases h:a=c<;>by_cases h2:b=d<;>simp [h,h2]
 refine z0b y4O (by simp [z7x]) ?_
 unfold z4W
 refine zS (zA @cS @fcC.eq_1) ?_
 refine ⟨by simp [DV.rf],?_⟩
 refine z0d ?_
 refine z0g ?_
 refine zE (zA @x6N (zA @cS @List.drop_zero.{0})) ?_
 have he:x6B [DV.str x.nm,.int .i64 x.pw] [.str f.nm,.int .i64 f.pw] [(0,2),(1,0)]=some (decide (x=f)):=by
  rw [hq]
  by_cases h:x.nm=f.nm<;>by_cases h2:x.pw=f.pw<;>simp [x6B,eqD,h,h2]
 rw [he]
 simp only [Option.map_some]
 refine zD ?_
 exact z0i (z0h (.imm rfl))
theorem z4i (B:List DV) (t:List Fac) (f:Fac) (c:DV) (r:Bool) (hB:B.all DV.rf=true) (hl:B.length=6) (hc:B.getD 5 .undef=c) (hcr:c.rf=true) (ht:t.length≤1000000)
  (hp:z0c prog 217 [.el B 0,.sl 2 (fcs (t.filter fun x=>!decide (x=f)))] (.bool r)) :
  z0c prog 154 [.el B 0,.sl 2 (fcs t),.agg (fcC f)] (if r then c else .int .i64 4):=by
 have hN:=x1N t ht
 have hD:=y7v t ht (fun x=>decide (x=f)) (.clo 216 [.el (fcC f) 0]) 216 [.el (fcC f) 0] (.inl rfl) (by simp [DV.rf,fcC]) (by simp [DV.rf,fcC]) x6m fun x=>z72 x f
 have rfB:(DV.el B 0).rf=true:=by simp [DV.rf]
 have rE:∀g,rn g (.el B 0)=.el B 0:=fun g=>z5m _ _ rfB
 have rS:∀g,rn g (.sl 2 (fcs t))=.sl 2 (fcs t):=fun g=>z5m _ _ (by simp [DV.rf])
 unfold fcC at hD
 refine z0b y6C (by simp [z83]) ?_
 unfold z5z
 refine zS (zA @cS @fcC.eq_1) ?_
 refine ⟨by simp [DV.rf],?_⟩
 refine zR ?_
 refine y0D 200 hN rfl (z8Y _) (by decide) (by decide) (by decide) rfl (by simp [DV.rf]) ?_
 refine zE rfB ?_
 refine ⟨by simp [DV.rf],?_⟩
 have rC:∀g,rn g (.clo 216 [.el [.str f.nm,.int .i64 f.pw] 0])=.clo 216 [.el [.str f.nm,.int .i64 f.pw] 0]:=fun g=>z5m _ _ (by simp [DV.rf])
 have rF:∀g,rn g (.el [.str f.nm,.int .i64 f.pw] 0)=.el [.str f.nm,.int .i64 f.pw] 0:=fun g=>z5m _ _ (by simp [DV.rf])
 have rA:∀g,rn g (.agg [.str f.nm,.int .i64 f.pw])=.agg [.str f.nm,.int .i64 f.pw]:=fun g=>z5m _ _ (by simp [DV.rf,DV.rfL])
 refine x6k rfl 200 _ _ (by decide) rfl (z8Y _) (by simp [DV.rf]) (by simp [rC];simp [rn,x3y]) hD [] (fun p=>?_) ?_
 ·simp only [lkH]
  by_cases e:p=200
  ·rw [if_pos e]
  ·rw [if_neg e,if_neg (Ne.symm e)];rfl
 simp (maxSteps:=1000000) (disch:=omega) only [cA,cB,cN,FnD.nb,lk,lkH,Dst.onT,Dst.onX,Dst.slot,z0W,z0N,z0J,z0X,z0u,z0V,unE,cnt,z0j,z0t,z0m,z0o,opE,rmH,z02,z0n,Nat.reduceEqDiff,Nat.reduceLT,Nat.reduceAdd,Nat.reduceMul,Nat.reduceMod,↓reduceIte,reduceCtorEq,Nat.reduceLeDiff,rE,rS,rC,rF,rA,rn,x0u]
 have hg5:B.getD 5 .undef=c:=hc
 repeat (first|refine zQ (zA hc hl) ?_|refine cP hp ?_|exact zT)
 cases r
 ·refine wFs ?_
  refine zR ?_
  exact z0i (z0h (.imm rfl))
 ·refine wT ?_
  refine zS (zA hc hl) ?_
  exact z0i (z0h (.imm hcr))
theorem w6Y (w:World) (n:Nat) (es:Array MapEntry) (clock:Nat) (k:Int) (v:Value) (h:w.heap[n]? = some (.map es clock)) (hf:Instr.findNow (.int .i64) (.int .i64 k) es.toList 0=some none) :
  (Instr.mapUpdate 256 (.map (some n)) (.int .i64 k) v).run prog w=.ok () { w with heap:=w.heap.setIfInBounds n (.map (es.push ⟨.int .i64 k,v,clock⟩) (clock+1)) }:=by
 have hu:prog.underlying 256=some (.map 3 255):=by kernel_rfl
 have hu3:prog.underlying 3=some (.int .i64):=by kernel_rfl
 unfold Instr.mapUpdate underlying program
 simp only [bind,Sem.bind,pure,Sem.run,hu,getObj,h]
 unfold Instr.checkKey Instr.findKey underlying program
 simp only [bind,Sem.bind,pure,Sem.run,hu3,hf,setObj,h]
theorem x8r (w:World) (es:Array MapEntry) (clock:Nat) (k:Int) (v:Value) (hf:Instr.findNow (.int .i64) (.int .i64 k) es.toList 0=some none) :
  (Instr.mapUpdate 256 (.map (some w.heap.size)) (.int .i64 k) v).run prog (w.alloc (.map es clock))=.ok () (w.alloc (.map (es.push ⟨.int .i64 k,v,clock⟩) (clock+1))):=by
 have h:(w.alloc (.map es clock)).heap[w.heap.size]? = some (.map es clock):=by unfold World.alloc;exact Array.getElem?_push_size
 rw [w6Y _ _ es clock k v h hf]
 unfold World.alloc
 congr 2
 apply Array.ext_getElem?
 intro i
 simp only [Array.getElem?_setIfInBounds,Array.getElem?_push,Array.size_push]
 by_cases e:w.heap.size=i
 ·subst e;simp
 ·simp [e,Ne.symm e]
def x95:Array MapEntry:=#[⟨.int .i64 4,.func (.func 260) #[] #[],0⟩,⟨.int .i64 1,.func (.func 262) #[] #[],1⟩,⟨.int .i64 2,.func (.func 263) #[] #[],2⟩,⟨.int .i64 3,.func (.func 264) #[] #[],3⟩]
set_option maxRecDepth 100000 in
theorem x2I (w:World):Calls prog 245 #[] w fun e w'=>e=.returned (.map (some w.heap.size))∧w'=w.alloc (.map x95 4):=by
 have hmm:=@run_makeMap prog
 have h1:=x8r w #[] 0 4 (.func (.func 260) #[] #[]) rfl
 have h2:=x8r w #[⟨.int .i64 4,.func (.func 260) #[] #[],0⟩] 1 1 (.func (.func 262) #[] #[]) rfl
 have h3:=x8r w #[⟨.int .i64 4,.func (.func 260) #[] #[],0⟩,⟨.int .i64 1,.func (.func 262) #[] #[],1⟩] 2 2 (.func (.func 263) #[] #[]) rfl
 have h4:=x8r w #[⟨.int .i64 4,.func (.func 260) #[] #[],0⟩,⟨.int .i64 1,.func (.func 262) #[] #[],1⟩,⟨.int .i64 2,.func (.func 263) #[] #[],2⟩] 3 3 (.func (.func 264) #[] #[]) rfl
 simp only [List.push_toArray,List.cons_append,List.nil_append,Nat.zero_add,Nat.reduceAdd] at h1 h2 h3 h4
 go_enter func245,Tryz.ntmps245
 go_wp2
 go_ret
 exact ⟨rfl,rfl⟩
theorem w4d (w:World) (k:Int) (g:Nat) (h:(w.alloc (.map x95 4)).heap[w.heap.size]? = some (.map x95 4)) (hk:(k=1∧g=262)∨(k=2∧g=263)∨(k=3∧g=264)∨(k=4∧g=260)) :
  (Instr.lookup 256 (.map (some w.heap.size)) (.int .i64 k) false).run prog (w.alloc (.map x95 4))=.ok (.func (.func g) #[] #[]) (w.alloc (.map x95 4)):=by
 have hu:prog.underlying 256=some (.map 3 255):=by kernel_rfl
 have hu3:prog.underlying 3=some (.int .i64):=by kernel_rfl
 have hf:∃i,Instr.findNow (.int .i64) (.int .i64 k) x95.toList 0=some (some (i,.func (.func g) #[] #[])):=by
  rcases hk with ⟨rfl,rfl⟩|⟨rfl,rfl⟩|⟨rfl,rfl⟩|⟨rfl,rfl⟩<;>exact ⟨_,rfl⟩
 obtain ⟨i,hf⟩:=hf
 unfold Instr.lookup underlying program
 simp only [bind,Sem.bind,pure,Sem.run,hu,getObj,h]
 unfold Instr.checkKey Instr.findKey underlying program
 simp only [bind,Sem.bind,pure,Sem.run,hu3,hf]
 rfl
noncomputable def cmR:Code:=match Tryz.f211.body with|some (.seq _ (.seq _ (.seq r _)))=>r|_=>.skip
set_option maxRecDepth 100000 in
theorem w5T (k:Int) (g:Nat) (hk:(k=1∧g=262)∨(k=2∧g=263)∨(k=3∧g=264)∨(k=4∧g=260)) {fr:Fr} (f0:lk fr 0=.int .i64 k) {Q:Ex→Fr→Hp→Prop} (hQ:Q .norm (z0W fr 6 (.fn g)) []):WC z2j cmR Q fr []:=by
 intro G L a w hK hn hR
 have hn1:G.n=54:=hn.1
 have s0:=hR.slots 0
 rw [show den z2j.vs [] fr 0=lk fr 0 from rfl,f0] at s0
 have e0:=s0.inv_int
 have hl:=w4d w k g (by unfold World.alloc;exact Array.getElem?_push_size) hk
 obtain ⟨tmps,defers⟩:=a
 simp only at e0
 have hz:tmps.size=54:=by have:=hR.size;rw [hn1] at this;exact this
 have e0':tmps[0]'(by omega)=.int .i64 k:=by
  rw [Array.getD_eq_getD_getElem?,Array.getElem?_eq_getElem (by omega)] at e0;exact e0
 show Code.wp prog cmR _ _ w
 unfold cmR Tryz.f211
 dsimp only
 go_wp2_with (go_at_call 245;refine (x2I w).mono ?_;rintro e w5 ⟨rfl,rfl⟩)
 all_goals first|(exfalso;omega)|skip
 have hR2:=hR.still (Ext.alloc (fun _=>False) w (.map x95 4))
 refine ⟨L,_,[],.norm,⟨by simp [hz,hn1],hR2.defers,fun s=>?_,hR2.heap,hR2.ext,hR2.sLt,hR2.own,hR2.keep,hR2.shp⟩,rfl,hQ⟩
 have h:=hR2.slots s
 simp only [den] at h ⊢
 split
 ·rename_i hs
  rw [if_pos hs] at h
  rw [z9v]
  by_cases e6:s=6
  ·subst e6
   rw [if_pos rfl,Array.getD_eq_getD_getElem?,Array.getElem?_setIfInBounds_self_of_lt (by simp;omega)]
   exact .imm (.fn g)
  ·rw [if_neg e6]
   have n14:s≠14:=fun e=>by subst e;revert hs;decide
   have n15:s≠15:=fun e=>by subst e;revert hs;decide
   have n16:s≠16:=fun e=>by subst e;revert hs;decide
   rw [Array.getD_eq_getD_getElem?] at h ⊢
   rw [Array.getElem?_setIfInBounds_ne (Ne.symm e6),Array.getElem?_setIfInBounds_ne (Ne.symm n16),Array.getElem?_setIfInBounds_ne (Ne.symm n15),Array.getElem?_setIfInBounds_ne (Ne.symm n14)]
   exact h
 ·exact .imm (.undef _)
noncomputable def cmA:Code:=match Tryz.f211.body with|some (.seq a _)=>a|_=>.skip
noncomputable def cmB:Code:=match Tryz.f211.body with|some (.seq _ (.seq b _))=>b|_=>.skip
noncomputable def cmZ:Code:=match Tryz.f211.body with|some (.seq _ (.seq _ (.seq _ c)))=>c|_=>.skip
noncomputable def w66:DC:=match z5y with | .seq _ (.seq b _)=>b|_=>.skip
noncomputable def w67:DC:=match z5y with | .seq _ (.seq _ (.seq _ c))=>c|_=>.skip
noncomputable def tbC:Tb:=([(244,⟨z27,z2r,z3U⟩),(246,⟨z26,z2q,z3T⟩),(260,⟨z3G,z2O,z3h⟩),(262,⟨z3H,z2P,z3i⟩),(263,⟨z3I,z2Q,z3j⟩),(264,⟨z3J,z2R,z3k⟩),(261,⟨y2i,z6r,z9P⟩)],[(80,kI (fun z=>some (Q (z:Rat))))])
theorem x9y:TOK prog tbC:=by
 have h:=TOK.ext y1U (TOK.nil (P:=prog))
 have h:=TOK.cons (f:=261) (e:=⟨y2i,z6r,z9P⟩) ⟨rfl,rfl,x6R,_,func261,by kernel_rfl,by kernel_rfl⟩ h
 have h:=TOK.cons (f:=264) (e:=⟨z3J,z2R,z3k⟩) ⟨rfl,rfl,y2B,_,func264,by kernel_rfl,by kernel_rfl⟩ h
 have h:=TOK.cons (f:=263) (e:=⟨z3I,z2Q,z3j⟩) ⟨rfl,rfl,y2A,_,func263,by kernel_rfl,by kernel_rfl⟩ h
 have h:=TOK.cons (f:=262) (e:=⟨z3H,z2P,z3i⟩) ⟨rfl,rfl,y2z,_,func262,by kernel_rfl,by kernel_rfl⟩ h
 have h:=TOK.cons (f:=260) (e:=⟨z3G,z2O,z3h⟩) ⟨rfl,rfl,y2y,_,func260,by kernel_rfl,by kernel_rfl⟩ h
 have h:=TOK.cons (f:=246) (e:=⟨z26,z2q,z3T⟩) ⟨rfl,rfl,z7G,_,func246,by kernel_rfl,by kernel_rfl⟩ h
 have h:=TOK.cons (f:=244) (e:=⟨z27,z2r,z3U⟩) ⟨rfl,rfl,z7H,_,func244,by kernel_rfl,by kernel_rfl⟩ h
 exact h
theorem z1B (k n:Nat) (g:Nat) (hk:((k:Int)=1∧g=262)∨((k:Int)=2∧g=263)∨((k:Int)=3∧g=264)∨((k:Int)=4∧g=260))
  (hB:evN tbC 400 z2j w66 [(0,.int .i64 k),(1,.int .i64 n),(4,.nils),(5,.int .i64 0)] [] 1000=some (.norm,[(0,.int .i64 k),(1,.int .i64 n),(4,.nils),(5,.int .i64 0),(13,.bool false)],[],1000))
  (hZ:w6J (evN tbC 400 z2j w67 [(0,.int .i64 k),(1,.int .i64 n),(4,.nils),(5,.int .i64 0),(6,.fn g),(13,.bool false)] [] 1000) y5k (ctD k n)=true):z0c prog 211 [.int .i64 k,.int .i64 n] (ctD k n):=by
 have hbody:Tryz.f211.body=some (.seq cmA (.seq cmB (.seq cmR cmZ))):=rfl
 refine x0e (F:=z2j) func211 hbody rfl rfl (by kernel_rfl) (by simp [z2j]) ?_
 refine x18 (x9L (c:=.reg [ox 4 (.mv (.c .nils)),ox 5 (.mv (oi 0))]) (by kernel_rfl) ?_)
 refine zR ?_
 refine x18 (w2S x9y (c:=w66) (by kernel_rfl) rfl rfl hB ?_)
 refine x18 (w5T k g hk rfl ?_)
 exact w2T x9y (c:=w67) (by kernel_rfl) rfl rfl hZ
theorem z62:∀ds r,ctK ds=some r→z0c prog 211 ds r:=by
 intro ds r h
 unfold ctK at h
 split at h
 ·rename_i k n
  split at h
  ·rename_i hkn
   cases h
   obtain ⟨k,rfl⟩:∃m:Nat,k=m:=⟨k.toNat,by omega⟩
   obtain ⟨n,rfl⟩:∃m:Nat,n=m:=⟨n.toNat,by omega⟩
   rw [Int.toNat_natCast,Int.toNat_natCast]
   have hk:k=1∨k=2∨k=3∨k=4:=by omega
   have hn:n=2∨n=3:=by omega
   rcases hk with rfl|rfl|rfl|rfl<;>rcases hn with rfl|rfl
   ·exact z1B 1 2 262 (by simp) (by kernel_rfl) (by kernel_rfl)
   ·exact z1B 1 3 262 (by simp) (by kernel_rfl) (by kernel_rfl)
   ·exact z1B 2 2 263 (by simp) (by kernel_rfl) (by kernel_rfl)
   ·exact z1B 2 3 263 (by simp) (by kernel_rfl) (by kernel_rfl)
   ·exact z1B 3 2 264 (by simp) (by kernel_rfl) (by kernel_rfl)
   ·exact z1B 3 3 264 (by simp) (by kernel_rfl) (by kernel_rfl)
   ·exact z1B 4 2 260 (by simp) (by kernel_rfl) (by kernel_rfl)
   ·exact z1B 4 3 260 (by simp) (by kernel_rfl) (by kernel_rfl)
  ·cases h
 ·cases h
theorem z8T (B:List DV) (r:Bool) (hB:B.all DV.rf=true) (hl:B.length=6) (h3:B.getD 3 .undef=.bool r):z0c prog 217 [.el B 0,.sl 2 []] (.bool r):=by
 refine z0b y2D (by simp [z5S]) ?_
 unfold z4g
 have d0:decide ((0:Int)=0)=true:=rfl
 repeat (first|refine z0d ?_|refine z0g ?_|refine z0p ?_|refine z0f ?_|refine And.intro (by omega) ?_|simp (maxSteps:=1000000) (disch:=omega) only [cA,cB,cN,FnD.nb,lk,lkH,Dst.onT,Dst.onX,Dst.slot,z0W,z0N,z0J,z0X,z0u,z0V,unE,cnt,z0j,z0t,z0m,z0o,opE,rmH,z02,z0n,Nat.reduceEqDiff,Nat.reduceLT,Nat.reduceAdd,Nat.reduceMul,Nat.reduceMod,↓reduceIte,reduceCtorEq,Nat.reduceLeDiff,hl,d0,cS])
 refine ⟨by simp [DV.rf],?_⟩
 repeat (first|refine z0d ?_|refine z0g ?_|refine z0p ?_|refine z0f ?_|refine And.intro (by omega) ?_|simp (maxSteps:=1000000) (disch:=omega) only [cA,cB,cN,FnD.nb,lk,lkH,Dst.onT,Dst.onX,Dst.slot,z0W,z0N,z0J,z0X,z0u,z0V,unE,cnt,z0j,z0t,z0m,z0o,opE,rmH,z02,z0n,Nat.reduceEqDiff,Nat.reduceLT,Nat.reduceAdd,Nat.reduceMul,Nat.reduceMod,↓reduceIte,reduceCtorEq,Nat.reduceLeDiff,hl,d0,cS,List.length_nil,Nat.zero_div])
 refine wT ?_
 refine zS (zA hl h3) ?_
 exact z0i (z0h (.imm rfl))
theorem w62:∀ds r,w5U ds=some r→z0c prog 154 ds r:=by
 intro ds r h
 unfold w5U at h
 split at h
 ·rename_i B n p n' p'
  split at h
  ·rename_i hc
   simp only [Bool.and_eq_true,decide_eq_true_eq] at hc
   obtain ⟨⟨⟨hB,hl⟩,rfl⟩,rfl⟩:=hc
   have hm:B.getD 5 .undef∈B:=by
    rw [zO1,zO4 (by omega)];exact List.getElem_mem _
   have h5:=List.all_eq_true.1 hB _ hm
   have key:∀b:Bool,B.getD 3 .undef=.bool b→z0c prog 154 [.el B 0,.sl 2 [.str n,.int .i64 p],.agg [.str n,.int .i64 p]] (if b then B.getD 5 .undef else .int .i64 4):=fun b hb=>by
    have hp:=z8T B b hB hl hb
    exact z4i B [⟨n,p⟩] ⟨n,p⟩ (B.getD 5 .undef) b hB hl rfl h5 (by show 1≤1000000;omega) (by
     have e:fcs ([(⟨n,p⟩:Fac)].filter fun x=>!decide (x=⟨n,p⟩))=[]:=by simp [fcs]
     rw [e];exact hp)
   split at h
   ·rename_i hb;cases h;exact key true hb
   ·rename_i hb;cases h;exact key false hb
   ·cases h
  ·cases h
 ·cases h
end Go.Proofs.YtlcagndeidjobaaGreatDoor
