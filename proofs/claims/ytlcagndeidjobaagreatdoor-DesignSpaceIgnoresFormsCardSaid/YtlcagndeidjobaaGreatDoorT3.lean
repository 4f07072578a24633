/- Lemmas of the walk; no conditions beyond those that each states. -/
import Derived.Lib.ItoaNum
import Derived.Lib.Repeat
import Derived.OpenShut
import Derived.Below
import Derived.Lib.SmallJoins
import Derived.Lib.Bytealg
import Derived.Lib.IndexAny
import Derived.Lib.TrimByte
import Derived.Lib.Strings
import Derived.Laws.RangeAny
import Derived.Lib.DecodeN
import Derived.WalkMore
import Derived.Shelf.RegionOpenPlain
import Derived.Laws.Runes
import Derived.Lib.OthersKept
import Derived.WalkKit
import Derived.Carry
import Derived.Test.YtlcagndeidjobaaGreatDoorD3
import Derived.Test.YtlcagndeidjobaaGreatDoorT2
import Derived.Test.YtlcagndeidjobaaGreatDoorC1
import Derived.Test.YtlcagndeidjobaaGreatDoorC2
import Derived.Test.YtlcagndeidjobaaGreatDoorD4
import Derived.Test.YtlcagndeidjobaaGreatDoorN1
import Derived.Test.YtlcagndeidjobaaGreatDoorT1
import Derived.Test.YtlcagndeidjobaaGreatDoorD5
import Derived.Test.YtlcagndeidjobaaGreatDoorN2
set_option linter.unusedSimpArgs false
set_option linter.unusedVariables false
set_option linter.unnecessarySimpa false
set_option maxHeartbeats 4000000
namespace Go.Proofs.YtlcagndeidjobaaGreatDoor
open Tryz
open Go Go.Dat Go.Proofs Go.RowKit Nat32
theorem z3k (l:List Bs) (s:Bs) (hl:l.length≤9223372036854775807):z0c prog 149 [.sl 1 (z0K l),.str s] (.int .i64 (ixS l s)):=by
 have hll:=z0J l
 refine z0b x0F (by simp [y08]) ?_
 unfold z7m
 refine zS hll ?_
 refine z0x (σ:=Nat) (fun i=>[(0,.sl 1 (z0K l)),(1,.str s),(7,.int .i64 l.length),(8,.int .i64 i)]) (fun _=>[]) (fun i=>i≤l.length∧∀j,j<i→l.getD j []≠s) (fun i=>l.length - i) 0 ⟨Nat.zero_le _,by simp⟩ ?_ rfl ?_
 ·simp [z0y,lk]
 ·rintro i ⟨hi,hall⟩
  try simp only at hi hall ⊢
  by_cases hlt:i<l.length
  ·have dl:decide ((i:Int)<(l.length:Int))=true:=zT9
   have ei:(i:Int).toNat=i:=Int.toNat_natCast i
   have e1:((i:Int)+1)=((i+1:Nat):Int):=by omega
   have hg:=z1j hlt
   by_cases he:l.getD i []=s
   ·have de:decide (s=l.getD i [])=true:=decide_eq_true he.symm
    have hx:=y85 hlt he hall
    generalize l.getD i []=y at *
    rw [hx]
    refine zS dl ?_
    refine wTs ?_
    refine zS (zA ei (zA hg (zA hll de))) ?_
    refine wT ?_
    refine zR ?_
    exact z0i (z0h (.imm rfl))
   ·have de:decide (s=l.getD i [])=false:=decide_eq_false (Ne.symm he)
    have hnx:∀j,j<i+1→l.getD j []≠s:=fun j hj=>by
     rcases Nat.lt_or_ge j i with h|h
     ·exact hall j h
     ·obtain rfl:j=i:=by omega
      exact he
    generalize l.getD i []=y at *
    refine zS dl ?_
    refine wTs ?_
    refine zS (zA ei (zA hg (zA hll de))) ?_
    refine wFs ?_
    refine zS e1 ?_
    exact ⟨i+1,⟨by omega,hnx⟩,by omega,by simp [z0y,lk]⟩
  ·have dl:decide ((i:Int)<(l.length:Int))=false:=zF9
   rw [x4d fun j hj=>hall j (by omega)]
   refine zS dl ?_
   refine z0m rfl (fun h=>by cases h) (fun _=>z0s ?_)
   refine zR ?_
   exact z0i (z0h (.imm rfl))
theorem z7S (l:List Bs) (s:Bs) (hl:l.length≤9223372036854775807):z0c prog 227 [.sl 1 (z0K l),.str s] (.int .i64 (ixS l s)):=by
 have hll:=z0J l
 refine z0b x6X (by simp [y8C]) ?_
 unfold y0M
 refine zR ?_
 refine z0x (σ:=Nat) (fun i=>[(0,.sl 1 (z0K l)),(1,.str s),(5,.int .i64 i)]) (fun _=>[]) (fun i=>i≤l.length∧∀j,j<i→l.getD j []≠s) (fun i=>l.length - i) 0 ⟨Nat.zero_le _,by simp⟩ ?_ rfl ?_
 ·simp [z0y,lk]
 ·rintro i ⟨hi,hall⟩
  try simp only at hi hall ⊢
  by_cases hlt:i<l.length
  ·have dl:decide ((i:Int)<(l.length:Int))=true:=zT9
   have ei:(i:Int).toNat=i:=Int.toNat_natCast i
   have e1:((i:Int)+1)=((i+1:Nat):Int):=by omega
   have hg:=z1j hlt
   by_cases he:l.getD i []=s
   ·have de:decide (l.getD i []=s)=true:=decide_eq_true he
    have hx:=y85 hlt he hall
    generalize l.getD i []=y at *
    rw [hx]
    refine zS (zA dl hll) ?_
    refine wTs ?_
    refine zS (zA ei (zA hg (zA hll de))) ?_
    refine wT ?_
    refine zR ?_
    exact z0i (z0h (.imm rfl))
   ·have de:decide (l.getD i []=s)=false:=decide_eq_false he
    have hnx:∀j,j<i+1→l.getD j []≠s:=fun j hj=>by
     rcases Nat.lt_or_ge j i with h|h
     ·exact hall j h
     ·obtain rfl:j=i:=by omega
      exact he
    generalize l.getD i []=y at *
    refine zS (zA dl hll) ?_
    refine wTs ?_
    refine zS (zA ei (zA hg (zA hll de))) ?_
    refine wFs ?_
    refine zS e1 ?_
    exact ⟨i+1,⟨by omega,hnx⟩,by omega,by simp [z0y,lk]⟩
  ·have dl:decide ((i:Int)<(l.length:Int))=false:=zF9
   rw [x4d fun j hj=>hall j (by omega)]
   refine zS (zA dl hll) ?_
   refine z0m rfl (fun h=>by cases h) (fun _=>z0s ?_)
   repeat (first|refine z0d ?_|refine z0g ?_|refine z0p ?_|refine z0f ?_|refine And.intro (by omega) ?_|simp (maxSteps:=1000000) (disch:=omega) only [cA,cB,cN,FnD.nb,lk,lkH,Dst.onT,Dst.onX,Dst.slot,z0W,z0N,z0I,z0X,z0u,z0V,unE,cnt,z0j,z0t,z0l,z0o,opE,rmH,z02,z0n,Nat.reduceEqDiff,Nat.reduceLT,Nat.reduceAdd,Nat.reduceMul,Nat.reduceMod,↓reduceIte,reduceCtorEq,Nat.reduceLeDiff])
   exact z0i (z0h (.imm rfl))
theorem z3x (l:List Bs) (s:Bs) (hl:l.length≤9223372036854775807):z0c prog 198 [.sl 1 (z0K l),.str s] (.bool (decide (0≤ixS l s))):=by
 have ci:=z3k l s hl
 refine z0b y2u (by simp [z5Q]) ?_
 unfold z4e
 generalize ixS l s=k at *
 repeat (first|refine z0d ?_|refine z0g ?_|refine z0p ?_|refine z0f ?_|refine And.intro (by omega) ?_|simp (maxSteps:=1000000) (disch:=omega) only [cA,cB,cN,FnD.nb,lk,lkH,Dst.onT,Dst.onX,Dst.slot,z0W,z0N,z0I,z0X,z0u,z0V,unE,cnt,z0j,z0t,z0l,z0o,opE,rmH,z02,z0n,Nat.reduceEqDiff,Nat.reduceLT,Nat.reduceAdd,Nat.reduceMul,Nat.reduceMod,↓reduceIte,reduceCtorEq,Nat.reduceLeDiff]|refine cP ci ?_|exact zT)
theorem x9G (s:Bs) {i:Nat} (h:i<s.length):(s.map z4R).getD i .undef=.int .u8 ((s.getD i 0).toNat:Nat):=by
 rw [zO1,zO1,List.getElem?_map,zO4 h];rfl
theorem y7q (s:Bs) (hs:s.length≤9223372036854775807):z0c prog 143 [.str s] (.bool (z2E s)):=by
 refine z0b w0D (by simp [x29]) ?_
 unfold y3Y
 by_cases h1:s=[]
 ·have d1:decide (s=[])=true:=decide_eq_true h1
  have hn:z2E s=false:=by rw [h1];rfl
  rw [hn]
  refine zS d1 ?_
  refine wT ?_
  refine zR ?_
  exact z0i (z0h (.imm rfl))
 ·have d1:decide (s=[])=false:=decide_eq_false h1
  have hp0:0<s.length:=List.length_pos_iff.2 h1
  by_cases h2:32<s.length
  ·have d2:decide ((32:Int)<(s.length:Int))=true:=zT9
   have hn:z2E s=false:=by unfold z2E;rw [decide_eq_false (show ¬s.length≤32 by omega)];simp
   rw [hn]
   refine zS (zA d1 d2) ?_
   refine wT ?_
   refine zR ?_
   exact z0i (z0h (.imm rfl))
  ·have d2:decide ((32:Int)<(s.length:Int))=false:=zF9
   have cl:=z6c (s.getD 0 0)
   have eb:z4R (s.getD 0 0)=.int .u8 ((s.getD 0 0).toNat:Nat):=rfl
   have e0:Int.toNat 0=0:=rfl
   have hnm:z2E s=(x0K (s.getD 0 0) && (decide (¬s=power) && s.all y4B)):=by
    unfold z2E;rw [decide_eq_true (show 1≤s.length by omega),decide_eq_true (show s.length≤32 by omega)];rfl
   rw [hnm]
   clear hnm
   cases hl:x0K (s.getD 0 0)
   ·rw [hl] at cl
    refine zS (zA d1 (zA d2 (zA e0 eb))) ?_
    refine cP cl ?_
    refine zR ?_
    refine wT ?_
    refine zR ?_
    exact z0i (z0h (.imm rfl))
   ·rw [hl] at cl
    by_cases hp:s=power
    ·have dp:decide (s=[112,111,119,101,114])=true:=decide_eq_true hp
     rw [decide_eq_false (show ¬¬s=power from fun h=>h hp)]
     refine zS (zA d1 (zA d2 (zA e0 eb))) ?_
     refine cP cl ?_
     refine zS dp ?_
     refine wT ?_
     refine zR ?_
     exact z0i (z0h (.imm rfl))
    ·have dp:decide (s=[112,111,119,101,114])=false:=decide_eq_false hp
     rw [decide_eq_true hp,Bool.true_and,Bool.true_and]
     refine zS (zA d1 (zA d2 (zA e0 eb))) ?_
     refine cP cl ?_
     refine zS dp ?_
     refine wFs ?_
     refine zR ?_
     refine z0x (σ:=Nat) (fun i=>[(0,.str s),(23,.sl 1 (s.map z4R)),(24,.int .i64 s.length),(25,.int .i64 i)]) (fun _=>[]) (fun i=>i≤s.length∧∀j,j<i→y4B (s.getD j 0)=true) (fun i=>s.length - i) 0 ⟨Nat.zero_le _,by simp⟩ ?_ rfl ?_
     ·simp [z0y,lk]
     ·rintro i ⟨hi,hall⟩
      try simp only at hi hall ⊢
      by_cases hlt:i<s.length
      ·have dl:decide ((i:Int)<(s.length:Int))=true:=zT9
       have ei:(i:Int).toNat=i:=Int.toNat_natCast i
       have e1:((i:Int)+1)=((i+1:Nat):Int):=by omega
       have hb:=x9G s hlt
       have hbl:(s.map z4R).length=s.length:=List.length_map _
       have ci:=z6c (s.getD i 0)
       have hin:y4B (s.getD i 0)=(x0K (s.getD i 0) || (decide (48≤(s.getD i 0).toNat) && decide ((s.getD i 0).toNat≤57)) || decide ((s.getD i 0).toNat=95) || decide ((s.getD i 0).toNat=46)):=rfl
       have hnx:y4B (s.getD i 0)=true→∀j,j<i+1→y4B (s.getD j 0)=true:=fun h j hj=>by
        rcases Nat.lt_or_ge j i with h2|h2
        ·exact hall j h2
        ·obtain rfl:j=i:=by omega
         exact h
       have hno:y4B (s.getD i 0)=false→s.all y4B=false:=fun h=>y3w hlt h
       generalize s.getD i 0=c at *
       have g1:decide ((48:Int)≤(c.toNat:Int))=decide (48≤c.toNat):=z6j 48 c
       have g2:decide ((c.toNat:Int)≤57)=decide (c.toNat≤57):=z6i 57 c
       have g3:decide (¬(c.toNat:Int)=95)=!decide (c.toNat=95):=by rw [←y1V 95 c,decide_not];rfl
       have g4:decide (¬(c.toNat:Int)=46)=!decide (c.toNat=46):=by rw [←y1V 46 c,decide_not];rfl
       refine zS dl ?_
       refine wTs ?_
       refine zS (zA ei (zA hb hbl)) ?_
       refine cP ci ?_
       generalize x0K c=b0 at *
       generalize decide (48≤c.toNat)=b1 at *
       generalize decide (c.toNat≤57)=b2 at *
       generalize decide (c.toNat=95)=b3 at *
       generalize decide (c.toNat=46)=b4 at *
       cases hc:(b0 || (b1 && b2) || b3 || b4)
       ·rw [hno (hin.trans hc)]
        simp only [Bool.or_eq_false_iff] at hc
        obtain ⟨⟨⟨rfl,hc2⟩,rfl⟩,rfl⟩:=hc
        cases b1<;>cases b2<;>(try cases hc2)
        all_goals
         repeat (first|refine z0d ?_|refine z0g ?_|refine z0p ?_|refine z0f ?_|refine And.intro (by omega) ?_|simp (maxSteps:=1000000) (disch:=omega) only [cA,cB,cN,FnD.nb,lk,lkH,Dst.onT,Dst.onX,Dst.slot,z0W,z0N,z0I,z0X,z0u,z0V,unE,cnt,z0j,z0t,z0l,z0o,opE,rmH,z02,z0n,Nat.reduceEqDiff,Nat.reduceLT,Nat.reduceAdd,Nat.reduceMul,Nat.reduceMod,↓reduceIte,reduceCtorEq,Nat.reduceLeDiff,g1,g2,g3,g4])
         refine wT ?_
         refine zR ?_
         exact z0i (z0h (.imm rfl))
       ·have hnx2:=hnx (hin.trans hc)
        clear hno hnx hin
        cases b0<;>cases b1<;>cases b2<;>cases b3<;>cases b4<;>(try cases hc)
        all_goals
         repeat (first|refine z0d ?_|refine z0g ?_|refine z0p ?_|refine z0f ?_|refine And.intro (by omega) ?_|simp (maxSteps:=1000000) (disch:=omega) only [cA,cB,cN,FnD.nb,lk,lkH,Dst.onT,Dst.onX,Dst.slot,z0W,z0N,z0I,z0X,z0u,z0V,unE,cnt,z0j,z0t,z0l,z0o,opE,rmH,z02,z0n,Nat.reduceEqDiff,Nat.reduceLT,Nat.reduceAdd,Nat.reduceMul,Nat.reduceMod,↓reduceIte,reduceCtorEq,Nat.reduceLeDiff,g1,g2,g3,g4])
         refine wFs ?_
         refine zS e1 ?_
         exact ⟨i+1,⟨by omega,hnx2⟩,by omega,by simp [z0y,lk]⟩
      ·have dl:decide ((i:Int)<(s.length:Int))=false:=zF9
       rw [x8q (p:=y4B) (s:=s) fun j hj=>hall j (by omega)]
       refine zS dl ?_
       refine z0m rfl (fun h=>by cases h) (fun _=>z0s ?_)
       refine zR ?_
       exact z0i (z0h (.imm rfl))
theorem y5G (l:List Bs) (hl:l.length≤9223372036854775807) (hs:∀s∈l,s.length≤9223372036854775807):z0c prog 138 [.sl 1 (z0K l)] (.bool (z50 l)):=by
 have hll:=z0J l
 refine z0b x6W (by simp [y8B]) ?_
 unfold y0L
 refine zS hll ?_
 refine z0x (σ:=Nat) (fun i=>[(0,.sl 1 (z0K l)),(5,.sl 1 (z0K l)),(6,.int .i64 l.length),(7,.int .i64 i)]) (fun _=>[]) (fun i=>i≤l.length∧∀j,j<i→(z2E (l.getD j []) && decide (ixS (l.take j) (l.getD j [])<0))=true) (fun i=>l.length - i) 0 ⟨Nat.zero_le _,by simp⟩ ?_ rfl ?_
 ·simp [z0y,lk]
 ·rintro i ⟨hi,hall⟩
  try simp only at hi hall ⊢
  by_cases hlt:i<l.length
  ·have dl:decide ((i:Int)<(l.length:Int))=true:=zT9
   have ei:(i:Int).toNat=i:=Int.toNat_natCast i
   have e1:((i:Int)+1)=((i+1:Nat):Int):=by omega
   have hg:=z1j hlt
   have hm:=z1O hlt
   have htk:=y5D l i
   have cn:=y7q (l.getD i []) (hs _ hm)
   have ck:=z3x (l.take i) (l.getD i []) (by rw [List.length_take];omega)
   have hnx:(z2E (l.getD i []) && decide (ixS (l.take i) (l.getD i [])<0))=true→∀j,j<i+1→(z2E (l.getD j []) && decide (ixS (l.take j) (l.getD j [])<0))=true:=fun h j hj=>by
    rcases Nat.lt_or_ge j i with h2|h2
    ·exact hall j h2
    ·obtain rfl:j=i:=by omega
     exact h
   have hno:=z7G hlt
   have hdn:decide (0≤ixS (l.take i) (l.getD i []))=!decide (ixS (l.take i) (l.getD i [])<0):=by
    rw [←decide_not];exact decide_eq_decide.2 (by omega)
   rw [hdn] at ck
   generalize decide (ixS (l.take i) (l.getD i [])<0)=b1 at *
   generalize l.getD i []=s at *
   refine zS dl ?_
   refine wTs ?_
   refine zS (zA ei (zA hg hll)) ?_
   refine cP cn ?_
   cases hnb:z2E s
   ·rw [hnb,Bool.false_and] at hno
    rw [hno rfl]
    refine zS (zA ei (zA hll htk)) ?_
    refine wT ?_
    refine zR ?_
    exact z0i (z0h (.imm rfl))
   ·rw [hnb,Bool.true_and] at hno hnx
    refine zS (zA ei (zA hll (zA htk hg))) ?_
    refine cP ck ?_
    cases b1
    ·rw [hno rfl]
     refine zR ?_
     refine wT ?_
     refine zR ?_
     exact z0i (z0h (.imm rfl))
    ·refine zR ?_
     refine wFs ?_
     refine zS e1 ?_
     exact ⟨i+1,⟨by omega,hnx rfl⟩,by omega,by simp [z0y,lk]⟩
  ·have dl:decide ((i:Int)<(l.length:Int))=false:=zF9
   rw [z9w fun j hj=>hall j (by omega)]
   refine zS dl ?_
   refine z0m rfl (fun h=>by cases h) (fun _=>z0s ?_)
   refine zR ?_
   exact z0i (z0h (.imm rfl))
theorem y3h (l:List Bs) (hl:l.length≤9223372036854775807) (hs:∀s∈l,s.length≤9223372036854775807):z0c prog 171 [.sl 1 (z0K l)] (.bool (z50 l)):=by
 have hll:=z0J l
 refine z0b x39 (by simp [y4r]) ?_
 unfold z8L
 repeat (first|refine z0d ?_|refine z0g ?_|refine z0p ?_|refine z0f ?_|refine And.intro (by omega) ?_|simp (maxSteps:=1000000) (disch:=omega) only [cA,cB,cN,FnD.nb,lk,lkH,Dst.onT,Dst.onX,Dst.slot,z0W,z0N,z0I,z0X,z0u,z0V,unE,cnt,z0j,z0t,z0l,z0o,opE,rmH,z02,z0n,Nat.reduceEqDiff,Nat.reduceLT,Nat.reduceAdd,Nat.reduceMul,Nat.reduceMod,↓reduceIte,reduceCtorEq,Nat.reduceLeDiff,hll])
 refine z0x (σ:=Nat) (fun i=>[(0,.sl 1 (z0K l)),(3,.int .i64 i)]) (fun _=>[]) (fun i=>i≤l.length∧∀j,j<i→(z2E (l.getD j []) && decide (ixS (l.take j) (l.getD j [])<0))=true) (fun i=>l.length - i) 0 ⟨Nat.zero_le _,by simp⟩ ?_ rfl ?_
 ·simp [z0y,lk]
 ·rintro i ⟨hi,hall⟩
  try simp only at hi hall ⊢
  by_cases hlt:i<l.length
  ·have dl:decide ((i:Int)<(l.length:Int))=true:=zT9
   have ei:(i:Int).toNat=i:=Int.toNat_natCast i
   have e1:((i:Int)+1)=((i+1:Nat):Int):=by omega
   have hg:=z1j hlt
   have hm:=z1O hlt
   have htk:=y5D l i
   have cn:=y7w (l.getD i []) (hs _ hm)
   have ck:=z7S (l.take i) (l.getD i []) (by rw [List.length_take];omega)
   have hnx:(z2E (l.getD i []) && decide (ixS (l.take i) (l.getD i [])<0))=true→∀j,j<i+1→(z2E (l.getD j []) && decide (ixS (l.take j) (l.getD j [])<0))=true:=fun h j hj=>by
    rcases Nat.lt_or_ge j i with h2|h2
    ·exact hall j h2
    ·obtain rfl:j=i:=by omega
     exact h
   have hno:=z7G hlt
   have hdn:decide (0≤ixS (l.take i) (l.getD i []))=!decide (ixS (l.take i) (l.getD i [])<0):=by
    rw [←decide_not];exact decide_eq_decide.2 (by omega)
   generalize decide (ixS (l.take i) (l.getD i [])<0)=b1 at *
   generalize ixS (l.take i) (l.getD i [])=z at *
   generalize l.getD i []=s at *
   repeat (first|refine z0d ?_|refine z0g ?_|refine z0p ?_|refine z0f ?_|refine And.intro (by omega) ?_|simp (maxSteps:=1000000) (disch:=omega) only [cA,cB,cN,FnD.nb,lk,lkH,Dst.onT,Dst.onX,Dst.slot,z0W,z0N,z0I,z0X,z0u,z0V,unE,cnt,z0j,z0t,z0l,z0o,opE,rmH,z02,z0n,Nat.reduceEqDiff,Nat.reduceLT,Nat.reduceAdd,Nat.reduceMul,Nat.reduceMod,↓reduceIte,reduceCtorEq,Nat.reduceLeDiff,dl,hll])
   refine wTs ?_
   refine zS (zA ei (zA hg hll)) ?_
   refine cP cn ?_
   cases hnb:z2E s
   ·rw [hnb,Bool.false_and] at hno
    rw [hno rfl]
    refine zS (zA ei (zA hll htk)) ?_
    refine wT ?_
    refine zR ?_
    exact z0i (z0h (.imm rfl))
   ·rw [hnb,Bool.true_and] at hno hnx
    refine zS (zA ei (zA hll (zA htk hg))) ?_
    refine cP ck ?_
    cases b1
    ·have dz:decide (0≤z)=true:=hdn
     rw [hno rfl]
     refine zS dz ?_
     refine wT ?_
     refine zR ?_
     exact z0i (z0h (.imm rfl))
    ·have dz:decide (0≤z)=false:=hdn
     refine zS dz ?_
     refine wFs ?_
     refine zS e1 ?_
     exact ⟨i+1,⟨by omega,hnx rfl⟩,by omega,by simp [z0y,lk]⟩
  ·have dl:decide ((i:Int)<(l.length:Int))=false:=zF9
   rw [z9w fun j hj=>hall j (by omega)]
   refine zS (zA dl hll) ?_
   refine z0m rfl (fun h=>by cases h) (fun _=>z0s ?_)
   refine zR ?_
   exact z0i (z0h (.imm rfl))
end Go.Proofs.YtlcagndeidjobaaGreatDoor
namespace Go.Proofs.YtlcagndeidjobaaGreatDoor
open Tryz
open Go Go.Dat Go.Proofs Nat32
open Go.Lib (decDigits repeatL)
theorem x5g (n:Nat) (hn:n≤4294967295):z0c prog 209 [.int .i64 n] (.str (decDigits n)):=by
 obtain ⟨g,hg⟩:=Option.isSome_iff_exists.1 (show (prog.globalNamed tabName).isSome=true by kernel_rfl)
 refine y5V hg fun w ht=>?_
 have h:=Tryz.strconv_Itoa (n:Int) (by omega) (by omega) w ht
 have e:Go.Lib.itoa (n:Int)=decDigits n:=by unfold Go.Lib.itoa;rw [if_neg (by omega),Int.toNat_natCast]
 rwa [e] at h
end Go.Proofs.YtlcagndeidjobaaGreatDoor
namespace Go.Proofs.YtlcagndeidjobaaGreatDoor
open Tryz
open Go Go.Dat Go.Proofs Go.RowKit Nat32
theorem z9T (rs:List Bs):(z0K rs).all DV.rf=true:=by
 refine List.all_eq_true.2 fun d hd=>?_
 unfold z0K at hd
 obtain ⟨r,_,rfl⟩:=List.mem_map.1 hd
 rfl
theorem y6p {F:FnD} {os:List DOper} {dst:Dst} {te fr:Fr} {H:Hp} {K:Fr→Fr→Hp→Prop} (sz:Nat) (z:List DV) (x:Opd):goW F os dst te fr H K (.clr sz z x)=z0Q F os dst te fr H K (opE F.nb dst.slot (ev te fr) (lkH H) (.clr sz z x)):=rfl
theorem y26 (l:List Kx) (hl:l.length≤1000000) (p:Kx→Bool) (v:DV) (g:Nat) (cs:List DV) (hv:z6K v g cs) (hcs:cs.all DV.rf=true) (hg:z0U prog g) (hc:∀f∈l,z0c prog g ([.agg (kxC f)]++cs) (.bool (p f))):z0c prog 199 [.sl 4 (kxs l),v] (.int .i64 (ixP p l)):=by
 have hln:(kxs l).length / 4=l.length:=by rw [z16];omega
 have hlen:=z16 l
 refine z0b x33 (by simp [y4l]) ?_
 unfold z8F
 repeat (first|refine z0d ?_|refine z0g ?_|refine z0p ?_|refine z0f ?_|refine And.intro (by omega) ?_|simp (maxSteps:=1000000) (disch:=omega) only [cA,cB,cN,FnD.nb,lk,lkH,Dst.onT,Dst.onX,Dst.slot,z0W,z0N,z0I,z0X,z0u,z0V,unE,cnt,z0j,z0t,z0l,z0o,opE,rmH,z02,z0n,Nat.reduceEqDiff,Nat.reduceLT,Nat.reduceAdd,Nat.reduceMul,Nat.reduceMod,↓reduceIte,reduceCtorEq,Nat.reduceLeDiff,hln])
 refine z0x (σ:=Nat) (fun i=>[(0,.sl 4 (kxs l)),(1,v),(7,.int .i64 l.length),(8,.int .i64 i)]) (fun _=>[]) (fun i=>i≤l.length∧∀j,j<i→p (l.getD j default)=false) (fun i=>l.length - i) 0 ⟨Nat.zero_le _,by simp⟩ ?_ rfl ?_
 ·simp [z0y,lk]
 ·rintro i ⟨hi,hall⟩
  try simp only at hi hall ⊢
  by_cases hlt:i<l.length
  ·have dl:decide ((i:Int)<(l.length:Int))=true:=zT9
   have ei:(i:Int).toNat=i:=Int.toNat_natCast i
   have e1:((i:Int)+1)=((i+1:Nat):Int):=by omega
   have hw:((kxs l).drop (i*4)).take 4=kxC (l.getD i default):=z1x (j:=0) z04 default hlt (Nat.le_refl _)
   have cf:=hc _ (z7E hlt)
   have hb6:i*4+4≤(kxs l).length:=by omega
   refine zS dl ?_
   refine wTs ?_
   refine z0d ?_
   refine z0f ?_
   refine z0d ?_
   refine z0g ?_
   refine zD ?_
   refine z0d ?_
   refine z3B [om 11 1,om 12 0,om 13 5,ot 14 (.iad 4 (.t 12) (.t 13)),ot 15 (.ldn 4 (.t 14))] [] (.x 16) (.t 11) [.t 15] rfl ?_
   refine zE (zA ei (zA hlen hw)) ?_
   refine ⟨⟨by omega,by omega⟩,by omega,g,cs,hv,hg,z1E cf (by rw [List.all_append,hcs];rfl) ?_⟩
   cases hp:p (l.getD i default)
   ·have hnx:∀j,j<i+1→p (l.getD j default)=false:=fun j hj=>by
     rcases Nat.lt_or_ge j i with h|h
     ·exact hall j h
     ·obtain rfl:j=i:=by omega
      exact hp
    refine zR ?_
    refine wFs ?_
    refine zS e1 ?_
    exact ⟨i+1,⟨by omega,hnx⟩,by omega,by simp [z0y,lk]⟩
   ·have hx:=y4I default hlt hp hall
    rw [hx]
    refine zR ?_
    refine wT ?_
    refine zR ?_
    exact z0i (z0h (.imm rfl))
  ·have dl:decide ((i:Int)<(l.length:Int))=false:=zF9
   rw [y4J default fun j hj=>hall j (by omega)]
   refine zS dl ?_
   refine z0m rfl (fun h=>by cases h) (fun _=>z0s ?_)
   refine zR ?_
   exact z0i (z0h (.imm rfl))
end Go.Proofs.YtlcagndeidjobaaGreatDoor
namespace Go.Proofs.YtlcagndeidjobaaGreatDoor
open Tryz
open Go Go.Dat Go.Proofs Go.RowKit Go.Shelf Nat32
theorem z9z (a b:Int) (ha:a.natAbs≤1000000) (hb:b≠0) (hb2:b.natAbs≤1000000):z0c prog 62 [.int .i64 a,.int .i64 b] (Q (Rat.divInt a b)):=by
 have c1:=z3j a (by omega) (by omega)
 have c2:=z3j b (by omega) (by omega)
 have il1:∀z:Int,z.natAbs≤1000000→il z≤9000:=fun z hz=>Nat.le_trans (z0B.2 (show z.natAbs<4294967296 ^ 1 by omega)) (by decide)
 have c3:=z29 a b hb (il1 a ha) (il1 b hb2)
 refine z0b y6z (by simp [z89]) ?_
 unfold z5F
 generalize Rat.divInt a b=r at *
 have hx3:(xnC (qX r)).length=3:=rfl
 have hcc:(Q r).cells? = some (xnC (qX r)):=rfl
 repeat (first|refine zP ?_|refine cP c1 ?_|refine cP c2 ?_|refine cP c3 ?_|exact zT)
 refine zS (zA hcc (zA hx3 @cS)) ?_
 exact z0i (z07 rfl rfl rfl (.imm rfl))
theorem x1V {α:Type} [Inhabited α] {p:α→Bool} {l:List α} (h:∀j,j<l.length→p (l.getD j default)=true):l.all p=true:=by
 rw [List.all_eq_true]
 intro x hx
 obtain ⟨i,hi,rfl⟩:=List.getElem_of_mem hx
 have:=h i hi
 rw [zO1,zO4 hi] at this
 simpa using this
theorem x8p {α:Type} [Inhabited α] {p:α→Bool} {l:List α} {i:Nat} (hi:i<l.length) (h:p (l.getD i default)=false):l.all p=false:=by
 rw [List.all_eq_false]
 exact ⟨_,z7E hi,by rw [h];decide⟩
end Go.Proofs.YtlcagndeidjobaaGreatDoor
namespace Go.Proofs.YtlcagndeidjobaaGreatDoor
open Tryz
open Go Go.Dat Go.Proofs Go.RowKit Nat32
theorem y7p (k:Kx) (x:Tc) (hx:y9m x.va):z0c prog 202 [.agg (kxC k),.agg (cxC x)] (.bool (y8t k x)):=by
 obtain ⟨u1,u2,u3,u4⟩:=hx
 have cv:z0c prog 158 [.agg (xnC x.va)] (.bool (z5n x.va.1 x.va.2.1 x.va.2.2)):=z4r _ _ _ (by omega) (by omega) u1 u2
 have cs:z0c prog 234 [.agg (xnC x.va)] (.int .i64 (xnV x.va).num.sign):=z9E _ _ _ (by omega) (by omega) u1 u2
 have hck:(DV.agg (kxC k)).cells? = some (kxC k):=rfl
 have hcx:(DV.agg (cxC x)).cells? = some (cxC x):=rfl
 have l4:=z04 k
 have l5:=z1T x
 have n0:(cxC x).getD 0 .undef=.bool x.mi:=rfl
 have n1:((cxC x).drop 1).take 3=xnC x.va:=rfl
 have n4:(cxC x).getD 4 .undef=.int .i64 x.lv:=rfl
 have m1:(kxC k).getD 1 .undef=.int .i64 k.kd:=rfl
 have m2:(kxC k).getD 2 .undef=.sl 1 (z0K k.le):=rfl
 have hll:=z0J k.le
 refine z0b w0C (by simp [x28]) ?_
 unfold y3X y8t w2p
 have hlv:decide (x.lv<(k.le.length:Int))=decide (x.lv<k.le.length):=rfl
 generalize z5n x.va.1 x.va.2.1 x.va.2.2=v at *
 generalize (xnV x.va).num.sign=z at *
 obtain ⟨bz,dz⟩:∃b,decide (z=0)=b:=⟨_,rfl⟩
 obtain ⟨b1,d1⟩:∃b,decide (k.kd=1)=b:=⟨_,rfl⟩
 obtain ⟨b0,d0⟩:∃b,decide (0≤x.lv)=b:=⟨_,rfl⟩
 obtain ⟨bl,dl⟩:∃b,decide (x.lv=0)=b:=⟨_,rfl⟩
 have hk1:(if k.kd=1 then v && decide (x.lv=0) else (v && decide (z=0)) && decide (0≤x.lv) && decide (x.lv<k.le.length))=if b1=true then v && bl else (v && bz) && b0 && decide (x.lv<k.le.length):=by
  rw [←d1,dz,d0,dl]
  by_cases h:k.kd=1<;>simp [h]
 rw [hk1,dz,dl]
 cases hm:x.mi
 all_goals rw [hm] at n0
 ·have hif:(if (false:Bool)=true then (v && bz) && bl else (if b1=true then v && bl else (v && bz) && b0 && decide (x.lv<k.le.length)))=(if b1=true then v && bl else (v && bz) && b0 && decide (x.lv<k.le.length)):=rfl
  rw [hif]
  cases b1
  ·have hi2:(if (false:Bool)=true then v && bl else (v && bz) && b0 && decide (x.lv<k.le.length))=((v && bz) && b0 && decide (x.lv<k.le.length)):=rfl
   rw [hi2]
   cases v
   ·refine zS (zA hck (zA hcx (zA l4 (zA l5 (zA n0 (zA n1 (zA n4 (zA m1 (zA m2 (zA hll (zA dz (zA d1 (zA d0 (zA dl (zA @cS @List.drop_zero.{0}))))))))))))))) ?_
    refine cP cv ?_
    refine zS (zA hck (zA hcx (zA l4 (zA l5 (zA n0 (zA n1 (zA n4 (zA m1 (zA m2 (zA hll (zA dz (zA d1 (zA d0 (zA dl (zA @cS @List.drop_zero.{0}))))))))))))))) ?_
    refine wF ?_
    refine zS (zA hck (zA hcx (zA l4 (zA l5 (zA n0 (zA n1 (zA n4 (zA m1 (zA m2 (zA hll (zA dz (zA d1 (zA d0 (zA dl (zA @cS @List.drop_zero.{0}))))))))))))))) ?_
    refine wFs ?_
    refine zS (zA hck (zA hcx (zA l4 (zA l5 (zA n0 (zA n1 (zA n4 (zA m1 (zA m2 (zA hll (zA dz (zA d1 (zA d0 (zA dl (zA @cS @List.drop_zero.{0}))))))))))))))) ?_
    exact z0i (z0h (.imm rfl))
   ·cases bz<;>cases b0
    all_goals
     refine zS (zA hck (zA hcx (zA l4 (zA l5 (zA n0 (zA n1 (zA n4 (zA m1 (zA m2 (zA hll (zA dz (zA d1 (zA d0 (zA dl (zA @cS @List.drop_zero.{0}))))))))))))))) ?_
     refine cP cv ?_
     refine zS (zA hck (zA hcx (zA l4 (zA l5 (zA n0 (zA n1 (zA n4 (zA m1 (zA m2 (zA hll (zA dz (zA d1 (zA d0 (zA dl (zA @cS @List.drop_zero.{0}))))))))))))))) ?_
     refine cP cs ?_
     refine zS (zA hck (zA hcx (zA l4 (zA l5 (zA n0 (zA n1 (zA n4 (zA m1 (zA m2 (zA hll (zA dz (zA d1 (zA d0 (zA dl (zA @cS @List.drop_zero.{0}))))))))))))))) ?_
     refine wF ?_
     refine zS (zA hck (zA hcx (zA l4 (zA l5 (zA n0 (zA n1 (zA n4 (zA m1 (zA m2 (zA hll (zA dz (zA d1 (zA d0 (zA dl (zA @cS @List.drop_zero.{0}))))))))))))))) ?_
     refine wFs ?_
     refine zS (zA hck (zA hcx (zA l4 (zA l5 (zA n0 (zA n1 (zA n4 (zA m1 (zA m2 (zA hll (zA dz (zA d1 (zA d0 (zA dl (zA @cS @List.drop_zero.{0}))))))))))))))) ?_
     exact z0i (z0h (.imm rfl))
  ·have hi2:(if (true:Bool)=true then v && bl else (v && bz) && b0 && decide (x.lv<k.le.length))=(v && bl):=rfl
   rw [hi2]
   cases v
   ·refine zS (zA hck (zA hcx (zA l4 (zA l5 (zA n0 (zA n1 (zA n4 (zA m1 (zA m2 (zA hll (zA dz (zA d1 (zA d0 (zA dl (zA @cS @List.drop_zero.{0}))))))))))))))) ?_
    refine cP cv ?_
    refine zS (zA hck (zA hcx (zA l4 (zA l5 (zA n0 (zA n1 (zA n4 (zA m1 (zA m2 (zA hll (zA dz (zA d1 (zA d0 (zA dl (zA @cS @List.drop_zero.{0}))))))))))))))) ?_
    refine wF ?_
    refine zS (zA hck (zA hcx (zA l4 (zA l5 (zA n0 (zA n1 (zA n4 (zA m1 (zA m2 (zA hll (zA dz (zA d1 (zA d0 (zA dl (zA @cS @List.drop_zero.{0}))))))))))))))) ?_
    refine wT ?_
    refine zS (zA hck (zA hcx (zA l4 (zA l5 (zA n0 (zA n1 (zA n4 (zA m1 (zA m2 (zA hll (zA dz (zA d1 (zA d0 (zA dl (zA @cS @List.drop_zero.{0}))))))))))))))) ?_
    refine cP cv ?_
    refine zS (zA hck (zA hcx (zA l4 (zA l5 (zA n0 (zA n1 (zA n4 (zA m1 (zA m2 (zA hll (zA dz (zA d1 (zA d0 (zA dl (zA @cS @List.drop_zero.{0}))))))))))))))) ?_
    exact z0i (z0h (.imm rfl))
   ·refine zS (zA hck (zA hcx (zA l4 (zA l5 (zA n0 (zA n1 (zA n4 (zA m1 (zA m2 (zA hll (zA dz (zA d1 (zA d0 (zA dl (zA @cS @List.drop_zero.{0}))))))))))))))) ?_
    refine cP cv ?_
    refine zS (zA hck (zA hcx (zA l4 (zA l5 (zA n0 (zA n1 (zA n4 (zA m1 (zA m2 (zA hll (zA dz (zA d1 (zA d0 (zA dl (zA @cS @List.drop_zero.{0}))))))))))))))) ?_
    refine cP cs ?_
    refine zS (zA hck (zA hcx (zA l4 (zA l5 (zA n0 (zA n1 (zA n4 (zA m1 (zA m2 (zA hll (zA dz (zA d1 (zA d0 (zA dl (zA @cS @List.drop_zero.{0}))))))))))))))) ?_
    refine wF ?_
    refine zS (zA hck (zA hcx (zA l4 (zA l5 (zA n0 (zA n1 (zA n4 (zA m1 (zA m2 (zA hll (zA dz (zA d1 (zA d0 (zA dl (zA @cS @List.drop_zero.{0}))))))))))))))) ?_
    refine wT ?_
    refine zS (zA hck (zA hcx (zA l4 (zA l5 (zA n0 (zA n1 (zA n4 (zA m1 (zA m2 (zA hll (zA dz (zA d1 (zA d0 (zA dl (zA @cS @List.drop_zero.{0}))))))))))))))) ?_
    refine cP cv ?_
    refine zS (zA hck (zA hcx (zA l4 (zA l5 (zA n0 (zA n1 (zA n4 (zA m1 (zA m2 (zA hll (zA dz (zA d1 (zA d0 (zA dl (zA @cS @List.drop_zero.{0}))))))))))))))) ?_
    exact z0i (z0h (.imm rfl))
 ·have hif:(if (true:Bool)=true then (v && bz) && bl else (if b1=true then v && bl else (v && bz) && b0 && decide (x.lv<k.le.length)))=((v && bz) && bl):=rfl
  rw [hif]
  cases v
  ·refine zS (zA hck (zA hcx (zA l4 (zA l5 (zA n0 (zA n1 (zA n4 (zA m1 (zA m2 (zA hll (zA dz (zA d1 (zA d0 (zA dl (zA @cS @List.drop_zero.{0}))))))))))))))) ?_
   refine cP cv ?_
   refine zS (zA hck (zA hcx (zA l4 (zA l5 (zA n0 (zA n1 (zA n4 (zA m1 (zA m2 (zA hll (zA dz (zA d1 (zA d0 (zA dl (zA @cS @List.drop_zero.{0}))))))))))))))) ?_
   refine wT ?_
   refine zS (zA hck (zA hcx (zA l4 (zA l5 (zA n0 (zA n1 (zA n4 (zA m1 (zA m2 (zA hll (zA dz (zA d1 (zA d0 (zA dl (zA @cS @List.drop_zero.{0}))))))))))))))) ?_
   exact z0i (z0h (.imm rfl))
  ·cases bz
   all_goals
    refine zS (zA hck (zA hcx (zA l4 (zA l5 (zA n0 (zA n1 (zA n4 (zA m1 (zA m2 (zA hll (zA dz (zA d1 (zA d0 (zA dl (zA @cS @List.drop_zero.{0}))))))))))))))) ?_
    refine cP cv ?_
    refine zS (zA hck (zA hcx (zA l4 (zA l5 (zA n0 (zA n1 (zA n4 (zA m1 (zA m2 (zA hll (zA dz (zA d1 (zA d0 (zA dl (zA @cS @List.drop_zero.{0}))))))))))))))) ?_
    refine cP cs ?_
    refine zS (zA hck (zA hcx (zA l4 (zA l5 (zA n0 (zA n1 (zA n4 (zA m1 (zA m2 (zA hll (zA dz (zA d1 (zA d0 (zA dl (zA @cS @List.drop_zero.{0}))))))))))))))) ?_
    refine wT ?_
    refine zS (zA hck (zA hcx (zA l4 (zA l5 (zA n0 (zA n1 (zA n4 (zA m1 (zA m2 (zA hll (zA dz (zA d1 (zA d0 (zA dl (zA @cS @List.drop_zero.{0}))))))))))))))) ?_
    exact z0i (z0h (.imm rfl))
theorem y0m (l:List Tc) (hl:l.length≤1000000) (p:Tc→Bool) (v:DV) (g:Nat) (cs:List DV) (hv:z6K v g cs) (hcs:cs.all DV.rf=true) (hg:z0U prog g) (hc:∀f∈l,z0c prog g ([.agg (cxC f)]++cs) (.bool (p f))):z0c prog 241 [.sl 5 (cxs l),v] (.int .i64 (ixP p l)):=by
 have hln:(cxs l).length / 5=l.length:=by rw [z2x];omega
 have hlen:=z2x l
 refine z0b x0E (by simp [y07]) ?_
 unfold z7l
 refine zS hln ?_
 refine z0x (σ:=Nat) (fun i=>[(0,.sl 5 (cxs l)),(1,v),(7,.int .i64 l.length),(8,.int .i64 i)]) (fun _=>[]) (fun i=>i≤l.length∧∀j,j<i→p (l.getD j default)=false) (fun i=>l.length - i) 0 ⟨Nat.zero_le _,by simp⟩ ?_ rfl ?_
 ·simp [z0y,lk]
 ·rintro i ⟨hi,hall⟩
  try simp only at hi hall ⊢
  by_cases hlt:i<l.length
  ·have dl:decide ((i:Int)<(l.length:Int))=true:=zT9
   have ei:(i:Int).toNat=i:=Int.toNat_natCast i
   have e1:((i:Int)+1)=((i+1:Nat):Int):=by omega
   have hw:((cxs l).drop (i*5)).take 5=cxC (l.getD i default):=z1x (j:=0) z1T default hlt (Nat.le_refl _)
   have cf:=hc _ (z7E hlt)
   have hb6:i*5+5≤(cxs l).length:=by omega
   refine zS dl ?_
   refine wTs ?_
   refine z0d ?_
   refine z0f ?_
   refine z0d ?_
   refine z0g ?_
   refine zD ?_
   refine z0d ?_
   refine z3B [om 11 1,om 12 0,om 13 5,ot 14 (.iad 5 (.t 12) (.t 13)),ot 15 (.ldn 5 (.t 14))] [] (.x 16) (.t 11) [.t 15] rfl ?_
   refine zE (zA ei (zA hlen hw)) ?_
   refine ⟨⟨by omega,by omega⟩,by omega,g,cs,hv,hg,z1E cf (by rw [List.all_append,hcs];rfl) ?_⟩
   cases hp:p (l.getD i default)
   ·have hnx:∀j,j<i+1→p (l.getD j default)=false:=fun j hj=>by
     rcases Nat.lt_or_ge j i with h|h
     ·exact hall j h
     ·obtain rfl:j=i:=by omega
      exact hp
    refine zR ?_
    refine wFs ?_
    refine zS e1 ?_
    exact ⟨i+1,⟨by omega,hnx⟩,by omega,by simp [z0y,lk]⟩
   ·have hx:=y4I default hlt hp hall
    rw [hx]
    refine zR ?_
    refine wT ?_
    refine zR ?_
    exact z0i (z0h (.imm rfl))
  ·have dl:decide ((i:Int)<(l.length:Int))=false:=zF9
   rw [y4J default fun j hj=>hall j (by omega)]
   refine zS dl ?_
   refine z0m rfl (fun h=>by cases h) (fun _=>z0s ?_)
   refine zR ?_
   exact z0i (z0h (.imm rfl))
theorem y0l (l:List Tc) (hl:l.length≤1000000) (p:Tc→Bool) (v:DV) (g:Nat) (cs:List DV) (hv:z6K v g cs) (hvr:v.rf=true) (hcs:cs.all DV.rf=true) (hg:z0U prog g) (hc:∀f∈l,z0c prog g ([.agg (cxC f)]++cs) (.bool (p f))):z0c prog 200 [.sl 5 (cxs l),v] (.bool (l.any p)):=by
 have ci:=y0m l hl p v g cs hv hcs hg hc
 have ha:=y2v p l
 have hrf:List.all [DV.sl 5 (cxs l),v] DV.rf=true:=by rw [List.all_cons,List.all_cons,hvr];rfl
 refine z0b x0C (by simp [y05]) ?_
 unfold z7j
 generalize ixP p l=k at *
 generalize l.any p=b at *
 refine zR ?_
 refine z0L ci hrf ?_
 refine zS ha ?_
 exact z0i (z0h (.imm rfl))
theorem z59 (l:List Kx) (hl:l.length≤1000000) (p:Kx→Bool) (v:DV) (g:Nat) (cs:List DV) (hv:z6K v g cs) (hvr:v.rf=true) (hcs:cs.all DV.rf=true) (hg:z0U prog g) (hc:∀f∈l,z0c prog g ([.agg (kxC f)]++cs) (.bool (p f))):z0c prog 140 [.sl 4 (kxs l),v] (.bool (l.any p)):=by
 have ci:=y26 l hl p v g cs hv hcs hg hc
 have ha:=y2v p l
 have hrf:List.all [DV.sl 4 (kxs l),v] DV.rf=true:=by rw [List.all_cons,List.all_cons,hvr];rfl
 refine z0b x30 (by simp [y4i]) ?_
 unfold z8C
 generalize ixP p l=k at *
 generalize l.any p=b at *
 refine zR ?_
 refine z0L ci hrf ?_
 refine zS ha ?_
 exact z0i (z0h (.imm rfl))
theorem z21 (n:Int) (l:List Kx) (hl:l.length≤1000000):z0c prog 139 [.agg [.int .i64 n,.sl 4 (kxs l)]] (.sl 1 (z0K (z1y l))):=by
 have hln:(kxs l).length / 4=l.length:=by rw [z16];omega
 have hlen:=z16 l
 have hca:(DV.agg [.int .i64 n,.sl 4 (kxs l)]).cells? = some [.int .i64 n,.sl 4 (kxs l)]:=rfl
 refine z0b y6C (by simp [z9e]) ?_
 unfold z5I
 refine zS hca ?_
 refine z36 3 1 200 rfl (by simp [lkH]) ?_
 refine zS (zA hln @cS) ?_
 refine z0x (σ:=Nat) (fun i=>[(3,.osl 1 200 0 i),(7,.sl 4 (kxs l)),(8,.int .i64 l.length),(9,.int .i64 i)]) (fun i=>[(1,[.int .i64 n,.sl 4 (kxs l)]),(200,z0K ((z1y l).take i))]) (fun i=>i≤l.length) (fun i=>l.length - i) 0 (Nat.zero_le _) ?_ rfl ?_
 ·simp [z0y,lk]
 ·intro i hi
  try simp only at hi ⊢
  by_cases hlt:i<l.length
  ·have dl:decide ((i:Int)<(l.length:Int))=true:=zT9
   have ei:(i:Int).toNat=i:=Int.toNat_natCast i
   have e1:((i:Int)+1)=((i+1:Nat):Int):=by omega
   have hw:((kxs l).drop (i*4)).take 4=kxC (l.getD i default):=z1x (j:=0) z04 default hlt (Nat.le_refl _)
   have htk:z0K ((z1y l).take i)++[.str (l.getD i default).nm]=z0K ((z1y l).take (i+1)):=by
    unfold z0K
    rw [List.take_add_one,List.map_append]
    unfold z1y
    rw [List.getElem?_map,zO4 hlt,zO1,zO4 hlt]
    rfl
   have hl1:(z0K ((z1y l).take i)).length=i:=by rw [z0J,List.length_take,z1d];omega
   have hpg:=z0k 200 (List.all_eq_true.1 (z9T ((z1y l).take (i+1))))
   have hfz:=z1n 5 (kxC (l.getD i default)) (List.all_eq_true.1 (z9T ((z1y l).take (i+1))))
   have hpF:=z0k 200 (z27 (l.getD i default))
   have hcl:=z04 (l.getD i default)
   have htf:(kxC (l.getD i default)).take 4=kxC (l.getD i default):=rfl
   have hg0:(kxC (l.getD i default)).getD 0 .undef=.str (l.getD i default).nm:=rfl
   have hone:((kxC (l.getD i default)).all DV.one)=true:=List.all_eq_true.2 (y2w _)
   have hrf:=z27 (l.getD i default)
   have hrfa:((kxC (l.getD i default)).all DV.rf)=true:=List.all_eq_true.2 hrf
   generalize z0K ((z1y l).take i)=Y at *
   generalize hZ:z0K ((z1y l).take (i+1))=Z at *
   generalize (l.getD i default).nm=nm at *
   generalize kxC (l.getD i default)=C at *
   refine zS dl ?_
   refine wTs ?_
   refine zS (zA ei (zA hw (zA hlen (zA hone (zA hcl (zA htf (zA @List.drop_zero.{0} (zA @cS hg0)))))))) ?_
   refine ⟨by simp [DV.rf],⟨hl1,by omega,by omega,fun h=>h,by simp [DV.one]⟩,?_⟩
   rw [htk,hpg,hpF]
   refine z0H 5 (cells:=C) rfl hrfa ?_
   refine zS (zA e1 hfz) ?_
   exact ⟨i+1,by omega,by omega,by simp [z0y,lk,z1F],by rw [hZ]⟩
  ·have dl:decide ((i:Int)<(l.length:Int))=false:=zF9
   obtain rfl:i=l.length:=by omega
   have htl:(z1y l).take l.length=z1y l:=List.take_of_length_le (by rw [z1d];exact Nat.le_refl _)
   rw [htl]
   have hrf:=z9T (z1y l)
   have hsl:(z0K (z1y l)).length=l.length:=by rw [z0J,z1d]
   generalize z0K (z1y l)=Z at *
   refine z0H 200 (cells:=Z) rfl hrf ?_
   have hfz:frz 200 Z (.osl 1 200 0 l.length)=.sl 1 Z:=by
    simp [frz,hsl]
    rw [List.take_of_length_le (by omega)]
   refine zS (zA dl hfz) ?_
   refine z0m rfl (fun h=>by cases h) (fun _=>z0s ?_)
   refine zR ?_
   exact z0i (z0h (.imm rfl))
theorem y0n (k:Kx) (x:Tc) (hx:y9m x.va):z0c prog 201 [.agg (cxC x),.el (kxC k) 0] (.bool (!y8t k x)):=by
 have cf:=y7p k x hx
 have hcx:(DV.agg (cxC x)).cells? = some (cxC x):=rfl
 have l4:=z04 k
 have l5:=z1T x
 have t4:(kxC k).take 4=kxC k:=rfl
 have t5:(cxC x).take 5=cxC x:=rfl
 refine z0b x0G (by simp [y09]) ?_
 unfold z7n
 refine zS (zA hcx (zA l4 (zA l5 (zA t4 (zA t5 (zA @cS @List.drop_zero.{0})))))) ?_
 refine z0L cf (by simp [DV.rf_agg,List.all_eq_true.2 (z27 k),List.all_eq_true.2 (z8M x)]) ?_
 refine zR ?_
 exact z0i (z0h (.imm rfl))
theorem x9H:z0U prog 201:=⟨_,func201,by kernel_rfl,by kernel_rfl⟩
theorem x9K:z0U prog 141:=⟨_,func141,by kernel_rfl,by kernel_rfl⟩
theorem x1A (k:Kx) (n:Int) (hk1:k.le.length≤1000000) (hk2:k.ce.length≤1000000) (hk:∀c∈k.ce,y9m c.va):z0c prog 142 [.agg (kxC k),.int .i64 n] (.bool (x1G k n)):=by
 have hck:(DV.agg (kxC k)).cells? = some (kxC k):=rfl
 have l4:=z04 k
 have m1:(kxC k).getD 1 .undef=.int .i64 k.kd:=rfl
 have m2:(kxC k).getD 2 .undef=.sl 1 (z0K k.le):=rfl
 have m3:(kxC k).getD 3 .undef=.sl 5 (cxs k.ce):=rfl
 have hll:=z0J k.le
 have hcl:(cxs k.ce).length / 5=k.ce.length:=by rw [z2x];omega
 have hCrf:=z27 k
 have hCa:(kxC k).all DV.rf=true:=List.all_eq_true.2 hCrf
 have hone:(kxC k).all DV.one=true:=List.all_eq_true.2 (y2w k)
 have cc:=y0l k.ce hk2 (fun x=>!y8t k x) (.clo 201 [.el (kxC k) 0]) 201 [.el (kxC k) 0] (.inl rfl) (by simp [DV.rf]) rfl x9H (fun x hx=>y0n k x (hk x hx))
 rw [y1R] at cc
 have hne:kxC k≠[]:=by unfold kxC;simp
 generalize hC:kxC k=C at *
 obtain ⟨b1,d1⟩:∃b,decide (k.kd=1)=b:=⟨_,rfl⟩
 obtain ⟨b2,d2⟩:∃b,decide (k.kd=2)=b:=⟨_,rfl⟩
 obtain ⟨bl,dl⟩:∃b,decide (0<k.le.length)=b:=⟨_,rfl⟩
 obtain ⟨bm,dm⟩:∃b,decide (k.le.length≤32)=b:=⟨_,rfl⟩
 obtain ⟨bn,dn⟩:∃b,decide ((k.ce.length:Int)=n)=b:=⟨_,rfl⟩
 have e1:decide (¬k.kd=1)=!b1:=by rw [←d1];simp
 have e2:decide (¬k.kd=2)=!b2:=by rw [←d2];simp
 have el:decide ((0:Int)<(k.le.length:Int))=bl:=by rw [←dl];exact decide_eq_decide.2 (by omega)
 have em:decide ((32:Int)<(k.le.length:Int))=!bm:=by rw [←dm];by_cases h:k.le.length≤32<;>simp [h]<;>omega
 have en:decide (¬(k.ce.length:Int)=n)=!bn:=by rw [←dn];simp
 refine z0b w3Q (by simp [x8O]) ?_
 unfold y8i x1G
 have hsh:x1I k n=((b1 || b2) && !(b1 && bl) && bm && bn):=by unfold x1I;rw [d1,d2,dl,dm,dn]
 rw [hsh]
 refine zS (zA hck (zA hone @cS)) ?_
 refine ⟨⟨hne,hCrf⟩,?_⟩
 by_cases hb:((b1 || b2) && !(b1 && bl) && bm && bn)=true
 ·rw [hb,Bool.true_and]
  cases b1<;>cases b2<;>cases bl<;>cases bm<;>cases bn
  all_goals first
   | (exact absurd hb (by decide))
   | skip
  all_goals
   clear hb hsh
   refine zS (zA hck (zA hone (zA l4 (zA m1 (zA m2 (zA m3 (zA hll (zA hcl (zA d1 (zA e1 (zA e2 (zA el (zA em (zA en (zA @cS (zA @Bool.not_true @Bool.not_false)))))))))))))))) ?_
   refine wFs ?_
   clear d1 d2 dl dm dn e1 e2 el em en
   refine zS (zA l4 (zA m2 hll)) ?_
   refine z0x (σ:=Nat) (fun i=>[(2,.el C 0),(40,.sl 1 (z0K k.le)),(41,.int .i64 k.le.length),(42,.int .i64 i)]) (fun _=>[]) (fun i=>i≤k.le.length∧∀j,j<i→ixS (k.le.take j) (k.le.getD j [])<0) (fun i=>k.le.length - i) 0 ⟨Nat.zero_le _,by simp⟩ ?_ rfl ?_
   ·simp [z0y,lk]
   ·rintro i ⟨hi,hall⟩
    try simp only at hi hall ⊢
    by_cases hlt:i<k.le.length
    ·have dl:decide ((i:Int)<(k.le.length:Int))=true:=zT9
     have ei:(i:Int).toNat=i:=Int.toNat_natCast i
     have e1:((i:Int)+1)=((i+1:Nat):Int):=by omega
     have hg:=z1j hlt
     have hts:(z0K k.le).take i=z0K (k.le.take i):=by unfold z0K;rw [List.map_take]
     have cx:=z3x (k.le.take i) (k.le.getD i []) (by rw [List.length_take];omega)
     have hno:=@x2m k.le i hlt
     generalize hT:z0K (k.le.take i)=T at *
     refine zS dl ?_
     refine wTs ?_
     refine zS (zA ei (zA hg (zA hll (zA l4 (zA m2 (zA hts (zA @Nat.mul_one (zA @Nat.zero_mul (zA @List.drop_zero.{0} @Nat.div_one))))))))) ?_
     refine cP cx ?_
     by_cases hx:ixS (k.le.take i) (k.le.getD i [])<0
     ·have dx:decide (0≤ixS (k.le.take i) (k.le.getD i []))=false:=zF9
      refine zS dx ?_
      refine wFs ?_
      refine zS e1 ?_
      exact ⟨i+1,⟨by omega,fun j hj=>by
       rcases Nat.lt_or_ge j i with h2|h2
       ·exact hall j h2
       ·obtain rfl:j=i:=by omega
        exact hx⟩,by omega,by simp [z0y,lk]⟩
     ·have dx:decide (0≤ixS (k.le.take i) (k.le.getD i []))=true:=zT9
      rw [hno hx,Bool.false_and]
      refine zS dx ?_
      refine wT ?_
      refine zR ?_
      exact z0i (z0h (.imm rfl))
    ·have dl:decide ((i:Int)<(k.le.length:Int))=false:=zF9
     rw [y8o fun j hj=>hall j (by omega)]
     refine zS dl ?_
     refine z0m rfl (fun h=>by cases h) (fun _=>z0s ?_)
     refine zS (zA l4 (zA m3 @z3J)) ?_
     refine ⟨List.all_eq_true.1 rfl,?_⟩
     refine z0L cc (by simp [DV.rf]) ?_
     refine zS (zA @Bool.not_not @Bool.true_and) ?_
     exact z0i (z0h (.imm rfl))
 ·have hb':=Bool.eq_false_iff.2 hb
  rw [hb',Bool.false_and,Bool.false_and]
  cases b1<;>cases b2<;>cases bl<;>cases bm<;>cases bn
  all_goals first
   | (exact absurd rfl hb)
   | skip
  all_goals
   refine zS (zA hck (zA hone (zA l4 (zA m1 (zA m2 (zA m3 (zA hll (zA hcl (zA d1 (zA e1 (zA e2 (zA el (zA em (zA en (zA @cS (zA @Bool.not_true @Bool.not_false)))))))))))))))) ?_
   refine wT ?_
   refine zR ?_
   exact z0i (z0h (.imm rfl))
def okT (S:List Kx):Prop:=S.length≤1000000∧∀k∈S,k.nm.length≤9223372036854775807∧k.le.length≤1000000∧k.ce.length≤1000000∧∀c∈k.ce,y9m c.va
theorem y3d (n:Int) (S:List Kx) (k:Kx) (hk1:k.le.length≤1000000) (hk2:k.ce.length≤1000000) (hk:∀c∈k.ce,y9m c.va):z0c prog 141 [.agg (kxC k),.el [.int .i64 n,.sl 4 (kxs S)] 0] (.bool (!x1G k n)):=by
 have cc:=x1A k n hk1 hk2 hk
 have hck:(DV.agg (kxC k)).cells? = some (kxC k):=rfl
 have l4:=z04 k
 have t4:(kxC k).take 4=kxC k:=rfl
 refine z0b x37 (by simp [y4p]) ?_
 unfold z8J
 refine zS (zA hck (zA l4 (zA t4 (zA @cS @List.drop_zero.{0})))) ?_
 refine z0L cc (by simp [DV.rf_agg,List.all_eq_true.2 (z27 k)];rfl) ?_
 refine zR ?_
 exact z0i (z0h (.imm rfl))
theorem z6W (n:Int) (S:List Kx) (h:okT S):z0c prog 75 [.agg [.int .i64 n,.sl 4 (kxs S)]] (.bool (x1J n S)):=by
 obtain ⟨hl,hk⟩:=h
 have hln:(kxs S).length / 4=S.length:=by rw [z16];omega
 have hca:(DV.agg [.int .i64 n,.sl 4 (kxs S)]).cells? = some [.int .i64 n,.sl 4 (kxs S)]:=rfl
 have hB:([DV.int .i64 n,.sl 4 (kxs S)]≠[]∧∀d∈[DV.int .i64 n,.sl 4 (kxs S)],d.rf=true):=⟨by simp,List.all_eq_true.1 rfl⟩
 have c1:=z21 n S hl
 have c2:=y5G (z1y S) (by rw [z1d];omega) (fun s hs=>by
  unfold z1y at hs
  obtain ⟨f,hf,rfl⟩:=List.mem_map.1 hs
  exact (hk f hf).1)
 have c3:=z59 S hl (fun k=>!x1G k n) (.clo 141 [.el [.int .i64 n,.sl 4 (kxs S)] 0]) 141 [.el [.int .i64 n,.sl 4 (kxs S)] 0] (.inl rfl) (by simp [DV.rf]) rfl x9K (fun k h=>y3d n S k (hk k h).2.1 (hk k h).2.2.1 (hk k h).2.2.2)
 rw [y1R] at c3
 refine z0b w3R (by simp [x8P]) ?_
 unfold y8j x1J
 obtain ⟨b0,d0⟩:∃b,decide (0≤n)=b:=⟨_,rfl⟩
 obtain ⟨b1,d1⟩:∃b,decide (n≤1024)=b:=⟨_,rfl⟩
 obtain ⟨b2,d2⟩:∃b,decide (S.length≤32)=b:=⟨_,rfl⟩
 have e2:decide ((S.length:Int)≤32)=b2:=by rw [←d2];exact decide_eq_decide.2 (by omega)
 rw [d0,d1,d2]
 generalize z50 (z1y S)=b3 at *
 refine zS hca ?_
 refine ⟨hB.2,?_⟩
 cases b0
 ·refine zS (zA hca (zA @cS (zA hln d0))) ?_
  exact z0i (z0h (.imm rfl))
 cases b1
 ·refine zS (zA hca (zA @cS (zA hln (zA d0 d1)))) ?_
  exact z0i (z0h (.imm rfl))
 cases b2
 ·refine zS (zA hca (zA @cS (zA hln (zA d0 (zA d1 e2))))) ?_
  exact z0i (z0h (.imm rfl))
 refine zS (zA hca (zA @cS (zA hln (zA d0 (zA d1 e2))))) ?_
 refine cP c1 ?_
 refine zR ?_
 refine cP c2 ?_
 cases b3
 ·refine zR ?_
  exact z0i (z0h (.imm rfl))
 refine zS @z3J ?_
 refine ⟨List.all_eq_true.1 rfl,?_⟩
 refine z0L c3 (by simp [DV.rf]) ?_
 refine zS @Bool.not_not ?_
 exact z0i (z0h (.imm rfl))
def x9v (x:XN):Bool:=!x.1 && decide (x.2.1=[]) && decide (x.2.2=[])
theorem w4O (x:XN) (hx:y9m x):z0c prog 29 [.agg (xnC x),.agg [.bool false,.nils,.nils]] (.bool (x9v x)):=by
 refine z5r (ds':=[.agg (xnC x),.agg (xnC (false,[],[]))]) (.cons (WkD.refl _) (.cons (WkD.agg (.cons (WkD.refl _) (.cons (WkD.nils 1) (.cons (WkD.nils 1) .nil)))) .nil)) ?_
 have c1:=z3P x.2.1 [] (by have:=hx.2.2.1;omega) (by decide)
 have c2:=z3P x.2.2 [] (by have:=hx.2.2.2;omega) (by decide)
 have hcc:(DV.agg (xnC x)).cells? = some (xnC x):=rfl
 have hcz:(DV.agg (xnC (false,[],[]))).cells? = some (xnC (false,[],[])):=rfl
 have n0:(xnC x).getD 0 .undef=.bool x.1:=rfl
 have n2:(xnC x).getD 2 .undef=.sl 1 (us x.2.2):=rfl
 have nt:(xnC x).take 2=[.bool x.1,.sl 1 (us x.2.1)]:=rfl
 have z2:(xnC (false,[],[])).getD 2 .undef=.sl 1 (us []):=rfl
 have zt:(xnC (false,[],[])).take 2=[.bool false,.sl 1 (us [])]:=rfl
 have l3:(xnC x).length=3:=rfl
 have l3z:(xnC (false,[],[])).length=3:=rfl
 have cs:z0c prog 60 [.agg [.bool x.1,.sl 1 (us x.2.1)],.agg [.bool false,.sl 1 (us [])]] (.bool (!x.1 && decide (x.2.1=[]))):=by
  refine z0b x3Z (by simp [y2g]) ?_
  unfold z8B
  generalize us x.2.1=a at *
  generalize us ([]:List Nat)=b at *
  have b1:(false == false)=true:=rfl
  have b2:(true == false)=false:=rfl
  cases x.1
  ·refine zS (zA @cS b1) ?_
   refine cP c1 ?_
   refine zS (zA @Bool.not_false @Bool.true_and) ?_
   exact z0i (z0h (.imm rfl))
  ·refine zS (zA @cS b2) ?_
   exact z0i (z0h (.imm rfl))
 refine z0b x3V (by simp [y2b]) ?_
 unfold z8x x9v
 generalize xnC x=U at *
 generalize xnC (false,[],[])=V at *
 generalize (!x.1 && decide (x.2.1=[]))=b at *
 refine zS (zA hcc (zA hcz (zA n2 (zA nt (zA z2 (zA zt (zA l3 (zA l3z (zA @cS @List.drop_zero.{0}))))))))) ?_
 refine cP cs ?_
 cases b
 ·refine zR ?_
  exact z0i (z0h (.imm rfl))
 ·refine zS (zA n2 (zA z2 (zA l3 (zA l3z @cS)))) ?_
  refine cP c2 ?_
  refine zS @Bool.true_and ?_
  exact z0i (z0h (.imm rfl))
def x0c (k:Kx) (x:Tc):Bool :=
 if x.mi then x9v x.va && decide (x.lv=0) else if k.kd=1 then z5n x.va.1 x.va.2.1 x.va.2.2 && decide (x.lv=0) else x9v x.va && decide (0≤x.lv) && decide (x.lv<k.le.length)
theorem y7v (k:Kx) (x:Tc) (hx:y9m x.va):z0c prog 228 [.agg (kxC k),.agg (cxC x)] (.bool (x0c k x)):=by
 have cz:=w4O x.va hx
 obtain ⟨u1,u2,u3,u4⟩:=hx
 have cv:z0c prog 94 [.agg (xnC x.va)] (.bool (z5n x.va.1 x.va.2.1 x.va.2.2)):=z7K _ _ _ (by omega) (by omega) u1 u2
 have hck:(DV.agg (kxC k)).cells? = some (kxC k):=rfl
 have hcx:(DV.agg (cxC x)).cells? = some (cxC x):=rfl
 have l4:=z04 k
 have l5:=z1T x
 have n0:(cxC x).getD 0 .undef=.bool x.mi:=rfl
 have n1:((cxC x).drop 1).take 3=xnC x.va:=rfl
 have n4:(cxC x).getD 4 .undef=.int .i64 x.lv:=rfl
 have m1:(kxC k).getD 1 .undef=.int .i64 k.kd:=rfl
 have m2:(kxC k).getD 2 .undef=.sl 1 (z0K k.le):=rfl
 have hll:=z0J k.le
 refine z0b w0F (by simp [x3b]) ?_
 unfold y30 x0c
 generalize z5n x.va.1 x.va.2.1 x.va.2.2=v at *
 generalize x9v x.va=z at *
 obtain ⟨b1,d1⟩:∃b,decide (k.kd=1)=b:=⟨_,rfl⟩
 obtain ⟨b0,d0⟩:∃b,decide (0≤x.lv)=b:=⟨_,rfl⟩
 obtain ⟨bl,dl⟩:∃b,decide (x.lv=0)=b:=⟨_,rfl⟩
 have hk1:(if k.kd=1 then v && decide (x.lv=0) else z && decide (0≤x.lv) && decide (x.lv<k.le.length))=if b1=true then v && bl else z && b0 && decide (x.lv<k.le.length):=by
  rw [←d1,d0,dl]
  by_cases h:k.kd=1<;>simp [h]
 rw [hk1,dl]
 repeat (first|refine z0d ?_|refine z0g ?_|refine z0p ?_|refine z0f ?_|refine And.intro (by omega) ?_|simp (maxSteps:=1000000) (disch:=omega) only [cA,cB,cN,FnD.nb,lk,lkH,Dst.onT,Dst.onX,Dst.slot,z0W,z0N,z0I,z0X,z0u,z0V,unE,cnt,z0j,z0t,z0l,z0o,opE,rmH,z02,z0n,Nat.reduceEqDiff,Nat.reduceLT,Nat.reduceAdd,Nat.reduceMul,Nat.reduceMod,↓reduceIte,reduceCtorEq,Nat.reduceLeDiff,hck,hcx,l4,l5,n0,n1,n4,m1,m2,hll,d1,d0,dl,cS,List.drop_zero])
 refine cP cz ?_
 cases hm:x.mi
 all_goals rw [hm] at n0
 ·have hif:(if (false:Bool)=true then z && bl else (if b1=true then v && bl else z && b0 && decide (x.lv<k.le.length)))=(if b1=true then v && bl else z && b0 && decide (x.lv<k.le.length)):=rfl
  rw [hif]
  cases b1
  ·have hi2:(if (false:Bool)=true then v && bl else z && b0 && decide (x.lv<k.le.length))=(z && b0 && decide (x.lv<k.le.length)):=rfl
   rw [hi2]
   cases z<;>cases b0
   all_goals
    repeat (first|refine z0d ?_|refine z0g ?_|refine z0p ?_|refine z0f ?_|refine And.intro (by omega) ?_|simp (maxSteps:=1000000) (disch:=omega) only [cA,cB,cN,FnD.nb,lk,lkH,Dst.onT,Dst.onX,Dst.slot,z0W,z0N,z0I,z0X,z0u,z0V,unE,cnt,z0j,z0t,z0l,z0o,opE,rmH,z02,z0n,Nat.reduceEqDiff,Nat.reduceLT,Nat.reduceAdd,Nat.reduceMul,Nat.reduceMod,↓reduceIte,reduceCtorEq,Nat.reduceLeDiff,hck,hcx,l4,l5,n0,n1,n4,m1,m2,hll,d1,d0,dl,cS,List.drop_zero])
    refine wF ?_
    repeat (first|refine z0d ?_|refine z0g ?_|refine z0p ?_|refine z0f ?_|refine And.intro (by omega) ?_|simp (maxSteps:=1000000) (disch:=omega) only [cA,cB,cN,FnD.nb,lk,lkH,Dst.onT,Dst.onX,Dst.slot,z0W,z0N,z0I,z0X,z0u,z0V,unE,cnt,z0j,z0t,z0l,z0o,opE,rmH,z02,z0n,Nat.reduceEqDiff,Nat.reduceLT,Nat.reduceAdd,Nat.reduceMul,Nat.reduceMod,↓reduceIte,reduceCtorEq,Nat.reduceLeDiff,hck,hcx,l4,l5,n0,n1,n4,m1,m2,hll,d1,d0,dl,cS,List.drop_zero])
    refine wFs ?_
    repeat (first|refine z0d ?_|refine z0g ?_|refine z0p ?_|refine z0f ?_|refine And.intro (by omega) ?_|simp (maxSteps:=1000000) (disch:=omega) only [cA,cB,cN,FnD.nb,lk,lkH,Dst.onT,Dst.onX,Dst.slot,z0W,z0N,z0I,z0X,z0u,z0V,unE,cnt,z0j,z0t,z0l,z0o,opE,rmH,z02,z0n,Nat.reduceEqDiff,Nat.reduceLT,Nat.reduceAdd,Nat.reduceMul,Nat.reduceMod,↓reduceIte,reduceCtorEq,Nat.reduceLeDiff,hck,hcx,l4,l5,n0,n1,n4,m1,m2,hll,d1,d0,dl,cS,List.drop_zero])
    exact z0i (z0h (.imm rfl))
  ·have hi2:(if (true:Bool)=true then v && bl else z && b0 && decide (x.lv<k.le.length))=(v && bl):=rfl
   rw [hi2]
   cases v
   all_goals
    repeat (first|refine z0d ?_|refine z0g ?_|refine z0p ?_|refine z0f ?_|refine And.intro (by omega) ?_|simp (maxSteps:=1000000) (disch:=omega) only [cA,cB,cN,FnD.nb,lk,lkH,Dst.onT,Dst.onX,Dst.slot,z0W,z0N,z0I,z0X,z0u,z0V,unE,cnt,z0j,z0t,z0l,z0o,opE,rmH,z02,z0n,Nat.reduceEqDiff,Nat.reduceLT,Nat.reduceAdd,Nat.reduceMul,Nat.reduceMod,↓reduceIte,reduceCtorEq,Nat.reduceLeDiff,hck,hcx,l4,l5,n0,n1,n4,m1,m2,hll,d1,d0,dl,cS,List.drop_zero])
    refine wF ?_
    repeat (first|refine z0d ?_|refine z0g ?_|refine z0p ?_|refine z0f ?_|refine And.intro (by omega) ?_|simp (maxSteps:=1000000) (disch:=omega) only [cA,cB,cN,FnD.nb,lk,lkH,Dst.onT,Dst.onX,Dst.slot,z0W,z0N,z0I,z0X,z0u,z0V,unE,cnt,z0j,z0t,z0l,z0o,opE,rmH,z02,z0n,Nat.reduceEqDiff,Nat.reduceLT,Nat.reduceAdd,Nat.reduceMul,Nat.reduceMod,↓reduceIte,reduceCtorEq,Nat.reduceLeDiff,hck,hcx,l4,l5,n0,n1,n4,m1,m2,hll,d1,d0,dl,cS,List.drop_zero])
    refine wT ?_
    repeat (first|refine z0d ?_|refine z0g ?_|refine z0p ?_|refine z0f ?_|refine And.intro (by omega) ?_|simp (maxSteps:=1000000) (disch:=omega) only [cA,cB,cN,FnD.nb,lk,lkH,Dst.onT,Dst.onX,Dst.slot,z0W,z0N,z0I,z0X,z0u,z0V,unE,cnt,z0j,z0t,z0l,z0o,opE,rmH,z02,z0n,Nat.reduceEqDiff,Nat.reduceLT,Nat.reduceAdd,Nat.reduceMul,Nat.reduceMod,↓reduceIte,reduceCtorEq,Nat.reduceLeDiff,hck,hcx,l4,l5,n0,n1,n4,m1,m2,hll,d1,d0,dl,cS,List.drop_zero])
    refine cP cv ?_
    repeat (first|refine z0d ?_|refine z0g ?_|refine z0p ?_|refine z0f ?_|refine And.intro (by omega) ?_|simp (maxSteps:=1000000) (disch:=omega) only [cA,cB,cN,FnD.nb,lk,lkH,Dst.onT,Dst.onX,Dst.slot,z0W,z0N,z0I,z0X,z0u,z0V,unE,cnt,z0j,z0t,z0l,z0o,opE,rmH,z02,z0n,Nat.reduceEqDiff,Nat.reduceLT,Nat.reduceAdd,Nat.reduceMul,Nat.reduceMod,↓reduceIte,reduceCtorEq,Nat.reduceLeDiff,hck,hcx,l4,l5,n0,n1,n4,m1,m2,hll,d1,d0,dl,cS,List.drop_zero])
    exact z0i (z0h (.imm rfl))
 ·have hif:(if (true:Bool)=true then z && bl else (if b1=true then v && bl else z && b0 && decide (x.lv<k.le.length)))=(z && bl):=rfl
  rw [hif]
  cases z
  all_goals
   repeat (first|refine z0d ?_|refine z0g ?_|refine z0p ?_|refine z0f ?_|refine And.intro (by omega) ?_|simp (maxSteps:=1000000) (disch:=omega) only [cA,cB,cN,FnD.nb,lk,lkH,Dst.onT,Dst.onX,Dst.slot,z0W,z0N,z0I,z0X,z0u,z0V,unE,cnt,z0j,z0t,z0l,z0o,opE,rmH,z02,z0n,Nat.reduceEqDiff,Nat.reduceLT,Nat.reduceAdd,Nat.reduceMul,Nat.reduceMod,↓reduceIte,reduceCtorEq,Nat.reduceLeDiff,hck,hcx,l4,l5,n0,n1,n4,m1,m2,hll,d1,d0,dl,cS,List.drop_zero])
   refine wT ?_
   repeat (first|refine z0d ?_|refine z0g ?_|refine z0p ?_|refine z0f ?_|refine And.intro (by omega) ?_|simp (maxSteps:=1000000) (disch:=omega) only [cA,cB,cN,FnD.nb,lk,lkH,Dst.onT,Dst.onX,Dst.slot,z0W,z0N,z0I,z0X,z0u,z0V,unE,cnt,z0j,z0t,z0l,z0o,opE,rmH,z02,z0n,Nat.reduceEqDiff,Nat.reduceLT,Nat.reduceAdd,Nat.reduceMul,Nat.reduceMod,↓reduceIte,reduceCtorEq,Nat.reduceLeDiff,hck,hcx,l4,l5,n0,n1,n4,m1,m2,hll,d1,d0,dl,cS,List.drop_zero])
   exact z0i (z0h (.imm rfl))
def y5Q (k:Kx) (n:Int):Bool:=x1I k n && x8w k.le && k.ce.all (x0c k)
theorem y0p (k:Kx) (n:Int) (hk1:k.le.length≤1000000) (hk2:k.ce.length≤1000000) (hk:∀c∈k.ce,y9m c.va):z0c prog 170 [.agg (kxC k),.int .i64 n] (.bool (y5Q k n)):=by
 have hck:(DV.agg (kxC k)).cells? = some (kxC k):=rfl
 have l4:=z04 k
 have t4:(kxC k).take 4=kxC k:=rfl
 have m1:(kxC k).getD 1 .undef=.int .i64 k.kd:=rfl
 have m2:(kxC k).getD 2 .undef=.sl 1 (z0K k.le):=rfl
 have m3:(kxC k).getD 3 .undef=.sl 5 (cxs k.ce):=rfl
 have hll:=z0J k.le
 have hcl:(cxs k.ce).length / 5=k.ce.length:=by rw [z2x];omega
 have hcx:=z2x k.ce
 have hCa:(kxC k).all DV.rf=true:=List.all_eq_true.2 (z27 k)
 have hone:(kxC k).all DV.one=true:=List.all_eq_true.2 (y2w k)
 have cf:=fun c hc=>y7v k c (hk c hc)
 have hrfl:∀c:Tc,List.all [DV.agg (kxC k),DV.agg (cxC c)] DV.rf=true:=fun c=>by simp [DV.rf_agg,hCa,List.all_eq_true.2 (z8M c)]
 generalize hC:kxC k=C at *
 obtain ⟨b1,d1⟩:∃b,decide (k.kd=1)=b:=⟨_,rfl⟩
 obtain ⟨b2,d2⟩:∃b,decide (k.kd=2)=b:=⟨_,rfl⟩
 obtain ⟨bl,dl⟩:∃b,decide (0<k.le.length)=b:=⟨_,rfl⟩
 obtain ⟨bm,dm⟩:∃b,decide (k.le.length≤32)=b:=⟨_,rfl⟩
 obtain ⟨bn,dn⟩:∃b,decide ((k.ce.length:Int)=n)=b:=⟨_,rfl⟩
 have e1:decide (¬k.kd=1)=!b1:=by rw [←d1];simp
 have e2:decide (¬k.kd=2)=!b2:=by rw [←d2];simp
 have el:decide ((0:Int)<(k.le.length:Int))=bl:=by rw [←dl];exact decide_eq_decide.2 (by omega)
 have em:decide ((32:Int)<(k.le.length:Int))=!bm:=by rw [←dm];by_cases h:k.le.length≤32<;>simp [h]<;>omega
 have en:decide (¬(k.ce.length:Int)=n)=!bn:=by rw [←dn];simp
 refine z0b x0H (by simp [y1a]) ?_
 unfold z7o y5Q
 have hsh:x1I k n=((b1 || b2) && !(b1 && bl) && bm && bn):=by unfold x1I;rw [d1,d2,dl,dm,dn]
 rw [hsh]
 by_cases hb:((b1 || b2) && !(b1 && bl) && bm && bn)=true
 ·rw [hb,Bool.true_and]
  have hbn:bn=true:=by cases bn<;>simp_all
  have hn:(k.ce.length:Int)=n:=by rw [hbn] at dn;exact of_decide_eq_true dn
  cases b1<;>cases b2<;>cases bl<;>cases bm<;>cases bn
  all_goals first
   | (exact absurd hb (by decide))
   | skip
  all_goals
   clear hb hsh hbn
   refine zS (zA hck (zA hone (zA l4 (zA m1 (zA m2 (zA m3 (zA hll (zA hcl (zA d1 (zA e1 (zA e2 (zA el (zA em (zA en (zA @cS (zA @Bool.not_true @Bool.not_false)))))))))))))))) ?_
   refine wFs ?_
   clear d1 d2 dl dm dn e1 e2 el em en
   refine zR ?_
   refine z0x (σ:=Nat) (fun i=>[(1,.int .i64 n),(2,.ptr 2 0),(5,.int .i64 i)]) (fun _=>[(2,C)]) (fun i=>i≤k.le.length∧∀j,j<i→ixS (k.le.take j) (k.le.getD j [])<0) (fun i=>k.le.length - i) 0 ⟨Nat.zero_le _,by simp⟩ ?_ rfl ?_
   ·simp [z0y,lk]
   ·rintro i ⟨hi,hall⟩
    try simp only at hi hall ⊢
    by_cases hlt:i<k.le.length
    ·have dl:decide ((i:Int)<(k.le.length:Int))=true:=zT9
     have ei:(i:Int).toNat=i:=Int.toNat_natCast i
     have e1:((i:Int)+1)=((i+1:Nat):Int):=by omega
     have hg:=z1j hlt
     have hts:(z0K k.le).take i=z0K (k.le.take i):=by unfold z0K;rw [List.map_take]
     have cx:=z7S (k.le.take i) (k.le.getD i []) (by rw [List.length_take];omega)
     have hno:=@x2m k.le i hlt
     generalize hT:z0K (k.le.take i)=T at *
     refine zS (zA l4 (zA m2 (zA hll dl))) ?_
     refine wTs ?_
     refine zS (zA ei (zA hg (zA hll (zA l4 (zA m2 (zA hts (zA @Nat.mul_one (zA @Nat.zero_mul (zA @List.drop_zero.{0} @Nat.div_one))))))))) ?_
     refine cP cx ?_
     by_cases hx:ixS (k.le.take i) (k.le.getD i [])<0
     ·have dx:decide (0≤ixS (k.le.take i) (k.le.getD i []))=false:=zF9
      refine zS dx ?_
      refine wFs ?_
      refine zS e1 ?_
      exact ⟨i+1,⟨by omega,fun j hj=>by
       rcases Nat.lt_or_ge j i with h2|h2
       ·exact hall j h2
       ·obtain rfl:j=i:=by omega
        exact hx⟩,by omega,by simp [z0y,lk]⟩
     ·have dx:decide (0≤ixS (k.le.take i) (k.le.getD i []))=true:=zT9
      rw [hno hx,Bool.false_and]
      refine zS dx ?_
      refine wT ?_
      refine zR ?_
      exact z0i (z0h (.imm rfl))
    ·have dl:decide ((i:Int)<(k.le.length:Int))=false:=zF9
     rw [y8o fun j hj=>hall j (by omega),Bool.true_and]
     refine zS (zA l4 (zA m2 (zA hll dl))) ?_
     refine z0m rfl (fun h=>by cases h) (fun _=>z0s ?_)
     refine zR ?_
     refine z0x (σ:=Nat) (fun i=>[(1,.int .i64 n),(2,.ptr 2 0),(6,.int .i64 i)]) (fun _=>[(2,C)]) (fun i=>i≤k.ce.length∧∀j,j<i→x0c k (k.ce.getD j default)=true) (fun i=>k.ce.length - i) 0 ⟨Nat.zero_le _,by simp⟩ ?_ rfl ?_
     ·simp [z0y,lk]
     ·rintro i ⟨hi,hall⟩
      try simp only at hi hall ⊢
      by_cases hlt:i<k.ce.length
      ·have dl:decide ((i:Int)<n)=true:=zT9
       have ei:(i:Int).toNat=i:=Int.toNat_natCast i
       have e1:((i:Int)+1)=((i+1:Nat):Int):=by omega
       have hw:((cxs k.ce).drop (i*5)).take 5=cxC (k.ce.getD i default):=z1x (j:=0) z1T default hlt (Nat.le_refl _)
       have cc:=cf _ (z7E hlt)
       have hno:=fun h=>x8p (p:=x0c k) hlt h
       refine zS dl ?_
       refine wTs ?_
       refine zS (zA ei (zA l4 (zA t4 (zA m3 (zA hcx (zA hw (zA @cS @List.drop_zero.{0}))))))) ?_
       refine z0L cc (hrfl _) ?_
       cases hx:x0c k (k.ce.getD i default)
       ·rw [hno hx]
        refine zR ?_
        refine wT ?_
        refine zR ?_
        exact z0i (z0h (.imm rfl))
       ·refine zR ?_
        refine wFs ?_
        refine zS e1 ?_
        exact ⟨i+1,⟨by omega,fun j hj=>by
         rcases Nat.lt_or_ge j i with h2|h2
         ·exact hall j h2
         ·obtain rfl:j=i:=by omega
          exact hx⟩,by omega,by simp [z0y,lk]⟩
      ·have dl:decide ((i:Int)<n)=false:=zF9
       rw [x1V (p:=x0c k) fun j hj=>hall j (by omega)]
       refine zS dl ?_
       refine z0m rfl (fun h=>by cases h) (fun _=>z0s ?_)
       refine zR ?_
       exact z0i (z0h (.imm rfl))
 ·have hb':=Bool.eq_false_iff.2 hb
  rw [hb',Bool.false_and,Bool.false_and]
  cases b1<;>cases b2<;>cases bl<;>cases bm<;>cases bn
  all_goals first
   | (exact absurd rfl hb)
   | skip
  all_goals
   refine zS (zA hck (zA hone (zA l4 (zA m1 (zA m2 (zA m3 (zA hll (zA hcl (zA d1 (zA e1 (zA e2 (zA el (zA em (zA en (zA @cS (zA @Bool.not_true @Bool.not_false)))))))))))))))) ?_
   refine wT ?_
   refine zR ?_
   exact z0i (z0h (.imm rfl))
def x8b (n:Int) (S:List Kx):Bool:=decide (0≤n) && decide (n≤1024) && decide (S.length≤32) && (S.all fun k=>y5Q k n) && z50 (z1y S)
theorem z7T (n:Int) (S:List Kx) (h:okT S):z0c prog 92 [.agg [.int .i64 n,.sl 4 (kxs S)]] (.bool (x8b n S)):=by
 obtain ⟨hl,hk⟩:=h
 have hln:(kxs S).length / 4=S.length:=by rw [z16];omega
 have hlen:=z16 S
 have hca:(DV.agg [.int .i64 n,.sl 4 (kxs S)]).cells? = some [.int .i64 n,.sl 4 (kxs S)]:=rfl
 have c2:=y3h (z1y S) (by rw [z1d];omega) (fun s hs=>by
  unfold z1y at hs
  obtain ⟨f,hf,rfl⟩:=List.mem_map.1 hs
  exact (hk f hf).1)
 refine z0b x6Z (by simp [y8E]) ?_
 unfold y0O x8b
 by_cases g0:¬0≤n
 ·have d0:decide (n<0)=true:=zT9
  rw [decide_eq_false g0]
  refine zS (zA hca (zA @cS (zA hln d0))) ?_
  refine wT ?_
  refine zR ?_
  exact z0i (z0h (.imm rfl))
 replace g0:=Classical.not_not.1 g0
 have d0:decide (n<0)=false:=zF9
 by_cases g1:¬n≤1024
 ·have d1:decide (1024<n)=true:=zT9
  rw [decide_eq_false g1,Bool.and_false]
  refine zS (zA hca (zA @cS (zA hln (zA d0 d1)))) ?_
  refine wT ?_
  refine zR ?_
  exact z0i (z0h (.imm rfl))
 replace g1:=Classical.not_not.1 g1
 have d1:decide (1024<n)=false:=zF9
 by_cases g2:¬S.length≤32
 ·have d2:decide ((32:Int)<(S.length:Int))=true:=zT9
  rw [decide_eq_false g2,Bool.and_false]
  refine zS (zA hca (zA @cS (zA hln (zA d0 (zA d1 d2))))) ?_
  refine wT ?_
  refine zR ?_
  exact z0i (z0h (.imm rfl))
 replace g2:=Classical.not_not.1 g2
 have d2:decide ((32:Int)<(S.length:Int))=false:=zF9
 rw [decide_eq_true g0,decide_eq_true g1,decide_eq_true g2,Bool.true_and,Bool.true_and,Bool.true_and]
 refine zS (zA hca (zA @cS (zA hln (zA d0 (zA d1 d2))))) ?_
 refine wFs ?_
 refine zR ?_
 refine z36 3 1 200 rfl (by simp [lkH]) ?_
 refine zR ?_
 refine z0x (σ:=Nat) (fun i=>[(1,.ptr 1 0),(3,.osl 1 200 0 i),(4,.int .i64 i)]) (fun i=>[(1,[.int .i64 n,.sl 4 (kxs S)]),(200,z0K ((z1y S).take i))]) (fun i=>i≤S.length∧∀j,j<i→y5Q (S.getD j default) n=true) (fun i=>S.length - i) 0 ⟨Nat.zero_le _,by simp⟩ ?_ rfl ?_
 ·simp [z0y,lk]
 ·rintro i ⟨hi,hall⟩
  try simp only at hi hall ⊢
  by_cases hlt:i<S.length
  ·have dl:decide ((i:Int)<(S.length:Int))=true:=zT9
   have ei:(i:Int).toNat=i:=Int.toNat_natCast i
   have e1:((i:Int)+1)=((i+1:Nat):Int):=by omega
   have hg0:(kxs S).getD (i*4) .undef=.str (S.getD i default).nm:=y6c (j:=0) z04 default hlt (by decide) .undef
   have hw:((kxs S).drop (i*4)).take 4=kxC (S.getD i default):=z1x (j:=0) z04 default hlt (Nat.le_refl _)
   have htk:z0K ((z1y S).take i)++[.str (S.getD i default).nm]=z0K ((z1y S).take (i+1)):=by
    unfold z0K
    rw [List.take_add_one,List.map_append]
    unfold z1y
    rw [List.getElem?_map,zO4 hlt,zO1,zO4 hlt]
    rfl
   have hl1:(z0K ((z1y S).take i)).length=i:=by rw [z0J,List.length_take,z1d];omega
   have hpg:=z0k 200 (List.all_eq_true.1 (z9T ((z1y S).take (i+1))))
   have hm:=hk _ (z7E hlt)
   have cc:=y0p (S.getD i default) n hm.2.1 hm.2.2.1 hm.2.2.2
   have hno:=fun h=>x8p (p:=fun k=>y5Q k n) hlt h
   have hnx:y5Q (S.getD i default) n=true→∀j,j<i+1→y5Q (S.getD j default) n=true:=fun h j hj=>by
    rcases Nat.lt_or_ge j i with h2|h2
    ·exact hall j h2
    ·obtain rfl:j=i:=by omega
     exact h
   have hca:List.all [DV.agg (kxC (S.getD i default)),.int .i64 n] DV.rf=true:=by rw [List.all_cons,List.all_cons,DV.rf_agg,List.all_eq_true.2 (z27 _)];rfl
   generalize z0K ((z1y S).take i)=Y at *
   generalize hZ:z0K ((z1y S).take (i+1))=Z at *
   generalize S.getD i default=k at *
   have q1:purge 200 (.ptr 1 0)=.ptr 1 0:=by simp [purge,DV.has]
   refine zS (zA @cS (zA dl hln)) ?_
   refine wTs ?_
   refine zS (zA @cS (zA ei (zA hlen hg0))) ?_
   refine ⟨by simp [DV.rf],⟨hl1,by omega,by omega,fun h=>h,by simp [DV.one]⟩,?_⟩
   rw [htk,hpg]
   refine zS (zA q1 (zA @cS (zA ei (zA hlen hw)))) ?_
   refine z0L cc hca ?_
   cases hb:y5Q k n
   ·rw [hno hb,Bool.false_and]
    refine zR ?_
    refine wT ?_
    refine zR ?_
    exact z0i (z0h (.imm rfl))
   ·refine zR ?_
    refine wFs ?_
    refine zS e1 ?_
    exact ⟨i+1,⟨by omega,hnx hb⟩,by omega,by simp [z0y,lk],by rw [hZ]⟩
  ·have dl:decide ((i:Int)<(S.length:Int))=false:=zF9
   obtain rfl:i=S.length:=by omega
   have htl:(z1y S).take S.length=z1y S:=List.take_of_length_le (by rw [z1d];exact Nat.le_refl _)
   rw [htl,x1V (p:=fun k=>y5Q k n) fun j hj=>hall j hj,Bool.true_and]
   have hrf:=z9T (z1y S)
   have hsl:(z0K (z1y S)).length=S.length:=by rw [z0J,z1d]
   refine z0H 200 (cells:=z0K (z1y S)) rfl hrf ?_
   have hfz:frz 200 (z0K (z1y S)) (.osl 1 200 0 S.length)=.sl 1 (z0K (z1y S)):=by
    simp [frz,hsl]
    rw [List.take_of_length_le (by omega)]
   have q2:frz 200 (z0K (z1y S)) (.ptr 1 0)=.ptr 1 0:=by simp [frz,purge,DV.has]
   refine zS (zA @cS (zA dl (zA hln (zA hfz q2)))) ?_
   refine z0m rfl (fun h=>by cases h) (fun _=>z0s ?_)
   refine zR ?_
   refine cP c2 ?_
   refine zR ?_
   exact z0i (z0h (.imm rfl))
theorem y9g (k:Int) (n:Nat) (hn:0<n) (hn2:n≤1000000):z0c prog 11 [.int .i64 k,.int .i64 n] (.int .i64 (k % n)):=by
 obtain ⟨h1,h2,h3,h4⟩:=w6y k hn
 have hne:(n:Int)≠0:=by omega
 refine z0b w0m (by simp [x2K]) ?_
 unfold y3H
 by_cases h:k.tmod n<0
 ·have d:decide (k.tmod n<0)=true:=decide_eq_true h
  rw [←h3 h]
  refine zS d ?_
  refine wT ?_
  refine zR ?_
  exact z0i (z0h (.imm rfl))
 ·have d:decide (k.tmod n<0)=false:=decide_eq_false h
  rw [←h4 h]
  refine zS d ?_
  refine wFs ?_
  refine zR ?_
  exact z0i (z0h (.imm rfl))
theorem x6b:z0U prog 150:=⟨_,func150,by kernel_rfl,by kernel_rfl⟩
theorem z71 (k:Kx) (r:Nat) (hr:r<k.ce.length) (hl:k.ce.length≤1000000):z0c prog 150 [.agg (kxC k),.el [.int .i64 r] 0] (.bool (y5R r k)):=by
 have hck:(DV.agg (kxC k)).cells? = some (kxC k):=rfl
 have l4:=z04 k
 have m3:(kxC k).getD 3 .undef=.sl 5 (cxs k.ce):=rfl
 have hcx:=z2x k.ce
 have er:(r:Int).toNat=r:=Int.toNat_natCast r
 have hg:(cxs k.ce).getD (r*5) .undef=.bool (k.ce.getD r default).mi:=y6c (j:=0) z1T default hr (by decide) .undef
 refine z0b y4G (by simp [z7v]) ?_
 unfold z4X y5R
 generalize (k.ce.getD r default).mi=b at *
 repeat (first|refine z0d ?_|refine z0g ?_|refine z0p ?_|refine z0f ?_|refine And.intro (by omega) ?_|simp (maxSteps:=1000000) (disch:=omega) only [cA,cB,cN,FnD.nb,lk,lkH,Dst.onT,Dst.onX,Dst.slot,z0W,z0N,z0I,z0X,z0u,z0V,unE,cnt,z0j,z0t,z0l,z0o,opE,rmH,z02,z0n,Nat.reduceEqDiff,Nat.reduceLT,Nat.reduceAdd,Nat.reduceMul,Nat.reduceMod,↓reduceIte,reduceCtorEq,Nat.reduceLeDiff,hck,l4,m3,er,hcx,hg,cS,List.drop_zero])
 exact z0i (z0h (.imm rfl))
theorem z9V (n:Nat) (S:List Kx) (names:List Bs) (h:okT S) (hv:x1J n S=true) (hnl:names.length≤1000000) (hn:∀s∈names,0≤ixS (z1y S) s) (hce:∀k∈S,k.ce.length=n) (hn2:n≤1000000) :
  z0c prog 77 [.agg [.int .i64 n,.sl 4 (kxs S)],.sl 1 (z0K names)] (.tup [.sl 1 (ints (z00 (z1W S names) n)),.int .i64 0]):=by
 have hll:=z0J names
 have hln:(kxs S).length / 4=S.length:=by rw [z16];omega
 have hlen:=z16 S
 have hca:(DV.agg [.int .i64 n,.sl 4 (kxs S)]).cells? = some [.int .i64 n,.sl 4 (kxs S)]:=rfl
 have c1:=z6W n S h
 rw [hv] at c1
 have c2:=z21 n S h.1
 refine z0b y6D (by simp [z9f]) ?_
 unfold z5J
 refine zS (zA hca @cS) ?_
 refine cP c1 ?_
 refine zR ?_
 refine wFs ?_
 refine zR ?_
 refine z36 6 4 300 rfl (by simp [lkH]) ?_
 refine zS hll ?_
 refine z0x (σ:=Nat) (fun i=>[(2,.ptr 2 0),(6,.osl 4 300 0 i),(15,.sl 1 (z0K names)),(16,.int .i64 names.length),(17,.int .i64 i)]) (fun i=>[(2,[.int .i64 n,.sl 4 (kxs S)]),(300,kxs (z1W S (names.take i)))]) (fun i=>i≤names.length) (fun i=>names.length - i) 0 (Nat.zero_le _) ?_ rfl ?_
 ·simp [z0y,lk]
 ·intro i hi
  try simp only at hi ⊢
  have hul:(z1W S (names.take i)).length=i:=by unfold z1W;rw [List.length_map,List.length_take];omega
  have hux:=z16 (z1W S (names.take i))
  rw [hul] at hux
  by_cases hlt:i<names.length
  ·have dl:decide ((i:Int)<(names.length:Int))=true:=zT9
   have ei:(i:Int).toNat=i:=Int.toNat_natCast i
   have e1:((i:Int)+1)=((i+1:Nat):Int):=by omega
   have hg:=z1j hlt
   have hs0:=hn _ (z1O hlt)
   have hbd:=y1k (names.getD i []) (z1y S)
   rw [z1d] at hbd
   have c3:=z3k (z1y S) (names.getD i []) (by rw [z1d];have:=h.1;omega)
   have htk:z1W S (names.take (i+1))=z1W S (names.take i)++[S.getD (ixS (z1y S) (names.getD i [])).toNat default]:=by
    unfold z1W
    rw [z0z [] hlt,List.map_append];rfl
   generalize names.getD i []=s at *
   obtain ⟨j,hj⟩:∃j:Nat,ixS (z1y S) s=j:=⟨(ixS (z1y S) s).toNat,by omega⟩
   rw [hj] at htk hbd c3
   have ej:(j:Int).toNat=j:=Int.toNat_natCast j
   rw [ej] at htk
   have dj:decide ((j:Int)<0)=false:=zF9
   have hjl:j<S.length:=by omega
   have hw:((kxs S).drop (j*4)).take 4=kxC (S.getD j default):=z1x (j:=0) z04 default hjl (Nat.le_refl _)
   have hsn:kxs (z1W S (names.take i))++kxC (S.getD j default)=kxs (z1W S (names.take (i+1))):=by rw [htk];exact y17 _ _
   have hcl:=z04 (S.getD j default)
   have hcr:=z27 (S.getD j default)
   have hco:=y2w (S.getD j default)
   have hlk:laid [DV.str [],.int .i64 0,.nils,.nils] [(0,4,.agg (kxC (S.getD j default)))]=some (kxC (S.getD j default)):=rfl
   have hpg:=z0k 300 (x84 (z1W S (names.take (i+1))))
   generalize kxC (S.getD j default)=C at *
   have q2:∀z,purge 300 (.ptr 2 z)=.ptr 2 z:=fun z=>by simp [purge,DV.has]
   refine zS dl ?_
   refine wTs ?_
   refine zS (zA ei (zA hll (zA hg @cS))) ?_
   refine cP c2 ?_
   refine zR ?_
   refine cP c3 ?_
   refine zS dj ?_
   refine wFs ?_
   refine zS (zA ej (zA hlen (zA hw (zA @cS hlk)))) ?_
   refine ⟨⟨hux,by omega,by omega,fun h=>h,hco⟩,?_⟩
   rw [hsn,hpg,hcl]
   refine zS (zA q2 e1) ?_
   exact ⟨i+1,by omega,by omega,by simp [z0y,lk],rfl⟩
  ·have dl:decide ((i:Int)<(names.length:Int))=false:=zF9
   obtain rfl:i=names.length:=by omega
   rw [List.take_length] at hul hux ⊢
   have hU:∀k∈z1W S names,k.ce.length=n:=fun k hk=>by
    unfold z1W at hk
    obtain ⟨s,hs,rfl⟩:=List.mem_map.1 hk
    have hbd:=y1k s (z1y S)
    rw [z1d] at hbd
    have:=hn s hs
    exact hce _ (z7E (by omega))
   generalize z1W S names=U at *
   have hUr:=x84 U
   refine z0H 300 (cells:=kxs U) rfl (List.all_eq_true.2 hUr) ?_
   have hfz:frz 300 (kxs U) (.osl 4 300 0 names.length)=.sl 4 (kxs U):=by
    simp [frz,hux]
    rw [List.take_of_length_le (by omega)]
   have f2:frz 300 (kxs U) (.ptr 2 0)=.ptr 2 0:=by simp [frz,purge,DV.has]
   refine zS (zA dl (zA hfz (zA f2 @cS))) ?_
   refine z0m rfl (fun h=>by cases h) (fun _=>z0s ?_)
   refine zR ?_
   refine z36 10 1 301 rfl (by simp [lkH]) ?_
   refine zS @cS ?_
   refine z0x (σ:=Nat) (fun i=>[(2,.ptr 2 0),(6,.sl 4 (kxs U)),(10,.osl 1 301 0 (z00 U i).length),(37,.int .i64 n),(38,.int .i64 i)]) (fun i=>[(2,[.int .i64 n,.sl 4 (kxs S)]),(301,ints (z00 U i))]) (fun i=>i≤n) (fun i=>n - i) 0 (Nat.zero_le _) ?_ rfl ?_
   ·simp [z0y,lk,z00]
   ·intro i hi
    try simp only at hi ⊢
    have hRl:=z4F (z00 U i)
    have hRb:=z79 U i
    by_cases hlt:i<n
    ·have dl:decide ((i:Int)<(n:Int))=true:=zT9
     have e1:((i:Int)+1)=((i+1:Nat):Int):=by omega
     have cc:=z59 U (by omega) (y5R i) (.clo 150 [.el [.int .i64 i] 0]) 150 [.el [.int .i64 i] 0] (.inl rfl) (by simp [DV.rf]) rfl x6b (fun k hk=>z71 k i (by rw [hU k hk];exact hlt) (by rw [hU k hk];omega))
     have hry:=@y5q U i
     have hrn:=@y9D U i
     have hpg:=z0k 301 (z5e (z00 U i++[i]))
     have hsn:ints (z00 U i)++[.int .i64 i]=ints (z00 U i++[i]):=by unfold ints;rw [List.map_append];rfl
     have p2:purge 301 (.ptr 2 0)=.ptr 2 0:=by simp [purge,DV.has]
     have pe:∀l z,purge 301 (.el l z)=.el l z:=fun l z=>by simp [purge,DV.has]
     have f2:z2e 11 [.int .i64 i] (.ptr 2 0)=.ptr 2 0:=by simp [z2e]
     have f11:z2e 11 [.int .i64 i] (.ptr 11 0)=.el [.int .i64 i] 0:=by simp [z2e]
     have fo:∀n,z2e 11 [.int .i64 i] (.osl 1 301 0 n)=.osl 1 301 0 n:=fun n=>by simp [z2e,frz]
     have hfs:∀z xs,z2e 11 [.int .i64 i] (.sl z xs)=.sl z xs:=fun z xs=>by simp [z2e,frz,purge,DV.has]
     have hfi:∀k m,z2e 11 [.int .i64 i] (.int k m)=.int k m:=fun k m=>by simp [z2e,frz,purge,DV.has]
     have hfb:∀m,z2e 11 [.int .i64 i] (.bool m)=.bool m:=fun m=>by simp [z2e,frz,purge,DV.has]
     have hfm:=z1n 11 [.int .i64 i] (z5e (z00 U i))
     generalize hI:ints (z00 U i)=I0 at *
     refine zS dl ?_
     refine wTs ?_
     refine z0d ?_
     refine z0f ?_
     refine z0d ?_
     refine z0g ?_
     refine zE @cS ?_
     refine z1N 11 (cells:=[.int .i64 i]) rfl rfl ?_
     refine zS (zA f2 (zA f11 (zA fo (zA hfs (zA hfi (zA hfb (zA hfm @z3J))))))) ?_
     refine ⟨List.all_eq_true.1 rfl,?_⟩
     refine z0L cc (by simp [DV.rf]) ?_
     cases hm:U.any (y5R i)
     ·rw [←hry hm] at hsn hpg
      refine zR ?_
      refine wT ?_
      refine zS @cS ?_
      refine ⟨by simp [DV.rf],⟨hRl,by omega,by omega,fun h=>h,by simp [DV.one]⟩,?_⟩
      rw [hsn,hpg]
      refine zS (zA p2 (zA pe e1)) ?_
      exact ⟨i+1,by omega,by omega,by simp [z0y,lk,hry hm],rfl⟩
     ·refine zR ?_
      refine wFs ?_
      refine zS e1 ?_
      exact ⟨i+1,by omega,by omega,by simp [z0y,lk,hrn hm],by rw [hrn hm,hI]⟩
    ·have dl:decide ((i:Int)<(n:Int))=false:=zF9
     obtain rfl:i=n:=by omega
     have hIr:=z5e (z00 U i)
     refine z0H 301 (cells:=ints (z00 U i)) rfl (List.all_eq_true.2 hIr) ?_
     have hfz:frz 301 (ints (z00 U i)) (.osl 1 301 0 (z00 U i).length)=.sl 1 (ints (z00 U i)):=by
      simp [frz,hRl]
      rw [List.take_of_length_le (by omega)]
     have f2:frz 301 (ints (z00 U i)) (.ptr 2 0)=.ptr 2 0:=by simp [frz,purge,DV.has]
     refine zS (zA dl (zA hfz f2)) ?_
     refine z0m rfl (fun h=>by cases h) (fun _=>z0s ?_)
     refine zR ?_
     exact z0i (z2f (.imm rfl) (.imm rfl))
end Go.Proofs.YtlcagndeidjobaaGreatDoor
namespace Go.Proofs.YtlcagndeidjobaaGreatDoor
open Tryz
open Go Go.Dat Go.Proofs Go.RowKit Go.Shelf Nat32
theorem z3c (z:Int) (hz : -9223372036854775808≤z∧z≤9223372036854775807):z0c prog 30 [.int .i64 z] (.agg (xnC (qX (y2M z)))):=by
 have m1:=y9g z 61 (by decide) (by decide)
 have m2:=y9g (Int.tdiv z 61) 4 (by decide) (by decide)
 have b1:=Int.emod_nonneg z (show (61:Int)≠0 by decide)
 have b2:=Int.emod_lt_of_pos z (show (0:Int)<61 by decide)
 have b3:=Int.emod_nonneg (Int.tdiv z 61) (show (4:Int)≠0 by decide)
 have b4:=Int.emod_lt_of_pos (Int.tdiv z 61) (show (0:Int)<4 by decide)
 have cf:z0c prog 62 [.int .i64 (z % 61 - 30),.int .i64 (1+(Int.tdiv z 61) % 4)] (Q (y2M z)):=z9z (z % 61 - 30) (1+(Int.tdiv z 61) % 4) (by omega) (by omega) (by omega)
 have hq:Q (y2M z)=.agg (xnC (qX (y2M z))):=rfl
 rw [hq] at cf
 have hcc:(DV.agg (xnC (qX (y2M z)))).cells? = some (xnC (qX (y2M z))):=rfl
 have h3:(xnC (qX (y2M z))).length=3:=rfl
 have hrf:(DV.agg (xnC (qX (y2M z)))).rf=true:=rfl
 have htd : -9223372036854775808≤Int.tdiv z 61∧Int.tdiv z 61≤9223372036854775807:=by
  by_cases h:0≤z
  ·rw [Int.tdiv_eq_ediv_of_nonneg h];omega
  ·obtain ⟨n,hn⟩:∃n:Nat,z = -(n:Int):=⟨z.natAbs,by omega⟩
   rw [hn,Int.neg_tdiv,Int.tdiv_eq_ediv_of_nonneg (by omega)];omega
 refine z0b x0s (by simp [y01]) ?_
 unfold z69
 generalize xnC (qX (y2M z))=X at *
 have e61:((61:Nat):Int)=61:=rfl
 have e4:((4:Nat):Int)=4:=rfl
 rw [e61] at m1
 rw [e4] at m2
 refine zR ?_
 refine cP m1 ?_
 refine zR ?_
 refine cP m2 ?_
 refine zR ?_
 refine cP cf ?_
 refine zS (zA hcc (zA h3 @cS)) ?_
 exact z0i (z07 rfl rfl h3 (.imm hrf))
theorem y1J:∀ds r,kI (fun z=>some (Q (z:Rat))) ds=some r→z0c prog 80 ds r:=w0I fun z r h1 h2 h=>by cases h;exact z3e z h1 h2
theorem x1E:∀ds r,kI (fun z=>some (Q (z:Rat))) ds=some r→z0c prog 44 ds r:=w0I fun z r h1 h2 h=>by cases h;exact z43 z h1 h2
theorem x1D:∀ds r,kI (fun z=>some (.agg (xnC (qX (y2M z))))) ds=some r→z0c prog 30 ds r:=w0I fun z r h1 h2 h=>by cases h;exact z3c z ⟨h1,h2⟩
theorem w2k:∀ds r,k1 (fun x=>if smX 9000 x then some (.int .i64 (xnV x).num.sign) else none) ds=some r→z0c prog 234 ds r:=w3U fun x r l1 l2 h=>by
 split at h
 ·rename_i hs;cases h;obtain ⟨g1,g2⟩:=z7Q hs;exact z9E _ _ _ g1 g2 l1 l2
 ·cases h
theorem x8j:∀ds r,k1 (fun x=>if smX 9000 x then some (.bool (z5n x.1 x.2.1 x.2.2)) else none) ds=some r→z0c prog 158 ds r:=w3U fun x r l1 l2 h=>by
 split at h
 ·rename_i hs;cases h;obtain ⟨g1,g2⟩:=z7Q hs;exact z4r _ _ _ g1 g2 l1 l2
 ·cases h
theorem w5l:∀ds r,k2 (fun x y=>if smX 4400 x && smX 4400 y then some (Q (xnV x+xnV y)) else none) ds=some r→z0c prog 38 ds r:=w0H fun x y r l1 l2 l3 l4 h=>by
 split at h
 ·rename_i hs
  cases h
  rw [Bool.and_eq_true] at hs
  obtain ⟨g1,g2⟩:=z7Q hs.1
  obtain ⟨g3,g4⟩:=z7Q hs.2
  exact y1B _ _ _ _ _ _ g1 g2 g3 g4 l1 l2 l3 l4
 ·cases h
theorem w5m:∀ds r,k2 (fun x y=>if smX 4400 x && smX 4400 y then some (Q (xnV x*xnV y)) else none) ds=some r→z0c prog 157 ds r:=w0H fun x y r l1 l2 l3 l4 h=>by
 split at h
 ·rename_i hs
  cases h
  rw [Bool.and_eq_true] at hs
  obtain ⟨g1,g2⟩:=z7Q hs.1
  obtain ⟨g3,g4⟩:=z7Q hs.2
  exact y1C _ _ _ _ _ _ g1 g2 g3 g4 l1 l2 l3 l4
 ·cases h
theorem w2j:∀ds r,k2 (fun x y=>if smX 9000 x && smX 9000 y && decide (x=qX (xnV x)) && decide (y=qX (xnV y)) then some (.bool (decide (xnV x=xnV y))) else none) ds=some r→z0c prog 29 ds r:=w0H fun x y r l1 l2 l3 l4 h=>by
 split at h
 ·rename_i hs
  cases h
  simp only [Bool.and_eq_true,decide_eq_true_eq] at hs
  obtain ⟨⟨⟨s1,s2⟩,e1⟩,e2⟩:=hs
  obtain ⟨g1,g2⟩:=z7Q s1
  obtain ⟨g3,g4⟩:=z7Q s2
  have:=w4N (xnV x) (xnV y) (z48 l1 l2 g1 g2 (by decide)) (z48 l3 l4 g3 g4 (by decide))
  have q1:Q (xnV x)=.agg (xnC x):=by
   have h0:Q (xnV x)=.agg (xnC (qX (xnV x))):=rfl
   rw [h0,←e1]
  have q2:Q (xnV y)=.agg (xnC y):=by
   have h0:Q (xnV y)=.agg (xnC (qX (xnV y))):=rfl
   rw [h0,←e2]
  rw [q1,q2] at this
  exact this
 ·cases h
end Go.Proofs.YtlcagndeidjobaaGreatDoor
namespace Go.Proofs.YtlcagndeidjobaaGreatDoor
open Tryz
open Go Go.Dat Go.Proofs Go.RowKit Nat32
theorem x6C {F:FnD} {os:List DOper} {dst:Dst} {te fr:Fr} {H:Hp} {K:Fr→Fr→Hp→Prop} (sz:Nat) (z:List DV) (x:Opd):goW F os dst te fr H K (.clr sz z x)=z0Q F os dst te fr H K (opE F.nb dst.slot (ev te fr) (lkH H) (.clr sz z x)):=rfl
theorem y7G {k z o:Nat} {X:List DV} {c:List DV} {fr:Fr} {H:Hp} (ho:o<1048576) (hd:lk fr k=.sl z X):x9x [.t k] [(o,c)] (fun r H'=>r=.sl z X∧H'=[]) .ret fr H:=by
 refine ⟨.inr rfl,[.sl z X],.sl z X,[],⟨rfl,rfl⟩,fun p hp h=>?_,by simp [z4u,z9H,hd],by simp only [y4Y];exact z5k _ _ rfl,fun p c h=>by cases h⟩
 simp only [lkH] at h
 rw [if_neg (by omega)] at h;cases h
theorem y27 (l:List Fac) (hl:l.length≤1000000) (p:Fac→Bool) (v:DV) (g:Nat) (cs:List DV) (hv:z6K v g cs) (hcs:cs.all DV.rf=true) (hg:z0U prog g) (hc:∀f∈l,z0c prog g ([.agg (fcC f)]++cs) (.bool (p f))):z0c prog 242 [.sl 2 (fcs l),v] (.int .i64 (ixP p l)):=by
 have hln:(fcs l).length / 2=l.length:=by rw [z5a];omega
 have hlen:=z5a l
 refine z0b x34 (by simp [y4m]) ?_
 unfold z8G
 refine zS hln ?_
 refine z0x (σ:=Nat) (fun i=>[(0,.sl 2 (fcs l)),(1,v),(7,.int .i64 l.length),(8,.int .i64 i)]) (fun _=>[]) (fun i=>i≤l.length∧∀j,j<i→p (l.getD j default)=false) (fun i=>l.length - i) 0 ⟨Nat.zero_le _,by simp⟩ ?_ rfl ?_
 ·simp [z0y,lk]
 ·rintro i ⟨hi,hall⟩
  try simp only at hi hall ⊢
  by_cases hlt:i<l.length
  ·have dl:decide ((i:Int)<(l.length:Int))=true:=zT9
   have ei:(i:Int).toNat=i:=Int.toNat_natCast i
   have e1:((i:Int)+1)=((i+1:Nat):Int):=by omega
   have hw:((fcs l).drop (i*2)).take 2=fcC (l.getD i default):=z1x (j:=0) z2S default hlt (Nat.le_refl _)
   have cf:=hc _ (z7E hlt)
   have hb6:i*2+2≤(fcs l).length:=by omega
   refine zS dl ?_
   refine wTs ?_
   refine z0d ?_
   refine z0f ?_
   refine z0d ?_
   refine z0g ?_
   refine zD ?_
   refine z0d ?_
   refine z3B [om 11 1,om 12 0,om 13 5,ot 14 (.iad 2 (.t 12) (.t 13)),ot 15 (.ldn 2 (.t 14))] [] (.x 16) (.t 11) [.t 15] rfl ?_
   refine zE (zA ei (zA hlen hw)) ?_
   refine ⟨⟨by omega,by omega⟩,by omega,g,cs,hv,hg,z1E cf (by rw [List.all_append,hcs];rfl) ?_⟩
   cases hp:p (l.getD i default)
   ·have hnx:∀j,j<i+1→p (l.getD j default)=false:=fun j hj=>by
     rcases Nat.lt_or_ge j i with h|h
     ·exact hall j h
     ·obtain rfl:j=i:=by omega
      exact hp
    refine zR ?_
    refine wFs ?_
    refine zS e1 ?_
    exact ⟨i+1,⟨by omega,hnx⟩,by omega,by simp [z0y,lk]⟩
   ·have hx:=y4I default hlt hp hall
    rw [hx]
    refine zR ?_
    refine wT ?_
    refine zR ?_
    exact z0i (z0h (.imm rfl))
  ·have dl:decide ((i:Int)<(l.length:Int))=false:=zF9
   rw [y4J default fun j hj=>hall j (by omega)]
   refine zS dl ?_
   refine z0m rfl (fun h=>by cases h) (fun _=>z0s ?_)
   refine zR ?_
   exact z0i (z0h (.imm rfl))
theorem y7i (S:List Fac) (hl:S.length≤1000000) (p:Fac→Bool) (v:DV) (g:Nat) (cs:List DV) (hv:z6K v g cs) (hcs:cs.all DV.rf=true) (hvr:v.rf=true) (hg:z0U prog g) (hc:∀f,z0c prog g ([.agg (fcC f)]++cs) (.bool (p f))) :
  y7E prog 214 [.osl 2 1000 0 S.length,v] [(1000,fcs S)] (fun r H'=>r=.sl 2 (fcs (S.filter fun x=>!p x))∧H'=[]):=by
 have ci:=y27 S hl p v g cs hv hcs hg fun f _=>hc f
 have hlen:=z5a S
 have hrl:=z8U S
 have hsq:[DV.osl 2 1000 0 S.length,v].map (slo 1000 (fcs S))=[.sl 2 (fcs S),v]:=by
  have h2:slo 1000 (fcs S) v=v:=by
   cases v<;>first|(cases hvr;done)|simp [slo,hvr]|rfl
  have h3:slo 1000 (fcs S) (.osl 2 1000 0 S.length)=.sl 2 (fcs S):=by
   simp [slo,hlen]
   rw [List.take_of_length_le (by omega)]
  rw [List.map_cons,List.map_cons,List.map_nil,h2,h3]
 have hv0:purge 7 v=v:=z1r 7 hvr
 have hv1:∀cs,frz 7 cs v=v:=fun cs=>by
  have:=z1n 7 cs (cs:=[v]) (by simpa using hvr)
  simpa using this
 have hb:=y84 p S
 have hneg:=@x4b _ p S
 have hzero:=fun k=>@x2y _ p default S k
 refine z8e x32 (by simp [y4k]) ?_
 unfold z8E
 generalize hK:ixP p S=K at *
 refine zR ?_
 refine y53 rfl 1000 ci rfl hrl hsq rfl ?_
 by_cases hk:K = -1
 ·have dk:decide (K = -1)=true:=decide_eq_true hk
  rw [hneg hk]
  refine zS dk ?_
  refine wT ?_
  refine z0H 1000 (cells:=fcs S) rfl (List.all_eq_true.2 hrl) ?_
  have hfz:frz 1000 (fcs S) (.osl 2 1000 0 S.length)=.sl 2 (fcs S):=by
   simp [frz,hlen]
   rw [List.take_of_length_le (by omega)]
  refine zS hfz ?_
  exact z0i (y7G (by decide) rfl)
 ·have dk:decide (K = -1)=false:=decide_eq_false hk
  obtain ⟨k,rfl⟩:∃k:Nat,K=k:=⟨K.toNat,by omega⟩
  have hF:=hzero k rfl
  refine zS dk ?_
  refine wFs ?_
  have e1:((k:Int)+1)=((k+1:Nat):Int):=by omega
  refine zS e1 ?_
  refine z0x (σ:=Nat × Nat × List Fac) (fun s=>[(0,.osl 2 1000 0 S.length),(1,v),(5,.int .i64 s.1),(6,.int .i64 s.2.1)]) (fun s=>[(1000,fcs s.2.2)]) (fun s=>x8A p S s.1 s.2.1 s.2.2) (fun s:Nat × Nat × List Fac=>S.length - s.2.1) (k,k+1,S) hF ?_ rfl ?_
  ·simp [z0y,lk]
  ·rintro ⟨i,j,A⟩ hI
   try simp only at hI ⊢
   have hAl:=hI.1
   have hij:=hI.2.1
   have hjl:=hI.2.2.1
   have hAx:=z5a A
   by_cases hlt:j<S.length
   ·have dl:decide ((j:Int)<(S.length:Int))=true:=zT9
    have ei:(i:Int).toNat=i:=Int.toNat_natCast i
    have ej:(j:Int).toNat=j:=Int.toNat_natCast j
    have e1:((i:Int)+1)=((i+1:Nat):Int):=by omega
    have e2:((j:Int)+1)=((j+1:Nat):Int):=by omega
    have hw:((fcs A).drop (j*2)).take 2=fcC (S.getD j default):=by
     rw [←x6t default hI hlt]
     exact z1x (j:=0) z2S default (by omega) (Nat.le_refl _)
    have hb4:j*2+2≤(fcs A).length:=by omega
    have hset:(fcs A).take (i*2)++fcC (S.getD j default)++(fcs A).drop (i*2+2)=fcs (A.set i (S.getD j default)):=w3e z2S _ (by omega)
    have cf:=hc (S.getD j default)
    have hkeep:=x2w default hI hlt
    have hskip:=x2x default hI hlt
    have hcc:(DV.agg (fcC (S.getD j default))).cells? = some (fcC (S.getD j default)):=rfl
    have hcl:=z2S (S.getD j default)
    have htk:(fcC (S.getD j default)).take 2=fcC (S.getD j default):=rfl
    have hCrf:=x8z (S.getD j default)
    have hCa:(fcC (S.getD j default)).all DV.rf=true:=List.all_eq_true.2 hCrf
    generalize hX:S.getD j default=x at *
    generalize hC:fcC x=C at *
    refine zS dl ?_
    refine wTs ?_
    refine z0d ?_
    refine z0f ?_
    refine z0d ?_
    refine z0g ?_
    refine zE (zA ei (zA ej (zA hAx (zA hw (zA hcc (zA hcl (zA htk (zA @List.drop_zero.{0} @cS)))))))) ?_
    refine ⟨⟨by omega,by omega⟩,by omega,?_⟩
    refine z0d ?_
    refine z3B [om 26 1,ot 27 (.ldn 2 (.x 7))] [ox 29 (.un .not (.t 28))] (.t 28) (.t 26) [.t 27] rfl ?_
    refine zE (zA ei (zA ej (zA hAx (zA hw (zA hcc (zA hcl (zA htk (zA @List.drop_zero.{0} @cS)))))))) ?_
    refine ⟨g,cs,hv,hg,z1E cf (by simp only [List.cons_append,List.nil_append,List.all_cons,DV.rf_agg,hCa,hcs,Bool.and_self]) ?_⟩
    cases hp:p x
    ·refine zR ?_
     refine wT ?_
     have hf1:=z1n 7 C (z8U (A.set i x))
     refine z0d ?_
     refine z0g ?_
     refine zE (zA ei (zA ej (zA hAx (zA hw (zA hcc (zA hcl (zA htk (zA @List.drop_zero.{0} @cS)))))))) ?_
     refine ⟨⟨by omega,by omega⟩,by omega,?_⟩
     rw [hset]
     refine z0H 7 (cells:=C) rfl hCa ?_
     refine zS (zA e1 (zA e2 (zA hf1 hv1))) ?_
     exact ⟨(i+1,j+1,A.set i x),hkeep hp,by show S.length - (j+1)<S.length - j;omega,by simp [z0y,lk,z1F],rfl⟩
    ·refine zR ?_
     refine wFs ?_
     have hf1:=z1n 7 C (z8U A)
     refine z0H 7 (cells:=C) rfl hCa ?_
     refine zS (zA e2 (zA hf1 hv1)) ?_
     exact ⟨(i,j+1,A),hskip hp,by show S.length - (j+1)<S.length - j;omega,by simp [z0y,lk,z1F],rfl⟩
   ·have dl:decide ((j:Int)<(S.length:Int))=false:=zF9
    obtain rfl:j=S.length:=by omega
    have hend:=x6s hI
    have ei:(i:Int).toNat=i:=Int.toNat_natCast i
    refine zS dl ?_
    refine z0m rfl (fun h=>by cases h) (fun _=>z0s ?_)
    obtain ⟨hr1,hr2⟩:=w6n (S.length - i) (.str []) (.int .i64 0) rfl
    simp (maxSteps:=1000000) (disch:=omega) only [cA,cB,cN,FnD.nb,lk,lkH,Dst.onT,Dst.onX,Dst.slot,z0W,z0N,z0I,z0X,z0u,z0V,unE,cnt,z0j,z0t,z0l,z0o,opE,rmH,z02,z0n,Nat.reduceEqDiff,Nat.reduceLT,Nat.reduceAdd,Nat.reduceMul,Nat.reduceMod,↓reduceIte,reduceCtorEq,Nat.reduceLeDiff]
    refine z0d ?_
    refine z0g ?_
    simp (maxSteps:=1000000) (disch:=omega) only [cA,cB,cN,FnD.nb,lk,lkH,Dst.onT,Dst.onX,Dst.slot,z0W,z0N,z0I,z0X,z0u,z0V,unE,cnt,z0j,z0t,z0l,z0o,opE,rmH,z02,z0n,Nat.reduceEqDiff,Nat.reduceLT,Nat.reduceAdd,Nat.reduceMul,Nat.reduceMod,↓reduceIte,reduceCtorEq,Nat.reduceLeDiff,x6C,ei,hAx]
    refine ⟨⟨by omega,by omega⟩,by omega,?_⟩
    have hil:i<S.length:=by omega
    have htA:(fcs A).take (i*2)=fcs (S.filter fun x=>!p x):=by
     rw [←hend];exact y6d z2S A i
    have hlT:((fcs A).take (i*2)).length=i*2:=by rw [List.length_take];omega
    have hdA:(fcs A).drop (i*2+(S.length - i)*2)=[]:=List.drop_eq_nil_of_le (by omega)
    rw [hdA,List.append_nil,htA]
    rw [htA] at hlT
    obtain ⟨Z,hZ⟩:∃Z,Z=fcs (S.filter fun x=>!p x)++rep (S.length - i) [DV.str [],.int .i64 0]:=⟨_,rfl⟩
    have hZl:Z.length=S.length*2:=by rw [hZ,List.length_append,hr1,hlT];omega
    have hZr:∀d∈Z,d.rf=true:=fun d hd=>by
     rw [hZ,List.mem_append] at hd
     rcases hd with hd|hd
     ·exact z8U _ d hd
     ·exact hr2 d hd
    have hZt:Z.take (i*2)=fcs (S.filter fun x=>!p x):=by rw [hZ,←hlT,List.take_left]
    rw [←hZ]
    refine z0H 1000 (cells:=Z) rfl (List.all_eq_true.2 hZr) ?_
    have hfz:frz 1000 Z (.osl 2 1000 0 S.length)=.sl 2 Z:=by
     simp [frz,hZl]
     rw [List.take_of_length_le (by omega)]
    have hv2:frz 1000 Z v=v:=by
     have:=z1n 1000 Z (cs:=[v]) (by simpa using hvr)
     simpa using this
    have hZc:Z.length / 2=S.length:=by omega
    refine zS (zA hfz (zA hv2 (zA ei (zA hZc (zA hZt (zA @List.drop_zero.{0} @Nat.zero_mul)))))) ?_
    exact z0i (y7G (by decide) rfl)
theorem x1x (l:List Fac) (hl:l.length≤1000000):y7E prog 215 [.sl 2 (fcs l)] [] fun r H'=>r=.osl 2 5 0 l.length∧H'=[(5,fcs l)]:=by
 have hll:=z5a l
 have hrf:=z8U l
 refine z8e x0D (by simp [y06]) ?_
 unfold z7k
 by_cases h:l=[]
 ·subst h
  refine z0d ?_
  refine z0g ?_
  refine zD ?_
  refine z0d ?_
  refine z0d ?_
  refine x9A [om 3 0] (.x 4) false (.t 3) rfl ?_
  refine zD ?_
  refine ⟨⟨2,rfl⟩,fun b=>?_⟩
  cases b
  ·refine wFs ?_
   refine zR ?_
   refine ⟨⟨by decide,by decide,fun h=>h,by intro d hd;cases hd⟩,?_⟩
   exact z0i (y1L rfl rfl (by intro d hd;cases hd))
  ·refine wT ?_
   refine zR ?_
   refine z36 2 2 5 rfl rfl ?_
   exact z0i (y1L rfl rfl (by intro d hd;cases hd))
 ·have hne:¬fcs l=[]:=fun e=>h (List.eq_nil_of_length_eq_zero (by rw [e] at hll;simp at hll;omega))
  have hpg:=z0k 5 hrf
  have hl5:(fcs l).length / 2=l.length:=by omega
  refine zR ?_
  refine wFs ?_
  refine zS (zA hll (zA hl5 (zA hpg @List.nil_append.{0}))) ?_
  refine ⟨⟨by omega,by omega,fun h=>h,x90 l⟩,?_⟩
  rw [show 0 / 2+l.length*2 / 2=l.length by omega]
  exact z0i (y1L rfl rfl hrf)
theorem x6a:z0U prog 216:=⟨_,func216,by kernel_rfl,by kernel_rfl⟩
theorem x6D {F:FnD} {os:List DOper} {dst:Dst} {te fr:Fr} {H:Hp} {K:Fr→Fr→Hp→Prop} (b:Bool) (l:List (Nat × Nat)) (x y:Opd):goW F os dst te fr H K (.eqs b l x y)=z0Q F os dst te fr H K (opE F.nb dst.slot (ev te fr) (lkH H) (.eqs b l x y)):=rfl
theorem z7Y (x f:Fac):z0c prog 216 [.agg (fcC x),.el (fcC f) 0] (.bool (decide (x=f))):=by
 have hq:decide (x=f)=if decide (x.nm=f.nm) then decide (x.pw=f.pw) else false:=by
  obtain ⟨a,b⟩:=x
  obtain ⟨c,d⟩:=f
  simp only [Fac.mk.injEq]
  by_cases h:a=c<;>by_cases h2:b=d<;>simp [h,h2]
 refine z0b y4D (by simp [z7s]) ?_
 unfold z4U
 refine zS (zA @cS @fcC.eq_1) ?_
 refine ⟨by simp [DV.rf],?_⟩
 refine z0d ?_
 refine z0g ?_
 refine zE (zA @x6D (zA @cS @List.drop_zero.{0})) ?_
 have he:x6p [DV.str x.nm,.int .i64 x.pw] [.str f.nm,.int .i64 f.pw] [(0,2),(1,0)]=some (decide (x=f)):=by
  rw [hq]
  by_cases h:x.nm=f.nm<;>by_cases h2:x.pw=f.pw<;>simp [x6p,eqD,h,h2]
 rw [he]
 simp only [Option.map_some]
 refine zD ?_
 exact z0i (z0h (.imm rfl))
theorem z4f (B:List DV) (t:List Fac) (f:Fac) (c:DV) (r:Bool) (hB:B.all DV.rf=true) (hl:B.length=6) (hc:B.getD 5 .undef=c) (hcr:c.rf=true) (ht:t.length≤1000000)
  (hp:z0c prog 217 [.el B 0,.sl 2 (fcs (t.filter fun x=>!decide (x=f)))] (.bool r)) :
  z0c prog 154 [.el B 0,.sl 2 (fcs t),.agg (fcC f)] (if r then c else .int .i64 4):=by
 have hN:=x1x t ht
 have hD:=y7i t ht (fun x=>decide (x=f)) (.clo 216 [.el (fcC f) 0]) 216 [.el (fcC f) 0] (.inl rfl) (by simp [DV.rf,fcC]) (by simp [DV.rf,fcC]) x6a fun x=>z7Y x f
 have rfB:(DV.el B 0).rf=true:=by simp [DV.rf]
 have rE:∀g,rn g (.el B 0)=.el B 0:=fun g=>z5k _ _ rfB
 have rS:∀g,rn g (.sl 2 (fcs t))=.sl 2 (fcs t):=fun g=>z5k _ _ (by simp [DV.rf])
 unfold fcC at hD
 refine z0b y6r (by simp [z8Z]) ?_
 unfold z5x
 refine zS (zA @cS @fcC.eq_1) ?_
 refine ⟨by simp [DV.rf],?_⟩
 refine zR ?_
 refine y0u 200 hN rfl (z8U _) (by decide) (by decide) (by decide) rfl (by simp [DV.rf]) ?_
 refine zE rfB ?_
 refine ⟨by simp [DV.rf],?_⟩
 have rC:∀g,rn g (.clo 216 [.el [.str f.nm,.int .i64 f.pw] 0])=.clo 216 [.el [.str f.nm,.int .i64 f.pw] 0]:=fun g=>z5k _ _ (by simp [DV.rf])
 have rF:∀g,rn g (.el [.str f.nm,.int .i64 f.pw] 0)=.el [.str f.nm,.int .i64 f.pw] 0:=fun g=>z5k _ _ (by simp [DV.rf])
 have rA:∀g,rn g (.agg [.str f.nm,.int .i64 f.pw])=.agg [.str f.nm,.int .i64 f.pw]:=fun g=>z5k _ _ (by simp [DV.rf,DV.rfL])
 refine x58 rfl 200 _ _ (by decide) rfl (z8U _) (by simp [DV.rf]) (by simp [rC];simp [rn,x3g]) hD [] (fun p=>?_) ?_
 ·simp only [lkH]
  by_cases e:p=200
  ·rw [if_pos e]
  ·rw [if_neg e,if_neg (Ne.symm e)];rfl
 simp (maxSteps:=1000000) (disch:=omega) only [cA,cB,cN,FnD.nb,lk,lkH,Dst.onT,Dst.onX,Dst.slot,z0W,z0N,z0I,z0X,z0u,z0V,unE,cnt,z0j,z0t,z0l,z0o,opE,rmH,z02,z0n,Nat.reduceEqDiff,Nat.reduceLT,Nat.reduceAdd,Nat.reduceMul,Nat.reduceMod,↓reduceIte,reduceCtorEq,Nat.reduceLeDiff,rE,rS,rC,rF,rA,rn,x0h]
 have hg5:B.getD 5 .undef=c:=hc
 repeat (first|refine zQ (zA hc hl) ?_|refine cP hp ?_|exact zT)
 cases r
 ·refine wFs ?_
  refine zR ?_
  exact z0i (z0h (.imm rfl))
 ·refine wT ?_
  refine zS (zA hc hl) ?_
  exact z0i (z0h (.imm hcr))
theorem w6D (w:World) (n:Nat) (es:Array MapEntry) (clock:Nat) (k:Int) (v:Value) (h:w.heap[n]? = some (.map es clock)) (hf:Instr.findNow (.int .i64) (.int .i64 k) es.toList 0=some none) :
  (Instr.mapUpdate 256 (.map (some n)) (.int .i64 k) v).run prog w=.ok () { w with heap:=w.heap.setIfInBounds n (.map (es.push ⟨.int .i64 k,v,clock⟩) (clock+1)) }:=by
 have hu:prog.underlying 256=some (.map 3 255):=by kernel_rfl
 have hu3:prog.underlying 3=some (.int .i64):=by kernel_rfl
 unfold Instr.mapUpdate underlying program
 simp only [bind,Sem.bind,pure,Sem.run,hu,getObj,h]
 unfold Instr.checkKey Instr.findKey underlying program
 simp only [bind,Sem.bind,pure,Sem.run,hu3,hf,setObj,h]
theorem x8g (w:World) (es:Array MapEntry) (clock:Nat) (k:Int) (v:Value) (hf:Instr.findNow (.int .i64) (.int .i64 k) es.toList 0=some none) :
  (Instr.mapUpdate 256 (.map (some w.heap.size)) (.int .i64 k) v).run prog (w.alloc (.map es clock))=.ok () (w.alloc (.map (es.push ⟨.int .i64 k,v,clock⟩) (clock+1))):=by
 have h:(w.alloc (.map es clock)).heap[w.heap.size]? = some (.map es clock):=by unfold World.alloc;exact Array.getElem?_push_size
 rw [w6D _ _ es clock k v h hf]
 unfold World.alloc
 congr 2
 apply Array.ext_getElem?
 intro i
 simp only [Array.getElem?_setIfInBounds,Array.getElem?_push,Array.size_push]
 by_cases e:w.heap.size=i
 ·subst e;simp
 ·simp [e,Ne.symm e]
def x9U:Array MapEntry:=#[⟨.int .i64 4,.func (.func 260) #[] #[],0⟩,⟨.int .i64 1,.func (.func 262) #[] #[],1⟩,⟨.int .i64 2,.func (.func 263) #[] #[],2⟩,⟨.int .i64 3,.func (.func 264) #[] #[],3⟩]
set_option maxRecDepth 100000 in
theorem x2q (w:World):Calls prog 245 #[] w fun e w'=>e=.returned (.map (some w.heap.size))∧w'=w.alloc (.map x9U 4):=by
 have hmm:=@run_makeMap prog
 have h1:=x8g w #[] 0 4 (.func (.func 260) #[] #[]) rfl
 have h2:=x8g w #[⟨.int .i64 4,.func (.func 260) #[] #[],0⟩] 1 1 (.func (.func 262) #[] #[]) rfl
 have h3:=x8g w #[⟨.int .i64 4,.func (.func 260) #[] #[],0⟩,⟨.int .i64 1,.func (.func 262) #[] #[],1⟩] 2 2 (.func (.func 263) #[] #[]) rfl
 have h4:=x8g w #[⟨.int .i64 4,.func (.func 260) #[] #[],0⟩,⟨.int .i64 1,.func (.func 262) #[] #[],1⟩,⟨.int .i64 2,.func (.func 263) #[] #[],2⟩] 3 3 (.func (.func 264) #[] #[]) rfl
 simp only [List.push_toArray,List.cons_append,List.nil_append,Nat.zero_add,Nat.reduceAdd] at h1 h2 h3 h4
 go_enter func245,Tryz.ntmps245
 go_wp2
 go_ret
 exact ⟨rfl,rfl⟩
theorem w3Z (w:World) (k:Int) (g:Nat) (h:(w.alloc (.map x9U 4)).heap[w.heap.size]? = some (.map x9U 4)) (hk:(k=1∧g=262)∨(k=2∧g=263)∨(k=3∧g=264)∨(k=4∧g=260)) :
  (Instr.lookup 256 (.map (some w.heap.size)) (.int .i64 k) false).run prog (w.alloc (.map x9U 4))=.ok (.func (.func g) #[] #[]) (w.alloc (.map x9U 4)):=by
 have hu:prog.underlying 256=some (.map 3 255):=by kernel_rfl
 have hu3:prog.underlying 3=some (.int .i64):=by kernel_rfl
 have hf:∃i,Instr.findNow (.int .i64) (.int .i64 k) x9U.toList 0=some (some (i,.func (.func g) #[] #[])):=by
  rcases hk with ⟨rfl,rfl⟩|⟨rfl,rfl⟩|⟨rfl,rfl⟩|⟨rfl,rfl⟩<;>exact ⟨_,rfl⟩
 obtain ⟨i,hf⟩:=hf
 unfold Instr.lookup underlying program
 simp only [bind,Sem.bind,pure,Sem.run,hu,getObj,h]
 unfold Instr.checkKey Instr.findKey underlying program
 simp only [bind,Sem.bind,pure,Sem.run,hu3,hf]
 rfl
noncomputable def cmR:Code:=match Tryz.f211.body with|some (.seq _ (.seq _ (.seq r _)))=>r|_=>.skip
set_option maxRecDepth 100000 in
theorem w5K (k:Int) (g:Nat) (hk:(k=1∧g=262)∨(k=2∧g=263)∨(k=3∧g=264)∨(k=4∧g=260)) {fr:Fr} (f0:lk fr 0=.int .i64 k) {Q:Ex→Fr→Hp→Prop} (hQ:Q .norm (z0W fr 6 (.fn g)) []):WC z2h cmR Q fr []:=by
 intro G L a w hK hn hR
 have hn1:G.n=54:=hn.1
 have s0:=hR.slots 0
 rw [show den z2h.vs [] fr 0=lk fr 0 from rfl,f0] at s0
 have e0:=s0.inv_int
 have hl:=w3Z w k g (by unfold World.alloc;exact Array.getElem?_push_size) hk
 obtain ⟨tmps,defers⟩:=a
 simp only at e0
 have hz:tmps.size=54:=by have:=hR.size;rw [hn1] at this;exact this
 have e0':tmps[0]'(by omega)=.int .i64 k:=by
  rw [Array.getD_eq_getD_getElem?,Array.getElem?_eq_getElem (by omega)] at e0;exact e0
 show Code.wp prog cmR _ _ w
 unfold cmR Tryz.f211
 dsimp only
 go_wp2_with (go_at_call 245;refine (x2q w).mono ?_;rintro e w5 ⟨rfl,rfl⟩)
 all_goals first|(exfalso;omega)|skip
 have hR2:=hR.still (Ext.alloc (fun _=>False) w (.map x9U 4))
 refine ⟨L,_,[],.norm,⟨by simp [hz,hn1],hR2.defers,fun s=>?_,hR2.heap,hR2.ext,hR2.sLt,hR2.own,hR2.keep,hR2.shp⟩,rfl,hQ⟩
 have h:=hR2.slots s
 simp only [den] at h ⊢
 split
 ·rename_i hs
  rw [if_pos hs] at h
  rw [z9p]
  by_cases e6:s=6
  ·subst e6
   rw [if_pos rfl,Array.getD_eq_getD_getElem?,Array.getElem?_setIfInBounds_self_of_lt (by simp;omega)]
   exact .imm (.fn g)
  ·rw [if_neg e6]
   have n14:s≠14:=fun e=>by subst e;revert hs;decide
   have n15:s≠15:=fun e=>by subst e;revert hs;decide
   have n16:s≠16:=fun e=>by subst e;revert hs;decide
   rw [Array.getD_eq_getD_getElem?] at h ⊢
   rw [Array.getElem?_setIfInBounds_ne (Ne.symm e6),Array.getElem?_setIfInBounds_ne (Ne.symm n16),Array.getElem?_setIfInBounds_ne (Ne.symm n15),Array.getElem?_setIfInBounds_ne (Ne.symm n14)]
   exact h
 ·exact .imm (.undef _)
noncomputable def cmA:Code:=match Tryz.f211.body with|some (.seq a _)=>a|_=>.skip
noncomputable def cmB:Code:=match Tryz.f211.body with|some (.seq _ (.seq b _))=>b|_=>.skip
noncomputable def cmZ:Code:=match Tryz.f211.body with|some (.seq _ (.seq _ (.seq _ c)))=>c|_=>.skip
noncomputable def w6K:DC:=match z5w with | .seq _ (.seq b _)=>b|_=>.skip
noncomputable def w6L:DC:=match z5w with | .seq _ (.seq _ (.seq _ c))=>c|_=>.skip
noncomputable def tbC:Tb:=([(244,⟨z26,z2o,z3S⟩),(246,⟨z25,z2n,z3R⟩),(260,⟨z3E,z2M,z3f⟩),(262,⟨z3F,z2N,z3g⟩),(263,⟨z3G,z2O,z3h⟩),(264,⟨z3H,z2P,z3i⟩),(261,⟨y18,z6o,z9J⟩)],[(80,kI (fun z=>some (Q (z:Rat))))])
theorem x9n:TOK prog tbC:=by
 have h:=TOK.ext y1J (TOK.nil (P:=prog))
 have h:=TOK.cons (f:=261) (e:=⟨y18,z6o,z9J⟩) ⟨rfl,rfl,x6H,_,func261,by kernel_rfl,by kernel_rfl⟩ h
 have h:=TOK.cons (f:=264) (e:=⟨z3H,z2P,z3i⟩) ⟨rfl,rfl,y2r,_,func264,by kernel_rfl,by kernel_rfl⟩ h
 have h:=TOK.cons (f:=263) (e:=⟨z3G,z2O,z3h⟩) ⟨rfl,rfl,y2q,_,func263,by kernel_rfl,by kernel_rfl⟩ h
 have h:=TOK.cons (f:=262) (e:=⟨z3F,z2N,z3g⟩) ⟨rfl,rfl,y2p,_,func262,by kernel_rfl,by kernel_rfl⟩ h
 have h:=TOK.cons (f:=260) (e:=⟨z3E,z2M,z3f⟩) ⟨rfl,rfl,y2o,_,func260,by kernel_rfl,by kernel_rfl⟩ h
 have h:=TOK.cons (f:=246) (e:=⟨z25,z2n,z3R⟩) ⟨rfl,rfl,z7A,_,func246,by kernel_rfl,by kernel_rfl⟩ h
 have h:=TOK.cons (f:=244) (e:=⟨z26,z2o,z3S⟩) ⟨rfl,rfl,z7B,_,func244,by kernel_rfl,by kernel_rfl⟩ h
 exact h
theorem z1z (k n:Nat) (g:Nat) (hk:((k:Int)=1∧g=262)∨((k:Int)=2∧g=263)∨((k:Int)=3∧g=264)∨((k:Int)=4∧g=260))
  (hB:evN tbC 400 z2h w6K [(0,.int .i64 k),(1,.int .i64 n),(4,.nils),(5,.int .i64 0)] [] 1000=some (.norm,[(0,.int .i64 k),(1,.int .i64 n),(4,.nils),(5,.int .i64 0),(13,.bool false)],[],1000))
  (hZ:w6o (evN tbC 400 z2h w6L [(0,.int .i64 k),(1,.int .i64 n),(4,.nils),(5,.int .i64 0),(6,.fn g),(13,.bool false)] [] 1000) y47 (ctD k n)=true):z0c prog 211 [.int .i64 k,.int .i64 n] (ctD k n):=by
 have hbody:Tryz.f211.body=some (.seq cmA (.seq cmB (.seq cmR cmZ))):=rfl
 refine y90 (F:=z2h) func211 hbody rfl rfl (by kernel_rfl) (by simp [z2h]) ?_
 refine x1S (x9z (c:=.reg [ox 4 (.mv (.c .nils)),ox 5 (.mv (oi 0))]) (by kernel_rfl) ?_)
 refine zR ?_
 refine x1S (w2G x9n (c:=w6K) (by kernel_rfl) rfl rfl hB ?_)
 refine x1S (w5K k g hk rfl ?_)
 exact w2H x9n (c:=w6L) (by kernel_rfl) rfl rfl hZ
theorem z6Z:∀ds r,ctK ds=some r→z0c prog 211 ds r:=by
 intro ds r h
 unfold ctK at h
 split at h
 ·rename_i k n
  split at h
  ·rename_i hkn
   cases h
   obtain ⟨k,rfl⟩:∃m:Nat,k=m:=⟨k.toNat,by omega⟩
   obtain ⟨n,rfl⟩:∃m:Nat,n=m:=⟨n.toNat,by omega⟩
   rw [Int.toNat_natCast,Int.toNat_natCast]
   have hk:k=1∨k=2∨k=3∨k=4:=by omega
   have hn:n=2∨n=3:=by omega
   rcases hk with rfl|rfl|rfl|rfl<;>rcases hn with rfl|rfl
   ·exact z1z 1 2 262 (by simp) (by kernel_rfl) (by kernel_rfl)
   ·exact z1z 1 3 262 (by simp) (by kernel_rfl) (by kernel_rfl)
   ·exact z1z 2 2 263 (by simp) (by kernel_rfl) (by kernel_rfl)
   ·exact z1z 2 3 263 (by simp) (by kernel_rfl) (by kernel_rfl)
   ·exact z1z 3 2 264 (by simp) (by kernel_rfl) (by kernel_rfl)
   ·exact z1z 3 3 264 (by simp) (by kernel_rfl) (by kernel_rfl)
   ·exact z1z 4 2 260 (by simp) (by kernel_rfl) (by kernel_rfl)
   ·exact z1z 4 3 260 (by simp) (by kernel_rfl) (by kernel_rfl)
  ·cases h
 ·cases h
theorem z8P (B:List DV) (r:Bool) (hB:B.all DV.rf=true) (hl:B.length=6) (h3:B.getD 3 .undef=.bool r):z0c prog 217 [.el B 0,.sl 2 []] (.bool r):=by
 refine z0b y2t (by simp [z5P]) ?_
 unfold z4d
 have d0:decide ((0:Int)=0)=true:=rfl
 repeat (first|refine z0d ?_|refine z0g ?_|refine z0p ?_|refine z0f ?_|refine And.intro (by omega) ?_|simp (maxSteps:=1000000) (disch:=omega) only [cA,cB,cN,FnD.nb,lk,lkH,Dst.onT,Dst.onX,Dst.slot,z0W,z0N,z0I,z0X,z0u,z0V,unE,cnt,z0j,z0t,z0l,z0o,opE,rmH,z02,z0n,Nat.reduceEqDiff,Nat.reduceLT,Nat.reduceAdd,Nat.reduceMul,Nat.reduceMod,↓reduceIte,reduceCtorEq,Nat.reduceLeDiff,hl,d0,cS])
 refine ⟨by simp [DV.rf],?_⟩
 repeat (first|refine z0d ?_|refine z0g ?_|refine z0p ?_|refine z0f ?_|refine And.intro (by omega) ?_|simp (maxSteps:=1000000) (disch:=omega) only [cA,cB,cN,FnD.nb,lk,lkH,Dst.onT,Dst.onX,Dst.slot,z0W,z0N,z0I,z0X,z0u,z0V,unE,cnt,z0j,z0t,z0l,z0o,opE,rmH,z02,z0n,Nat.reduceEqDiff,Nat.reduceLT,Nat.reduceAdd,Nat.reduceMul,Nat.reduceMod,↓reduceIte,reduceCtorEq,Nat.reduceLeDiff,hl,d0,cS,List.length_nil,Nat.zero_div])
 refine wT ?_
 refine zS (zA hl h3) ?_
 exact z0i (z0h (.imm rfl))
theorem w6H:∀ds r,w5L ds=some r→z0c prog 154 ds r:=by
 intro ds r h
 unfold w5L at h
 split at h
 ·rename_i B n p n' p'
  split at h
  ·rename_i hc
   simp only [Bool.and_eq_true,decide_eq_true_eq] at hc
   obtain ⟨⟨⟨hB,hl⟩,rfl⟩,rfl⟩:=hc
   have hm:B.getD 5 .undef∈B:=by
    rw [zO1,zO4 (by omega)];exact List.getElem_mem _
   have h5:=List.all_eq_true.1 hB _ hm
   have key:∀b:Bool,B.getD 3 .undef=.bool b→z0c prog 154 [.el B 0,.sl 2 [.str n,.int .i64 p],.agg [.str n,.int .i64 p]] (if b then B.getD 5 .undef else .int .i64 4):=fun b hb=>by
    have hp:=z8P B b hB hl hb
    exact z4f B [⟨n,p⟩] ⟨n,p⟩ (B.getD 5 .undef) b hB hl rfl h5 (by show 1≤1000000;omega) (by
     have e:fcs ([(⟨n,p⟩:Fac)].filter fun x=>!decide (x=⟨n,p⟩))=[]:=by simp [fcs]
     rw [e];exact hp)
   split at h
   ·rename_i hb;cases h;exact key true hb
   ·rename_i hb;cases h;exact key false hb
   ·cases h
  ·cases h
 ·cases h
end Go.Proofs.YtlcagndeidjobaaGreatDoor
