/- Lemmas of the walk; no conditions beyond those that each states. -/
import Derived.Test.YtlcagndeidjobaaGreatDoorD4
import Derived.Test.YtlcagndeidjobaaGreatDoorD3
set_option linter.unusedSimpArgs false
set_option linter.unusedVariables false
set_option linter.unnecessarySimpa false
set_option maxHeartbeats 4000000
namespace Go.Dat
open Go
abbrev CE:=Nat→List DV→Hp→Option (DV × Hp)
def kn (o:Nat):Nat:=if o<1048576 then o+1048576 else o
def z2T (H:Hp):List (Nat × Nat):=(z3t H).map fun o=>(o,kn o)
def w54 (ps:List (Nat × Nat)):Bool:=ps.all fun p=>(decide (p.1<786432) || decide (1048576≤p.1)) && decide (p.2<2097152)
def x2h (ps:List (Nat × Nat)):List (Nat × Nat)→Hp→Hp
 | [],_=>[]
 | (a,b)::r,H=>z0N (x2h ps r H) a (rnM (z1N ps) ((lkH H b).getD []))
theorem y4Z (ps:List (Nat × Nat)) (H:Hp):∀(l:List (Nat × Nat)) (p:Nat),lkH (x2h ps l H) p=(look l p).map fun q=>rnM (z1N ps) ((lkH H q).getD [])
 | [],p=>rfl
 | (a,b)::r,p=>by
  simp only [x2h,z1f,look,eq_comm (a:=p)]
  split
  ·rfl
  ·exact y4Z ps H r p
def x0p (ce:CE) (pu:Bool) (f:Nat) (ds:List DV) (H:Hp):Option (DV × Hp) :=
 if ds.all DV.rf then (ce f ds []).bind fun r=>if r.2.isEmpty && r.1.rf then some (r.1,H) else none
 else if pu then none
 else if z3f (z2T H) && w54 (z2T H) then
  (ce f (ds.map (rn (look (z2T H)))) (x44 (look (z2T H)) (z2T H) H)).bind fun r =>
   if (z3t H).all (fun o=>(lkH r.2 (kn o)).isSome) then some (rn (z1N (z2T H)) r.1,x2h (z2T H) (z2T H) r.2) else none
 else none
theorem z4F {P:Program} {f:Nat} {ds:List DV} {r:DV} (h:y7S P f ds [] fun a b=>a=r∧b=[]) (hr:r.rf=true):z0c P f ds r:=by
 intro A w us hT hA hs hv
 have hAv:∀b,Av A (fun _=>none) b↔A b:=fun b=>⟨fun h=>h.elim id (fun ⟨o,h⟩=>by cases h),.inl⟩
 refine (h A (fun _=>none) w us hT (by intro o b h;cases h) ⟨(by intro o b h;cases h),(by intro o c h;cases h),(by intro o p b h;cases h),(by intro o b h;cases h),(by intro o b h;cases h)⟩ hA hs fun k d v h1 h2=>.imm ((hv k d v h1 h2).mono fun b _ hb=>⟨rfl,fun h'=>hb ((hAv b).1 h')⟩)).mono ?_
 rintro e w' ⟨v,L',r',H',⟨rfl,rfl⟩,rfl,hH,hV,hx,_⟩
 refine ⟨v,rfl,(hV.rf_imm hr).mono fun b _ hb=>⟨rfl,fun h'=>hb (.inl h')⟩,hx.mono fun k _ ⟨o,h⟩=>by cases h⟩
def z5s (P:Program) (ce:CE):Prop:=∀f ds H r H',ce f ds H=some (r,H')→y7S P f ds H fun a b=>a=r∧b=H'
theorem y2J {H:Hp} {p q:Nat} (h:look (z2T H) p=some q):p∈z3t H∧q=kn p:=by
 by_cases hm:p∈z3t H
 ·obtain ⟨q',h1,h2⟩:=z50 (g:=kn) hm
  unfold z2T at h
  rw [h1] at h
  cases h
  exact ⟨hm,h2⟩
 ·unfold z2T at h
  rw [z19 hm] at h;cases h
theorem z8q {F:FnD} {ce:CE} {pu:Bool} (hF:F.pure=pu) (hce:z5s F.P ce) {f:Nat} {ds:List DV} {H:Hp} {r:DV} {H':Hp} (h:x0p ce pu f ds H=some (r,H')) {os:List DOper} {dst:Dst} {te fr:Fr} {K:Fr→Fr→Hp→Prop}
  (hK:z1l F os (dst.onT te r) (dst.onX fr r) H' K):z4d F os dst f ds te fr H K:=by
 unfold x0p at h
 split at h
 ·rename_i hrf
  rw [zO3] at h
  obtain ⟨⟨r1,H1⟩,h1,h2⟩:=h
  simp only [Bool.and_eq_true,List.isEmpty_iff] at h2
  split at h2
  ·rename_i hc
   cases h2
   obtain ⟨e1,e2⟩:=hc
   subst e1
   exact z0E (z4F (hce f ds [] r [] h1) e2) hrf hK
  ·cases h2
 ·split at h
  ·cases h
  ·rename_i hp
   split at h
   ·rename_i hc
    rw [Bool.and_eq_true] at hc
    obtain ⟨hc1,hc2⟩:=hc
    rw [zO3] at h
    obtain ⟨⟨r1,H1⟩,h1,h2⟩:=h
    simp only [List.all_eq_true] at h2
    split at h2
    ·rename_i d2
     cases h2
     have hl:=z2u hc1
     have bd:∀p q,look (z2T H) p=some q→(p<786432∨1048576≤p)∧q<2097152∧1048576≤q∧p<2097152:=fun p q h=>by
      have h3:=List.all_eq_true.1 hc2 _ (y2N h)
      simp only [Bool.and_eq_true,Bool.or_eq_true,decide_eq_true_eq] at h3
      have h4:=(y2J h).2
      unfold kn at h4
      split at h4<;>exact ⟨h3.1,h3.2,by omega,by omega⟩
     have hpg:pgN H (look (z2T H))=some:=funext fun o=>by
      unfold pgN
      cases hq:look (z2T H) o with
      | none=>rfl
      | some q =>
       have:=(bd o q hq).2.2.1
       simp only
       rw [if_neg (by omega)]
     have hid:=fun te=>z9w (f:=fun o=>some o) (fun o=>rfl) te
     refine z5x (by rw [hF];simpa using hp) (look (z2T H)) (z1N (z2T H)) hl (fun p q h _=>(bd p q h).2.2.1) (fun p q h=>?_) (Hc:=x44 (look (z2T H)) (z2T H) H) (fun q=>?_) (hce _ _ _ _ _ h1) ?_
     ·obtain ⟨g1,g2,g3,g4⟩:=bd p q h
      exact y0x.eq (by unfold y0x;omega) (by unfold y0x;omega)
     ·rw [z4J]
      cases hu:z1N (z2T H) q with
      | none=>rfl
      | some p =>
       have hm:=(y2J ((hl p q).2 hu)).1
       obtain ⟨cs,hcs⟩:=Option.isSome_iff_exists.1 (z2s.2 hm)
       simp only [Option.map_some,Option.bind_some,hcs,Option.getD_some,rnM]
     ·rintro r2 H2 ⟨rfl,rfl⟩
      refine ⟨x2h (z2T H) (z2T H) H2,fun p=>?_,?_⟩
      ·rw [y4Z]
       cases hq:look (z2T H) p with
       | none =>
        have hn:lkH H p=none:=by
         cases hn:lkH H p with
         | none=>rfl
         | some cs =>
          have hm:p∈z3t H:=z2s.1 (by rw [hn];rfl)
          obtain ⟨q,g1,_⟩:=z50 (g:=kn) hm
          unfold z2T at hq
          rw [g1] at hq;cases hq
        simp only [hn,Option.map_none]
       | some q =>
        obtain ⟨hm,e⟩:=y2J hq
        obtain ⟨cs,hcs⟩:=Option.isSome_iff_exists.1 (d2 p hm)
        subst e
        simp only [Option.map_some,hcs,Option.getD_some,rnM]
      ·rw [hpg]
       have e:z0J (rn some) te=te:=hid te
       have e2:z0J (rn some) fr=fr:=hid fr
       rw [e,e2];exact hK
    ·cases h2
   ·cases h
def w3l (ce:CE) (pu:Bool) (rest:Fr→Fr→Hp→Option (Fr × Fr × Hp)) (dst:Dst) (te fr:Fr) (H:Hp):DOp→Option (Fr × Fr × Hp)
 | .call f args=>(x0p ce pu f (args.map (ev te fr)) H).bind fun r=>rest (dst.onT te r.1) (dst.onX fr r.1) r.2
 | p=>(opC 0 dst.slot (ev te fr) (lkH H) p).bind fun r=>rest (dst.onT (r.2.onF te) r.1) (dst.onX (r.2.onF fr) r.1) (r.2.onL H)
def evG (te fr:Fr):Option (Opd × Bool)→Option Bool
 | none=>some true
 | some (g,want)=>match ev te fr g with
  | .bool b=>some (b == want)
  | .tup []=>some false
  | _=>none
def evR (ce:CE) (pu:Bool):List DOper→Fr→Fr→Hp→Option (Fr × Fr × Hp)
 | [],te,fr,H=>some (te,fr,H)
 | o::os,te,fr,H=>match evG te fr o.guard with
  | none=>none
  | some false=>evR ce pu os (o.dst.onT te (.tup [])) (o.dst.onX fr (.tup [])) H
  | some true=>w3l ce pu (evR ce pu os) o.dst te fr H o.op
theorem y03 {F:FnD} {ce:CE} {pu:Bool} (hF:F.pure=pu) (hce:z5s F.P ce) {os:List DOper} {dst:Dst} {te fr:Fr} {H:Hp} {K:Fr→Fr→Hp→Prop} {rest:Fr→Fr→Hp→Option (Fr × Fr × Hp)} {z:Fr × Fr × Hp}
  (hr:∀te fr H,rest te fr H=some z→z1l F os te fr H K) {op:DOp} (h:w3l ce pu rest dst te fr H op=some z):z1l F (⟨dst,op,none⟩::os) te fr H K:=by
 cases op with
 | call f args =>
  simp only [w3l] at h
  rw [zO3] at h
  obtain ⟨⟨r,H1⟩,h1,h2⟩:=h
  exact z8q hF hce h1 (hr _ _ _ h2)
 | _ =>
  simp only [w3l] at h
  rw [zO3] at h
  obtain ⟨r,h1,h2⟩:=h
  exact ⟨r,x9l _ _ _ _ h1,hr _ _ _ h2⟩
theorem z2S {F:FnD} {ce:CE} {pu:Bool} (hF:F.pure=pu) (hce:z5s F.P ce):∀(ops:List DOper) (te fr:Fr) (H:Hp) (te' fr':Fr) (H':Hp),evR ce pu ops te fr H=some (te',fr',H')→∀K:Fr→Fr→Hp→Prop,K te' fr' H'→z1l F ops te fr H K
 | [],te,fr,H,te',fr',H',h,K,hK=>by
  simp only [evR,Option.some.injEq,Prod.mk.injEq] at h
  obtain ⟨rfl,rfl,rfl⟩:=h
  exact hK
 | ⟨dst,op,guard⟩::os,te,fr,H,te',fr',H',h,K,hK=>by
  have ih:=fun te fr H h=>z2S hF hce os te fr H te' fr' H' h K hK
  simp only [evR] at h
  cases guard with
  | none=>exact y03 hF hce ih h
  | some gw =>
   obtain ⟨g,want⟩:=gw
   simp only [evG] at h
   have key:∀{b:Bool},ev te fr g=.bool b→(match some (b == want) with
    | none=>none
    | some false=>evR ce pu os (dst.onT te (.tup [])) (dst.onX fr (.tup [])) H
    | some true=>w3l ce pu (evR ce pu os) dst te fr H op)=some (te',fr',H')→(b=want→z1l F (⟨dst,op,none⟩::os) te fr H K)∧(b=!want→z1l F os (dst.onT te (.tup [])) (dst.onX fr (.tup [])) H K):=by
    intro b _ hm
    refine ⟨fun e=>?_,fun e=>?_⟩
    ·subst e
     rw [beq_self_eq_true] at hm
     exact y03 hF hce ih hm
    ·subst e
     have:((!want) == want)=false:=by cases want<;>rfl
     rw [this] at hm
     exact ih _ _ _ hm
   show match ev te fr g with
    | .bool b=>(b=want→z1l F (⟨dst,op,none⟩::os) te fr H K)∧(b=!want→z1l F os (dst.onT te (.tup [])) (dst.onX fr (.tup [])) H K)
    | .tup []=>z1l F os (dst.onT te (.tup [])) (dst.onX fr (.tup [])) H K
    | _=>False
   split at h
   ·cases h
   ·rename_i hm
    split at hm
    ·rename_i b hb
     exact key hb (by rw [hm];exact h)
    ·exact ih _ _ _ h
    ·cases hm
   ·rename_i hm
    split at hm
    ·rename_i b hb
     exact key hb (by rw [hm];exact h)
    ·cases hm
    ·cases hm
mutual
def dvB:DV→DV→Bool
 | .undef,.undef=>true
 | .int k a,.int j b=>decide (k=j) && decide (a=b)
 | .bool a,.bool b=>a == b
 | .str a,.str b=>decide (a=b)
 | .nilp,.nilp=>true
 | .nils,.nils=>true
 | .nili,.nili=>true
 | .fn f,.fn g=>decide (f=g)
 | .sl s xs,.sl t ys=>decide (s=t) && dvL xs ys
 | .el xs i,.el ys j=>decide (i=j) && dvL xs ys
 | .osl a b c d,.osl e f g h=>decide (a=e) && decide (b=f) && decide (c=g) && decide (d=h)
 | .ptr a b,.ptr c d=>decide (a=c) && decide (b=d)
 | .agg xs,.agg ys=>dvL xs ys
 | .tup xs,.tup ys=>dvL xs ys
 | .iface t d,.iface u e=>decide (t=u) && dvB d e
 | .clo f xs,.clo g ys=>decide (f=g) && dvL xs ys
 | _,_=>false
def dvL:List DV→List DV→Bool
 | [],[]=>true
 | x::xs,y::ys=>dvB x y && dvL xs ys
 | _,_=>false
end
mutual
theorem z7u:∀{d e:DV},dvB d e=true→d=e
 | .undef,e,h=>by cases e<;>first|rfl|(simp [dvB] at h;done)
 | .int k a,e,h=>by cases e<;>simp [dvB] at h<;>obtain ⟨rfl,rfl⟩:=h;rfl
 | .bool a,e,h=>by cases e<;>simp [dvB] at h<;>subst h;rfl
 | .str a,e,h=>by cases e<;>simp [dvB] at h<;>subst h;rfl
 | .nilp,e,h=>by cases e<;>first|rfl|(simp [dvB] at h;done)
 | .nils,e,h=>by cases e<;>first|rfl|(simp [dvB] at h;done)
 | .nili,e,h=>by cases e<;>first|rfl|(simp [dvB] at h;done)
 | .fn f,e,h=>by cases e<;>simp [dvB] at h<;>subst h;rfl
 | .sl s xs,e,h=>by cases e<;>simp [dvB] at h;obtain ⟨rfl,h⟩:=h;rw [z7v h]
 | .el xs i,e,h=>by cases e<;>simp [dvB] at h;obtain ⟨rfl,h⟩:=h;rw [z7v h]
 | .osl a b c d,e,h=>by cases e<;>simp [dvB] at h;obtain ⟨⟨⟨rfl,rfl⟩,rfl⟩,rfl⟩:=h;rfl
 | .ptr a b,e,h=>by cases e<;>simp [dvB] at h;obtain ⟨rfl,rfl⟩:=h;rfl
 | .agg xs,e,h=>by cases e<;>simp [dvB] at h;rw [z7v h]
 | .tup xs,e,h=>by cases e<;>simp [dvB] at h;rw [z7v h]
 | .iface t d,e,h=>by cases e<;>simp [dvB] at h;obtain ⟨rfl,h⟩:=h;rw [z7u h]
 | .clo f xs,e,h=>by cases e<;>simp [dvB] at h;obtain ⟨rfl,h⟩:=h;rw [z7v h]
 | .raw v,e,h=>by cases e<;>simp [dvB] at h
theorem z7v:∀{l m:List DV},dvL l m=true→l=m
 | [],m,h=>by cases m<;>simp [dvL] at h;rfl
 | x::xs,m,h=>by
  cases m with
  | nil=>simp [dvL] at h
  | cons y ys =>
   simp only [dvL,Bool.and_eq_true] at h
   rw [z7u h.1,z7v h.2]
end
def frB:Fr→Fr→Bool
 | [],[]=>true
 | (k,d)::r,(j,e)::s=>decide (k=j) && dvB d e && frB r s
 | _,_=>false
theorem x80:∀{a b:Fr},frB a b=true→a=b
 | [],[],_=>rfl
 | [],_::_,h=>by cases h
 | _::_,[],h=>by cases h
 | (k,d)::r,(j,e)::s,h=>by
  simp only [frB,Bool.and_eq_true,decide_eq_true_eq] at h
  obtain ⟨⟨rfl,h1⟩,h2⟩:=h
  rw [z7u h1,x80 h2]
def hpB:Hp→Hp→Bool
 | [],[]=>true
 | (k,d)::r,(j,e)::s=>decide (k=j) && dvL d e && hpB r s
 | _,_=>false
theorem y1r:∀{a b:Hp},hpB a b=true→a=b
 | [],[],_=>rfl
 | [],_::_,h=>by cases h
 | _::_,[],h=>by cases h
 | (k,d)::r,(j,e)::s,h=>by
  simp only [hpB,Bool.and_eq_true,decide_eq_true_eq] at h
  obtain ⟨⟨rfl,h1⟩,h2⟩:=h
  rw [z7v h1,y1r h2]
def evT (ce:CE):DT→Fr→Fr→Hp→Option (Fr × Hp)
 | .leaf,_,fr,H=>some (fr,H)
 | .no,_,_,_=>none
 | .st o t,te,fr,H=>(evR ce false [o] te fr H).bind fun z=>evT ce t z.1 z.2.1 z.2.2
 | .fl o t,te,fr,H=>if (o.op.opds.all fun p=>(ev te fr p).sim) then (evR ce false [o] te fr H).bind fun z=>evT ce t z.1 z.2.1 z.2.2 else none
 | .alt a b,te,fr,H=>(evT ce a te fr H).bind fun x=>(evT ce b te fr H).bind fun y=>if frB x.1 y.1 && hpB x.2 y.2 then some x else none
theorem z4l {F:FnD} (hF:F.pure=false) {ce:CE} (hce:z5s F.P ce):∀(t:DT) (te fr:Fr) (H:Hp) (fr':Fr) (H':Hp),evT ce t te fr H=some (fr',H')→∀K:Fr→Hp→Prop,K fr' H'→x1m F t te fr H fun _ fr H=>K fr H
 | .leaf,te,fr,H,fr',H',h,K,hK=>by
  simp only [evT,Option.some.injEq,Prod.mk.injEq] at h
  obtain ⟨rfl,rfl⟩:=h
  exact hK
 | .no,_,_,_,_,_,h,_,_=>by cases h
 | .st o t,te,fr,H,fr',H',h,K,hK=>by
  simp only [evT] at h
  rw [zO3] at h
  obtain ⟨⟨te1,fr1,H1⟩,h1,h2⟩:=h
  exact z2S hF hce [o] te fr H te1 fr1 H1 h1 _ (z4l hF hce t te1 fr1 H1 fr' H' h2 K hK)
 | .fl o t,te,fr,H,fr',H',h,K,hK=>by
  simp only [evT] at h
  split at h
  ·rename_i hs
   rw [zO3] at h
   obtain ⟨⟨te1,fr1,H1⟩,h1,h2⟩:=h
   exact ⟨hs,z2S hF hce [o] te fr H te1 fr1 H1 h1 _ (z4l hF hce t te1 fr1 H1 fr' H' h2 K hK)⟩
  ·cases h
 | .alt a b,te,fr,H,fr',H',h,K,hK=>by
  simp only [evT] at h
  rw [zO3] at h
  obtain ⟨⟨fr1,H1⟩,h1,h2⟩:=h
  rw [zO3] at h2
  obtain ⟨⟨fr2,H2⟩,h3,h4⟩:=h2
  split at h4
  ·rename_i hc
   cases h4
   rw [Bool.and_eq_true] at hc
   have e1:=x80 hc.1
   have e2:=y1r hc.2
   simp only at e1 e2
   subst e1
   subst e2
   exact ⟨z4l hF hce a te fr H _ _ h1 K hK,z4l hF hce b te fr H _ _ h3 K hK⟩
  ·cases h4
def z0U (P : Program) (f : Nat) : Prop := ∃ fn, P.funcs[f]? = some fn ∧ fn.body.isSome = true ∧ (fn.name != "runtime.NumGoroutine") = true
def z6N (d:DV) (f:Nat) (cs:List DV):Prop:=d=.clo f cs∨(d=.fn f∧cs=[])
theorem V.inv_clo {w:World} {L:Nat→Option Nat} {A:Nat→Prop} {d:DV} {f:Nat} {cs:List DV} {v:Value} (hd:z6N d f cs) (h:V w L A d v) :
  ∃ vs:Array Value,v=.func (.func f) #[] vs∧cs.length=vs.size∧∀(k:Nat) d v,cs[k]? = some d→vs[k]? = some v→V w L A d v:=by
 rcases hd with rfl|⟨rfl,rfl⟩
 ·cases h with
  | imm h=>cases h with
   | clo hl h=>exact ⟨_,rfl,hl,fun k d v h1 h2=>.imm (h k d v h1 h2)⟩
 ·cases h with
  | imm h=>cases h with
   | fn=>exact ⟨#[],rfl,rfl,fun k d v h1 h2=>by simp at h1⟩
section
variable {F:FnD}
theorem y5F {P:Program} {vs own:List Nat} {dst:Option Nat} {op:Op} {x:Opd} {args:List Opd} (hp:sOp P vs own dst op=some (.callv x args)) :
  ∃ c k,op=.call c∧c.callee=.value (.tmp k)∧x=z0Y vs (.tmp k)∧args=c.args.toList.map (z0Y vs):=by
 cases op with
 | call c =>
  obtain ⟨callee,cargs,argTypes⟩:=c
  cases callee with
  | value q =>
   cases q with
   | tmp k =>
    simp only [sOp,Option.some.injEq,DOp.callv.injEq] at hp
    exact ⟨_,k,rfl,rfl,hp.1.symm,hp.2.symm⟩
   | func f =>
    simp only [sOp] at hp
    split at hp
    ·split at hp<;>cases hp
    ·cases hp
   | _=>simp [sOp] at hp
  | invoke r m=>simp [sOp] at hp
  | builtin b =>
   exfalso
   cases b with
   | append =>
    simp only [sOp] at hp
    repeat' split at hp
    all_goals first
     | (cases hp;done)
     | (simp only [zO3] at hp;obtain ⟨_,_,hp⟩:=hp;split at hp;(cases hp;done);(simp only [Option.some.injEq] at hp;split at hp<;>cases hp);done)
     | (simp only [zO3] at hp;obtain ⟨_,_,hp⟩:=hp;split at hp<;>cases hp)
   | clear =>
    simp only [sOp] at hp
    repeat' split at hp
    all_goals first
     | (cases hp;done)
     | (simp only [zO3] at hp;obtain ⟨_,_,_,_,hp⟩:=hp;split at hp<;>cases hp)
   | _ =>
    simp only [sOp] at hp
    repeat' split at hp
    all_goals first
     | (cases hp;done)
     | (simp only [zO3] at hp;obtain ⟨_,_,hp⟩:=hp;split at hp<;>cases hp)
 | makeFunc fn first caps =>
  cases fn with
  | func f =>
   simp only [sOp] at hp
   split at hp<;>cases hp
  | _=>simp [sOp] at hp
 | _ =>
  exfalso
  simp only [sOp] at hp
  repeat' split at hp
  all_goals first
   | (cases hp;done)
   | (simp only [Option.some.injEq] at hp;split at hp<;>cases hp;done)
   | (simp [zO3,zO2] at hp;done)
   | (simp only [zO2] at hp;obtain ⟨_,_,hp⟩:=hp;(repeat' split at hp)<;>cases hp;done)
   | (simp only [zO3,zO2] at hp;obtain ⟨_,_,hp⟩:=hp;(repeat' split at hp)<;>first|(cases hp;done)|(obtain ⟨_,_,hp⟩:=hp;(repeat' split at hp)<;>cases hp;done)|(rw [zO2] at hp;obtain ⟨_,_,hp⟩:=hp;cases hp;done))
theorem z3D {Q:Ex→Fr→Hp→Prop} {fr:Fr} {H:Hp} {ds:List DOper} (d0 d1:List DOper) (dst:Dst) (x:Opd) (args:List Opd) (hd:ds=d0++⟨dst,.callv x args,none⟩::d1)
  (h:z1l F d0 [] fr H fun te fr H=>∃f cs,z6N (ev te fr x) f cs∧z0U F.P f∧z3r F f (args.map (ev te fr)++cs) te fr H fun d te' fr' H'=>z1l F d1 (dst.onT te' d) (dst.onX fr' d) H' fun _ fr H=>Q .norm fr H) :
  W F (.reg ds) Q fr H:=by
 subst hd
 intro code hc G L a w hn hR
 cases code<;>simp only [strip] at hc<;>first|(cases hc;done)|skip
 rename_i id ops draw
 split at hc
 ·rename_i ds' hds
  split at hc
  ·(repeat' split at hc)<;>cases hc
  ·rename_i hd
   cases hc
   have hd':draw=false:=by simpa using hd
   subst hd'
   obtain ⟨l0,l1,hl,h0,h1⟩:=z4z _ _ _ hds
   refine wp_region_list ?_
   rw [hl]
   refine y21 hn (fun te fr H L a w hR' hk=>?_) l0 d0 h0 [] fr H L a w hR h
   match l1,h1 with
   | o::l2,h1 =>
    simp only [z1M,zO3,zO2] at h1
    obtain ⟨d,hd,ds',hds',e⟩:=h1
    simp only [List.cons.injEq] at e
    obtain ⟨rfl,rfl⟩:=e
    obtain ⟨odst,op,ty,pos,after,guard⟩:=o
    simp only [z4U,zO3] at hd
    obtain ⟨p,hp,g,hg,hs⟩:=hd
    split at hs
    ·rename_i hdo
     simp only [Option.some.injEq,DOper.mk.injEq] at hs
     obtain ⟨rfl,rfl,rfl⟩:=hs
     have hdl:=z4j hdo
     obtain ⟨c,kk,rfl,hcal,rfl,rfl⟩:=y5F hp
     obtain ⟨callee,cargs,argTypes⟩:=c
     simp only at hcal hk
     subst hcal
     obtain ⟨f,cs,hclo,⟨fn,hfn,hbody,hname⟩,hk⟩:=hk
     have hE:EV F.vs (ev te fr) w L (Av G.S L) a:=fun x=>by rw [y04];exact x98 hR' x
     obtain ⟨vs,ev1,ev2,ev3⟩:=V.inv_clo hclo (hE (.tmp kk))
     have hcall:=y6g hk G L a w (cargs.map a.eval++vs) hn.2 hR' (by simp [ev2]) (fun k d v h1 h2=>by
      rw [List.getElem?_append] at h1
      rw [Array.getElem?_append] at h2
      simp only [List.length_map,Array.length_toList,Array.size_map] at h1 h2
      split at h1
      ·rename_i hlt
       rw [if_pos hlt] at h2
       simp only [List.map_map,List.getElem?_map,Array.getElem?_toList,zO2] at h1
       simp only [Array.getElem?_map,zO2] at h2
       obtain ⟨x,hx,rfl⟩:=h1
       obtain ⟨y,hy,rfl⟩:=h2
       rw [hx] at hy;cases hy
       exact hE x
      ·rename_i hlt
       rw [if_neg hlt] at h2
       exact ev3 _ d v h1 h2)
     have hr:(execOp a.eval ⟨odst,.call { callee:=.value (.tmp kk),args:=cargs,argTypes:=argTypes },ty,pos,after,guard⟩).run F.P w=.ok (.enter f (cargs.map a.eval++vs)) w:=by
      have hb:¬fn.body=none:=by intro e;rw [e] at hbody;cases hbody
      have hnm : ¬ fn.name = "runtime.NumGoroutine" := by simpa using hname
      simp [execOp,resolve,ev1,Deferred.ofValue,invoke,callFunc,hfn,hnm,hb]
     have hw:Region.wanted (⟨odst,.call { callee:=.value (.tmp kk),args:=cargs,argTypes:=argTypes },ty,pos,after,guard⟩:Oper) (yielded ops a.tmps)=true:=z30 (F:=F) (ops:=ops) a.tmps hg
     simp only [wpList,hw,if_true]
     refine .inl ?_
     unfold Oper.wp
     rw [hr]
     refine hcall.mono ?_
     rintro e w' ⟨v,L',d,te',fr',H',rfl,hR2,hv,_,hKd⟩
     have hput:=hR2.put hv (by rw [hn.1];exact hdl)
     rw [←z2B] at hput
     refine z6T hn (fun te fr H L a w hR3 hk=>?_) l2 ds' hds' _ _ _ _ _ _ hput hKd
     refine ⟨L,fr,H,.norm,hR3.weak fun s=>?_,rfl,hk⟩
     simp only [den,lk]
     split
     ·exact .inl rfl
     ·exact .inr rfl
    ·cases hs
 ·cases hc
end
end Go.Dat
namespace Go.Dat
open Go
section
variable {F:FnD} {G:Cx} {σ:Nat→DV} {h:Heap} {L:Nat→Option Nat} {a:Act} {w:World}
def goV (F:FnD) (dp:DOper) (σ:Nat→DV) (d:DV):Prop:=match dp.op with
 | .callv x args=>∃f cs,z6N (evS σ x) f cs∧z0U F.P f∧z0c F.P f (args.map (evS σ)++cs) d∧(args.map (evS σ)++cs).all DV.rf=true
 | _=>False
theorem y6S {o:Oper} {ops:Array Oper} {dp:DOper} {d:DV} {K:Act→World→Prop} {Q:Exit→Act→World→Prop}
  (hs:z4U F.P F.vs F.own F.n ops o=some dp) (hn:G.n=F.n∧G.ok F.P) (hR:R G L σ h a w) (hgo:goV F dp σ d)
  (hK:∀L a w,R G L (z1u σ dp.dst.slot d) h a w→K a w):o.wp F.P a w K Q:=by
 obtain ⟨dst,op,ty,pos,after,guard⟩:=o
 simp only [z4U,zO3] at hs
 obtain ⟨p,hp,g,hg,hs⟩:=hs
 split at hs
 ·rename_i hd
  cases hs
  rw [z08] at hK
  have hdl:=z4j hd
  have hE:EV F.vs (evS σ) w L (Av G.S L) a:=fun x=>x98 hR x
  cases p with
  | callv x args =>
   simp only [goV] at hgo
   obtain ⟨c,kk,rfl,hcal,rfl,rfl⟩:=y5F hp
   obtain ⟨callee,cargs,argTypes⟩:=c
   simp only at hcal hgo
   subst hcal
   obtain ⟨f,cs,hclo,⟨fn,hfn,hbody,hname⟩,hpc,hrf⟩:=hgo
   obtain ⟨vs,ev1,ev2,ev3⟩:=V.inv_clo hclo (hE (.tmp kk))
   have hA:∀b,Av G.S L b→b<w.heap.size:=by
    rintro b (h|⟨o,h⟩)
    ·exact hR.sLt b h
    ·exact hR.heap.lt h
   have hcall:=hpc (Av G.S L) w (cargs.map a.eval++vs) (hn.2.tab hR) hA (by simp [ev2]) (fun k d v h1 h2=>by
    have hrfd:=List.all_eq_true.1 hrf d (List.mem_of_getElem? h1)
    rw [List.getElem?_append] at h1
    rw [Array.getElem?_append] at h2
    simp only [List.length_map,Array.length_toList,Array.size_map] at h1 h2
    split at h1
    ·rename_i hlt
     rw [if_pos hlt] at h2
     simp only [List.map_map,List.getElem?_map,Array.getElem?_toList,zO2] at h1
     simp only [Array.getElem?_map,zO2] at h2
     obtain ⟨x,hx,rfl⟩:=h1
     obtain ⟨y,hy,rfl⟩:=h2
     rw [hx] at hy;cases hy
     exact (hE x).rf_imm hrfd
    ·rename_i hlt
     rw [if_neg hlt] at h2
     exact (ev3 _ d v h1 h2).rf_imm hrfd)
   have hr:(execOp a.eval ⟨dst,.call { callee:=.value (.tmp kk),args:=cargs,argTypes:=argTypes },ty,pos,after,guard⟩).run F.P w=.ok (.enter f (cargs.map a.eval++vs)) w:=by
    have hb:¬fn.body=none:=by intro e;rw [e] at hbody;cases hbody
    have hnm : ¬ fn.name = "runtime.NumGoroutine" := by simpa using hname
    simp [execOp,resolve,ev1,Deferred.ofValue,invoke,callFunc,hfn,hnm,hb]
   unfold Oper.wp
   rw [hr]
   refine hcall.mono ?_
   rintro e w' ⟨v,rfl,hvi,hx⟩
   exact hK _ _ _ ((hR.still hx).put (.imm hvi) (by rw [hn.1];exact hdl))
  | _=>exact hgo.elim
 ·cases hs
def w6S (F:FnD) (dp:DOper) (K:(Nat→DV)→Heap→Prop) (σ:Nat→DV) (h:Heap):Prop :=
 y7z F dp K σ h∨(dp.guard=none∧∃d,goV F dp σ d∧K (z1u σ dp.dst.slot d) h)
def w20 (F:FnD) (ops:Array Oper) (ds:List DOper) (K:(Nat→DV)→Heap→Prop):Nat→Array Bool→(Nat→DV)→Heap→Prop
 | 0,listed,σ,h=>Region.ready .any ops listed=[]∧K σ h
 | fuel+1,listed,σ,h=>(Region.ready .any ops listed=[]→K σ h) ∧
  ∀ i∈Region.ready .any ops listed,∃x,ds[i]? = some x∧w6S F x (w20 F ops ds K fuel (listed.setIfInBounds i true)) σ h
theorem x0k {ops:Array Oper} {ds:List DOper} {Q:Exit→Act→World→Prop} {K:(Nat→DV)→Heap→Prop} (hn:G.n=F.n∧G.ok F.P) (hs:z1M F.P F.vs F.own F.n ops ops.toList=some ds)
  (hK:∀σ h L a w,R G L σ h a w→K σ h→Q .normal a w):∀(fuel:Nat) (listed:Array Bool) (σ:Nat→DV) (h:Heap) (L:Nat→Option Nat) (a:Act) (w:World),R G L σ h a w →
   w20 F ops ds K fuel listed σ h→wpAny F.P .any ops Q fuel listed a w:=by
 intro fuel
 induction fuel with
 | zero=>intro listed σ h L a w hR hA;exact ⟨hA.1,hK _ _ _ _ _ hR hA.2⟩
 | succ fuel ih =>
  intro listed σ h L a w hR hA
  refine ⟨fun e=>hK _ _ _ _ _ hR (hA.1 e),fun i hi=>?_⟩
  obtain ⟨x,hx,hst⟩:=hA.2 i hi
  obtain ⟨_,o,ho,_⟩:=mem_ready.1 hi
  obtain ⟨dp,hdp,hso⟩:=(z12 _ _ hs).2 i o (by simpa using ho)
  rw [hx] at hdp;cases hdp
  have hgd:z2z F.vs ops o.guard=some x.guard∧x.dst=y3c F.vs o.dst∧∀k,o.dst=some k→k<F.n:=by
   simp only [z4U,zO3] at hso
   obtain ⟨p,hp,g,hg',hs⟩:=hso
   split at hs
   ·rename_i hd;cases hs;exact ⟨hg',rfl,z4j hd⟩
   ·cases hs
  obtain ⟨hgu,hdst,hdl⟩:=hgd
  simp only [wpOp,ho]
  rcases hst with ⟨d,ef,hg,hA'⟩|⟨hgn,d,hg,hA'⟩
  ·rcases hg.out with ⟨h1,h2⟩|⟨h1,rfl,rfl⟩
   ·rw [z23 hR hgu h1,if_pos rfl]
    exact .inl (z3O hso hn hR h2 fun L a w hR'=>ih _ _ _ L a w hR' hA')
   ·rw [z23 hR hgu h1,if_neg (by simp)]
    rw [hdst,z08] at hA'
    exact ih _ _ _ L _ w (hR.put z8k (by rw [hn.1];exact hdl)) hA'
  ·rw [z23 (b:=true) hR hgu (by rw [hgn];rfl),if_pos rfl]
   exact .inl (y6S hso hn hR hg fun L a w hR'=>ih _ _ _ L a w hR' hA')
end
end Go.Dat
namespace Go.Dat
open Go
theorem x5t {P:Program} {vs own:List Nat} {dst:Option Nat} {op:Op} {neg:Bool} {x:Opd} (hp:sOp P vs own dst op=some (.isnil neg x)) :
  ∃ bop t x0 u e,op=.binOp bop t x0 (.const (.slice none 0 0)) u∧(bop=.eql∨bop=.neq)∧neg=(bop == .neq)∧P.underlying t=some (.slice e)∧x=z0Y vs x0:=by
 cases op with
 | binOp bop t x0 y u =>
  have key:∀b:BinOp,(b=.eql∨b=.neq)→(match P.underlying t with
    | some .bool=>some (DOp.beq (b == .neq) (z0Y vs x0) (z0Y vs y))
    | some (.int _)|some .string=>some (.bin b (z0Y vs x0) (z0Y vs y))
    | some (.slice _)=>if y1u y then some (.isnil (b == .neq) (z0Y vs x0)) else none
    | some (.struct fs)=>if P.stoodInHeld t || P.eqGuardType P.depth t then none else (z4k P fs.toList).map fun l=>.eqs (b == .neq) l (z0Y vs x0) (z0Y vs y)
    | _=>none)=some (.isnil neg x)→∃bop' t' x0' u' e,Op.binOp b t x0 y u=.binOp bop' t' x0' (.const (.slice none 0 0)) u'∧(bop'=.eql∨bop'=.neq)∧neg=(bop' == .neq)∧P.underlying t'=some (.slice e)∧x=z0Y vs x0':=by
   intro b hb h
   split at h
   ·cases h
   ·cases h
   ·cases h
   ·rename_i e ht
    split at h
    ·rename_i hn
     cases h
     exact ⟨b,t,x0,u,e,by rw [z9p hn],hb,rfl,ht,rfl⟩
    ·cases h
   ·split at h
    ·cases h
    ·rw [zO2] at h
     obtain ⟨_,_,h⟩:=h
     cases h
   ·cases h
  cases bop<;>simp only [sOp] at hp<;>first|(cases hp;done)|skip
  ·exact key .eql (.inl rfl) hp
  ·exact key .neq (.inr rfl) hp
 | _ =>
  exfalso
  simp only [sOp] at hp
  repeat' first
   | (cases hp;done)
   | (obtain ⟨_,_,hp⟩:=hp)
   | split at hp
   | (simp only [zO3,zO2] at hp;obtain ⟨_,_,hp⟩:=hp)
  all_goals first
   | contradiction
   | (rename_i h1 _ _ _ _;cases h1)
   | simp_all
section
variable {F:FnD}
theorem x9M {Q:Ex→Fr→Hp→Prop} {fr:Fr} {H:Hp} {ds:List DOper} (d0:List DOper) (dst:Dst) (neg:Bool) (x:Opd) (hd:ds=d0++[⟨dst,.isnil neg x,none⟩])
  (h:z1l F d0 [] fr H fun te fr H=>(∃sz,ev te fr x=.sl sz [])∧∀b,Q .norm (dst.onX fr (.bool b)) H):W F (.reg ds) Q fr H:=by
 subst hd
 intro code hc G L a w hn hR
 cases code<;>simp only [strip] at hc<;>first|(cases hc;done)|skip
 rename_i id ops draw
 split at hc
 ·rename_i ds' hds
  split at hc
  ·(repeat' split at hc)<;>cases hc
  ·rename_i hd
   cases hc
   have hd':draw=false:=by simpa using hd
   subst hd'
   obtain ⟨l0,l1,hl,h0,h1⟩:=z4z _ _ _ hds
   refine wp_region_list ?_
   rw [hl]
   refine y21 hn (fun te fr H L a w hR' hk=>?_) l0 d0 h0 [] fr H L a w hR h
   match l1,h1 with
   | o::l2,h1 =>
    simp only [z1M,zO3,zO2] at h1
    obtain ⟨d,hd,ds',hds',e⟩:=h1
    simp only [List.cons.injEq] at e
    obtain ⟨rfl,rfl⟩:=e
    have hl2:l2=[]:=by
     have:=(z12 _ _ hds').1
     exact List.length_eq_zero_iff.1 this.symm
    subst hl2
    obtain ⟨odst,op,ty,pos,after,guard⟩:=o
    simp only [z4U,zO3] at hd
    obtain ⟨p,hp,g,hg,hs⟩:=hd
    split at hs
    ·rename_i hdo
     simp only [Option.some.injEq,DOper.mk.injEq] at hs
     obtain ⟨rfl,rfl,rfl⟩:=hs
     have hdl:=z4j hdo
     obtain ⟨bop,t,x0,u,e,rfl,hbop,rfl,ht,rfl⟩:=x5t hp
     obtain ⟨⟨sz,hev⟩,hq⟩:=hk
     have hx:V w L (Av G.S L) (.sl sz []) (a.eval x0):=by
      rw [←hev,y04];exact x98 hR' x0
     obtain ⟨A,n,c,e1⟩:∃A n c,a.eval x0=.slice A n c:=by
      rcases hx.inv_sl with ⟨_,A,c,e1⟩|⟨hx0,_⟩
      ·exact ⟨A,0,c,e1⟩
      ·exact absurd rfl hx0
     have eq:(Op.equal t (.slice A n c) (.slice none 0 0)).run F.P w=.ok A.isNone w:=z8V 9999 ht A n c
     have e2:a.eval (.const (.slice none 0 0))=.slice none 0 0:=rfl
     have hr:(execOp a.eval ⟨odst,.binOp bop t x0 (.const (.slice none 0 0)) u,ty,pos,after,guard⟩).run F.P w=.ok (.value (.bool (if bop == .neq then A.isSome else A.isNone))) w:=by
      rcases hbop with rfl|rfl<;>cases A<;>simp [execOp,e1,e2,eqGuard,binOp,eq]
     have hw:Region.wanted (⟨odst,.binOp bop t x0 (.const (.slice none 0 0)) u,ty,pos,after,guard⟩:Oper) (yielded ops a.tmps)=true:=z30 (F:=F) (ops:=ops) a.tmps hg
     simp only [wpList,hw,if_true]
     refine .inl ?_
     unfold Oper.wp
     rw [hr]
     generalize (if bop == .neq then A.isSome else A.isNone)=b at *
     have hput:=hR'.put (dst:=odst) (V.imm (VI.bool (w:=w) (A:=Av G.S L) b)) (by rw [hn.1];exact hdl)
     rw [←z2B] at hput
     refine ⟨L,_,H,.norm,hput.weak fun s=>?_,rfl,hq b⟩
     simp only [den,lk]
     split
     ·exact .inl rfl
     ·exact .inr rfl
    ·cases hs
 ·cases hc
end
end Go.Dat
namespace Go.Dat
open Go
theorem y4d {p q:Nat→Bool} (hpq:∀x,q x=true→p x=true):∀(l:List Nat) (i:Nat),i∈l→p i=true→q i=false→l.countP q<l.countP p
 | [],i,hi,_,_=>by cases hi
 | a::l,i,hi,h1,h2=>by
  have hle:l.countP q≤l.countP p:=List.countP_mono_left fun x _ h=>hpq x h
  simp only [List.countP_cons]
  by_cases hm:i∈l
  ·have:=y4d hpq l i hm h1 h2
   have ha:(if q a=true then 1 else 0)≤if p a=true then 1 else 0:=by
    by_cases hq:q a=true
    ·rw [if_pos hq,if_pos (hpq a hq)];exact Nat.le_refl _
    ·rw [if_neg hq];exact Nat.zero_le _
   omega
  ·have:i=a:=(List.mem_cons.1 hi).resolve_right hm
   subst this
   rw [if_pos h1,if_neg (by rw [h2];simp)]
   omega
def x6y (ds:List DOper) (s k:Nat):Prop:=∃z,ds[k]? = some z∧z.dst.slot=some s
def x01 (ds:List DOper) (s j:Nat):Prop:=∃y,ds[j]? = some y∧s∈y.op.opds.filterMap Opd.slot
structure FreeI (ops:Array Oper) (ds:List DOper) (deps:List (List Nat)):Prop where
 fwd:∀(i:Nat) (o:Oper),ops[i]? = some o→∀e∈o.after,e.on<i
 gd:∀(i:Nat) (x:DOper),ds[i]? = some x→x.guard=none
 one:∀s i j,x6y ds s i→x6y ds s j→i=j
 dep:∀s i j,x01 ds s i→x6y ds s j→j∈deps.getD i []
theorem x6J {ops:Array Oper} {ds:List DOper} {deps:List (List Nat)} (h:w0e ops ds deps=true):FreeI ops ds deps:=by
 simp only [w0e,Bool.and_eq_true,List.all_eq_true,List.mem_range] at h
 obtain ⟨h1,h2⟩:=h
 have hlt:∀{i x},ds[i]? = some x→i<ds.length:=fun h=>(List.getElem?_eq_some_iff.1 h).1
 refine ⟨fun i o ho e he=>?_,fun i x hx=>?_,?_,?_⟩
 ·have:=h1 i (Array.getElem?_eq_some_iff.1 ho).1
  rw [ho] at this
  exact of_decide_eq_true (Array.all_eq_true_iff_forall_mem.1 this e he)
 ·have:=h2 i (hlt hx)
  rw [hx] at this
  simp only [Bool.and_eq_true] at this
  exact Option.isNone_iff_eq_none.1 this.1.1
 ·rintro s i j ⟨x,hx,hxs⟩ ⟨y,hy,hys⟩
  have:=h2 i (hlt hx)
  rw [hx] at this
  simp only [Bool.and_eq_true] at this
  have h3:=this.1.2
  rw [hxs] at h3
  simp only [List.all_eq_true,List.mem_range] at h3
  have h4:=h3 j (hlt hy)
  rw [hy] at h4
  simp only [hys,bne_self_eq_false,Bool.or_false,beq_iff_eq] at h4
  exact h4.symm
 ·rintro s i j ⟨x,hx,hxs⟩ ⟨y,hy,hys⟩
  have:=h2 i (hlt hx)
  rw [hx] at this
  simp only [Bool.and_eq_true] at this
  have h3:=List.all_eq_true.1 this.2 s hxs
  have h4:=List.all_eq_true.1 h3 j (List.mem_range.2 (hlt hy))
  rw [hy] at h4
  simp only [hys,bne_self_eq_false,Bool.or_false,List.contains_iff_mem] at h4
  exact h4
section
variable {F:FnD} {ops:Array Oper} {ds:List DOper} {deps:List (List Nat)} {keep:Nat→Prop} {T:Nat→DV} {Hf:(Nat→Bool)→Heap}
def w2Q (ds:List DOper) (deps:List (List Nat)) (keep:Nat→Prop) (T:Nat→DV) (i:Nat) (x:DOper) (o:Nat):Prop :=
 ∀ s,x.dst.slot≠some s→(∀k,x6y ds s k→i∉deps.getD k [])→(keep s∨∃j,j≠i∧j∉deps.getD i []∧x01 ds s j)→(T s).has o=false
def x57 (F:FnD) (ds:List DOper) (deps:List (List Nat)) (keep:Nat→Prop) (T:Nat→DV) (h h':Heap) (i:Nat) (x:DOper):Prop :=
 ∃ d ef,(goD F x T h d ef∨(goV F x T d∧ef=.no))∧(∀s,x.dst.slot=some s→d=T s)∧ef.onH h=h'∧∀o c,ef=.app o c→w2Q ds deps keep T i x o
def w2N (ds:List DOper) (keep:Nat→Prop) (T:Nat→DV) (Hf:(Nat→Bool)→Heap) (S:Nat→Bool) (σ:Nat→DV) (h:Heap):Prop :=
 h=Hf S∧∀s,(keep s∨∃j,S j=false∧x01 ds s j)→(∀k,x6y ds s k→S k=true)→σ s=T s
theorem x3F {x:DOper} {σ τ:Nat→DV} {h:Heap} {d:DV} {ef:Eff} (he:∀p∈x.op.opds,evS σ p=evS τ p) (hg:goD F x τ h d ef):goD F x σ h d ef:=by
 unfold goD at hg ⊢
 cases hop:x.op with
 | call f args =>
  rw [hop] at hg he
  have hm:args.map (evS σ)=args.map (evS τ):=List.map_congr_left fun p hp=>he p hp
  simp only [hm];exact hg
 | _=>rw [hop] at hg he;simp only at hg ⊢;rw [z3w he];exact hg
theorem x3G {x:DOper} {σ τ:Nat→DV} {d:DV} (he:∀p∈x.op.opds,evS σ p=evS τ p) (hg:goV F x τ d):goV F x σ d:=by
 unfold goV at hg ⊢
 cases hop:x.op with
 | callv y args =>
  rw [hop] at hg he
  have hm:args.map (evS σ)=args.map (evS τ):=List.map_congr_left fun p hp=>he p (by simp [DOp.opds,hp])
  simp only [hm,he y (by simp [DOp.opds])]
  exact hg
 | _=>rw [hop] at hg;exact hg.elim
theorem x4X {ops:Array Oper} {listed:Array Bool} (hsz:listed.size=ops.size) (hfw:∀(i:Nat) (o:Oper),ops[i]? = some o→∀e∈o.after,e.on<i) (hr:Region.ready .any ops listed=[]):∀i,i<ops.size→listed.getD i false=true:=by
 intro i
 induction i using Nat.strongRecOn with
 | _ i ih =>
  intro hi
  cases hl:listed.getD i false with
  | true=>rfl
  | false =>
   have:i∈Region.ready .any ops listed:=by
    have ho:=Array.getElem?_eq_getElem hi
    generalize ops[i]=o at ho
    refine mem_ready.2 ⟨?_,o,ho,fun e he _=>?_⟩
    rotate_left
    ·have h1:=hfw i o ho e he
     exact ih e.on h1 (by omega)
    rw [Array.getD_eq_getD_getElem?] at hl ⊢
    rw [Array.getElem?_eq_getElem (by omega)] at hl ⊢
    exact hl
   rw [hr] at this;cases this
theorem x6d {K:(Nat→DV)→Heap→Prop} (hlen:ds.length=ops.size) (hdeps:∀k x,x∈deps.getD k []→Dep ops k x) (hf:FreeI ops ds deps)
  (hob:∀i x S,ds[i]? = some x→S i=false→(∀j∈deps.getD i [],S j=true)→(∀e,S e=true→∀j∈deps.getD e [],S j=true)→x57 F ds deps keep T (Hf S) (Hf fun k=>S k || k == i) i x)
  (hK:∀S σ h,(∀i,i<ds.length→S i=true)→w2N ds keep T Hf S σ h→K σ h) :
  ∀ (fuel:Nat) (listed:Array Bool) (σ:Nat→DV) (h:Heap),listed.size=ops.size→(List.range ops.size).countP (fun j=>!listed.getD j false)≤fuel→z2L ops listed→w2N ds keep T Hf (fun j=>listed.getD j false) σ h→w20 F ops ds K fuel listed σ h:=by
 intro fuel
 have fin:∀(listed:Array Bool) σ h,(∀i,i<ops.size→listed.getD i false=true)→w2N ds keep T Hf (fun j=>listed.getD j false) σ h→K σ h:=fun listed σ h hl hI=>hK _ σ h (fun i hi=>hl i (by omega)) hI
 induction fuel with
 | zero =>
  intro listed σ h hsz hcn hc hI
  have hall:∀i,i<ops.size→listed.getD i false=true:=fun i hi=>by
   have:=List.countP_eq_zero.1 (Nat.le_zero.1 hcn) i (List.mem_range.2 hi)
   simpa using this
  refine ⟨?_,fin listed σ h hall hI⟩
  apply List.eq_nil_iff_forall_not_mem.2
  intro i hi
  obtain ⟨hun,o,ho,_⟩:=mem_ready.1 hi
  have h1:=hall i (Array.getElem?_eq_some_iff.1 ho).1
  rw [Array.getD_eq_getD_getElem?] at h1 hun
  cases hq:listed[i]? with
  | none=>rw [hq] at h1;cases h1
  | some b=>rw [hq] at h1 hun;simp only [Option.getD_some] at h1 hun;rw [h1] at hun;cases hun
 | succ fuel ih =>
  intro listed σ h hsz hcn hc hI
  refine ⟨fun e=>fin listed σ h (x4X hsz hf.fwd e) hI,fun i hi=>?_⟩
  obtain ⟨hun,o,ho,hall⟩:=mem_ready.1 hi
  have hio:i<ops.size:=(Array.getElem?_eq_some_iff.1 ho).1
  have hx:ds[i]? = some ds[i]:=zO4 (by omega)
  generalize ds[i]=x at hx
  have hSi:listed.getD i false=false:=by
   rw [Array.getD_eq_getD_getElem?] at hun ⊢
   rw [Array.getElem?_eq_getElem (by omega)] at hun ⊢
   exact hun
  have hdi:∀j∈deps.getD i [],listed.getD j false=true:=fun j hj=>z3s hc (hdeps _ _ hj) fun o' ho' e he hb=>by rw [ho] at ho';cases ho';exact hall e he hb
  have hcl:∀e,listed.getD e false=true→∀j∈deps.getD e [],listed.getD j false=true:=fun e he j hj=>z3s hc (hdeps _ _ hj) fun o' ho' e' he' hb=>hc e o' he ho' e' he' hb
  obtain ⟨d,ef,hg,hdT,hH,hsafe⟩:=hob i x (fun j=>listed.getD j false) hx hSi hdi hcl
  obtain ⟨rfl,hσ⟩:=hI
  have hlk:∀s∈x.op.opds.filterMap Opd.slot,σ s=T s:=fun s hs=>hσ s (.inr ⟨i,hSi,x,hx,hs⟩) fun k hk=>hdi k (hf.dep s i k ⟨x,hx,hs⟩ hk)
  have hset:∀j,(listed.setIfInBounds i true).getD j false=(listed.getD j false || j == i):=fun j=>by
   by_cases e:i=j
   ·subst e
    rw [Array.getD_eq_getD_getElem?,Array.getElem?_setIfInBounds_self_of_lt (by omega)]
    simp
   ·rw [getD_set_ne false e]
    have:(j == i)=false:=by simpa using fun e2=>e e2.symm
    rw [this,Bool.or_false]
  have hop:∀p∈x.op.opds,evS σ p=evS T p:=fun p hp=>by
   cases p with
   | c d=>rfl
   | x k=>exact hlk k (List.mem_filterMap.2 ⟨_,hp,rfl⟩)
   | t k=>exact hlk k (List.mem_filterMap.2 ⟨_,hp,rfl⟩)
  have hnext:w20 F ops ds K fuel (listed.setIfInBounds i true) (z1u (ef.onS σ) x.dst.slot d) (ef.onH (Hf fun j=>listed.getD j false)):=by
   refine ih _ _ _ (by simpa using hsz) ?_ (hc.set hi) ⟨?_,fun s hs hav=>?_⟩
   ·have h1:=y4d (p:=fun j=>!listed.getD j false) (q:=fun j=>!(listed.setIfInBounds i true).getD j false) (fun j hj=>by
     rw [hset] at hj;simp only [Bool.not_or,Bool.and_eq_true] at hj;exact hj.1) (List.range ops.size) i (List.mem_range.2 hio) (by rw [hSi];rfl) (by rw [hset];simp)
    omega
   ·rw [hH];congr 1;funext j;exact (hset j).symm
   ·by_cases hsl:x.dst.slot=some s
    ·rw [hsl];simp only [z1u,if_true];exact hdT s hsl
    ·have hne:∀(τ:Nat→DV),z1u τ x.dst.slot d s=τ s:=fun τ=>by
      cases hxd:x.dst.slot with
      | none=>rfl
      | some t=>simp only [z1u];rw [if_neg (fun e=>hsl (by rw [hxd,e]))]
     have hav2:∀k,x6y ds s k→k≠i∧listed.getD k false=true:=fun k hk=>by
      have hki:k≠i:=fun e=>by
       obtain ⟨z,hz,hzs⟩:=hk
       rw [e,hx] at hz;cases hz;exact hsl hzs
      have:=hav k hk
      simp only [hset,Bool.or_eq_true,beq_iff_eq] at this
      exact ⟨hki,this.resolve_right hki⟩
     have hs2:keep s∨∃j,listed.getD j false=false∧j≠i∧x01 ds s j:=by
      rcases hs with hs|⟨j,hj,hl⟩
      ·exact .inl hs
      ·simp only [hset,Bool.or_eq_false_iff,beq_eq_false_iff_ne] at hj
       exact .inr ⟨j,hj.1,hj.2,hl⟩
     have h1:σ s=T s:=hσ s (hs2.imp id fun ⟨j,a,_,b⟩=>⟨j,a,b⟩) fun k hk=>(hav2 k hk).2
     rw [hne]
     cases ef with
     | app o c =>
      have h2:=hsafe o c rfl s hsl (fun k hk hm=>by
       have:=hcl k (hav2 k hk).2 i hm
       rw [hSi] at this;cases this) (hs2.imp id fun ⟨j,a,b,c⟩=>⟨j,b,fun hm=>(by rw [hdi j hm] at a;cases a),c⟩)
      simp only [Eff.onS,z1d,h1,Dat.purge,h2,Bool.false_eq_true,if_false]
     | _=>exact h1
  rcases hg with hg|⟨hg,rfl⟩
  ·exact ⟨x,hx,.inl ⟨d,ef,⟨.inl ⟨by rw [hf.gd i x hx];rfl,x3F hop hg⟩⟩,hnext⟩⟩
  ·exact ⟨x,hx,.inr ⟨hf.gd i x hx,d,x3G hop hg,hnext⟩⟩
end
def y3o:List Nat→List (List Nat)
 | []=>[[]]
 | a::l=>(y3o l).map (a::·)++y3o l
theorem z5d (S:Nat→Bool):∀l:List Nat,l.filter S∈y3o l
 | []=>by simp [y3o]
 | a::l=>by
  simp only [y3o,List.mem_append,List.mem_map]
  rw [List.filter_cons]
  split
  ·exact .inl ⟨_,z5d S l,rfl⟩
  ·exact .inr (z5d S l)
def okI (deps:List (List Nat)) (eff B:List Nat) (i:Nat):Bool :=
 !B.contains i && (B.all fun e=>!(deps.getD e []).contains i && eff.all fun f=>!(deps.getD e []).contains f || B.contains f) && eff.all fun f=>!(deps.getD i []).contains f || B.contains f
def x53 (eff B:List Nat) (i:Nat):List Nat:=eff.filter fun e=>B.contains e || e == i
theorem w4N {deps:List (List Nat)} {eff:List Nat} {S:Nat→Bool} {i:Nat} (h1:S i=false) (h2:∀j∈deps.getD i [],S j=true) (h3:∀e,S e=true→∀j∈deps.getD e [],S j=true):okI deps eff (eff.filter S) i=true:=by
 simp only [okI,Bool.and_eq_true,Bool.not_eq_true',List.all_eq_true,Bool.or_eq_true,List.contains_iff_mem,List.mem_filter]
 refine ⟨⟨?_,fun e he=>⟨?_,fun f hf=>?_⟩⟩,fun f hf=>?_⟩
 ·cases hq:(eff.filter S).contains i with
  | false=>rfl
  | true =>
   have:=(List.mem_filter.1 (List.contains_iff_mem.1 hq)).2
   rw [h1] at this;cases this
 ·cases hq:(deps.getD e []).contains i with
  | false=>rfl
  | true =>
   have:=h3 e he.2 i (List.contains_iff_mem.1 hq)
   rw [h1] at this;cases this
 ·cases hq:(deps.getD e []).contains f with
  | false=>exact .inl rfl
  | true=>exact .inr ⟨hf,h3 e he.2 f (List.contains_iff_mem.1 hq)⟩
 ·cases hq:(deps.getD i []).contains f with
  | false=>exact .inl rfl
  | true=>exact .inr ⟨hf,h2 f (List.contains_iff_mem.1 hq)⟩
theorem x9N (eff:List Nat) (S:Nat→Bool) (i:Nat):(eff.filter fun k=>S k || k == i)=x53 eff (eff.filter S) i:=by
 unfold x53
 apply List.filter_congr
 intro e he
 have:(eff.filter S).contains e=S e:=by
  cases hq:S e with
  | true=>exact List.contains_iff_mem.2 (List.mem_filter.2 ⟨he,hq⟩)
  | false =>
   cases hc:(eff.filter S).contains e with
   | false=>rfl
   | true=>have:=(List.mem_filter.1 (List.contains_iff_mem.1 hc)).2;rw [hq] at this;cases this
 rw [this]
theorem y1t:∀(ds:List DOper) (ls:List (List Nat)),(z31 ds ls).iops=ds
 | [],_=>rfl
 | o::os,ls=>by simp only [z31,DT.iops,y1t os]
theorem z9n:∀(ds:List DOper) (ls:List (List Nat)) (k:Nat),(z31 ds ls).ideps.getD k []=if k<ds.length then ls.getD k [] else []
 | [],_,k=>by simp [z31,DT.ideps]
 | o::os,ls,k=>by
  have hm:∀l:List Nat,(l.map Opd.t).filterMap Opd.slot=l:=fun l=>by
   induction l with
   | nil=>rfl
   | cons a l ih=>simp only [List.map_cons,List.filterMap_cons,Opd.slot,ih]
  simp only [z31,DT.ideps,DOp.opds,hm]
  cases k with
  | zero=>cases ls<;>simp
  | succ k =>
   rw [List.getD_cons_succ,z9n os ls.tail k]
   simp only [List.length_cons,Nat.add_lt_add_iff_right]
   cases ls<;>simp
section
variable {F:FnD} {Q:Ex→Fr→Hp→Prop} {fr:Fr} {H:Hp} {t:DT}
theorem x8y (tv fr2:Fr) (eff:List Nat) (Hl:List Nat→Hp) (he:∀e∈eff,e<t.iops.length) (h0:lkH (Hl [])=lkH H)
  (hT:∀s,(∀k,¬x6y t.iops s k)→den F.vs tv fr2 s=den F.vs [] fr s)
  (hob:∀B∈y3o eff,∀i x,t.iops[i]? = some x→(∀y∈t.iops,y.tags F.vs=true)→okI t.ideps eff B i=true→x57 F t.iops t.ideps (fun s=>F.vs.contains s=true) (den F.vs tv fr2) (lkH (Hl B)) (lkH (Hl (x53 eff B i))) i x)
  (hQ:Q .norm fr2 (Hl eff)) (hw:F.own.contains 1000003=false):W F (.rego (.alt .no t)) Q fr H:=by
 intro code hc G L a w hn hR
 cases code<;>simp only [strip] at hc<;>first|(cases hc;done)|skip
 rename_i id ops draw
 split at hc
 ·rename_i ds hds
  split at hc
  ·rename_i hd
   subst hd
   split at hc
   ·cases hc
   split at hc
   ·cases hc
   split at hc
   ·cases hc
   split at hc
   ·rename_i hok
    rw [hw] at hok
    simp at hok
   split at hc
   ·rename_i hok
    simp only [DC.rego.injEq,DT.alt.injEq,true_and] at hc
    subst hc
    simp only [y1t] at he hT hob
    simp only [Bool.and_eq_true] at hok
    obtain ⟨⟨⟨⟨_,hns⟩,htags⟩,hfr⟩,hm⟩:=hok
    have hfree0:=x6J hfr
    have hlen:ds.length=ops.size:=by rw [(z12 _ _ hds).1];simp
    have hdeps:∀k x,x∈(z31 ds (z1W ops.toList [])).ideps.getD k []→Dep ops k x:=fun k x hx=>by
     rw [z9n] at hx
     split at hx
     ·exact z2F ops.toList [] (fun j=>by simp) (fun k x hx=>by simp at hx) k x hx
     ·cases hx
    have hfree:FreeI ops ds (z31 ds (z1W ops.toList [])).ideps:=⟨hfree0.fwd,hfree0.gd,hfree0.one,fun s i j hi hj=>by
     rw [z9n,if_pos (by obtain ⟨y,hy,_⟩:=hi;exact (List.getElem?_eq_some_iff.1 hy).1)]
     exact hfree0.dep s i j hi hj⟩
    refine wp_region_any hm ?_
    have hany:w20 F ops ds (fun σ h=>h=lkH (Hl eff)∧∀s,F.vs.contains s=true→σ s=den F.vs tv fr2 s) ops.size (Array.replicate ops.size false) (den F.vs [] fr) (lkH H):=by
     have hno:∀j,(Array.replicate ops.size false).getD j false=false:=fun j=>by
      simp only [Array.getD_eq_getD_getElem?,Array.getElem?_replicate]
      split<;>rfl
     have hob2:∀i x S,ds[i]? = some x→S i=false→(∀j∈(z31 ds (z1W ops.toList [])).ideps.getD i [],S j=true)→(∀e,S e=true→∀j∈(z31 ds (z1W ops.toList [])).ideps.getD e [],S j=true) →
       x57 F ds (z31 ds (z1W ops.toList [])).ideps (fun s=>F.vs.contains s=true) (den F.vs tv fr2) (lkH (Hl (eff.filter S))) (lkH (Hl (eff.filter fun k=>S k || k == i))) i x:=fun i x S hx h1 h2 h3=>by
      rw [x9N]
      exact hob (eff.filter S) (z5d S eff) i x hx (fun y hy=>List.all_eq_true.1 htags y hy) (w4N h1 h2 h3)
     have hK2:∀(S:Nat→Bool) (σ:Nat→DV) (h:Heap),(∀i,i<ds.length→S i=true)→w2N ds (fun s=>F.vs.contains s=true) (den F.vs tv fr2) (fun S=>lkH (Hl (eff.filter S))) S σ h→h=lkH (Hl eff)∧∀s,F.vs.contains s=true→σ s=den F.vs tv fr2 s:=fun S σ h hall hI=>by
      refine ⟨?_,fun s hs=>hI.2 s (.inl hs) fun k hk=>?_⟩
      ·have:eff.filter S=eff:=List.filter_eq_self.2 fun e hm=>hall e (he e hm)
       rw [hI.1];simp only [this]
      ·obtain ⟨z,hz,_⟩:=hk
       exact hall k (List.getElem?_eq_some_iff.1 hz).1
     have hi1:(List.range ops.size).countP (fun j=>!(Array.replicate ops.size false).getD j false)≤ops.size:=by
      have:=List.countP_le_length (p:=fun j=>!(Array.replicate ops.size false).getD j false) (l:=List.range ops.size)
      rwa [List.length_range] at this
     have hi2:z2L ops (Array.replicate ops.size false):=fun j o hj=>by rw [hno] at hj;cases hj
     have hi3:w2N ds (fun s=>F.vs.contains s=true) (den F.vs tv fr2) (fun S=>lkH (Hl (eff.filter S))) (fun j=>(Array.replicate ops.size false).getD j false) (den F.vs [] fr) (lkH H):=by
      refine ⟨?_,fun s _ hav=>(hT s fun k hk=>?_).symm⟩
      ·have:eff.filter (fun j=>(Array.replicate ops.size false).getD j false)=[]:=List.filter_eq_nil_iff.2 fun j _=>by rw [hno];simp
       show _=lkH (Hl (eff.filter _))
       rw [←h0,this]
      ·have:=hav k hk
       simp only [hno] at this;cases this
     exact x6d hlen hdeps hfree hob2 hK2 ops.size _ _ _ (by rw [Array.size_replicate]) hi1 hi2 hi3
    refine x0k (F:=F) (G:=G) hn hds ?_ ops.size _ _ _ L a _ (hR.still (w':={ w with drawn:=w.drawn+1 }) ⟨rfl,rfl,rfl,Nat.le_refl _,fun _ _ _=>rfl⟩) hany
    rintro σ h L a w hR' ⟨rfl,hσ⟩
    refine ⟨L,fr2,Hl eff,.norm,hR'.weak fun s=>?_,rfl,hQ⟩
    cases hs:F.vs.contains s with
    | true =>
     refine .inl ?_
     rw [hσ s hs]
     simp only [den,hs,if_true]
    | false =>
     simp only [den,hs,lk]
     exact .inr rfl
   ·cases hc
  ·cases hc
 ·cases hc
end
def w4G:Hp→Bool
 | []=>true
 | _=>false
def w5o (ce:CE) (cal:Nat→Bool) (tv fr:Fr) (H:Hp) (o:DOper):Option (DV × Eff):=match o.op with
 | .call f args=>(ce f (args.map (ev tv fr)) []).bind fun r=>if w4G r.2 && r.1.rf && (args.map (ev tv fr)).all DV.rf then some (r.1,.no) else none
 | .callv x args=>match ev tv fr x with
  | .clo g cs=>if cal g then (ce g (args.map (ev tv fr)++cs) []).bind fun r=>if w4G r.2 && r.1.rf && (args.map (ev tv fr)++cs).all DV.rf then some (r.1,.no) else none else none
  | .fn g=>if cal g then (ce g (args.map (ev tv fr)++[]) []).bind fun r=>if w4G r.2 && r.1.rf && (args.map (ev tv fr)++[]).all DV.rf then some (r.1,.no) else none else none
  | _=>none
 | p=>opC 0 o.dst.slot (ev tv fr) (lkH H) p
def w7l (ce:CE) (cal:Nat→Bool):List DOper→Fr→Fr→Hp→Option (Fr × Fr)
 | [],tv,fr,_=>some (tv,fr)
 | o::os,tv,fr,H=>(w5o ce cal tv fr H o).bind fun z=>w7l ce cal os (o.dst.onT tv z.1) (o.dst.onX fr z.1) (z.2.onL H)
def hpI (ce:CE) (cal:Nat→Bool) (ds:List DOper) (tv fr:Fr):List Nat→Hp→Hp
 | [],H=>H
 | i::B,H=>match ds[i]? with
  | some o=>match w5o ce cal tv fr H o with
   | some z=>hpI ce cal ds tv fr B (z.2.onL H)
   | none=>[]
  | none=>[]
def w7a (ds:List DOper):List Nat:=(List.range ds.length).filter fun i=>match ds[i]? with
 | some o=>!o.op.isCall && decide (2≤o.op.cls) && (match o.op with | .callv ..=>false|_=>true)
 | none=>false
def w2D (ds:List DOper) (deps:List (List Nat)) (i s:Nat):Bool:=(List.range ds.length).any fun k=>(k == i || (deps.getD k []).contains i) && match ds[k]? with
 | some z=>z.dst.slot == some s
 | none=>false
def w1V (ds:List DOper) (deps:List (List Nat)) (tv fr:Fr) (i o:Nat):Bool :=
 (fr.all fun e=>!e.2.has o || w2D ds deps i e.1) && (List.range ds.length).all fun j=>j == i || (deps.getD i []).contains j || match ds[j]? with
  | some y=>y.op.opds.all fun p=>!(ev tv fr p).has o || (match p.slot with|some s=>w2D ds deps i s|none=>true)
  | none=>true
def w5d (ce:CE) (cal:Nat→Bool) (ds:List DOper) (deps:List (List Nat)) (tv fr:Fr) (H H':Hp) (i:Nat) (x:DOper):Bool:=match w5o ce cal tv fr H x with
 | some z=>(match x.dst with | .t k=>dvB z.1 (lk tv k) | .x k=>dvB z.1 (lk fr k) | .no=>true) && (match z.2 with
  | .no=>hpB H H'
  | .app o c=>hpB ((Eff.app o c).onL H) H' && w1V ds deps tv fr i o
  | ef=>hpB (ef.onL H) H')
 | none=>false
def evI (ce:CE) (cal:Nat→Bool) (own:List Nat) (t:DT) (fr:Fr) (H:Hp):Option (Fr × Hp) :=
 (w7l ce cal t.iops [] fr H).bind fun z =>
  let eff:=w7a t.iops
  if !own.contains 1000003 && (eff.all fun e=>decide (e<t.iops.length)) && ((z.1.all fun e=>(List.range t.iops.length).any fun k=>match t.iops[k]? with|some y=>y.dst.slot == some e.1|none=>false)) &&
   ((fr.all fun e=>dvB (lk z.2 e.1) (lk fr e.1) || (List.range t.iops.length).any fun k=>match t.iops[k]? with|some y=>y.dst.slot == some e.1|none=>false)) &&
   ((z.2.all fun e=>dvB (lk z.2 e.1) (lk fr e.1) || (List.range t.iops.length).any fun k=>match t.iops[k]? with|some y=>y.dst.slot == some e.1|none=>false)) &&
   ((y3o eff).all fun B=>(List.range t.iops.length).all fun i=>!okI t.ideps eff B i || (match t.iops[i]? with
    | some x=>w5d ce cal t.iops t.ideps z.1 z.2 (hpI ce cal t.iops z.1 z.2 B H) (hpI ce cal t.iops z.1 z.2 (x53 eff B i) H) i x
    | none=>true)) then some (z.2,hpI ce cal t.iops z.1 z.2 eff H) else none
theorem y9s {fr:Fr} {s:Nat} (h:∀e∈fr,e.1≠s):lk fr s=.undef:=by
 induction fr with
 | nil=>rfl
 | cons e r ih =>
  obtain ⟨k,d⟩:=e
  simp only [lk]
  rw [if_neg (h (k,d) (.head _))]
  exact ih fun e he=>h e (.tail _ he)
theorem x4K {H:Hp} (h:w4G H=true):H=[]:=by cases H<;>first|rfl|cases h
theorem x1R {F:FnD} {ce:CE} (hce:z5s F.P ce) {cal:Nat→Bool} (hcal:∀f,cal f=true→z0U F.P f) {tv fr:Fr} {H:Hp} {x:DOper} {d:DV} {ef:Eff} (htg:x.tags F.vs=true) (h:w5o ce cal tv fr H x=some (d,ef)):goD F x (den F.vs tv fr) (lkH H) d ef∨(goV F x (den F.vs tv fr) d∧ef=.no):=by
 simp only [DOper.tags,Bool.and_eq_true] at htg
 have hev:∀p∈x.op.opds,ev tv fr p=evS (den F.vs tv fr) p:=fun p hp=>z8X (List.all_eq_true.1 htg.1.2 p hp)
 unfold w5o at h
 cases hop:x.op with
 | call f args =>
  rw [hop] at h hev
  have hm:args.map (ev tv fr)=args.map (evS (den F.vs tv fr)):=List.map_congr_left fun p hp=>hev p hp
  simp only at h
  rw [hm,zO3] at h
  obtain ⟨⟨r,H1⟩,h1,h2⟩:=h
  split at h2
  ·rename_i hc
   simp only [Bool.and_eq_true] at hc
   cases h2
   have hn:H1=[]:=x4K hc.1.1
   subst hn
   refine .inl ?_
   unfold goD
   rw [hop]
   exact ⟨z4F (hce _ _ _ _ _ h1) hc.1.2,hc.2,rfl⟩
  ·cases h2
 | callv y args =>
  rw [hop] at h hev
  have hm:args.map (ev tv fr)=args.map (evS (den F.vs tv fr)):=List.map_congr_left fun p hp=>hev p (by simp [DOp.opds,hp])
  have hy:ev tv fr y=evS (den F.vs tv fr) y:=hev y (by simp [DOp.opds])
  have key:∀g cs,z6N (evS (den F.vs tv fr) y) g cs→(if cal g then (ce g (args.map (ev tv fr)++cs) []).bind fun r=>if w4G r.2 && r.1.rf && (args.map (ev tv fr)++cs).all DV.rf then some (r.1,Eff.no) else none else none)=some (d,ef)→goD F x (den F.vs tv fr) (lkH H) d ef∨(goV F x (den F.vs tv fr) d∧ef=.no):=fun g cs hclo h=>by
   split at h
   ·rename_i hg
    rw [hm,zO3] at h
    obtain ⟨⟨r,H1⟩,h1,h2⟩:=h
    split at h2
    ·rename_i hc
     simp only [Bool.and_eq_true] at hc
     cases h2
     have hn:H1=[]:=x4K hc.1.1
     subst hn
     refine .inr ⟨?_,rfl⟩
     unfold goV
     rw [hop]
     exact ⟨g,cs,hclo,hcal g hg,z4F (hce _ _ _ _ _ h1) hc.1.2,hc.2⟩
    ·cases h2
   ·cases h
  simp only at h
  split at h
  ·rename_i g cs hx;rw [hy] at hx;exact key g cs (.inl hx) h
  ·rename_i g hx;rw [hy] at hx;exact key g [] (.inr ⟨hx,rfl⟩) h
  ·cases h
 | _ =>
  rw [hop] at h hev
  refine .inl ?_
  unfold goD
  rw [hop]
  simp only
  rw [←z3w hev]
  exact x9l _ _ _ _ h
theorem x2f {ds:List DOper} {s:Nat} (h:((List.range ds.length).any fun k=>match ds[k]? with|some y=>y.dst.slot == some s|none=>false)=true):∃k,x6y ds s k:=by
 obtain ⟨k,_,hk⟩:=List.any_eq_true.1 h
 cases hq:ds[k]? with
 | none=>rw [hq] at hk;cases hk
 | some y=>rw [hq] at hk;exact ⟨k,y,hq,by simpa using hk⟩
theorem w2Z {ds:List DOper} {deps:List (List Nat)} {i s:Nat} {x:DOper} (hx:ds[i]? = some x) (h1:x.dst.slot≠some s) (h2:∀k,x6y ds s k→i∉deps.getD k []):w2D ds deps i s=false:=by
 cases hq:w2D ds deps i s with
 | false=>rfl
 | true =>
  obtain ⟨k,_,hk⟩:=List.any_eq_true.1 hq
  rw [Bool.and_eq_true] at hk
  obtain ⟨hk1,hk2⟩:=hk
  cases hz:ds[k]? with
  | none=>rw [hz] at hk2;cases hk2
  | some z =>
   rw [hz] at hk2
   simp only [beq_iff_eq] at hk2
   rcases Bool.or_eq_true _ _ |>.mp hk1 with h|h
   ·rw [beq_iff_eq] at h
    subst h
    rw [hx] at hz;cases hz
    exact absurd hk2 h1
   ·exact absurd (List.contains_iff_mem.1 h) (h2 k ⟨z,hz,hk2⟩)
theorem x7Y {F:FnD} {ds:List DOper} {deps:List (List Nat)} {tv fr:Fr} {i o:Nat} {x:DOper} (hx:ds[i]? = some x) (htv:∀y∈ds,y.tags F.vs=true) (h:w1V ds deps tv fr i o=true):w2Q ds deps (fun s=>F.vs.contains s=true) (den F.vs tv fr) i x o:=by
 intro s h1 h2 h3
 have ha:=w2Z hx h1 h2
 simp only [w1V,Bool.and_eq_true] at h
 have hfr:∀s,w2D ds deps i s=false→(lk fr s).has o=false:=fun s ha=>by
  by_cases hm:∃e∈fr,e.1=s
  ·have:∀(r:Fr),(∀e∈r,(!e.2.has o || w2D ds deps i e.1)=true)→(lk r s).has o=false:=by
    intro r
    induction r with
    | nil=>intro _;rfl
    | cons e r ih =>
     intro hr
     obtain ⟨k,d⟩:=e
     simp only [lk]
     split
     ·rename_i e;subst e
      have:=hr (k,d) (.head _)
      simp only [ha,Bool.or_false,Bool.not_eq_true'] at this
      exact this
     ·exact ih fun e he=>hr e (.tail _ he)
   exact this fr fun e he=>List.all_eq_true.1 h.1 e he
  ·rw [y9s fun e he e2=>hm ⟨e,he,e2⟩];rfl
 rcases h3 with h3|⟨j,hj1,hj2,y,hy,hys⟩
 ·simp only [den,h3,if_true]
  exact hfr s ha
 ·have h4:=List.all_eq_true.1 h.2 j (List.mem_range.2 (List.getElem?_eq_some_iff.1 hy).1)
  have e1:(j == i)=false:=by simpa using hj1
  have e2:(deps.getD i []).contains j=false:=by
   cases hq:(deps.getD i []).contains j with
   | false=>rfl
   | true=>exact absurd (List.contains_iff_mem.1 hq) hj2
  rw [e1,e2,hy] at h4
  simp only [Bool.false_or] at h4
  obtain ⟨p,hp,hps⟩:=List.mem_filterMap.1 hys
  have h5:=List.all_eq_true.1 h4 p hp
  rw [hps] at h5
  simp only [ha,Bool.or_false,Bool.not_eq_true'] at h5
  have htg:=htv y (List.mem_of_getElem? hy)
  simp only [DOper.tags,Bool.and_eq_true] at htg
  have:=z8X (te:=tv) (fr:=fr) (List.all_eq_true.1 htg.1.2 p hp)
  rw [this] at h5
  cases p with
  | c d=>cases hps
  | x k=>cases hps;exact h5
  | t k=>cases hps;exact h5
theorem x2K {F:FnD} {ce:CE} (hce:z5s F.P ce) {cal:Nat→Bool} (hcal:∀f,cal f=true→z0U F.P f) {t:DT} {fr:Fr} {H:Hp} {fr':Fr} {H':Hp} (h:evI ce cal F.own t fr H=some (fr',H')) {Q:Ex→Fr→Hp→Prop} (hQ:Q .norm fr' H'):W F (.rego (.alt .no t)) Q fr H:=by
 unfold evI at h
 rw [zO3] at h
 obtain ⟨⟨tv,fr2⟩,_,h⟩:=h
 simp only at h
 split at h
 ·rename_i hc
  simp only [Bool.and_eq_true] at hc
  obtain ⟨⟨⟨⟨⟨c1,c2⟩,c3⟩,c4⟩,c5⟩,c6⟩:=hc
  simp only [Option.some.injEq,Prod.mk.injEq] at h
  obtain ⟨rfl,rfl⟩:=h
  refine x8y tv fr2 (w7a t.iops) (fun B=>hpI ce cal t.iops tv fr2 B H) (fun e he=>of_decide_eq_true (List.all_eq_true.1 c2 e he)) rfl (fun s hs=>?_) (fun B hB i x hx htgs hk=>?_) hQ (by simpa using c1)
  ·have nod:∀(r:Fr),(∀e∈r,(dvB (lk fr2 e.1) (lk fr e.1) || (List.range t.iops.length).any fun k=>match t.iops[k]? with|some y=>y.dst.slot == some e.1|none=>false)=true)→(∃e∈r,e.1=s)→lk fr2 s=lk fr s:=by
    rintro r hr ⟨e,he,rfl⟩
    rcases Bool.or_eq_true _ _ |>.mp (hr e he) with h|h
    ·exact z7u h
    ·obtain ⟨k,hk⟩:=x2f h
     exact absurd hk (hs k)
   simp only [den]
   split
   ·by_cases h1:∃e∈fr,e.1=s
    ·exact nod fr (fun e he=>List.all_eq_true.1 c4 e he) h1
    ·by_cases h2:∃e∈fr2,e.1=s
     ·exact nod fr2 (fun e he=>List.all_eq_true.1 c5 e he) h2
     ·rw [y9s fun e he e2=>h1 ⟨e,he,e2⟩,y9s fun e he e2=>h2 ⟨e,he,e2⟩]
   ·rw [y9s (fr:=tv) fun e he e2=>by
     obtain ⟨k,hk⟩:=x2f (List.all_eq_true.1 c3 e he)
     rw [e2] at hk
     exact hs k hk]
    rfl
  ·have h1:=List.all_eq_true.1 (List.all_eq_true.1 c6 B hB) i (List.mem_range.2 (List.getElem?_eq_some_iff.1 hx).1)
   rw [hk,hx] at h1
   simp only [Bool.not_true,Bool.false_or] at h1
   unfold w5d at h1
   split at h1
   ·rename_i z hz
    obtain ⟨d,ef⟩:=z
    simp only [Bool.and_eq_true] at h1
    obtain ⟨h2,h3⟩:=h1
    have htg:=htgs x (List.mem_of_getElem? hx)
    have htg2:=htg
    simp only [DOper.tags,Bool.and_eq_true] at htg2
    refine ⟨d,ef,x1R hce hcal htg hz,fun s hs=>?_,?_,?_⟩
    ·have hd:=htg2.1.1
     cases hxd:x.dst with
     | no=>rw [hxd] at hs;cases hs
     | x k =>
      rw [hxd] at hs hd h2
      cases hs
      simp only [w2I] at hd
      simp only [den,hd,if_true]
      exact z7u h2
     | t k =>
      rw [hxd] at hs hd h2
      cases hs
      simp only [w2I,Bool.not_eq_true'] at hd
      simp only [den,hd,Bool.false_eq_true,if_false]
      exact z7u h2
    ·rw [←y2L]
     cases ef with
     | no=>simp only at h3;rw [←y1r h3];rfl
     | app o c=>simp only [Bool.and_eq_true] at h3;rw [←y1r h3.1]
     | set o c=>simp only at h3;rw [←y1r h3]
     | new o c=>simp only at h3;rw [←y1r h3]
    ·rintro o c rfl
     simp only [Bool.and_eq_true] at h3
     exact x7Y hx htgs h3.2
   ·cases h1
 ·cases h
def evO (ce:CE) (cal:Nat→Bool) (own:List Nat) (tr:DT) (fr:Fr) (H:Hp):Option (Fr × Hp):=match tr with
 | .alt .no t=>evI ce cal own t fr H
 | tr=>evT ce tr [] fr H
theorem x2L {F:FnD} (hF:F.pure=false) {ce:CE} (hce:z5s F.P ce) {cal:Nat→Bool} (hcal:∀f,cal f=true→z0U F.P f) {tr:DT} {fr:Fr} {H:Hp} {fr':Fr} {H':Hp} (h:evO ce cal F.own tr fr H=some (fr',H')) {Q:Ex→Fr→Hp→Prop} (hQ:Q .norm fr' H'):W F (.rego tr) Q fr H:=by
 unfold evO at h
 split at h
 ·exact x2K hce hcal h hQ
 ·exact x8z (z4l hF hce tr [] fr H _ _ h (fun fr H=>Q .norm fr H) hQ) hF
end Go.Dat
namespace Go.Dat
open Go
inductive EX where
 | norm
 | exit (j:Nat)
 | ret
def EX.ex:EX→Ex
 | .norm=>.norm
 | .exit j=>.exit j
 | .ret=>.ret
structure EF where
 fn:FnD
 c:DC
 rv:List RV
def y5X:List (Nat × EF)→Nat→Option EF
 | [],_=>none
 | (g,e)::r,f=>if g=f then some e else y5X r f
structure EOK (P:Program) (f:Nat) (e:EF):Prop where
 prog:e.fn.P=P
 pure:e.fn.pure=false
 is:IsFn e.fn f e.c e.rv
 call:z0U P f
abbrev Tb:=List (Nat × EF) × List (Nat × (List DV→Option DV))
structure TOK (P:Program) (t:Tb):Prop where
 fn:∀f e,y5X t.1 f=some e→EOK P f e
 kn:∀f φ,(f,φ)∈t.2→∀ds r,φ ds=some r→z0c P f ds r
theorem TOK.nil {P:Program}:TOK P ([],[]):=⟨(fun f e h=>by cases h),(fun f l h=>by cases h)⟩
theorem TOK.cons {P:Program} {t:Tb} {f:Nat} {e:EF} (h:EOK P f e) (ht:TOK P t):TOK P ((f,e)::t.1,t.2):=⟨fun g e' h'=>by
 simp only [y5X] at h'
 split at h'
 ·rename_i hg;subst hg;cases h';exact h
 ·exact ht.fn g e' h',ht.kn⟩
theorem TOK.ext {P:Program} {t:Tb} {f:Nat} {φ:List DV→Option DV} (h:∀ds r,φ ds=some r→z0c P f ds r) (ht:TOK P t):TOK P (t.1,(f,φ)::t.2):=⟨ht.fn,fun g ψ hm=>by
 rcases List.mem_cons.1 hm with e|hm
 ·cases e;exact h
 ·exact ht.kn g ψ hm⟩
def x2S:List (Nat × (List DV→Option DV))→Nat→List DV→Option DV
 | [],_,_=>none
 | (g,φ)::t,f,ds=>if g=f then match φ ds with
   | some r=>some r
   | none=>x2S t f ds
  else x2S t f ds
theorem z80:∀{t:List (Nat × (List DV→Option DV))} {f:Nat} {ds:List DV} {r:DV},x2S t f ds=some r→∃φ,(f,φ)∈t∧φ ds=some r
 | (g,φ)::t,f,ds,r,h=>by
  simp only [x2S] at h
  split at h
  ·rename_i hg
   subst hg
   split at h
   ·rename_i s hs;cases h;exact ⟨φ,List.mem_cons_self,hs⟩
   ·obtain ⟨ψ,h1,h2⟩:=z80 h;exact ⟨ψ,List.mem_cons_of_mem _ h1,h2⟩
  ·obtain ⟨ψ,h1,h2⟩:=z80 h;exact ⟨ψ,List.mem_cons_of_mem _ h1,h2⟩
def w3n (t:Tb) (f:Nat) (ds:List DV) (H:Hp):Option DV:=if H.isEmpty && ds.all DV.rf then x2S t.2 f ds else none
theorem x16 {P:Program} {f:Nat} {ds:List DV} {r:DV} (hd:ds.all DV.rf=true) (h:z0c P f ds r):y7S P f ds [] fun a b=>a=r∧b=[]:=by
 intro S L w us hT _ hH hS hs hv
 have hL:∀o b,L o≠some b:=fun o b h=>by
  obtain ⟨c,hc⟩:=hH.dom o b h
  cases hc
 refine (h S w us hT hS hs fun k d v h1 h2=>((hv k d v h1 h2).rf_imm (List.all_eq_true.1 hd d (List.mem_of_getElem? h1))).mono fun b _ hb=>⟨rfl,fun h'=>hb (.inl h')⟩).mono ?_
 rintro e w' ⟨v,rfl,hV,hx⟩
 refine ⟨v,fun _=>none,r,[],⟨rfl,rfl⟩,rfl,⟨(by intro o b h;cases h),(by intro o c h;cases h),(by intro o p b h;cases h),(by intro o b h;cases h),(by intro o b h;cases h)⟩,.imm (hV.mono fun b _ hb=>⟨rfl,fun h'=>?_⟩),hx.mono fun k _ h=>h.elim,fun o b h=>absurd h (hL o b),(by intro o b h;cases h),fun b hb=>z0A (hx.block b hb id)⟩
 rcases h' with h'|⟨o,h'⟩
 ·exact hb h'
 ·cases h'
def x9X (fr:Fr) (o:Nat) (cs:List DV):Bool:=decide (o<1048576) && cs.all DV.rf && fr.all fun p=>match p.2 with | .ptr q _=>!(q == o)|_=>true
def x8L (fr:Fr):Hp→Option Nat
 | []=>none
 | (o,cs)::r=>if x9X fr o cs then some o else x8L fr r
def x0s:Nat→Fr→Hp→Fr × Hp
 | 0,fr,H=>(fr,H)
 | n+1,fr,H=>match x8L fr H with
  | none=>(fr,H)
  | some o=>match lkH H o with
   | none=>(fr,H)
   | some cs=>if x9X fr o cs then x0s n (z0J (frz o cs) fr) (rmH o cs H) else (fr,H)
theorem z9m {F:FnD} {c:DC} {Q:Ex→Fr→Hp→Prop}:∀(n:Nat) (fr:Fr) (H:Hp),W F c Q (x0s n fr H).1 (x0s n fr H).2→W F c Q fr H
 | 0,fr,H,h=>h
 | n+1,fr,H,h=>by
  simp only [x0s] at h
  split at h
  ·exact h
  ·rename_i o hfind
   split at h
   ·exact h
   ·rename_i cs hcs
    split at h
    ·rename_i hc
     simp only [x9X,Bool.and_eq_true,decide_eq_true_eq] at hc
     exact z0I o hcs hc.1.2 (z9m n _ _ h) hc.1.1
    ·exact h
abbrev EvC:=FnD→DC→Fr→Hp→Nat→Option (EX × Fr × Hp × Nat)
def z4n (H:Hp):List (Nat × Nat):=(z3t H).map fun o=>(o,o)
def w0h (t:Tb) (rec:EvC) (k:Nat):CE:=fun f ds H=>match w3n t f ds H with
 | some r=>some (r,[])
 | none=>(y5X t.1 f).bind fun e=>if ds.length≤e.fn.n then (rec e.fn e.c (z0u 0 ds) H k).bind fun x=>match x with
  | (.exit _,_,_,_)=>none
  | (_,fr',H',_)=>(z4y fr' H' e.rv).bind fun rs =>
   if z3f (z4n H) && (z3t H).all (fun o=>decide (1048576≤o) && (lkH H' o).isSome) then some (rn (look (z4n H)) (y5a rs),x44 (look (z4n H)) (z4n H) H') else none
 else none
def y5L:List DOper→Option (List DOper × Dst × Opd × List Opd × List DOper)
 | []=>none
 | ⟨dst,.callv x args,none⟩::os=>some ([],dst,x,args,os)
 | o::os=>(y5L os).map fun z=>(o::z.1,z.2)
theorem y5M:∀{ops d0 d1:List DOper} {dst:Dst} {x:Opd} {args:List Opd},y5L ops=some (d0,dst,x,args,d1)→ops=d0++⟨dst,.callv x args,none⟩::d1
 | [],_,_,_,_,_,h=>by cases h
 | o::os,d0,d1,dst,x,args,h=>by
  have gen:∀{z:Option (List DOper × Dst × Opd × List Opd × List DOper)},z=y5L os→(z.map fun z=>(o::z.1,z.2))=some (d0,dst,x,args,d1)→o::os=d0++⟨dst,.callv x args,none⟩::d1:=by
   intro z hz hm
   rw [zO2] at hm
   obtain ⟨⟨a,b1,b2,b3,b4⟩,h1,h2⟩:=hm
   cases h2
   rw [h1] at hz
   rw [y5M hz.symm];rfl
  obtain ⟨dst',op,g⟩:=o
  cases op with
  | callv x' args' =>
   cases g with
   | none=>simp only [y5L,Option.some.injEq,Prod.mk.injEq] at h;obtain ⟨rfl,rfl,rfl,rfl,rfl⟩:=h;rfl
   | some g=>exact gen rfl h
  | _=>exact gen rfl h
def evV (t:Tb) (ce:CE) (ops:List DOper) (fr:Fr) (H:Hp):Option (Fr × Fr × Hp):=match y5L ops with
 | none=>evR ce false ops [] fr H
 | some (d0,dst,x,args,d1)=>(evR ce false d0 [] fr H).bind fun z=>match ev z.1 z.2.1 x with
  | .clo g cs=>if (y5X t.1 g).isSome then (x0p ce false g (args.map (ev z.1 z.2.1)++cs) z.2.2).bind fun r=>evR ce false d1 (dst.onT z.1 r.1) (dst.onX z.2.1 r.1) r.2 else none
  | .fn g=>if (y5X t.1 g).isSome then (x0p ce false g (args.map (ev z.1 z.2.1)++[]) z.2.2).bind fun r=>evR ce false d1 (dst.onT z.1 r.1) (dst.onX z.2.1 r.1) r.2 else none
  | _=>none
theorem x2N {P:Program} {t:Tb} (ht:TOK P t) {F:FnD} (hP:F.P=P) (hF:F.pure=false) {ce:CE} (hce:z5s P ce) {ops:List DOper} {fr:Fr} {H:Hp} {te' fr':Fr} {H':Hp} (h:evV t ce ops fr H=some (te',fr',H')) (Q:Ex→Fr→Hp→Prop) (hQ:Q .norm fr' H'):W F (.reg ops) Q fr H:=by
 subst hP
 unfold evV at h
 split at h
 ·exact z0g (z2S hF hce ops [] fr H te' fr' H' h _ hQ)
 ·rename_i d0 dst x args d1 hsp
  rw [zO3] at h
  obtain ⟨⟨te1,fr1,H1⟩,h1,h2⟩:=h
  refine z3D d0 d1 dst x args (y5M hsp) (z2S hF hce d0 [] fr H te1 fr1 H1 h1 _ ?_)
  have key:∀{g:Nat} {cs:List DV},z6N (ev te1 fr1 x) g cs→(if (y5X t.1 g).isSome then (x0p ce false g (args.map (ev te1 fr1)++cs) H1).bind fun r=>evR ce false d1 (dst.onT te1 r.1) (dst.onX fr1 r.1) r.2 else none)=some (te',fr',H') →
    ∃ f cs,z6N (ev te1 fr1 x) f cs∧z0U F.P f∧z3r F f (args.map (ev te1 fr1)++cs) te1 fr1 H1 fun d te' fr' H'=>z1l F d1 (dst.onT te' d) (dst.onX fr' d) H' fun _ fr H=>Q .norm fr H:=by
   intro g cs hc hm
   split at hm
   ·rename_i hg
    obtain ⟨e,he⟩:=Option.isSome_iff_exists.1 hg
    rw [zO3] at hm
    obtain ⟨⟨r,H2⟩,g1,g2⟩:=hm
    exact ⟨g,cs,hc,(ht.fn g e he).call,z8q (os:=d1) (dst:=dst) (K:=fun _ fr H=>Q .norm fr H) hF hce g1 (z2S hF hce d1 _ _ _ te' fr' H' g2 _ hQ)⟩
   ·cases hm
  simp only at h2
  split at h2
  ·rename_i g cs hx;exact key (.inl hx) h2
  ·rename_i g hx;exact key (.inr ⟨hx,rfl⟩) h2
  ·cases h2
def w5S (fr:Fr) (H:Hp):List DOper→Option Nat
 | []=>none
 | o::os=>match o.op with
  | .mkf _ ps=>match ps.findSome? fun p=>match ev [] fr p with
    | .ptr q _=>match lkH H q with
     | some cs=>if decide (q<1048576) && cs.all DV.rf then some q else none
     | none=>none
    | _=>none with
   | some q=>some q
   | none=>w5S fr H os
  | _=>w5S fr H os
def w7j (fr:Fr) (ops:List DOper):Opd→Option Nat
 | .t a=>ops.findSome? fun p=>match p.op with
  | .mv (.x k)=>if p.dst.slot == some a then (match lk fr k with | .osl _ q _ _=>some q|_=>none) else none
  | _=>none
 | .x k=>(match lk fr k with | .osl _ q _ _=>some q|_=>none)
 | _=>none
def w7E (fr:Fr) (ops:List DOper):Option Nat:=ops.findSome? fun o=>match o.op with
 | .slc _ x _ _=>w7j fr ops x
 | .bsl _ _ ps=>ps.findSome? fun p=>w7j fr ops p.2.2
 | _=>none
def w5z (fr:Fr) (H:Hp) (ops:List DOper):Option (Fr × Hp):=match w7E fr ops with
 | some o=>match lkH H o with
  | some cs=>if decide (o<1048576) && cs.all DV.rf then some (z0J (z2e o cs) fr,rmH o cs H) else none
  | none=>none
 | none=>none
theorem y1m {F:FnD} {c:DC} {Q:Ex→Fr→Hp→Prop} {fr:Fr} {H:Hp} {ops:List DOper} {z:Fr × Hp} (h:w5z fr H ops=some z) (hw:W F c Q z.1 z.2):W F c Q fr H:=by
 unfold w5z at h
 split at h
 ·rename_i o ho
  split at h
  ·rename_i cs hcs
   split at h
   ·rename_i hc
    cases h
    simp only [Bool.and_eq_true,decide_eq_true_eq] at hc
    exact z1P o hcs hc.2 hw hc.1
   ·cases h
  ·cases h
 ·cases h
def DT.iopsO:DT→List DOper
 | .alt .no t=>t.iops
 | _=>[]
def x6P (H:Hp):Bool:=(z3t H).any fun o=>decide (o<1000)
def w42 (k:Nat) (fr:Fr) (H:Hp) (go:Fr→Hp→Nat→Option (EX × Fr × Hp × Nat)):Option (EX × Fr × Hp × Nat) :=
 if x6P H then
  if z3f (z7C k (z3t H)) && w1f (z7C k (z3t H)) && decide ((z7C k (z3t H)).map Prod.fst=z3t H) then
   go (z0J (rn (look (z7C k (z3t H)))) fr) (x44 (look (z7C k (z3t H))) (z7C k (z3t H)) H) (k+H.length)
  else none
 else go fr H k
def y3m:Fr→Bool
 | []=>true
 | [_]=>true
 | (a,_)::(b,d)::r=>decide (a<b) && y3m ((b,d)::r)
theorem y9Z:∀{r:Fr} {a:Nat} {d:DV},y3m ((a,d)::r)=true→∀p∈r,a<p.1
 | [],_,_,_,p,hp=>by cases hp
 | (b,e)::r,a,d,h,p,hp=>by
  simp only [y3m,Bool.and_eq_true,decide_eq_true_eq] at h
  rcases List.mem_cons.1 hp with rfl|hp
  ·exact h.1
  ·have:=y9Z h.2 p hp;omega
theorem y91 {fr:Fr}:∀{r:Fr},(∀p∈r,lk fr p.1=p.2)→z0y fr r
 | [],_=>trivial
 | (k,d)::r,h=>⟨h (k,d) List.mem_cons_self,y91 fun p hp=>h p (List.mem_cons_of_mem _ hp)⟩
theorem y5K {fr:Fr} (h:y3m fr=true):z0y fr fr:=by
 refine y91 ?_
 induction fr with
 | nil=>intro p hp;cases hp
 | cons x r ih =>
  obtain ⟨a,d⟩:=x
  intro p hp
  rcases List.mem_cons.1 hp with rfl|hp
  ·simp [lk]
  ·have h1:=y9Z h p hp
   have h2:y3m r=true:=by
    cases r with
    | nil=>rfl
    | cons y r =>
     obtain ⟨b,e⟩:=y
     simp only [y3m,Bool.and_eq_true] at h
     exact h.2
   simp only [lk]
   rw [if_neg (by omega)]
   exact ih h2 p hp
def z2D (t:Tb) (rec:EvC):EvC:=fun F c fr H k=>match c with
 | .skip=>some (.norm,fr,H,k)
 | .reg ops=>match w5S fr H ops with
  | some o=>match lkH H o with
   | some cs=>if decide (o<1048576) && cs.all DV.rf then rec F (.reg ops) (z0J (z2e o cs) fr) (rmH o cs H) k else none
   | none=>none
  | none=>match w42 k fr H fun fr H k=>(evV t (w0h t rec k) ops fr H).map fun z=>(.norm,z.2.1,z.2.2,k) with
   | some z=>some z
   | none=>(w5z fr H ops).bind fun z=>rec F (.reg ops) z.1 z.2 k
 | .regd ops=>w42 k fr H fun fr H k=>(evR (w0h t rec k) true ops [] fr H).map fun z=>(.norm,z.2.1,z.2.2,k)
 | .rego tr=>match w42 k fr H fun fr H k=>(evO (w0h t rec k) (fun g=>(y5X t.1 g).isSome) F.own tr fr H).map fun z=>(.norm,z.1,z.2,k) with
  | some z=>some z
  | none=>(w5z fr H tr.iopsO).bind fun z=>rec F (.rego tr) z.1 z.2 k
 | .seq a b=>(rec F a fr H k).bind fun x=>match x with
  | (.norm,fr1,H1,k1)=>rec F b fr1 H1 k1
  | x=>some x
 | .cond c a b=>match ev [] fr c with
  | .bool true=>rec F a fr H k
  | .bool false=>rec F b fr H k
  | _=>none
 | .block id b=>(rec F b fr H k).map fun x=>match x with
  | (.exit j,fr,H,k)=>(if j=id then .norm else .exit j,fr,H,k)
  | x=>x
 | .loop b=>if y3m fr then (rec F b fr H k).bind fun x=>match x with
  | (.norm,fr1,H1,k1)=>rec F (.loop b) fr1 H1 k1
  | x=>some x
  else none
 | .exit i=>some (.exit i,fr,H,k)
 | .ret=>some (.ret,(x0s 60 fr H).1,(x0s 60 fr H).2,k)
 | _=>none
noncomputable def evN (t:Tb) (n:Nat):EvC:=Nat.rec (fun _ _ _ _ _=>none) (fun _ rec=>z2D t rec) n
theorem x97 (t:Tb) (F:FnD) (c:DC) (fr:Fr) (H:Hp) (k:Nat):evN t 0 F c fr H k=none:=rfl
theorem y2d (t:Tb) (n:Nat):evN t (n+1)=z2D t (evN t n):=rfl
def y7R (P:Program) (rec:EvC):Prop:=∀F c fr H k e fr' H' k',F.P=P→F.pure=false→rec F c fr H k=some (e,fr',H',k')→∀Q:Ex→Fr→Hp→Prop,Q e.ex fr' H'→W F c Q fr H
theorem z9s {H:Hp} (o:Nat):look (z4n H) o=if o∈z3t H then some o else none:=by
 unfold z4n
 split
 ·rename_i h
  obtain ⟨q,h1,h2⟩:=z50 (g:=fun o=>o) h
  rw [h1,h2]
 ·rename_i h;exact z19 h
theorem z5U {P:Program} {t:Tb} {rec:EvC} (ht:TOK P t) (hr:y7R P rec) (k:Nat):z5s P (w0h t rec k):=by
 intro f ds H r H' h
 unfold w0h at h
 split at h
 ·rename_i s hs
  cases h
  unfold w3n at hs
  split at hs
  ·rename_i hH
   rw [Bool.and_eq_true,List.isEmpty_iff] at hH
   obtain ⟨rfl,hrf⟩:=hH
   obtain ⟨φ,h1,h2⟩:=z80 hs
   exact x16 hrf (ht.kn _ _ h1 _ _ h2)
  ·cases hs
 rw [zO3] at h
 obtain ⟨e,he,h⟩:=h
 obtain ⟨hP,hpu,his,_⟩:=ht.fn f e he
 split at h
 ·rename_i hn
  rw [zO3] at h
  obtain ⟨⟨x,fr1,H1,k1⟩,h1,h2⟩:=h
  have fin:(x=.norm∨x=.ret)→((z4y fr1 H1 e.rv).bind fun rs =>
    if z3f (z4n H) && (z3t H).all (fun o=>decide (1048576≤o) && (lkH H1 o).isSome) then some (rn (look (z4n H)) (y5a rs),x44 (look (z4n H)) (z4n H) H1) else none)=some (r,H')→y7S P f ds H fun a b=>a=r∧b=H':=by
   intro hx h2
   rw [zO3] at h2
   obtain ⟨rs,hrs,h2⟩:=h2
   split at h2
   ·rename_i hc
    cases h2
    simp only [Bool.and_eq_true,List.all_eq_true,decide_eq_true_eq] at hc
    obtain ⟨c2,c3⟩:=hc
    have hl:=z2u c2
    have hq:∀q,lkH (x44 (look (z4n H)) (z4n H) H1) q=if q∈z3t H then (lkH H1 q).map (List.map (rn (look (z4n H)))) else none:=fun q=>by
     rw [z4J]
     by_cases hm:q∈z3t H
     ·have:=(hl q q).1 (by rw [z9s,if_pos hm])
      rw [this,if_pos hm]
      obtain ⟨cs,hcs⟩:=Option.isSome_iff_exists.1 (c3 q hm).2
      simp only [Option.map_some,hcs,Option.getD_some,rnM]
     ·rw [if_neg hm]
      cases hu:z1N (z4n H) q with
      | none=>rfl
      | some p =>
       have:=(hl p q).2 hu
       rw [z9s] at this
       split at this
       ·rename_i hp;cases this;exact absurd hp hm
       ·cases this
    have hnm:nmH (x44 (look (z4n H)) (z4n H) H1)=look (z4n H):=funext fun o=>by
     unfold nmH
     rw [hq,z9s]
     by_cases hm:o∈z3t H
     ·rw [if_pos hm,if_pos hm]
      obtain ⟨cs,hcs⟩:=Option.isSome_iff_exists.1 (c3 o hm).2
      rw [hcs];rfl
     ·rw [if_neg hm,if_neg hm];rfl
    rw [←hP]
    refine z8i his hn (hr _ _ _ _ _ _ _ _ _ hP hpu h1 _ ⟨?_,rs,_,_,⟨rfl,rfl⟩,fun o _ hs=>?_,hrs,?_,fun o c ho=>?_⟩)
    ·rcases hx with rfl|rfl
     ·exact .inl rfl
     ·exact .inr rfl
    ·have hm:=z2s.1 hs
     rw [hq,if_pos hm]
     obtain ⟨cs,hcs⟩:=Option.isSome_iff_exists.1 (c3 o hm).2
     rw [hcs];rfl
    ·rw [hnm]
    ·rw [hnm]
     rw [hq] at ho
     split at ho
     ·rw [zO2] at ho
      obtain ⟨c0,g1,g2⟩:=ho
      exact ⟨c0,g1,g2⟩
     ·cases ho
   ·cases h2
  cases x with
  | norm=>exact fin (.inl rfl) h2
  | ret=>exact fin (.inr rfl) h2
  | exit j=>cases h2
 ·cases h
theorem z9M {F:FnD} {c:DC} {fr:Fr} {H:Hp} {k:Nat} {go:Fr→Hp→Nat→Option (EX × Fr × Hp × Nat)} {z:EX × Fr × Hp × Nat} (h:w42 k fr H go=some z) {Q:Ex→Fr→Hp→Prop} (hg:∀fr H k,go fr H k=some z→W F c Q fr H):W F c Q fr H:=by
 unfold w42 at h
 split at h
 ·split at h
  ·rename_i hc
   simp only [Bool.and_eq_true,decide_eq_true_eq] at hc
   obtain ⟨⟨c1,c2⟩,c3⟩:=hc
   have hd:∀(ps:List (Nat × Nat)) o,(look ps o).isSome=true↔o∈ps.map Prod.fst:=fun ps o=>by
    induction ps with
    | nil=>simp [look]
    | cons x r ih =>
     obtain ⟨a,b⟩:=x
     simp only [look,List.map_cons,List.mem_cons]
     by_cases e:a=o
     ·rw [if_pos e];simp [e]
     ·rw [if_neg e,ih]
      constructor
      ·exact .inr
      ·rintro (h|h)
       ·exact absurd h.symm e
       ·exact h
   exact w2Y _ c1 c2 (fun o ho=>by rw [hd,c3];exact z2s.1 ho) (fun o ho=>by rw [hd,c3] at ho;exact z2s.2 ho) (hg _ _ _ h)
  ·cases h
 ·exact hg _ _ _ h
theorem y6k {P:Program} {t:Tb} {rec:EvC} (ht:TOK P t) (hr:y7R P rec) (hloop:∀F b fr H k e fr' H' k',F.P=P→F.pure=false→z2D t rec F (.loop b) fr H k=some (e,fr',H',k')→∀Q:Ex→Fr→Hp→Prop,Q e.ex fr' H'→W F (.loop b) Q fr H):y7R P (z2D t rec):=by
 intro F c fr H k e fr' H' k' hP hpu h Q hQ
 cases c with
 | skip=>simp only [z2D,Option.some.injEq,Prod.mk.injEq] at h;obtain ⟨rfl,rfl,rfl,rfl⟩:=h;exact z0D hQ
 | reg ops =>
  simp only [z2D] at h
  split at h
  ·rename_i o ho
   split at h
   ·rename_i cs hcs
    split at h
    ·rename_i hc
     simp only [Bool.and_eq_true,decide_eq_true_eq] at hc
     exact z1P o hcs hc.2 (hr _ _ _ _ _ _ _ _ _ hP hpu h Q hQ) hc.1
    ·cases h
   ·cases h
  ·split at h
   ·rename_i z hz
    cases h
    refine z9M hz fun fr H k h=>?_
    rw [zO2] at h
    obtain ⟨⟨te,fr1,H1⟩,h1,h2⟩:=h
    cases h2
    exact x2N ht hP hpu (z5U ht hr _) h1 Q hQ
   ·rw [zO3] at h
    obtain ⟨z,h1,h2⟩:=h
    exact y1m h1 (hr _ _ _ _ _ _ _ _ _ hP hpu h2 Q hQ)
 | regd ops =>
  simp only [z2D] at h
  refine z9M h fun fr H k h=>?_
  rw [zO2] at h
  obtain ⟨⟨te,fr1,H1⟩,h1,h2⟩:=h
  cases h2
  subst hP
  exact z0p (z2S (F:={ F with pure:=true }) rfl (z5U ht hr _) ops [] fr H te fr1 H1 h1 _ hQ)
 | seq a b =>
  simp only [z2D] at h
  rw [zO3] at h
  obtain ⟨⟨x,fr1,H1,k1⟩,h1,h2⟩:=h
  refine z0d (hr _ _ _ _ _ _ _ _ _ hP hpu h1 _ ?_)
  cases x with
  | norm=>exact hr _ _ _ _ _ _ _ _ _ hP hpu h2 Q hQ
  | exit j=>simp only [Option.some.injEq,Prod.mk.injEq] at h2;obtain ⟨rfl,rfl,rfl,rfl⟩:=h2;exact hQ
  | ret=>simp only [Option.some.injEq,Prod.mk.injEq] at h2;obtain ⟨rfl,rfl,rfl,rfl⟩:=h2;exact hQ
 | cond c a b =>
  simp only [z2D] at h
  split at h
  ·rename_i hc;exact z0l hc (fun _=>hr _ _ _ _ _ _ _ _ _ hP hpu h Q hQ) (fun h=>by cases h)
  ·rename_i hc;exact z0l hc (fun h=>by cases h) (fun _=>hr _ _ _ _ _ _ _ _ _ hP hpu h Q hQ)
  ·cases h
 | block id b =>
  simp only [z2D] at h
  rw [zO2] at h
  obtain ⟨⟨x,fr1,H1,k1⟩,h1,h2⟩:=h
  refine z0f (hr _ _ _ _ _ _ _ _ _ hP hpu h1 _ ?_)
  cases x with
  | norm=>simp only [Prod.mk.injEq] at h2;obtain ⟨rfl,rfl,rfl,rfl⟩:=h2;exact hQ
  | ret=>simp only [Prod.mk.injEq] at h2;obtain ⟨rfl,rfl,rfl,rfl⟩:=h2;exact hQ
  | exit j =>
   simp only [Prod.mk.injEq] at h2
   obtain ⟨rfl,rfl,rfl,rfl⟩:=h2
   simp only [EX.ex,z02]
   by_cases hj:j=id
   ·rw [if_pos hj] at hQ ⊢;exact hQ
   ·rw [if_neg hj] at hQ ⊢;exact hQ
 | loop b=>exact hloop F b fr H k e fr' H' k' hP hpu h Q hQ
 | exit i=>simp only [z2D,Option.some.injEq,Prod.mk.injEq] at h;obtain ⟨rfl,rfl,rfl,rfl⟩:=h;exact z0q hQ
 | ret =>
  simp only [z2D,Option.some.injEq,Prod.mk.injEq] at h
  obtain ⟨rfl,rfl,rfl,rfl⟩:=h
  exact z9m 60 _ _ (z0i hQ)
 | regs n ops=>cases h
 | rego tr =>
  simp only [z2D] at h
  split at h
  ·rename_i z hz
   cases h
   refine z9M hz fun fr H k h=>?_
   rw [zO2] at h
   obtain ⟨⟨fr1,H1⟩,h1,h2⟩:=h
   cases h2
   subst hP
   exact x2L hpu (z5U ht hr _) (fun g hg=>by obtain ⟨e,he⟩:=Option.isSome_iff_exists.1 hg;exact (ht.fn g e he).call) h1 hQ
  ·rw [zO3] at h
   obtain ⟨z,h1,h2⟩:=h
   exact y1m h1 (hr _ _ _ _ _ _ _ _ _ hP hpu h2 Q hQ)
 | bad=>cases h
theorem y2c {P:Program} {t:Tb} (ht:TOK P t) (n:Nat):y7R P (evN t n):=by
 induction n using Nat.strongRecOn with
 | ind n ih =>
  cases n with
  | zero =>
   intro F c fr H k e fr' H' k' _ _ h
   rw [x97] at h;cases h
  | succ n =>
   rw [y2d]
   refine y6k ht (ih n (Nat.lt_succ_self n)) ?_
   intro F b fr H k e fr' H' k' hP hpu h Q hQ
   have hs:y3m fr=true:=by
    simp only [z2D] at h
    split at h
    ·assumption
    ·cases h
   refine z0v (σ:=Fr × Hp × Nat × Nat) (fun s=>s.1) (fun s=>s.2.1) (fun s=>s.2.2.2≤n+1∧evN t s.2.2.2 F (.loop b) s.1 s.2.1 s.2.2.1=some (e,fr',H',k')) (fun s=>s.2.2.2) (fr,H,k,n+1) ⟨Nat.le_refl _,h⟩ (y5K hs) rfl ?_
   rintro ⟨fr1,H1,k1,m⟩ ⟨hm,h1⟩
   simp only at hm h1 ⊢
   cases m with
   | zero=>rw [x97] at h1;cases h1
   | succ m =>
    rw [y2d] at h1
    simp only [z2D] at h1
    split at h1
    ·rw [zO3] at h1
     obtain ⟨⟨x,fr2,H2,k2⟩,g1,g2⟩:=h1
     refine ih m (by omega) F b fr1 H1 k1 x fr2 H2 k2 hP hpu g1 _ ?_
     cases x with
     | norm =>
      simp only at g2
      have hs2:y3m fr2=true:=by
       cases m with
       | zero=>rw [x97] at g2;cases g2
       | succ m =>
        rw [y2d] at g2
        simp only [z2D] at g2
        split at g2
        ·assumption
        ·cases g2
      exact ⟨(fr2,H2,k2,m),⟨by show m≤n+1;omega,g2⟩,Nat.lt_succ_self m,y5K hs2,rfl⟩
     | exit j=>simp only [Option.some.injEq,Prod.mk.injEq] at g2;obtain ⟨rfl,rfl,rfl,rfl⟩:=g2;exact hQ
     | ret=>simp only [Option.some.injEq,Prod.mk.injEq] at g2;obtain ⟨rfl,rfl,rfl,rfl⟩:=g2;exact hQ
    ·cases h1
theorem z2N {P:Program} {t:Tb} (ht:TOK P t) (n:Nat) {f:Nat} {ds:List DV} {r:DV} (h:w0h t (evN t n) 1000 f ds []=some (r,[])) (hr:r.rf=true:=by rfl):z0c P f ds r :=
 z4F (z5U ht (y2c ht n) 1000 f ds [] r [] h) hr
theorem w2S {P:Program} {t:Tb} (ht:TOK P t) {F:FnD} {code:Code} {c:DC} {fr fr':Fr} {H H':Hp} {k k' n:Nat} {Q:Ex→Fr→Hp→Prop} (hst:strip F.P F.vs F.own F.n code=c) (hP:F.P=P) (hpu:F.pure=false)
  (h:evN t n F c fr H k=some (.norm,fr',H',k')) (hQ:Q .norm fr' H'):WC F code Q fr H :=
 x9L hst (y2c ht n F c fr H k _ _ _ _ hP hpu h Q hQ)
def w6J (x:Option (EX × Fr × Hp × Nat)) (rv:List RV) (r:DV):Bool:=match x with
 | some (.ret,fr',H',_)=>match z4y fr' H' rv with
  | some ds=>dvB (y5a ds) r && r.rf
  | none=>false
 | _=>false
theorem w2T {P:Program} {t:Tb} (ht:TOK P t) {F:FnD} {code:Code} {c:DC} {fr:Fr} {H:Hp} {k n:Nat} {rv:List RV} {r:DV} (hst:strip F.P F.vs F.own F.n code=c) (hP:F.P=P) (hpu:F.pure=false)
  (h:w6J (evN t n F c fr H k) rv r=true):WC F code (y7T rv r) fr H:=by
 unfold w6J at h
 split at h
 ·rename_i fr' H' k' he
  split at h
  ·rename_i ds hds
   rw [Bool.and_eq_true] at h
   exact x9L hst (y2c ht n F c fr H k _ _ _ _ hP hpu he _ ⟨.inr rfl,ds,hds,by rw [z7u h.1];exact .imm h.2⟩)
  ·cases h
 ·cases h
noncomputable def efF (P:Program) (F:Func) (vs own:List Nat):EF:=⟨⟨P,vs,own,F.ntmps,false⟩,(match F.body with
 | some c=>strip P vs own F.ntmps c
 | none=>.bad),(y0s P F.results.toList).getD []⟩
def okF (P : Program) (vs : List Nat) (F : Func) : Bool := F.body.isSome && (y0s P F.results.toList).isSome && z9O vs F.results.toList && (F.name != "runtime.NumGoroutine")
theorem TOK.f {P:Program} {t:Tb} {f:Nat} (h:TOK P t) {F:Func} (hf:P.funcs[f]? = some F) (vs own:List Nat) (hk:okF P vs F=true):TOK P ((f,efF P F vs own)::t.1,t.2):=by
 unfold okF at hk
 simp only [Bool.and_eq_true] at hk
 obtain ⟨⟨⟨h1,h2⟩,h3⟩,h4⟩:=hk
 obtain ⟨c,hc⟩:=Option.isSome_iff_exists.1 h1
 obtain ⟨rv,hr⟩:=Option.isSome_iff_exists.1 h2
 refine TOK.cons ⟨rfl,rfl,⟨F,c,hf,hc,rfl,?_,?_,h3⟩,F,hf,h1,h4⟩ h
 ·unfold efF;rw [hc]
 ·unfold efF;rw [hr];rfl
def w7g (az:List DV) (r:DV):List DV→Option DV:=fun ds=>if dvL ds az then some r else none
theorem TOK.ans {P:Program} {t:Tb} {f:Nat} {az:List DV} {r:DV} (h:z0c P f az r) (ht:TOK P t):TOK P (t.1,(f,w7g az r)::t.2):=TOK.ext (fun ds s hs=>by
 unfold w7g at hs
 split at hs
 ·rename_i hd;cases hs;rw [z7v hd];exact h
 ·cases hs) ht
def z06:Nat→List (List DV)→Hp
 | _,[]=>[]
 | k,c::r=>(k,c)::z06 (k+1) r
theorem y3a {s:Nat}:∀{L:List (List DV)} {k:Nat},s<k→lkH (z06 k L) s=none
 | [],_,_=>rfl
 | c::r,k,h=>by
  simp only [z06,lkH]
  rw [if_neg (by omega),y3a (show s<k+1 by omega)]
theorem y9O {s:Nat}:∀{L:List (List DV)} {k:Nat},k+L.length≤s→lkH (z06 k L) s=none
 | [],_,_=>rfl
 | c::r,k,h=>by
  simp only [z06,lkH]
  rw [List.length_cons] at h
  rw [if_neg (by omega),y9O (by omega)]
theorem y9N:∀{L:List (List DV)} {k i:Nat},i<L.length→lkH (z06 k L) (k+i)=some (L.getD i [])
 | c::r,k,0,_=>by simp [z06,lkH]
 | c::r,k,i+1,h=>by
  simp only [z06,lkH]
  rw [if_neg (by omega),show k+(i+1)=(k+1)+i by omega,y9N (by simpa using h)]
  rfl
theorem y9P (L:List (List DV)) (k s:Nat):lkH (z06 k L) s=if k≤s∧s<k+L.length then some (L.getD (s - k) []) else none:=by
 split
 ·rename_i h
  obtain ⟨i,rfl⟩:∃i,s=k+i:=⟨s - k,by omega⟩
  rw [y9N (by omega),Nat.add_sub_cancel_left]
 ·rename_i h
  rcases Nat.lt_or_ge s k with h1|h1
  ·exact y3a h1
  ·exact y9O (by omega)
theorem y7n {s:Nat} {c:List DV}:∀{L:List (List DV)} {k:Nat},s<k→z0N (z06 k L) s c=(s,c)::z06 k L
 | [],_,_=>rfl
 | d::r,k,h=>by
  simp only [z06,z0N]
  rw [if_neg (by omega),if_pos h]
theorem y5B {f:DV→DV}:∀{L:List (List DV)} {k:Nat},(∀l∈L,l.map f=l)→z0X f (z06 k L)=z06 k L
 | [],_,_=>rfl
 | d::r,k,h=>by
  simp only [z06,z0X]
  rw [h d List.mem_cons_self,y5B fun l hl=>h l (List.mem_cons_of_mem _ hl)]
theorem z9T {o:Nat}:∀{L:List (List DV)} {k:Nat},o<k→(∀l∈L,l.map (purge o)=l)→rmP o (z06 k L)=z06 k L
 | [],_,_,_=>rfl
 | d::r,k,hk,h=>by
  simp only [z06,rmP]
  rw [if_neg (by omega),h d List.mem_cons_self,z9T (by omega) fun l hl=>h l (List.mem_cons_of_mem _ hl)]
theorem y5C {o:Nat} {cs:List DV}:∀{L:List (List DV)} {k:Nat},o<k→(∀l∈L,l.map (frz o cs)=l)→rmH o cs (z06 k L)=z06 k L
 | [],_,_,_=>rfl
 | d::r,k,hk,h=>by
  simp only [z06,rmH]
  rw [if_neg (by omega),h d List.mem_cons_self,y5C (by omega) fun l hl=>h l (List.mem_cons_of_mem _ hl)]
theorem y5A:∀{L:List (List DV)} {k:Nat},z3t (z06 k L)=List.range' k L.length
 | [],_=>rfl
 | d::r,k=>by
  simp only [z06,z3t,List.length_cons,List.range'_succ]
  rw [y5A]
theorem w2V {F:FnD} {c:DC} {Q:Ex→Fr→Hp→Prop} {fr:Fr} {H H':Hp} (e:lkH H'=lkH H) (h:W F c Q fr H'):W F c Q fr H:=by
 intro code hc G L a w hn hR
 rw [←e] at hR
 exact h code hc G L a w hn hR
theorem z9H {g:Nat→Nat}:∀{l:List Nat},l.Nodup→(∀x∈l,∀y∈l,g x=g y→x=y)→z3f (l.map fun o=>(o,g o))=true
 | [],_,_=>rfl
 | a::l,hn,hg=>by
  rw [List.nodup_cons] at hn
  simp only [List.map_cons,z3f,Bool.and_eq_true,Option.isNone_iff_eq_none]
  refine ⟨⟨z19 hn.1,?_⟩,z9H hn.2 fun x hx y hy=>hg x (List.mem_cons_of_mem _ hx) y (List.mem_cons_of_mem _ hy)⟩
  have:∀m:List Nat,(∀x∈m,g x≠g a)→z1N (m.map fun o=>(o,g o)) (g a)=none:=by
   intro m
   induction m with
   | nil=>intro _;rfl
   | cons x m ih =>
    intro h
    simp only [List.map_cons,z1N]
    rw [if_neg (h x List.mem_cons_self),ih fun y hy=>h y (List.mem_cons_of_mem _ hy)]
  refine this l fun x hx e=>hn.1 ?_
  have:=hg x (List.mem_cons_of_mem _ hx) a List.mem_cons_self e
  rw [←this];exact hx
def mvN (a b o:Nat):Nat:=if o=a then b else o
def mvF (H:Hp) (a b:Nat) (o:Nat):Option Nat:=if o∈z3t H then some (mvN a b o) else none
theorem w7p {F:FnD} {c:DC} {Q:Ex→Fr→Hp→Prop} {fr:Fr} {H:Hp} (a b:Nat) (H':Hp) (hnd:(z3t H).Nodup) (hb:b∉z3t H) (hl:a<786432∧b<786432) (ha:a∈z3t H)
  (hH:∀q,lkH H' q=if q=a then none else if q=b then (lkH H a).map (rnM (mvF H a b)) else (lkH H q).map (rnM (mvF H a b)))
  (h:W F c Q (z0J (rn (mvF H a b)) fr) H'):W F c Q fr H:=by
 have hab:a≠b:=fun e=>hb (e ▸ ha)
 have hinj:∀x∈z3t H,∀y∈z3t H,mvN a b x=mvN a b y→x=y:=by
  intro x hx y hy e
  unfold mvN at e
  split at e<;>split at e
  ·omega
  ·subst e;exact absurd hy hb
  ·subst e;exact absurd hx hb
  ·exact e
 have hlk:look ((z3t H).map fun o=>(o,mvN a b o))=mvF H a b:=by
  funext o
  unfold mvF
  split
  ·rename_i ho
   obtain ⟨q,h1,h2⟩:=z50 (g:=mvN a b) ho
   rw [h1,h2]
  ·rename_i ho
   exact z19 ho
 have hpk:=z9H hnd hinj
 refine w2Y ((z3t H).map fun o=>(o,mvN a b o)) hpk ?_ (fun o ho=>?_) (fun o ho=>?_) ?_
 ·unfold w1f
  rw [List.all_map,List.all_eq_true]
  intro x hx
  simp only [Function.comp,mvN]
  split
  ·rename_i e;subst e;simp [hl.1,hl.2]
  ·simp
 ·rw [hlk]
  unfold mvF
  rw [if_pos (z2s.1 ho)];rfl
 ·rw [hlk] at ho
  unfold mvF at ho
  split at ho
  ·rename_i h1;exact z2s.2 h1
  ·cases ho
 ·rw [hlk]
  refine w2V ?_ h
  funext q
  rw [hH,z4J]
  by_cases e1:q=a
  ·subst e1
   rw [if_pos rfl]
   cases hu:z1N ((z3t H).map fun o=>(o,mvN q b o)) q with
   | none=>rfl
   | some p =>
    exfalso
    have h1:=(z2u hpk p q).2 hu
    rw [hlk] at h1
    unfold mvF mvN at h1
    split at h1
    ·split at h1
     ·exact hab (Option.some.inj h1).symm
     ·rename_i h2;exact h2 (Option.some.inj h1)
    ·cases h1
  ·rw [if_neg e1]
   by_cases e2:q=b
   ·subst e2
    have h1:look ((z3t H).map fun o=>(o,mvN a q o)) a=some q:=by
     rw [hlk];unfold mvF mvN;rw [if_pos ha,if_pos rfl]
    rw [(z2u hpk a q).1 h1,if_pos rfl]
    obtain ⟨cs,hcs⟩:=Option.isSome_iff_exists.1 (z2s.2 ha)
    rw [hcs,Option.map_some,Option.map_some,hcs];rfl
   ·rw [if_neg e2]
    by_cases e3:q∈z3t H
    ·have h1:look ((z3t H).map fun o=>(o,mvN a b o)) q=some q:=by
      rw [hlk];unfold mvF mvN;rw [if_pos e3,if_neg e1]
     rw [(z2u hpk q q).1 h1]
     obtain ⟨cs,hcs⟩:=Option.isSome_iff_exists.1 (z2s.2 e3)
     rw [hcs,Option.map_some,Option.map_some,hcs];rfl
    ·have h2:lkH H q=none:=by
      cases hq:lkH H q with
      | none=>rfl
      | some cs=>exact absurd (z2s.1 (by rw [hq];rfl)) e3
     rw [h2]
     cases hu:z1N ((z3t H).map fun o=>(o,mvN a b o)) q with
     | none=>rfl
     | some p =>
      exfalso
      have h1:=(z2u hpk p q).2 hu
      rw [hlk] at h1
      unfold mvF mvN at h1
      split at h1
      ·rename_i hp
       split at h1
       ·exact e2 (Option.some.inj h1).symm
       ·have:=Option.some.inj h1;subst this;exact e3 hp
      ·cases h1
end Go.Dat
