/- Lemmas of the walk; no conditions beyond those that each states. -/
import Derived.OpenShut
import Derived.Below
import Derived.Lib.SmallJoins
import Derived.Lib.Bytealg
import Derived.Lib.IndexAny
import Derived.Lib.TrimByte
import Derived.Lib.Strings
import Derived.HandedShaped
import Derived.Handed
import Derived.Test.YtlcagndeidjobaaGreatDoorD3
import Derived.Test.YtlcagndeidjobaaGreatDoorT2
import Derived.Test.YtlcagndeidjobaaGreatDoorT4
import Derived.Test.YtlcagndeidjobaaGreatDoorT3
import Derived.Test.YtlcagndeidjobaaGreatDoorT1
import Derived.Test.YtlcagndeidjobaaGreatDoorD4
import Derived.Test.YtlcagndeidjobaaGreatDoorC1
import Derived.Test.YtlcagndeidjobaaGreatDoorC2
import Derived.Test.YtlcagndeidjobaaGreatDoorN1
import Derived.Test.YtlcagndeidjobaaGreatDoorN2
import Derived.Test.YtlcagndeidjobaaGreatDoorT5
set_option linter.unusedSimpArgs false
set_option linter.unusedVariables false
set_option linter.unnecessarySimpa false
set_option maxHeartbeats 4000000
namespace Go.Proofs.YtlcagndeidjobaaGreatDoor
open Tryz
open Go Go.Dat Go.Proofs Go.RowKit Nat32
theorem w4a {f:Nat} {ds:List DV} {vs:Array Value} {w:World} (hc:z0c prog f ds (.bool true)) (hT:Tab prog w) (hs:vs.size=ds.length) (hv:∀(k:Nat) d v,ds[k]? = some d→vs[k]? = some v→VI w (fun _=>False) d v) :
  Calls prog f vs w fun e w'=>e=.returned (.bool true)∧Below w.heap.size w w':=by
 refine (hc (fun _=>False) w vs hT (fun b h=>h.elim) hs hv).mono ?_
 rintro e w' ⟨v,rfl,hvi,hx⟩
 refine ⟨?_,hx.os,hx.tape,hx.output,hx.size,fun k hk=>hx.block k hk id⟩
 cases hvi;rfl
theorem x02 {w:World} (h:w.ShapedOpen prog):∀g,prog.globalNamed y2O=some g→g<w.heap.size∧∃m,w.cell? ⟨g,0,none⟩=some (.int .i64 m):=by
 intro g hg
 rw [show prog.globalNamed y2O=none by kernel_rfl] at hg
 cases hg
theorem z6K {H:Type} {enc:TypeId × Value→H} {a:Assume} {C:Checked} {os:Os} {f:FuncId} {fn:Func} {s:ChangeSpec} {conds:List PathCond} {apart fresh handsOn again:Bool} {X:World→Array Value→Prop}
  (hX:∀(w w':World) (args:Array Value),w.heap=w'.heap→X w args→X w' args)
  (own:ownKnob C.prog.godebug=none) (started:os.Started) (noInit:C.prog.inits.idxOf? f=none) (hfn:C.prog.funcs[f]? = some fn)
  (witness:∃(w:World) (tape:Tape) (i:Input),w.os=os∧(w.forCall tape i).Shaped C.prog∧i.vars=[]∧Input.okWide C.prog (w.forCall tape i) .any w.heap.size f i ∧
   ((s.pre enc C.prog fn conds apart (w.forCall tape i).memory i.args∧X (w.forCall tape i).memory i.args)∧sizedMet enc C.prog fn (OpenSpec.ofChange s) apart (w.forCall tape i).memory i.args)∧a.holds C.prog (lone (Frame.enter C.prog f i.args .normal) [] (w.forCall tape i)))
  (contract:∀(W:World) (base:Nat) (args:Array Value) (ds gs:List (DataW H)) (before:List MemPlace),
   (∀(j:Nat) t v,fn.params[j]? = some t→args[j]? = some v→Value.okWide C.prog W .any base t v) →
   DataW.Whole enc C.prog fn.params.toList s.vars apart W args.toList ds gs before→X W args→W.ShapedOpen C.prog →
   Calls C.prog f args W fun e W'=>∃v,e=.returned v∧s.post enc C.prog fn apart fresh handsOn again W args v W') :
  ReturnsInHanded a C os f .any (fun w args=>(s.pre enc C.prog fn conds apart w args∧X w args)∧sizedMet enc C.prog fn (OpenSpec.ofChange s) apart w args) (s.post enc C.prog fn apart fresh handsOn again):=by
 refine returnsInHanded_of_calls own started noInit witness ?_
 intro w tape i _ hsh _ hok hpre _
 obtain ⟨_,_,_,fn',hfn',_,_,_,_,hval⟩:=hok
 obtain rfl:fn'=fn:=Option.some.inj (hfn'.symm.trans hfn)
 obtain ⟨⟨⟨ds,gs,before,hw,_⟩,hx⟩,_⟩:=hpre
 refine (contract (w.forCall tape i) w.heap.size i.args ds gs before hval (DataW.Whole.of_heap (w':=w.forCall tape i) (by rfl) hw) (hX _ _ _ (by rfl) hx) hsh).mono ?_
 rintro e W' ⟨v,rfl,hp⟩
 exact ChangeSpec.post_blind hp
theorem w4f {α:Type} {t:Ty} {f:α→List DV} {p:α→Prop} (hf:∀z,IsD t z→∃a,p a∧z=f a):∀{zs:List (List DV)},(∀z∈zs,IsD t z)→∃l:List α,l.length=zs.length∧zs.flatten=l.flatMap f∧∀a∈l,p a
 | [],_=>⟨[],rfl,rfl,fun a h=>by cases h⟩
 | z::zs,h=>by
  obtain ⟨l,h1,h2,h3⟩:=w4f hf (zs:=zs) fun y hy=>h y (List.mem_cons_of_mem _ hy)
  obtain ⟨a,g1,g2⟩:=hf z (h z List.mem_cons_self)
  refine ⟨a::l,by simp [h1],by rw [List.flatten_cons,h2,g2];rfl,fun x hx=>?_⟩
  rcases List.mem_cons.1 hx with rfl|hx
  ·exact g1
  ·exact h3 x hx
theorem y9h {ds:List DV} (h:IsD (.sl (.int .i64)) ds):∃l:List Int,l.length≤9223372036854775807∧(∀z∈l,-9223372036854775808≤z∧z≤9223372036854775807)∧ds=[.sl 1 (l.map (.int .i64))]:=by
 obtain ⟨zs,h1,h2,rfl⟩:=h
 obtain ⟨l,g1,g2,g3⟩:=w4f (f:=fun z:Int=>[DV.int .i64 z]) (p:=fun z=>-9223372036854775808≤z∧z≤9223372036854775807) (t:=.int .i64) (fun z hz=>by
  obtain ⟨n,hw,rfl⟩:=hz
  refine ⟨n,?_,rfl⟩
  unfold Lit.wf at hw
  simp only [Bool.and_eq_true,decide_eq_true_eq] at hw
  exact hw) h1
 refine ⟨l,by omega,g3,?_⟩
 rw [g2]
 show [DV.sl 1 _]=_
 congr 2
 clear g1 g2 g3
 induction l with
 | nil=>rfl
 | cons a l ih=>rw [List.flatMap_cons,List.map_cons,ih];rfl
def x9j (l:List Int):Prop:=l.length≤9223372036854775807∧∀z∈l,-9223372036854775808≤z∧z≤9223372036854775807
abbrev isT:Ty:=.sl (.int .i64)
abbrev w6K:Ty:=.pair isT (.pair isT (.pair isT (.pair isT .unit)))
theorem w44 {ds:List DV} (h:IsD w6K ds):∃Y X G H:List Int,x9j Y∧x9j X∧x9j G∧x9j H∧ds=[.sl 1 (Y.map (.int .i64)),.sl 1 (X.map (.int .i64)),.sl 1 (G.map (.int .i64)),.sl 1 (H.map (.int .i64))]:=by
 obtain ⟨a,r1,ha,⟨b,r2,hb,⟨c,r3,hc,⟨d,r4,hd,hu,rfl⟩,rfl⟩,rfl⟩,rfl⟩:=h
 obtain ⟨Y,y1,y2,rfl⟩:=y9h ha
 obtain ⟨X,x1,x2,rfl⟩:=y9h hb
 obtain ⟨G,g1,g2,rfl⟩:=y9h hc
 obtain ⟨H,h1,h2,rfl⟩:=y9h hd
 rw [show r4=[] from hu]
 exact ⟨Y,X,G,H,⟨y1,y2⟩,⟨x1,x2⟩,⟨g1,g2⟩,⟨h1,h2⟩,rfl⟩
theorem x0X {Y X G H:List Int} (wh a b:Int) (hY:x9j Y) (hX:x9j X) (hG:x9j G) (hH:x9j H):z0c prog 4 [.agg [.sl 1 (Y.map (.int .i64)),.sl 1 (X.map (.int .i64)),.sl 1 (G.map (.int .i64)),.sl 1 (H.map (.int .i64))],.int .i64 wh,.int .i64 a,.int .i64 b] (.bool true) :=
 x0Y Y X G H wh a b hY.1 hX.1 hG.1 hH.1 hY.2 hX.2 hG.2 hH.2
end Go.Proofs.YtlcagndeidjobaaGreatDoor
