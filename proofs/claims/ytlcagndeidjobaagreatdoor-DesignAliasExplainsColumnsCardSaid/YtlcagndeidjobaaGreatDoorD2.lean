/- Lemmas of the walk; no conditions beyond those that each states. -/
import Derived.KernelRfl
import Derived.WalkKit
import Derived.Below
import Derived.Lib.SliceRun
import Derived.Lib.Walk
import Derived.Deep.Draws
import Derived.Sort.Row
import Derived.Sort.Grow
import Derived.Lib.Repeat
import Derived.Lib.Join
import Derived.Lib.RowBridge
import Derived.Sort.EncStr
import Derived.Test.YtlcagndeidjobaaGreatDoorD1
set_option linter.unusedSimpArgs false
set_option linter.unusedVariables false
set_option linter.unnecessarySimpa false
set_option maxHeartbeats 4000000
namespace Go.Dat
open Go
def DOp.cls : DOp → Nat
 | .ld _ | .ldn .. | .b2s _ | .appi .. | .ldr _ | .ldnr .. => 1
 | .alloc _ | .box _ | .mks .. | .bsl' .. => 2
 | .st .. | .stn .. | .clr .. => 3
 | .app .. | .apps .. | .pan _ | .allocT .. | .callv .. => 4
 | _ => 0
def DOp.isCall : DOp → Bool
 | .call .. => true
 | _ => false
def Opd.isS : Opd → Bool
 | .c _ => false
 | _ => true
def DOp.isApp : DOp → Bool
 | .app .. | .apps .. => true
 | _ => false
def DOp.isMv : DOp → Bool
 | .mv x => x.isS
 | _ => false
def DOp.isSafe : DOp → Bool
 | .mv x | .fad _ x | .nilc x | .lde x | .ldne _ x | .ldr x | .ldnr _ x | .iad _ x _ => x.isS
 | .bsl .. => true
 | _ => false
def clsOK (i j : Nat) : Bool := (i == 0 && j != 4) || (j == 0 && i != 4) || (i == 1 && j == 1) || (i == 1 && j == 2) || (i == 2 && j == 2)
def comOK (p q : DOp) : Bool := clsOK p.cls q.cls || (p.isApp && q.isSafe) || (p.isMv && q.isApp)
def DOp.opds : DOp → List Opd
 | .mv x | .box x | .ld x | .ldn _ x | .nilc x | .un _ x | .conv _ x | .s2b x | .b2s x | .fad _ x | .fld _ x | .fldn _ _ x | .ext x _ | .len _ x | .lenS x | .s2s x | .mki _ x | .pan x => [x]
 | .pick c a b => [c, a, b]
 | .alloc _ | .allocT .. => []
 | .build _ ps | .bsl _ _ ps | .bsl' _ _ ps => ps.map (·.2.2)
 | .st x y | .stn _ x y | .bin _ x y | .beq _ x y | .eqs _ _ x y | .mks _ _ _ x y | .iad _ x y | .iaa _ _ x y | .idx x y | .app _ _ _ x y | .min2 x y | .max2 x y | .apps _ x y => [x, y]
 | .slc _ x lo hi | .slcS x lo hi => x :: (lo.toList ++ hi.toList)
 | .call _ args => args
 | .mkf _ ps => ps
 | .callv x args => x :: args
 | .ldr x | .ldnr _ x | .boxi x | .appi _ _ x | .lde x | .ldne _ x | .clr _ _ x | .isnil _ x => [x]
 | .slc3 _ x lo hi mx => x :: hi :: mx :: lo.toList
def Opd.slot : Opd → Option Nat
 | .x k | .t k => some k
 | .c _ => none
def DOper.looks (d : DOper) : List Nat := d.op.opds.filterMap Opd.slot ++ (match d.guard with | some (g, _) => g.slot.toList | none => [])
def DOper.apart (x y : DOper) : Bool :=
 (match x.dst.slot with
  | some d => !y.looks.contains d && y.dst.slot != some d
  | none => true) &&
 (match y.dst.slot with
  | some d => !x.looks.contains d
  | none => true)
def tagOK (vs : List Nat) : Opd → Bool
 | .x k => vs.contains k
 | .t k => !vs.contains k
 | .c _ => true
def tagD (vs : List Nat) : Dst → Bool
 | .x k => vs.contains k
 | .t k => !vs.contains k
 | .no => true
def DOper.tags (vs : List Nat) (d : DOper) : Bool := tagD vs d.dst && d.op.opds.all (tagOK vs) && (match d.guard with | some (g, _) => tagOK vs g | none => true)
def depsOf (acc : List (List Nat)) (o : Oper) : List Nat :=
 ((o.after.toList.filter (Region.binds .any)).flatMap fun e => e.on :: acc.getD e.on []).eraseDups
def depsAll : List Oper → List (List Nat) → List (List Nat)
 | [], acc => acc
 | o :: r, acc => depsAll r (acc ++ [depsOf acc o])
def drawFrom (ops : Array Oper) (ds : List DOper) (deps : List (List Nat)) : Nat → Nat → Array Bool → Bool
 | 0, _, listed => (Region.ready .any ops listed).isEmpty
 | fuel + 1, k, listed =>
  (Region.ready .any ops listed).contains k &&
  (List.range ops.size).all (fun j => j == k || listed.getD j true || (deps.getD j []).contains k ||
   (match ds[k]?, ds[j]? with
    | some x, some y => x.apart y && comOK x.op y.op && !(x.op.isCall && y.op.isCall)
    | _, _ => true)) &&
  drawFrom ops ds deps fuel (k + 1) (listed.setIfInBounds k true)
def cpN (n i : Nat) (d : DOper) : Bool := decide (i < n) || !d.op.isCall
def drawFromS (n : Nat) (ops : Array Oper) (ds : List DOper) (deps : List (List Nat)) : Nat → Nat → Array Bool → Bool
 | 0, _, listed => (Region.ready .any ops listed).isEmpty
 | fuel + 1, k, listed =>
  (Region.ready .any ops listed).contains k &&
  (List.range ops.size).all (fun j => j == k || listed.getD j true || (deps.getD j []).contains k ||
   (match ds[k]?, ds[j]? with
    | some x, some y => x.apart y && comOK x.op y.op && (cpN n k x && cpN n j y)
    | _, _ => true)) &&
  drawFromS n ops ds deps fuel (k + 1) (listed.setIfInBounds k true)
def drawOKs (vs : List Nat) (n : Nat) (ops : Array Oper) (ds : List DOper) : Bool := Region.noSelect ops && ds.all (·.tags vs) && drawFromS n ops ds (depsAll ops.toList []) ops.size 0 (Array.replicate ops.size false)
def drawOK (vs : List Nat) (ops : Array Oper) (ds : List DOper) : Bool := Region.noSelect ops && ds.all (·.tags vs) && drawFrom ops ds (depsAll ops.toList []) ops.size 0 (Array.replicate ops.size false)
def DOp.flatK : DOp → Bool
 | .mv x => x.isS
 | .bin .. | .un .. | .conv .. | .slcS .. | .lenS _ | .s2s _ | .idx .. => true
 | _ => false
inductive IT where
 | leaf
 | st (k : Nat) (t : IT)
 | fl (k : Nat) (t : IT)
 | alt (a b : IT)
def IT.dt (ds : List DOper) : IT → DT
 | .leaf => .leaf
 | .st k t => match ds[k]? with
  | some o => .st o (t.dt ds)
  | none => .no
 | .fl k t => match ds[k]? with
  | some o => .fl o (t.dt ds)
  | none => .no
 | .alt a b => .alt (a.dt ds) (b.dt ds)
def movN (ops : Array Oper) (ds : List DOper) (deps : List (List Nat)) (k : Nat) (listed : Array Bool) : Bool :=
 match ds[k]? with
 | some x => !x.op.isCall && (List.range ops.size).all fun j => j == k || listed.getD j true || (deps.getD j []).contains k || match ds[j]? with
  | some y => x.apart y && comOK x.op y.op && !y.op.isCall
  | none => true
 | none => false
def movF (n : Nat) (ops : Array Oper) (ds : List DOper) (deps : List (List Nat)) (k : Nat) (listed : Array Bool) : Bool :=
 match ds[k]? with
 | some x => x.op.flatK && x.guard.isNone && dOk n x.dst.slot && (match x.dst.slot with | some s => !x.looks.contains s | none => true) &&
  (List.range ops.size).all fun j => j == k || listed.getD j true || (deps.getD j []).contains k || match ds[j]? with
  | some y => x.apart y && (comOK x.op y.op || y.op.isCall)
  | none => true
 | none => false
def itGen (n : Nat) (own : List Nat) (ops : Array Oper) (ds : List DOper) (deps : List (List Nat)) : Nat → Array Bool → IT
 | 0, _ => .leaf
 | f + 1, listed =>
  let r := Region.ready .any ops listed
  match r.find? fun k => movN ops ds deps k listed with
  | some k => .st k (itGen n own ops ds deps f (listed.setIfInBounds k true))
  | none => match r.find? fun k => movF n ops ds deps k listed && !own.contains (8000000 + ((ds[k]?).bind (·.dst.slot)).getD 0) with
   | some k => .fl k (itGen n own ops ds deps f (listed.setIfInBounds k true))
   | none => match r with
    | [] => .leaf
    | k :: ks => ks.foldl (fun a j => .alt a (.st j (itGen n own ops ds deps f (listed.setIfInBounds j true)))) (.st k (itGen n own ops ds deps f (listed.setIfInBounds k true)))
def IT.heads : IT → List Nat
 | .leaf => []
 | .st k _ | .fl k _ => [k]
 | .alt a b => a.heads ++ b.heads
def IT.ok (n : Nat) (ops : Array Oper) (ds : List DOper) (deps : List (List Nat)) : IT → Bool → Nat → Array Bool → Bool
 | .leaf, top, _, listed => top && (Region.ready .any ops listed).isEmpty
 | .st k t, top, fuel, listed => match fuel with
  | 0 => false
  | f + 1 => (Region.ready .any ops listed).contains k && (!top || movN ops ds deps k listed || (Region.ready .any ops listed).all (· == k)) && t.ok n ops ds deps true f (listed.setIfInBounds k true)
 | .fl k t, top, fuel, listed => match fuel with
  | 0 => false
  | f + 1 => top && (Region.ready .any ops listed).contains k && movF n ops ds deps k listed && t.ok n ops ds deps true f (listed.setIfInBounds k true)
 | .alt a b, top, fuel, listed => (!top || (Region.ready .any ops listed).all fun i => (a.heads ++ b.heads).contains i) && a.ok n ops ds deps false fuel listed && b.ok n ops ds deps false fuel listed
def itAll (n : Nat) (own : List Nat) (ops : Array Oper) (ds : List DOper) : IT := itGen n own ops ds (depsAll ops.toList []) ops.size (Array.replicate ops.size false)
def itOK (vs : List Nat) (n : Nat) (ops : Array Oper) (ds : List DOper) (t : IT) : Bool := Region.noSelect ops && ds.all (·.tags vs) && t.ok n ops ds (depsAll ops.toList []) true ops.size (Array.replicate ops.size false)
def chainI : List DOper → List (List Nat) → DT
 | [], _ => .leaf
 | o :: os, ls => .alt (.st ⟨.no, .call 0 ((ls.headD []).map Opd.t), none⟩ .no) (.st o (chainI os ls.tail))
def DT.iops : DT → List DOper
 | .alt _ (.st o t) => o :: t.iops
 | _ => []
def DT.ideps : DT → List (List Nat)
 | .alt (.st d _) (.st _ t) => d.op.opds.filterMap Opd.slot :: t.ideps
 | _ => []
def freeI (ops : Array Oper) (ds : List DOper) (deps : List (List Nat)) : Bool :=
 ((List.range ops.size).all fun i => match ops[i]? with
  | some o => o.after.all fun e => decide (e.on < i)
  | none => true) &&
 (List.range ds.length).all fun i => match ds[i]? with
  | some x => x.guard.isNone && (match x.dst.slot with
   | some s => (List.range ds.length).all fun j => j == i || (match ds[j]? with
    | some y => y.dst.slot != some s
    | none => true)
   | none => true) && (x.op.opds.filterMap Opd.slot).all fun s => (List.range ds.length).all fun j => (deps.getD i []).contains j || (match ds[j]? with
    | some y => y.dst.slot != some s
    | none => true)
  | none => true
def strip (P : Program) (vs own : List Nat) (n : Nat) : Code → DC
 | .skip => .skip
 | .region _ ops draw => match sOpers P vs own n ops ops.toList with
  | some ds => if draw then (if own.contains 1000000 && drawOKs vs 0 ops ds && P.follows .mixedOrders then .regs 0 ds else if (!own.contains 1000001 && !(own.contains 1000003 && ds.any fun d => d.op.isCall && own.contains (9000000 + d.dst.slot.getD 0))) && drawOK vs ops ds && P.follows .mixedOrders then .regd ds else if own.contains 1000001 && drawOKs vs (ds.findIdx (fun d => d.op.isCall && own.contains (7000000 + d.dst.slot.getD 0))) ops ds && P.follows .mixedOrders then .regs (ds.findIdx (fun d => d.op.isCall && own.contains (7000000 + d.dst.slot.getD 0))) ds else if own.contains 1000003 && itOK vs n ops ds (itAll n own ops ds) && P.follows .mixedOrders then .rego ((itAll n own ops ds).dt ds) else if own.contains 1000004 && Region.noSelect ops && ds.all (·.tags vs) && freeI ops ds (depsAll ops.toList []) && P.follows .mixedOrders then .rego (.alt .no (chainI ds (depsAll ops.toList []))) else .bad) else .reg ds
  | none => .bad
 | .seq a b => .seq (strip P vs own n a) (strip P vs own n b)
 | .cond c a b => .cond (sOpd vs c) (strip P vs own n a) (strip P vs own n b)
 | .block id b => .block id (strip P vs own n b)
 | .loop b => .loop (strip P vs own n b)
 | .exit id => .exit id
 | .ret => .ret
 | _ => .bad
inductive Ex where
 | norm
 | exit (id : Nat)
 | ret
 | pan (ch : List PanicEntry)
def er : Exit → Option Ex
 | .normal => some .norm
 | .exit id => some (.exit id)
 | .ret => some .ret
 | .panic ch => some (.pan ch)
 | _ => none
def Post (F : FnD) (G : Cx) (Q : Ex → Fr → Hp → Prop) (e : Exit) (a : Act) (w : World) : Prop :=
 ∃ L fr H de, R G L (den F.vs [] fr) (lkH H) a w ∧ er e = some de ∧ Q de fr H
def W (F : FnD) (c : DC) (Q : Ex → Fr → Hp → Prop) (fr : Fr) (H : Hp) : Prop :=
 ∀ code, strip F.P F.vs F.own F.n code = c → ∀ (G : Cx) (L : Nat → Option Nat) (a : Act) (w : World), (G.n = F.n ∧ G.ok F.P) → R G L (den F.vs [] fr) (lkH H) a w → code.wp F.P (Post F G Q) a w
section
variable {F : FnD} {Q : Ex → Fr → Hp → Prop} {fr : Fr} {H : Hp}
theorem W_skip (h : Q .norm fr H) : W F .skip Q fr H := by
 intro code hc G L a w hn hR
 cases code <;> simp only [strip] at hc <;> first | (cases hc; done) | (repeat' split at hc) <;> first | (cases hc; done) | skip
 all_goals first | exact wp_skip ⟨L, fr, H, .norm, hR, rfl, h⟩ | contradiction
theorem W_exit {id : Nat} (h : Q (.exit id) fr H) : W F (.exit id) Q fr H := by
 intro code hc G L a w hn hR
 cases code <;> simp only [strip] at hc <;> first | (cases hc; done) | (repeat' split at hc) <;> first | (cases hc; done) | skip
 all_goals first | (cases hc; exact wp_exit ⟨L, fr, H, .exit _, hR, rfl, h⟩) | contradiction
theorem W_ret (h : Q .ret fr H) : W F .ret Q fr H := by
 intro code hc G L a w hn hR
 cases code <;> simp only [strip] at hc <;> first | (cases hc; done) | (repeat' split at hc) <;> first | (cases hc; done) | skip
 all_goals first | exact wp_ret ⟨L, fr, H, .ret, hR, rfl, h⟩ | contradiction
def seqQ (F : FnD) (b : DC) (Q : Ex → Fr → Hp → Prop) : Ex → Fr → Hp → Prop
 | .norm, fr, H => W F b Q fr H
 | e, fr, H => Q e fr H
theorem W_seq {b c : DC} (h : W F b (seqQ F c Q) fr H) : W F (.seq b c) Q fr H := by
 intro code hc G L a w hn hR
 cases code <;> simp only [strip] at hc <;> first | (cases hc; done) | (repeat' split at hc) <;> first | (cases hc; done) | skip
 all_goals try contradiction
 rename_i x y
 cases hc
 refine wp_seq (wp_mono (h x rfl G L a w hn hR) fun e a' w' => ?_)
 rintro ⟨L', fr', H', de, hR', he, hq⟩
 cases e <;> simp only [er, Option.some.injEq, reduceCtorEq] at he
 ·subst he; exact hq y rfl G L' a' w' hn hR'
 ·subst he; exact ⟨L', fr', H', _, hR', rfl, hq⟩
 ·subst he; exact ⟨L', fr', H', _, hR', rfl, hq⟩
 ·subst he; exact ⟨L', fr', H', _, hR', rfl, hq⟩
theorem W_reg {ds : List DOper} (h : regW F ds [] fr H fun _ fr H => Q .norm fr H) : W F (.reg ds) Q fr H := by
 intro code hc G L a w hn hR
 cases code <;> simp only [strip] at hc <;> first | (cases hc; done) | skip
 rename_i id ops draw
 split at hc
 ·rename_i ds' hds
  split at hc
  ·(repeat' split at hc) <;> cases hc
  ·rename_i hd
   cases hc
   have hd' : draw = false := by simpa using hd
   subst hd'
   refine wp_region_list (regW_sound hn (fun te fr H L a w hR' hk => ?_) ops.toList ds hds [] fr H L a w hR h)
   refine ⟨L, fr, H, .norm, hR'.weak fun s => ?_, rfl, hk⟩
   simp only [den, lk]
   split
   ·exact .inl rfl
   ·exact .inr rfl
 ·cases hc
theorem W_cond {c : Opd} {x y : DC} {b : Bool} (hc : ev [] fr c = .bool b) (ht : b = true → W F x Q fr H) (hf : b = false → W F y Q fr H) : W F (.cond c x y) Q fr H := by
 intro code hs G L a w hn hR
 cases code <;> simp only [strip] at hs <;> first | (cases hs; done) | (repeat' split at hs) <;> first | (cases hs; done) | skip
 all_goals try contradiction
 rename_i c' x' y'
 cases hs
 rw [ev_den] at hc
 have hv := ev_V (vs := F.vs) hR c'
 rw [hc] at hv
 refine wp_cond_split hv.inv_bool (fun hb => ht hb x' rfl G L a w hn hR) (fun hb => hf hb y' rfl G L a w hn hR)
def blkQ (id : Nat) (Q : Ex → Fr → Hp → Prop) : Ex → Fr → Hp → Prop
 | .exit j, fr, H => if j = id then Q .norm fr H else Q (.exit j) fr H
 | e, fr, H => Q e fr H
theorem W_block {id : Nat} {b : DC} (h : W F b (blkQ id Q) fr H) : W F (.block id b) Q fr H := by
 intro code hc G L a w hn hR
 cases code <;> simp only [strip] at hc <;> first | (cases hc; done) | (repeat' split at hc) <;> first | (cases hc; done) | skip
 all_goals try contradiction
 cases hc
 refine wp_block (wp_mono (h _ rfl G L a w hn hR) fun e a' w' => ?_)
 rintro ⟨L', fr', H', de, hR', he, hq⟩
 cases e <;> simp only [er, Option.some.injEq, reduceCtorEq] at he
 ·subst he; exact ⟨L', fr', H', _, hR', rfl, hq⟩
 ·subst he
  simp only [blkQ] at hq
  simp only [Exit.inBlock]
  split at hq
  ·rename_i e; rw [if_pos e]; exact ⟨L', fr', H', _, hR', rfl, hq⟩
  ·rename_i e; rw [if_neg e]; exact ⟨L', fr', H', _, hR', rfl, hq⟩
 ·subst he; exact ⟨L', fr', H', _, hR', rfl, hq⟩
 ·subst he; exact ⟨L', fr', H', _, hR', rfl, hq⟩
def subF (fr : Fr) : Fr → Prop
 | [] => True
 | (k, d) :: r => lk fr k = d ∧ subF fr r
theorem subF_lk {fr : Fr} : ∀ {r : Fr}, subF fr r → ∀ s, lk r s = lk fr s ∨ lk r s = .undef
 | [], _, s => .inr rfl
 | (k, d) :: r, h, s => by
  simp only [lk]
  split
  ·rename_i e; subst e; exact .inl h.1.symm
  ·exact subF_lk h.2 s
theorem W_sub {c : DC} {fr' : Fr} (hs : subF fr fr') (h : W F c Q fr' H) : W F c Q fr H := by
 intro code hc G L a w hn hR
 refine h code hc G L a w hn (hR.weak fun s => ?_)
 simp only [den]
 split
 ·exact subF_lk hs s
 ·exact .inl rfl
theorem exists_min {p : Nat → Prop} (h : ∃ n, p n) : ∃ n, p n ∧ ∀ m, p m → n ≤ m := by
 obtain ⟨n, hn⟩ := h
 induction n using Nat.strongRecOn with
 | _ n ih =>
  by_cases hm : ∃ m, m < n ∧ p m
  ·obtain ⟨m, h1, h2⟩ := hm
   exact ih m h1 h2
  ·refine ⟨n, hn, fun m hp => ?_⟩
   rcases Nat.lt_or_ge m n with h1 | h1
   ·exact absurd ⟨m, h1, hp⟩ hm
   ·exact h1
theorem W_loop {σ : Type} {b : DC} (fr' : σ → Fr) (H' : σ → Hp) (I : σ → Prop) (μ : σ → Nat) (s0 : σ) (h0 : I s0) (hf : subF fr (fr' s0)) (hH : H = H' s0)
  (round : ∀ s, I s → W F b (fun e fr1 H1 => match e with
   | .norm => ∃ s', I s' ∧ μ s' < μ s ∧ subF fr1 (fr' s') ∧ H1 = H' s'
   | e => Q e fr1 H1) (fr' s) (H' s)) : W F (.loop b) Q fr H := by
 intro code hc G L a w hn hR
 cases code <;> simp only [strip] at hc <;> first | (cases hc; done) | (repeat' split at hc) <;> first | (cases hc; done) | skip
 all_goals try contradiction
 rename_i body
 cases hc
 subst hH
 have weak : ∀ {fr1 fr2 : Fr} {H1 : Hp} {L a w}, subF fr1 fr2 → R G L (den F.vs [] fr1) (lkH H1) a w → R G L (den F.vs [] fr2) (lkH H1) a w := by
  intro fr1 fr2 H1 L a w hs hR
  refine hR.weak fun s => ?_
  simp only [den]
  split
  ·exact subF_lk hs s
  ·exact .inl rfl
 classical
 let inv : Act → World → Prop := fun a w => ∃ s L, I s ∧ R G L (den F.vs [] (fr' s)) (lkH (H' s)) a w
 let mes : Act → World → Nat := fun a w => if h : ∃ n, ∃ s L, I s ∧ R G L (den F.vs [] (fr' s)) (lkH (H' s)) a w ∧ μ s = n then Classical.choose (exists_min h) else 0
 have hmes : ∀ a w, inv a w → ∃ s L, I s ∧ R G L (den F.vs [] (fr' s)) (lkH (H' s)) a w ∧ μ s = mes a w := by
  rintro a w ⟨s, L, h1, h2⟩
  have hex : ∃ n, ∃ s L, I s ∧ R G L (den F.vs [] (fr' s)) (lkH (H' s)) a w ∧ μ s = n := ⟨_, s, L, h1, h2, rfl⟩
  have := (Classical.choose_spec (exists_min hex)).1
  simp only [mes, dif_pos hex]
  exact this
 have hmin : ∀ a w s L, I s → R G L (den F.vs [] (fr' s)) (lkH (H' s)) a w → mes a w ≤ μ s := by
  intro a w s L h1 h2
  have hex : ∃ n, ∃ s L, I s ∧ R G L (den F.vs [] (fr' s)) (lkH (H' s)) a w ∧ μ s = n := ⟨_, s, L, h1, h2, rfl⟩
  simp only [mes, dif_pos hex]
  exact (Classical.choose_spec (exists_min hex)).2 _ ⟨s, L, h1, h2, rfl⟩
 refine wp_loop inv mes ⟨s0, L, h0, weak hf hR⟩ fun a w hI => ?_
 obtain ⟨s, L, hs, hRs, hm⟩ := hmes a w hI
 refine wp_mono (round s hs body rfl G L a w hn hRs) fun e a' w' => ?_
 rintro ⟨L', fr1, H1, de, hR', he, hq⟩
 cases e <;> simp only [er, Option.some.injEq, reduceCtorEq] at he
 ·subst he
  obtain ⟨s', hs', hlt, hsub, rfl⟩ := hq
  have hR2 := weak hsub hR'
  exact ⟨⟨s', L', hs', hR2⟩, Nat.lt_of_le_of_lt (hmin a' w' s' L' hs' hR2) (by omega)⟩
 ·subst he; exact ⟨L', fr1, H1, _, hR', rfl, hq⟩
 ·subst he; exact ⟨L', fr1, H1, _, hR', rfl, hq⟩
 ·subst he; exact ⟨L', fr1, H1, _, hR', rfl, hq⟩
end
end Go.Dat
namespace Go.Dat
open Go
inductive Exp (h : Heap) : DV → DV → Prop where
 | imm {d : DV} (hr : d.rf = true) : Exp h d d
 | undef (d : DV) : Exp h d .undef
 | nils (sz : Nat) : Exp h .nils (.sl sz [])
 | osl {sz o off len : Nat} {cells rs : List DV} (ho : h o = some cells) (hsz : sz ≠ 0) (hfit : off + len * sz ≤ cells.length) (hl : rs.length = len * sz)
   (hp : ∀ (k : Nat) d r, ((cells.drop off).take (len * sz))[k]? = some d → rs[k]? = some r → Exp h d r) : Exp h (.osl sz o off len) (.sl sz rs)
 | agg {cs rs : List DV} (hl : rs.length = cs.length) (hp : ∀ (k : Nat) d r, cs[k]? = some d → rs[k]? = some r → Exp h d r) : Exp h (.agg cs) (.agg rs)
 | tup {cs rs : List DV} (hl : rs.length = cs.length) (hp : ∀ (k : Nat) d r, cs[k]? = some d → rs[k]? = some r → Exp h d r) : Exp h (.tup cs) (.tup rs)
theorem Exp.VI {w : World} {S : Nat → Prop} {L : Nat → Option Nat} {h : Heap} (H : HOK w S L h) {d r : DV} (he : Exp h d r) : ∀ {v : Value}, V w L (Av S L) d v → VI w S r v := by
 induction he with
 | imm hr =>
  intro v hv
  exact (hv.rf_imm hr).mono fun b _ hA => ⟨rfl, fun hS => hA (.inl hS)⟩
 | undef d => intro v _; exact .undef v
 | nils sz => intro v hv; rw [hv.inv_nils]; exact .sl0 _ _ _
 | @osl sz o off len cells rs ho hsz hfit hl hp ih =>
  intro v hv
  rcases hv.inv_osl with ⟨b, c, T, m, hL, rfl, hc, hs, hm⟩ | ⟨rfl, rfl⟩
  ·obtain ⟨cells', cur, T', hho, hb, hl', hpp⟩ := H.at_ hL
   rw [ho] at hho; cases hho
   by_cases h0 : rs = []
   ·subst h0
    have : len = 0 := by
     rcases Nat.eq_zero_or_pos len with e | e
     ·exact e
     ·have := Nat.mul_pos e (Nat.pos_of_ne_zero hsz); simp at hl; omega
    subst this
    exact .sl0 _ _ _
   ·have hget : ∀ k r, rs[k]? = some r → ∃ d u, ((cells.drop off).take (len * sz))[k]? = some d ∧ cur[off + k]? = some u ∧ V w L (Av S L) d u := by
     intro k r hk
     have hlt : k < len * sz := by have := (List.getElem?_eq_some_iff.1 hk).1; omega
     obtain ⟨d, hd⟩ := exists_get (l := (cells.drop off).take (len * sz)) (k := k) (by simp; omega)
     obtain ⟨u, hu⟩ := exists_aget (l := cur) (k := off + k) (by omega)
     exact ⟨d, u, hd, hu, hpp _ d u (cut_get hd) hu⟩
    refine .sl (ad := ⟨b, off, none⟩) (fun k => (cur[off + k]?).getD Go.undef) h0 hl hc (H.notS o b hL) (fun k r hk => ?_) (fun k r hk => ?_)
    ·obtain ⟨d, u, hd, hu, hv'⟩ := hget k r hk
     rw [add_lit, cell_of_row w b _ cur T' (0, 0) hb, hu]; rfl
    ·obtain ⟨d, u, hd, hu, hv'⟩ := hget k r hk
     rw [hu]
     exact ih k d r hd hk hv'
  ·have : rs = [] := List.eq_nil_of_length_eq_zero (by simpa using hl)
   subst this
   exact .sl0 _ _ _
 | agg hl hp ih =>
  intro v hv
  obtain ⟨us, rfl, hl', hv'⟩ := hv.inv_agg
  refine .agg (by omega) fun k r u hk hu => ?_
  obtain ⟨d, hd⟩ := exists_get (show k < _ from by have := (List.getElem?_eq_some_iff.1 hk).1; rw [hl] at this; exact this)
  exact ih k d r hd hk (hv' k d u hd hu)
 | tup hl hp ih =>
  intro v hv
  obtain ⟨us, rfl, hl', hv'⟩ := hv.inv_tup
  refine .tup (by omega) fun k r u hk hu => ?_
  obtain ⟨d, hd⟩ := exists_get (show k < _ from by have := (List.getElem?_eq_some_iff.1 hk).1; rw [hl] at this; exact this)
  exact ih k d r hd hk (hv' k d u hd hu)
mutual
def DV.sc : DV → Bool
 | .int .. | .bool _ | .str _ | .nilp | .nils | .nili | .fn _ => true
 | .sl _ xs => xs.isEmpty
 | .tup cs => DV.scL cs
 | _ => false
def DV.scL : List DV → Bool
 | [] => true
 | d :: r => d.sc && DV.scL r
end
theorem DV.scL_all : ∀ cs : List DV, DV.scL cs = cs.all (·.sc)
 | [] => rfl
 | d :: r => by simp [DV.scL, DV.scL_all r]
theorem DV.sc_tup (cs : List DV) : (DV.tup cs).sc = cs.all (·.sc) := by rw [DV.sc, DV.scL_all]
theorem VI.sc {w : World} {A : Nat → Prop} {d : DV} {v : Value} (h : VI w A d v) (hs : d.sc = true) (w' : World) (A' : Nat → Prop) : VI w' A' d v := by
 induction h with
 | undef v => exact .undef v
 | int k n => exact .int k n
 | bool b => exact .bool b
 | str l => exact .str l
 | nilp => exact .nilp
 | nils => exact .nils
 | nili => exact .nili
 | fn f => exact .fn f
 | sl0 sz a c => exact .sl0 sz a c
 | @sl sz xs n c ad vs hx => simp [DV.sc, hx] at hs
 | el => simp [DV.sc] at hs
 | agg => simp [DV.sc] at hs
 | tup hl _ ih =>
  rw [DV.sc_tup, List.all_eq_true] at hs
  exact .tup hl fun k d v h1 h2 => ih k d v h1 h2 (hs d (List.mem_of_getElem? h1))
 | iface => simp [DV.sc] at hs
 | clo => simp [DV.sc] at hs
 | raw => simp [DV.sc] at hs
inductive RV where
 | t (k : Nat)
 | c1 (k : Nat)
 | cn (n k : Nat)
def sRes (P : Program) : ResultVar → Option RV
 | .tmp k => some (.t k)
 | .cell k t => if tAgg P t then (tSize P t).map (.cn · k) else if (P.underlying t).isSome then some (.c1 k) else none
def sRess (P : Program) : List ResultVar → Option (List RV)
 | [] => some []
 | x :: r => (sRes P x).bind fun y => (sRess P r).map (y :: ·)
def resD1 (fr : Fr) (H : Hp) : RV → Option DV
 | .t k => some (lk fr k)
 | .c1 k => match lk fr k with
  | .ptr o off => (lkH H o).bind fun cs => cs[off]?
  | _ => none
 | .cn n k => match lk fr k with
  | .ptr o off => (lkH H o).bind fun cs => if off + n ≤ cs.length then some (.agg ((cs.drop off).take n)) else none
  | _ => none
def resDs (fr : Fr) (H : Hp) : List RV → Option (List DV)
 | [] => some []
 | x :: r => (resD1 fr H x).bind fun d => (resDs fr H r).map (d :: ·)
def oneOf : List DV → DV
 | [d] => d
 | ds => .tup ds
section
variable {P : Program} {G : Cx} {L : Nat → Option Nat} {vs : List Nat} {fr : Fr} {H : Hp} {a : Act} {w : World}
def resF (tmps : Array Value) (x : ResultVar) : Sem Value := match x with
 | .tmp t => pure (tmps.getD t undef)
 | .cell c t => do loadVar t (← asAddr (tmps.getD c undef))
theorem results_eq (fn : Func) (tmps : Array Value) : results fn tmps = (do let vs ← fn.results.mapM (resF tmps); pure (if h : vs.size = 1 then vs[0] else .tuple vs)) := rfl
theorem res1_run (hR : R G L (den vs [] fr) (lkH H) a w) (x : ResultVar) {y : RV} (hx : sRes P x = some y) {d : DV} (hd : resD1 fr H y = some d) (hvs : ∀ k, (x = .tmp k ∨ ∃ t, x = .cell k t) → vs.contains k = true) :
  ∃ v, (resF a.tmps x).run P w = .ok v w ∧ V w L (Av G.S L) d v := by
 unfold resF
 cases x with
 | tmp k =>
  simp only [sRes, Option.some.injEq] at hx
  subst hx
  simp only [resD1, Option.some.injEq] at hd
  have := hR.slots k
  simp only [den, hvs k (.inl rfl), if_true, hd] at this
  exact ⟨_, rfl, this⟩
 | cell k t =>
  have hk := hvs k (.inr ⟨t, rfl⟩)
  have hs := hR.slots k
  simp only [den, hk, if_true] at hs
  simp only [sRes] at hx
  split at hx
  ·rename_i hA
   rw [Option.map_eq_some_iff] at hx
   obtain ⟨n, hn, rfl⟩ := hx
   simp only [resD1] at hd
   split at hd
   ·rename_i o off hp
    rw [hp] at hs
    obtain ⟨b, hL, hv⟩ := hs.inv_ptr
    obtain ⟨cells, cur, T, hho, hb, hl, hpp⟩ := hR.heap.at_ hL
    rw [hho] at hd
    simp only [Option.bind_some] at hd
    split at hd
    ·rename_i hfit
     cases hd
     have hrow : ∀ j v, ((cur.toList.drop off).take n)[j]? = some v → w.cell? ((⟨b, off, none⟩ : Addr).add j) = some v := by
      intro j v hj
      rw [add_lit, cell_of_row w b _ cur T (0, 0) hb]
      simpa using cut_get hj
     refine ⟨.agg ((cur.toList.drop off).take n).toArray, ?_, .agg (by simp; omega) fun j y v h1 h2 => ?_⟩
     ·simp only [hv, Sem.run_bind, asAddr, Sem.run_pure, Result.andThen_ok, run_loadVar_agg P t n _ _ w hA hn (by simp; omega) hrow]
     ·have h2' := cut_get (show ((cur.toList.drop off).take n)[j]? = some v by simpa using h2)
      exact hpp _ y v (cut_get h1) (by simpa using h2')
    ·cases hd
   ·cases hd
  ·rename_i hA
   split at hx
   ·rename_i hu
    cases hx
    simp only [resD1] at hd
    split at hd
    ·rename_i o off hp
     rw [hp] at hs
     obtain ⟨b, hL, hv⟩ := hs.inv_ptr
     obtain ⟨cells, cur, T, hho, hb, hl, hpp⟩ := hR.heap.at_ hL
     rw [hho] at hd
     simp only [Option.bind_some] at hd
     obtain ⟨u, hu'⟩ := exists_aget (l := cur) (k := off) (by have := (List.getElem?_eq_some_iff.1 hd).1; omega)
     refine ⟨u, ?_, hpp off d u hd hu'⟩
     have hc : w.cell? ⟨b, off, none⟩ = some u := by rw [cell_of_row w b off cur T (0, 0) hb]; exact hu'
     simp only [hv, Sem.run_bind, asAddr, Sem.run_pure, Result.andThen_ok, run_loadVar_one P t _ _ w (by simpa using hA) hu hc]
    ·cases hd
   ·cases hx
def resVs (vs : List Nat) : List ResultVar → Bool
 | [] => true
 | .tmp k :: r => vs.contains k && resVs vs r
 | .cell k _ :: r => vs.contains k && resVs vs r
theorem resL_run (hR : R G L (den vs [] fr) (lkH H) a w) : ∀ (l : List ResultVar) (rv : List RV) (ds : List DV), sRess P l = some rv → resDs fr H rv = some ds → resVs vs l = true →
  ∃ us : List Value, (l.mapM (resF a.tmps)).run P w = .ok us w ∧ us.length = ds.length ∧ ∀ (k : Nat) d v, ds[k]? = some d → us[k]? = some v → V w L (Av G.S L) d v
 | [], rv, ds, h1, h2, _ => by
  simp only [sRess, Option.some.injEq] at h1
  subst h1
  simp only [resDs, Option.some.injEq] at h2
  subst h2
  exact ⟨[], by simp, rfl, fun k d v h => by simp at h⟩
 | x :: l, rv, ds, h1, h2, h3 => by
  simp only [sRess, Option.bind_eq_some_iff, Option.map_eq_some_iff] at h1
  obtain ⟨y, hy, rv', hrv, rfl⟩ := h1
  simp only [resDs, Option.bind_eq_some_iff, Option.map_eq_some_iff] at h2
  obtain ⟨d, hd, ds', hds, rfl⟩ := h2
  have hx : (∀ k, (x = .tmp k ∨ ∃ t, x = .cell k t) → vs.contains k = true) ∧ resVs vs l = true := by
   cases x with
   | tmp k => simp only [resVs, Bool.and_eq_true] at h3; exact ⟨by rintro k' (e | ⟨t, e⟩) <;> cases e; exact h3.1, h3.2⟩
   | cell k t => simp only [resVs, Bool.and_eq_true] at h3; exact ⟨by rintro k' (e | ⟨t, e⟩) <;> cases e; exact h3.1, h3.2⟩
  obtain ⟨v, hv, hV⟩ := res1_run (P := P) hR x hy hd hx.1
  obtain ⟨us, hus, hl, hp⟩ := resL_run hR l rv' ds' hrv hds hx.2
  refine ⟨v :: us, ?_, by simp [hl], fun k e u h1 h2 => ?_⟩
  ·rw [List.mapM_cons]
   simp only [Sem.run_bind, hv, hus, Result.andThen_ok, Sem.run_pure]
  ·cases k with
   | zero => simp at h1 h2; subst h1; subst h2; exact hV
   | succ k => simp at h1 h2; exact hp k e u h1 h2
theorem results_run (fn : Func) (hR : R G L (den vs [] fr) (lkH H) a w) {rv : List RV} {ds : List DV} (h1 : sRess P fn.results.toList = some rv) (h2 : resDs fr H rv = some ds) (h3 : resVs vs fn.results.toList = true) :
  ∃ v, (results fn a.tmps).run P w = .ok v w ∧ V w L (Av G.S L) (oneOf ds) v := by
 obtain ⟨us, hus, hl, hp⟩ := resL_run (P := P) hR fn.results.toList rv ds h1 h2 h3
 refine ⟨if h : us.length = 1 then us[0] else .tuple us.toArray, ?_, ?_⟩
 ·rw [results_eq, Array.mapM_eq_mapM_toList]
  simp only [Sem.run_bind, Sem.run_map, hus, Result.andThen_ok, Sem.run_pure, List.size_toArray, List.getElem_toArray]
 ·match ds, us, hl, hp with
  | [d], [u], _, hp => exact hp 0 d u rfl rfl
  | [], [], _, _ => exact .imm (.tup rfl fun k d v h => by simp at h)
  | d :: d' :: ds, u :: u' :: us, hl, hp =>
   simp only [oneOf]
   rw [dif_neg (by simp)]
   exact .tup (by simpa using hl.symm) fun k d v h1 h2 => hp k d v h1 (by simpa using h2)
end
def initF (k : Nat) : List DV → Fr
 | [] => []
 | d :: r => (k, d) :: initF (k + 1) r
theorem lk_initF : ∀ (ds : List DV) (k s : Nat), lk (initF k ds) s = if k ≤ s then ds.getD (s - k) .undef else .undef
 | [], k, s => by simp [initF, lk]
 | d :: ds, k, s => by
  simp only [initF, lk, lk_initF ds (k + 1) s]
  by_cases h1 : k = s
  ·subst h1; simp
  ·rw [if_neg h1]
   by_cases h2 : k + 1 ≤ s
   ·rw [if_pos h2, if_pos (by omega)]
    have : s - k = (s - (k + 1)) + 1 := by omega
    rw [this]; simp
   ·rw [if_neg h2, if_neg (by omega)]
structure IsFn (F : FnD) (f : Nat) (c : DC) (rv : List RV) : Prop where
 ex : ∃ fn code, F.P.funcs[f]? = some fn ∧ fn.body = some code ∧ fn.ntmps = F.n ∧ strip F.P F.vs F.own F.n code = c ∧ sRess F.P fn.results.toList = some rv ∧ resVs F.vs fn.results.toList = true
def RetP (rv : List RV) (r : DV) (e : Ex) (fr : Fr) (H : Hp) : Prop := (e = .norm ∨ e = .ret) ∧ ∃ ds, resDs fr H rv = some ds ∧ Exp (lkH H) (oneOf ds) r
theorem RetP_1 {k : Nat} {r : DV} {fr : Fr} {H : Hp} (h : Exp (lkH H) (lk fr k) r) : RetP [.t k] r .ret fr H := ⟨.inr rfl, _, rfl, h⟩
theorem RetP_2 {j k : Nat} {r s : DV} {fr : Fr} {H : Hp} (h1 : Exp (lkH H) (lk fr j) r) (h2 : Exp (lkH H) (lk fr k) s) : RetP [.t j, .t k] (.tup [r, s]) .ret fr H :=
 ⟨.inr rfl, _, rfl, .tup rfl fun i d x hd hx => by
  match i with
  | 0 => simp at hd hx; subst hd; subst hx; exact h1
  | 1 => simp at hd hx; subst hd; subst hx; exact h2
  | i + 2 => simp at hd⟩
theorem RetP_3 {i j k : Nat} {r s t : DV} {fr : Fr} {H : Hp} (h1 : Exp (lkH H) (lk fr i) r) (h2 : Exp (lkH H) (lk fr j) s) (h3 : Exp (lkH H) (lk fr k) t) : RetP [.t i, .t j, .t k] (.tup [r, s, t]) .ret fr H :=
 ⟨.inr rfl, _, rfl, .tup rfl fun i d x hd hx => by
  match i with
  | 0 => simp at hd hx; subst hd; subst hx; exact h1
  | 1 => simp at hd hx; subst hd; subst hx; exact h2
  | 2 => simp at hd hx; subst hd; subst hx; exact h3
  | i + 3 => simp at hd⟩
theorem RetP_0 {fr : Fr} {H : Hp} {e : Ex} (he : e = .norm ∨ e = .ret) : RetP [] (.tup []) e fr H := ⟨he, _, rfl, .imm rfl⟩
theorem RetP_c {n k o : Nat} {r : DV} {fr : Fr} {H : Hp} {cs : List DV} (hk : lk fr k = .ptr o 0) (ho : lkH H o = some cs) (hn : cs.length = n) (h : Exp (lkH H) (.agg cs) r) : RetP [.cn n k] r .ret fr H := by
 refine ⟨.inr rfl, [.agg cs], ?_, h⟩
 simp [resDs, resD1, hk, ho, hn, List.take_of_length_le (Nat.le_of_eq hn)]
theorem PCalls_of {F : FnD} {f : Nat} {c : DC} {rv : List RV} {args : List DV} {r : DV} (hf : IsFn F f c rv) (hn : args.length ≤ F.n)
  (h : W F c (RetP rv r) (initF 0 args) []) : PCalls F.P f args r := by
 obtain ⟨fn, code, hfn, hb, hnt, hst, hrv, hrs⟩ := hf.ex
 intro A w us hT hA hs hv
 refine calls_of_wp hfn hb ?_
 have hR : R ⟨A, w, fun _ => False, F.n, fun _ => none, []⟩ (fun _ => none) (den F.vs [] (initF 0 args)) (lkH []) { tmps := us ++ Array.replicate (fn.ntmps - us.size) undef, defers := [] } w := by
  refine ⟨by simp; omega, rfl, fun s => ?_, ⟨(by intro o b h; cases h), (by intro o c h; cases h), (by intro o p b h; cases h), (by intro o b h; cases h), (by intro o b h; cases h)⟩, Ext.refl _ _, hA, (by intro o b h; cases h), (by intro o b h; cases h), fun _ _ => rfl⟩
  simp only [den, lk]
  split
  ·rw [lk_initF, if_pos (Nat.zero_le _), Nat.sub_zero]
   cases hk : args[s]? with
   | none => rw [List.getD_eq_getElem?_getD, hk]; exact .imm (.undef _)
   | some d =>
    have hlt := (List.getElem?_eq_some_iff.1 hk).1
    obtain ⟨u, hu⟩ := exists_aget (l := us) (k := s) (by omega)
    rw [List.getD_eq_getElem?_getD, hk, Array.getD_eq_getD_getElem?, Array.getElem?_append_left (by omega), hu]
    refine .imm ((hv s d u hk hu).mono fun b _ hb => ⟨rfl, ?_⟩)
    rintro (h1 | ⟨o, h1⟩)
    ·exact hb h1
    ·cases h1
  ·exact .imm (.undef _)
 refine wp_mono (h code hst ⟨A, w, fun _ => False, F.n, fun _ => none, []⟩ _ _ _ ⟨rfl, hT, fun _ h => False.elim h⟩ hR) fun e a' w' => ?_
 rintro ⟨L, fr, H, de, hR', he, hde, ds, hds, hexp⟩
 obtain ⟨v, hrun, hV⟩ := results_run (P := F.P) fn hR' hrv hds hrs
 have hvi := hexp.VI hR'.heap hV
 have hfin : ∃ u, Ending.returned v = .returned u ∧ VI w' A r u ∧ Ext (fun _ => False) w w' := ⟨v, rfl, hvi, hR'.ext⟩
 cases e <;> simp only [er, Option.some.injEq, reduceCtorEq] at he
 ·exact ⟨hR'.defers, v, hrun, hfin⟩
 ·subst he; rcases hde with e | e <;> cases e
 ·exact ⟨hR'.defers, v, hrun, hfin⟩
 ·subst he; rcases hde with e | e <;> cases e
end Go.Dat
namespace Go.Dat
open Go
section
variable (F : FnD) (os : List DOper) (dst : Dst) (te fr : Fr) (H : Hp) (K : Fr → Fr → Hp → Prop)
def stepW (x : Option (DV × Eff)) : Prop := OW x fun r => regW F os (dst.onT (r.2.onF te) r.1) (dst.onX (r.2.onF fr) r.1) (r.2.onL H) K
def goW : DOp → Prop
 | .call f args => callR F f (args.map (ev te fr)) te fr H fun d te' fr' H' => regW F os (dst.onT te' d) (dst.onX fr' d) H' K
 | p => stepW F os dst te fr H K (opE F.nb dst.slot (ev te fr) (lkH H) p)
def regG (op : DOp) (want : Bool) : DV → Prop
 | .bool b => (b = want → goW F os dst te fr H K op) ∧ (b = !want → regW F os (dst.onT te (.tup [])) (dst.onX fr (.tup [])) H K)
 | .tup [] => regW F os (dst.onT te (.tup [])) (dst.onX fr (.tup [])) H K
 | _ => False
theorem regW_nil : regW F [] te fr H K = K te fr H := rfl
theorem regW_none (op : DOp) : regW F (⟨dst, op, none⟩ :: os) te fr H K = goW F os dst te fr H K op := by
 cases op <;> rfl
theorem regW_some (op : DOp) (g : Opd) (want : Bool) : regW F (⟨dst, op, some (g, want)⟩ :: os) te fr H K = regG F os dst te fr H K op want (ev te fr g) := by
 simp only [regW, regG]
 cases op <;> rfl
theorem stepW_none : stepW F os dst te fr H K none = False := by simp [stepW, OW]
theorem stepW_no (d : DV) : stepW F os dst te fr H K (some (d, .no)) = regW F os (dst.onT te d) (dst.onX fr d) H K := by simp [stepW, OW, Eff.onF, Eff.onL]
theorem stepW_set (d : DV) (o : Nat) (c : List DV) : stepW F os dst te fr H K (some (d, .set o c)) = regW F os (dst.onT te d) (dst.onX fr d) (setH H o c) K := by simp [stepW, OW, Eff.onF, Eff.onL]
theorem stepW_new (d : DV) (o : Nat) (c : List DV) : stepW F os dst te fr H K (some (d, .new o c)) = regW F os (dst.onT te d) (dst.onX fr d) (setH H o c) K := by simp [stepW, OW, Eff.onF, Eff.onL]
theorem stepW_app (d : DV) (o : Nat) (c : List DV) : stepW F os dst te fr H K (some (d, .app o c)) =
  regW F os (dst.onT (mapF (purge o) te) d) (dst.onX (mapF (purge o) fr) d) (setH (mapH (purge o) H) o c) K := by simp [stepW, OW, Eff.onF, Eff.onL]
theorem stepW_gd (c : Prop) (x : Option (DV × Eff)) : stepW F os dst te fr H K (gd c x) = (c ∧ stepW F os dst te fr H K x) := by
 unfold stepW; rw [propext (OW_gd c x _)]
theorem regG_tt (op : DOp) : regG F os dst te fr H K op true (.bool true) = goW F os dst te fr H K op := by simp [regG]
theorem regG_ff (op : DOp) : regG F os dst te fr H K op false (.bool false) = goW F os dst te fr H K op := by simp [regG]
theorem regG_tf (op : DOp) : regG F os dst te fr H K op true (.bool false) = regW F os (dst.onT te (.tup [])) (dst.onX fr (.tup [])) H K := by simp [regG]
theorem regG_ft (op : DOp) : regG F os dst te fr H K op false (.bool true) = regW F os (dst.onT te (.tup [])) (dst.onX fr (.tup [])) H K := by simp [regG]
theorem regG_u (op : DOp) (w : Bool) : regG F os dst te fr H K op w (.tup []) = regW F os (dst.onT te (.tup [])) (dst.onX fr (.tup [])) H K := by simp [regG]
end
theorem regG_split {F : FnD} {os : List DOper} {dst : Dst} {te fr : Fr} {H : Hp} {K : Fr → Fr → Hp → Prop} {op : DOp} {w b : Bool}
  (ht : b = true → regG F os dst te fr H K op w (.bool true)) (hf : b = false → regG F os dst te fr H K op w (.bool false)) : regG F os dst te fr H K op w (.bool b) := by
 cases b
 ·exact hf rfl
 ·exact ht rfl
theorem gd_map {α β : Type} (c : Prop) (x : Option α) (f : α → β) : (gd c x).map f = gd c (x.map f) := by unfold gd; split <;> rfl
theorem gd_bind {α β : Type} (c : Prop) (x : Option α) (f : α → Option β) : (gd c x).bind f = gd c (x.bind f) := by unfold gd; split <;> rfl
theorem gd_true {α : Type} (x : Option α) : gd True x = x := by unfold gd; simp
theorem gd_pos {α : Type} {c : Prop} (x : Option α) (h : c) : gd c x = x := by unfold gd; simp [h]
theorem seqQ_norm (F : FnD) (b : DC) (Q : Ex → Fr → Hp → Prop) (fr : Fr) (H : Hp) : seqQ F b Q .norm fr H = W F b Q fr H := rfl
theorem seqQ_ret (F : FnD) (b : DC) (Q : Ex → Fr → Hp → Prop) (fr : Fr) (H : Hp) : seqQ F b Q .ret fr H = Q .ret fr H := rfl
theorem seqQ_exit (F : FnD) (b : DC) (Q : Ex → Fr → Hp → Prop) (fr : Fr) (H : Hp) (i : Nat) : seqQ F b Q (.exit i) fr H = Q (.exit i) fr H := rfl
theorem blkQ_norm (i : Nat) (Q : Ex → Fr → Hp → Prop) (fr : Fr) (H : Hp) : blkQ i Q .norm fr H = Q .norm fr H := rfl
theorem blkQ_ret (i : Nat) (Q : Ex → Fr → Hp → Prop) (fr : Fr) (H : Hp) : blkQ i Q .ret fr H = Q .ret fr H := rfl
theorem w64 {x : Int} (h1 : -9223372036854775808 ≤ x) (h2 : x ≤ 9223372036854775807) : IntKind.i64.wrap x = x := by rw [IntKind.wrap_i64]; omega
theorem wu64 {x : Int} (h1 : 0 ≤ x) (h2 : x ≤ 18446744073709551615) : IntKind.u64.wrap x = x := by rw [IntKind.wrap_u64]; omega
theorem wu32 {x : Int} (h1 : 0 ≤ x) (h2 : x ≤ 4294967295) : IntKind.u32.wrap x = x := by rw [IntKind.wrap_u32]; omega
theorem wu8 {x : Int} (h1 : 0 ≤ x) (h2 : x ≤ 255) : IntKind.u8.wrap x = x := by rw [IntKind.wrap_u8]; omega
theorem wu64' (x : Int) : IntKind.u64.wrap x = x % 18446744073709551616 := by rw [IntKind.wrap_u64]
theorem wu32' (x : Int) : IntKind.u32.wrap x = x % 4294967296 := by rw [IntKind.wrap_u32]
end Go.Dat
namespace Go.Dat
open Go
theorem opE_congr {nb : Nat} {dst : Option Nat} {e e' : Opd → DV} {h : Heap} {p : DOp} (he : ∀ o ∈ p.opds, e o = e' o) : opE nb dst e h p = opE nb dst e' h p := by
 have hps : ∀ (ps : List (Nat × Nat × Opd)), (∀ o ∈ ps.map (·.2.2), e o = e' o) → (ps.map fun p => (p.1, p.2.1, e p.2.2)) = ps.map fun p => (p.1, p.2.1, e' p.2.2) := by
  intro ps hp
  refine List.map_congr_left fun p hm => ?_
  rw [hp _ (List.mem_map.2 ⟨p, hm, rfl⟩)]
 have hb : ∀ (n : Nat) (x : Option Opd) (d : Nat), (∀ o ∈ x.toList, e o = e' o) → boundE e n x d = boundE e' n x d := by
  intro n x d hx
  cases x with
  | none => rfl
  | some x => simp only [boundE]; rw [hx x (by simp)]
 cases p with
 | build z ps => simp only [opE]; rw [hps ps he]
 | bsl sz z ps => simp only [opE]; rw [hps ps he]
 | bsl' sz z ps => simp only [opE]; rw [hps ps he]
 | slc sz x lo hi =>
  simp only [DOp.opds, List.mem_cons, List.mem_append] at he
  have hx := he x (.inl rfl)
  have hlo := fun n d => hb n lo d fun o ho => he o (.inr (.inl ho))
  have hhi := fun n d => hb n hi d fun o ho => he o (.inr (.inr ho))
  simp only [opE, hx, hlo, hhi]
 | slcS x lo hi =>
  simp only [DOp.opds, List.mem_cons, List.mem_append] at he
  have hx := he x (.inl rfl)
  have hlo := fun n d => hb n lo d fun o ho => he o (.inr (.inl ho))
  have hhi := fun n d => hb n hi d fun o ho => he o (.inr (.inr ho))
  simp only [opE, hx, hlo, hhi]
 | slc3 sz x lo hi mx =>
  simp only [DOp.opds, List.mem_cons] at he
  have hx := he x (.inl rfl)
  have hhi := fun n d => hb n (some hi) d fun o ho => he o (.inr (.inl (by simpa using ho)))
  have hmx := he mx (.inr (.inr (.inl rfl)))
  have hlo := fun n d => hb n lo d fun o ho => he o (.inr (.inr (.inr ho)))
  simp only [opE, hx, hlo, hhi, hmx]
 | mkf f ps =>
  have : ps.map e = ps.map e' := List.map_congr_left fun o ho => he o ho
  simp only [opE, this]
 | callv x args => rfl
 | call f args => rfl
 | alloc z => rfl
 | allocT t z => rfl
 | pan x => rfl
 | _ => simp only [DOp.opds, List.mem_cons, List.not_mem_nil, or_false, forall_eq_or_imp, forall_eq] at he; simp only [opE, he]
def NoEff (x : Option (DV × Eff)) : Prop := ∀ d ef, x = some (d, ef) → ef = .no
theorem NoEff.none : NoEff none := by intro d ef h; cases h
theorem NoEff.some (d : DV) : NoEff (some (d, .no)) := by intro d' ef h; cases h; rfl
theorem NoEff.gd {c : Prop} {x : Option (DV × Eff)} (h : NoEff x) : NoEff (gd c x) := fun d ef e => h d ef (gd_some e).2
theorem NoEff.gdo {a b : Nat} {x y : Option (DV × Eff)} (h : NoEff x) (k : NoEff y) : NoEff (gdo a b x y) := fun d ef e => by
 unfold Dat.gdo at e
 split at e
 ·exact h d ef e
 ·split at e
  ·exact k d ef e
  ·cases e
theorem NoEff.map {α : Type} (x : Option α) (f : α → DV) : NoEff (x.map fun a => (f a, .no)) := by
 intro d ef h
 rw [Option.map_eq_some_iff] at h
 obtain ⟨_, _, h⟩ := h
 cases h; rfl
theorem NoEff.bind {α : Type} {x : Option α} {f : α → Option (DV × Eff)} (h : ∀ a, NoEff (f a)) : NoEff (x.bind f) := by
 intro d ef e
 rw [Option.bind_eq_some_iff] at e
 obtain ⟨a, _, e⟩ := e
 exact h a d ef e
theorem opE_noEff {nb : Nat} {dst : Option Nat} {e : Opd → DV} {h : Heap} {p : DOp} (hc : p.cls ≤ 1) : NoEff (opE nb dst e h p) := by
 cases p <;> first | (simp [DOp.cls] at hc; done) | skip
 all_goals
  simp only [opE]
  repeat' split
  all_goals repeat' first | exact NoEff.none | exact NoEff.some _ | exact NoEff.map _ _ | apply NoEff.gd | apply NoEff.gdo | (apply NoEff.bind; intro _)
theorem opE_pure {nb : Nat} {dst : Option Nat} {e : Opd → DV} {h h' : Heap} {p : DOp} (hc : p.cls = 0) : opE nb dst e h p = opE nb dst e h' p := by
 cases p <;> first | (simp [DOp.cls] at hc; done) | rfl
def Heap.le (h h' : Heap) : Prop := ∀ o c, h o = some c → h' o = some c
theorem opE_read {nb : Nat} {dst : Option Nat} {e : Opd → DV} {h h' : Heap} (hle : h.le h') {p : DOp} (hc : p.cls = 1) {r : DV × Eff} (he : opE nb dst e h p = some r) : opE nb dst e h' p = some r := by
 cases p <;> first | (simp [DOp.cls] at hc; done) | skip
 case appi sz bytes x =>
  simp only [opE, Option.bind_eq_some_iff] at he ⊢
  obtain ⟨ys, h1, h2⟩ := he
  refine ⟨ys, ?_, h2⟩
  unfold newsE at h1 ⊢
  split at h1
  ·exact h1
  ·exact h1
  ·simp only [Option.bind_eq_some_iff] at h1 ⊢
   obtain ⟨c, h3, h4⟩ := h1
   exact ⟨c, hle _ _ h3, h4⟩
  ·cases h1
 all_goals
  simp only [opE] at he ⊢
  split at he
  all_goals first
   | exact he
   | (simp only [Option.bind_eq_some_iff] at he ⊢; obtain ⟨c, h1, h2⟩ := he; exact ⟨c, hle _ _ h1, h2⟩)
theorem opE_new {nb : Nat} {dst : Option Nat} {e : Opd → DV} {h : Heap} {p : DOp} (hc : p.cls = 2) {d : DV} {ef : Eff} (he : opE nb dst e h p = some (d, ef)) :
  ∃ k cells, dst = some k ∧ ef = .new (nb + k) cells ∧ h (nb + k) = none ∧ ∀ h' : Heap, h' (nb + k) = none → opE nb dst e h' p = some (d, ef) := by
 have fr : ∀ (h : Heap) o, freshE nb dst h = some o → ∃ k, dst = some k ∧ o = nb + k ∧ h (nb + k) = none ∧ nb + k < 786432 := by
  intro h o ho
  unfold freshE at ho
  cases dst with
  | none => cases ho
  | some k =>
   simp only [Option.bind_some] at ho
   split at ho
   ·rename_i hn
    split at ho
    ·rename_i hl; cases ho; exact ⟨k, rfl, rfl, by simpa using hn, hl⟩
    ·cases ho
   ·cases ho
 have fr' : ∀ (h' : Heap) k, dst = some k → (h (nb + k) = none ∧ nb + k < 786432) → h' (nb + k) = none → freshE nb dst h' = some (nb + k) := by
  intro h' k hk hl hn
  subst hk
  simp [freshE, hn, hl.2]
 cases p <;> first | (simp [DOp.cls] at hc; done) | skip
 case alloc z =>
  simp only [opE, Option.map_eq_some_iff] at he
  obtain ⟨o, ho, he⟩ := he
  cases he
  obtain ⟨k, hk, rfl, hn⟩ := fr h o ho
  exact ⟨k, z, hk, rfl, hn.1, fun h' hn' => by simp only [opE, fr' h' k hk hn hn', Option.map_some]⟩
 case box x =>
  simp only [opE, Option.bind_eq_some_iff, Option.map_eq_some_iff] at he
  obtain ⟨cs, hcs, o, ho, he⟩ := he
  cases he
  obtain ⟨k, hk, rfl, hn⟩ := fr h o ho
  exact ⟨k, cs, hk, rfl, hn.1, fun h' hn' => by simp only [opE, hcs, fr' h' k hk hn hn', Option.map_some, Option.bind_some]⟩
 case bsl' sz z ps =>
  simp only [opE, Option.bind_eq_some_iff, Option.map_eq_some_iff] at he
  obtain ⟨cs, hcs, o, ho, he⟩ := he
  cases he
  obtain ⟨k, hk, rfl, hn⟩ := fr h o ho
  exact ⟨k, cs, hk, rfl, hn.1, fun h' hn' => by simp only [opE, hcs, fr' h' k hk hn hn', Option.map_some, Option.bind_some]⟩
 case mks sz bytes z l c =>
  simp only [opE] at he
  split at he
  ·rename_i k1 a1 k2 b1 e1 e2
   obtain ⟨hg, he'⟩ := gd_some he
   rw [Option.map_eq_some_iff] at he'
   obtain ⟨o, ho, he'⟩ := he'
   cases he'
   obtain ⟨k, hk, rfl, hn⟩ := fr h o ho
   exact ⟨k, _, hk, rfl, hn.1, fun h' hn' => by simp only [opE, e1, e2, fr' h' k hk hn hn', Option.map_some]; exact gd_pos _ hg⟩
  ·cases he
theorem opE_set {nb : Nat} {dst : Option Nat} {e : Opd → DV} {h : Heap} {p : DOp} (hc : p.cls = 3) {d : DV} {ef : Eff} (he : opE nb dst e h p = some (d, ef)) : ∃ o cells, ef = .set o cells := by
 cases p <;> first | (simp [DOp.cls] at hc; done) | skip
 all_goals
  simp only [opE] at he
  split at he
  ·simp only [Option.bind_eq_some_iff] at he
   first
    | (obtain ⟨cs, hcs, cv, hcv, he⟩ := he; obtain ⟨_, he⟩ := gd_some he; cases he; exact ⟨_, _, rfl⟩)
    | (obtain ⟨cs, hcs, he⟩ := he; obtain ⟨_, he⟩ := gd_some he; cases he; exact ⟨_, _, rfl⟩)
  ·cases he
def gS (σ : Nat → DV) : Option (Opd × Bool) → Option Bool
 | none => some true
 | some (g, w) => match evS σ g with
  | .bool b => some (b == w)
  | .tup [] => some false
  | _ => none
def goD (F : FnD) (dp : DOper) (σ : Nat → DV) (h : Heap) (d : DV) (ef : Eff) : Prop :=
 match dp.op with
 | .call f args => PCalls F.P f (args.map (evS σ)) d ∧ (args.map (evS σ)).all DV.rf = true ∧ ef = .no
 | p => opE F.nb dp.dst.slot (evS σ) h p = some (d, ef)
structure Gives (F : FnD) (dp : DOper) (σ : Nat → DV) (h : Heap) (d : DV) (ef : Eff) : Prop where
 out : (gS σ dp.guard = some true ∧ goD F dp σ h d ef) ∨ (gS σ dp.guard = some false ∧ d = .tup [] ∧ ef = .no)
theorem evS_upd {σ : Nat → DV} {k : Option Nat} {d : DV} {o : Opd} (h : ∀ s, k = some s → o.slot ≠ some s) : evS (updS σ k d) o = evS σ o := by
 cases k with
 | none => rfl
 | some s =>
  have hs := h s rfl
  cases o with
  | c d => rfl
  | x j => simp only [Opd.slot] at hs; simp only [evS, updS]; rw [if_neg (fun e => hs (by rw [e]))]
  | t j => simp only [Opd.slot] at hs; simp only [evS, updS]; rw [if_neg (fun e => hs (by rw [e]))]
theorem apart_ev {x y : DOper} (h : x.apart y = true) : (∀ s, x.dst.slot = some s → s ∉ y.looks) ∧ (∀ s, y.dst.slot = some s → s ∉ x.looks) ∧ (∀ s, x.dst.slot = some s → y.dst.slot ≠ some s) := by
 refine ⟨fun s hs => ?_, fun s hs => ?_, fun s hs => ?_⟩ <;> simp [DOper.apart, hs] at h
 ·exact h.1.1
 ·exact h.2
 ·exact h.1.2
theorem Gives.upd {F : FnD} {dp : DOper} {σ : Nat → DV} {h : Heap} {d d' : DV} {ef : Eff} {k : Option Nat} (hk : ∀ s, k = some s → s ∉ dp.looks) :
  Gives F dp (updS σ k d') h d ef ↔ Gives F dp σ h d ef := by
 have hop : ∀ o ∈ dp.op.opds, evS (updS σ k d') o = evS σ o := fun o ho => evS_upd fun s hs e => hk s hs (by
  unfold DOper.looks; exact List.mem_append.2 (.inl (List.mem_filterMap.2 ⟨o, ho, e⟩)))
 have hg : gS (updS σ k d') dp.guard = gS σ dp.guard := by
  cases hgu : dp.guard with
  | none => rfl
  | some p =>
   obtain ⟨g, w⟩ := p
   have : evS (updS σ k d') g = evS σ g := evS_upd fun s hs e => hk s hs (by
    unfold DOper.looks; rw [hgu]; exact List.mem_append.2 (.inr (by simp [e])))
   simp only [gS, this]
 have hgo : goD F dp (updS σ k d') h d ef ↔ goD F dp σ h d ef := by
  unfold goD
  obtain ⟨dst, op, guard⟩ := dp
  cases op with
  | call f args =>
   simp only
   have : args.map (evS (updS σ k d')) = args.map (evS σ) := List.map_congr_left fun o ho => hop o ho
   rw [this]
  | _ => simp only; rw [opE_congr hop]
 constructor
 ·rintro ⟨h1⟩; exact ⟨by rw [hg, hgo] at h1; exact h1⟩
 ·rintro ⟨h1⟩; exact ⟨by rw [hg, hgo]; exact h1⟩
section
variable {F : FnD}
theorem Gives.noEff {dp : DOper} {σ : Nat → DV} {h : Heap} {d : DV} {ef : Eff} (hc : dp.op.cls ≤ 1) (hg : Gives F dp σ h d ef) : ef = .no := by
 rcases hg.out with ⟨_, h1⟩ | ⟨_, _, h1⟩
 ·obtain ⟨dst, op, guard⟩ := dp
  cases op with
  | call f args => exact h1.2.2
  | _ => exact opE_noEff hc _ _ h1
 ·exact h1
theorem Gives.heap0 {dp : DOper} {σ : Nat → DV} {h h' : Heap} {d : DV} {ef : Eff} (hc : dp.op.cls = 0) (hg : Gives F dp σ h d ef) : Gives F dp σ h' d ef := by
 rcases hg.out with ⟨h0, h1⟩ | h1
 ·refine ⟨.inl ⟨h0, ?_⟩⟩
  obtain ⟨dst, op, guard⟩ := dp
  cases op with
  | call f args => exact h1
  | _ => exact (opE_pure (h' := h) hc).trans h1
 ·exact ⟨.inr h1⟩
theorem Gives.heap1 {dp : DOper} {σ : Nat → DV} {h h' : Heap} (hle : h.le h') {d : DV} {ef : Eff} (hc : dp.op.cls = 1) (hg : Gives F dp σ h d ef) : Gives F dp σ h' d ef := by
 rcases hg.out with ⟨h0, h1⟩ | h1
 ·refine ⟨.inl ⟨h0, ?_⟩⟩
  obtain ⟨dst, op, guard⟩ := dp
  cases op with
  | call f args => exact h1
  | _ => exact opE_read hle hc h1
 ·exact ⟨.inr h1⟩
theorem Gives.new2 {dp : DOper} {σ : Nat → DV} {h : Heap} {d : DV} {ef : Eff} (hc : dp.op.cls = 2) (hg : Gives F dp σ h d ef) :
  (ef = .no ∧ ∀ h', Gives F dp σ h' d ef) ∨ ∃ k cells, dp.dst.slot = some k ∧ ef = .new (F.nb + k) cells ∧ h (F.nb + k) = none ∧ ∀ h' : Heap, h' (F.nb + k) = none → Gives F dp σ h' d ef := by
 rcases hg.out with ⟨h0, h1⟩ | ⟨h0, h1, h2⟩
 ·obtain ⟨dst, op, guard⟩ := dp
  cases op with
  | call f args => simp [DOp.cls] at hc
  | _ =>
   obtain ⟨k, cells, e1, e2, e3, e4⟩ := opE_new hc h1
   exact .inr ⟨k, cells, e1, e2, e3, fun h' hn => ⟨.inl ⟨h0, e4 h' hn⟩⟩⟩
 ·exact .inl ⟨h2, fun h' => ⟨.inr ⟨h0, h1, h2⟩⟩⟩
def AppOK (x : Option (DV × Eff)) : Prop := ∀ d q c, x = some (d, .app q c) → q < 1048576
theorem AppOK.none : AppOK none := by intro d q c h; cases h
theorem AppOK.no (d : DV) : AppOK (some (d, .no)) := by intro d' q c h; cases h
theorem AppOK.set (d : DV) (o : Nat) (l : List DV) : AppOK (some (d, .set o l)) := by intro d' q c h; cases h
theorem AppOK.new (d : DV) (o : Nat) (l : List DV) : AppOK (some (d, .new o l)) := by intro d' q c h; cases h
theorem AppOK.gd {c : Prop} {x : Option (DV × Eff)} (h : AppOK x) : AppOK (gd c x) := fun d q l e => h d q l (gd_some e).2
theorem AppOK.gdo {a b : Nat} {x y : Option (DV × Eff)} (h : AppOK x) (k : AppOK y) : AppOK (gdo a b x y) := fun d q l e => by
 unfold Dat.gdo at e
 split at e
 ·exact h d q l e
 ·split at e
  ·exact k d q l e
  ·cases e
theorem AppOK.map {α : Type} (x : Option α) {f : α → DV × Eff} (h : ∀ a d q c, f a ≠ (d, .app q c)) : AppOK (x.map f) := by
 intro d q c e
 rw [Option.map_eq_some_iff] at e
 obtain ⟨a, _, e⟩ := e
 exact absurd e (h a d q c)
theorem AppOK.bind {α : Type} {x : Option α} {f : α → Option (DV × Eff)} (h : ∀ a, AppOK (f a)) : AppOK (x.bind f) := by
 intro d q c e
 rw [Option.bind_eq_some_iff] at e
 obtain ⟨a, _, e⟩ := e
 exact h a d q c e
theorem Gives.onS {dp : DOper} {σ τ : Nat → DV} {h : Heap} {d : DV} {ef : Eff} (hc : dp.op.cls ≠ 4) (hg : Gives F dp σ h d ef) : ef.onS τ = τ := by
 have hcls : dp.op.cls ≤ 1 ∨ dp.op.cls = 2 ∨ dp.op.cls = 3 := by
  revert hc; cases dp.op <;> simp [DOp.cls]
 rcases hcls with h1 | h1 | h1
 ·rw [hg.noEff h1]; rfl
 ·rcases hg.new2 h1 with ⟨e, _⟩ | ⟨k, c, _, e, _⟩ <;> rw [e] <;> rfl
 ·rcases hg.out with ⟨_, h2⟩ | ⟨_, _, h2⟩
  ·obtain ⟨dst, op, guard⟩ := dp
   cases op with
   | call f args => rw [h2.2.2]; rfl
   | _ =>
    obtain ⟨o, c, e⟩ := opE_set h1 h2
    rw [e]; rfl
  ·rw [h2]; rfl
theorem updS_comm {σ : Nat → DV} {x y : Option Nat} {d e : DV} (hne : ∀ s, x = some s → y ≠ some s) : updS (updS σ y e) x d = updS (updS σ x d) y e := by
 cases x with
 | none => cases y <;> rfl
 | some s =>
  cases y with
  | none => rfl
  | some t =>
   have : s ≠ t := fun e => hne s rfl (by rw [e])
   funext k
   simp only [updS]
   by_cases h1 : k = s
   ·subst h1; rw [if_pos rfl, if_neg this, if_pos rfl]
   ·rw [if_neg h1]
    by_cases h2 : k = t
    ·rw [if_pos h2, if_pos h2]
    ·rw [if_neg h2, if_neg h2, if_neg h1]
theorem le_upd {h : Heap} {o : Nat} {c : List DV} (hn : h o = none) : h.le (h.upd o (some c)) := by
 intro p d hp
 unfold Heap.upd
 split
 ·rename_i e; subst e; rw [hn] at hp; cases hp
 ·exact hp
theorem diamond0 {x y : DOper} {σ : Nat → DV} {h : Heap} {di dj : DV} {ei ej : Eff} (hap : x.apart y = true) (hcl : clsOK x.op.cls y.op.cls = true) (hi : Gives F x σ h di ei)
  (hj : Gives F y (updS (ei.onS σ) x.dst.slot di) (ei.onH h) dj ej) :
  Gives F y σ h dj ej ∧ Gives F x (updS (ej.onS σ) y.dst.slot dj) (ej.onH h) di ei ∧
   updS (ei.onS (updS (ej.onS σ) y.dst.slot dj)) x.dst.slot di = updS (ej.onS (updS (ei.onS σ) x.dst.slot di)) y.dst.slot dj ∧ ei.onH (ej.onH h) = ej.onH (ei.onH h) := by
 obtain ⟨a1, a2, a3⟩ := apart_ev hap
 have hx4 : x.op.cls ≠ 4 := by intro e; rw [e] at hcl; revert hcl; cases y.op <;> simp [clsOK, DOp.cls]
 have hy4 : y.op.cls ≠ 4 := by intro e; rw [e] at hcl; revert hcl; cases x.op <;> simp [clsOK, DOp.cls]
 rw [hi.onS hx4] at hj ⊢
 rw [hj.onS hy4, hi.onS hx4, hj.onS hy4]
 rw [Gives.upd a1] at hj
 rw [Gives.upd a2]
 refine ⟨?_, ?_, updS_comm a3, ?_⟩
 all_goals
  simp only [clsOK, Bool.or_eq_true, Bool.and_eq_true, beq_iff_eq, bne_iff_ne] at hcl
 ·rcases hcl with (((⟨h1, _⟩ | ⟨h1, _⟩) | ⟨h1, h2⟩) | ⟨h1, h2⟩) | ⟨h1, h2⟩
  ·rw [hi.noEff (by omega)] at hj; exact hj
  ·exact hj.heap0 h1
  ·rw [hi.noEff (by omega)] at hj; exact hj
  ·rw [hi.noEff (by omega)] at hj; exact hj
  ·rcases hj.new2 h2 with ⟨_, e⟩ | ⟨k, c, e1, e2, e3, e4⟩
   ·exact e h
   ·refine e4 h ?_
    rcases hi.new2 h1 with ⟨e5, _⟩ | ⟨k', c', e5, e6, e7, _⟩
    ·rw [e5] at e3; exact e3
    ·rw [e6] at e3
     simp only [Eff.onH, Heap.upd] at e3
     split at e3
     ·cases e3
     ·exact e3
 ·rcases hcl with (((⟨h1, _⟩ | ⟨h1, _⟩) | ⟨h1, h2⟩) | ⟨h1, h2⟩) | ⟨h1, h2⟩
  ·exact hi.heap0 h1
  ·rw [hj.noEff (by omega)]; exact hi
  ·rw [hj.noEff (by omega)]; exact hi
  ·rcases hj.new2 h2 with ⟨e, _⟩ | ⟨k, c, e1, e2, e3, _⟩
   ·rw [e]; exact hi
   ·rw [e2]
    rw [hi.noEff (by omega)] at e3
    exact hi.heap1 (le_upd e3) h1
  ·rcases hi.new2 h1 with ⟨_, e⟩ | ⟨k, c, e1, e2, e3, e4⟩
   ·exact e _
   ·refine e4 _ ?_
    rcases hj.new2 h2 with ⟨e5, _⟩ | ⟨k', c', e5, e6, e7, _⟩
    ·rw [e5]; exact e3
    ·rw [e6]
     simp only [Eff.onH, Heap.upd]
     rw [if_neg (fun e => a3 k e1 (by rw [e5]; congr 1; omega))]
     exact e3
 ·rcases hcl with (((⟨h1, _⟩ | ⟨h1, _⟩) | ⟨h1, h2⟩) | ⟨h1, h2⟩) | ⟨h1, h2⟩
  ·rw [hi.noEff (by omega)]; rfl
  ·rw [hj.noEff (by omega)]; rfl
  ·rw [hi.noEff (by omega)]; rfl
  ·rw [hi.noEff (by omega)]; rfl
  ·rcases hi.new2 h1 with ⟨e, _⟩ | ⟨k, c, e1, e2, e3, e4⟩
   ·rw [e]; rfl
   ·rcases hj.new2 h2 with ⟨e5, _⟩ | ⟨k', c', e5, e6, e7, _⟩
    ·rw [e5]; rfl
    ·rw [e2, e6]
     have hne : F.nb + k ≠ F.nb + k' := fun e => a3 k e1 (by rw [e5]; congr 1; omega)
     simp only [Eff.onH]
     funext p
     simp only [Heap.upd]
     by_cases q1 : p = F.nb + k
     ·rw [if_pos q1, if_neg (by omega), if_pos q1]
     ·rw [if_neg q1, if_neg q1]
end
mutual
theorem has_of_rf (o : Nat) : ∀ d : DV, d.rf = true → d.has o = false
 | .ptr _ _, h => by simp [DV.rf] at h
 | .osl .., h => by simp [DV.rf] at h
 | .agg cs, h => by rw [DV.rf] at h; rw [DV.has, hasL_of_rf o cs h]
 | .tup cs, h => by rw [DV.rf] at h; rw [DV.has, hasL_of_rf o cs h]
 | .undef, _ => rfl
 | .int .., _ => rfl
 | .bool _, _ => rfl
 | .str _, _ => rfl
 | .nilp, _ => rfl
 | .nils, _ => rfl
 | .nili, _ => rfl
 | .fn _, _ => rfl
 | .sl .., _ => rfl
 | .el .., _ => rfl
 | .iface .., _ => rfl
 | .clo .., _ => rfl
 | .raw .., _ => rfl
theorem hasL_of_rf (o : Nat) : ∀ cs : List DV, DV.rfL cs = true → DV.hasL o cs = false
 | [], _ => rfl
 | d :: r, h => by
  rw [DV.rfL, Bool.and_eq_true] at h
  rw [DV.hasL, has_of_rf o d h.1, hasL_of_rf o r h.2]; rfl
end
section
variable {F : FnD}
theorem purge_nu {q : Nat} {e : DV} (h : purge q e ≠ .undef) : purge q e = e := by
 unfold purge at h ⊢
 split
 ·rename_i hh; rw [if_pos hh] at h; exact absurd rfl h
 ·rfl
theorem purge_has (q : Nat) (e : DV) : (purge q e).has q = false := by
 unfold purge
 split
 ·rfl
 ·rename_i hh; simpa using hh
theorem purge_of {q : Nat} {e : DV} (h : e.has q = false) : purge q e = e := by unfold purge; rw [h]; rfl
theorem ev_pgS {q : Nat} {σ : Nat → DV} {o : Opd} (h : o.isS = true) : evS (purgeS q σ) o = purge q (evS σ o) := by
 cases o <;> first | rfl | cases h
theorem ev_nu {q : Nat} {σ : Nat → DV} {o : Opd} (h : evS (purgeS q σ) o ≠ .undef) : evS σ o = evS (purgeS q σ) o := by
 cases o with
 | c d => rfl
 | x k => exact (purge_nu h).symm
 | t k => exact (purge_nu h).symm
theorem gS_back {q : Nat} {σ : Nat → DV} {g : Option (Opd × Bool)} {b : Bool} (h : gS (purgeS q σ) g = some b) : gS σ g = some b := by
 cases g with
 | none => exact h
 | some p =>
  obtain ⟨o, w⟩ := p
  have hne : evS (purgeS q σ) o ≠ .undef := by
   intro e; simp only [gS, e] at h; cases h
  simp only [gS] at h ⊢
  rw [ev_nu hne]; exact h
theorem gS_pg {q : Nat} {σ : Nat → DV} {g : Option (Opd × Bool)} {b : Bool} (h : gS σ g = some b) : gS (purgeS q σ) g = some b := by
 cases g with
 | none => exact h
 | some p =>
  obtain ⟨o, w⟩ := p
  simp only [gS] at h ⊢
  have : evS (purgeS q σ) o = evS σ o := by
   cases o with
   | c d => rfl
   | x k =>
    refine purge_of ?_
    simp only [evS] at h
    split at h
    ·rename_i e; rw [e]; rfl
    ·rename_i e; rw [e]; rfl
    ·cases h
   | t k =>
    refine purge_of ?_
    simp only [evS] at h
    split at h
    ·rename_i e; rw [e]; rfl
    ·rename_i e; rw [e]; rfl
    ·cases h
  rw [this]; exact h
theorem laid_back {q : Nat} {σ : Nat → DV} : ∀ (ps : List (Nat × Nat × Opd)) (cells cs : List DV), laid cells (ps.map fun p => (p.1, p.2.1, evS (purgeS q σ) p.2.2)) = some cs → laid cells (ps.map fun p => (p.1, p.2.1, evS σ p.2.2)) = some cs
 | [], _, _, h => h
 | (off, n, o) :: ps, cells, cs, h => by
  simp only [List.map_cons, laid, Option.bind_eq_some_iff] at h ⊢
  obtain ⟨c, hc, h⟩ := h
  have hne : evS (purgeS q σ) o ≠ .undef := by
   intro e; rw [e] at hc; simp [DV.cells?, DV.one] at hc
  rw [ev_nu hne]
  refine ⟨c, hc, ?_⟩
  split at h
  ·rename_i hg; rw [if_pos hg]; exact laid_back ps _ cs h
  ·cases h
theorem safe_back {y : DOper} {σ : Nat → DV} {h : Heap} {q : Nat} {c : List DV} {dj : DV} {ej : Eff} (hs : y.op.isSafe = true)
  (hj : Gives F y (purgeS q σ) ((h.purge q).upd q (some c)) dj ej) : ej = .no ∧ ∃ dj', Gives F y σ h dj' .no ∧ purge q dj' = dj := by
 obtain ⟨dst, op, guard⟩ := y
 simp only at hs
 rcases hj.out with ⟨hg, hgo⟩ | ⟨hg, rfl, rfl⟩
 ·have hg' := gS_back hg
  have out : ∀ dj', goD F ⟨dst, op, guard⟩ σ h dj' .no → purge q dj' = dj → ∃ dj', Gives F ⟨dst, op, guard⟩ σ h dj' .no ∧ purge q dj' = dj := fun dj' h1 h2 => ⟨dj', ⟨.inl ⟨hg', h1⟩⟩, h2⟩
  have hq : ∀ (p : Nat) (cs : List DV), p ≠ q → ((h.purge q).upd q (some c)) p = some cs → ∃ c0, h p = some c0 ∧ cs = c0.map (purge q) := by
   intro p cs hp he
   simp only [Heap.upd, if_neg hp, Heap.purge, Option.map_eq_some_iff] at he
   obtain ⟨c0, h1, h2⟩ := he
   exact ⟨c0, h1, h2.symm⟩
  have pne : ∀ {o : Opd} {p off : Nat}, o.isS = true → evS (purgeS q σ) o = .ptr p off → p ≠ q ∧ evS σ o = .ptr p off := by
   intro o p off ho e
   refine ⟨?_, by rw [ev_nu (by rw [e]; simp), e]⟩
   rintro rfl
   have := purge_has p (evS σ o)
   rw [← ev_pgS ho, e] at this
   simp [DV.has] at this
  cases op with
  | mv x =>
   simp only [DOp.isSafe] at hs
   simp only [goD, opE, Option.some.injEq, Prod.mk.injEq] at hgo
   obtain ⟨rfl, rfl⟩ := hgo
   exact ⟨rfl, out (evS σ x) rfl (ev_pgS hs).symm⟩
  | bsl sz z ps =>
   simp only [goD, opE, Option.bind_eq_some_iff] at hgo
   obtain ⟨cs, hcs, hgo⟩ := hgo
   obtain ⟨hrf, hgo⟩ := gd_some hgo
   cases hgo
   refine ⟨rfl, out (.sl sz cs) ?_ rfl⟩
   simp only [goD, opE, Option.bind_eq_some_iff]
   exact ⟨cs, laid_back ps _ _ hcs, if_pos hrf⟩
  | fad off x =>
   simp only [DOp.isSafe] at hs
   simp only [goD, opE] at hgo
   split at hgo
   ·rename_i o k e
    cases hgo
    obtain ⟨h1, h2⟩ := pne hs e
    refine ⟨rfl, out (.ptr o (k + off)) (by simp only [goD, opE, h2]) (purge_of (by simp [DV.has, h1]))⟩
   ·rename_i xs i e
    cases hgo
    have h2 := ev_nu (q := q) (σ := σ) (o := x) (by rw [e]; simp)
    rw [e] at h2
    exact ⟨rfl, out (.el xs (i + off)) (by simp only [goD, opE, h2]) rfl⟩
   ·cases hgo
  | nilc x =>
   simp only [DOp.isSafe] at hs
   simp only [goD, opE] at hgo
   split at hgo
   ·rename_i o k e
    cases hgo
    obtain ⟨h1, h2⟩ := pne hs e
    exact ⟨rfl, out (.ptr o k) (by simp only [goD, opE, h2]) (purge_of (by simp [DV.has, h1]))⟩
   ·rename_i xs i e
    cases hgo
    have h2 := ev_nu (q := q) (σ := σ) (o := x) (by rw [e]; simp)
    rw [e] at h2
    exact ⟨rfl, out (.el xs i) (by simp only [goD, opE, h2]) rfl⟩
   ·cases hgo
  | iad sz x i =>
   simp only [DOp.isSafe] at hs
   simp only [goD, opE] at hgo
   split at hgo
   ·rename_i s xs k n e e2
    obtain ⟨h1, hgo⟩ := gd_some hgo
    cases hgo
    have h2 := ev_nu (q := q) (σ := σ) (o := x) (by rw [e]; simp)
    have h3 := ev_nu (q := q) (σ := σ) (o := i) (by rw [e2]; simp)
    rw [e] at h2
    rw [e2] at h3
    exact ⟨rfl, out (.el xs (n.toNat * sz)) (by simp only [goD, opE, h2, h3]; exact if_pos h1) rfl⟩
   ·rename_i s o off len k n e e2
    obtain ⟨h1, hgo⟩ := gd_some hgo
    cases hgo
    have h2 := ev_nu (q := q) (σ := σ) (o := x) (by rw [e]; simp)
    have h3 := ev_nu (q := q) (σ := σ) (o := i) (by rw [e2]; simp)
    rw [e] at h2
    rw [e2] at h3
    have hoq : o ≠ q := by
     rintro rfl
     have := purge_has o (evS σ x)
     rw [← ev_pgS hs, e] at this
     simp [DV.has] at this
    exact ⟨rfl, out (.ptr o (off + n.toNat * sz)) (by simp only [goD, opE, h2, h3]; exact if_pos h1) (purge_of (by simp [DV.has, hoq]))⟩
   ·cases hgo
  | lde x =>
   simp only [DOp.isSafe] at hs
   simp only [goD, opE] at hgo
   split at hgo
   ·rename_i xs i e
    obtain ⟨h1, hgo⟩ := gd_some hgo
    cases hgo
    have h2 := ev_nu (q := q) (σ := σ) (o := x) (by rw [e]; simp)
    rw [e] at h2
    exact ⟨rfl, out (xs.getD i .undef) (by simp only [goD, opE, h2]; exact if_pos h1) (purge_of (has_of_rf q _ h1.2))⟩
   ·cases hgo
  | ldne n x =>
   simp only [DOp.isSafe] at hs
   simp only [goD, opE] at hgo
   split at hgo
   ·rename_i xs i e
    obtain ⟨h1, hgo⟩ := gd_some hgo
    cases hgo
    have h2 := ev_nu (q := q) (σ := σ) (o := x) (by rw [e]; simp)
    rw [e] at h2
    exact ⟨rfl, out (.agg ((xs.drop i).take n)) (by simp only [goD, opE, h2]; exact if_pos h1) (purge_of (has_of_rf q _ (by rw [DV.rf_agg, List.all_eq_true]; exact h1.2)))⟩
   ·cases hgo
  | ldr x =>
   simp only [DOp.isSafe] at hs
   simp only [goD, opE] at hgo
   split at hgo
   ·rename_i o off e
    obtain ⟨h1, h2⟩ := pne hs e
    simp only [Option.bind_eq_some_iff] at hgo
    obtain ⟨cs, hcs, hgo⟩ := hgo
    obtain ⟨⟨k1, k2, k3⟩, hgo⟩ := gd_some hgo
    cases hgo
    obtain ⟨c0, h4, rfl⟩ := hq o cs h1 hcs
    rw [List.length_map] at k1
    have e5 : (c0.map (purge q)).getD off .undef = purge q (c0.getD off .undef) := by
     simp [List.getD_eq_getElem?_getD, List.getElem?_map, List.getElem?_eq_getElem k1]
    have e6 : purge q (c0.getD off .undef) = c0.getD off .undef := purge_nu (by rw [← e5]; intro e7; rw [e7] at k2; cases k2)
    rw [e5, e6] at k2 k3
    exact ⟨rfl, out (c0.getD off .undef) (by simp only [goD, opE, h2, h4, Option.bind_some]; exact if_pos ⟨k1, k2, k3⟩) e5.symm⟩
   ·cases hgo
  | ldnr n x =>
   simp only [DOp.isSafe] at hs
   simp only [goD, opE] at hgo
   split at hgo
   ·rename_i o off e
    obtain ⟨h1, h2⟩ := pne hs e
    simp only [Option.bind_eq_some_iff] at hgo
    obtain ⟨cs, hcs, hgo⟩ := hgo
    obtain ⟨⟨k1, k2⟩, hgo⟩ := gd_some hgo
    cases hgo
    obtain ⟨c0, h4, rfl⟩ := hq o cs h1 hcs
    rw [List.length_map] at k1
    have e5 : ((c0.map (purge q)).drop off).take n = (c0.drop off).take n := by
     rw [← List.map_drop, ← List.map_take]
     have : ∀ d ∈ (c0.drop off).take n, purge q d = d := fun d hd => purge_nu (by
      intro e7
      have := (k2 (purge q d) (by rw [← List.map_drop, ← List.map_take]; exact List.mem_map_of_mem hd)).1
      rw [e7] at this; cases this)
     exact (List.map_congr_left this).trans (List.map_id _)
    rw [e5] at k2
    exact ⟨rfl, out (.agg ((c0.drop off).take n)) (by simp only [goD, opE, h2, h4, Option.bind_some]; exact if_pos ⟨k1, k2⟩) ((purge_of (has_of_rf q _ (by rw [DV.rf_agg, List.all_eq_true]; exact fun d hd => (k2 d hd).2))).trans (by rw [e5]))⟩
   ·cases hgo
  | _ => cases hs
 ·exact ⟨rfl, .tup [], ⟨.inr ⟨gS_back hg, rfl, rfl⟩⟩, rfl⟩
theorem isApp_out {x : DOper} {σ : Nat → DV} {h : Heap} {d : DV} {ef : Eff} (hx : x.op.isApp = true) (hg : Gives F x σ h d ef) : (∃ q c, ef = .app q c) ∨ (ef = .no ∧ gS σ x.guard = some false ∧ d = .tup []) := by
 rcases hg.out with ⟨_, h1⟩ | ⟨h0, h1, h2⟩
 ·refine .inl ?_
  obtain ⟨dst, op, guard⟩ := x
  cases op with
  | app te sz bytes s x =>
   simp only [goD, opE] at h1
   split at h1
   ·simp only [Option.bind_eq_some_iff] at h1
    obtain ⟨ys, _, h1⟩ := h1
    have h1 := (gd_some h1).2
    rw [Option.map_eq_some_iff] at h1
    obtain ⟨o, _, h1⟩ := h1
    cases h1
    exact ⟨_, _, rfl⟩
   ·simp only [Option.bind_eq_some_iff] at h1
    obtain ⟨cs, _, ys, _, h1⟩ := h1
    have h1 := (gd_some h1).2
    cases h1
    exact ⟨_, _, rfl⟩
   ·cases h1
  | apps te s x =>
   simp only [goD, opE] at h1
   split at h1
   ·have h1 := (gd_some h1).2
    rw [Option.map_eq_some_iff] at h1
    obtain ⟨o, _, h1⟩ := h1
    cases h1
    exact ⟨_, _, rfl⟩
   ·simp only [Option.bind_eq_some_iff] at h1
    obtain ⟨cs, _, h1⟩ := h1
    have h1 := (gd_some h1).2
    cases h1
    exact ⟨_, _, rfl⟩
   ·cases h1
  | _ => cases hx
 ·exact .inr ⟨h2, h0, h1⟩
theorem purgeS_upd (q : Nat) (σ : Nat → DV) (k : Option Nat) (d : DV) : purgeS q (updS σ k d) = updS (purgeS q σ) k (purge q d) := by
 cases k with
 | none => rfl
 | some k =>
  funext s
  unfold purgeS updS
  simp only
  split <;> rfl
theorem diamond {x y : DOper} {σ : Nat → DV} {h : Heap} {di dj : DV} {ei ej : Eff} (hap : x.apart y = true) (hcl : comOK x.op y.op = true) (hi : Gives F x σ h di ei)
  (hj : Gives F y (updS (ei.onS σ) x.dst.slot di) (ei.onH h) dj ej) :
  ∃ dj' ej' di' ei', Gives F y σ h dj' ej' ∧ Gives F x (updS (ej'.onS σ) y.dst.slot dj') (ej'.onH h) di' ei' ∧
   updS (ei'.onS (updS (ej'.onS σ) y.dst.slot dj')) x.dst.slot di' = updS (ej.onS (updS (ei.onS σ) x.dst.slot di)) y.dst.slot dj ∧ ei'.onH (ej'.onH h) = ej.onH (ei.onH h) := by
 simp only [comOK, Bool.or_eq_true, Bool.and_eq_true] at hcl
 obtain ⟨a1, a2, a3⟩ := apart_ev hap
 rcases hcl with (hcl | ⟨hx, hy⟩) | ⟨hx, hy⟩
 ·exact ⟨dj, ej, di, ei, diamond0 hap hcl hi hj⟩
 ·rw [Gives.upd a1] at hj
  rcases isApp_out hx hi with ⟨q, c, rfl⟩ | ⟨rfl, hg, rfl⟩
  ·obtain ⟨rfl, dj', h1, h2⟩ := safe_back hy hj
   refine ⟨dj', .no, di, .app q c, h1, by rw [Gives.upd a2]; exact hi, ?_, rfl⟩
   show updS (purgeS q (updS σ y.dst.slot dj')) x.dst.slot di = updS (updS (purgeS q σ) x.dst.slot di) y.dst.slot dj
   rw [purgeS_upd, h2]
   exact updS_comm a3
  ·have hno : ej = .no := by
    have hc : y.op.cls ≤ 1 := by revert hy; cases y.op <;> simp [DOp.isSafe, DOp.cls]
    exact hj.noEff hc
   subst hno
   exact ⟨dj, .no, .tup [], .no, hj, by rw [Gives.upd a2]; exact hi, updS_comm a3, rfl⟩
 ·have hno : ei = .no := by
   have hc : x.op.cls ≤ 1 := by revert hx; cases x.op <;> simp [DOp.isMv, DOp.cls]
   exact hi.noEff hc
  subst hno
  have hj' : Gives F y σ h dj ej := by rw [← Gives.upd a1]; exact hj
  rcases isApp_out hy hj' with ⟨q, c, rfl⟩ | ⟨rfl, hg, rfl⟩
  ·refine ⟨dj, .app q c, purge q di, .no, hj', ?_, ?_, rfl⟩
   ·rw [Gives.upd a2]
    obtain ⟨dst, op, guard⟩ := x
    simp only at hx
    cases op with
    | mv x =>
     rcases hi.out with ⟨h0, h1⟩ | ⟨h0, rfl, _⟩
     ·simp only [goD, opE, Option.some.injEq, Prod.mk.injEq] at h1
      obtain ⟨rfl, _⟩ := h1
      refine ⟨.inl ⟨gS_pg h0, ?_⟩⟩
      simp only [goD, opE]
      rw [show Eff.onS (.app q c) σ = purgeS q σ from rfl, ev_pgS hx]
     ·exact ⟨.inr ⟨gS_pg h0, rfl, rfl⟩⟩
    | _ => cases hx
   ·show updS (updS (purgeS q σ) y.dst.slot dj) x.dst.slot (purge q di) = updS (purgeS q (updS σ x.dst.slot di)) y.dst.slot dj
    rw [purgeS_upd]
    exact updS_comm a3
  ·exact ⟨.tup [], .no, di, .no, hj', by rw [Gives.upd a2]; exact hi, updS_comm a3, rfl⟩
end
inductive Dep (ops : Array Oper) : Nat → Nat → Prop where
 | direct {j : Nat} {o : Oper} {e : Edge} (ho : ops[j]? = some o) (he : e ∈ o.after) (hb : Region.binds .any e = true) : Dep ops j e.on
 | step {j i : Nat} {o : Oper} {e : Edge} (ho : ops[j]? = some o) (he : e ∈ o.after) (hb : Region.binds .any e = true) (h : Dep ops e.on i) : Dep ops j i
def ClosedL (ops : Array Oper) (listed : Array Bool) : Prop :=
 ∀ j o, listed.getD j false = true → ops[j]? = some o → ∀ e ∈ o.after, Region.binds .any e = true → listed.getD e.on false = true
theorem dep_listed {ops : Array Oper} {listed : Array Bool} (hc : ClosedL ops listed) {j i : Nat} (hd : Dep ops j i)
  (hj : ∀ o, ops[j]? = some o → ∀ e ∈ o.after, Region.binds .any e = true → listed.getD e.on false = true) : listed.getD i false = true := by
 induction hd with
 | direct ho he hb => exact hj _ ho _ he hb
 | step ho he hb _ ih => exact ih fun o' ho' => hc _ o' (hj _ ho _ he hb) ho'
theorem depsOf_sound {ops : Array Oper} {acc : List (List Nat)} {j : Nat} {o : Oper} (ho : ops[j]? = some o) (ha : ∀ k x, x ∈ acc.getD k [] → Dep ops k x) : ∀ x ∈ depsOf acc o, Dep ops j x := by
 intro x hx
 unfold depsOf at hx
 rw [List.mem_eraseDups] at hx
 simp only [List.mem_flatMap, List.mem_filter, Array.mem_toList_iff, List.mem_cons] at hx
 obtain ⟨e, ⟨he, hb⟩, h | h⟩ := hx
 ·subst h; exact .direct ho he hb
 ·exact .step ho he hb (ha _ _ h)
theorem depsAll_sound {ops : Array Oper} : ∀ (l : List Oper) (acc : List (List Nat)), (∀ j, l[j]? = ops[acc.length + j]?) → (∀ k x, x ∈ acc.getD k [] → Dep ops k x) →
  ∀ k x, x ∈ (depsAll l acc).getD k [] → Dep ops k x
 | [], acc, _, ha => ha
 | o :: l, acc, hl, ha => by
  have h0 : ops[acc.length]? = some o := by simpa using (hl 0).symm
  refine depsAll_sound l (acc ++ [depsOf acc o]) (fun j => by have := hl (j + 1); simpa [Nat.add_assoc, Nat.add_comm 1 j] using this) fun k x hx => ?_
  rw [List.getD_eq_getElem?_getD, List.getElem?_append] at hx
  split at hx
  ·exact ha k x (by rw [List.getD_eq_getElem?_getD]; exact hx)
  ·by_cases e : k = acc.length
   ·subst e
    simp at hx
    exact depsOf_sound h0 ha x hx
   ·have : [depsOf acc o][k - acc.length]? = none := by simp; omega
    rw [this] at hx; simp at hx
end Go.Dat
namespace Go.Dat
open Go
section
variable {F : FnD}
def stepD (F : FnD) (dp : DOper) (K : (Nat → DV) → Heap → Prop) (σ : Nat → DV) (h : Heap) : Prop :=
 ∃ d ef, Gives F dp σ h d ef ∧ K (updS (ef.onS σ) dp.dst.slot d) (ef.onH h)
def anyD (F : FnD) (ops : Array Oper) (ds : List DOper) (K : (Nat → DV) → Heap → Prop) : Nat → Array Bool → (Nat → DV) → Heap → Prop
 | 0, listed, σ, h => Region.ready .any ops listed = [] ∧ K σ h
 | fuel + 1, listed, σ, h => (Region.ready .any ops listed = [] → K σ h) ∧
  ∀ i ∈ Region.ready .any ops listed, ∃ x, ds[i]? = some x ∧ stepD F x (anyD F ops ds K fuel (listed.setIfInBounds i true)) σ h
def lexD (F : FnD) : List DOper → ((Nat → DV) → Heap → Prop) → (Nat → DV) → Heap → Prop
 | [], K => K
 | o :: os, K => stepD F o (lexD F os K)
theorem ClosedL.set {ops : Array Oper} {listed : Array Bool} (hc : ClosedL ops listed) {i : Nat} (hi : i ∈ Region.ready .any ops listed) : ClosedL ops (listed.setIfInBounds i true) := by
 obtain ⟨h0, o, ho, hall⟩ := mem_ready.1 hi
 intro j oj hj hoj e he hb
 by_cases hji : i = j
 ·subst hji
  rw [ho] at hoj; cases hoj
  exact getD_set_true (hall e he hb)
 ·rw [getD_set_ne false hji] at hj
  exact getD_set_true (hc j oj hj hoj e he hb)
theorem anyD_first {ops : Array Oper} {ds : List DOper} {K : (Nat → DV) → Heap → Prop} {i : Nat} {x : DOper} (hx : ds[i]? = some x) : ∀ (fuel : Nat) (listed : Array Bool) (σ : Nat → DV) (h : Heap) (di : DV) (ei : Eff),
  ClosedL ops listed → i ∈ Region.ready .any ops listed →
  (∀ j y, ds[j]? = some y → j ≠ i → listed.getD j true = false → Dep ops j i ∨ (x.apart y = true ∧ comOK x.op y.op = true)) →
  Gives F x σ h di ei → anyD F ops ds K fuel (listed.setIfInBounds i true) (updS (ei.onS σ) x.dst.slot di) (ei.onH h) → anyD F ops ds K (fuel + 1) listed σ h := by
 intro fuel
 induction fuel with
 | zero =>
  intro listed σ h di ei hc hi hap hg H
  refine ⟨fun e => (by rw [e] at hi; cases hi), fun j hj => ?_⟩
  by_cases hji : j = i
  ·subst hji; exact ⟨x, hx, di, ei, hg, H⟩
  ·have := ready_mono hj hji
   rw [H.1] at this; cases this
 | succ fuel ih =>
  intro listed σ h di ei hc hi hap hg H
  refine ⟨fun e => (by rw [e] at hi; cases hi), fun j hj => ?_⟩
  by_cases hji : j = i
  ·subst hji; exact ⟨x, hx, di, ei, hg, H⟩
  ·obtain ⟨y, hy, dj, ej, hgj, H'⟩ := H.2 j (ready_mono hj hji)
   obtain ⟨hjun, oj, hoj, hall⟩ := mem_ready.1 hj
   obtain ⟨hiun, _, _, _⟩ := mem_ready.1 hi
   have hnd : ¬ Dep ops j i := by
    intro hd
    have h1 := dep_listed hc hd fun o ho e he hb => by rw [hoj] at ho; cases ho; exact hall e he hb
    have h2 : listed.getD i true = true := by
     rw [Array.getD_eq_getD_getElem?] at h1 ⊢
     cases hq : listed[i]? with
     | none => rfl
     | some b => rw [hq] at h1; exact h1
    rw [hiun] at h2; cases h2
   obtain ⟨hap1, hap2⟩ := (hap j y hy hji hjun).resolve_left hnd
   obtain ⟨dj', ej', di', ei', g1, g2, g3, g4⟩ := diamond hap1 hap2 hg hgj
   refine ⟨y, hy, dj', ej', g1, ih _ _ _ di' ei' (hc.set hj) (ready_mono hi (Ne.symm hji)) (fun k z hz hki hun => ?_) g2 ?_⟩
   ·refine hap k z hz hki ?_
    by_cases hjk : j = k
    ·subst hjk; exact hjun
    ·rwa [getD_set_ne true hjk] at hun
   ·rw [g3, g4, Array.setIfInBounds_comm _ _ hji]
    exact H'
theorem anyD_lex {ops : Array Oper} {ds : List DOper} {K : (Nat → DV) → Heap → Prop} {deps : List (List Nat)} (hdeps : ∀ k x, x ∈ deps.getD k [] → Dep ops k x) (hlen : ds.length = ops.size) :
  ∀ (fuel k : Nat) (listed : Array Bool) (σ : Nat → DV) (h : Heap), k + fuel = ops.size → ClosedL ops listed → drawFrom ops ds deps fuel k listed = true → lexD F (ds.drop k) K σ h → anyD F ops ds K fuel listed σ h := by
 intro fuel
 induction fuel with
 | zero =>
  intro k listed σ h hk hc hd hl
  rw [List.drop_eq_nil_of_le (by omega)] at hl
  exact ⟨List.isEmpty_iff.1 hd, hl⟩
 | succ fuel ih =>
  intro k listed σ h hk hc hd hl
  simp only [drawFrom, Bool.and_eq_true, List.contains_iff_mem, List.all_eq_true, List.mem_range] at hd
  obtain ⟨⟨hr, hall⟩, hd⟩ := hd
  have hlt : k < ds.length := by omega
  rw [List.drop_eq_getElem_cons hlt] at hl
  obtain ⟨d, ef, hg, hl⟩ := hl
  refine anyD_first (List.getElem?_eq_getElem hlt) fuel listed σ h d ef hc hr (fun j y hy hjk hun => ?_) hg (ih (k + 1) _ _ _ (by omega) (hc.set hr) hd hl)
  have hjl : j < ops.size := by have := (List.getElem?_eq_some_iff.1 hy).1; omega
  have := hall j hjl
  rw [hun, List.getElem?_eq_getElem hlt, hy] at this
  simp only [Bool.or_eq_true, beq_iff_eq, Bool.false_eq_true, or_false, Bool.and_eq_true, List.contains_iff_mem] at this
  rcases this with (h1 | h1) | h1
  ·exact absurd h1 hjk
  ·exact .inl (hdeps _ _ h1)
  ·exact .inr h1.1
theorem ev_tag {vs : List Nat} {te fr : Fr} {o : Opd} (h : tagOK vs o = true) : ev te fr o = evS (den vs te fr) o := by
 cases o with
 | c d => rfl
 | x k => simp only [tagOK] at h; simp only [ev, evS, den, h, if_true]
 | t k => simp only [tagOK, Bool.not_eq_true'] at h; simp only [ev, evS, den, h, Bool.false_eq_true, if_false]
theorem dst_tag {vs : List Nat} {d : Dst} (h : tagD vs d = true) : d = sDst vs d.slot := by
 cases d with
 | no => rfl
 | x k => simp only [tagD] at h; simp [Dst.slot, sDst]; simpa using h
 | t k => simp only [tagD, Bool.not_eq_true'] at h; simp [Dst.slot, sDst]; simpa using h
theorem regW_lex (hp : F.pure = true) {K : Fr → Fr → Hp → Prop} : ∀ (ds : List DOper), ds.all (·.tags F.vs) = true → ∀ (te fr : Fr) (H : Hp), regW F ds te fr H K →
  lexD F ds (fun σ h => ∃ te fr H, σ = den F.vs te fr ∧ h = lkH H ∧ K te fr H) (den F.vs te fr) (lkH H)
 | [], _, te, fr, H, hw => ⟨te, fr, H, rfl, rfl, hw⟩
 | o :: os, ht, te, fr, H, hw => by
  simp only [List.all_cons, Bool.and_eq_true] at ht
  obtain ⟨ht, hts⟩ := ht
  simp only [DOper.tags, Bool.and_eq_true] at ht
  obtain ⟨⟨t1, t2⟩, t3⟩ := ht
  have ih := regW_lex hp (K := K) os hts
  have hd := dst_tag t1
  have skip : gS (den F.vs te fr) o.guard = some false → regW F os (o.dst.onT te (.tup [])) (o.dst.onX fr (.tup [])) H K → lexD F (o :: os) (fun σ h => ∃ te fr H, σ = den F.vs te fr ∧ h = lkH H ∧ K te fr H) (den F.vs te fr) (lkH H) := fun hg hw =>
   (show lexD F (o :: os) (fun σ h => ∃ te fr H, σ = den F.vs te fr ∧ h = lkH H ∧ K te fr H) (den F.vs te fr) (lkH H) from by
    refine ⟨.tup [], .no, ⟨.inr ⟨hg, rfl, rfl⟩⟩, ?_⟩
    have := ih _ _ _ hw
    rw [hd, den_put] at this
    rw [hd, sDst_slot]
    exact this)
  have hev : ∀ p ∈ o.op.opds, ev te fr p = evS (den F.vs te fr) p := fun p hp => ev_tag (List.all_eq_true.1 t2 p hp)
  have go : gS (den F.vs te fr) o.guard = some true → (match o.op with
   | .call f args => callR F f (args.map (ev te fr)) te fr H fun d te' fr' H' => regW F os (o.dst.onT te' d) (o.dst.onX fr' d) H' K
   | p => OW (opE F.nb o.dst.slot (ev te fr) (lkH H) p) fun r => regW F os (o.dst.onT (r.2.onF te) r.1) (o.dst.onX (r.2.onF fr) r.1) (r.2.onL H) K) → lexD F (o :: os) (fun σ h => ∃ te fr H, σ = den F.vs te fr ∧ h = lkH H ∧ K te fr H) (den F.vs te fr) (lkH H) := fun hg hw =>
   (show lexD F (o :: os) (fun σ h => ∃ te fr H, σ = den F.vs te fr ∧ h = lkH H ∧ K te fr H) (den F.vs te fr) (lkH H) from by
    have plain : OW (opE F.nb o.dst.slot (ev te fr) (lkH H) o.op) (fun r => regW F os (o.dst.onT (r.2.onF te) r.1) (o.dst.onX (r.2.onF fr) r.1) (r.2.onL H) K) →
      ((∀ f args, o.op ≠ .call f args)) → lexD F (o :: os) (fun σ h => ∃ te fr H, σ = den F.vs te fr ∧ h = lkH H ∧ K te fr H) (den F.vs te fr) (lkH H) := by
     rintro ⟨⟨d, ef⟩, he, hk⟩ hnc
     refine ⟨d, ef, ⟨.inl ⟨hg, ?_⟩⟩, ?_⟩
     ·rw [opE_congr hev] at he
      unfold goD
      cases hop : o.op with
      | call f args => exact absurd hop (hnc f args)
      | _ => rw [hop] at he; exact he
     ·have := ih _ _ _ hk
      rw [hd, den_put, den_onF, lkH_onL] at this
      rw [hd, sDst_slot]
      exact this
    cases hop : o.op with
    | call f args =>
     rw [hop] at hw
     simp only [callR, hp, if_true] at hw
     obtain ⟨r, h1, h2, h3⟩ := hw
     rw [hop] at hev
     have hm : args.map (ev te fr) = args.map (evS (den F.vs te fr)) := List.map_congr_left fun p hp => hev p hp
     rw [hm] at h1 h2
     refine ⟨r, .no, ⟨.inl ⟨hg, ?_⟩⟩, ?_⟩
     ·unfold goD; rw [hop]; exact ⟨h1, h2, rfl⟩
     ·have := ih _ _ _ h3
      rw [hd, den_put] at this
      rw [hd, sDst_slot]
      exact this
    | _ =>
     rw [hop] at hw
     exact plain (by rw [hop]; exact hw) (by rw [hop]; intro f args e; cases e))
  simp only [regW] at hw
  cases hgu : o.guard with
  | none =>
   rw [hgu] at hw
   exact go (by rw [hgu]; rfl) hw
  | some p =>
   obtain ⟨g, want⟩ := p
   rw [hgu] at hw t3
   have hgv := ev_tag (te := te) (fr := fr) t3
   simp only at hw
   split at hw
   ·rename_i b hb
    rw [hgv] at hb
    by_cases hbw : b = want
    ·exact go (by rw [hgu]; simp only [gS, hb]; simp [hbw]) (hw.1 hbw)
    ·exact skip (by rw [hgu]; simp only [gS, hb]; simp [hbw]) (hw.2 (by clear hw; cases b <;> cases want <;> first | rfl | exact absurd rfl hbw))
   ·rename_i hb
    rw [hgv] at hb
    exact skip (by rw [hgu]; simp only [gS, hb]) hw
   ·exact hw.elim
end
section
variable {F : FnD} {G : Cx} {L : Nat → Option Nat} {a : Act} {w : World} {σ : Nat → DV} {h : Heap}
theorem wantedS {ops : Array Oper} {o : Oper} {g : Option (Opd × Bool)} {b : Bool} (hR : R G L σ h a w) (hg : sGuard F.vs ops o.guard = some g) (hb : gS σ g = some b) :
  Region.wanted o (yielded ops a.tmps) = b := by
 cases hgd : o.guard with
 | none =>
  rw [hgd] at hg
  simp only [sGuard, Option.some.injEq] at hg
  subst hg
  simp only [gS, Option.some.injEq] at hb
  subst hb
  simp [Region.wanted, hgd]
 | some p =>
  obtain ⟨j, w0⟩ := p
  rw [hgd] at hg
  simp only [sGuard, Option.map_eq_some_iff] at hg
  obtain ⟨k, hk, hg⟩ := hg
  subst hg
  have he : evS σ (sOpd F.vs (.tmp k)) = σ k := by simp only [sOpd]; split <;> rfl
  simp only [gS, he] at hb
  have hv := hR.slots k
  split at hb
  ·rename_i c hc
   rw [hc] at hv
   have h1 := getD_ne hv.inv_bool (by simp [undef])
   simp only [Option.some.injEq] at hb
   subst hb
   simp [Region.wanted, hgd, yielded, hk, h1]
  ·rename_i hc
   rw [hc] at hv
   obtain ⟨us, hu, hl, _⟩ := hv.inv_tup
   have : us = #[] := Array.eq_empty_of_size_eq_zero (by simpa using hl.symm)
   subst this
   have hy : yielded ops a.tmps j = none := by
    simp only [yielded, hk, Option.bind_some]
    rw [Array.getD_eq_getD_getElem?] at hu
    cases hq : a.tmps[k]? with
    | none => rfl
    | some v => rw [hq] at hu; simp only [Option.getD_some] at hu; rw [hu]
   simp only [Option.some.injEq] at hb
   subst hb
   simp [Region.wanted, hgd, hy]
  ·cases hb
theorem oper_soundS {o : Oper} {ops : Array Oper} {dp : DOper} {d : DV} {ef : Eff} {K : Act → World → Prop} {Q : Exit → Act → World → Prop}
  (hs : sOper F.P F.vs F.own F.n ops o = some dp) (hn : G.n = F.n ∧ G.ok F.P) (hR : R G L σ h a w) (hgo : goD F dp σ h d ef)
  (hK : ∀ L a w, R G L (updS (ef.onS σ) dp.dst.slot d) (ef.onH h) a w → K a w) : o.wp F.P a w K Q := by
 obtain ⟨dst, op, ty, pos, after, guard⟩ := o
 simp only [sOper, Option.bind_eq_some_iff] at hs
 obtain ⟨p, hp, g, hg, hs⟩ := hs
 split at hs
 ·rename_i hd
  cases hs
  rw [sDst_slot] at hK
  have hdl := dst_lt hd
  have hE : EV F.vs (evS σ) w L (Av G.S L) a := fun x => ev_V hR x
  have plain : opE F.nb (sDst F.vs dst).slot (evS σ) h p = some (d, ef) → Oper.wp F.P ⟨dst, op, ty, pos, after, guard⟩ a w K Q := by
   intro he
   rw [sDst_slot] at he
   obtain ⟨v, w', L', hr, hR', hv⟩ := opE_sound (P := F.P) F.nb (ty := ty) (pos := pos) (after := after) (guard := guard) hE hR op hp he
   have hput := hR'.put hv (by rw [hn.1]; exact hdl)
   have := hK _ _ _ hput
   unfold Oper.wp
   rcases hr with hr | ⟨hr, rfl⟩
   ·rw [hr]; exact this
   ·rw [hr]; exact this
  cases p with
  | call f args =>
   simp only [goD] at hgo
   have hc : ∃ c fn, op = .call c ∧ c.callee = .value (.func f) ∧ F.P.funcs[f]? = some fn ∧ fn.body.isSome = true ∧ (fn.name != "runtime.NumGoroutine") = true ∧ args = c.args.toList.map (sOpd F.vs) := by
    cases op with
    | call c =>
     obtain ⟨callee, cargs, argTypes⟩ := c
     cases callee with
     | value q =>
      cases q with
      | func f' =>
       simp only [sOp] at hp
       split at hp
       ·rename_i fn hfn
        split at hp
        ·rename_i hcond
         cases hp
         simp only [Bool.and_eq_true] at hcond
         exact ⟨_, fn, rfl, rfl, hfn, hcond.1, hcond.2, rfl⟩
        ·cases hp
       ·cases hp
      | _ => simp [sOp] at hp
     | invoke r m => simp [sOp] at hp
     | builtin b =>
      exfalso
      cases b <;> simp only [sOp] at hp <;> (repeat' split at hp) <;> first | (cases hp; done) | (simp [Option.bind_eq_some_iff] at hp; done) | (simp only [Option.bind_eq_some_iff] at hp; obtain ⟨_, _, hp⟩ := hp; split at hp <;> cases hp)
    | _ =>
     exfalso
     exact sOp_nocall (by intro c e; cases e) hp
   obtain ⟨c, fn, rfl, hcal, hfn, hbody, hname, rfl⟩ := hc
   obtain ⟨callee, cargs, argTypes⟩ := c
   simp only at hcal hgo
   subst hcal
   obtain ⟨hpc, hrf, rfl⟩ := hgo
   have hA : ∀ b, Av G.S L b → b < w.heap.size := by
    rintro b (h | ⟨o, h⟩)
    ·exact hR.sLt b h
    ·exact hR.heap.lt h
   have hcall := hpc (Av G.S L) w (cargs.map a.eval) (hn.2.tab hR) hA (by simp) (fun k d v h1 h2 => by
    have hrfd := List.all_eq_true.1 hrf d (List.mem_of_getElem? h1)
    simp only [List.map_map, List.getElem?_map, Array.getElem?_toList, Option.map_eq_some_iff] at h1
    simp only [Array.getElem?_map, Option.map_eq_some_iff] at h2
    obtain ⟨x, hx, rfl⟩ := h1
    obtain ⟨y, hy, rfl⟩ := h2
    rw [hx] at hy; cases hy
    exact (hE x).rf_imm hrfd)
   have hr : (execOp a.eval ⟨dst, .call { callee := .value (.func f), args := cargs, argTypes := argTypes }, ty, pos, after, guard⟩).run F.P w = .ok (.enter f (cargs.map a.eval)) w := by
    have hb : ¬ fn.body = none := by intro e; rw [e] at hbody; cases hbody
    have hnm : ¬ fn.name = "runtime.NumGoroutine" := by simpa using hname
    simp [execOp, resolve, Act.eval, Deferred.ofValue, invoke, callFunc, hfn, hnm, hb]
   unfold Oper.wp
   rw [hr]
   refine hcall.mono ?_
   rintro e w' ⟨v, rfl, hvi, hx⟩
   exact hK _ _ _ ((hR.still hx).put (.imm hvi) (by rw [hn.1]; exact hdl))
  | _ => exact plain hgo
 ·cases hs
theorem sOpers_get {ops : Array Oper} : ∀ (l : List Oper) (ds : List DOper), sOpers F.P F.vs F.own F.n ops l = some ds → ds.length = l.length ∧ ∀ (i : Nat) (o : Oper), l[i]? = some o → ∃ dp, ds[i]? = some dp ∧ sOper F.P F.vs F.own F.n ops o = some dp
 | [], ds, hs => by simp only [sOpers, Option.some.injEq] at hs; subst hs; exact ⟨rfl, fun i o h => by simp at h⟩
 | o :: l, ds, hs => by
  simp only [sOpers, Option.bind_eq_some_iff, Option.map_eq_some_iff] at hs
  obtain ⟨dp, hdp, ds', hds', rfl⟩ := hs
  obtain ⟨h1, h2⟩ := sOpers_get l ds' hds'
  refine ⟨by simp [h1], fun i p hp => ?_⟩
  cases i with
  | zero => simp at hp; subst hp; exact ⟨dp, rfl, hdp⟩
  | succ i => simp at hp; simpa using h2 i p hp
theorem anyD_sound {ops : Array Oper} {ds : List DOper} {Q : Exit → Act → World → Prop} {K : (Nat → DV) → Heap → Prop} (hn : G.n = F.n ∧ G.ok F.P) (hs : sOpers F.P F.vs F.own F.n ops ops.toList = some ds)
  (hK : ∀ σ h L a w, R G L σ h a w → K σ h → Q .normal a w) : ∀ (fuel : Nat) (listed : Array Bool) (σ : Nat → DV) (h : Heap) (L : Nat → Option Nat) (a : Act) (w : World), R G L σ h a w →
   anyD F ops ds K fuel listed σ h → wpAny F.P .any ops Q fuel listed a w := by
 intro fuel
 induction fuel with
 | zero => intro listed σ h L a w hR hA; exact ⟨hA.1, hK _ _ _ _ _ hR hA.2⟩
 | succ fuel ih =>
  intro listed σ h L a w hR hA
  refine ⟨fun e => hK _ _ _ _ _ hR (hA.1 e), fun i hi => ?_⟩
  obtain ⟨x, hx, d, ef, hg, hA'⟩ := hA.2 i hi
  obtain ⟨_, o, ho, _⟩ := mem_ready.1 hi
  obtain ⟨dp, hdp, hso⟩ := (sOpers_get _ _ hs).2 i o (by simpa using ho)
  rw [hx] at hdp; cases hdp
  have hgd : sGuard F.vs ops o.guard = some x.guard ∧ x.dst = sDst F.vs o.dst ∧ ∀ k, o.dst = some k → k < F.n := by
   simp only [sOper, Option.bind_eq_some_iff] at hso
   obtain ⟨p, hp, g, hg', hs⟩ := hso
   split at hs
   ·rename_i hd; cases hs; exact ⟨hg', rfl, dst_lt hd⟩
   ·cases hs
  obtain ⟨hgu, hdst, hdl⟩ := hgd
  simp only [wpOp, ho]
  rcases hg.out with ⟨h1, h2⟩ | ⟨h1, rfl, rfl⟩
  ·rw [wantedS hR hgu h1, if_pos rfl]
   exact .inl (oper_soundS hso hn hR h2 fun L a w hR' => ih _ _ _ L a w hR' hA')
  ·rw [wantedS hR hgu h1, if_neg (by simp)]
   rw [hdst, sDst_slot] at hA'
   exact ih _ _ _ L _ w (hR.put V_undef (by rw [hn.1]; exact hdl)) hA'
theorem W_regd {Q : Ex → Fr → Hp → Prop} {fr : Fr} {H : Hp} {ds : List DOper} (hw : regW { F with pure := true } ds [] fr H fun _ fr H => Q .norm fr H) : W F (.regd ds) Q fr H := by
 intro code hc G L a w hn hR
 cases code <;> simp only [strip] at hc <;> first | (cases hc; done) | skip
 rename_i id ops draw
 split at hc
 ·rename_i ds' hds
  split at hc
  ·rename_i hd
   subst hd
   split at hc
   ·cases hc
   split at hc
   ·rename_i hok
    cases hc
    simp only [drawOK, Bool.and_eq_true] at hok
    obtain ⟨⟨_, ⟨⟨_, htags⟩, hdf⟩⟩, hm⟩ := hok
    refine wp_region_any hm ?_
    have hlen : ds.length = ops.size := by rw [(sOpers_get _ _ hds).1]; simp
    have hlex := regW_lex (F := { F with pure := true }) rfl ds htags [] fr H hw
    have hany : anyD { F with pure := true } ops ds (fun σ h => ∃ te fr' H', σ = den F.vs te fr' ∧ h = lkH H' ∧ Q .norm fr' H') ops.size (Array.replicate ops.size false) (den F.vs [] fr) (lkH H) := by
     refine anyD_lex (deps := depsAll ops.toList []) (fun k x hx => ?_) hlen ops.size 0 _ _ _ (by omega) ?_ hdf hlex
     ·exact depsAll_sound ops.toList [] (fun j => by simp) (fun k x hx => by simp at hx) k x hx
     ·intro j o hj _ e _ _
      simp [Array.getD_eq_getD_getElem?, Array.getElem?_replicate] at hj
      split at hj <;> simp at hj
    refine anyD_sound (F := { F with pure := true }) (G := G) (K := fun σ h => ∃ te fr' H', σ = den F.vs te fr' ∧ h = lkH H' ∧ Q .norm fr' H') hn hds ?_ ops.size _ _ _ L a _ (hR.still (w' := { w with drawn := w.drawn + 1 }) ⟨rfl, rfl, rfl, Nat.le_refl _, fun _ _ _ => rfl⟩) hany
    rintro σ h L a w hR' ⟨te, fr', H', rfl, rfl, hk⟩
    refine ⟨L, fr', H', .norm, hR'.weak fun s => ?_, rfl, hk⟩
    simp only [den, lk]
    split
    ·exact .inl rfl
    ·exact .inr rfl
   ·(repeat' split at hc) <;> cases hc
  ·cases hc
 ·cases hc
end
end Go.Dat
namespace Go.Dat
open Go
def frz (o : Nat) (cells : List DV) : DV → DV
 | .osl sz p off len => if p = o then (if sz ≠ 0 ∧ off + len * sz ≤ cells.length then .sl sz ((cells.drop off).take (len * sz)) else .undef) else .osl sz p off len
 | d => purge o d
def rmH (o : Nat) (cells : List DV) : Hp → Hp
 | [] => []
 | (k, d) :: r => if k = o then rmH o cells r else (k, d.map (frz o cells)) :: rmH o cells r
theorem frz_undef (o : Nat) (cells : List DV) : frz o cells .undef = .undef := by simp [frz, purge]
theorem frz_sim (o : Nat) (cells : List DV) (d : DV) (h : d.sim = true) : frz o cells d = d := by cases d <;> first | (cases h; done) | simp [frz, purge, DV.has]
theorem lkH_rmH (o : Nat) (cells : List DV) : ∀ (H : Hp) (s : Nat), lkH (rmH o cells H) s = if s = o then none else (lkH H s).map (·.map (frz o cells))
 | [], s => by simp [rmH, lkH]
 | (k, d) :: r, s => by
  simp only [rmH, lkH]
  by_cases h1 : k = o
  ·rw [if_pos h1, lkH_rmH o cells r s]
   by_cases h2 : s = o
   ·simp [h2]
   ·rw [if_neg h2, if_neg h2, if_neg (by omega)]
  ·rw [if_neg h1]
   simp only [lkH, lkH_rmH o cells r s]
   by_cases h2 : k = s
   ·subst h2; simp [h1]
   ·simp [h2]
section
variable {G : Cx} {L : Nat → Option Nat} {σ : Nat → DV} {h : Heap} {a : Act} {w : World}
theorem R.freeze (o : Nat) (hK : G.K o = none) {cells : List DV} (ho : h o = some cells) (hrf : cells.all DV.rf = true) (hR : R G L σ h a w) :
  R G (updL L o none) (fun s => frz o cells (σ s)) (fun p => if p = o then none else (h p).map (·.map (frz o cells))) a w := by
 have hinv : ∀ p b, updL L o none p = some b → p ≠ o ∧ L p = some b := fun p b hp => by
  unfold updL at hp; by_cases e : p = o
  ·rw [if_pos e] at hp; cases hp
  ·rw [if_neg e] at hp; exact ⟨e, hp⟩
 have hAA : ∀ b, ¬ Av G.S L b → ¬ Av G.S (updL L o none) b := by
  rintro b hA (hS | ⟨p, hp⟩)
  ·exact hA (.inl hS)
  ·exact hA (.inr ⟨p, (hinv p b hp).2⟩)
 have hPV : ∀ d v, V w L (Av G.S L) d v → V w (updL L o none) (Av G.S (updL L o none)) (Dat.purge o d) v := fun d v hd =>
  hd.purge o (fun b _ hA => ⟨rfl, hAA b hA⟩) fun p b hne hp => ⟨by simp [updL, hne, hp], rfl⟩
 have hV : ∀ d v, V w L (Av G.S L) d v → V w (updL L o none) (Av G.S (updL L o none)) (frz o cells d) v := fun d v hd => by
  cases d with
  | osl sz p off len =>
   simp only [frz]
   by_cases hp : p = o
   ·subst hp
    rw [if_pos rfl]
    split
    ·rename_i hfit
     rcases hd.inv_osl with ⟨b, c, T, m, hL, rfl, hc, hs, hm⟩ | ⟨rfl, rfl⟩
     ·obtain ⟨cells', cur, T', hho, hb, hl', hpp⟩ := hR.heap.at_ hL
      rw [ho] at hho; cases hho
      by_cases h0 : (cells.drop off).take (len * sz) = []
      ·rw [h0]
       have : len = 0 := by
        rcases Nat.eq_zero_or_pos len with e | e
        ·exact e
        ·have h1 := Nat.mul_pos e (Nat.pos_of_ne_zero hfit.1)
         have h2 := congrArg List.length h0
         simp at h2; omega
       subst this
       exact .imm (.sl0 _ _ _)
      ·have hlen : ((cells.drop off).take (len * sz)).length = len * sz := by simp; omega
       have hget : ∀ k r, ((cells.drop off).take (len * sz))[k]? = some r → ∃ u, cur[off + k]? = some u ∧ VI w (Av G.S (updL L p none)) r u := by
        intro k r hk
        have hlt : k < len * sz := by have := (List.getElem?_eq_some_iff.1 hk).1; omega
        obtain ⟨u, hu⟩ := exists_aget (l := cur) (k := off + k) (by omega)
        have hc := cut_get hk
        refine ⟨u, hu, ((hpp _ r u hc hu).rf_imm (List.all_eq_true.1 hrf r (List.mem_of_getElem? hc))).mono fun b _ hA => ⟨rfl, hAA b hA⟩⟩
       have hnb : ¬ Av G.S (updL L p none) b := by
        rintro (h1 | ⟨q, h1⟩)
        ·exact hR.heap.notS p b hL h1
        ·obtain ⟨h2, h3⟩ := hinv q b h1
         exact h2 (hR.heap.inj q p b h3 hL)
       refine .imm (.sl (ad := ⟨b, off, none⟩) (fun k => (cur[off + k]?).getD Go.undef) h0 hlen hc hnb (fun k r hk => ?_) (fun k r hk => ?_))
       ·obtain ⟨u, hu, _⟩ := hget k r hk
        rw [add_lit, cell_of_row w b _ cur T' (0, 0) hb, hu]; rfl
       ·obtain ⟨u, hu, hv'⟩ := hget k r hk
        rw [hu]; exact hv'
     ·simp only [Nat.zero_mul, List.take_zero]
      exact .imm (.sl0 _ _ _)
    ·exact .imm (.undef _)
   ·rw [if_neg hp]
    have := hPV _ _ hd
    unfold Dat.purge at this
    rwa [if_neg (by simpa [DV.has] using hp)] at this
  | _ => exact hPV _ _ hd
 refine { hR with slots := fun s => hV _ _ (hR.slots s), heap := ⟨?_, ?_, ?_, ?_, fun p b hp => hR.heap.ty p b (hinv p b hp).2⟩, own := fun p b hp => hR.own p b (hinv p b hp).2, keep := fun p b hp => ⟨by unfold updL; rw [if_neg (by rintro rfl; rw [hK] at hp; cases hp)]; exact (hR.keep p b hp).1, (hR.keep p b hp).2⟩ }
 ·intro p b hp
  obtain ⟨hne, hp'⟩ := hinv p b hp
  obtain ⟨c, hc⟩ := hR.heap.dom p b hp'
  exact ⟨_, by simp only [hne, if_false, hc, Option.map_some]; rfl⟩
 ·intro p c hp
  by_cases e : p = o
  ·simp only [e, if_true] at hp; cases hp
  ·simp only [e, if_false, Option.map_eq_some_iff] at hp
   obtain ⟨c0, hc0, rfl⟩ := hp
   rcases hR.heap.obj p c0 hc0 with ⟨h1, h2⟩ | ⟨b, cs, T, hL, hb, hl, hv⟩
   ·exact .inl ⟨by simp [updL, e, h1], by simp [h2]⟩
   ·refine .inr ⟨b, cs, T, by simp [updL, e, hL], hb, by simpa using hl, fun k d v h1 h2 => ?_⟩
    simp only [List.getElem?_map, Option.map_eq_some_iff] at h1
    obtain ⟨d0, hd0, rfl⟩ := h1
    exact hV _ _ (hv k d0 v hd0 h2)
 ·intro p q b hp hq
  exact hR.heap.inj p q b (hinv p b hp).2 (hinv q b hq).2
 ·intro p b hp
  exact hR.heap.notS p b (hinv p b hp).2
end
theorem R.freezeL {G : Cx} {L : Nat → Option Nat} {a : Act} {w : World} {vs : List Nat} {te fr : Fr} {H : Hp} (o : Nat) (hK : G.K o = none) {cells : List DV} (ho : lkH H o = some cells) (hrf : cells.all DV.rf = true) (hR : R G L (den vs te fr) (lkH H) a w) :
  R G (updL L o none) (den vs (mapF (frz o cells) te) (mapF (frz o cells) fr)) (lkH (rmH o cells H)) a w := by
 have := hR.freeze o hK ho hrf
 have e1 : (fun s => frz o cells (den vs te fr s)) = den vs (mapF (frz o cells) te) (mapF (frz o cells) fr) := by
  funext s
  simp only [den, lk_mapF _ (frz_undef o cells)]
  split <;> rfl
 have e2 : (fun p => if p = o then none else (lkH H p).map (·.map (frz o cells))) = lkH (rmH o cells H) := by
  funext p; rw [lkH_rmH]
 rw [e1, e2] at this
 exact this
theorem W_freeze {F : FnD} {c : DC} {Q : Ex → Fr → Hp → Prop} {fr : Fr} {H : Hp} (o : Nat) {cells : List DV} (ho : lkH H o = some cells) (hrf : cells.all DV.rf = true)
  (hw : W F c Q (mapF (frz o cells) fr) (rmH o cells H)) (hlt : o < 1048576 := by decide) : W F c Q fr H := by
 intro code hc G L a w hn hR
 exact hw code hc G _ a w hn (hR.freezeL (te := []) o (hR.keep_none hlt) ho hrf)
theorem callR_freeze {F : FnD} {f : Nat} {ds : List DV} {te fr : Fr} {H : Hp} {K : DV → Fr → Fr → Hp → Prop} (hp : F.pure = false) (o : Nat) {cells : List DV} (ho : lkH H o = some cells) (hrf : cells.all DV.rf = true)
  (hc : callR F f (ds.map (frz o cells)) (mapF (frz o cells) te) (mapF (frz o cells) fr) (rmH o cells H) K) (hlt : o < 1048576 := by decide) : callR F f ds te fr H K := by
 refine callR_of hp ?_
 have hc' := callR_W hc
 intro G L a w us hG hR hs hv
 refine Calls.mono (hc' G _ a w us hG (hR.freezeL o (hR.keep_none hlt) ho hrf) (by simpa using hs) fun k d v h1 h2 => ?_) fun e w' hq => ?_
 rotate_left
 ·obtain ⟨v, L', d, te', fr', H', e1, e2, e3, e4, e5⟩ := hq
  exact ⟨v, L', d, te', fr', H', e1, e2, e3, (SimK.map (frz_sim o cells) (frz_undef o cells) _ _ _).trans e4, e5⟩
 rw [List.getElem?_map, Option.map_eq_some_iff] at h1
 obtain ⟨d0, hd0, rfl⟩ := h1
 -- by the slots' own argument, on a frame of one slot
 have hv0 := hv k d0 v hd0 h2
 have hR1 : R ⟨G.S, w, fun _ => True, 1, fun _ => none, []⟩ L (fun s => if s = 0 then d0 else .undef) (lkH H) { tmps := #[v], defers := [] } w := by
  refine ⟨rfl, rfl, fun s => ?_, hR.heap, Ext.refl _ _, hR.sLt, fun o b ho => .inl trivial, fun o b ho => (by cases ho), fun _ _ => rfl⟩
  ·by_cases e : s = 0
   ·subst e; simpa using hv0
   ·simp only [e, if_false]; exact .imm (.undef _)
 have := (hR1.freeze o rfl ho hrf).slots 0
 simpa using this
end Go.Dat
namespace Go.Dat
open Go
section
variable (o : Nat)
theorem purge_int (k : IntKind) (n : Int) : purge o (.int k n) = .int k n := rfl
theorem purge_bool (b : Bool) : purge o (.bool b) = .bool b := rfl
theorem purge_str (b : List UInt8) : purge o (.str b) = .str b := rfl
theorem purge_sl (s : Nat) (xs : List DV) : purge o (.sl s xs) = .sl s xs := rfl
theorem purge_el (i : Nat) (xs : List DV) : purge o (.el xs i) = .el xs i := rfl
theorem purge_nils : purge o .nils = .nils := rfl
theorem purge_nilp : purge o .nilp = .nilp := rfl
theorem purge_nili : purge o .nili = .nili := rfl
theorem purge_iface (t : Nat) (d : DV) : purge o (.iface t d) = .iface t d := rfl
theorem purge_osl_eq (s off l : Nat) : purge o (.osl s o off l) = .undef := by simp [purge, DV.has]
theorem purge_osl_ne {p : Nat} (s off l : Nat) (h : p ≠ o) : purge o (.osl s p off l) = .osl s p off l := by simp [purge, DV.has, h]
variable (cells : List DV)
theorem frz_int (k : IntKind) (n : Int) : frz o cells (.int k n) = .int k n := rfl
theorem frz_bool (b : Bool) : frz o cells (.bool b) = .bool b := rfl
theorem frz_str (b : List UInt8) : frz o cells (.str b) = .str b := rfl
theorem frz_sl (s : Nat) (xs : List DV) : frz o cells (.sl s xs) = .sl s xs := rfl
theorem frz_el (i : Nat) (xs : List DV) : frz o cells (.el xs i) = .el xs i := rfl
theorem frz_nils : frz o cells .nils = .nils := rfl
theorem frz_nilp : frz o cells .nilp = .nilp := rfl
theorem frz_nili : frz o cells .nili = .nili := rfl
theorem frz_iface (t : Nat) (d : DV) : frz o cells (.iface t d) = .iface t d := rfl
theorem frz_tup0 : frz o cells (.tup []) = .tup [] := rfl
theorem frz_osl_eq {s : Nat} (off len : Nat) (h0 : s ≠ 0) (h : off + len * s ≤ cells.length) : frz o cells (.osl s o off len) = .sl s ((cells.drop off).take (len * s)) := by simp [frz, h0, h]
theorem frz_osl_ne {p : Nat} (s off len : Nat) (h : p ≠ o) : frz o cells (.osl s p off len) = .osl s p off len := by simp [frz, h]
end
theorem cells_int (k : IntKind) (n : Int) : (DV.int k n).cells? = some [.int k n] := rfl
theorem one_int (k : IntKind) (n : Int) : (DV.int k n).one = true := rfl
theorem laid_nil (cells : List DV) : laid cells [] = some cells := rfl
theorem laid_int {cells : List DV} {off : Nat} (k : IntKind) (n : Int) (r : List (Nat × Nat × DV)) : laid cells ((off, 1, .int k n) :: r) = if off + 1 ≤ cells.length then laid (cells.set off (.int k n)) r else none := by
 simp [laid, cells_int, spl]
theorem fdiv_nat (a b : Nat) : ((a : Int)).fdiv (b : Int) = ((a / b : Nat) : Int) := by
 rw [Int.fdiv_eq_ediv_of_nonneg _ (by omega)]; rfl
theorem shr32u64 (a : Nat) : ((a : Int)).fdiv (2 ^ min (Int.toNat 32) IntKind.u64.bits) = ((a / 4294967296 : Nat) : Int) := by
 have : (2 ^ min (Int.toNat 32) IntKind.u64.bits : Int) = ((4294967296 : Nat) : Int) := by decide
 rw [this, fdiv_nat]
theorem mod32 (a : Nat) : ((a : Int)) % 4294967296 = ((a % 4294967296 : Nat) : Int) := by omega
theorem add_nat (a b : Nat) : (a : Int) + (b : Int) = ((a + b : Nat) : Int) := by omega
theorem mul_nat (a b : Nat) : (a : Int) * (b : Int) = ((a * b : Nat) : Int) := by simp
theorem Exp.osl1 {h : Heap} {o off len : Nat} {cells rs : List DV} (ho : h o = some cells) (hfit : off + len ≤ cells.length) (hr : (cells.drop off).take len = rs) (hrf : rs.all DV.rf = true) : Exp h (.osl 1 o off len) (.sl 1 rs) := by
 subst hr
 refine .osl ho (by decide) (by omega) (by simp; omega) fun k d r hd hr => ?_
 rw [Nat.mul_one] at hd
 rw [hd] at hr; cases hr
 exact .imm (List.all_eq_true.1 hrf d (List.mem_of_getElem? hd))
end Go.Dat
namespace Go.Dat
open Go
theorem W_mono {F : FnD} {c : DC} {Q Q' : Ex → Fr → Hp → Prop} {fr : Fr} {H : Hp} (h : W F c Q fr H) (hq : ∀ e fr H, Q e fr H → Q' e fr H) : W F c Q' fr H := by
 intro code hc G L a w hn hR
 refine wp_mono (h code hc G L a w hn hR) fun e a' w' => ?_
 rintro ⟨L', fr', H', de, h1, h2, h3⟩
 exact ⟨L', fr', H', de, h1, h2, hq _ _ _ h3⟩
theorem W_join {F : FnD} {c rest : DC} {Q : Ex → Fr → Hp → Prop} {fr : Fr} {H : Hp} {ι : Type} (I : ι → Prop) (fr' : ι → Fr) (H' : ι → Hp)
  (h1 : W F c (fun e fr1 H1 => match e with
   | .norm => ∃ i, I i ∧ subF fr1 (fr' i) ∧ H1 = H' i
   | e => Q e fr1 H1) fr H) (h2 : ∀ i, I i → W F rest Q (fr' i) (H' i)) : W F c (seqQ F rest Q) fr H := by
 refine W_mono h1 fun e fr1 H1 h => ?_
 cases e with
 | norm =>
  obtain ⟨i, hi, hs, rfl⟩ := h
  exact W_sub hs (h2 i hi)
 | exit j => exact h
 | ret => exact h
 | pan ch => exact h
theorem ev_x (te fr : Fr) (k : Nat) : ev te fr (.x k) = lk fr k := rfl
theorem ev_t (te fr : Fr) (k : Nat) : ev te fr (.t k) = lk te k := rfl
theorem ev_c (te fr : Fr) (d : DV) : ev te fr (.c d) = d := rfl
def callC (F : FnD) (os : List DOper) (dst : Dst) (f : Nat) (ds : List DV) (te fr : Fr) (H : Hp) (K : Fr → Fr → Hp → Prop) : Prop :=
 callR F f ds te fr H fun d te' fr' H' => regW F os (dst.onT te' d) (dst.onX fr' d) H' K
theorem callC_pure {F : FnD} {os : List DOper} {dst : Dst} {f : Nat} {ds : List DV} {te fr : Fr} {H : Hp} {K : Fr → Fr → Hp → Prop} {r : DV} (hc : PCalls F.P f ds r) (hrf : ds.all DV.rf = true)
  (hK : regW F os (dst.onT te r) (dst.onX fr r) H K) : callC F os dst f ds te fr H K := callR_pure hc hrf hK
theorem callC_freeze {F : FnD} {os : List DOper} {dst : Dst} {f : Nat} {ds : List DV} {te fr : Fr} {H : Hp} {K : Fr → Fr → Hp → Prop} (hp : F.pure = false) (o : Nat) {cells : List DV} (ho : lkH H o = some cells) (hrf : cells.all DV.rf = true)
  (hc : callC F os dst f (ds.map (frz o cells)) (mapF (frz o cells) te) (mapF (frz o cells) fr) (rmH o cells H) K) (hlt : o < 1048576 := by decide) : callC F os dst f ds te fr H K := callR_freeze hp o ho hrf hc hlt
theorem callC_W {F : FnD} {os : List DOper} {dst : Dst} {f : Nat} {ds : List DV} {te fr : Fr} {H : Hp} {K : Fr → Fr → Hp → Prop} (hp : F.pure = false)
  (h : callW F.P F.vs f ds te fr H fun d te' fr' H' => regW F os (dst.onT te' d) (dst.onX fr' d) H' K) : callC F os dst f ds te fr H K := callR_of hp h
section
variable (F : FnD) (os : List DOper) (dst : Dst) (te fr : Fr) (H : Hp) (K : Fr → Fr → Hp → Prop)
theorem goW_call (f : Nat) (args : List Opd) : goW F os dst te fr H K (.call f args) = callC F os dst f (args.map (ev te fr)) te fr H K := rfl
theorem goW_mv (x : Opd) : goW F os dst te fr H K (.mv x) = regW F os (dst.onT te (ev te fr x)) (dst.onX fr (ev te fr x)) H K := by simp [goW, opE, stepW_no]
theorem goW_pick (c a b : Opd) : goW F os dst te fr H K (.pick c a b) = stepW F os dst te fr H K (opE F.nb dst.slot (ev te fr) (lkH H) (.pick c a b)) := rfl
theorem goW_alloc (z : List DV) : goW F os dst te fr H K (.alloc z) = stepW F os dst te fr H K (opE F.nb dst.slot (ev te fr) (lkH H) (.alloc z)) := rfl
theorem goW_allocT (t : Nat) (z : List DV) : goW F os dst te fr H K (.allocT t z) = stepW F os dst te fr H K (opE F.nb dst.slot (ev te fr) (lkH H) (.allocT t z)) := rfl
theorem goW_box (x : Opd) : goW F os dst te fr H K (.box x) = stepW F os dst te fr H K (opE F.nb dst.slot (ev te fr) (lkH H) (.box x)) := rfl
theorem goW_build (z : List DV) (ps : List (Nat × Nat × Opd)) : goW F os dst te fr H K (.build z ps) = stepW F os dst te fr H K (opE F.nb dst.slot (ev te fr) (lkH H) (.build z ps)) := rfl
theorem goW_bsl (sz : Nat) (z : List DV) (ps : List (Nat × Nat × Opd)) : goW F os dst te fr H K (.bsl sz z ps) = stepW F os dst te fr H K (opE F.nb dst.slot (ev te fr) (lkH H) (.bsl sz z ps)) := rfl
theorem goW_bsl_ (sz : Nat) (z : List DV) (ps : List (Nat × Nat × Opd)) : goW F os dst te fr H K (.bsl' sz z ps) = stepW F os dst te fr H K (opE F.nb dst.slot (ev te fr) (lkH H) (.bsl' sz z ps)) := rfl
theorem goW_ld (x : Opd) : goW F os dst te fr H K (.ld x) = stepW F os dst te fr H K (opE F.nb dst.slot (ev te fr) (lkH H) (.ld x)) := rfl
theorem goW_ldn (n : Nat) (x : Opd) : goW F os dst te fr H K (.ldn n x) = stepW F os dst te fr H K (opE F.nb dst.slot (ev te fr) (lkH H) (.ldn n x)) := rfl
theorem goW_st (x v : Opd) : goW F os dst te fr H K (.st x v) = stepW F os dst te fr H K (opE F.nb dst.slot (ev te fr) (lkH H) (.st x v)) := rfl
theorem goW_stn (n : Nat) (x v : Opd) : goW F os dst te fr H K (.stn n x v) = stepW F os dst te fr H K (opE F.nb dst.slot (ev te fr) (lkH H) (.stn n x v)) := rfl
theorem goW_nilc (x : Opd) : goW F os dst te fr H K (.nilc x) = stepW F os dst te fr H K (opE F.nb dst.slot (ev te fr) (lkH H) (.nilc x)) := rfl
theorem goW_bin (op : BinOp) (x y : Opd) : goW F os dst te fr H K (.bin op x y) = stepW F os dst te fr H K (opE F.nb dst.slot (ev te fr) (lkH H) (.bin op x y)) := rfl
theorem goW_beq (neg : Bool) (x y : Opd) : goW F os dst te fr H K (.beq neg x y) = stepW F os dst te fr H K (opE F.nb dst.slot (ev te fr) (lkH H) (.beq neg x y)) := rfl
theorem goW_un (op : UnOp) (x : Opd) : goW F os dst te fr H K (.un op x) = stepW F os dst te fr H K (opE F.nb dst.slot (ev te fr) (lkH H) (.un op x)) := rfl
theorem goW_conv (k : IntKind) (x : Opd) : goW F os dst te fr H K (.conv k x) = stepW F os dst te fr H K (opE F.nb dst.slot (ev te fr) (lkH H) (.conv k x)) := rfl
theorem goW_s2b (x : Opd) : goW F os dst te fr H K (.s2b x) = stepW F os dst te fr H K (opE F.nb dst.slot (ev te fr) (lkH H) (.s2b x)) := rfl
theorem goW_b2s (x : Opd) : goW F os dst te fr H K (.b2s x) = stepW F os dst te fr H K (opE F.nb dst.slot (ev te fr) (lkH H) (.b2s x)) := rfl
theorem goW_mks (sz bytes : Nat) (z : List DV) (l c : Opd) : goW F os dst te fr H K (.mks sz bytes z l c) = stepW F os dst te fr H K (opE F.nb dst.slot (ev te fr) (lkH H) (.mks sz bytes z l c)) := rfl
theorem goW_slc (sz : Nat) (x : Opd) (lo hi : Option Opd) : goW F os dst te fr H K (.slc sz x lo hi) = stepW F os dst te fr H K (opE F.nb dst.slot (ev te fr) (lkH H) (.slc sz x lo hi)) := rfl
theorem goW_slcS (x : Opd) (lo hi : Option Opd) : goW F os dst te fr H K (.slcS x lo hi) = stepW F os dst te fr H K (opE F.nb dst.slot (ev te fr) (lkH H) (.slcS x lo hi)) := rfl
theorem goW_fad (off : Nat) (x : Opd) : goW F os dst te fr H K (.fad off x) = stepW F os dst te fr H K (opE F.nb dst.slot (ev te fr) (lkH H) (.fad off x)) := rfl
theorem goW_fld (off : Nat) (x : Opd) : goW F os dst te fr H K (.fld off x) = stepW F os dst te fr H K (opE F.nb dst.slot (ev te fr) (lkH H) (.fld off x)) := rfl
theorem goW_fldn (off n : Nat) (x : Opd) : goW F os dst te fr H K (.fldn off n x) = stepW F os dst te fr H K (opE F.nb dst.slot (ev te fr) (lkH H) (.fldn off n x)) := rfl
theorem goW_iad (sz : Nat) (x i : Opd) : goW F os dst te fr H K (.iad sz x i) = stepW F os dst te fr H K (opE F.nb dst.slot (ev te fr) (lkH H) (.iad sz x i)) := rfl
theorem goW_iaa (len sz : Nat) (x i : Opd) : goW F os dst te fr H K (.iaa len sz x i) = stepW F os dst te fr H K (opE F.nb dst.slot (ev te fr) (lkH H) (.iaa len sz x i)) := rfl
theorem goW_idx (x i : Opd) : goW F os dst te fr H K (.idx x i) = stepW F os dst te fr H K (opE F.nb dst.slot (ev te fr) (lkH H) (.idx x i)) := rfl
theorem goW_ext (x : Opd) (i : Nat) : goW F os dst te fr H K (.ext x i) = stepW F os dst te fr H K (opE F.nb dst.slot (ev te fr) (lkH H) (.ext x i)) := rfl
theorem goW_len (sz : Nat) (x : Opd) : goW F os dst te fr H K (.len sz x) = stepW F os dst te fr H K (opE F.nb dst.slot (ev te fr) (lkH H) (.len sz x)) := rfl
theorem goW_lenS (x : Opd) : goW F os dst te fr H K (.lenS x) = stepW F os dst te fr H K (opE F.nb dst.slot (ev te fr) (lkH H) (.lenS x)) := rfl
theorem goW_s2s (x : Opd) : goW F os dst te fr H K (.s2s x) = stepW F os dst te fr H K (opE F.nb dst.slot (ev te fr) (lkH H) (.s2s x)) := rfl
theorem goW_app (ty sz bytes : Nat) (s x : Opd) : goW F os dst te fr H K (.app ty sz bytes s x) = stepW F os dst te fr H K (opE F.nb dst.slot (ev te fr) (lkH H) (.app ty sz bytes s x)) := rfl
theorem goW_apps (ty : Nat) (s x : Opd) : goW F os dst te fr H K (.apps ty s x) = stepW F os dst te fr H K (opE F.nb dst.slot (ev te fr) (lkH H) (.apps ty s x)) := rfl
theorem goW_mki (t : Nat) (x : Opd) : goW F os dst te fr H K (.mki t x) = stepW F os dst te fr H K (opE F.nb dst.slot (ev te fr) (lkH H) (.mki t x)) := rfl
theorem goW_min2 (x y : Opd) : goW F os dst te fr H K (.min2 x y) = stepW F os dst te fr H K (opE F.nb dst.slot (ev te fr) (lkH H) (.min2 x y)) := rfl
theorem goW_max2 (x y : Opd) : goW F os dst te fr H K (.max2 x y) = stepW F os dst te fr H K (opE F.nb dst.slot (ev te fr) (lkH H) (.max2 x y)) := rfl
theorem goW_pan (x : Opd) : goW F os dst te fr H K (.pan x) = stepW F os dst te fr H K (opE F.nb dst.slot (ev te fr) (lkH H) (.pan x)) := rfl
end
end Go.Dat
namespace Go.Dat
open Go
inductive Nil2 : DV → DV → Prop where
 | same (d : DV) : Nil2 d d
 | nil (sz : Nat) : Nil2 .nils (.sl sz [])
theorem Nil2.V {w : World} {L : Nat → Option Nat} {A : Nat → Prop} {d r : DV} {v : Value} (h : Nil2 d r) (hv : V w L A d v) : V w L A r v := by
 cases h with
 | same => exact hv
 | nil sz => rw [hv.inv_nils]; exact .imm (.sl0 _ _ _)
theorem callC_nil {F : FnD} {os : List DOper} {dst : Dst} {f : Nat} {ds rs : List DV} {te fr : Fr} {H : Hp} {K : Fr → Fr → Hp → Prop} {r : DV} (hp : F.pure = false) (hl : rs.length = ds.length)
  (he : ∀ (k : Nat) d r, ds[k]? = some d → rs[k]? = some r → Nil2 d r) (hc : PCalls F.P f rs r) (hrf : rs.all DV.rf = true) (hK : regW F os (dst.onT te r) (dst.onX fr r) H K) : callC F os dst f ds te fr H K := by
 refine callC_W hp ?_
 have hw := callW_pure (vs := F.vs) (te := te) (fr := fr) (H := H) (K := fun d te' fr' H' => regW F os (dst.onT te' d) (dst.onX fr' d) H' K) hc hrf hK
 intro G L a w us hG hR hs hv
 refine hw G L a w us hG hR (by omega) fun k r v h1 h2 => ?_
 obtain ⟨d, hd⟩ := exists_get (l := ds) (k := k) (by have := (List.getElem?_eq_some_iff.1 h1).1; omega)
 exact (he k d r hd h1).V (hv k d v hd h2)
theorem callC_nil1 {F : FnD} {os : List DOper} {dst : Dst} {f : Nat} (sz : Nat) {te fr : Fr} {H : Hp} {K : Fr → Fr → Hp → Prop} {r : DV} (hp : F.pure = false) (hc : PCalls F.P f [.sl sz []] r) (hK : regW F os (dst.onT te r) (dst.onX fr r) H K) :
  callC F os dst f [.nils] te fr H K :=
 callC_nil (rs := [.sl sz []]) hp rfl (fun k d r h1 h2 => by
  cases k with
  | zero => simp at h1 h2; subst h1; subst h2; exact .nil sz
  | succ k => simp at h1) hc rfl hK
universe u v
theorem cA : type_of% (And.intro (And.intro (And.intro (And.intro (And.intro (And.intro (And.intro @w64 @wu64) (And.intro @wu32 (And.intro @wu8 @regW_nil))) (And.intro (And.intro @regW_none (And.intro @regW_some @goW_call)) (And.intro @goW_mv (And.intro @goW_pick (And.intro @goW_alloc @goW_allocT))))) (And.intro (And.intro (And.intro @goW_box @goW_build) (And.intro @goW_bsl (And.intro @goW_bsl_ @goW_ld))) (And.intro (And.intro @goW_ldn (And.intro @goW_st @goW_stn)) (And.intro @goW_nilc (And.intro @goW_bin @goW_beq))))) (And.intro (And.intro (And.intro (And.intro @goW_un @goW_conv) (And.intro @goW_s2b (And.intro @goW_b2s @goW_mks))) (And.intro (And.intro @goW_slc (And.intro @goW_slcS @goW_fad)) (And.intro @goW_fld (And.intro @goW_fldn @goW_iad)))) (And.intro (And.intro (And.intro @goW_iaa (And.intro @goW_idx @goW_ext)) (And.intro @goW_len (And.intro @goW_lenS @goW_s2s))) (And.intro (And.intro (And.intro @goW_app @goW_apps) (And.intro @goW_mki @goW_min2)) (And.intro @goW_max2 (And.intro @goW_pan @stepW_none)))))) (And.intro (And.intro (And.intro (And.intro (And.intro @stepW_no @stepW_set) (And.intro @stepW_new (And.intro @stepW_app @stepW_gd))) (And.intro (And.intro @regG_tt (And.intro @regG_ff @regG_tf)) (And.intro @regG_ft (And.intro @regG_u @ev_x)))) (And.intro (And.intro (And.intro @ev_t @ev_c) (And.intro @gd_map (And.intro @gd_bind @gd_true))) (And.intro (And.intro @seqQ_norm (And.intro @seqQ_ret @seqQ_exit)) (And.intro @blkQ_norm (And.intro @blkQ_ret @purge_int))))) (And.intro (And.intro (And.intro (And.intro @purge_bool @purge_str) (And.intro @purge_sl (And.intro @purge_nils @purge_nilp))) (And.intro (And.intro @purge_nili (And.intro @purge_iface @frz_int)) (And.intro @frz_bool (And.intro @frz_str @frz_sl)))) (And.intro (And.intro (And.intro @frz_nils (And.intro @frz_nilp @frz_nili)) (And.intro @frz_iface (And.intro @frz_tup0 @frz_osl_eq))) (And.intro (And.intro @frz_osl_ne (And.intro @purge_osl_ne @purge_osl_eq)) (And.intro @laid_nil (And.intro @laid_int @one_int))))))) (And.intro @gdo_lt @gdo_eq)) := (And.intro (And.intro (And.intro (And.intro (And.intro (And.intro (And.intro @w64 @wu64) (And.intro @wu32 (And.intro @wu8 @regW_nil))) (And.intro (And.intro @regW_none (And.intro @regW_some @goW_call)) (And.intro @goW_mv (And.intro @goW_pick (And.intro @goW_alloc @goW_allocT))))) (And.intro (And.intro (And.intro @goW_box @goW_build) (And.intro @goW_bsl (And.intro @goW_bsl_ @goW_ld))) (And.intro (And.intro @goW_ldn (And.intro @goW_st @goW_stn)) (And.intro @goW_nilc (And.intro @goW_bin @goW_beq))))) (And.intro (And.intro (And.intro (And.intro @goW_un @goW_conv) (And.intro @goW_s2b (And.intro @goW_b2s @goW_mks))) (And.intro (And.intro @goW_slc (And.intro @goW_slcS @goW_fad)) (And.intro @goW_fld (And.intro @goW_fldn @goW_iad)))) (And.intro (And.intro (And.intro @goW_iaa (And.intro @goW_idx @goW_ext)) (And.intro @goW_len (And.intro @goW_lenS @goW_s2s))) (And.intro (And.intro (And.intro @goW_app @goW_apps) (And.intro @goW_mki @goW_min2)) (And.intro @goW_max2 (And.intro @goW_pan @stepW_none)))))) (And.intro (And.intro (And.intro (And.intro (And.intro @stepW_no @stepW_set) (And.intro @stepW_new (And.intro @stepW_app @stepW_gd))) (And.intro (And.intro @regG_tt (And.intro @regG_ff @regG_tf)) (And.intro @regG_ft (And.intro @regG_u @ev_x)))) (And.intro (And.intro (And.intro @ev_t @ev_c) (And.intro @gd_map (And.intro @gd_bind @gd_true))) (And.intro (And.intro @seqQ_norm (And.intro @seqQ_ret @seqQ_exit)) (And.intro @blkQ_norm (And.intro @blkQ_ret @purge_int))))) (And.intro (And.intro (And.intro (And.intro @purge_bool @purge_str) (And.intro @purge_sl (And.intro @purge_nils @purge_nilp))) (And.intro (And.intro @purge_nili (And.intro @purge_iface @frz_int)) (And.intro @frz_bool (And.intro @frz_str @frz_sl)))) (And.intro (And.intro (And.intro @frz_nils (And.intro @frz_nilp @frz_nili)) (And.intro @frz_iface (And.intro @frz_tup0 @frz_osl_eq))) (And.intro (And.intro @frz_osl_ne (And.intro @purge_osl_ne @purge_osl_eq)) (And.intro @laid_nil (And.intro @laid_int @one_int))))))) (And.intro @gdo_lt @gdo_eq))
theorem cB : type_of% (And.intro (And.intro (And.intro (And.intro @Option.map_some.{0,0} (And.intro @Option.map_none.{0,0} @Option.bind_some.{0,0})) (And.intro @Option.bind_none.{0,0} (And.intro @Option.isNone_none.{0} @Option.isSome_none.{0}))) (And.intro (And.intro @List.map_cons.{0,0} (And.intro @List.map_nil.{0,0} @List.getD_cons_zero.{0})) (And.intro (And.intro @List.getD_cons_succ.{0} @List.length_cons.{0}) (And.intro @List.length_nil.{0} @List.set_cons_zero.{0})))) (And.intro (And.intro (And.intro @List.set_cons_succ.{0} (And.intro @ne_eq.{1} @Nat.zero_add)) (And.intro (And.intro @Nat.add_zero @Nat.mul_one) (And.intro @Nat.one_mul @true_and))) (And.intro (And.intro @and_true (And.intro @Bool.false_eq_true @not_false_eq_true)) (And.intro (And.intro @Int.toNat_natCast @Bool.not_true) (And.intro @Bool.not_false @and_self))))) := (And.intro (And.intro (And.intro (And.intro @Option.map_some.{0,0} (And.intro @Option.map_none.{0,0} @Option.bind_some.{0,0})) (And.intro @Option.bind_none.{0,0} (And.intro @Option.isNone_none.{0} @Option.isSome_none.{0}))) (And.intro (And.intro @List.map_cons.{0,0} (And.intro @List.map_nil.{0,0} @List.getD_cons_zero.{0})) (And.intro (And.intro @List.getD_cons_succ.{0} @List.length_cons.{0}) (And.intro @List.length_nil.{0} @List.set_cons_zero.{0})))) (And.intro (And.intro (And.intro @List.set_cons_succ.{0} (And.intro @ne_eq.{1} @Nat.zero_add)) (And.intro (And.intro @Nat.add_zero @Nat.mul_one) (And.intro @Nat.one_mul @true_and))) (And.intro (And.intro @and_true (And.intro @Bool.false_eq_true @not_false_eq_true)) (And.intro (And.intro @Int.toNat_natCast @Bool.not_true) (And.intro @Bool.not_false @and_self)))))
end Go.Dat
namespace Go.Dat
open Go
def Holds1 (w : World) (S : Nat → Prop) (b : Nat) (cells : List DV) : Prop :=
 ∃ cs T, w.heap[b]? = some (.cells cs T (0, 0)) ∧ cells.length ≤ cs.size ∧ ∀ (k : Nat) d v, cells[k]? = some d → cs[k]? = some v → VI w (fun x => S x ∨ x = b) d v
def lent1 (b : Nat) : Nat → Option Nat := fun o => if o = 1048576 then some b else none
def WCalls (P : Program) (f : Nat) (args : List DV) (cells : List DV) (r : DV) (cells' : List DV) : Prop :=
 ∀ (S : Nat → Prop) (b : Nat) (w : World) (us : Array Value), Tab P w → NotTab P b → Holds1 w S b cells → ¬ S b → (∀ x, S x → x < w.heap.size) → us.size = args.length →
  (∀ (k : Nat) d v, args[k]? = some d → us[k]? = some v → V w (lent1 b) (fun x => S x ∨ x = b) d v) →
  Calls P f us w fun e w' => ∃ v, e = .returned v ∧ Holds1 w' S b cells' ∧ VI w' (fun x => S x ∨ x = b) r v ∧ Ext (fun x => x = b) w w' ∧ w'.shape? b = w.shape? b
def RetPW (rv : List RV) (r : DV) (cells' : List DV) (e : Ex) (fr : Fr) (H : Hp) : Prop := RetP rv r e fr H ∧ lkH H 1048576 = some cells' ∧ cells'.all DV.rf = true
theorem av_lent1 (S : Nat → Prop) (b x : Nat) : Av S (lent1 b) x ↔ (S x ∨ x = b) := by
 unfold Av lent1
 constructor
 ·rintro (h | ⟨o, h⟩)
  ·exact .inl h
  ·split at h
   ·cases h; exact .inr rfl
   ·cases h
 ·rintro (h | rfl)
  ·exact .inl h
  ·exact .inr ⟨1048576, by simp⟩
theorem WCalls_of {F : FnD} {f : Nat} {c : DC} {rv : List RV} {args cells cells' : List DV} {r : DV} (hf : IsFn F f c rv) (hn : args.length ≤ F.n) (hsc : r.sc = true)
  (h : W F c (RetPW rv r cells') (initF 0 args) [(1048576, cells)]) : WCalls F.P f args cells r cells' := by
 obtain ⟨fn, code, hfn, hb, hnt, hst, hrv, hrs⟩ := hf.ex
 intro S b w us hT hTb hH hSb hA hs hv
 have hav : Av S (lent1 b) = fun x => S x ∨ x = b := funext fun x => propext (av_lent1 S b x)
 obtain ⟨cs0, T0, hb0, hl0, hp0⟩ := hH
 have hblt : b < w.heap.size := (Array.getElem?_eq_some_iff.1 hb0).1
 refine calls_of_wp hfn hb ?_
 have hL : ∀ o x, lent1 b o = some x → o = 1048576 ∧ x = b := fun o x h => by
  unfold lent1 at h
  split at h
  ·cases h; exact ⟨by assumption, rfl⟩
  ·cases h
 have hR : R ⟨S, w, fun x => x = b, F.n, lent1 b, []⟩ (lent1 b) (den F.vs [] (initF 0 args)) (lkH [(1048576, cells)]) { tmps := us ++ Array.replicate (fn.ntmps - us.size) undef, defers := [] } w := by
  refine ⟨by simp; omega, rfl, fun s => ?_, ⟨?_, ?_, ?_, ?_, fun o x ho => tyNo.ok (by rw [(hL o x ho).1]; decide) w x⟩, Ext.refl _ _, hA, fun o x ho => .inl (hL o x ho).2, fun o x ho => ⟨ho, Nat.le_of_eq (hL o x ho).1.symm⟩, fun _ _ => rfl⟩
  ·simp only [den, lk]
   rw [hav]
   split
   ·rw [lk_initF, if_pos (Nat.zero_le _), Nat.sub_zero]
    cases hk : args[s]? with
    | none => rw [List.getD_eq_getElem?_getD, hk]; exact .imm (.undef _)
    | some d =>
     have hlt := (List.getElem?_eq_some_iff.1 hk).1
     obtain ⟨u, hu⟩ := exists_aget (l := us) (k := s) (by omega)
     rw [List.getD_eq_getElem?_getD, hk, Array.getD_eq_getD_getElem?, Array.getElem?_append_left (by omega), hu]
     exact hv s d u hk hu
   ·exact .imm (.undef _)
  ·intro o x ho
   rw [(hL o x ho).1]
   exact ⟨cells, by simp [lkH]⟩
  ·intro o c hc
   simp only [lkH] at hc
   split at hc
   ·rename_i e
    cases hc
    subst e
    refine .inr ⟨b, cs0, T0, by simp [lent1], hb0, hl0, fun k d v h1 h2 => ?_⟩
    rw [hav]; exact .imm (hp0 k d v h1 h2)
   ·cases hc
  ·intro o p x ho hp
   rw [(hL o x ho).1, (hL p x hp).1]
  ·intro o x ho
   rw [(hL o x ho).2]; exact hSb
 refine wp_mono (h code hst ⟨S, w, fun x => x = b, F.n, lent1 b, []⟩ _ _ _ ⟨rfl, hT, fun x h => (show x = b from h) ▸ hTb⟩ hR) fun e a' w' => ?_
 rintro ⟨L, fr, H, de, hR', he, ⟨hde, ds, hds, hexp⟩, hcell, hrf⟩
 obtain ⟨v, hrun, hV⟩ := results_run (P := F.P) fn hR' hrv hds hrs
 have hLb : L 1048576 = some b := (hR'.keep 1048576 b (by simp [lent1])).1
 have hsub : ∀ x, ¬ Av S L x → ¬ (S x ∨ x = b) := by
  rintro x hx (h1 | rfl)
  ·exact hx (.inl h1)
  ·exact hx (.inr ⟨_, hLb⟩)
 have hwk : ∀ {d : DV} {v : Value}, VI w' (Av S L) d v → VI w' (fun x => S x ∨ x = b) d v := fun hd => hd.mono fun x _ hx => ⟨rfl, hsub x hx⟩
 have hH' : Holds1 w' S b cells' := by
  obtain ⟨c, cs, T, hc, hbb, hl, hp⟩ := hR'.heap.at_ hLb
  rw [hcell] at hc; cases hc
  exact ⟨cs, T, hbb, hl, fun k d v h1 h2 => hwk ((hp k d v h1 h2).rf_imm (List.all_eq_true.1 hrf d (List.mem_of_getElem? h1)))⟩
 have hvi : VI w' (fun x => S x ∨ x = b) r v := (hexp.VI hR'.heap hV).sc hsc _ _
 have hfin : ∃ u, Ending.returned v = .returned u ∧ Holds1 w' S b cells' ∧ VI w' (fun x => S x ∨ x = b) r u ∧ Ext (fun x => x = b) w w' ∧ w'.shape? b = w.shape? b := ⟨v, rfl, hH', hvi, hR'.ext, hR'.shp b hblt⟩
 cases e <;> simp only [er, Option.some.injEq, reduceCtorEq] at he
 ·exact ⟨hR'.defers, v, hrun, hfin⟩
 ·subst he; rcases hde with e | e <;> cases e
 ·exact ⟨hR'.defers, v, hrun, hfin⟩
 ·subst he; rcases hde with e | e <;> cases e
def ren (o : Nat) : DV → DV
 | .osl sz p off len => if p = o then .osl sz 1048576 off len else .undef
 | .ptr p off => if p = o then .ptr 1048576 off else .undef
 | d => if d.rf then d else .undef
theorem R.lent {G : Cx} {L : Nat → Option Nat} {σ : Nat → DV} {h : Heap} {a : Act} {w w' : World} (hR : R G L σ h a w) {o b : Nat} (hL : L o = some b) {cells' : List DV}
  (hH : ∃ cs T, w'.heap[b]? = some (.cells cs T (0, 0)) ∧ cells'.length ≤ cs.size ∧ ∀ (k : Nat) d v, cells'[k]? = some d → cs[k]? = some v → VI w' (Av G.S L) d v)
  (hx : Ext (fun x => x = b) w w') (hsh : w'.shape? b = w.shape? b) : R G L σ (h.upd o (some cells')) a w' := by
 have hblt := hR.heap.lt hL
 have hAv : Av G.S L b := .inr ⟨o, hL⟩
 have hV : ∀ d v, V w L (Av G.S L) d v → V w' L (Av G.S L) d v := by
  intro d v hd
  refine hd.mono (fun k hk hA => ⟨hx.block k hk fun e => hA (e ▸ hAv), hA⟩) fun p k _ hp => ⟨hp, ?_⟩
  by_cases e : k = b
  ·subst e; exact hsh
  ·exact shape_of_block (hx.block k (hR.heap.lt hp) e)
 refine ⟨hR.size, hR.defers, fun s => hV _ _ (hR.slots s), ⟨?_, ?_, hR.heap.inj, hR.heap.notS, fun p k hp => (hR.heap.ty p k hp).imm_shape (by
  by_cases e : k = b
  ·subst e; exact hsh
  ·exact shape_of_block (hx.block k (hR.heap.lt hp) e))⟩, ⟨hx.os.trans hR.ext.os, hx.tape.trans hR.ext.tape, hx.output.trans hR.ext.output, Nat.le_trans hR.ext.size hx.size, fun k hk hS => ?_⟩, fun k hk => Nat.lt_of_lt_of_le (hR.sLt k hk) hx.size, hR.own, hR.keep, fun k hk => ?_⟩
 ·intro p k hp
  by_cases e : p = o
  ·exact ⟨cells', by simp [Heap.upd, e]⟩
  ·obtain ⟨c, hc⟩ := hR.heap.dom p k hp
   exact ⟨c, by simp [Heap.upd, e, hc]⟩
 ·intro p c hp
  unfold Heap.upd at hp
  by_cases e : p = o
  ·subst e
   rw [if_pos rfl] at hp
   cases hp
   obtain ⟨cs, T, h1, h2, h3⟩ := hH
   exact .inr ⟨b, cs, T, hL, h1, h2, fun k d v h4 h5 => .imm (h3 k d v h4 h5)⟩
  ·rw [if_neg e] at hp
   rcases hR.heap.obj p c hp with h1 | ⟨k, cs2, T2, hk, hkb, hl', hv'⟩
   ·exact .inl h1
   ·have hne : k ≠ b := fun e' => e (hR.heap.inj p o k hk (by rw [e']; exact hL))
    exact .inr ⟨k, cs2, T2, hk, (hx.block k (hR.heap.lt hk) hne).trans hkb, hl', fun j d v h1 h2 => hV _ _ (hv' j d v h1 h2)⟩
 ·have hkb : k ≠ b := by
   rintro rfl
   rcases hR.own o k hL with h1 | h1
   ·exact hS h1
   ·omega
  exact (hx.block k (Nat.lt_of_lt_of_le hk hR.ext.size) hkb).trans (hR.ext.block k hk hS)
 ·refine Eq.trans ?_ (hR.shp k hk)
  by_cases e : k = b
  ·subst e; exact hsh
  ·exact shape_of_block (hx.block k (Nat.lt_of_lt_of_le hk hR.ext.size) e)
theorem callC_lend {F : FnD} {os : List DOper} {dst : Dst} {f : Nat} {ds : List DV} {te fr : Fr} {H : Hp} {K : Fr → Fr → Hp → Prop} {r : DV} (hp : F.pure = false) (o : Nat) {cells cells' : List DV}
  (ho : lkH H o = some cells) (hrf : cells.all DV.rf = true) (hne : cells ≠ []) (hc : WCalls F.P f (ds.map (ren o)) cells r cells')
  (hK : regW F os (dst.onT te r) (dst.onX fr r) (setH H o cells') K) : callC F os dst f ds te fr H K := by
 refine callC_W hp ?_
 intro G L a w us hG hR hs hv
 rcases hR.heap.obj o cells ho with ⟨_, h0⟩ | ⟨b, cs, T, hL, hb, hl, hpp⟩
 ·exact absurd h0 hne
 have hAv : Av G.S L b := .inr ⟨o, hL⟩
 have hS : (fun x => (Av G.S L x ∧ x ≠ b) ∨ x = b) = Av G.S L := funext fun x => propext ⟨fun h => h.elim And.left fun e => e ▸ hAv, fun h => by
  by_cases e : x = b
  ·exact .inr e
  ·exact .inl ⟨h, e⟩⟩
 have hlt : ∀ x, Av G.S L x → x < w.heap.size := by
  rintro x (h | ⟨p, h⟩)
  ·exact hR.sLt x h
  ·exact hR.heap.lt h
 have hc' := hc (fun x => Av G.S L x ∧ x ≠ b) b w us
 rw [hS] at hc'
 refine (hc' (hG.tab hR) (hG.own hR hL) ⟨cs, T, hb, hl, fun k d v h1 h2 => ?_⟩ (fun h => h.2 rfl) (fun x h => hlt x h.1) (by simpa using hs) fun k d v h1 h2 => ?_).mono ?_
 ·rw [hS]; exact (hpp k d v h1 h2).rf_imm (List.all_eq_true.1 hrf d (List.mem_of_getElem? h1))
 ·rw [List.getElem?_map, Option.map_eq_some_iff] at h1
  obtain ⟨d0, hd0, rfl⟩ := h1
  have hv0 := hv k d0 v hd0 h2
  have hdef : ∀ d : DV, V w L (Av G.S L) d v → V w (lent1 b) (Av G.S L) (if d.rf then d else .undef) v := fun d hd => by
   by_cases e : d.rf = true
   ·rw [if_pos e]; exact .imm (hd.rf_imm e)
   ·rw [if_neg e]; exact .imm (.undef _)
  cases d0 with
  | osl sz p off len =>
   simp only [ren]
   split
   ·rename_i e
    subst e
    rcases hv0.inv_osl with ⟨b', c, T', m, hL', rfl, hc, hs', hm⟩ | ⟨rfl, rfl⟩
    ·rw [hL] at hL'; cases hL'
     exact .osl (by simp [lent1]) hc hs' hm
    ·exact .osl0 _ _ _
   ·exact .imm (.undef _)
  | ptr p off =>
   simp only [ren]
   split
   ·rename_i e
    subst e
    obtain ⟨b', hL', rfl⟩ := hv0.inv_ptr
    rw [hL] at hL'; cases hL'
    exact .ptr (by simp [lent1])
   ·exact .imm (.undef _)
  | _ => exact hdef _ hv0
 ·rintro e w' ⟨v, rfl, hH', hvi, hx, hsh⟩
  refine ⟨v, L, r, te, fr, setH H o cells', rfl, ?_, .imm hvi, SimK.refl _, hK⟩
  unfold Holds1 at hH'
  rw [hS] at hH'
  have := hR.lent hL hH' hx hsh
  rw [show lkH (setH H o cells') = Heap.upd (lkH H) o (some cells') from funext fun p => by rw [lkH_setH]; rfl]
  exact this
structure Hid (p : Prop) : Prop where
 out : p
def FCalls (P : Program) (f : Nat) (args : List DV) (sz n : Nat) (xs : List DV) : Prop :=
 ∀ (A : Nat → Prop) (w : World) (us : Array Value), Tab P w → (∀ b, A b → b < w.heap.size) → us.size = args.length → (∀ (k : Nat) d v, args[k]? = some d → us[k]? = some v → VI w A d v) →
  Calls P f us w fun e w' => ∃ b c cs T, e = .returned (.slice (some ⟨b, 0, none⟩) n c) ∧ w.heap.size ≤ b ∧ n ≤ c ∧ c * sz ≤ cs.size ∧ w'.heap[b]? = some (.cells cs T (0, 0)) ∧ xs.length ≤ cs.size ∧
   (∀ (k : Nat) d v, xs[k]? = some d → cs[k]? = some v → VI w' (fun x => A x ∨ x = b) d v) ∧ Ext (fun _ => False) w w'
def RetPF (rv : List RV) (sz n : Nat) (xs : List DV) (e : Ex) (fr : Fr) (H : Hp) : Prop :=
 (e = .norm ∨ e = .ret) ∧ ∃ o, resDs fr H rv = some [.osl sz o 0 n] ∧ lkH H o = some xs ∧ xs.all DV.rf = true ∧ 0 < n
theorem RetPF_1 {k o sz n : Nat} {xs : List DV} {fr : Fr} {H : Hp} (h1 : lk fr k = .osl sz o 0 n) (h2 : lkH H o = some xs) (h3 : xs.all DV.rf = true) (h4 : 0 < n) : RetPF [.t k] sz n xs .ret fr H :=
 ⟨.inr rfl, o, by simp [resDs, resD1, h1], h2, h3, h4⟩
theorem FCalls_of {F : FnD} {f : Nat} {c : DC} {rv : List RV} {args : List DV} {sz n : Nat} {xs : List DV} (hf : IsFn F f c rv) (hn : args.length ≤ F.n)
  (h : W F c (RetPF rv sz n xs) (initF 0 args) []) : FCalls F.P f args sz n xs := by
 obtain ⟨fn, code, hfn, hb, hnt, hst, hrv, hrs⟩ := hf.ex
 intro A w us hT hA hs hv
 refine calls_of_wp hfn hb ?_
 have hR : R ⟨A, w, fun _ => False, F.n, fun _ => none, []⟩ (fun _ => none) (den F.vs [] (initF 0 args)) (lkH []) { tmps := us ++ Array.replicate (fn.ntmps - us.size) undef, defers := [] } w := by
  refine ⟨by simp; omega, rfl, fun s => ?_, ⟨(by intro o b h; cases h), (by intro o c h; cases h), (by intro o p b h; cases h), (by intro o b h; cases h), (by intro o b h; cases h)⟩, Ext.refl _ _, hA, (by intro o b h; cases h), (by intro o b h; cases h), fun _ _ => rfl⟩
  simp only [den, lk]
  split
  ·rw [lk_initF, if_pos (Nat.zero_le _), Nat.sub_zero]
   cases hk : args[s]? with
   | none => rw [List.getD_eq_getElem?_getD, hk]; exact .imm (.undef _)
   | some d =>
    have hlt := (List.getElem?_eq_some_iff.1 hk).1
    obtain ⟨u, hu⟩ := exists_aget (l := us) (k := s) (by omega)
    rw [List.getD_eq_getElem?_getD, hk, Array.getD_eq_getD_getElem?, Array.getElem?_append_left (by omega), hu]
    refine .imm ((hv s d u hk hu).mono fun b _ hb => ⟨rfl, ?_⟩)
    rintro (h1 | ⟨o, h1⟩)
    ·exact hb h1
    ·cases h1
  ·exact .imm (.undef _)
 refine wp_mono (h code hst ⟨A, w, fun _ => False, F.n, fun _ => none, []⟩ _ _ _ ⟨rfl, hT, fun _ h => False.elim h⟩ hR) fun e a' w' => ?_
 rintro ⟨L, fr, H, de, hR', he, hde, o, hds, ho, hrf, hpos⟩
 obtain ⟨v, hrun, hV⟩ := results_run (P := F.P) fn hR' hrv hds hrs
 have hfin : ∃ b c cs T, Ending.returned v = .returned (.slice (some ⟨b, 0, none⟩) n c) ∧ w.heap.size ≤ b ∧ n ≤ c ∧ c * sz ≤ cs.size ∧ w'.heap[b]? = some (.cells cs T (0, 0)) ∧ xs.length ≤ cs.size ∧
   (∀ (k : Nat) d v, xs[k]? = some d → cs[k]? = some v → VI w' (fun x => A x ∨ x = b) d v) ∧ Ext (fun _ => False) w w' := by
  have hV' : V w' L (Av A L) (.osl sz o 0 n) v := hV
  rcases hV'.inv_osl with ⟨b, c, T, m, hL, rfl, hc, hsh, hm⟩ | ⟨rfl, _⟩
  ·obtain ⟨cells, cs, T', hc', hbb, hl, hp⟩ := hR'.heap.at_ hL
   rw [ho] at hc'; cases hc'
   have hsz : m = cs.size := by simp [World.shape?, hbb] at hsh; omega
   refine ⟨b, c, cs, T', rfl, (hR'.own o b hL).resolve_left id, hc, by omega, hbb, hl, fun k d v h1 h2 => ?_, hR'.ext⟩
   refine ((hp k d v h1 h2).rf_imm (List.all_eq_true.1 hrf d (List.mem_of_getElem? h1))).mono fun x _ hx => ⟨rfl, ?_⟩
   rintro (h3 | rfl)
   ·exact hx (.inl h3)
   ·exact hx (.inr ⟨o, hL⟩)
  ·omega
 cases e <;> simp only [er, Option.some.injEq, reduceCtorEq] at he
 ·exact ⟨hR'.defers, v, hrun, hfin⟩
 ·subst he; rcases hde with e | e <;> cases e
 ·exact ⟨hR'.defers, v, hrun, hfin⟩
 ·subst he; rcases hde with e | e <;> cases e
theorem FCalls.pure {P : Program} {f : Nat} {args : List DV} {sz n : Nat} {xs : List DV} (h : FCalls P f args sz n xs) (hl : xs.length = n * sz) (hne : xs ≠ []) : PCalls P f args (.sl sz xs) := by
 intro A w us hT hA hs hv
 refine (h A w us hT hA hs hv).mono ?_
 rintro e w' ⟨b, c, cs, T, rfl, hbn, hnc, hcs, hb, hlen, hvi, hx⟩
 refine ⟨_, rfl, .sl (fun k => (cs[k]?).getD Go.undef) hne hl hnc (fun h => absurd (hA b h) (by omega)) (fun k d hk => ?_) (fun k d hk => ?_), hx⟩
 ·obtain ⟨u, hu⟩ := exists_aget (l := cs) (k := k) (by have := (List.getElem?_eq_some_iff.1 hk).1; omega)
  rw [add_lit, cell_of_row w' b _ cs T (0, 0) hb, Nat.zero_add, hu]; rfl
 ·obtain ⟨u, hu⟩ := exists_aget (l := cs) (k := k) (by have := (List.getElem?_eq_some_iff.1 hk).1; omega)
  rw [hu]
  exact (hvi k d u hk hu).mono fun x _ hx' => ⟨rfl, fun h3 => hx' (.inl h3)⟩
theorem R.fresh {G : Cx} {L : Nat → Option Nat} {σ : Nat → DV} {h : Heap} {a : Act} {w w' : World} (hR : R G L σ h a w) {o b : Nat} (hlo : tyNo o) (ho : h o = none) (hbn : w.heap.size ≤ b) {cells : List DV} {cs : Array Value} {T : TypeId}
  (hb : w'.heap[b]? = some (.cells cs T (0, 0))) (hl : cells.length ≤ cs.size) (hx : Ext (fun _ => False) w w')
  (hv : ∀ (k : Nat) d v, cells[k]? = some d → cs[k]? = some v → VI w' (fun x => Av G.S L x ∨ x = b) d v) :
  R G (updL L o (some b)) σ (h.upd o (some cells)) a w' := by
 have hLo := hR.lNone ho
 have hlt : ∀ p x, L p = some x → x < w.heap.size := fun p x hp => hR.heap.lt hp
 have hold : ∀ p x, L p = some x → updL L o (some b) p = some x := fun p x hp => by
  unfold updL; by_cases e : p = o
  ·subst e; rw [hLo] at hp; cases hp
  ·rw [if_neg e]; exact hp
 have hinv : ∀ p x, updL L o (some b) p = some x → (p = o ∧ x = b) ∨ (p ≠ o ∧ L p = some x) := fun p x hp => by
  unfold updL at hp; by_cases e : p = o
  ·rw [if_pos e] at hp; cases hp; exact .inl ⟨e, rfl⟩
  ·rw [if_neg e] at hp; exact .inr ⟨e, hp⟩
 have hAv : ∀ x, Av G.S (updL L o (some b)) x → (Av G.S L x ∨ x = b) := by
  rintro x (h1 | ⟨p, hp⟩)
  ·exact .inl (.inl h1)
  ·rcases hinv p x hp with ⟨_, e⟩ | ⟨_, e⟩
   ·exact .inr e
   ·exact .inl (.inr ⟨p, e⟩)
 have hV : ∀ d v, V w L (Av G.S L) d v → V w' (updL L o (some b)) (Av G.S (updL L o (some b))) d v := by
  intro d v hd
  refine hd.mono (fun x hx' hA => ⟨hx.block x hx' id, fun h1 => ?_⟩) fun p x _ hp => ⟨hold p x hp, shape_of_block (hx.block x (hlt p x hp) id)⟩
  rcases hAv x h1 with h2 | h2
  ·exact hA h2
  ·omega
 refine ⟨hR.size, hR.defers, fun s => hV _ _ (hR.slots s), ⟨?_, ?_, ?_, ?_, fun p x hp => ?_⟩, hR.ext.trans (hx.mono fun _ _ h => h.elim), fun x hx' => Nat.lt_of_lt_of_le (hR.sLt x hx') hx.size, ?_,
  fun p x hp => ⟨hold p x (hR.keep p x hp).1, (hR.keep p x hp).2⟩, fun x hx' => (shape_of_block (hx.block x (Nat.lt_of_lt_of_le hx' hR.ext.size) id)).trans (hR.shp x hx')⟩
 ·intro p x hp
  rcases hinv p x hp with ⟨e, _⟩ | ⟨e, hp'⟩
  ·exact ⟨cells, by simp [Heap.upd, e]⟩
  ·obtain ⟨c, hc⟩ := hR.heap.dom p x hp'
   exact ⟨c, by simp [Heap.upd, e, hc]⟩
 ·intro p c hp
  unfold Heap.upd at hp
  by_cases e : p = o
  ·rw [if_pos e] at hp
   cases hp
   exact .inr ⟨b, cs, T, by simp [updL, e], hb, hl, fun k d v h1 h2 => .imm ((hv k d v h1 h2).mono fun x _ hx' => ⟨rfl, fun h3 => hx' (hAv x h3)⟩)⟩
  ·rw [if_neg e] at hp
   rcases hR.heap.obj p c hp with ⟨h1, h2⟩ | ⟨x, cs', T', hL, hb', hl', hv'⟩
   ·exact .inl ⟨by simp [updL, e, h1], h2⟩
   ·exact .inr ⟨x, cs', T', hold p x hL, (hx.block x (hlt p x hL) id).trans hb', hl', fun k d v h1 h2 => hV _ _ (hv' k d v h1 h2)⟩
 ·intro p q x hp hq
  rcases hinv p x hp with ⟨e1, e2⟩ | ⟨_, hp'⟩ <;> rcases hinv q x hq with ⟨e3, e4⟩ | ⟨_, hq'⟩
  ·rw [e1, e3]
  ·have := hlt q x hq'; omega
  ·have := hlt p x hp'; omega
  ·exact hR.heap.inj p q x hp' hq'
 ·intro p x hp hS
  rcases hinv p x hp with ⟨_, e⟩ | ⟨_, hp'⟩
  ·have := hR.sLt x hS; omega
  ·exact hR.heap.notS p x hp' hS
 ·rcases hinv p x hp with ⟨e, _⟩ | ⟨_, hp'⟩
  ·subst e; exact hlo.ok w' x
  ·exact (hR.heap.ty p x hp').imm_shape (shape_of_block (hx.block x (hlt p x hp') id))
 ·intro p x hp
  rcases hinv p x hp with ⟨_, e⟩ | ⟨_, hp'⟩
  ·exact .inr (by have := hR.ext.size; omega)
  ·exact hR.own p x hp'
theorem callC_fresh {F : FnD} {os : List DOper} {dst : Dst} {f : Nat} {ds : List DV} {te fr : Fr} {H : Hp} {K : Fr → Fr → Hp → Prop} (hp : F.pure = false) (o : Nat) {sz n : Nat} {xs : List DV}
  (ho : lkH H o = none) (hrf : ds.all DV.rf = true) (hc : FCalls F.P f ds sz n xs)
  (hK : regW F os (dst.onT te (.osl sz o 0 n)) (dst.onX fr (.osl sz o 0 n)) (setH H o xs) K) (hlo : tyNo o := by decide) : callC F os dst f ds te fr H K := by
 refine callC_W hp ?_
 intro G L a w us hG hR hs hv
 have hA : ∀ b, Av G.S L b → b < w.heap.size := by
  rintro b (h | ⟨o, h⟩)
  ·exact hR.sLt b h
  ·exact hR.heap.lt h
 refine (hc (Av G.S L) w us (hG.tab hR) hA hs fun k d v h1 h2 => (hv k d v h1 h2).rf_imm (List.all_eq_true.1 hrf d (List.mem_of_getElem? h1))).mono ?_
 rintro e w' ⟨b, c, cs, T, rfl, hbn, hnc, hcs, hb, hl, hvi, hx⟩
 refine ⟨_, updL L o (some b), .osl sz o 0 n, te, fr, setH H o xs, rfl, ?_, .osl (T := T) (m := cs.size) (by simp [updL]) hnc (by simp [World.shape?, hb]) (by omega), SimK.refl _, hK⟩
 have := hR.fresh hlo ho hbn hb hl hx hvi
 rw [show lkH (setH H o xs) = Heap.upd (lkH H) o (some xs) from funext fun p => by rw [lkH_setH]; rfl]
 exact this
section
variable {F : FnD} {os : List DOper} {dst : Dst} {te fr : Fr} {H : Hp} {K : Fr → Fr → Hp → Prop}
theorem goW_mkf (f : Nat) (ps : List Opd) : goW F os dst te fr H K (.mkf f ps) = stepW F os dst te fr H K (opE F.nb dst.slot (ev te fr) (lkH H) (.mkf f ps)) := rfl
theorem goW_boxi (x : Opd) : goW F os dst te fr H K (.boxi x) = stepW F os dst te fr H K (opE F.nb dst.slot (ev te fr) (lkH H) (.boxi x)) := rfl
theorem goW_appi (sz bytes : Nat) (x : Opd) : goW F os dst te fr H K (.appi sz bytes x) = stepW F os dst te fr H K (opE F.nb dst.slot (ev te fr) (lkH H) (.appi sz bytes x)) := rfl
theorem goW_lde (x : Opd) : goW F os dst te fr H K (.lde x) = stepW F os dst te fr H K (opE F.nb dst.slot (ev te fr) (lkH H) (.lde x)) := rfl
theorem goW_ldne (n : Nat) (x : Opd) : goW F os dst te fr H K (.ldne n x) = stepW F os dst te fr H K (opE F.nb dst.slot (ev te fr) (lkH H) (.ldne n x)) := rfl
theorem goW_slc3 (sz : Nat) (x : Opd) (lo : Option Opd) (hi mx : Opd) : goW F os dst te fr H K (.slc3 sz x lo hi mx) = stepW F os dst te fr H K (opE F.nb dst.slot (ev te fr) (lkH H) (.slc3 sz x lo hi mx)) := rfl
theorem goW_clr (sz : Nat) (z : List DV) (x : Opd) : goW F os dst te fr H K (.clr sz z x) = stepW F os dst te fr H K (opE F.nb dst.slot (ev te fr) (lkH H) (.clr sz z x)) := rfl
theorem goW_isnil (neg : Bool) (x : Opd) : goW F os dst te fr H K (.isnil neg x) = stepW F os dst te fr H K (opE F.nb dst.slot (ev te fr) (lkH H) (.isnil neg x)) := rfl
theorem goW_ldr (x : Opd) : goW F os dst te fr H K (.ldr x) = stepW F os dst te fr H K (opE F.nb dst.slot (ev te fr) (lkH H) (.ldr x)) := rfl
theorem goW_ldnr (n : Nat) (x : Opd) : goW F os dst te fr H K (.ldnr n x) = stepW F os dst te fr H K (opE F.nb dst.slot (ev te fr) (lkH H) (.ldnr n x)) := rfl
end
theorem purge_clo {o : Nat} (f : Nat) (cs : List DV) : purge o (.clo f cs) = .clo f cs := rfl
theorem frz_clo {o : Nat} {cells : List DV} (f : Nat) (cs : List DV) : frz o cells (.clo f cs) = .clo f cs := rfl
theorem cN : type_of% (And.intro @goW_mkf (And.intro @goW_boxi (And.intro @goW_appi (And.intro @goW_lde (And.intro @goW_ldne (And.intro @goW_slc3 (And.intro @goW_clr (And.intro @goW_isnil (And.intro @goW_ldr (And.intro @goW_ldnr (And.intro @purge_clo (And.intro @frz_clo (And.intro @frz_el (And.intro @purge_el (And.intro (@List.take_succ_cons.{0} DOper) (And.intro (@List.drop_succ_cons.{0} DOper) (And.intro (@List.take_zero.{0} DOper) (@List.drop_zero.{0} DOper)))))))))))))))))) :=
 And.intro @goW_mkf (And.intro @goW_boxi (And.intro @goW_appi (And.intro @goW_lde (And.intro @goW_ldne (And.intro @goW_slc3 (And.intro @goW_clr (And.intro @goW_isnil (And.intro @goW_ldr (And.intro @goW_ldnr (And.intro @purge_clo (And.intro @frz_clo (And.intro @frz_el (And.intro @purge_el (And.intro (@List.take_succ_cons.{0} DOper) (And.intro (@List.drop_succ_cons.{0} DOper) (And.intro (@List.take_zero.{0} DOper) (@List.drop_zero.{0} DOper)))))))))))))))))
end Go.Dat
namespace Go.Dat
theorem zD {p q : Prop} (h : q) (e : Hid q → p := by (intro hq; simp (maxSteps := 1000000) (disch := omega) only [cA, cB, cN, FnD.nb, lk, lkH, Dst.onT, Dst.onX, Dst.slot, setF, setH, mapF, mapH, initF, binE, unE, cnt, boundE, newsE, freshE, freshT, opE, rmH, blkQ, frz_us, Nat.reduceEqDiff, Nat.reduceLT, Nat.reduceAdd, Nat.reduceMul, Nat.reduceMod, ↓reduceIte, reduceCtorEq, Nat.reduceLeDiff]; exact hq.out)) : p := e ⟨h⟩
theorem zE {X p q : Prop} (x : X) (h : q) (e : Hid X → Hid q → p := by (intro zx hq; simp (maxSteps := 1000000) (disch := omega) only [cA, cB, cN, FnD.nb, lk, lkH, Dst.onT, Dst.onX, Dst.slot, setF, setH, mapF, mapH, initF, binE, unE, cnt, boundE, newsE, freshE, freshT, opE, rmH, blkQ, frz_us, Nat.reduceEqDiff, Nat.reduceLT, Nat.reduceAdd, Nat.reduceMul, Nat.reduceMod, ↓reduceIte, reduceCtorEq, Nat.reduceLeDiff, zx.out]; exact hq.out)) : p := e ⟨x⟩ ⟨h⟩
theorem zR {p q : Prop} (h : q) (e : Hid q → p := by (intro hq; (repeat (first | refine W_seq ?_ | refine W_reg ?_ | refine W_regd ?_ | refine W_regs ?_ | refine W_regp ?_ | refine W_block ?_ | refine And.intro (by omega) ?_ | simp (maxSteps := 1000000) (disch := omega) only [cA, cB, cN, FnD.nb, lk, lkH, Dst.onT, Dst.onX, Dst.slot, setF, setH, mapF, mapH, initF, binE, unE, cnt, boundE, newsE, freshE, freshT, opE, rmH, blkQ, frz_us, Nat.reduceEqDiff, Nat.reduceLT, Nat.reduceAdd, Nat.reduceMul, Nat.reduceMod, ↓reduceIte, reduceCtorEq, Nat.reduceLeDiff])); exact hq.out)) : p := e ⟨h⟩
theorem zS {X p q : Prop} (x : X) (h : q) (e : Hid X → Hid q → p := by (intro zx hq; (repeat (first | refine W_seq ?_ | refine W_reg ?_ | refine W_regd ?_ | refine W_regs ?_ | refine W_regp ?_ | refine W_block ?_ | refine And.intro (by omega) ?_ | simp (maxSteps := 1000000) (disch := omega) only [cA, cB, cN, FnD.nb, lk, lkH, Dst.onT, Dst.onX, Dst.slot, setF, setH, mapF, mapH, initF, binE, unE, cnt, boundE, newsE, freshE, freshT, opE, rmH, blkQ, frz_us, Nat.reduceEqDiff, Nat.reduceLT, Nat.reduceAdd, Nat.reduceMul, Nat.reduceMod, ↓reduceIte, reduceCtorEq, Nat.reduceLeDiff, zx.out])); exact hq.out)) : p := e ⟨x⟩ ⟨h⟩
theorem zP {p q : Prop} (h : q) (e : Hid q → p := by (intro hq; (first | refine W_seq ?_ | refine W_reg ?_ | refine W_regd ?_ | refine W_regs ?_ | refine W_regp ?_ | refine W_block ?_ | refine And.intro (by omega) ?_ | simp (maxSteps := 1000000) (disch := omega) only [cA, cB, cN, FnD.nb, lk, lkH, Dst.onT, Dst.onX, Dst.slot, setF, setH, mapF, mapH, initF, binE, unE, cnt, boundE, newsE, freshE, freshT, opE, rmH, blkQ, frz_us, Nat.reduceEqDiff, Nat.reduceLT, Nat.reduceAdd, Nat.reduceMul, Nat.reduceMod, ↓reduceIte, reduceCtorEq, Nat.reduceLeDiff]); (repeat (first | refine W_seq ?_ | refine W_reg ?_ | refine W_regd ?_ | refine W_regs ?_ | refine W_regp ?_ | refine W_block ?_ | refine And.intro (by omega) ?_ | simp (maxSteps := 1000000) (disch := omega) only [cA, cB, cN, FnD.nb, lk, lkH, Dst.onT, Dst.onX, Dst.slot, setF, setH, mapF, mapH, initF, binE, unE, cnt, boundE, newsE, freshE, freshT, opE, rmH, blkQ, frz_us, Nat.reduceEqDiff, Nat.reduceLT, Nat.reduceAdd, Nat.reduceMul, Nat.reduceMod, ↓reduceIte, reduceCtorEq, Nat.reduceLeDiff])); exact hq.out)) : p := e ⟨h⟩
theorem zQ {X p q : Prop} (x : X) (h : q) (e : Hid X → Hid q → p := by (intro zx hq; (first | refine W_seq ?_ | refine W_reg ?_ | refine W_regd ?_ | refine W_regs ?_ | refine W_regp ?_ | refine W_block ?_ | refine And.intro (by omega) ?_ | simp (maxSteps := 1000000) (disch := omega) only [cA, cB, cN, FnD.nb, lk, lkH, Dst.onT, Dst.onX, Dst.slot, setF, setH, mapF, mapH, initF, binE, unE, cnt, boundE, newsE, freshE, freshT, opE, rmH, blkQ, frz_us, Nat.reduceEqDiff, Nat.reduceLT, Nat.reduceAdd, Nat.reduceMul, Nat.reduceMod, ↓reduceIte, reduceCtorEq, Nat.reduceLeDiff, zx.out]); (repeat (first | refine W_seq ?_ | refine W_reg ?_ | refine W_regd ?_ | refine W_regs ?_ | refine W_regp ?_ | refine W_block ?_ | refine And.intro (by omega) ?_ | simp (maxSteps := 1000000) (disch := omega) only [cA, cB, cN, FnD.nb, lk, lkH, Dst.onT, Dst.onX, Dst.slot, setF, setH, mapF, mapH, initF, binE, unE, cnt, boundE, newsE, freshE, freshT, opE, rmH, blkQ, frz_us, Nat.reduceEqDiff, Nat.reduceLT, Nat.reduceAdd, Nat.reduceMul, Nat.reduceMod, ↓reduceIte, reduceCtorEq, Nat.reduceLeDiff, zx.out])); exact hq.out)) : p := e ⟨x⟩ ⟨h⟩
theorem zT {p : Prop} (e : p := by (first | exact W_ret (RetP_1 (.imm rfl)) | exact W_ret (RetP_c rfl rfl rfl (.imm rfl)))) : p := e
theorem cI : (False → False) = True := eq_true id
theorem zA {a b : Prop} (x : a) (y : b) : a ∧ b := ⟨x, y⟩
theorem wT {F : FnD} {Q : Ex → Fr → Hp → Prop} {fr : Fr} {H : Hp} {c : Opd} {x y : DC} (h : W F x Q fr H) (hc : ev [] fr c = .bool true := by rfl) : W F (.cond c x y) Q fr H := W_cond hc (fun _ => h) (fun e => by cases e)
theorem wF {F : FnD} {Q : Ex → Fr → Hp → Prop} {fr : Fr} {H : Hp} {c : Opd} {x y : DC} (h : W F y Q fr H) (hc : ev [] fr c = .bool false := by rfl) : W F (.cond c x y) Q fr H := W_cond hc (fun e => by cases e) (fun _ => h)
theorem wTs {F : FnD} {Q : Ex → Fr → Hp → Prop} {fr : Fr} {H : Hp} {c : Opd} {y : DC} (h : Q .norm fr H) (hc : ev [] fr c = .bool true := by rfl) : W F (.cond c .skip y) Q fr H := wT (W_skip h) hc
theorem wFs {F : FnD} {Q : Ex → Fr → Hp → Prop} {fr : Fr} {H : Hp} {c : Opd} {x : DC} (h : Q .norm fr H) (hc : ev [] fr c = .bool false := by rfl) : W F (.cond c x .skip) Q fr H := wF (W_skip h) hc
theorem cP {F : FnD} {os : List DOper} {dst : Dst} {f : Nat} {ds : List DV} {te fr : Fr} {H : Hp} {K : Fr → Fr → Hp → Prop} {r : DV} (hc : PCalls F.P f ds r) (hK : regW F os (dst.onT te r) (dst.onX fr r) H K) (hrf : ds.all DV.rf = true := by rfl) : callC F os dst f ds te fr H K := callC_pure hc hrf hK
end Go.Dat
namespace Go.Dat
open Go
abbrev om (k j : Nat) : DOper := ⟨.t k, .mv (.x j), none⟩
abbrev ow (k j : Nat) : DOper := ⟨.x k, .mv (.t j), none⟩
abbrev ot (k : Nat) (p : DOp) : DOper := ⟨.t k, p, none⟩
abbrev ox (k : Nat) (p : DOp) : DOper := ⟨.x k, p, none⟩
abbrev on (p : DOp) : DOper := ⟨.no, p, none⟩
abbrev oi (n : Int) : Opd := .c (.int .i64 n)
abbrev og (k : Nat) (p : DOp) (j : Nat) (b : Bool) : DOper := ⟨.t k, p, some (.t j, b)⟩
theorem IsFn.k {F : FnD} {f : Nat} {c : DC} {rv : List RV} {fn : Func} {code : Code} (h : F.P.funcs[f]? = some fn) (hb : fn.body = some code)
  (e : (fn.ntmps, strip F.P F.vs F.own F.n code, sRess F.P fn.results.toList, resVs F.vs fn.results.toList) = (F.n, c, some rv, true)) : IsFn F f c rv := by
 simp only [Prod.mk.injEq] at e
 exact ⟨fn, code, h, hb, e.1, e.2.1, e.2.2.1, e.2.2.2⟩
end Go.Dat
namespace Go.Dat
open Go Go.RowKit
theorem VI_of_ownsRow {w' : World} {A : Nat → Prop} {base n sz : Nat} {e : TypeId} {v' : Value} {vs : List Value} {xs : List DV} (hsz : sz ≠ 0) (hA : ∀ b, A b → b < base) (h : w'.ownsRow base e sz v' n vs) (hl : xs.length = n * sz)
  (hvi : ∀ (k : Nat) d u, xs[k]? = some d → vs[k]? = some u → VI w' A d u) : VI w' A (.sl sz xs) v' := by
 obtain ⟨hvl, ⟨rfl, rfl⟩ | ⟨g, cap, cur, rfl, hg, hb, hnc, hcm, hcs, htk⟩⟩ := h
 ·have : xs = [] := List.eq_nil_of_length_eq_zero (by simpa using hl)
  subst this
  exact .sl0 _ _ _
 ·by_cases h0 : xs = []
  ·subst h0
   have hn : n = 0 := by
    rcases Nat.eq_zero_or_pos n with e | e
    ·exact e
    ·have := Nat.mul_pos e (Nat.pos_of_ne_zero hsz); simp at hl; omega
   subst hn
   exact .sl0 _ _ _
  ·have hle : n * sz ≤ cur.size := by rw [hcs]; exact Nat.mul_le_mul_right _ hnc
   have hget : ∀ (k : Nat) d, xs[k]? = some d → ∃ u, cur[k]? = some u ∧ VI w' A d u := by
    intro k d hk
    have hlt : k < n * sz := by have := (List.getElem?_eq_some_iff.1 hk).1; omega
    obtain ⟨u, hu⟩ := exists_aget (l := cur) (k := k) (by omega)
    refine ⟨u, hu, hvi k d u hk ?_⟩
    rw [← htk, List.getElem?_take, if_pos hlt]; simpa using hu
   refine .sl (ad := ⟨g, 0, none⟩) (fun k => (cur[k]?).getD Go.undef) h0 hl hnc (fun h => absurd (hA g h) (by omega)) (fun k d hk => ?_) (fun k d hk => ?_)
   ·obtain ⟨u, hu, _⟩ := hget k d hk
    rw [add_lit, Nat.zero_add, cell_of_row w' g _ cur e (0, 0) hb, hu]; rfl
   ·obtain ⟨u, hu, hv⟩ := hget k d hk
    rw [hu]; exact hv
theorem Ext_of_below {w w' : World} (h : Below w.heap.size w w') : Ext (fun _ => False) w w' := ⟨h.os, h.tape, h.output, h.size, fun k hk _ => h.block k hk⟩
end Go.Dat
namespace Go.Dat
open Go
theorem R.weaker {G : Cx} {L : Nat → Option Nat} {σ σ' : Nat → DV} {h : Heap} {a : Act} {w : World} (hR : R G L σ h a w) (hs : ∀ s v, V w L (Av G.S L) (σ s) v → V w L (Av G.S L) (σ' s) v) : R G L σ' h a w :=
 { hR with slots := fun s => hs s _ (hR.slots s) }
theorem W_nil {F : FnD} {c : DC} {Q : Ex → Fr → Hp → Prop} {fr : Fr} {H : Hp} (k sz : Nat) (hk : lk fr k = .nils) (h : W F c Q (setF fr k (.sl sz [])) H) : W F c Q fr H := by
 intro code hc G L a w hn hR
 refine h code hc G L a w hn (hR.weaker fun s v hv => ?_)
 simp only [den] at hv ⊢
 split
 ·rename_i hs
  rw [if_pos hs] at hv
  rw [lk_setF]
  split
  ·rename_i e
   rw [e, hk] at hv
   rw [hv.inv_nils]
   exact .imm (.sl0 _ _ _)
  ·exact hv
 ·rename_i hs
  rw [if_neg hs] at hv
  exact hv
def nz (sz : Nat) : DV → DV
 | .nils => .sl sz []
 | d => d
theorem cells_bool (b : Bool) : (DV.bool b).cells? = some [.bool b] := rfl
theorem cells_sl (s : Nat) (xs : List DV) : (DV.sl s xs).cells? = some [.sl s xs] := rfl
theorem cells_nils : DV.nils.cells? = some [.nils] := rfl
theorem cells_str (l : List UInt8) : (DV.str l).cells? = some [.str l] := rfl
theorem cells_agg (cs : List DV) : (DV.agg cs).cells? = if cs.all DV.one then some cs else none := rfl
theorem all_nil : ([] : List DV).all DV.one = true := rfl
theorem all_cons (d : DV) (r : List DV) : (d :: r).all DV.one = (d.one && r.all DV.one) := rfl
theorem one_bool (b : Bool) : (DV.bool b).one = true := rfl
theorem one_sl (s : Nat) (xs : List DV) : (DV.sl s xs).one = true := rfl
theorem one_nils : DV.nils.one = true := rfl
theorem one_str (l : List UInt8) : (DV.str l).one = true := rfl
theorem one_ptr (o f : Nat) : (DV.ptr o f).one = true := rfl
theorem one_osl (s o f l : Nat) : (DV.osl s o f l).one = true := rfl
theorem laid_bool {cells : List DV} {off : Nat} (b : Bool) (r : List (Nat × Nat × DV)) : laid cells ((off, 1, .bool b) :: r) = if off + 1 ≤ cells.length then laid (cells.set off (.bool b)) r else none := by simp [laid, cells_bool, spl]
theorem laid_sl {cells : List DV} {off : Nat} (s : Nat) (xs : List DV) (r : List (Nat × Nat × DV)) : laid cells ((off, 1, .sl s xs) :: r) = if off + 1 ≤ cells.length then laid (cells.set off (.sl s xs)) r else none := by simp [laid, cells_sl, spl]
theorem laid_nils {cells : List DV} {off : Nat} (r : List (Nat × Nat × DV)) : laid cells ((off, 1, .nils) :: r) = if off + 1 ≤ cells.length then laid (cells.set off .nils) r else none := by simp [laid, cells_nils, spl]
theorem laid_str {cells : List DV} {off : Nat} (l : List UInt8) (r : List (Nat × Nat × DV)) : laid cells ((off, 1, .str l) :: r) = if off + 1 ≤ cells.length then laid (cells.set off (.str l)) r else none := by simp [laid, cells_str, spl]
theorem laid_agg2 {cells : List DV} {off : Nat} (a b : DV) (r : List (Nat × Nat × DV)) (ha : a.one = true) (hb : b.one = true) : laid cells ((off, 2, .agg [a, b]) :: r) = if off + 2 ≤ cells.length then laid (cells.take off ++ [a, b] ++ cells.drop (off + 2)) r else none := by simp [laid, DV.cells?, ha, hb, spl]
theorem take_cons {α : Type} (n : Nat) (x : α) (l : List α) : (x :: l).take (n + 1) = x :: l.take n := rfl
theorem drop_cons {α : Type} (n : Nat) (x : α) (l : List α) : (x :: l).drop (n + 1) = l.drop n := rfl
theorem cS : type_of% (And.intro @cells_bool (And.intro @cells_sl (And.intro @cells_nils (And.intro @cells_str (And.intro @cells_agg (And.intro @all_nil (And.intro @all_cons (And.intro @one_bool (And.intro @one_sl (And.intro @one_nils (And.intro @one_str (And.intro @one_ptr (And.intro @one_osl (And.intro @laid_bool (And.intro @laid_sl (And.intro @laid_nils (And.intro @laid_str (And.intro @laid_agg2 (And.intro (@take_cons DV) (And.intro (@drop_cons DV) (And.intro @List.take_zero.{0} (And.intro @List.drop_zero.{0} (And.intro @List.take_nil.{0} (And.intro @List.drop_nil.{0} (And.intro @List.nil_append.{0} (And.intro @List.cons_append.{0} (And.intro @List.append_nil.{0} (And.intro @Bool.and_self @Bool.and_true)))))))))))))))))))))))))))) :=
 And.intro @cells_bool (And.intro @cells_sl (And.intro @cells_nils (And.intro @cells_str (And.intro @cells_agg (And.intro @all_nil (And.intro @all_cons (And.intro @one_bool (And.intro @one_sl (And.intro @one_nils (And.intro @one_str (And.intro @one_ptr (And.intro @one_osl (And.intro @laid_bool (And.intro @laid_sl (And.intro @laid_nils (And.intro @laid_str (And.intro @laid_agg2 (And.intro (@take_cons DV) (And.intro (@drop_cons DV) (And.intro @List.take_zero.{0} (And.intro @List.drop_zero.{0} (And.intro @List.take_nil.{0} (And.intro @List.drop_nil.{0} (And.intro @List.nil_append.{0} (And.intro @List.cons_append.{0} (And.intro @List.append_nil.{0} (And.intro @Bool.and_self @Bool.and_true)))))))))))))))))))))))))))
theorem Exp_bn {h : Heap} (b : Bool) (sz : Nat) : Exp h (.agg [.bool b, .nils]) (.agg [.bool b, .sl sz []]) := .agg rfl fun k d r h1 h2 => by
 match k with
 | 0 => simp at h1 h2; subst h1; subst h2; exact .imm rfl
 | 1 => simp at h1 h2; subst h1; subst h2; exact .nils sz
 | k + 2 => simp at h1
theorem PCalls_nz {P : Program} {f : Nat} {ds : List DV} {r : DV} (sz : Nat) (hc : PCalls P f (ds.map (nz sz)) r) : PCalls P f ds r := by
 intro A w us hT hA hs hv
 refine hc A w us hT hA (by simpa using hs) fun k d v h1 h2 => ?_
 rw [List.getElem?_map, Option.map_eq_some_iff] at h1
 obtain ⟨d0, hd0, rfl⟩ := h1
 have := hv k d0 v hd0 h2
 cases d0 <;> first | exact this | (cases this; exact .sl0 _ _ _)
theorem RetP_cct {n m j k i o p : Nat} {r s t : DV} {fr : Fr} {H : Hp} {cs cs2 : List DV} (h1 : lk fr j = .ptr o 0) (h2 : lkH H o = some cs) (h3 : cs.length = n) (h4 : lk fr k = .ptr p 0) (h5 : lkH H p = some cs2) (h6 : cs2.length = m)
  (e1 : Exp (lkH H) (.agg cs) r) (e2 : Exp (lkH H) (.agg cs2) s) (e3 : Exp (lkH H) (lk fr i) t) : RetP [.cn n j, .cn m k, .t i] (.tup [r, s, t]) .ret fr H := by
 refine ⟨.inr rfl, [.agg cs, .agg cs2, lk fr i], ?_, ?_⟩
 ·simp [resDs, resD1, h1, h2, h3, h4, h5, h6, List.take_of_length_le (Nat.le_of_eq h3), List.take_of_length_le (Nat.le_of_eq h6)]
 ·exact .tup rfl fun q d x hd hx => by
   match q with
   | 0 => simp at hd hx; subst hd; subst hx; exact e1
   | 1 => simp at hd hx; subst hd; subst hx; exact e2
   | 2 => simp at hd hx; subst hd; subst hx; exact e3
   | q + 3 => simp at hd
end Go.Dat
namespace Go.Dat
open Go Go.RowKit
def strs (ls : List (List UInt8)) : List DV := ls.map DV.str
theorem Holds1.str {w : World} {S : Nat → Prop} {b : Nat} {ls : List (List UInt8)} (h : Holds1 w S b (strs ls)) :
  ∃ cs T, w.heap[b]? = some (.cells cs T (0, 0)) ∧ ls.length ≤ cs.size ∧ ∀ (k : Nat) l, ls[k]? = some l → cs[k]? = some (.string ⟨l.toArray⟩) := by
 obtain ⟨cs, T, h1, h2, h3⟩ := h
 refine ⟨cs, T, h1, by simpa [strs] using h2, fun k l hk => ?_⟩
 have hlt := (List.getElem?_eq_some_iff.1 hk).1
 obtain ⟨v, hv⟩ := exists_aget (l := cs) (k := k) (by simp [strs] at h2; omega)
 have := h3 k (.str l) v (by simp [strs, hk]) hv
 cases this
 exact hv
end Go.Dat
namespace Go.Dat
open Go
def nz1 (sz : Nat) : DV → DV
 | .nils => .sl sz []
 | .agg cs => .agg (cs.map (nz sz))
 | d => d
theorem VI_nz {w : World} {A : Nat → Prop} {d : DV} {v : Value} (sz : Nat) (h : VI w A d v) : VI w A (nz sz d) v := by
 cases d <;> first | exact h | (cases h; exact .sl0 _ _ _)
theorem PCalls_nz1 {P : Program} {f : Nat} {ds : List DV} {r : DV} (sz : Nat) (hc : PCalls P f (ds.map (nz1 sz)) r) : PCalls P f ds r := by
 intro A w us hT hA hs hv
 refine hc A w us hT hA (by simpa using hs) fun k d v h1 h2 => ?_
 rw [List.getElem?_map, Option.map_eq_some_iff] at h1
 obtain ⟨d0, hd0, rfl⟩ := h1
 have := hv k d0 v hd0 h2
 cases d0 with
 | nils => cases this; exact .sl0 _ _ _
 | agg cs =>
  cases this with
  | agg hl h =>
   refine .agg (by simpa using hl) fun j e u h3 h4 => ?_
   rw [List.getElem?_map, Option.map_eq_some_iff] at h3
   obtain ⟨e0, he0, rfl⟩ := h3
   exact VI_nz sz (h j e0 u he0 h4)
 | _ => exact this
theorem Exp_bsn {h : Heap} (b : Bool) (sz s : Nat) (xs : List DV) (hx : (DV.sl s xs).rf = true) : Exp h (.agg [.bool b, .sl s xs, .nils]) (.agg [.bool b, .sl s xs, .sl sz []]) := .agg rfl fun k d r h1 h2 => by
 match k with
 | 0 => simp at h1 h2; subst h1; subst h2; exact .imm rfl
 | 1 => simp at h1 h2; subst h1; subst h2; exact .imm hx
 | 2 => simp at h1 h2; subst h1; subst h2; exact .nils sz
 | k + 3 => simp at h1
theorem Exp_bnn {h : Heap} (b : Bool) (sz s : Nat) : Exp h (.agg [.bool b, .nils, .nils]) (.agg [.bool b, .sl sz [], .sl s []]) := .agg rfl fun k d r h1 h2 => by
 match k with
 | 0 => simp at h1 h2; subst h1; subst h2; exact .imm rfl
 | 1 => simp at h1 h2; subst h1; subst h2; exact .nils sz
 | 2 => simp at h1 h2; subst h1; subst h2; exact .nils s
 | k + 3 => simp at h1
theorem laid_abs {cells : List DV} {off : Nat} (b : Bool) (s : Nat) (xs : List DV) (r : List (Nat × Nat × DV)) : laid cells ((off, 2, .agg [.bool b, .sl s xs]) :: r) = if off + 2 ≤ cells.length then laid (cells.take off ++ [.bool b, .sl s xs] ++ cells.drop (off + 2)) r else none := laid_agg2 _ _ _ rfl rfl
theorem laid_abn {cells : List DV} {off : Nat} (b : Bool) (r : List (Nat × Nat × DV)) : laid cells ((off, 2, .agg [.bool b, .nils]) :: r) = if off + 2 ≤ cells.length then laid (cells.take off ++ [.bool b, .nils] ++ cells.drop (off + 2)) r else none := laid_agg2 _ _ _ rfl rfl
theorem cT : type_of% (And.intro @laid_abs @laid_abn) := And.intro @laid_abs @laid_abn
theorem RetP_ct {n j k o : Nat} {r s : DV} {fr : Fr} {H : Hp} {cs : List DV} (h1 : lk fr j = .ptr o 0) (h2 : lkH H o = some cs) (h3 : cs.length = n)
  (e1 : Exp (lkH H) (.agg cs) r) (e2 : Exp (lkH H) (lk fr k) s) : RetP [.cn n j, .t k] (.tup [r, s]) .ret fr H := by
 refine ⟨.inr rfl, [.agg cs, lk fr k], ?_, ?_⟩
 ·simp [resDs, resD1, h1, h2, h3, List.take_of_length_le (Nat.le_of_eq h3)]
 ·exact .tup rfl fun q d x hd hx => by
   match q with
   | 0 => simp at hd hx; subst hd; subst hx; exact e1
   | 1 => simp at hd hx; subst hd; subst hx; exact e2
   | q + 2 => simp at hd
mutual
def rn (f : Nat → Option Nat) : DV → DV
 | .ptr o off => match f o with | some p => .ptr p off | none => .undef
 | .osl sz o off n => match f o with | some p => .osl sz p off n | none => .undef
 | .agg cs => .agg (rnL f cs)
 | .tup cs => .tup (rnL f cs)
 | d => d
def rnL (f : Nat → Option Nat) : List DV → List DV
 | [] => []
 | d :: r => rn f d :: rnL f r
end
theorem rn_sim (f : Nat → Option Nat) (d : DV) (h : d.sim = true) : rn f d = d := by cases d <;> first | (cases h; done) | simp only [rn]
theorem rnL_map (f : Nat → Option Nat) : ∀ cs : List DV, rnL f cs = cs.map (rn f)
 | [] => rfl
 | d :: r => by simp [rnL, rnL_map f r]
theorem rn_undef (f : Nat → Option Nat) : rn f .undef = .undef := by unfold rn; rfl
theorem VI.rf {w : World} {A : Nat → Prop} {d : DV} {v : Value} (h : VI w A d v) : d.rf = true := by
 induction h with
 | @agg cs vs hl _ ih =>
  rw [DV.rf_agg, List.all_eq_true]
  intro d hd
  obtain ⟨k, hk⟩ := List.mem_iff_getElem?.1 hd
  obtain ⟨v, hv⟩ := exists_aget (l := vs) (k := k) (by have := (List.getElem?_eq_some_iff.1 hk).1; omega)
  exact ih k d v hk hv
 | @tup cs vs hl _ ih =>
  rw [DV.rf_tup, List.all_eq_true]
  intro d hd
  obtain ⟨k, hk⟩ := List.mem_iff_getElem?.1 hd
  obtain ⟨v, hv⟩ := exists_aget (l := vs) (k := k) (by have := (List.getElem?_eq_some_iff.1 hk).1; omega)
  exact ih k d v hk hv
 | _ => rfl
mutual
theorem rn_rf (f : Nat → Option Nat) : ∀ d : DV, d.rf = true → rn f d = d
 | .ptr o off, h => by simp [DV.rf] at h
 | .osl sz o off n, h => by simp [DV.rf] at h
 | .agg cs, h => by rw [DV.rf] at h; rw [rn, rnL_rf f cs h]
 | .tup cs, h => by rw [DV.rf] at h; rw [rn, rnL_rf f cs h]
 | .undef, _ => by rw [rn] <;> (intros; contradiction)
 | .int .., _ => by rw [rn] <;> (intros; contradiction)
 | .bool _, _ => by rw [rn] <;> (intros; contradiction)
 | .str _, _ => by rw [rn] <;> (intros; contradiction)
 | .nilp, _ => by rw [rn] <;> (intros; contradiction)
 | .nils, _ => by rw [rn] <;> (intros; contradiction)
 | .nili, _ => by rw [rn] <;> (intros; contradiction)
 | .fn _, _ => by rw [rn] <;> (intros; contradiction)
 | .sl .., _ => by rw [rn] <;> (intros; contradiction)
 | .el .., _ => by rw [rn] <;> (intros; contradiction)
 | .iface .., _ => by rw [rn] <;> (intros; contradiction)
 | .clo .., _ => by rw [rn] <;> (intros; contradiction)
 | .raw .., _ => by rw [rn] <;> (intros; contradiction)
theorem rnL_rf (f : Nat → Option Nat) : ∀ cs : List DV, DV.rfL cs = true → rnL f cs = cs
 | [], _ => rfl
 | d :: r, h => by
  rw [DV.rfL, Bool.and_eq_true] at h
  rw [rnL, rn_rf f d h.1, rnL_rf f r h.2]
end
theorem V.rn {w : World} {L L' : Nat → Option Nat} {A A' : Nat → Prop} (f : Nat → Option Nat) {d : DV} {v : Value} (hA : ∀ b, A' b → A b) (hL : ∀ o p b, f o = some p → L o = some b → L' p = some b)
  (h : V w L A d v) : V w L' A' (Dat.rn f d) v := by
 induction h with
 | imm h =>
  rw [rn_rf f _ h.rf]
  exact .imm (h.mono fun b _ hb => ⟨rfl, fun h' => hb (hA b h')⟩)
 | @ptr o off b h =>
  rw [Dat.rn]
  split
  ·rename_i p hp; exact .ptr (hL _ _ _ hp h)
  ·exact .imm (.undef _)
 | @osl sz o off n c b m T h hc hs hm =>
  rw [Dat.rn]
  split
  ·rename_i p hp; exact .osl (hL _ _ _ hp h) hc hs hm
  ·exact .imm (.undef _)
 | osl0 sz o off =>
  rw [Dat.rn]
  split
  ·exact .osl0 _ _ _
  ·exact .imm (.undef _)
 | agg hl _ ih =>
  rw [Dat.rn, rnL_map]
  refine .agg (by simpa using hl) fun k d v h1 h2 => ?_
  rw [List.getElem?_map, Option.map_eq_some_iff] at h1
  obtain ⟨d0, hd0, rfl⟩ := h1
  exact ih k d0 v hd0 h2
 | tup hl _ ih =>
  rw [Dat.rn, rnL_map]
  refine .tup (by simpa using hl) fun k d v h1 h2 => ?_
  rw [List.getElem?_map, Option.map_eq_some_iff] at h1
  obtain ⟨d0, hd0, rfl⟩ := h1
  exact ih k d0 v hd0 h2
def nmH (H : Hp) (o : Nat) : Option Nat := if (lkH H o).isSome then some o else none
theorem W_own {F : FnD} {c : DC} {Q : Ex → Fr → Hp → Prop} {fr : Fr} {H : Hp} (k sz o : Nat) (hk : lk fr k = .nils) (ho : lkH H o = none) (h : W F c Q (setF fr k (.osl sz o 0 0)) (setH H o []) ) : W F c Q fr H := by
 intro code hc G L a w hn hR
 have hLo := hR.lNone ho
 have hR' : R G L (den F.vs [] (setF fr k (.osl sz o 0 0))) (lkH (setH H o [])) a w := by
  refine { hR with slots := fun s => ?_, heap := ⟨fun p b hp => ?_, fun p c hc => ?_, hR.heap.inj, hR.heap.notS, hR.heap.ty⟩ }
  ·have hv := hR.slots s
   simp only [den] at hv ⊢
   split
   ·rename_i hs
    rw [if_pos hs] at hv
    rw [lk_setF]
    split
    ·rename_i e
     subst e
     rw [hk] at hv
     rw [hv.inv_nils]
     exact .osl0 _ _ _
    ·exact hv
   ·rename_i hs
    rw [if_neg hs] at hv
    exact hv
  ·rw [lkH_setH]
   split
   ·exact ⟨_, rfl⟩
   ·exact hR.heap.dom p b hp
  ·rw [lkH_setH] at hc
   split at hc
   ·rename_i e; subst e; cases hc; exact .inl ⟨hLo, rfl⟩
   ·exact hR.heap.obj p c hc
 exact h code hc G L a w hn hR'
def WC (F : FnD) (code : Code) (Q : Ex → Fr → Hp → Prop) (fr : Fr) (H : Hp) : Prop :=
 ∀ (G : Cx) (L : Nat → Option Nat) (a : Act) (w : World), (∀ o, G.K o = none) → (G.n = F.n ∧ G.ok F.P) → R G L (den F.vs [] fr) (lkH H) a w → code.wp F.P (Post F G Q) a w
theorem WC_of {F : FnD} {code : Code} {c : DC} {Q : Ex → Fr → Hp → Prop} {fr : Fr} {H : Hp} (hc : strip F.P F.vs F.own F.n code = c) (h : W F c Q fr H) : WC F code Q fr H :=
 fun G L a w _ hn hR => h code hc G L a w hn hR
def seqC (F : FnD) (b : Code) (Q : Ex → Fr → Hp → Prop) : Ex → Fr → Hp → Prop
 | .norm, fr, H => WC F b Q fr H
 | e, fr, H => Q e fr H
theorem WC_seq {F : FnD} {x y : Code} {Q : Ex → Fr → Hp → Prop} {fr : Fr} {H : Hp} (h : WC F x (seqC F y Q) fr H) : WC F (.seq x y) Q fr H := by
 intro G L a w hK hn hR
 refine wp_seq (wp_mono (h G L a w hK hn hR) fun e a' w' => ?_)
 rintro ⟨L', fr', H', de, hR', he, hq⟩
 cases e <;> simp only [er, Option.some.injEq, reduceCtorEq] at he
 ·subst he; exact hq G L' a' w' hK hn hR'
 ·subst he; exact ⟨L', fr', H', _, hR', rfl, hq⟩
 ·subst he; exact ⟨L', fr', H', _, hR', rfl, hq⟩
 ·subst he; exact ⟨L', fr', H', _, hR', rfl, hq⟩
theorem PCalls_ofC {F : FnD} {f : Nat} {fn : Func} {code : Code} {rv : List RV} {args : List DV} {r : DV} (hfn : F.P.funcs[f]? = some fn) (hb : fn.body = some code) (hnt : fn.ntmps = F.n)
  (hrv : sRess F.P fn.results.toList = some rv) (hrs : resVs F.vs fn.results.toList = true) (hn : args.length ≤ F.n)
  (h : WC F code (RetP rv r) (initF 0 args) []) : PCalls F.P f args r := by
 intro A w us hT hA hs hv
 refine calls_of_wp hfn hb ?_
 have hR : R ⟨A, w, fun _ => False, F.n, fun _ => none, []⟩ (fun _ => none) (den F.vs [] (initF 0 args)) (lkH []) { tmps := us ++ Array.replicate (fn.ntmps - us.size) undef, defers := [] } w := by
  refine ⟨by simp; omega, rfl, fun s => ?_, ⟨(by intro o b h; cases h), (by intro o c h; cases h), (by intro o p b h; cases h), (by intro o b h; cases h), (by intro o b h; cases h)⟩, Ext.refl _ _, hA, (by intro o b h; cases h), (by intro o b h; cases h), fun _ _ => rfl⟩
  simp only [den, lk]
  split
  ·rw [lk_initF, if_pos (Nat.zero_le _), Nat.sub_zero]
   cases hk : args[s]? with
   | none => rw [List.getD_eq_getElem?_getD, hk]; exact .imm (.undef _)
   | some d =>
    have hlt := (List.getElem?_eq_some_iff.1 hk).1
    obtain ⟨u, hu⟩ := exists_aget (l := us) (k := s) (by omega)
    rw [List.getD_eq_getElem?_getD, hk, Array.getD_eq_getD_getElem?, Array.getElem?_append_left (by omega), hu]
    refine .imm ((hv s d u hk hu).mono fun b _ hb => ⟨rfl, ?_⟩)
    rintro (h1 | ⟨o, h1⟩)
    ·exact hb h1
    ·cases h1
  ·exact .imm (.undef _)
 refine wp_mono (h ⟨A, w, fun _ => False, F.n, fun _ => none, []⟩ _ _ _ (fun _ => rfl) ⟨rfl, hT, fun _ h => False.elim h⟩ hR) fun e a' w' => ?_
 rintro ⟨L, fr, H, de, hR', he, hde, ds, hds, hexp⟩
 obtain ⟨v, hrun, hV⟩ := results_run (P := F.P) fn hR' hrv hds hrs
 have hvi := hexp.VI hR'.heap hV
 have hfin : ∃ u, Ending.returned v = .returned u ∧ VI w' A r u ∧ Ext (fun _ => False) w w' := ⟨v, rfl, hvi, hR'.ext⟩
 cases e <;> simp only [er, Option.some.injEq, reduceCtorEq] at he
 ·exact ⟨hR'.defers, v, hrun, hfin⟩
 ·subst he; rcases hde with e | e <;> cases e
 ·exact ⟨hR'.defers, v, hrun, hfin⟩
 ·subst he; rcases hde with e | e <;> cases e
theorem R.over {G : Cx} {L : Nat → Option Nat} {σ σ' : Nat → DV} {h : Heap} {a a' : Act} {w w' : World} (hR : R G L σ h a w) (hK : ∀ o, G.K o = none) (hx : Ext (fun _ => False) w w') (hs : a'.tmps.size = G.n) (hd : a'.defers = G.D)
  (hσ : ∀ s, VI w' (Av G.S fun _ => none) (σ' s) (a'.tmps.getD s undef)) : R G (fun _ => none) σ' (lkH []) a' w' := by
 refine ⟨hs, hd, fun s => .imm (hσ s), ⟨(by intro o b h; cases h), (by intro o c h; cases h), (by intro o p b h; cases h), (by intro o b h; cases h), (by intro o b h; cases h)⟩, hR.ext.trans (hx.mono fun _ _ h => h.elim), fun b hb => Nat.lt_of_lt_of_le (hR.sLt b hb) hx.size, (by intro o b h; cases h), fun o b h => (by rw [hK] at h; cases h), fun b hb => ?_⟩
 exact (shape_of_block (hx.block b (Nat.lt_of_lt_of_le hb hR.ext.size) id)).trans (hR.shp b hb)
def MRel (P : Program) (f : Nat) (args : List DV) (H : Hp) (Q : DV → Hp → Prop) : Prop :=
 ∀ (S : Nat → Prop) (L : Nat → Option Nat) (w : World) (us : Array Value), Tab P w → (∀ o b, L o = some b → NotTab P b) → HOK w S L (lkH H) → (∀ x, S x → x < w.heap.size) → us.size = args.length →
  (∀ (k : Nat) d v, args[k]? = some d → us[k]? = some v → V w L (Av S L) d v) →
  Calls P f us w fun e w' => ∃ v L' r H', Q r H' ∧ e = .returned v ∧ HOK w' S L' (lkH H') ∧ V w' L' (Av S L') r v ∧ Ext (fun x => ∃ o, L o = some x) w w' ∧
   (∀ o b, L o = some b → 1048576 ≤ o → L' o = some b) ∧ (∀ o b, L' o = some b → (∃ p, L p = some b) ∨ w.heap.size ≤ b) ∧ (∀ b, b < w.heap.size → w'.shape? b = w.shape? b)
def RetPR (rv : List RV) (H0 : Hp) (Q : DV → Hp → Prop) (e : Ex) (fr : Fr) (H : Hp) : Prop :=
 (e = .norm ∨ e = .ret) ∧ ∃ ds r H', Q r H' ∧ (∀ o, 1048576 ≤ o → (lkH H0 o).isSome = true → (lkH H' o).isSome = true) ∧ resDs fr H rv = some ds ∧ rn (nmH H') (oneOf ds) = r ∧ ∀ o c, lkH H' o = some c → ∃ c0, lkH H o = some c0 ∧ c0.map (rn (nmH H')) = c
theorem MRel_of {F : FnD} {f : Nat} {c : DC} {rv : List RV} {args : List DV} {H : Hp} {Q : DV → Hp → Prop} (hf : IsFn F f c rv) (hn : args.length ≤ F.n)
  (h : W F c (RetPR rv H Q) (initF 0 args) H) : MRel F.P f args H Q := by
 obtain ⟨fn, code, hfn, hb, hnt, hst, hrv, hrs⟩ := hf.ex
 intro S L w us hT hTb hH hA hs hv
 refine calls_of_wp hfn hb ?_
 have hlt : ∀ o b, L o = some b → b < w.heap.size := fun o b ho => hH.lt ho
 have hR : R ⟨S, w, fun x => ∃ o, L o = some x, F.n, fun o => if 1048576 ≤ o then L o else none, []⟩ L (den F.vs [] (initF 0 args)) (lkH H) { tmps := us ++ Array.replicate (fn.ntmps - us.size) undef, defers := [] } w := by
  refine ⟨by simp; omega, rfl, fun s => ?_, hH, Ext.refl _ _, hA, fun o x ho => .inl ⟨o, ho⟩, fun o x ho => ?_, fun _ _ => rfl⟩
  ·simp only [den, lk]
   split
   ·rw [lk_initF, if_pos (Nat.zero_le _), Nat.sub_zero]
    cases hk : args[s]? with
    | none => rw [List.getD_eq_getElem?_getD, hk]; exact .imm (.undef _)
    | some d =>
     have hlt := (List.getElem?_eq_some_iff.1 hk).1
     obtain ⟨u, hu⟩ := exists_aget (l := us) (k := s) (by omega)
     rw [List.getD_eq_getElem?_getD, hk, Array.getD_eq_getD_getElem?, Array.getElem?_append_left (by omega), hu]
     exact hv s d u hk hu
   ·exact .imm (.undef _)
  ·simp only at ho
   split at ho
   ·rename_i h1; exact ⟨ho, h1⟩
   ·cases ho
 refine wp_mono (h code hst ⟨S, w, fun x => ∃ o, L o = some x, F.n, fun o => if 1048576 ≤ o then L o else none, []⟩ _ _ _ ⟨rfl, hT, fun x hx => (show ∃ o, L o = some x from hx).elim fun o ho => hTb o x ho⟩ hR) fun e a' w' => ?_
 rintro ⟨L1, fr, H1, de, hR', he, hde, ds, r, H', hQ, hdom, hds, hr, hcells⟩
 obtain ⟨v, hrun, hV⟩ := results_run (P := F.P) fn hR' hrv hds hrs
 have hsub : ∀ o b, (nmH H' o).bind L1 = some b → lkH H' o ≠ none ∧ L1 o = some b := fun o b ho => by
  unfold nmH at ho
  split at ho
  ·rename_i h1; exact ⟨fun e => (by rw [e] at h1; cases h1), ho⟩
  ·cases ho
 have hAv : ∀ b, Av S (fun o => (nmH H' o).bind L1) b → Av S L1 b := by
  rintro b (h1 | ⟨o, h1⟩)
  ·exact .inl h1
  ·exact .inr ⟨o, (hsub o b h1).2⟩
 have hVr : ∀ d v, V w' L1 (Av S L1) d v → V w' (fun o => (nmH H' o).bind L1) (Av S (fun o => (nmH H' o).bind L1)) (rn (nmH H') d) v := fun d v hd =>
  hd.rn (nmH H') hAv fun o p b h1 h2 => by
   have e : o = p := by
    unfold nmH at h1; split at h1
    ·simpa using h1
    ·cases h1
   subst e
   show (nmH H' o).bind L1 = some b
   rw [h1]; exact h2
 have hfin : ∃ u L' r H', Q r H' ∧ Ending.returned v = .returned u ∧ HOK w' S L' (lkH H') ∧ V w' L' (Av S L') r u ∧ Ext (fun x => ∃ o, L o = some x) w w' ∧
   (∀ o b, L o = some b → 1048576 ≤ o → L' o = some b) ∧ (∀ o b, L' o = some b → (∃ p, L p = some b) ∨ w.heap.size ≤ b) ∧ (∀ b, b < w.heap.size → w'.shape? b = w.shape? b) := by
  refine ⟨v, fun o => (nmH H' o).bind L1, r, H', hQ, rfl, ⟨?_, ?_, ?_, ?_, ?_⟩, ?_, hR'.ext, ?_, ?_, fun b hb => hR'.shp b hb⟩
  ·intro o b ho
   have h1 := (hsub o b ho).1
   cases h2 : lkH H' o with
   | none => exact absurd h2 h1
   | some c => exact ⟨c, rfl⟩
  ·intro o c hc
   obtain ⟨c0, h1, rfl⟩ := hcells o c hc
   have e1 : nmH H' o = some o := by unfold nmH; rw [hc]; rfl
   rcases hR'.heap.obj o c0 h1 with ⟨h2, h3⟩ | ⟨b, cs, T, h2, h3, h4, h5⟩
   ·exact .inl ⟨by rw [e1]; exact h2, by rw [h3]; rfl⟩
   ·refine .inr ⟨b, cs, T, by rw [e1]; exact h2, h3, by simpa using h4, fun k d u hk hu => ?_⟩
    rw [List.getElem?_map, Option.map_eq_some_iff] at hk
    obtain ⟨d0, hd0, rfl⟩ := hk
    exact hVr _ _ (h5 k d0 u hd0 hu)
  ·intro o p b ho hp
   exact hR'.heap.inj o p b (hsub o b ho).2 (hsub p b hp).2
  ·intro o b ho
   exact hR'.heap.notS o b (hsub o b ho).2
  ·intro o b ho
   exact hR'.heap.ty o b (hsub o b ho).2
  ·rw [← hr]; exact hVr _ _ hV
  ·intro o b ho h1
   have h2 := (hR'.keep o b (by simp only [if_pos h1]; exact ho)).1
   have h3 : (lkH H o).isSome = true := by
    obtain ⟨c, hc⟩ := hH.dom o b ho
    rw [hc]; rfl
   have e1 : nmH H' o = some o := by unfold nmH; rw [if_pos (hdom o h1 h3)]
   show (nmH H' o).bind L1 = some b
   rw [e1]; exact h2
  ·intro o b ho
   exact hR'.own o b (hsub o b ho).2
 cases e <;> simp only [er, Option.some.injEq, reduceCtorEq] at he
 ·exact ⟨hR'.defers, v, hrun, hfin⟩
 ·subst he; rcases hde with e | e <;> cases e
 ·exact ⟨hR'.defers, v, hrun, hfin⟩
 ·subst he; rcases hde with e | e <;> cases e
def pgN (H : Hp) (f : Nat → Option Nat) (o : Nat) : Option Nat := match f o with
 | some q => if q < 1048576 ∧ (lkH H o).isSome = true then none else some o
 | none => some o
theorem callC_rel {F : FnD} {os : List DOper} {dst : Dst} {f : Nat} {ds : List DV} {te fr : Fr} {H : Hp} {K : Fr → Fr → Hp → Prop} {Q : DV → Hp → Prop} (hp : F.pure = false) (fwd back : Nat → Option Nat)
  (hfb : ∀ p q, fwd p = some q ↔ back q = some p) (hkp : ∀ p q, fwd p = some q → 1048576 ≤ p → 1048576 ≤ q) (hty : ∀ p q, fwd p = some q → tyEq p q) {Hc : Hp}
  (hH : ∀ q, lkH Hc q = (back q).bind fun p => (lkH H p).map (List.map (rn fwd))) (hc : MRel F.P f (ds.map (rn fwd)) Hc Q)
  (hK : ∀ r Hc', Q r Hc' → ∃ H2, (∀ p, lkH H2 p = match fwd p with | some q => (lkH Hc' q).map (List.map (rn back)) | none => (lkH H p).map (List.map (rn (pgN H fwd)))) ∧
   regW F os (dst.onT (mapF (rn (pgN H fwd)) te) (rn back r)) (dst.onX (mapF (rn (pgN H fwd)) fr) (rn back r)) H2 K) : callC F os dst f ds te fr H K := by
 refine callC_W hp ?_
 intro G L a w us hG hR hs hv
 obtain ⟨Lc, hLc⟩ : ∃ Lc : Nat → Option Nat, Lc = fun q => (back q).bind L := ⟨_, rfl⟩
 have hLc1 : ∀ q b, Lc q = some b → ∃ p, back q = some p ∧ L p = some b := fun q b h => by
  rw [hLc] at h
  simp only [Option.bind_eq_some_iff] at h
  exact h
 have hLc2 : ∀ p q b, fwd p = some q → L p = some b → Lc q = some b := fun p q b h1 h2 => by
  rw [hLc]
  simp only [(hfb p q).1 h1, Option.bind_some, h2]
 obtain ⟨Sc, hSc⟩ : ∃ Sc : Nat → Prop, Sc = fun x => Av G.S L x ∧ ¬ ∃ q, Lc q = some x := ⟨_, rfl⟩
 have hAvc : ∀ x, Av Sc Lc x ↔ Av G.S L x := fun x => by
  unfold Av
  rw [hSc]
  constructor
  ·rintro (h | ⟨q, h⟩)
   ·exact h.1
   ·obtain ⟨p, _, h2⟩ := hLc1 q x h
    exact .inr ⟨p, h2⟩
  ·intro h
   by_cases e : ∃ q, Lc q = some x
   ·exact .inr e
   ·exact .inl ⟨h, e⟩
 have hlt : ∀ x, Av G.S L x → x < w.heap.size := by
  rintro x (h | ⟨p, h⟩)
  ·exact hR.sLt x h
  ·exact hR.heap.lt h
 have hGS : ∀ x, G.S x → Sc x := fun x hx => by
  rw [hSc]
  refine ⟨.inl hx, ?_⟩
  rintro ⟨q, hq⟩
  obtain ⟨p, _, h2⟩ := hLc1 q x hq
  exact hR.heap.notS p x h2 hx
 have hVf : ∀ d v, V w L (Av G.S L) d v → V w Lc (Av Sc Lc) (rn fwd d) v := fun d v hd => hd.rn fwd (fun b hb => (hAvc b).1 hb) fun o p b h1 h2 => hLc2 o p b h1 h2
 have hHc : HOK w Sc Lc (lkH Hc) := by
  refine ⟨fun q b hq => ?_, fun q c hq => ?_, fun q q' b h1 h2 => ?_, fun q b hq hs => ?_, fun q b hq => ?_⟩
  ·obtain ⟨p, h1, h2⟩ := hLc1 q b hq
   obtain ⟨c, h3⟩ := hR.heap.dom p b h2
   exact ⟨_, by rw [hH, h1, Option.bind_some, h3]; rfl⟩
  ·rw [hH] at hq
   simp only [Option.bind_eq_some_iff, Option.map_eq_some_iff] at hq
   obtain ⟨p, h1, c0, h2, rfl⟩ := hq
   have e : Lc q = L p := by rw [hLc]; simp only [h1, Option.bind_some]
   rcases hR.heap.obj p c0 h2 with ⟨h3, h4⟩ | ⟨b, cs, T, h3, h4, h5, h6⟩
   ·exact .inl ⟨by rw [e, h3], by rw [h4]; rfl⟩
   ·refine .inr ⟨b, cs, T, by rw [e, h3], h4, by simpa using h5, fun k d v hk hu => ?_⟩
    rw [List.getElem?_map, Option.map_eq_some_iff] at hk
    obtain ⟨d0, hd0, rfl⟩ := hk
    exact hVf _ _ (h6 k d0 v hd0 hu)
  ·obtain ⟨p, h3, h4⟩ := hLc1 q b h1
   obtain ⟨p', h5, h6⟩ := hLc1 q' b h2
   have e := hR.heap.inj p p' b h4 h6
   subst e
   have h7 := (hfb p q).2 h3
   rw [(hfb p q').2 h5] at h7
   exact (Option.some.inj h7).symm
  ·rw [hSc] at hs
   exact hs.2 ⟨q, hq⟩
  ·obtain ⟨p, h1, h2⟩ := hLc1 q b hq
   exact (hR.heap.ty p b h2).rn (hty p q ((hfb p q).2 h1))
 have hown : ∀ q b, Lc q = some b → ∃ p, L p = some b := fun q b h => (hLc1 q b h).elim fun p h => ⟨p, h.2⟩
 refine (hc Sc Lc w us (hG.tab hR) (fun q b h => (hown q b h).elim fun p h => hG.own hR h) hHc (fun x hx => hlt x (by rw [hSc] at hx; exact hx.1)) (by simpa using hs) fun k d v h1 h2 => ?_).mono ?_
 ·rw [List.getElem?_map, Option.map_eq_some_iff] at h1
  obtain ⟨d0, hd0, rfl⟩ := h1
  exact hVf _ _ (hv k d0 v hd0 h2)
 ·rintro e w' ⟨v, L', r, Hc', hQ, rfl, hH', hr, hx, hkeep, hnew, hshp⟩
  obtain ⟨H2, hH2, hK⟩ := hK r Hc' hQ
  obtain ⟨L2, hL2⟩ : ∃ L2 : Nat → Option Nat, L2 = fun p => match fwd p with | some q => L' q | none => L p := ⟨_, rfl⟩
  have hL2f : ∀ p q, fwd p = some q → L2 p = L' q := fun p q h => by rw [hL2]; simp only [h]
  have hL2n : ∀ p, fwd p = none → L2 p = L p := fun p h => by rw [hL2]; simp only [h]
  have hcase : ∀ p, (∃ q, fwd p = some q) ∨ fwd p = none := fun p => by
   cases h : fwd p with
   | none => exact .inr rfl
   | some q => exact .inl ⟨q, rfl⟩
  have hlent : ∀ p, fwd p = none → ∀ b, L p = some b → ¬ ∃ q, Lc q = some b := by
   rintro p hp b hb ⟨q, hq⟩
   obtain ⟨p', h1, h2⟩ := hLc1 q b hq
   have e := hR.heap.inj p p' b hb h2
   subst e
   rw [(hfb p q).2 h1] at hp; cases hp
  have hL2o : ∀ p b, L2 p = some b → (∃ o, L o = some b) ∨ w.heap.size ≤ b := fun p b h => by
   rcases hcase p with ⟨q, hq⟩ | hq
   ·rw [hL2f p q hq] at h
    rcases hnew q b h with ⟨q', h1⟩ | h1
    ·exact .inl (hown q' b h1)
    ·exact .inr h1
   ·rw [hL2n p hq] at h; exact .inl ⟨p, h⟩
  have hAv2 : ∀ b, Av G.S L2 b → Av Sc L' b := by
   rintro b (h | ⟨p, h⟩)
   ·exact .inl (hGS b h)
   ·rcases hcase p with ⟨q, hq⟩ | hq
    ·rw [hL2f p q hq] at h; exact .inr ⟨q, h⟩
    ·rw [hL2n p hq] at h
     refine .inl ?_
     rw [hSc]; exact ⟨.inr ⟨p, h⟩, hlent p hq b h⟩
  have hblk : ∀ b, b < w.heap.size → ¬ (∃ q, Lc q = some b) → w'.heap[b]? = w.heap[b]? := fun b hb h => hx.block b hb h
  have hVb : ∀ d v, V w' L' (Av Sc L') d v → V w' L2 (Av G.S L2) (rn back d) v := fun d v hd => hd.rn back hAv2 fun q p b h1 h2 => by
   rw [hL2f p q ((hfb p q).2 h1)]; exact h2
  have hVk : ∀ d v, V w L (Av G.S L) d v → V w' L2 (Av G.S L2) (rn (pgN H fwd) d) v := fun d v hd => by
   have h1 := hd.rn (L' := fun p => (pgN H fwd p).bind L) (A' := Av G.S L) (pgN H fwd) (fun _ h => h) (fun o p b h1 h2 => by
    have e : o = p := by
     unfold pgN at h1; split at h1
     ·split at h1
      ·cases h1
      ·simpa using h1
     ·simpa using h1
    subst e
    show (pgN H fwd o).bind L = some b
    rw [h1]; exact h2)
   refine h1.mono (fun b hb hA => ⟨hblk b hb fun h => hA ((hown _ b h.choose_spec).elim fun p h => .inr ⟨p, h⟩), ?_⟩) fun o b _ ho => ?_
   ·rintro (h | ⟨p, h⟩)
    ·exact hA (.inl h)
    ·rcases hL2o p b h with h2 | h2
     ·exact hA (.inr h2)
     ·omega
   ·have ho' : L o = some b ∧ (fwd o = none ∨ ∃ q, fwd o = some q ∧ 1048576 ≤ q) := by
     unfold pgN at ho
     cases hq : fwd o with
     | none => rw [hq] at ho; exact ⟨ho, .inl rfl⟩
     | some q =>
      rw [hq] at ho
      simp only at ho
      split at ho
      ·cases ho
      ·rename_i hc
       have hLo : L o = some b := ho
       refine ⟨hLo, .inr ⟨q, rfl, ?_⟩⟩
       obtain ⟨c, hc2⟩ := hR.heap.dom o b hLo
       rcases Nat.lt_or_ge q 1048576 with h | h
       ·exact absurd ⟨h, by rw [hc2]; rfl⟩ hc
       ·exact h
    refine ⟨?_, hshp b (hR.heap.lt ho'.1)⟩
    rcases ho'.2 with h | ⟨q, h, hq⟩
    ·rw [hL2n o h]; exact ho'.1
    ·rw [hL2f o q h]; exact hkeep q b (hLc2 o q b h ho'.1) hq
  have hRn : R G L2 (den F.vs (mapF (rn (pgN H fwd)) te) (mapF (rn (pgN H fwd)) fr)) (lkH H2) a w' := by
   refine ⟨hR.size, hR.defers, fun s => ?_, ⟨fun p b hb => ?_, fun p c hc => ?_, fun p p' b h1 h2 => ?_, fun p b hb hs => ?_, fun p b hb => ?_⟩, ⟨hx.os.trans hR.ext.os, hx.tape.trans hR.ext.tape, hx.output.trans hR.ext.output, Nat.le_trans hR.ext.size hx.size, fun k hk hS => ?_⟩, fun k hk => Nat.lt_of_lt_of_le (hR.sLt k hk) hx.size, fun p b hb => ?_, fun p b hb => ?_, fun k hk => ?_⟩
   ·have := hVk _ _ (hR.slots s)
    simp only [den, lk_mapF _ (rn_undef _)] at this ⊢
    by_cases hc : F.vs.contains s = true
    ·simp only [hc, if_true] at this ⊢; exact this
    ·simp only [hc] at this ⊢; exact this
   ·rw [hH2]
    rcases hcase p with ⟨q, hq⟩ | hq
    ·rw [hL2f p q hq] at hb
     obtain ⟨c, hc⟩ := hH'.dom q b hb
     exact ⟨_, by rw [hq]; simp only [hc, Option.map_some]; rfl⟩
    ·rw [hL2n p hq] at hb
     obtain ⟨c, hc⟩ := hR.heap.dom p b hb
     exact ⟨_, by rw [hq]; simp only [hc, Option.map_some]; rfl⟩
   ·rw [hH2] at hc
    rcases hcase p with ⟨q, hq⟩ | hq
    ·rw [hq] at hc
     simp only [Option.map_eq_some_iff] at hc
     obtain ⟨c0, h1, rfl⟩ := hc
     rcases hH'.obj q c0 h1 with ⟨h2, h3⟩ | ⟨b, cs, T, h2, h3, h4, h5⟩
     ·exact .inl ⟨by rw [hL2f p q hq, h2], by rw [h3]; rfl⟩
     ·refine .inr ⟨b, cs, T, by rw [hL2f p q hq, h2], h3, by simpa using h4, fun k d u hk hu => ?_⟩
      rw [List.getElem?_map, Option.map_eq_some_iff] at hk
      obtain ⟨d0, hd0, rfl⟩ := hk
      exact hVb _ _ (h5 k d0 u hd0 hu)
    ·rw [hq] at hc
     simp only [Option.map_eq_some_iff] at hc
     obtain ⟨c0, h1, rfl⟩ := hc
     rcases hR.heap.obj p c0 h1 with ⟨h2, h3⟩ | ⟨b, cs, T, h2, h3, h4, h5⟩
     ·exact .inl ⟨by rw [hL2n p hq, h2], by rw [h3]; rfl⟩
     ·refine .inr ⟨b, cs, T, by rw [hL2n p hq, h2], (hblk b (hR.heap.lt h2) (hlent p hq b h2)).trans h3, by simpa using h4, fun k d u hk hu => ?_⟩
      rw [List.getElem?_map, Option.map_eq_some_iff] at hk
      obtain ⟨d0, hd0, rfl⟩ := hk
      exact hVk _ _ (h5 k d0 u hd0 hu)
   ·have mixed : ∀ p p' q, fwd p = some q → fwd p' = none → L2 p = some b → L2 p' = some b → False := fun p p' q hq hn h1 h2 => by
     rw [hL2f p q hq] at h1
     rw [hL2n p' hn] at h2
     rcases hnew q b h1 with ⟨q', h3⟩ | h3
     ·exact hlent p' hn b h2 ⟨q', h3⟩
     ·have := hR.heap.lt h2; omega
    rcases hcase p with ⟨q, hq⟩ | hq <;> rcases hcase p' with ⟨q', hq'⟩ | hq'
    ·rw [hL2f p q hq] at h1
     rw [hL2f p' q' hq'] at h2
     have e := hH'.inj q q' b h1 h2
     subst e
     have h3 := (hfb p q).1 hq
     rw [(hfb p' q).1 hq'] at h3
     exact (Option.some.inj h3).symm
    ·exact (mixed p p' q hq hq' h1 h2).elim
    ·exact (mixed p' p q' hq' hq h2 h1).elim
    ·rw [hL2n p hq] at h1
     rw [hL2n p' hq'] at h2
     exact hR.heap.inj p p' b h1 h2
   ·rcases hcase p with ⟨q, hq⟩ | hq
    ·rw [hL2f p q hq] at hb
     exact hH'.notS q b hb (hGS b hs)
    ·rw [hL2n p hq] at hb
     exact hR.heap.notS p b hb hs
   ·rcases hcase p with ⟨q, hq⟩ | hq
    ·rw [hL2f p q hq] at hb
     exact (hH'.ty q b hb).rn (hty p q hq).symm
    ·rw [hL2n p hq] at hb
     exact (hR.heap.ty p b hb).imm_shape (hshp b (hR.heap.lt hb))
   ·refine (hblk k (Nat.lt_of_lt_of_le hk hR.ext.size) ?_).trans (hR.ext.block k hk hS)
    rintro ⟨q, hq⟩
    obtain ⟨p, hp⟩ := hown q k hq
    rcases hR.own p k hp with h1 | h1
    ·exact hS h1
    ·omega
   ·rcases hL2o p b hb with ⟨o, ho⟩ | h1
    ·exact hR.own o b ho
    ·exact .inr (Nat.le_trans hR.ext.size h1)
   ·obtain ⟨h1, h2⟩ := hR.keep p b hb
    refine ⟨?_, h2⟩
    rcases hcase p with ⟨q, hq⟩ | hq
    ·rw [hL2f p q hq]; exact hkeep q b (hLc2 p q b hq h1) (hkp p q hq h2)
    ·rw [hL2n p hq]; exact h1
   ·exact (hshp k (Nat.lt_of_lt_of_le hk hR.ext.size)).trans (hR.shp k hk)
  exact ⟨v, L2, rn back r, _, _, H2, rfl, hRn, hVb _ _ hr, SimK.map (rn_sim _) rfl _ _ _, hK⟩
theorem MRel.mono {P : Program} {f : Nat} {args : List DV} {H : Hp} {Q Q' : DV → Hp → Prop} (h : MRel P f args H Q) (hq : ∀ r H', Q r H' → Q' r H') : MRel P f args H Q' := by
 intro S L w us hT hTb hH hS hs hv
 refine (h S L w us hT hTb hH hS hs hv).mono ?_
 rintro e w' ⟨v, L', r, H', hQ, rest⟩
 exact ⟨v, L', r, H', hq _ _ hQ, rest⟩
mutual
theorem rn_id {f : Nat → Option Nat} (hf : ∀ o, f o = some o) : ∀ d : DV, rn f d = d
 | .ptr o off => by rw [rn, hf]
 | .osl sz o off n => by rw [rn, hf]
 | .agg cs => by rw [rn, rnL_id hf cs]
 | .tup cs => by rw [rn, rnL_id hf cs]
 | .undef => by rw [rn] <;> (intros; contradiction)
 | .int .. => by rw [rn] <;> (intros; contradiction)
 | .bool _ => by rw [rn] <;> (intros; contradiction)
 | .str _ => by rw [rn] <;> (intros; contradiction)
 | .nilp => by rw [rn] <;> (intros; contradiction)
 | .nils => by rw [rn] <;> (intros; contradiction)
 | .nili => by rw [rn] <;> (intros; contradiction)
 | .fn _ => by rw [rn] <;> (intros; contradiction)
 | .sl .. => by rw [rn] <;> (intros; contradiction)
 | .el .. => by rw [rn] <;> (intros; contradiction)
 | .iface .. => by rw [rn] <;> (intros; contradiction)
 | .clo .. => by rw [rn] <;> (intros; contradiction)
 | .raw .. => by rw [rn] <;> (intros; contradiction)
theorem rnL_id {f : Nat → Option Nat} (hf : ∀ o, f o = some o) : ∀ cs : List DV, rnL f cs = cs
 | [] => rfl
 | d :: r => by rw [rnL, rn_id hf d, rnL_id hf r]
end
theorem mapF_id {f : Nat → Option Nat} (hf : ∀ o, f o = some o) (fr : Fr) : mapF (rn f) fr = fr := by
 induction fr with
 | nil => rfl
 | cons p r ih => obtain ⟨k, d⟩ := p; rw [mapF, rn_id hf, ih]
theorem map_rf (f : Nat → Option Nat) {cs : List DV} (h : ∀ d ∈ cs, d.rf = true) : cs.map (rn f) = cs := by
 conv => rhs; rw [← List.map_id cs]
 exact List.map_congr_left fun d hd => rn_rf f d (h d hd)
theorem purge_of_rf (o : Nat) {d : DV} (h : d.rf = true) : purge o d = d := by
 unfold purge
 rw [has_of_rf o d h]; rfl
theorem map_purge (o : Nat) {cs : List DV} (h : ∀ d ∈ cs, d.rf = true) : cs.map (purge o) = cs := by
 conv => rhs; rw [← List.map_id cs]
 exact List.map_congr_left fun d hd => purge_of_rf o (h d hd)
theorem map_frz (o : Nat) (xs : List DV) {cs : List DV} (h : ∀ d ∈ cs, d.rf = true) : cs.map (frz o xs) = cs := by
 conv => rhs; rw [← List.map_id cs]
 refine List.map_congr_left fun d hd => ?_
 have h1 := h d hd
 cases d <;> first | (simp [DV.rf] at h1; done) | exact purge_of_rf o h1
theorem lk_id {H : Hp} {f : Nat → Option Nat} (hf : ∀ o, f o = some o) (p : Nat) : lkH H p = (lkH H p).map (List.map (rn f)) := by
 cases lkH H p with
 | none => rfl
 | some c =>
  simp only [Option.map_some, Option.some.injEq]
  conv => lhs; rw [← List.map_id c]
  exact List.map_congr_left fun d _ => (rn_id hf d).symm
def TCalls (P : Program) (f : Nat) (args : List DV) (cells : List DV) (Q : DV → List DV → Prop) : Prop :=
 MRel P f args [(1048576, cells)] fun r H' => ∃ c', H' = [(1048576, c')] ∧ (∀ d ∈ c', d.rf = true) ∧ r.rf = true ∧ Q r c'
def fwd1 (o p : Nat) : Option Nat := if p = o then some 1048576 else none
def back1 (o q : Nat) : Option Nat := if q = 1048576 then some o else none
theorem fb1 (o p q : Nat) : fwd1 o p = some q ↔ back1 o q = some p := by
 unfold fwd1 back1
 constructor
 ·intro e; split at e
  ·cases e; subst p; simp
  ·cases e
 ·intro e; split at e
  ·cases e; subst q; simp
  ·cases e
theorem lkH_one (a : Nat) (c : List DV) (q : Nat) : lkH [(a, c)] q = if a = q then some c else none := rfl
def fwdn (m o p : Nat) : Option Nat := if p = o then some m else none
def backn (m o q : Nat) : Option Nat := if q = m then some o else none
theorem fbn (m o p q : Nat) : fwdn m o p = some q ↔ backn m o q = some p := by
 unfold fwdn backn
 constructor
 ·intro e; split at e
  ·cases e; subst p; simp
  ·cases e
 ·intro e; split at e
  ·cases e; subst q; simp
  ·cases e
theorem pgn {H : Hp} {m o : Nat} (ho : lkH H o = none) (p : Nat) : pgN H (fwdn m o) p = some p := by
 unfold pgN fwdn
 split
 ·rename_i q h
  split at h
  ·rename_i e
   subst e
   rw [ho, if_neg (fun h => by cases h.2)]
  ·cases h
 ·rfl
abbrev SD := DV → Eff → Prop
def callT (F : FnD) (f : Nat) (ds : List DV) (h : Heap) (S : SD) : Prop :=
 ∃ (o : Nat) (cells : List DV) (Q : DV → List DV → Prop), (h o = some cells ∧ tyNo o) ∧ (∀ d ∈ cells, d.rf = true) ∧ TCalls F.P f (ds.map (rn (fwd1 o))) cells Q ∧
  (∃ d c', d.rf = true ∧ (∀ x ∈ c', x.rf = true) ∧ Q d c') ∧ ∀ d ef, S d ef ↔ ∃ c', ef = .set o c' ∧ d.rf = true ∧ (∀ x ∈ c', x.rf = true) ∧ Q d c'
structure GivesT (F : FnD) (dp : DOper) (σ : Nat → DV) (h : Heap) (S : SD) : Prop where
 out : (dp.op.isCall = false ∧ dp.op.cls ≤ 1 ∧ ∃ d, Gives F dp σ (fun _ => none) d .no ∧ ∀ d' ef, S d' ef ↔ d' = d ∧ ef = .no) ∨
  (dp.op.isCall = true ∧ ((gS σ dp.guard = some true ∧ ∃ f args, dp.op = .call f args ∧ callT F f (args.map (evS σ)) h S) ∨ (gS σ dp.guard = some false ∧ ∀ d' ef, S d' ef ↔ d' = .tup [] ∧ ef = .no)))
section
variable {F : FnD}
theorem GivesT.one {dp : DOper} {σ : Nat → DV} {h : Heap} {S : SD} (hc : dp.op.isCall = false) (hg : GivesT F dp σ h S) : ∃ d, ∀ d' ef, S d' ef ↔ d' = d ∧ ef = .no := by
 rcases hg.out with ⟨_, _, d, _, h2⟩ | ⟨h1, _⟩
 ·exact ⟨d, h2⟩
 ·rw [hc] at h1; cases h1
theorem GivesT.heap {dp : DOper} {σ : Nat → DV} {h : Heap} (h' : Heap) {S : SD} (hc : dp.op.isCall = false) (hg : GivesT F dp σ h S) : GivesT F dp σ h' S := by
 rcases hg.out with h1 | ⟨h1, _⟩
 ·exact ⟨.inl h1⟩
 ·rw [hc] at h1; cases h1
theorem gS_upd {dp : DOper} {σ : Nat → DV} {k : Option Nat} {d' : DV} (hk : ∀ s, k = some s → s ∉ dp.looks) : gS (updS σ k d') dp.guard = gS σ dp.guard := by
 cases hgu : dp.guard with
 | none => rfl
 | some p =>
  obtain ⟨g, w⟩ := p
  have : evS (updS σ k d') g = evS σ g := evS_upd fun s hs e => hk s hs (by
   unfold DOper.looks; rw [hgu]; exact List.mem_append.2 (.inr (by simp [e])))
  simp only [gS, this]
theorem GivesT.upd {dp : DOper} {σ : Nat → DV} {h : Heap} {S : SD} {k : Option Nat} {d' : DV} (hk : ∀ s, k = some s → s ∉ dp.looks) : GivesT F dp (updS σ k d') h S ↔ GivesT F dp σ h S := by
 have hg := gS_upd (d' := d') (σ := σ) hk
 have hargs : ∀ f args, dp.op = .call f args → args.map (evS (updS σ k d')) = args.map (evS σ) := fun f args e => List.map_congr_left fun o ho => evS_upd fun s hs e2 => hk s hs (by
  unfold DOper.looks; exact List.mem_append.2 (.inl (List.mem_filterMap.2 ⟨o, by rw [e]; exact ho, e2⟩)))
 constructor
 ·rintro ⟨h1⟩
  refine ⟨?_⟩
  rcases h1 with ⟨a1, a2, d, a3, a4⟩ | ⟨a1, ⟨a2, f, args, a3, a4⟩ | ⟨a2, a3⟩⟩
  ·exact .inl ⟨a1, a2, d, (Gives.upd hk).1 a3, a4⟩
  ·exact .inr ⟨a1, .inl ⟨hg ▸ a2, f, args, a3, by rw [hargs f args a3] at a4; exact a4⟩⟩
  ·exact .inr ⟨a1, .inr ⟨hg ▸ a2, a3⟩⟩
 ·rintro ⟨h1⟩
  refine ⟨?_⟩
  rcases h1 with ⟨a1, a2, d, a3, a4⟩ | ⟨a1, ⟨a2, f, args, a3, a4⟩ | ⟨a2, a3⟩⟩
  ·exact .inl ⟨a1, a2, d, (Gives.upd hk).2 a3, a4⟩
  ·exact .inr ⟨a1, .inl ⟨by rw [hg]; exact a2, f, args, a3, by rw [hargs f args a3]; exact a4⟩⟩
  ·exact .inr ⟨a1, .inr ⟨by rw [hg]; exact a2, a3⟩⟩
end
section
variable {F : FnD}
end
def pgH (h : Heap) (f : Nat → Option Nat) (o : Nat) : Option Nat := match f o with
 | some q => if q < 1048576 ∧ (h o).isSome = true then none else some o
 | none => some o
theorem MRel.run {P : Program} {G : Cx} {L : Nat → Option Nat} {σ : Nat → DV} {h : Heap} {a : Act} {w : World} {us : Array Value} {f : Nat} {ds : List DV} {Q : DV → Hp → Prop} (fwd back : Nat → Option Nat)
  (hfb : ∀ p q, fwd p = some q ↔ back q = some p) (hkp : ∀ p q, fwd p = some q → 1048576 ≤ p → 1048576 ≤ q) (hty : ∀ p q, fwd p = some q → tyEq p q) {Hc : Hp}
  (hH : ∀ q, lkH Hc q = (back q).bind fun p => (h p).map (List.map (rn fwd))) (hc : MRel P f (ds.map (rn fwd)) Hc Q) (hG : G.ok P) (hR : R G L σ h a w) (hs : us.size = ds.length)
  (hv : ∀ (k : Nat) d v, ds[k]? = some d → us[k]? = some v → V w L (Av G.S L) d v) :
  Calls P f us w fun e w' => ∃ v r Hc' h2 L2, e = .returned v ∧ Q r Hc' ∧ (∀ p, h2 p = match fwd p with | some q => (lkH Hc' q).map (List.map (rn back)) | none => (h p).map (List.map (rn (pgH h fwd)))) ∧
   R G L2 (fun s => rn (pgH h fwd) (σ s)) h2 a w' ∧ V w' L2 (Av G.S L2) (rn back r) v := by
 obtain ⟨Lc, hLc⟩ : ∃ Lc : Nat → Option Nat, Lc = fun q => (back q).bind L := ⟨_, rfl⟩
 have hLc1 : ∀ q b, Lc q = some b → ∃ p, back q = some p ∧ L p = some b := fun q b h => by
  rw [hLc] at h
  simp only [Option.bind_eq_some_iff] at h
  exact h
 have hLc2 : ∀ p q b, fwd p = some q → L p = some b → Lc q = some b := fun p q b h1 h2 => by
  rw [hLc]
  simp only [(hfb p q).1 h1, Option.bind_some, h2]
 obtain ⟨Sc, hSc⟩ : ∃ Sc : Nat → Prop, Sc = fun x => Av G.S L x ∧ ¬ ∃ q, Lc q = some x := ⟨_, rfl⟩
 have hAvc : ∀ x, Av Sc Lc x ↔ Av G.S L x := fun x => by
  unfold Av
  rw [hSc]
  constructor
  ·rintro (h | ⟨q, h⟩)
   ·exact h.1
   ·obtain ⟨p, _, h2⟩ := hLc1 q x h
    exact .inr ⟨p, h2⟩
  ·intro h
   by_cases e : ∃ q, Lc q = some x
   ·exact .inr e
   ·exact .inl ⟨h, e⟩
 have hlt : ∀ x, Av G.S L x → x < w.heap.size := by
  rintro x (h | ⟨p, h⟩)
  ·exact hR.sLt x h
  ·exact hR.heap.lt h
 have hGS : ∀ x, G.S x → Sc x := fun x hx => by
  rw [hSc]
  refine ⟨.inl hx, ?_⟩
  rintro ⟨q, hq⟩
  obtain ⟨p, _, h2⟩ := hLc1 q x hq
  exact hR.heap.notS p x h2 hx
 have hVf : ∀ d v, V w L (Av G.S L) d v → V w Lc (Av Sc Lc) (rn fwd d) v := fun d v hd => hd.rn fwd (fun b hb => (hAvc b).1 hb) fun o p b h1 h2 => hLc2 o p b h1 h2
 have hHc : HOK w Sc Lc (lkH Hc) := by
  refine ⟨fun q b hq => ?_, fun q c hq => ?_, fun q q' b h1 h2 => ?_, fun q b hq hs => ?_, fun q b hq => ?_⟩
  ·obtain ⟨p, h1, h2⟩ := hLc1 q b hq
   obtain ⟨c, h3⟩ := hR.heap.dom p b h2
   exact ⟨_, by rw [hH, h1, Option.bind_some, h3]; rfl⟩
  ·rw [hH] at hq
   simp only [Option.bind_eq_some_iff, Option.map_eq_some_iff] at hq
   obtain ⟨p, h1, c0, h2, rfl⟩ := hq
   have e : Lc q = L p := by rw [hLc]; simp only [h1, Option.bind_some]
   rcases hR.heap.obj p c0 h2 with ⟨h3, h4⟩ | ⟨b, cs, T, h3, h4, h5, h6⟩
   ·exact .inl ⟨by rw [e, h3], by rw [h4]; rfl⟩
   ·refine .inr ⟨b, cs, T, by rw [e, h3], h4, by simpa using h5, fun k d v hk hu => ?_⟩
    rw [List.getElem?_map, Option.map_eq_some_iff] at hk
    obtain ⟨d0, hd0, rfl⟩ := hk
    exact hVf _ _ (h6 k d0 v hd0 hu)
  ·obtain ⟨p, h3, h4⟩ := hLc1 q b h1
   obtain ⟨p', h5, h6⟩ := hLc1 q' b h2
   have e := hR.heap.inj p p' b h4 h6
   subst e
   have h7 := (hfb p q).2 h3
   rw [(hfb p q').2 h5] at h7
   exact (Option.some.inj h7).symm
  ·rw [hSc] at hs
   exact hs.2 ⟨q, hq⟩
  ·obtain ⟨p, h1, h2⟩ := hLc1 q b hq
   exact (hR.heap.ty p b h2).rn (hty p q ((hfb p q).2 h1))
 have hown : ∀ q b, Lc q = some b → ∃ p, L p = some b := fun q b h => (hLc1 q b h).elim fun p h => ⟨p, h.2⟩
 refine (hc Sc Lc w us (hG.tab hR) (fun q b h => (hown q b h).elim fun p h => hG.own hR h) hHc (fun x hx => hlt x (by rw [hSc] at hx; exact hx.1)) (by simpa using hs) fun k d v h1 h2 => ?_).mono ?_
 ·rw [List.getElem?_map, Option.map_eq_some_iff] at h1
  obtain ⟨d0, hd0, rfl⟩ := h1
  exact hVf _ _ (hv k d0 v hd0 h2)
 ·rintro e w' ⟨v, L', r, Hc', hQ, rfl, hH', hr, hx, hkeep, hnew, hshp⟩
  obtain ⟨h2, hH2⟩ : ∃ h2 : Heap, ∀ p, h2 p = match fwd p with | some q => (lkH Hc' q).map (List.map (rn back)) | none => (h p).map (List.map (rn (pgH h fwd))) := ⟨fun p => _, fun p => rfl⟩
  obtain ⟨L2, hL2⟩ : ∃ L2 : Nat → Option Nat, L2 = fun p => match fwd p with | some q => L' q | none => L p := ⟨_, rfl⟩
  have hL2f : ∀ p q, fwd p = some q → L2 p = L' q := fun p q h => by rw [hL2]; simp only [h]
  have hL2n : ∀ p, fwd p = none → L2 p = L p := fun p h => by rw [hL2]; simp only [h]
  have hcase : ∀ p, (∃ q, fwd p = some q) ∨ fwd p = none := fun p => by
   cases h : fwd p with
   | none => exact .inr rfl
   | some q => exact .inl ⟨q, rfl⟩
  have hlent : ∀ p, fwd p = none → ∀ b, L p = some b → ¬ ∃ q, Lc q = some b := by
   rintro p hp b hb ⟨q, hq⟩
   obtain ⟨p', h1, h2⟩ := hLc1 q b hq
   have e := hR.heap.inj p p' b hb h2
   subst e
   rw [(hfb p q).2 h1] at hp; cases hp
  have hL2o : ∀ p b, L2 p = some b → (∃ o, L o = some b) ∨ w.heap.size ≤ b := fun p b h => by
   rcases hcase p with ⟨q, hq⟩ | hq
   ·rw [hL2f p q hq] at h
    rcases hnew q b h with ⟨q', h1⟩ | h1
    ·exact .inl (hown q' b h1)
    ·exact .inr h1
   ·rw [hL2n p hq] at h; exact .inl ⟨p, h⟩
  have hAv2 : ∀ b, Av G.S L2 b → Av Sc L' b := by
   rintro b (h | ⟨p, h⟩)
   ·exact .inl (hGS b h)
   ·rcases hcase p with ⟨q, hq⟩ | hq
    ·rw [hL2f p q hq] at h; exact .inr ⟨q, h⟩
    ·rw [hL2n p hq] at h
     refine .inl ?_
     rw [hSc]; exact ⟨.inr ⟨p, h⟩, hlent p hq b h⟩
  have hblk : ∀ b, b < w.heap.size → ¬ (∃ q, Lc q = some b) → w'.heap[b]? = w.heap[b]? := fun b hb h => hx.block b hb h
  have hVb : ∀ d v, V w' L' (Av Sc L') d v → V w' L2 (Av G.S L2) (rn back d) v := fun d v hd => hd.rn back hAv2 fun q p b h1 h2 => by
   rw [hL2f p q ((hfb p q).2 h1)]; exact h2
  have hVk : ∀ d v, V w L (Av G.S L) d v → V w' L2 (Av G.S L2) (rn (pgH h fwd) d) v := fun d v hd => by
   have h1 := hd.rn (L' := fun p => (pgH h fwd p).bind L) (A' := Av G.S L) (pgH h fwd) (fun _ h => h) (fun o p b h1 h2 => by
    have e : o = p := by
     unfold pgH at h1; split at h1
     ·split at h1
      ·cases h1
      ·simpa using h1
     ·simpa using h1
    subst e
    show (pgH h fwd o).bind L = some b
    rw [h1]; exact h2)
   refine h1.mono (fun b hb hA => ⟨hblk b hb fun h => hA ((hown _ b h.choose_spec).elim fun p h => .inr ⟨p, h⟩), ?_⟩) fun o b _ ho => ?_
   ·rintro (h | ⟨p, h⟩)
    ·exact hA (.inl h)
    ·rcases hL2o p b h with h2 | h2
     ·exact hA (.inr h2)
     ·omega
   ·have ho' : L o = some b ∧ (fwd o = none ∨ ∃ q, fwd o = some q ∧ 1048576 ≤ q) := by
     unfold pgH at ho
     cases hq : fwd o with
     | none => rw [hq] at ho; exact ⟨ho, .inl rfl⟩
     | some q =>
      rw [hq] at ho
      simp only at ho
      split at ho
      ·cases ho
      ·rename_i hc
       have hLo : L o = some b := ho
       refine ⟨hLo, .inr ⟨q, rfl, ?_⟩⟩
       obtain ⟨c, hc2⟩ := hR.heap.dom o b hLo
       rcases Nat.lt_or_ge q 1048576 with h | h
       ·exact absurd ⟨h, by rw [hc2]; rfl⟩ hc
       ·exact h
    refine ⟨?_, hshp b (hR.heap.lt ho'.1)⟩
    rcases ho'.2 with h | ⟨q, h, hq⟩
    ·rw [hL2n o h]; exact ho'.1
    ·rw [hL2f o q h]; exact hkeep q b (hLc2 o q b h ho'.1) hq
  have hRn : R G L2 (fun s => rn (pgH h fwd) (σ s)) h2 a w' := by
   refine ⟨hR.size, hR.defers, fun s => ?_, ⟨fun p b hb => ?_, fun p c hc => ?_, fun p p' b h1 h2 => ?_, fun p b hb hs => ?_, fun p b hb => ?_⟩, ⟨hx.os.trans hR.ext.os, hx.tape.trans hR.ext.tape, hx.output.trans hR.ext.output, Nat.le_trans hR.ext.size hx.size, fun k hk hS => ?_⟩, fun k hk => Nat.lt_of_lt_of_le (hR.sLt k hk) hx.size, fun p b hb => ?_, fun p b hb => ?_, fun k hk => ?_⟩
   ·exact hVk _ _ (hR.slots s)
   ·rw [hH2]
    rcases hcase p with ⟨q, hq⟩ | hq
    ·rw [hL2f p q hq] at hb
     obtain ⟨c, hc⟩ := hH'.dom q b hb
     exact ⟨_, by rw [hq]; simp only [hc, Option.map_some]; rfl⟩
    ·rw [hL2n p hq] at hb
     obtain ⟨c, hc⟩ := hR.heap.dom p b hb
     exact ⟨_, by rw [hq]; simp only [hc, Option.map_some]; rfl⟩
   ·rw [hH2] at hc
    rcases hcase p with ⟨q, hq⟩ | hq
    ·rw [hq] at hc
     simp only [Option.map_eq_some_iff] at hc
     obtain ⟨c0, h1, rfl⟩ := hc
     rcases hH'.obj q c0 h1 with ⟨h2, h3⟩ | ⟨b, cs, T, h2, h3, h4, h5⟩
     ·exact .inl ⟨by rw [hL2f p q hq, h2], by rw [h3]; rfl⟩
     ·refine .inr ⟨b, cs, T, by rw [hL2f p q hq, h2], h3, by simpa using h4, fun k d u hk hu => ?_⟩
      rw [List.getElem?_map, Option.map_eq_some_iff] at hk
      obtain ⟨d0, hd0, rfl⟩ := hk
      exact hVb _ _ (h5 k d0 u hd0 hu)
    ·rw [hq] at hc
     simp only [Option.map_eq_some_iff] at hc
     obtain ⟨c0, h1, rfl⟩ := hc
     rcases hR.heap.obj p c0 h1 with ⟨h2, h3⟩ | ⟨b, cs, T, h2, h3, h4, h5⟩
     ·exact .inl ⟨by rw [hL2n p hq, h2], by rw [h3]; rfl⟩
     ·refine .inr ⟨b, cs, T, by rw [hL2n p hq, h2], (hblk b (hR.heap.lt h2) (hlent p hq b h2)).trans h3, by simpa using h4, fun k d u hk hu => ?_⟩
      rw [List.getElem?_map, Option.map_eq_some_iff] at hk
      obtain ⟨d0, hd0, rfl⟩ := hk
      exact hVk _ _ (h5 k d0 u hd0 hu)
   ·have mixed : ∀ p p' q, fwd p = some q → fwd p' = none → L2 p = some b → L2 p' = some b → False := fun p p' q hq hn h1 h2 => by
     rw [hL2f p q hq] at h1
     rw [hL2n p' hn] at h2
     rcases hnew q b h1 with ⟨q', h3⟩ | h3
     ·exact hlent p' hn b h2 ⟨q', h3⟩
     ·have := hR.heap.lt h2; omega
    rcases hcase p with ⟨q, hq⟩ | hq <;> rcases hcase p' with ⟨q', hq'⟩ | hq'
    ·rw [hL2f p q hq] at h1
     rw [hL2f p' q' hq'] at h2
     have e := hH'.inj q q' b h1 h2
     subst e
     have h3 := (hfb p q).1 hq
     rw [(hfb p' q).1 hq'] at h3
     exact (Option.some.inj h3).symm
    ·exact (mixed p p' q hq hq' h1 h2).elim
    ·exact (mixed p' p q' hq' hq h2 h1).elim
    ·rw [hL2n p hq] at h1
     rw [hL2n p' hq'] at h2
     exact hR.heap.inj p p' b h1 h2
   ·rcases hcase p with ⟨q, hq⟩ | hq
    ·rw [hL2f p q hq] at hb
     exact hH'.notS q b hb (hGS b hs)
    ·rw [hL2n p hq] at hb
     exact hR.heap.notS p b hb hs
   ·rcases hcase p with ⟨q, hq⟩ | hq
    ·rw [hL2f p q hq] at hb
     exact (hH'.ty q b hb).rn (hty p q hq).symm
    ·rw [hL2n p hq] at hb
     exact (hR.heap.ty p b hb).imm_shape (hshp b (hR.heap.lt hb))
   ·refine (hblk k (Nat.lt_of_lt_of_le hk hR.ext.size) ?_).trans (hR.ext.block k hk hS)
    rintro ⟨q, hq⟩
    obtain ⟨p, hp⟩ := hown q k hq
    rcases hR.own p k hp with h1 | h1
    ·exact hS h1
    ·omega
   ·rcases hL2o p b hb with ⟨o, ho⟩ | h1
    ·exact hR.own o b ho
    ·exact .inr (Nat.le_trans hR.ext.size h1)
   ·obtain ⟨h1, h2⟩ := hR.keep p b hb
    refine ⟨?_, h2⟩
    rcases hcase p with ⟨q, hq⟩ | hq
    ·rw [hL2f p q hq]; exact hkeep q b (hLc2 p q b hq h1) (hkp p q hq h2)
    ·rw [hL2n p hq]; exact h1
   ·exact (hshp k (Nat.lt_of_lt_of_le hk hR.ext.size)).trans (hR.shp k hk)
  exact ⟨v, r, Hc', h2, L2, rfl, hQ, hH2, hRn, hVb _ _ hr⟩
theorem pgh1 (h : Heap) (o p : Nat) : pgH h (fwd1 o) p = some p := by
 unfold pgH fwd1
 split
 ·rename_i q h1
  split at h1
  ·cases h1; rw [if_neg (by omega)]
  ·cases h1
 ·rfl
theorem TCalls.run {P : Program} {G : Cx} {L : Nat → Option Nat} {σ : Nat → DV} {h : Heap} {a : Act} {w : World} {us : Array Value} {f : Nat} {ds : List DV} {o : Nat} {cells : List DV} {Q : DV → List DV → Prop}
  (hc : TCalls P f (ds.map (rn (fwd1 o))) cells Q) (ho : h o = some cells) (hlo : tyNo o) (hrf : ∀ d ∈ cells, d.rf = true) (hG : G.ok P) (hR : R G L σ h a w) (hs : us.size = ds.length)
  (hv : ∀ (k : Nat) d v, ds[k]? = some d → us[k]? = some v → V w L (Av G.S L) d v) :
  Calls P f us w fun e w' => ∃ v r c' L2, e = .returned v ∧ r.rf = true ∧ (∀ x ∈ c', x.rf = true) ∧ Q r c' ∧ R G L2 σ (h.upd o (some c')) a w' ∧ V w' L2 (Av G.S L2) r v := by
 refine (MRel.run (fwd1 o) (back1 o) (fb1 o) (fun p q h1 _ => ?_) (fun p q h1 => (by unfold fwd1 at h1; split at h1 <;> cases h1; subst p; exact hlo.eq (by decide))) (Hc := [(1048576, cells)]) (h := h) (fun q => ?_) hc hG hR hs hv).mono ?_
 ·unfold fwd1 at h1; split at h1
  ·cases h1; exact Nat.le_refl _
  ·cases h1
 ·rw [lkH_one]
  unfold back1
  by_cases e : q = 1048576
  ·subst e
   rw [if_pos rfl, if_pos rfl, Option.bind_some, ho, Option.map_some, map_rf _ hrf]
  ·rw [if_neg e, if_neg (Ne.symm e), Option.bind_none]
 ·rintro e w' ⟨v, r, Hc', h2, L2, rfl, ⟨c', rfl, hc', hr, hQ⟩, hh2, hR2, hV⟩
  have e1 : (fun s => rn (pgH h (fwd1 o)) (σ s)) = σ := funext fun s => rn_id (pgh1 h o) _
  have e2 : h2 = h.upd o (some c') := by
   funext p
   rw [hh2]
   unfold fwd1 Heap.upd
   by_cases e : p = o
   ·subst e
    simp only [if_true, lkH_one, Option.map_some, map_rf _ hc']
   ·simp only [if_neg e]
    cases h p with
    | none => rfl
    | some c =>
     simp only [Option.map_some, Option.some.injEq]
     conv => rhs; rw [← List.map_id c]
     exact List.map_congr_left fun d _ => rn_id (pgh1 h o) d
  rw [e1, e2] at hR2
  rw [rn_rf _ r hr] at hV
  exact ⟨v, r, c', L2, rfl, hr, hc', hQ, hR2, hV⟩
section
variable {F : FnD} {G : Cx} {L : Nat → Option Nat} {a : Act} {w : World} {σ : Nat → DV} {h : Heap}
end
theorem W_wkc {F : FnD} {c : DC} {Q : Ex → Fr → Hp → Prop} {fr : Fr} {H : Hp} (p : Nat) {cells cells' : List DV} (hp : lkH H p = some cells) (hl : cells'.length = cells.length)
  (hw : ∀ (k : Nat) d d', cells[k]? = some d → cells'[k]? = some d' → ∀ (w : World) (L : Nat → Option Nat) (A : Nat → Prop) (v : Value), V w L A d v → V w L A d' v) (h : W F c Q fr (setH H p cells')) : W F c Q fr H := by
 intro code hc G L a w hn hR
 refine h code hc G L a w hn { hR with heap := ⟨fun q b hq => ?_, fun q cs hq => ?_, hR.heap.inj, hR.heap.notS, hR.heap.ty⟩ }
 ·rw [lkH_setH]
  split
  ·exact ⟨_, rfl⟩
  ·exact hR.heap.dom q b hq
 ·rw [lkH_setH] at hq
  split at hq
  ·rename_i e
   subst e
   cases hq
   rcases hR.heap.obj q cells hp with ⟨h1, h2⟩ | ⟨b, cs2, T, h1, h2, h3, h4⟩
   ·exact .inl ⟨h1, List.eq_nil_of_length_eq_zero (by rw [hl, h2]; rfl)⟩
   ·refine .inr ⟨b, cs2, T, h1, h2, by rw [hl]; exact h3, fun k d v hd hv => ?_⟩
    obtain ⟨d0, hd0⟩ := exists_get (l := cells) (k := k) (by have := (List.getElem?_eq_some_iff.1 hd).1; omega)
    exact hw k d0 d hd0 hd _ _ _ v (h4 k d0 v hd0 hv)
  ·exact hR.heap.obj q cs hq
theorem wk_nils (sz : Nat) (w : World) (L : Nat → Option Nat) (A : Nat → Prop) (v : Value) (h : V w L A .nils v) : V w L A (.sl sz []) v := by
 rw [h.inv_nils]
 exact .imm (.sl0 _ _ _)
end Go.Dat
namespace Go.Dat
open Go
def okHD (D : Hp) : Prop := ∀ e ∈ D, (100000 ≤ e.1 ∧ e.1 < 200000) ∧ ∀ d ∈ e.2, d.rf = true
theorem okHD.lk {D : Hp} (h : okHD D) : ∀ {p : Nat} {c : List DV}, lkH D p = some c → (100000 ≤ p ∧ p < 200000) ∧ ∀ d ∈ c, d.rf = true := by
 induction D with
 | nil => intro p c e; cases e
 | cons a D ih =>
  intro p c e
  obtain ⟨k, d⟩ := a
  simp only [lkH] at e
  split at e
  ·rename_i hk
   subst hk
   cases e
   exact h _ List.mem_cons_self
  ·exact ih (fun x hx => h x (List.mem_cons_of_mem _ hx)) e
theorem okHD.no {D : Hp} (h : okHD D) {p : Nat} (hp : p < 100000 ∨ 200000 ≤ p) : lkH D p = none := by
 cases e : lkH D p with
 | none => rfl
 | some c =>
  have := (h.lk e).1
  omega
theorem okHD.map {D : Hp} (h : okHD D) {f : DV → DV} (hf : ∀ d : DV, d.rf = true → f d = d) : mapH f D = D := by
 induction D with
 | nil => rfl
 | cons a D ih =>
  obtain ⟨k, d⟩ := a
  simp only [mapH]
  rw [ih fun x hx => h x (List.mem_cons_of_mem _ hx), List.map_congr_left (g := id) fun x hx => hf x ((h (k, d) List.mem_cons_self).2 x hx), List.map_id]
theorem okHD.purge {D : Hp} (h : okHD D) (o : Nat) : mapH (purge o) D = D := h.map fun _ hd => purge_of_rf o hd
def okO (D : Hp) (d : DV) : Prop := d.rf = true ∨ ∃ s o n, d = .osl s o 0 n ∧ (lkH D o).isSome = true
theorem okO.purge {D : Hp} (hD : okHD D) {d : DV} (h : okO D d) {p : Nat} (hp : p < 100000) : Dat.purge p d = d := by
 rcases h with h | ⟨s, o, n, rfl, ho⟩
 ·exact purge_of_rf p h
 ·obtain ⟨c, hc⟩ := Option.isSome_iff_exists.1 ho
  have := (hD.lk hc).1
  unfold Dat.purge
  rw [if_neg]
  simp [DV.has]
  omega
theorem okO.frz {D : Hp} (hD : okHD D) {d : DV} (h : okO D d) {p : Nat} (hp : p < 100000) (cs : List DV) : Dat.frz p cs d = d := by
 rcases h with h | ⟨s, o, n, rfl, ho⟩
 ·have := map_frz p cs (cs := [d]) (by simpa using h)
  simpa using this
 ·obtain ⟨c, hc⟩ := Option.isSome_iff_exists.1 ho
  have := (hD.lk hc).1
  simp only [Dat.frz]
  rw [if_neg (by omega)]
section
variable {pre post : List DV} {x y l c : DV}
end
end Go.Dat
namespace Go.Dat
open Go
theorem W_ext {F : FnD} {c : DC} {Q : Ex → Fr → Hp → Prop} {fr : Fr} {H : Hp} (H' : Hp) (he : ∀ p, lkH H p = lkH H' p) (h : W F c Q fr H') : W F c Q fr H := by
 have e : lkH H = lkH H' := funext he
 intro code hc G L a w hn hR
 rw [e] at hR
 exact h code hc G L a w hn hR
section
variable {F : FnD} {G : Cx}
theorem sOpers_split {P : Program} {vs own : List Nat} {n : Nat} {ops : Array Oper} : ∀ (d0 d1 : List DOper) (l : List Oper), sOpers P vs own n ops l = some (d0 ++ d1) →
  ∃ l0 l1, l = l0 ++ l1 ∧ sOpers P vs own n ops l0 = some d0 ∧ sOpers P vs own n ops l1 = some d1
 | [], d1, l, h => ⟨[], l, rfl, rfl, h⟩
 | x :: d0, d1, [], h => by simp [sOpers] at h
 | x :: d0, d1, o :: l, h => by
  simp only [sOpers, Option.bind_eq_some_iff, Option.map_eq_some_iff] at h
  obtain ⟨d, hd, ds, hds, e⟩ := h
  simp only [List.cons_append, List.cons.injEq] at e
  obtain ⟨rfl, rfl⟩ := e
  obtain ⟨l0, l1, rfl, h1, h2⟩ := sOpers_split d0 d1 l hds
  exact ⟨o :: l0, l1, rfl, by simp only [sOpers, hd, Option.bind_some, h1, Option.map_some], h2⟩
theorem regW_pre {ops : Array Oper} {Q : Exit → Act → World → Prop} {Kd : Fr → Fr → Hp → Prop} {l1 : List Oper} (hn : G.n = F.n ∧ G.ok F.P)
  (hK : ∀ te fr H L a w, R G L (den F.vs te fr) (lkH H) a w → Kd te fr H → wpList F.P ops Q l1 a w) :
  ∀ (l : List Oper) (ds : List DOper), sOpers F.P F.vs F.own F.n ops l = some ds → ∀ (te fr : Fr) (H : Hp) (L : Nat → Option Nat) (a : Act) (w : World),
   R G L (den F.vs te fr) (lkH H) a w → regW F ds te fr H Kd → wpList F.P ops Q (l ++ l1) a w
 | [], ds, hs, te, fr, H, L, a, w, hR, hW => by
  simp only [sOpers, Option.some.injEq] at hs
  subst hs
  exact hK _ _ _ _ _ _ hR hW
 | o :: l, ds, hs, te, fr, H, L, a, w, hR, hW => by
  show wpList F.P ops Q (o :: (l ++ l1)) a w
  simp only [sOpers, Option.bind_eq_some_iff, Option.map_eq_some_iff] at hs
  obtain ⟨dp, hdp, ds', hds', rfl⟩ := hs
  have ih := regW_pre hn hK l ds' hds'
  have hgd : sGuard F.vs ops o.guard = some dp.guard ∧ dp.dst = sDst F.vs o.dst ∧ ∀ k, o.dst = some k → k < F.n := by
   simp only [sOper, Option.bind_eq_some_iff] at hdp
   obtain ⟨p, hp, g, hg, hs⟩ := hdp
   split at hs
   ·rename_i hd; cases hs; exact ⟨hg, rfl, dst_lt hd⟩
   ·cases hs
  obtain ⟨hg, hdst, hdl⟩ := hgd
  have hskip : Region.wanted o (yielded ops a.tmps) = false → regW F ds' (dp.dst.onT te (.tup [])) (dp.dst.onX fr (.tup [])) H Kd → wpList F.P ops Q (o :: (l ++ l1)) a w := by
   intro hw hW'
   have hput := hR.put (V_undef) (dst := o.dst) (by rw [hn.1]; exact hdl)
   rw [← den_put, ← hdst] at hput
   simp only [wpList, hw]
   exact ih _ _ _ _ _ _ hput hW'
  have hgo : Region.wanted o (yielded ops a.tmps) = true → (match dp.op with
   | .call f args => callR F f (args.map (ev te fr)) te fr H fun d te' fr' H' => regW F ds' (dp.dst.onT te' d) (dp.dst.onX fr' d) H' Kd
   | p => OW (opE F.nb dp.dst.slot (ev te fr) (lkH H) p) fun r => regW F ds' (dp.dst.onT (r.2.onF te) r.1) (dp.dst.onX (r.2.onF fr) r.1) (r.2.onL H) Kd) → wpList F.P ops Q (o :: (l ++ l1)) a w := by
   intro hw hg'
   simp only [wpList, hw, if_true]
   exact .inl (oper_sound (Kd := fun te fr H => regW F ds' te fr H Kd) hdp hn hR (fun te fr H L a w hR' hk => ih te fr H L a w hR' hk) hg')
  simp only [regW] at hW
  cases hgu : dp.guard with
  | none =>
   rw [hgu] at hg hW
   exact hgo (wanted_none _ hg) hW
  | some p =>
   obtain ⟨g, want⟩ := p
   rw [hgu] at hg hW
   simp only at hW
   split at hW
   ·rename_i b hb
    have hwn := wanted_bool hR hg hb
    by_cases hbw : b = want
    ·exact hgo (by rw [hwn]; simp [hbw]) (hW.1 hbw)
    ·exact hskip (by rw [hwn]; simp [hbw]) (hW.2 (by cases b <;> cases want <;> simp_all))
   ·rename_i hb
    exact hskip (wanted_skip hR hg hb) hW
   ·exact hW.elim
theorem sOp_call {P : Program} {vs own : List Nat} {dst : Option Nat} {op : Op} {f : Nat} {args : List Opd} (hp : sOp P vs own dst op = some (.call f args)) :
  ∃ c fn, op = .call c ∧ c.callee = .value (.func f) ∧ P.funcs[f]? = some fn ∧ fn.body.isSome = true ∧ (fn.name != "runtime.NumGoroutine") = true ∧ args = c.args.toList.map (sOpd vs) := by
 cases op with
 | call c =>
  obtain ⟨callee, cargs, argTypes⟩ := c
  cases callee with
  | value q =>
   cases q with
   | func f' =>
    simp only [sOp] at hp
    split at hp
    ·rename_i fn hfn
     split at hp
     ·rename_i hcond
      cases hp
      simp only [Bool.and_eq_true] at hcond
      exact ⟨_, fn, rfl, rfl, hfn, hcond.1, hcond.2, rfl⟩
     ·cases hp
    ·cases hp
   | _ => simp [sOp] at hp
  | invoke r m => simp [sOp] at hp
  | builtin b =>
   exfalso
   cases b <;> simp only [sOp] at hp <;> (repeat' split at hp) <;> first | (cases hp; done) | (simp [Option.bind_eq_some_iff] at hp; done) | (simp only [Option.bind_eq_some_iff] at hp; obtain ⟨_, _, hp⟩ := hp; split at hp <;> cases hp) 
 | _ =>
  exfalso
  exact sOp_nocall (by intro c e; cases e) hp
end
inductive RX where
 | ret (d : DV)
 | pan (ch : List PanicEntry)
end Go.Dat
