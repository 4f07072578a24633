/- Lemmas of the walk; no conditions beyond those that each states. -/
import Derived.OpenShut
import Derived.Below
import Derived.HandedShaped
import Derived.Handed
import Derived.Test.YtjahkcgckiobkaaGreatDoorD2
import Derived.Test.YtjahkcgckiobkaaGreatDoorT2
import Derived.Test.YtjahkcgckiobkaaGreatDoorN1
import Derived.Test.YtjahkcgckiobkaaGreatDoorT1
import Derived.Test.YtjahkcgckiobkaaGreatDoorC1
set_option linter.unusedSimpArgs false
set_option linter.unusedVariables false
set_option linter.unnecessarySimpa false
set_option maxHeartbeats 4000000
namespace Go.Proofs.YtjahkcgckiobkaaGreatDoor
open Go Go.Dat Go.Proofs Go.RowKit Go.Shelf Nat32
def exF1 : Fx := ⟨[120], 1, [[78, 65]], qX (Rat.divInt 1 100)⟩
def exF2 : Fx := ⟨[103], 2, [], (false, [], [])⟩
def exR : List (List Bs) := [[[50, 53, 48], [97]], [[78, 65], [98]]]
def exC1 : List Tc := [⟨false, qX (Rat.divInt 5 2), 0⟩, ⟨true, (false, [], []), 0⟩]
def exC2 : List Tc := [⟨false, (false, [], []), 0⟩, ⟨false, (false, [], []), 1⟩]
def exK : List DV := [.str [120], .int .i64 1, .sl 1 (strL []), .sl 5 (cxs exC1), .str [103], .int .i64 2, .sl 1 (strL [[97], [98]]), .sl 5 (cxs exC2)]
theorem ex_bld : bldR [exF1, exF2] exR = .tup [.agg [.int .i64 2, .sl 4 exK], .int .i64 0, .int .i64 0] := by
 rw [bldR_ok (by decide) (by kernel_rfl) (by kernel_rfl) (by kernel_rfl)]
 have e : (recR parseQ [exF1, exF2] exR exR.length).2 = [([], exC1), ([[97], [98]], exC2)] := by kernel_rfl
 rw [e]
 rfl
theorem ex_lim (x : Rat) (h : RB x 10) : okN0 (qX x) := ⟨lim_limbs _, lim_dn _, Nat.le_trans h.1 (by decide), Nat.le_trans (RB_dn h) (by decide)⟩
theorem ex_build : PCalls Tryz.prog 13 [.sl 6 (fxC exF1 ++ [.str [103], .int .i64 2, .nils, .bool false, .nils, .nils]), .sl 1 [.sl 1 [.str [50, 53, 48], .str [97]], .sl 1 [.str [78, 65], .str [98]]]] (.tup [.agg [.int .i64 2, .sl 4 exK], .int .i64 0, .int .i64 0]) := by
 rw [← ex_bld]
 refine PCalls_wk (ds' := [.sl 6 (fxs [exF1, exF2]), .sl 1 (recD exR)]) (.cons (WkD.sl 6 (WkL.app (WkL.refl _) ?_)) (.cons (WkD.refl _) .nil)) (tBld_calls [exF1, exF2] exR (by decide) (by decide) ?_ ?_ ?_ ?_)
 ·exact .cons (WkD.refl _) (.cons (WkD.refl _) (.cons (WkD.nils 1) (.cons (WkD.refl _) (.cons (WkD.nils 1) (.cons (WkD.nils 1) .nil)))))
 ·intro f hf
  simp only [List.mem_cons, List.not_mem_nil, or_false] at hf
  rcases hf with rfl | rfl
  ·exact ex_lim _ (by unfold RB; decide +kernel)
  ·show okN0 ((false, [], []) : XN)
   exact ⟨fun x hx => absurd hx List.not_mem_nil, fun x hx => absurd hx List.not_mem_nil, Nat.zero_le _, Nat.zero_le _⟩
 ·intro f hf
  simp only [List.mem_cons, List.not_mem_nil, or_false] at hf
  rcases hf with rfl | rfl <;> decide
 ·intro f hf
  simp only [List.mem_cons, List.not_mem_nil, or_false] at hf
  rcases hf with rfl | rfl <;> decide
 ·intro r hr
  simp only [exR, List.mem_cons, List.not_mem_nil, or_false] at hr
  rcases hr with rfl | rfl
  ·refine ⟨by decide, fun s hs => ?_⟩
   simp only [List.mem_cons, List.not_mem_nil, or_false] at hs
   rcases hs with rfl | rfl <;> decide
  ·refine ⟨by decide, fun s hs => ?_⟩
   simp only [List.mem_cons, List.not_mem_nil, or_false] at hs
   rcases hs with rfl | rfl <;> decide
theorem lt_awake_calls : PCalls Tryz.prog 12 [] (.bool true) := by
 have c1 := pFraction_calls 1 100 (by decide) (by decide) (by decide)
 have c2 := pFraction_calls 5 2 (by decide) (by decide) (by decide)
 have c3 := ex_build
 have c4 : PCalls Tryz.prog 20 [Q (Rat.divInt 5 2), Q (Rat.divInt 5 2)] (.bool true) := by
  have := pSameL (Rat.divInt 5 2) (Rat.divInt 5 2) (by unfold RB; decide +kernel) (by unfold RB; decide +kernel)
  rwa [decide_eq_true rfl] at this
 have h1 : laid [.str [], .int .i64 0, .nils, .bool false, .nils, .nils] [(0, 1, .str [120]), (1, 1, .int .i64 1), (2, 1, .sl 1 [.str [78, 65]]), (3, 3, Q (Rat.divInt 1 100))] = some (fxC exF1) := rfl
 have h2 : laid [.str [], .int .i64 0, .nils, .bool false, .nils, .nils] [(0, 1, .str [103]), (1, 1, .int .i64 2)] = some [.str [103], .int .i64 2, .nils, .bool false, .nils, .nils] := rfl
 have h3 : laid [.str [], .int .i64 0, .nils, .bool false, .nils, .nils, .str [], .int .i64 0, .nils, .bool false, .nils, .nils] [(0, 6, .agg (fxC exF1)), (6, 6, .agg [.str [103], .int .i64 2, .nils, .bool false, .nils, .nils])] = some (fxC exF1 ++ [.str [103], .int .i64 2, .nils, .bool false, .nils, .nils]) := rfl
 have h4 : ∀ a b : List DV, laid [.nils, .nils] [(0, 1, .sl 1 a), (1, 1, .sl 1 b)] = some [.sl 1 a, .sl 1 b] := fun _ _ => rfl
 have h5 : ∀ a b : Bs, laid [.str [], .str []] [(0, 1, .str a), (1, 1, .str b)] = some [.str a, .str b] := fun _ _ => rfl
 have h6 : ∀ a : Bs, laid [.str []] [(0, 1, .str a)] = some [.str a] := fun _ => rfl
 generalize hA : fxC exF1 ++ [.str [103], .int .i64 2, .nils, .bool false, .nils, .nils] = A at *
 have hAr : ∀ d ∈ A, d.rf = true := by rw [← hA]; exact List.all_eq_true.1 rfl
 have k3 : exK.getD 3 .undef = .sl 5 (cxs exC1) := rfl
 obtain ⟨Y, hY⟩ : ∃ Y : List DV, Y = [.str [97], .str [98]] := ⟨_, rfl⟩
 have k6 : exK.getD 6 .undef = .sl 1 Y := by rw [hY]; rfl
 have yl : Y.length = 2 := by rw [hY]; rfl
 have kl : exK.length = 8 := rfl
 have x1 : ((cxs exC1).drop 1).take 3 = xnC (qX (Rat.divInt 5 2)) := rfl
 have x5 : (cxs exC1).getD 5 .undef = .bool true := rfl
 have xl : (cxs exC1).length = 10 := rfl
 have hq : DV.agg (xnC (qX (Rat.divInt 5 2))) = Q (Rat.divInt 5 2) := rfl
 generalize exK = K at *
 generalize cxs exC1 = C at *
 generalize xnC (qX (Rat.divInt 5 2)) = X at *
 refine PCalls_of islt_awake (by simp [fnlt_awake]) ?_
 unfold codelt_awake
 refine zS h6 ?_
 refine ⟨List.all_eq_true.1 rfl, ?_⟩
 refine cP c1 ?_
 refine zS (zA h1 (zA h2 (zA h3 (zA h4 h5)))) ?_
 repeat refine ⟨List.all_eq_true.1 rfl, ?_⟩
 refine cP c3 ?_
 have dT : decide True = true := rfl
 have e84 : 8 / 4 = 2 := rfl
 have e105 : 10 / 5 = 2 := rfl
 have c22 : ((2 : Nat) : Int) = 2 := rfl
 have t0 : (0 : Int).toNat = 0 := rfl
 have t1 : (1 : Int).toNat = 1 := rfl
 refine zS (zA @cS (zA k3 (zA k6 (zA kl (zA x1 (zA x5 (zA xl (zA yl (zA hq (zA dT (zA e84 (zA e105 (zA c22 (zA t0 (zA t1 (zA @Nat.zero_mul (zA @Nat.zero_add @Nat.one_mul))))))))))))))))) ?_
 refine cP c2 ?_
 refine zS (zA @cS (zA k3 (zA k6 (zA kl (zA x1 (zA x5 (zA xl (zA yl (zA hq (zA dT (zA e84 (zA e105 (zA c22 (zA t0 (zA t1 (zA @Nat.zero_mul (zA @Nat.zero_add @Nat.one_mul))))))))))))))))) ?_
 refine cP c4 ?_
 refine zS (zA @cS (zA k3 (zA k6 (zA kl (zA x1 (zA x5 (zA xl (zA yl (zA hq (zA dT (zA e84 (zA e105 (zA c22 (zA t0 (zA t1 (zA @Nat.zero_mul (zA @Nat.zero_add @Nat.one_mul))))))))))))))))) ?_
 exact W_ret (RetP_1 (.imm rfl))
theorem zer_of {x : XN} (h : zeuB x = true) : zerB x = true := by
 unfold zeuB at h
 simp only [Bool.and_eq_true, Bool.not_eq_true', decide_eq_true_eq] at h
 obtain ⟨⟨h1, h2⟩, h3⟩ := h
 have : x = (false, [], []) := Prod.ext h1 (Prod.ext h2 h3)
 rw [this]; exact zerB_0
theorem fit_of {k : Kx} {x : Tc} (h : fitU k x = true) : fitB k x = true := by
 unfold fitU at h
 unfold fitB
 split
 ·rename_i h1
  rw [if_pos h1, Bool.and_eq_true] at h
  rw [zer_of h.1, h.2]; rfl
 ·rename_i h1
  rw [if_neg h1] at h
  split
  ·rename_i h2; rwa [if_pos h2] at h
  ·rename_i h2
   rw [if_neg h2, Bool.and_eq_true, Bool.and_eq_true] at h
   rw [zer_of h.1.1, h.1.2, h.2]; rfl
theorem tab_of_U {n : Int} {S : List Kx} (h : tabU n S = true) : tabB n S = true ∧ 0 ≤ n ∧ n ≤ 1024 ∧ S.length ≤ 32 ∧ ∀ k ∈ S, (k.ce.length : Int) = n := by
 unfold tabU at h
 simp only [Bool.and_eq_true, decide_eq_true_eq, List.all_eq_true] at h
 obtain ⟨⟨⟨⟨h1, h2⟩, h3⟩, h4⟩, h5⟩ := h
 refine ⟨?_, h1, h2, h3, fun k hk => ?_⟩
 ·unfold tabB
  simp only [Bool.and_eq_true, decide_eq_true_eq, List.all_eq_true]
  refine ⟨⟨⟨⟨h1, h2⟩, h3⟩, h5⟩, fun k hk => ?_⟩
  have := h4 k hk
  unfold colU at this
  unfold colB
  simp only [Bool.and_eq_true, List.all_eq_true] at this ⊢
  exact ⟨this.1, fun c hc => fit_of (this.2 c hc)⟩
 ·have := h4 k hk
  unfold colU shpB at this
  simp only [Bool.and_eq_true, decide_eq_true_eq] at this
  exact this.1.1.2
theorem uFind_calls (n : Int) (S : List Kx) (s : Bs) (h : okT S) (hv : tabU n S = true) : PCalls Tryz.prog 31 [.agg [.int .i64 n, .sl 4 (kxs S)], .str s] (.int .i64 (ixS (knmL S) s)) := by
 have hln : (kxs S).length / 4 = S.length := by rw [kxs_len]; omega
 have hlen := kxs_len S
 have hl := h.1
 have hca : (DV.agg [.int .i64 n, .sl 4 (kxs S)]).cells? = some [.int .i64 n, .sl 4 (kxs S)] := rfl
 have cv := uValid_calls n S h
 rw [hv] at cv
 refine PCalls_of isuFind (by simp [fnuFind]) ?_
 unfold codeuFind
 refine zS (zA hca @cS) ?_
 refine cP cv ?_
 refine zR ?_
 refine wFs ?_
 refine zR ?_
 refine W_loop (σ := Nat) (fun i => [(1, .str s), (2, .ptr 2 0), (5, .int .i64 i)]) (fun _ => [(2, [.int .i64 n, .sl 4 (kxs S)])]) (fun i => i ≤ S.length ∧ ∀ j, j < i → (knmL S).getD j [] ≠ s) (fun i => S.length - i) 0 ⟨Nat.zero_le _, by simp⟩ ?_ rfl ?_
 ·simp [subF, lk]
 ·rintro i ⟨hi, hall⟩
  try simp only at hi hall ⊢
  by_cases hlt : i < S.length
  ·have dl : decide ((i : Int) < (S.length : Int)) = true := decide_eq_true (by omega)
   have ei : (i : Int).toNat = i := Int.toNat_natCast i
   have e1 : ((i : Int) + 1) = ((i + 1 : Nat) : Int) := by omega
   have hkn : (knmL S).getD i [] = (S.getD i default).nm := by
    unfold knmL
    rw [List.getD_eq_getElem?_getD, List.getElem?_map, List.getElem?_eq_getElem hlt, List.getD_eq_getElem?_getD, List.getElem?_eq_getElem hlt]; rfl
   have hg0 : (kxs S).getD (i * 4) .undef = .str (S.getD i default).nm := fm_at (j := 0) kxC_len default hlt (by decide) .undef
   rw [← hkn] at hg0
   by_cases hs : (knmL S).getD i [] = s
   ·have ds : decide ((knmL S).getD i [] = s) = true := decide_eq_true hs
    rw [ixS_at (by rw [knmL_len]; exact hlt) hs hall]
    refine zS (zA @cS (zA dl hln)) ?_
    refine wTs ?_
    refine zS (zA @cS (zA ei (zA hlen (zA hg0 ds)))) ?_
    refine wT ?_
    refine zR ?_
    exact W_ret (RetP_1 (.imm rfl))
   ·have ds : decide ((knmL S).getD i [] = s) = false := decide_eq_false hs
    refine zS (zA @cS (zA dl hln)) ?_
    refine wTs ?_
    refine zS (zA @cS (zA ei (zA hlen (zA hg0 ds)))) ?_
    refine wFs ?_
    refine zS e1 ?_
    exact ⟨i + 1, ⟨by omega, fun j hj => by
     rcases Nat.lt_or_ge j i with h2 | h2
     ·exact hall j h2
     ·obtain rfl : j = i := by omega
      exact hs⟩, by omega, by simp [subF, lk]⟩
  ·have dl : decide ((i : Int) < (S.length : Int)) = false := decide_eq_false (by omega)
   rw [ixS_no fun j hj => hall j (by rw [knmL_len] at hj; omega)]
   refine zS (zA @cS (zA dl hln)) ?_
   refine W_cond rfl (fun h => by cases h) (fun _ => W_exit ?_)
   refine zR ?_
   exact W_ret (RetP_1 (.imm rfl))
end Go.Proofs.YtjahkcgckiobkaaGreatDoor
namespace Go.Proofs.YtjahkcgckiobkaaGreatDoor
open Go Go.Dat Go.Proofs Go.RowKit Nat32
theorem law_of {f : Nat} {ds : List DV} {vs : Array Value} {w : World} (hc : PCalls Tryz.prog f ds (.bool true)) (hT : Tab Tryz.prog w) (hs : vs.size = ds.length) (hv : ∀ (k : Nat) d v, ds[k]? = some d → vs[k]? = some v → VI w (fun _ => False) d v) :
  Calls Tryz.prog f vs w fun e w' => e = .returned (.bool true) ∧ Below w.heap.size w w' := by
 refine (hc (fun _ => False) w vs hT (fun b h => h.elim) hs hv).mono ?_
 rintro e w' ⟨v, rfl, hvi, hx⟩
 refine ⟨?_, hx.os, hx.tape, hx.output, hx.size, fun k hk => hx.block k hk id⟩
 cases hvi; rfl
theorem max_shaped {w : World} (h : w.ShapedOpen Tryz.prog) : ∀ g, Tryz.prog.globalNamed maxName = some g → g < w.heap.size ∧ ∃ m, w.cell? ⟨g, 0, none⟩ = some (.int .i64 m) := by
 intro g hg
 rw [show Tryz.prog.globalNamed maxName = some 1 by kernel_rfl] at hg
 cases hg
 obtain ⟨m, hm⟩ := Go.Proofs.cell_of_shapedOpen_int (zero := #[.int .i64 0]) (t := 3) (g := 1) h (of_decide_eq_true (by kernel_rfl)) (by kernel_rfl) rfl (by kernel_rfl) (by kernel_rfl) Tryz.underlying3
 exact ⟨World.block_lt_of_cell? w _ hm, m, hm⟩
theorem tab_shaped {w : World} (h : w.ShapedOpen Tryz.prog) : Tab Tryz.prog w := by
 refine ⟨fun g hg => ?_, max_shaped h⟩
 rw [show Tryz.prog.globalNamed tabName = none by kernel_rfl] at hg
 cases hg
theorem handed_and_shaped {H : Type} {enc : TypeId × Value → H} {a : Assume} {C : Checked} {os : Os} {f : FuncId} {fn : Func} {s : ChangeSpec} {conds : List PathCond} {apart fresh handsOn again : Bool} {X : World → Array Value → Prop}
  (hX : ∀ (w w' : World) (args : Array Value), w.heap = w'.heap → X w args → X w' args)
  (own : ownKnob C.prog.godebug = none) (started : os.Started) (noInit : C.prog.inits.idxOf? f = none) (hfn : C.prog.funcs[f]? = some fn)
  (witness : ∃ (w : World) (tape : Tape) (i : Input), w.os = os ∧ (w.forCall tape i).Shaped C.prog ∧ i.vars = [] ∧ Input.okWide C.prog (w.forCall tape i) .any w.heap.size f i ∧
   ((s.pre enc C.prog fn conds apart (w.forCall tape i).memory i.args ∧ X (w.forCall tape i).memory i.args) ∧ sizedMet enc C.prog fn (OpenSpec.ofChange s) apart (w.forCall tape i).memory i.args) ∧ a.holds C.prog (lone (Frame.enter C.prog f i.args .normal) [] (w.forCall tape i)))
  (contract : ∀ (W : World) (base : Nat) (args : Array Value) (ds gs : List (DataW H)) (before : List MemPlace),
   (∀ (j : Nat) t v, fn.params[j]? = some t → args[j]? = some v → Value.okWide C.prog W .any base t v) →
   DataW.Whole enc C.prog fn.params.toList s.vars apart W args.toList ds gs before → X W args → W.ShapedOpen C.prog →
   Calls C.prog f args W fun e W' => ∃ v, e = .returned v ∧ s.post enc C.prog fn apart fresh handsOn again W args v W') :
  ReturnsInHanded a C os f .any (fun w args => (s.pre enc C.prog fn conds apart w args ∧ X w args) ∧ sizedMet enc C.prog fn (OpenSpec.ofChange s) apart w args) (s.post enc C.prog fn apart fresh handsOn again) := by
 refine returnsInHanded_of_calls own started noInit witness ?_
 intro w tape i _ hsh _ hok hpre _
 obtain ⟨_, _, _, fn', hfn', _, _, _, _, hval⟩ := hok
 obtain rfl : fn' = fn := Option.some.inj (hfn'.symm.trans hfn)
 obtain ⟨⟨⟨ds, gs, before, hw, _⟩, hx⟩, _⟩ := hpre
 refine (contract (w.forCall tape i) w.heap.size i.args ds gs before hval (DataW.Whole.of_heap (w' := w.forCall tape i) (by rfl) hw) (hX _ _ _ (by rfl) hx) hsh).mono ?_
 rintro e W' ⟨v, rfl, hp⟩
 exact ChangeSpec.post_blind hp
theorem lst_D {α : Type} {t : Ty} {f : α → List DV} {p : α → Prop} (hf : ∀ z, IsD t z → ∃ a, p a ∧ z = f a) : ∀ {zs : List (List DV)}, (∀ z ∈ zs, IsD t z) → ∃ l : List α, l.length = zs.length ∧ zs.flatten = l.flatMap f ∧ ∀ a ∈ l, p a
 | [], _ => ⟨[], rfl, rfl, fun a h => by cases h⟩
 | z :: zs, h => by
  obtain ⟨l, h1, h2, h3⟩ := lst_D hf (zs := zs) fun y hy => h y (List.mem_cons_of_mem _ hy)
  obtain ⟨a, g1, g2⟩ := hf z (h z List.mem_cons_self)
  refine ⟨a :: l, by simp [h1], by rw [List.flatten_cons, h2, g2]; rfl, fun x hx => ?_⟩
  rcases List.mem_cons.1 hx with rfl | hx
  ·exact g1
  ·exact h3 x hx
theorem strL_fm (l : List Bs) : l.flatMap (fun s => [DV.str s]) = strL l := by
 induction l with
 | nil => rfl
 | cons s l ih => rw [List.flatMap_cons, ih]; rfl
def okStrs (l : List Bs) : Prop := l.length ≤ 9223372036854775807 ∧ ∀ s ∈ l, s.length ≤ 9223372036854775807
theorem strs_D {zs : List (List DV)} (h : ∀ z ∈ zs, IsD .str z) (hl : zs.length ≤ 9223372036854775807) : ∃ l : List Bs, zs.flatten = strL l ∧ okStrs l := by
 obtain ⟨l, h1, h2, h3⟩ := lst_D (f := fun s : Bs => [DV.str s]) (p := fun s => s.length ≤ 9223372036854775807) (fun z hz => by obtain ⟨s, g1, g2⟩ := hz; exact ⟨s, g1, g2⟩) h
 exact ⟨l, by rw [h2, strL_fm], by rw [h1]; exact hl, h3⟩
theorem strs_D1 {z : List DV} (h : IsD (.sl .str) z) : ∃ l : List Bs, okStrs l ∧ z = [.sl 1 (strL l)] := by
 obtain ⟨zs, h1, h2, rfl⟩ := h
 obtain ⟨l, e, h3⟩ := strs_D h1 h2
 exact ⟨l, h3, by rw [e]; rfl⟩
def okXN (x : XN) : Prop := lim x.2.1 ∧ lim x.2.2 ∧ x.2.1.length ≤ 9223372036854775807 ∧ x.2.2.length ≤ 9223372036854775807
theorem xn_D {z : List DV} (h : IsD ratT z) : ∃ x : XN, okXN x ∧ z = xnC x := by
 obtain ⟨neg, a, d, h1, h2, h3, h4, rfl⟩ := h.rat
 exact ⟨(neg, a, d), ⟨h1, h2, h3, h4⟩, rfl⟩
def celT : Ty := .pair .bool (.pair ratT (.pair (.int .i64) .unit))
theorem cel_D {z : List DV} (h : IsD celT z) : ∃ c : Tc, okXN c.va ∧ z = cxC c := by
 obtain ⟨d0, r0, ⟨b, rfl⟩, ⟨d1, r1, h1, ⟨d2, r2, ⟨n, _, rfl⟩, hu, rfl⟩, rfl⟩, rfl⟩ := h
 rw [show r2 = [] from hu]
 obtain ⟨x, k2, rfl⟩ := xn_D h1
 exact ⟨⟨b, x, n⟩, k2, rfl⟩
def okCels (l : List Tc) : Prop := l.length ≤ 9223372036854775807 ∧ ∀ c ∈ l, okXN c.va
theorem cels_D {zs : List (List DV)} (h : ∀ z ∈ zs, IsD celT z) (hl : zs.length ≤ 9223372036854775807) : ∃ l : List Tc, zs.flatten = cxs l ∧ okCels l := by
 obtain ⟨l, h1, h2, h3⟩ := lst_D (f := cxC) (p := fun c => okXN c.va) (fun z hz => cel_D hz) h
 exact ⟨l, h2, by rw [h1]; exact hl, h3⟩
def colT : Ty := .pair .str (.pair (.int .i64) (.pair (.sl .str) (.pair (.sl celT) .unit)))
def okCol (k : Kx) : Prop := k.nm.length ≤ 9223372036854775807 ∧ okStrs k.le ∧ okCels k.ce
theorem col_D {z : List DV} (h : IsD colT z) : ∃ k : Kx, okCol k ∧ z = kxC k := by
 obtain ⟨d0, r0, ⟨s, g0, rfl⟩, ⟨d1, r1, ⟨n, _, rfl⟩, ⟨d2, r2, h2, ⟨d3, r3, ⟨zs, h3, h4, rfl⟩, hu, rfl⟩, rfl⟩, rfl⟩, rfl⟩ := h
 rw [show r3 = [] from hu]
 obtain ⟨l, k1, rfl⟩ := strs_D1 h2
 obtain ⟨c, e, k2⟩ := cels_D h3 h4
 refine ⟨⟨s, n, l, c⟩, ⟨g0, k1, k2⟩, ?_⟩
 rw [e]; rfl
def tabT : Ty := .pair (.int .i64) (.pair (.sl colT) .unit)
theorem tab_D {z : List DV} (h : IsD tabT z) : ∃ (n : Int) (l : List Kx), (l.length ≤ 9223372036854775807 ∧ ∀ k ∈ l, okCol k) ∧ z = [.int .i64 n, .sl 4 (kxs l)] := by
 obtain ⟨d0, r0, ⟨n, _, rfl⟩, ⟨d1, r1, ⟨zs, h3, h4, rfl⟩, hu, rfl⟩, rfl⟩ := h
 rw [show r1 = [] from hu]
 obtain ⟨l, h1, h2, h5⟩ := lst_D (f := kxC) (p := okCol) (fun z hz => col_D hz) h3
 refine ⟨n, l, ⟨by rw [h1]; exact h4, h5⟩, ?_⟩
 rw [h2]; rfl
end Go.Proofs.YtjahkcgckiobkaaGreatDoor
namespace Go.Proofs.YtjahkcgckiobkaaGreatDoor
open Go Go.Dat Go.Proofs Go.RowKit Go.Shelf Nat32
theorem okT_of {S : List Kx} (hS : S.length ≤ 9223372036854775807 ∧ ∀ k ∈ S, okCol k) (h : tabL S = true) : okT S ∧ S.length ≤ 40 ∧ ∀ k ∈ S, k.ce.length ≤ 40 ∧ k.le.length ≤ 40 ∧ ∀ c ∈ k.ce, okXN c.va ∧ c.va.2.1.length ≤ 8 ∧ c.va.2.2.length ≤ 8 := by
 unfold tabL at h
 simp only [Bool.and_eq_true, decide_eq_true_eq, List.all_eq_true] at h
 have key : ∀ k ∈ S, k.ce.length ≤ 40 ∧ k.le.length ≤ 40 ∧ ∀ c ∈ k.ce, okXN c.va ∧ c.va.2.1.length ≤ 8 ∧ c.va.2.2.length ≤ 8 := fun k hk => by
  have h1 := h.2 k hk
  unfold kxB celsB strsB at h1
  simp only [Bool.and_eq_true, decide_eq_true_eq, List.all_eq_true] at h1
  refine ⟨h1.2.1, h1.1.2.1, fun c hc => ⟨(hS.2 k hk).2.2.2 c hc, ?_⟩⟩
  have h2 := h1.2.2 c hc
  unfold ligX at h2
  exact lightB_spec h2
 refine ⟨⟨by omega, fun k hk => ?_⟩, h.1, key⟩
 obtain ⟨k1, k2, k3⟩ := key k hk
 refine ⟨(hS.2 k hk).1, by omega, by omega, fun c hc => ?_⟩
 obtain ⟨g1', g2', g3'⟩ := k3 c hc
 exact ⟨g1'.1, g1'.2.1, by omega, by omega⟩
set_option maxHeartbeats 4000000 in
theorem ltCompletes_calls (n : Int) (S : List Kx) (a b : List Int) (hS : S.length ≤ 9223372036854775807 ∧ ∀ k ∈ S, okCol k) (hal : a.length ≤ 9223372036854775807) (hbl : b.length ≤ 9223372036854775807) :
  PCalls Tryz.prog 7 [.agg [.int .i64 n, .sl 4 (kxs S)], .sl 1 (a.map (.int .i64)), .sl 1 (b.map (.int .i64))] (.bool true) := by
 have aw := lt_awake_calls
 have c1 := lt_light_calls n S hS.1 (fun k hk => ⟨(hS.2 k hk).2.1, (hS.2 k hk).2.2.1⟩)
 have hal' : (a.map (DV.int .i64)).length = a.length := List.length_map _
 have hbl' : (b.map (DV.int .i64)).length = b.length := List.length_map _
 have hln : (kxs S).length / 4 = S.length := by rw [kxs_len]; omega
 have hlen := kxs_len S
 have hca : (DV.agg [.int .i64 n, .sl 4 (kxs S)]).cells? = some [.int .i64 n, .sl 4 (kxs S)] := rfl
 refine PCalls_of isltCompletes (by simp [fnltCompletes]) ?_
 unfold codeltCompletes
 refine zS (zA hca @cS) ?_
 refine cP c1 ?_
 cases h1 : tabL S
 ·refine zR ?_
  refine wT ?_
  refine zR ?_
  refine cP aw ?_
  refine zR ?_
  exact W_ret (RetP_1 (.imm rfl))
 obtain ⟨hT, hS40, hK⟩ := okT_of hS h1
 by_cases ha : 10 < a.length
 ·have da : decide ((10 : Int) < (a.length : Int)) = true := decide_eq_true (by omega)
  refine zS (zA hal' da) ?_
  refine wT ?_
  refine zR ?_
  refine cP aw ?_
  refine zR ?_
  exact W_ret (RetP_1 (.imm rfl))
 have da : decide ((10 : Int) < (a.length : Int)) = false := decide_eq_false (by omega)
 by_cases hb : 10 < b.length
 ·have db : decide ((10 : Int) < (b.length : Int)) = true := decide_eq_true (by omega)
  refine zS (zA hal' (zA da (zA hbl' db))) ?_
  refine wT ?_
  refine zR ?_
  refine cP aw ?_
  refine zR ?_
  exact W_ret (RetP_1 (.imm rfl))
 have db : decide ((10 : Int) < (b.length : Int)) = false := decide_eq_false (by omega)
 have cu := uValid_calls n S hT
 refine zS (zA hal' (zA da (zA hbl' (zA db @cS)))) ?_
 refine cP cu ?_
 cases hv : tabU n S
 ·refine zR ?_
  refine wT ?_
  refine zR ?_
  refine cP aw ?_
  refine zR ?_
  exact W_ret (RetP_1 (.imm rfl))
 obtain ⟨hvB, hn0, hn1, hSl, hce⟩ := tab_of_U hv
 obtain ⟨N, rfl⟩ : ∃ N : Nat, n = N := ⟨n.toNat, by omega⟩
 by_cases hz : S.length = 0
 ·have dz : decide ((S.length : Int) = 0) = true := decide_eq_true (by omega)
  refine zS (zA @cS (zA hln dz)) ?_
  refine wT ?_
  refine zR ?_
  refine cP aw ?_
  refine zR ?_
  exact W_ret (RetP_1 (.imm rfl))
 have dz : decide ((S.length : Int) = 0) = false := decide_eq_false (by omega)
 by_cases hN : 40 < N
 ·have dN : decide ((40 : Int) < (N : Int)) = true := decide_eq_true (by omega)
  refine zS (zA @cS (zA hln (zA dz dN))) ?_
  refine wT ?_
  refine zR ?_
  refine cP aw ?_
  refine zR ?_
  exact W_ret (RetP_1 (.imm rfl))
 have dN : decide ((40 : Int) < (N : Int)) = false := decide_eq_false (by omega)
 refine zS (zA @cS (zA hln (zA dz dN))) ?_
 refine wFs ?_
 have hpos : 0 < S.length := by omega
 have hceN : ∀ k ∈ S, k.ce.length = N := fun k hk => by have := hce k hk; omega
 have hpl : ∀ l : List Int, (pickL S l).length = l.length := fun l => List.length_map _
 have hvU := hv
 clear c1 cu h1 da db dz dN hv hce hn0 hn1
 refine zR ?_
 refine W_own 7 1 200 rfl (by simp [lkH]) ?_
 refine W_own 8 1 201 rfl rfl ?_
 refine zR ?_
 refine W_loop (σ := Nat) (fun i => [(1, .sl 1 (a.map (.int .i64))), (2, .sl 1 (b.map (.int .i64))), (3, .ptr 3 0), (7, .osl 1 200 0 i), (8, .osl 1 201 0 0), (9, .int .i64 i)]) (fun i => [(3, [.int .i64 N, .sl 4 (kxs S)]), (200, strL (pickL S (a.take i))), (201, [])]) (fun i => i ≤ a.length) (fun i => a.length - i) 0 (Nat.zero_le _) ?_ rfl ?_
 ·simp [subF, lk]
 ·intro i hi
  try simp only at hi ⊢
  by_cases hlt : i < a.length
  ·have dl : decide ((i : Int) < (a.length : Int)) = true := decide_eq_true (by omega)
   have ei : (i : Int).toNat = i := Int.toNat_natCast i
   have e1 : ((i : Int) + 1) = ((i + 1 : Nat) : Int) := by omega
   have hga : (a.map (DV.int .i64)).getD i .undef = .int .i64 (a.getD i 0) := by
    rw [List.getD_eq_getElem?_getD, List.getElem?_map, List.getElem?_eq_getElem hlt, List.getD_eq_getElem?_getD, List.getElem?_eq_getElem hlt]; rfl
   have cm := mdModG (a.getD i 0) S.length hpos (by omega)
   obtain ⟨p1, p2⟩ := pick_in hpos (a.getD i 0)
   have hg0 : (kxs S).getD ((a.getD i 0 % (S.length : Int)).toNat * 4) .undef = .str (S.getD (a.getD i 0 % (S.length : Int)).toNat default).nm := fm_at (j := 0) kxC_len default p1 (by decide) .undef
   have htk : strL (pickL S (a.take i)) ++ [.str (S.getD (a.getD i 0 % (S.length : Int)).toNat default).nm] = strL (pickL S (a.take (i + 1))) := by
    rw [take_snocD 0 hlt]; unfold pickL strL; rw [List.map_append, List.map_append]; rfl
   have hl1 : (strL (pickL S (a.take i))).length = i := by rw [strL_len, hpl, List.length_take]; omega
   have hpg := map_purge 200 (strL_rf' (pickL S (a.take (i + 1))))
   have q3 : ∀ z, purge 200 (.ptr 3 z) = .ptr 3 z := fun z => by simp [purge, DV.has]
   generalize (S.getD (a.getD i 0 % (S.length : Int)).toNat default).nm = nm at *
   obtain ⟨j, hj⟩ : ∃ j : Nat, a.getD i 0 % (S.length : Int) = j := ⟨(a.getD i 0 % (S.length : Int)).toNat, by omega⟩
   rw [hj] at cm p1 hg0
   have ej : (j : Int).toNat = j := Int.toNat_natCast j
   rw [ej] at p1 hg0
   refine zS (zA hal' dl) ?_
   refine wTs ?_
   refine zS (zA ei (zA hal' (zA hga (zA @cS hln)))) ?_
   refine cP cm ?_
   refine zS (zA ej (zA hlen (zA hg0 @cS))) ?_
   refine ⟨by simp [DV.rf], ⟨hl1, by omega, by omega, fun h => h, by simp [DV.one]⟩, ?_⟩
   rw [htk, hpg]
   refine zS (zA q3 e1) ?_
   exact ⟨i + 1, by omega, by omega, by simp [subF, lk], rfl⟩
  ·have dl : decide ((i : Int) < (a.length : Int)) = false := decide_eq_false (by omega)
   obtain rfl : i = a.length := by omega
   rw [List.take_length]
   have hnl := strL_len (pickL S a)
   rw [hpl] at hnl
   have hnr := strL_rf' (pickL S a)
   refine W_freeze 200 (cells := strL (pickL S a)) rfl (List.all_eq_true.2 hnr) ?_
   have hfz : frz 200 (strL (pickL S a)) (.osl 1 200 0 a.length) = .sl 1 (strL (pickL S a)) := by
    simp [frz, hnl]
    rw [List.take_of_length_le (by omega)]
   have f3 : frz 200 (strL (pickL S a)) (.ptr 3 0) = .ptr 3 0 := by simp [frz, purge, DV.has]
   have hno : ∀ d ∈ strL (pickL S a), d.one = true := fun d hd => by
    unfold strL at hd
    obtain ⟨_, _, rfl⟩ := List.mem_map.1 hd
    rfl
   have hpg := map_purge 201 hnr
   have q3 : ∀ z, purge 201 (.ptr 3 z) = .ptr 3 z := fun z => by simp [purge, DV.has]
   generalize hNA : strL (pickL S a) = NA at *
   refine zS (zA hal' (zA dl (zA hfz f3))) ?_
   refine W_cond rfl (fun h => by cases h) (fun _ => W_exit ?_)
   refine zS (zA hnl @List.nil_append.{0}) ?_
   refine ⟨⟨by omega, by omega, fun h => h, hno⟩, ?_⟩
   refine zS (zA q3 (zA hpg (zA @Nat.div_one @Nat.zero_add))) ?_
   refine W_loop (σ := Nat) (fun i => [(2, .sl 1 (b.map (.int .i64))), (3, .ptr 3 0), (7, .sl 1 NA), (8, .osl 1 201 0 (a.length + i)), (10, .int .i64 i)]) (fun i => [(3, [.int .i64 N, .sl 4 (kxs S)]), (201, NA ++ strL (pickL S (b.take i)))]) (fun i => i ≤ b.length) (fun i => b.length - i) 0 (Nat.zero_le _) ?_ (by simp [pickL, strL]) ?_
   ·simp [subF, lk]
   ·intro i hi
    try simp only at hi ⊢
    by_cases hlt : i < b.length
    ·have dl : decide ((i : Int) < (b.length : Int)) = true := decide_eq_true (by omega)
     have ei : (i : Int).toNat = i := Int.toNat_natCast i
     have e1 : ((i : Int) + 1) = ((i + 1 : Nat) : Int) := by omega
     have hga : (b.map (DV.int .i64)).getD i .undef = .int .i64 (b.getD i 0) := by
      rw [List.getD_eq_getElem?_getD, List.getElem?_map, List.getElem?_eq_getElem hlt, List.getD_eq_getElem?_getD, List.getElem?_eq_getElem hlt]; rfl
     have cm := mdModG (b.getD i 0) S.length hpos (by omega)
     obtain ⟨p1, p2⟩ := pick_in hpos (b.getD i 0)
     have hg0 : (kxs S).getD ((b.getD i 0 % (S.length : Int)).toNat * 4) .undef = .str (S.getD (b.getD i 0 % (S.length : Int)).toNat default).nm := fm_at (j := 0) kxC_len default p1 (by decide) .undef
     have htk : NA ++ strL (pickL S (b.take i)) ++ [.str (S.getD (b.getD i 0 % (S.length : Int)).toNat default).nm] = NA ++ strL (pickL S (b.take (i + 1))) := by
      rw [take_snocD 0 hlt, List.append_assoc]; unfold pickL strL; rw [List.map_append, List.map_append]; rfl
     have hl1 : (NA ++ strL (pickL S (b.take i))).length = a.length + i := by rw [List.length_append, hnl, strL_len, hpl, List.length_take]; omega
     have hpg2 : (NA ++ strL (pickL S (b.take (i + 1)))).map (purge 201) = NA ++ strL (pickL S (b.take (i + 1))) := by rw [List.map_append, hpg, map_purge 201 (strL_rf' _)]
     generalize (S.getD (b.getD i 0 % (S.length : Int)).toNat default).nm = nm at *
     obtain ⟨j, hj⟩ : ∃ j : Nat, b.getD i 0 % (S.length : Int) = j := ⟨(b.getD i 0 % (S.length : Int)).toNat, by omega⟩
     rw [hj] at cm p1 hg0
     have ej : (j : Int).toNat = j := Int.toNat_natCast j
     rw [ej] at p1 hg0
     refine zS (zA hbl' dl) ?_
     refine wTs ?_
     refine zS (zA ei (zA hbl' (zA hga (zA @cS hln)))) ?_
     refine cP cm ?_
     refine zS (zA ej (zA hlen (zA hg0 @cS))) ?_
     refine ⟨by simp [DV.rf], ⟨hl1, by omega, by omega, fun h => h, by simp [DV.one]⟩, ?_⟩
     rw [htk, hpg2]
     refine zS (zA q3 e1) ?_
     exact ⟨i + 1, by omega, by omega, by simp [subF, lk]; omega, rfl⟩
    ·have dl : decide ((i : Int) < (b.length : Int)) = false := decide_eq_false (by omega)
     obtain rfl : i = b.length := by omega
     rw [List.take_length]
     have hma : NA ++ strL (pickL S b) = strL (pickL S a ++ pickL S b) := by rw [← hNA]; unfold strL; rw [List.map_append]
     rw [hma]
     have hml : (strL (pickL S a ++ pickL S b)).length = a.length + b.length := by rw [strL_len, List.length_append, hpl, hpl]
     have hmr := strL_rf' (pickL S a ++ pickL S b)
     refine W_freeze 201 (cells := strL (pickL S a ++ pickL S b)) rfl (List.all_eq_true.2 hmr) ?_
     have hfz2 : frz 201 (strL (pickL S a ++ pickL S b)) (.osl 1 201 0 (a.length + b.length)) = .sl 1 (strL (pickL S a ++ pickL S b)) := by
      simp [frz, hml]
      rw [List.take_of_length_le (by omega)]
     have f32 : frz 201 (strL (pickL S a ++ pickL S b)) (.ptr 3 0) = .ptr 3 0 := by simp [frz, purge, DV.has]
     have cx := tComplete_calls N S (pickL S a) hT hvB (by rw [hpl]; omega) (fun s hs => pick_ix hpos hs) hceN (by omega)
     have cy := tComplete_calls N S (pickL S a ++ pickL S b) hT hvB (by rw [List.length_append, hpl, hpl]; omega) (fun s hs => by
      rcases List.mem_append.1 hs with hs | hs
      ·exact pick_ix hpos hs
      ·exact pick_ix hpos hs) hceN (by omega)
     have hmo := rowsL_more (usedL S (pickL S a)) (usedL S (pickL S b)) N
     rw [← usedL_app] at hmo
     have hXl := ints_len (rowsL (usedL S (pickL S a)) N)
     have hYl := ints_len (rowsL (usedL S (pickL S a ++ pickL S b)) N)
     have dm : decide (((rowsL (usedL S (pickL S a)) N).length : Int) < ((rowsL (usedL S (pickL S a ++ pickL S b)) N).length : Int)) = false := decide_eq_false (by omega)
     have dF : decide (¬ True) = false := rfl
     rw [hNA] at cx
     refine zS (zA hbl' (zA dl (zA hfz2 f32))) ?_
     refine W_cond rfl (fun h => by cases h) (fun _ => W_exit ?_)
     refine zS @cS ?_
     refine cP cx ?_
     refine zS @cS ?_
     refine cP cy ?_
     refine zS (zA @cS (zA dF (zA hXl (zA hYl dm)))) ?_
     refine wFs ?_
     clear cx cy hmo hYl dm hma hml hmr hfz2 f32 hnr hno hpg hfz f3
     have hul : (usedL S (pickL S a)).length = a.length := by rw [usedL_len, hpl]
     have hug := fun i h => usedL_get S (a := pickL S a) (i := i) h
     have hix : ∀ s ∈ pickL S a, 0 ≤ ixS (knmL S) s ∧ ixS (knmL S) s < S.length := fun s hs => by
      have h2 := ixS_bd s (knmL S)
      rw [knmL_len] at h2
      exact ⟨pick_ix hpos hs, h2.2⟩
     generalize usedL S (pickL S a) = U at *
     refine zR ?_
     refine W_loop (σ := Nat) (fun r => [(3, .ptr 3 0), (7, .sl 1 NA), (11, .sl 1 (ints (rowsL U N))), (15, .int .i64 (rowsL U r).length), (16, .int .i64 r)]) (fun r => [(3, [.int .i64 N, .sl 4 (kxs S)])]) (fun r => r ≤ N) (fun r => N - r) 0 (Nat.zero_le _) ?_ rfl ?_
     ·simp [subF, lk, rowsL]
     ·intro r hr
      try simp only at hr ⊢
      by_cases hlt : r < N
      ·have dl : decide ((r : Int) < (N : Int)) = true := decide_eq_true (by omega)
       have er : (r : Int).toNat = r := Int.toNat_natCast r
       have e1 : ((r : Int) + 1) = ((r + 1 : Nat) : Int) := by omega
       have hat := @rowsL_at U r N hlt
       have hry := @rowsL_yes U r
       have hrn := @rowsL_no U r
       refine zS (zA dl @cS) ?_
       refine wTs ?_
       refine zR ?_
       refine W_loop (σ := Nat) (fun i => [(3, .ptr 3 0), (7, .sl 1 NA), (11, .sl 1 (ints (rowsL U N))), (15, .int .i64 (rowsL U r).length), (16, .int .i64 r), (17, .bool (!(U.take i).any (misB r))), (18, .int .i64 i)]) (fun i => [(3, [.int .i64 N, .sl 4 (kxs S)])]) (fun i => i ≤ a.length) (fun i => a.length - i) 0 (Nat.zero_le _) ?_ rfl ?_
       ·simp [subF, lk]
       ·intro i hi
        try simp only at hi ⊢
        by_cases hli : i < a.length
        ·have dli : decide ((i : Int) < (a.length : Int)) = true := decide_eq_true (by omega)
         have ei : (i : Int).toNat = i := Int.toNat_natCast i
         have e2 : ((i : Int) + 1) = ((i + 1 : Nat) : Int) := by omega
         have hgn : NA.getD i .undef = .str ((pickL S a).getD i []) := by rw [← hNA]; exact strL_getD (by rw [hpl]; exact hli)
         have hta := any_takeD (misB r) (l := U) (i := i) (by omega)
         rw [hug i (by rw [hpl]; exact hli)] at hta
         obtain ⟨x1, x2⟩ := hix _ (mem_getD (l := pickL S a) (i := i) (by rw [hpl]; exact hli))
         have cf := uFind_calls N S ((pickL S a).getD i []) hT hvU
         generalize (pickL S a).getD i [] = s at *
         obtain ⟨j, hj⟩ : ∃ j : Nat, ixS (knmL S) s = j := ⟨(ixS (knmL S) s).toNat, by omega⟩
         rw [hj] at hta cf x2
         have ej : (j : Int).toNat = j := Int.toNat_natCast j
         rw [ej] at hta
         have hjl : j < S.length := by omega
         have hg3 : (kxs S).getD (j * 4 + 3) .undef = .sl 5 (cxs (S.getD j default).ce) := fm_at (j := 3) kxC_len default hjl (by decide) .undef
         have hcl := hceN _ (memG hjl)
         have hcx := cxs_len (S.getD j default).ce
         have hgm : (cxs (S.getD j default).ce).getD (r * 5) .undef = .bool (misB r (S.getD j default)) := fm_at (j := 0) cxC_len default (by omega) (by decide) .undef
         generalize cxs (S.getD j default).ce = CE at *
         generalize misB r (S.getD j default) = mb at *
         cases hw : (U.take i).any (misB r)
         ·rw [hw, Bool.false_or] at hta
          refine zS (zA dli hnl) ?_
          refine wTs ?_
          refine zS (zA @cS (zA ei (zA hnl (zA hgn @Bool.not_false)))) ?_
          refine cP cf ?_
          repeat (first | refine W_seq ?_ | refine W_reg ?_ | refine W_regd ?_ | refine W_regs ?_ | refine W_regp ?_ | refine W_block ?_ | refine And.intro (by omega) ?_ | simp (maxSteps := 1000000) (disch := omega) only [cA, cB, cN, FnD.nb, lk, lkH, Dst.onT, Dst.onX, Dst.slot, setF, setH, mapF, mapH, initF, binE, unE, cnt, boundE, newsE, freshE, freshT, opE, rmH, blkQ, frz_us, Nat.reduceEqDiff, Nat.reduceLT, Nat.reduceAdd, Nat.reduceMul, Nat.reduceMod, ↓reduceIte, reduceCtorEq, Nat.reduceLeDiff, cS, ej, er, hlen, hg3, hcx, hgm, e2])
          exact ⟨i + 1, by omega, by omega, by simp [subF, lk, hta]⟩
         ·rw [hw, Bool.true_or] at hta
          refine zS (zA dli hnl) ?_
          refine wTs ?_
          refine zS (zA @cS (zA ei (zA hnl (zA hgn (zA @Bool.not_true e2))))) ?_
          exact ⟨i + 1, by omega, by omega, by simp [subF, lk, hta]⟩
        ·have dli : decide ((i : Int) < (a.length : Int)) = false := decide_eq_false (by omega)
         obtain rfl : i = a.length := by omega
         rw [List.take_of_length_le (by omega)]
         cases hw : U.any (misB r)
         ·obtain ⟨y1, y2⟩ := hat hw
          have hgr : (ints (rowsL U N)).getD (rowsL U r).length .undef = .int .i64 r := by
           unfold ints
           rw [List.getD_eq_getElem?_getD, List.getElem?_map, List.getElem?_eq_getElem y1]
           rw [List.getD_eq_getElem?_getD, List.getElem?_eq_getElem y1] at y2
           show DV.int .i64 _ = _
           rw [show (rowsL U N)[(rowsL U r).length] = r from y2]
          have dg : decide (((rowsL U N).length : Int) ≤ ((rowsL U r).length : Int)) = false := decide_eq_false (by omega)
          have hb1 := rowsL_le U (r + 1)
          have hb0 := rowsL_le U r
          have ek : ((rowsL U r).length : Int).toNat = (rowsL U r).length := Int.toNat_natCast _
          have e3 : (((rowsL U r).length : Int) + 1) = ((rowsL U (r + 1)).length : Int) := by rw [hry hw, List.length_append]; simp
          refine zS (zA dli hnl) ?_
          refine W_cond rfl (fun h => by cases h) (fun _ => W_exit ?_)
          refine zS (zA @Bool.not_false (zA hXl (zA dg (zA ek (zA hgr dF))))) ?_
          refine wFs ?_
          refine zS @Bool.not_false ?_
          refine wT ?_
          refine zS (zA e1 e3) ?_
          exact ⟨r + 1, by omega, by omega, by simp [subF, lk]⟩
         ·refine zS (zA dli hnl) ?_
          refine W_cond rfl (fun h => by cases h) (fun _ => W_exit ?_)
          refine zS @Bool.not_true ?_
          refine wFs ?_
          refine zS @Bool.not_true ?_
          refine wFs ?_
          refine zS e1 ?_
          exact ⟨r + 1, by omega, by omega, by simp [subF, lk, hrn hw]⟩
      ·have dl : decide ((r : Int) < (N : Int)) = false := decide_eq_false (by omega)
       obtain rfl : r = N := by omega
       have dT : decide True = true := rfl
       refine zS (zA dl @cS) ?_
       refine W_cond rfl (fun h => by cases h) (fun _ => W_exit ?_)
       refine zR ?_
       refine cP aw ?_
       refine zS (zA hXl dT) ?_
       exact W_ret (RetP_1 (.imm rfl))
end Go.Proofs.YtjahkcgckiobkaaGreatDoor
