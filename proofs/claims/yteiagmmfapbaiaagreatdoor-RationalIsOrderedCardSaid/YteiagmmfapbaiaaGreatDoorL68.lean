/- The tied card of the Go function robuststatslaw03.RationalIsOrdered: it returns true for every input and leaves its arguments as they were. Conditions: none beyond the given statement's own. -/
import Derived.Test.YteiagmmfapbaiaaGreatDoorRows
import Derived.Test.YteiagmmfapbaiaaGreatDoorCards
import Derived.Test.YteiagmmfapbaiaaGreatDoorTie
import Derived.WalkKit
import Derived.ProofKit
import Derived.LaidMore
import Derived.OpenShut
import Derived.ShutString
import Derived.ChangeOld
import Derived.Below
import Derived.SevenTiedAt
import Derived.Lib.LaidTab
import Derived.Stop.LaidErr
import Derived.Lay
import Derived.Test.YteiagmmfapbaiaaGreatDoorN1
import Derived.Test.YteiagmmfapbaiaaGreatDoorT1
import Derived.Test.YteiagmmfapbaiaaGreatDoorU1
namespace Go.Proofs.YteiagmmfapbaiaaGreatDoor.rationalIsOrdered
open Go.ChangeShapes Go.WideShapes Go.ChangeAt Go.RowKit
open Go.ChangeMaps (open_string shut_string)
theorem own : ownKnob Tryz.prog.godebug = none := by kernel_rfl
theorem laidOut : laidOutB Tryz.prog = true := by kernel_rfl
/-- A world with the listed tables laid meets the condition: closed facts. -/
theorem door_met (os : Os) (args : Array Value) : laidMetH Tryz.prog Rows.rationalIsOrderedRow.laid ((World.laidAll Tryz.prog os Rows.rationalIsOrderedRow.laid).forCall (fun _ _ => 0) ⟨#[], args, []⟩).memory := by
  rw [MakeChecks.laidMetH_plain _ _ _ (by kernel_rfl)]
  exact laidMet_laidAll _ (by kernel_rfl) (by kernel_rfl)
theorem tab_of {W : World} (h : laidMetH Tryz.prog Rows.rationalIsOrderedRow.laid W) : Go.Dat.Tab Tryz.prog W := by
  rw [MakeChecks.laidMetH_plain _ _ _ (by kernel_rfl)] at h
  have e : (Rows.laid_internal_strconv_uint64pow10 : DataW Unit) = Lib.tabData .u64 Lib.pow10Tab := by kernel_rfl
  have h2 := (laidMet.tail (laidMet.tail h))
  rw [e] at h2
  have hg : Tryz.prog.globalNamed Go.Dat.tabName = some 2 := by kernel_rfl
  have ht : Lib.TabIs Tryz.prog W Go.Dat.tabName .u64 Lib.pow10Tab := Lib.tabIs_of_head (n := 20) hg (by kernel_rfl) Tryz.underlying165 Tryz.underlying67 (by kernel_rfl) (by kernel_rfl) h2
  intro g' hg'
  obtain rfl := Option.some.inj (hg.symm.trans hg')
  refine ⟨?_, ht⟩
  have h3 := ht
  simp only [Lib.TabIs, World.var?, hg, Option.bind_some] at h3
  split at h3
  · rename_i hb; exact (Array.getElem?_eq_some_iff.1 hb).1
  · cases h3
set_option maxRecDepth 100000 in
set_option maxHeartbeats 2000000 in
open Go.Dat in
theorem lifted (os : Os) (started : os.Started) (H : Type) (enc : TypeId × Value → H) :
    ReturnsInHanded {} Tryz.checked os 9 .any (fun w args => (Rows.rationalIsOrderedSpec.pre enc Tryz.prog Tryz.f9 [] false w args ∧ laidMetH Tryz.prog Rows.rationalIsOrderedRow.laid w) ∧ sizedMet enc Tryz.prog Tryz.f9 (OpenSpec.ofChange Rows.rationalIsOrderedSpec) false w args)
      (Rows.rationalIsOrderedSpec.post enc Tryz.prog Tryz.f9 false true false false) := by
  refine returnsInHanded_of_change_and (C := Tryz.checked) (X := fun w _ => laidMetH Tryz.prog Rows.rationalIsOrderedRow.laid w) (fun _ _ _ hh h => h.of_heap hh) own started (by kernel_rfl) Tryz.func9
    (ChangeSpec.witness_shaped (enc := enc) (C := Tryz.checked) (os := os) (X := fun w _ => laidMetH Tryz.prog Rows.rationalIsOrderedRow.laid w) false (World.laidAll Tryz.prog os Rows.rationalIsOrderedRow.laid) #[.agg #[.bool false, .slice none 0 0, .slice none 0 0], .agg #[.bool false, .slice none 0 0, .slice none 0 0], .agg #[.bool false, .slice none 0 0, .slice none 0 0]] 8 (World.laidAll_os _ _ _) (World.shaped_of_ZipB (by kernel_rfl) (by kernel_rfl)) (by kernel_rfl) (by kernel_rfl) (by kernel_rfl) (door_met os _)) ?_
  intro W base args ds gs before hval0 hW _ _ hL _
  have hval : ∀ (j : Nat) t v, Tryz.f9.params[j]? = some t → args[j]? = some v → Value.okWide Tryz.prog W .any base t v := hval0
  have hW' := hW
  obtain ⟨p, q, hA0, hV, rfl, hfz, hnd⟩ := hW
  have hA : DataW.TrodAll enc Tryz.prog W 0 (fun _ => true) true Tryz.f9.params.toList args.toList ds p := hA0
  rw [Tryz.params9] at hA hval
  obtain ⟨v0, vs0, d0, ds0, p0, q0, hargs, rfl, rfl, h0, r0⟩ := trodAll_cons hA
  obtain ⟨v1, vs1, d1, ds1, p1, q1, rfl, rfl, rfl, h1, r1⟩ := trodAll_cons r0
  obtain ⟨v2, vs2, d2, ds2, p2, q2, rfl, rfl, rfl, h2, r2⟩ := trodAll_cons r1
  obtain ⟨rfl, rfl, rfl⟩ := trodAll_nil r2
  obtain rfl : args = #[v0, v1, v2] := by cases args; simp_all
  obtain ⟨rfl, rfl⟩ := trodVars_none hV
  have k0 := h0
  have lt0 : ∀ x ∈ p0, x.block < W.heap.size := by obtain ⟨m, hm⟩ := k0; exact DataW.trod_lt m _ _ _ hm
  obtain ⟨n0, x0, d0', l0, m0, w0⟩ := Nat32.vi_Rat Tryz.underlying27 (by kernel_rfl) ⟨rfl, rfl, by kernel_rfl, by kernel_rfl⟩ Tryz.underlying24 (by kernel_rfl) Tryz.underlying4 Tryz.underlying22 Tryz.underlying22 Tryz.underlying51 (by kernel_rfl) (hval 0 27 v0 rfl rfl) h0
  have k1 := h1
  have lt1 : ∀ x ∈ p1, x.block < W.heap.size := by obtain ⟨m, hm⟩ := k1; exact DataW.trod_lt m _ _ _ hm
  obtain ⟨n1, x1, d1', l1, m1, w1⟩ := Nat32.vi_Rat Tryz.underlying27 (by kernel_rfl) ⟨rfl, rfl, by kernel_rfl, by kernel_rfl⟩ Tryz.underlying24 (by kernel_rfl) Tryz.underlying4 Tryz.underlying22 Tryz.underlying22 Tryz.underlying51 (by kernel_rfl) (hval 1 27 v1 rfl rfl) h1
  have k2 := h2
  have lt2 : ∀ x ∈ p2, x.block < W.heap.size := by obtain ⟨m, hm⟩ := k2; exact DataW.trod_lt m _ _ _ hm
  obtain ⟨n2, x2, d2', l2, m2, w2⟩ := Nat32.vi_Rat Tryz.underlying27 (by kernel_rfl) ⟨rfl, rfl, by kernel_rfl, by kernel_rfl⟩ Tryz.underlying24 (by kernel_rfl) Tryz.underlying4 Tryz.underlying22 Tryz.underlying22 Tryz.underlying51 (by kernel_rfl) (hval 2 27 v2 rfl rfl) h2
  clear hA0 hval0
  refine (law_of (lqOrdered_calls n0 x0 d0' n1 x1 d1' n2 x2 d2' l0 m0 l1 m1 l2 m2) (tab_of hL) rfl (fun k d v hd hv => ?_)).mono fun e W' ⟨he, bel⟩ => ?_
  · match k with
    | 0 => simp at hd hv; subst hd; subst hv; exact w0
    | 1 => simp at hd hv; subst hd; subst hv; exact w1
    | 2 => simp at hd hv; subst hd; subst hv; exact w2
    | k + 3 => simp at hd
  · subst he
    exact ⟨_, rfl, _, _, _, [], _, [], hW', trodAll_mk1 (shut_bool Tryz.underlying4 _), (trodAll_cons_mk (Below.trod laidOut (by kernel_rfl) (of_decide_eq_true (by kernel_rfl)) k0 bel lt0) (trodAll_cons_mk (Below.trod laidOut (by kernel_rfl) (of_decide_eq_true (by kernel_rfl)) k1 bel lt1) (trodAll_cons_mk (Below.trod laidOut (by kernel_rfl) (of_decide_eq_true (by kernel_rfl)) k2 bel lt2) trodAll_mk0))), rfl, bel.frame _, fun h => by cases h⟩
theorem fact1 : (Rows.rationalIsOrderedRow.inPlace == Tryz.pinned.checked.prog.inPlace 9) = true := by kernel_rfl
theorem fact2 : (Rows.rationalIsOrderedRow.unfollowed == Tryz.pinned.checked.prog.unfollowed 9) = true := by kernel_rfl
theorem fact3 : (Rows.rationalIsOrderedRow.recurses == Tryz.pinned.checked.prog.recurses 9) = true := by kernel_rfl
theorem fact4 : (Rows.rationalIsOrderedRow.named == Tryz.pinned.checked.prog.varsNamed 9) = true := by kernel_rfl
theorem closed : joinedFacts Tryz.pinned.checked.prog 9 Tryz.f9 Rows.rationalIsOrderedSpec Rows.rationalIsOrderedRow = true := by
  unfold joinedFacts
  rw [fact1, fact2, fact3, fact4]
  kernel_rfl
theorem over : Rows.RationalIsOrderedSaid :=
  OpenClaim.holds_of_wide 9 Tryz.f9 rfl rfl rfl rfl rfl rfl rfl ⟨rfl, rfl, rfl, rfl, rfl⟩ rfl rfl rfl rfl rfl (by kernel_rfl) Tryz.func9 closed
    (of_decide_eq_true (by kernel_rfl)) (by unfold Func.isWrapper; first | (rw [if_pos (by decide +kernel)]; kernel_rfl) | (rw [if_neg (by decide +kernel)]; exact ⟨rfl, rfl⟩))
    (fun os started H enc _ => lifted os started H enc)
/-- The statement. -/
theorem proved : Rows.RationalIsOrderedCardSaid :=
  Claim7.holds_tied_plain_at .later [] [.data, .data, .data, .data, .pinned] true (true, "132e13d59821e04fd7f7982d1daf916b200ff61345d62a7f5cfa8adf44d3fff4") false
    over (fun _ h => by cases h) (by kernel_rfl) (fun _ h => by cases h) rationalIsOrdered_row_tie rfl ⟨rfl, rfl⟩ (by kernel_rfl) rfl
    (fun f fn hf hfn => by
      obtain rfl : f = 9 := Option.some.inj ((show Tryz.prog.funcNamed "robuststats/robuststatslaw03.RationalIsOrdered" = some 9 by kernel_rfl).symm.trans hf) |>.symm
      obtain rfl : fn = Tryz.f9 := (Option.some.inj (Tryz.func9.symm.trans hfn)).symm
      exact ⟨by kernel_rfl, fun j t ht => by
        rw [Tryz.params9] at ht
        have hm : t ∈ [27, 27, 27] := by simpa using Array.mem_of_getElem? ht
        have hall : ([27, 27, 27].all fun u => !Tryz.prog.wantsStandIn u) = true := by kernel_rfl
        exact (show Tryz.prog.wantsStandIn t = false by simpa using List.all_eq_true.1 hall t hm)⟩)
    (by kernel_rfl)
#print axioms proved
end Go.Proofs.YteiagmmfapbaiaaGreatDoor.rationalIsOrdered
