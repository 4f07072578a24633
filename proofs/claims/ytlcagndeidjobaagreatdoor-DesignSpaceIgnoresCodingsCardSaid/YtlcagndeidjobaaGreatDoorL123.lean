/- The tied card of the Go function robuststatslaw12.DesignSpaceIgnoresCodings: it returns true for every input and leaves its arguments as they were. Conditions: none beyond the given statement's own. -/
import Derived.Test.YtlcagndeidjobaaGreatDoorRows
import Derived.Test.YtlcagndeidjobaaGreatDoorCards
import Derived.Test.YtlcagndeidjobaaGreatDoorTie
import Derived.WalkKit
import Derived.ProofKit
import Derived.LaidMore
import Derived.OpenShut
import Derived.ShutString
import Derived.ChangeOld
import Derived.Below
import Derived.SevenTiedAt
import Derived.Lib.LaidTab
import Derived.Stop.LaidErr
import Derived.Lay
import Derived.Test.YtlcagndeidjobaaGreatDoorT6
namespace Go.Proofs.YtlcagndeidjobaaGreatDoor.designSpaceIgnoresCodings
open Go.ChangeShapes Go.WideShapes Go.ChangeAt Go.RowKit
open Go.ChangeMaps (open_string shut_string)
theorem own : ownKnob Tryz.prog.godebug = none := by kernel_rfl
theorem laidOut : laidOutB Tryz.prog = true := by kernel_rfl
/-- A world with the listed tables laid meets the condition: closed facts. -/
theorem door_met (os : Os) (args : Array Value) : laidMetH Tryz.prog Rows.designSpaceIgnoresCodingsRow.laid ((World.laidAll Tryz.prog os Rows.designSpaceIgnoresCodingsRow.laid).forCall (fun _ _ => 0) ⟨#[], args, []⟩).memory := by
  rw [MakeChecks.laidMetH_plain _ _ _ (by kernel_rfl)]
  exact laidMet_laidAll _ (by kernel_rfl) (by kernel_rfl)
theorem tab_of {W : World} (hsh : W.ShapedOpen Tryz.prog) (h : laidMetH Tryz.prog Rows.designSpaceIgnoresCodingsRow.laid W) : Go.Dat.Tab Tryz.prog W := by
  rw [MakeChecks.laidMetH_plain _ _ _ (by kernel_rfl)] at h
  have e : (Rows.laid_internal_strconv_uint64pow10 : DataW Unit) = Lib.tabData .u64 Lib.pow10Tab := by kernel_rfl
  have h2 := (laidMet.tail (laidMet.tail h))
  rw [e] at h2
  have hg : Tryz.prog.globalNamed Go.Dat.tabName = some 1 := by kernel_rfl
  have ht : Lib.TabIs Tryz.prog W Go.Dat.tabName .u64 Lib.pow10Tab := Lib.tabIs_of_head (n := 20) hg (by kernel_rfl) Tryz.underlying271 Tryz.underlying137 (by kernel_rfl) (by kernel_rfl) h2
  refine ⟨fun g' hg' => ?_, x02 hsh⟩
  obtain rfl := Option.some.inj (hg.symm.trans hg')
  refine ⟨?_, ht⟩
  have h3 := ht
  simp only [Lib.TabIs, World.var?, hg, Option.bind_some] at h3
  split at h3
  · rename_i hb; exact (Array.getElem?_eq_some_iff.1 hb).1
  · cases h3
set_option maxRecDepth 100000 in
open Go.Dat in
theorem lifted (os : Os) (started : os.Started) (H : Type) (enc : TypeId × Value → H) :
    ReturnsInHanded {} Tryz.checked os 4 .any (fun w args => (Rows.designSpaceIgnoresCodingsSpec.pre enc Tryz.prog Tryz.f4 [] false w args ∧ laidMetH Tryz.prog Rows.designSpaceIgnoresCodingsRow.laid w) ∧ sizedMet enc Tryz.prog Tryz.f4 (OpenSpec.ofChange Rows.designSpaceIgnoresCodingsSpec) false w args)
      (Rows.designSpaceIgnoresCodingsSpec.post enc Tryz.prog Tryz.f4 false true false false) := by
  refine z6K (C := Tryz.checked) (X := fun w _ => laidMetH Tryz.prog Rows.designSpaceIgnoresCodingsRow.laid w) (fun _ _ _ hh h => h.of_heap hh) own started (by kernel_rfl) Tryz.func4
    (ChangeSpec.witness_shaped (enc := enc) (C := Tryz.checked) (os := os) (X := fun w _ => laidMetH Tryz.prog Rows.designSpaceIgnoresCodingsRow.laid w) false (World.laidAll Tryz.prog os Rows.designSpaceIgnoresCodingsRow.laid) #[.agg #[.slice none 0 0, .slice none 0 0, .slice none 0 0, .slice none 0 0], .int .i64 0, .int .i64 0, .int .i64 0] 8 (World.laidAll_os _ _ _) (World.shaped_of_ZipB (by kernel_rfl) (by kernel_rfl)) (by kernel_rfl) (by kernel_rfl) (by kernel_rfl) (door_met os _)) ?_
  intro W base args ds gs before hval0 hW hL hsh
  have hval : ∀ (j : Nat) t v, Tryz.f4.params[j]? = some t → args[j]? = some v → Value.okWide Tryz.prog W .any base t v := hval0
  have hW' := hW
  obtain ⟨p, q, hA0, hV, rfl, hfz, hnd⟩ := hW
  have hA : DataW.TrodAll enc Tryz.prog W 0 (fun _ => true) true Tryz.f4.params.toList args.toList ds p := hA0
  rw [Tryz.params4] at hA hval
  obtain ⟨v0, vs0, d0, ds0, p0, q0, hargs, rfl, rfl, h0, r0⟩ := trodAll_cons hA
  obtain ⟨v1, vs1, d1, ds1, p1, q1, rfl, rfl, rfl, h1, r1⟩ := trodAll_cons r0
  obtain ⟨v2, vs2, d2, ds2, p2, q2, rfl, rfl, rfl, h2, r2⟩ := trodAll_cons r1
  obtain ⟨v3, vs3, d3, ds3, p3, q3, rfl, rfl, rfl, h3, r3⟩ := trodAll_cons r2
  obtain ⟨rfl, rfl, rfl⟩ := trodAll_nil r3
  obtain rfl : args = #[v0, v1, v2, v3] := by cases args; simp_all
  obtain ⟨rfl, rfl⟩ := trodVars_none hV
  have k0 := h0
  have lt0 : ∀ x ∈ p0, x.block < W.heap.size := by obtain ⟨m, hm⟩ := k0; exact DataW.trod_lt m _ _ _ hm
  obtain ⟨x0, i0, w0⟩ := Nat32.vi_D (a := isT) (b := Nat32.Ty.pair isT (.pair isT (.pair isT .unit))) (by kernel_rfl) (hval 0 24 v0 rfl rfl) h0
  obtain ⟨a1, rfl, rfl, rfl, w1⟩ := open_int Tryz.underlying3 (hval 1 3 v1 rfl rfl) h1
  obtain ⟨a2, rfl, rfl, rfl, w2⟩ := open_int Tryz.underlying3 (hval 2 3 v2 rfl rfl) h2
  obtain ⟨a3, rfl, rfl, rfl, w3⟩ := open_int Tryz.underlying3 (hval 3 3 v3 rfl rfl) h3
  clear hA0 hval0
  obtain ⟨sY, sX, sG, sH, y0, x0', g0', h0', su⟩ := w44 i0
  rw [su] at w0
  refine (w4a (x0X a1 a2 a3 y0 x0' g0' h0') (tab_of hsh hL) rfl (fun k d v hd hv => ?_)).mono fun e W' ⟨he, bel⟩ => ?_
  · match k with
    | 0 => simp at hd hv; subst hd; subst hv; exact w0
    | 1 => simp at hd hv; subst hd; subst hv; exact .int _ _
    | 2 => simp at hd hv; subst hd; subst hv; exact .int _ _
    | 3 => simp at hd hv; subst hd; subst hv; exact .int _ _
    | k + 4 => simp at hd
  · subst he
    exact ⟨_, rfl, _, _, _, [], _, [], hW', trodAll_mk1 (shut_bool Tryz.underlying4 _), (trodAll_cons_mk (Below.trod laidOut (by kernel_rfl) (of_decide_eq_true (by kernel_rfl)) k0 bel lt0) (trodAll_cons_mk (shut_int Tryz.underlying3 w1) (trodAll_cons_mk (shut_int Tryz.underlying3 w2) (trodAll_cons_mk (shut_int Tryz.underlying3 w3) trodAll_mk0)))), rfl, bel.frame _, fun h => by cases h⟩
theorem fact1 : (Rows.designSpaceIgnoresCodingsRow.inPlace == Tryz.pinned.checked.prog.inPlace 4) = true := by kernel_rfl
theorem fact2 : (Rows.designSpaceIgnoresCodingsRow.unfollowed == Tryz.pinned.checked.prog.unfollowed 4) = true := by kernel_rfl
theorem fact3 : (Rows.designSpaceIgnoresCodingsRow.recurses == Tryz.pinned.checked.prog.recurses 4) = true := by kernel_rfl
theorem fact4 : (Rows.designSpaceIgnoresCodingsRow.named == Tryz.pinned.checked.prog.varsNamed 4) = true := by kernel_rfl
theorem closed : joinedFacts Tryz.pinned.checked.prog 4 Tryz.f4 Rows.designSpaceIgnoresCodingsSpec Rows.designSpaceIgnoresCodingsRow = true := by
  unfold joinedFacts
  rw [fact1, fact2, fact3, fact4]
  kernel_rfl
theorem over : Rows.DesignSpaceIgnoresCodingsSaid :=
  OpenClaim.holds_of_wide 4 Tryz.f4 rfl rfl rfl rfl rfl rfl rfl ⟨rfl, rfl, rfl, rfl, rfl⟩ rfl rfl rfl rfl rfl (by kernel_rfl) Tryz.func4 closed
    (of_decide_eq_true (by kernel_rfl)) (by unfold Func.isWrapper; first | (rw [if_pos (by decide +kernel)]; kernel_rfl) | (rw [if_neg (by decide +kernel)]; exact ⟨rfl, rfl⟩))
    (fun os started H enc _ => lifted os started H enc)
/-- The statement. -/
theorem proved : Rows.DesignSpaceIgnoresCodingsCardSaid :=
  Claim7.holds_tied_plain_at .later [] [.data, .data, .data] true (true, "3a35dd15498a4cc40e16452a0188175971aa32653b5d7c797f2887ffb5ff2d22") false
    over (fun _ h => by cases h) (by kernel_rfl) (fun _ h => by cases h) designSpaceIgnoresCodings_row_tie rfl ⟨rfl, rfl⟩ (by kernel_rfl) rfl
    (fun f fn hf hfn => by
      obtain rfl : f = 4 := Option.some.inj ((show Tryz.prog.funcNamed "robuststats/robuststatslaw12.DesignSpaceIgnoresCodings" = some 4 by kernel_rfl).symm.trans hf) |>.symm
      obtain rfl : fn = Tryz.f4 := (Option.some.inj (Tryz.func4.symm.trans hfn)).symm
      exact ⟨by kernel_rfl, fun j t ht => by
        rw [Tryz.params4] at ht
        have hm : t ∈ [24, 3, 3, 3] := by simpa using Array.mem_of_getElem? ht
        have hall : ([24, 3, 3, 3].all fun u => !Tryz.prog.wantsStandIn u) = true := by kernel_rfl
        exact (show Tryz.prog.wantsStandIn t = false by simpa using List.all_eq_true.1 hall t hm)⟩)
    (by kernel_rfl)
#print axioms proved
end Go.Proofs.YtlcagndeidjobaaGreatDoor.designSpaceIgnoresCodings
