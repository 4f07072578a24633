/- The tied card of the Go function robuststatslaw08.TableSelectsTwice: it returns true for every input and leaves its arguments as they were. Conditions: none beyond the given statement's own. -/
import Derived.Test.YtjahkcgckiobkaaGreatDoorRows
import Derived.Test.YtjahkcgckiobkaaGreatDoorCards
import Derived.Test.YtjahkcgckiobkaaGreatDoorTie
import Derived.WalkKit
import Derived.ProofKit
import Derived.LaidMore
import Derived.OpenShut
import Derived.ShutString
import Derived.ChangeOld
import Derived.Below
import Derived.SevenTiedAt
import Derived.Lib.LaidTab
import Derived.Stop.LaidErr
import Derived.Lay
import Derived.Test.YtjahkcgckiobkaaGreatDoorT3
namespace Go.Proofs.YtjahkcgckiobkaaGreatDoor.tableSelectsTwice
open Go.ChangeShapes Go.WideShapes Go.ChangeAt Go.RowKit
open Go.ChangeMaps (open_string shut_string)
theorem own : ownKnob Tryz.prog.godebug = none := by kernel_rfl
theorem laidOut : laidOutB Tryz.prog = true := by kernel_rfl
/-- A world with the listed tables laid meets the condition: closed facts. -/
theorem door_met (os : Os) (args : Array Value) : laidMetH Tryz.prog Rows.tableSelectsTwiceRow.laid ((World.laidAll Tryz.prog os Rows.tableSelectsTwiceRow.laid).forCall (fun _ _ => 0) ⟨#[], args, []⟩).memory := by
  rw [MakeChecks.laidMetH_plain _ _ _ (by kernel_rfl)]
  exact laidMet_laidAll _ (by kernel_rfl) (by kernel_rfl)
set_option maxRecDepth 100000 in
set_option maxHeartbeats 2000000 in
open Go.Dat in
theorem lifted (os : Os) (started : os.Started) (H : Type) (enc : TypeId × Value → H) :
    ReturnsInHanded {} Tryz.checked os 8 .any (fun w args => (Rows.tableSelectsTwiceSpec.pre enc Tryz.prog Tryz.f8 [] false w args ∧ laidMetH Tryz.prog Rows.tableSelectsTwiceRow.laid w) ∧ sizedMet enc Tryz.prog Tryz.f8 (OpenSpec.ofChange Rows.tableSelectsTwiceSpec) false w args)
      (Rows.tableSelectsTwiceSpec.post enc Tryz.prog Tryz.f8 false true false false) := by
  refine handed_and_shaped (C := Tryz.checked) (X := fun w _ => laidMetH Tryz.prog Rows.tableSelectsTwiceRow.laid w) (fun _ _ _ hh h => h.of_heap hh) own started (by kernel_rfl) Tryz.func8
    (ChangeSpec.witness_shaped (enc := enc) (C := Tryz.checked) (os := os) (X := fun w _ => laidMetH Tryz.prog Rows.tableSelectsTwiceRow.laid w) false (World.laidAll Tryz.prog os Rows.tableSelectsTwiceRow.laid) #[.agg #[.int .i64 0, .slice none 0 0], .slice none 0 0, .slice none 0 0] 8 (World.laidAll_os _ _ _) (World.shaped_of_ZipB (by kernel_rfl) (by kernel_rfl)) (by kernel_rfl) (by kernel_rfl) (by kernel_rfl) (door_met os _)) ?_
  intro W base args ds gs before hval0 hW hL hsh
  have hval : ∀ (j : Nat) t v, Tryz.f8.params[j]? = some t → args[j]? = some v → Value.okWide Tryz.prog W .any base t v := hval0
  have hW' := hW
  obtain ⟨p, q, hA0, hV, rfl, hfz, hnd⟩ := hW
  have hA : DataW.TrodAll enc Tryz.prog W 0 (fun _ => true) true Tryz.f8.params.toList args.toList ds p := hA0
  rw [Tryz.params8] at hA hval
  obtain ⟨v0, vs0, d0, ds0, p0, q0, hargs, rfl, rfl, h0, r0⟩ := trodAll_cons hA
  obtain ⟨v1, vs1, d1, ds1, p1, q1, rfl, rfl, rfl, h1, r1⟩ := trodAll_cons r0
  obtain ⟨v2, vs2, d2, ds2, p2, q2, rfl, rfl, rfl, h2, r2⟩ := trodAll_cons r1
  obtain ⟨rfl, rfl, rfl⟩ := trodAll_nil r2
  obtain rfl : args = #[v0, v1, v2] := by cases args; simp_all
  obtain ⟨rfl, rfl⟩ := trodVars_none hV
  have k0 := h0
  have lt0 : ∀ x ∈ p0, x.block < W.heap.size := by obtain ⟨m, hm⟩ := k0; exact DataW.trod_lt m _ _ _ hm
  obtain ⟨x0, i0, w0⟩ := Nat32.vi_D (a := (Nat32.Ty.int .i64)) (b := Nat32.Ty.pair (Nat32.Ty.sl colT) Nat32.Ty.unit) (by kernel_rfl) (hval 0 29 v0 rfl rfl) h0
  have k1 := h1
  have lt1 : ∀ x ∈ p1, x.block < W.heap.size := by obtain ⟨m, hm⟩ := k1; exact DataW.trod_lt m _ _ _ hm
  obtain ⟨x1, l1, w1⟩ := Nat32.vi_ints Tryz.underlying61 Tryz.underlying3 (by kernel_rfl) (hval 1 61 v1 rfl rfl) h1
  have k2 := h2
  have lt2 : ∀ x ∈ p2, x.block < W.heap.size := by obtain ⟨m, hm⟩ := k2; exact DataW.trod_lt m _ _ _ hm
  obtain ⟨x2, l2, w2⟩ := Nat32.vi_ints Tryz.underlying61 Tryz.underlying3 (by kernel_rfl) (hval 2 61 v2 rfl rfl) h2
  clear hA0 hval0
  obtain ⟨sn0, sk0, sr0, su0⟩ := tab_D i0
  rw [su0] at w0
  refine (law_of (ltSelects_calls sn0 sk0 x1 x2 sr0 l1 l2) (tab_shaped hsh) rfl (fun k d v hd hv => ?_)).mono fun e W' ⟨he, bel⟩ => ?_
  · match k with
    | 0 => simp at hd hv; subst hd; subst hv; exact w0
    | 1 => simp at hd hv; subst hd; subst hv; exact w1
    | 2 => simp at hd hv; subst hd; subst hv; exact w2
    | k + 3 => simp at hd
  · subst he
    exact ⟨_, rfl, _, _, _, [], _, [], hW', trodAll_mk1 (shut_bool Tryz.underlying4 _), (trodAll_cons_mk (Below.trod laidOut (by kernel_rfl) (of_decide_eq_true (by kernel_rfl)) k0 bel lt0) (trodAll_cons_mk (Below.trod laidOut (by kernel_rfl) (of_decide_eq_true (by kernel_rfl)) k1 bel lt1) (trodAll_cons_mk (Below.trod laidOut (by kernel_rfl) (of_decide_eq_true (by kernel_rfl)) k2 bel lt2) trodAll_mk0))), rfl, bel.frame _, fun h => by cases h⟩
theorem fact1 : (Rows.tableSelectsTwiceRow.inPlace == Tryz.pinned.checked.prog.inPlace 8) = true := by kernel_rfl
theorem fact2 : (Rows.tableSelectsTwiceRow.unfollowed == Tryz.pinned.checked.prog.unfollowed 8) = true := by kernel_rfl
theorem fact3 : (Rows.tableSelectsTwiceRow.recurses == Tryz.pinned.checked.prog.recurses 8) = true := by kernel_rfl
theorem fact4 : (Rows.tableSelectsTwiceRow.named == Tryz.pinned.checked.prog.varsNamed 8) = true := by kernel_rfl
theorem closed : joinedFacts Tryz.pinned.checked.prog 8 Tryz.f8 Rows.tableSelectsTwiceSpec Rows.tableSelectsTwiceRow = true := by
  unfold joinedFacts
  rw [fact1, fact2, fact3, fact4]
  kernel_rfl
theorem over : Rows.TableSelectsTwiceSaid :=
  OpenClaim.holds_of_wide 8 Tryz.f8 rfl rfl rfl rfl rfl rfl rfl ⟨rfl, rfl, rfl, rfl, rfl⟩ rfl rfl rfl rfl rfl (by kernel_rfl) Tryz.func8 closed
    (of_decide_eq_true (by kernel_rfl)) (by unfold Func.isWrapper; first | (rw [if_pos (by decide +kernel)]; kernel_rfl) | (rw [if_neg (by decide +kernel)]; exact ⟨rfl, rfl⟩))
    (fun os started H enc _ => lifted os started H enc)
/-- The statement. -/
theorem proved : Rows.TableSelectsTwiceCardSaid :=
  Claim7.holds_tied_plain_at .later [] [.data, .pinned] true (true, "10c1dade6ea465629e078621203d3d2db0dac9c77eb1f9d68c63ff641bc8ad48") false
    over (fun _ h => by cases h) (by kernel_rfl) (fun _ h => by cases h) tableSelectsTwice_row_tie rfl ⟨rfl, rfl⟩ (by kernel_rfl) rfl
    (fun f fn hf hfn => by
      obtain rfl : f = 8 := Option.some.inj ((show Tryz.prog.funcNamed "robuststats/robuststatslaw08.TableSelectsTwice" = some 8 by kernel_rfl).symm.trans hf) |>.symm
      obtain rfl : fn = Tryz.f8 := (Option.some.inj (Tryz.func8.symm.trans hfn)).symm
      exact ⟨by kernel_rfl, fun j t ht => by
        rw [Tryz.params8] at ht
        have hm : t ∈ [29, 61, 61] := by simpa using Array.mem_of_getElem? ht
        have hall : ([29, 61, 61].all fun u => !Tryz.prog.wantsStandIn u) = true := by kernel_rfl
        exact (show Tryz.prog.wantsStandIn t = false by simpa using List.all_eq_true.1 hall t hm)⟩)
    (by kernel_rfl)
#print axioms proved
end Go.Proofs.YtjahkcgckiobkaaGreatDoor.tableSelectsTwice
