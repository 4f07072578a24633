import Derived.Test.YtecilkmigjbfoaaT18
set_option linter.unusedSimpArgs false
set_option linter.unusedVariables false
namespace Go.Proofs.Ytecilkmigjbfoaa
open Go Go.Dat Go.Proofs Nat32

theorem fairB_spec {a b c : List Nat} (h : fairB a b c = true) : a.length ≤ 12 ∧ b.length ≤ 12 ∧ c.length ≤ 12 ∧ vld a = true ∧ vld b = true ∧ vld c = true := by
  simp only [fairB, Bool.and_eq_true, decide_eq_true_eq] at h
  exact ⟨h.1.1.1.1.1, h.1.1.1.1.2, h.1.1.1.2, h.1.1.2, h.1.2, h.2⟩
theorem vld_eq {a : List Nat} (la : lim a) (h : vld a = true) : limbs (vn a) = a := by
  rw [vn, val, h, if_pos rfl, limbs_nv la h]
theorem cmp_geq (x y : Nat) : decide (0 ≤ cmpN x y) = decide (y ≤ x) := by
  rw [decide_eq_decide]; unfold cmpN; split
  · omega
  · split <;> omega
theorem cmp_neg (x y : Nat) : IntKind.i64.wrap (0 - cmpN y x) = cmpN x y := by
  unfold cmpN; by_cases h : x < y <;> by_cases h2 : y < x <;> simp [h, h2] <;> first | omega | rfl | decide
theorem cmp_add (x y z : Nat) : cmpN (x + z) (y + z) = cmpN x y := by
  unfold cmpN; simp
end Go.Proofs.Ytecilkmigjbfoaa
