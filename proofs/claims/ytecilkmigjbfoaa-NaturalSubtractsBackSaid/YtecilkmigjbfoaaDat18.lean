/- More equations that 'simp only' goes by. Over any program. -/
import Derived.Test.YtecilkmigjbfoaaDat17
set_option linter.unusedSimpArgs false
set_option linter.unusedVariables false
namespace Go.Dat
open Go

section
variable (o : Nat)
theorem purge_int (k : IntKind) (n : Int) : purge o (.int k n) = .int k n := rfl
theorem purge_bool (b : Bool) : purge o (.bool b) = .bool b := rfl
theorem purge_str (b : List UInt8) : purge o (.str b) = .str b := rfl
theorem purge_sl (s : Nat) (xs : List DV) : purge o (.sl s xs) = .sl s xs := rfl
theorem purge_el (i : Nat) (xs : List DV) : purge o (.el xs i) = .el xs i := rfl
theorem purge_nils : purge o .nils = .nils := rfl
theorem purge_nilp : purge o .nilp = .nilp := rfl
theorem purge_nili : purge o .nili = .nili := rfl
theorem purge_iface (t : Nat) (d : DV) : purge o (.iface t d) = .iface t d := rfl
theorem purge_fn (f : Nat) : purge o (.fn f) = .fn f := rfl
theorem purge_osl_eq (s off l : Nat) : purge o (.osl s o off l) = .undef := by simp [purge, DV.has]
theorem purge_osl_ne {p : Nat} (s off l : Nat) (h : p ≠ o) : purge o (.osl s p off l) = .osl s p off l := by simp [purge, DV.has, h]
theorem purge_ptr_eq (off : Nat) : purge o (.ptr o off) = .undef := by simp [purge, DV.has]
theorem purge_ptr_ne {p : Nat} (off : Nat) (h : p ≠ o) : purge o (.ptr p off) = .ptr p off := by simp [purge, DV.has, h]
theorem purge_rf {d : DV} (h : d.has o = false) : purge o d = d := by simp [purge, h]
variable (cells : List DV)
theorem frz_int (k : IntKind) (n : Int) : frz o cells (.int k n) = .int k n := rfl
theorem frz_bool (b : Bool) : frz o cells (.bool b) = .bool b := rfl
theorem frz_str (b : List UInt8) : frz o cells (.str b) = .str b := rfl
theorem frz_sl (s : Nat) (xs : List DV) : frz o cells (.sl s xs) = .sl s xs := rfl
theorem frz_el (i : Nat) (xs : List DV) : frz o cells (.el xs i) = .el xs i := rfl
theorem frz_nils : frz o cells .nils = .nils := rfl
theorem frz_nilp : frz o cells .nilp = .nilp := rfl
theorem frz_nili : frz o cells .nili = .nili := rfl
theorem frz_iface (t : Nat) (d : DV) : frz o cells (.iface t d) = .iface t d := rfl
theorem frz_tup0 : frz o cells (.tup []) = .tup [] := rfl
theorem frz_fn (f : Nat) : frz o cells (.fn f) = .fn f := rfl
theorem frz_ptr_eq (off : Nat) : frz o cells (.ptr o off) = .undef := by simp [frz, purge, DV.has]
theorem frz_ptr_ne {p : Nat} (off : Nat) (h : p ≠ o) : frz o cells (.ptr p off) = .ptr p off := by simp [frz, purge, DV.has, h]
theorem frz_osl_eq {s : Nat} (off len : Nat) (h0 : s ≠ 0) (h : off + len * s ≤ cells.length) : frz o cells (.osl s o off len) = .sl s ((cells.drop off).take (len * s)) := by simp [frz, h0, h]
theorem frz_osl_ne {p : Nat} (s off len : Nat) (h : p ≠ o) : frz o cells (.osl s p off len) = .osl s p off len := by simp [frz, h]
end

theorem cells_int (k : IntKind) (n : Int) : (DV.int k n).cells? = some [.int k n] := rfl
theorem one_int (k : IntKind) (n : Int) : (DV.int k n).one = true := rfl
theorem laid_nil (cells : List DV) : laid cells [] = some cells := rfl
theorem laid_int {cells : List DV} {off : Nat} (k : IntKind) (n : Int) (r : List (Nat × Nat × DV)) : laid cells ((off, 1, .int k n) :: r) = if off + 1 ≤ cells.length then laid (cells.set off (.int k n)) r else none := by
  simp [laid, cells_int, spl]
theorem fdiv_nat (a b : Nat) : ((a : Int)).fdiv (b : Int) = ((a / b : Nat) : Int) := by
  rw [Int.fdiv_eq_ediv_of_nonneg _ (by omega)]; rfl
theorem shr32u64 (a : Nat) : ((a : Int)).fdiv (2 ^ min (Int.toNat 32) IntKind.u64.bits) = ((a / 4294967296 : Nat) : Int) := by
  have : (2 ^ min (Int.toNat 32) IntKind.u64.bits : Int) = ((4294967296 : Nat) : Int) := by decide
  rw [this, fdiv_nat]
theorem mod_nat (a b : Nat) : ((a : Int)) % (b : Int) = ((a % b : Nat) : Int) := by omega
theorem mod32 (a : Nat) : ((a : Int)) % 4294967296 = ((a % 4294967296 : Nat) : Int) := by omega
theorem mod64 (a : Nat) : ((a : Int)) % 18446744073709551616 = ((a % 18446744073709551616 : Nat) : Int) := by omega
theorem add_nat (a b : Nat) : (a : Int) + (b : Int) = ((a + b : Nat) : Int) := by omega
theorem mul_nat (a b : Nat) : (a : Int) * (b : Int) = ((a * b : Nat) : Int) := by simp
/-- What is appended to nothing goes out as it is. -/
theorem Exp.osl1 {h : Heap} {o off len : Nat} {cells rs : List DV} (ho : h o = some cells) (hfit : off + len ≤ cells.length) (hr : (cells.drop off).take len = rs) (hrf : rs.all DV.rf = true) : Exp h (.osl 1 o off len) (.sl 1 rs) := by
  subst hr
  refine .osl ho (by decide) (by omega) (by simp; omega) fun k d r hd hr => ?_
  rw [Nat.mul_one] at hd
  rw [hd] at hr; cases hr
  exact .imm (List.all_eq_true.1 hrf d (List.mem_of_getElem? hd))
end Go.Dat
